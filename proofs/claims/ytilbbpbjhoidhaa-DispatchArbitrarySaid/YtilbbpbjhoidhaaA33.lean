/- Contracts of slices.SortFunc over uses of chapter 37 (12 of them or fewer). Conditions: as each theorem says. The graph of chapter 37 while it is made: lemmas. Conditions: as each theorem says. -/
import Derived.Test.YtilbbpbjhoidhaaA30
import Derived.Test.YtilbbpbjhoidhaaA32
import Derived.Test.YtilbbpbjhoidhaaA28
namespace Go.Proofs.Ytilbbpbjhoidhaa
open Go.RowKit

/-- the cells of a use, its events by f -/
def u4 (f : Ref → Int × Int) (u : Ref) : List Value := [.int .i64 u.tr, .int .i64 u.st, .int .i64 (f u).1, .int .i64 (f u).2]
/-- the cells of a row of uses from place o on -/
def UfC (f : Ref → Int × Int) (cs : Array Value) (o : Nat) (m : List Ref) : Prop := ∀ (k : Nat) u, m[k]? = some u → cs[o + k * 4]? = some (.int .i64 u.tr) ∧ cs[o + k * 4 + 1]? = some (.int .i64 u.st) ∧ cs[o + k * 4 + 2]? = some (.int .i64 (f u).1) ∧ cs[o + k * 4 + 3]? = some (.int .i64 (f u).2)
def putC (f : Ref → Int × Int) (cs : Array Value) (a : Nat) (u : Ref) : Array Value := (((cs.setIfInBounds a (.int .i64 u.tr)).setIfInBounds (a + 1) (.int .i64 u.st)).setIfInBounds (a + 2) (.int .i64 (f u).1)).setIfInBounds (a + 3) (.int .i64 (f u).2)
theorem putC_size (f : Ref → Int × Int) (cs : Array Value) (a : Nat) (u : Ref) : (putC f cs a u).size = cs.size := by simp [putC]
theorem putC_far (f : Ref → Int × Int) (cs : Array Value) {a b : Nat} (u : Ref) (h : b < a ∨ a + 3 < b) : (putC f cs a u)[b]? = cs[b]? := by
 unfold putC
 rw [Array.getElem?_setIfInBounds_ne (by omega), Array.getElem?_setIfInBounds_ne (by omega), Array.getElem?_setIfInBounds_ne (by omega), Array.getElem?_setIfInBounds_ne (by omega)]
theorem putC_at (f : Ref → Int × Int) (cs : Array Value) {a : Nat} (u : Ref) (h : a + 3 < cs.size) : (putC f cs a u)[a]? = some (.int .i64 u.tr) ∧ (putC f cs a u)[a + 1]? = some (.int .i64 u.st) ∧ (putC f cs a u)[a + 2]? = some (.int .i64 (f u).1) ∧ (putC f cs a u)[a + 3]? = some (.int .i64 (f u).2) := by
 unfold putC
 refine ⟨?_, ?_, ?_, ?_⟩
 ·rw [Array.getElem?_setIfInBounds_ne (by omega), Array.getElem?_setIfInBounds_ne (by omega), Array.getElem?_setIfInBounds_ne (by omega), Array.getElem?_setIfInBounds_self_of_lt (by omega)]
 ·rw [Array.getElem?_setIfInBounds_ne (by omega), Array.getElem?_setIfInBounds_ne (by omega), Array.getElem?_setIfInBounds_self_of_lt (by simp; omega)]
 ·rw [Array.getElem?_setIfInBounds_ne (by omega), Array.getElem?_setIfInBounds_self_of_lt (by simp; omega)]
 ·rw [Array.getElem?_setIfInBounds_self_of_lt (by simp; omega)]
def putW (f : Ref → Int × Int) (w : World) (g a : Nat) (u : Ref) : World := (((w.setCell ⟨g, a, none⟩ (.int .i64 u.tr)).setCell ⟨g, a + 1, none⟩ (.int .i64 u.st)).setCell ⟨g, a + 2, none⟩ (.int .i64 (f u).1)).setCell ⟨g, a + 3, none⟩ (.int .i64 (f u).2)
theorem putW_blk {f : Ref → Int × Int} {w : World} {g t a : Nat} {cs : Array Value} (h : Blk w g t cs) (u : Ref) : Blk (putW f w g a u) g t (putC f cs a u) := (((h.set_ _ _).set_ _ _).set_ _ _).set_ _ _
theorem putW_keeps {f : Ref → Int × Int} {w w' : World} {g a : Nat} (h : Keeps (fun b => b = g) w w') (u : Ref) : Keeps (fun b => b = g) w (putW f w' g a u) := (((h.setCell (p := ⟨g, a, none⟩) (fun _ => rfl) _).setCell (p := ⟨g, a + 1, none⟩) (fun _ => rfl) _).setCell (p := ⟨g, a + 2, none⟩) (fun _ => rfl) _).setCell (p := ⟨g, a + 3, none⟩) (fun _ => rfl) _
theorem UfC.size {f : Ref → Int × Int} {cs : Array Value} {o k : Nat} {m : List Ref} {u : Ref} (h : UfC f cs o m) (hk : m[k]? = some u) : o + k * 4 + 3 < cs.size := (Array.getElem?_eq_some_iff.1 (h k u hk).2.2.2).1
theorem UfC.swap {f : Ref → Int × Int} {cs : Array Value} {o : Nat} {m : List Ref} {j : Nat} {x y : Ref} (h : UfC f cs o m) (hx : m[j + 1]? = some x) (hy : m[j]? = some y) : UfC f (putC f (putC f cs (o + (j + 1) * 4) y) (o + j * 4) x) o ((m.set (j + 1) y).set j x) := by
 have hs1 := h.size hx
 have hs0 := h.size hy
 intro k u hk
 rw [List.getElem?_set] at hk
 by_cases e1 : j = k
 ·subst e1
  rw [if_pos rfl] at hk
  split at hk
  ·injection hk with hk
   subst hk
   exact putC_at f _ x (by rw [putC_size]; omega)
  ·cases hk
 ·rw [if_neg e1, List.getElem?_set] at hk
  by_cases e2 : j + 1 = k
  ·subst e2
   rw [if_pos rfl] at hk
   split at hk
   ·injection hk with hk
    subst hk
    have h1 := putC_at f cs (a := o + (j + 1) * 4) y (by omega)
    rw [putC_far f _ x (by omega), putC_far f _ x (by omega), putC_far f _ x (by omega), putC_far f _ x (by omega)]
    exact h1
   ·cases hk
  ·rw [if_neg e2] at hk
   have h1 := h k u hk
   have hc : k < j ∨ j + 1 < k := by omega
   rw [putC_far f _ x (by omega), putC_far f _ x (by omega), putC_far f _ x (by omega), putC_far f _ x (by omega), putC_far f _ y (by omega), putC_far f _ y (by omega), putC_far f _ y (by omega), putC_far f _ y (by omega)]
   exact h1

set_option maxRecDepth 100000 in
set_option maxHeartbeats 4000000 in
theorem InsU_any (f : Ref → Int × Int) (F cb : Nat) (cm : Ref → Ref → Int) (g o : Nat) (l : List Ref) (c : Nat) (cs : Array Value) (w : World) (hl : l.length ≤ 12) (hlc : l.length ≤ c) (hc2 : c ≤ 9223372036854775807) (hb : Blk w g 133 cs) (hcl : UfC f cs o l)
  (hE : Enters F) (hF : ∀ W, Keeps (fun b => b = g) w W → ∀ u ∈ l, ∀ v ∈ l, Calls Try.prog F #[.agg (u4 f u).toArray, .agg (u4 f v).toArray, .pointer (some ⟨cb, 0, none⟩)] W fun e w' => e = .returned (.int .i64 (cm u v)) ∧ KeepsAll W w') :
  Calls Try.prog 99 #[.slice (some ⟨g, o, none⟩) l.length c, .int .i64 0, .int .i64 (l.length : Int), .func (.func F) #[] #[.pointer (some ⟨cb, 0, none⟩)]] w fun e w' => e = .returned (.tuple #[]) ∧ (∃ cs', Blk w' g 133 cs' ∧ UfC f cs' o (sortB (fun u v => decide (cm u v < 0)) l)) ∧ Keeps (fun b => b = g) w w' := by
 have hcf : ∀ (args : Array Value) (w : World), (callFunc F args).run Try.prog w = .ok (.enter F args) w := hE
 clear hE
 have HF := Lib.hid hF; clear hF
 have HCL := Lib.hid (And.intro hb hcl); clear hcl
 have hgz := hb.lt
 clear hb
 generalize hLT : (fun u v : Ref => decide (cm u v < 0)) = lt at *
 have HLT : Hid (∀ u v, lt u v = decide (cm u v < 0)) := fun u v => by rw [← hLT]
 have H1 : Hid (sortB lt (l.take 1) ++ l.drop 1 = l) := by
  show _ = _
  cases l with
  | nil => rfl
  | cons a r => simp [sortB, plU, plK]
 go_enter Try.func99, Try.ntmps99
 go_wp2
 go_loopw [8] (fun v wr => ∃ (i : Nat) (cs : Array Value), 1 ≤ i ∧ (i ≤ l.length ∨ i = 1) ∧ v = .int .i64 (i : Int) ∧ Blk wr g 133 cs ∧ UfC f cs o (sortB lt (l.take i) ++ l.drop i) ∧ Keeps (fun b => b = g) w wr) (fun v _ => l.length - (intOf v).toNat)
 case atStart => exact ⟨1, cs, Nat.le_refl _, .inr rfl, by go_num, HCL.out.1, by rw [H1.out]; exact HCL.out.2, Keeps.refl _ _⟩
 case round =>
  obtain ⟨i, cs, hi1, hi2, rfl, hbl, hrf, hkr⟩ := hrel
  have HRF := Lib.hid hrf; have HBL := Lib.hid hbl; have KR := Lib.hid hkr
  clear hrf hbl hkr
  by_cases hlt : i < l.length
  ·have hx : l[i]? = some l[i] := List.getElem?_eq_getElem hlt
   have HXM : Hid (l[i] ∈ l) := List.getElem_mem _
   have HPL : Hid ((sortB lt (l.take i)).length = i) := by show _ = _; rw [sortB_len]; simp; omega
   have HPM : Hid (∀ v ∈ sortB lt (l.take i), v ∈ l) := fun v hv => List.mem_of_mem_take (sortB_mem v hv)
   have HM0 : Hid (sortB lt (l.take i) ++ l.drop i = mkL (sortB lt (l.take i)) l[i] (l.drop (i + 1)) i) := by
    show _ = _
    have e1 : (sortB lt (l.take i)).take i = sortB lt (l.take i) := List.take_of_length_le (by rw [HPL.out]; exact Nat.le_refl _)
    have e2 : (sortB lt (l.take i)).drop i = [] := List.drop_of_length_le (by rw [HPL.out]; exact Nat.le_refl _)
    unfold mkL
    rw [e1, e2, List.nil_append, drop_cons' hx]
   have HNX : Hid (sortB lt (l.take (i + 1)) = plU lt l[i] (sortB lt (l.take i))) := by
    show _ = _
    rw [List.take_add_one, hx, Option.toList_some, sortB_snoc]
   clear hx
   generalize l[i] = x at *
   generalize sortB lt (l.take i) = P at *
   generalize hRR : l.drop (i + 1) = R at *
   have HRR := Lib.hid hRR; clear hRR
   rw [HM0.out] at HRF
   have hdi : decide ((i : Int) < (l.length : Int)) = true := by simp; omega
   go_wp2
   go_loopw [9] (fun v wr => ∃ (j : Nat) (cs : Array Value), j ≤ i ∧ v = .int .i64 (j : Int) ∧ Blk wr g 133 cs ∧ UfC f cs o (mkL P x R j) ∧ Keeps (fun b => b = g) w wr ∧ plK lt x P i = plK lt x P j) (fun v _ => (intOf v).toNat)
   case atStart => exact ⟨i, cs, Nat.le_refl _, rfl, HBL.out, HRF.out, KR.out, rfl⟩
   case round =>
    clear HRF HBL KR
    obtain ⟨j, cs, hj, rfl, hbl, hrf, hkr, hpk⟩ := hrel
    have HRF := Lib.hid hrf; have HBL := Lib.hid hbl; have KR := Lib.hid hkr; have HPK := Lib.hid hpk
    clear hrf hkr hpk
    cases j with
    | zero =>
     have Q : Hid (sortB lt (l.take (i + 1)) ++ l.drop (i + 1) = mkL P x R 0) := by show _ = _; rw [HNX.out, HRR.out]; exact plU_mkL HPL.out HPK.out
     clear hbl
     rw [show ((0 : Nat) : Int) = 0 from rfl]
     go_wp2_with fail
     go_quiet (fail)
     go_wp2
     go_roundw
     case rel => exact ⟨i + 1, cs, by omega, by omega, by go_num, HBL.out.kept ((Keeps.refl (fun _ => False) _).drewN _) (by simp), by rw [Q.out]; exact HRF.out, KR.out.drewN _⟩
     case measure => simp [intOf]; omega
    | succ j =>
     have hyP : P[j]? = some (P[j]'(by rw [HPL.out]; omega)) := List.getElem?_eq_getElem _
     have HYM := Lib.hid (HPM.out _ (List.mem_of_getElem? hyP))
     generalize P[j]'(by rw [HPL.out]; omega) = y at *
     have hxj : (mkL P x R (j + 1))[j + 1]? = some x := mkL_at (by rw [HPL.out]; omega)
     have hyj := mkL_pred (x := x) (R := R) hyP
     obtain ⟨cx0, cx1, cx2, cx3⟩ := HRF.out (j + 1) x hxj
     obtain ⟨cy0, cy1, cy2, cy3⟩ := HRF.out j y hyj
     rw [← hbl.cell] at cx0 cx1 cx2 cx3 cy0 cy1 cy2 cy3
     have HSW := Lib.hid (mkL_swap (x := x) (R := R) hyP)
     have HPD := Lib.hid (fun h => plK_done (lt := lt) (x := x) hyP h)
     have HPMo := Lib.hid (fun h => plK_more (lt := lt) (x := x) hyP h)
     have HCF : Hid (∀ xx : Ext wr, Calls Try.prog F #[.agg #[.int .i64 x.tr, .int .i64 x.st, .int .i64 (f x).1, .int .i64 (f x).2], .agg #[.int .i64 y.tr, .int .i64 y.st, .int .i64 (f y).1, .int .i64 (f y).2], .pointer (some ⟨cb, 0, none⟩)] xx.val fun e w'' => e = .returned (.int .i64 (cm x y)) ∧ ∃ z : Ext wr, w'' = z.val) := fun xx => ext_call xx (HF.out xx.val (KR.out.trans xx.keeps (fun _ _ h => h.elim)) x HXM.out y HYM.out)
     have HXJ := Lib.hid hxj
     have HYJ := Lib.hid hyj
     have HLXY := Lib.hid (HLT.out x y)
     clear hyP hxj hyj
     have hjl : j < l.length := by omega
     have hjl1 : j + 1 < l.length := by omega
     have hgr : g < wr.heap.size := hbl.lt
     clear hbl
     go_wp2_with fail
     refine wp_region_ext (by kernel_rfl) (by kernel_rfl) ?_
     have y0 := Ext.cell cx0
     have y1 := Ext.cell cx1
     have y2 := Ext.cell cx2
     have y3 := Ext.cell cx3
     have y4 := Ext.cell cy0
     have y5 := Ext.cell cy1
     have y6 := Ext.cell cy2
     have y7 := Ext.cell cy3
     repeat (go_big_quiet_step ((exact HCF.out _)))
     refine wpQuiet_nil ?_
     rintro _ ⟨X, rfl⟩
     have KX := Lib.hid (KR.out.trans X.keeps (fun _ _ h => h.elim))
     have HBX := Lib.hid (HBL.out.kept X.keeps (by simp))
     clear y0 y1 y2 y3 y4 y5 y6 y7 cx0 cx1 cx2 cx3 cy0 cy1 cy2 cy3 HCF HBL KR hgr
     generalize X.val = WX at *
     by_cases hlx : cm x y < 0
     ·have hltx : lt x y = true := by rw [HLXY.out]; simpa using hlx
      have HPK2 : Hid (plK lt x P i = plK lt x P j) := by show _ = _; rw [HPK.out, HPMo.out hltx]
      have HRN : Hid (UfC f (putC f (putC f cs (o + (j + 1) * 4) y) (o + j * 4) x) o (mkL P x R j)) := by
       have q := UfC.swap HRF.out HXJ.out HYJ.out
       rw [HSW.out] at q
       exact q
      obtain ⟨cx0, cx1, cx2, cx3⟩ := HRF.out (j + 1) x HXJ.out
      obtain ⟨cy0, cy1, cy2, cy3⟩ := HRF.out j y HYJ.out
      have HCY := Lib.hid (And.intro cy0 (And.intro cy1 (And.intro cy2 cy3)))
      rw [← HBX.out.cell] at cx0 cx1 cx2 cx3 cy0 cy1 cy2 cy3
      have hgx := HBX.out.lt
      have hw1 : IntKind.i64.wrap ((j : Int) + 1 - 1) = (j : Int) := by rw [IntWalk.i64_in _ (by omega)]; omega
      clear hltx
      go_wp2_with fail
      refine wp_region_lex3 [9, 13] (fun w' => ∃ x : Ext WX, w' = x.val) (fun w' => ∃ x : ExtC (fun b => b = g) WX, w' = x.val) [0, 1, 2, 3, 4, 5, 6, 7, 8, 9, 10, 11, 12, 13, 14, 15, 16, 17] (by kernel_rfl) (by kernel_rfl) ⟨⟨_, (Keeps.refl _ _).drew⟩, rfl⟩ (ExtC.start _ _) ?_
      have y0 := Ext.cell cx0
      have y1 := Ext.cell cx1
      have y2 := Ext.cell cx2
      have y3 := Ext.cell cx3
      have y4 := Ext.cell cy0
      have y5 := Ext.cell cy1
      have y6 := Ext.cell cy2
      have y7 := Ext.cell cy3
      iterate 15 ((first | refine lex3_q1 _ rfl rfl rfl rfl ?_ | refine lex3_q2 _ rfl rfl rfl rfl ?_); go_big_quiet_step (fail); refine wpQuiet_nil ?_)
      have HB0 := Lib.hid (HBX.out.kept ((Keeps.refl (fun _ => False) _).drew) (by simp))
      have K0 : Hid (Keeps (fun b => b = g) WX WX.drew) := Lib.hid (Keeps.refl _ _).drew
      have KX0 := Lib.hid KX.out.drew
      clear y0 y1 y2 y3 y4 y5 y6 y7 cx0 cx1 cx2 cx3 cy0 cy1 cy2 cy3 hw1
      obtain ⟨cx0, cx1, cx2, cx3⟩ := HRF.out (j + 1) x HXJ.out
      rw [← HB0.out.cell] at cx0 cx1 cx2 cx3
      have z0 := HB0.out.frozen (o + (j + 1) * 4)
      have z1 := HB0.out.frozen (o + (j + 1) * 4 + 1)
      have z2 := HB0.out.frozen (o + (j + 1) * 4 + 2)
      have z3 := HB0.out.frozen (o + (j + 1) * 4 + 3)
      generalize hWY : WX.drew = WY at *
      clear hWY
      refine lex3_a _ rfl rfl false true (by kernel_rfl) (by kernel_rfl) ?_
      go_wp2
      have hB1 := putW_blk (f := f) (a := o + (j + 1) * 4) HB0.out y
      have hK1 := putW_keeps (f := f) (a := o + (j + 1) * 4) K0.out y
      have hKX1 := putW_keeps (f := f) (a := o + (j + 1) * 4) KX0.out y
      unfold putW at hB1 hK1 hKX1
      refine ⟨fun h => (by cases h), fun _ => ⟨⟨_, hK1⟩, rfl⟩, ?_⟩
      have d0 : (putC f cs (o + (j + 1) * 4) y)[o + j * 4]? = some (.int .i64 y.tr) := (putC_far f _ y (by omega)).trans HCY.out.1
      have d1 : (putC f cs (o + (j + 1) * 4) y)[o + j * 4 + 1]? = some (.int .i64 y.st) := (putC_far f _ y (by omega)).trans HCY.out.2.1
      have d2 : (putC f cs (o + (j + 1) * 4) y)[o + j * 4 + 2]? = some (.int .i64 (f y).1) := (putC_far f _ y (by omega)).trans HCY.out.2.2.1
      have d3 : (putC f cs (o + (j + 1) * 4) y)[o + j * 4 + 3]? = some (.int .i64 (f y).2) := (putC_far f _ y (by omega)).trans HCY.out.2.2.2
      refine lex3_q2 _ rfl rfl rfl rfl ?_; go_big_quiet_step (fail); refine wpQuiet_nil ?_
      refine lex3_a _ rfl rfl false false (by kernel_rfl) (by kernel_rfl) ?_
      clear cx0 cx1 cx2 cx3 z0 z1 z2 z3 hK1
      generalize hW1 : World.setCell _ _ _ = W1
      rw [hW1] at hB1 hKX1
      rw [← hB1.cell] at d0 d1 d2 d3
      have z4 := hB1.frozen (o + j * 4)
      have z5 := hB1.frozen (o + j * 4 + 1)
      have z6 := hB1.frozen (o + j * 4 + 2)
      have z7 := hB1.frozen (o + j * 4 + 3)
      have hB2 := putW_blk (f := f) (a := o + j * 4) hB1 x
      have hKX2 := putW_keeps (f := f) (a := o + j * 4) hKX1 x
      unfold putW at hB2 hKX2
      have HB2 := Lib.hid hB2
      have HK2 := Lib.hid hKX2
      clear hW1 hB1 hKX1 hB2 hKX2
      go_wp2
      (try refine ⟨fun h => (by cases h), fun h => (by cases h), ?_⟩)
      simp only [wpLexI]
      refine NoPanic.normal ?_
      generalize hW2 : World.setCell _ _ _ = W2
      rw [hW2] at HB2 HK2
      clear hW2 d0 d1 d2 d3 z4 z5 z6 z7
      go_wp2
      go_roundw
      case rel => exact ⟨j, _, by omega, by first | rfl | go_num, HB2.out, HRN.out, HK2.out, HPK2.out⟩
      case measure => simp [intOf]
     ·have hltx : lt x y = false := by rw [HLXY.out]; simpa using hlx
      have Q : Hid (sortB lt (l.take (i + 1)) ++ l.drop (i + 1) = mkL P x R (j + 1)) := by show _ = _; rw [HNX.out, HRR.out]; exact plU_mkL HPL.out (HPK.out.trans (HPD.out hltx))
      clear hltx
      go_wp2
      go_roundw
      case rel => exact ⟨i + 1, cs, by omega, by omega, by go_num, HBX.out, by rw [Q.out]; exact HRF.out, KX.out⟩
      case measure => simp [intOf]; omega
  ·have HFIN : Hid (sortB lt (l.take i) ++ l.drop i = sortB lt l) := by
    show _ = _
    rw [List.take_of_length_le (by omega), List.drop_of_length_le (by omega), List.append_nil]
   have hdi : decide ((i : Int) < (l.length : Int)) = false := by simp; omega
   rw [HFIN.out] at HRF
   go_wp2
   refine bodyPost_end (results_none rfl _ _ _) rfl ?_
   exact ⟨rfl, ⟨cs, HBL.out, HRF.out⟩, KR.out⟩

theorem PdqU_any (lim : Int) (f : Ref → Int × Int) (F cb : Nat) (cm : Ref → Ref → Int) (g o : Nat) (l : List Ref) (c : Nat) (cs : Array Value) (w : World) (hl : l.length ≤ 12) (hlc : l.length ≤ c) (hc2 : c ≤ 9223372036854775807) (hb : Blk w g 133 cs) (hcl : UfC f cs o l)
  (hE : Enters F) (hF : ∀ W, Keeps (fun b => b = g) w W → ∀ u ∈ l, ∀ v ∈ l, Calls Try.prog F #[.agg (u4 f u).toArray, .agg (u4 f v).toArray, .pointer (some ⟨cb, 0, none⟩)] W fun e w' => e = .returned (.int .i64 (cm u v)) ∧ KeepsAll W w') :
  Calls Try.prog 94 #[.slice (some ⟨g, o, none⟩) l.length c, .int .i64 0, .int .i64 (l.length : Int), .int .i64 lim, .func (.func F) #[] #[.pointer (some ⟨cb, 0, none⟩)]] w fun e w' => e = .returned (.tuple #[]) ∧ (∃ cs', Blk w' g 133 cs' ∧ UfC f cs' o (sortB (fun u v => decide (cm u v < 0)) l)) ∧ Keeps (fun b => b = g) w w' := by
 have HI := Lib.hid (InsU_any f F cb cm g o l c cs w hl hlc hc2 hb hcl hE hF)
 clear hcl hb hE hF
 go_enter Try.func94, Try.ntmps94
 go_wp2
 go_loopw [1, 2] (fun va vb wr => va = .int .i64 0 ∧ vb = .int .i64 (l.length : Int) ∧ w = wr) (fun _ _ _ => 0)
 case atStart => exact ⟨rfl, rfl, rfl⟩
 case round =>
  obtain ⟨rfl, rfl, rfl⟩ := hrel
  have hle : l.length ≤ 12 := hl
  go_wp2_with fail
  refine HI.out.mono ?_
  rintro e w1 ⟨rfl, h1, h2⟩
  have H1 := Lib.hid h1; have H2 := Lib.hid h2
  clear h1 h2 HI
  go_wp2
  first | refine bodyPost_ret (results_none rfl _ _ _) rfl ?_ | refine bodyPost_end (results_none rfl _ _ _) rfl ?_
  exact ⟨rfl, H1.out, H2.out⟩
set_option maxHeartbeats 1000000 in
theorem SortU_any (f : Ref → Int × Int) (F cb : Nat) (cm : Ref → Ref → Int) (g o : Nat) (l : List Ref) (c : Nat) (cs : Array Value) (w : World) (hl : l.length ≤ 12) (hlc : l.length ≤ c) (hc2 : c ≤ 9223372036854775807) (hb : Blk w g 133 cs) (hcl : UfC f cs o l)
  (hE : Enters F) (hF : ∀ W, Keeps (fun b => b = g) w W → ∀ u ∈ l, ∀ v ∈ l, Calls Try.prog F #[.agg (u4 f u).toArray, .agg (u4 f v).toArray, .pointer (some ⟨cb, 0, none⟩)] W fun e w' => e = .returned (.int .i64 (cm u v)) ∧ KeepsAll W w') :
  Calls Try.prog 87 #[.slice (some ⟨g, o, none⟩) l.length c, .func (.func F) #[] #[.pointer (some ⟨cb, 0, none⟩)]] w fun e w' => e = .returned (.tuple #[]) ∧ (∃ cs', Blk w' g 133 cs' ∧ UfC f cs' o (sortB (fun u v => decide (cm u v < 0)) l)) ∧ Keeps (fun b => b = g) w w' := by
 have HP := Lib.hid (fun lim => PdqU_any lim f F cb cm g o l c cs w hl hlc hc2 hb hcl hE hF)
 have HL := Lib.hid (Len_any l.length hl w)
 clear hcl hb hE hF
 have hw := wrapU l.length (by omega)
 go_enter Try.func87, Try.ntmps87
 go_wp2_with fail
 refine HL.out.mono ?_
 rintro e w1 ⟨m, rfl, rfl⟩
 go_wp2_with fail
 refine (HP.out m).mono ?_
 rintro e w1 ⟨rfl, h1, h2⟩
 have H1 := Lib.hid h1; have H2 := Lib.hid h2
 clear h1 h2 HP HL
 go_wp2
 refine bodyPost_end (results_none rfl _ _ _) rfl ?_
 exact ⟨rfl, H1.out, H2.out⟩

theorem labZ_cells : (Value.agg #[.int .i64 0, .int .i8 0, .int .i8 0, .int .i8 0, .int .i8 0, .int .i8 0, .int .i8 0, .int .i8 0, .int .i8 0, .int .i8 0, .int .i8 0]).cells = labC labZ := rfl
theorem labsC_zero (E : List Ref) : madeCells (labC labZ) (E.length * 11) = labsC E (fun _ => labZ) := by
 apply Array.ext
 ·rw [size_madeCells, labsC_size]
 ·intro k hk hk2
  rw [size_madeCells] at hk
  have hq : k / 11 < E.length := (Nat.div_lt_iff_lt_mul (by omega)).2 hk
  have hr : k % 11 < 11 := Nat.mod_lt _ (by omega)
  have e1 := labsC_at (fun _ : Ref => labZ) (List.getElem?_eq_getElem hq) hr
  have hkk : k / 11 * 11 + k % 11 = k := by omega
  rw [hkk, Array.getElem?_eq_getElem hk2] at e1
  have e2 : (labC labZ)[k % 11]? = some ((labC labZ)[k % 11]'(by rw [labC_size]; exact hr)) := Array.getElem?_eq_getElem _
  rw [e2] at e1
  injection e1 with e1
  rw [e1]
  unfold madeCells
  simp only [Array.getElem_map, Array.getElem_range, labC_size]
  rw [getElem!_pos (labC labZ) (k % 11) (by rw [labC_size]; exact hr)]
theorem mkLabs (E : List Ref) (n : Nat) (hE : E.length = n) (hn : n ≤ 1000000) (W : World) : (Instr.makeSlice 122 (.int .i64 (n : Int)) (.int .i64 (n : Int))).run Try.prog W = .ok (.slice (some ⟨W.heap.size, 0, none⟩) n n) (W.alloc (.cells (labsC E (fun _ => labZ)) 130)) := by
 have hk : (Try.prog.info? 130).map (fun i => (i.zero, i.size, i.bytes)) = some (some (.agg #[.int .i64 0, .int .i8 0, .int .i8 0, .int .i8 0, .int .i8 0, .int .i8 0, .int .i8 0, .int .i8 0, .int .i8 0, .int .i8 0, .int .i8 0]), 11, 24) := by kernel_rfl
 obtain ⟨i, h1, h2, h3, h4⟩ := info_parts hk
 have h := run_make (P := Try.prog) W 122 130 i _ Try.underlying122 h1 h2 .i64 .i64 (n : Int) (n : Int) (by omega) (by omega) (by rw [h4]; omega) (by omega)
 rw [Int.toNat_natCast, h3, labZ_cells] at h
 rw [h, ← hE, labsC_zero]
theorem mkBoolsG (n : Nat) (hn : n ≤ 1000000) (W : World) : (Instr.makeSlice 88 (.int .i64 (n : Int)) (.int .i64 (n : Int))).run Try.prog W = .ok (.slice (some ⟨W.heap.size, 0, none⟩) n n) (W.alloc (.cells (boolsC (List.replicate n false)) 4)) := by
 have h := run_make_row' (P := Try.prog) 88 4 (.bool false) 1 Try.underlying88 (by kernel_rfl) rfl .i64 .i64 n (by omega) (by omega) W
 rw [madeCells_one] at h
 rw [h]; simp [boolsC]
theorem labsC_one {E : List Ref} (hn : E.Nodup) (T : LTab) {i j : Nat} {u : Ref} (h : E[i]? = some u) (hj : j < 11) (l : Lab) (x : Value) (hx : (labC (T u)).setIfInBounds j x = labC l) : (labsC E T).setIfInBounds (i * 11 + j) x = labsC E (updL T u l) := by
 have hil : i < E.length := getElem?_lt h
 apply Array.ext
 ·rw [Array.size_setIfInBounds, labsC_size, labsC_size]
 ·intro k hk hk2
  rw [Array.size_setIfInBounds, labsC_size] at hk
  have e : ((labsC E T).setIfInBounds (i * 11 + j) x)[k]? = (labsC E (updL T u l))[k]? := by
   rw [Array.getElem?_setIfInBounds]
   have hq : k / 11 < E.length := (Nat.div_lt_iff_lt_mul (by omega)).2 hk
   have hkk : k = k / 11 * 11 + k % 11 := by omega
   have hr : k % 11 < 11 := Nat.mod_lt _ (by omega)
   have hE : E[k / 11]? = some E[k / 11] := List.getElem?_eq_getElem hq
   rw [labsC_size]
   generalize k / 11 = q at *
   generalize k % 11 = r at *
   subst hkk
   rw [labsC_at _ hE hr, labsC_at _ hE hr]
   by_cases g : q = i
   ·subst g
    rw [h] at hE
    injection hE with hE
    rw [← hE, updL_at, ← hx, Array.getElem?_setIfInBounds, labC_size]
    by_cases g2 : j = r
    ·subst g2; rw [if_pos rfl, if_pos (by omega), if_pos rfl, if_pos hj]
    ·rw [if_neg (by omega), if_neg g2]
   ·have hne : E[q] ≠ u := fun e => by
     rw [e] at hE
     exact g (nd_at hn hE h)
    rw [updL_ne _ _ hne, if_neg (by omega)]
  rw [Array.getElem?_eq_getElem (by rw [Array.size_setIfInBounds, labsC_size]; exact hk), Array.getElem?_eq_getElem hk2] at e
  injection e
section
variable {s : GS} {w0 wr w' : World} {d : GD}
/-- one cell of a label is stored -/
theorem Gm.setCell1 (h : Gm s w0 wr d) {i j : Nat} {u : Ref} (hu : (evs s.ps)[i]? = some u) (hj : j < 11) (l : Lab) (x : Value) (hx : (labC (d.T u)).setIfInBounds j x = labC l) : Gm s w0 (wr.setCell ⟨s.lb, i * 11 + j, none⟩ x) { d with T := updL d.T u l } := by
 obtain ⟨n1, n2, n3, n4, n5, n6⟩ := h.nes
 have hlo := h.lo
 have hhi := h.hi
 have hw0 := h.k.size
 have hk : Keeps (fun b => b = s.lb) wr (wr.setCell ⟨s.lb, i * 11 + j, none⟩ x) := (Keeps.refl (fun b => b = s.lb) wr).setCell (p := ⟨s.lb, i * 11 + j, none⟩) (fun _ => rfl) _
 refine ⟨h.b.kept hk n1, hk.rd RPaths.ok h.P (fun b hb => ⟨Nat.lt_of_lt_of_le hb hw0, fun e => by have hb : b < w0.heap.size := hb; have e : b = s.lb := e; omega⟩) (fun _ h => h), hk.rd RInts.ok h.A (fun b hb => ⟨Nat.lt_of_lt_of_le hb hw0, fun e => by have hb : b < w0.heap.size := hb; have e : b = s.lb := e; omega⟩) (fun _ h => h), h.f.keepsF RInt.flat hk (fun b hb e => by have e : b = s.lb := e; subst e; exact h.f.ne_blk h.l (by decide) hb), h.fl, h.e.keepsF RRef.flat hk (fun b hb e => by have e : b = s.lb := e; subst e; exact h.e.ne_blk h.l (by decide) hb), h.el, ?_, h.nr.keeps RInt.flat hk (fun e => n4 e.symm) (fun b hb _ e => by have e : b = s.lb := e; omega), h.nl, h.lg.keepsF RChg.flat hk (fun b hb e => by have := h.lg.lt hb; have e : b = s.lb := e; omega), h.q.keepsF RInt.flat hk (fun b hb e => by have := h.q.lt hb; have e : b = s.lb := e; omega), h.qd.kept hk (fun e => n5 e.symm), h.ql, h.ne, hlo, hhi, Nat.le_trans h.bsz hk.size, h.k.trans hk (fun b hb e => by have e : b = s.lb := e; omega), (h.zk hk fun _ _ e => .inr (.inl e)).1, (h.zk hk fun _ _ e => .inr (.inl e)).2, h.zn⟩
 have := h.l.set_ (i * 11 + j) x
 rw [labsC_one (evs_nd s.ps) d.T hu hj l x hx] at this
 exact this
theorem Gm.stSec (h : Gm s w0 wr d) {i : Nat} {u : Ref} (hu : (evs s.ps)[i]? = some u) (x : Int) : Gm s w0 (wr.setCell ⟨s.lb, i * 11, none⟩ (.int .i64 x)) { d with T := updL d.T u (setSec (d.T u) x) } :=
 h.setCell1 (j := 0) hu (by omega) (setSec (d.T u) x) (.int .i64 x) (labC_setS _ _)
theorem Gm.stBf (h : Gm s w0 wr d) {i t : Nat} {u : Ref} (hu : (evs s.ps)[i]? = some u) (ht : t < 10) (hl : (d.T u).bef.length = 10) (x : Int) : Gm s w0 (wr.setCell ⟨s.lb, i * 11 + (1 + t), none⟩ (.int .i8 x)) { d with T := updL d.T u (setBf (d.T u) t x) } :=
 h.setCell1 (j := 1 + t) hu (by omega) (setBf (d.T u) t x) (.int .i8 x) (labC_setB hl ht x)
/-- a table that is the same at all events -/
theorem Gm.congrT (h : Gm s w0 wr d) {T : LTab} (hT : ∀ u ∈ evs s.ps, T u = d.T u) : Gm s w0 wr { d with T := T } := by
 have e : labsC (evs s.ps) T = labsC (evs s.ps) d.T := by
  unfold labsC
  congr 2
  exact List.map_congr_left fun u hu => by rw [hT u hu]
 exact ⟨h.b, h.P, h.A, h.f, h.fl, h.e, h.el, by rw [e]; exact h.l, h.nr, h.nl, h.lg, h.q, h.qd, h.ql, h.ne, h.lo, h.hi, h.bsz, h.k, h.z, h.zs, h.zn⟩
end

theorem OwnL.base_lo {α : Type} {t size : Nat} {E : Rd α} {w : World} {base base' lo lo' : Nat} {v : Value} {l : List α} (hE : Rd.Ok E) (h : OwnL t size E w base lo v l) (hb : base' ≤ base) (hl : lo' ≤ lo) : OwnL t size E w base' lo' v l := by
 obtain ⟨ess, h1, h2, h3⟩ := h
 refine ⟨ess, h1, ⟨h2.1, ?_⟩, fun j x hx => ?_⟩
 ·rcases h2.2 with hn | ⟨g, cap, cur, e, hg, rest⟩
  ·exact .inl hn
  ·exact .inr ⟨g, cap, cur, e, Nat.le_trans hb hg, rest⟩
 ·obtain ⟨es, e1, e2, e3⟩ := h3 j x hx
  exact ⟨es, e1, e2, hE.mono e3 (fun b hb => ⟨Nat.le_trans hl hb.1, hb.2⟩) (fun _ _ => rfl)⟩
theorem baseN_eq (ps : List (List Stage)) (at_ : List Int) (n : Int) (t k : Nat) : baseN ps at_ n ⟨(t : Int), (k : Int)⟩ = if 0 < k ∧ (k : Int) - 1 = nowAt at_ t then max (baseS ps n ⟨(t : Int), (k : Int)⟩) (n + mnAt ps t (k - 1)) else baseS ps n ⟨(t : Int), (k : Int)⟩ := by
 unfold baseN base2
 simp only [Int.toNat_natCast]
theorem updL_twice (T : LTab) (u : Ref) (x y : Lab) : updL (updL T u x) u y = updL T u y := by
 funext v
 by_cases e : v = u
 ·subst e; rw [updL_at, updL_at]
 ·rw [updL_ne _ _ e, updL_ne _ _ e, updL_ne _ _ e]
/-- the state of a graph without chosen pairs -/
def gd0 (n : Nat) (T : LTab) : GD := ⟨T, List.replicate n (.slice none 0 0), List.replicate n [], .slice none 0 0, [], .slice none 0 0, [], List.replicate n false⟩
theorem Gm.zblk {s : GS} {w0 wr : World} {d : GD} (h : Gm s w0 wr d) {b t : Nat} {cs : Array Value} (hz : s.Z b) (hb : Blk s.wz b t cs) : Blk wr b t cs := (h.z b hz).2.trans hb
theorem Gm.rezone {s : GS} {w0 wr : World} {d : GD} (h : Gm s w0 wr d) (Z : Foot) (hZ : ∀ b, Z b → b < wr.heap.size ∧ ¬ GOwn s d b) : Gm { s with Z := Z, wz := wr } w0 wr d :=
 ⟨h.b, h.P, h.A, h.f, h.fl, h.e, h.el, h.l, h.nr, h.nl, h.lg, h.q, h.qd, h.ql, h.ne, h.lo, h.hi, h.bsz, h.k, fun b hb => ⟨(hZ b hb).1, rfl⟩, Nat.le_refl _, fun b hb hz => (hZ b hz).2 hb⟩
/-- the first phase: events and the numbers of the first ones -/
structure Pd1 (w1 wr : World) (a b c d e v2 v3 : Value) (fs : List Int) (es : List Ref) : Prop where
 b : Blk wr w1.heap.size 125 #[a, b, c, d, e, v2, v3, .slice none 0 0, .slice none 0 0, .slice none 0 0, .slice none 0 0, .slice none 0 0]
 f : OwnL 3 1 RInt wr (w1.heap.size + 1) (w1.heap.size + 1) v2 fs
 e : OwnL 46 2 RRef wr (w1.heap.size + 1) (w1.heap.size + 1) v3 es
 k : KeepsAll w1 wr
section
variable {w1 wr w' : World} {a b c d e v2 v3 v : Value} {fs : List Int} {es : List Ref}
theorem Pd1.keep (h : Pd1 w1 wr a b c d e v2 v3 fs es) (k : KeepsAll wr w') : Pd1 w1 w' a b c d e v2 v3 fs es :=
 ⟨h.b.kept k (by simp), h.f.keeps RInt.ok k (by simp), h.e.keeps RRef.ok k (by simp), h.k.tr k⟩
theorem Pd1.pushF {x : Int} (h : Pd1 w1 wr a b c d e v2 v3 fs es) (ho : OwnL 3 1 RInt w' (w1.heap.size + 1) (w1.heap.size + 1) v (fs ++ [x])) (hk : Keeps (fun b => v2.ownBlock = some b) wr w') :
  Pd1 w1 (w'.setCell ⟨w1.heap.size, 5, none⟩ v) a b c d e v v3 (fs ++ [x]) es := by
 have hg : ¬ (v2.ownBlock = some w1.heap.size) := fun e => by have := h.f.lt e; omega
 have k2 : Keeps (fun b => b = w1.heap.size) w' (w'.setCell ⟨w1.heap.size, 5, none⟩ v) := (Keeps.refl (fun b => b = w1.heap.size) w').setCell (p := ⟨w1.heap.size, 5, none⟩) (fun _ => rfl) _
 refine ⟨(h.b.kept hk hg).set_ 5 v, ho.keepsF RInt.flat k2 (fun b hb e => by have := ho.lt hb; omega), ?_, ?_⟩
 ·have h1 := h.e.keepsF RRef.flat hk (fun b hb e => h.f.ne_own h.e (by decide) e hb)
  exact h1.keepsF RRef.flat k2 (fun b hb e => by have := h1.lt hb; omega)
 ·exact ((h.k.trans hk (fun x hx e => by have := h.f.lt e; omega)).setCell (fun h => by simp at h) _)
theorem Pd1.pushE {u : Ref} (h : Pd1 w1 wr a b c d e v2 v3 fs es) (ho : OwnL 46 2 RRef w' (w1.heap.size + 1) (w1.heap.size + 1) v (es ++ [u])) (hk : Keeps (fun b => v3.ownBlock = some b) wr w') :
  Pd1 w1 (w'.setCell ⟨w1.heap.size, 6, none⟩ v) a b c d e v2 v fs (es ++ [u]) := by
 have hg : ¬ (v3.ownBlock = some w1.heap.size) := fun e => by have := h.e.lt e; omega
 have k2 : Keeps (fun b => b = w1.heap.size) w' (w'.setCell ⟨w1.heap.size, 6, none⟩ v) := (Keeps.refl (fun b => b = w1.heap.size) w').setCell (p := ⟨w1.heap.size, 6, none⟩) (fun _ => rfl) _
 refine ⟨(h.b.kept hk hg).set_ 6 v, ?_, ho.keepsF RRef.flat k2 (fun b hb e => by have := ho.lt hb; omega), ?_⟩
 ·have h1 := h.f.keepsF RInt.flat hk (fun b hb e => h.e.ne_own h.f (by decide) e hb)
  exact h1.keepsF RInt.flat k2 (fun b hb e => by have := h1.lt hb; omega)
 ·exact ((h.k.trans hk (fun x hx e => by have := h.e.lt e; omega)).setCell (fun h => by simp at h) _)
end
/-- the second phase: the graph's block with cells cs -/
structure Pd2 (w1 wr : World) (cs : Array Value) (v2 v3 : Value) (fs : List Int) (es : List Ref) : Prop where
 b : Blk wr w1.heap.size 125 cs
 f : OwnL 3 1 RInt wr (w1.heap.size + 1) (w1.heap.size + 1) v2 fs
 e : OwnL 46 2 RRef wr (w1.heap.size + 1) (w1.heap.size + 1) v3 es
 k : KeepsAll w1 wr
section
variable {w1 wr w' : World} {cs : Array Value} {v2 v3 : Value} {fs : List Int} {es : List Ref}
theorem Pd2.keep (h : Pd2 w1 wr cs v2 v3 fs es) (k : KeepsAll wr w') : Pd2 w1 w' cs v2 v3 fs es := ⟨h.b.kept k (by simp), h.f.keeps RInt.ok k (by simp), h.e.keeps RRef.ok k (by simp), h.k.tr k⟩
theorem Pd2.set_ (h : Pd2 w1 wr cs v2 v3 fs es) (i : Nat) (x : Value) : Pd2 w1 (wr.setCell ⟨w1.heap.size, i, none⟩ x) (cs.setIfInBounds i x) v2 v3 fs es := by
 have k2 : Keeps (fun b => b = w1.heap.size) wr (wr.setCell ⟨w1.heap.size, i, none⟩ x) := (Keeps.refl (fun b => b = w1.heap.size) wr).setCell (p := ⟨w1.heap.size, i, none⟩) (fun _ => rfl) _
 exact ⟨h.b.set_ i x, h.f.keepsF RInt.flat k2 (fun b hb e => by have := h.f.lt hb; omega), h.e.keepsF RRef.flat k2 (fun b hb e => by have := h.e.lt hb; omega), h.k.setCell (fun h => by simp at h) _⟩
end
theorem firsts_takeD {ps : List (List Stage)} {t : Nat} (h : t < ps.length) : (firsts ps).take (t + 1) = (firsts ps).take t ++ [(fst ps t : Int)] := by
 rw [List.take_add_one, firsts_at h]; rfl

end Go.Proofs.Ytilbbpbjhoidhaa
