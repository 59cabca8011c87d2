/- Contracts of Go's insertionSortCmpFunc, pdqsortCmpFunc and SortFunc at at most 12 references. Conditions: as each theorem says. The lists that Sort fills, in memory. Conditions: as each theorem says. -/
import Derived.Test.YtbfgmbakeofcbaaGreatK41
import Derived.Test.YtbfgmbakeofcbaaGreatK30
import Derived.Deep.MidRow
namespace Go.Proofs.YtbfgmbakeofcbaaGreat
open Go.RowKit

def mkL (P : List Ref) (x : Ref) (R : List Ref) (j : Nat) : List Ref := P.take j ++ x :: (P.drop j ++ R)
theorem mkL_at {P : List Ref} {x : Ref} {R : List Ref} {j : Nat} (hj : j ≤ P.length) : (mkL P x R j)[j]? = some x := by
  unfold mkL
  have : (P.take j).length = j := by simp; omega
  rw [List.getElem?_append_right (by omega), this]; simp
theorem mkL_pred {P : List Ref} {x y : Ref} {R : List Ref} {j : Nat} (hy : P[j]? = some y) : (mkL P x R (j + 1))[j]? = some y := by
  have hj := getElem?_lt hy
  unfold mkL
  rw [List.getElem?_append_left (by simp; omega), List.getElem?_take_of_lt (by omega), hy]
theorem mkL_swap {P : List Ref} {x y : Ref} {R : List Ref} {j : Nat} (hy : P[j]? = some y) : ((mkL P x R (j + 1)).set (j + 1) y).set j x = mkL P x R j := by
  have hj := getElem?_lt hy
  have e1 : P.take (j + 1) = P.take j ++ [y] := by rw [List.take_add_one, hy]; rfl
  have e2 : P.drop j = y :: P.drop (j + 1) := drop_cons' hy
  have hl : (P.take j).length = j := by simp; omega
  unfold mkL
  rw [e1, e2]
  simp only [List.append_assoc, List.cons_append]
  rw [List.set_append_right _ _ (by omega), hl, List.set_append_right _ _ (by omega), hl]
  simp
theorem plK_done {lt : Ref → Ref → Bool} {x y : Ref} {P : List Ref} {j : Nat} (hy : P[j]? = some y) (h : lt x y = false) : plK lt x P (j + 1) = j + 1 := by
  unfold plK; rw [hy]; simp [h]
theorem plK_more {lt : Ref → Ref → Bool} {x y : Ref} {P : List Ref} {j : Nat} (hy : P[j]? = some y) (h : lt x y = true) : plK lt x P (j + 1) = plK lt x P j := by
  conv => lhs; unfold plK
  rw [hy]; simp [h]
theorem plU_len (lt : Ref → Ref → Bool) (x : Ref) (P : List Ref) : (plU lt x P).length = P.length + 1 := by
  have hle : ∀ k, plK lt x P k ≤ k := by
    intro k
    induction k with
    | zero => exact Nat.le_refl _
    | succ k ih =>
      unfold plK
      split
      · split
        · omega
        · exact Nat.le_refl _
      · exact Nat.le_refl _
  have := hle P.length
  unfold plU; simp; omega
theorem sortB_len (lt : Ref → Ref → Bool) (l : List Ref) : (sortB lt l).length = l.length := by
  have key : ∀ (l acc : List Ref), (l.foldl (fun acc u => plU lt u acc) acc).length = acc.length + l.length := by
    intro l
    induction l with
    | nil => intro acc; simp
    | cons a l ih => intro acc; rw [List.foldl_cons, ih, plU_len]; simp; omega
  unfold sortB
  rw [key]; simp
theorem plU_perm (lt : Ref → Ref → Bool) (u : Ref) (l : List Ref) : (plU lt u l).Perm (l ++ [u]) := by
  unfold plU
  have h1 : (l.take (plK lt u l l.length) ++ u :: l.drop (plK lt u l l.length)).Perm (u :: (l.take (plK lt u l l.length) ++ l.drop (plK lt u l l.length))) := List.perm_middle
  rw [List.take_append_drop] at h1
  exact h1.trans (List.perm_append_singleton u l).symm
theorem sortB_mem {lt : Ref → Ref → Bool} {l : List Ref} : ∀ v ∈ sortB lt l, v ∈ l := by
  have key : ∀ (l acc : List Ref) v, v ∈ l.foldl (fun acc u => plU lt u acc) acc → v ∈ acc ∨ v ∈ l := by
    intro l
    induction l with
    | nil => intro acc v h; exact .inl h
    | cons a l ih =>
      intro acc v h
      rw [List.foldl_cons] at h
      rcases ih _ v h with h | h
      · have := (plU_perm lt a acc).mem_iff.1 h
        rcases List.mem_append.1 this with h | h
        · exact .inl h
        · simp at h; subst h; right; simp
      · right; simp [h]
  intro v h
  rcases key l [] v h with h | h
  · simp at h
  · exact h
theorem plU_mkL {lt : Ref → Ref → Bool} {x : Ref} {P R : List Ref} {i j : Nat} (hl : P.length = i) (h : plK lt x P i = j) : plU lt x P ++ R = mkL P x R j := by
  unfold plU mkL
  rw [hl, h]; simp
/-- the cells of references from a place on -/
def RfAt (w : World) (g o : Nat) (m : List Ref) : Prop := ∀ (k : Nat) u, m[k]? = some u → w.cell? ⟨g, o + k * 2, none⟩ = some (.int .i64 u.tr) ∧ w.cell? ⟨g, o + k * 2 + 1, none⟩ = some (.int .i64 u.st)

theorem Keeps.frz {C : Foot} {a b : World} (k : Keeps C a b) {g : Nat} (hg : g < a.heap.size) (hn : ¬ C g) (i : Nat) : b.frozen? ⟨g, i, none⟩ = a.frozen? ⟨g, i, none⟩ := by
  unfold World.frozen?
  rw [k.block g hg hn]
theorem RfAt.swap {w : World} {g o : Nat} {m : List Ref} {j : Nat} {x y : Ref} (h : RfAt w g o m) (hx : m[j + 1]? = some x) (hy : m[j]? = some y) :
    RfAt ((((w.setCell ⟨g, o + (j + 1) * 2, none⟩ (.int .i64 y.tr)).setCell ⟨g, o + (j + 1) * 2 + 1, none⟩ (.int .i64 y.st)).setCell ⟨g, o + j * 2, none⟩ (.int .i64 x.tr)).setCell ⟨g, o + j * 2 + 1, none⟩ (.int .i64 x.st)) g o ((m.set (j + 1) y).set j x) := by
  obtain ⟨x0, x1⟩ := h _ _ hx
  obtain ⟨y0, y1⟩ := h _ _ hy
  have hne : ∀ {a b : Nat}, a ≠ b → (⟨g, a, none⟩ : Addr) ≠ ⟨g, b, none⟩ := fun hab he => hab (by injection he)
  intro k u hk
  rw [List.getElem?_set] at hk
  by_cases e1 : j = k
  · subst e1
    rw [if_pos rfl] at hk
    split at hk
    · injection hk with hk
      subst hk
      have z0 : ((w.setCell ⟨g, o + (j + 1) * 2, none⟩ (.int .i64 y.tr)).setCell ⟨g, o + (j + 1) * 2 + 1, none⟩ (.int .i64 y.st)).cell? ⟨g, o + j * 2, none⟩ = some (.int .i64 y.tr) := by
        rw [World.cell?_setCell_other _ _ _ _ (hne (by omega)), World.cell?_setCell_other _ _ _ _ (hne (by omega)), y0]
      have z1 : (((w.setCell ⟨g, o + (j + 1) * 2, none⟩ (.int .i64 y.tr)).setCell ⟨g, o + (j + 1) * 2 + 1, none⟩ (.int .i64 y.st)).setCell ⟨g, o + j * 2, none⟩ (.int .i64 x.tr)).cell? ⟨g, o + j * 2 + 1, none⟩ = some (.int .i64 y.st) := by
        rw [World.cell?_setCell_other _ _ _ _ (hne (by omega)), World.cell?_setCell_other _ _ _ _ (hne (by omega)), World.cell?_setCell_other _ _ _ _ (hne (by omega)), y1]
      refine ⟨?_, World.cell?_setCell_same _ _ _ z1⟩
      rw [World.cell?_setCell_other _ _ _ _ (hne (by omega))]
      exact World.cell?_setCell_same _ _ _ z0
    · cases hk
  · rw [if_neg e1, List.getElem?_set] at hk
    by_cases e2 : j + 1 = k
    · subst e2
      rw [if_pos rfl] at hk
      split at hk
      · injection hk with hk
        subst hk
        have z1 : (w.setCell ⟨g, o + (j + 1) * 2, none⟩ (.int .i64 y.tr)).cell? ⟨g, o + (j + 1) * 2 + 1, none⟩ = some (.int .i64 x.st) := by
          rw [World.cell?_setCell_other _ _ _ _ (hne (by omega)), x1]
        refine ⟨?_, ?_⟩
        · rw [World.cell?_setCell_other _ _ _ _ (hne (by omega)), World.cell?_setCell_other _ _ _ _ (hne (by omega)), World.cell?_setCell_other _ _ _ _ (hne (by omega))]
          exact World.cell?_setCell_same _ _ _ x0
        · rw [World.cell?_setCell_other _ _ _ _ (hne (by omega)), World.cell?_setCell_other _ _ _ _ (hne (by omega))]
          exact World.cell?_setCell_same _ _ _ z1
      · cases hk
    · rw [if_neg e2] at hk
      obtain ⟨u0, u1⟩ := h k u hk
      refine ⟨?_, ?_⟩
      · rw [World.cell?_setCell_other _ _ _ _ (hne (by omega)), World.cell?_setCell_other _ _ _ _ (hne (by omega)), World.cell?_setCell_other _ _ _ _ (hne (by omega)), World.cell?_setCell_other _ _ _ _ (hne (by omega)), u0]
      · rw [World.cell?_setCell_other _ _ _ _ (hne (by omega)), World.cell?_setCell_other _ _ _ _ (hne (by omega)), World.cell?_setCell_other _ _ _ _ (hne (by omega)), World.cell?_setCell_other _ _ _ _ (hne (by omega)), u1]

set_option maxRecDepth 100000 in
set_option maxHeartbeats 4000000 in
theorem InsSort_any (F cb : Nat) (cm : Ref → Ref → Int) (g o : Nat) (l : List Ref) (c : Nat) (w : World) (hl : l.length ≤ 12) (hlc : l.length ≤ c) (hc2 : c ≤ 9223372036854775807) (hcl : RfAt w g o l) (hfz : ∀ k, w.frozen? ⟨g, k, none⟩ = false) (hgz : g < w.heap.size)
    (hE : Enters F) (hF : ∀ W, Keeps (fun b => b = g) w W → ∀ u ∈ l, ∀ v ∈ l, Calls Tryz.prog F #[.agg #[.int .i64 u.tr, .int .i64 u.st], .agg #[.int .i64 v.tr, .int .i64 v.st], .pointer (some ⟨cb, 0, none⟩)] W fun e w' => e = .returned (.int .i64 (cm u v)) ∧ KeepsAll W w') :
    Calls Tryz.prog 85 #[.slice (some ⟨g, o, none⟩) l.length c, .int .i64 0, .int .i64 (l.length : Int), .func (.func F) #[] #[.pointer (some ⟨cb, 0, none⟩)]] w fun e w' => e = .returned (.tuple #[]) ∧ RfAt w' g o (sortB (fun u v => decide (cm u v < 0)) l) ∧ Keeps (fun b => b = g) w w' := by
  have hcf : ∀ (args : Array Value) (w : World), (callFunc F args).run Tryz.prog w = .ok (.enter F args) w := hE
  clear hE
  have HF := Lib.hid hF; clear hF
  have HCL := Lib.hid hcl; clear hcl
  have HFZ := Lib.hid hfz; clear hfz
  generalize hLT : (fun u v : Ref => decide (cm u v < 0)) = lt at *
  have HLT : Hid (∀ u v, lt u v = decide (cm u v < 0)) := fun u v => by rw [← hLT]
  have H1 : Hid (sortB lt (l.take 1) ++ l.drop 1 = l) := by
    show _ = _
    cases l with
    | nil => rfl
    | cons a r => simp [sortB, plU, plK]
  go_enter Tryz.func85, Tryz.ntmps85
  go_wp2
  go_loopw [8] (fun v wr => ∃ i : Nat, 1 ≤ i ∧ (i ≤ l.length ∨ i = 1) ∧ v = .int .i64 (i : Int) ∧ RfAt wr g o (sortB lt (l.take i) ++ l.drop i) ∧ (∀ k, wr.frozen? ⟨g, k, none⟩ = false) ∧ Keeps (fun b => b = g) w wr) (fun v _ => l.length - (intOf v).toNat)
  case atStart => exact ⟨1, Nat.le_refl _, .inr rfl, by go_num, by rw [H1.out]; exact HCL.out, HFZ.out, Keeps.refl _ _⟩
  case round =>
    obtain ⟨i, hi1, hi2, rfl, hrf, hfz, hkr⟩ := hrel
    have HRF := Lib.hid hrf; have HFR := Lib.hid hfz; have KR := Lib.hid hkr
    clear hrf hfz hkr
    by_cases hlt : i < l.length
    · have hx : l[i]? = some l[i] := List.getElem?_eq_getElem hlt
      have HXM : Hid (l[i] ∈ l) := List.getElem_mem _
      have HPL : Hid ((sortB lt (l.take i)).length = i) := by show _ = _; rw [sortB_len]; simp; omega
      have HPM : Hid (∀ v ∈ sortB lt (l.take i), v ∈ l) := fun v hv => List.mem_of_mem_take (sortB_mem v hv)
      have HM0 : Hid (sortB lt (l.take i) ++ l.drop i = mkL (sortB lt (l.take i)) l[i] (l.drop (i + 1)) i) := by
        show _ = _
        have e1 : (sortB lt (l.take i)).take i = sortB lt (l.take i) := List.take_of_length_le (by rw [HPL.out]; exact Nat.le_refl _)
        have e2 : (sortB lt (l.take i)).drop i = [] := List.drop_of_length_le (by rw [HPL.out]; exact Nat.le_refl _)
        unfold mkL
        rw [e1, e2, List.nil_append, drop_cons' hx]
      have HNX : Hid (sortB lt (l.take (i + 1)) = plU lt l[i] (sortB lt (l.take i))) := by
        show _ = _
        rw [List.take_add_one, hx, Option.toList_some, sortB_snoc]
      clear hx
      generalize l[i] = x at *
      generalize sortB lt (l.take i) = P at *
      generalize hRR : l.drop (i + 1) = R at *
      have HRR := Lib.hid hRR; clear hRR
      rw [HM0.out] at HRF
      have hdi : decide ((i : Int) < (l.length : Int)) = true := by simp; omega
      go_wp2
      go_loopw [9] (fun v wr => ∃ j : Nat, j ≤ i ∧ v = .int .i64 (j : Int) ∧ RfAt wr g o (mkL P x R j) ∧ (∀ k, wr.frozen? ⟨g, k, none⟩ = false) ∧ Keeps (fun b => b = g) w wr ∧ plK lt x P i = plK lt x P j) (fun v _ => (intOf v).toNat)
      case atStart => exact ⟨i, Nat.le_refl _, rfl, HRF.out, HFR.out, KR.out, rfl⟩
      case round =>
        clear HRF HFR KR
        obtain ⟨j, hj, rfl, hrf, hfz, hkr, hpk⟩ := hrel
        have HRF := Lib.hid hrf; have HFR := Lib.hid hfz; have KR := Lib.hid hkr; have HPK := Lib.hid hpk
        clear hrf hfz hkr hpk
        cases j with
        | zero =>
          have Q : Hid (sortB lt (l.take (i + 1)) ++ l.drop (i + 1) = mkL P x R 0) := by show _ = _; rw [HNX.out, HRR.out]; exact plU_mkL HPL.out HPK.out
          rw [show ((0 : Nat) : Int) = 0 from rfl]
          go_wp2_with fail
          go_quiet (fail)
          go_wp2
          go_roundw
          case rel => exact ⟨i + 1, by omega, by omega, by go_num, by rw [Q.out]; exact HRF.out, HFR.out, KR.out.drewN _⟩
          case measure => simp [intOf]; omega
        | succ j =>
          have hyP : P[j]? = some (P[j]'(by rw [HPL.out]; omega)) := List.getElem?_eq_getElem _
          have HYM := Lib.hid (HPM.out _ (List.mem_of_getElem? hyP))
          generalize P[j]'(by rw [HPL.out]; omega) = y at *
          have cx := HRF.out (j + 1) x (mkL_at (by rw [HPL.out]; omega))
          have cy := HRF.out j y (mkL_pred hyP)
          have HSW := Lib.hid (mkL_swap (x := x) (R := R) hyP)
          have HPD := Lib.hid (fun h => plK_done (lt := lt) (x := x) hyP h)
          have HPMo := Lib.hid (fun h => plK_more (lt := lt) (x := x) hyP h)
          have HCF : Hid (∀ xx : Ext wr, Calls Tryz.prog F #[.agg #[.int .i64 x.tr, .int .i64 x.st], .agg #[.int .i64 y.tr, .int .i64 y.st], .pointer (some ⟨cb, 0, none⟩)] xx.val fun e w'' => e = .returned (.int .i64 (cm x y)) ∧ ∃ z : Ext wr, w'' = z.val) := fun xx => ext_call xx (HF.out xx.val (KR.out.trans xx.keeps (fun _ _ h => h.elim)) x HXM.out y HYM.out)
          have HXJ : Hid ((mkL P x R (j + 1))[j + 1]? = some x) := mkL_at (by rw [HPL.out]; omega)
          have HYJ := Lib.hid (mkL_pred (x := x) (R := R) hyP)
          obtain ⟨cx0, cx1⟩ := cx
          obtain ⟨cy0, cy1⟩ := cy
          have HLXY := Lib.hid (HLT.out x y)
          clear hyP
          have hjl : j < l.length := by omega
          have hjl1 : j + 1 < l.length := by omega
          have hgr : g < wr.heap.size := Nat.lt_of_lt_of_le hgz KR.out.size
          go_wp2_with fail
          refine wp_region_ext (by kernel_rfl) (by kernel_rfl) ?_
          have y0 := Ext.cell cx0
          have y1 := Ext.cell cx1
          have y2 := Ext.cell cy0
          have y3 := Ext.cell cy1
          repeat (go_big_quiet_step ((exact HCF.out _)))
          refine wpQuiet_nil ?_
          rintro _ ⟨X, rfl⟩
          have KX := Lib.hid (KR.out.trans X.keeps (fun _ _ h => h.elim))
          have HRX : Hid (RfAt X.val g o (mkL P x R (j + 1))) := fun k u hk => ⟨X.keeps.cellK (p := ⟨g, o + k * 2, none⟩) hgr (HRF.out k u hk).1, X.keeps.cellK (p := ⟨g, o + k * 2 + 1, none⟩) hgr (HRF.out k u hk).2⟩
          have HFX : Hid (∀ k, X.val.frozen? ⟨g, k, none⟩ = false) := fun k => by rw [X.keeps.frz hgr (by simp)]; exact HFR.out k
          replace cx0 := X.keeps.cellK (p := ⟨g, o + (j + 1) * 2, none⟩) hgr cx0
          replace cx1 := X.keeps.cellK (p := ⟨g, o + (j + 1) * 2 + 1, none⟩) hgr cx1
          replace cy0 := X.keeps.cellK (p := ⟨g, o + j * 2, none⟩) hgr cy0
          replace cy1 := X.keeps.cellK (p := ⟨g, o + j * 2 + 1, none⟩) hgr cy1
          have hgx : g < X.val.heap.size := Nat.lt_of_lt_of_le hgr X.keeps.size
          clear y0 y1 y2 y3 HCF HRF HFR KR hgr
          generalize X.val = WX at *
          by_cases hlx : cm x y < 0
          · have hltx : lt x y = true := by rw [HLXY.out]; simpa using hlx
            have HPK2 : Hid (plK lt x P i = plK lt x P j) := by show _ = _; rw [HPK.out, HPMo.out hltx]
            have HRN : Hid (RfAt ((((WX.setCell ⟨g, o + (j + 1) * 2, none⟩ (.int .i64 y.tr)).setCell ⟨g, o + (j + 1) * 2 + 1, none⟩ (.int .i64 y.st)).setCell ⟨g, o + j * 2, none⟩ (.int .i64 x.tr)).setCell ⟨g, o + j * 2 + 1, none⟩ (.int .i64 x.st)) g o (mkL P x R j)) := by
              have q := RfAt.swap HRX.out HXJ.out HYJ.out
              rw [HSW.out] at q
              exact q
            have HFN : Hid (∀ k, ((((WX.setCell ⟨g, o + (j + 1) * 2, none⟩ (.int .i64 y.tr)).setCell ⟨g, o + (j + 1) * 2 + 1, none⟩ (.int .i64 y.st)).setCell ⟨g, o + j * 2, none⟩ (.int .i64 x.tr)).setCell ⟨g, o + j * 2 + 1, none⟩ (.int .i64 x.st)).frozen? ⟨g, k, none⟩ = false) := fun k => by
              have := HFX.out k
              simpa using this
            have KN : Hid (Keeps (fun b => b = g) w ((((WX.setCell ⟨g, o + (j + 1) * 2, none⟩ (.int .i64 y.tr)).setCell ⟨g, o + (j + 1) * 2 + 1, none⟩ (.int .i64 y.st)).setCell ⟨g, o + j * 2, none⟩ (.int .i64 x.tr)).setCell ⟨g, o + j * 2 + 1, none⟩ (.int .i64 x.st))) := (((KX.out.setCell (p := ⟨g, o + (j + 1) * 2, none⟩) (fun _ => rfl) _).setCell (p := ⟨g, o + (j + 1) * 2 + 1, none⟩) (fun _ => rfl) _).setCell (p := ⟨g, o + j * 2, none⟩) (fun _ => rfl) _).setCell (p := ⟨g, o + j * 2 + 1, none⟩) (fun _ => rfl) _
            have hne : ∀ {a b : Nat}, a ≠ b → (⟨g, a, none⟩ : Addr) ≠ ⟨g, b, none⟩ := fun hab he => hab (by injection he)
            have s0 : ((WX.setCell ⟨g, o + (j + 1) * 2, none⟩ (.int .i64 y.tr)).setCell ⟨g, o + (j + 1) * 2 + 1, none⟩ (.int .i64 y.st)).cell? ⟨g, o + j * 2, none⟩ = some (.int .i64 y.tr) := by
              rw [World.cell?_setCell_other _ _ _ _ (hne (by omega)), World.cell?_setCell_other _ _ _ _ (hne (by omega)), cy0]
            have s1 : (((WX.setCell ⟨g, o + (j + 1) * 2, none⟩ (.int .i64 y.tr)).setCell ⟨g, o + (j + 1) * 2 + 1, none⟩ (.int .i64 y.st)).setCell ⟨g, o + j * 2, none⟩ (.int .i64 x.tr)).cell? ⟨g, o + j * 2 + 1, none⟩ = some (.int .i64 y.st) := by
              rw [World.cell?_setCell_other _ _ _ _ (hne (by omega)), World.cell?_setCell_other _ _ _ _ (hne (by omega)), World.cell?_setCell_other _ _ _ _ (hne (by omega)), cy1]
            have z0 := HFX.out (o + (j + 1) * 2)
            have z1 := HFX.out (o + (j + 1) * 2 + 1)
            have z2 := HFX.out (o + j * 2)
            have z3 := HFX.out (o + j * 2 + 1)
            clear hne hltx
            go_wp2_with fail
            go_region
            go_wp2
            go_roundw
            case rel => exact ⟨j, by omega, by first | rfl | go_num, HRN.out, HFN.out, KN.out.drew, HPK2.out⟩
            case measure => simp [intOf]
          · have hltx : lt x y = false := by rw [HLXY.out]; simpa using hlx
            have Q : Hid (sortB lt (l.take (i + 1)) ++ l.drop (i + 1) = mkL P x R (j + 1)) := by show _ = _; rw [HNX.out, HRR.out]; exact plU_mkL HPL.out (HPK.out.trans (HPD.out hltx))
            clear hltx
            go_wp2
            go_roundw
            case rel => exact ⟨i + 1, by omega, by omega, by go_num, by rw [Q.out]; exact HRX.out, HFX.out, KX.out⟩
            case measure => simp [intOf]; omega
    · have HFIN : Hid (sortB lt (l.take i) ++ l.drop i = sortB lt l) := by
        show _ = _
        rw [List.take_of_length_le (by omega), List.drop_of_length_le (by omega), List.append_nil]
      have hdi : decide ((i : Int) < (l.length : Int)) = false := by simp; omega
      rw [HFIN.out] at HRF
      go_wp2
      refine bodyPost_end (results_none rfl _ _ _) rfl ?_
      exact ⟨rfl, HRF.out, KR.out⟩

set_option maxRecDepth 100000 in
set_option maxHeartbeats 1000000 in
theorem Pdq_any (F cb : Nat) (cm : Ref → Ref → Int) (g o : Nat) (l : List Ref) (c : Nat) (lim : Int) (w : World) (hl : l.length ≤ 12) (hlc : l.length ≤ c) (hc2 : c ≤ 9223372036854775807) (hcl : RfAt w g o l) (hfz : ∀ k, w.frozen? ⟨g, k, none⟩ = false) (hgz : g < w.heap.size)
    (hE : Enters F) (hF : ∀ W, Keeps (fun b => b = g) w W → ∀ u ∈ l, ∀ v ∈ l, Calls Tryz.prog F #[.agg #[.int .i64 u.tr, .int .i64 u.st], .agg #[.int .i64 v.tr, .int .i64 v.st], .pointer (some ⟨cb, 0, none⟩)] W fun e w' => e = .returned (.int .i64 (cm u v)) ∧ KeepsAll W w') :
    Calls Tryz.prog 61 #[.slice (some ⟨g, o, none⟩) l.length c, .int .i64 0, .int .i64 (l.length : Int), .int .i64 lim, .func (.func F) #[] #[.pointer (some ⟨cb, 0, none⟩)]] w fun e w' => e = .returned (.tuple #[]) ∧ RfAt w' g o (sortB (fun u v => decide (cm u v < 0)) l) ∧ Keeps (fun b => b = g) w w' := by
  have HI := Lib.hid (InsSort_any F cb cm g o l c w hl hlc hc2 hcl hfz hgz hE hF)
  clear hcl hfz hE hF
  go_enter Tryz.func61, Tryz.ntmps61
  go_wp2
  go_loopw [1, 2] (fun va vb wr => va = .int .i64 0 ∧ vb = .int .i64 (l.length : Int) ∧ w = wr) (fun _ _ _ => 0)
  case atStart => exact ⟨rfl, rfl, rfl⟩
  case round =>
    obtain ⟨rfl, rfl, rfl⟩ := hrel
    have hle : l.length ≤ 12 := hl
    go_wp2_with fail
    refine HI.out.mono ?_
    rintro e w1 ⟨rfl, h1, h2⟩
    have H1 := Lib.hid h1; have H2 := Lib.hid h2
    clear h1 h2 HI
    go_wp2
    first | refine bodyPost_ret (results_none rfl _ _ _) rfl ?_ | refine bodyPost_end (results_none rfl _ _ _) rfl ?_
    exact ⟨rfl, H1.out, H2.out⟩
set_option maxHeartbeats 1000000 in
theorem SortFunc_any (F cb : Nat) (cm : Ref → Ref → Int) (g o : Nat) (l : List Ref) (c : Nat) (w : World) (hl : l.length ≤ 12) (hlc : l.length ≤ c) (hc2 : c ≤ 9223372036854775807) (hcl : RfAt w g o l) (hfz : ∀ k, w.frozen? ⟨g, k, none⟩ = false) (hgz : g < w.heap.size)
    (hE : Enters F) (hF : ∀ W, Keeps (fun b => b = g) w W → ∀ u ∈ l, ∀ v ∈ l, Calls Tryz.prog F #[.agg #[.int .i64 u.tr, .int .i64 u.st], .agg #[.int .i64 v.tr, .int .i64 v.st], .pointer (some ⟨cb, 0, none⟩)] W fun e w' => e = .returned (.int .i64 (cm u v)) ∧ KeepsAll W w') :
    Calls Tryz.prog 34 #[.slice (some ⟨g, o, none⟩) l.length c, .func (.func F) #[] #[.pointer (some ⟨cb, 0, none⟩)]] w fun e w' => e = .returned (.tuple #[]) ∧ RfAt w' g o (sortB (fun u v => decide (cm u v < 0)) l) ∧ Keeps (fun b => b = g) w w' := by
  have HP := Lib.hid (fun lim => Pdq_any F cb cm g o l c lim w hl hlc hc2 hcl hfz hgz hE hF)
  have HL := Lib.hid (Len_any l.length hl w)
  clear hcl hfz hE hF
  have hw := wrapU l.length (by omega)
  go_enter Tryz.func34, Tryz.ntmps34
  go_wp2_with fail
  refine HL.out.mono ?_
  rintro e w1 ⟨m, rfl, rfl⟩
  go_wp2_with fail
  refine (HP.out m).mono ?_
  rintro e w1 ⟨rfl, h1, h2⟩
  have H1 := Lib.hid h1; have H2 := Lib.hid h2
  clear h1 h2 HP HL
  go_wp2
  refine bodyPost_end (results_none rfl _ _ _) rfl ?_
  exact ⟨rfl, H1.out, H2.out⟩

/-- an order whose uses lie in a list of values -/
def ROV (vs : List Value) : Rd Order := fun _ _ cs o => ∃ n : Nat, o.res = (n : Int) ∧ ∃ v, vs[n]? = some v ∧ cs = [.int .i64 (n : Int), v]
theorem ROV.flat (vs : List Value) : Rd.Flat (ROV vs) := fun _ _ _ _ _ _ h => h
theorem ROV.ok (vs : List Value) : Rd.Ok (ROV vs) := ⟨fun h _ _ => h⟩
theorem ordersTo_memN {ps : List (List Stage)} {en : List (List Int)} : ∀ {n : Nat} {o : Order}, o ∈ ordersTo ps en n → ∃ r : Nat, r < n ∧ o = ⟨(r : Int), sortR en (allU ps r)⟩
  | 0, o, h => by simp [ordersTo] at h
  | n + 1, o, h => by
    rw [ordersTo, List.mem_append] at h
    rcases h with h | h
    · obtain ⟨r, h1, h2⟩ := ordersTo_memN h
      exact ⟨r, by omega, h2⟩
    · split at h
      · simp at h; exact ⟨n, by omega, h⟩
      · simp at h
/-- the rows while they are sorted: those below r are; w3: the world before the first of them -/
structure FRows (w2 w3 wr : World) (en : List (List Int)) (ps : List (List Stage)) (vs : List Value) (r : Nat) : Prop where
  k : Keeps (fun b => w2.heap.size ≤ b ∧ b < w3.heap.size) w3 wr
  len : vs.length = 144
  own : ∀ (i : Nat) u b, vs[i]? = some u → u.ownBlock = some b → w2.heap.size ≤ b ∧ b < w3.heap.size
  ne : ∀ (i j : Nat) u v b, i ≠ j → vs[i]? = some u → vs[j]? = some v → u.ownBlock = some b → v.ownBlock ≠ some b
  todo : ∀ (i : Nat) u, r ≤ i → vs[i]? = some u → OwnL 69 2 RRef wr w2.heap.size w2.heap.size u (allU ps i)
  done : ∀ (i : Nat) u, i < r → vs[i]? = some u → RRefs wr (fun b => u.ownBlock = some b) [u] (sortR en (allU ps i))
section
variable {w2 w3 wr w' : World} {en : List (List Int)} {ps : List (List Stage)} {vs : List Value} {r : Nat}

theorem FRows.keep (h : FRows w2 w3 wr en ps vs r) {C : Foot} (k : Keeps C wr w') (hC : ∀ b, C b → w3.heap.size ≤ b) : FRows w2 w3 w' en ps vs r := by
  have hz := h.k.size
  refine ⟨h.k.trans k (fun x hx hc => by have := hC x hc; omega), h.len, h.own, h.ne, fun i u hi hu => (h.todo i u hi hu).keepsF RRef.flat k (fun b hb hc => by have := h.own i u b hu hb; have := hC b hc; omega), fun i u hi hu => ?_⟩
  exact k.rd RRefs.ok (h.done i u hi hu) (fun b hb => ⟨by have := h.own i u b hu hb; omega, fun hc => by have := h.own i u b hu hb; have := hC b hc; omega⟩) (fun _ h => h)
theorem RfAt.read {w : World} {g : Nat} {l : List Ref} {c : Nat} {S : Foot} (h : RfAt w g 0 l) (h1 : l.length ≤ c) (h2 : c ≤ 9223372036854775807) (hS : S g) : RRefs w S [.slice (some ⟨g, 0, none⟩) l.length c] l := by
  refine ⟨_, c, rfl, h1, h2, fun _ => ⟨g, 0, rfl, hS, fun j x hx => ⟨[.int .i64 x.tr, .int .i64 x.st], rfl, rfl, fun i u hu => ?_⟩⟩⟩
  obtain ⟨a, b⟩ := h j x hx
  rcases i with _ | _ | i
  · simp at hu; subst hu; simpa using a
  · simp at hu; subst hu; simpa [Nat.add_assoc] using b
  · simp at hu
theorem RRefs.rfAt {w : World} {g n : Nat} {l : List Ref} {c : Nat} {S : Foot} (h : RRefs w S [.slice (some ⟨g, 0, none⟩) n c] l) : RfAt w g 0 l := by
  intro k u hk
  obtain ⟨b, o, u', es, e, hb, hx, h1, h2, h3⟩ := h.get (getElem?_lt hk)
  injection e with e; injection e with e1 e2; subst e1 e2
  rw [hk] at hx; injection hx with hx; subst hx
  cases h2
  exact ⟨by simpa using h3 0 _ rfl, by simpa [Nat.add_assoc] using h3 1 _ rfl⟩
theorem FRows.sorted (h : FRows w2 w3 wr en ps vs r) {g c : Nat} {l : List Ref} (hu : vs[r]? = some (.slice (some ⟨g, 0, none⟩) (allU ps r).length c)) (k : Keeps (fun b => b = g) wr w') (hl : l = sortR en (allU ps r)) (hf : RfAt w' g 0 l) (h1 : (allU ps r).length ≤ c) (h2 : c ≤ 9223372036854775807) : FRows w2 w3 w' en ps vs (r + 1) := by
  subst hl
  have hz := h.k.size
  have ho := h.own r _ g hu rfl
  have hn : (sortR en (allU ps r)).length = (allU ps r).length := (sortR_perm en _).length_eq
  refine ⟨h.k.trans k (fun x hx hc => by subst hc; exact ho), h.len, h.own, h.ne, fun i u hi hu' => ?_, fun i u hi hu' => ?_⟩
  · exact (h.todo i u (by omega) hu').keepsF RRef.flat k (fun b hb hc => by subst hc; exact h.ne i r u _ b (by omega) hu' hu hb rfl)
  · by_cases e : i = r
    · subst e
      rw [hu] at hu'; injection hu' with hu'; subst hu'
      have := hf.read (by rw [hn]; exact h1) h2 (S := fun b => (Value.slice (some ⟨g, 0, none⟩) (allU ps i).length c).ownBlock = some b) rfl
      rw [hn] at this
      exact this
    · exact k.rd RRefs.ok (h.done i u (by omega) hu') (fun b hb => ⟨by have := h.own i u b hu' hb; omega, fun hc => by subst hc; exact h.ne i r u _ b e hu' hu hb rfl⟩) (fun _ h => h)
theorem FRows.empty (h : FRows w2 w3 wr en ps vs r) (he : (allU ps r).length = 0) : FRows w2 w3 wr en ps vs (r + 1) := by
  refine ⟨h.k, h.len, h.own, h.ne, fun i u hi hu => h.todo i u (by omega) hu, fun i u hi hu => ?_⟩
  by_cases e : i = r
  · subst e
    have h1 := h.todo i u (Nat.le_refl _) hu
    have e1 : allU ps i = [] := List.eq_nil_of_length_eq_zero he
    rw [e1] at h1 ⊢
    exact h1.readF RRef.ok RRef.flat (fun b hb => hb)
  · exact h.done i u (by omega) hu
theorem FRows.orders (h : FRows w2 w3 wr en ps vs 144) {v : Value} (ho : OwnL 66 2 (ROV vs) wr w3.heap.size w3.heap.size v (ordersTo ps en 144)) : ROrders wr (Old wr) [v] (ordersTo ps en 144) := by
  have hz := h.k.size
  obtain ⟨A, c, he, h1, h2, h3⟩ := ho.readF (ROV.ok vs) (ROV.flat vs) (S := Old wr) (fun b hb => (ho.lt hb).2)
  refine ⟨A, c, he, h1, h2, fun hp => ?_⟩
  obtain ⟨b, o, hA, hb, hx⟩ := h3 hp
  refine ⟨b, o, hA, hb, fun j x hj => ?_⟩
  obtain ⟨es, e1, e2, e3⟩ := hx j x hj
  refine ⟨es, e1, ?_, e3⟩
  obtain ⟨n, hn, u, hu, rfl⟩ := e2
  obtain ⟨n', hn', rfl⟩ := ordersTo_memN (List.mem_of_getElem? hj)
  obtain rfl : n' = n := by have : (n' : Int) = (n : Int) := hn; omega
  have hd := h.done n' u hn' hu
  exact ⟨u, rfl, RRefs.ok.mono (S' := Old wr) hd (fun b hb => by have := h.own n' u b hu hb; show b < wr.heap.size; omega) (fun _ _ => rfl)⟩
end

theorem allU_le4 (r : Int) : ∀ (ps : List (List Stage)) (n : Nat), (∀ p ∈ ps, p.length ≤ 4) → n ≤ ps.length → (allU (ps.take n) r).length ≤ 4 * n
  | ps, 0, _, _ => by simp [allU]
  | ps, n + 1, h, hn => by
    have hp : ps[n]? = some ps[n] := List.getElem?_eq_getElem (by omega)
    have h1 := allU_le4 r ps n h (by omega)
    have h2 := pathAll_le r n ps[n]
    have h3 := h _ (List.getElem_mem (by omega : n < ps.length))
    rw [allU_succ r hp, List.length_append]
    omega
theorem psMade.uses {ps : List (List Stage)} (h : psMade ps) (r : Int) : (allU ps r).length ≤ 12 := by
  have h1 := allU_le4 r ps ps.length (fun p hp => (h.2.2 p hp).2.1) (Nat.le_refl _)
  rw [List.take_length] at h1
  have := h.2.1; omega

end Go.Proofs.YtbfgmbakeofcbaaGreat
