/- Contract of the reference's Pairs of chapter 37. Conditions: as the theorem says. The reference's search of chapter 37 in memory; contract of chosen. Conditions: as each theorem says. -/
import Derived.Test.YtilbbpbjhoidhaaK46
import Derived.Test.YtilbbpbjhoidhaaK13
import Derived.Test.YtilbbpbjhoidhaaK09
import Derived.Test.YtilbbpbjhoidhaaK35
import Derived.Deep.Cut
namespace Go.Proofs.Ytilbbpbjhoidhaa
open Go.RowKit

def RPr : Rd Pr := fun _ _ cs x => cs = [.int .i64 x.res, .int .i64 x.u.tr, .int .i64 x.u.st, .int .i64 x.v.tr, .int .i64 x.v.st]
theorem RPr.ok : Rd.Ok RPr := ⟨fun h _ _ => h⟩
theorem RPr.flat : Rd.Flat RPr := fun _ _ _ _ _ _ h => h
theorem tyPr : ElemTy Try.prog 50 55 5 40 := .mk' Try.underlying50 (z := .agg #[.int .i64 0, .int .i64 0, .int .i64 0, .int .i64 0, .int .i64 0]) (by kernel_rfl) rfl (by omega)
def prU (r : Int) (_l : List Ref) (u : Ref) (m : List Ref) : List Pr := (m.filter fun v => decide (u.tr < v.tr)).map fun v => ⟨r, u, v⟩
def prL (r : Int) (l m : List Ref) : List Pr := m.flatMap fun u => prU r l u l
theorem prL_all (r : Int) (l : List Ref) : prL r l l = pairsL r l := rfl
theorem prL_snoc (r : Int) (l m : List Ref) (u : Ref) : prL r l (m ++ [u]) = prL r l m ++ prU r l u l := by unfold prL; rw [List.flatMap_append]; simp
theorem prU_snoc (r : Int) (l : List Ref) (u : Ref) (m : List Ref) (v : Ref) : prU r l u (m ++ [v]) = prU r l u m ++ (if u.tr < v.tr then [⟨r, u, v⟩] else []) := by
 unfold prU
 rw [List.filter_append, List.map_append]
 by_cases h : u.tr < v.tr
 ·simp [h]
 ·simp [h]
theorem prU_len (r : Int) (l : List Ref) (u : Ref) (m : List Ref) : (prU r l u m).length ≤ m.length := by
 unfold prU; rw [List.length_map]; exact List.length_filter_le _ _
theorem prL_len (r : Int) (l : List Ref) (B : Nat) (hB : l.length ≤ B) : ∀ m : List Ref, (prL r l m).length ≤ m.length * B
 | [] => by simp [prL]
 | a :: m => by
  have h1 := prL_len r l B hB m
  have h2 := prU_len r l a l
  have e : prL r l (a :: m) = prU r l a l ++ prL r l m := rfl
  rw [e, List.length_append, List.length_cons, Nat.add_mul]
  omega
theorem pairsTo_succ (ps : List (List Stage)) (at_ : List Int) (n : Nat) : pairsTo ps at_ (n + 1) = pairsTo ps at_ n ++ pairsL (n : Int) (openA ps at_ (n : Int)) := by
 unfold pairsTo
 rw [List.range_succ, List.flatMap_append]
 simp
theorem pairsTo_big {ps : List (List Stage)} (hv : valid ps = true) (at_ : List Int) : ∀ n, (pairsTo ps at_ n).length ≤ n * 409600
 | 0 => by simp [pairsTo]
 | n + 1 => by
  have h1 := pairsTo_big hv at_ n
  have h2 := Nat.le_trans (openA_len ps at_ (n : Int)) (allU_640 hv (n : Int))
  have h3 := prL_len (n : Int) (openA ps at_ (n : Int)) 640 h2 (openA ps at_ (n : Int))
  rw [prL_all] at h3
  have h4 : (openA ps at_ (n : Int)).length * 640 ≤ 640 * 640 := Nat.mul_le_mul_right _ h2
  rw [pairsTo_succ, List.length_append, Nat.add_mul]
  omega

/-- the list of pairs grows while the uses of a resource stay -/
structure PrI (wo w2 wr : World) (vv : Value) : Prop where
 k : Keeps (fun b => b < wo.heap.size) w2 wr
 ow : ∀ b, vv.ownBlock = some b → b < wo.heap.size ∨ w2.heap.size ≤ b
theorem PrI.keep {wo w2 wr w' : World} {vv : Value} (h : PrI wo w2 wr vv) (k : KeepsAll wr w') : PrI wo w2 w' vv := ⟨h.k.trans k (fun _ _ e => e.elim), h.ow⟩
theorem PrI.push {wo w2 wr w9 : World} {vv v9 : Value} (h : PrI wo w2 wr vv) (k : Keeps (fun b => vv.ownBlock = some b) wr w9) (hn : v9.ownBlock = vv.ownBlock ∨ v9.ownBlock = some wr.heap.size) : PrI wo w2 w9 v9 := by
 refine ⟨h.k.trans k (fun b hb e => ?_), fun b hb => ?_⟩
 ·rcases h.ow b e with h1 | h1
  ·exact h1
  ·omega
 ·rcases hn with hn | hn
  ·exact h.ow b (by rw [← hn]; exact hb)
  ·rw [hn] at hb
   injection hb with hb
   have := h.k.size
   exact .inr (by omega)
theorem PrI.rd {wo w2 wr : World} {vv : Value} (h : PrI wo w2 wr vv) {α : Type} {E : Rd α} (hE : Rd.Ok E) {cs : List Value} {x : α} (hr : E w2 (Fresh wo w2) cs x) : E wr (Old wr) cs x :=
 hE.mono hr (fun b hb => Nat.lt_of_lt_of_le hb.2 h.k.size) (fun b hb => h.k.block b hb.2 (by have := hb.1; show ¬ b < _; omega))

set_option maxRecDepth 100000 in
set_option maxHeartbeats 1000000 in
theorem RPairs_any (p : Pb) (v : PV) (w : World) (h : RPb w (Old w) v p) (hv : valid p.ps = true) (hal : p.at_.length = p.ps.length) :
  Calls Try.prog 22 #[.agg (v.cs p)] w fun e w' => ∃ A c, e = .returned (.slice A (xs p).length c) ∧ RSlice 5 RPr w' (Fresh w w') [.slice A (xs p).length c] (xs p) ∧ KeepsAll w w' := by
 have H := Lib.hid h
 have HV := Lib.hid hv
 have HOP : Hid (∀ W, KeepsAll w W → ∀ r : Int, Calls Try.prog 56 #[.agg #[.slice v.A p.ps.length v.c, .slice v.A2 p.at_.length v.c2, .slice v.A3 p.due.length v.c3, .slice v.A4 p.wgt.length v.c4, .int .i64 p.now], .int .i64 r] W fun e w' => ∃ A c, e = .returned (.slice A (openA p.ps p.at_ r).length c) ∧ RRefs w' (Fresh W w') [.slice A (openA p.ps p.at_ r).length c] (openA p.ps p.at_ r) ∧ KeepsAll W w') := fun W hW r => ROpen_any p v W r (H.out.kept hW) hv hal
 clear h hal hv
 unfold PV.cs
 go_enter Try.func22, Try.ntmps22
 go_wp2
 generalize hW1 : World.alloc w _ = W1
 have k1 : KeepsAll w W1 := by subst hW1; exact (Keeps.refl _ _).alloc _
 have hb1 : Blk W1 w.heap.size 25 #[.slice v.A p.ps.length v.c, .slice v.A2 p.at_.length v.c2, .slice v.A3 p.due.length v.c3, .slice v.A4 p.wgt.length v.c4, .int .i64 p.now] := by subst hW1; exact Blk.new _ _ _
 have HB1 := Lib.hid hb1
 have K1 := Lib.hid k1
 clear hW1 k1 hb1
 obtain ⟨zp, hzp⟩ : ∃ z, z = w.heap.size := ⟨_, rfl⟩
 rw [← hzp] at HB1 ⊢
 clear hzp
 go_loopw [3, 4] (fun vv i wr => ∃ n : Nat, n ≤ 144 ∧ i = .int .i64 (n : Int) ∧ OwnL 55 5 RPr wr W1.heap.size W1.heap.size vv (pairsTo p.ps p.at_ n) ∧ KeepsAll W1 wr) (fun _ i _ => 144 - (intOf i).toNat)
 case atStart => exact ⟨0, Nat.zero_le _, rfl, OwnL.nil, Keeps.refl _ _⟩
 case round =>
  obtain ⟨n, hn, rfl, ho, hkr⟩ := hrel
  obtain ⟨Ab, cb, rfl, hcb, hcb2⟩ := ho.form
  have HO := Lib.hid ho
  have KR := Lib.hid hkr
  have hDl := pairsTo_big HV.out p.at_ n
  have hbp := HB1.out.kept hkr (by simp)
  have f0 := hbp.cell 0
  have f1 := hbp.cell 1
  have f2 := hbp.cell 2
  have f3 := hbp.cell 3
  have f4 := hbp.cell 4
  simp at f0 f1 f2 f3 f4
  have HBP := Lib.hid hbp
  clear ho hkr hbp
  by_cases hlt : n < 144
  ·have hHQ := Lib.hid (pairsTo_succ p.ps p.at_ n)
   generalize pairsTo p.ps p.at_ n = D at HO hHQ hDl hcb ⊢
   go_wp2_with fail
   refine (HOP.out wr (K1.out.tr KR.out) (n : Int)).mono ?_
   rintro e w2 ⟨Al, cl, rfl, hl, k2⟩
   have hll := Nat.le_trans (openA_len p.ps p.at_ (n : Int)) (allU_640 HV.out (n : Int))
   have HL : Hid (RRefs w2 (Old w2) [.slice Al (openA p.ps p.at_ (n : Int)).length cl] (openA p.ps p.at_ (n : Int))) := RRefs.ok.mono hl (fun _ hb => hb.2) (fun _ _ => rfl)
   have HO2 := Lib.hid (HO.out.keeps RPr.ok k2 (fun _ _ h => h.elim))
   have K2 := Lib.hid (KR.out.tr k2)
   have HLF := Lib.hid hl
   have hPI : PrI wr w2 w2 (.slice Ab D.length cb) := ⟨Keeps.refl _ _, fun b hb => .inl (HO.out.lt hb).2⟩
   have HPI := Lib.hid hPI
   clear hl k2 f0 f1 f2 f3 f4 HBP HO hPI HL
   obtain ⟨wo, rfl⟩ : ∃ wo : World, wo = wr := ⟨_, rfl⟩
   generalize openA p.ps p.at_ (n : Int) = l at *
   go_wp2
   go_loopw [3, 19] (fun vv i wr => ∃ a : Nat, a ≤ l.length ∧ i = .int .i64 (a : Int) ∧ OwnL 55 5 RPr wr W1.heap.size W1.heap.size vv (D ++ prL (n : Int) l (l.take a)) ∧ PrI wo w2 wr vv ∧ KeepsAll W1 wr) (fun _ i _ => l.length - (intOf i).toNat)
   case atStart => exact ⟨0, Nat.zero_le _, rfl, by simpa [prL] using HO2.out, HPI.out, K2.out⟩
   case round =>
    obtain ⟨a, ha, rfl, ho, hpi, hkr⟩ := hrel
    obtain ⟨Ac, cc, rfl, hcc, hcc2⟩ := ho.form
    clear HO2 HPI K2 hcb hcb2
    have HO3 := Lib.hid ho
    have HPI := Lib.hid hpi
    have KR3 := Lib.hid hkr
    have hEl : (D ++ prL (n : Int) l (l.take a)).length ≤ n * 409600 + 640 * 640 := by
     have h3 := prL_len (n : Int) l 640 hll (l.take a)
     have h4 : (l.take a).length * 640 ≤ 640 * 640 := Nat.mul_le_mul_right _ (by rw [List.length_take]; omega)
     rw [List.length_append]; omega
    clear ho hpi hkr
    by_cases hlta : a < l.length
    ·obtain ⟨bx, ox, u, hAx, hbx, hu, m0, m1⟩ := RRefs.atK (Keeps.refl _ _) (HPI.out.rd RRefs.ok HLF.out) hlta
     subst hAx
     have HQ2 : Hid (D ++ prL (n : Int) l (l.take (a + 1)) = D ++ prL (n : Int) l (l.take a) ++ prU (n : Int) l u l) := by
      show _ = _
      rw [List.take_add_one, hu, Option.toList_some, prL_snoc, List.append_assoc]
     clear hu
     generalize D ++ prL (n : Int) l (l.take a) = E at HO3 HPI HQ2 hEl hcc ⊢
     go_wp2
     generalize hW4 : World.alloc wr _ = W4
     have KW4 : KeepsAll wr W4 := by subst hW4; exact (Keeps.refl _ _).alloc _
     have BU : Hid (Blk W4 wr.heap.size 46 #[.int .i64 u.tr, .int .i64 u.st]) := by subst hW4; exact Blk.new _ _ _
     have HO4 := Lib.hid (HO3.out.keeps RPr.ok KW4 (fun _ _ h => h.elim))
     have HPI4 := Lib.hid (HPI.out.keep KW4)
     have KR4 := Lib.hid (KR3.out.tr KW4)
     clear hW4 KW4 m0 m1 HO3 HPI KR3 hbx
     generalize wr.heap.size = zu at *
     go_loopw [3, 25] (fun vv i wr => ∃ b : Nat, b ≤ l.length ∧ i = .int .i64 (b : Int) ∧ OwnL 55 5 RPr wr W1.heap.size W1.heap.size vv (E ++ prU (n : Int) l u (l.take b)) ∧ PrI wo w2 wr vv ∧ KeepsAll W1 wr ∧ Blk wr zu 46 #[.int .i64 u.tr, .int .i64 u.st]) (fun _ i _ => l.length - (intOf i).toNat)
     case atStart => exact ⟨0, Nat.zero_le _, rfl, by simpa [prU] using HO4.out, HPI4.out, KR4.out, BU.out⟩
     case round =>
      obtain ⟨b, hb, rfl, ho, hpi, hkr, hbu⟩ := hrel
      obtain ⟨Ad, cd, rfl, hcd, hcd2⟩ := ho.form
      clear HO4 HPI4 KR4 BU hcc hcc2
      have HO5 := Lib.hid ho
      have HPI5 := Lib.hid hpi
      have KR5 := Lib.hid hkr
      have BU := Lib.hid hbu
      have hFl : (E ++ prU (n : Int) l u (l.take b)).length ≤ n * 409600 + 640 * 640 + 640 := by
       have h3 := prU_len (n : Int) l u (l.take b)
       rw [List.length_take] at h3
       rw [List.length_append]; omega
      have e0 := hbu.cell 0
      have e1 := hbu.cell 1
      simp at e0 e1
      have hzu := hbu.lt
      clear ho hpi hkr hbu
      by_cases hltb : b < l.length
      ·obtain ⟨by', oy, y, hAy, hby, hy, q0, q1⟩ := RRefs.atK (Keeps.refl _ _) (HPI5.out.rd RRefs.ok HLF.out) hltb
       injection hAy with hAy
       injection hAy with ey1 ey2 _
       subst ey1 ey2
       have HQ3 : Hid (E ++ prU (n : Int) l u (l.take (b + 1)) = E ++ prU (n : Int) l u (l.take b) ++ (if u.tr < y.tr then [⟨(n : Int), u, y⟩] else [])) := by
        show _ = _
        rw [List.take_add_one, hy, Option.toList_some, prU_snoc, List.append_assoc]
       clear hy
       generalize E ++ prU (n : Int) l u (l.take b) = F at HO5 HPI5 HQ3 hFl hcd ⊢
       have hszr := KR5.out.size
       by_cases glt : u.tr < y.tr
       ·have glt' : decide (u.tr < y.tr) = true := decide_eq_true glt
        have Q3 : Hid (E ++ prU (n : Int) l u (l.take (b + 1)) = F ++ [⟨(n : Int), u, y⟩]) := by show _ = _; rw [HQ3.out, if_pos glt]
        clear glt HQ3
        have KY : Hid (KeepsAll wr (wr.alloc (.cells #[.int .i64 y.tr, .int .i64 y.st] 46))) := (Keeps.refl _ _).alloc _
        go_wp2_with (at_builtin; refine wpList_append_L tyPr RPr.ok rfl (.tmp 34) (.tmp 39) rfl ((HO5.out.alloc RPr.ok _).alloc RPr.ok _) rfl _ [.int .i64 (n : Int), .int .i64 u.tr, .int .i64 u.st, .int .i64 y.tr, .int .i64 y.st] rfl (Blk.new' _ _ _ (by simp)) rfl ⟨(n : Int), u, y⟩ (S := fun _ => False) rfl (fun _ h => h.elim) (by simp [Value.oneCell']) (by omega) (by omega) (by simp; omega) ?_; intro v9 w9 HO9 HK9 HA9; obtain ⟨A9, c9, hv9, _, _⟩ := HO9.form; rw [List.length_append, List.length_singleton] at hv9; subst hv9)
        have kk : KeepsAll wr ((wr.alloc (.cells #[.int .i64 y.tr, .int .i64 y.st] 46)).alloc (.cells #[.int .i64 (n : Int), .int .i64 u.tr, .int .i64 u.st, .int .i64 y.tr, .int .i64 y.st] 55)) := ((Keeps.refl _ _).alloc _).alloc _
        go_roundw
        case rel => exact ⟨b + 1, by omega, by go_num, by rw [Q3.out]; exact HO9, (HPI5.out.keep kk).push HK9 HA9, (KR5.out.tr kk).trans HK9 (fun x hx e => (by have := (HO5.out.lt e).1; omega)), (BU.out.kept kk (by simp)).kept HK9 (fun e => (HO5.out.ne_blk BU.out (by decide)) e)⟩
        case measure => simp [intOf]; omega
       ·have glt' : decide (u.tr < y.tr) = false := decide_eq_false glt
        have Q3 : Hid (E ++ prU (n : Int) l u (l.take (b + 1)) = F) := by show _ = _; rw [HQ3.out, if_neg glt, List.append_nil]
        clear glt HQ3
        have kk : KeepsAll wr (wr.alloc (.cells #[.int .i64 y.tr, .int .i64 y.st] 46)) := (Keeps.refl _ _).alloc _
        have KK := Lib.hid kk
        clear kk
        go_wp2
        go_roundw
        case rel => exact ⟨b + 1, by omega, by go_num, by rw [Q3.out]; exact HO5.out.alloc RPr.ok _, HPI5.out.keep KK.out, KR5.out.tr KK.out, BU.out.kept KK.out (by simp)⟩
        case measure => simp [intOf]; omega
      ·obtain rfl : b = l.length := by omega
       have Q3 : Hid (D ++ prL (n : Int) l (l.take (a + 1)) = E ++ prU (n : Int) l u (l.take l.length)) := by show _ = _; rw [HQ2.out, List.take_length]
       go_wp2
       go_roundw
       case rel => exact ⟨a + 1, by omega, by go_num, by rw [Q3.out]; exact HO5.out, HPI5.out, KR5.out⟩
       case measure => simp [intOf]; omega
    ·obtain rfl : a = l.length := by omega
     rw [List.take_length, prL_all] at HO3 hcc ⊢
     go_wp2
     go_roundw
     case rel => exact ⟨n + 1, by omega, by go_num, by rw [hHQ.out]; exact HO3.out, KR3.out⟩
     case measure => simp [intOf]; omega
  ·obtain rfl : n = 144 := by omega
   go_wp2
   go_ret
   exact ⟨_, _, rfl, HO.out.readF RPr.ok RPr.flat (fun b hb => ⟨by have := (HO.out.lt hb).1; have := K1.out.size; omega, (HO.out.lt hb).2⟩), K1.out.tr KR.out⟩

abbrev RPrs := RSlice 5 RPr
theorem RPrs.ok : Rd.Ok RPrs := RSlice.ok RPr.ok
theorem RPrs.at_ {w : World} {S : Foot} {A : Option Addr} {n c : Nat} {l : List Pr} (h : RPrs w S [.slice A n c] l) {k : Nat} (hk : k < l.length) :
  ∃ b o x, A = some ⟨b, o, none⟩ ∧ S b ∧ l[k]? = some x ∧ w.cell? ⟨b, o + k * 5, none⟩ = some (.int .i64 x.res) ∧ w.cell? ⟨b, o + k * 5 + 1, none⟩ = some (.int .i64 x.u.tr) ∧ w.cell? ⟨b, o + k * 5 + 2, none⟩ = some (.int .i64 x.u.st) ∧ w.cell? ⟨b, o + k * 5 + 3, none⟩ = some (.int .i64 x.v.tr) ∧ w.cell? ⟨b, o + k * 5 + 4, none⟩ = some (.int .i64 x.v.st) := by
 obtain ⟨b, o, x, es, rfl, hb, hx, h1, h2, h3⟩ := h.get hk
 cases h2
 exact ⟨b, o, x, rfl, hb, hx, by simpa using h3 0 _ rfl, by simpa [Nat.add_assoc] using h3 1 _ rfl, by simpa [Nat.add_assoc] using h3 2 _ rfl, by simpa [Nat.add_assoc] using h3 3 _ rfl, by simpa [Nat.add_assoc] using h3 4 _ rfl⟩
def rdC (v : PV) (p : Pb) (Ap : Option Addr) (cp budget used : Nat) (vf : Value) (fd : Bool) (vb : Value) (vc : Int) (ve : Value) : Array Value :=
 #[.slice v.A p.ps.length v.c, .slice v.A2 p.at_.length v.c2, .slice v.A3 p.due.length v.c3, .slice v.A4 p.wgt.length v.c4, .int .i64 p.now, .slice Ap (xs p).length cp, .int .i64 (budget : Int), .int .i64 (used : Int), vf, .bool fd, vb, .int .i64 vc, ve]
/-- the best choice so far -/
def RBest (w : World) (S : Foot) (p : Pb) (best : Option (List Bool × Int)) (fd : Bool) (vb : Value) (vc : Int) (ve : Value) : Prop :=
 match best with
 | none => fd = false
 | some b => fd = true ∧ vc = b.2 ∧ RBools w S [vb] b.1 ∧ RIntss w S [ve] (entB p b.1)
theorem RBest.mono {w w' : World} {S S' : Foot} {p : Pb} {best : Option (List Bool × Int)} {fd : Bool} {vb : Value} {vc : Int} {ve : Value} (h : RBest w S p best fd vb vc ve) (hS : ∀ b, S b → S' b) (hw : ∀ b, S b → w'.heap[b]? = w.heap[b]?) : RBest w' S' p best fd vb vc ve := by
 unfold RBest at *
 cases best with
 | none => exact h
 | some b => exact ⟨h.1, h.2.1, RBools.ok.mono h.2.2.1 hS hw, RIntss.ok.mono h.2.2.2 hS hw⟩
def SBt (rb : Nat) (w : World) (vf : Value) : Foot := fun b => rb < b ∧ b < w.heap.size ∧ vf.ownBlock ≠ some b
/-- the search in memory -/
structure RDs (w0 : World) (rb : Nat) (v : PV) (p : Pb) (Ap : Option Addr) (cp budget : Nat) (w : World) (bs : List Bool) (st : SSt) : Prop where
 k : KeepsAll w0 w
 P : RPb w0 (Old w0) v p
 lo : w0.heap.size ≤ rb
 pr : RPrs w (fun b => b < rb) [.slice Ap (xs p).length cp] (xs p)
 b : ∃ vf fd vb vc ve, Blk w rb 90 (rdC v p Ap cp budget st.steps vf fd vb vc ve) ∧ OwnL 4 1 RBool w (rb + 1) (rb + 1) vf bs ∧ RBest w (SBt rb w vf) p st.best fd vb vc ve
section
variable {w0 w w' : World} {rb : Nat} {v : PV} {p : Pb} {Ap : Option Addr} {cp budget : Nat} {bs : List Bool} {st : SSt}
theorem RDs.rlt (h : RDs w0 rb v p Ap cp budget w bs st) : rb < w.heap.size := by obtain ⟨_, _, _, _, _, hb, _⟩ := h.b; exact hb.lt
theorem RDs.keep (h : RDs w0 rb v p Ap cp budget w bs st) (k : KeepsAll w w') : RDs w0 rb v p Ap cp budget w' bs st := by
 obtain ⟨vf, fd, vb, vc, ve, h1, h2, h3⟩ := h.b
 have hz := h.rlt
 refine ⟨h.k.tr k, h.P, h.lo, RPrs.ok.mono h.pr (fun _ hb => hb) (fun b hb => k.block b (by have : b < rb := hb; omega) (by simp)), vf, fd, vb, vc, ve, h1.kept k (by simp), h2.keepsF RBool.flat k (by simp), h3.mono (fun b hb => ⟨hb.1, Nat.lt_of_lt_of_le hb.2.1 k.size, hb.2.2⟩) (fun b hb => k.block b hb.2.1 (by simp))⟩
/-- what the functions read -/
theorem RDs.rpb (h : RDs w0 rb v p Ap cp budget w bs st) : RPb w (Old w) v p := h.P.kept h.k
end
theorem decs_take (ps : List (List Stage)) {l : List Pr} {bs : List Bool} {i : Nat} {x : Pr} {b : Bool} (hx : l[i]? = some x) (hb : bs[i]? = some b) : decs ps l (bs.take (i + 1)) = decs ps l (bs.take i) ++ [dArc ps x b] := by
 have hl : (bs.take i).length = i := by rw [List.length_take]; have := getElem?_lt hb; omega
 rw [List.take_add_one, hb, Option.toList_some, decs_snoc ps b (by rw [hl]; exact hx)]
/-- Between at a pair -/
theorem betw_pr {p : Pb} (hv : valid p.ps = true) {v : PV} {w : World} (h : RPb w (Old w) v p) {r : Int} {u y : Ref} (hu : u ∈ openA p.ps p.at_ r) :
  Calls Try.prog 24 #[.slice v.A p.ps.length v.c, .int .i64 r, .agg #[.int .i64 u.tr, .int .i64 u.st], .agg #[.int .i64 y.tr, .int .i64 y.st]] w fun e w' => e = .returned (.agg #[.int .i64 (betw p.ps r u y).frm.tr, .int .i64 (betw p.ps r u y).frm.st, .int .i64 y.tr, .int .i64 y.st, .int .i64 0]) ∧ KeepsAll w w' := by
 unfold openA openU at hu
 obtain ⟨hu, _⟩ := List.mem_filter.1 hu
 obtain ⟨tw, kw, pw, sw, hpw, hsw, _, rfl⟩ := mem_allU.1 hu
 have hk : kw ≤ 1000000 := by
  have h1 := getElem?_lt hsw
  have h2 := ((valid_lens hv).2 pw (List.mem_of_getElem? hpw)).2
  omega
 have h1 := relOf_tr p.ps r ⟨(tw : Int), (kw : Int)⟩
 refine (Between_any p.ps r v.A v.c w h.P tw kw pw sw y hpw hsw hk).mono ?_
 rintro e w' ⟨rfl, hk⟩
 refine ⟨?_, hk⟩
 show _ = Ending.returned (.agg #[.int .i64 (relOf p.ps r ⟨(tw : Int), (kw : Int)⟩).tr, _, _, _, _])
 rw [h1]
 rfl

set_option maxRecDepth 100000 in
set_option maxHeartbeats 1000000 in
theorem chosen_any (w0 : World) (rb : Nat) (v : PV) (p : Pb) (Ap : Option Addr) (cp budget : Nat) (w : World) (bs : List Bool) (st : SSt) (h : RDs w0 rb v p Ap cp budget w bs st) (hv : valid p.ps = true) (hl : bs.length ≤ (xs p).length) :
  Calls Try.prog 72 #[.pointer (some ⟨rb, 0, none⟩)] w fun e w' => ∃ A c, e = .returned (.slice A (arcsD p.ps (decs p.ps (xs p) bs)).length c) ∧ RRArcs w' (Fresh w w') [.slice A (arcsD p.ps (decs p.ps (xs p) bs)).length c] (arcsD p.ps (decs p.ps (xs p) bs)) ∧ KeepsAll w w' := by
 obtain ⟨vf, fd, vb, vc, ve, hb, ho, _⟩ := h.b
 obtain ⟨Af, cf, rfl, hcf, hcf2⟩ := ho.form
 have HPB := Lib.hid h.rpb
 have HPR := Lib.hid h.pr
 have HF : Hid (RBools w (Old w) [.slice Af bs.length cf] bs) := ho.readF RBool.ok RBool.flat (fun b hb => (ho.lt hb).2)
 have HB := Lib.hid hb
 have HV := Lib.hid hv
 have HLT := Lib.hid h.rlt
 have hxl := pairsTo_big hv p.at_ 144
 have hxl : (xs p).length ≤ 144 * 409600 := hxl
 have hps := (valid_lens hv).1
 have hcl : (chainR p.ps).length ≤ 640 := by
  have h1 := chainR_len (ps := p.ps) (fun q hq => ((valid_lens hv).2 q hq).2) p.ps.length
  rw [List.take_length] at h1
  omega
 have HCH : Hid (∀ W, KeepsAll w W → Calls Try.prog 23 #[.slice v.A p.ps.length v.c] W fun e w' => ∃ v, e = .returned v ∧ OwnL 57 5 RRArc w' W.heap.size W.heap.size v (chainR p.ps) ∧ KeepsAll W w') := fun W hW => Chain_any p.ps v.A v.c W hv (HPB.out.kept hW).P
 have q0 := hb.cell 0
 have q5 := hb.cell 5
 have q8 := hb.cell 8
 simp [rdC] at q0 q5 q8
 have hbz := hb.lt
 clear h hb ho hv
 go_enter Try.func72, Try.ntmps72
 go_wp2_with fail
 refine (HCH.out w (Keeps.refl _ _)).mono ?_
 rintro e w1 ⟨v1, rfl, hch, k1⟩
 have HC := Lib.hid hch
 have K1 := Lib.hid k1
 have q81 := k1.cellK (p := ⟨rb, 8, none⟩) hbz q8
 have hbz1 := Nat.lt_of_lt_of_le hbz k1.size
 clear hch k1 HCH q0 q5 q8
 go_wp2
 clear q81
 go_loopw [3, 18] (fun vv i wr => ∃ a : Nat, a ≤ bs.length ∧ i = .int .i64 (a : Int) ∧ OwnL 57 5 RRArc wr w.heap.size w.heap.size vv (arcsD p.ps (decs p.ps (xs p) (bs.take a))) ∧ KeepsAll w wr) (fun _ i _ => bs.length - (intOf i).toNat)
 case atStart => exact ⟨0, Nat.zero_le _, rfl, by (have e : arcsD p.ps (decs p.ps (xs p) (bs.take 0)) = chainR p.ps := by unfold arcsD decs; simp); rw [e]; exact HC.out, K1.out⟩
 case round =>
  obtain ⟨a, ha, rfl, ho, hkr⟩ := hrel
  obtain ⟨Ac, cc, rfl, hcc, hcc2⟩ := ho.form
  have HO := Lib.hid ho
  have KR := Lib.hid hkr
  have hEl : (arcsD p.ps (decs p.ps (xs p) (bs.take a))).length ≤ 640 + a := by
   have h1 : (decs p.ps (xs p) (bs.take a)).length ≤ a := by
    unfold decs
    rw [List.length_zipWith]
    have : (bs.take a).length ≤ a := by rw [List.length_take]; omega
    omega
   unfold arcsD
   rw [List.length_append]; omega
  clear ho hkr
  by_cases hlt : a < bs.length
  ·obtain ⟨bf, of_, b, hAf, hbf, hbb, m0⟩ := RBools.at_ HF.out hlt
   subst hAf
   have hax : a < (xs p).length := by omega
   obtain ⟨bp, op, x, hAp, hbp, hx, n0, n1, n2, n3, n4⟩ := RPrs.at_ HPR.out hax
   subst hAp
   have hbp' : bp < rb := hbp
   have hbf' : bf < w.heap.size := hbf
   have hbpw : bp < w.heap.size := by have := HLT.out; omega
   have HQ : Hid (arcsD p.ps (decs p.ps (xs p) (bs.take (a + 1))) = arcsD p.ps (decs p.ps (xs p) (bs.take a)) ++ [dArc p.ps x b]) := by
    show _ = _
    rw [decs_take p.ps hx hbb]
    unfold arcsD
    rw [List.append_assoc]
   obtain ⟨mu, mv, _⟩ := mem_pairs (List.mem_of_getElem? hx)
   have HMU := Lib.hid mu
   have HMV := Lib.hid mv
   replace m0 := KR.out.cellK hbf' m0
   replace n0 := KR.out.cellK hbpw n0
   replace n1 := KR.out.cellK hbpw n1
   replace n2 := KR.out.cellK hbpw n2
   replace n3 := KR.out.cellK hbpw n3
   replace n4 := KR.out.cellK hbpw n4
   have hbr := HB.out.kept KR.out (by simp)
   have r0 := hbr.cell 0
   have r5 := hbr.cell 5
   simp [rdC] at r0 r5
   have hbfr := Nat.lt_of_lt_of_le hbf' KR.out.size
   have hbpr := Nat.lt_of_lt_of_le hbpw KR.out.size
   have hszr := KR.out.size
   have hrr := hbr.lt
   clear mu mv hx hbb hbp hbf hbr
   generalize arcsD p.ps (decs p.ps (xs p) (bs.take a)) = E at HO HQ hEl hcc ⊢
   go_upto_region 6 with (fail)
   generalize hW4 : World.alloc wr _ = W4
   have k4 : KeepsAll wr W4 := by subst hW4; exact (Keeps.refl _ _).alloc _
   have hbx : Blk W4 wr.heap.size 55 #[.int .i64 x.res, .int .i64 x.u.tr, .int .i64 x.u.st, .int .i64 x.v.tr, .int .i64 x.v.st] := by subst hW4; exact Blk.new _ _ _
   have KW4 := Lib.hid (KR.out.tr k4)
   have HO4 := Lib.hid (HO.out.keeps RRArc.ok k4 (fun _ _ h => h.elim))
   have r04 := k4.cellK (p := ⟨rb, 0, none⟩) hrr r0
   have nr : ¬ ((Value.slice Ac E.length cc).ownBlock = some rb) := fun e => by have := (HO.out.lt e).1; have := HLT.out; omega
   have nx : ¬ ((Value.slice Ac E.length cc).ownBlock = some wr.heap.size) := fun e => by have := (HO.out.lt e).2; omega
   have x0 := hbx.cell 0
   have x1 := hbx.cell 1
   have x2 := hbx.cell 2
   have x3 := hbx.cell 3
   have x4 := hbx.cell 4
   simp at x0 x1 x2 x3 x4
   clear hW4 k4 hbx HO r0 r5 m0 n0 n1 n2 n3 n4
   generalize wr.heap.size = zx at *
   cases b with
   | true =>
    have HBW : Hid (∀ W, KeepsAll w W → Calls Try.prog 24 #[.slice v.A p.ps.length v.c, .int .i64 x.res, .agg #[.int .i64 x.u.tr, .int .i64 x.u.st], .agg #[.int .i64 x.v.tr, .int .i64 x.v.st]] W fun e w' => e = .returned (.agg #[.int .i64 (betw p.ps x.res x.u x.v).frm.tr, .int .i64 (betw p.ps x.res x.u x.v).frm.st, .int .i64 x.v.tr, .int .i64 x.v.st, .int .i64 0]) ∧ KeepsAll W w') := fun W hW =>
     betw_pr HV.out (HPB.out.kept hW) HMU.out
    have HD : Hid (dArc p.ps x true = ⟨⟨(betw p.ps x.res x.u x.v).frm.tr, (betw p.ps x.res x.u x.v).frm.st⟩, ⟨x.v.tr, x.v.st⟩, 0⟩) := rfl
    generalize (betw p.ps x.res x.u x.v).frm.tr = ft at *
    generalize (betw p.ps x.res x.u x.v).frm.st = fs at *
    go_wp2
    refine wp_region_lex (fun w' => ∃ y : ExtC (fun b => (Value.slice Ac E.length cc).ownBlock = some b) W4, w' = y.val) [0, 1, 2, 3, 4, 5, 6, 7, 8, 9, 10, 11, 12, 13, 14, 15] (by kernel_rfl) (by kernel_rfl) (ExtC.start _ _) ?_
    have y0 := ExtC.cell (C := fun b => (Value.slice Ac E.length cc).ownBlock = some b) r04 nr
    have z0 := ExtC.cell (C := fun b => (Value.slice Ac E.length cc).ownBlock = some b) x0 nx
    have z1 := ExtC.cell (C := fun b => (Value.slice Ac E.length cc).ownBlock = some b) x1 nx
    have z2 := ExtC.cell (C := fun b => (Value.slice Ac E.length cc).ownBlock = some b) x2 nx
    have z3 := ExtC.cell (C := fun b => (Value.slice Ac E.length cc).ownBlock = some b) x3 nx
    have z4 := ExtC.cell (C := fun b => (Value.slice Ac E.length cc).ownBlock = some b) x4 nx
    iterate 12 (first | (refine lex_q _ rfl rfl rfl ?_; go_big_quiet_step (fail); refine wpQuiet_nil ?_) | (refine lex_nil _ rfl _ rfl rfl _ rfl ?_; go_simp))
    clear y0 z0 z1 z2 z3 z4
    refine lex_a _ rfl rfl true (by kernel_rfl) ?_
    go_wp2_with fail
    refine (HBW.out _ KW4.out.drew).mono ?_
    rintro e w6 ⟨rfl, k6⟩
    have K46 := Lib.hid ((Keeps.refl (fun b => (Value.slice Ac E.length cc).ownBlock = some b) W4).drew.trans k6 (fun _ _ h => h.elim))
    have K6 := Lib.hid (KW4.out.drew.tr k6)
    have HO6 := Lib.hid ((HO4.out.drew RRArc.ok).keeps RRArc.ok k6 (fun _ _ h => h.elim))
    clear k6 HBW
    go_wp2
    refine ⟨fun _ => ⟨⟨_, K46.out⟩, rfl⟩, ?_⟩
    refine lex_a _ rfl rfl true (by kernel_rfl) ?_
    go_wp2
    refine ⟨fun _ => ⟨⟨_, K46.out.alloc _⟩, rfl⟩, ?_⟩
    generalize hW7 : World.alloc w6 _ = W7
    have k7 : KeepsAll w6 W7 := by subst hW7; exact (Keeps.refl _ _).alloc _
    have BY : Hid (Blk W7 w6.heap.size 57 [.int .i64 ft, .int .i64 fs, .int .i64 x.v.tr, .int .i64 x.v.st, .int .i64 0].toArray) := by subst hW7; exact Blk.new _ _ _
    have HO7 := Lib.hid (HO6.out.keeps RRArc.ok k7 (fun _ _ h => h.elim))
    have K7 := Lib.hid (K6.out.tr k7)
    have hz7 := K7.out.size
    have K47 := Lib.hid (K46.out.trans k7 (fun _ _ h => h.elim))
    clear hW7 k7 K46 HO6 K6
    refine lex_a _ rfl rfl true (by kernel_rfl) ?_
    go_wp2_with (at_builtin; go_loud (refine wpList_append_L tyRArc RRArc.ok rfl (.tmp 31) (.tmp 44) rfl HO7.out rfl _ [.int .i64 ft, .int .i64 fs, .int .i64 x.v.tr, .int .i64 x.v.st, .int .i64 0] rfl BY.out rfl ⟨⟨ft, fs⟩, ⟨x.v.tr, x.v.st⟩, 0⟩ (S := fun _ => False) rfl (fun _ h => h.elim) (by simp [Value.oneCell']) (by omega) (by omega) hz7 ?_; intro v9 w9 HO9 HK9 HA9; obtain ⟨A9, c9, hv9, _, _⟩ := HO9.form; rw [List.length_append, List.length_singleton] at hv9; subst hv9))
    refine ⟨fun _ => ⟨⟨_, K47.out.trans HK9 (fun _ _ h => h)⟩, rfl⟩, ?_⟩
    refine lex_q _ rfl rfl rfl ?_; go_big_quiet_step (fail); refine wpQuiet_nil ?_
    simp only [wpLex]
    refine NoPanic.normal ?_
    have KF : Hid (KeepsAll w w9) := K7.out.trans HK9 (fun y hy e => (by have := (HO7.out.lt e).1; omega))
    have HOF := Lib.hid HO9
    clear HO9 HK9 HA9 HO7 K7 BY
    go_wp2
    go_roundw
    case rel => exact ⟨a + 1, by omega, by go_num, by rw [HQ.out, HD.out]; first | exact HOF.out | exact HOF.out.drew RRArc.ok, by first | exact KF.out | exact KF.out.drew⟩
    case measure => simp [intOf]; omega
   | false =>
    have HBW : Hid (∀ W, KeepsAll w W → Calls Try.prog 24 #[.slice v.A p.ps.length v.c, .int .i64 x.res, .agg #[.int .i64 x.v.tr, .int .i64 x.v.st], .agg #[.int .i64 x.u.tr, .int .i64 x.u.st]] W fun e w' => e = .returned (.agg #[.int .i64 (betw p.ps x.res x.v x.u).frm.tr, .int .i64 (betw p.ps x.res x.v x.u).frm.st, .int .i64 x.u.tr, .int .i64 x.u.st, .int .i64 0]) ∧ KeepsAll W w') := fun W hW =>
     betw_pr HV.out (HPB.out.kept hW) HMV.out
    have HD : Hid (dArc p.ps x false = ⟨⟨(betw p.ps x.res x.v x.u).frm.tr, (betw p.ps x.res x.v x.u).frm.st⟩, ⟨x.u.tr, x.u.st⟩, 0⟩) := rfl
    generalize (betw p.ps x.res x.v x.u).frm.tr = ft at *
    generalize (betw p.ps x.res x.v x.u).frm.st = fs at *
    go_wp2
    refine wp_region_lex (fun w' => ∃ y : ExtC (fun b => (Value.slice Ac E.length cc).ownBlock = some b) W4, w' = y.val) [0, 1, 2, 3, 4, 5, 6, 7, 8, 9, 10, 11, 12, 13, 14, 15] (by kernel_rfl) (by kernel_rfl) (ExtC.start _ _) ?_
    have y0 := ExtC.cell (C := fun b => (Value.slice Ac E.length cc).ownBlock = some b) r04 nr
    have z0 := ExtC.cell (C := fun b => (Value.slice Ac E.length cc).ownBlock = some b) x0 nx
    have z1 := ExtC.cell (C := fun b => (Value.slice Ac E.length cc).ownBlock = some b) x1 nx
    have z2 := ExtC.cell (C := fun b => (Value.slice Ac E.length cc).ownBlock = some b) x2 nx
    have z3 := ExtC.cell (C := fun b => (Value.slice Ac E.length cc).ownBlock = some b) x3 nx
    have z4 := ExtC.cell (C := fun b => (Value.slice Ac E.length cc).ownBlock = some b) x4 nx
    iterate 12 (first | (refine lex_q _ rfl rfl rfl ?_; go_big_quiet_step (fail); refine wpQuiet_nil ?_) | (refine lex_nil _ rfl _ rfl rfl _ rfl ?_; go_simp))
    clear y0 z0 z1 z2 z3 z4
    refine lex_a _ rfl rfl true (by kernel_rfl) ?_
    go_wp2_with fail
    refine (HBW.out _ KW4.out.drew).mono ?_
    rintro e w6 ⟨rfl, k6⟩
    have K46 := Lib.hid ((Keeps.refl (fun b => (Value.slice Ac E.length cc).ownBlock = some b) W4).drew.trans k6 (fun _ _ h => h.elim))
    have K6 := Lib.hid (KW4.out.drew.tr k6)
    have HO6 := Lib.hid ((HO4.out.drew RRArc.ok).keeps RRArc.ok k6 (fun _ _ h => h.elim))
    clear k6 HBW
    go_wp2
    refine ⟨fun _ => ⟨⟨_, K46.out⟩, rfl⟩, ?_⟩
    refine lex_a _ rfl rfl true (by kernel_rfl) ?_
    go_wp2
    refine ⟨fun _ => ⟨⟨_, K46.out.alloc _⟩, rfl⟩, ?_⟩
    generalize hW7 : World.alloc w6 _ = W7
    have k7 : KeepsAll w6 W7 := by subst hW7; exact (Keeps.refl _ _).alloc _
    have BY : Hid (Blk W7 w6.heap.size 57 [.int .i64 ft, .int .i64 fs, .int .i64 x.u.tr, .int .i64 x.u.st, .int .i64 0].toArray) := by subst hW7; exact Blk.new _ _ _
    have HO7 := Lib.hid (HO6.out.keeps RRArc.ok k7 (fun _ _ h => h.elim))
    have K7 := Lib.hid (K6.out.tr k7)
    have hz7 := K7.out.size
    have K47 := Lib.hid (K46.out.trans k7 (fun _ _ h => h.elim))
    clear hW7 k7 K46 HO6 K6
    refine lex_a _ rfl rfl true (by kernel_rfl) ?_
    go_wp2_with (at_builtin; go_loud (refine wpList_append_L tyRArc RRArc.ok rfl (.tmp 46) (.tmp 59) rfl HO7.out rfl _ [.int .i64 ft, .int .i64 fs, .int .i64 x.u.tr, .int .i64 x.u.st, .int .i64 0] rfl BY.out rfl ⟨⟨ft, fs⟩, ⟨x.u.tr, x.u.st⟩, 0⟩ (S := fun _ => False) rfl (fun _ h => h.elim) (by simp [Value.oneCell']) (by omega) (by omega) hz7 ?_; intro v9 w9 HO9 HK9 HA9; obtain ⟨A9, c9, hv9, _, _⟩ := HO9.form; rw [List.length_append, List.length_singleton] at hv9; subst hv9))
    refine ⟨fun _ => ⟨⟨_, K47.out.trans HK9 (fun _ _ h => h)⟩, rfl⟩, ?_⟩
    refine lex_q _ rfl rfl rfl ?_; go_big_quiet_step (fail); refine wpQuiet_nil ?_
    simp only [wpLex]
    refine NoPanic.normal ?_
    have KF : Hid (KeepsAll w w9) := K7.out.trans HK9 (fun y hy e => (by have := (HO7.out.lt e).1; omega))
    have HOF := Lib.hid HO9
    clear HO9 HK9 HA9 HO7 K7 BY
    go_wp2
    go_roundw
    case rel => exact ⟨a + 1, by omega, by go_num, by rw [HQ.out, HD.out]; first | exact HOF.out | exact HOF.out.drew RRArc.ok, by first | exact KF.out | exact KF.out.drew⟩
    case measure => simp [intOf]; omega
  ·obtain rfl : a = bs.length := by omega
   rw [List.take_length] at HO hcc hEl ⊢
   go_wp2
   go_ret
   exact ⟨_, _, rfl, HO.out.readF RRArc.ok RRArc.flat (fun b hb => HO.out.lt hb), KR.out⟩

end Go.Proofs.Ytilbbpbjhoidhaa
