/- Contract of the reference's Open of chapter 37. Conditions: as the theorem says. Contract of the reference's Pairs of chapter 37. Conditions: as the theorem says. The statement DispatchBound: its function returns true. No condition beyond the arguments' reading. From a row's argument that is a slice of integers to its reading. No condition. -/
import Derived.Test.YtilbbpbjhoidhaaL46
import Derived.Test.YtilbbpbjhoidhaaL41
import Derived.Test.YtilbbpbjhoidhaaL15
import Derived.Test.YtilbbpbjhoidhaaL01
import Derived.Test.YtilbbpbjhoidhaaRows
import Derived.ProofKit
import Derived.OpenShut
import Derived.ShutString
import Derived.ChangeOld
import Derived.Below
namespace Go.Proofs.Ytilbbpbjhoidhaa
open Go.RowKit

set_option maxRecDepth 100000 in
set_option maxHeartbeats 1000000 in
theorem ROpen_any (p : Pb) (v : PV) (w : World) (r : Int) (h : RPb w (Old w) v p) (hv : valid p.ps = true) (hal : p.at_.length = p.ps.length) :
  Calls Try.prog 56 #[.agg (v.cs p), .int .i64 r] w fun e w' => ∃ A c, e = .returned (.slice A (openA p.ps p.at_ r).length c) ∧ RRefs w' (Fresh w w') [.slice A (openA p.ps p.at_ r).length c] (openA p.ps p.at_ r) ∧ KeepsAll w w' := by
 have H := Lib.hid h
 have HV := Lib.hid hv
 have HAL := Lib.hid hal
 clear h hal
 unfold PV.cs
 go_enter Try.func56, Try.ntmps56
 go_wp2_with fail
 generalize hW1 : World.alloc w _ = W1
 have k1 : KeepsAll w W1 := by subst hW1; exact (Keeps.refl _ _).alloc _
 have hb1 : Blk W1 w.heap.size 25 #[.slice v.A p.ps.length v.c, .slice v.A2 p.at_.length v.c2, .slice v.A3 p.due.length v.c3, .slice v.A4 p.wgt.length v.c4, .int .i64 p.now] := by subst hW1; exact Blk.new _ _ _
 have HB1 := Lib.hid hb1
 have K1 := Lib.hid k1
 clear hW1 k1 hb1
 refine (All_any p.ps r v.A v.c W1 hv (H.out.kept K1.out).P).mono ?_
 rintro e w2 ⟨v2, rfl, hall, k2⟩
 obtain ⟨Ax, cx, hv2, hcx, hcx2⟩ := hall.form
 subst hv2
 have hlen := allU_640 HV.out r
 have HL : Hid (RRefs w2 (Old w2) [.slice Ax (allU p.ps r).length cx] (allU p.ps r)) := hall.readF RRef.ok RRef.flat (fun b hb => (hall.lt hb).2)
 have K2 := Lib.hid (K1.out.tr k2)
 have HB2 := Lib.hid (HB1.out.kept k2 (by simp))
 have HR2 := Lib.hid (H.out.kept K2.out)
 have hsz := K2.out.size
 have HSZ := Lib.hid hsz
 clear hall k2 HB1 K1 hv hsz
 generalize w.heap.size = zp at *
 go_wp2
 go_loopw [5, 15] (fun vv i wr => ∃ b : Nat, b ≤ (allU p.ps r).length ∧ i = .int .i64 (b : Int) ∧ OwnL 46 2 RRef wr w2.heap.size w2.heap.size vv (openU p.ps p.at_ r ((allU p.ps r).take b)) ∧ KeepsAll w2 wr) (fun _ i _ => (allU p.ps r).length - (intOf i).toNat)
 case atStart => exact ⟨0, Nat.zero_le _, rfl, OwnL.nil, Keeps.refl _ _⟩
 case round =>
  obtain ⟨b, hb, rfl, ho, hkr⟩ := hrel
  obtain ⟨Ab, cb, rfl, hcb, hcb2⟩ := ho.form
  have HO4 := Lib.hid ho; clear ho
  have KB := Lib.hid hkr; clear hkr
  have hszb := KB.out.size
  have hEl : (openU p.ps p.at_ r ((allU p.ps r).take b)).length ≤ 640 := by
   have h1 := openU_len p.ps p.at_ r ((allU p.ps r).take b)
   have h2 : ((allU p.ps r).take b).length ≤ (allU p.ps r).length := by simp; omega
   omega
  have hbp := HB2.out.kept KB.out (by simp)
  have f0 := hbp.cell 0
  have f1 := hbp.cell 1
  simp at f0 f1
  have hzo := hbp.lt
  have HBP := Lib.hid hbp
  clear hbp
  by_cases hltb : b < (allU p.ps r).length
  ·obtain ⟨bx, ox, u, hbo, hbxl, hu, m0, m1⟩ := RRefs.atK KB.out HL.out hltb
   subst hbo
   obtain ⟨tw, kw, pw, sw, hpw, hsw, _, hwe⟩ := mem_allU.1 (List.mem_of_getElem? hu)
   subst hwe
   simp only [] at m0 m1
   have HQ2 : Hid (openU p.ps p.at_ r ((allU p.ps r).take (b + 1)) = openU p.ps p.at_ r ((allU p.ps r).take b) ++ (if overB p.ps p.at_ ⟨(tw : Int), (kw : Int)⟩ r = true then [] else [⟨(tw : Int), (kw : Int)⟩])) := by
    show _ = _
    rw [List.take_add_one, hu, Option.toList_some, openU_snoc]
   have htw := getElem?_lt hpw
   obtain ⟨xw, hxw⟩ : ∃ x, p.at_[tw]? = some x := ⟨_, List.getElem?_eq_getElem (by rw [HAL.out]; exact htw)⟩
   have HCL : Hid (∀ W, KeepsAll w2 W → Calls Try.prog 78 #[.slice v.A p.ps.length v.c, .slice v.A2 p.at_.length v.c2, .agg #[.int .i64 (tw : Int), .int .i64 (kw : Int)], .int .i64 r] W fun e w' => e = .returned (.bool (overB p.ps p.at_ ⟨(tw : Int), (kw : Int)⟩ r)) ∧ KeepsAll W w') := fun W hW =>
    Over_any p.ps p.at_ r v.A v.A2 v.c v.c2 W (HR2.out.kept hW).P (HR2.out.kept hW).A tw kw pw sw xw hpw hsw hxw
   clear hu hpw hsw hxw
   generalize openU p.ps p.at_ r ((allU p.ps r).take b) = E at HO4 HQ2 hEl hcb ⊢
   go_wp2_with fail
   generalize hW4 : World.alloc wr _ = W4
   have KW4 : KeepsAll wr W4 := by subst hW4; exact (Keeps.refl _ _).alloc _
   have BV : Hid (Blk W4 wr.heap.size 46 #[.int .i64 (tw : Int), .int .i64 (kw : Int)]) := by subst hW4; exact Blk.new _ _ _
   have KB4 := Lib.hid (KB.out.tr KW4)
   have HO5 := Lib.hid (HO4.out.keeps RRef.ok KW4 (fun _ _ h => h.elim))
   clear hW4 KW4 m0 m1 f0 f1 hbxl hzo HO4
   generalize wr.heap.size = zv at *
   refine (HCL.out W4 KB4.out).mono ?_
   rintro e w6 ⟨rfl, k6⟩
   have K6 := Lib.hid (KB4.out.tr k6)
   have HO6 := Lib.hid (HO5.out.keeps RRef.ok k6 (fun _ _ h => h.elim))
   have bv := BV.out.kept k6 (by simp)
   have e0 := bv.cell 0
   have e1 := bv.cell 1
   simp at e0 e1
   have hzv := bv.lt
   have hz6 := K6.out.size
   clear k6 bv BV HO5 KB4 HCL
   by_cases gov : overB p.ps p.at_ ⟨(tw : Int), (kw : Int)⟩ r = true
   ·rw [gov]
    have Q2 : Hid (openU p.ps p.at_ r ((allU p.ps r).take (b + 1)) = E) := by show _ = _; rw [HQ2.out, if_pos gov, List.append_nil]
    clear gov HQ2
    go_wp2
    go_roundw
    case rel => exact ⟨b + 1, by omega, by go_num, by rw [Q2.out]; exact HO6.out, K6.out⟩
    case measure => simp [intOf]; omega
   ·have gov' : overB p.ps p.at_ ⟨(tw : Int), (kw : Int)⟩ r = false := by simpa using gov
    rw [gov']
    have Q2 : Hid (openU p.ps p.at_ r ((allU p.ps r).take (b + 1)) = E ++ [⟨(tw : Int), (kw : Int)⟩]) := by show _ = _; rw [HQ2.out, if_neg gov]
    clear gov gov' HQ2
    go_wp2_with (at_builtin; refine wpList_append_L tyRef RRef.ok rfl (.tmp 27) (.tmp 29) rfl (HO6.out.alloc RRef.ok _) rfl _ [.int .i64 (tw : Int), .int .i64 (kw : Int)] rfl (Blk.new' _ _ _ (by simp)) rfl ⟨(tw : Int), (kw : Int)⟩ (S := fun _ => False) rfl (fun _ h => h.elim) (by simp [Value.oneCell']) (by omega) (by omega) (by simp; omega) ?_; intro v9 w9 HO9 HK9 HA9; obtain ⟨A9, c9, hv9, _, _⟩ := HO9.form; rw [List.length_append, List.length_singleton] at hv9; subst hv9)
    go_roundw
    case rel => exact ⟨b + 1, by omega, by go_num, by rw [Q2.out]; exact HO9, ((K6.out.alloc _).trans HK9 (fun x hx e => (by have := HO6.out.lt e; omega)))⟩
    case measure => simp [intOf]; omega
  ·obtain rfl : b = (allU p.ps r).length := by omega
   rw [List.take_length] at HO4 hEl hcb ⊢
   have HE : Hid (openU p.ps p.at_ r (allU p.ps r) = openA p.ps p.at_ r) := rfl
   rw [HE.out] at HO4 ⊢
   go_wp2
   go_ret
   exact ⟨_, _, rfl, HO4.out.readF RRef.ok RRef.flat (fun b hb => ⟨by have := (HO4.out.lt hb).1; have := K2.out.size; omega, (HO4.out.lt hb).2⟩), K2.out.tr KB.out⟩

def RPr : Rd Pr := fun _ _ cs x => cs = [.int .i64 x.res, .int .i64 x.u.tr, .int .i64 x.u.st, .int .i64 x.v.tr, .int .i64 x.v.st]
theorem RPr.ok : Rd.Ok RPr := ⟨fun h _ _ => h⟩
theorem RPr.flat : Rd.Flat RPr := fun _ _ _ _ _ _ h => h
theorem tyPr : ElemTy Try.prog 50 55 5 40 := .mk' Try.underlying50 (z := .agg #[.int .i64 0, .int .i64 0, .int .i64 0, .int .i64 0, .int .i64 0]) (by kernel_rfl) rfl (by omega)
def prU (r : Int) (_l : List Ref) (u : Ref) (m : List Ref) : List Pr := (m.filter fun v => decide (u.tr < v.tr)).map fun v => ⟨r, u, v⟩
def prL (r : Int) (l m : List Ref) : List Pr := m.flatMap fun u => prU r l u l
theorem prL_all (r : Int) (l : List Ref) : prL r l l = pairsL r l := rfl
theorem prL_snoc (r : Int) (l m : List Ref) (u : Ref) : prL r l (m ++ [u]) = prL r l m ++ prU r l u l := by unfold prL; rw [List.flatMap_append]; simp
theorem prU_snoc (r : Int) (l : List Ref) (u : Ref) (m : List Ref) (v : Ref) : prU r l u (m ++ [v]) = prU r l u m ++ (if u.tr < v.tr then [⟨r, u, v⟩] else []) := by
 unfold prU
 rw [List.filter_append, List.map_append]
 by_cases h : u.tr < v.tr
 ·simp [h]
 ·simp [h]
theorem prU_len (r : Int) (l : List Ref) (u : Ref) (m : List Ref) : (prU r l u m).length ≤ m.length := by
 unfold prU; rw [List.length_map]; exact List.length_filter_le _ _
theorem prL_len (r : Int) (l : List Ref) (B : Nat) (hB : l.length ≤ B) : ∀ m : List Ref, (prL r l m).length ≤ m.length * B
 | [] => by simp [prL]
 | a :: m => by
  have h1 := prL_len r l B hB m
  have h2 := prU_len r l a l
  have e : prL r l (a :: m) = prU r l a l ++ prL r l m := rfl
  rw [e, List.length_append, List.length_cons, Nat.add_mul]
  omega
theorem pairsTo_succ (ps : List (List Stage)) (at_ : List Int) (n : Nat) : pairsTo ps at_ (n + 1) = pairsTo ps at_ n ++ pairsL (n : Int) (openA ps at_ (n : Int)) := by
 unfold pairsTo
 rw [List.range_succ, List.flatMap_append]
 simp
theorem pairsTo_big {ps : List (List Stage)} (hv : valid ps = true) (at_ : List Int) : ∀ n, (pairsTo ps at_ n).length ≤ n * 409600
 | 0 => by simp [pairsTo]
 | n + 1 => by
  have h1 := pairsTo_big hv at_ n
  have h2 := Nat.le_trans (openA_len ps at_ (n : Int)) (allU_640 hv (n : Int))
  have h3 := prL_len (n : Int) (openA ps at_ (n : Int)) 640 h2 (openA ps at_ (n : Int))
  rw [prL_all] at h3
  have h4 : (openA ps at_ (n : Int)).length * 640 ≤ 640 * 640 := Nat.mul_le_mul_right _ h2
  rw [pairsTo_succ, List.length_append, Nat.add_mul]
  omega

/-- the list of pairs grows while the uses of a resource stay -/
structure PrI (wo w2 wr : World) (vv : Value) : Prop where
 k : Keeps (fun b => b < wo.heap.size) w2 wr
 ow : ∀ b, vv.ownBlock = some b → b < wo.heap.size ∨ w2.heap.size ≤ b
theorem PrI.keep {wo w2 wr w' : World} {vv : Value} (h : PrI wo w2 wr vv) (k : KeepsAll wr w') : PrI wo w2 w' vv := ⟨h.k.trans k (fun _ _ e => e.elim), h.ow⟩
theorem PrI.push {wo w2 wr w9 : World} {vv v9 : Value} (h : PrI wo w2 wr vv) (k : Keeps (fun b => vv.ownBlock = some b) wr w9) (hn : v9.ownBlock = vv.ownBlock ∨ v9.ownBlock = some wr.heap.size) : PrI wo w2 w9 v9 := by
 refine ⟨h.k.trans k (fun b hb e => ?_), fun b hb => ?_⟩
 ·rcases h.ow b e with h1 | h1
  ·exact h1
  ·omega
 ·rcases hn with hn | hn
  ·exact h.ow b (by rw [← hn]; exact hb)
  ·rw [hn] at hb
   injection hb with hb
   have := h.k.size
   exact .inr (by omega)
theorem PrI.rd {wo w2 wr : World} {vv : Value} (h : PrI wo w2 wr vv) {α : Type} {E : Rd α} (hE : Rd.Ok E) {cs : List Value} {x : α} (hr : E w2 (Fresh wo w2) cs x) : E wr (Old wr) cs x :=
 hE.mono hr (fun b hb => Nat.lt_of_lt_of_le hb.2 h.k.size) (fun b hb => h.k.block b hb.2 (by have := hb.1; show ¬ b < _; omega))

set_option maxRecDepth 100000 in
set_option maxHeartbeats 1000000 in
theorem RPairs_any (p : Pb) (v : PV) (w : World) (h : RPb w (Old w) v p) (hv : valid p.ps = true) (hal : p.at_.length = p.ps.length) :
  Calls Try.prog 22 #[.agg (v.cs p)] w fun e w' => ∃ A c, e = .returned (.slice A (xs p).length c) ∧ RSlice 5 RPr w' (Fresh w w') [.slice A (xs p).length c] (xs p) ∧ KeepsAll w w' := by
 have H := Lib.hid h
 have HV := Lib.hid hv
 have HOP : Hid (∀ W, KeepsAll w W → ∀ r : Int, Calls Try.prog 56 #[.agg #[.slice v.A p.ps.length v.c, .slice v.A2 p.at_.length v.c2, .slice v.A3 p.due.length v.c3, .slice v.A4 p.wgt.length v.c4, .int .i64 p.now], .int .i64 r] W fun e w' => ∃ A c, e = .returned (.slice A (openA p.ps p.at_ r).length c) ∧ RRefs w' (Fresh W w') [.slice A (openA p.ps p.at_ r).length c] (openA p.ps p.at_ r) ∧ KeepsAll W w') := fun W hW r => ROpen_any p v W r (H.out.kept hW) hv hal
 clear h hal hv
 unfold PV.cs
 go_enter Try.func22, Try.ntmps22
 go_wp2
 generalize hW1 : World.alloc w _ = W1
 have k1 : KeepsAll w W1 := by subst hW1; exact (Keeps.refl _ _).alloc _
 have hb1 : Blk W1 w.heap.size 25 #[.slice v.A p.ps.length v.c, .slice v.A2 p.at_.length v.c2, .slice v.A3 p.due.length v.c3, .slice v.A4 p.wgt.length v.c4, .int .i64 p.now] := by subst hW1; exact Blk.new _ _ _
 have HB1 := Lib.hid hb1
 have K1 := Lib.hid k1
 clear hW1 k1 hb1
 obtain ⟨zp, hzp⟩ : ∃ z, z = w.heap.size := ⟨_, rfl⟩
 rw [← hzp] at HB1 ⊢
 clear hzp
 go_loopw [3, 4] (fun vv i wr => ∃ n : Nat, n ≤ 144 ∧ i = .int .i64 (n : Int) ∧ OwnL 55 5 RPr wr W1.heap.size W1.heap.size vv (pairsTo p.ps p.at_ n) ∧ KeepsAll W1 wr) (fun _ i _ => 144 - (intOf i).toNat)
 case atStart => exact ⟨0, Nat.zero_le _, rfl, OwnL.nil, Keeps.refl _ _⟩
 case round =>
  obtain ⟨n, hn, rfl, ho, hkr⟩ := hrel
  obtain ⟨Ab, cb, rfl, hcb, hcb2⟩ := ho.form
  have HO := Lib.hid ho
  have KR := Lib.hid hkr
  have hDl := pairsTo_big HV.out p.at_ n
  have hbp := HB1.out.kept hkr (by simp)
  have f0 := hbp.cell 0
  have f1 := hbp.cell 1
  have f2 := hbp.cell 2
  have f3 := hbp.cell 3
  have f4 := hbp.cell 4
  simp at f0 f1 f2 f3 f4
  have HBP := Lib.hid hbp
  clear ho hkr hbp
  by_cases hlt : n < 144
  ·have hHQ := Lib.hid (pairsTo_succ p.ps p.at_ n)
   generalize pairsTo p.ps p.at_ n = D at HO hHQ hDl hcb ⊢
   go_wp2_with fail
   refine (HOP.out wr (K1.out.tr KR.out) (n : Int)).mono ?_
   rintro e w2 ⟨Al, cl, rfl, hl, k2⟩
   have hll := Nat.le_trans (openA_len p.ps p.at_ (n : Int)) (allU_640 HV.out (n : Int))
   have HL : Hid (RRefs w2 (Old w2) [.slice Al (openA p.ps p.at_ (n : Int)).length cl] (openA p.ps p.at_ (n : Int))) := RRefs.ok.mono hl (fun _ hb => hb.2) (fun _ _ => rfl)
   have HO2 := Lib.hid (HO.out.keeps RPr.ok k2 (fun _ _ h => h.elim))
   have K2 := Lib.hid (KR.out.tr k2)
   have HLF := Lib.hid hl
   have hPI : PrI wr w2 w2 (.slice Ab D.length cb) := ⟨Keeps.refl _ _, fun b hb => .inl (HO.out.lt hb).2⟩
   have HPI := Lib.hid hPI
   clear hl k2 f0 f1 f2 f3 f4 HBP HO hPI HL
   obtain ⟨wo, rfl⟩ : ∃ wo : World, wo = wr := ⟨_, rfl⟩
   generalize openA p.ps p.at_ (n : Int) = l at *
   go_wp2
   go_loopw [3, 19] (fun vv i wr => ∃ a : Nat, a ≤ l.length ∧ i = .int .i64 (a : Int) ∧ OwnL 55 5 RPr wr W1.heap.size W1.heap.size vv (D ++ prL (n : Int) l (l.take a)) ∧ PrI wo w2 wr vv ∧ KeepsAll W1 wr) (fun _ i _ => l.length - (intOf i).toNat)
   case atStart => exact ⟨0, Nat.zero_le _, rfl, by simpa [prL] using HO2.out, HPI.out, K2.out⟩
   case round =>
    obtain ⟨a, ha, rfl, ho, hpi, hkr⟩ := hrel
    obtain ⟨Ac, cc, rfl, hcc, hcc2⟩ := ho.form
    clear HO2 HPI K2 hcb hcb2
    have HO3 := Lib.hid ho
    have HPI := Lib.hid hpi
    have KR3 := Lib.hid hkr
    have hEl : (D ++ prL (n : Int) l (l.take a)).length ≤ n * 409600 + 640 * 640 := by
     have h3 := prL_len (n : Int) l 640 hll (l.take a)
     have h4 : (l.take a).length * 640 ≤ 640 * 640 := Nat.mul_le_mul_right _ (by rw [List.length_take]; omega)
     rw [List.length_append]; omega
    clear ho hpi hkr
    by_cases hlta : a < l.length
    ·obtain ⟨bx, ox, u, hAx, hbx, hu, m0, m1⟩ := RRefs.atK (Keeps.refl _ _) (HPI.out.rd RRefs.ok HLF.out) hlta
     subst hAx
     have HQ2 : Hid (D ++ prL (n : Int) l (l.take (a + 1)) = D ++ prL (n : Int) l (l.take a) ++ prU (n : Int) l u l) := by
      show _ = _
      rw [List.take_add_one, hu, Option.toList_some, prL_snoc, List.append_assoc]
     clear hu
     generalize D ++ prL (n : Int) l (l.take a) = E at HO3 HPI HQ2 hEl hcc ⊢
     go_wp2
     generalize hW4 : World.alloc wr _ = W4
     have KW4 : KeepsAll wr W4 := by subst hW4; exact (Keeps.refl _ _).alloc _
     have BU : Hid (Blk W4 wr.heap.size 46 #[.int .i64 u.tr, .int .i64 u.st]) := by subst hW4; exact Blk.new _ _ _
     have HO4 := Lib.hid (HO3.out.keeps RPr.ok KW4 (fun _ _ h => h.elim))
     have HPI4 := Lib.hid (HPI.out.keep KW4)
     have KR4 := Lib.hid (KR3.out.tr KW4)
     clear hW4 KW4 m0 m1 HO3 HPI KR3 hbx
     generalize wr.heap.size = zu at *
     go_loopw [3, 25] (fun vv i wr => ∃ b : Nat, b ≤ l.length ∧ i = .int .i64 (b : Int) ∧ OwnL 55 5 RPr wr W1.heap.size W1.heap.size vv (E ++ prU (n : Int) l u (l.take b)) ∧ PrI wo w2 wr vv ∧ KeepsAll W1 wr ∧ Blk wr zu 46 #[.int .i64 u.tr, .int .i64 u.st]) (fun _ i _ => l.length - (intOf i).toNat)
     case atStart => exact ⟨0, Nat.zero_le _, rfl, by simpa [prU] using HO4.out, HPI4.out, KR4.out, BU.out⟩
     case round =>
      obtain ⟨b, hb, rfl, ho, hpi, hkr, hbu⟩ := hrel
      obtain ⟨Ad, cd, rfl, hcd, hcd2⟩ := ho.form
      clear HO4 HPI4 KR4 BU hcc hcc2
      have HO5 := Lib.hid ho
      have HPI5 := Lib.hid hpi
      have KR5 := Lib.hid hkr
      have BU := Lib.hid hbu
      have hFl : (E ++ prU (n : Int) l u (l.take b)).length ≤ n * 409600 + 640 * 640 + 640 := by
       have h3 := prU_len (n : Int) l u (l.take b)
       rw [List.length_take] at h3
       rw [List.length_append]; omega
      have e0 := hbu.cell 0
      have e1 := hbu.cell 1
      simp at e0 e1
      have hzu := hbu.lt
      clear ho hpi hkr hbu
      by_cases hltb : b < l.length
      ·obtain ⟨by', oy, y, hAy, hby, hy, q0, q1⟩ := RRefs.atK (Keeps.refl _ _) (HPI5.out.rd RRefs.ok HLF.out) hltb
       injection hAy with hAy
       injection hAy with ey1 ey2 _
       subst ey1 ey2
       have HQ3 : Hid (E ++ prU (n : Int) l u (l.take (b + 1)) = E ++ prU (n : Int) l u (l.take b) ++ (if u.tr < y.tr then [⟨(n : Int), u, y⟩] else [])) := by
        show _ = _
        rw [List.take_add_one, hy, Option.toList_some, prU_snoc, List.append_assoc]
       clear hy
       generalize E ++ prU (n : Int) l u (l.take b) = F at HO5 HPI5 HQ3 hFl hcd ⊢
       have hszr := KR5.out.size
       by_cases glt : u.tr < y.tr
       ·have glt' : decide (u.tr < y.tr) = true := decide_eq_true glt
        have Q3 : Hid (E ++ prU (n : Int) l u (l.take (b + 1)) = F ++ [⟨(n : Int), u, y⟩]) := by show _ = _; rw [HQ3.out, if_pos glt]
        clear glt HQ3
        have KY : Hid (KeepsAll wr (wr.alloc (.cells #[.int .i64 y.tr, .int .i64 y.st] 46))) := (Keeps.refl _ _).alloc _
        go_wp2_with (at_builtin; refine wpList_append_L tyPr RPr.ok rfl (.tmp 34) (.tmp 39) rfl ((HO5.out.alloc RPr.ok _).alloc RPr.ok _) rfl _ [.int .i64 (n : Int), .int .i64 u.tr, .int .i64 u.st, .int .i64 y.tr, .int .i64 y.st] rfl (Blk.new' _ _ _ (by simp)) rfl ⟨(n : Int), u, y⟩ (S := fun _ => False) rfl (fun _ h => h.elim) (by simp [Value.oneCell']) (by omega) (by omega) (by simp; omega) ?_; intro v9 w9 HO9 HK9 HA9; obtain ⟨A9, c9, hv9, _, _⟩ := HO9.form; rw [List.length_append, List.length_singleton] at hv9; subst hv9)
        have kk : KeepsAll wr ((wr.alloc (.cells #[.int .i64 y.tr, .int .i64 y.st] 46)).alloc (.cells #[.int .i64 (n : Int), .int .i64 u.tr, .int .i64 u.st, .int .i64 y.tr, .int .i64 y.st] 55)) := ((Keeps.refl _ _).alloc _).alloc _
        go_roundw
        case rel => exact ⟨b + 1, by omega, by go_num, by rw [Q3.out]; exact HO9, (HPI5.out.keep kk).push HK9 HA9, (KR5.out.tr kk).trans HK9 (fun x hx e => (by have := (HO5.out.lt e).1; omega)), (BU.out.kept kk (by simp)).kept HK9 (fun e => (HO5.out.ne_blk BU.out (by decide)) e)⟩
        case measure => simp [intOf]; omega
       ·have glt' : decide (u.tr < y.tr) = false := decide_eq_false glt
        have Q3 : Hid (E ++ prU (n : Int) l u (l.take (b + 1)) = F) := by show _ = _; rw [HQ3.out, if_neg glt, List.append_nil]
        clear glt HQ3
        have kk : KeepsAll wr (wr.alloc (.cells #[.int .i64 y.tr, .int .i64 y.st] 46)) := (Keeps.refl _ _).alloc _
        have KK := Lib.hid kk
        clear kk
        go_wp2
        go_roundw
        case rel => exact ⟨b + 1, by omega, by go_num, by rw [Q3.out]; exact HO5.out.alloc RPr.ok _, HPI5.out.keep KK.out, KR5.out.tr KK.out, BU.out.kept KK.out (by simp)⟩
        case measure => simp [intOf]; omega
      ·obtain rfl : b = l.length := by omega
       have Q3 : Hid (D ++ prL (n : Int) l (l.take (a + 1)) = E ++ prU (n : Int) l u (l.take l.length)) := by show _ = _; rw [HQ2.out, List.take_length]
       go_wp2
       go_roundw
       case rel => exact ⟨a + 1, by omega, by go_num, by rw [Q3.out]; exact HO5.out, HPI5.out, KR5.out⟩
       case measure => simp [intOf]; omega
    ·obtain rfl : a = l.length := by omega
     rw [List.take_length, prL_all] at HO3 hcc ⊢
     go_wp2
     go_roundw
     case rel => exact ⟨n + 1, by omega, by go_num, by rw [hHQ.out]; exact HO3.out, KR3.out⟩
     case measure => simp [intOf]; omega
  ·obtain rfl : n = 144 := by omega
   go_wp2
   go_ret
   exact ⟨_, _, rfl, HO.out.readF RPr.ok RPr.flat (fun b hb => ⟨by have := (HO.out.lt hb).1; have := K1.out.size; omega, (HO.out.lt hb).2⟩), K1.out.tr KR.out⟩

set_option maxRecDepth 100000 in
set_option maxHeartbeats 4000000 in
theorem DispatchBound_any (lp la ld : List Int) (Ap Aa Ad : Option Addr) (cp ca cd : Nat) (now : Int) (w : World) (h : RInts w (Old w) [.slice Ap lp.length cp] lp) (h2 : RInts w (Old w) [.slice Aa la.length ca] la) (h3 : RInts w (Old w) [.slice Ad ld.length cd] ld) :
  Calls Try.prog 8 #[.slice Ap lp.length cp, .slice Aa la.length ca, .slice Ad ld.length cd, .int .i64 now] w fun e w' => e = .returned (.bool true) ∧ KeepsAll w w' := by
 have H := Lib.hid h
 have H2 := Lib.hid h2
 have H3 := Lib.hid h3
 clear h h2 h3
 go_enter Try.func8, Try.ntmps8
 go_wp2_with fail
 refine (small37_any lp la ld Ap Aa Ad cp ca cd now w H.out H2.out H3.out).mono ?_
 rintro e w1 ⟨v, p, rfl, hr, hm, hp2, k1⟩
 have hr1 := hr.old
 have HR := Lib.hid hr1
 have HM := Lib.hid hm
 have K1 := Lib.hid k1
 clear hr hr1 hm k1 H H2 H3 hp2
 unfold PV.cs
 go_wp2_with fail
 generalize hW2 : World.alloc w1 _ = W2
 have k2 : KeepsAll w1 W2 := by subst hW2; exact (Keeps.refl _ _).alloc _
 have hbx : Blk W2 w1.heap.size 25 #[.slice v.A p.ps.length v.c, .slice v.A2 p.at_.length v.c2, .slice v.A3 p.due.length v.c3, .slice v.A4 p.wgt.length v.c4, .int .i64 p.now] := by subst hW2; exact Blk.new _ _ _
 have HR2 := Lib.hid (HR.out.kept k2)
 have HBX2 := Lib.hid hbx
 have K2 := Lib.hid (K1.out.tr k2)
 clear hW2 k2 hbx HR K1
 generalize w1.heap.size = zx at *
 have HV : Hid (v.cs p = #[.slice v.A p.ps.length v.c, .slice v.A2 p.at_.length v.c2, .slice v.A3 p.due.length v.c3, .slice v.A4 p.wgt.length v.c4, .int .i64 p.now]) := Lib.hid rfl
 have HB : Hid (∀ W, RPb W (Old W) v p → Calls Try.prog 28 #[.agg #[.slice v.A p.ps.length v.c, .slice v.A2 p.at_.length v.c2, .slice v.A3 p.due.length v.c3, .slice v.A4 p.wgt.length v.c4, .int .i64 p.now]] W fun e w' => e = .returned (.tuple #[.int .i64 (boundP p).1, .int .i64 (boundP p).2]) ∧ KeepsAll W w') := fun W hW => DspBound_any p v W hW
 have HC : Hid (∀ W, RPb W (Old W) v p → Calls Try.prog 21 #[.agg #[.slice v.A p.ps.length v.c, .slice v.A2 p.at_.length v.c2, .slice v.A3 p.due.length v.c3, .slice v.A4 p.wgt.length v.c4, .int .i64 p.now]] W fun e w' => e = .returned (.bool (checkP p)) ∧ KeepsAll W w') := fun W hW => RDspCheck_any p v W hW
 have HS : Hid (∀ W, RPb W (Old W) v p → Calls Try.prog 13 #[.agg #[.slice v.A p.ps.length v.c, .slice v.A2 p.at_.length v.c2, .slice v.A3 p.due.length v.c3, .slice v.A4 p.wgt.length v.c4, .int .i64 p.now], .int .i64 5000] W (SolvePost 5000 p W)) := fun W hW => DspSolve_any p v W 5000 hW (fun _ => made_open HM.out.ps)
 have HP : Hid (∀ W, RPb W (Old W) v p → Calls Try.prog 22 #[.agg #[.slice v.A p.ps.length v.c, .slice v.A2 p.at_.length v.c2, .slice v.A3 p.due.length v.c3, .slice v.A4 p.wgt.length v.c4, .int .i64 p.now]] W fun e w' => ∃ A c, e = .returned (.slice A (xs p).length c) ∧ KeepsAll W w') := fun W hW => (RPairs_any p v W hW (psMade.valid HM.out.ps) (good_Gd.1 HM.out.at_).1).mono fun e w' ⟨A, c, he, _, hk⟩ => ⟨A, c, he, hk⟩
 have HL : Hid (checkP p = true → ((solveP 5000 p).2.2 = 0 ∧ costD p [] ≤ (solveP 5000 p).1.cost ∨ ¬ (solveP 5000 p).2.2 = 0) ∧ ((xs p).length = 0 → (solveP 5000 p).2.2 = 0 ∧ (solveP 5000 p).1.cost = costD p [])) := fun hc => bound_law hc (by omega)
 have HE : Hid (checkP p = false → boundP p = (0, 1)) := fun hc => by unfold boundP; rw [if_pos hc]
 have HF : Hid (checkP p = true → boundP p = (costD p [], 0)) := fun hc => by unfold boundP; rw [if_neg (by rw [hc]; simp)]
 clear HM HV
 generalize (xs p).length = nx at *
 generalize costD p [] = bb at *
 have x0 := HBX2.out.cell 0
 have x1 := HBX2.out.cell 1
 have x2 := HBX2.out.cell 2
 have x3 := HBX2.out.cell 3
 have x4 := HBX2.out.cell 4
 simp at x0 x1 x2 x3 x4
 go_wp2_with fail
 refine (HB.out _ HR2.out).mono ?_
 rintro e w3 ⟨rfl, k3⟩
 have K3 := Lib.hid (K2.out.tr k3)
 have HR3 := Lib.hid (HR2.out.kept k3)
 have HBX3 := Lib.hid (HBX2.out.kept k3 (by simp))
 clear k3 HR2 HBX2 K2 HB x0 x1 x2 x3 x4
 simp only []
 have x0 := HBX3.out.cell 0
 have x1 := HBX3.out.cell 1
 have x2 := HBX3.out.cell 2
 have x3 := HBX3.out.cell 3
 have x4 := HBX3.out.cell 4
 simp at x0 x1 x2 x3 x4
 go_wp2_with fail
 refine (HC.out _ HR3.out).mono ?_
 rintro e w4 ⟨rfl, k4⟩
 have K4 := Lib.hid (K3.out.tr k4)
 have HR4 := Lib.hid (HR3.out.kept k4)
 have HBX4 := Lib.hid (HBX3.out.kept k4 (by simp))
 clear k4 HR3 HBX3 K3 HC x0 x1 x2 x3 x4
 cases hc : checkP p with
 | false =>
  rw [HE.out hc]
  clear hc HE HF HL
  go_wp2_with fail
  refine (awake37_any w4).mono ?_
  rintro e w5 ⟨rfl, k5⟩
  have K5 := Lib.hid (K4.out.tr k5)
  clear k5
  go_wp2
  go_ret
  exact ⟨rfl, K5.out⟩
 | true =>
  rw [HF.out hc]
  have HL1 := Lib.hid (HL.out hc).1
  have HL2 := Lib.hid (HL.out hc).2
  clear hc HE HF HL
  simp only []
  have x0 := HBX4.out.cell 0
  have x1 := HBX4.out.cell 1
  have x2 := HBX4.out.cell 2
  have x3 := HBX4.out.cell 3
  have x4 := HBX4.out.cell 4
  simp at x0 x1 x2 x3 x4
  go_wp2_with fail
  refine (HS.out _ HR4.out).mono ?_
  rintro e w5 ⟨a, b, c, rfl, rs, k5⟩
  obtain ⟨Ao, co, Ae, ce, rfl, rfl, rfl, ro, re⟩ := rs.form
  have K5 := Lib.hid (K4.out.tr k5)
  have HR5 := Lib.hid (HR4.out.kept k5)
  have HBX5 := Lib.hid (HBX4.out.kept k5 (by simp))
  clear k5 HR4 HBX4 K4 HS rs ro re x0 x1 x2 x3 x4
  simp only []
  generalize (solveP 5000 p).2.2 = er at *
  generalize (solveP 5000 p).1.cost = cost1 at *
  generalize (solveP 5000 p).1.os.length = ol1 at *
  generalize (solveP 5000 p).1.en.length = el1 at *
  generalize (solveP 5000 p).2.1 = st1 at *
  go_upto_region 6 with (fail)
  generalize hW6 : World.alloc w5 _ = W6
  have k6 : KeepsAll w5 W6 := by subst hW6; exact (Keeps.refl _ _).alloc _
  have hbs : Blk W6 w5.heap.size 31 #[.slice Ao ol1 co, .slice Ae el1 ce, .int .i64 cost1] := by subst hW6; exact Blk.new _ _ _
  have HR6 := Lib.hid (HR5.out.kept k6)
  have HBX6 := Lib.hid (HBX5.out.kept k6 (by simp))
  have HBS6 := Lib.hid hbs
  have K6 := Lib.hid (K5.out.tr k6)
  clear hW6 k6 hbs HR5 HBX5 K5
  generalize w5.heap.size = zs at *
  have x0 := HBX6.out.cell 0
  have x1 := HBX6.out.cell 1
  have x2 := HBX6.out.cell 2
  have x3 := HBX6.out.cell 3
  have x4 := HBX6.out.cell 4
  have s2 := HBS6.out.cell 2
  simp at x0 x1 x2 x3 x4 s2
  rcases HL1.out with ⟨he, hle⟩ | hne
  ·have hlt : decide (cost1 < bb) = false := by simpa using hle
   subst he
   go_upto_region 8 with (fail)
   by_cases hn : nx = 0
   ·obtain ⟨_, hcb⟩ := HL2.out hn
    subst hn hcb
    go_wp2_with fail
    refine (HP.out _ HR6.out).mono ?_
    rintro e w7 ⟨A, c, rfl, k7⟩
    have K7 := Lib.hid (K6.out.tr k7)
    have s2' := (HBS6.out.kept k7 (by simp)).cell 2
    simp at s2'
    clear k7 HL1 HL2
    go_wp2_with fail
    refine (awake37_any _).mono ?_
    rintro e w8 ⟨rfl, k8⟩
    have K8 := Lib.hid (K7.out.tr k8)
    clear k8
    go_wp2
    go_ret
    exact ⟨rfl, K8.out⟩
   ·go_wp2_with fail
    refine (HP.out _ HR6.out).mono ?_
    rintro e w7 ⟨A, c, rfl, k7⟩
    have K7 := Lib.hid (K6.out.tr k7)
    clear k7 HL1 HL2
    have hn' : ((nx : Int) == 0) = false := by simpa using hn
    go_wp2_with fail
    refine (awake37_any _).mono ?_
    rintro e w8 ⟨rfl, k8⟩
    have K8 := Lib.hid (K7.out.tr k8)
    clear k8
    go_wp2
    go_ret
    exact ⟨rfl, K8.out⟩
  ·have hne' : (er == 0) = false := by simpa using hne
   have hn : ¬ nx = 0 := fun h0 => hne (HL2.out h0).1
   have HN := Lib.hid hn
   clear hn HL1 HL2 hne
   go_upto_region 8 with (fail)
   have hn := HN.out
   go_wp2_with fail
   refine (HP.out _ HR6.out).mono ?_
   rintro e w7 ⟨A, c, rfl, k7⟩
   have K7 := Lib.hid (K6.out.tr k7)
   clear k7
   have hn' : ((nx : Int) == 0) = false := by simpa using hn
   go_wp2_with fail
   refine (awake37_any _).mono ?_
   rintro e w8 ⟨rfl, k8⟩
   have K8 := Lib.hid (K7.out.tr k8)
   clear k8
   go_wp2
   go_ret
   exact ⟨rfl, K8.out⟩

open Go.ChangeShapes Go.WideShapes Go.ChangeAt Go.RowKit

theorem rowOwn : ownKnob Try.prog.godebug = none := by kernel_rfl
theorem rowLaid : laidOutB Try.prog = true := by kernel_rfl

theorem cell_lt {w : World} {p : Addr} {v : Value} (h : w.cell? p = some v) : p.block < w.heap.size := by
 rcases Nat.lt_or_ge p.block w.heap.size with h1 | h1
 ·exact h1
 ·have : w.heap[p.block]? = none := Array.getElem?_eq_none h1
  simp [World.cell?, this] at h

theorem ints_of_row {W : World} {a : Option Addr} {len cap : Nat} {zs : List Int}
  (h : (a = none ∧ len = 0 ∧ cap = 0 ∧ zs = []) ∨ ∃ x, a = some x ∧ len ≤ cap ∧ cap ≤ maxLen ∧ zs.length = cap ∧ (∀ i, i < zs.length → W.cell? (x.add i) = some (.int .i64 (zs.getD i 0)))) :
  ∃ l : List Int, len = l.length ∧ RInts W (Old W) [.slice a l.length cap] l := by
 rcases h with ⟨rfl, rfl, rfl, rfl⟩ | ⟨x, rfl, hl, hm, hz, hc⟩
 ·exact ⟨[], rfl, RSlice.mkNil⟩
 ·have hlen : (zs.take len).length = len := by simp; omega
  refine ⟨zs.take len, hlen.symm, some x, cap, rfl, by omega, by simpa [maxLen] using hm, fun hne => ?_⟩
  have hpos : 0 < len := by
   rcases Nat.eq_zero_or_pos len with h0 | h0
   ·subst h0; simp at hne
   ·exact h0
  have h0 := hc 0 (by omega)
  obtain ⟨b, o, spot⟩ := x
  have hspot : spot = none := by simpa [Addr.add] using World.cell?_spot h0
  subst hspot
  refine ⟨b, o, rfl, by have := cell_lt h0; show b < _; simpa [Addr.add] using this, fun j y hy => ?_⟩
  have hj := (List.getElem?_eq_some_iff.1 hy).1
  have hj2 : j < len := by omega
  refine ⟨[.int .i64 y], rfl, rfl, fun i u hu => ?_⟩
  have hi : i = 0 := by
   rcases i with _ | i
   ·rfl
   ·simp at hu
  subst hi
  simp at hu; subst hu
  have := hc j (by omega)
  rw [List.getElem?_take_of_lt hj2] at hy
  rw [List.getD_eq_getElem?_getD, hy] at this
  rcases j with _ | j
  ·simpa [Addr.add] using this
  ·simpa [Addr.add] using this

theorem trod_ints {H : Type} {enc : TypeId × Value → H} {W : World} {a : Option Addr} {len cap : Nat} {d : DataW H} {p : List MemPlace} (h : DataW.Trod enc Try.prog W 0 (fun _ => true) true 22 (.slice a len cap) d p) :
  ∃ l : List Int, len = l.length ∧ RInts W (Old W) [.slice a l.length cap] l := by
 obtain ⟨fuel, hf⟩ := h
 rcases open_ints Try.underlying22 Try.underlying3 (by kernel_rfl) hf with ⟨hcs, _⟩ | ⟨x, l, c, zs, hcs, _, hl, hm, hz, _, hcell, hwz⟩
 ·simp [Value.cells] at hcs
  obtain ⟨rfl, rfl, rfl⟩ := hcs
  exact ints_of_row (zs := []) (.inl ⟨rfl, rfl, rfl, rfl⟩)
 ·simp [Value.cells] at hcs
  obtain ⟨rfl, rfl, rfl⟩ := hcs
  exact ints_of_row (zs := zs) (.inr ⟨_, rfl, hl, hm, by simpa using hz, hcell⟩)

end Go.Proofs.Ytilbbpbjhoidhaa
