/- Contract of the reference's Verify of chapter 37. Conditions: as each theorem says. Chapter 37: Verify and the reference's Verify give the same answer; what Solve's solutions have. Conditions: as each theorem says. Contract of the statements' changed: it returns some list of paths. Conditions: as the theorem says. A list of orders in memory of which one cell is written again: it still reads as a list of orders. Conditions: as each theorem says. A list of lists of integers in memory of which one cell is written again: it still reads as one. Conditions: as each theorem says. -/
import Derived.Test.YtilbbpbjhoidhaaV33
import Derived.Test.YtilbbpbjhoidhaaV42
import Derived.Test.YtilbbpbjhoidhaaV39
import Derived.Test.YtilbbpbjhoidhaaV07
import Derived.Deep.Cut
import Derived.Test.YtilbbpbjhoidhaaV35
import Derived.Test.YtilbbpbjhoidhaaV11
import Derived.Test.YtilbbpbjhoidhaaV05
import Derived.Test.YtilbbpbjhoidhaaV01
namespace Go.Proofs.Ytilbbpbjhoidhaa
open Go.RowKit

theorem openTo_pre (ps : List (List Stage)) (at_ : List Int) {n : Nat} : ∀ m : Nat, n ≤ m → ∃ rest, openTo ps at_ m = openTo ps at_ n ++ rest
 | 0, h => by (obtain rfl : n = 0 := by omega); exact ⟨[], by simp⟩
 | m + 1, h => by
  by_cases e : n = m + 1
  ·subst e; exact ⟨[], by simp⟩
  ·obtain ⟨rest, hr⟩ := openTo_pre ps at_ m (n := n) (by omega)
   exact ⟨rest ++ (if openA ps at_ (m : Int) = [] then [] else [(m : Int)]), by rw [openTo, hr, List.append_assoc]⟩
structure VrI (ps : List (List Stage)) (at_ : List Int) (os : List Order) (r k : Nat) : Prop where
 le : k ≤ os.length
 res : (os.take k).map (·.res) = openTo ps at_ r
 ex : ∀ o ∈ os.take k, exactlyB o.uses (openA ps at_ o.res) = true
section
variable {ps : List (List Stage)} {at_ : List Int} {os : List Order} {r k : Nat}
theorem VrI.start : VrI ps at_ os 0 0 := ⟨Nat.zero_le _, by simp [openTo], by simp⟩
theorem VrI.skip (h : VrI ps at_ os r k) (he : openA ps at_ (r : Int) = []) : VrI ps at_ os (r + 1) k := ⟨h.le, by rw [openTo, if_pos he, List.append_nil]; exact h.res, h.ex⟩
theorem VrI.next (h : VrI ps at_ os r k) (he : ¬ openA ps at_ (r : Int) = []) {o : Order} (ho : os[k]? = some o) (hr : o.res = (r : Int)) (hx : exactlyB o.uses (openA ps at_ (r : Int)) = true) : VrI ps at_ os (r + 1) (k + 1) := by
 have hk := getElem?_lt ho
 refine ⟨by omega, ?_, fun o' ho' => ?_⟩
 ·rw [List.take_add_one, ho, List.map_append, h.res, openTo, if_neg he]
  simp [hr]
 ·rw [List.take_add_one, ho] at ho'
  rcases List.mem_append.1 ho' with h1 | h1
  ·exact h.ex o' h1
  ·simp at h1; subst h1; rw [hr]; exact hx
theorem VrI.klen (h : VrI ps at_ os r k) : k = (openTo ps at_ r).length := by
 have := congrArg List.length h.res
 rw [List.length_map, List.length_take] at this
 have := h.le
 omega
theorem VrI.okS_at (h : VrI ps at_ os r k) (hr : r < 144) (he : ¬ openA ps at_ (r : Int) = []) (hok : okS ps at_ os = true) : ∃ o, os[k]? = some o ∧ o.res = (r : Int) ∧ exactlyB o.uses (openA ps at_ (r : Int)) = true := by
 obtain ⟨h1, h2⟩ := okS_iff.1 hok
 obtain ⟨rest, hrest⟩ := openTo_pre ps at_ (n := r + 1) 144 (by omega)
 have hro : openTo ps at_ (r + 1) = openTo ps at_ r ++ [(r : Int)] := by rw [openTo, if_neg he]
 rw [hro] at hrest
 have h3 : (openTo ps at_ 144)[k]? = some (r : Int) := by
  rw [hrest, h.klen, List.getElem?_append_left (by simp), List.getElem?_append_right (Nat.le_refl _)]
  simp
 rw [← h1, List.getElem?_map] at h3
 cases e : os[k]? with
 | none => rw [e] at h3; cases h3
 | some o =>
  rw [e] at h3
  injection h3 with h3
  exact ⟨o, rfl, h3, by have := h2 o (List.mem_of_getElem? e); have h4 : o.res = (r : Int) := h3; rwa [h4] at this⟩
theorem VrI.bad_len (h : VrI ps at_ os r k) (hr : r < 144) (he : ¬ openA ps at_ (r : Int) = []) (hk : os.length ≤ k) : okS ps at_ os = false := by
 cases hok : okS ps at_ os with
 | false => rfl
 | true =>
  obtain ⟨o, ho, _⟩ := h.okS_at hr he hok
  have := getElem?_lt ho
  omega
theorem VrI.bad (h : VrI ps at_ os r k) (hr : r < 144) (he : ¬ openA ps at_ (r : Int) = []) {o : Order} (ho : os[k]? = some o) (hb : o.res ≠ (r : Int) ∨ exactlyB o.uses (openA ps at_ (r : Int)) = false) : okS ps at_ os = false := by
 cases hok : okS ps at_ os with
 | false => rfl
 | true =>
  obtain ⟨o', ho', h1, h2⟩ := h.okS_at hr he hok
  rw [ho] at ho'
  injection ho' with ho'
  subst ho'
  rcases hb with hb | hb
  ·exact absurd h1 hb
  ·rw [hb] at h2; cases h2
theorem VrI.end_ne (h : VrI ps at_ os 144 k) (hk : k ≠ os.length) : okS ps at_ os = false := by
 cases hok : okS ps at_ os with
 | false => rfl
 | true =>
  obtain ⟨h1, _⟩ := okS_iff.1 hok
  have := congrArg List.length h1
  rw [List.length_map] at this
  have := h.klen
  omega
theorem VrI.end_eq (h : VrI ps at_ os 144 k) (hk : k = os.length) : okS ps at_ os = true := by
 subst hk
 have h1 := h.res
 have h2 := h.ex
 rw [List.take_length] at h1 h2
 exact okS_iff.2 ⟨h1, h2⟩
end

set_option maxRecDepth 100000 in
set_option maxHeartbeats 2000000 in
theorem RVerify_any (p : Pb) (x : Soln) (v : PV) (Ao Ae : Option Addr) (co ce : Nat) (w : World) (h : RPb w (Old w) v p) (ho : ROrders w (Old w) [.slice Ao x.os.length co] x.os) (he : RIntss w (Old w) [.slice Ae x.en.length ce] x.en) :
  Calls Try.prog 20 #[.agg (v.cs p), .agg #[.slice Ao x.os.length co, .slice Ae x.en.length ce, .int .i64 x.cost]] w fun e w' => e = .returned (.bool (verR p x)) ∧ KeepsAll w w' := by
 have hoc := ho.caps
 have HCK : Hid (∀ W, KeepsAll w W → Calls Try.prog 21 #[.agg #[.slice v.A p.ps.length v.c, .slice v.A2 p.at_.length v.c2, .slice v.A3 p.due.length v.c3, .slice v.A4 p.wgt.length v.c4, .int .i64 p.now]] W fun e w' => e = .returned (.bool (checkP p)) ∧ KeepsAll W w') := fun W hW => RDspCheck_any p v W (h.kept hW)
 have HOP : Hid (checkP p = true → ∀ W, KeepsAll w W → ∀ r : Int, Calls Try.prog 56 #[.agg #[.slice v.A p.ps.length v.c, .slice v.A2 p.at_.length v.c2, .slice v.A3 p.due.length v.c3, .slice v.A4 p.wgt.length v.c4, .int .i64 p.now], .int .i64 r] W fun e w' => ∃ A c, e = .returned (.slice A (openA p.ps p.at_ r).length c) ∧ RRefs w' (Fresh W w') [.slice A (openA p.ps p.at_ r).length c] (openA p.ps p.at_ r) ∧ KeepsAll W w') := fun hc W hW r => ROpen_any p v W r (h.kept hW) (checkP_ok hc).v (checkP_Gd hc).1
 have H := Lib.hid h
 have HO := Lib.hid ho
 have HE := Lib.hid he
 clear h ho he
 unfold PV.cs
 generalize hPP : (fun (e : Ending) w' => e = .returned (.bool (verR p x)) ∧ KeepsAll w w') = PP
 have HPP := Lib.hid hPP
 have HNO : Hid (∀ W, KeepsAll w W → verR p x = false → PP (.returned (.bool false)) W) := fun W hW hf => by rw [← hPP]; exact ⟨by rw [hf], hW⟩
 clear hPP
 go_enter Try.func20, Try.ntmps20
 go_wp2_with fail
 refine (HCK.out _ (((Keeps.refl _ _).alloc _).alloc _)).mono ?_
 rintro e w1 ⟨rfl, k1⟩
 have BP : Hid (Blk w1 w.heap.size 25 #[.slice v.A p.ps.length v.c, .slice v.A2 p.at_.length v.c2, .slice v.A3 p.due.length v.c3, .slice v.A4 p.wgt.length v.c4, .int .i64 p.now]) := ((Blk.new _ _ _).alloc _).kept k1 (by simp)
 have BS : Hid (Blk w1 (w.heap.size + 1) 31 #[.slice Ao x.os.length co, .slice Ae x.en.length ce, .int .i64 x.cost]) := (Blk.new' _ _ _ (by simp)).kept k1 (by simp)
 have K1 : Hid (KeepsAll w w1) := (((Keeps.refl _ _).alloc _).alloc _).tr k1
 clear k1
 obtain ⟨zs, hzs⟩ : ∃ b, b = w.heap.size + 1 := ⟨_, rfl⟩
 rw [← hzs] at BS ⊢
 obtain ⟨zp, hzp⟩ : ∃ b, b = w.heap.size := ⟨_, rfl⟩
 rw [← hzp] at BP ⊢
 clear hzs hzp
 cases hc : checkP p with
 | false =>
  have Q := Lib.hid (HNO.out w1 K1.out (by unfold verR; rw [hc]; rfl))
  clear hc HCK HOP HPP BP BS
  go_wp2
  exact Q.out
 | true =>
  have HC := Lib.hid hc
  have HOP2 := Lib.hid (HOP.out hc)
  have HBAD : Hid (okS p.ps p.at_ x.os = false → verR p x = false) := fun e => by unfold verR; rw [e]; simp
  clear hc HCK HOP
  go_wp2_with fail
  go_loopw [5, 6] (fun kv rv wr => ∃ (r k : Nat), r ≤ 144 ∧ kv = .int .i64 (k : Int) ∧ rv = .int .i64 (r : Int) ∧ VrI p.ps p.at_ x.os r k ∧ KeepsAll w1 wr) (fun _ rv _ => 144 - (intOf rv).toNat)
  case atStart => exact ⟨0, 0, by omega, rfl, rfl, VrI.start, Keeps.refl _ _⟩
  case round =>
   obtain ⟨r, k, hr, rfl, rfl, hi, hkr⟩ := hrel
   have HI := Lib.hid hi
   have KR := Lib.hid hkr
   have hkl := hi.le
   clear hi hkr
   by_cases hlt : r < 144
   ·have BPr := BP.out.kept KR.out (by simp)
    have BSr := BS.out.kept KR.out (by simp)
    have HOPr := Lib.hid (HOP2.out wr (K1.out.tr KR.out) (r : Int))
    have p0 := BPr.cell 0
    have p1 := BPr.cell 1
    have p2 := BPr.cell 2
    have p3 := BPr.cell 3
    have p4 := BPr.cell 4
    simp at p0 p1 p2 p3 p4
    clear BPr BSr
    go_wp2_with fail
    refine HOPr.out.mono ?_
    rintro e w2 ⟨Aw, cw, rfl, hw2, k2⟩
    have K2 := Lib.hid (KR.out.tr k2)
    have HW2 : Hid (RRefs w2 (Old w2) [.slice Aw (openA p.ps p.at_ (r : Int)).length cw] (openA p.ps p.at_ (r : Int))) := RSlice.ok RRef.ok |>.mono hw2 (fun _ hb => hb.2) (fun _ _ => rfl)
    have BSr := BS.out.kept K2.out (by simp)
    have s0 := BSr.cell 0
    simp at s0
    clear hw2 k2 HOPr p0 p1 p2 p3 p4 BSr
    by_cases hem : openA p.ps p.at_ (r : Int) = []
    ·have HI1 := Lib.hid (HI.out.skip hem)
     have hl0 : (openA p.ps p.at_ (r : Int)).length = 0 := by rw [hem]; rfl
     rw [hl0]
     clear hem hl0 HW2 HI
     go_wp2_with fail
     go_roundw
     case rel => exact ⟨r + 1, k, by omega, rfl, by go_num, HI1.out, K2.out⟩
     case measure => simp [intOf]; omega
    ·have HEM := Lib.hid hem
     have hl0 : ¬ ((openA p.ps p.at_ (r : Int)).length : Int) = 0 := by
      intro e
      exact hem (List.length_eq_zero_iff.1 (by omega))
     have hl0' : (((openA p.ps p.at_ (r : Int)).length : Int) == 0) = false := by simpa using hl0
     clear hem hl0
     by_cases hkk : k < x.os.length
     ·obtain ⟨bo, oo, o, Au, cu, hA, hbo, hoo, m0, m1, hru⟩ := ROrders.atK (K1.out.tr K2.out) HO.out hkk
      subst hA
      have HOO := Lib.hid hoo
      have HEX := Lib.hid (exactly_any o.uses (openA p.ps p.at_ (r : Int)) Au Aw cu cw w2 ((K1.out.tr K2.out).rdo' RRefs.ok hru) HW2.out)
      have hgk : decide ((k : Int) ≥ (x.os.length : Int)) = false := by simp; omega
      clear hoo hru
      by_cases hres : o.res = (r : Int)
      ·have hres' : (o.res != (r : Int)) = false := by simpa using hres
       cases hex : exactlyB o.uses (openA p.ps p.at_ (r : Int)) with
       | true =>
        have HI1 := Lib.hid (HI.out.next HEM.out HOO.out hres hex)
        rw [hex] at HEX
        clear hres hex HI
        go_wp2_with fail
        refine HEX.out.mono ?_
        rintro e w3 ⟨rfl, k3⟩
        have K3 := Lib.hid (K2.out.tr k3)
        clear k3 HEX
        go_wp2_with fail
        go_roundw
        case rel => exact ⟨r + 1, k + 1, by omega, by go_num, by go_num, HI1.out, K3.out⟩
        case measure => simp [intOf]; omega
       | false =>
        have hbad := HI.out.bad hlt HEM.out HOO.out (.inr hex)
        have HBD := Lib.hid (HBAD.out hbad)
        rw [hex] at HEX
        clear hres hex HI hbad
        go_wp2_with fail
        refine HEX.out.mono ?_
        rintro e w3 ⟨rfl, k3⟩
        have Q := Lib.hid (HNO.out w3 (K1.out.tr (K2.out.tr k3)) HBD.out)
        clear k3 HEX
        go_wp2_with fail
        exact Q.out
      ·have hres' : (o.res != (r : Int)) = true := by simpa using hres
       have hbad := HI.out.bad hlt HEM.out HOO.out (.inl hres)
       have Q := Lib.hid (HNO.out w2 (K1.out.tr K2.out) (HBAD.out hbad))
       clear hres hbad HEX
       go_wp2_with fail
       exact Q.out
     ·have hgk : decide ((k : Int) ≥ (x.os.length : Int)) = true := by simp; omega
      have hbad := HI.out.bad_len hlt HEM.out (by omega)
      have Q := Lib.hid (HNO.out w2 (K1.out.tr K2.out) (HBAD.out hbad))
      clear hbad
      go_wp2_with fail
      exact Q.out
   ·obtain rfl : r = 144 := by omega
    have BSr := Lib.hid (BS.out.kept KR.out (by simp))
    have BPr := Lib.hid (BP.out.kept KR.out (by simp))
    have s0 := BSr.out.cell 0
    simp at s0
    by_cases hke : k = x.os.length
    ·have HOK := Lib.hid (HI.out.end_eq hke)
     subst hke
     clear HI
     have hhv := (checkP_ok HC.out).v
     have hhg := checkP_Gd HC.out
     have HDK : Hid (DOk p.ps p.at_ (fulS p.ps x.os)) := Lib.hid (dok_ful HOK.out)
     have HVR : Hid (verR p x = (okD p.ps p.at_ (fulS p.ps x.os) && decide (x.en = tabOf p.ps (secD p (fulS p.ps x.os))) && decide (x.cost = costE p x.en))) := by show _ = _; unfold verR; rw [HC.out, HOK.out]; simp
     have HAR : Hid (∀ W, KeepsAll w W → Calls Try.prog 30 #[.slice v.A p.ps.length v.c, .slice Ao x.os.length co] W fun e w' => ∃ A c, e = .returned (.slice A (refArcs p.ps x.os).length c) ∧ RRArcs w' (Old w') [.slice A (refArcs p.ps x.os).length c] (refArcs p.ps x.os) ∧ KeepsAll W w') := fun W hW =>
      (ArcsO_any p.ps x.os v.A Ao v.c co W (okS_arcs hhv HOK.out) (H.out.kept hW).P (hW.rdo' ROrders.ok HO.out)).mono fun e w' ⟨va, he, ho, _, hk⟩ => by
       obtain ⟨A, c, rfl, _, _⟩ := ho.form
       exact ⟨A, c, he, ho.readF RRArc.ok RRArc.flat (fun b hb => (ho.lt hb).2), hk⟩
     have HLO : Hid (∀ W A c, KeepsAll w W → RRArcs W (Old W) [.slice A (refArcs p.ps x.os).length c] (refArcs p.ps x.os) → Calls Try.prog 25 #[.slice v.A p.ps.length v.c, .slice A (refArcs p.ps x.os).length c, .slice v.A2 p.at_.length v.c2] W fun e w' => ∃ v2, e = .returned (.tuple #[v2, .bool (okD p.ps p.at_ (fulS p.ps x.os))]) ∧ RRefs w' (Old w') [v2] (lineR p.ps (refArcs p.ps x.os) p.at_).1 ∧ KeepsAll W w') := fun W A c hW hA =>
      LineOf_all p.ps (refArcs p.ps x.os) p.at_ v.A A v.A2 v.c c v.c2 W (H.out.kept hW).P hA (H.out.kept hW).A hhv hhg (dok_in HDK.out)
     have HSE : Hid (okD p.ps p.at_ (fulS p.ps x.os) = true → ∀ W A A3 c c3, KeepsAll w W → RRArcs W (Old W) [.slice A (refArcs p.ps x.os).length c] (refArcs p.ps x.os) → RRefs W (Old W) [.slice A3 (lineR p.ps (refArcs p.ps x.os) p.at_).1.length c3] (lineR p.ps (refArcs p.ps x.os) p.at_).1 →
       Calls Try.prog 27 #[.slice v.A p.ps.length v.c, .slice A (refArcs p.ps x.os).length c, .slice A3 (lineR p.ps (refArcs p.ps x.os) p.at_).1.length c3, .slice v.A2 p.at_.length v.c2, .int .i64 p.now] W fun e w' => ∃ v3, e = .returned v3 ∧ RIntss w' (Fresh W w') [v3] (tabOf p.ps (secD p (fulS p.ps x.os))) ∧ KeepsAll W w') := fun hk W A A3 c c3 hW hA hL => by
      obtain ⟨f1, _, f3, f4⟩ := choice_facts HC.out HDK.out hk
      have := Seconds_freshA p.ps (refArcs p.ps x.os) (lineR p.ps (refArcs p.ps x.os) p.at_).1 p.at_ p.now v.A A A3 v.A2 v.c c c3 v.c2 W (H.out.kept hW).P hA hL (H.out.kept hW).A hhv hhg (checkP_ok HC.out).n f3 f4 (fun a ha => arcsD_wt hhv HDK.out ha) (fun a ha => (arcsD_ends HDK.out ha).1)
      have e : tabOf p.ps (secs (stepR p.ps (refArcs p.ps x.os) p.at_ p.now) (initR p.at_ p.now) (lineR p.ps (refArcs p.ps x.os) p.at_).1) = tabOf p.ps (secD p (fulS p.ps x.os)) := f1
      rw [e] at this
      exact this
     have HCO : Hid (∀ W, KeepsAll w W → Calls Try.prog 26 #[.agg #[.slice v.A p.ps.length v.c, .slice v.A2 p.at_.length v.c2, .slice v.A3 p.due.length v.c3, .slice v.A4 p.wgt.length v.c4, .int .i64 p.now], .slice Ae x.en.length ce] W fun e w' => e = .returned (.int .i64 (costE p x.en)) ∧ KeepsAll W w') := fun W hW => RDspCost_any p v W (H.out.kept hW) x.en Ae ce (hW.rdo' RIntss.ok HE.out)
     clear HBAD HOP2 HOK HDK hhv hhg
     generalize tabOf p.ps (secD p (fulS p.ps x.os)) = TB at *
     generalize (lineR p.ps (refArcs p.ps x.os) p.at_).1 = L at *
     generalize refArcs p.ps x.os = RA at *
     generalize okD p.ps p.at_ (fulS p.ps x.os) = okd at *
     have KW := Lib.hid (K1.out.tr KR.out)
     have HARr := Lib.hid (HAR.out wr KW.out)
     have p0 := BPr.out.cell 0
     have p1 := BPr.out.cell 1
     simp at p0 p1
     go_wp2_with fail
     refine HARr.out.mono ?_
     rintro e w2 ⟨A2, c2, rfl, ha2, k2⟩
     have HA2 := Lib.hid ha2
     have BS2 := Lib.hid (BSr.out.kept k2 (by simp))
     have BP2 := Lib.hid (BPr.out.kept k2 (by simp))
     have K2 := Lib.hid (KW.out.tr k2)
     have HLO2 := Lib.hid (HLO.out w2 A2 c2 (KW.out.tr k2) ha2)
     clear ha2 k2 HARr HAR HLO BSr BPr s0 p0 p1
     have p0 := BP2.out.cell 0
     have p1 := BP2.out.cell 1
     simp at p0 p1
     go_wp2_with fail
     refine HLO2.out.mono ?_
     rintro e w3 ⟨v3, rfl, hl3, k3⟩
     obtain ⟨A3, c3, rfl⟩ := RSlice.form hl3
     have HL3 := Lib.hid hl3
     have HA3 := Lib.hid (k3.rdo' RRArcs.ok HA2.out)
     have BS3 := Lib.hid (BS2.out.kept k3 (by simp))
     have BP3 := Lib.hid (BP2.out.kept k3 (by simp))
     have K3 := Lib.hid (K2.out.tr k3)
     clear hl3 k3 HLO2 HA2 BS2 BP2 p0 p1
     have pp0 := BP3.out.cell 0
     have pp1 := BP3.out.cell 1
     have pp2 := BP3.out.cell 2
     have pp3 := BP3.out.cell 3
     have pp4 := BP3.out.cell 4
     have s1 := BS3.out.cell 1
     have s2 := BS3.out.cell 2
     simp at pp0 pp1 pp2 pp3 pp4 s1 s2
     cases okd with
     | false =>
      have Q : Hid (∀ W, KeepsAll w3 W → PP (.returned (.bool false)) W) := fun W hW => HNO.out W (K3.out.tr hW) (by rw [HVR.out]; rfl)
      clear HSE HVR HCO
      go_wp2_with fail
      refine wp_region_lexB (fun w' => ∃ y : Ext w3, w' = y.val) [0, 1, 2, 3, 4, 5, 6, 7, 8, 9, 10, 11, 12, 13, 14, 15, 16] (by kernel_rfl) (by kernel_rfl) ⟨⟨_, (Keeps.refl _ _).drew⟩, rfl⟩ ?_
      iterate 3 (refine lex_q _ rfl rfl rfl ?_; go_big_quiet_step (fail); refine wpQuiet_nil ?_)
      iterate 10 (refine lex_skip _ rfl rfl rfl ?_; go_simp)
      iterate 2 (refine lex_skipa _ rfl rfl rfl ⟨⟨_, (Keeps.refl _ _).drew⟩, rfl⟩ ?_; go_simp)
      refine lex_skip _ rfl rfl rfl ?_; go_simp
      refine lex_q _ rfl rfl rfl ?_; go_big_quiet_step (fail); refine wpQuiet_nil ?_
      simp only [wpLex]
      refine NoPanic.normal ?_
      go_wp2
      first | exact Q.out _ (Keeps.refl _ _).drew | exact Q.out _ (Keeps.refl _ _)
     | true =>
      have HSE2 := Lib.hid (HSE.out rfl)
      have HVR2 : Hid (verR p x = (decide (x.en = TB) && decide (x.cost = costE p x.en))) := by show _ = _; rw [HVR.out, Bool.true_and]
      clear HSE HVR
      go_wp2_with fail
      refine wp_region_lexB (fun w' => ∃ y : Ext w3, w' = y.val) [0, 1, 2, 3, 4, 5, 6, 7, 8, 9, 10, 11, 12, 13, 14, 15, 16] (by kernel_rfl) (by kernel_rfl) ⟨⟨_, (Keeps.refl _ _).drew⟩, rfl⟩ ?_
      have y0 := Ext.cell pp0
      have y1 := Ext.cell pp1
      have y4 := Ext.cell pp4
      have z1 := Ext.cell s1
      iterate 13 (refine lex_q _ rfl rfl rfl ?_; go_big_quiet_step (fail); refine wpQuiet_nil ?_)
      refine lex_a _ rfl rfl true (by kernel_rfl) ?_
      go_wp2_with fail
      have kd : KeepsAll w3 w3.drew := (Keeps.refl _ _).drew
      refine (HSE2.out w3.drew A2 A3 c2 c3 (K3.out.tr kd) (kd.rdo' RRArcs.ok HA3.out) (kd.rdo' RRefs.ok HL3.out)).mono ?_
      rintro e w4 ⟨v4, rfl, hE, k4⟩
      obtain ⟨A4, c4, rfl⟩ := RSlice.form hE
      have K4 := Lib.hid (kd.tr k4)
      have HSL := Lib.hid (sameLists_any x.en TB Ae A4 ce c4 w4 ((K3.out.tr K4.out).rdo' RIntss.ok HE.out) (RIntss.ok.mono hE (fun _ hb => hb.2) (fun _ _ => rfl)))
      clear k4 kd hE HSE2 HL3 HA3
      go_wp2
      refine ⟨fun _ => ⟨⟨_, K4.out⟩, rfl⟩, ?_⟩
      refine lex_a _ rfl rfl true (by kernel_rfl) ?_
      go_wp2_with fail
      refine HSL.out.mono ?_
      rintro e w5 ⟨rfl, k5⟩
      have K5 := Lib.hid (K4.out.tr k5)
      clear k5 HSL
      by_cases hen : x.en = TB
      ·rw [decide_eq_true hen]
       have HV3 : Hid (verR p x = decide (x.cost = costE p x.en)) := by show _ = _; rw [HVR2.out, decide_eq_true hen, Bool.true_and]
       clear hen HVR2
       go_wp2
       refine ⟨fun _ => ⟨⟨_, K5.out⟩, rfl⟩, ?_⟩
       clear y0 y1 y4 z1
       iterate 2 (refine lex_q _ rfl rfl rfl ?_; go_big_quiet_step (fail); refine wpQuiet_nil ?_)
       simp only [wpLex]
       refine NoPanic.normal ?_
       have KF := Lib.hid (K3.out.tr K5.out)
       have p0 := K5.out.cellK (p := ⟨zp, 0, none⟩) BP3.out.lt pp0
       have p1 := K5.out.cellK (p := ⟨zp, 1, none⟩) BP3.out.lt pp1
       have p2 := K5.out.cellK (p := ⟨zp, 2, none⟩) BP3.out.lt pp2
       have p3 := K5.out.cellK (p := ⟨zp, 3, none⟩) BP3.out.lt pp3
       have p4 := K5.out.cellK (p := ⟨zp, 4, none⟩) BP3.out.lt pp4
       have t1 := K5.out.cellK (p := ⟨zs, 1, none⟩) BS3.out.lt s1
       have t2 := K5.out.cellK (p := ⟨zs, 2, none⟩) BS3.out.lt s2
       clear pp0 pp1 pp2 pp3 pp4 s1 s2
       go_wp2_with fail
       refine wp_region_lexB (fun w' => ∃ y : Ext w5, w' = y.val) [0, 1, 2, 3, 4, 5, 6, 7] (by kernel_rfl) (by kernel_rfl) ⟨⟨_, (Keeps.refl _ _).drew⟩, rfl⟩ ?_
       have y0 := Ext.cell p0
       have y1 := Ext.cell p1
       have y2 := Ext.cell p2
       have y3 := Ext.cell p3
       have y4 := Ext.cell p4
       have z1 := Ext.cell t1
       have z2 := Ext.cell t2
       iterate 5 (refine lex_q _ rfl rfl rfl ?_; go_big_quiet_step (fail); refine wpQuiet_nil ?_)
       clear y0 y1 y2 y3 y4 z1 z2
       refine lex_a _ rfl rfl true (by kernel_rfl) ?_
       go_wp2_with fail
       have kd : KeepsAll w5 w5.drew := (Keeps.refl _ _).drew
       refine (HCO.out w5.drew (KF.out.tr kd)).mono ?_
       rintro e w7 ⟨rfl, k7⟩
       have K7 := Lib.hid (kd.tr k7)
       have Q : Hid (∀ W, KeepsAll w7 W → PP (.returned (.bool (x.cost == costE p x.en))) W) := fun W hW => by
        have h7 := KF.out.tr ((kd.tr k7).tr hW)
        rw [← HPP.out]
        refine ⟨?_, h7⟩
        rw [HV3.out]
        by_cases e : x.cost = costE p x.en
        ·simp [e]
        ·simp [e]
       clear k7 kd HCO HV3
       go_wp2
       refine ⟨fun _ => ⟨⟨_, K7.out⟩, rfl⟩, ?_⟩
       iterate 2 (refine lex_q _ rfl rfl rfl ?_; go_big_quiet_step (fail); refine wpQuiet_nil ?_)
       simp only [wpLex]
       refine NoPanic.normal ?_
       go_wp2
       first | exact Q.out _ (Keeps.refl _ _) | exact Q.out _ (Keeps.refl _ _).drew
      ·rw [decide_eq_false hen]
       have Q : Hid (∀ W, KeepsAll w5 W → PP (.returned (.bool false)) W) := fun W hW => HNO.out W (K3.out.tr (K5.out.tr hW)) (by rw [HVR2.out, decide_eq_false hen, Bool.false_and])
       clear hen HVR2 HCO
       go_wp2
       refine ⟨fun _ => ⟨⟨_, K5.out⟩, rfl⟩, ?_⟩
       clear y0 y1 y4 z1
       iterate 2 (refine lex_q _ rfl rfl rfl ?_; go_big_quiet_step (fail); refine wpQuiet_nil ?_)
       simp only [wpLex]
       refine NoPanic.normal ?_
       go_wp2
       first | exact Q.out _ (Keeps.refl _ _) | exact Q.out _ (Keeps.refl _ _).drew
    ·have hbad := HI.out.end_ne hke
     have Q := Lib.hid (HNO.out wr (K1.out.tr KR.out) (HBAD.out hbad))
     have hke' : ((k : Int) != (x.os.length : Int)) = true := by simp; omega
     clear hbad HI
     go_wp2_with fail
     exact Q.out

theorem solve_none {b : Int} {p : Pb} (h : ¬ (solveP b p).2.2 = 0) : (solveP b p).1 = sol0 := by
 unfold solveP at h ⊢
 by_cases h1 : checkP p = false
 ·rw [if_pos h1]
 ·rw [if_neg h1] at h ⊢
  by_cases h2 : b < 1 ∨ 1048576 < b
  ·rw [if_pos h2]
  ·rw [if_neg h2] at h ⊢
   by_cases h3 : (searchD b.toNat p).1 = false
   ·rw [if_pos h3]
   ·rw [if_neg h3] at h ⊢
    cases e : (searchD b.toNat p).2.best with
    | none => rfl
    | some x => rw [e] at h; exact absurd rfl h
theorem ver_sol0 (p : Pb) (h1 : 1 ≤ p.ps.length) : verR p sol0 = false := by
 unfold verR
 have : ¬ ([] : List (List Int)) = tabOf p.ps (secD p (fulS p.ps [])) := fun e => by
  have := congrArg List.length e
  rw [tabOf_len] at this
  simp at this
  omega
 have e : decide (sol0.en = tabOf p.ps (secD p (fulS p.ps sol0.os))) = false := decide_eq_false this
 rw [e]
 simp
structure SolOk (x : Soln) : Prop where
 ol : x.os.length ≤ 144
 ou : ∀ o ∈ x.os, 1 ≤ o.uses.length ∧ o.uses.length ≤ 640
 el : 1 ≤ x.en.length ∧ x.en.length ≤ 10
 er : ∀ r ∈ x.en, 1 ≤ r.length ∧ r.length ≤ 100
theorem sol_parts {p : Pb} {bs : List Bool} (hc : checkP p = true) (hm : psMade p.ps) (hl : bs.length = (xs p).length) (hk : okB p bs = true) : SolOk ⟨ordB p bs, entB p bs, costB p bs⟩ := by
 have hv := psMade.valid hm
 have hpl : p.ps.length ≤ 10 := (valid_lens hv).1
 obtain ⟨_, a1, a2⟩ := okS_arcs hv (sol_okS hc hm hl hk)
 refine ⟨a1, fun o ho => ⟨?_, (a2 o ho).2⟩, ?_, fun r hr => ?_⟩
 ·obtain ⟨r, h1, h2, rfl⟩ := (mem_ordB hc hm hl hk).1 ho
  have hs := soF hc hm hl hk h1
  have := hs.perm.length_eq
  have h3 : (openA p.ps p.at_ (r : Int)).length ≠ 0 := fun e => h2 (List.length_eq_zero_iff.1 e)
  show 1 ≤ (sortD p bs (r : Int)).length
  omega
 ·show 1 ≤ (tabOf p.ps _).length ∧ (tabOf p.ps _).length ≤ 10
  rw [tabOf_len]
  exact ⟨hm.1, hpl⟩
 ·obtain ⟨i, hi⟩ := List.mem_iff_getElem?.1 hr
  have hi' : (tabOf p.ps (secD p (decs p.ps (xs p) bs)))[i]? = some r := hi
  have hil := getElem?_lt hi'
  rw [tabOf_len] at hil
  rw [tabOf_at _ hil] at hi'
  injection hi' with hi'
  rw [← hi', rowOf_len]
  have := lenAt_le hv i
  omega
theorem solve_both {p : Pb} (hc : checkP p = true) (hm : psMade p.ps) {b : Int} (hb : 1 ≤ b ∧ b ≤ 1048576) (h : (solveP b p).2.2 = 0) : verR p (solveP b p).1 = true ∧ SolOk (solveP b p).1 := by
 obtain ⟨bs, l1, o1, e⟩ := solve_ver hc hb h
 rw [e]
 exact ⟨sol_ver hc hm l1 o1, sol_parts hc hm l1 o1⟩
theorem ver_both (p : Pb) (v : PV) {os : List Order} {en : List (List Int)} {cost : Int} {Ao Ae : Option Addr} {co ce : Nat} {w : World} (h : RPb w (Old w) v p) (ho : ROrders w (Old w) [.slice Ao os.length co] os) (he : RIntss w (Old w) [.slice Ae en.length ce] en) :
  (∀ W, KeepsAll w W → Calls Try.prog 19 #[.agg #[.slice v.A p.ps.length v.c, .slice v.A2 p.at_.length v.c2, .slice v.A3 p.due.length v.c3, .slice v.A4 p.wgt.length v.c4, .int .i64 p.now], .agg #[.slice Ao os.length co, .slice Ae en.length ce, .int .i64 cost]] W fun e w' => e = .returned (.bool (verR p ⟨os, en, cost⟩)) ∧ KeepsAll W w') ∧
  ∀ W, KeepsAll w W → Calls Try.prog 20 #[.agg #[.slice v.A p.ps.length v.c, .slice v.A2 p.at_.length v.c2, .slice v.A3 p.due.length v.c3, .slice v.A4 p.wgt.length v.c4, .int .i64 p.now], .agg #[.slice Ao os.length co, .slice Ae en.length ce, .int .i64 cost]] W fun e w' => e = .returned (.bool (verR p ⟨os, en, cost⟩)) ∧ KeepsAll W w' := by
 refine ⟨fun W hW => ?_, fun W hW => ?_⟩
 ·have := DspVerify_any p ⟨os, en, cost⟩ v Ao Ae co ce W (h.kept hW) (hW.rdo' ROrders.ok ho) (hW.rdo' RIntss.ok he)
  rw [ver_eq] at this
  exact this
 ·exact RVerify_any p ⟨os, en, cost⟩ v Ao Ae co ce W (h.kept hW) (hW.rdo' ROrders.ok ho) (hW.rdo' RIntss.ok he)

theorem RPath.ownN {w3 : World} {B : Nat} {v : Value} {p : List Stage} {base : Nat} (h : OwnL 99 4 (RStageB B) w3 base 0 v p) (hB : B ≤ base) : RPathN B w3 (fun b => (b < B ∧ b < w3.heap.size) ∨ v.ownBlock = some b) [v] p := by
 have h1 := h.readG (E' := RStage) (S := fun b => (b < B ∧ b < w3.heap.size) ∨ v.ownBlock = some b) id (fun es x hx => RStage.ok.mono hx (fun b hb => .inl ⟨hb.2, hb.1.2.1⟩) (fun _ _ => rfl)) (fun b hb => .inr hb)
 rw [List.map_id] at h1
 refine ⟨h1, fun b o s n c hc => ?_⟩
 injection hc with hc _
 subst hc
 have ho : (Value.slice (some ⟨b, o, s⟩) n c).ownBlock = some b := by
  obtain ⟨ess, _, h2, _⟩ := h
  rcases h2.2 with ⟨e, _⟩ | ⟨g, cap, cur, e, _⟩
  ·cases e
  ·injection e with e _ _; injection e with e; injection e with e1 e2 e3; subst e1 e2 e3; rfl
 exact ⟨Nat.le_trans hB (h.lt ho).1, .inr ho, h.soft ho⟩

theorem RSlice.cut {α : Type} {size : Nat} {E : Rd α} {w : World} {S : Foot} {A : Option Addr} {n c : Nat} {l : List α} (h : RSlice size E w S [.slice A n c] l) {k : Nat} (hk : k ≤ l.length) : RSlice size E w S [.slice A k c] (l.take k) := by
 obtain ⟨A', c', he, h1, h2, h3⟩ := h
 injection he with he _; injection he with ha hn hc; subst ha hc
 have hlt : (l.take k).length = k := by rw [List.length_take]; omega
 refine ⟨A, c, by rw [hlt], by omega, h2, fun hne => ?_⟩
 obtain ⟨b, o, hA, hb, hj⟩ := h3 (by rintro rfl; simp at hne)
 refine ⟨b, o, hA, hb, fun j x hx => ?_⟩
 have hjk : j < k := by have := getElem?_lt hx; omega
 rw [List.getElem?_take_of_lt hjk] at hx
 exact hj j x hx

def FitO (w : World) (S : Foot) (p : Addr) (u : Value) : Prop := (∃ a b, w.cell? p = some (.int .i64 a) ∧ u = .int .i64 b) ∨ ∃ A n c, w.cell? p = some (.slice A n c) ∧ ∃ l, RRefs (w.setCell p u) S [u] l
theorem FitO.int {w : World} {S : Foot} {p q : Addr} {u : Value} {x : Int} (h : FitO w S p u) (hq : w.cell? q = some (.int .i64 x)) : ∃ y, (w.setCell p u).cell? q = some (.int .i64 y) := by
 by_cases e : p = q
 ·subst e
  rcases h with ⟨a, b, h1, rfl⟩ | ⟨A, n, c, h1, _⟩
  ·exact ⟨b, World.cell?_setCell_same _ _ _ h1⟩
  ·rw [h1] at hq; cases hq
 ·exact ⟨x, (World.cell?_setCell_other _ _ _ _ e).trans hq⟩
theorem RRefs.write {w : World} {S : Foot} {p : Addr} {u v : Value} {l : List Ref} (hf : FitO w S p u) (h : RRefs w S [v] l) : ∃ l', l'.length = l.length ∧ RRefs (w.setCell p u) S [v] l' := by
 obtain ⟨A, c, he, h1, h2, h3⟩ := h
 injection he with he _; subst he
 by_cases hl : l = []
 ·subst hl; exact ⟨[], rfl, A, c, rfl, h1, h2, fun h => absurd rfl h⟩
 ·obtain ⟨b, o, rfl, hb, hj⟩ := h3 hl
  obtain ⟨l', hl', h5⟩ := list_choose (P := fun j y => (w.setCell p u).cell? ⟨b, o + (j * 2 + 0), none⟩ = some (.int .i64 (Ref.tr y)) ∧ (w.setCell p u).cell? ⟨b, o + (j * 2 + 1), none⟩ = some (.int .i64 (Ref.st y))) l.length (fun j hj' => by
   obtain ⟨es, e1, e2, e3⟩ := hj j l[j] (List.getElem?_eq_getElem hj')
   cases e2
   obtain ⟨y0, z0⟩ := hf.int (e3 0 _ rfl)
   obtain ⟨y1, z1⟩ := hf.int (e3 1 _ rfl)
   exact ⟨⟨y0, y1⟩, z0, z1⟩)
  refine ⟨l', hl', some ⟨b, o, none⟩, c, by rw [hl'], by omega, h2, fun _ => ⟨b, o, rfl, hb, fun j x hx => ⟨[.int .i64 x.tr, .int .i64 x.st], rfl, rfl, fun i y hy => ?_⟩⟩⟩
  have h6 := h5 j x hx
  match i, hy with
  | 0, hy => simp at hy; subst hy; exact h6.1
  | 1, hy => simp at hy; subst hy; exact h6.2
  | i + 2, hy => simp at hy
theorem ROrders.write {w : World} {S : Foot} {p : Addr} {u v : Value} {l : List Order} (hf : FitO w S p u) (h : ROrders w S [v] l) : ∃ l', l'.length = l.length ∧ ROrders (w.setCell p u) S [v] l' := by
 obtain ⟨A, c, he, h1, h2, h3⟩ := h
 injection he with he _; subst he
 by_cases hl : l = []
 ·subst hl; exact ⟨[], rfl, A, c, rfl, h1, h2, fun h => absurd rfl h⟩
 ·obtain ⟨b, o, rfl, hb, hj⟩ := h3 hl
  obtain ⟨l', hl', h5⟩ := list_choose (P := fun j s => ∃ es, es.length = 2 ∧ ROrder (w.setCell p u) S es s ∧ ∀ i u', es[i]? = some u' → (w.setCell p u).cell? ⟨b, o + (j * 2 + i), none⟩ = some u') l.length (fun j hj' => by
   obtain ⟨es, e1, ⟨pv, rfl, hpv⟩, e3⟩ := hj j l[j] (List.getElem?_eq_getElem hj')
   obtain ⟨y0, z0⟩ := hf.int (e3 0 _ rfl)
   have q1 := e3 1 _ rfl
   obtain ⟨pv', l1, w1, r1⟩ : ∃ pv' l1, (w.setCell p u).cell? ⟨b, o + (j * 2 + 1), none⟩ = some pv' ∧ RRefs (w.setCell p u) S [pv'] l1 := by
    by_cases e : p = ⟨b, o + (j * 2 + 1), none⟩
    ·subst e
     rcases hf with ⟨a, b', h1', rfl⟩ | ⟨A', n', c', h1', l2, hl2⟩
     ·rw [h1'] at q1
      obtain ⟨A', c', he', _⟩ := hpv
      injection he' with he' _; subst he'
      cases q1
     ·exact ⟨u, l2, World.cell?_setCell_same _ _ _ h1', hl2⟩
    ·obtain ⟨l2, _, hl2⟩ := RRefs.write hf hpv
     exact ⟨pv, l2, (World.cell?_setCell_other _ _ _ _ e).trans q1, hl2⟩
   refine ⟨⟨y0, l1⟩, [.int .i64 y0, pv'], rfl, ⟨pv', rfl, r1⟩, fun i u' hu => ?_⟩
   match i, hu with
   | 0, hu => simp at hu; subst hu; exact z0
   | 1, hu => simp at hu; subst hu; exact w1
   | i + 2, hu => simp at hu)
  exact ⟨l', hl', some ⟨b, o, none⟩, c, by rw [hl'], by omega, h2, fun _ => ⟨b, o, rfl, hb, h5⟩⟩
theorem ROrders.writeO {w : World} {p : Addr} {u v : Value} {l : List Order} (hf : FitO w (Old w) p u) (h : ROrders w (Old w) [v] l) : ∃ l', l'.length = l.length ∧ ROrders (w.setCell p u) (Old (w.setCell p u)) [v] l' := by
 obtain ⟨l', hl, h'⟩ := ROrders.write hf h
 have hsz : (w.setCell p u).heap.size = w.heap.size := by simp [World.setCell]
 exact ⟨l', hl, ROrders.ok.mono h' (fun b hb => by show b < _; rw [hsz]; exact hb) (fun _ _ => rfl)⟩
theorem ROrders.writeI {w : World} {p : Addr} {x y : Int} {v : Value} {l : List Order} (hp : w.cell? p = some (.int .i64 x)) (h : ROrders w (Old w) [v] l) : ∃ l', l'.length = l.length ∧ ROrders (w.setCell p (.int .i64 y)) (Old (w.setCell p (.int .i64 y))) [v] l' :=
 ROrders.writeO (.inl ⟨x, y, hp, rfl⟩) h
theorem cell_writeI {w : World} {p q : Addr} {x y z : Int} (hp : w.cell? p = some (.int .i64 x)) (hq : w.cell? q = some (.int .i64 z)) : ∃ z', (w.setCell p (.int .i64 y)).cell? q = some (.int .i64 z') :=
 FitO.int (S := Old w) (.inl ⟨x, y, hp, rfl⟩) hq
theorem RRefs.tail {w : World} {S : Foot} {b o n c : Nat} {l : List Ref} (h : RRefs w S [.slice (some ⟨b, o, none⟩) n c] l) {o' : Nat} (ho : o' = o + 2) : RRefs w S [.slice (some ⟨b, o', none⟩) (n - 1) (c - 1)] (l.drop 1) := by
 subst ho
 obtain ⟨A', c', he, h1, h2, h3⟩ := h
 injection he with he _; injection he with ha hn hc; subst hc hn
 refine ⟨_, _, by rw [List.length_drop], by rw [List.length_drop]; omega, by omega, fun hne => ?_⟩
 obtain ⟨b', o', hA, hb, hj⟩ := h3 (by rintro rfl; simp at hne)
 rw [hA] at ha; injection ha with ha; injection ha with ha hb'; subst ha hb'
 refine ⟨_, _, rfl, hb, fun j x hx => ?_⟩
 rw [List.getElem?_drop] at hx
 obtain ⟨es, e1, e2, e3⟩ := hj (1 + j) x hx
 refine ⟨es, e1, e2, fun i u hu => ?_⟩
 have := e3 i u hu
 rw [show o + 2 + (j * 2 + i) = o + ((1 + j) * 2 + i) from by omega]
 exact this

def FitI (w : World) (S : Foot) (p : Addr) (u : Value) : Prop := (∃ a b, w.cell? p = some (.int .i64 a) ∧ u = .int .i64 b) ∨ ∃ A n c, w.cell? p = some (.slice A n c) ∧ ∃ l, RInts (w.setCell p u) S [u] l
theorem FitI.int {w : World} {S : Foot} {p q : Addr} {u : Value} {x : Int} (h : FitI w S p u) (hq : w.cell? q = some (.int .i64 x)) : ∃ y, (w.setCell p u).cell? q = some (.int .i64 y) := by
 by_cases e : p = q
 ·subst e
  rcases h with ⟨a, b, h1, rfl⟩ | ⟨A, n, c, h1, _⟩
  ·exact ⟨b, World.cell?_setCell_same _ _ _ h1⟩
  ·rw [h1] at hq; cases hq
 ·exact ⟨x, (World.cell?_setCell_other _ _ _ _ e).trans hq⟩
theorem RInts.writeF {w : World} {S : Foot} {p : Addr} {u v : Value} {l : List Int} (hf : FitI w S p u) (h : RInts w S [v] l) : ∃ l', l'.length = l.length ∧ RInts (w.setCell p u) S [v] l' := by
 obtain ⟨A, c, he, h1, h2, h3⟩ := h
 injection he with he _; subst he
 by_cases hl : l = []
 ·subst hl; exact ⟨[], rfl, A, c, rfl, h1, h2, fun h => absurd rfl h⟩
 ·obtain ⟨b, o, rfl, hb, hj⟩ := h3 hl
  obtain ⟨l', hl', h5⟩ := list_choose (P := fun j y => (w.setCell p u).cell? ⟨b, o + (j * 1 + 0), none⟩ = some (.int .i64 y)) l.length (fun j hj' => by
   obtain ⟨es, e1, e2, e3⟩ := hj j l[j] (List.getElem?_eq_getElem hj')
   cases e2
   obtain ⟨y0, z0⟩ := hf.int (e3 0 _ rfl)
   exact ⟨y0, z0⟩)
  refine ⟨l', hl', some ⟨b, o, none⟩, c, by rw [hl'], by omega, h2, fun _ => ⟨b, o, rfl, hb, fun j x hx => ⟨[.int .i64 x], rfl, rfl, fun i y hy => ?_⟩⟩⟩
  have h6 := h5 j x hx
  match i, hy with
  | 0, hy => simp at hy; subst hy; exact h6
  | i + 1, hy => simp at hy
theorem RIntss.writeF {w : World} {S : Foot} {p : Addr} {u v : Value} {l : List (List Int)} (hf : FitI w S p u) (h : RIntss w S [v] l) : ∃ l', l'.length = l.length ∧ RIntss (w.setCell p u) S [v] l' := by
 obtain ⟨A, c, he, h1, h2, h3⟩ := h
 injection he with he _; subst he
 by_cases hl : l = []
 ·subst hl; exact ⟨[], rfl, A, c, rfl, h1, h2, fun h => absurd rfl h⟩
 ·obtain ⟨b, o, rfl, hb, hj⟩ := h3 hl
  obtain ⟨l', hl', h5⟩ := list_choose (P := fun j s => ∃ es : List Value, es.length = 1 ∧ RInts (w.setCell p u) S es s ∧ ∀ (i : Nat) u', es[i]? = some u' → (w.setCell p u).cell? ⟨b, o + (j * 1 + i), none⟩ = some u') l.length (fun j hj' => by
   obtain ⟨es, e1, hpv, e3⟩ := hj j l[j] (List.getElem?_eq_getElem hj')
   obtain ⟨A', c', rfl, g1, g2, g3⟩ := hpv
   have q1 := e3 0 _ rfl
   have hpv : RInts w S [.slice A' (l[j]).length c'] l[j] := ⟨A', c', rfl, g1, g2, g3⟩
   obtain ⟨pv', l1, w1, r1⟩ : ∃ pv' l1, (w.setCell p u).cell? ⟨b, o + (j * 1 + 0), none⟩ = some pv' ∧ RInts (w.setCell p u) S [pv'] l1 := by
    by_cases e : p = ⟨b, o + (j * 1 + 0), none⟩
    ·subst e
     rcases hf with ⟨a, b', h1', rfl⟩ | ⟨A', n', c', h1', l2, hl2⟩
     ·rw [h1'] at q1; cases q1
     ·exact ⟨u, l2, World.cell?_setCell_same _ _ _ h1', hl2⟩
    ·obtain ⟨l2, _, hl2⟩ := RInts.writeF hf hpv
     exact ⟨_, l2, (World.cell?_setCell_other _ _ _ _ e).trans q1, hl2⟩
   refine ⟨l1, [pv'], rfl, r1, fun i u' hu => ?_⟩
   match i, hu with
   | 0, hu => simp at hu; subst hu; exact w1
   | i + 1, hu => simp at hu)
  exact ⟨l', hl', some ⟨b, o, none⟩, c, by rw [hl'], by omega, h2, fun _ => ⟨b, o, rfl, hb, h5⟩⟩
theorem RIntss.writeO {w : World} {p : Addr} {u v : Value} {l : List (List Int)} (hf : FitI w (Old w) p u) (h : RIntss w (Old w) [v] l) : ∃ l', l'.length = l.length ∧ RIntss (w.setCell p u) (Old (w.setCell p u)) [v] l' := by
 obtain ⟨l', hl, h'⟩ := RIntss.writeF hf h
 have hsz : (w.setCell p u).heap.size = w.heap.size := by simp [World.setCell]
 exact ⟨l', hl, RIntss.ok.mono h' (fun b hb => by show b < _; rw [hsz]; exact hb) (fun _ _ => rfl)⟩
theorem RIntss.tail {w : World} {S : Foot} {b o n c : Nat} {l : List (List Int)} (h : RIntss w S [.slice (some ⟨b, o, none⟩) n c] l) {o' : Nat} (ho : o' = o + 1) : RIntss w S [.slice (some ⟨b, o', none⟩) (n - 1) (c - 1)] (l.drop 1) := by
 subst ho
 obtain ⟨A', c', he, h1, h2, h3⟩ := h
 injection he with he _; injection he with ha hn hc; subst hc hn
 refine ⟨_, _, by rw [List.length_drop], by rw [List.length_drop]; omega, by omega, fun hne => ?_⟩
 have hl : l ≠ [] := by rintro rfl; simp at hne
 obtain ⟨b', o', hb, hS, hj⟩ := h3 hl
 rw [hb] at ha
 injection ha with ha
 injection ha with ha1 ha2
 subst ha1 ha2
 refine ⟨b, o + 1, rfl, hS, fun j x hx => ?_⟩
 obtain ⟨es, e1, e2, e3⟩ := hj (j + 1) x (by rw [List.getElem?_drop] at hx; rw [Nat.add_comm]; exact hx)
 refine ⟨es, e1, e2, fun i u hu => ?_⟩
 have := e3 i u hu
 rw [show o + 1 + (j * 1 + i) = o + ((j + 1) * 1 + i) by omega]
 exact this

def RBel {α : Type} (E : Rd α) (B : Nat) : Rd α := fun w S cs x => E w (fun b => S b ∧ b < B) cs x
theorem RBel.ok {α : Type} {E : Rd α} (hE : Rd.Ok E) (B : Nat) : Rd.Ok (RBel E B) := ⟨fun h hS hw => hE.mono h (fun b hb => ⟨hS b hb.1, hb.2⟩) (fun b hb => hw b hb.1)⟩
theorem RBel.one {α : Type} {E : Rd α} (hO : Rd.One E) (B : Nat) : Rd.One (RBel E B) := fun w _ es x h u hu => hO w _ es x h u hu
theorem RSlice.toB {α : Type} {size : Nat} {E : Rd α} (hE : Rd.Ok E) {w : World} {S : Foot} {cs : List Value} {l : List α} {B : Nat} (h : RSlice size E w S cs l) (hB : ∀ b, S b → b < B) : RSlice size (RBel E B) w S cs l := by
 obtain ⟨A, c, he, h1, h2, h3⟩ := h
 refine ⟨A, c, he, h1, h2, fun hl => ?_⟩
 obtain ⟨b, o, e, hb, hj⟩ := h3 hl
 refine ⟨b, o, e, hb, fun j x hx => ?_⟩
 obtain ⟨es, e1, e2, e3⟩ := hj j x hx
 exact ⟨es, e1, hE.mono e2 (fun b hb => ⟨hb, hB b hb⟩) (fun _ _ => rfl), e3⟩
theorem OwnL.offZ {α : Type} {t size : Nat} {E : Rd α} (hE : Rd.Ok E) {w W : World} {base z : Nat} {v : Value} {l : List α} (h : OwnL t size (RBel E z) w base 0 v l) (hs : 0 < size) (k : Keeps (fun b => b = z) w W) (hz : z < base) : RSlice size E W (Old W) [v] l := by
 obtain ⟨A, c, he, h1, h2, h3⟩ := h.read (RBel.ok hE z) hs (S := Old w) (fun b _ hb => hb) (fun b _ hb => hb)
 refine ⟨A, c, he, h1, h2, fun hl => ?_⟩
 obtain ⟨b, o, e, hb, hj⟩ := h3 hl
 have hbb : b < w.heap.size := hb
 have hne : b ≠ z := by
  injection he with he _
  have := (h.lt (b := b) (by rw [he, e]; rfl)).1
  omega
 refine ⟨b, o, e, Nat.lt_of_lt_of_le hbb k.size, fun j x hx => ?_⟩
 obtain ⟨es, e1, e2, e3⟩ := hj j x hx
 refine ⟨es, e1, hE.mono e2 (fun b hb => by have h1 : b < w.heap.size := hb.1; exact Nat.lt_of_lt_of_le h1 k.size) (fun b hb => by have h1 : b < w.heap.size := hb.1; exact k.block b h1 (by have := hb.2; show ¬ b = z; omega)), fun i u hu => ?_⟩
 have h4 := e3 i u hu
 have h5 := k.block b hbb hne
 unfold World.cell? at h4 ⊢
 rw [h5]
 exact h4

end Go.Proofs.Ytilbbpbjhoidhaa
