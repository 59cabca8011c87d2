/- Contract of the reference's Verify of chapter 37. Conditions: as each theorem says. Chapter 37: Verify and the reference's Verify give the same answer; what Solve's solutions have. Conditions: as each theorem says. The statement DispatchArbitrary: its function returns true. No condition beyond the arguments' reading. From a row's argument that is a slice of integers to its reading. No condition. -/
import Derived.Test.YtilbbpbjhoidhaaA40
import Derived.Test.YtilbbpbjhoidhaaA51
import Derived.Test.YtilbbpbjhoidhaaA48
import Derived.Test.YtilbbpbjhoidhaaA08
import Derived.Deep.Cut
import Derived.Test.YtilbbpbjhoidhaaA44
import Derived.BigRegion
import Derived.Test.YtilbbpbjhoidhaaA01
import Derived.Test.YtilbbpbjhoidhaaRows
import Derived.ProofKit
import Derived.OpenShut
import Derived.ShutString
import Derived.ChangeOld
import Derived.Below
namespace Go.Proofs.Ytilbbpbjhoidhaa
open Go.RowKit

theorem openTo_pre (ps : List (List Stage)) (at_ : List Int) {n : Nat} : ∀ m : Nat, n ≤ m → ∃ rest, openTo ps at_ m = openTo ps at_ n ++ rest
 | 0, h => by (obtain rfl : n = 0 := by omega); exact ⟨[], by simp⟩
 | m + 1, h => by
  by_cases e : n = m + 1
  ·subst e; exact ⟨[], by simp⟩
  ·obtain ⟨rest, hr⟩ := openTo_pre ps at_ m (n := n) (by omega)
   exact ⟨rest ++ (if openA ps at_ (m : Int) = [] then [] else [(m : Int)]), by rw [openTo, hr, List.append_assoc]⟩
/-- the orders that were right so far -/
structure VrI (ps : List (List Stage)) (at_ : List Int) (os : List Order) (r k : Nat) : Prop where
 le : k ≤ os.length
 res : (os.take k).map (·.res) = openTo ps at_ r
 ex : ∀ o ∈ os.take k, exactlyB o.uses (openA ps at_ o.res) = true
section
variable {ps : List (List Stage)} {at_ : List Int} {os : List Order} {r k : Nat}
theorem VrI.start : VrI ps at_ os 0 0 := ⟨Nat.zero_le _, by simp [openTo], by simp⟩
theorem VrI.skip (h : VrI ps at_ os r k) (he : openA ps at_ (r : Int) = []) : VrI ps at_ os (r + 1) k := ⟨h.le, by rw [openTo, if_pos he, List.append_nil]; exact h.res, h.ex⟩
theorem VrI.next (h : VrI ps at_ os r k) (he : ¬ openA ps at_ (r : Int) = []) {o : Order} (ho : os[k]? = some o) (hr : o.res = (r : Int)) (hx : exactlyB o.uses (openA ps at_ (r : Int)) = true) : VrI ps at_ os (r + 1) (k + 1) := by
 have hk := getElem?_lt ho
 refine ⟨by omega, ?_, fun o' ho' => ?_⟩
 ·rw [List.take_add_one, ho, List.map_append, h.res, openTo, if_neg he]
  simp [hr]
 ·rw [List.take_add_one, ho] at ho'
  rcases List.mem_append.1 ho' with h1 | h1
  ·exact h.ex o' h1
  ·simp at h1; subst h1; rw [hr]; exact hx
theorem VrI.klen (h : VrI ps at_ os r k) : k = (openTo ps at_ r).length := by
 have := congrArg List.length h.res
 rw [List.length_map, List.length_take] at this
 have := h.le
 omega
/-- what okS says of the next order -/
theorem VrI.okS_at (h : VrI ps at_ os r k) (hr : r < 144) (he : ¬ openA ps at_ (r : Int) = []) (hok : okS ps at_ os = true) : ∃ o, os[k]? = some o ∧ o.res = (r : Int) ∧ exactlyB o.uses (openA ps at_ (r : Int)) = true := by
 obtain ⟨h1, h2⟩ := okS_iff.1 hok
 obtain ⟨rest, hrest⟩ := openTo_pre ps at_ (n := r + 1) 144 (by omega)
 have hro : openTo ps at_ (r + 1) = openTo ps at_ r ++ [(r : Int)] := by rw [openTo, if_neg he]
 rw [hro] at hrest
 have h3 : (openTo ps at_ 144)[k]? = some (r : Int) := by
  rw [hrest, h.klen, List.getElem?_append_left (by simp), List.getElem?_append_right (Nat.le_refl _)]
  simp
 rw [← h1, List.getElem?_map] at h3
 cases e : os[k]? with
 | none => rw [e] at h3; cases h3
 | some o =>
  rw [e] at h3
  injection h3 with h3
  exact ⟨o, rfl, h3, by have := h2 o (List.mem_of_getElem? e); have h4 : o.res = (r : Int) := h3; rwa [h4] at this⟩
theorem VrI.bad_len (h : VrI ps at_ os r k) (hr : r < 144) (he : ¬ openA ps at_ (r : Int) = []) (hk : os.length ≤ k) : okS ps at_ os = false := by
 cases hok : okS ps at_ os with
 | false => rfl
 | true =>
  obtain ⟨o, ho, _⟩ := h.okS_at hr he hok
  have := getElem?_lt ho
  omega
theorem VrI.bad (h : VrI ps at_ os r k) (hr : r < 144) (he : ¬ openA ps at_ (r : Int) = []) {o : Order} (ho : os[k]? = some o) (hb : o.res ≠ (r : Int) ∨ exactlyB o.uses (openA ps at_ (r : Int)) = false) : okS ps at_ os = false := by
 cases hok : okS ps at_ os with
 | false => rfl
 | true =>
  obtain ⟨o', ho', h1, h2⟩ := h.okS_at hr he hok
  rw [ho] at ho'
  injection ho' with ho'
  subst ho'
  rcases hb with hb | hb
  ·exact absurd h1 hb
  ·rw [hb] at h2; cases h2
theorem VrI.end_ne (h : VrI ps at_ os 144 k) (hk : k ≠ os.length) : okS ps at_ os = false := by
 cases hok : okS ps at_ os with
 | false => rfl
 | true =>
  obtain ⟨h1, _⟩ := okS_iff.1 hok
  have := congrArg List.length h1
  rw [List.length_map] at this
  have := h.klen
  omega
theorem VrI.end_eq (h : VrI ps at_ os 144 k) (hk : k = os.length) : okS ps at_ os = true := by
 subst hk
 have h1 := h.res
 have h2 := h.ex
 rw [List.take_length] at h1 h2
 exact okS_iff.2 ⟨h1, h2⟩
end

set_option maxRecDepth 100000 in
set_option maxHeartbeats 2000000 in
theorem RVerify_any (p : Pb) (x : Soln) (v : PV) (Ao Ae : Option Addr) (co ce : Nat) (w : World) (h : RPb w (Old w) v p) (ho : ROrders w (Old w) [.slice Ao x.os.length co] x.os) (he : RIntss w (Old w) [.slice Ae x.en.length ce] x.en) :
  Calls Try.prog 20 #[.agg (v.cs p), .agg #[.slice Ao x.os.length co, .slice Ae x.en.length ce, .int .i64 x.cost]] w fun e w' => e = .returned (.bool (verR p x)) ∧ KeepsAll w w' := by
 have hoc := ho.caps
 have HCK : Hid (∀ W, KeepsAll w W → Calls Try.prog 21 #[.agg #[.slice v.A p.ps.length v.c, .slice v.A2 p.at_.length v.c2, .slice v.A3 p.due.length v.c3, .slice v.A4 p.wgt.length v.c4, .int .i64 p.now]] W fun e w' => e = .returned (.bool (checkP p)) ∧ KeepsAll W w') := fun W hW => RDspCheck_any p v W (h.kept hW)
 have HOP : Hid (checkP p = true → ∀ W, KeepsAll w W → ∀ r : Int, Calls Try.prog 56 #[.agg #[.slice v.A p.ps.length v.c, .slice v.A2 p.at_.length v.c2, .slice v.A3 p.due.length v.c3, .slice v.A4 p.wgt.length v.c4, .int .i64 p.now], .int .i64 r] W fun e w' => ∃ A c, e = .returned (.slice A (openA p.ps p.at_ r).length c) ∧ RRefs w' (Fresh W w') [.slice A (openA p.ps p.at_ r).length c] (openA p.ps p.at_ r) ∧ KeepsAll W w') := fun hc W hW r => ROpen_any p v W r (h.kept hW) (checkP_ok hc).v (checkP_Gd hc).1
 have H := Lib.hid h
 have HO := Lib.hid ho
 have HE := Lib.hid he
 clear h ho he
 unfold PV.cs
 generalize hPP : (fun (e : Ending) w' => e = .returned (.bool (verR p x)) ∧ KeepsAll w w') = PP
 have HPP := Lib.hid hPP
 have HNO : Hid (∀ W, KeepsAll w W → verR p x = false → PP (.returned (.bool false)) W) := fun W hW hf => by rw [← hPP]; exact ⟨by rw [hf], hW⟩
 clear hPP
 go_enter Try.func20, Try.ntmps20
 go_wp2_with fail
 refine (HCK.out _ (((Keeps.refl _ _).alloc _).alloc _)).mono ?_
 rintro e w1 ⟨rfl, k1⟩
 have BP : Hid (Blk w1 w.heap.size 25 #[.slice v.A p.ps.length v.c, .slice v.A2 p.at_.length v.c2, .slice v.A3 p.due.length v.c3, .slice v.A4 p.wgt.length v.c4, .int .i64 p.now]) := ((Blk.new _ _ _).alloc _).kept k1 (by simp)
 have BS : Hid (Blk w1 (w.heap.size + 1) 31 #[.slice Ao x.os.length co, .slice Ae x.en.length ce, .int .i64 x.cost]) := (Blk.new' _ _ _ (by simp)).kept k1 (by simp)
 have K1 : Hid (KeepsAll w w1) := (((Keeps.refl _ _).alloc _).alloc _).tr k1
 clear k1
 obtain ⟨zs, hzs⟩ : ∃ b, b = w.heap.size + 1 := ⟨_, rfl⟩
 rw [← hzs] at BS ⊢
 obtain ⟨zp, hzp⟩ : ∃ b, b = w.heap.size := ⟨_, rfl⟩
 rw [← hzp] at BP ⊢
 clear hzs hzp
 cases hc : checkP p with
 | false =>
  have Q := Lib.hid (HNO.out w1 K1.out (by unfold verR; rw [hc]; rfl))
  clear hc HCK HOP HPP BP BS
  go_wp2
  exact Q.out
 | true =>
  have HC := Lib.hid hc
  have HOP2 := Lib.hid (HOP.out hc)
  have HBAD : Hid (okS p.ps p.at_ x.os = false → verR p x = false) := fun e => by unfold verR; rw [e]; simp
  clear hc HCK HOP
  go_wp2_with fail
  go_loopw [5, 6] (fun kv rv wr => ∃ (r k : Nat), r ≤ 144 ∧ kv = .int .i64 (k : Int) ∧ rv = .int .i64 (r : Int) ∧ VrI p.ps p.at_ x.os r k ∧ KeepsAll w1 wr) (fun _ rv _ => 144 - (intOf rv).toNat)
  case atStart => exact ⟨0, 0, by omega, rfl, rfl, VrI.start, Keeps.refl _ _⟩
  case round =>
   obtain ⟨r, k, hr, rfl, rfl, hi, hkr⟩ := hrel
   have HI := Lib.hid hi
   have KR := Lib.hid hkr
   have hkl := hi.le
   clear hi hkr
   by_cases hlt : r < 144
   ·have BPr := BP.out.kept KR.out (by simp)
    have BSr := BS.out.kept KR.out (by simp)
    have HOPr := Lib.hid (HOP2.out wr (K1.out.tr KR.out) (r : Int))
    have p0 := BPr.cell 0
    have p1 := BPr.cell 1
    have p2 := BPr.cell 2
    have p3 := BPr.cell 3
    have p4 := BPr.cell 4
    simp at p0 p1 p2 p3 p4
    clear BPr BSr
    go_wp2_with fail
    refine HOPr.out.mono ?_
    rintro e w2 ⟨Aw, cw, rfl, hw2, k2⟩
    have K2 := Lib.hid (KR.out.tr k2)
    have HW2 : Hid (RRefs w2 (Old w2) [.slice Aw (openA p.ps p.at_ (r : Int)).length cw] (openA p.ps p.at_ (r : Int))) := RSlice.ok RRef.ok |>.mono hw2 (fun _ hb => hb.2) (fun _ _ => rfl)
    have BSr := BS.out.kept K2.out (by simp)
    have s0 := BSr.cell 0
    simp at s0
    clear hw2 k2 HOPr p0 p1 p2 p3 p4 BSr
    by_cases hem : openA p.ps p.at_ (r : Int) = []
    ·have HI1 := Lib.hid (HI.out.skip hem)
     have hl0 : (openA p.ps p.at_ (r : Int)).length = 0 := by rw [hem]; rfl
     rw [hl0]
     clear hem hl0 HW2 HI
     go_wp2_with fail
     go_roundw
     case rel => exact ⟨r + 1, k, by omega, rfl, by go_num, HI1.out, K2.out⟩
     case measure => simp [intOf]; omega
    ·have HEM := Lib.hid hem
     have hl0 : ¬ ((openA p.ps p.at_ (r : Int)).length : Int) = 0 := by
      intro e
      exact hem (List.length_eq_zero_iff.1 (by omega))
     have hl0' : (((openA p.ps p.at_ (r : Int)).length : Int) == 0) = false := by simpa using hl0
     clear hem hl0
     by_cases hkk : k < x.os.length
     ·obtain ⟨bo, oo, o, Au, cu, hA, hbo, hoo, m0, m1, hru⟩ := ROrders.atK (K1.out.tr K2.out) HO.out hkk
      subst hA
      have HOO := Lib.hid hoo
      have HEX := Lib.hid (exactly_any o.uses (openA p.ps p.at_ (r : Int)) Au Aw cu cw w2 ((K1.out.tr K2.out).rdo' RRefs.ok hru) HW2.out)
      have hgk : decide ((k : Int) ≥ (x.os.length : Int)) = false := by simp; omega
      clear hoo hru
      by_cases hres : o.res = (r : Int)
      ·have hres' : (o.res != (r : Int)) = false := by simpa using hres
       cases hex : exactlyB o.uses (openA p.ps p.at_ (r : Int)) with
       | true =>
        have HI1 := Lib.hid (HI.out.next HEM.out HOO.out hres hex)
        rw [hex] at HEX
        clear hres hex HI
        go_wp2_with fail
        refine HEX.out.mono ?_
        rintro e w3 ⟨rfl, k3⟩
        have K3 := Lib.hid (K2.out.tr k3)
        clear k3 HEX
        go_wp2_with fail
        go_roundw
        case rel => exact ⟨r + 1, k + 1, by omega, by go_num, by go_num, HI1.out, K3.out⟩
        case measure => simp [intOf]; omega
       | false =>
        have hbad := HI.out.bad hlt HEM.out HOO.out (.inr hex)
        have HBD := Lib.hid (HBAD.out hbad)
        rw [hex] at HEX
        clear hres hex HI hbad
        go_wp2_with fail
        refine HEX.out.mono ?_
        rintro e w3 ⟨rfl, k3⟩
        have Q := Lib.hid (HNO.out w3 (K1.out.tr (K2.out.tr k3)) HBD.out)
        clear k3 HEX
        go_wp2_with fail
        exact Q.out
      ·have hres' : (o.res != (r : Int)) = true := by simpa using hres
       have hbad := HI.out.bad hlt HEM.out HOO.out (.inl hres)
       have Q := Lib.hid (HNO.out w2 (K1.out.tr K2.out) (HBAD.out hbad))
       clear hres hbad HEX
       go_wp2_with fail
       exact Q.out
     ·have hgk : decide ((k : Int) ≥ (x.os.length : Int)) = true := by simp; omega
      have hbad := HI.out.bad_len hlt HEM.out (by omega)
      have Q := Lib.hid (HNO.out w2 (K1.out.tr K2.out) (HBAD.out hbad))
      clear hbad
      go_wp2_with fail
      exact Q.out
   ·obtain rfl : r = 144 := by omega
    have BSr := Lib.hid (BS.out.kept KR.out (by simp))
    have BPr := Lib.hid (BP.out.kept KR.out (by simp))
    have s0 := BSr.out.cell 0
    simp at s0
    by_cases hke : k = x.os.length
    ·have HOK := Lib.hid (HI.out.end_eq hke)
     subst hke
     clear HI
     have hhv := (checkP_ok HC.out).v
     have hhg := checkP_Gd HC.out
     have HDK : Hid (DOk p.ps p.at_ (fulS p.ps x.os)) := Lib.hid (dok_ful HOK.out)
     have HVR : Hid (verR p x = (okD p.ps p.at_ (fulS p.ps x.os) && decide (x.en = tabOf p.ps (secD p (fulS p.ps x.os))) && decide (x.cost = costE p x.en))) := by show _ = _; unfold verR; rw [HC.out, HOK.out]; simp
     have HAR : Hid (∀ W, KeepsAll w W → Calls Try.prog 30 #[.slice v.A p.ps.length v.c, .slice Ao x.os.length co] W fun e w' => ∃ A c, e = .returned (.slice A (refArcs p.ps x.os).length c) ∧ RRArcs w' (Old w') [.slice A (refArcs p.ps x.os).length c] (refArcs p.ps x.os) ∧ KeepsAll W w') := fun W hW =>
      (ArcsO_any p.ps x.os v.A Ao v.c co W (okS_arcs hhv HOK.out) (H.out.kept hW).P (hW.rdo' ROrders.ok HO.out)).mono fun e w' ⟨va, he, ho, _, hk⟩ => by
       obtain ⟨A, c, rfl, _, _⟩ := ho.form
       exact ⟨A, c, he, ho.readF RRArc.ok RRArc.flat (fun b hb => (ho.lt hb).2), hk⟩
     have HLO : Hid (∀ W A c, KeepsAll w W → RRArcs W (Old W) [.slice A (refArcs p.ps x.os).length c] (refArcs p.ps x.os) → Calls Try.prog 25 #[.slice v.A p.ps.length v.c, .slice A (refArcs p.ps x.os).length c, .slice v.A2 p.at_.length v.c2] W fun e w' => ∃ v2, e = .returned (.tuple #[v2, .bool (okD p.ps p.at_ (fulS p.ps x.os))]) ∧ RRefs w' (Old w') [v2] (lineR p.ps (refArcs p.ps x.os) p.at_).1 ∧ KeepsAll W w') := fun W A c hW hA =>
      LineOf_all p.ps (refArcs p.ps x.os) p.at_ v.A A v.A2 v.c c v.c2 W (H.out.kept hW).P hA (H.out.kept hW).A hhv hhg (dok_in HDK.out)
     have HSE : Hid (okD p.ps p.at_ (fulS p.ps x.os) = true → ∀ W A A3 c c3, KeepsAll w W → RRArcs W (Old W) [.slice A (refArcs p.ps x.os).length c] (refArcs p.ps x.os) → RRefs W (Old W) [.slice A3 (lineR p.ps (refArcs p.ps x.os) p.at_).1.length c3] (lineR p.ps (refArcs p.ps x.os) p.at_).1 →
       Calls Try.prog 27 #[.slice v.A p.ps.length v.c, .slice A (refArcs p.ps x.os).length c, .slice A3 (lineR p.ps (refArcs p.ps x.os) p.at_).1.length c3, .slice v.A2 p.at_.length v.c2, .int .i64 p.now] W fun e w' => ∃ v3, e = .returned v3 ∧ RIntss w' (Fresh W w') [v3] (tabOf p.ps (secD p (fulS p.ps x.os))) ∧ KeepsAll W w') := fun hk W A A3 c c3 hW hA hL => by
      obtain ⟨f1, _, f3, f4⟩ := choice_facts HC.out HDK.out hk
      have := Seconds_freshA p.ps (refArcs p.ps x.os) (lineR p.ps (refArcs p.ps x.os) p.at_).1 p.at_ p.now v.A A A3 v.A2 v.c c c3 v.c2 W (H.out.kept hW).P hA hL (H.out.kept hW).A hhv hhg (checkP_ok HC.out).n f3 f4 (fun a ha => arcsD_wt hhv HDK.out ha) (fun a ha => (arcsD_ends HDK.out ha).1)
      have e : tabOf p.ps (secs (stepR p.ps (refArcs p.ps x.os) p.at_ p.now) (initR p.at_ p.now) (lineR p.ps (refArcs p.ps x.os) p.at_).1) = tabOf p.ps (secD p (fulS p.ps x.os)) := f1
      rw [e] at this
      exact this
     have HCO : Hid (∀ W, KeepsAll w W → Calls Try.prog 26 #[.agg #[.slice v.A p.ps.length v.c, .slice v.A2 p.at_.length v.c2, .slice v.A3 p.due.length v.c3, .slice v.A4 p.wgt.length v.c4, .int .i64 p.now], .slice Ae x.en.length ce] W fun e w' => e = .returned (.int .i64 (costE p x.en)) ∧ KeepsAll W w') := fun W hW => RDspCost_any p v W (H.out.kept hW) x.en Ae ce (hW.rdo' RIntss.ok HE.out)
     clear HBAD HOP2 HOK HDK hhv hhg
     generalize tabOf p.ps (secD p (fulS p.ps x.os)) = TB at *
     generalize (lineR p.ps (refArcs p.ps x.os) p.at_).1 = L at *
     generalize refArcs p.ps x.os = RA at *
     generalize okD p.ps p.at_ (fulS p.ps x.os) = okd at *
     have KW := Lib.hid (K1.out.tr KR.out)
     have HARr := Lib.hid (HAR.out wr KW.out)
     have p0 := BPr.out.cell 0
     have p1 := BPr.out.cell 1
     simp at p0 p1
     go_wp2_with fail
     refine HARr.out.mono ?_
     rintro e w2 ⟨A2, c2, rfl, ha2, k2⟩
     have HA2 := Lib.hid ha2
     have BS2 := Lib.hid (BSr.out.kept k2 (by simp))
     have BP2 := Lib.hid (BPr.out.kept k2 (by simp))
     have K2 := Lib.hid (KW.out.tr k2)
     have HLO2 := Lib.hid (HLO.out w2 A2 c2 (KW.out.tr k2) ha2)
     clear ha2 k2 HARr HAR HLO BSr BPr s0 p0 p1
     have p0 := BP2.out.cell 0
     have p1 := BP2.out.cell 1
     simp at p0 p1
     go_wp2_with fail
     refine HLO2.out.mono ?_
     rintro e w3 ⟨v3, rfl, hl3, k3⟩
     obtain ⟨A3, c3, rfl⟩ := RSlice.form hl3
     have HL3 := Lib.hid hl3
     have HA3 := Lib.hid (k3.rdo' RRArcs.ok HA2.out)
     have BS3 := Lib.hid (BS2.out.kept k3 (by simp))
     have BP3 := Lib.hid (BP2.out.kept k3 (by simp))
     have K3 := Lib.hid (K2.out.tr k3)
     clear hl3 k3 HLO2 HA2 BS2 BP2 p0 p1
     have pp0 := BP3.out.cell 0
     have pp1 := BP3.out.cell 1
     have pp2 := BP3.out.cell 2
     have pp3 := BP3.out.cell 3
     have pp4 := BP3.out.cell 4
     have s1 := BS3.out.cell 1
     have s2 := BS3.out.cell 2
     simp at pp0 pp1 pp2 pp3 pp4 s1 s2
     cases okd with
     | false =>
      have Q : Hid (∀ W, KeepsAll w3 W → PP (.returned (.bool false)) W) := fun W hW => HNO.out W (K3.out.tr hW) (by rw [HVR.out]; rfl)
      clear HSE HVR HCO
      go_wp2_with fail
      refine wp_region_lexB (fun w' => ∃ y : Ext w3, w' = y.val) [0, 1, 2, 3, 4, 5, 6, 7, 8, 9, 10, 11, 12, 13, 14, 15, 16] (by kernel_rfl) (by kernel_rfl) ⟨⟨_, (Keeps.refl _ _).drew⟩, rfl⟩ ?_
      iterate 3 (refine lex_q _ rfl rfl rfl ?_; go_big_quiet_step (fail); refine wpQuiet_nil ?_)
      iterate 10 (refine lex_skip _ rfl rfl rfl ?_; go_simp)
      iterate 2 (refine lex_skipa _ rfl rfl rfl ⟨⟨_, (Keeps.refl _ _).drew⟩, rfl⟩ ?_; go_simp)
      refine lex_skip _ rfl rfl rfl ?_; go_simp
      refine lex_q _ rfl rfl rfl ?_; go_big_quiet_step (fail); refine wpQuiet_nil ?_
      simp only [wpLex]
      refine NoPanic.normal ?_
      go_wp2
      first | exact Q.out _ (Keeps.refl _ _).drew | exact Q.out _ (Keeps.refl _ _)
     | true =>
      have HSE2 := Lib.hid (HSE.out rfl)
      have HVR2 : Hid (verR p x = (decide (x.en = TB) && decide (x.cost = costE p x.en))) := by show _ = _; rw [HVR.out, Bool.true_and]
      clear HSE HVR
      go_wp2_with fail
      refine wp_region_lexB (fun w' => ∃ y : Ext w3, w' = y.val) [0, 1, 2, 3, 4, 5, 6, 7, 8, 9, 10, 11, 12, 13, 14, 15, 16] (by kernel_rfl) (by kernel_rfl) ⟨⟨_, (Keeps.refl _ _).drew⟩, rfl⟩ ?_
      have y0 := Ext.cell pp0
      have y1 := Ext.cell pp1
      have y4 := Ext.cell pp4
      have z1 := Ext.cell s1
      iterate 13 (refine lex_q _ rfl rfl rfl ?_; go_big_quiet_step (fail); refine wpQuiet_nil ?_)
      refine lex_a _ rfl rfl true (by kernel_rfl) ?_
      go_wp2_with fail
      have kd : KeepsAll w3 w3.drew := (Keeps.refl _ _).drew
      refine (HSE2.out w3.drew A2 A3 c2 c3 (K3.out.tr kd) (kd.rdo' RRArcs.ok HA3.out) (kd.rdo' RRefs.ok HL3.out)).mono ?_
      rintro e w4 ⟨v4, rfl, hE, k4⟩
      obtain ⟨A4, c4, rfl⟩ := RSlice.form hE
      have K4 := Lib.hid (kd.tr k4)
      have HSL := Lib.hid (sameLists_any x.en TB Ae A4 ce c4 w4 ((K3.out.tr K4.out).rdo' RIntss.ok HE.out) (RIntss.ok.mono hE (fun _ hb => hb.2) (fun _ _ => rfl)))
      clear k4 kd hE HSE2 HL3 HA3
      go_wp2
      refine ⟨fun _ => ⟨⟨_, K4.out⟩, rfl⟩, ?_⟩
      refine lex_a _ rfl rfl true (by kernel_rfl) ?_
      go_wp2_with fail
      refine HSL.out.mono ?_
      rintro e w5 ⟨rfl, k5⟩
      have K5 := Lib.hid (K4.out.tr k5)
      clear k5 HSL
      by_cases hen : x.en = TB
      ·rw [decide_eq_true hen]
       have HV3 : Hid (verR p x = decide (x.cost = costE p x.en)) := by show _ = _; rw [HVR2.out, decide_eq_true hen, Bool.true_and]
       clear hen HVR2
       go_wp2
       refine ⟨fun _ => ⟨⟨_, K5.out⟩, rfl⟩, ?_⟩
       clear y0 y1 y4 z1
       iterate 2 (refine lex_q _ rfl rfl rfl ?_; go_big_quiet_step (fail); refine wpQuiet_nil ?_)
       simp only [wpLex]
       refine NoPanic.normal ?_
       have KF := Lib.hid (K3.out.tr K5.out)
       have p0 := K5.out.cellK (p := ⟨zp, 0, none⟩) BP3.out.lt pp0
       have p1 := K5.out.cellK (p := ⟨zp, 1, none⟩) BP3.out.lt pp1
       have p2 := K5.out.cellK (p := ⟨zp, 2, none⟩) BP3.out.lt pp2
       have p3 := K5.out.cellK (p := ⟨zp, 3, none⟩) BP3.out.lt pp3
       have p4 := K5.out.cellK (p := ⟨zp, 4, none⟩) BP3.out.lt pp4
       have t1 := K5.out.cellK (p := ⟨zs, 1, none⟩) BS3.out.lt s1
       have t2 := K5.out.cellK (p := ⟨zs, 2, none⟩) BS3.out.lt s2
       clear pp0 pp1 pp2 pp3 pp4 s1 s2
       go_wp2_with fail
       refine wp_region_lexB (fun w' => ∃ y : Ext w5, w' = y.val) [0, 1, 2, 3, 4, 5, 6, 7] (by kernel_rfl) (by kernel_rfl) ⟨⟨_, (Keeps.refl _ _).drew⟩, rfl⟩ ?_
       have y0 := Ext.cell p0
       have y1 := Ext.cell p1
       have y2 := Ext.cell p2
       have y3 := Ext.cell p3
       have y4 := Ext.cell p4
       have z1 := Ext.cell t1
       have z2 := Ext.cell t2
       iterate 5 (refine lex_q _ rfl rfl rfl ?_; go_big_quiet_step (fail); refine wpQuiet_nil ?_)
       clear y0 y1 y2 y3 y4 z1 z2
       refine lex_a _ rfl rfl true (by kernel_rfl) ?_
       go_wp2_with fail
       have kd : KeepsAll w5 w5.drew := (Keeps.refl _ _).drew
       refine (HCO.out w5.drew (KF.out.tr kd)).mono ?_
       rintro e w7 ⟨rfl, k7⟩
       have K7 := Lib.hid (kd.tr k7)
       have Q : Hid (∀ W, KeepsAll w7 W → PP (.returned (.bool (x.cost == costE p x.en))) W) := fun W hW => by
        have h7 := KF.out.tr ((kd.tr k7).tr hW)
        rw [← HPP.out]
        refine ⟨?_, h7⟩
        rw [HV3.out]
        by_cases e : x.cost = costE p x.en
        ·simp [e]
        ·simp [e]
       clear k7 kd HCO HV3
       go_wp2
       refine ⟨fun _ => ⟨⟨_, K7.out⟩, rfl⟩, ?_⟩
       iterate 2 (refine lex_q _ rfl rfl rfl ?_; go_big_quiet_step (fail); refine wpQuiet_nil ?_)
       simp only [wpLex]
       refine NoPanic.normal ?_
       go_wp2
       first | exact Q.out _ (Keeps.refl _ _) | exact Q.out _ (Keeps.refl _ _).drew
      ·rw [decide_eq_false hen]
       have Q : Hid (∀ W, KeepsAll w5 W → PP (.returned (.bool false)) W) := fun W hW => HNO.out W (K3.out.tr (K5.out.tr hW)) (by rw [HVR2.out, decide_eq_false hen, Bool.false_and])
       clear hen HVR2 HCO
       go_wp2
       refine ⟨fun _ => ⟨⟨_, K5.out⟩, rfl⟩, ?_⟩
       clear y0 y1 y4 z1
       iterate 2 (refine lex_q _ rfl rfl rfl ?_; go_big_quiet_step (fail); refine wpQuiet_nil ?_)
       simp only [wpLex]
       refine NoPanic.normal ?_
       go_wp2
       first | exact Q.out _ (Keeps.refl _ _) | exact Q.out _ (Keeps.refl _ _).drew
    ·have hbad := HI.out.end_ne hke
     have Q := Lib.hid (HNO.out wr (K1.out.tr KR.out) (HBAD.out hbad))
     have hke' : ((k : Int) != (x.os.length : Int)) = true := by simp; omega
     clear hbad HI
     go_wp2_with fail
     exact Q.out

/-- both answers to a solution in memory -/
theorem ver_both (p : Pb) (v : PV) {os : List Order} {en : List (List Int)} {cost : Int} {Ao Ae : Option Addr} {co ce : Nat} {w : World} (h : RPb w (Old w) v p) (ho : ROrders w (Old w) [.slice Ao os.length co] os) (he : RIntss w (Old w) [.slice Ae en.length ce] en) :
  (∀ W, KeepsAll w W → Calls Try.prog 19 #[.agg #[.slice v.A p.ps.length v.c, .slice v.A2 p.at_.length v.c2, .slice v.A3 p.due.length v.c3, .slice v.A4 p.wgt.length v.c4, .int .i64 p.now], .agg #[.slice Ao os.length co, .slice Ae en.length ce, .int .i64 cost]] W fun e w' => e = .returned (.bool (verR p ⟨os, en, cost⟩)) ∧ KeepsAll W w') ∧
  ∀ W, KeepsAll w W → Calls Try.prog 20 #[.agg #[.slice v.A p.ps.length v.c, .slice v.A2 p.at_.length v.c2, .slice v.A3 p.due.length v.c3, .slice v.A4 p.wgt.length v.c4, .int .i64 p.now], .agg #[.slice Ao os.length co, .slice Ae en.length ce, .int .i64 cost]] W fun e w' => e = .returned (.bool (verR p ⟨os, en, cost⟩)) ∧ KeepsAll W w' := by
 refine ⟨fun W hW => ?_, fun W hW => ?_⟩
 ·have := DspVerify_any p ⟨os, en, cost⟩ v Ao Ae co ce W (h.kept hW) (hW.rdo' ROrders.ok ho) (hW.rdo' RIntss.ok he)
  rw [ver_eq] at this
  exact this
 ·exact RVerify_any p ⟨os, en, cost⟩ v Ao Ae co ce W (h.kept hW) (hW.rdo' ROrders.ok ho) (hW.rdo' RIntss.ok he)

set_option maxRecDepth 100000 in
set_option maxHeartbeats 4000000 in
theorem DispatchArbitrary_any (p : Pb) (v : PV) (os : List Order) (en : List (List Int)) (cost : Int) (Ao Ae : Option Addr) (co ce : Nat) (lp la ld : List Int) (Ap Aa Ad : Option Addr) (cp ca cd : Nat) (w : World) (hp : RPb w (Old w) v p) (ho : ROrders w (Old w) [.slice Ao os.length co] os) (he : RIntss w (Old w) [.slice Ae en.length ce] en) (h : RInts w (Old w) [.slice Ap lp.length cp] lp) (h2 : RInts w (Old w) [.slice Aa la.length ca] la) (h3 : RInts w (Old w) [.slice Ad ld.length cd] ld) :
  Calls Try.prog 6 #[.agg #[.slice v.A p.ps.length v.c, .slice v.A2 p.at_.length v.c2, .slice v.A3 p.due.length v.c3, .slice v.A4 p.wgt.length v.c4, .int .i64 p.now], .agg #[.slice Ao os.length co, .slice Ae en.length ce, .int .i64 cost], .slice Ap lp.length cp, .slice Aa la.length ca, .slice Ad ld.length cd] w fun e w' => e = .returned (.bool true) ∧ KeepsAll w w' := by
 have HP := Lib.hid hp
 have HO := Lib.hid ho
 have HE := Lib.hid he
 have H := Lib.hid h
 have H2 := Lib.hid h2
 have H3 := Lib.hid h3
 clear hp ho he h h2 h3
 go_enter Try.func6, Try.ntmps6
 go_upto_region 1 with (fail)
 generalize hW1 : World.alloc (World.alloc w _) _ = W1
 have K1 : Hid (KeepsAll w W1) := by subst hW1; exact ((Keeps.refl _ _).alloc _).alloc _
 have BP1 : Hid (Blk W1 w.heap.size 25 #[.slice v.A p.ps.length v.c, .slice v.A2 p.at_.length v.c2, .slice v.A3 p.due.length v.c3, .slice v.A4 p.wgt.length v.c4, .int .i64 p.now]) := by subst hW1; exact (Blk.new _ _ _).alloc _
 have BX1 : Hid (Blk W1 (w.heap.size + 1) 31 #[.slice Ao os.length co, .slice Ae en.length ce, .int .i64 cost]) := by subst hW1; exact Blk.new' _ _ _ (by simp)
 obtain ⟨zx, hzx⟩ : ∃ b, b = w.heap.size + 1 := ⟨_, rfl⟩
 simp only [← hzx] at BX1 ⊢
 clear hW1 hzx
 generalize w.heap.size = zp at *
 go_wp2_with fail
 refine (small37_any lp la ld Ap Aa Ad cp ca cd 0 W1 (K1.out.rdo' RInts.ok H.out) (K1.out.rdo' RInts.ok H2.out) (K1.out.rdo' RInts.ok H3.out)).mono ?_
 rintro e w2 ⟨v', p', rfl, hr, _, _, k2⟩
 have HR2 := Lib.hid hr.old
 have K2 := Lib.hid (K1.out.tr k2)
 have BP2 := Lib.hid (BP1.out.kept k2 (by simp))
 have BX2 := Lib.hid (BX1.out.kept k2 (by simp))
 clear hr k2 K1 BP1 BX1 H H2 H3
 unfold PV.cs
 go_upto_region 2 with (fail)
 generalize hWF : World.alloc w2 _ = WF
 have kf : KeepsAll w2 WF := by subst hWF; exact (Keeps.refl _ _).alloc _
 have BQ : Hid (Blk WF w2.heap.size 25 #[.slice v'.A p'.ps.length v'.c, .slice v'.A2 p'.at_.length v'.c2, .slice v'.A3 p'.due.length v'.c3, .slice v'.A4 p'.wgt.length v'.c4, .int .i64 p'.now]) := by subst hWF; exact Blk.new _ _ _
 have KF := Lib.hid (K2.out.tr kf)
 have x0 := (BP2.out.kept kf (by simp)).cell 0
 have x1 := (BP2.out.kept kf (by simp)).cell 1
 have x2 := (BP2.out.kept kf (by simp)).cell 2
 have x3 := (BP2.out.kept kf (by simp)).cell 3
 have x4 := (BP2.out.kept kf (by simp)).cell 4
 have s0 := (BX2.out.kept kf (by simp)).cell 0
 have s1 := (BX2.out.kept kf (by simp)).cell 1
 have s2 := (BX2.out.kept kf (by simp)).cell 2
 have q0 := BQ.out.cell 0
 have q1 := BQ.out.cell 1
 have q2 := BQ.out.cell 2
 have q3 := BQ.out.cell 3
 have q4 := BQ.out.cell 4
 simp at x0 x1 x2 x3 x4 s0 s1 s2 q0 q1 q2 q3 q4
 have HVB := Lib.hid (ver_both p v (HP.out.kept KF.out) (KF.out.rdo' ROrders.ok HO.out) (KF.out.rdo' RIntss.ok HE.out) (cost := cost))
 have HVC := Lib.hid (ver_both p' v' (HR2.out.kept kf) (KF.out.rdo' ROrders.ok HO.out) (KF.out.rdo' RIntss.ok HE.out) (cost := cost))
 clear hWF kf BQ BP2 BX2 K2 HR2 HP HO HE
 generalize w2.heap.size = zq at *
 refine wp_region_lexB (fun w' => ∃ y : Ext WF, w' = y.val) [0, 1, 2, 3, 5, 6, 4, 7, 8, 9, 10, 11, 12, 14, 15, 13, 16, 17, 18, 19] (by kernel_rfl) (by kernel_rfl) ⟨⟨_, (Keeps.refl _ _).drew⟩, rfl⟩ ?_
 have y0 := Ext.cell x0
 have y1 := Ext.cell x1
 have y2 := Ext.cell x2
 have y3 := Ext.cell x3
 have y4 := Ext.cell x4
 have z0 := Ext.cell s0
 have z1 := Ext.cell s1
 have z2 := Ext.cell s2
 have r0 := Ext.cell q0
 have r1 := Ext.cell q1
 have r2 := Ext.cell q2
 have r3 := Ext.cell q3
 have r4 := Ext.cell q4
 refine lex_a _ rfl rfl true (by kernel_rfl) ?_
 go_wp2_with fail
 refine (awake37_any _).mono ?_
 rintro e wa ⟨rfl, ka⟩
 have KA := Lib.hid ((Keeps.refl _ WF).drew.tr ka)
 have HVA := Lib.hid (HVB.out.1 wa KA.out)
 clear ka
 go_wp2
 refine ⟨fun _ => ⟨⟨_, KA.out⟩, rfl⟩, ?_⟩
 iterate 5 (refine lex_q _ rfl rfl rfl ?_; go_big_quiet_step (fail); refine wpQuiet_nil ?_)
 refine lex_a _ rfl rfl true (by kernel_rfl) ?_
 go_wp2_with fail
 refine HVA.out.mono ?_
 rintro e wb ⟨rfl, kb⟩
 have KB := Lib.hid (KA.out.tr kb)
 have HVR := Lib.hid (HVB.out.2 wb KB.out)
 clear kb HVA HVB
 go_wp2
 refine ⟨fun _ => ⟨⟨_, KB.out⟩, rfl⟩, ?_⟩
 refine lex_a _ rfl rfl true (by kernel_rfl) ?_
 go_wp2_with fail
 refine HVR.out.mono ?_
 rintro e wc ⟨rfl, kc⟩
 have KC := Lib.hid (KB.out.tr kc)
 have HVD := Lib.hid (HVC.out.1 wc KC.out)
 clear kc HVR KB KA
 generalize verR p _ = bv at *
 have hbb : (bv == bv) = true := by simp
 go_wp2
 refine ⟨fun _ => ⟨⟨_, KC.out⟩, rfl⟩, ?_⟩
 iterate 7 (refine lex_q _ rfl rfl rfl ?_; go_big_quiet_step (fail); refine wpQuiet_nil ?_)
 clear y0 y1 y2 y3 y4 z0 z1 z2 r0 r1 r2 r3 r4
 refine lex_a _ rfl rfl true (by kernel_rfl) ?_
 go_wp2_with fail
 refine HVD.out.mono ?_
 rintro e wd ⟨rfl, kd⟩
 have KD := Lib.hid (KC.out.tr kd)
 have HVE := Lib.hid (HVC.out.2 wd KD.out)
 clear kd HVD HVC KC
 go_wp2
 refine ⟨fun _ => ⟨⟨_, KD.out⟩, rfl⟩, ?_⟩
 refine lex_a _ rfl rfl true (by kernel_rfl) ?_
 go_wp2_with fail
 refine HVE.out.mono ?_
 rintro e we ⟨rfl, ke⟩
 have KE := Lib.hid (KD.out.tr ke)
 have KE2 := Lib.hid (KF.out.tr KE.out)
 clear ke HVE KD
 generalize verR p' _ = bw at *
 have hbw : (bw == bw) = true := by simp
 go_wp2
 refine ⟨fun _ => ⟨⟨_, KE.out⟩, rfl⟩, ?_⟩
 iterate 3 (refine lex_q _ rfl rfl rfl ?_; go_big_quiet_step (fail); refine wpQuiet_nil ?_)
 simp only [wpLex]
 refine NoPanic.normal ?_
 go_wp2
 go_ret
 first | exact ⟨rfl, KE2.out⟩ | exact ⟨rfl, KE2.out.drew⟩

open Go.ChangeShapes Go.WideShapes Go.ChangeAt Go.RowKit

theorem rowOwn : ownKnob Try.prog.godebug = none := by kernel_rfl
theorem rowLaid : laidOutB Try.prog = true := by kernel_rfl

theorem cell_lt {w : World} {p : Addr} {v : Value} (h : w.cell? p = some v) : p.block < w.heap.size := by
 rcases Nat.lt_or_ge p.block w.heap.size with h1 | h1
 ·exact h1
 ·have : w.heap[p.block]? = none := Array.getElem?_eq_none h1
  simp [World.cell?, this] at h

theorem ints_of_row {W : World} {a : Option Addr} {len cap : Nat} {zs : List Int}
  (h : (a = none ∧ len = 0 ∧ cap = 0 ∧ zs = []) ∨ ∃ x, a = some x ∧ len ≤ cap ∧ cap ≤ maxLen ∧ zs.length = cap ∧ (∀ i, i < zs.length → W.cell? (x.add i) = some (.int .i64 (zs.getD i 0)))) :
  ∃ l : List Int, len = l.length ∧ RInts W (Old W) [.slice a l.length cap] l := by
 rcases h with ⟨rfl, rfl, rfl, rfl⟩ | ⟨x, rfl, hl, hm, hz, hc⟩
 ·exact ⟨[], rfl, RSlice.mkNil⟩
 ·have hlen : (zs.take len).length = len := by simp; omega
  refine ⟨zs.take len, hlen.symm, some x, cap, rfl, by omega, by simpa [maxLen] using hm, fun hne => ?_⟩
  have hpos : 0 < len := by
   rcases Nat.eq_zero_or_pos len with h0 | h0
   ·subst h0; simp at hne
   ·exact h0
  have h0 := hc 0 (by omega)
  obtain ⟨b, o, spot⟩ := x
  have hspot : spot = none := by simpa [Addr.add] using World.cell?_spot h0
  subst hspot
  refine ⟨b, o, rfl, by have := cell_lt h0; show b < _; simpa [Addr.add] using this, fun j y hy => ?_⟩
  have hj := (List.getElem?_eq_some_iff.1 hy).1
  have hj2 : j < len := by omega
  refine ⟨[.int .i64 y], rfl, rfl, fun i u hu => ?_⟩
  have hi : i = 0 := by
   rcases i with _ | i
   ·rfl
   ·simp at hu
  subst hi
  simp at hu; subst hu
  have := hc j (by omega)
  rw [List.getElem?_take_of_lt hj2] at hy
  rw [List.getD_eq_getElem?_getD, hy] at this
  rcases j with _ | j
  ·simpa [Addr.add] using this
  ·simpa [Addr.add] using this

theorem trod_ints {H : Type} {enc : TypeId × Value → H} {W : World} {a : Option Addr} {len cap : Nat} {d : DataW H} {p : List MemPlace} (h : DataW.Trod enc Try.prog W 0 (fun _ => true) true 22 (.slice a len cap) d p) :
  ∃ l : List Int, len = l.length ∧ RInts W (Old W) [.slice a l.length cap] l := by
 obtain ⟨fuel, hf⟩ := h
 rcases open_ints Try.underlying22 Try.underlying3 (by kernel_rfl) hf with ⟨hcs, _⟩ | ⟨x, l, c, zs, hcs, _, hl, hm, hz, _, hcell, hwz⟩
 ·simp [Value.cells] at hcs
  obtain ⟨rfl, rfl, rfl⟩ := hcs
  exact ints_of_row (zs := []) (.inl ⟨rfl, rfl, rfl, rfl⟩)
 ·simp [Value.cells] at hcs
  obtain ⟨rfl, rfl, rfl⟩ := hcs
  exact ints_of_row (zs := zs) (.inr ⟨_, rfl, hl, hm, by simpa using hz, hcell⟩)

end Go.Proofs.Ytilbbpbjhoidhaa
