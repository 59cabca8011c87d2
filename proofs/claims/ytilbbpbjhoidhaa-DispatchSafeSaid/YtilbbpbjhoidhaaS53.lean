/- Contract of the reference's Search: it returns what searchP says. Conditions: as the theorem says. Contract of the reference's Arcs for orders of any uses that the paths have. Conditions: as the theorem says. -/
import Derived.Test.YtilbbpbjhoidhaaS52
import Derived.Test.YtilbbpbjhoidhaaS13
namespace Go.Proofs.Ytilbbpbjhoidhaa
open Go.RowKit

set_option maxRecDepth 100000 in
set_option maxHeartbeats 4000000 in
theorem RSearch_any (ps : List (List Stage)) (at_ : List Int) (budget : Int) (A A2 : Option Addr) (c c2 : Nat) (w : World) (h : RPaths w (Old w) [.slice A ps.length c] ps) (h2 : RInts w (Old w) [.slice A2 at_.length c2] at_) :
  Calls Try.prog 29 #[.slice A ps.length c, .slice A2 at_.length c2, .int .i64 budget] w fun e w' => ∃ v, e = .returned (.tuple #[v, .int .i64 (searchP ps at_ budget).2.1, .int .i64 (searchP ps at_ budget).2.2]) ∧ RInts w' (Fresh w w') [v] (searchP ps at_ budget).1 ∧ KeepsAll w w' := by
 have HCK := Lib.hid (CheckState_any ps at_ A A2 c c2 w h h2)
 have H := Lib.hid h
 have H2 := Lib.hid h2
 clear h h2
 by_cases g0 : checkState ps at_ = 0
 ·rw [g0] at HCK
  obtain ⟨hv, hgd, _⟩ := checkState_zero g0
  have HV := Lib.hid hv
  have HG := Lib.hid (good_Gd.1 hgd)
  have HC := Lib.hid g0
  by_cases g1 : budget < 1
  ·have g1' : decide (budget < 1) = true := by simpa using g1
   have Q : Hid (searchP ps at_ budget = ([], 0, 4)) := by show _ = _; unfold searchP; rw [if_neg (by simp [g0]), if_pos (.inl g1)]
   clear g0 g1
   go_enter Try.func29, Try.ntmps29
   go_wp2_with fail
   refine HCK.out.mono ?_
   rintro e w1 ⟨rfl, k1⟩
   have K1 := Lib.hid k1; clear k1
   go_wp2
   go_ret3
   rw [Q.out]
   exact ⟨_, rfl, RSlice.mkNil, K1.out⟩
  ·have g1' : decide (budget < 1) = false := by simpa using g1
   by_cases g2 : 1048576 < budget
   ·have g2' : decide (budget > 1048576) = true := by simpa using g2
    have Q : Hid (searchP ps at_ budget = ([], 0, 4)) := by show _ = _; unfold searchP; rw [if_neg (by simp [g0]), if_pos (.inr g2)]
    clear g0 g1 g2
    go_enter Try.func29, Try.ntmps29
    go_wp2_with fail
    refine HCK.out.mono ?_
    rintro e w1 ⟨rfl, k1⟩
    have K1 := Lib.hid k1; clear k1
    go_wp2
    go_ret3
    rw [Q.out]
    exact ⟨_, rfl, RSlice.mkNil, K1.out⟩
   ·have g2' : decide (budget > 1048576) = false := by simpa using g2
    obtain ⟨b, rfl⟩ := Int.eq_ofNat_of_zero_le (by omega : 0 ≤ budget)
    have HQ : Hid (searchP ps at_ (b : Int) = if (exam ps b (total ps at_ + 1) at_ [] []).1 = 0 then ((exam ps b (total ps at_ + 1) at_ [] []).2.2, ((exam ps b (total ps at_ + 1) at_ [] []).2.1.length : Int), 0) else if (exam ps b (total ps at_ + 1) at_ [] []).1 = 19 then ([], ((exam ps b (total ps at_ + 1) at_ [] []).2.1.length : Int), 19) else ([], 0, 15)) := by
     show _ = _; unfold searchP; rw [if_neg (by simp [g0]), if_neg (by omega), Int.toNat_natCast]
    have HEX : Hid (∀ (w0 : World) (rb : Nat), RPaths w0 (Old w0) [.slice A ps.length c] ps → ∀ (W : World), RSr w0 W rb A c ps b 0 [] [] (.slice none 0 0) (.slice none 0 0) [] → RInts W (AtF W rb (.slice none 0 0) (.slice none 0 0)) [.slice A2 at_.length c2] at_ → _) := fun w0 rb hP W hS hat => rexam_any w0 rb A c ps b hP HV.out (by omega) (total ps at_ + 1) W at_ A2 c2 [] [] (.slice none 0 0) (.slice none 0 0) [] (by omega) HG.out hS (by simp) (by have := total_le HV.out HG.out; simp; omega) hat
    have HCODE := Lib.hid (exam_ok (ps := ps) (budget := b) (total ps at_ + 1) at_ HG.out (by omega) [] []).code
    have HLEN : Hid ((exam ps b (total ps at_ + 1) at_ [] []).2.1.length ≤ b) := (exam_ok (ps := ps) (budget := b) (total ps at_ + 1) at_ HG.out (by omega) [] []).le (by simp)
    generalize exam ps b (total ps at_ + 1) at_ [] [] = r at *
    have hb1 : b ≤ 1048576 := by omega
    clear g0 g1 g2
    go_enter Try.func29, Try.ntmps29
    go_wp2_with fail
    refine HCK.out.mono ?_
    rintro e w1 ⟨rfl, k1⟩
    have K1 := Lib.hid k1
    have HPx1 := Lib.hid (k1.rdo' RPaths.ok H.out)
    have A1 := Lib.hid (k1.rdo' RInts.ok H2.out)
    clear k1 HCK
    go_wp2_with fail
    generalize hW3 : World.alloc w1 _ = W3
    have HSR : Hid (RSr w1 W3 w1.heap.size A c ps b 0 [] [] (.slice none 0 0) (.slice none 0 0) []) := by
     subst hW3
     exact ⟨Blk.new _ _ _, OwnL.nil, OwnL.nil, rfl, fun j v x h => by simp at h, by simp, fun b h => by simp [Value.ownBlock] at h, Nat.le_refl _, (Keeps.refl _ _).alloc _⟩
    have HAT3 : Hid (RInts W3 (AtF W3 w1.heap.size (.slice none 0 0) (.slice none 0 0)) [.slice A2 at_.length c2] at_) := by
     subst hW3
     have kk : KeepsAll w1 (w1.alloc (.cells #[.slice A ps.length c, .int .i64 (b : Int), .int .i64 0, .slice none 0 0, .slice none 0 0] 116)) := (Keeps.refl _ _).alloc _
     exact kk.rd RInts.ok A1.out (fun bb hb => ⟨hb, by simp⟩) (fun bb hb => ⟨Nat.lt_of_lt_of_le hb kk.size, fun e => by
      have hb' : bb < w1.heap.size := hb
      rcases e with e | e | e
      ·omega
      ·simp [Value.ownBlock] at e
      ·simp [Value.ownBlock] at e⟩)
    clear hW3
    generalize hrb : w1.heap.size = rb at *
    have HRB : Hid (w.heap.size ≤ rb) := by show _ ≤ _; rw [← hrb]; exact K1.out.size
    clear hrb
    refine (HEX.out w1 rb HPx1.out W3 HSR.out HAT3.out).mono ?_
    rintro e w5 ⟨rfl, hpost⟩
    obtain ⟨uC, vsC, vsnC, vplC, plC, hC, hu1, hu2, hp1, hp2, hevC⟩ := hpost.ex
    clear hpost hevC HEX HSR HAT3 hp2
    obtain ⟨e5, s5, m5⟩ := r
    simp only [] at hC hu1 hu2 hp1 HQ HCODE HLEN ⊢
    have H5 := Lib.hid hC
    have b2 := hC.b.cell 2
    simp at b2
    have hsz := hC.b.lt
    have K5 := Lib.hid (K1.out.tr hC.k)
    have hlen := HLEN.out
    clear hC
    rcases HCODE.out with hc | hc | hc
    ·subst hc
     obtain rfl := hp1 rfl
     obtain rfl := hu1 (by omega)
     have Q : Hid (searchP ps at_ (b : Int) = (plC, (s5.length : Int), 0)) := by show _ = _; rw [HQ.out, if_pos rfl]
     obtain ⟨A5, c5, rfl, hc51, hc52⟩ := H5.out.po.form
     have b4 := H5.out.b.cell 4
     simp at b4
     have HRD : Hid (RInts w5 (Fresh w w5) [.slice A5 plC.length c5] plC) := H5.out.po.read RInt.ok (by omega) (S := Fresh w w5) (fun bb h1 h2 => ⟨by have := HRB.out; omega, h2⟩) (fun bb h1 h2 => ⟨by have := HRB.out; omega, h2⟩)
     clear HQ HCODE hp1 hu1 hu2
     rw [show decide ((0 : Int) = 0) = true from rfl]
     go_wp2
     go_quiet (fail)
     go_wp2
     go_ret3
     rw [Q.out]
     exact ⟨_, rfl, ((Keeps.refl (fun _ => False) w5).drewN _).rd RInts.ok HRD.out (fun bb hb => ⟨hb.2, by simp⟩) (fun _ h => h), K5.out.drewN _⟩
    ·subst hc
     obtain rfl := hu2 rfl
     have Q : Hid (searchP ps at_ (b : Int) = ([], 0, 15)) := by show _ = _; rw [HQ.out, if_neg (by omega), if_neg (by omega)]
     have g6' : decide (b < b + 1) = true := by simp
     clear HQ HCODE hp1 hu1 hu2
     rw [show decide ((15 : Int) = 0) = false from rfl]
     go_wp2
     go_ret3
     rw [Q.out]
     exact ⟨_, rfl, RSlice.mkNil, K5.out⟩
    ·subst hc
     obtain rfl := hu1 (by omega)
     have Q : Hid (searchP ps at_ (b : Int) = ([], (s5.length : Int), 19)) := by show _ = _; rw [HQ.out, if_neg (by omega), if_pos rfl]
     have g6' : decide (b < s5.length) = false := by simp; omega
     clear HQ HCODE hp1 hu1 hu2
     rw [show decide ((19 : Int) = 0) = false from rfl]
     go_wp2
     go_quiet (fail)
     go_wp2
     go_ret3
     rw [Q.out]
     exact ⟨_, rfl, RSlice.mkNil, K5.out.drewN _⟩
 ·have g0' : (checkState ps at_ != 0) = true := by simpa using g0
  have Q : Hid (searchP ps at_ budget = ([], 0, checkState ps at_)) := by show _ = _; unfold searchP; rw [if_pos (by simpa using g0)]
  clear g0
  go_enter Try.func29, Try.ntmps29
  go_wp2_with fail
  refine HCK.out.mono ?_
  rintro e w1 ⟨rfl, k1⟩
  have K1 := Lib.hid k1; clear k1 HCK
  generalize checkState ps at_ = cs at *
  go_wp2
  go_ret3
  rw [Q.out]
  exact ⟨_, rfl, RSlice.mkNil, K1.out⟩

set_option maxRecDepth 100000 in
set_option maxHeartbeats 2000000 in
theorem ArcsO_any (ps : List (List Stage)) (os : List Order) (A A2 : Option Addr) (c c2 : Nat) (w : World) (hf : valid ps = true ∧ os.length ≤ 144 ∧ ∀ o ∈ os, (∀ u ∈ o.uses, u ∈ allU ps o.res) ∧ o.uses.length ≤ 640) (h : RPaths w (Old w) [.slice A ps.length c] ps) (h2 : ROrders w (Old w) [.slice A2 os.length c2] os) :
  Calls Try.prog 30 #[.slice A ps.length c, .slice A2 os.length c2] w fun e w' => ∃ v, e = .returned v ∧ OwnL 57 5 RRArc w' w.heap.size w.heap.size v (refArcs ps os) ∧ (refArcs ps os).length ≤ 60000000 ∧ KeepsAll w w' := by
 have hc := h.caps
 have hc2 := h2.caps
 have H := Lib.hid h; clear h
 have H2 := Lib.hid h2; clear h2
 have HV := Lib.hid hf.1
 have hol := hf.2.1
 have HF := Lib.hid hf.2.2
 have hps10 := (valid_lens hf.1).1
 have hcl : (chainR ps).length ≤ 640 := by
  have := chainR_len (ps := ps) (fun p hp => ((valid_lens hf.1).2 p hp).2) ps.length
  rw [List.take_length] at this; omega
 have HOL : Hid (∀ a, a ≤ os.length → (chainR ps ++ (os.take a).flatMap (orderR ps)).length ≤ 640 + a * 409600) := fun a _ => by
  have := ordersR_len ps os (fun o ho => (hf.2.2 o ho).2) 409600 rfl a
  rw [List.length_append]; omega
 clear hf
 go_enter Try.func30, Try.ntmps30
 go_wp2_with fail
 refine (Chain_any ps A c w HV.out H.out).mono ?_
 rintro e w1 ⟨v, rfl, ho, k1⟩
 obtain ⟨B, d, rfl, hd1, hd2⟩ := ho.form
 have HO := Lib.hid ho; have K1 := Lib.hid k1
 clear ho k1
 go_wp2
 go_loopw [5, 16] (fun v i wr => ∃ a : Nat, a ≤ os.length ∧ i = .int .i64 a ∧ OwnL 57 5 RRArc wr w.heap.size w.heap.size v (chainR ps ++ (os.take a).flatMap (orderR ps)) ∧ KeepsAll w wr) (fun _ i _ => os.length - (intOf i).toNat)
 case atStart => exact ⟨0, Nat.zero_le _, rfl, by simpa using HO.out, K1.out⟩
 case round =>
  obtain ⟨a, ha, rfl, ho, hkr⟩ := hrel
  obtain ⟨Aa, ca, rfl, hca, hca2⟩ := ho.form
  have HO1 := Lib.hid ho; clear ho
  have KR := Lib.hid hkr; clear hkr
  have hsz := KR.out.size
  have hDl := HOL.out a ha
  by_cases hlt : a < os.length
  ·obtain ⟨bo, oo, o, Au, cu, hbo, hbol, hoo, m0, m1, hus⟩ := ROrders.atK KR.out H2.out hlt
   subst hbo
   have hcu := hus.caps
   have HUS := Lib.hid hus
   have hof := HF.out o (List.mem_of_getElem? hoo)
   have HIN := Lib.hid hof.1
   have hul := hof.2
   have HQ : Hid (chainR ps ++ (os.take (a + 1)).flatMap (orderR ps) = (chainR ps ++ (os.take a).flatMap (orderR ps)) ++ orderR ps o) := by show _ = _; rw [List.take_add_one, hoo]; simp
   clear hof hoo hus
   generalize chainR ps ++ (os.take a).flatMap (orderR ps) = D at HO1 HQ hDl hca ⊢
   have hda : decide ((a : Int) < (os.length : Int)) = true := by simp; omega
   go_wp2
   generalize hW3 : World.alloc wr _ = W3
   have KW3 : Hid (KeepsAll w W3) := by subst hW3; exact KR.out.alloc _
   have BO : Hid (Blk W3 wr.heap.size 44 #[.int .i64 o.res, .slice Au o.uses.length cu]) := by subst hW3; exact Blk.new _ _ _
   have HO3 : Hid (OwnL 57 5 RRArc W3 w.heap.size w.heap.size (.slice Aa D.length ca) D) := by subst hW3; exact HO1.out.alloc RRArc.ok _
   clear hW3 m0 m1 hbol HO1
   generalize wr.heap.size = zo at *
   go_loopw [5, 23] (fun v i wr => ∃ b : Nat, b ≤ o.uses.length ∧ i = .int .i64 b ∧ OwnL 57 5 RRArc wr w.heap.size w.heap.size v (D ++ orderRTo ps o b) ∧ KeepsAll w wr ∧ Blk wr zo 44 #[.int .i64 o.res, .slice Au o.uses.length cu]) (fun _ i _ => o.uses.length - (intOf i).toNat)
   case atStart => exact ⟨0, Nat.zero_le _, rfl, by simpa [orderRTo] using HO3.out, KW3.out, BO.out⟩
   case round =>
    obtain ⟨b, hb, rfl, ho, hkr, hbo⟩ := hrel
    obtain ⟨Ab, cb, rfl, hcb, hcb2⟩ := ho.form
    have HO4 := Lib.hid ho; clear ho
    have KB := Lib.hid hkr; clear hkr
    have HBO := Lib.hid hbo
    have f1 := hbo.cell 1
    have f0 := hbo.cell 0
    simp at f0 f1
    have hzo := hbo.lt
    clear hbo
    have hEl : (D ++ orderRTo ps o b).length ≤ 640 + a * 409600 + b * 640 := by
     have := orderRTo_len ps o hul b
     rw [List.length_append]; omega
    by_cases hltb : b < o.uses.length
    ·obtain ⟨bx, ox, v, hbo, hbxl, hv, m0, m1⟩ := RRefs.atK KB.out HUS.out hltb
     subst hbo
     have HQ2 : Hid (D ++ orderRTo ps o (b + 1) = (D ++ orderRTo ps o b) ++ useR ps o.res (o.uses.take b) v) := by show _ = _; rw [orderRTo_succ hv, List.append_assoc]
     clear hv
     generalize D ++ orderRTo ps o b = E at HO4 HQ2 hEl hcb ⊢
     have hdbo : decide ((b : Int) < (o.uses.length : Int)) = true := by simp; omega
     go_wp2
     generalize hW4 : World.alloc wr _ = W4
     have KW4 : Hid (KeepsAll w W4) := by subst hW4; exact KB.out.alloc _
     have BV : Hid (Blk W4 wr.heap.size 46 #[.int .i64 v.tr, .int .i64 v.st]) := by subst hW4; exact Blk.new _ _ _
     have BO4 : Hid (Blk W4 zo 44 #[.int .i64 o.res, .slice (some ⟨bx, ox, none⟩) o.uses.length cu]) := by subst hW4; exact HBO.out.alloc _
     have HO5 : Hid (OwnL 57 5 RRArc W4 w.heap.size w.heap.size (.slice Ab E.length cb) E) := by subst hW4; exact HO4.out.alloc RRArc.ok _
     clear hW4 m0 m1 f0 f1 hbxl hzo HO4
     generalize wr.heap.size = zv at *
     go_loopw [5, 33] (fun x i wr => ∃ cc : Nat, cc ≤ b ∧ i = .int .i64 cc ∧ OwnL 57 5 RRArc wr w.heap.size w.heap.size x (E ++ useR ps o.res (o.uses.take cc) v) ∧ KeepsAll w wr ∧ Blk wr zo 44 #[.int .i64 o.res, .slice (some ⟨bx, ox, none⟩) o.uses.length cu] ∧ Blk wr zv 46 #[.int .i64 v.tr, .int .i64 v.st]) (fun _ i _ => b - (intOf i).toNat)
     case atStart => exact ⟨0, Nat.zero_le _, rfl, by simpa [useR] using HO5.out, KW4.out, BO4.out, BV.out⟩
     case round =>
      obtain ⟨cc, hcc, rfl, ho, hkr, hbo, hbv⟩ := hrel
      obtain ⟨Ac, cz, rfl, hcz, hcz2⟩ := ho.form
      have HO6 := Lib.hid ho; clear ho
      have KC := Lib.hid hkr; clear hkr
      have HBO6 := Lib.hid hbo
      have HBV6 := Lib.hid hbv
      have f0 := hbo.cell 0
      have e0 := hbv.cell 0
      have e1 := hbv.cell 1
      simp at f0 e0 e1
      have hzo := hbo.lt
      have hzv := hbv.lt
      clear hbo hbv
      have hGl : (E ++ useR ps o.res (o.uses.take cc) v).length ≤ 640 + a * 409600 + b * 640 + cc := by
       have h1 := useR_len ps o.res (o.uses.take cc) v
       have h2 : (o.uses.take cc).length ≤ cc := by simp; omega
       rw [List.length_append]; omega
      by_cases hltc : cc < b
      ·obtain ⟨by_, oy, w_, hbo, hbyl, hw, m0, m1⟩ := RRefs.atK KC.out HUS.out (k := cc) (by omega)
       injection hbo with hbo; injection hbo with hy1 hy2; subst hy1 hy2
       obtain ⟨tw, kw, pw, sw, hpw, hsw, _, hwe⟩ := mem_allU.1 (HIN.out w_ (List.mem_of_getElem? hw))
       subst hwe
       simp only [] at m0 m1
       have HQ3 : Hid (E ++ useR ps o.res (o.uses.take (cc + 1)) v = (E ++ useR ps o.res (o.uses.take cc) v) ++ (if (tw : Int) ≠ v.tr then [betw ps o.res ⟨(tw : Int), (kw : Int)⟩ v] else [])) := by
        show _ = _
        rw [List.take_add_one, hw, Option.toList_some, useR_snoc, List.append_assoc]
       have hkw : kw ≤ 1000000 := by
        have h1 := getElem?_lt hsw
        have h2 := ((valid_lens HV.out).2 pw (List.mem_of_getElem? hpw)).2
        omega
       have HBW : Hid (∀ W, KeepsAll w W → Calls Try.prog 24 #[.slice A ps.length c, .int .i64 o.res, .agg #[.int .i64 (tw : Int), .int .i64 (kw : Int)], .agg #[.int .i64 v.tr, .int .i64 v.st]] W fun e w' => e = .returned (.agg #[.int .i64 (tw : Int), .int .i64 (relOf ps o.res ⟨(tw : Int), (kw : Int)⟩).st, .int .i64 v.tr, .int .i64 v.st, .int .i64 0]) ∧ KeepsAll W w') := fun W hW => Between_any ps o.res A c W (hW.rdo' RPaths.ok H.out) tw kw pw sw v hpw hsw hkw
       have HBE : Hid (betw ps o.res ⟨(tw : Int), (kw : Int)⟩ v = ⟨⟨(tw : Int), (relOf ps o.res ⟨(tw : Int), (kw : Int)⟩).st⟩, v, 0⟩) := by
        show _ = _
        unfold betw
        have h1 := relOf_tr ps o.res ⟨(tw : Int), (kw : Int)⟩
        cases hq : relOf ps o.res ⟨(tw : Int), (kw : Int)⟩ with
        | mk x y => rw [hq] at h1; simp only at h1; rw [h1]
       clear hw hpw hsw hkw
       generalize (relOf ps o.res ⟨(tw : Int), (kw : Int)⟩).st = ks at HBW HBE
       generalize betw ps o.res ⟨(tw : Int), (kw : Int)⟩ v = ba at HQ3 HBE
       generalize E ++ useR ps o.res (o.uses.take cc) v = G at HO6 HQ3 hGl hcz ⊢
       have hdc : decide ((cc : Int) < (b : Int)) = true := by simp; omega
       by_cases hne : (tw : Int) = v.tr
       ·have hne' : ((tw : Int) != v.tr) = false := by simpa using hne
        have HQ4 : Hid (E ++ useR ps o.res (o.uses.take (cc + 1)) v = G) := by rw [HQ3.out, if_neg (by simpa using hne), List.append_nil]; rfl
        clear hne HQ3
        go_wp2
        go_roundw
        case rel => exact ⟨cc + 1, by omega, by go_num, by rw [HQ4.out]; exact HO6.out.alloc RRArc.ok _, KC.out.alloc _, HBO6.out.alloc _, HBV6.out.alloc _⟩
        case measure => simp [intOf]; omega
       ·have hne' : ((tw : Int) != v.tr) = true := by simpa using hne
        have HQ4 : Hid (E ++ useR ps o.res (o.uses.take (cc + 1)) v = G ++ [⟨⟨(tw : Int), ks⟩, v, 0⟩]) := by rw [HQ3.out, if_pos hne, HBE.out]; rfl
        clear hne HQ3 HBE
        go_wp2_with fail
        generalize hW5 : World.alloc wr _ = W5
        have KW5 : Hid (KeepsAll w W5) := by subst hW5; exact KC.out.alloc _
        have HO7 : Hid (OwnL 57 5 RRArc W5 w.heap.size w.heap.size (.slice Ac G.length cz) G) := by subst hW5; exact HO6.out.alloc RRArc.ok _
        have BO7 := Lib.hid (show Blk W5 zo _ _ by subst hW5; exact HBO6.out.alloc _)
        have BV7 := Lib.hid (show Blk W5 zv _ _ by subst hW5; exact HBV6.out.alloc _)
        clear hW5 m0 m1 e0 e1 f0 hbyl hzo hzv HO6
        refine (HBW.out W5 KW5.out).mono ?_
        rintro e w6 ⟨rfl, k6⟩
        have K6 := Lib.hid (KW5.out.tr k6)
        have HO8 := Lib.hid (HO7.out.keeps RRArc.ok k6 (fun _ _ h => h.elim))
        have BO8 := Lib.hid (BO7.out.kept k6 (by simp))
        have BV8 := Lib.hid (BV7.out.kept k6 (by simp))
        have NO := Lib.hid (HO8.out.ne_blk BO8.out (by decide))
        have NV := Lib.hid (HO8.out.ne_blk BV8.out (by decide))
        have hz6 := K6.out.size
        clear k6 HO7 BO7 BV7 KW5
        go_wp2_with (at_builtin; refine wpList_append_L tyRArc RRArc.ok rfl (.tmp 42) (.tmp 49) rfl (HO8.out.alloc RRArc.ok _) rfl _ [.int .i64 (tw : Int), .int .i64 ks, .int .i64 v.tr, .int .i64 v.st, .int .i64 0] rfl (Blk.new' _ _ _ (by simp)) rfl ⟨⟨(tw : Int), ks⟩, v, 0⟩ (S := fun _ => False) rfl (fun _ h => h.elim) (by simp [Value.oneCell']) (by omega) (by omega) (by simp; omega) ?_; intro v9 w9 HO9 HK9 HA9; obtain ⟨A9, c9, hv9, _, _⟩ := HO9.form; rw [List.length_append, List.length_singleton] at hv9; subst hv9)
        go_roundw
        case rel => exact ⟨cc + 1, by omega, by go_num, by rw [HQ4.out]; exact HO9, ((K6.out.alloc _).trans HK9 (fun x hx e => (by have := HO8.out.lt e; omega))), (BO8.out.alloc _).kept HK9 NO.out, (BV8.out.alloc _).kept HK9 NV.out⟩
        case measure => simp [intOf]; omega
      ·obtain rfl : cc = b := by omega
       go_wp2
       go_roundw
       case rel => exact ⟨cc + 1, by omega, by go_num, by rw [HQ2.out]; exact HO6.out, KC.out, HBO6.out⟩
       case measure => simp [intOf]; omega
    ·obtain rfl : b = o.uses.length := by omega
     rw [orderRTo_all] at HO4 ⊢
     go_wp2
     go_roundw
     case rel => exact ⟨a + 1, by omega, by go_num, by rw [HQ.out]; exact HO4.out, KB.out⟩
     case measure => simp [intOf]; omega
  ·obtain rfl : a = os.length := by omega
   rw [List.take_length] at HO1 hDl ⊢
   go_wp2
   go_ret
   exact ⟨_, rfl, HO1.out, by unfold refArcs; omega, KR.out⟩

end Go.Proofs.Ytilbbpbjhoidhaa
