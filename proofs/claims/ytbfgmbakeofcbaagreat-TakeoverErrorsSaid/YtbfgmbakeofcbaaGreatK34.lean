/- Contracts of precedence.Rest and of the reference's Rest: both return restP. Conditions: as each theorem says. -/
import Derived.Test.YtbfgmbakeofcbaaGreatK30
import Derived.Test.YtbfgmbakeofcbaaGreatK33
namespace Go.Proofs.YtbfgmbakeofcbaaGreat
open Go.RowKit

def openU (ps : List (List Stage)) (at_ : List Int) (r : Int) (l : List Ref) : List Ref := l.filter fun u => !overB ps at_ u r
def restO (ps : List (List Stage)) (at_ : List Int) (o : Order) : List Order := if (openU ps at_ o.res o.uses).length = 0 then [] else [⟨o.res, openU ps at_ o.res o.uses⟩]
def restP (ps : List (List Stage)) (os : List Order) (at_ : List Int) : List Order := if (checkO ps os && good ps at_) = true then os.flatMap (restO ps at_) else []
theorem openU_snoc (ps : List (List Stage)) (at_ : List Int) (r : Int) (l : List Ref) (u : Ref) : openU ps at_ r (l ++ [u]) = openU ps at_ r l ++ (if overB ps at_ u r = true then [] else [u]) := by
  unfold openU
  rw [List.filter_append]
  cases h : overB ps at_ u r <;> simp [h]
theorem openU_len (ps : List (List Stage)) (at_ : List Int) (r : Int) (l : List Ref) : (openU ps at_ r l).length ≤ l.length := List.length_filter_le _ _
theorem rest_len (ps : List (List Stage)) (at_ : List Int) (os : List Order) : (os.flatMap (restO ps at_)).length ≤ os.length := by
  have := flatMap_len_le (restO ps at_) 1 os (fun o _ => by unfold restO; split <;> simp)
  omega

theorem field1 (a b : Int) (W : World) : (Instr.field 69 (.agg #[.int .i64 a, .int .i64 b]) 1).run Tryz.prog W = .ok (.int .i64 b) W := by kernel_rfl

set_option maxRecDepth 100000 in
set_option maxHeartbeats 2000000 in
theorem RefRest_any (ps : List (List Stage)) (os : List Order) (at_ : List Int) (A A2 A3 : Option Addr) (c c2 c3 : Nat) (w : World) (h : RPaths w (Old w) [.slice A ps.length c] ps) (h2 : ROrders w (Old w) [.slice A2 os.length c2] os) (h3 : RInts w (Old w) [.slice A3 at_.length c3] at_) :
    Calls Tryz.prog 19 #[.slice A ps.length c, .slice A2 os.length c2, .slice A3 at_.length c3] w fun e w' => ∃ v, e = .returned v ∧ ROrders w' (Old w') [v] (restP ps os at_) ∧ KeepsAll w w' := by
  have hc3 := h3.caps
  have H := Lib.hid h; clear h
  have H2 := Lib.hid h2; clear h2
  have H3 := Lib.hid h3; clear h3
  by_cases g1 : checkO ps os = true
  · have hf := checkO_facts g1
    have hol := hf.2.1
    have HF := Lib.hid hf.2.2
    have HV := Lib.hid hf.1
    clear hf
    have hc2 := H2.out.caps
    by_cases g2 : good ps at_ = true
    · have Q : Hid (restP ps os at_ = os.flatMap (restO ps at_)) := by show _ = _; unfold restP; rw [g1, g2]; rfl
      have hal := (good_Gd.1 g2).1
      have al1 : at_.length ≤ ps.length := by omega
      have al2 : ps.length ≤ at_.length := by omega
      clear hal
      go_enter Tryz.func19, Tryz.ntmps19
      go_wp2_with fail
      refine (RefCheck_any ps os A A2 c c2 w H.out H2.out).mono ?_
      rintro e w1 ⟨rfl, k1⟩
      rw [g1]
      have K1 := Lib.hid k1; clear k1
      go_wp2_with (go_at_call 26; refine (rGood_any ps at_ A A3 c c3 _ (Old w1) (Old w1) (K1.out.rdo' RPaths.ok H.out) (K1.out.rdo' RInts.ok H3.out)).mono ?_; rintro e w2 ⟨rfl, rfl⟩; rw [g2])
      go_loopw [7, 25] (fun v i wr => ∃ a : Nat, a ≤ os.length ∧ i = .int .i64 (a : Int) ∧ OwnL 66 2 ROrder wr w.heap.size w.heap.size v ((os.take a).flatMap (restO ps at_)) ∧ KeepsAll w wr) (fun _ i _ => os.length - (intOf i).toNat)
      case atStart => exact ⟨0, Nat.zero_le _, rfl, OwnL.nil, K1.out⟩
      case round =>
        obtain ⟨a, ha, rfl, ho, hkr⟩ := hrel
        obtain ⟨Aa, ca, rfl, hca, hca2⟩ := ho.form
        have HO1 := Lib.hid ho; clear ho
        have KR := Lib.hid hkr; clear hkr
        have hsz := KR.out.size
        have hDl : ((os.take a).flatMap (restO ps at_)).length ≤ 144 := by
          have h1 := rest_len ps at_ (os.take a)
          have h2 : (os.take a).length ≤ os.length := by simp; omega
          omega
        by_cases hlt : a < os.length
        · obtain ⟨bo, oo, o, Au, cu, hbo, hbol, hoo, m0, m1, hus⟩ := ROrders.atK KR.out H2.out hlt
          subst hbo
          have hcu := hus.caps
          have HUS := Lib.hid hus
          have hof := HF.out o (List.mem_of_getElem? hoo)
          have HIN := Lib.hid hof.1
          have hul := hof.2.1
          have HQ : Hid ((os.take (a + 1)).flatMap (restO ps at_) = (os.take a).flatMap (restO ps at_) ++ restO ps at_ o) := by show _ = _; rw [List.take_add_one, hoo]; simp
          clear hof hoo hus
          generalize (os.take a).flatMap (restO ps at_) = D at HO1 HQ hDl hca ⊢
          have hda : decide ((a : Int) < (os.length : Int)) = true := by simp; omega
          go_wp2
          generalize hW3 : World.alloc wr _ = W3
          have KW3 : Hid (KeepsAll w W3) := by subst hW3; exact KR.out.alloc _
          have BO : Hid (Blk W3 wr.heap.size 66 #[.int .i64 o.res, .slice Au o.uses.length cu]) := by subst hW3; exact Blk.new _ _ _
          have HO3 : Hid (OwnL 66 2 ROrder W3 w.heap.size w.heap.size (.slice Aa D.length ca) D) := by subst hW3; exact HO1.out.alloc ROrder.ok _
          have NO : Hid (∀ b, (Value.slice Aa D.length ca).ownBlock = some b → b ≠ wr.heap.size) := fun b hb e => by have := HO1.out.lt hb; omega
          clear hW3 m0 m1 hbol HO1
          generalize wr.heap.size = zo at *
          go_loopw [10, 32] (fun v i wr => ∃ b : Nat, b ≤ o.uses.length ∧ i = .int .i64 (b : Int) ∧ OwnL 69 2 RRef wr W3.heap.size W3.heap.size v (openU ps at_ o.res (o.uses.take b)) ∧ KeepsAll W3 wr) (fun _ i _ => o.uses.length - (intOf i).toNat)
          case atStart => exact ⟨0, Nat.zero_le _, rfl, OwnL.nil, Keeps.refl _ _⟩
          case round =>
            obtain ⟨b, hb, rfl, ho, hkr⟩ := hrel
            obtain ⟨Ab, cb, rfl, hcb, hcb2⟩ := ho.form
            have HO4 := Lib.hid ho; clear ho
            have KB := Lib.hid hkr; clear hkr
            have hszb := KB.out.size
            have hEl : (openU ps at_ o.res (o.uses.take b)).length ≤ 640 := by
              have h1 := openU_len ps at_ o.res (o.uses.take b)
              have h2 : (o.uses.take b).length ≤ o.uses.length := by simp; omega
              omega
            have hbo := BO.out.kept KB.out (by simp)
            have f0 := hbo.cell 0
            have f1 := hbo.cell 1
            simp at f0 f1
            have hzo := hbo.lt
            have HBO := Lib.hid hbo
            clear hbo
            by_cases hltb : b < o.uses.length
            · obtain ⟨bx, ox, v, hbo, hbxl, hv, m0, m1⟩ := RRefs.atK (KW3.out.tr KB.out) HUS.out hltb
              subst hbo
              obtain ⟨tw, kw, pw, sw, hpw, hsw, _, hwe⟩ := mem_allU.1 (HIN.out v (List.mem_of_getElem? hv))
              subst hwe
              simp only [] at m0 m1
              have HQ2 : Hid (openU ps at_ o.res (o.uses.take (b + 1)) = openU ps at_ o.res (o.uses.take b) ++ (if overB ps at_ ⟨(tw : Int), (kw : Int)⟩ o.res = true then [] else [⟨(tw : Int), (kw : Int)⟩])) := by
                show _ = _
                rw [List.take_add_one, hv, Option.toList_some, openU_snoc]
              have htw := getElem?_lt hpw
              have hkw : kw ≤ 1000000 := by
                have h1 := getElem?_lt hsw
                have h2 := ((valid_lens HV.out).2 pw (List.mem_of_getElem? hpw)).2
                omega
              have HPW := Lib.hid hpw
              have HSW := Lib.hid hsw
              clear hv hpw hsw
              generalize openU ps at_ o.res (o.uses.take b) = E at HO4 HQ2 hEl hcb ⊢
              have hdb : decide ((b : Int) < (o.uses.length : Int)) = true := by simp; omega
              obtain ⟨b3, o3, xw, hbo, hb3, hxw, q0⟩ := RInts.atK (KW3.out.tr KB.out) H3.out (k := tw) (by omega)
              subst hbo
              have HCL : Hid (∀ W, KeepsAll w W → Calls Tryz.prog 46 #[.slice A ps.length c, .slice (some ⟨b3, o3, none⟩) at_.length c3, .agg #[.int .i64 (tw : Int), .int .i64 (kw : Int)], .int .i64 o.res] W fun e w' => e = .returned (.bool (overB ps at_ ⟨(tw : Int), (kw : Int)⟩ o.res)) ∧ KeepsAll W w') := fun W hW => Over_any ps at_ o.res A _ c c3 W (hW.rdo' RPaths.ok H.out) (hW.rdo' RInts.ok H3.out) tw kw pw sw xw HPW.out HSW.out hxw
              clear hxw q0
              go_wp2_with fail
              generalize hW4 : World.alloc wr _ = W4
              have KW4 : KeepsAll wr W4 := by subst hW4; exact (Keeps.refl _ _).alloc _
              have BV : Hid (Blk W4 wr.heap.size 69 #[.int .i64 (tw : Int), .int .i64 (kw : Int)]) := by subst hW4; exact Blk.new _ _ _
              have KB4 := Lib.hid (KB.out.tr KW4)
              have HO5 := Lib.hid (HO4.out.keeps RRef.ok KW4 (fun _ _ h => h.elim))
              clear hW4 KW4 m0 m1 f0 f1 hbxl hzo HO4 hb3
              generalize wr.heap.size = zv at *
              refine (HCL.out W4 (KW3.out.tr KB4.out)).mono ?_
              rintro e w6 ⟨rfl, k6⟩
              have K6 := Lib.hid (KB4.out.tr k6)
              have HO6 := Lib.hid (HO5.out.keeps RRef.ok k6 (fun _ _ h => h.elim))
              have bv := BV.out.kept k6 (by simp)
              have e0 := bv.cell 0
              have e1 := bv.cell 1
              simp at e0 e1
              have hzv := bv.lt
              have hz6 := K6.out.size
              clear k6 bv BV HO5 KB4 HCL
              by_cases gov : overB ps at_ ⟨(tw : Int), (kw : Int)⟩ o.res = true
              · rw [gov]
                have Q2 : Hid (openU ps at_ o.res (o.uses.take (b + 1)) = E) := by show _ = _; rw [HQ2.out, if_pos gov, List.append_nil]
                clear gov HQ2
                go_wp2
                go_roundw
                case rel => exact ⟨b + 1, by omega, by go_num, by rw [Q2.out]; exact HO6.out, K6.out⟩
                case measure => simp [intOf]; omega
              · have gov' : overB ps at_ ⟨(tw : Int), (kw : Int)⟩ o.res = false := by simpa using gov
                rw [gov']
                have Q2 : Hid (openU ps at_ o.res (o.uses.take (b + 1)) = E ++ [⟨(tw : Int), (kw : Int)⟩]) := by show _ = _; rw [HQ2.out, if_neg gov]
                clear gov gov' HQ2
                go_wp2_with (at_builtin; refine wpList_append_L tyRef RRef.ok rfl (.tmp 43) (.tmp 45) rfl (HO6.out.alloc RRef.ok _) rfl _ [.int .i64 (tw : Int), .int .i64 (kw : Int)] rfl (Blk.new' _ _ _ (by simp)) rfl ⟨(tw : Int), (kw : Int)⟩ (S := fun _ => False) rfl (fun _ h => h.elim) (by simp [Value.oneCell']) (by omega) (by omega) (by simp; omega) ?_; intro v9 w9 HO9 HK9 HA9; obtain ⟨A9, c9, hv9, _, _⟩ := HO9.form; rw [List.length_append, List.length_singleton] at hv9; subst hv9)
                go_roundw
                case rel => exact ⟨b + 1, by omega, by go_num, by rw [Q2.out]; exact HO9, ((K6.out.alloc _).trans HK9 (fun x hx e => (by have := HO6.out.lt e; omega)))⟩
                case measure => simp [intOf]; omega
            · obtain rfl : b = o.uses.length := by omega
              rw [List.take_length] at HO4 hEl hcb ⊢
              have HRO : Hid (restO ps at_ o = if (openU ps at_ o.res o.uses).length = 0 then [] else [⟨o.res, openU ps at_ o.res o.uses⟩]) := rfl
              generalize openU ps at_ o.res o.uses = E at HO4 HRO hEl hcb ⊢
              have hdb : decide ((o.uses.length : Int) < (o.uses.length : Int)) = false := by simp
              have HO5 := Lib.hid (HO3.out.keeps ROrder.ok KB.out (fun _ _ h => h.elim))
              have KF := Lib.hid (KW3.out.tr KB.out)
              have hszf := KF.out.size
              have hsz3 := KW3.out.size
              by_cases hE0 : E.length = 0
              · have Q2 : Hid ((os.take (a + 1)).flatMap (restO ps at_) = D) := by show _ = _; rw [HQ.out, HRO.out, if_pos hE0, List.append_nil]
                have hE0' : decide (0 < E.length) = false := decide_eq_false (by omega)
                clear hE0 HRO HQ
                go_wp2
                go_roundw
                case rel => exact ⟨a + 1, by omega, by go_num, by rw [Q2.out]; exact HO5.out, KF.out⟩
                case measure => simp [intOf]; omega
              · have Q2 : Hid ((os.take (a + 1)).flatMap (restO ps at_) = D ++ [⟨o.res, E⟩]) := by show _ = _; rw [HQ.out, HRO.out, if_neg hE0]
                have hE0' : 0 < E.length := by omega
                have HRE : Hid (RRefs (wr.alloc (.cells #[.int .i64 o.res, .slice Ab E.length cb] 66)) (fun b => w.heap.size ≤ b ∧ b < (wr.alloc (.cells #[.int .i64 o.res, .slice Ab E.length cb] 66)).heap.size ∧ ¬ (Value.slice Aa D.length ca).ownBlock = some b) [.slice Ab E.length cb] E) := by
                  refine RRefs.ok.mono (HO4.out.readF RRef.ok RRef.flat (S := fun b => (Value.slice Ab E.length cb).ownBlock = some b) (fun b hb => hb)) (fun b hb => ?_) (fun b hb => Below.heap_alloc wr _ b (HO4.out.lt hb).2)
                  have := HO4.out.lt hb
                  refine ⟨by omega, by simp; omega, fun e => ?_⟩
                  have := HO3.out.lt e
                  omega
                clear hE0 HRO HQ
                go_wp2_with (at_builtin; refine wpList_append_L tyOrder ROrder.ok rfl (.tmp 51) (.tmp 56) rfl (HO5.out.alloc ROrder.ok _) rfl _ [.int .i64 o.res, .slice Ab E.length cb] rfl (Blk.new' _ _ _ (by simp)) rfl ⟨o.res, E⟩ (S := fun b => w.heap.size ≤ b ∧ b < (wr.alloc (.cells #[.int .i64 o.res, .slice Ab E.length cb] 66)).heap.size ∧ ¬ (Value.slice Aa D.length ca).ownBlock = some b) ⟨_, rfl, HRE.out⟩ (fun b hb => hb) (by simp [Value.oneCell']) (by omega) (by omega) (by simp; omega) ?_; intro v9 w9 HO9 HK9 HA9; obtain ⟨A9, c9, hv9, _, _⟩ := HO9.form; rw [List.length_append, List.length_singleton] at hv9; subst hv9)
                go_roundw
                case rel => exact ⟨a + 1, by omega, by go_num, by rw [Q2.out]; exact HO9, ((KF.out.alloc _).trans HK9 (fun x hx e => (by have := HO5.out.lt e; omega)))⟩
                case measure => simp [intOf]; omega
        · obtain rfl : a = os.length := by omega
          rw [List.take_length] at HO1 ⊢
          have hda : decide ((os.length : Int) < (os.length : Int)) = false := by simp
          have HRD := Lib.hid (HO1.out.read ROrder.ok (by omega) (S := Old wr) (fun _ _ h => h) (fun _ _ h => h))
          go_wp2
          go_ret
          exact ⟨_, rfl, by rw [Q.out]; exact HRD.out, KR.out⟩
    · have g2' : good ps at_ = false := by simpa using g2
      have Q : Hid (restP ps os at_ = []) := by show _ = _; unfold restP; rw [g1, g2']; rfl
      go_enter Tryz.func19, Tryz.ntmps19
      go_wp2_with fail
      refine (RefCheck_any ps os A A2 c c2 w H.out H2.out).mono ?_
      rintro e w1 ⟨rfl, k1⟩
      rw [g1]
      have K1 := Lib.hid k1; clear k1
      go_wp2_with (go_at_call 26; refine (rGood_any ps at_ A A3 c c3 _ (Old w1) (Old w1) (K1.out.rdo' RPaths.ok H.out) (K1.out.rdo' RInts.ok H3.out)).mono ?_; rintro e w2 ⟨rfl, rfl⟩; rw [g2'])
      go_ret
      exact ⟨_, rfl, by rw [Q.out]; exact RSlice.mkNil, K1.out⟩
  · have g1' : checkO ps os = false := by simpa using g1
    have Q : Hid (restP ps os at_ = []) := by show _ = _; unfold restP; rw [g1']; rfl
    go_enter Tryz.func19, Tryz.ntmps19
    go_wp2_with fail
    refine (RefCheck_any ps os A A2 c c2 w H.out H2.out).mono ?_
    rintro e w1 ⟨rfl, k1⟩
    rw [g1']
    have K1 := Lib.hid k1; clear k1
    go_wp2
    go_ret
    exact ⟨_, rfl, by rw [Q.out]; exact RSlice.mkNil, K1.out⟩

set_option maxRecDepth 100000 in
set_option maxHeartbeats 2000000 in
theorem Rest_any (ps : List (List Stage)) (os : List Order) (at_ : List Int) (A A2 A3 : Option Addr) (c c2 c3 : Nat) (w : World) (h : RPaths w (Old w) [.slice A ps.length c] ps) (h2 : ROrders w (Old w) [.slice A2 os.length c2] os) (h3 : RInts w (Old w) [.slice A3 at_.length c3] at_) :
    Calls Tryz.prog 30 #[.slice A ps.length c, .slice A2 os.length c2, .slice A3 at_.length c3] w fun e w' => ∃ v, e = .returned v ∧ ROrders w' (Old w') [v] (restP ps os at_) ∧ KeepsAll w w' := by
  have hc3 := h3.caps
  have H := Lib.hid h; clear h
  have H2 := Lib.hid h2; clear h2
  have H3 := Lib.hid h3; clear h3
  by_cases g1 : checkO ps os = true
  · have hf := checkO_facts g1
    have hol := hf.2.1
    have HF := Lib.hid hf.2.2
    have HV := Lib.hid hf.1
    clear hf
    have hc2 := H2.out.caps
    by_cases g2 : good ps at_ = true
    · have Q : Hid (restP ps os at_ = os.flatMap (restO ps at_)) := by show _ = _; unfold restP; rw [g1, g2]; rfl
      have hal := (good_Gd.1 g2).1
      have al1 : at_.length ≤ ps.length := by omega
      have al2 : ps.length ≤ at_.length := by omega
      clear hal
      go_enter Tryz.func30, Tryz.ntmps30
      go_wp2_with fail
      refine (Check_any ps os A A2 c c2 w H.out H2.out).mono ?_
      rintro e w1 ⟨rfl, k1⟩
      rw [g1]
      have K1 := Lib.hid k1; clear k1
      go_wp2_with (go_at_call 53; refine (pgood_any ps at_ A A3 c c3 _ (Old w1) (Old w1) (K1.out.rdo' RPaths.ok H.out) (K1.out.rdo' RInts.ok H3.out)).mono ?_; rintro e w2 ⟨rfl, rfl⟩; rw [g2])
      go_loopw [7, 25] (fun v i wr => ∃ a : Nat, a ≤ os.length ∧ i = .int .i64 (a : Int) ∧ OwnL 66 2 ROrder wr w.heap.size w.heap.size v ((os.take a).flatMap (restO ps at_)) ∧ KeepsAll w wr) (fun _ i _ => os.length - (intOf i).toNat)
      case atStart => exact ⟨0, Nat.zero_le _, rfl, OwnL.nil, K1.out⟩
      case round =>
        obtain ⟨a, ha, rfl, ho, hkr⟩ := hrel
        obtain ⟨Aa, ca, rfl, hca, hca2⟩ := ho.form
        have HO1 := Lib.hid ho; clear ho
        have KR := Lib.hid hkr; clear hkr
        have hsz := KR.out.size
        have hDl : ((os.take a).flatMap (restO ps at_)).length ≤ 144 := by
          have h1 := rest_len ps at_ (os.take a)
          have h2 : (os.take a).length ≤ os.length := by simp; omega
          omega
        by_cases hlt : a < os.length
        · obtain ⟨bo, oo, o, Au, cu, hbo, hbol, hoo, m0, m1, hus⟩ := ROrders.atK KR.out H2.out hlt
          subst hbo
          have hcu := hus.caps
          have HUS := Lib.hid hus
          have hof := HF.out o (List.mem_of_getElem? hoo)
          have HIN := Lib.hid hof.1
          have hul := hof.2.1
          have HQ : Hid ((os.take (a + 1)).flatMap (restO ps at_) = (os.take a).flatMap (restO ps at_) ++ restO ps at_ o) := by show _ = _; rw [List.take_add_one, hoo]; simp
          clear hof hoo hus
          generalize (os.take a).flatMap (restO ps at_) = D at HO1 HQ hDl hca ⊢
          have hda : decide ((a : Int) < (os.length : Int)) = true := by simp; omega
          go_wp2
          generalize hW3 : World.alloc wr _ = W3
          have KW3 : Hid (KeepsAll w W3) := by subst hW3; exact KR.out.alloc _
          have BO : Hid (Blk W3 wr.heap.size 66 #[.int .i64 o.res, .slice Au o.uses.length cu]) := by subst hW3; exact Blk.new _ _ _
          have HO3 : Hid (OwnL 66 2 ROrder W3 w.heap.size w.heap.size (.slice Aa D.length ca) D) := by subst hW3; exact HO1.out.alloc ROrder.ok _
          have NO : Hid (∀ b, (Value.slice Aa D.length ca).ownBlock = some b → b ≠ wr.heap.size) := fun b hb e => by have := HO1.out.lt hb; omega
          clear hW3 m0 m1 hbol HO1
          generalize wr.heap.size = zo at *
          go_loopw [10, 32] (fun v i wr => ∃ b : Nat, b ≤ o.uses.length ∧ i = .int .i64 (b : Int) ∧ OwnL 69 2 RRef wr W3.heap.size W3.heap.size v (openU ps at_ o.res (o.uses.take b)) ∧ KeepsAll W3 wr) (fun _ i _ => o.uses.length - (intOf i).toNat)
          case atStart => exact ⟨0, Nat.zero_le _, rfl, OwnL.nil, Keeps.refl _ _⟩
          case round =>
            obtain ⟨b, hb, rfl, ho, hkr⟩ := hrel
            obtain ⟨Ab, cb, rfl, hcb, hcb2⟩ := ho.form
            have HO4 := Lib.hid ho; clear ho
            have KB := Lib.hid hkr; clear hkr
            have hszb := KB.out.size
            have hEl : (openU ps at_ o.res (o.uses.take b)).length ≤ 640 := by
              have h1 := openU_len ps at_ o.res (o.uses.take b)
              have h2 : (o.uses.take b).length ≤ o.uses.length := by simp; omega
              omega
            have hbo := BO.out.kept KB.out (by simp)
            have f0 := hbo.cell 0
            have f1 := hbo.cell 1
            simp at f0 f1
            have hzo := hbo.lt
            have HBO := Lib.hid hbo
            clear hbo
            by_cases hltb : b < o.uses.length
            · obtain ⟨bx, ox, v, hbo, hbxl, hv, m0, m1⟩ := RRefs.atK (KW3.out.tr KB.out) HUS.out hltb
              subst hbo
              obtain ⟨tw, kw, pw, sw, hpw, hsw, _, hwe⟩ := mem_allU.1 (HIN.out v (List.mem_of_getElem? hv))
              subst hwe
              simp only [] at m0 m1
              have HQ2 : Hid (openU ps at_ o.res (o.uses.take (b + 1)) = openU ps at_ o.res (o.uses.take b) ++ (if overB ps at_ ⟨(tw : Int), (kw : Int)⟩ o.res = true then [] else [⟨(tw : Int), (kw : Int)⟩])) := by
                show _ = _
                rw [List.take_add_one, hv, Option.toList_some, openU_snoc]
              have htw := getElem?_lt hpw
              have hkw : kw ≤ 1000000 := by
                have h1 := getElem?_lt hsw
                have h2 := ((valid_lens HV.out).2 pw (List.mem_of_getElem? hpw)).2
                omega
              have HPW := Lib.hid hpw
              have HSW := Lib.hid hsw
              clear hv hpw hsw
              generalize openU ps at_ o.res (o.uses.take b) = E at HO4 HQ2 hEl hcb ⊢
              have hdb : decide ((b : Int) < (o.uses.length : Int)) = true := by simp; omega
              obtain ⟨b3, o3, xw, hbo, hb3, hxw, q0⟩ := RInts.atK (KW3.out.tr KB.out) H3.out (k := tw) (by omega)
              subst hbo
              have HOB : Hid (overB ps at_ ⟨(tw : Int), (kw : Int)⟩ o.res = decide ((relOf ps o.res ⟨(tw : Int), (kw : Int)⟩).st ≤ xw)) := by
                show overB _ _ _ _ = _
                unfold overB
                rw [Int.toNat_natCast, nowAt_of hxw]
              have HCL : Hid (∀ W, KeepsAll w W → Calls Tryz.prog 54 #[.slice A ps.length c, .int .i64 o.res, .agg #[.int .i64 (tw : Int), .int .i64 (kw : Int)]] W fun e w' => e = .returned (.agg #[.int .i64 (tw : Int), .int .i64 (relOf ps o.res ⟨(tw : Int), (kw : Int)⟩).st]) ∧ KeepsAll W w') := fun W hW => release_any ps o.res A c W (hW.rdo' RPaths.ok H.out) tw kw pw sw HPW.out HSW.out hkw
              generalize (relOf ps o.res ⟨(tw : Int), (kw : Int)⟩).st = ks at HOB HCL
              clear hxw
              go_wp2
              generalize hW4 : World.alloc wr _ = W4
              have KW4 : KeepsAll wr W4 := by subst hW4; exact (Keeps.refl _ _).alloc _
              have BV : Hid (Blk W4 wr.heap.size 69 #[.int .i64 (tw : Int), .int .i64 (kw : Int)]) := by subst hW4; exact Blk.new _ _ _
              have KB4 := Lib.hid (KB.out.tr KW4)
              have HO5 := Lib.hid (HO4.out.keeps RRef.ok KW4 (fun _ _ h => h.elim))
              replace q0 := KW4.cellK (p := ⟨b3, o3 + tw, none⟩) hb3 q0
              replace f0 := KW4.cellK (p := ⟨zo, 0, none⟩) hzo f0
              have e0 := BV.out.cell 0
              have e1 := BV.out.cell 1
              simp at e0 e1
              have HCX : Hid (∀ xx : Ext W4, Calls Tryz.prog 54 #[.slice A ps.length c, .int .i64 o.res, .agg #[.int .i64 (tw : Int), .int .i64 (kw : Int)]] xx.val fun e w'' => e = .returned (.agg #[.int .i64 (tw : Int), .int .i64 ks]) ∧ ∃ y : Ext W4, w'' = y.val) := fun xx => ext_call xx (HCL.out xx.val ((KW3.out.tr KB4.out).tr xx.keeps))
              clear hW4 KW4 m0 m1 f1 hbxl HO4 hb3 HCL
              generalize wr.heap.size = zv at *
              refine wp_region_ext (by kernel_rfl) (by kernel_rfl) ?_
              have y0 := Ext.cell q0
              have y1 := Ext.cell f0
              have y2 := Ext.cell e0
              have y3 := Ext.cell e1
              have hfld := field1 (tw : Int) ks
              repeat (go_big_quiet_step ((go_at_call 54; exact HCX.out _)))
              refine wpQuiet_nil ?_
              rintro _ ⟨X, rfl⟩
              have K6 := Lib.hid (KB4.out.tr X.keeps)
              have HO6 := Lib.hid (HO5.out.keeps RRef.ok X.keeps (fun _ _ h => h.elim))
              have bv := BV.out.kept X.keeps (by simp)
              clear y0 y1 y2 y3 e0 e1 q0 f0 hzo
              have e0 := bv.cell 0
              have e1 := bv.cell 1
              simp at e0 e1
              have hzv := bv.lt
              have hz6 := K6.out.size
              clear bv BV HO5 KB4 HCX
              generalize X.val = w6 at *
              by_cases gov : ks ≤ xw
              · have gov' : ¬ xw < ks := by omega
                have Q2 : Hid (openU ps at_ o.res (o.uses.take (b + 1)) = E) := by show _ = _; rw [HQ2.out, HOB.out, decide_eq_true gov, if_pos rfl, List.append_nil]
                clear gov HQ2 HOB
                go_wp2
                go_roundw
                case rel => exact ⟨b + 1, by omega, by go_num, by rw [Q2.out]; exact HO6.out, K6.out⟩
                case measure => simp [intOf]; omega
              · have gov' : xw < ks := by omega
                have Q2 : Hid (openU ps at_ o.res (o.uses.take (b + 1)) = E ++ [⟨(tw : Int), (kw : Int)⟩]) := by show _ = _; rw [HQ2.out, HOB.out, decide_eq_false gov, if_neg (by simp)]
                clear gov HQ2 HOB
                go_wp2_with (at_builtin; refine wpList_append_L tyRef RRef.ok rfl (.tmp 48) (.tmp 50) rfl (HO6.out.alloc RRef.ok _) rfl _ [.int .i64 (tw : Int), .int .i64 (kw : Int)] rfl (Blk.new' _ _ _ (by simp)) rfl ⟨(tw : Int), (kw : Int)⟩ (S := fun _ => False) rfl (fun _ h => h.elim) (by simp [Value.oneCell']) (by omega) (by omega) (by simp; omega) ?_; intro v9 w9 HO9 HK9 HA9; obtain ⟨A9, c9, hv9, _, _⟩ := HO9.form; rw [List.length_append, List.length_singleton] at hv9; subst hv9)
                go_roundw
                case rel => exact ⟨b + 1, by omega, by go_num, by rw [Q2.out]; exact HO9, ((K6.out.alloc _).trans HK9 (fun x hx e => (by have := HO6.out.lt e; omega)))⟩
                case measure => simp [intOf]; omega
            · obtain rfl : b = o.uses.length := by omega
              rw [List.take_length] at HO4 hEl hcb ⊢
              have HRO : Hid (restO ps at_ o = if (openU ps at_ o.res o.uses).length = 0 then [] else [⟨o.res, openU ps at_ o.res o.uses⟩]) := rfl
              generalize openU ps at_ o.res o.uses = E at HO4 HRO hEl hcb ⊢
              have hdb : decide ((o.uses.length : Int) < (o.uses.length : Int)) = false := by simp
              have HO5 := Lib.hid (HO3.out.keeps ROrder.ok KB.out (fun _ _ h => h.elim))
              have KF := Lib.hid (KW3.out.tr KB.out)
              have hszf := KF.out.size
              have hsz3 := KW3.out.size
              by_cases hE0 : E.length = 0
              · have Q2 : Hid ((os.take (a + 1)).flatMap (restO ps at_) = D) := by show _ = _; rw [HQ.out, HRO.out, if_pos hE0, List.append_nil]
                have hE0' : decide (0 < E.length) = false := decide_eq_false (by omega)
                clear hE0 HRO HQ
                go_wp2
                go_roundw
                case rel => exact ⟨a + 1, by omega, by go_num, by rw [Q2.out]; exact HO5.out, KF.out⟩
                case measure => simp [intOf]; omega
              · have Q2 : Hid ((os.take (a + 1)).flatMap (restO ps at_) = D ++ [⟨o.res, E⟩]) := by show _ = _; rw [HQ.out, HRO.out, if_neg hE0]
                have hE0' : 0 < E.length := by omega
                have HRE : Hid (RRefs (wr.alloc (.cells #[.int .i64 o.res, .slice Ab E.length cb] 66)) (fun b => w.heap.size ≤ b ∧ b < (wr.alloc (.cells #[.int .i64 o.res, .slice Ab E.length cb] 66)).heap.size ∧ ¬ (Value.slice Aa D.length ca).ownBlock = some b) [.slice Ab E.length cb] E) := by
                  refine RRefs.ok.mono (HO4.out.readF RRef.ok RRef.flat (S := fun b => (Value.slice Ab E.length cb).ownBlock = some b) (fun b hb => hb)) (fun b hb => ?_) (fun b hb => Below.heap_alloc wr _ b (HO4.out.lt hb).2)
                  have := HO4.out.lt hb
                  refine ⟨by omega, by simp; omega, fun e => ?_⟩
                  have := HO3.out.lt e
                  omega
                clear hE0 HRO HQ
                go_wp2_with (at_builtin; refine wpList_append_L tyOrder ROrder.ok rfl (.tmp 56) (.tmp 61) rfl (HO5.out.alloc ROrder.ok _) rfl _ [.int .i64 o.res, .slice Ab E.length cb] rfl (Blk.new' _ _ _ (by simp)) rfl ⟨o.res, E⟩ (S := fun b => w.heap.size ≤ b ∧ b < (wr.alloc (.cells #[.int .i64 o.res, .slice Ab E.length cb] 66)).heap.size ∧ ¬ (Value.slice Aa D.length ca).ownBlock = some b) ⟨_, rfl, HRE.out⟩ (fun b hb => hb) (by simp [Value.oneCell']) (by omega) (by omega) (by simp; omega) ?_; intro v9 w9 HO9 HK9 HA9; obtain ⟨A9, c9, hv9, _, _⟩ := HO9.form; rw [List.length_append, List.length_singleton] at hv9; subst hv9)
                go_roundw
                case rel => exact ⟨a + 1, by omega, by go_num, by rw [Q2.out]; exact HO9, ((KF.out.alloc _).trans HK9 (fun x hx e => (by have := HO5.out.lt e; omega)))⟩
                case measure => simp [intOf]; omega
        · obtain rfl : a = os.length := by omega
          rw [List.take_length] at HO1 ⊢
          have hda : decide ((os.length : Int) < (os.length : Int)) = false := by simp
          have HRD := Lib.hid (HO1.out.read ROrder.ok (by omega) (S := Old wr) (fun _ _ h => h) (fun _ _ h => h))
          go_wp2
          go_ret
          exact ⟨_, rfl, by rw [Q.out]; exact HRD.out, KR.out⟩
    · have g2' : good ps at_ = false := by simpa using g2
      have Q : Hid (restP ps os at_ = []) := by show _ = _; unfold restP; rw [g1, g2']; rfl
      go_enter Tryz.func30, Tryz.ntmps30
      go_wp2_with fail
      refine (Check_any ps os A A2 c c2 w H.out H2.out).mono ?_
      rintro e w1 ⟨rfl, k1⟩
      rw [g1]
      have K1 := Lib.hid k1; clear k1
      go_wp2_with (go_at_call 53; refine (pgood_any ps at_ A A3 c c3 _ (Old w1) (Old w1) (K1.out.rdo' RPaths.ok H.out) (K1.out.rdo' RInts.ok H3.out)).mono ?_; rintro e w2 ⟨rfl, rfl⟩; rw [g2'])
      go_ret
      exact ⟨_, rfl, by rw [Q.out]; exact RSlice.mkNil, K1.out⟩
  · have g1' : checkO ps os = false := by simpa using g1
    have Q : Hid (restP ps os at_ = []) := by show _ = _; unfold restP; rw [g1']; rfl
    go_enter Tryz.func30, Tryz.ntmps30
    go_wp2_with fail
    refine (Check_any ps os A A2 c c2 w H.out H2.out).mono ?_
    rintro e w1 ⟨rfl, k1⟩
    rw [g1']
    have K1 := Lib.hid k1; clear k1
    go_wp2
    go_ret
    exact ⟨_, rfl, by rw [Q.out]; exact RSlice.mkNil, K1.out⟩

end Go.Proofs.YtbfgmbakeofcbaaGreat
