/- Contract of the reference's IsCycle at a cycle, and the order of events by the arcs that lead to events that have not happened. Conditions: as each theorem says. The statement PrecedenceCycle: its function returns true. No condition beyond the arguments' reading. -/
import Derived.Test.YtigmldildefdgaaCycB
namespace Go.Proofs.Ytigmldildefdgaa
open Go.RowKit

theorem lineFrom_congr' {go go' : List Int → Option Nat} (I : List Int → Prop) (hI : ∀ now t, I now → go now = some t → I (now.set t (nowAt now t + 1))) (he : ∀ now, I now → go now = go' now) : ∀ (f : Nat) (now : List Int), I now → lineFrom go f now = lineFrom go' f now
  | 0, _, _ => rfl
  | f + 1, now, h => by
    simp only [lineFrom, ← he now h]
    cases e : go now with
    | none => rfl
    | some t => simp only [lineFrom_congr' I hI he f _ (hI now t h e)]
def openArcs (ps : List (List Stage)) (os : List Order) (at_ : List Int) : List RArc := (refArcs ps os).filter fun x => !doneR at_ x.to
theorem lineR_open {ps : List (List Stage)} {os : List Order} {at_ : List Int} (hck : checkO ps os = true) (hgd : good ps at_ = true) : (lineR ps (openArcs ps os at_) at_).2 = decide (total ps (runP ps os at_).2 = 0) := by
  have hg := good_Gd.1 hgd
  have hv := (checkO_facts hck).1
  have hs := readyP_sound ps (arcsOf (evs ps).length (gAdds ps os))
  have ht := total_le hv hg
  have e1 : runP ps os at_ = lineFrom (goR ps (refArcs ps os)) (total ps at_) at_ := by
    unfold runP
    rw [lineFrom_fuel hs 1000 (total ps at_) at_ hg (by omega) (Nat.le_refl _)]
    exact lineFrom_congr hs (fun now h => readyP_goR hck h) _ _ hg
  have e2 : lineFrom (goR ps (openArcs ps os at_)) (total ps at_) at_ = lineFrom (goR ps (refArcs ps os)) (total ps at_) at_ := by
    refine lineFrom_congr' (fun now => Gd ps now ∧ ∀ t, t < ps.length → nowAt at_ t ≤ nowAt now t) (fun now t h hgo => ?_) (fun now h => ?_) _ _ ⟨hg, fun t _ => Int.le_refl _⟩
    · obtain ⟨h1, h2⟩ := goR_sound ps (openArcs ps os at_) now t hgo
      refine ⟨h.1.step h1 h2, fun u hu => ?_⟩
      rw [nowAt_set (by rw [h.1.1]; exact h1)]
      have := h.2 u hu
      split
      · rename_i e; subst e; omega
      · exact this
    · unfold goR
      apply find?_congr'
      intro t ht
      have ht := List.mem_range.1 ht
      unfold goC
      congr 1
      unfold rdyR openArcs
      rw [Bool.eq_iff_iff, List.all_eq_true, List.all_eq_true]
      constructor
      · intro hh a ha
        by_cases hd : doneR at_ a.to = true
        · have hne : a.to ≠ ⟨(t : Int), nowAt now t + 1⟩ := fun e => by
            rw [e] at hd
            unfold doneR at hd
            simp only [Int.toNat_natCast, decide_eq_true_eq] at hd
            have := h.2 t ht
            omega
          simp [hne]
        · exact hh a (List.mem_filter.2 ⟨ha, by simpa using hd⟩)
      · intro hh a ha
        exact hh a (List.mem_filter.1 ha).1
  have hbad : (openArcs ps os at_).any (badArc at_) = false := by
    rw [List.any_eq_false]
    intro a ha
    have := (List.mem_filter.1 ha).2
    unfold badArc
    have hd : doneR at_ a.to = false := by simpa using this
    simp [hd]
  unfold lineR
  rw [if_neg (by rw [hbad]; simp), e2, ← e1]
  by_cases h0 : total ps (runP ps os at_).2 = 0
  · rw [if_pos h0, decide_eq_true h0]
  · rw [if_neg h0, decide_eq_false h0]
theorem RSlice.takeK {α : Type} {size : Nat} {E : Rd α} {w : World} {S : Foot} {A : Option Addr} {n c : Nat} {l : List α} (h : RSlice size E w S [.slice A n c] l) {m : Nat} (hm : m ≤ l.length) : RSlice size E w S [.slice A m c] (l.take m) := by
  obtain ⟨A', c', he, h1, h2, h3⟩ := h
  injection he with he _; injection he with ha hn hc; subst ha hc
  have hl : (l.take m).length = m := by simp; omega
  refine ⟨_, _, by rw [hl], by rw [hl]; omega, h2, fun hne => ?_⟩
  obtain ⟨b', o', rfl, hb, hj⟩ := h3 (by rintro rfl; simp at hne)
  refine ⟨_, _, rfl, hb, fun j x hx => ?_⟩
  have hjm : j < m := by have := getElem?_lt hx; omega
  rw [List.getElem?_take_of_lt hjm] at hx
  exact hj j x hx

set_option maxRecDepth 100000 in
set_option maxHeartbeats 4000000 in
theorem IsCycle_true (ps : List (List Stage)) (os : List Order) (at_ : List Int) (cy : List Ref) (A A2 A3 A4 : Option Addr) (c c2 c3 c4 : Nat) (w : World) (h : RPaths w (Old w) [.slice A ps.length c] ps) (h2 : ROrders w (Old w) [.slice A2 os.length c2] os) (h3 : RInts w (Old w) [.slice A3 at_.length c3] at_) (h4 : RRefs w (Old w) [.slice A4 cy.length c4] cy) (hck : checkO ps os = true) (hg : Gd ps at_) (hok : CycOk ps os at_ cy) :
    Calls Try.prog 37 #[.slice A ps.length c, .slice A2 os.length c2, .slice A3 at_.length c3, .slice A4 cy.length c4] w fun e w' => e = .returned (.bool true) ∧ KeepsAll w w' := by
  have hc := h.caps
  have hc3 := h3.caps
  have hc4 := h4.caps
  have al1 : at_.length ≤ ps.length := by have := hg.1; omega
  have al2 : ps.length ≤ at_.length := by have := hg.1; omega
  have hcyp := hok.1
  have H := Lib.hid h; clear h
  have H2 := Lib.hid h2; clear h2
  have H3 := Lib.hid h3; clear h3
  have H4 := Lib.hid h4; clear h4
  have HOK := Lib.hid hok.2; clear hok
  have HCK := Lib.hid hck; clear hck
  clear hg
  go_enter Try.func37, Try.ntmps37
  go_wp2_with fail
  refine (Arcs_any ps os A A2 c c2 w HCK.out H.out H2.out).mono ?_
  rintro e w1 ⟨v, rfl, ho, hal, k1⟩
  obtain ⟨Aa, ca, rfl, hca1, hca2⟩ := ho.form
  have RA := Lib.hid (ho.read RRArc.ok (by omega) (S := Old w1) (fun _ _ h => h) (fun _ _ h => h))
  have K1 := Lib.hid k1
  have P1 := Lib.hid (k1.rdo' RPaths.ok H.out)
  have I1 := Lib.hid (k1.rdo' RInts.ok H3.out)
  have C1 := Lib.hid (k1.rdo' RRefs.ok H4.out)
  clear ho k1 H H2 H3 H4
  generalize refArcs ps os = arcs at *
  go_wp2
  go_loopw [21] (fun v wr => ∃ i : Nat, i ≤ cy.length ∧ v = .int .i64 (i : Int) ∧ KeepsAll w1 wr) (fun v _ => cy.length - (intOf v).toNat)
  case atStart => exact ⟨0, Nat.zero_le _, rfl, Keeps.refl _ _⟩
  case round =>
    obtain ⟨i, hi, rfl, hkr⟩ := hrel
    have KR := Lib.hid hkr; clear hkr
    by_cases hlt : i < cy.length
    · obtain ⟨b, o, u, hbo, hb, hu, m0, m1⟩ := RRefs.atK KR.out C1.out hlt
      subst hbo
      obtain ⟨⟨t, k, p, hp, hk, hue⟩, hnd, hni, v, hv, a1, ha1, hf1, ht1⟩ := HOK.out i u hu
      subst hue
      simp only [] at m0 m1
      have htl := getElem?_lt hp
      obtain ⟨bp, op, p', Ap, cp, hbo, hbp, hp', p0, hpr⟩ := RSS.atK KR.out P1.out htl
      subst hbo
      obtain rfl := same_of hp' hp
      have hcpp := hpr.caps
      obtain ⟨ba, oa, xa, hbo, hba, hxa, r0⟩ := RInts.atK KR.out I1.out (k := t) (by omega)
      subst hbo
      have hxk : ¬ (k : Int) ≤ xa := by
        unfold doneR at hnd
        simp only [Int.toNat_natCast, nowAt_of hxa, decide_eq_false_iff_not] at hnd
        exact hnd
      have hjl := getElem?_lt hv
      obtain ⟨b', o', v', hbo, hbv, hv', n0, n1⟩ := RRefs.atK KR.out C1.out hjl
      injection hbo with hbo; injection hbo with e1 e2; subst e1 e2
      obtain rfl := same_of hv' hv
      have HANY : Hid (arcs.any (fun a => decide (a.frm = ⟨(t : Int), (k : Int)⟩) && decide (a.to = v')) = true) := List.any_eq_true.2 ⟨a1, ha1, by simp [hf1, ht1]⟩
      have HNI : Hid (decide ((⟨(t : Int), (k : Int)⟩ : Ref) ∈ cy.take i) = false) := by show _ = _; simpa using hni
      have HLT : Hid ((cy.take i).length = i) := by show _ = _; simp; omega
      have HJ : Hid ((i + 1) % cy.length < cy.length) := hjl
      clear hu hp hp' hpr hxa hnd hni hv hv' ha1 hf1 ht1
      generalize hjj : (i + 1) % cy.length = j2 at *
      have HJJ := Lib.hid hjj; clear hjj
      have hdi : decide ((i : Int) < (cy.length : Int)) = true := by simp; omega
      go_wp2
      generalize hW2 : World.alloc wr _ = W2
      have KW2 : KeepsAll wr W2 := by subst hW2; exact (Keeps.refl _ _).alloc _
      have BU : Hid (Blk W2 wr.heap.size 48 #[.int .i64 (t : Int), .int .i64 (k : Int)]) := by subst hW2; exact Blk.new _ _ _
      have u0 := BU.out.cell 0
      have u1 := BU.out.cell 1
      simp at u0 u1
      have hzu := BU.out.lt
      replace p0 := KW2.cellK (p := ⟨bp, op + t, none⟩) hbp p0
      replace r0 := KW2.cellK (p := ⟨ba, oa + t, none⟩) hba r0
      replace n0 := KW2.cellK (p := ⟨b, o + j2 * 2, none⟩) hbv n0
      replace n1 := KW2.cellK (p := ⟨b, o + j2 * 2 + 1, none⟩) hbv n1
      have hbv2 : b < W2.heap.size := Nat.lt_of_lt_of_le hbv KW2.size
      have K2 := Lib.hid (KR.out.tr KW2)
      have HCL : Hid (∀ xx : Ext W2, Calls Try.prog 80 #[.slice (some ⟨b, o, none⟩) i c4, .agg #[.int .i64 (t : Int), .int .i64 (k : Int)]] xx.val fun e w'' => e = .returned (.bool false) ∧ ∃ y : Ext W2, w'' = y.val) := fun xx => ext_call xx (by
        have q := holds_any (cy.take i) ⟨(t : Int), (k : Int)⟩ (some ⟨b, o, none⟩) c4 xx.val (by rw [HLT.out]; exact RSlice.takeK ((K2.out.tr xx.keeps).rdo' RRefs.ok C1.out) (by omega))
        rw [HLT.out, HNI.out] at q
        exact q)
      clear hW2 KW2 m0 m1 hb hbp hba hbv
      generalize wr.heap.size = zu at *
      have g1 : decide ((t : Int) < 0) = false := by simp
      have g2 : decide (ps.length ≤ t) = false := by simp; omega
      have g3 : decide ((k : Int) < 0) = false := by simp
      have g4 : decide (p'.length < k) = false := by simp; omega
      have g5 : decide (xa ≥ (k : Int)) = false := by simp; omega
      have hic : i ≤ c4 := by omega
      refine wp_region_ext (by kernel_rfl) (by kernel_rfl) ?_
      have y0 := Ext.cell u0
      have y1 := Ext.cell u1
      have y2 := Ext.cell p0
      have y3 := Ext.cell r0
      repeat (go_big_quiet_step ((go_at_call 80; exact HCL.out _)))
      refine wpQuiet_nil ?_
      rintro _ ⟨X, rfl⟩
      have KX := Lib.hid (K2.out.tr X.keeps)
      have BX := Lib.hid (BU.out.kept X.keeps (by simp))
      replace n0 := X.keeps.cellK (p := ⟨b, o + j2 * 2, none⟩) hbv2 n0
      replace n1 := X.keeps.cellK (p := ⟨b, o + j2 * 2 + 1, none⟩) hbv2 n1
      have hbv3 : b < X.val.heap.size := Nat.lt_of_lt_of_le hbv2 X.keeps.size
      clear y0 y1 y2 y3 u0 u1 p0 r0 hzu hbv2 HCL BU K2 g1 g2 g3 g4 g5
      generalize X.val = WX at *
      have hs1 : IntKind.i64.wrap ((i : Int) + 1) = (i : Int) + 1 := IntWalk.i64_in _ (by omega)
      have hrem : ((i : Int) + 1).tmod (cy.length : Int) = (j2 : Int) := by
        rw [← HJJ.out, show (i : Int) + 1 = ((i + 1 : Nat) : Int) from by simp, Int.ofNat_tmod]
      have hj2l : j2 < cy.length := HJ.out
      have hcn : ¬ ((cy.length : Int) = 0) := by omega
      go_wp2
      generalize hW4 : World.alloc WX _ = W4
      have KW4 : KeepsAll WX W4 := by subst hW4; exact (Keeps.refl _ _).alloc _
      have BV : Hid (Blk W4 WX.heap.size 48 #[.int .i64 v'.tr, .int .i64 v'.st]) := by subst hW4; exact Blk.new _ _ _
      have BU4 := Lib.hid (BX.out.kept KW4 (by simp))
      have K4 := Lib.hid (KX.out.tr KW4)
      clear hW4 KW4 n0 n1 hbv3 BX KX hs1 hrem
      generalize WX.heap.size = zv at *
      go_loopw [13, 79] (fun vb vi wr => ∃ m : Nat, m ≤ arcs.length ∧ vi = .int .i64 (m : Int) ∧ vb = .bool ((arcs.take m).any (fun a => decide (a.frm = ⟨(t : Int), (k : Int)⟩) && decide (a.to = v'))) ∧ KeepsAll W4 wr) (fun _ vi _ => arcs.length - (intOf vi).toNat)
      case atStart => exact ⟨0, Nat.zero_le _, rfl, by simp, Keeps.refl _ _⟩
      case round =>
        obtain ⟨m, hm, rfl, rfl, hkm⟩ := hrel
        have KM := Lib.hid hkm; clear hkm
        by_cases hltm : m < arcs.length
        · obtain ⟨bA, oA, a, hbo, hbA, ha, c0, c1, c2', c3', c4'⟩ := RRArcs.atK (K4.out.tr KM.out) RA.out hltm
          subst hbo
          have HQ : Hid ((arcs.take (m + 1)).any (fun a => decide (a.frm = ⟨(t : Int), (k : Int)⟩) && decide (a.to = v')) = ((arcs.take m).any (fun a => decide (a.frm = ⟨(t : Int), (k : Int)⟩) && decide (a.to = v')) || (decide (a.frm = ⟨(t : Int), (k : Int)⟩) && decide (a.to = v')))) := by
            show _ = _
            rw [take_succ' ha, List.any_append]; simp
          have bu := BU4.out.kept KM.out (by simp)
          have bv := BV.out.kept KM.out (by simp)
          have u0 := bu.cell 0
          have u1 := bu.cell 1
          have v0 := bv.cell 0
          have v1 := bv.cell 1
          simp at u0 u1 v0 v1
          have hzu := bu.lt
          have hzv := bv.lt
          clear ha bu bv
          generalize (arcs.take m).any (fun a => decide (a.frm = ⟨(t : Int), (k : Int)⟩) && decide (a.to = v')) = bb at *
          have hdm : decide ((m : Int) < (arcs.length : Int)) = true := by simp; omega
          cases bb with
          | true =>
            have Q : Hid ((arcs.take (m + 1)).any (fun a => decide (a.frm = ⟨(t : Int), (k : Int)⟩) && decide (a.to = v')) = true) := by show _ = _; rw [HQ.out]; rfl
            clear HQ
            go_wp2
            go_roundw
            case rel => exact ⟨m + 1, by omega, by go_num, by rw [Q.out], KM.out.alloc _⟩
            case measure => simp [intOf]; omega
          | false =>
            by_cases g1 : a.frm = ⟨(t : Int), (k : Int)⟩
            · have g1' : a.frm.tr = (t : Int) := by rw [g1]
              have g1'' : a.frm.st = (k : Int) := by rw [g1]
              rw [g1'] at c0
              rw [g1''] at c1
              by_cases g2 : a.to = v'
              · have Q : Hid ((arcs.take (m + 1)).any (fun a => decide (a.frm = ⟨(t : Int), (k : Int)⟩) && decide (a.to = v')) = true) := by show _ = _; rw [HQ.out, decide_eq_true g1, decide_eq_true g2]; rfl
                have g2' : a.to.tr = v'.tr := by rw [g2]
                have g2'' : a.to.st = v'.st := by rw [g2]
                rw [g2'] at c2'
                rw [g2''] at c3'
                clear HQ g1 g1' g1'' g2 g2' g2''
                go_wp2
                go_roundw
                case rel => exact ⟨m + 1, by omega, by go_num, by rw [Q.out], KM.out.alloc _⟩
                case measure => simp [intOf]; omega
              · have Q : Hid ((arcs.take (m + 1)).any (fun a => decide (a.frm = ⟨(t : Int), (k : Int)⟩) && decide (a.to = v')) = false) := by show _ = _; rw [HQ.out, decide_eq_false g2]; simp
                have g1n : ¬ (a.to.tr = v'.tr ∧ a.to.st = v'.st) := fun h => g2 (Ref.eq_of h.1 h.2)
                clear HQ g1 g1' g1'' g2
                by_cases g3 : a.to.tr = v'.tr
                · have g4 : ¬ a.to.st = v'.st := fun h => g1n ⟨g3, h⟩
                  rw [g3] at c2'
                  clear g1n g3
                  go_wp2
                  go_roundw
                  case rel => exact ⟨m + 1, by omega, by go_num, by rw [Q.out], KM.out.alloc _⟩
                  case measure => simp [intOf]; omega
                · clear g1n
                  go_wp2
                  go_roundw
                  case rel => exact ⟨m + 1, by omega, by go_num, by rw [Q.out], KM.out.alloc _⟩
                  case measure => simp [intOf]; omega
            · have Q : Hid ((arcs.take (m + 1)).any (fun a => decide (a.frm = ⟨(t : Int), (k : Int)⟩) && decide (a.to = v')) = false) := by show _ = _; rw [HQ.out, decide_eq_false g1]; simp
              have g1n : ¬ (a.frm.tr = (t : Int) ∧ a.frm.st = (k : Int)) := fun h => g1 (Ref.eq_of h.1 h.2)
              clear HQ g1
              by_cases g3 : a.frm.tr = (t : Int)
              · have g4 : ¬ a.frm.st = (k : Int) := fun h => g1n ⟨g3, h⟩
                rw [g3] at c0
                clear g1n g3
                go_wp2
                go_roundw
                case rel => exact ⟨m + 1, by omega, by go_num, by rw [Q.out], KM.out.alloc _⟩
                case measure => simp [intOf]; omega
              · clear g1n
                go_wp2
                go_roundw
                case rel => exact ⟨m + 1, by omega, by go_num, by rw [Q.out], KM.out.alloc _⟩
                case measure => simp [intOf]; omega
        · obtain rfl : m = arcs.length := by omega
          rw [List.take_length, HANY.out]
          have hdm : decide ((arcs.length : Int) < (arcs.length : Int)) = false := by simp
          go_wp2
          go_roundw
          case rel => exact ⟨i + 1, by omega, by go_num, K4.out.tr KM.out⟩
          case measure => simp [intOf]; omega
    · obtain rfl : i = cy.length := by omega
      have hdi : decide ((cy.length : Int) < (cy.length : Int)) = false := by simp
      go_wp2
      go_ret
      exact ⟨rfl, K1.out.tr KR.out⟩





set_option maxRecDepth 100000 in
set_option maxHeartbeats 4000000 in
theorem PrecedenceCycle_any (lp le la : List Int) (A A2 A3 : Option Addr) (c c2 c3 : Nat) (w : World) (h : RInts w (Old w) [.slice A lp.length c] lp) (h2 : RInts w (Old w) [.slice A2 le.length c2] le) (h3 : RInts w (Old w) [.slice A3 la.length c3] la) :
    Calls Try.prog 8 #[.slice A lp.length c, .slice A2 le.length c2, .slice A3 la.length c3] w fun e w' => e = .returned (.bool true) ∧ KeepsAll w w' := by
  have HM := Lib.hid (made_any lp le la A A2 A3 c c2 c3 w h h2 h3)
  clear h h2 h3
  go_enter Try.func8, Try.ntmps8
  go_wp2_with fail
  refine HM.out.mono ?_
  rintro e w1 ⟨ps, os, at_, v0, v1, v2, rfl, rp, ro, ra, hm, hck, hgd, _, k1⟩
  obtain ⟨B, d, rfl, hd1, hd2⟩ := rp.val
  obtain ⟨B2, d2, rfl, hd3, hd4⟩ := ro.val
  obtain ⟨B3, d3, rfl, hd5, hd6⟩ := ra.val
  have P1 := Lib.hid rp; have O1 := Lib.hid ro; have A1 := Lib.hid ra; have K1 := Lib.hid k1
  have hG := good_Gd.1 hgd
  have hps1 := hm.1
  have al1 : at_.length ≤ ps.length := by have := hG.1; omega
  have al2 : ps.length ≤ at_.length := by have := hG.1; omega
  have HV := Lib.hid hm.valid
  have HCK := Lib.hid hck
  have HGD := Lib.hid hgd
  have HGG := Lib.hid hG
  have HLO := Lib.hid (lineR_open hck hgd)
  have HIN := Lib.hid (refArcs_in hck)
  have HOA : Hid (openArcs ps os at_ = (refArcs ps os).filter fun x => !doneR at_ x.to) := rfl
  clear rp ro ra k1 hm hck hgd hG HM
  go_wp2_with fail
  refine (Arcs_any ps os B B2 d d2 w1 HCK.out P1.out O1.out).mono ?_
  rintro e w2 ⟨va, rfl, ha2, hal2, k2⟩
  obtain ⟨Aa, ca, rfl, hca1, hca2⟩ := ha2.form
  have RA := Lib.hid (ha2.read RRArc.ok (by omega) (S := Old w2) (fun _ _ h => h) (fun _ _ h => h))
  have K2 := Lib.hid (K1.out.tr k2)
  have P2 := Lib.hid (k2.rdo' RPaths.ok P1.out)
  have O2 := Lib.hid (k2.rdo' ROrders.ok O1.out)
  have A2' := Lib.hid (k2.rdo' RInts.ok A1.out)
  clear ha2 k2 K1 P1 O1 A1
  generalize refArcs ps os = arcs at *
  go_wp2
  go_loopw [10, 30] (fun v i wr => ∃ m : Nat, m ≤ arcs.length ∧ i = .int .i64 (m : Int) ∧ OwnL 57 5 RRArc wr w2.heap.size w2.heap.size v ((arcs.take m).filter fun x => !doneR at_ x.to) ∧ KeepsAll w2 wr) (fun _ i _ => arcs.length - (intOf i).toNat)
  case atStart => exact ⟨0, Nat.zero_le _, rfl, OwnL.nil, Keeps.refl _ _⟩
  case round =>
    obtain ⟨m, hm, rfl, ho, hkr⟩ := hrel
    obtain ⟨Ab, cb, rfl, hcb1, hcb2⟩ := ho.form
    have HO := Lib.hid ho
    have KR := Lib.hid hkr
    have hsz := hkr.size
    clear ho hkr
    have hEl : ((arcs.take m).filter fun x => !doneR at_ x.to).length ≤ 60000000 := by
      have h1 := List.length_filter_le (fun x => !doneR at_ x.to) (arcs.take m)
      have h2 : (arcs.take m).length ≤ arcs.length := by simp; omega
      omega
    by_cases hlt : m < arcs.length
    · obtain ⟨bA, oA, a, hbo, hbA, ha, c0, c1, c2', c3', c4'⟩ := RRArcs.atK KR.out RA.out hlt
      subst hbo
      have hai := (HIN.out a (List.mem_of_getElem? ha)).2
      obtain ⟨tt, htt⟩ := Int.eq_ofNat_of_zero_le hai.1
      have httl : tt < at_.length := by omega
      obtain ⟨b3, o3, x, hbo, hb3, hx, q0⟩ := RInts.atK KR.out A2'.out httl
      subst hbo
      have HD : Hid (doneR at_ a.to = decide (a.to.st ≤ x)) := by
        show doneR _ _ = _
        unfold doneR
        rw [htt, Int.toNat_natCast, nowAt_of hx]
      have HQ : Hid ((arcs.take (m + 1)).filter (fun x => !doneR at_ x.to) = (arcs.take m).filter (fun x => !doneR at_ x.to) ++ (if doneR at_ a.to = true then [] else [a])) := by
        show _ = _
        rw [take_succ' ha, List.filter_append]
        cases hd : doneR at_ a.to <;> simp [hd]
      rw [htt] at c2'
      have HTT := Lib.hid htt
      clear ha hx hai htt
      generalize (arcs.take m).filter (fun x => !doneR at_ x.to) = E at *
      have hdm : decide ((m : Int) < (arcs.length : Int)) = true := by simp; omega
      go_wp2
      generalize hW3 : World.alloc wr _ = W3
      have KW3 : KeepsAll wr W3 := by subst hW3; exact (Keeps.refl _ _).alloc _
      have BA : Hid (Blk W3 wr.heap.size 57 #[.int .i64 a.frm.tr, .int .i64 a.frm.st, .int .i64 (tt : Int), .int .i64 a.to.st, .int .i64 a.wt]) := by subst hW3; exact Blk.new _ _ _
      have a0 := BA.out.cell 0
      have a1 := BA.out.cell 1
      have a2 := BA.out.cell 2
      have a3 := BA.out.cell 3
      have a4 := BA.out.cell 4
      simp at a0 a1 a2 a3 a4
      have hza := BA.out.lt
      replace q0 := KW3.cellK (p := ⟨b3, o3 + tt, none⟩) hb3 q0
      have HO3 := Lib.hid (HO.out.keeps RRArc.ok KW3 (fun _ _ h => h.elim))
      have K3 := Lib.hid (KR.out.tr KW3)
      have hsz3 := K3.out.size
      clear hW3 KW3 c0 c1 c2' c3' c4' hbA hb3 HO
      generalize wr.heap.size = za at *
      by_cases g1 : a.to.st ≤ x
      · have g1' : ¬ x < a.to.st := by omega
        have Q : Hid ((arcs.take (m + 1)).filter (fun x => !doneR at_ x.to) = E) := by show _ = _; rw [HQ.out, HD.out, decide_eq_true g1, if_pos rfl, List.append_nil]
        clear g1 HQ HD
        go_quiet (fail)
        go_wp2
        go_roundw
        case rel => exact ⟨m + 1, by omega, by go_num, by rw [Q.out]; exact HO3.out.drewN RRArc.ok _, K3.out.drewN _⟩
        case measure => simp [intOf]; omega
      · have g1' : x < a.to.st := by omega
        have Q : Hid ((arcs.take (m + 1)).filter (fun x => !doneR at_ x.to) = E ++ [a]) := by show _ = _; rw [HQ.out, HD.out, decide_eq_false g1, if_neg (by simp)]
        have HAE : Hid (RRArc W3 (fun _ => False) [.int .i64 a.frm.tr, .int .i64 a.frm.st, .int .i64 (tt : Int), .int .i64 a.to.st, .int .i64 a.wt] a) := by
          show _ = _
          rw [HTT.out]
        clear g1 HQ HD
        go_quiet (fail)
        go_wp2_with (at_builtin; refine wpList_append_L tyRArc RRArc.ok rfl (.tmp 44) (.tmp 46) rfl ((HO3.out.drewN RRArc.ok _).alloc RRArc.ok _) rfl _ [.int .i64 a.frm.tr, .int .i64 a.frm.st, .int .i64 (tt : Int), .int .i64 a.to.st, .int .i64 a.wt] rfl (Blk.new' _ _ _ (by simp)) rfl a (S := fun _ => False) HAE.out (fun _ h => h.elim) (by simp [Value.oneCell']) (by omega) (by omega) (by simp; omega) ?_; intro v9 w9 HO9 HK9 HA9; have K9 := Lib.hid (((K3.out.drewN _).alloc _).trans HK9 (fun x hx e => (by have := HO3.out.lt e; omega))); obtain ⟨A9, c9, hv9, _, _⟩ := HO9.form; rw [List.length_append, List.length_singleton] at hv9; subst hv9)
        go_roundw
        case rel => exact ⟨m + 1, by omega, by go_num, by rw [Q.out]; exact HO9, K9.out⟩
        case measure => simp [intOf]; omega
    · obtain rfl : m = arcs.length := by omega
      rw [List.take_length, ← HOA.out] at HO hEl hcb1 ⊢
      have HIN2 : Hid (∀ a ∈ openArcs ps os at_, (0 ≤ a.frm.tr ∧ a.frm.tr < ps.length) ∧ 0 ≤ a.to.tr ∧ a.to.tr < ps.length) := fun a ha => by
        rw [HOA.out] at ha
        exact HIN.out a (List.mem_filter.1 ha).1
      have RE := Lib.hid (HO.out.read RRArc.ok (by omega) (S := Old wr) (fun _ _ h => h) (fun _ _ h => h))
      have hdm : decide ((arcs.length : Int) < (arcs.length : Int)) = false := by simp
      clear HOA HO HIN
      go_wp2_with fail
      refine (LineOf_any ps (openArcs ps os at_) at_ B Ab B3 d cb d3 wr (KR.out.rdo' RPaths.ok P2.out) RE.out (KR.out.rdo' RInts.ok A2'.out) HV.out hps1 HGG.out HIN2.out).mono ?_
      rintro e w3 ⟨vl, rfl, rl, k3⟩
      rw [HLO.out]
      have K3 := Lib.hid (KR.out.tr k3)
      clear rl k3 KR RE
      go_wp2_with fail
      refine (Cycle_any ps os at_ B B2 B3 d d2 d3 w3 (K3.out.rdo' RPaths.ok P2.out) (K3.out.rdo' ROrders.ok O2.out) (K3.out.rdo' RInts.ok A2'.out) HCK.out HGD.out).mono ?_
      rintro e w4 ⟨vc, cy, rfl, rc, k4, hcase⟩
      obtain ⟨Ac, cc, rfl, _, _⟩ := rc.val
      have K4 := Lib.hid (K3.out.tr k4)
      have RC := Lib.hid rc
      clear rc k4 K3
      rcases hcase with ⟨h0, hcy⟩ | ⟨h0, hcy⟩
      · rw [decide_eq_true h0]
        subst hcy
        simp only [List.length_nil]
        clear h0
        go_wp2_with fail
        refine (awake35_any w4).mono ?_
        rintro e w5 ⟨rfl, k5⟩
        have K5 := Lib.hid (K4.out.tr k5); clear k5
        go_wp2
        go_ret
        exact ⟨rfl, K2.out.tr K5.out⟩
      · rw [decide_eq_false h0]
        have HCY := Lib.hid hcy
        clear h0 hcy
        go_wp2_with fail
        refine (awake35_any w4).mono ?_
        rintro e w5 ⟨rfl, k5⟩
        have K5 := Lib.hid (K4.out.tr k5)
        have RC5 := Lib.hid (k5.rdo' RRefs.ok RC.out)
        clear k5
        go_wp2_with fail
        refine (IsCycle_true ps os at_ cy B B2 B3 Ac d d2 d3 cc w5 (K5.out.rdo' RPaths.ok P2.out) (K5.out.rdo' ROrders.ok O2.out) (K5.out.rdo' RInts.ok A2'.out) RC5.out HCK.out HGG.out HCY.out).mono ?_
        rintro e w6 ⟨rfl, k6⟩
        have K6 := Lib.hid (K5.out.tr k6); clear k6
        go_wp2
        go_ret
        exact ⟨rfl, K2.out.tr K6.out⟩

end Go.Proofs.Ytigmldildefdgaa
