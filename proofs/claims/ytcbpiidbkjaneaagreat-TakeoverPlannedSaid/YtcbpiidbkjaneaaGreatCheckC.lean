/- Contract of the reference's Check. Conditions: as the theorem says. -/
import Derived.Test.YtcbpiidbkjaneaaGreatCheckB
import Derived.Test.YtcbpiidbkjaneaaGreatValid3
namespace Go.Proofs.YtcbpiidbkjaneaaGreat
open Go.RowKit

theorem next_res {ps : List (List Stage)} {os : List Order} {k r : Nat} (hk : k ≤ os.length) (h : (os.take k).map (·.res) = resTo ps r) (hr : r < 144) (hu : (r : Int) ∈ usesAll ps) (he : os.map (·.res) = resTo ps 144) : ∃ o, os[k]? = some o ∧ o.res = r := by
  have hs : resTo ps (r + 1) = resTo ps r ++ [(r : Int)] := by rw [resTo, if_pos hu]
  obtain ⟨l, hl⟩ := resTo_le ps (r + 1) 144 (by omega)
  rw [hs] at hl
  have hlen : (resTo ps r).length = k := by rw [← h]; simp; omega
  have h1 : (os.map (·.res))[k]? = some (r : Int) := by
    rw [he, hl, List.getElem?_append_left (by simp; omega), List.getElem?_append_right (by omega), hlen]
    simp
  rw [List.getElem?_map] at h1
  cases e : os[k]? with
  | none => rw [e] at h1; simp at h1
  | some o => rw [e] at h1; simp at h1; exact ⟨o, rfl, h1⟩
def CkInv (ps : List (List Stage)) (os : List Order) (k r : Nat) : Prop := (os.take k).map (·.res) = resTo ps r ∧ (os.take k).all (fun o => exactlyB o.uses (allU ps o.res)) = true
theorem CkInv.skip {ps : List (List Stage)} {os : List Order} {k r : Nat} (h : CkInv ps os k r) (hn : (allU ps r).length = 0) : CkInv ps os k (r + 1) := by
  refine ⟨?_, h.2⟩
  rw [resTo, if_neg (allU_nil_iff.1 (List.eq_nil_of_length_eq_zero hn)), List.append_nil]; exact h.1
theorem allU_pos {ps : List (List Stage)} {r : Int} (h : (allU ps r).length ≠ 0) : r ∈ usesAll ps := by
  rcases Classical.em (r ∈ usesAll ps) with h' | h'
  · exact h'
  · exact absurd (by rw [allU_nil_iff.2 h']; rfl) h
theorem CkInv.step {ps : List (List Stage)} {os : List Order} {k r : Nat} {o : Order} (h : CkInv ps os k r) (hn : (allU ps r).length ≠ 0) (ho : os[k]? = some o) (hr : o.res = r) (hx : exactlyB o.uses (allU ps r) = true) : CkInv ps os (k + 1) (r + 1) := by
  refine ⟨?_, ?_⟩
  · rw [resTo, if_pos (allU_pos hn), List.take_add_one, ho, Option.toList_some, List.map_append, h.1]; simp [hr]
  · rw [List.take_add_one, ho, Option.toList_some, List.all_append, h.2]; simp [hr, hx]
theorem CkInv.short {ps : List (List Stage)} {os : List Order} {k r : Nat} (h : CkInv ps os k r) (hr : r < 144) (hn : (allU ps r).length ≠ 0) (hk : k = os.length) : checkO ps os = false := by
  rcases Bool.eq_false_or_eq_true (checkO ps os) with e | e
  · simp only [checkO, Bool.and_eq_true, decide_eq_true_eq] at e
    obtain ⟨o, ho, _⟩ := next_res (by omega) h.1 hr (allU_pos hn) e.1.2
    have := getElem?_lt ho; omega
  · exact e
theorem CkInv.other {ps : List (List Stage)} {os : List Order} {k r : Nat} {o : Order} (h : CkInv ps os k r) (hr : r < 144) (hn : (allU ps r).length ≠ 0) (ho : os[k]? = some o) (hne : o.res ≠ r) : checkO ps os = false := by
  rcases Bool.eq_false_or_eq_true (checkO ps os) with e | e
  · simp only [checkO, Bool.and_eq_true, decide_eq_true_eq] at e
    obtain ⟨o', ho', h2⟩ := next_res (Nat.le_of_lt (getElem?_lt ho)) h.1 hr (allU_pos hn) e.1.2
    rw [ho] at ho'; injection ho' with ho'; subst ho'; exact absurd h2 hne
  · exact e
theorem checkO_bad {ps : List (List Stage)} {os : List Order} {k : Nat} {o : Order} (ho : os[k]? = some o) (hx : exactlyB o.uses (allU ps o.res) = false) : checkO ps os = false := by
  have : os.all (fun o => exactlyB o.uses (allU ps o.res)) = false := List.all_eq_false.2 ⟨o, List.mem_of_getElem? ho, by simp [hx]⟩
  simp [checkO, this]
theorem CkInv.done {ps : List (List Stage)} {os : List Order} {k : Nat} (hv : valid ps = true) (hk : k ≤ os.length) (h : CkInv ps os k 144) : checkO ps os = ((k : Int) == (os.length : Int)) := by
  by_cases e : k = os.length
  · subst e
    have h1 := h.1; have h2 := h.2
    rw [List.take_length] at h1 h2
    simp [checkO, hv, h1, h2]
  · have h3 : ((k : Int) == (os.length : Int)) = false := by simp; omega
    rw [h3]
    have : os.map (·.res) ≠ resTo ps 144 := by
      rw [← h.1]; intro he
      have := congrArg List.length he
      simp at this; omega
    simp [checkO, this]

set_option maxRecDepth 100000 in
set_option maxHeartbeats 1000000 in
theorem RefCheck_any (ps : List (List Stage)) (os : List Order) (A A2 : Option Addr) (c c2 : Nat) (w : World) (h : RPaths w (Old w) [.slice A ps.length c] ps) (h2 : ROrders w (Old w) [.slice A2 os.length c2] os) :
    Calls Tryz.prog 37 #[.slice A ps.length c, .slice A2 os.length c2] w fun e w' => e = .returned (.bool (checkO ps os)) ∧ KeepsAll w w' := by
  have hc := h.caps
  have hc2 := h2.caps
  have H := Lib.hid h; clear h
  have H2 := Lib.hid h2; clear h2
  by_cases g1 : valid ps = true
  · have HV := Lib.hid g1
    go_enter Tryz.func37, Tryz.ntmps37
    go_wp2_with fail
    refine (RefValid_any ps A c w H.out).mono ?_
    rintro e w1 ⟨rfl, k1⟩
    have K1 := Lib.hid k1; clear k1
    go_wp2
    go_loopw [5, 6] (fun vk vr wr => ∃ k r : Nat, r ≤ 144 ∧ k ≤ os.length ∧ vk = .int .i64 k ∧ vr = .int .i64 r ∧ KeepsAll w wr ∧ CkInv ps os k r) (fun _ vr _ => 144 - (intOf vr).toNat)
    case atStart => exact ⟨0, 0, by omega, Nat.zero_le _, rfl, rfl, K1.out, by simp [resTo], by simp⟩
    case round =>
      obtain ⟨k, r, hr, hk, rfl, rfl, hkr, hinv⟩ := hrel
      have KR := Lib.hid hkr; clear hkr
      have HI := Lib.hid hinv; clear hinv
      by_cases hlt : r < 144
      · have hdr : decide ((r : Int) < 144) = true := by simp; omega
        go_wp2_with fail
        refine (All_any ps r A c wr HV.out (KR.out.rdo' RPaths.ok H.out)).mono ?_
        rintro e w2 ⟨v, rfl, ho, hk2⟩
        obtain ⟨Aa, ca, rfl, hca, hca2⟩ := ho.form
        have K2 := Lib.hid (KR.out.tr hk2)
        have HW := Lib.hid (ho.read RRef.ok (by omega) (S := Old w2) (fun _ _ h => h) (fun _ _ h => h))
        clear ho hk2
        by_cases g2 : (allU ps r).length = 0
        · have Q := Lib.hid (HI.out.skip g2)
          have g2' : (((allU ps r).length : Int) == 0) = true := by simp [g2]
          clear g2
          go_wp2
          go_roundw
          case rel => exact ⟨k, r + 1, by omega, hk, rfl, by go_num, K2.out, Q.out⟩
          case measure => simp [intOf]; omega
        · have g2' : (((allU ps r).length : Int) == 0) = false := by simp; intro e; rw [e] at g2; simp at g2
          have G2 := Lib.hid g2; clear g2
          by_cases g3 : k < os.length
          · obtain ⟨b, o, x, A', c', rfl, hb, hx, m0, m1, hr2⟩ := ROrders.atK K2.out H2.out g3
            have HX := Lib.hid hx; clear hx
            have g3' : decide ((k : Int) ≥ (os.length : Int)) = false := by simp; omega
            by_cases g4 : x.res = r
            · have g4' : (x.res != (r : Int)) = false := by simp [g4]
              have G4 := Lib.hid g4; clear g4
              have EX := Lib.hid (exactly_any x.uses (allU ps r) A' Aa c' ca w2 (K2.out.rdo' RRefs.ok hr2) HW.out)
              clear hr2
              by_cases g5 : exactlyB x.uses (allU ps r) = true
              · have Q := Lib.hid (HI.out.step G2.out HX.out G4.out g5)
                go_wp2_with fail
                refine EX.out.mono ?_
                rintro e w3 ⟨rfl, hk3⟩
                have K3 := Lib.hid (K2.out.tr hk3)
                clear hk3
                rw [g5]
                go_wp2
                go_roundw
                case rel => exact ⟨k + 1, r + 1, by omega, by omega, by go_num, by go_num, K3.out, Q.out⟩
                case measure => simp [intOf]; omega
              · have g5' : exactlyB x.uses (allU ps r) = false := by simpa using g5
                have Q := Lib.hid (checkO_bad HX.out (by rw [G4.out]; exact g5'))
                go_wp2_with fail
                refine EX.out.mono ?_
                rintro e w3 ⟨rfl, hk3⟩
                have K3 := Lib.hid (K2.out.tr hk3)
                clear hk3
                rw [g5']
                go_wp2
                go_ret
                exact ⟨by rw [Q.out]; rfl, K3.out⟩
            · have g4' : (x.res != (r : Int)) = true := by simpa using g4
              have Q := Lib.hid (HI.out.other hlt G2.out HX.out g4)
              clear g4
              go_wp2
              go_ret
              exact ⟨by rw [Q.out]; rfl, K2.out⟩
          · have g3' : decide ((k : Int) ≥ (os.length : Int)) = true := by simp; omega
            have Q := Lib.hid (HI.out.short hlt G2.out (by omega))
            go_wp2
            go_ret
            exact ⟨by rw [Q.out]; rfl, K2.out⟩
      · obtain rfl : r = 144 := by omega
        have Q := Lib.hid (HI.out.done HV.out hk)
        go_wp2
        go_ret
        exact ⟨by rw [Q.out]; rfl, KR.out⟩
  · have g1' : valid ps = false := by simpa using g1
    have Q : Hid (checkO ps os = false) := by show checkO ps os = false; simp [checkO, g1']
    go_enter Tryz.func37, Tryz.ntmps37
    go_wp2_with (go_at_call 25; refine (RefValid_any ps A c w H.out).mono ?_; rintro e w1 ⟨rfl, k1⟩)
    go_ret
    exact ⟨by rw [Q.out]; rfl, k1⟩

end Go.Proofs.YtcbpiidbkjaneaaGreat
