/- Contracts of the reference's ready, LineOf and Line. Conditions: as each theorem says. -/
import Derived.Test.YtcbpiidbkjaneaaGreatRefA
namespace Go.Proofs.YtcbpiidbkjaneaaGreat
open Go.RowKit

set_option maxRecDepth 100000 in
set_option maxHeartbeats 1000000 in
theorem RefReady_any (arcs : List RArc) (now : List Int) (A A2 : Option Addr) (c c2 : Nat) (u : Ref) (w : World) (h : RRArcs w (Old w) [.slice A arcs.length c] arcs) (h2 : RInts w (Old w) [.slice A2 now.length c2] now) (hin : ∀ a ∈ arcs, 0 ≤ a.frm.tr ∧ a.frm.tr < now.length) :
    Calls Tryz.prog 67 #[.slice A arcs.length c, .slice A2 now.length c2, .agg #[.int .i64 u.tr, .int .i64 u.st]] w fun e w' => e = .returned (.bool (rdyR arcs now u)) ∧ KeepsAll w w' := by
  have hc := h.caps
  have hc2 := h2.caps
  have H := Lib.hid h; clear h
  have H2 := Lib.hid h2; clear h2
  have HIN := Lib.hid hin; clear hin
  go_enter Tryz.func67, Tryz.ntmps67
  go_wp2
  generalize hW : World.alloc w _ = W
  have KW : Hid (KeepsAll w W) := by subst hW; exact (Keeps.refl _ _).alloc _
  have BU : Hid (Blk W w.heap.size 69 #[.int .i64 u.tr, .int .i64 u.st]) := by subst hW; exact Blk.new _ _ _
  clear hW
  generalize w.heap.size = zu at *
  go_loopw [11] (fun i wr => ∃ k : Nat, k ≤ arcs.length ∧ i = .int .i64 k ∧ KeepsAll W wr ∧ rdyR (arcs.take k) now u = true) (fun i _ => arcs.length - (intOf i).toNat)
  case atStart => exact ⟨0, Nat.zero_le _, rfl, Keeps.refl _ _, by simp [rdyR]⟩
  case round =>
    obtain ⟨k, hk, rfl, hkr, hall⟩ := hrel
    have KR := Lib.hid hkr; clear hkr
    have HALL := Lib.hid hall; clear hall
    by_cases hlt : k < arcs.length
    · obtain ⟨b, o, a, hbo, hb, ha, m0, m1, m2, m3, m4⟩ := RRArcs.atK (KW.out.tr KR.out) H.out hlt
      subst hbo
      have hai := HIN.out a (List.mem_of_getElem? ha)
      obtain ⟨tf, htf⟩ := Int.eq_ofNat_of_zero_le hai.1
      have htl : tf < now.length := by omega
      obtain ⟨b3, o3, x, hbo, hb3, hx, q0⟩ := RInts.atK (KW.out.tr KR.out) H2.out htl
      subst hbo
      have BUr := BU.out.kept KR.out (by simp)
      have e0 := BUr.cell 0
      have e1 := BUr.cell 1
      simp at e0 e1
      have hzu := BUr.lt
      have HD : Hid (doneR now a.frm = decide (a.frm.st ≤ x)) := by
        show doneR _ _ = _
        unfold doneR
        rw [htf, Int.toNat_natCast, nowAt_of hx]
      have HQ : Hid (rdyR (arcs.take (k + 1)) now u = (rdyR (arcs.take k) now u && !(decide (a.to = u) && !doneR now a.frm))) := by
        show _ = _
        unfold rdyR
        rw [List.take_add_one, ha]
        simp
      have HBAD : Hid ((decide (a.to = u) && !doneR now a.frm) = true → rdyR arcs now u = false) := fun hb => by
        unfold rdyR
        rw [List.all_eq_false]
        exact ⟨a, List.mem_of_getElem? ha, by rw [hb]; simp⟩
      clear ha hx hai BUr
      have hdk : decide ((k : Int) < (arcs.length : Int)) = true := by simp; omega
      rw [htf] at m0
      go_wp2
      generalize hW2 : World.alloc wr _ = W2
      have KW2 : KeepsAll wr W2 := by subst hW2; exact (Keeps.refl _ _).alloc _
      have BA : Blk W2 wr.heap.size 113 #[.int .i64 (tf : Int), .int .i64 a.frm.st, .int .i64 a.to.tr, .int .i64 a.to.st, .int .i64 a.wt] := by subst hW2; exact Blk.new _ _ _
      have a0 := BA.cell 0
      have a1 := BA.cell 1
      have a2 := BA.cell 2
      have a3 := BA.cell 3
      simp at a0 a1 a2 a3
      have hza := BA.lt
      replace e0 := KW2.cellK (p := ⟨zu, 0, none⟩) hzu e0
      replace e1 := KW2.cellK (p := ⟨zu, 1, none⟩) hzu e1
      replace q0 := KW2.cellK (p := ⟨b3, o3 + tf, none⟩) hb3 q0
      have K2 := Lib.hid (KR.out.tr KW2)
      clear hW2 KW2 BA m0 m1 m2 m3 m4 hb hb3 hzu
      generalize wr.heap.size = za at *
      by_cases g1 : a.to = u
      · have g1' : a.to.tr = u.tr := by rw [g1]
        have g1'' : a.to.st = u.st := by rw [g1]
        rw [g1'] at a2
        rw [g1''] at a3
        by_cases g2 : a.frm.st ≤ x
        · have Q : Hid (rdyR (arcs.take (k + 1)) now u = true) := by show _ = _; rw [HQ.out, HALL.out, HD.out, decide_eq_true g2]; simp
          have g2' : decide (x < a.frm.st) = false := by simp; omega
          clear g1 g1' g1'' g2 HQ HD HBAD
          go_quiet (fail)
          go_wp2
          go_roundw
          case rel => exact ⟨k + 1, by omega, by go_num, K2.out.drewN _, Q.out⟩
          case measure => simp [intOf]; omega
        · have Q : Hid (rdyR arcs now u = false) := HBAD.out (by rw [HD.out]; simp [g1]; omega)
          have g2' : decide (x < a.frm.st) = true := by simp; omega
          clear g1 g1' g1'' g2 HQ HD HBAD
          go_quiet (fail)
          go_wp2
          go_ret
          exact ⟨by rw [Q.out]; rfl, (KW.out.tr K2.out).drewN _⟩
      · have Q : Hid (rdyR (arcs.take (k + 1)) now u = true) := by show _ = _; rw [HQ.out, HALL.out]; simp [g1]
        have g1n : ¬ (a.to.tr = u.tr ∧ a.to.st = u.st) := fun h => g1 (Ref.eq_of h.1 h.2)
        clear g1 HQ HD HBAD
        by_cases g3 : a.to.tr = u.tr
        · have g4 : ¬ a.to.st = u.st := fun h => g1n ⟨g3, h⟩
          have g4' : (a.to.st == u.st) = false := by simpa using g4
          rw [g3] at a2
          clear g1n g3
          go_quiet (fail)
          go_wp2
          go_roundw
          case rel => exact ⟨k + 1, by omega, by go_num, K2.out.drewN _, Q.out⟩
          case measure => simp [intOf]; omega
        · have g3' : (a.to.tr == u.tr) = false := by simpa using g3
          clear g1n
          go_quiet (fail)
          go_wp2
          go_roundw
          case rel => exact ⟨k + 1, by omega, by go_num, K2.out.drewN _, Q.out⟩
          case measure => simp [intOf]; omega
    · obtain rfl : k = arcs.length := by omega
      rw [List.take_length] at HALL
      go_wp2
      go_ret
      exact ⟨by rw [HALL.out]; rfl, KW.out.tr KR.out⟩

end Go.Proofs.YtcbpiidbkjaneaaGreat
