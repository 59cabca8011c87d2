/- Contract of keep.Same at references. Conditions: as the theorem says. -/
import Derived.Test.YtcbpiidbkjaneaaGreatLnN
namespace Go.Proofs.YtcbpiidbkjaneaaGreat
open Go.RowKit

set_option maxHeartbeats 400000 in
theorem SameRef_any (x y : List Ref) (A A2 : Option Addr) (c c2 : Nat) (w : World) (S S2 : Foot) (h : RRefs w S [.slice A x.length c] x) (h2 : RRefs w S2 [.slice A2 y.length c2] y) :
    Calls Tryz.prog 42 #[.slice A x.length c, .slice A2 y.length c2] w fun e w' => e = .returned (.bool (decide (x = y))) ∧ ∃ n, w' = w.drewN n := by
  have hc := h.caps
  have hc2 := h2.caps
  have H := Lib.hid h; clear h
  have H2 := Lib.hid h2; clear h2
  by_cases g1 : x.length = y.length
  · have g1' : ((x.length : Int) != (y.length : Int)) = false := by simp; omega
    have G1 := Lib.hid g1; clear g1
    have l1 : x.length ≤ y.length := by rw [G1.out]; exact Nat.le_refl _
    have l2 : y.length ≤ x.length := by rw [G1.out]; exact Nat.le_refl _
    go_enter Tryz.func42, Tryz.ntmps42
    go_wp2
    go_loopw [13] (fun i wr => ∃ k : Nat, k ≤ x.length ∧ i = .int .i64 k ∧ x.take k = y.take k ∧ ∃ n, wr = w.drewN n) (fun i _ => x.length - (intOf i).toNat)
    case atStart => exact ⟨0, Nat.zero_le _, rfl, rfl, 0, rfl⟩
    case round =>
      obtain ⟨k, hk, rfl, hinv, n, rfl⟩ := hrel
      have HI := Lib.hid hinv; clear hinv
      by_cases hlt : k < x.length
      · obtain ⟨b, o, u, rfl, _, hu, k1, k1'⟩ := RRefs.at_ H.out hlt
        obtain ⟨b2, o2, v, rfl, _, hv, k2, k2'⟩ := RRefs.at_ H2.out (k := k) (by omega)
        by_cases g2 : u = v
        · have Q : Hid (x.take (k + 1) = y.take (k + 1)) := by
            show x.take (k + 1) = y.take (k + 1)
            rw [List.take_add_one, List.take_add_one, HI.out, hu, hv, g2]
          subst g2
          clear hu hv
          go_wp2
          go_quiet (fail)
          go_wp2
          go_roundw
          case rel => exact ⟨k + 1, by omega, by go_num, Q.out, _, rfl⟩
          case measure => simp [intOf]; omega
        · have Q : Hid (decide (x = y) = false) := by
            show decide (x = y) = false
            simp only [decide_eq_false_iff_not]; rintro rfl
            exact g2 (same_of hu hv)
          have g3 : ¬ (u.tr = v.tr ∧ u.st = v.st) := fun h => g2 (by cases u; cases v; simp_all)
          clear hu hv g2
          by_cases g4 : u.tr = v.tr
          · have g5 : ¬ (u.st = v.st) := fun h => g3 ⟨g4, h⟩
            clear g3
            go_wp2
            go_quiet (fail)
            go_wp2
            go_ret
            exact ⟨by rw [Q.out]; rfl, _, drewNN _ _ _⟩
          · clear g3
            go_wp2
            go_quiet (fail)
            go_wp2
            go_ret
            exact ⟨by rw [Q.out]; rfl, _, drewNN _ _ _⟩
      · have Q : Hid (decide (x = y) = true) := by
          show decide (x = y) = true
          have := HI.out
          rw [List.take_of_length_le (by omega), List.take_of_length_le (by omega)] at this
          simpa using this
        go_wp2
        go_ret
        exact ⟨by rw [Q.out]; rfl, _, rfl⟩
  · have g1' : ((x.length : Int) != (y.length : Int)) = true := by simp; omega
    have Q : Hid (decide (x = y) = false) := by
      show decide (x = y) = false
      simp only [decide_eq_false_iff_not]; rintro rfl; exact g1 rfl
    go_enter Tryz.func42, Tryz.ntmps42
    go_wp2
    go_ret
    exact ⟨by rw [Q.out]; rfl, 0, rfl⟩

theorem ref2_rd {w : World} {S : Foot} {b : Nat} {t : TypeId} (l : List Ref) (hb : Blk w b t (cellsR l)) (hS : S b) (hl : l.length ≤ 1000) : RRefs w S [.slice (some ⟨b, 0, none⟩) l.length l.length] l := hb.refs hS (by omega)

end Go.Proofs.YtcbpiidbkjaneaaGreat
