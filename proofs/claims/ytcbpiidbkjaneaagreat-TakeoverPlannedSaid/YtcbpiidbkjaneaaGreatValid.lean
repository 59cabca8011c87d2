/- Contracts of precedence.isStage and Valid and of the reference's validStage and Valid, and that the two agree. Conditions: as each theorem says. -/
import Derived.Test.YtcbpiidbkjaneaaGreatSmall
namespace Go.Proofs.YtcbpiidbkjaneaaGreat
open Go.RowKit

def ptOk (sec : Int) (pts : List Int) (i : Nat) (p : Int) : Bool := isRes p && !(p == sec) && !(decide (0 < i) && p == pts.headD 0)
def ptsFrom (sec : Int) (pts : List Int) : Nat → List Int → Bool
  | _, [] => true
  | i, p :: r => ptOk sec pts i p && ptsFrom sec pts (i + 1) r
def stageOk (s : Stage) : Bool := isRes s.sec && decide (s.pts.length ≤ 2) && ptsFrom s.sec s.pts 0 s.pts && (isClk s.mn && isClk s.nt)

theorem drop_cons {α : Type} {l : List α} {k : Nat} {x : α} (h : l[k]? = some x) : l.drop k = x :: l.drop (k + 1) := by
  obtain ⟨hk, e⟩ := List.getElem?_eq_some_iff.1 h
  rw [← e, List.getElem_cons_drop hk]

def PtsInv (s : Stage) (k : Nat) : Prop := ptsFrom s.sec s.pts 0 s.pts = ptsFrom s.sec s.pts k (s.pts.drop k)
theorem PtsInv.step {s : Stage} {k : Nat} {x : Int} (h : PtsInv s k) (hx : s.pts[k]? = some x) (ho : ptOk s.sec s.pts k x = true) : PtsInv s (k + 1) := by
  unfold PtsInv at *; rw [h, drop_cons hx, ptsFrom, ho]; rfl
theorem PtsInv.stop {s : Stage} {k : Nat} {x : Int} (h : PtsInv s k) (hx : s.pts[k]? = some x) (ho : ptOk s.sec s.pts k x = false) : stageOk s = false := by
  unfold PtsInv at h; simp [stageOk, h, drop_cons hx, ptsFrom, ho]
theorem PtsInv.done {s : Stage} (h : PtsInv s s.pts.length) : ptsFrom s.sec s.pts 0 s.pts = true := by
  unfold PtsInv at h; rw [h, List.drop_length]; rfl
theorem pts_cases (s : Stage) (k : Nat) (x : Int) : (isRes x = false ∧ ptOk s.sec s.pts k x = false) ∨ (isRes x = true ∧ (x == s.sec) = true ∧ ptOk s.sec s.pts k x = false) ∨
    (isRes x = true ∧ (x == s.sec) = false ∧ k = 0 ∧ ptOk s.sec s.pts k x = true) ∨
    (isRes x = true ∧ (x == s.sec) = false ∧ 0 < k ∧ (x == s.pts.headD 0) = true ∧ ptOk s.sec s.pts k x = false) ∨
    (isRes x = true ∧ (x == s.sec) = false ∧ 0 < k ∧ (x == s.pts.headD 0) = false ∧ ptOk s.sec s.pts k x = true) := by
  unfold ptOk
  cases isRes x <;> cases (x == s.sec) <;> cases (x == s.pts.headD 0) <;> rcases Nat.eq_zero_or_pos k with hk | hk <;> simp [hk] <;> omega

set_option maxHeartbeats 1000000 in
theorem isStage_any (s : Stage) (Ap : Option Addr) (cp : Nat) (w : World) (S : Foot) (h : RInts w S [.slice Ap s.pts.length cp] s.pts) (hS : ∀ b, S b → b < w.heap.size) :
    Calls Tryz.prog 47 #[.agg #[.int .i64 s.sec, .slice Ap s.pts.length cp, .int .i64 s.mn, .int .i64 s.nt]] w fun e w' => e = .returned (.bool (stageOk s)) ∧ w' = w.alloc (.cells #[.int .i64 s.sec, .slice Ap s.pts.length cp, .int .i64 s.mn, .int .i64 s.nt] 51) := by
  have hc := h.caps
  have HS := Lib.hid hS; clear hS
  have H := Lib.hid h; clear h
  by_cases g1 : isRes s.sec = true
  · by_cases g2 : s.pts.length ≤ 2
    · have g2' : decide ((2 : Int) < (s.pts.length : Int)) = false := by simp; omega
      go_enter Tryz.func47, Tryz.ntmps47
      go_wp2_with (go_at_call 70; refine (isResource_any _ _).mono ?_; rintro e w' ⟨rfl, rfl⟩)
      go_loop [18] (fun i => ∃ k : Nat, k ≤ s.pts.length ∧ i = .int .i64 k ∧ PtsInv s k) (fun i => s.pts.length - (intOf i).toNat)
      case atStart => exact ⟨0, Nat.zero_le _, rfl, rfl⟩
      case round =>
        obtain ⟨k, hk, rfl, hinv⟩ := hrel
        by_cases hlt : k < s.pts.length
        · obtain ⟨b, o, x, rfl, hb, hx, hcell⟩ := H.out.at_ hlt
          have hb' := HS.out b hb
          have hcell0 : (w.alloc (.cells #[.int .i64 s.sec, .slice (some ⟨b, o, none⟩) s.pts.length cp, .int .i64 s.mn, .int .i64 s.nt] 51)).cell? ⟨b, o + k, none⟩ = some (.int .i64 x) := (World.cell?_alloc_lt w _ ⟨b, o + k, none⟩ hb').trans hcell
          have HX := Lib.hid hx; clear hx hcell
          have hp0 : 0 < s.pts.length := by omega
          obtain ⟨b', o', y, he, _, hy, hcelly⟩ := H.out.at_ hp0
          injection he with he; injection he with he1 he2; subst he1 he2
          have hcell1 : (w.alloc (.cells #[.int .i64 s.sec, .slice (some ⟨b, o, none⟩) s.pts.length cp, .int .i64 s.mn, .int .i64 s.nt] 51)).cell? ⟨b, o, none⟩ = some (.int .i64 y) := (World.cell?_alloc_lt w _ ⟨b, o, none⟩ hb').trans hcelly
          have hyh : s.pts.headD 0 = y := by rw [List.headD_eq_head?_getD, List.head?_eq_getElem?, hy]; rfl
          have R := Lib.hid (pts_cases s k x); rw [hyh] at R; clear hyh hy hcelly
          rcases R.out with ⟨q1, q⟩ | ⟨q1, q2, q⟩ | ⟨q1, q2, q3, q⟩ | ⟨q1, q2, q3, q4, q⟩ | ⟨q1, q2, q3, q4, q⟩
          · have Q := Lib.hid (hinv.stop HX.out q); clear q R
            go_wp2_with (go_at_call 70; refine (isResource_any _ _).mono ?_; rintro e w' ⟨rfl, rfl⟩)
            go_ret
            exact ⟨by rw [Q.out]; rfl, rfl⟩
          · have Q := Lib.hid (hinv.stop HX.out q); clear q R
            go_wp2_with (go_at_call 70; refine (isResource_any _ _).mono ?_; rintro e w' ⟨rfl, rfl⟩)
            go_ret
            exact ⟨by rw [Q.out]; rfl, rfl⟩
          · have Q := Lib.hid (hinv.step HX.out q); clear q R
            have q3' : k < 1 := by omega
            clear q3 hcell1
            go_wp2_with (go_at_call 70; refine (isResource_any _ _).mono ?_; rintro e w' ⟨rfl, rfl⟩)
            go_round
            case rel => exact ⟨k + 1, hlt, by go_num, Q.out⟩
            case measure => simp [intOf]; omega
          · have Q := Lib.hid (hinv.stop HX.out q); clear q R
            go_wp2_with (go_at_call 70; refine (isResource_any _ _).mono ?_; rintro e w' ⟨rfl, rfl⟩)
            go_ret
            exact ⟨by rw [Q.out]; rfl, rfl⟩
          · have Q := Lib.hid (hinv.step HX.out q); clear q R
            go_wp2_with (go_at_call 70; refine (isResource_any _ _).mono ?_; rintro e w' ⟨rfl, rfl⟩)
            go_round
            case rel => exact ⟨k + 1, hlt, by go_num, Q.out⟩
            case measure => simp [intOf]; omega
        · obtain rfl : k = s.pts.length := by omega
          have Q : Hid (stageOk s = (isClk s.mn && isClk s.nt)) := by show stageOk s = (isClk s.mn && isClk s.nt); simp [stageOk, hinv.done, g1, g2]
          by_cases g3 : isClk s.mn = true
          · go_wp2_with (go_at_call 71; refine (isClock_any _ _).mono ?_; rintro e w' ⟨rfl, rfl⟩)
            go_ret
            exact ⟨by rw [Q.out, g3]; rfl, rfl⟩
          · have g3' : isClk s.mn = false := by simpa using g3
            go_wp2_with (go_at_call 71; refine (isClock_any _ _).mono ?_; rintro e w' ⟨rfl, rfl⟩)
            go_ret
            exact ⟨by rw [Q.out, g3']; rfl, rfl⟩
    · have g2' : decide ((2 : Int) < (s.pts.length : Int)) = true := by simp; omega
      have Q : Hid (stageOk s = false) := by show stageOk s = false; simp [stageOk, g2]
      go_enter Tryz.func47, Tryz.ntmps47
      go_wp2_with (go_at_call 70; refine (isResource_any _ _).mono ?_; rintro e w' ⟨rfl, rfl⟩)
      go_ret
      exact ⟨by rw [Q.out]; rfl, rfl⟩
  · have g1' : isRes s.sec = false := by simpa using g1
    have Q : Hid (stageOk s = false) := by show stageOk s = false; simp [stageOk, g1']
    go_enter Tryz.func47, Tryz.ntmps47
    go_wp2_with (go_at_call 70; refine (isResource_any _ _).mono ?_; rintro e w' ⟨rfl, rfl⟩)
    go_ret
    exact ⟨by rw [Q.out]; rfl, rfl⟩

set_option maxHeartbeats 1000000 in
theorem validStage_any (s : Stage) (Ap : Option Addr) (cp : Nat) (w : World) (S : Foot) (h : RInts w S [.slice Ap s.pts.length cp] s.pts) (hS : ∀ b, S b → b < w.heap.size) :
    Calls Tryz.prog 49 #[.agg #[.int .i64 s.sec, .slice Ap s.pts.length cp, .int .i64 s.mn, .int .i64 s.nt]] w fun e w' => e = .returned (.bool (stageOk s)) ∧ w' = w.alloc (.cells #[.int .i64 s.sec, .slice Ap s.pts.length cp, .int .i64 s.mn, .int .i64 s.nt] 51) := by
  have hc := h.caps
  have HS := Lib.hid hS; clear hS
  have H := Lib.hid h; clear h
  by_cases g1 : isRes s.sec = true
  · by_cases g2 : s.pts.length ≤ 2
    · have g2' : decide ((2 : Int) < (s.pts.length : Int)) = false := by simp; omega
      by_cases g3 : isClk s.mn = true
      rotate_left
      · have g3' : isClk s.mn = false := by simpa using g3
        have Q : Hid (stageOk s = false) := by show stageOk s = false; simp [stageOk, g3']
        go_enter Tryz.func49, Tryz.ntmps49
        go_wp2_with (first | (go_at_call 73; refine (resource_any _ _).mono ?_; rintro e w' ⟨rfl, rfl⟩) | (go_at_call 74; refine (seconds_any _ _).mono ?_; rintro e w' ⟨rfl, rfl⟩))
        go_ret
        exact ⟨by rw [Q.out]; rfl, rfl⟩
      by_cases g4 : isClk s.nt = true
      rotate_left
      · have g4' : isClk s.nt = false := by simpa using g4
        have Q : Hid (stageOk s = false) := by show stageOk s = false; simp [stageOk, g4']
        go_enter Tryz.func49, Tryz.ntmps49
        go_wp2_with (first | (go_at_call 73; refine (resource_any _ _).mono ?_; rintro e w' ⟨rfl, rfl⟩) | (go_at_call 74; refine (seconds_any _ _).mono ?_; rintro e w' ⟨rfl, rfl⟩))
        go_ret
        exact ⟨by rw [Q.out]; rfl, rfl⟩
      go_enter Tryz.func49, Tryz.ntmps49
      go_wp2_with (first | (go_at_call 73; refine (resource_any _ _).mono ?_; rintro e w' ⟨rfl, rfl⟩) | (go_at_call 74; refine (seconds_any _ _).mono ?_; rintro e w' ⟨rfl, rfl⟩))
      go_loop [30] (fun i => ∃ k : Nat, k ≤ s.pts.length ∧ i = .int .i64 k ∧ PtsInv s k) (fun i => s.pts.length - (intOf i).toNat)
      case atStart => exact ⟨0, Nat.zero_le _, rfl, rfl⟩
      case round =>
        obtain ⟨k, hk, rfl, hinv⟩ := hrel
        by_cases hlt : k < s.pts.length
        · obtain ⟨b, o, x, rfl, hb, hx, hcell⟩ := H.out.at_ hlt
          have hb' := HS.out b hb
          have hcell0 : (w.alloc (.cells #[.int .i64 s.sec, .slice (some ⟨b, o, none⟩) s.pts.length cp, .int .i64 s.mn, .int .i64 s.nt] 51)).cell? ⟨b, o + k, none⟩ = some (.int .i64 x) := (World.cell?_alloc_lt w _ ⟨b, o + k, none⟩ hb').trans hcell
          have HX := Lib.hid hx; clear hx hcell
          have hp0 : 0 < s.pts.length := by omega
          obtain ⟨b', o', y, he, _, hy, hcelly⟩ := H.out.at_ hp0
          injection he with he; injection he with he1 he2; subst he1 he2
          have hcell1 : (w.alloc (.cells #[.int .i64 s.sec, .slice (some ⟨b, o, none⟩) s.pts.length cp, .int .i64 s.mn, .int .i64 s.nt] 51)).cell? ⟨b, o, none⟩ = some (.int .i64 y) := (World.cell?_alloc_lt w _ ⟨b, o, none⟩ hb').trans hcelly
          have hyh : s.pts.headD 0 = y := by rw [List.headD_eq_head?_getD, List.head?_eq_getElem?, hy]; rfl
          have R := Lib.hid (pts_cases s k x); rw [hyh] at R; clear hyh hy hcelly
          rcases R.out with ⟨q1, q⟩ | ⟨q1, q2, q⟩ | ⟨q1, q2, q3, q⟩ | ⟨q1, q2, q3, q4, q⟩ | ⟨q1, q2, q3, q4, q⟩
          · have Q := Lib.hid (hinv.stop HX.out q); clear q R
            go_wp2_with (go_at_call 73; refine (resource_any _ _).mono ?_; rintro e w' ⟨rfl, rfl⟩)
            go_ret
            exact ⟨by rw [Q.out]; rfl, rfl⟩
          · have Q := Lib.hid (hinv.stop HX.out q); clear q R
            go_wp2_with (go_at_call 73; refine (resource_any _ _).mono ?_; rintro e w' ⟨rfl, rfl⟩)
            go_ret
            exact ⟨by rw [Q.out]; rfl, rfl⟩
          · have Q := Lib.hid (hinv.step HX.out q); clear q R
            have q3' : k < 1 := by omega
            clear q3 hcell1
            go_wp2_with (go_at_call 73; refine (resource_any _ _).mono ?_; rintro e w' ⟨rfl, rfl⟩)
            go_round
            case rel => exact ⟨k + 1, hlt, by go_num, Q.out⟩
            case measure => simp [intOf]; omega
          · have Q := Lib.hid (hinv.stop HX.out q); clear q R
            go_wp2_with (go_at_call 73; refine (resource_any _ _).mono ?_; rintro e w' ⟨rfl, rfl⟩)
            go_ret
            exact ⟨by rw [Q.out]; rfl, rfl⟩
          · have Q := Lib.hid (hinv.step HX.out q); clear q R
            go_wp2_with (go_at_call 73; refine (resource_any _ _).mono ?_; rintro e w' ⟨rfl, rfl⟩)
            go_round
            case rel => exact ⟨k + 1, hlt, by go_num, Q.out⟩
            case measure => simp [intOf]; omega
        · obtain rfl : k = s.pts.length := by omega
          have Q : Hid (stageOk s = true) := by show stageOk s = true; simp [stageOk, hinv.done, g1, g2, g3, g4]
          go_wp2
          go_ret
          exact ⟨by rw [Q.out]; rfl, rfl⟩
    · have g2' : decide ((2 : Int) < (s.pts.length : Int)) = true := by simp; omega
      have Q : Hid (stageOk s = false) := by show stageOk s = false; simp [stageOk, g2]
      go_enter Tryz.func49, Tryz.ntmps49
      go_wp2_with (go_at_call 73; refine (resource_any _ _).mono ?_; rintro e w' ⟨rfl, rfl⟩)
      go_ret
      exact ⟨by rw [Q.out]; rfl, rfl⟩
  · have g1' : isRes s.sec = false := by simpa using g1
    have Q : Hid (stageOk s = false) := by show stageOk s = false; simp [stageOk, g1']
    go_enter Tryz.func49, Tryz.ntmps49
    go_wp2_with (go_at_call 73; refine (resource_any _ _).mono ?_; rintro e w' ⟨rfl, rfl⟩)
    go_ret
    exact ⟨by rw [Q.out]; rfl, rfl⟩

end Go.Proofs.YtcbpiidbkjaneaaGreat
