/- What the maker of paths makes is valid. No program in sight. -/
import Derived.Test.YtcbpiidbkjaneaaGreatPaths
import Derived.Test.YtcbpiidbkjaneaaGreatAtK
namespace Go.Proofs.YtcbpiidbkjaneaaGreat
open Go.RowKit

theorem apart_at : ∀ (p : List Stage), apart p → ∀ (j : Nat) (a b : Stage), p[j]? = some a → p[j + 1]? = some b → a.sec ≠ b.sec
  | [], _, j, a, b, h, _ => by simp at h
  | [x], _, j, a, b, _, h => by simp at h
  | x :: y :: r, h, 0, a, b, ha, hb => by simp at ha hb; subst ha hb; exact h.1
  | x :: y :: r, h, j + 1, a, b, ha, hb => apart_at (y :: r) h.2 j a b (by simpa using ha) (by simpa using hb)
theorem stMade.ok {s : Stage} (h : stMade s) : stageOk s = true := by
  obtain ⟨h1, h2, h3, h4, h5, h6, h7⟩ := h
  rcases h3 with h3 | h3 | h3 <;> simp [stageOk, isRes, isClk, h3, ptsFrom, ptOk] <;> omega
theorem steps_made {p : List Stage} (h1 : ∀ s ∈ p, stMade s) (h2 : apart p) : ∀ (l : List Stage) (j : Nat), p.drop j = l → stepsFrom p j l = true
  | [], j, _ => rfl
  | s :: l, j, h => by
    have hs : p[j]? = some s := by have := congrArg (·[0]?) h; simpa using this
    have hd := drop_cons' hs
    rw [h] at hd; injection hd with _ hd
    simp only [stepsFrom, Bool.and_eq_true, stepOk]
    refine ⟨⟨(h1 s (List.mem_of_getElem? hs)).ok, ?_⟩, steps_made h1 h2 l (j + 1) hd.symm⟩
    by_cases hj : 0 < j
    · have hj1 : p[j - 1]? = some (p[j - 1]'(by have := getElem?_lt hs; omega)) := List.getElem?_eq_getElem _
      have := apart_at p h2 (j - 1) _ s hj1 (by rw [show j - 1 + 1 = j from by omega]; exact hs)
      rw [hj1]; simp; exact .inr this
    · simp [hj]
theorem psMade.valid {ps : List (List Stage)} (h : psMade ps) : valid ps = true := by
  simp only [Go.Proofs.YtcbpiidbkjaneaaGreat.valid, Bool.and_eq_true, decide_eq_true_eq, List.all_eq_true]
  refine ⟨⟨by have := h.2.1; omega, fun p hp => ?_⟩, ?_⟩
  · have hp := h.2.2 p hp
    simp only [pathOk, Bool.and_eq_true, decide_eq_true_eq]
    exact ⟨⟨hp.1, by have := hp.2.1; omega⟩, steps_made hp.2.2.1 hp.2.2.2 p 0 rfl⟩
  · simp only [noClash, List.all_eq_true]
    intro r _
    simp only [Bool.not_eq_true', Bool.and_eq_false_iff, decide_eq_false_iff_not]
    by_cases hr : (r : Int) < 5
    · right
      intro hm
      simp only [List.mem_flatMap, List.mem_flatten] at hm
      obtain ⟨s, ⟨p, hp, hs⟩, hm⟩ := hm
      rcases ((h.2.2 p hp).2.2.1 s hs).2.2.1 with e | e | e <;> rw [e] at hm <;> simp at hm <;> omega
    · left
      intro hm
      simp only [List.mem_map, List.mem_flatten] at hm
      obtain ⟨s, ⟨p, hp, hs⟩, hm⟩ := hm
      have := ((h.2.2 p hp).2.2.1 s hs).2.1
      omega

theorem psMade.s8 {ps : List (List Stage)} (h : psMade ps) : secs8 ps := fun p hp s hs => by have := (h.2.2 p hp).2.2.1 s hs; have h1 := this.1; have h2 := this.2.1; omega
theorem psMade.l {ps : List (List Stage)} (h : psMade ps) : ps.length ≤ 1000 := by have := h.2.1; omega
theorem psMade.pl {ps : List (List Stage)} (h : psMade ps) : ∀ p ∈ ps, p.length ≤ 1000 := fun p hp => by have := (h.2.2 p hp).2.1; omega
theorem good_len {ps : List (List Stage)} {at_ : List Int} (h : good ps at_ = true) : at_.length = ps.length := by
  simp only [good, Bool.and_eq_true, decide_eq_true_eq] at h; exact h.1
theorem RSlice.form {α : Type} {size : Nat} {E : Rd α} {w : World} {S : Foot} {v : Value} {l : List α} (h : RSlice size E w S [v] l) : ∃ A c, v = .slice A l.length c := by
  obtain ⟨A, c, he, _⟩ := h; injection he with he _; exact ⟨A, c, he⟩


end Go.Proofs.YtcbpiidbkjaneaaGreat
