/- The search of chapter 38 over all assignments, as plain lists. No program in sight. -/
import Derived.Test.YtigmldildefdgaaState
import Derived.Test.YtigmldildefdgaaPaths
namespace Go.Proofs.Ytigmldildefdgaa
open Go.RowKit

theorem apart_at : ∀ (p : List Stage), apart p → ∀ (j : Nat) (a b : Stage), p[j]? = some a → p[j + 1]? = some b → a.sec ≠ b.sec
  | [], _, j, a, b, h, _ => by simp at h
  | [x], _, j, a, b, _, h => by simp at h
  | x :: y :: r, h, 0, a, b, ha, hb => by simp at ha hb; subst ha hb; exact h.1
  | x :: y :: r, h, j + 1, a, b, ha, hb => apart_at (y :: r) h.2 j a b (by simpa using ha) (by simpa using hb)
theorem stMade.ok {s : Stage} (h : stMade s) : stageOk s = true := by
  obtain ⟨h1, h2, h3, h4, h5, h6, h7⟩ := h
  rcases h3 with h3 | h3 | h3 <;> simp [stageOk, isRes, isClk, h3, ptsFrom, ptOk] <;> omega
theorem steps_made {p : List Stage} (h1 : ∀ s ∈ p, stMade s) (h2 : apart p) : ∀ (l : List Stage) (j : Nat), p.drop j = l → stepsFrom p j l = true
  | [], j, _ => rfl
  | s :: l, j, h => by
    have hs : p[j]? = some s := by have := congrArg (·[0]?) h; simpa using this
    have hd := drop_cons' hs
    rw [h] at hd; injection hd with _ hd
    simp only [stepsFrom, Bool.and_eq_true, stepOk]
    refine ⟨⟨(h1 s (List.mem_of_getElem? hs)).ok, ?_⟩, steps_made h1 h2 l (j + 1) hd.symm⟩
    by_cases hj : 0 < j
    · have hj1 : p[j - 1]? = some (p[j - 1]'(by have := getElem?_lt hs; omega)) := List.getElem?_eq_getElem _
      have := apart_at p h2 (j - 1) _ s hj1 (by rw [show j - 1 + 1 = j from by omega]; exact hs)
      rw [hj1]; simp; exact .inr this
    · simp [hj]
theorem psMade.valid {ps : List (List Stage)} (h : psMade ps) : valid ps = true := by
  simp only [Go.Proofs.Ytigmldildefdgaa.valid, Bool.and_eq_true, decide_eq_true_eq, List.all_eq_true]
  refine ⟨⟨by have := h.2.1; omega, fun p hp => ?_⟩, ?_⟩
  · have hp := h.2.2 p hp
    simp only [pathOk, Bool.and_eq_true, decide_eq_true_eq]
    exact ⟨⟨hp.1, by have := hp.2.1; omega⟩, steps_made hp.2.2.1 hp.2.2.2 p 0 rfl⟩
  · simp only [noClash, List.all_eq_true]
    intro r _
    simp only [Bool.not_eq_true', Bool.and_eq_false_iff, decide_eq_false_iff_not]
    by_cases hr : (r : Int) < 5
    · right
      intro hm
      simp only [List.mem_flatMap, List.mem_flatten] at hm
      obtain ⟨s, ⟨p, hp, hs⟩, hm⟩ := hm
      rcases ((h.2.2 p hp).2.2.1 s hs).2.2.1 with e | e | e <;> rw [e] at hm <;> simp at hm <;> omega
    · left
      intro hm
      simp only [List.mem_map, List.mem_flatten] at hm
      obtain ⟨s, ⟨p, hp, hs⟩, hm⟩ := hm
      have := ((h.2.2 p hp).2.2.1 s hs).2.1
      omega

/-- all complete assignments with the sections that they hold -/
def leaves (occ : List Int) : List (List Stage) → List Int → List Int → List (List Int × List Int)
  | [], a, h => [(a, h)]
  | p :: rest, a, h => (posns p).flatMap fun x => if x < 0 ∨ (p.length : Int) ≤ x then leaves occ rest (a ++ [x]) h else if secAt p x ∈ occ ∧ secAt p x ∉ h then leaves occ rest (a ++ [x]) (h ++ [secAt p x]) else []
def comp (exp occ : List Int) (s : ISt) (q : List Int × List Int) : ISt := complete exp occ q.1 q.2 s
def core (s : ISt) : Nat × Int × List Int := (s.found, s.sum, s.best)
def maxcnt : List (List Stage) → Nat
  | [] => 0
  | p :: rest => (p.length + 2) * (1 + maxcnt rest)

theorem core_eq {s t : ISt} : core s = core t ↔ s.found = t.found ∧ s.sum = t.sum ∧ s.best = t.best := by simp [core]
theorem core_comp {exp occ : List Int} {s t : ISt} (h : core s = core t) (q : List Int × List Int) : core (comp exp occ s q) = core (comp exp occ t q) := by
  obtain ⟨h1, h2, h3⟩ := core_eq.1 h
  unfold comp complete
  rw [h1, h2]
  split
  · split
    · rfl
    · split
      · rw [core_eq]; exact ⟨rfl, rfl, h3⟩
      · exact h
  · exact h
theorem core_fold {exp occ : List Int} : ∀ (L : List (List Int × List Int)) {s t : ISt}, core s = core t → core (L.foldl (comp exp occ) s) = core (L.foldl (comp exp occ) t)
  | [], _, _, h => h
  | q :: L, _, _, h => core_fold L (core_comp h q)

theorem tries_leaves {exp occ : List Int} {budget M : Nat} {F : List Int → List Int → ISt → Bool × ISt} {G : List Int → List Int → List (List Int × List Int)}
    (hF : ∀ a h s, s.steps + M ≤ budget → ∃ s', F a h s = (true, s') ∧ s'.steps ≤ s.steps + M ∧ core s' = core ((G a h).foldl (comp exp occ) s)) {p : List Stage} {a h : List Int} :
    ∀ (xs : List Int) (s : ISt), s.steps + xs.length * (1 + M) ≤ budget → ∃ s', tries occ budget F p a h xs s = (true, s') ∧ s'.steps ≤ s.steps + xs.length * (1 + M) ∧
      core s' = core ((xs.flatMap fun x => if x < 0 ∨ (p.length : Int) ≤ x then G (a ++ [x]) h else if secAt p x ∈ occ ∧ secAt p x ∉ h then G (a ++ [x]) (h ++ [secAt p x]) else []).foldl (comp exp occ) s)
  | [], s, _ => ⟨s, rfl, by simp, rfl⟩
  | x :: xs, s, hb => by
    have hm : (x :: xs).length * (1 + M) = xs.length * (1 + M) + (1 + M) := by rw [List.length_cons, Nat.add_mul, Nat.one_mul]
    rw [hm] at hb ⊢
    rw [tries_cons, if_neg (by omega)]
    simp only [List.flatMap_cons, List.foldl_append]
    by_cases h1 : x < 0 ∨ (p.length : Int) ≤ x
    · rw [if_pos h1, if_pos h1]
      obtain ⟨s1, e1, l1, c1⟩ := hF (a ++ [x]) h { s with steps := s.steps + 1 } (by show s.steps + 1 + M ≤ budget; omega)
      rw [e1, if_pos rfl]
      have l1' : s1.steps ≤ s.steps + 1 + M := l1
      obtain ⟨s2, e2, l2, c2⟩ := tries_leaves hF (p := p) (a := a) (h := h) xs s1 (by omega)
      refine ⟨s2, e2, by omega, c2.trans (core_fold _ (c1.trans (core_fold _ rfl)))⟩
    · rw [if_neg h1, if_neg h1]
      by_cases h2 : secAt p x ∈ occ ∧ secAt p x ∉ h
      · rw [if_pos h2, if_pos h2]
        obtain ⟨s1, e1, l1, c1⟩ := hF (a ++ [x]) (h ++ [secAt p x]) { s with steps := s.steps + 1 } (by show s.steps + 1 + M ≤ budget; omega)
        rw [e1, if_pos rfl]
        have l1' : s1.steps ≤ s.steps + 1 + M := l1
        obtain ⟨s2, e2, l2, c2⟩ := tries_leaves hF (p := p) (a := a) (h := h) xs s1 (by omega)
        refine ⟨s2, e2, by omega, c2.trans (core_fold _ (c1.trans (core_fold _ rfl)))⟩
      · rw [if_neg h2, if_neg h2]
        obtain ⟨s2, e2, l2, c2⟩ := tries_leaves hF (p := p) (a := a) (h := h) xs { s with steps := s.steps + 1 } (by show s.steps + 1 + _ ≤ budget; omega)
        have l2' : s2.steps ≤ s.steps + 1 + xs.length * (1 + M) := l2
        exact ⟨s2, e2, by omega, c2.trans (core_fold _ rfl)⟩
theorem search_leaves {exp occ : List Int} {budget : Nat} : ∀ (ps : List (List Stage)) (a h : List Int) (s : ISt), s.steps + maxcnt ps ≤ budget →
    ∃ s', search exp occ budget ps a h s = (true, s') ∧ s'.steps ≤ s.steps + maxcnt ps ∧ core s' = core ((leaves occ ps a h).foldl (comp exp occ) s)
  | [], a, h, s, _ => ⟨_, rfl, by rw [complete_steps]; simp, rfl⟩
  | p :: rest, a, h, s, hb => by
    rw [search]
    have hl : (posns p).length = p.length + 2 := posns_len p
    have := tries_leaves (exp := exp) (occ := occ) (budget := budget) (G := leaves occ rest) (search_leaves rest) (p := p) (a := a) (h := h) (posns p) s (by rw [hl]; exact hb)
    rw [hl] at this
    exact this

theorem leaves_mem {occ : List Int} : ∀ (ps : List (List Stage)), (∀ p ∈ ps, ∀ s ∈ p, 0 ≤ s.sec) → ∀ (a h : List Int) (q : List Int × List Int), q ∈ leaves occ ps a h →
    ∃ suf, q = (a ++ suf, h ++ heldOf ps suf) ∧ suf.length = ps.length ∧ goodFrom ps suf = true ∧ (h.Nodup → (h ++ heldOf ps suf).Nodup) ∧ ∀ x ∈ heldOf ps suf, x ∈ occ
  | [], _, a, h, q, hq => by simp [leaves] at hq; subst hq; exact ⟨[], by simp [heldOf], rfl, rfl, by simp [heldOf], by simp [heldOf]⟩
  | p :: ps, hs, a, h, q, hq => by
    simp only [leaves, List.mem_flatMap] at hq
    obtain ⟨x, hx, hq⟩ := hq
    have hok : okPos p x = true := by
      simp [posns] at hx
      obtain ⟨i, hi, rfl⟩ := hx
      simp [okPos]; omega
    by_cases h1 : x < 0 ∨ (p.length : Int) ≤ x
    · rw [if_pos h1] at hq
      obtain ⟨suf, rfl, hl, hg, hn, ho⟩ := leaves_mem ps (fun p hp => hs p (by simp [hp])) _ _ q hq
      refine ⟨x :: suf, by simp [heldOf, h1], by simp [hl], by simp [goodFrom, hok, hg], ?_, ?_⟩
      · simpa [heldOf, h1] using hn
      · simpa [heldOf, h1] using ho
    · rw [if_neg h1] at hq
      by_cases h2 : secAt p x ∈ occ ∧ secAt p x ∉ h
      · rw [if_pos h2] at hq
        obtain ⟨suf, rfl, hl, hg, hn, ho⟩ := leaves_mem ps (fun p hp => hs p (by simp [hp])) _ _ q hq
        refine ⟨x :: suf, by simp [heldOf, h1], by simp [hl], by simp [goodFrom, hok, hg], fun hnd => ?_, fun y hy => ?_⟩
        · have := hn (nodup_snoc hnd h2.2)
          simpa [heldOf, h1] using this
        · simp only [heldOf, if_neg h1, List.mem_append, List.mem_singleton] at hy
          rcases hy with rfl | hy
          · exact h2.1
          · exact ho y hy
      · rw [if_neg h2] at hq; cases hq
theorem leaves_has {occ : List Int} : ∀ (ps : List (List Stage)) (a h suf : List Int), suf.length = ps.length → goodFrom ps suf = true → (h ++ heldOf ps suf).Nodup → (∀ x ∈ heldOf ps suf, x ∈ occ) → (a ++ suf, h ++ heldOf ps suf) ∈ leaves occ ps a h
  | [], a, h, suf, hl, _, _, _ => by
    have : suf = [] := List.length_eq_zero_iff.1 (by simpa using hl)
    subst this; simp [leaves, heldOf]
  | p :: ps, a, h, [], hl, _, _, _ => by simp at hl
  | p :: ps, a, h, x :: suf, hl, hg, hn, ho => by
    simp only [goodFrom, Bool.and_eq_true] at hg
    have hok := hg.1
    simp only [okPos, Bool.and_eq_true, decide_eq_true_eq] at hok
    simp only [leaves, List.mem_flatMap]
    refine ⟨x, ?_, ?_⟩
    · simp only [posns, List.mem_map, List.mem_range]
      exact ⟨(x + 1).toNat, by omega, by omega⟩
    · by_cases h1 : x < 0 ∨ (p.length : Int) ≤ x
      · rw [if_pos h1]
        have e : heldOf (p :: ps) (x :: suf) = heldOf ps suf := by simp [heldOf, h1]
        rw [e] at hn ho ⊢
        have := leaves_has (occ := occ) ps (a ++ [x]) h suf (by simpa using hl) hg.2 hn ho
        simpa using this
      · have e : heldOf (p :: ps) (x :: suf) = secAt p x :: heldOf ps suf := by simp [heldOf, h1]
        rw [e] at hn ho ⊢
        rw [if_neg h1, if_pos ⟨ho _ (by simp), fun hm => by
          have := (List.nodup_append.1 hn).2.2 _ hm (secAt p x) (by simp)
          exact this rfl⟩]
        have := leaves_has (occ := occ) ps (a ++ [x]) (h ++ [secAt p x]) suf (by simpa using hl) hg.2 (by simpa using hn) (fun y hy => ho y (by simp [hy]))
        simpa using this

end Go.Proofs.Ytigmldildefdgaa
