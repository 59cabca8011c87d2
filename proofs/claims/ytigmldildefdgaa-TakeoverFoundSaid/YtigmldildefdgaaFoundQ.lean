/- What the search of chapter 38 finds: plain lists. No program in sight. -/
import Derived.Test.YtigmldildefdgaaFoundP
namespace Go.Proofs.Ytigmldildefdgaa
open Go.RowKit

/-- what the fold has found among the assignments L -/
def FoldIs (exp occ : List Int) (L : List (List Int × List Int)) (s : ISt) : Prop :=
  ((∀ q ∈ L, q.2.length ≠ occ.length) ∧ s.found = 0) ∨
  (∃ q ∈ L, q.2.length = occ.length ∧ s.best = q.1 ∧ s.sum = diffSum q.1 exp ∧ (∀ q' ∈ L, q'.2.length = occ.length → s.sum ≤ diffSum q'.1 exp) ∧
    s.found = (L.filter fun q' => decide (q'.2.length = occ.length) && decide (diffSum q'.1 exp = s.sum)).length)
theorem FoldIs.step {exp occ : List Int} {L : List (List Int × List Int)} {s : ISt} (h : FoldIs exp occ L s) (q : List Int × List Int) : FoldIs exp occ (L ++ [q]) (comp exp occ s q) := by
  unfold comp complete
  by_cases hq : q.2.length = occ.length
  · rw [if_pos hq]
    rcases h with ⟨h1, h2⟩ | ⟨p, hp, hpl, hb, hs, hm, hf⟩
    · rw [if_pos (.inl h2)]
      refine .inr ⟨q, by simp, hq, rfl, rfl, fun q' hq' hl => ?_, ?_⟩
      · rcases List.mem_append.1 hq' with h | h
        · exact absurd hl (h1 q' h)
        · simp at h; subst h; exact Int.le_refl _
      · rw [List.filter_append, List.length_append]
        have : L.filter (fun q' => decide (q'.2.length = occ.length) && decide (diffSum q'.1 exp = diffSum q.1 exp)) = [] := by
          rw [List.filter_eq_nil_iff]; intro x hx; simp [h1 x hx]
        rw [this]; simp [hq]
    · have hpos : s.found ≠ 0 := by
        rw [hf]
        have : p ∈ L.filter (fun q' => decide (q'.2.length = occ.length) && decide (diffSum q'.1 exp = s.sum)) := by simp [hp, hpl, hs]
        have := List.length_pos_of_mem this; omega
      by_cases h3 : diffSum q.1 exp < s.sum
      · rw [if_pos (.inr h3)]
        refine .inr ⟨q, by simp, hq, rfl, rfl, fun q' hq' hl => ?_, ?_⟩
        · rcases List.mem_append.1 hq' with h | h
          · have := hm q' h hl; show diffSum q.1 exp ≤ _; omega
          · simp at h; subst h; exact Int.le_refl _
        · rw [List.filter_append, List.length_append]
          have : L.filter (fun q' => decide (q'.2.length = occ.length) && decide (diffSum q'.1 exp = diffSum q.1 exp)) = [] := by
            rw [List.filter_eq_nil_iff]; intro x hx
            simp only [Bool.and_eq_true, decide_eq_true_eq]
            rintro ⟨hl, he⟩
            have := hm x hx hl; omega
          rw [this]; simp [hq]
      · rw [if_neg (by omega)]
        have hmm : ∀ q' ∈ L ++ [q], q'.2.length = occ.length → s.sum ≤ diffSum q'.1 exp := fun q' hq' hl => by
          rcases List.mem_append.1 hq' with h | h
          · exact hm q' h hl
          · simp at h; subst h; omega
        by_cases h4 : diffSum q.1 exp = s.sum
        · rw [if_pos h4]
          refine .inr ⟨p, by simp [hp], hpl, hb, hs, hmm, ?_⟩
          rw [List.filter_append, List.length_append, ← hf]
          simp [hq, h4]
        · rw [if_neg h4]
          refine .inr ⟨p, by simp [hp], hpl, hb, hs, hmm, ?_⟩
          rw [List.filter_append, List.length_append, ← hf]
          simp [h4]
  · rw [if_neg hq]
    rcases h with ⟨h1, h2⟩ | ⟨p, hp, hpl, hb, hs, hm, hf⟩
    · refine .inl ⟨fun q' hq' => ?_, h2⟩
      rcases List.mem_append.1 hq' with h | h
      · exact h1 q' h
      · simp at h; subst h; exact hq
    · refine .inr ⟨p, by simp [hp], hpl, hb, hs, fun q' hq' hl => ?_, ?_⟩
      · rcases List.mem_append.1 hq' with h | h
        · exact hm q' h hl
        · simp at h; subst h; exact absurd hl hq
      · rw [List.filter_append, List.length_append, ← hf]
        simp [hq]
theorem FoldIs.all {exp occ : List Int} : ∀ (L M : List (List Int × List Int)) (s : ISt), FoldIs exp occ M s → FoldIs exp occ (M ++ L) (L.foldl (comp exp occ) s)
  | [], M, s, h => by simpa using h
  | q :: L, M, s, h => by
    have := FoldIs.all L (M ++ [q]) _ (h.step q)
    simpa using this
theorem FoldIs.core {exp occ : List Int} {L : List (List Int × List Int)} {s t : ISt} (h : FoldIs exp occ L s) (e : core s = core t) : FoldIs exp occ L t := by
  obtain ⟨h1, h2, h3⟩ := core_eq.1 e
  unfold FoldIs at *
  rw [h1, h2, h3] at h; exact h

theorem posns_nodup (p : List Stage) : (posns p).Pairwise (· ≠ ·) := by
  unfold posns
  rw [List.pairwise_map]
  exact (List.nodup_range (n := p.length + 2)).imp (fun h e => h (by omega))
theorem leaves_first {occ : List Int} : ∀ (ps : List (List Stage)) (a h : List Int) (q : List Int × List Int), q ∈ leaves occ ps a h → ∃ suf, q.1 = a ++ suf
  | [], a, h, q, hq => by simp [leaves] at hq; subst hq; exact ⟨[], by simp⟩
  | p :: ps, a, h, q, hq => by
    simp only [leaves, List.mem_flatMap] at hq
    obtain ⟨x, hx, hq⟩ := hq
    split at hq
    · obtain ⟨suf, e⟩ := leaves_first ps _ _ q hq; exact ⟨x :: suf, by simpa using e⟩
    · split at hq
      · obtain ⟨suf, e⟩ := leaves_first ps _ _ q hq; exact ⟨x :: suf, by simpa using e⟩
      · cases hq
theorem leaves_apart {occ : List Int} : ∀ (ps : List (List Stage)) (a h : List Int), (leaves occ ps a h).Pairwise fun q q' => q.1 ≠ q'.1
  | [], a, h => by simp [leaves]
  | p :: ps, a, h => by
    have hpre : ∀ x q, q ∈ (if x < 0 ∨ (p.length : Int) ≤ x then leaves occ ps (a ++ [x]) h else if secAt p x ∈ occ ∧ secAt p x ∉ h then leaves occ ps (a ++ [x]) (h ++ [secAt p x]) else []) → ∃ suf, q.1 = a ++ x :: suf := by
      intro x q hq
      split at hq
      · obtain ⟨suf, e⟩ := leaves_first ps _ _ q hq; exact ⟨suf, by simpa using e⟩
      · split at hq
        · obtain ⟨suf, e⟩ := leaves_first ps _ _ q hq; exact ⟨suf, by simpa using e⟩
        · cases hq
    rw [leaves, List.pairwise_flatMap]
    refine ⟨fun x hx => ?_, (posns_nodup p).imp (fun {x y} hne q hq q' hq' e => ?_)⟩
    · split
      · exact leaves_apart ps _ _
      · split
        · exact leaves_apart ps _ _
        · exact List.Pairwise.nil
    · obtain ⟨s1, e1⟩ := hpre x q hq
      obtain ⟨s2, e2⟩ := hpre y q' hq'
      rw [e1, e2] at e
      have := List.append_cancel_left e
      injection this with e _
      exact hne e
theorem diffSum_self : ∀ l : List Int, diffSum l l = 0
  | [] => rfl
  | a :: l => by simp [diffSum, diffSum_self l, absDiff]
theorem absDiff_nonneg (a b : Int) : 0 ≤ absDiff a b := by unfold absDiff; split <;> omega
theorem absDiff_zero {a b : Int} (h : absDiff a b = 0) : a = b := by unfold absDiff at h; split at h <;> omega
theorem diffSum_nonneg : ∀ l m : List Int, 0 ≤ diffSum l m
  | [], _ => by simp [diffSum]
  | _ :: _, [] => by simp [diffSum]
  | a :: l, b :: m => by have := diffSum_nonneg l m; have := absDiff_nonneg a b; simp only [diffSum]; omega
theorem diffSum_zero : ∀ l m : List Int, l.length = m.length → diffSum l m = 0 → l = m
  | [], [], _, _ => rfl
  | [], _ :: _, h, _ => by simp at h
  | _ :: _, [], h, _ => by simp at h
  | a :: l, b :: m, hl, h => by
    have h1 := diffSum_nonneg l m
    have h2 := absDiff_nonneg a b
    simp only [diffSum] at h
    rw [absDiff_zero (by omega : absDiff a b = 0), diffSum_zero l m (by simpa using hl) (by omega)]

/-- the occupied sections -/
theorem secsTo_mem (ps : List (List Stage)) (at_ : List Int) (x : Int) : ∀ k, x ∈ secsTo ps at_ k ↔ x ∈ secList ps at_ ∧ 0 ≤ x ∧ x < k
  | 0 => by simp [secsTo]; try omega
  | k + 1 => by
    have ih := secsTo_mem ps at_ x k
    simp only [secsTo, List.mem_append, ih]
    by_cases h : (k : Int) ∈ secList ps at_
    · rw [if_pos h]; simp only [List.mem_singleton]
      constructor
      · rintro (h1 | rfl)
        · exact ⟨h1.1, h1.2.1, by omega⟩
        · exact ⟨h, by omega, by omega⟩
      · rintro ⟨h1, h2, h3⟩
        by_cases hx : x = k
        · exact .inr hx
        · exact .inl ⟨h1, h2, by omega⟩
    · rw [if_neg h]
      constructor
      · rintro (h1 | h1)
        · exact ⟨h1.1, h1.2.1, by omega⟩
        · cases h1
      · rintro ⟨h1, h2, h3⟩
        have hx : x ≠ k := by rintro rfl; exact h h1
        exact .inl ⟨h1, h2, by omega⟩
theorem ascend_snoc : ∀ (l : List Int) (x : Int), ascend l = true → (∀ y ∈ l, y < x) → ascend (l ++ [x]) = true
  | [], x, _, _ => rfl
  | [a], x, _, h => by simp [ascend, h a (by simp)]
  | a :: b :: r, x, h, hx => by
    simp only [ascend, Bool.and_eq_true] at h
    have := ascend_snoc (b :: r) x h.2 (fun y hy => hx y (by simp at hy ⊢; exact .inr hy))
    simp only [List.cons_append, ascend, Bool.and_eq_true] at this ⊢
    exact ⟨h.1, this⟩
theorem secsTo_ascend (ps : List (List Stage)) (at_ : List Int) : ∀ k, ascend (secsTo ps at_ k) = true
  | 0 => rfl
  | k + 1 => by
    rw [secsTo]
    split
    · exact ascend_snoc _ _ (secsTo_ascend ps at_ k) (fun y hy => ((secsTo_mem ps at_ y k).1 hy).2.2)
    · rw [List.append_nil]; exact secsTo_ascend ps at_ k
theorem secsTo_congr {ps : List (List Stage)} {l m : List Int} (h : ∀ x, 0 ≤ x → (x ∈ secList ps l ↔ x ∈ secList ps m)) : ∀ k, secsTo ps l k = secsTo ps m k
  | 0 => rfl
  | k + 1 => by
    rw [secsTo, secsTo, secsTo_congr h k]
    by_cases h1 : (k : Int) ∈ secList ps l
    · rw [if_pos h1, if_pos ((h k (by omega)).1 h1)]
    · rw [if_neg h1, if_neg (fun h2 => h1 ((h k (by omega)).2 h2))]
theorem full_sub {l o : List Int} (hn : l.Nodup) (hs : ∀ x ∈ l, x ∈ o) (hl : l.length = o.length) : ∀ x ∈ o, x ∈ l := by
  intro x hx
  rcases Classical.em (x ∈ l) with h | h
  · exact h
  · have := nodup_len (x :: l) o (List.nodup_cons.2 ⟨h, hn⟩) (fun y hy => by
      rcases List.mem_cons.1 hy with rfl | hy
      · exact hx
      · exact hs y hy)
    simp at this; omega
theorem secAt_lt {p : List Stage} (h : ∀ s ∈ p, s.sec < 8) (a : Int) : secAt p a < 8 := by
  unfold secAt
  split
  · omega
  · split
    · omega
    · rename_i s e; exact h s (List.mem_of_getElem? e)
theorem secList_lt : ∀ {ps : List (List Stage)} (_ : secs8 ps) (l : List Int), ∀ x ∈ secList ps l, x < 8
  | [], _, l, x, h => by simp [secList] at h
  | p :: ps, _, [], x, h => by simp [secList] at h
  | p :: ps, h8, a :: l, x, h => by
    simp only [secList, List.zipWith_cons_cons, List.mem_cons] at h
    rcases h with rfl | h
    · exact secAt_lt (fun s hs => (h8 p (by simp) s hs).2) a
    · exact secList_lt (fun q hq => h8 q (by simp [hq])) l x h

section
variable {ps : List (List Stage)} {at_ : List Int}
theorem occ_len (h8 : secs8 ps) (hn : (heldOf ps at_).Nodup) : (heldOf ps at_).length = (secsTo ps at_ 8).length ∧ ∀ x, x ∈ heldOf ps at_ ↔ x ∈ secsTo ps at_ 8 := by
  have hsn : secsNonneg ps := fun p hp s hs => (h8 p hp s hs).1
  have hmem : ∀ x, x ∈ heldOf ps at_ ↔ x ∈ secsTo ps at_ 8 := fun x => by
    rw [mem_heldOf hsn, secsTo_mem]
    constructor
    · rintro ⟨h1, h2⟩; exact ⟨h1, h2, secList_lt h8 _ x h1⟩
    · rintro ⟨h1, h2, _⟩; exact ⟨h1, h2⟩
  have hnd := (ascend_nodup _ (secsTo_ascend ps at_ 8)).1
  have h1 := nodup_len _ _ hn (fun x hx => (hmem x).1 hx)
  have h2 := nodup_len _ _ hnd (fun x hx => (hmem x).2 hx)
  exact ⟨by omega, hmem⟩
/-- the search at the sections that the positions hold -/
theorem found_any (hv : valid ps = true) (h8 : secs8 ps) (hm : maxcnt ps ≤ 1048576) (hg : good ps at_ = true) (hn : (heldOf ps at_).Nodup) {ex : List Int} (hx : good ps ex = true) :
    ∃ s : ISt, identify ps ex (secsTo ps at_ 8) 1048576 = (if s.found = 0 then ([], (s.steps : Int), 6) else if 1 < s.found then ([], (s.steps : Int), 13) else (s.best, (s.steps : Int), 0)) ∧ FoldIs ex (secsTo ps at_ 8) (leaves (secsTo ps at_ 8) ps [] []) s ∧ (at_, heldOf ps at_) ∈ leaves (secsTo ps at_ 8) ps [] [] := by
  obtain ⟨s, e, _, hc⟩ := search_leaves (exp := ex) (occ := secsTo ps at_ 8) (budget := 1048576) ps [] [] ⟨0, 0, 0, []⟩ (by simpa using hm)
  refine ⟨s, ?_, ?_, ?_⟩
  · unfold identify
    rw [if_neg (by simp [hv, hx]), if_neg (by simp [secsTo_ascend]), if_neg (by omega)]
    rw [show (1048576 : Int).toNat = 1048576 from rfl, e]
  · have := FoldIs.all (exp := ex) (occ := secsTo ps at_ 8) (leaves (secsTo ps at_ 8) ps [] []) [] ⟨0, 0, 0, []⟩ (.inl ⟨by simp, rfl⟩)
    rw [List.nil_append] at this
    exact this.core hc.symm
  · have hg' := hg
    simp only [good, Bool.and_eq_true, decide_eq_true_eq] at hg'
    have := leaves_has (occ := secsTo ps at_ 8) ps [] [] at_ hg'.1 hg'.2 (by simpa using hn) (fun x hx => ((occ_len h8 hn).2 x).1 hx)
    simpa using this
theorem found_same (hv : valid ps = true) (h8 : secs8 ps) (hm : maxcnt ps ≤ 1048576) (hg : good ps at_ = true) (hn : (heldOf ps at_).Nodup) : (identify ps at_ (secsTo ps at_ 8) 1048576).1 = at_ ∧ (identify ps at_ (secsTo ps at_ 8) 1048576).2.2 = 0 := by
  obtain ⟨s, e, hf, hin⟩ := found_any hv h8 hm hg hn hg
  have hsn : secsNonneg ps := fun p hp s hs => (h8 p hp s hs).1
  have hgl : at_.length = ps.length := by have := hg; simp only [good, Bool.and_eq_true, decide_eq_true_eq] at this; exact this.1
  rcases hf with ⟨h1, _⟩ | ⟨q, hq, hql, hb, hs, hmin, hc⟩
  · exact absurd (occ_len h8 hn).1 (h1 _ hin)
  · have hs0 : s.sum = 0 := by
      have h1 := hmin _ hin (occ_len h8 hn).1
      simp only [diffSum_self] at h1
      have h2 := diffSum_nonneg q.1 at_
      omega
    have huni : ∀ q' ∈ leaves (secsTo ps at_ 8) ps [] [], diffSum q'.1 at_ = s.sum → q'.1 = at_ := fun q' hq' he => by
      obtain ⟨suf, rfl, hl, _⟩ := leaves_mem ps hsn _ _ q' hq'
      refine diffSum_zero _ _ ?_ (by rw [he, hs0])
      simp [hl, hgl]
    have hle : s.found ≤ 1 := by
      rw [hc]
      have hp := (leaves_apart (occ := secsTo ps at_ 8) ps [] []).sublist (List.filter_sublist (p := fun q' => decide (q'.2.length = (secsTo ps at_ 8).length) && decide (diffSum q'.1 at_ = s.sum)))
      have hall : ∀ q' ∈ (leaves (secsTo ps at_ 8) ps [] []).filter (fun q' => decide (q'.2.length = (secsTo ps at_ 8).length) && decide (diffSum q'.1 at_ = s.sum)), q'.1 = at_ := fun q' hq' => by
        simp only [List.mem_filter, Bool.and_eq_true, decide_eq_true_eq] at hq'
        exact huni q' hq'.1 hq'.2.2
      generalize (leaves (secsTo ps at_ 8) ps [] []).filter (fun q' => decide (q'.2.length = (secsTo ps at_ 8).length) && decide (diffSum q'.1 at_ = s.sum)) = L at hp hall
      match L, hp, hall with
      | [], _, _ => simp
      | [_], _, _ => simp
      | a :: b :: r, hp, hall =>
        have h1 := (List.pairwise_cons.1 hp).1 b (by simp)
        exact absurd ((hall a (by simp)).trans (hall b (by simp)).symm) h1
    have hge : s.found ≠ 0 := by
      rw [hc]
      have : q ∈ (leaves (secsTo ps at_ 8) ps [] []).filter (fun q' => decide (q'.2.length = (secsTo ps at_ 8).length) && decide (diffSum q'.1 at_ = s.sum)) := by simp [hq, hql, hs]
      have := List.length_pos_of_mem this; omega
    rw [e, if_neg hge, if_neg (by omega)]
    exact ⟨by rw [hb]; exact huni q hq hs.symm, rfl⟩
theorem found_other (hv : valid ps = true) (h8 : secs8 ps) (hm : maxcnt ps ≤ 1048576) (hg : good ps at_ = true) (hn : (heldOf ps at_).Nodup) {ex : List Int} (hx : good ps ex = true) :
    (identify ps ex (secsTo ps at_ 8) 1048576).2.2 = 13 ∨ (identify ps ex (secsTo ps at_ 8) 1048576).2.2 = 0 ∧ (identify ps ex (secsTo ps at_ 8) 1048576).1.length = ps.length ∧ checkState ps (identify ps ex (secsTo ps at_ 8) 1048576).1 = 0 ∧ secsTo ps (identify ps ex (secsTo ps at_ 8) 1048576).1 8 = secsTo ps at_ 8 := by
  obtain ⟨s, e, hf, hin⟩ := found_any hv h8 hm hg hn hx
  have hsn : secsNonneg ps := fun p hp s hs => (h8 p hp s hs).1
  rcases hf with ⟨h1, _⟩ | ⟨q, hq, hql, hb, hs, hmin, hc⟩
  · exact absurd (occ_len h8 hn).1 (h1 _ hin)
  · have hge : s.found ≠ 0 := by
      rw [hc]
      have : q ∈ (leaves (secsTo ps at_ 8) ps [] []).filter (fun q' => decide (q'.2.length = (secsTo ps at_ 8).length) && decide (diffSum q'.1 ex = s.sum)) := by simp [hq, hql, hs]
      have := List.length_pos_of_mem this; omega
    rw [e, if_neg hge]
    by_cases h13 : 1 < s.found
    · rw [if_pos h13]; exact .inl rfl
    · rw [if_neg h13]
      right
      obtain ⟨suf, rfl, hl, hgf, hnd, ho⟩ := leaves_mem ps hsn _ _ q hq
      simp only [List.nil_append] at hb hql hnd
      have hnd := hnd List.nodup_nil
      rw [hb]
      have hgs : good ps suf = true := by simp [good, hl, hgf]
      refine ⟨rfl, hl, ?_, ?_⟩
      · show checkState ps suf = 0
        unfold checkState
        rw [if_neg (by simp [hv, hgs]), if_pos hnd]
      · refine secsTo_congr (fun x hx0 => ?_) 8
        have a1 : x ∈ heldOf ps suf ↔ x ∈ heldOf ps at_ := by
          rw [(occ_len h8 hn).2 x]
          exact ⟨fun h => ho x h, fun h => full_sub hnd ho hql x h⟩
        rw [mem_heldOf hsn, mem_heldOf hsn] at a1
        exact ⟨fun h => (a1.1 ⟨h, hx0⟩).1, fun h => (a1.2 ⟨h, hx0⟩).1⟩
end

theorem psMade.cnt {ps : List (List Stage)} (h : psMade ps) : maxcnt ps ≤ 1048576 := by
  have hp : ∀ p ∈ ps, p.length ≤ 4 := fun p hp => (h.2.2 p hp).2.1
  have hl := h.2.1
  match ps, hp, hl with
  | [], _, _ => simp [maxcnt]
  | [a], hp, _ => have := hp a (by simp); simp [maxcnt]; omega
  | [a, b], hp, _ =>
    have h1 := hp a (by simp)
    have h2 := hp b (by simp)
    simp only [maxcnt]
    have : (b.length + 2) * (1 + 0) ≤ 6 := by omega
    have := Nat.mul_le_mul (show a.length + 2 ≤ 6 by omega) (show 1 + (b.length + 2) * (1 + 0) ≤ 7 by omega)
    omega
  | [a, b, c], hp, _ =>
    have h1 := hp a (by simp)
    have h2 := hp b (by simp)
    have h3 := hp c (by simp)
    simp only [maxcnt]
    have m1 : (c.length + 2) * (1 + 0) ≤ 6 := by omega
    have m2 := Nat.mul_le_mul (show b.length + 2 ≤ 6 by omega) (show 1 + (c.length + 2) * (1 + 0) ≤ 7 by omega)
    have m3 := Nat.mul_le_mul (show a.length + 2 ≤ 6 by omega) (show 1 + (b.length + 2) * (1 + (c.length + 2) * (1 + 0)) ≤ 43 by omega)
    omega
  | _ :: _ :: _ :: _ :: _, _, hl => simp at hl

end Go.Proofs.Ytigmldildefdgaa
