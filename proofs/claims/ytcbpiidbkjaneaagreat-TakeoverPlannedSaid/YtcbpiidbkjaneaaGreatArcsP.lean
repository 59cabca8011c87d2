/- Which arcs the graph has, in terms of the orders. No program in sight. -/
import Derived.Test.YtcbpiidbkjaneaaGreatLineP
namespace Go.Proofs.YtcbpiidbkjaneaaGreat
open Go.RowKit

/-- w' is the last use of its train in l -/
def Last (l : List Ref) (w : Ref) : Prop := w ∈ l ∧ ∀ x ∈ l, x.tr = w.tr → x.st ≤ w.st
/-- the releases so far -/
def RelOf (ps : List (List Stage)) (r : Int) (past : List Ref) (rel : List Int) : Prop :=
  rel.length = ps.length ∧ ∀ t, t < ps.length → (rel[t]? = some (-1) ∧ ∀ w ∈ past, w.tr ≠ (t : Int)) ∨ ∃ w, Last past w ∧ w.tr = (t : Int) ∧ rel[t]? = some ((num ps (relOf ps r w) : Nat) : Int)
theorem RelOf.nil (ps : List (List Stage)) (r : Int) : RelOf ps r [] (List.replicate ps.length (-1)) := ⟨by simp, fun t ht => .inl ⟨by simp [ht], by simp⟩⟩
theorem RelOf.step {ps : List (List Stage)} {r : Int} {past : List Ref} {rel : List Int} {v : Ref} (h : RelOf ps r past rel) (hv : v ∈ allU ps r) (hp : ∀ w ∈ past, Before w v) : RelOf ps r (past ++ [v]) (rel.set v.tr.toNat (num ps (relOf ps r v) : Nat)) := by
  obtain ⟨tv, kv, p, s, hpp, _, _, rfl⟩ := mem_allU.1 hv
  have htv := getElem?_lt hpp
  refine ⟨by simpa using h.1, fun t ht => ?_⟩
  simp only [Int.toNat_natCast]
  rw [List.getElem?_set]
  by_cases e : tv = t
  · subst e
    right
    refine ⟨⟨(tv : Int), (kv : Int)⟩, ⟨by simp, fun x hx he => ?_⟩, rfl, by rw [if_pos rfl, if_pos (by rw [h.1]; exact htv)]⟩
    rcases List.mem_append.1 hx with hx | hx
    · have := hp x hx he; omega
    · simp at hx; subst hx; exact Int.le_refl _
  · rw [if_neg e]
    rcases h.2 t ht with ⟨h1, h2⟩ | ⟨w, hw, h1, h2⟩
    · left
      refine ⟨h1, fun w hw => ?_⟩
      rcases List.mem_append.1 hw with hw | hw
      · exact h2 w hw
      · simp at hw; subst hw; show (tv : Int) ≠ (t : Int); omega
    · right
      refine ⟨w, ⟨by simp [hw.1], fun x hx he => ?_⟩, h1, h2⟩
      rcases List.mem_append.1 hx with hx | hx
      · exact hw.2 x hx he
      · simp at hx; subst hx
        rw [h1] at he
        have he : (tv : Int) = (t : Int) := he
        omega
theorem mem_relArcs {to : Nat} {tr : Int} {rel : List Int} {q : Nat × GArc} : q ∈ relArcs to tr rel ↔ ∃ (t : Nat) (x : Int), rel[t]? = some x ∧ (t : Int) ≠ tr ∧ 0 ≤ x ∧ q = (to, ⟨x, 0⟩) := by
  unfold relArcs
  rw [List.mem_flatMap]
  constructor
  · rintro ⟨⟨x, t⟩, hx, hq⟩
    simp only at hq
    split at hq
    · rename_i hc
      simp at hq
      exact ⟨t, x, List.mem_zipIdx_iff_getElem?.1 hx, hc.1, hc.2, hq⟩
    · simp at hq
  · rintro ⟨t, x, hx, h1, h2, rfl⟩
    exact ⟨(x, t), List.mem_zipIdx_iff_getElem?.2 hx, by simp [h1, h2]⟩
theorem mem_useAdds {ps : List (List Stage)} {r : Int} {i : Nat} {a : GArc} : ∀ (l past : List Ref) (rel : List Int), RelOf ps r past rel → (past ++ l).Pairwise Before → (∀ u ∈ past ++ l, u ∈ allU ps r) →
    ((i, a) ∈ useAdds ps r l rel ↔ ∃ (j : Nat) (v w : Ref), l[j]? = some v ∧ i = num ps v ∧ Last (past ++ l.take j) w ∧ w.tr ≠ v.tr ∧ a = ⟨((num ps (relOf ps r w) : Nat) : Int), 0⟩)
  | [], past, rel, _, _, _ => by simp [useAdds]
  | v :: l, past, rel, hr, hp, hu => by
    have hb : ∀ w ∈ past, Before w v := fun w hw => (List.pairwise_append.1 hp).2.2 w hw v (by simp)
    have ih := mem_useAdds (i := i) (a := a) l (past ++ [v]) (rel.set v.tr.toNat (num ps (relOf ps r v) : Nat)) (hr.step (hu v (by simp)) hb) (by simpa using hp) (fun u hu' => hu u (by simpa using hu'))
    rw [useAdds, List.mem_append, ih, mem_relArcs]
    constructor
    · rintro (⟨t, x, hx, h1, h2, hq⟩ | ⟨j, v', w, h1, h2, h3, h4, h5⟩)
      · injection hq with hq1 hq2
        have ht : t < ps.length := by have := getElem?_lt hx; rw [hr.1] at this; exact this
        rcases hr.2 t ht with ⟨h3, _⟩ | ⟨w, hw, h3, h4⟩
        · rw [h3] at hx; injection hx with hx; omega
        · rw [h4] at hx; injection hx with hx
          exact ⟨0, v, w, rfl, hq1, by simpa using hw, by rw [h3]; exact h1, by rw [hq2, ← hx]⟩
      · exact ⟨j + 1, v', w, by simpa using h1, h2, by simpa using h3, h4, h5⟩
    · rintro ⟨j, v', w, h1, h2, h3, h4, h5⟩
      cases j with
      | zero =>
        simp at h1; subst h1
        left
        have hw : w ∈ past := by simpa using h3.1
        obtain ⟨tw, kw, pw, sw, hpw, _, _, hwe⟩ := mem_allU.1 (hu w (by simp [hw]))
        have htw := getElem?_lt hpw
        have htr : w.tr = (tw : Int) := by rw [hwe]
        rcases hr.2 tw htw with ⟨_, hno⟩ | ⟨w2, hw2, ht2, hx2⟩
        · exact absurd htr (hno w hw)
        · have hL : Last past w := by simpa using h3
          have e1 := hL.2 w2 hw2.1 (by rw [ht2, htr])
          have e2 := hw2.2 w hw (by rw [ht2, htr])
          have : w2 = w := by
            cases w; cases w2
            simp only at *
            simp; omega
          subst this
          exact ⟨tw, _, hx2, by rw [← htr]; exact h4, by omega, by rw [h2, h5]⟩
      | succ j =>
        right
        exact ⟨j, v', w, by simpa using h1, h2, by simpa using h3, h4, h5⟩
/-- the last use of a train among some -/
theorem last_of {ps : List (List Stage)} {r : Int} : ∀ (l : List Ref), (∀ u ∈ l, u ∈ allU ps r) → ∀ w ∈ l, ∃ w', Last l w' ∧ w'.tr = w.tr ∧ w.st ≤ w'.st
  | [], _, w, hw => by simp at hw
  | a :: l, hu, w, hw => by
    by_cases hex : ∃ x ∈ l, x.tr = w.tr
    · obtain ⟨x, hx, hxt⟩ := hex
      obtain ⟨w', h1, h2, h3⟩ := last_of l (fun u hu' => hu u (by simp [hu'])) x hx
      by_cases hc : a.tr = w.tr ∧ w'.st < a.st
      · refine ⟨a, ⟨by simp, fun y hy he => ?_⟩, hc.1, ?_⟩
        · rcases List.mem_cons.1 hy with rfl | hy
          · exact Int.le_refl _
          · have := h1.2 y hy (by rw [he, hc.1, ← hxt, ← h2]); omega
        · rcases List.mem_cons.1 hw with rfl | hw
          · exact Int.le_refl _
          · have := h1.2 w hw (by rw [h2, hxt]); omega
      · refine ⟨w', ⟨by simp [h1.1], fun y hy he => ?_⟩, by rw [h2, hxt], ?_⟩
        · rcases List.mem_cons.1 hy with rfl | hy
          · rcases Classical.em (w'.st < y.st) with h' | h'
            · exact absurd ⟨by rw [he, h2, hxt], h'⟩ hc
            · omega
          · exact h1.2 y hy he
        · rcases List.mem_cons.1 hw with rfl | hw
          · rcases Classical.em (w'.st < w.st) with h' | h'
            · exact absurd ⟨rfl, h'⟩ hc
            · omega
          · exact h1.2 w hw (by rw [h2, hxt])
    · have hwa : w = a := by
        rcases List.mem_cons.1 hw with h | h
        · exact h
        · exact absurd ⟨w, h, rfl⟩ hex
      subst hwa
      refine ⟨w, ⟨by simp, fun y hy he => ?_⟩, rfl, Int.le_refl _⟩
      rcases List.mem_cons.1 hy with rfl | hy
      · exact Int.le_refl _
      · exact absurd ⟨y, hy, he⟩ hex
/-- a use of the same resource that comes earlier is over no later -/
theorem relOf_le {ps : List (List Stage)} {r : Int} {w w' : Ref} (h1 : w.tr = w'.tr) (h2 : w.st ≤ w'.st) : (relOf ps r w).st ≤ (relOf ps r w').st := by
  have a1 : (relOf ps r w).st = w.st ∨ (relOf ps r w).st = w.st + 1 := by unfold relOf; split <;> simp
  have a2 : (relOf ps r w').st = w'.st ∨ (relOf ps r w').st = w'.st + 1 := by unfold relOf; split <;> simp
  by_cases e : w.st = w'.st
  · have e2 : w = w' := by cases w; cases w'; simp only at h1 e; rw [h1, e]
    rw [e2]; exact Int.le_refl _
  · omega
theorem relOf_tr (ps : List (List Stage)) (r : Int) (w : Ref) : (relOf ps r w).tr = w.tr := by unfold relOf; split <;> rfl

end Go.Proofs.YtcbpiidbkjaneaaGreat
