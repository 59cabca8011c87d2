/- Which arcs the graph has, in terms of the orders. No program in sight. Trains that enter the stages in the order of a line use each resource in its order. No program in sight. The reference's arcs and its order of events as plain lists, and that they agree with the program's. No program in sight. The reference's order of events agrees with the program's. No program in sight. -/
import Derived.Test.YtbfgmbakeofcbaaGreatK17
import Derived.Test.YtbfgmbakeofcbaaGreatK28
import Derived.Test.YtbfgmbakeofcbaaGreatK30
namespace Go.Proofs.YtbfgmbakeofcbaaGreat
open Go.RowKit

/-- w' is the last use of its train in l -/
def Last (l : List Ref) (w : Ref) : Prop := w ∈ l ∧ ∀ x ∈ l, x.tr = w.tr → x.st ≤ w.st
/-- the releases so far -/
def RelOf (ps : List (List Stage)) (r : Int) (past : List Ref) (rel : List Int) : Prop :=
  rel.length = ps.length ∧ ∀ t, t < ps.length → (rel[t]? = some (-1) ∧ ∀ w ∈ past, w.tr ≠ (t : Int)) ∨ ∃ w, Last past w ∧ w.tr = (t : Int) ∧ rel[t]? = some ((num ps (relOf ps r w) : Nat) : Int)
theorem RelOf.nil (ps : List (List Stage)) (r : Int) : RelOf ps r [] (List.replicate ps.length (-1)) := ⟨by simp, fun t ht => .inl ⟨by simp [ht], by simp⟩⟩
theorem RelOf.step {ps : List (List Stage)} {r : Int} {past : List Ref} {rel : List Int} {v : Ref} (h : RelOf ps r past rel) (hv : v ∈ allU ps r) (hp : ∀ w ∈ past, Before w v) : RelOf ps r (past ++ [v]) (rel.set v.tr.toNat (num ps (relOf ps r v) : Nat)) := by
  obtain ⟨tv, kv, p, s, hpp, _, _, rfl⟩ := mem_allU.1 hv
  have htv := getElem?_lt hpp
  refine ⟨by simpa using h.1, fun t ht => ?_⟩
  simp only [Int.toNat_natCast]
  rw [List.getElem?_set]
  by_cases e : tv = t
  · subst e
    right
    refine ⟨⟨(tv : Int), (kv : Int)⟩, ⟨by simp, fun x hx he => ?_⟩, rfl, by rw [if_pos rfl, if_pos (by rw [h.1]; exact htv)]⟩
    rcases List.mem_append.1 hx with hx | hx
    · have := hp x hx he; omega
    · simp at hx; subst hx; exact Int.le_refl _
  · rw [if_neg e]
    rcases h.2 t ht with ⟨h1, h2⟩ | ⟨w, hw, h1, h2⟩
    · left
      refine ⟨h1, fun w hw => ?_⟩
      rcases List.mem_append.1 hw with hw | hw
      · exact h2 w hw
      · simp at hw; subst hw; show (tv : Int) ≠ (t : Int); omega
    · right
      refine ⟨w, ⟨by simp [hw.1], fun x hx he => ?_⟩, h1, h2⟩
      rcases List.mem_append.1 hx with hx | hx
      · exact hw.2 x hx he
      · simp at hx; subst hx
        rw [h1] at he
        have he : (tv : Int) = (t : Int) := he
        omega
theorem mem_relArcs {to : Nat} {tr : Int} {rel : List Int} {q : Nat × GArc} : q ∈ relArcs to tr rel ↔ ∃ (t : Nat) (x : Int), rel[t]? = some x ∧ (t : Int) ≠ tr ∧ 0 ≤ x ∧ q = (to, ⟨x, 0⟩) := by
  unfold relArcs
  rw [List.mem_flatMap]
  constructor
  · rintro ⟨⟨x, t⟩, hx, hq⟩
    simp only at hq
    split at hq
    · rename_i hc
      simp at hq
      exact ⟨t, x, List.mem_zipIdx_iff_getElem?.1 hx, hc.1, hc.2, hq⟩
    · simp at hq
  · rintro ⟨t, x, hx, h1, h2, rfl⟩
    exact ⟨(x, t), List.mem_zipIdx_iff_getElem?.2 hx, by simp [h1, h2]⟩
theorem mem_useAdds {ps : List (List Stage)} {r : Int} {i : Nat} {a : GArc} : ∀ (l past : List Ref) (rel : List Int), RelOf ps r past rel → (past ++ l).Pairwise Before → (∀ u ∈ past ++ l, u ∈ allU ps r) →
    ((i, a) ∈ useAdds ps r l rel ↔ ∃ (j : Nat) (v w : Ref), l[j]? = some v ∧ i = num ps v ∧ Last (past ++ l.take j) w ∧ w.tr ≠ v.tr ∧ a = ⟨((num ps (relOf ps r w) : Nat) : Int), 0⟩)
  | [], past, rel, _, _, _ => by simp [useAdds]
  | v :: l, past, rel, hr, hp, hu => by
    have hb : ∀ w ∈ past, Before w v := fun w hw => (List.pairwise_append.1 hp).2.2 w hw v (by simp)
    have ih := mem_useAdds (i := i) (a := a) l (past ++ [v]) (rel.set v.tr.toNat (num ps (relOf ps r v) : Nat)) (hr.step (hu v (by simp)) hb) (by simpa using hp) (fun u hu' => hu u (by simpa using hu'))
    rw [useAdds, List.mem_append, ih, mem_relArcs]
    constructor
    · rintro (⟨t, x, hx, h1, h2, hq⟩ | ⟨j, v', w, h1, h2, h3, h4, h5⟩)
      · injection hq with hq1 hq2
        have ht : t < ps.length := by have := getElem?_lt hx; rw [hr.1] at this; exact this
        rcases hr.2 t ht with ⟨h3, _⟩ | ⟨w, hw, h3, h4⟩
        · rw [h3] at hx; injection hx with hx; omega
        · rw [h4] at hx; injection hx with hx
          exact ⟨0, v, w, rfl, hq1, by simpa using hw, by rw [h3]; exact h1, by rw [hq2, ← hx]⟩
      · exact ⟨j + 1, v', w, by simpa using h1, h2, by simpa using h3, h4, h5⟩
    · rintro ⟨j, v', w, h1, h2, h3, h4, h5⟩
      cases j with
      | zero =>
        simp at h1; subst h1
        left
        have hw : w ∈ past := by simpa using h3.1
        obtain ⟨tw, kw, pw, sw, hpw, _, _, hwe⟩ := mem_allU.1 (hu w (by simp [hw]))
        have htw := getElem?_lt hpw
        have htr : w.tr = (tw : Int) := by rw [hwe]
        rcases hr.2 tw htw with ⟨_, hno⟩ | ⟨w2, hw2, ht2, hx2⟩
        · exact absurd htr (hno w hw)
        · have hL : Last past w := by simpa using h3
          have e1 := hL.2 w2 hw2.1 (by rw [ht2, htr])
          have e2 := hw2.2 w hw (by rw [ht2, htr])
          have : w2 = w := by
            cases w; cases w2
            simp only at *
            simp; omega
          subst this
          exact ⟨tw, _, hx2, by rw [← htr]; exact h4, by omega, by rw [h2, h5]⟩
      | succ j =>
        right
        exact ⟨j, v', w, by simpa using h1, h2, by simpa using h3, h4, h5⟩
/-- the last use of a train among some -/
theorem last_of {ps : List (List Stage)} {r : Int} : ∀ (l : List Ref), (∀ u ∈ l, u ∈ allU ps r) → ∀ w ∈ l, ∃ w', Last l w' ∧ w'.tr = w.tr ∧ w.st ≤ w'.st
  | [], _, w, hw => by simp at hw
  | a :: l, hu, w, hw => by
    by_cases hex : ∃ x ∈ l, x.tr = w.tr
    · obtain ⟨x, hx, hxt⟩ := hex
      obtain ⟨w', h1, h2, h3⟩ := last_of l (fun u hu' => hu u (by simp [hu'])) x hx
      by_cases hc : a.tr = w.tr ∧ w'.st < a.st
      · refine ⟨a, ⟨by simp, fun y hy he => ?_⟩, hc.1, ?_⟩
        · rcases List.mem_cons.1 hy with rfl | hy
          · exact Int.le_refl _
          · have := h1.2 y hy (by rw [he, hc.1, ← hxt, ← h2]); omega
        · rcases List.mem_cons.1 hw with rfl | hw
          · exact Int.le_refl _
          · have := h1.2 w hw (by rw [h2, hxt]); omega
      · refine ⟨w', ⟨by simp [h1.1], fun y hy he => ?_⟩, by rw [h2, hxt], ?_⟩
        · rcases List.mem_cons.1 hy with rfl | hy
          · rcases Classical.em (w'.st < y.st) with h' | h'
            · exact absurd ⟨by rw [he, h2, hxt], h'⟩ hc
            · omega
          · exact h1.2 y hy he
        · rcases List.mem_cons.1 hw with rfl | hw
          · rcases Classical.em (w'.st < w.st) with h' | h'
            · exact absurd ⟨rfl, h'⟩ hc
            · omega
          · exact h1.2 w hw (by rw [h2, hxt])
    · have hwa : w = a := by
        rcases List.mem_cons.1 hw with h | h
        · exact h
        · exact absurd ⟨w, h, rfl⟩ hex
      subst hwa
      refine ⟨w, ⟨by simp, fun y hy he => ?_⟩, rfl, Int.le_refl _⟩
      rcases List.mem_cons.1 hy with rfl | hy
      · exact Int.le_refl _
      · exact absurd ⟨y, hy, he⟩ hex
/-- a use of the same resource that comes earlier is over no later -/
theorem relOf_le {ps : List (List Stage)} {r : Int} {w w' : Ref} (h1 : w.tr = w'.tr) (h2 : w.st ≤ w'.st) : (relOf ps r w).st ≤ (relOf ps r w').st := by
  have a1 : (relOf ps r w).st = w.st ∨ (relOf ps r w).st = w.st + 1 := by unfold relOf; split <;> simp
  have a2 : (relOf ps r w').st = w'.st ∨ (relOf ps r w').st = w'.st + 1 := by unfold relOf; split <;> simp
  by_cases e : w.st = w'.st
  · have e2 : w = w' := by cases w; cases w'; simp only at h1 e; rw [h1, e]
    rw [e2]; exact Int.le_refl _
  · omega
theorem relOf_tr (ps : List (List Stage)) (r : Int) (w : Ref) : (relOf ps r w).tr = w.tr := by unfold relOf; split <;> rfl

structure RArc where
  frm : Ref
  to : Ref
  wt : Int
  deriving DecidableEq, Inhabited, Repr
def chainRP (t : Nat) (p : List Stage) : List RArc := p.zipIdx.map fun q => ⟨⟨(t : Int), (q.2 : Int)⟩, ⟨(t : Int), (q.2 : Int) + 1⟩, q.1.mn⟩
def chainR (ps : List (List Stage)) : List RArc := ps.zipIdx.flatMap fun q => chainRP q.2 q.1
def betw (ps : List (List Stage)) (r : Int) (u v : Ref) : RArc := ⟨relOf ps r u, v, 0⟩
def useR (ps : List (List Stage)) (r : Int) (l : List Ref) (v : Ref) : List RArc := l.flatMap fun u => if u.tr ≠ v.tr then [betw ps r u v] else []
def orderR (ps : List (List Stage)) (o : Order) : List RArc := o.uses.zipIdx.flatMap fun q => useR ps o.res (o.uses.take q.2) q.1
/-- the same for the first n uses -/
def orderRTo (ps : List (List Stage)) (o : Order) (n : Nat) : List RArc := (o.uses.take n).zipIdx.flatMap fun q => useR ps o.res (o.uses.take q.2) q.1
def refArcs (ps : List (List Stage)) (os : List Order) : List RArc := chainR ps ++ os.flatMap (orderR ps)
theorem chainRP_succ (t : Nat) {p : List Stage} {k : Nat} {s : Stage} (h : p[k]? = some s) : chainRP t (p.take (k + 1)) = chainRP t (p.take k) ++ [⟨⟨(t : Int), (k : Int)⟩, ⟨(t : Int), (k : Int) + 1⟩, s.mn⟩] := by
  unfold chainRP; rw [zipIdx_take_succ h]; simp
theorem chainR_succ {ps : List (List Stage)} {t : Nat} {p : List Stage} (h : ps[t]? = some p) : chainR (ps.take (t + 1)) = chainR (ps.take t) ++ chainRP t p := by
  unfold chainR; rw [zipIdx_take_succ h]; simp
theorem orderRTo_succ {ps : List (List Stage)} {o : Order} {n : Nat} {v : Ref} (h : o.uses[n]? = some v) : orderRTo ps o (n + 1) = orderRTo ps o n ++ useR ps o.res (o.uses.take n) v := by
  unfold orderRTo; rw [zipIdx_take_succ h]; simp
theorem orderRTo_all (ps : List (List Stage)) (o : Order) : orderRTo ps o o.uses.length = orderR ps o := by unfold orderRTo orderR; rw [List.take_length]
theorem useR_snoc (ps : List (List Stage)) (r : Int) (l : List Ref) (u v : Ref) : useR ps r (l ++ [u]) v = useR ps r l v ++ (if u.tr ≠ v.tr then [betw ps r u v] else []) := by
  unfold useR; simp
theorem mem_chainR {ps : List (List Stage)} {a : RArc} : a ∈ chainR ps ↔ ∃ (t k : Nat) (p : List Stage) (s : Stage), ps[t]? = some p ∧ p[k]? = some s ∧ a = ⟨⟨(t : Int), (k : Int)⟩, ⟨(t : Int), (k : Int) + 1⟩, s.mn⟩ := by
  unfold chainR
  rw [List.mem_flatMap]
  constructor
  · rintro ⟨⟨p, t⟩, hp, ha⟩
    unfold chainRP at ha
    obtain ⟨⟨s, k⟩, hs, rfl⟩ := List.mem_map.1 ha
    exact ⟨t, k, p, s, List.mem_zipIdx_iff_getElem?.1 hp, List.mem_zipIdx_iff_getElem?.1 hs, rfl⟩
  · rintro ⟨t, k, p, s, hp, hs, rfl⟩
    exact ⟨(p, t), List.mem_zipIdx_iff_getElem?.2 hp, List.mem_map.2 ⟨(s, k), List.mem_zipIdx_iff_getElem?.2 hs, rfl⟩⟩
theorem mem_orderR {ps : List (List Stage)} {o : Order} {a : RArc} : a ∈ orderR ps o ↔ ∃ (j : Nat) (v u : Ref), o.uses[j]? = some v ∧ u ∈ o.uses.take j ∧ u.tr ≠ v.tr ∧ a = betw ps o.res u v := by
  unfold orderR
  rw [List.mem_flatMap]
  constructor
  · rintro ⟨⟨v, j⟩, hv, ha⟩
    unfold useR at ha
    obtain ⟨u, hu, ha⟩ := List.mem_flatMap.1 ha
    split at ha
    · rename_i hne
      simp at ha
      exact ⟨j, v, u, List.mem_zipIdx_iff_getElem?.1 hv, hu, hne, ha⟩
    · simp at ha
  · rintro ⟨j, v, u, hv, hu, hne, rfl⟩
    exact ⟨(v, j), List.mem_zipIdx_iff_getElem?.2 hv, List.mem_flatMap.2 ⟨u, hu, by simp [hne]⟩⟩
/-- arcs from events, in both forms: v stands for an event t, k -/
theorem arcs_agree {ps : List (List Stage)} {os : List Order} (hck : checkO ps os = true) {now : List Int} (_hg : Gd ps now) {t k : Nat} {p : List Stage} (hp : ps[t]? = some p) (hk : k ≤ p.length) :
    (∀ a ∈ arcsAt (arcsOf (evs ps).length (gAdds ps os)) (num ps ⟨(t : Int), (k : Int)⟩), doneR now (evAt ps a.frm.toNat) = true) ↔ (∀ a ∈ refArcs ps os, a.to = ⟨(t : Int), (k : Int)⟩ → doneR now a.frm = true) := by
  have hlt := (evAt_num hp hk).2
  have hrow := arcsOf_at (evs ps).length (gAdds ps os) hlt
  have hnum : num ps ⟨(t : Int), (k : Int)⟩ = fst ps t + k := by simp [num]
  obtain ⟨_, _, hf⟩ := checkO_facts hck
  have hev : ∀ {t' k' : Nat} {p' : List Stage}, ps[t']? = some p' → k' ≤ p'.length → evAt ps (((num ps ⟨(t' : Int), (k' : Int)⟩ : Nat) : Int)).toNat = ⟨(t' : Int), (k' : Int)⟩ := fun hp' hk' => (evAt_num hp' hk').1
  have hrelev : ∀ o ∈ os, ∀ w ∈ o.uses, evAt ps (((num ps (relOf ps o.res w) : Nat) : Int)).toNat = relOf ps o.res w := fun o ho w hw => by
    obtain ⟨tw, kw, pw, sw, hpw, hsw, _, rfl⟩ := mem_allU.1 ((hf o ho).1 w hw)
    have hl := getElem?_lt hsw
    have hrel := relOf_range (ps := ps) (r := o.res) (t := tw) (k := kw)
    obtain ⟨kr, hkr⟩ : ∃ kr : Nat, (relOf ps o.res ⟨(tw : Int), (kw : Int)⟩).st = (kr : Int) ∧ kr ≤ pw.length := by
      rcases hrel.2 with h | h
      · exact ⟨kw, h, by omega⟩
      · exact ⟨kw + 1, by rw [h]; simp, by omega⟩
    have hre : relOf ps o.res ⟨(tw : Int), (kw : Int)⟩ = ⟨(tw : Int), (kr : Int)⟩ := by
      have h1 := hrel.1
      cases hq : relOf ps o.res ⟨(tw : Int), (kw : Int)⟩ with
      | mk a b => rw [hq] at h1 hkr; simp only at h1 hkr; rw [h1, hkr.1]
    rw [hre]; exact hev hpw hkr.2
  have harcs : arcsAt (arcsOf (evs ps).length (gAdds ps os)) (num ps ⟨(t : Int), (k : Int)⟩) = ((gAdds ps os).filter fun q => q.1 == num ps ⟨(t : Int), (k : Int)⟩).map (·.2) := by unfold arcsAt; rw [hrow]; rfl
  constructor
  · intro h a ha hto
    unfold refArcs at ha
    rcases List.mem_append.1 ha with ha | ha
    · obtain ⟨t', k', p', s', hp', hs', rfl⟩ := mem_chainR.1 ha
      injection hto with h1 h2
      have ht : t' = t := by omega
      subst ht
      rw [hp] at hp'; injection hp' with hp'; subst hp'
      have hk' : k = k' + 1 := by omega
      have hmem : (num ps ⟨(t' : Int), (k : Int)⟩, (⟨((fst ps t' + k' : Nat) : Int), s'.mn⟩ : GArc)) ∈ gAdds ps os := by
        unfold gAdds
        refine List.mem_append_left _ ?_
        unfold chainAdds
        refine List.mem_flatMap.2 ⟨(p, t'), List.mem_zipIdx_iff_getElem?.2 hp, ?_⟩
        unfold chainP
        refine List.mem_map.2 ⟨(s', k'), List.mem_zipIdx_iff_getElem?.2 hs', ?_⟩
        simp only [hnum]
        rw [hk']; rfl
      have hd := h _ (by unfold arcsAt; rw [hrow]; exact (mem_arcsOf hrow).2 hmem)
      have e : evAt ps ((fst ps t' + k' : Nat) : Int).toNat = ⟨(t' : Int), (k' : Int)⟩ := by
        have := hev hp (k' := k') (by have := getElem?_lt hs'; omega)
        simpa [num] using this
      rw [e] at hd; exact hd
    · obtain ⟨o, ho, ha⟩ := List.mem_flatMap.1 ha
      obtain ⟨j, v, u, hv, hu, hne, rfl⟩ := mem_orderR.1 ha
      simp only [betw] at hto ⊢
      subst hto
      obtain ⟨hin, _, hbef⟩ := hf o ho
      have hin2 : ∀ u ∈ o.uses.take j, u ∈ allU ps o.res := fun u hu => hin u (List.mem_of_mem_take hu)
      obtain ⟨w', hL, htr, hst⟩ := last_of (o.uses.take j) hin2 u hu
      have hmem : (num ps ⟨(t : Int), (k : Int)⟩, (⟨((num ps (relOf ps o.res w') : Nat) : Int), 0⟩ : GArc)) ∈ gAdds ps os := by
        unfold gAdds
        refine List.mem_append_right _ (List.mem_flatMap.2 ⟨o, ho, ?_⟩)
        unfold orderAdds
        rw [mem_useAdds o.uses [] _ (RelOf.nil ps o.res) (by simpa using hbef) (by simpa using hin)]
        exact ⟨j, _, w', hv, rfl, by simpa using hL, by rw [htr]; exact hne, rfl⟩
      have hd := h _ (by unfold arcsAt; rw [hrow]; exact (mem_arcsOf hrow).2 hmem)
      rw [hrelev o ho w' (List.mem_of_mem_take hL.1)] at hd
      unfold doneR at hd ⊢
      rw [decide_eq_true_eq] at hd ⊢
      rw [relOf_tr] at hd ⊢
      have := relOf_le (ps := ps) (r := o.res) htr.symm hst
      rw [htr] at hd
      omega
  · intro h a ha
    rw [harcs] at ha
    obtain ⟨⟨i, b⟩, hq, rfl⟩ := List.mem_map.1 ha
    obtain ⟨hq, hi⟩ := List.mem_filter.1 hq
    simp only [beq_iff_eq] at hi
    unfold gAdds at hq
    rcases List.mem_append.1 hq with hq | hq
    · unfold chainAdds at hq
      obtain ⟨⟨p', t'⟩, hp', hq⟩ := List.mem_flatMap.1 hq
      have hp' := List.mem_zipIdx_iff_getElem?.1 hp'
      unfold chainP at hq
      obtain ⟨⟨s', k'⟩, hs', he⟩ := List.mem_map.1 hq
      have hs' := List.mem_zipIdx_iff_getElem?.1 hs'
      injection he with he1 he2
      subst he2
      have hkl := getElem?_lt hs'
      have hinj := fst_inj hp' hp (k := k' + 1) (m := k) (by omega) hk (by rw [← hnum, ← hi, ← he1]; rfl)
      obtain ⟨rfl, rfl⟩ := hinj
      have e : evAt ps ((fst ps t' + k' : Nat) : Int).toNat = ⟨(t' : Int), (k' : Int)⟩ := by
        have := hev hp' (k' := k') (by omega)
        simpa [num] using this
      show doneR now (evAt ps ((fst ps t' + k' : Nat) : Int).toNat) = true
      rw [e]
      exact h ⟨⟨(t' : Int), (k' : Int)⟩, ⟨(t' : Int), (k' : Int) + 1⟩, s'.mn⟩ (List.mem_append_left _ (mem_chainR.2 ⟨t', k', p', s', hp', hs', rfl⟩)) (by simp)
    · obtain ⟨o, ho, hq⟩ := List.mem_flatMap.1 hq
      obtain ⟨hin, _, hbef⟩ := hf o ho
      unfold orderAdds at hq
      rw [mem_useAdds o.uses [] _ (RelOf.nil ps o.res) (by simpa using hbef) (by simpa using hin)] at hq
      obtain ⟨j, v, w', hv, hiv, hL, hne, rfl⟩ := hq
      have hL : Last (o.uses.take j) w' := by simpa using hL
      obtain ⟨tv, kv, pv, sv, hpv, hsv, _, rfl⟩ := mem_allU.1 (hin v (List.mem_of_getElem? hv))
      have hkl := getElem?_lt hsv
      have hinj := fst_inj hpv hp (k := kv) (m := k) (by omega) hk (by rw [← hnum, ← hi, hiv]; simp [num])
      obtain ⟨rfl, rfl⟩ := hinj
      show doneR now (evAt ps (((num ps (relOf ps o.res w') : Nat) : Int)).toNat) = true
      rw [hrelev o ho w' (List.mem_of_mem_take hL.1)]
      exact h (betw ps o.res w' ⟨(tv : Int), (kv : Int)⟩) (List.mem_append_right _ (List.mem_flatMap.2 ⟨o, ho, mem_orderR.2 ⟨j, _, w', hv, hL.1, hne, rfl⟩⟩)) rfl

def rdyR (arcs : List RArc) (now : List Int) (u : Ref) : Bool := arcs.all fun a => !(decide (a.to = u) && !doneR now a.frm)
def goC (ps : List (List Stage)) (arcs : List RArc) (now : List Int) (t : Nat) : Bool := decide (nowAt now t < lenAt ps t) && rdyR arcs now ⟨(t : Int), nowAt now t + 1⟩
def goR (ps : List (List Stage)) (arcs : List RArc) (now : List Int) : Option Nat := (List.range ps.length).find? (goC ps arcs now)
theorem goR_sound (ps : List (List Stage)) (arcs : List RArc) : Sound ps (goR ps arcs) := by
  intro now t h
  unfold goR at h
  have h1 := List.mem_of_find?_eq_some h
  have h2 := List.find?_some h
  simp only [goC, Bool.and_eq_true, decide_eq_true_eq] at h2
  exact ⟨List.mem_range.1 h1, h2.1⟩
def badArc (at_ : List Int) (a : RArc) : Bool := doneR at_ a.to && !doneR at_ a.frm
def lineR (ps : List (List Stage)) (arcs : List RArc) (at_ : List Int) : List Ref × Bool :=
  if arcs.any (badArc at_) = true then ([], false) else if total ps (lineFrom (goR ps arcs) (total ps at_) at_).2 = 0 then ((lineFrom (goR ps arcs) (total ps at_) at_).1, true) else ([], false)
theorem find?_congr' {α : Type} {f g : α → Bool} : ∀ {l : List α}, (∀ x ∈ l, f x = g x) → l.find? f = l.find? g
  | [], _ => rfl
  | a :: l, h => by
    rw [List.find?_cons, List.find?_cons, h a (by simp), find?_congr' (l := l) (fun x hx => h x (by simp [hx]))]
theorem readyP_goR {ps : List (List Stage)} {os : List Order} (hck : checkO ps os = true) {now : List Int} (hg : Gd ps now) : readyP ps (arcsOf (evs ps).length (gAdds ps os)) now = goR ps (refArcs ps os) now := by
  unfold readyP goR
  apply find?_congr'
  intro t ht
  have ht := List.mem_range.1 ht
  have hp : ps[t]? = some ps[t] := List.getElem?_eq_getElem ht
  unfold canGo goC
  by_cases hl : nowAt now t < lenAt ps t
  · have hG := hg.2 t ht
    have hl' := hl
    rw [lenAt_of hp] at hl'
    obtain ⟨k, hk⟩ := Int.eq_ofNat_of_zero_le (by omega : 0 ≤ nowAt now t + 1)
    have hn : ((fst ps t : Int) + nowAt now t + 1).toNat = num ps ⟨(t : Int), (k : Int)⟩ := by unfold num; simp; omega
    have ha := arcs_agree hck hg hp (k := k) (by omega)
    rw [hk, hn]
    congr 1
    rw [Bool.eq_iff_iff]
    unfold rdyR
    rw [List.all_eq_true, List.all_eq_true, ha]
    constructor
    · intro h a hm
      by_cases e : a.to = ⟨(t : Int), (k : Int)⟩
      · simp [h a hm e]
      · simp [e]
    · intro h a hm e
      have := h a hm
      simpa [e] using this
  · simp [hl]
theorem refArcs_ends {ps : List (List Stage)} {os : List Order} (hck : checkO ps os = true) {a : RArc} (ha : a ∈ refArcs ps os) : (∃ (t k : Nat) (p : List Stage), ps[t]? = some p ∧ k ≤ p.length ∧ a.to = ⟨(t : Int), (k : Int)⟩) ∧ ∃ (t k : Nat) (p : List Stage), ps[t]? = some p ∧ k ≤ p.length ∧ a.frm = ⟨(t : Int), (k : Int)⟩ := by
  obtain ⟨_, _, hf⟩ := checkO_facts hck
  unfold refArcs at ha
  rcases List.mem_append.1 ha with ha | ha
  · obtain ⟨t, k, p, s, hp, hs, rfl⟩ := mem_chainR.1 ha
    have := getElem?_lt hs
    exact ⟨⟨t, k + 1, p, hp, by omega, by simp⟩, ⟨t, k, p, hp, by omega, rfl⟩⟩
  · obtain ⟨o, ho, ha⟩ := List.mem_flatMap.1 ha
    obtain ⟨j, v, u, hv, hu, hne, rfl⟩ := mem_orderR.1 ha
    obtain ⟨hin, _, _⟩ := hf o ho
    obtain ⟨tv, kv, pv, sv, hpv, hsv, _, rfl⟩ := mem_allU.1 (hin v (List.mem_of_getElem? hv))
    obtain ⟨tw, kw, pw, sw, hpw, hsw, _, rfl⟩ := mem_allU.1 (hin u (List.mem_of_mem_take hu))
    have h1 := getElem?_lt hsv
    have h2 := getElem?_lt hsw
    refine ⟨⟨tv, kv, pv, hpv, by omega, rfl⟩, ?_⟩
    have hrel := relOf_range (ps := ps) (r := o.res) (t := tw) (k := kw)
    show ∃ (t k : Nat) (p : List Stage), ps[t]? = some p ∧ k ≤ p.length ∧ relOf ps o.res ⟨(tw : Int), (kw : Int)⟩ = ⟨(t : Int), (k : Int)⟩
    cases hq : relOf ps o.res ⟨(tw : Int), (kw : Int)⟩ with
    | mk x y =>
      rw [hq] at hrel
      simp only at hrel
      obtain ⟨rfl, h | h⟩ := hrel
      · exact ⟨tw, kw, pw, hpw, by omega, by rw [h]⟩
      · exact ⟨tw, kw + 1, pw, hpw, by omega, by rw [h]; simp⟩
theorem agreesB_ref {ps : List (List Stage)} {os : List Order} (hck : checkO ps os = true) {at_ : List Int} (hg : Gd ps at_) : agreesB ps at_ (arcsOf (evs ps).length (gAdds ps os)) = !(refArcs ps os).any (badArc at_) := by
  rw [Bool.eq_iff_iff, Bool.not_eq_true', List.any_eq_false]
  unfold agreesB
  rw [List.all_eq_true]
  constructor
  · intro h a ha
    obtain ⟨⟨t, k, p, hp, hk, hto⟩, _⟩ := refArcs_ends hck ha
    unfold badArc
    rw [hto]
    cases hd : doneR at_ ⟨(t : Int), (k : Int)⟩ with
    | false => simp
    | true =>
      have hx := h (num ps ⟨(t : Int), (k : Int)⟩) (List.mem_range.2 (evAt_num hp hk).2)
      have he : evAt ps (num ps ⟨(t : Int), (k : Int)⟩) = ⟨(t : Int), (k : Int)⟩ := by have := (evAt_num hp hk).1; simpa [numI] using this
      rw [he, hd, List.all_eq_true] at hx
      have := (arcs_agree hck hg hp hk).1 (fun b hb => by have := hx b hb; simpa using this) a ha hto
      simp [this]
  · intro h i hi
    obtain ⟨t, k, p, _, hp, hk, rfl⟩ := evs_inv ps.length (Nat.le_refl _) (i := i) (by rw [fst_len]; exact List.mem_range.1 hi)
    have hnum : num ps ⟨(t : Int), (k : Int)⟩ = fst ps t + k := by simp [num]
    have he : evAt ps (fst ps t + k) = ⟨(t : Int), (k : Int)⟩ := by have := (evAt_num hp hk).1; rw [← hnum]; simpa [numI] using this
    rw [he, List.all_eq_true]
    intro b hb
    cases hd : doneR at_ ⟨(t : Int), (k : Int)⟩ with
    | false => simp
    | true =>
      have := (arcs_agree hck hg hp hk).2 (fun a ha hto => by
        have := h a ha
        unfold badArc at this
        rw [hto, hd] at this
        simpa using this) b (by rw [hnum]; exact hb)
      simp [this]
theorem doneL_total {ps : List (List Stage)} {now : List Int} (hg : Gd ps now) : ((doneL ps now).any fun y => false == y) = false ↔ total ps now = 0 := by
  rw [total_zero hg]
  constructor
  · intro h t ht
    have hp : ps[t]? = some ps[t] := List.getElem?_eq_getElem ht
    have hd := doneL_at (now := now) hp (Nat.le_refl _)
    have := List.any_eq_false.1 h _ (List.mem_of_getElem? hd)
    have hG := hg.2 t ht
    rw [lenAt_of hp] at hG ⊢
    simp at this
    omega
  · intro h
    rw [List.any_eq_false]
    intro y hy
    obtain ⟨i, hi, rfl⟩ := List.getElem_of_mem hy
    have hlen : (doneL ps now).length = (evs ps).length := by simp [doneL]
    obtain ⟨t, k, p, _, hp, hk, rfl⟩ := evs_inv ps.length (Nat.le_refl _) (i := i) (by rw [fst_len]; omega)
    have hd := doneL_at (now := now) hp hk
    rw [List.getElem?_eq_getElem hi] at hd
    injection hd with hd
    rw [hd]
    have := h t (getElem?_lt hp)
    rw [lenAt_of hp] at this
    have : (k : Int) ≤ nowAt now t := by omega
    simp [this]
theorem lineP_ref {ps : List (List Stage)} {os : List Order} (hck : checkO ps os = true) {at_ : List Int} (hgd : good ps at_ = true) : lineP ps os at_ = lineR ps (refArcs ps os) at_ := by
  have hg := good_Gd.1 hgd
  have hv := (checkO_facts hck).1
  have hs := readyP_sound ps (arcsOf (evs ps).length (gAdds ps os))
  have ht := total_le hv hg
  have e1 : runP ps os at_ = lineFrom (goR ps (refArcs ps os)) (total ps at_) at_ := by
    unfold runP
    rw [lineFrom_fuel hs 1000 (total ps at_) at_ hg (by omega) (Nat.le_refl _)]
    exact lineFrom_congr hs (fun now h => readyP_goR hck h) _ _ hg
  have hG2 : Gd ps (lineFrom (goR ps (refArcs ps os)) (total ps at_) at_).2 := (lineFrom_inv (goR_sound ps (refArcs ps os)) _ at_ hg).1
  unfold lineP lineR okP
  rw [hck, hgd, e1, agreesB_ref hck hg]
  by_cases h0 : total ps (lineFrom (goR ps (refArcs ps os)) (total ps at_) at_).2 = 0
  · rw [(doneL_total hG2).2 h0, if_pos h0]
    cases (refArcs ps os).any (badArc at_) <;> simp
  · have : ((doneL ps (lineFrom (goR ps (refArcs ps os)) (total ps at_) at_).2).any fun y => false == y) = true := by
      cases e : ((doneL ps (lineFrom (goR ps (refArcs ps os)) (total ps at_) at_).2).any fun y => false == y) with
      | true => rfl
      | false => exact absurd ((doneL_total hG2).1 e) h0
    rw [this, if_neg h0]
    cases (refArcs ps os).any (badArc at_) <;> simp
/-- the loop of LineOf: so far -/
def LR (go : List Int → Option Nat) (F : Nat) (at_ : List Int) (j : Nat) (acc : List Ref) (now : List Int) : Prop :=
  acc.length = j ∧ j ≤ F ∧ lineFrom go F at_ = (acc ++ (lineFrom go (F - j) now).1, (lineFrom go (F - j) now).2)
theorem LR.start (go : List Int → Option Nat) (F : Nat) (at_ : List Int) : LR go F at_ 0 [] at_ := ⟨rfl, Nat.zero_le _, by simp⟩
theorem LR.step {go : List Int → Option Nat} {F : Nat} {at_ : List Int} {j : Nat} {acc : List Ref} {now : List Int} {t : Nat} (h : LR go F at_ j acc now) (hj : j < F) (hn : go now = some t) : LR go F at_ (j + 1) (acc ++ [⟨(t : Int), nowAt now t + 1⟩]) (now.set t (nowAt now t + 1)) := by
  obtain ⟨h1, h2, h3⟩ := h
  refine ⟨by simp [h1], by omega, ?_⟩
  rw [h3, show F - j = (F - (j + 1)) + 1 from by omega]
  simp [lineFrom, hn]
theorem LR.stuck {go : List Int → Option Nat} {F : Nat} {at_ : List Int} {j : Nat} {acc : List Ref} {now : List Int} (h : LR go F at_ j acc now) (hj : j < F) (hn : go now = none) : lineFrom go F at_ = (acc, now) := by
  obtain ⟨h1, h2, h3⟩ := h
  rw [h3, show F - j = (F - (j + 1)) + 1 from by omega]
  simp [lineFrom, hn]
theorem LR.full {go : List Int → Option Nat} {F : Nat} {at_ : List Int} {acc : List Ref} {now : List Int} (h : LR go F at_ F acc now) : lineFrom go F at_ = (acc, now) := by
  obtain ⟨h1, h2, h3⟩ := h
  rw [h3]; simp [lineFrom]

end Go.Proofs.YtbfgmbakeofcbaaGreat
