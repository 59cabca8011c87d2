/- The reference's arcs and its order of events as plain lists, and that they agree with the program's. No program in sight. -/
import Derived.Test.YtcbpiidbkjaneaaGreatUsedP
namespace Go.Proofs.YtcbpiidbkjaneaaGreat
open Go.RowKit

structure RArc where
  frm : Ref
  to : Ref
  wt : Int
  deriving DecidableEq, Inhabited, Repr
def chainRP (t : Nat) (p : List Stage) : List RArc := p.zipIdx.map fun q => ⟨⟨(t : Int), (q.2 : Int)⟩, ⟨(t : Int), (q.2 : Int) + 1⟩, q.1.mn⟩
def chainR (ps : List (List Stage)) : List RArc := ps.zipIdx.flatMap fun q => chainRP q.2 q.1
def betw (ps : List (List Stage)) (r : Int) (u v : Ref) : RArc := ⟨relOf ps r u, v, 0⟩
def useR (ps : List (List Stage)) (r : Int) (l : List Ref) (v : Ref) : List RArc := l.flatMap fun u => if u.tr ≠ v.tr then [betw ps r u v] else []
def orderR (ps : List (List Stage)) (o : Order) : List RArc := o.uses.zipIdx.flatMap fun q => useR ps o.res (o.uses.take q.2) q.1
/-- the same for the first n uses -/
def orderRTo (ps : List (List Stage)) (o : Order) (n : Nat) : List RArc := (o.uses.take n).zipIdx.flatMap fun q => useR ps o.res (o.uses.take q.2) q.1
def refArcs (ps : List (List Stage)) (os : List Order) : List RArc := chainR ps ++ os.flatMap (orderR ps)
theorem chainRP_succ (t : Nat) {p : List Stage} {k : Nat} {s : Stage} (h : p[k]? = some s) : chainRP t (p.take (k + 1)) = chainRP t (p.take k) ++ [⟨⟨(t : Int), (k : Int)⟩, ⟨(t : Int), (k : Int) + 1⟩, s.mn⟩] := by
  unfold chainRP; rw [zipIdx_take_succ h]; simp
theorem chainR_succ {ps : List (List Stage)} {t : Nat} {p : List Stage} (h : ps[t]? = some p) : chainR (ps.take (t + 1)) = chainR (ps.take t) ++ chainRP t p := by
  unfold chainR; rw [zipIdx_take_succ h]; simp
theorem orderRTo_succ {ps : List (List Stage)} {o : Order} {n : Nat} {v : Ref} (h : o.uses[n]? = some v) : orderRTo ps o (n + 1) = orderRTo ps o n ++ useR ps o.res (o.uses.take n) v := by
  unfold orderRTo; rw [zipIdx_take_succ h]; simp
theorem orderRTo_all (ps : List (List Stage)) (o : Order) : orderRTo ps o o.uses.length = orderR ps o := by unfold orderRTo orderR; rw [List.take_length]
theorem useR_snoc (ps : List (List Stage)) (r : Int) (l : List Ref) (u v : Ref) : useR ps r (l ++ [u]) v = useR ps r l v ++ (if u.tr ≠ v.tr then [betw ps r u v] else []) := by
  unfold useR; simp
theorem mem_chainR {ps : List (List Stage)} {a : RArc} : a ∈ chainR ps ↔ ∃ (t k : Nat) (p : List Stage) (s : Stage), ps[t]? = some p ∧ p[k]? = some s ∧ a = ⟨⟨(t : Int), (k : Int)⟩, ⟨(t : Int), (k : Int) + 1⟩, s.mn⟩ := by
  unfold chainR
  rw [List.mem_flatMap]
  constructor
  · rintro ⟨⟨p, t⟩, hp, ha⟩
    unfold chainRP at ha
    obtain ⟨⟨s, k⟩, hs, rfl⟩ := List.mem_map.1 ha
    exact ⟨t, k, p, s, List.mem_zipIdx_iff_getElem?.1 hp, List.mem_zipIdx_iff_getElem?.1 hs, rfl⟩
  · rintro ⟨t, k, p, s, hp, hs, rfl⟩
    exact ⟨(p, t), List.mem_zipIdx_iff_getElem?.2 hp, List.mem_map.2 ⟨(s, k), List.mem_zipIdx_iff_getElem?.2 hs, rfl⟩⟩
theorem mem_orderR {ps : List (List Stage)} {o : Order} {a : RArc} : a ∈ orderR ps o ↔ ∃ (j : Nat) (v u : Ref), o.uses[j]? = some v ∧ u ∈ o.uses.take j ∧ u.tr ≠ v.tr ∧ a = betw ps o.res u v := by
  unfold orderR
  rw [List.mem_flatMap]
  constructor
  · rintro ⟨⟨v, j⟩, hv, ha⟩
    unfold useR at ha
    obtain ⟨u, hu, ha⟩ := List.mem_flatMap.1 ha
    split at ha
    · rename_i hne
      simp at ha
      exact ⟨j, v, u, List.mem_zipIdx_iff_getElem?.1 hv, hu, hne, ha⟩
    · simp at ha
  · rintro ⟨j, v, u, hv, hu, hne, rfl⟩
    exact ⟨(v, j), List.mem_zipIdx_iff_getElem?.2 hv, List.mem_flatMap.2 ⟨u, hu, by simp [hne]⟩⟩
/-- arcs from events, in both forms: v stands for an event t, k -/
theorem arcs_agree {ps : List (List Stage)} {os : List Order} (hck : checkO ps os = true) {now : List Int} (hg : Gd ps now) {t k : Nat} {p : List Stage} (hp : ps[t]? = some p) (hk : k ≤ p.length) :
    (∀ a ∈ arcsAt (arcsOf (evs ps).length (gAdds ps os)) (num ps ⟨(t : Int), (k : Int)⟩), doneR now (evAt ps a.frm.toNat) = true) ↔ (∀ a ∈ refArcs ps os, a.to = ⟨(t : Int), (k : Int)⟩ → doneR now a.frm = true) := by
  have hlt := (evAt_num hp hk).2
  have hrow := arcsOf_at (evs ps).length (gAdds ps os) hlt
  have hnum : num ps ⟨(t : Int), (k : Int)⟩ = fst ps t + k := by simp [num]
  obtain ⟨_, _, hf⟩ := checkO_facts hck
  have hev : ∀ {t' k' : Nat} {p' : List Stage}, ps[t']? = some p' → k' ≤ p'.length → evAt ps (((num ps ⟨(t' : Int), (k' : Int)⟩ : Nat) : Int)).toNat = ⟨(t' : Int), (k' : Int)⟩ := fun hp' hk' => (evAt_num hp' hk').1
  have hrelev : ∀ o ∈ os, ∀ w ∈ o.uses, evAt ps (((num ps (relOf ps o.res w) : Nat) : Int)).toNat = relOf ps o.res w := fun o ho w hw => by
    obtain ⟨tw, kw, pw, sw, hpw, hsw, _, rfl⟩ := mem_allU.1 ((hf o ho).1 w hw)
    have hl := getElem?_lt hsw
    have hrel := relOf_range (ps := ps) (r := o.res) (t := tw) (k := kw)
    obtain ⟨kr, hkr⟩ : ∃ kr : Nat, (relOf ps o.res ⟨(tw : Int), (kw : Int)⟩).st = (kr : Int) ∧ kr ≤ pw.length := by
      rcases hrel.2 with h | h
      · exact ⟨kw, h, by omega⟩
      · exact ⟨kw + 1, by rw [h]; simp, by omega⟩
    have hre : relOf ps o.res ⟨(tw : Int), (kw : Int)⟩ = ⟨(tw : Int), (kr : Int)⟩ := by
      have h1 := hrel.1
      cases hq : relOf ps o.res ⟨(tw : Int), (kw : Int)⟩ with
      | mk a b => rw [hq] at h1 hkr; simp only at h1 hkr; rw [h1, hkr.1]
    rw [hre]; exact hev hpw hkr.2
  have harcs : arcsAt (arcsOf (evs ps).length (gAdds ps os)) (num ps ⟨(t : Int), (k : Int)⟩) = ((gAdds ps os).filter fun q => q.1 == num ps ⟨(t : Int), (k : Int)⟩).map (·.2) := by unfold arcsAt; rw [hrow]; rfl
  constructor
  · intro h a ha hto
    unfold refArcs at ha
    rcases List.mem_append.1 ha with ha | ha
    · obtain ⟨t', k', p', s', hp', hs', rfl⟩ := mem_chainR.1 ha
      injection hto with h1 h2
      have ht : t' = t := by omega
      subst ht
      rw [hp] at hp'; injection hp' with hp'; subst hp'
      have hk' : k = k' + 1 := by omega
      have hmem : (num ps ⟨(t' : Int), (k : Int)⟩, (⟨((fst ps t' + k' : Nat) : Int), s'.mn⟩ : GArc)) ∈ gAdds ps os := by
        unfold gAdds
        refine List.mem_append_left _ ?_
        unfold chainAdds
        refine List.mem_flatMap.2 ⟨(p, t'), List.mem_zipIdx_iff_getElem?.2 hp, ?_⟩
        unfold chainP
        refine List.mem_map.2 ⟨(s', k'), List.mem_zipIdx_iff_getElem?.2 hs', ?_⟩
        simp only [hnum]
        rw [hk']; rfl
      have hd := h _ (by unfold arcsAt; rw [hrow]; exact (mem_arcsOf hrow).2 hmem)
      have e : evAt ps ((fst ps t' + k' : Nat) : Int).toNat = ⟨(t' : Int), (k' : Int)⟩ := by
        have := hev hp (k' := k') (by have := getElem?_lt hs'; omega)
        simpa [num] using this
      rw [e] at hd; exact hd
    · obtain ⟨o, ho, ha⟩ := List.mem_flatMap.1 ha
      obtain ⟨j, v, u, hv, hu, hne, rfl⟩ := mem_orderR.1 ha
      simp only [betw] at hto ⊢
      subst hto
      obtain ⟨hin, _, hbef⟩ := hf o ho
      have hin2 : ∀ u ∈ o.uses.take j, u ∈ allU ps o.res := fun u hu => hin u (List.mem_of_mem_take hu)
      obtain ⟨w', hL, htr, hst⟩ := last_of (o.uses.take j) hin2 u hu
      have hmem : (num ps ⟨(t : Int), (k : Int)⟩, (⟨((num ps (relOf ps o.res w') : Nat) : Int), 0⟩ : GArc)) ∈ gAdds ps os := by
        unfold gAdds
        refine List.mem_append_right _ (List.mem_flatMap.2 ⟨o, ho, ?_⟩)
        unfold orderAdds
        rw [mem_useAdds o.uses [] _ (RelOf.nil ps o.res) (by simpa using hbef) (by simpa using hin)]
        exact ⟨j, _, w', hv, rfl, by simpa using hL, by rw [htr]; exact hne, rfl⟩
      have hd := h _ (by unfold arcsAt; rw [hrow]; exact (mem_arcsOf hrow).2 hmem)
      rw [hrelev o ho w' (List.mem_of_mem_take hL.1)] at hd
      unfold doneR at hd ⊢
      rw [decide_eq_true_eq] at hd ⊢
      rw [relOf_tr] at hd ⊢
      have := relOf_le (ps := ps) (r := o.res) htr.symm hst
      rw [htr] at hd
      omega
  · intro h a ha
    rw [harcs] at ha
    obtain ⟨⟨i, b⟩, hq, rfl⟩ := List.mem_map.1 ha
    obtain ⟨hq, hi⟩ := List.mem_filter.1 hq
    simp only [beq_iff_eq] at hi
    unfold gAdds at hq
    rcases List.mem_append.1 hq with hq | hq
    · unfold chainAdds at hq
      obtain ⟨⟨p', t'⟩, hp', hq⟩ := List.mem_flatMap.1 hq
      have hp' := List.mem_zipIdx_iff_getElem?.1 hp'
      unfold chainP at hq
      obtain ⟨⟨s', k'⟩, hs', he⟩ := List.mem_map.1 hq
      have hs' := List.mem_zipIdx_iff_getElem?.1 hs'
      injection he with he1 he2
      subst he2
      have hkl := getElem?_lt hs'
      have hinj := fst_inj hp' hp (k := k' + 1) (m := k) (by omega) hk (by rw [← hnum, ← hi, ← he1]; rfl)
      obtain ⟨rfl, rfl⟩ := hinj
      have e : evAt ps ((fst ps t' + k' : Nat) : Int).toNat = ⟨(t' : Int), (k' : Int)⟩ := by
        have := hev hp' (k' := k') (by omega)
        simpa [num] using this
      show doneR now (evAt ps ((fst ps t' + k' : Nat) : Int).toNat) = true
      rw [e]
      exact h ⟨⟨(t' : Int), (k' : Int)⟩, ⟨(t' : Int), (k' : Int) + 1⟩, s'.mn⟩ (List.mem_append_left _ (mem_chainR.2 ⟨t', k', p', s', hp', hs', rfl⟩)) (by simp)
    · obtain ⟨o, ho, hq⟩ := List.mem_flatMap.1 hq
      obtain ⟨hin, _, hbef⟩ := hf o ho
      unfold orderAdds at hq
      rw [mem_useAdds o.uses [] _ (RelOf.nil ps o.res) (by simpa using hbef) (by simpa using hin)] at hq
      obtain ⟨j, v, w', hv, hiv, hL, hne, rfl⟩ := hq
      have hL : Last (o.uses.take j) w' := by simpa using hL
      obtain ⟨tv, kv, pv, sv, hpv, hsv, _, rfl⟩ := mem_allU.1 (hin v (List.mem_of_getElem? hv))
      have hkl := getElem?_lt hsv
      have hinj := fst_inj hpv hp (k := kv) (m := k) (by omega) hk (by rw [← hnum, ← hi, hiv]; simp [num])
      obtain ⟨rfl, rfl⟩ := hinj
      show doneR now (evAt ps (((num ps (relOf ps o.res w') : Nat) : Int)).toNat) = true
      rw [hrelev o ho w' (List.mem_of_mem_take hL.1)]
      exact h (betw ps o.res w' ⟨(tv : Int), (kv : Int)⟩) (List.mem_append_right _ (List.mem_flatMap.2 ⟨o, ho, mem_orderR.2 ⟨j, _, w', hv, hL.1, hne, rfl⟩⟩)) rfl

end Go.Proofs.YtcbpiidbkjaneaaGreat
