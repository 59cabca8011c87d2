/- The graph of chapter 35 as plain lists: events, their numbers, the arcs that lead to each. No program in sight. -/
import Derived.Test.YtcbpiidbkjaneaaGreatCheckP
namespace Go.Proofs.YtcbpiidbkjaneaaGreat
open Go.RowKit

structure GArc where
  frm : Int
  wt : Int
  deriving DecidableEq, Inhabited, Repr

def evs (ps : List (List Stage)) : List Ref := ps.zipIdx.flatMap fun q => (List.range (q.1.length + 1)).map fun k : Nat => ⟨(q.2 : Int), (k : Int)⟩
def fst (ps : List (List Stage)) (t : Nat) : Nat := (evs (ps.take t)).length
def firsts (ps : List (List Stage)) : List Int := (List.range ps.length).map fun t : Nat => (fst ps t : Int)
theorem evs_succ {ps : List (List Stage)} {t : Nat} {p : List Stage} (h : ps[t]? = some p) : evs (ps.take (t + 1)) = evs (ps.take t) ++ (List.range (p.length + 1)).map fun k : Nat => ⟨(t : Int), (k : Int)⟩ := by
  unfold evs; rw [zipIdx_take_succ h]; simp
theorem fst_zero (ps : List (List Stage)) : fst ps 0 = 0 := by simp [fst, evs]
theorem fst_succ {ps : List (List Stage)} {t : Nat} {p : List Stage} (h : ps[t]? = some p) : fst ps (t + 1) = fst ps t + (p.length + 1) := by
  unfold fst; rw [evs_succ h]; simp
theorem fst_len (ps : List (List Stage)) : fst ps ps.length = (evs ps).length := by unfold fst; rw [List.take_length]
theorem fst_mono {ps : List (List Stage)} {t : Nat} : ∀ u, t ≤ u → u ≤ ps.length → fst ps t ≤ fst ps u
  | 0, h, _ => by obtain rfl : t = 0 := by omega
                  exact Nat.le_refl _
  | u + 1, h, hu => by
    by_cases e : t = u + 1
    · subst e; exact Nat.le_refl _
    · have := fst_mono (ps := ps) u (t := t) (by omega) (by omega)
      have hp : ps[u]? = some ps[u] := List.getElem?_eq_getElem (by omega)
      rw [fst_succ hp]; omega
theorem fst_lt {ps : List (List Stage)} {t u : Nat} {p : List Stage} (h : ps[t]? = some p) (htu : t < u) (hu : u ≤ ps.length) : fst ps t + p.length < fst ps u := by
  have := fst_mono (ps := ps) (t := t + 1) u htu hu
  rw [fst_succ h] at this; omega
theorem fst_le {ps : List (List Stage)} (hv : ∀ p ∈ ps, p.length ≤ 64) : ∀ t : Nat, t ≤ ps.length → fst ps t ≤ t * 65
  | 0, _ => by rw [fst_zero]; omega
  | t + 1, ht => by
    have hp : ps[t]? = some ps[t] := List.getElem?_eq_getElem (by omega)
    rw [fst_succ hp]
    have h1 := fst_le hv t (by omega)
    have h3 := hv ps[t] (List.getElem_mem _)
    omega
theorem evs_at {ps : List (List Stage)} {t : Nat} {p : List Stage} (h : ps[t]? = some p) {k : Nat} (hk : k ≤ p.length) : (evs ps)[fst ps t + k]? = some ⟨(t : Int), (k : Int)⟩ := by
  have ht := getElem?_lt h
  have e : evs ps = evs (ps.take (t + 1)) ++ (evs ps).drop (fst ps (t + 1)) := by
    have hpre : ∀ m, m ≤ ps.length → (evs ps).take (fst ps m) = evs (ps.take m) := by
      intro m hm
      unfold fst
      have : ∃ l, evs ps = evs (ps.take m) ++ l := by
        have : ps.zipIdx = (ps.take m).zipIdx ++ (ps.drop m).zipIdx m := by
          conv => lhs; rw [← List.take_append_drop m ps]
          rw [List.zipIdx_append]; simp; congr 1; omega
        unfold evs
        rw [this, List.flatMap_append]
        exact ⟨_, rfl⟩
      obtain ⟨l, hl⟩ := this
      rw [hl]; simp
    conv => lhs; rw [← List.take_append_drop (fst ps (t + 1)) (evs ps), hpre (t + 1) (by omega)]
  rw [e, evs_succ h, List.append_assoc]
  rw [List.getElem?_append_right (by show (evs (ps.take t)).length ≤ _; unfold fst; omega)]
  have e2 : fst ps t + k - (evs (ps.take t)).length = k := by unfold fst; omega
  rw [e2, List.getElem?_append_left (by simp; omega)]
  simp [Nat.lt_succ_of_le hk]
theorem firsts_at {ps : List (List Stage)} {t : Nat} (h : t < ps.length) : (firsts ps)[t]? = some (fst ps t : Int) := by
  simp [firsts, h]
theorem firsts_len (ps : List (List Stage)) : (firsts ps).length = ps.length := by simp [firsts]
/-- an event by its number -/
theorem evs_inv {ps : List (List Stage)} : ∀ m : Nat, m ≤ ps.length → ∀ {i : Nat}, i < fst ps m → ∃ (t k : Nat) (p : List Stage), t < m ∧ ps[t]? = some p ∧ k ≤ p.length ∧ i = fst ps t + k
  | 0, _, i, hi => by rw [fst_zero] at hi; omega
  | m + 1, hm, i, hi => by
    have hp : ps[m]? = some ps[m] := List.getElem?_eq_getElem (by omega)
    rw [fst_succ hp] at hi
    by_cases h : i < fst ps m
    · obtain ⟨t, k, p, h1, h2⟩ := evs_inv m (by omega) h
      exact ⟨t, k, p, by omega, h2⟩
    · exact ⟨m, i - fst ps m, ps[m], by omega, hp, by omega, by omega⟩

/-- the arcs, by a list of additions -/
def arcsOf (n : Nat) (adds : List (Nat × GArc)) : List (List GArc) := (List.range n).map fun i => (adds.filter fun q => q.1 == i).map (·.2)
theorem arcsOf_len (n : Nat) (adds : List (Nat × GArc)) : (arcsOf n adds).length = n := by simp [arcsOf]
theorem arcsOf_nil (n : Nat) : arcsOf n [] = List.replicate n [] := by
  apply List.ext_getElem?
  intro i
  simp only [arcsOf, List.getElem?_map, List.getElem?_replicate]
  by_cases h : i < n <;> simp [h]
theorem arcsOf_at (n : Nat) (adds : List (Nat × GArc)) {i : Nat} (hi : i < n) : (arcsOf n adds)[i]? = some ((adds.filter fun q => q.1 == i).map (·.2)) := by simp [arcsOf, hi]
theorem arcsOf_push (n : Nat) (adds : List (Nat × GArc)) {i : Nat} (a : GArc) {l : List GArc} (hl : (arcsOf n adds)[i]? = some l) : arcsOf n (adds ++ [(i, a)]) = (arcsOf n adds).set i (l ++ [a]) := by
  have hi : i < n := by have := getElem?_lt hl; rwa [arcsOf_len] at this
  rw [arcsOf_at n adds hi] at hl
  injection hl with hl
  apply List.ext_getElem?
  intro j
  rw [List.getElem?_set]
  by_cases hj : j < n
  · rw [arcsOf_at n _ hj]
    by_cases e : i = j
    · subst e
      rw [if_pos rfl, if_pos (by rw [arcsOf_len]; exact hi), List.filter_append, List.map_append, hl]
      simp
    · rw [if_neg e, arcsOf_at n adds hj, List.filter_append, List.map_append]
      have : (i == j) = false := by simpa using e
      simp [this]
  · have h1 : (arcsOf n (adds ++ [(i, a)]))[j]? = none := List.getElem?_eq_none (by rw [arcsOf_len]; omega)
    have h2 : (arcsOf n adds)[j]? = none := List.getElem?_eq_none (by rw [arcsOf_len]; omega)
    rw [h1, h2]
    by_cases e : i = j
    · omega
    · rw [if_neg e]
theorem mem_arcsOf {n : Nat} {adds : List (Nat × GArc)} {i : Nat} {l : List GArc} (hl : (arcsOf n adds)[i]? = some l) {a : GArc} : a ∈ l ↔ (i, a) ∈ adds := by
  have hi : i < n := by have := getElem?_lt hl; rwa [arcsOf_len] at this
  rw [arcsOf_at n adds hi] at hl
  injection hl with hl; subst hl
  simp only [List.mem_map, List.mem_filter, beq_iff_eq]
  constructor
  · rintro ⟨⟨j, b⟩, ⟨h1, h2⟩, h3⟩; simp at h2 h3; subst h2 h3; exact h1
  · intro h; exact ⟨(i, a), ⟨h, rfl⟩, rfl⟩

def chainP (f : Nat) (p : List Stage) : List (Nat × GArc) := p.zipIdx.map fun q => (f + q.2 + 1, ⟨((f + q.2 : Nat) : Int), q.1.mn⟩)
def chainAdds (ps : List (List Stage)) : List (Nat × GArc) := ps.zipIdx.flatMap fun q => chainP (fst ps q.2) q.1
/-- the same for the first m paths -/
def chainTo (ps : List (List Stage)) (m : Nat) : List (Nat × GArc) := (ps.take m).zipIdx.flatMap fun q => chainP (fst ps q.2) q.1
theorem chainTo_succ {ps : List (List Stage)} {t : Nat} {p : List Stage} (h : ps[t]? = some p) : chainTo ps (t + 1) = chainTo ps t ++ chainP (fst ps t) p := by
  unfold chainTo; rw [zipIdx_take_succ h]; simp
theorem chainP_succ (f : Nat) {p : List Stage} {k : Nat} {s : Stage} (h : p[k]? = some s) : chainP f (p.take (k + 1)) = chainP f (p.take k) ++ [(f + k + 1, ⟨((f + k : Nat) : Int), s.mn⟩)] := by
  unfold chainP; rw [zipIdx_take_succ h]; simp
theorem chainTo_all (ps : List (List Stage)) : chainTo ps ps.length = chainAdds ps := by unfold chainTo chainAdds; rw [List.take_length]

/-- the number of an event; the event after which a use is over -/
def num (ps : List (List Stage)) (u : Ref) : Nat := fst ps u.tr.toNat + u.st.toNat
def secOf (ps : List (List Stage)) (u : Ref) : Int := (((ps[u.tr.toNat]?).getD [])[u.st.toNat]?).elim (-1) (·.sec)
def relOf (ps : List (List Stage)) (r : Int) (u : Ref) : Ref := if secOf ps u = r then ⟨u.tr, u.st + 1⟩ else u
def relArcs (to : Nat) (tr : Int) (rel : List Int) : List (Nat × GArc) := rel.zipIdx.flatMap fun q => if (q.2 : Int) ≠ tr ∧ 0 ≤ q.1 then [(to, ⟨q.1, 0⟩)] else []
def useAdds (ps : List (List Stage)) (r : Int) : List Ref → List Int → List (Nat × GArc)
  | [], _ => []
  | v :: l, rel => relArcs (num ps v) v.tr rel ++ useAdds ps r l (rel.set v.tr.toNat (num ps (relOf ps r v)))
def orderAdds (ps : List (List Stage)) (o : Order) : List (Nat × GArc) := useAdds ps o.res o.uses (List.replicate ps.length (-1))
def gAdds (ps : List (List Stage)) (os : List Order) : List (Nat × GArc) := chainAdds ps ++ os.flatMap (orderAdds ps)
theorem relArcs_succ (to : Nat) (tr : Int) {rel : List Int} {t : Nat} {x : Int} (h : rel[t]? = some x) : relArcs to tr (rel.take (t + 1)) = relArcs to tr (rel.take t) ++ (if (t : Int) ≠ tr ∧ 0 ≤ x then [(to, ⟨x, 0⟩)] else []) := by
  unfold relArcs; rw [zipIdx_take_succ h]; simp

end Go.Proofs.YtcbpiidbkjaneaaGreat
