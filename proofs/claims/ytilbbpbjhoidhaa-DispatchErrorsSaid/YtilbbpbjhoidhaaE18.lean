/- The lists of uses that Sort fills, as plain lists. No program in sight. The lists of uses that are not over, as plain lists. No program in sight. -/
import Derived.Test.YtilbbpbjhoidhaaE13
import Derived.Test.YtilbbpbjhoidhaaE15
namespace Go.Proofs.Ytilbbpbjhoidhaa
open Go.RowKit

def lsAt (pre : List (Int × Ref)) (r : Int) : List Ref := (pre.filter fun q => q.1 == r).map (·.2)
theorem lsAt_append (a b : List (Int × Ref)) (r : Int) : lsAt (a ++ b) r = lsAt a r ++ lsAt b r := by simp [lsAt]
def stAdds (t k : Nat) (s : Stage) : List (Int × Ref) := (stUses s).map fun r => (r, (⟨(t : Int), (k : Int)⟩ : Ref))
def pAdds (t : Nat) (p : List Stage) : List (Int × Ref) := p.zipIdx.flatMap fun q => stAdds t q.2 q.1
def aAdds (ps : List (List Stage)) : List (Int × Ref) := ps.zipIdx.flatMap fun q => pAdds q.2 q.1
theorem pAdds_succ (t : Nat) {p : List Stage} {k : Nat} {s : Stage} (h : p[k]? = some s) : pAdds t (p.take (k + 1)) = pAdds t (p.take k) ++ stAdds t k s := by
 unfold pAdds; rw [zipIdx_take_succ h]; simp
theorem aAdds_succ {ps : List (List Stage)} {t : Nat} {p : List Stage} (h : ps[t]? = some p) : aAdds (ps.take (t + 1)) = aAdds (ps.take t) ++ pAdds t p := by
 unfold aAdds; rw [zipIdx_take_succ h]; simp
theorem filter_eq_nodup {l : List Int} (h : l.Nodup) (r : Int) : l.filter (fun x => x == r) = if r ∈ l then [r] else [] := by
 induction l with
 | nil => simp
 | cons a l ih =>
  rw [List.nodup_cons] at h
  rw [List.filter_cons]
  by_cases e : a = r
  ·subst e
   rw [if_pos (by simp), ih h.2, if_neg h.1, if_pos (by simp)]
  ·rw [if_neg (by simpa using e), ih h.2]
   have : r ∈ a :: l ↔ r ∈ l := by
    rw [List.mem_cons]
    exact ⟨fun h => h.elim (fun h => absurd h.symm e) id, .inr⟩
   by_cases hm : r ∈ l
   ·rw [if_pos hm, if_pos (this.2 hm)]
   ·rw [if_neg hm, if_neg (fun h => hm (this.1 h))]
theorem lsAt_st {s : Stage} (h : (stUses s).Nodup) (t k : Nat) (r : Int) : lsAt (stAdds t k s) r = if r ∈ stUses s then [⟨(t : Int), (k : Int)⟩] else [] := by
 unfold lsAt stAdds
 rw [List.filter_map, List.map_map]
 have e : ((fun q : Int × Ref => q.1 == r) ∘ fun r' : Int => (r', (⟨(t : Int), (k : Int)⟩ : Ref))) = fun x : Int => x == r := by funext x; rfl
 rw [e, filter_eq_nodup h]
 split <;> simp
theorem lsAt_p (t : Nat) (r : Int) : ∀ (p : List Stage) (n : Nat), (∀ s ∈ p, (stUses s).Nodup) → n ≤ p.length → lsAt (pAdds t (p.take n)) r = pathAll r t (p.take n)
 | p, 0, _, _ => by simp [pAdds, pathAll, lsAt]
 | p, n + 1, h, hn => by
  have hs : p[n]? = some p[n] := List.getElem?_eq_getElem (by omega)
  rw [pAdds_succ t hs, lsAt_append, lsAt_p t r p n h (by omega), pathAll_succ r t hs, lsAt_st (h _ (List.getElem_mem _))]
theorem lsAt_a (r : Int) : ∀ (ps : List (List Stage)) (n : Nat), (∀ p ∈ ps, ∀ s ∈ p, (stUses s).Nodup) → n ≤ ps.length → lsAt (aAdds (ps.take n)) r = allU (ps.take n) r
 | ps, 0, _, _ => by simp [aAdds, allU, lsAt]
 | ps, n + 1, h, hn => by
  have hp : ps[n]? = some ps[n] := List.getElem?_eq_getElem (by omega)
  have h2 := lsAt_p n r ps[n] ps[n].length (h _ (List.getElem_mem _)) (Nat.le_refl _)
  rw [List.take_length] at h2
  rw [aAdds_succ hp, lsAt_append, lsAt_a r ps n h (by omega), allU_succ r hp, h2]
theorem lsAt_all {ps : List (List Stage)} (hv : valid ps = true) (r : Int) : lsAt (aAdds ps) r = allU ps r := by
 have := lsAt_a r ps ps.length (fun p hp s hs => stageOk_nodup (valid_stage hv hp hs)) (Nat.le_refl _)
 rwa [List.take_length] at this

structure Use where
 u : Ref
 en : Int
 rl : Int
 deriving DecidableEq, Inhabited
def useOf (ps : List (List Stage)) (r : Int) (u : Ref) : Use := ⟨u, (num ps u : Int), (num ps (relOf ps r u) : Int)⟩
def usOf (ps : List (List Stage)) (pre : List (Int × Ref)) : List (List Use) := (List.range 144).map fun r : Nat => (lsAt pre (r : Int)).map (useOf ps (r : Int))
theorem usOf_len (ps : List (List Stage)) (pre : List (Int × Ref)) : (usOf ps pre).length = 144 := by simp [usOf]
theorem usOf_at (ps : List (List Stage)) (pre : List (Int × Ref)) {n : Nat} (hn : n < 144) : (usOf ps pre)[n]? = some ((lsAt pre (n : Int)).map (useOf ps (n : Int))) := by simp [usOf, hn]
theorem usOf_nil (ps : List (List Stage)) : usOf ps [] = List.replicate 144 [] := by
 apply List.ext_getElem?
 intro i
 by_cases h : i < 144
 ·rw [usOf_at _ _ h, List.getElem?_replicate, if_pos h]; rfl
 ·rw [List.getElem?_eq_none (by rw [usOf_len]; omega), List.getElem?_eq_none (by simp; omega)]
theorem usOf_push (ps : List (List Stage)) (pre : List (Int × Ref)) {n : Nat} (hn : n < 144) (u : Ref) : usOf ps (pre ++ [((n : Int), u)]) = (usOf ps pre).set n ((lsAt pre (n : Int)).map (useOf ps (n : Int)) ++ [useOf ps (n : Int) u]) := by
 apply List.ext_getElem?
 intro i
 rw [List.getElem?_set]
 by_cases h : i < 144
 ·rw [usOf_at _ _ h, lsAt_append]
  by_cases e : n = i
  ·subst e
   rw [if_pos rfl, if_pos (by rw [usOf_len]; exact hn)]
   simp [lsAt]
  ·rw [if_neg e, usOf_at _ _ h]
   have : ((n : Int) == (i : Int)) = false := by simp; omega
   simp [lsAt, this]
 ·rw [List.getElem?_eq_none (by rw [usOf_len]; omega)]
  by_cases e : n = i
  ·omega
  ·rw [if_neg e, List.getElem?_eq_none (by rw [usOf_len]; omega)]
def opF (ps : List (List Stage)) (at_ : List Int) (q : Int × Ref) : Bool := !overB ps at_ q.2 q.1
theorem overB_done (ps : List (List Stage)) (at_ : List Int) (u : Ref) (r : Int) : overB ps at_ u r = doneR at_ (relOf ps r u) := by unfold overB doneR; rw [relOf_tr]
def opTo (ps : List (List Stage)) (at_ : List Int) (t : Nat) (p : List Stage) (k : Nat) : List (Int × Ref) := (aAdds (ps.take t) ++ pAdds t (p.take k)).filter (opF ps at_)
theorem opTo_zero (ps : List (List Stage)) (at_ : List Int) (p : List Stage) : opTo ps at_ 0 p 0 = [] := by simp [opTo, aAdds, pAdds]
theorem opTo_start (ps : List (List Stage)) (at_ : List Int) (t : Nat) (p q : List Stage) : opTo ps at_ t p 0 = opTo ps at_ t q 0 := by simp [opTo, pAdds]
theorem opTo_next {ps : List (List Stage)} {at_ : List Int} {t : Nat} {p : List Stage} (hp : ps[t]? = some p) (q : List Stage) : opTo ps at_ t p p.length = opTo ps at_ (t + 1) q 0 := by
 unfold opTo
 rw [List.take_length, aAdds_succ hp]
 simp [pAdds]
theorem opTo_stage {ps : List (List Stage)} {at_ : List Int} {t k : Nat} {p : List Stage} {s : Stage} (hs : p[k]? = some s) : opTo ps at_ t p (k + 1) = opTo ps at_ t p k ++ (stAdds t k s).filter (opF ps at_) := by
 unfold opTo
 rw [pAdds_succ t hs, ← List.append_assoc, List.filter_append]
theorem opTo_all {ps : List (List Stage)} {at_ : List Int} (hv : valid ps = true) (q : List Stage) (r : Int) : lsAt (opTo ps at_ ps.length q 0) r = openA ps at_ r := by
 unfold opTo openA openU
 rw [List.take_length]
 simp only [List.take_zero, pAdds, List.zipIdx_nil, List.flatMap_nil, List.append_nil]
 rw [← lsAt_all hv r]
 unfold lsAt
 rw [List.filter_filter, List.filter_map, List.filter_filter]
 congr 1
 refine List.filter_congr fun x _ => ?_
 by_cases e : (x.1 == r) = true
 ·have e' : x.1 = r := by simpa using e
  simp [opF, e']
 ·have e' : (x.1 == r) = false := by simpa using e
  simp [e']
def ptsTo (t k : Nat) (l : List Int) : List (Int × Ref) := l.map fun r => (r, (⟨(t : Int), (k : Int)⟩ : Ref))
theorem ptsTo_succ (t k : Nat) {l : List Int} {m : Nat} {x : Int} (h : l[m]? = some x) : ptsTo t k (l.take (m + 1)) = ptsTo t k (l.take m) ++ [(x, ⟨(t : Int), (k : Int)⟩)] := by
 unfold ptsTo; rw [List.take_add_one, h]; simp
theorem stAdds_pts (t k : Nat) (s : Stage) : stAdds t k s = (s.sec, (⟨(t : Int), (k : Int)⟩ : Ref)) :: ptsTo t k s.pts := rfl
def opPt (ps : List (List Stage)) (at_ : List Int) (t : Nat) (p : List Stage) (k : Nat) (s : Stage) (m : Nat) : List (Int × Ref) := opTo ps at_ t p k ++ ((s.sec, (⟨(t : Int), (k : Int)⟩ : Ref)) :: ptsTo t k (s.pts.take m)).filter (opF ps at_)
theorem opPt_zero {ps : List (List Stage)} {at_ : List Int} {t k : Nat} {p : List Stage} {s : Stage} (hp : ps[t]? = some p) (hs : p[k]? = some s) : opPt ps at_ t p k s 0 = opTo ps at_ t p k ++ (if doneR at_ ⟨(t : Int), (k : Int) + 1⟩ = true then [] else [(s.sec, (⟨(t : Int), (k : Int)⟩ : Ref))]) := by
 have e : secOf ps ⟨(t : Int), (k : Int)⟩ = s.sec := by unfold secOf; simp [hp, hs]
 have e2 : opF ps at_ (s.sec, (⟨(t : Int), (k : Int)⟩ : Ref)) = !doneR at_ ⟨(t : Int), (k : Int) + 1⟩ := by
  unfold opF
  simp only
  rw [overB_done]
  unfold relOf
  rw [if_pos e]
 unfold opPt ptsTo
 simp only [List.take_zero, List.map_nil, List.filter_cons, e2, List.filter_nil]
 cases doneR at_ ⟨(t : Int), (k : Int) + 1⟩ <;> simp
theorem opPt_succ {ps : List (List Stage)} {at_ : List Int} {t k m : Nat} {p : List Stage} {s : Stage} {x : Int} (hp : ps[t]? = some p) (hs : p[k]? = some s) (hx : s.pts[m]? = some x) (hne : x ≠ s.sec) : opPt ps at_ t p k s (m + 1) = opPt ps at_ t p k s m ++ (if doneR at_ ⟨(t : Int), (k : Int)⟩ = true then [] else [(x, (⟨(t : Int), (k : Int)⟩ : Ref))]) := by
 have e : secOf ps ⟨(t : Int), (k : Int)⟩ = s.sec := by unfold secOf; simp [hp, hs]
 have e2 : opF ps at_ (x, (⟨(t : Int), (k : Int)⟩ : Ref)) = !doneR at_ ⟨(t : Int), (k : Int)⟩ := by
  unfold opF
  simp only
  rw [overB_done]
  unfold relOf
  rw [if_neg (by rw [e]; exact fun h => hne h.symm)]
 unfold opPt
 rw [ptsTo_succ t k hx, ← List.cons_append, List.filter_append, ← List.append_assoc]
 congr 1
 rw [List.filter_cons, e2, List.filter_nil]
 cases doneR at_ ⟨(t : Int), (k : Int)⟩ <;> simp
theorem opPt_all {ps : List (List Stage)} {at_ : List Int} {t k : Nat} {p : List Stage} {s : Stage} (hs : p[k]? = some s) : opPt ps at_ t p k s s.pts.length = opTo ps at_ t p (k + 1) := by
 rw [opTo_stage hs, stAdds_pts]
 unfold opPt
 rw [List.take_length]
theorem useOf_sec {ps : List (List Stage)} {t k : Nat} {p : List Stage} {s : Stage} (hp : ps[t]? = some p) (hs : p[k]? = some s) : useOf ps s.sec ⟨(t : Int), (k : Int)⟩ = ⟨⟨(t : Int), (k : Int)⟩, ((fst ps t + k : Nat) : Int), ((fst ps t + k : Nat) : Int) + 1⟩ := by
 have e : secOf ps ⟨(t : Int), (k : Int)⟩ = s.sec := by unfold secOf; simp [hp, hs]
 unfold useOf relOf
 rw [if_pos e]
 unfold num
 simp only [Int.toNat_natCast]
 congr 1
theorem useOf_pt {ps : List (List Stage)} {t k : Nat} {p : List Stage} {s : Stage} (hp : ps[t]? = some p) (hs : p[k]? = some s) {x : Int} (hne : x ≠ s.sec) : useOf ps x ⟨(t : Int), (k : Int)⟩ = ⟨⟨(t : Int), (k : Int)⟩, ((fst ps t + k : Nat) : Int), ((fst ps t + k : Nat) : Int)⟩ := by
 have e : secOf ps ⟨(t : Int), (k : Int)⟩ = s.sec := by unfold secOf; simp [hp, hs]
 unfold useOf relOf
 rw [if_neg (by rw [e]; exact fun h => hne h.symm)]
 unfold num
 simp
theorem stAdds_le3 {s : Stage} (h : stageOk s = true) (t k : Nat) : (stAdds t k s).length ≤ 3 := by
 unfold stAdds stUses
 simp only [stageOk, Bool.and_eq_true, decide_eq_true_eq] at h
 simp
 omega
theorem pAdds_le3 (t : Nat) : ∀ (p : List Stage) (n : Nat), (∀ s ∈ p, stageOk s = true) → n ≤ p.length → (pAdds t (p.take n)).length ≤ 3 * n
 | p, 0, _, _ => by simp [pAdds]
 | p, n + 1, h, hn => by
  have hs : p[n]? = some p[n] := List.getElem?_eq_getElem (by omega)
  rw [pAdds_succ t hs, List.length_append]
  have h1 := pAdds_le3 t p n h (by omega)
  have h2 := stAdds_le3 (h _ (List.getElem_mem (by omega : n < p.length))) t n
  omega
theorem aAdds_le3 : ∀ (ps : List (List Stage)) (n : Nat), (∀ p ∈ ps, p.length ≤ 64 ∧ ∀ s ∈ p, stageOk s = true) → n ≤ ps.length → (aAdds (ps.take n)).length ≤ 192 * n
 | ps, 0, _, _ => by simp [aAdds]
 | ps, n + 1, h, hn => by
  have hp : ps[n]? = some ps[n] := List.getElem?_eq_getElem (by omega)
  obtain ⟨h3, h4⟩ := h _ (List.getElem_mem (by omega : n < ps.length))
  have h2 := pAdds_le3 n ps[n] ps[n].length h4 (Nat.le_refl _)
  rw [List.take_length] at h2
  rw [aAdds_succ hp, List.length_append]
  have h1 := aAdds_le3 ps n h (by omega)
  omega
theorem opTo_le {ps : List (List Stage)} {at_ : List Int} (hv : valid ps = true) {t k : Nat} {p : List Stage} (hp : ps[t]? = some p) (hk : k ≤ p.length) : (opTo ps at_ t p k).length ≤ 3000 := by
 have h1 := aAdds_le3 ps t (fun p hp => ⟨((valid_lens hv).2 p hp).2, fun s hs => valid_stage hv hp hs⟩) (Nat.le_of_lt (getElem?_lt hp))
 have h2 := pAdds_le3 t p k (fun s hs => valid_stage hv (List.mem_of_getElem? hp) hs) hk
 have h3 := (valid_lens hv).1
 have h4 := ((valid_lens hv).2 p (List.mem_of_getElem? hp)).2
 have h5 := getElem?_lt hp
 refine Nat.le_trans (List.length_filter_le _ _) ?_
 rw [List.length_append]
 omega
theorem opPt_le {ps : List (List Stage)} {at_ : List Int} (hv : valid ps = true) {t k m : Nat} {p : List Stage} {s : Stage} (hp : ps[t]? = some p) (hs : p[k]? = some s) : (opPt ps at_ t p k s m).length ≤ 3010 := by
 have h1 := opTo_le (at_ := at_) hv hp (k := k) (Nat.le_of_lt (getElem?_lt hs))
 have h2 := stAdds_le3 (valid_stage hv (List.mem_of_getElem? hp) (List.mem_of_getElem? hs)) t k
 rw [stAdds_pts] at h2
 unfold opPt
 rw [List.length_append]
 have h3 := List.length_filter_le (opF ps at_) ((s.sec, (⟨(t : Int), (k : Int)⟩ : Ref)) :: ptsTo t k (s.pts.take m))
 have h4 : (ptsTo t k (s.pts.take m)).length ≤ (ptsTo t k s.pts).length := by unfold ptsTo; simp; omega
 simp only [List.length_cons] at h2 h3
 omega
theorem lsAt_len (pre : List (Int × Ref)) (r : Int) : (lsAt pre r).length ≤ pre.length := by unfold lsAt; rw [List.length_map]; exact List.length_filter_le _ _

end Go.Proofs.Ytilbbpbjhoidhaa
