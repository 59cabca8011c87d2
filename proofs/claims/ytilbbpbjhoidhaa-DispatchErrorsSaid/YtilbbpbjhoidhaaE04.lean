/- The orders of chapter 35 as plain lists: which uses a resource has, and when orders are valid. No program in sight. The graph of chapter 35 as plain lists: events, their numbers, the arcs that lead to each. No program in sight. The order of events of chapter 35 as plain lists: the program's and the reference's are the same. No program in sight. Which arcs the graph has, in terms of the orders. No program in sight. Contracts of the makers of positions and paths: what they return fits. Conditions: as each theorem says. A slice that fills a block of its own reads as its list; rows that make lays. Conditions: as each theorem says. -/
import Derived.Test.YtilbbpbjhoidhaaE02
import Derived.Test.YtilbbpbjhoidhaaE03
import Derived.Deep.OwnRows
namespace Go.Proofs.Ytilbbpbjhoidhaa
open Go.RowKit

def stUses (s : Stage) : List Int := s.sec :: s.pts
def usesAll (ps : List (List Stage)) : List Int := ps.flatten.flatMap stUses
def pathAll (r : Int) (t : Nat) (p : List Stage) : List Ref := p.zipIdx.flatMap fun q => if r ∈ stUses q.1 then [⟨(t : Int), (q.2 : Int)⟩] else []
def allU (ps : List (List Stage)) (r : Int) : List Ref := ps.zipIdx.flatMap fun q => pathAll r q.2 q.1

theorem zipIdx_take_succ {α : Type} {l : List α} {k : Nat} {x : α} (h : l[k]? = some x) : (l.take (k + 1)).zipIdx = (l.take k).zipIdx ++ [(x, k)] := by
 have hk : (l.take k).length = k := by have := getElem?_lt h; simp; omega
 rw [List.take_add_one, h, Option.toList_some, List.zipIdx_append, hk]
 simp
theorem pathAll_nil (r : Int) (t : Nat) : pathAll r t [] = [] := rfl
theorem pathAll_succ (r : Int) (t : Nat) {p : List Stage} {k : Nat} {s : Stage} (h : p[k]? = some s) : pathAll r t (p.take (k + 1)) = pathAll r t (p.take k) ++ (if r ∈ stUses s then [⟨(t : Int), (k : Int)⟩] else []) := by
 unfold pathAll; rw [zipIdx_take_succ h]; simp
theorem allU_succ (r : Int) {ps : List (List Stage)} {t : Nat} {p : List Stage} (h : ps[t]? = some p) : allU (ps.take (t + 1)) r = allU (ps.take t) r ++ pathAll r t p := by
 unfold allU; rw [zipIdx_take_succ h]; simp
theorem mem_pathAll {r : Int} {t : Nat} {p : List Stage} {u : Ref} : u ∈ pathAll r t p ↔ ∃ (k : Nat) (s : Stage), p[k]? = some s ∧ r ∈ stUses s ∧ u = ⟨(t : Int), (k : Int)⟩ := by
 unfold pathAll
 rw [List.mem_flatMap]
 constructor
 ·rintro ⟨⟨s, k⟩, hq, hu⟩
  rw [List.mem_zipIdx_iff_getElem?] at hq
  by_cases h : r ∈ stUses s
  ·simp only [h, if_true, List.mem_singleton] at hu
   exact ⟨k, s, hq, h, hu⟩
  ·simp [h] at hu
 ·rintro ⟨k, s, hk, hr, rfl⟩
  exact ⟨(s, k), List.mem_zipIdx_iff_getElem?.2 hk, by simp [hr]⟩
theorem mem_allU {ps : List (List Stage)} {r : Int} {u : Ref} : u ∈ allU ps r ↔ ∃ (t k : Nat) (p : List Stage) (s : Stage), ps[t]? = some p ∧ p[k]? = some s ∧ r ∈ stUses s ∧ u = ⟨(t : Int), (k : Int)⟩ := by
 unfold allU
 rw [List.mem_flatMap]
 constructor
 ·rintro ⟨⟨p, t⟩, hq, hu⟩
  rw [List.mem_zipIdx_iff_getElem?] at hq
  obtain ⟨k, s, hk, hr, rfl⟩ := mem_pathAll.1 hu
  exact ⟨t, k, p, s, hq, hk, hr, rfl⟩
 ·rintro ⟨t, k, p, s, ht, hk, hr, rfl⟩
  exact ⟨(p, t), List.mem_zipIdx_iff_getElem?.2 ht, mem_pathAll.2 ⟨k, s, hk, hr, rfl⟩⟩
theorem mem_usesAll {ps : List (List Stage)} {r : Int} : r ∈ usesAll ps ↔ ∃ (t k : Nat) (p : List Stage) (s : Stage), ps[t]? = some p ∧ p[k]? = some s ∧ r ∈ stUses s := by
 unfold usesAll
 simp only [List.mem_flatMap, List.mem_flatten]
 constructor
 ·rintro ⟨s, ⟨p, hp, hs⟩, hr⟩
  obtain ⟨t, ht⟩ := List.mem_iff_getElem?.1 hp
  obtain ⟨k, hk⟩ := List.mem_iff_getElem?.1 hs
  exact ⟨t, k, p, s, ht, hk, hr⟩
 ·rintro ⟨t, k, p, s, ht, hk, hr⟩
  exact ⟨s, ⟨p, List.mem_of_getElem? ht, List.mem_of_getElem? hk⟩, hr⟩
theorem allU_nil_iff {ps : List (List Stage)} {r : Int} : allU ps r = [] ↔ r ∉ usesAll ps := by
 rw [List.eq_nil_iff_forall_not_mem]
 constructor
 ·intro h hr
  obtain ⟨t, k, p, s, ht, hk, hr⟩ := mem_usesAll.1 hr
  exact h _ (mem_allU.2 ⟨t, k, p, s, ht, hk, hr, rfl⟩)
 ·intro h u hu
  obtain ⟨t, k, p, s, ht, hk, hr, _⟩ := mem_allU.1 hu
  exact h (mem_usesAll.2 ⟨t, k, p, s, ht, hk, hr⟩)

theorem stageOk_nodup {s : Stage} (h : stageOk s = true) : (stUses s).Nodup := by
 simp only [stageOk, Bool.and_eq_true, decide_eq_true_eq] at h
 obtain ⟨⟨⟨_, h2⟩, h3⟩, _⟩ := h
 obtain ⟨sec, pts, mn, nt⟩ := s
 match pts, h2, h3 with
 | [], _, _ => simp [stUses]
 | [a], _, h3 =>
  simp [ptsFrom, ptOk] at h3
  simp [stUses]; exact fun e => h3.2 e.symm
 | [a, b], _, h3 =>
  simp [ptsFrom, ptOk] at h3
  simp [stUses]; exact ⟨⟨fun e => h3.1.2 e.symm, fun e => h3.2.1.2 e.symm⟩, fun e => h3.2.2 e.symm⟩
 | _ :: _ :: _ :: _, h2, _ => simp at h2
theorem stepsFrom_all {p : List Stage} : ∀ (l : List Stage) (j : Nat), stepsFrom p j l = true → ∀ s ∈ l, stageOk s = true
 | [], _, _, s, hs => by simp at hs
 | a :: l, j, h, s, hs => by
  simp only [stepsFrom, Bool.and_eq_true, stepOk] at h
  rcases List.mem_cons.1 hs with rfl | hs
  ·exact h.1.1
  ·exact stepsFrom_all l (j + 1) h.2 s hs
theorem valid_stage {ps : List (List Stage)} (h : valid ps = true) {p : List Stage} (hp : p ∈ ps) {s : Stage} (hs : s ∈ p) : stageOk s = true := by
 simp only [valid, Bool.and_eq_true, decide_eq_true_eq, List.all_eq_true] at h
 have := h.1.2 p hp
 simp only [pathOk, Bool.and_eq_true, decide_eq_true_eq] at this
 exact stepsFrom_all p 0 this.2 s hs
theorem valid_lens {ps : List (List Stage)} (h : valid ps = true) : ps.length ≤ 10 ∧ ∀ p ∈ ps, 1 ≤ p.length ∧ p.length ≤ 64 := by
 simp only [valid, Bool.and_eq_true, decide_eq_true_eq, List.all_eq_true] at h
 refine ⟨h.1.1, fun p hp => ?_⟩
 have := h.1.2 p hp
 simp only [pathOk, Bool.and_eq_true, decide_eq_true_eq] at this
 exact this.1
theorem valid_use {ps : List (List Stage)} (h : valid ps = true) {r : Int} (hr : r ∈ usesAll ps) : 0 ≤ r ∧ r < 144 := by
 obtain ⟨t, k, p, s, ht, hk, hr⟩ := mem_usesAll.1 hr
 have hs := valid_stage h (List.mem_of_getElem? ht) (List.mem_of_getElem? hk)
 simp only [stUses, List.mem_cons] at hr
 have : isRes r = true := by
  rcases hr with rfl | hr
  ·exact stageOk_sec hs
  ·exact stageOk_pts hs r hr
 simp [isRes] at this; exact this

def PairOk (v u : Ref) : Prop := v ≠ u ∧ ¬ (v.tr = u.tr ∧ u.st < v.st)
instance (v u : Ref) : Decidable (PairOk v u) := by unfold PairOk; infer_instance
def exactlyB (l want : List Ref) : Bool := decide (l.length = want.length) && l.all (fun u => decide (u ∈ want)) && decide (l.Pairwise PairOk)
def resTo (ps : List (List Stage)) : Nat → List Int
 | 0 => []
 | n + 1 => resTo ps n ++ (if (n : Int) ∈ usesAll ps then [(n : Int)] else [])
def checkO (ps : List (List Stage)) (os : List Order) : Bool := valid ps && decide (os.map (·.res) = resTo ps 144) && os.all (fun o => exactlyB o.uses (allU ps o.res))

theorem mem_resTo {ps : List (List Stage)} {r : Int} : ∀ n : Nat, r ∈ resTo ps n ↔ r ∈ usesAll ps ∧ 0 ≤ r ∧ r < n
 | 0 => by simp [resTo]; try omega
 | n + 1 => by
  simp only [resTo, List.mem_append, mem_resTo n]
  by_cases h : (n : Int) ∈ usesAll ps
  ·simp only [h, if_true, List.mem_singleton]
   constructor
   ·rintro (⟨h1, h2, h3⟩ | rfl)
    ·exact ⟨h1, h2, by omega⟩
    ·exact ⟨h, by omega, by omega⟩
   ·rintro ⟨h1, h2, h3⟩
    by_cases e : r = n
    ·exact .inr e
    ·exact .inl ⟨h1, h2, by omega⟩
  ·simp only [h, if_false, List.not_mem_nil, or_false]
   constructor
   ·rintro ⟨h1, h2, h3⟩; exact ⟨h1, h2, by omega⟩
   ·rintro ⟨h1, h2, h3⟩
    refine ⟨h1, h2, ?_⟩
    have : r ≠ n := by rintro rfl; exact h h1
    omega
theorem resTo_pw (ps : List (List Stage)) : ∀ n : Nat, (resTo ps n).Pairwise (· < ·)
 | 0 => List.Pairwise.nil
 | n + 1 => by
  rw [resTo, List.pairwise_append]
  refine ⟨resTo_pw ps n, by split <;> simp, fun a ha b hb => ?_⟩
  split at hb
  ·simp at hb; subst hb; exact ((mem_resTo n).1 ha).2.2
  ·simp at hb
theorem resTo_le (ps : List (List Stage)) (n : Nat) : ∀ m, n ≤ m → ∃ l, resTo ps m = resTo ps n ++ l
  | 0, h => by obtain rfl : n = 0 := by omega
               exact ⟨[], by simp⟩
  | m + 1, h => by
    by_cases e : n = m + 1
    · subst e; exact ⟨[], by simp⟩
    · obtain ⟨l, hl⟩ := resTo_le ps n m (by omega)
      exact ⟨l ++ _, by rw [resTo, hl, List.append_assoc]⟩
theorem pw_ext : ∀ (l m : List Int), l.Pairwise (· < ·) → m.Pairwise (· < ·) → (∀ x, x ∈ l ↔ x ∈ m) → l = m
  | [], [], _, _, _ => rfl
  | [], b :: m, _, _, h => by have := (h b).2 (by simp); simp at this
  | a :: l, [], _, _, h => by have := (h a).1 (by simp); simp at this
  | a :: l, b :: m, hl, hm, h => by
    obtain ⟨ha, hl'⟩ := List.pairwise_cons.1 hl
    obtain ⟨hb, hm'⟩ := List.pairwise_cons.1 hm
    have hab : a = b := by
      have h1 := (h a).1 (by simp)
      have h2 := (h b).2 (by simp)
      rcases List.mem_cons.1 h1 with e | h1
      · exact e
      · rcases List.mem_cons.1 h2 with e | h2
        · exact e.symm
        · have := ha b h2; have := hb a h1; omega
    subst hab
    have key : ∀ x, x ∈ l ↔ x ∈ m := by
     intro x
     constructor
     · intro hx
       have := ha x hx
       rcases List.mem_cons.1 ((h x).1 (by simp [hx])) with e | h'
       · omega
       · exact h'
     · intro hx
       have := hb x hx
       rcases List.mem_cons.1 ((h x).2 (by simp [hx])) with e | h'
       · omega
       · exact h'
    rw [pw_ext l m hl' hm' key]
theorem nodup_le {l m : List Int} (hl : l.Nodup) (h : ∀ x ∈ l, x ∈ m) : l.length ≤ m.length := by
 induction l generalizing m with
 | nil => simp
 | cons a l ih =>
  obtain ⟨ha, hl⟩ := List.nodup_cons.1 hl
  have hm := h a (by simp)
  have := ih (m := m.erase a) hl (fun x hx => by
   have hx' := h x (by simp [hx])
   exact (List.mem_erase_of_ne (by rintro rfl; exact ha hx)).2 hx')
  rw [List.length_erase_of_mem hm] at this
  have := List.length_pos_of_mem hm
  simp; omega
theorem nodup_full {l m : List Int} (hl : l.Nodup) (h : ∀ x ∈ l, x ∈ m) (hlen : m.length ≤ l.length) (_hm : m.Nodup) : ∀ x ∈ m, x ∈ l := by
 intro x hx
 rcases Classical.em (x ∈ l) with h' | h'
 ·exact h'
 ·have := nodup_le (l := x :: l) (m := m) (List.nodup_cons.2 ⟨h', hl⟩) (fun y hy => by
   rcases List.mem_cons.1 hy with rfl | hy
   ·exact hx
   ·exact h y hy)
  simp at this; omega

def useFits (ps : List (List Stage)) (r : Int) (last : List Int) (u : Ref) : Bool :=
 decide (0 ≤ u.tr) && decide (u.tr < ps.length) && decide ((last[u.tr.toNat]?).getD 0 < u.st) && decide (u.st < ((ps[u.tr.toNat]?).getD []).length) && decide (r ∈ (((ps[u.tr.toNat]?).getD [])[u.st.toNat]?).elim [] stUses)
def properFrom (ps : List (List Stage)) (r : Int) : List Ref → List Int → Bool
 | [], _ => true
 | u :: l, last => useFits ps r last u && properFrom ps r l (last.set u.tr.toNat u.st)
def properB (ps : List (List Stage)) (o : Order) : Bool := properFrom ps o.res o.uses (List.replicate ps.length (-1))

theorem useFits_iff {ps : List (List Stage)} {r : Int} {last : List Int} (hl : last.length = ps.length) (hm : ∀ x ∈ last, -1 ≤ x) (u : Ref) :
  useFits ps r last u = true ↔ u ∈ allU ps r ∧ ∀ x, last[u.tr.toNat]? = some x → x < u.st := by
 obtain ⟨tr, st⟩ := u
 simp only [useFits, Bool.and_eq_true, decide_eq_true_eq, mem_allU]
 constructor
 ·rintro ⟨⟨⟨⟨h1, h2⟩, h3⟩, h4⟩, h5⟩
  obtain ⟨t, rfl⟩ := Int.eq_ofNat_of_zero_le h1
  have ht : t < ps.length := by omega
  have htl : t < last.length := by omega
  simp only [Int.toNat_natCast] at *
  have e1 := List.getElem?_eq_getElem ht
  have e2 := List.getElem?_eq_getElem htl
  rw [e2] at h3; rw [e1] at h4 h5
  simp only [Option.getD_some] at h3 h4 h5
  have := hm last[t] (List.getElem_mem _)
  obtain ⟨k, rfl⟩ := Int.eq_ofNat_of_zero_le (by omega : 0 ≤ st)
  have hk : k < ps[t].length := by omega
  simp only [Int.toNat_natCast] at h5
  rw [List.getElem?_eq_getElem hk] at h5
  refine ⟨⟨t, k, ps[t], ps[t][k], e1, List.getElem?_eq_getElem hk, h5, rfl⟩, fun x hx => ?_⟩
  rw [e2] at hx; injection hx with hx; omega
 ·rintro ⟨⟨t, k, p, s, ht, hk, hr, hu⟩, hlast⟩
  injection hu with h1 h2
  subst h1 h2
  have h1 := getElem?_lt ht
  have h2 := getElem?_lt hk
  simp only [Int.toNat_natCast] at hlast ⊢
  have e2 := List.getElem?_eq_getElem (show t < last.length by omega)
  rw [ht, e2]
  simp only [Option.getD_some]
  rw [hk]
  exact ⟨⟨⟨⟨by omega, by omega⟩, hlast _ e2⟩, by omega⟩, hr⟩
def Before (v u : Ref) : Prop := v.tr = u.tr → v.st < u.st
theorem properFrom_iff {ps : List (List Stage)} {r : Int} : ∀ (l : List Ref) (last : List Int), last.length = ps.length → (∀ x ∈ last, -1 ≤ x) →
  (properFrom ps r l last = true ↔ (∀ u ∈ l, u ∈ allU ps r ∧ ∀ x, last[u.tr.toNat]? = some x → x < u.st) ∧ l.Pairwise Before)
 | [], last, _, _ => by simp [properFrom]
 | u :: l, last, hl, hm => by
  rw [properFrom, Bool.and_eq_true, useFits_iff hl hm u, List.pairwise_cons]
  constructor
  ·rintro ⟨⟨h1, h2⟩, h3⟩
   obtain ⟨t, k, p, s, ht, hk, hr, hu⟩ := mem_allU.1 h1
   have hst : -1 ≤ u.st := by rw [hu]; show (-1 : Int) ≤ (k : Int); omega
   have h4 := (properFrom_iff l (last.set u.tr.toNat u.st) (by simpa using hl) (fun x hx => by
    rcases List.mem_or_eq_of_mem_set hx with h | rfl
    ·exact hm x h
    ·exact hst)).1 h3
   have htl : u.tr.toNat < last.length := by rw [hu]; simp; have := getElem?_lt ht; omega
   refine ⟨fun v hv => ?_, fun v hv e => ?_, h4.2⟩
   ·rcases List.mem_cons.1 hv with rfl | hv
    ·exact ⟨h1, h2⟩
    ·obtain ⟨a, b⟩ := h4.1 v hv
     refine ⟨a, fun x hx => ?_⟩
     by_cases e : u.tr.toNat = v.tr.toNat
     ·have h5 := b u.st (by rw [← e]; simp [htl])
      have h6 := h2 x (by rw [e]; exact hx)
      omega
     ·exact b x (by rw [List.getElem?_set_ne e]; exact hx)
   ·obtain ⟨a, b⟩ := h4.1 v hv
    exact b u.st (by rw [← e]; simp [htl])
  ·rintro ⟨h1, h2, h3⟩
   have hu := h1 u (by simp)
   obtain ⟨t, k, p, s, ht, hk, hr, hu'⟩ := mem_allU.1 hu.1
   have hst : -1 ≤ u.st := by rw [hu']; show (-1 : Int) ≤ (k : Int); omega
   refine ⟨hu, (properFrom_iff l (last.set u.tr.toNat u.st) (by simpa using hl) (fun x hx => by
    rcases List.mem_or_eq_of_mem_set hx with h | rfl
    ·exact hm x h
    ·exact hst)).2 ⟨fun v hv => ?_, h3⟩⟩
   have hv' := h1 v (by simp [hv])
   refine ⟨hv'.1, fun x hx => ?_⟩
   by_cases e : u.tr.toNat = v.tr.toNat
   ·have htl : u.tr.toNat < last.length := by rw [hu']; simp; have := getElem?_lt ht; omega
    rw [← e, List.getElem?_set_self htl] at hx
    injection hx with hx; subst hx
    refine h2 v hv ?_
    obtain ⟨t', k', _, _, _, _, _, hv2⟩ := mem_allU.1 hv'.1
    rw [hu', hv2] at e ⊢; simp at e ⊢; omega
   ·rw [List.getElem?_set_ne e] at hx
    exact hv'.2 x hx
theorem properB_iff {ps : List (List Stage)} {o : Order} : properB ps o = true ↔ (∀ u ∈ o.uses, u ∈ allU ps o.res) ∧ o.uses.Pairwise Before := by
 unfold properB
 rw [properFrom_iff _ _ (by simp) (by intro x hx; simp at hx; omega)]
 constructor
 ·rintro ⟨h1, h2⟩; exact ⟨fun u hu => (h1 u hu).1, h2⟩
 ·rintro ⟨h1, h2⟩
  refine ⟨fun u hu => ⟨h1 u hu, fun x hx => ?_⟩, h2⟩
  obtain ⟨t, k, p, s, ht, hk, hr, rfl⟩ := mem_allU.1 (h1 u hu)
  have := List.mem_of_getElem? hx
  simp at this
  obtain ⟨_, rfl⟩ := this
  show (-1 : Int) < (k : Int); omega
theorem pairOk_before {l : List Ref} : l.Pairwise PairOk ↔ l.Pairwise Before := by
 constructor <;> intro h <;> refine h.imp ?_
 ·intro v u ⟨h1, h2⟩ e
  have : v.st ≠ u.st := fun e2 => h1 (by cases v; cases u; simp_all)
  omega
 ·intro v u h
  refine ⟨fun e => ?_, fun ⟨e, h'⟩ => ?_⟩
  ·subst e; have := h rfl; omega
  ·have := h e; omega
theorem exactly_proper {ps : List (List Stage)} {o : Order} : exactlyB o.uses (allU ps o.res) = (decide (o.uses.length = (allU ps o.res).length) && properB ps o) := by
 rw [Bool.eq_iff_iff]
 simp only [exactlyB, Bool.and_eq_true, decide_eq_true_eq, List.all_eq_true, properB_iff, pairOk_before, and_assoc]

structure GArc where
 frm : Int
 wt : Int
 deriving DecidableEq, Inhabited, Repr

def evs (ps : List (List Stage)) : List Ref := ps.zipIdx.flatMap fun q => (List.range (q.1.length + 1)).map fun k : Nat => ⟨(q.2 : Int), (k : Int)⟩
def fst (ps : List (List Stage)) (t : Nat) : Nat := (evs (ps.take t)).length
def firsts (ps : List (List Stage)) : List Int := (List.range ps.length).map fun t : Nat => (fst ps t : Int)
theorem evs_succ {ps : List (List Stage)} {t : Nat} {p : List Stage} (h : ps[t]? = some p) : evs (ps.take (t + 1)) = evs (ps.take t) ++ (List.range (p.length + 1)).map fun k : Nat => ⟨(t : Int), (k : Int)⟩ := by
 unfold evs; rw [zipIdx_take_succ h]; simp
theorem fst_zero (ps : List (List Stage)) : fst ps 0 = 0 := by simp [fst, evs]
theorem fst_succ {ps : List (List Stage)} {t : Nat} {p : List Stage} (h : ps[t]? = some p) : fst ps (t + 1) = fst ps t + (p.length + 1) := by
 unfold fst; rw [evs_succ h]; simp
theorem fst_len (ps : List (List Stage)) : fst ps ps.length = (evs ps).length := by unfold fst; rw [List.take_length]
theorem fst_mono {ps : List (List Stage)} {t : Nat} : ∀ u, t ≤ u → u ≤ ps.length → fst ps t ≤ fst ps u
  | 0, h, _ => by obtain rfl : t = 0 := by omega
                  exact Nat.le_refl _
  | u + 1, h, hu => by
    by_cases e : t = u + 1
    · subst e; exact Nat.le_refl _
    · have := fst_mono (ps := ps) u (t := t) (by omega) (by omega)
      have hp : ps[u]? = some ps[u] := List.getElem?_eq_getElem (by omega)
      rw [fst_succ hp]; omega
theorem fst_lt {ps : List (List Stage)} {t u : Nat} {p : List Stage} (h : ps[t]? = some p) (htu : t < u) (hu : u ≤ ps.length) : fst ps t + p.length < fst ps u := by
 have := fst_mono (ps := ps) (t := t + 1) u htu hu
 rw [fst_succ h] at this; omega
theorem fst_le {ps : List (List Stage)} (hv : ∀ p ∈ ps, p.length ≤ 64) : ∀ t : Nat, t ≤ ps.length → fst ps t ≤ t * 65
 | 0, _ => by rw [fst_zero]; omega
 | t + 1, ht => by
  have hp : ps[t]? = some ps[t] := List.getElem?_eq_getElem (by omega)
  rw [fst_succ hp]
  have h1 := fst_le hv t (by omega)
  have h3 := hv ps[t] (List.getElem_mem _)
  omega
theorem evs_at {ps : List (List Stage)} {t : Nat} {p : List Stage} (h : ps[t]? = some p) {k : Nat} (hk : k ≤ p.length) : (evs ps)[fst ps t + k]? = some ⟨(t : Int), (k : Int)⟩ := by
 have ht := getElem?_lt h
 have e : evs ps = evs (ps.take (t + 1)) ++ (evs ps).drop (fst ps (t + 1)) := by
  have hpre : ∀ m, m ≤ ps.length → (evs ps).take (fst ps m) = evs (ps.take m) := by
   intro m hm
   unfold fst
   have : ∃ l, evs ps = evs (ps.take m) ++ l := by
    have : ps.zipIdx = (ps.take m).zipIdx ++ (ps.drop m).zipIdx m := by
     conv => lhs; rw [← List.take_append_drop m ps]
     rw [List.zipIdx_append]; simp; congr 1; omega
    unfold evs
    rw [this, List.flatMap_append]
    exact ⟨_, rfl⟩
   obtain ⟨l, hl⟩ := this
   rw [hl]; simp
  conv => lhs; rw [← List.take_append_drop (fst ps (t + 1)) (evs ps), hpre (t + 1) (by omega)]
 rw [e, evs_succ h, List.append_assoc]
 rw [List.getElem?_append_right (by show (evs (ps.take t)).length ≤ _; unfold fst; omega)]
 have e2 : fst ps t + k - (evs (ps.take t)).length = k := by unfold fst; omega
 rw [e2, List.getElem?_append_left (by simp; omega)]
 simp [Nat.lt_succ_of_le hk]
theorem firsts_at {ps : List (List Stage)} {t : Nat} (h : t < ps.length) : (firsts ps)[t]? = some (fst ps t : Int) := by
 simp [firsts, h]
theorem firsts_len (ps : List (List Stage)) : (firsts ps).length = ps.length := by simp [firsts]
theorem evs_inv {ps : List (List Stage)} : ∀ m : Nat, m ≤ ps.length → ∀ {i : Nat}, i < fst ps m → ∃ (t k : Nat) (p : List Stage), t < m ∧ ps[t]? = some p ∧ k ≤ p.length ∧ i = fst ps t + k
 | 0, _, i, hi => by rw [fst_zero] at hi; omega
 | m + 1, hm, i, hi => by
  have hp : ps[m]? = some ps[m] := List.getElem?_eq_getElem (by omega)
  rw [fst_succ hp] at hi
  by_cases h : i < fst ps m
  ·obtain ⟨t, k, p, h1, h2⟩ := evs_inv m (by omega) h
   exact ⟨t, k, p, by omega, h2⟩
  ·exact ⟨m, i - fst ps m, ps[m], by omega, hp, by omega, by omega⟩

def arcsOf (n : Nat) (adds : List (Nat × GArc)) : List (List GArc) := (List.range n).map fun i => (adds.filter fun q => q.1 == i).map (·.2)
theorem arcsOf_len (n : Nat) (adds : List (Nat × GArc)) : (arcsOf n adds).length = n := by simp [arcsOf]
theorem arcsOf_at (n : Nat) (adds : List (Nat × GArc)) {i : Nat} (hi : i < n) : (arcsOf n adds)[i]? = some ((adds.filter fun q => q.1 == i).map (·.2)) := by simp [arcsOf, hi]
theorem mem_arcsOf {n : Nat} {adds : List (Nat × GArc)} {i : Nat} {l : List GArc} (hl : (arcsOf n adds)[i]? = some l) {a : GArc} : a ∈ l ↔ (i, a) ∈ adds := by
 have hi : i < n := by have := getElem?_lt hl; rwa [arcsOf_len] at this
 rw [arcsOf_at n adds hi] at hl
 injection hl with hl; subst hl
 simp only [List.mem_map, List.mem_filter, beq_iff_eq]
 constructor
 ·rintro ⟨⟨j, b⟩, ⟨h1, h2⟩, h3⟩; simp at h2 h3; subst h2 h3; exact h1
 ·intro h; exact ⟨(i, a), ⟨h, rfl⟩, rfl⟩

def chainP (f : Nat) (p : List Stage) : List (Nat × GArc) := p.zipIdx.map fun q => (f + q.2 + 1, ⟨((f + q.2 : Nat) : Int), q.1.mn⟩)
def chainAdds (ps : List (List Stage)) : List (Nat × GArc) := ps.zipIdx.flatMap fun q => chainP (fst ps q.2) q.1

def num (ps : List (List Stage)) (u : Ref) : Nat := fst ps u.tr.toNat + u.st.toNat
def secOf (ps : List (List Stage)) (u : Ref) : Int := (((ps[u.tr.toNat]?).getD [])[u.st.toNat]?).elim (-1) (·.sec)
def relOf (ps : List (List Stage)) (r : Int) (u : Ref) : Ref := if secOf ps u = r then ⟨u.tr, u.st + 1⟩ else u
def relArcs (to : Nat) (tr : Int) (rel : List Int) : List (Nat × GArc) := rel.zipIdx.flatMap fun q => if (q.2 : Int) ≠ tr ∧ 0 ≤ q.1 then [(to, ⟨q.1, 0⟩)] else []
def useAdds (ps : List (List Stage)) (r : Int) : List Ref → List Int → List (Nat × GArc)
 | [], _ => []
 | v :: l, rel => relArcs (num ps v) v.tr rel ++ useAdds ps r l (rel.set v.tr.toNat (num ps (relOf ps r v)))
def orderAdds (ps : List (List Stage)) (o : Order) : List (Nat × GArc) := useAdds ps o.res o.uses (List.replicate ps.length (-1))
def gAdds (ps : List (List Stage)) (os : List Order) : List (Nat × GArc) := chainAdds ps ++ os.flatMap (orderAdds ps)

def nowAt (now : List Int) (t : Nat) : Int := (now[t]?).getD 0
def lenAt (ps : List (List Stage)) (t : Nat) : Nat := ((ps[t]?).getD []).length
theorem lenAt_of {ps : List (List Stage)} {t : Nat} {p : List Stage} (h : ps[t]? = some p) : lenAt ps t = p.length := by simp [lenAt, h]
theorem nowAt_of {now : List Int} {t : Nat} {x : Int} (h : now[t]? = some x) : nowAt now t = x := by simp [nowAt, h]
def doneR (now : List Int) (u : Ref) : Bool := decide (u.st ≤ nowAt now u.tr.toNat)
def evAt (ps : List (List Stage)) (i : Nat) : Ref := ((evs ps)[i]?).getD ⟨0, 0⟩
def arcsAt (arcs : List (List GArc)) (i : Nat) : List GArc := (arcs[i]?).getD []
def canGo (ps : List (List Stage)) (arcs : List (List GArc)) (now : List Int) (t : Nat) : Bool :=
 decide (nowAt now t < lenAt ps t) && (arcsAt arcs ((fst ps t : Int) + nowAt now t + 1).toNat).all fun a => doneR now (evAt ps a.frm.toNat)
def lineFrom (go : List Int → Option Nat) : Nat → List Int → List Ref × List Int
 | 0, now => ([], now)
 | f + 1, now => match go now with
  | none => ([], now)
  | some t => (⟨(t : Int), nowAt now t + 1⟩ :: (lineFrom go f (now.set t (nowAt now t + 1))).1, (lineFrom go f (now.set t (nowAt now t + 1))).2)
def total (ps : List (List Stage)) (now : List Int) : Nat := ((List.range ps.length).map fun t => ((lenAt ps t : Int) - nowAt now t).toNat).sum

def Gd (ps : List (List Stage)) (now : List Int) : Prop := now.length = ps.length ∧ ∀ t, t < ps.length → -1 ≤ nowAt now t ∧ nowAt now t ≤ lenAt ps t
theorem good_Gd {ps : List (List Stage)} {now : List Int} : good ps now = true ↔ Gd ps now := by
 simp only [good, Bool.and_eq_true, decide_eq_true_eq]
 constructor
 ·rintro ⟨h1, h2⟩
  refine ⟨h1, fun t ht => ?_⟩
  have hp : ps[t]? = some ps[t] := List.getElem?_eq_getElem ht
  have hn : now[t]? = some (now[t]'(by omega)) := List.getElem?_eq_getElem (by omega)
  have := goodFrom_at ps now h2 t _ _ hp hn
  simp [okPos] at this
  rw [nowAt_of hn, lenAt_of hp]; exact this
 ·rintro ⟨h1, h2⟩
  refine ⟨h1, ?_⟩
  clear h1
  induction ps generalizing now with
  | nil => simp [goodFrom]
  | cons p ps ih =>
   cases now with
   | nil => simp [goodFrom]
   | cons a l =>
    simp only [goodFrom, Bool.and_eq_true]
    refine ⟨?_, ih (fun t ht => ?_)⟩
    ·have := h2 0 (by simp)
     simp [nowAt, lenAt] at this
     simp [okPos]; exact this
    ·have := h2 (t + 1) (by simp; omega)
     simpa [nowAt, lenAt] using this
theorem nowAt_set {now : List Int} {t u : Nat} {x : Int} (ht : t < now.length) : nowAt (now.set t x) u = if t = u then x else nowAt now u := by
 unfold nowAt
 rw [List.getElem?_set]
 by_cases e : t = u
 ·subst e; simp [ht]
 ·simp [e]
theorem Gd.step {ps : List (List Stage)} {now : List Int} {t : Nat} (h : Gd ps now) (ht : t < ps.length) (hl : nowAt now t < lenAt ps t) : Gd ps (now.set t (nowAt now t + 1)) := by
 refine ⟨by simpa using h.1, fun u hu => ?_⟩
 rw [nowAt_set (by rw [h.1]; exact ht)]
 have h1 := h.2 u hu
 have h2 := h.2 t ht
 by_cases e : t = u
 ·subst e; simp; omega
 ·simp [e]; exact h1
theorem sum_range_upd {n t : Nat} (ht : t < n) (f g : Nat → Nat) (h1 : ∀ u, u ≠ t → f u = g u) (h2 : f t = g t + 1) : ((List.range n).map f).sum = ((List.range n).map g).sum + 1 := by
 induction n with
 | zero => omega
 | succ n ih =>
  rw [List.range_succ, List.map_append, List.sum_append, List.map_append, List.sum_append]
  simp only [List.map_cons, List.map_nil, List.sum_cons, List.sum_nil]
  by_cases e : t = n
  ·subst e
   have : (List.range t).map f = (List.range t).map g := List.map_congr_left fun u hu => h1 u (by have := List.mem_range.1 hu; omega)
   rw [this, h2]; omega
  ·rw [ih (by omega), h1 n (fun e' => e e'.symm)]; omega
theorem total_step {ps : List (List Stage)} {now : List Int} {t : Nat} (h : Gd ps now) (ht : t < ps.length) (hl : nowAt now t < lenAt ps t) : total ps now = total ps (now.set t (nowAt now t + 1)) + 1 := by
 unfold total
 refine sum_range_upd ht _ _ (fun u hu => ?_) ?_
 ·rw [nowAt_set (by rw [h.1]; exact ht), if_neg (fun e => hu e.symm)]
 ·rw [nowAt_set (by rw [h.1]; exact ht), if_pos rfl]
  omega
def Sound (ps : List (List Stage)) (go : List Int → Option Nat) : Prop := ∀ now t, go now = some t → t < ps.length ∧ nowAt now t < lenAt ps t
theorem lineFrom_inv {ps : List (List Stage)} {go : List Int → Option Nat} (hs : Sound ps go) : ∀ (f : Nat) (now : List Int), Gd ps now → Gd ps (lineFrom go f now).2 ∧ (lineFrom go f now).1.length + total ps (lineFrom go f now).2 = total ps now ∧ (total ps now ≤ f → go (lineFrom go f now).2 = none)
 | 0, now, h => by
  refine ⟨h, by simp [lineFrom], fun h0 => ?_⟩
  simp only [lineFrom]
  cases e : go now with
  | none => rfl
  | some t =>
   obtain ⟨h1, h2⟩ := hs now t e
   have := total_step h h1 h2; omega
 | f + 1, now, h => by
  simp only [lineFrom]
  cases e : go now with
  | none => exact ⟨h, by simp, fun _ => e⟩
  | some t =>
   obtain ⟨h1, h2⟩ := hs now t e
   have hst := total_step h h1 h2
   obtain ⟨i1, i2, i3⟩ := lineFrom_inv hs f _ (h.step h1 h2)
   exact ⟨i1, by simp; omega, fun hf => i3 (by omega)⟩
theorem sum_zero : ∀ (l : List Nat), l.sum = 0 → ∀ x ∈ l, x = 0
 | [], _, x, hx => by simp at hx
 | a :: l, h, x, hx => by
  simp only [List.sum_cons] at h
  rcases List.mem_cons.1 hx with rfl | hx
  ·omega
  ·exact sum_zero l (by omega) x hx
theorem total_zero {ps : List (List Stage)} {now : List Int} (h : Gd ps now) : total ps now = 0 ↔ ∀ t, t < ps.length → nowAt now t = lenAt ps t := by
 unfold total
 constructor
 ·intro h0 t ht
  have := sum_zero _ h0 (((lenAt ps t : Int) - nowAt now t).toNat) (List.mem_map.2 ⟨t, List.mem_range.2 ht, rfl⟩)
  have := h.2 t ht; omega
 ·intro h0
  have : (List.range ps.length).map (fun t => ((lenAt ps t : Int) - nowAt now t).toNat) = (List.range ps.length).map fun _ => 0 := List.map_congr_left fun t ht => by
   rw [h0 t (List.mem_range.1 ht)]; simp
  rw [this]
  induction (List.range ps.length) with
  | nil => rfl
  | cons a l ih => simpa using ih
theorem sum_le_mul (f : Nat → Nat) (B : Nat) : ∀ n, (∀ t, t < n → f t ≤ B) → ((List.range n).map f).sum ≤ n * B
 | 0, _ => by simp
 | n + 1, h => by
  rw [List.range_succ, List.map_append, List.sum_append]
  have h1 := sum_le_mul f B n (fun t ht => h t (by omega))
  have h2 := h n (by omega)
  simp only [List.map_cons, List.map_nil, List.sum_cons, List.sum_nil]
  rw [Nat.succ_mul]; omega
theorem lenAt_le {ps : List (List Stage)} (hv : valid ps = true) (t : Nat) : lenAt ps t ≤ 64 := by
 unfold lenAt
 cases e : ps[t]? with
 | none => simp
 | some p => simpa using ((valid_lens hv).2 p (List.mem_of_getElem? e)).2
theorem total_le {ps : List (List Stage)} (hv : valid ps = true) {now : List Int} (h : Gd ps now) : total ps now ≤ 650 := by
 have h1 := sum_le_mul (fun t => ((lenAt ps t : Int) - nowAt now t).toNat) 65 ps.length (fun t ht => by
  have := h.2 t ht
  have := lenAt_le hv t
  omega)
 have := (valid_lens hv).1
 unfold total; omega

def Last (l : List Ref) (w : Ref) : Prop := w ∈ l ∧ ∀ x ∈ l, x.tr = w.tr → x.st ≤ w.st
def RelOf (ps : List (List Stage)) (r : Int) (past : List Ref) (rel : List Int) : Prop :=
 rel.length = ps.length ∧ ∀ t, t < ps.length → (rel[t]? = some (-1) ∧ ∀ w ∈ past, w.tr ≠ (t : Int)) ∨ ∃ w, Last past w ∧ w.tr = (t : Int) ∧ rel[t]? = some ((num ps (relOf ps r w) : Nat) : Int)
theorem RelOf.nil (ps : List (List Stage)) (r : Int) : RelOf ps r [] (List.replicate ps.length (-1)) := ⟨by simp, fun t ht => .inl ⟨by simp [ht], by simp⟩⟩
theorem RelOf.step {ps : List (List Stage)} {r : Int} {past : List Ref} {rel : List Int} {v : Ref} (h : RelOf ps r past rel) (hv : v ∈ allU ps r) (hp : ∀ w ∈ past, Before w v) : RelOf ps r (past ++ [v]) (rel.set v.tr.toNat (num ps (relOf ps r v) : Nat)) := by
 obtain ⟨tv, kv, p, s, hpp, _, _, rfl⟩ := mem_allU.1 hv
 have htv := getElem?_lt hpp
 refine ⟨by simpa using h.1, fun t ht => ?_⟩
 simp only [Int.toNat_natCast]
 rw [List.getElem?_set]
 by_cases e : tv = t
 ·subst e
  right
  refine ⟨⟨(tv : Int), (kv : Int)⟩, ⟨by simp, fun x hx he => ?_⟩, rfl, by rw [if_pos rfl, if_pos (by rw [h.1]; exact htv)]⟩
  rcases List.mem_append.1 hx with hx | hx
  ·have := hp x hx he; omega
  ·simp at hx; subst hx; exact Int.le_refl _
 ·rw [if_neg e]
  rcases h.2 t ht with ⟨h1, h2⟩ | ⟨w, hw, h1, h2⟩
  ·left
   refine ⟨h1, fun w hw => ?_⟩
   rcases List.mem_append.1 hw with hw | hw
   ·exact h2 w hw
   ·simp at hw; subst hw; show (tv : Int) ≠ (t : Int); omega
  ·right
   refine ⟨w, ⟨by simp [hw.1], fun x hx he => ?_⟩, h1, h2⟩
   rcases List.mem_append.1 hx with hx | hx
   ·exact hw.2 x hx he
   ·simp at hx; subst hx
    rw [h1] at he
    have he : (tv : Int) = (t : Int) := he
    omega
theorem mem_relArcs {to : Nat} {tr : Int} {rel : List Int} {q : Nat × GArc} : q ∈ relArcs to tr rel ↔ ∃ (t : Nat) (x : Int), rel[t]? = some x ∧ (t : Int) ≠ tr ∧ 0 ≤ x ∧ q = (to, ⟨x, 0⟩) := by
 unfold relArcs
 rw [List.mem_flatMap]
 constructor
 ·rintro ⟨⟨x, t⟩, hx, hq⟩
  simp only at hq
  split at hq
  ·rename_i hc
   simp at hq
   exact ⟨t, x, List.mem_zipIdx_iff_getElem?.1 hx, hc.1, hc.2, hq⟩
  ·simp at hq
 ·rintro ⟨t, x, hx, h1, h2, rfl⟩
  exact ⟨(x, t), List.mem_zipIdx_iff_getElem?.2 hx, by simp [h1, h2]⟩
theorem mem_useAdds {ps : List (List Stage)} {r : Int} {i : Nat} {a : GArc} : ∀ (l past : List Ref) (rel : List Int), RelOf ps r past rel → (past ++ l).Pairwise Before → (∀ u ∈ past ++ l, u ∈ allU ps r) →
  ((i, a) ∈ useAdds ps r l rel ↔ ∃ (j : Nat) (v w : Ref), l[j]? = some v ∧ i = num ps v ∧ Last (past ++ l.take j) w ∧ w.tr ≠ v.tr ∧ a = ⟨((num ps (relOf ps r w) : Nat) : Int), 0⟩)
 | [], past, rel, _, _, _ => by simp [useAdds]
 | v :: l, past, rel, hr, hp, hu => by
  have hb : ∀ w ∈ past, Before w v := fun w hw => (List.pairwise_append.1 hp).2.2 w hw v (by simp)
  have ih := mem_useAdds (i := i) (a := a) l (past ++ [v]) (rel.set v.tr.toNat (num ps (relOf ps r v) : Nat)) (hr.step (hu v (by simp)) hb) (by simpa using hp) (fun u hu' => hu u (by simpa using hu'))
  rw [useAdds, List.mem_append, ih, mem_relArcs]
  constructor
  ·rintro (⟨t, x, hx, h1, h2, hq⟩ | ⟨j, v', w, h1, h2, h3, h4, h5⟩)
   ·injection hq with hq1 hq2
    have ht : t < ps.length := by have := getElem?_lt hx; rw [hr.1] at this; exact this
    rcases hr.2 t ht with ⟨h3, _⟩ | ⟨w, hw, h3, h4⟩
    ·rw [h3] at hx; injection hx with hx; omega
    ·rw [h4] at hx; injection hx with hx
     exact ⟨0, v, w, rfl, hq1, by simpa using hw, by rw [h3]; exact h1, by rw [hq2, ← hx]⟩
   ·exact ⟨j + 1, v', w, by simpa using h1, h2, by simpa using h3, h4, h5⟩
  ·rintro ⟨j, v', w, h1, h2, h3, h4, h5⟩
   cases j with
   | zero =>
    simp at h1; subst h1
    left
    have hw : w ∈ past := by simpa using h3.1
    obtain ⟨tw, kw, pw, sw, hpw, _, _, hwe⟩ := mem_allU.1 (hu w (by simp [hw]))
    have htw := getElem?_lt hpw
    have htr : w.tr = (tw : Int) := by rw [hwe]
    rcases hr.2 tw htw with ⟨_, hno⟩ | ⟨w2, hw2, ht2, hx2⟩
    ·exact absurd htr (hno w hw)
    ·have hL : Last past w := by simpa using h3
     have e1 := hL.2 w2 hw2.1 (by rw [ht2, htr])
     have e2 := hw2.2 w hw (by rw [ht2, htr])
     have : w2 = w := by
      cases w; cases w2
      simp only at *
      simp; omega
     subst this
     exact ⟨tw, _, hx2, by rw [← htr]; exact h4, by omega, by rw [h2, h5]⟩
   | succ j =>
    right
    exact ⟨j, v', w, by simpa using h1, h2, by simpa using h3, h4, h5⟩
theorem relOf_tr (ps : List (List Stage)) (r : Int) (w : Ref) : (relOf ps r w).tr = w.tr := by unfold relOf; split <;> rfl

theorem tyInt : ElemTy Try.prog 22 3 1 8 := .mk' Try.underlying22 (z := .int .i64 0) (by kernel_rfl) rfl (by omega)

def secs8 (ps : List (List Stage)) : Prop := ∀ p ∈ ps, ∀ s ∈ p, 0 ≤ s.sec ∧ s.sec < 8

def cellsB' (l : List Bool) : Array Value := (l.map Value.bool).toArray
theorem cellsB'_set (l : List Bool) (n : Nat) : (cellsB' l).setIfInBounds n (.bool true) = cellsB' (l.set n true) := by simp [cellsB', List.map_set]

structure AtInv (w : World) (ps : List (List Stage)) (wr : World) (v : Value) (n : Nat) : Prop where
 k : KeepsAll w wr
 src : ∃ rest, Src wr (Old w) w.heap.size rest
 held : ∃ l : List Bool, l.length = 8 ∧ Blk wr (w.heap.size + 1) 119 (cellsB' l)
 out : ∃ l : List Int, l.length = n ∧ goodFrom (ps.take n) l = true ∧ OwnL 3 1 RInt wr (w.heap.size + 2) (w.heap.size + 2) v l
theorem AtInv.size {w : World} {ps : List (List Stage)} {wr : World} {v : Value} {n : Nat} (h : AtInv w ps wr v n) : w.heap.size + 1 < wr.heap.size := by
 obtain ⟨l, _, hb⟩ := h.held; exact hb.lt
theorem AtInv.keep {w : World} {ps : List (List Stage)} {wr w' : World} {v : Value} {n : Nat} {C : Foot} (h : AtInv w ps wr v n) (k : Keeps C wr w') (hC : ∀ b, C b → b = w.heap.size ∨ b = w.heap.size + 1)
  (hs : ∃ rest, Src w' (Old w) w.heap.size rest) (hh : ∃ l : List Bool, l.length = 8 ∧ Blk w' (w.heap.size + 1) 119 (cellsB' l)) : AtInv w ps w' v n := by
 refine ⟨h.k.trans k (fun x hx hc => by have := hC x hc; omega), hs, hh, ?_⟩
 obtain ⟨l, h1, h2, h3⟩ := h.out
 exact ⟨l, h1, h2, h3.keeps RInt.ok k (fun b hb hc => by have := hC b hc; omega)⟩

theorem goodFrom_snoc : ∀ (ps : List (List Stage)) (l : List Int) (p : List Stage) (a : Int), ps.length = l.length → goodFrom ps l = true → okPos p a = true → goodFrom (ps ++ [p]) (l ++ [a]) = true
 | [], [], p, a, _, _, h => by simp [goodFrom, h]
 | q :: ps, b :: l, p, a, hl, h, ho => by
  simp only [goodFrom, Bool.and_eq_true, List.cons_append] at h ⊢
  exact ⟨h.1, goodFrom_snoc ps l p a (by simpa using hl) h.2 ho⟩
 | [], _ :: _, _, _, hl, _, _ => by simp at hl
 | _ :: _, [], _, _, hl, _, _ => by simp at hl

theorem AtInv.mark {w : World} {ps : List (List Stage)} {wr : World} {v : Value} {n : Nat} {lh : List Bool} (h : AtInv w ps wr v n) (hl : lh.length = 8) (hb : Blk wr (w.heap.size + 1) 119 (cellsB' lh)) (q : Nat) :
  AtInv w ps (wr.setCell ⟨w.heap.size + 1, q, none⟩ (.bool true)) v n := by
 have kk := (Keeps.refl (fun b => b = w.heap.size + 1) wr).setCell (p := ⟨w.heap.size + 1, q, none⟩) (fun _ => rfl) (.bool true)
 have hz := h.size
 refine h.keep kk (fun b hb => .inr hb) ?_ ?_
 ·obtain ⟨r, hr⟩ := h.src
  exact ⟨r, hr.keeps kk (fun b hb => by have : b < w.heap.size := hb; exact ⟨by omega, by omega⟩) (by simp)⟩
 ·exact ⟨lh.set q true, by simpa using hl, by rw [← cellsB'_set]; exact hb.set_ q _⟩
theorem AtInv.grow {w : World} {ps : List (List Stage)} {wr w9 : World} {v v' : Value} {n : Nat} {o : Obj} {l0 : List Int} {p : List Stage} {a : Int} (h : AtInv w ps wr v n) (ho : OwnL 3 1 RInt wr (w.heap.size + 2) (w.heap.size + 2) v l0)
  (hl : l0.length = n) (hg : goodFrom (ps.take n) l0 = true) (hp : ps[n]? = some p) (hok : okPos p a = true) (ho9 : OwnL 3 1 RInt w9 (w.heap.size + 2) (w.heap.size + 2) v' (l0 ++ [a])) (hk : Keeps (fun b => v.ownBlock = some b) (wr.alloc o) w9) : AtInv w ps w9 v' (n + 1) := by
 have k2 : Keeps (fun b => v.ownBlock = some b) wr w9 := ((Keeps.refl _ wr).alloc o).trans hk (fun _ _ h => h)
 have far : ∀ b, b < w.heap.size + 2 → ¬ (v.ownBlock = some b) := fun b hb e => by have := ho.lt e; omega
 have hlt : n < ps.length := getElem?_lt hp
 refine ⟨h.k.trans k2 (fun x hx e => far x (by omega) e), ?_, ?_, ⟨l0 ++ [a], by simp [hl], ?_, ho9⟩⟩
 ·obtain ⟨r, hr⟩ := h.src
  have := h.size
  exact ⟨r, hr.keeps k2 (fun b hb => by have hb' : b < w.heap.size := hb; exact ⟨by omega, far b (by omega)⟩) (far _ (by omega))⟩
 ·obtain ⟨lh, q1, q2⟩ := h.held
  exact ⟨lh, q1, q2.kept k2 (far _ (by omega))⟩
 ·rw [List.take_add_one, hp]
  exact goodFrom_snoc _ _ _ _ (by simp; omega) hg hok

def AllRd {α : Type} (size : Nat) (E : Rd α) (w : World) (S : Foot) : List (List Value) → List α → Prop
 | [], [] => True
 | es :: r, x :: l => (es.length = size ∧ E w S es x) ∧ AllRd size E w S r l
 | _, _ => False
theorem AllRd.spec {α : Type} {size : Nat} {E : Rd α} {w : World} {S : Foot} : ∀ {ess : List (List Value)} {l : List α}, AllRd size E w S ess l → ess.length = l.length ∧ (∀ es ∈ ess, es.length = size) ∧ ∀ (j : Nat) es x, ess[j]? = some es → l[j]? = some x → E w S es x
 | [], [], _ => by simp
 | es :: r, x :: l, h => by
  obtain ⟨h1, h2, h3⟩ := AllRd.spec h.2
  refine ⟨by simp [h1], fun es' hes => ?_, fun j es' x' he hx => ?_⟩
  ·rcases List.mem_cons.1 hes with rfl | hes
   ·exact h.1.1
   ·exact h2 es' hes
  ·cases j with
   | zero => simp at he hx; subst he hx; exact h.1.2
   | succ j => exact h3 j es' x' (by simpa using he) (by simpa using hx)
 | [], _ :: _, h => h.elim
 | _ :: _, [], h => h.elim
theorem RSlice.ofBlk {α : Type} {size : Nat} {E : Rd α} {w : World} {S : Foot} {b : Nat} {t : TypeId} {cs : Array Value} (hb : Blk w b t cs) (hS : S b) (ess : List (List Value)) (l : List α) (hc : cs.toList = ess.flatten) (h : AllRd size E w S ess l) (hl : l.length ≤ 9223372036854775807) :
  RSlice size E w S [.slice (some ⟨b, 0, none⟩) l.length l.length] l := by
 obtain ⟨h1, h2, h3⟩ := h.spec
 refine ⟨_, _, rfl, Nat.le_refl _, hl, fun _ => ⟨b, 0, rfl, hS, fun j x hx => ?_⟩⟩
 have hj : j < ess.length := by rw [h1]; exact getElem?_lt hx
 have he : ess[j]? = some ess[j] := List.getElem?_eq_getElem hj
 have hsz := h2 ess[j] (List.getElem_mem hj)
 refine ⟨ess[j], hsz, h3 j _ x he hx, fun i u hu => ?_⟩
 have hi : i < size := by rw [← hsz]; exact getElem?_lt hu
 rw [Nat.zero_add, hb.cell, ← Array.getElem?_toList, hc, flatten_at h2 he hi]
 exact hu
theorem RInts.ofBlk {w : World} {S : Foot} {b : Nat} {t : TypeId} (l : List Int) (hb : Blk w b t (l.map (Value.int .i64)).toArray) (hS : S b) (hl : l.length ≤ 9223372036854775807) : RInts w S [.slice (some ⟨b, 0, none⟩) l.length l.length] l := by
 refine RSlice.ofBlk hb hS (l.map fun x => [.int .i64 x]) l ?_ ?_ hl
 ·clear hb hl hS
  induction l with
  | nil => rfl
  | cons a l ih => simp only [List.map_cons, List.flatten_cons, List.singleton_append] at ih ⊢; rw [← ih]
 ·clear hb hl hS
  induction l with
  | nil => trivial
  | cons a l ih => exact ⟨⟨rfl, rfl⟩, ih⟩

def cellsI (l : List Int) : Array Value := (l.map (Value.int .i64)).toArray
theorem cellsI_at {l : List Int} {n : Nat} {x : Int} (h : l[n]? = some x) : (cellsI l)[n]? = some (.int .i64 x) := by simp [cellsI, h]
theorem cellsI_set (l : List Int) (n : Nat) (x : Int) : (cellsI l).setIfInBounds n (.int .i64 x) = cellsI (l.set n x) := by simp [cellsI, List.map_set]
theorem madeCells_one (z : Value) (n : Nat) : madeCells #[z] n = (List.replicate n z).toArray := by
 apply Array.ext
 ·simp [madeCells]
 ·intro i h1 h2
  simp [madeCells, Nat.mod_one]
theorem mkInts (n : Nat) (hn : n ≤ 1000000) (W : World) : (Instr.makeSlice 22 (.int .i64 (n : Int)) (.int .i64 (n : Int))).run Try.prog W = .ok (.slice (some ⟨W.heap.size, 0, none⟩) n n) (W.alloc (.cells (cellsI (List.replicate n 0)) 3)) := by
 have h := run_make_row' (P := Try.prog) 22 3 (.int .i64 0) 8 Try.underlying22 (by kernel_rfl) rfl .i64 .i64 n (by omega) (by omega) W
 rw [madeCells_one] at h
 rw [h]; simp [cellsI]

end Go.Proofs.Ytilbbpbjhoidhaa
