/- The orders of a complete choice: sorted by the decisions. No program in sight. What choosing one more pair does to the labels, and the labels without any chosen pair. No program in sight. -/
import Derived.Test.YtilbbpbjhoidhaaK16
namespace Go.Proofs.Ytilbbpbjhoidhaa
open Go.RowKit

/-- which of two uses of a resource comes first, by the arcs -/
def precD (ps : List (List Stage)) (D : List RArc) (r : Int) (u v : Ref) : Bool := if u.tr = v.tr then decide (u.st < v.st) else decide (arc0 (relOf ps r u) v ∈ D)
/-- all pairs of a list of uses are decided -/
structure Dec (ps : List (List Stage)) (at_ : List Int) (D : List RArc) (r : Int) (l : List Ref) : Prop where
 use : ∀ u ∈ l, u ∈ openA ps at_ r
 nd : l.Nodup
 all : ∀ u ∈ l, ∀ v ∈ l, u.tr ≠ v.tr → arc0 (relOf ps r u) v ∈ D ∨ arc0 (relOf ps r v) u ∈ D
 sep : (∀ u ∈ l, secOf ps u = r) ∨ (∀ u ∈ l, secOf ps u ≠ r)
section
variable {ps : List (List Stage)} {at_ : List Int} {D : List RArc} {L : List Ref} {r : Int} {l : List Ref}
/-- from the entry to the release of a use -/
theorem rel_after (h : Topo ps at_ D L) {u : Ref} (hu : u ∈ openA ps at_ r) (ho : doneR at_ u = false) : u = relOf ps r u ∨ Bf L u (relOf ps r u) := by
 unfold relOf
 by_cases e : secOf ps u = r
 ·rw [if_pos e]
  right
  unfold openA openU at hu
  obtain ⟨hu, _⟩ := List.mem_filter.1 hu
  obtain ⟨t, k, p, s, hp, hs, _, rfl⟩ := mem_allU.1 hu
  have := h.chain hp ho 0 (by have := getElem?_lt hs; omega)
  simpa using this
 ·rw [if_neg e]; exact .inl rfl
theorem dec_arc (h : Topo ps at_ D L) (ho : ∀ a ∈ D, doneR at_ a.to = false) {u v : Ref} (hu : u ∈ openA ps at_ r) (hv : v ∈ openA ps at_ r) (ha : arc0 (relOf ps r u) v ∈ D) : doneR at_ v = false ∧ Bf L (relOf ps r u) v := by
 have hvo : doneR at_ v = false := ho _ ha
 refine ⟨hvo, ?_⟩
 rcases h.ord (arc0 (relOf ps r u) v) (List.mem_append_right _ ha) ⟨(open_use hv).1, hvo⟩ with h1 | h1
 ·have h2 := (open_use hu).2.2
  have h1 : doneR at_ (relOf ps r u) = true := h1
  rw [h2] at h1; cases h1
 ·exact h1
/-- a use that comes before another one of another train is over before that one is -/
theorem dec_bf (h : Topo ps at_ D L) (ho : ∀ a ∈ D, doneR at_ a.to = false) {u v : Ref} (hu : u ∈ openA ps at_ r) (hv : v ∈ openA ps at_ r) (ha : arc0 (relOf ps r u) v ∈ D) : Bf L (relOf ps r u) (relOf ps r v) := by
 obtain ⟨h1, h2⟩ := dec_arc h ho hu hv ha
 rcases rel_after h hv h1 with h3 | h3
 ·rw [← h3]; exact h2
 ·exact h2.trans h.nd h3
theorem same_bf (h : Topo ps at_ D L) (hd : Dec ps at_ D r l) {u v : Ref} (hu : u ∈ l) (hv : v ∈ l) (he : u.tr = v.tr) (hlt : u.st < v.st) : Bf L (relOf ps r u) (relOf ps r v) := by
 have hst : (relOf ps r u).st < (relOf ps r v).st := by
  unfold relOf
  rcases hd.sep with hs | hs
  ·rw [if_pos (hs u hu), if_pos (hs v hv)]; simp only; omega
  ·rw [if_neg (hs u hu), if_neg (hs v hv)]; exact hlt
 obtain ⟨_, ⟨t, k, p, hp, hk, e1⟩, hdu⟩ := open_use (hd.use u hu)
 obtain ⟨_, ⟨t', k', p', hp', hk', e2⟩, hdv⟩ := open_use (hd.use v hv)
 have ht : (relOf ps r u).tr = (relOf ps r v).tr := by rw [relOf_tr, relOf_tr, he]
 rw [e1] at hst hdu ht ⊢
 rw [e2] at hst hdv ht ⊢
 simp only at hst ht
 have : t = t' := by omega
 subst this
 rw [hp] at hp'; injection hp' with hp'; subst hp'
 have := h.chain hp hdu (k' - k - 1) (by omega)
 rwa [show k + (k' - k - 1) + 1 = k' from by omega] at this
theorem prec_iff (h : Topo ps at_ D L) (ho : ∀ a ∈ D, doneR at_ a.to = false) (hd : Dec ps at_ D r l) {u v : Ref} (hu : u ∈ l) (hv : v ∈ l) : precD ps D r u v = true ↔ Bf L (relOf ps r u) (relOf ps r v) := by
 have fwd : ∀ {u v : Ref}, u ∈ l → v ∈ l → precD ps D r u v = true → Bf L (relOf ps r u) (relOf ps r v) := fun {u v} hu hv hp => by
  unfold precD at hp
  by_cases e : u.tr = v.tr
  ·rw [if_pos e] at hp
   exact same_bf h hd hu hv e (by simpa using hp)
  ·rw [if_neg e] at hp
   exact dec_bf h ho (hd.use u hu) (hd.use v hv) (by simpa using hp)
 refine ⟨fwd hu hv, fun hb => ?_⟩
 have hnv : precD ps D r v u ≠ true := fun hp => hb.asymm h.nd (fwd hv hu hp)
 have hne : u ≠ v := fun e => by subst e; exact hb.asymm h.nd hb
 unfold precD at hnv ⊢
 by_cases e : u.tr = v.tr
 ·rw [if_pos e.symm] at hnv
  rw [if_pos e]
  rw [ne_eq, decide_eq_true_eq] at hnv
  rw [decide_eq_true_eq]
  have : u.st ≠ v.st := fun e2 => hne (by cases u; cases v; simp only at e e2; rw [e, e2])
  omega
 ·rw [if_neg (fun e2 => e e2.symm)] at hnv
  rw [if_neg e]
  rw [ne_eq, decide_eq_true_eq] at hnv
  rw [decide_eq_true_eq]
  rcases hd.all u hu v hv e with h1 | h1
  ·exact h1
  ·exact absurd h1 hnv
theorem prec_total (hd : Dec ps at_ D r l) {u v : Ref} (hu : u ∈ l) (hv : v ∈ l) (hne : u ≠ v) : precD ps D r u v = true ∨ precD ps D r v u = true := by
 unfold precD
 by_cases e : u.tr = v.tr
 ·rw [if_pos e, if_pos e.symm]
  simp only [decide_eq_true_eq]
  have : u.st ≠ v.st := fun e2 => hne (by cases u; cases v; simp only at e e2; rw [e, e2])
  omega
 ·rw [if_neg e, if_neg (fun e2 => e e2.symm)]
  simp only [decide_eq_true_eq]
  exact hd.all u hu v hv e
end

/-- insertion by a strict total order -/
structure Tot (lt : Ref → Ref → Bool) (l : List Ref) : Prop where
 tot : ∀ u ∈ l, ∀ v ∈ l, u ≠ v → lt u v = true ∨ lt v u = true
 asym : ∀ u ∈ l, ∀ v ∈ l, lt u v = true → lt v u = false
 trans : ∀ u ∈ l, ∀ v ∈ l, ∀ w ∈ l, lt u v = true → lt v w = true → lt u w = true
theorem plK_after {lt : Ref → Ref → Bool} {x : Ref} {l : List Ref} : ∀ k, ∀ (j : Nat) v, plK lt x l k ≤ j → j < k → l[j]? = some v → lt x v = true
 | 0, j, v, _, h, _ => by omega
 | k + 1, j, v, h1, h2, hv => by
  unfold plK at h1
  cases e : l[k]? with
  | none => rw [e] at h1; simp only at h1; omega
  | some u =>
   rw [e] at h1
   simp only at h1
   by_cases g : lt x u = true
   ·rw [if_pos g] at h1
    by_cases e2 : j = k
    ·subst e2; rw [e] at hv; injection hv with hv; subst hv; exact g
    ·exact plK_after k j v h1 (by omega) hv
   ·rw [if_neg g] at h1; omega
theorem plK_stop {lt : Ref → Ref → Bool} {x : Ref} {l : List Ref} : ∀ k, k ≤ l.length → ∀ j, plK lt x l k = j + 1 → ∃ v, l[j]? = some v ∧ lt x v = false
 | 0, _, j, h => by simp [plK] at h
 | k + 1, hk, j, h => by
  have hx : l[k]? = some (l[k]'(by omega)) := List.getElem?_eq_getElem (by omega)
  unfold plK at h
  rw [hx] at h
  simp only at h
  by_cases g : lt x (l[k]'(by omega)) = true
  ·rw [if_pos g] at h; exact plK_stop k (by omega) j h
  ·rw [if_neg g] at h
   have : j = k := by omega
   subst this
   exact ⟨_, hx, by simpa using g⟩
theorem plU_sorted {lt : Ref → Ref → Bool} {x : Ref} {l M : List Ref} (hT : Tot lt M) (hl : ∀ v ∈ l, v ∈ M) (hx : x ∈ M) (hxl : x ∉ l) (h1 : l.Pairwise fun a b => lt a b = true) : (plU lt x l).Pairwise fun a b => lt a b = true := by
 unfold plU
 have ha := plK_after (lt := lt) (x := x) (l := l) l.length
 have hs' := plK_stop (lt := lt) (x := x) (l := l) l.length (Nat.le_refl _)
 generalize plK lt x l l.length = k at ha hs'
 have hs : (l.take k ++ l.drop k).Pairwise fun a b => lt a b = true := by rw [List.take_append_drop]; exact h1
 obtain ⟨s1, s2, s3⟩ := List.pairwise_append.1 hs
 rw [List.pairwise_append]
 refine ⟨s1, List.pairwise_cons.2 ⟨fun v hv => ?_, s2⟩, fun a ha' b hb => ?_⟩
 ·obtain ⟨j, hj⟩ := List.mem_iff_getElem?.1 hv
  rw [List.getElem?_drop] at hj
  exact ha (k + j) v (by omega) (getElem?_lt hj) hj
 ·rcases List.mem_cons.1 hb with rfl | hb
  ·obtain ⟨i, hi⟩ := List.mem_iff_getElem?.1 ha'
   have hik : i < k := by have := getElem?_lt hi; rw [List.length_take] at this; omega
   rw [List.getElem?_take_of_lt hik] at hi
   obtain ⟨j, rfl⟩ : ∃ j, k = j + 1 := ⟨k - 1, by omega⟩
   obtain ⟨v, hv, hvu⟩ := hs' j rfl
   have hvM := hl v (List.mem_of_getElem? hv)
   have haM := hl a (List.mem_of_getElem? hi)
   have hvx : lt v b = true := by
    rcases hT.tot b hx v hvM (fun e => hxl (by rw [e]; exact List.mem_of_getElem? hv)) with h2 | h2
    ·rw [hvu] at h2; cases h2
    ·exact h2
   by_cases e : i = j
   ·subst e; rw [hi] at hv; injection hv with hv; subst hv; exact hvx
   ·have l1 := getElem?_lt hi
    have l2 := getElem?_lt hv
    have q := List.pairwise_iff_getElem.1 h1 i j l1 l2 (by omega)
    rw [List.getElem?_eq_getElem l1] at hi
    rw [List.getElem?_eq_getElem l2] at hv
    injection hi with hi; injection hv with hv
    rw [hi, hv] at q
    exact hT.trans a haM v hvM b hx q hvx
  ·exact s3 a ha' b hb
theorem plU_permR (lt : Ref → Ref → Bool) (u : Ref) (l : List Ref) : (plU lt u l).Perm (l ++ [u]) := by
 unfold plU
 have h1 : (l.take (plK lt u l l.length) ++ u :: l.drop (plK lt u l l.length)).Perm (u :: (l.take (plK lt u l l.length) ++ l.drop (plK lt u l l.length))) := List.perm_middle
 rw [List.take_append_drop] at h1
 exact h1.trans (List.perm_append_singleton u l).symm
theorem sortB_sorted {lt : Ref → Ref → Bool} {M : List Ref} (hT : Tot lt M) (hn : M.Nodup) : (sortB lt M).Pairwise (fun a b => lt a b = true) ∧ (sortB lt M).Perm M := by
 have key : ∀ n, n ≤ M.length → (sortB lt (M.take n)).Pairwise (fun a b => lt a b = true) ∧ (sortB lt (M.take n)).Perm (M.take n) := by
  intro n
  induction n with
  | zero => intro _; simp [sortB]
  | succ n ih =>
   intro hl
   have hx : M[n]? = some M[n] := List.getElem?_eq_getElem (by omega)
   have e : M.take (n + 1) = M.take n ++ [M[n]] := by rw [List.take_add_one, hx]; rfl
   obtain ⟨i1, i2⟩ := ih (by omega)
   have e2 : sortB lt (M.take n ++ [M[n]]) = plU lt M[n] (sortB lt (M.take n)) := by unfold sortB; rw [List.foldl_append]; rfl
   have hsub : ∀ v ∈ sortB lt (M.take n), v ∈ M := fun v hv => List.mem_of_mem_take (i2.mem_iff.1 hv)
   have hnx : M[n] ∉ sortB lt (M.take n) := fun hm => by
    have hm := i2.mem_iff.1 hm
    have h1 : (M.take n ++ M.drop n).Nodup := by rw [List.take_append_drop]; exact hn
    have h2 : M[n] ∈ M.drop n := List.mem_of_getElem? (i := 0) (by rw [List.getElem?_drop]; exact hx)
    exact (List.nodup_append.1 h1).2.2 _ hm _ h2 rfl
   rw [e, e2]
   exact ⟨plU_sorted hT hsub (List.getElem_mem _) hnx i1, (plU_permR lt _ _).trans (i2.append_right _)⟩
 have := key M.length (Nat.le_refl _)
 rwa [List.take_length] at this
/-- the place of an element of a sorted list -/
def rankD (lt : Ref → Ref → Bool) (l : List Ref) (u : Ref) : Nat := (l.filter fun v => lt v u).length
theorem rank_at {lt : Ref → Ref → Bool} {M : List Ref} (hT : Tot lt M) {S : List Ref} (hs : S.Pairwise fun a b => lt a b = true) (hp : S.Perm M) {i : Nat} {u : Ref} (hi : S[i]? = some u) : rankD lt M u = i := by
 have h1 : rankD lt M u = rankD lt S u := (hp.symm.filter _).length_eq
 rw [h1]
 unfold rankD
 have hil := getElem?_lt hi
 have hSM : ∀ v ∈ S, v ∈ M := fun v hv => hp.mem_iff.1 hv
 have huM := hSM u (List.mem_of_getElem? hi)
 have e : S = S.take i ++ S.drop i := (List.take_append_drop i S).symm
 have h2 : (S.take i).filter (fun v => lt v u) = S.take i := by
  rw [List.filter_eq_self]
  intro v hv
  obtain ⟨j, hj⟩ := List.mem_iff_getElem?.1 hv
  have hjl := getElem?_lt hj
  rw [List.length_take] at hjl
  rw [List.getElem?_take_of_lt (by omega)] at hj
  have q := List.pairwise_iff_getElem.1 hs j i (by omega) hil (by omega)
  rw [List.getElem?_eq_getElem (by omega : j < S.length)] at hj
  rw [List.getElem?_eq_getElem hil] at hi
  injection hj with hj; injection hi with hi
  rw [hj, hi] at q; exact q
 have h3 : (S.drop i).filter (fun v => lt v u) = [] := by
  rw [List.filter_eq_nil_iff]
  intro v hv hlt
  obtain ⟨j, hj⟩ := List.mem_iff_getElem?.1 hv
  rw [List.getElem?_drop] at hj
  have hjl := getElem?_lt hj
  have hvM := hSM v (List.mem_of_getElem? hj)
  by_cases e0 : j = 0
  ·subst e0
   simp only [Nat.add_zero] at hj
   rw [hi] at hj; injection hj with hj; subst hj
   have := hT.asym u huM u huM hlt
   rw [hlt] at this; cases this
  ·have q := List.pairwise_iff_getElem.1 hs i (i + j) hil hjl (by omega)
   rw [List.getElem?_eq_getElem hjl] at hj
   rw [List.getElem?_eq_getElem hil] at hi
   injection hj with hj; injection hi with hi
   rw [hj, hi] at q
   have := hT.asym u huM v hvM q
   rw [hlt] at this; cases this
 conv => lhs; rw [e]
 rw [List.filter_append, h2, h3, List.append_nil, List.length_take]
 omega
theorem prec_tot {ps : List (List Stage)} {at_ : List Int} {D : List RArc} {L : List Ref} {r : Int} {l : List Ref} (h : Topo ps at_ D L) (ho : ∀ a ∈ D, doneR at_ a.to = false) (hd : Dec ps at_ D r l) : Tot (precD ps D r) l :=
  ⟨fun u hu v hv hne => prec_total hd hu hv hne, fun u hu v hv h1 => by
    cases e : precD ps D r v u with
    | false => rfl
    | true => exact absurd ((prec_iff h ho hd hv hu).1 e) (((prec_iff h ho hd hu hv).1 h1).asymm h.nd),
   fun u hu v hv w hw h1 h2 => (prec_iff h ho hd hu hw).2 (((prec_iff h ho hd hu hv).1 h1).trans h.nd ((prec_iff h ho hd hv hw).1 h2))⟩

/-- the labels for decided arcs -/
def labD (ps : List (List Stage)) (at_ : List Int) (n : Int) (D : List RArc) : LTab := labS ps at_ n D (lineR ps (arcsD ps D) at_).1
def leadsL (T : LTab) (a b : Ref) : Bool := decide (a.st ≤ (T b).bf a.tr.toNat)
section
variable {ps : List (List Stage)} {at_ : List Int} {D : List RArc} {L : List Ref} {n : Int}
theorem labD_eq (hg : Gd ps at_) (hD : DOk ps at_ D) (hok : okD ps at_ D = true) (h : Topo ps at_ D L) (u : Ref) : labD ps at_ n D u = labS ps at_ n D L u := by
 have h' := (topo_of_ok hg hD hok).2
 unfold labD labS secS befS
 rw [solS_indep phS_mono h' h u]
 congr 1
 exact List.map_congr_left fun t _ => solS_indep (phB_mono (t : Int)) h' h u
theorem leadsL_eq (hv : valid ps = true) {a b : Ref} (ha : InR ps a) : leadsL (labS ps at_ n D L) a b = leadsS ps at_ D L a b := by
 obtain ⟨t, k, p, hp, _, rfl⟩ := ha
 have ht := getElem?_lt hp
 have := (valid_lens hv).1
 unfold leadsL leadsS
 rw [labS_bf (by simp; omega)]
 simp
theorem DOk.snoc (hD : DOk ps at_ D) {x y : Ref} (hx : Ev ps at_ x) (hy : InR ps y) (hne : x.tr ≠ y.tr) : DOk ps at_ (D ++ [arc0 x y]) := by
 have key : ∀ a, a ∈ D ++ [arc0 x y] → a ∈ D ∨ a = arc0 x y := fun a ha => by simpa using ha
 refine ⟨fun a ha => ?_, fun a ha => ?_, fun a ha => ?_, fun a ha => ?_⟩ <;> rcases key a ha with h | rfl
 ·exact hD.frm a h
 ·exact hx
 ·exact hD.to a h
 ·exact hy
 ·exact hD.ne a h
 ·exact hne
 ·exact hD.wt a h
 ·rfl
/-- an arc to an event that has happened -/
theorem choose_late (hg : Gd ps at_) (hD : DOk ps at_ D) {x y : Ref} (hx : Ev ps at_ x) (hy : InR ps y) (hne : x.tr ≠ y.tr) (hd : doneR at_ y = true) : okD ps at_ (D ++ [arc0 x y]) = false := by
 cases e : okD ps at_ (D ++ [arc0 x y]) with
 | false => rfl
 | true =>
  have h1 := (topo_of_ok hg (hD.snoc hx hy hne) e).1 (arc0 x y) (by simp)
  have h1 : doneR at_ y = false := h1
  rw [hd] at h1; cases h1
theorem choose_bad (hg : Gd ps at_) (hD : DOk ps at_ D) (h : Topo ps at_ D L) {x y : Ref} (hx : Ev ps at_ x) (hy : Ev ps at_ y) (hne : x.tr ≠ y.tr) (hl : leadsS ps at_ D L y x = true) : okD ps at_ (D ++ [arc0 x y]) = false := by
 cases e : okD ps at_ (D ++ [arc0 x y]) with
 | false => rfl
 | true =>
  have h1 := topo_bad h (topo_of_ok hg (hD.snoc hx hy.1 hne) e).2 hx hy
  rw [hl] at h1; cases h1
theorem choose_ok (hg : Gd ps at_) (hD : DOk ps at_ D) (ho : ∀ a ∈ D, doneR at_ a.to = false) (h : Topo ps at_ D L) {x y : Ref} (hx : Ev ps at_ x) (hy : Ev ps at_ y) (hne : x.tr ≠ y.tr) (hl : leadsS ps at_ D L y x = false) : okD ps at_ (D ++ [arc0 x y]) = true ∧ ∃ L', Topo ps at_ (D ++ [arc0 x y]) L' := by
 obtain ⟨L', h'⟩ := topo_add h hx hy (fun e => hne (by rw [e])) hl
 refine ⟨ok_of_topo hg (hD.snoc hx hy.1 hne) (fun a ha => ?_) h', L', h'⟩
 rcases List.mem_append.1 ha with ha | ha
 ·exact ho a ha
 ·simp at ha; subst ha; exact hy.2

theorem evs_nd (ps : List (List Stage)) : (evs ps).Nodup := by
 show List.Pairwise (fun a b => a ≠ b) _
 rw [List.pairwise_iff_getElem]
 intro i j hi hj hij e
 obtain ⟨t, k, p, _, hp, hk, rfl⟩ := evs_inv ps.length (Nat.le_refl _) (i := i) (by rw [fst_len]; exact hi)
 obtain ⟨t', k', p', _, hp', hk', rfl⟩ := evs_inv ps.length (Nat.le_refl _) (i := j) (by rw [fst_len]; exact hj)
 have h1 := evs_at hp hk
 have h2 := evs_at hp' hk'
 rw [List.getElem?_eq_getElem hi] at h1
 rw [List.getElem?_eq_getElem hj] at h2
 injection h1 with h1; injection h2 with h2
 rw [h1, h2] at e
 simp only [Ref.mk.injEq] at e
 have e1 : t = t' := by omega
 subst e1
 omega
/-- without chosen pairs there is an order -/
theorem topo_nil (ps : List (List Stage)) (at_ : List Int) : Topo ps at_ [] ((evs ps).filter fun u => !doneR at_ u) := by
 refine ⟨(evs_nd ps).sublist (List.filter_sublist ..), fun u => ?_, fun a ha he => ?_⟩
 ·rw [List.mem_filter]
  unfold Ev InR
  constructor
  ·rintro ⟨hu, hd⟩
   obtain ⟨i, hi⟩ := List.mem_iff_getElem?.1 hu
   have hil := getElem?_lt hi
   obtain ⟨t, k, p, _, hp, hk, rfl⟩ := evs_inv ps.length (Nat.le_refl _) (i := i) (by rw [fst_len]; exact hil)
   rw [evs_at hp hk] at hi
   injection hi with hi
   exact ⟨⟨t, k, p, hp, hk, hi.symm⟩, by simpa using hd⟩
  ·rintro ⟨⟨t, k, p, hp, hk, rfl⟩, hd⟩
   exact ⟨List.mem_of_getElem? (evs_at hp hk), by simp [hd]⟩
 ·have ha : a ∈ chainR ps := by unfold arcsD at ha; simpa using ha
  obtain ⟨t, k, p, s, hp, hs, rfl⟩ := mem_chainR.1 ha
  have hk := getElem?_lt hs
  cases e : doneR at_ ⟨(t : Int), (k : Int)⟩ with
  | true => exact .inl rfl
  | false =>
   right
   have h1 : Bf (evs ps) ⟨(t : Int), (k : Int)⟩ ⟨(t : Int), (k : Int) + 1⟩ := bf_at.2 ⟨fst ps t + k, fst ps t + (k + 1), by omega, evs_at hp (by omega), by have := evs_at hp (k := k + 1) (by omega); simpa using this⟩
   have h2 : [(⟨(t : Int), (k : Int)⟩ : Ref), ⟨(t : Int), (k : Int) + 1⟩].Sublist ((evs ps).filter fun u => !doneR at_ u) := by
    have := List.Sublist.filter (fun u => !doneR at_ u) h1
    simpa [List.filter_cons, e, he.2] using this
   exact h2
theorem dok_nil (ps : List (List Stage)) (at_ : List Int) : DOk ps at_ [] := ⟨by simp, by simp, by simp, by simp⟩
theorem okD_nil (hg : Gd ps at_) : okD ps at_ [] = true := ok_of_topo hg (dok_nil ps at_) (by simp) (topo_nil ps at_)
def labB (s : Int) : Lab := ⟨s, List.replicate 10 (-1)⟩
theorem labB_bf (s : Int) {t : Nat} (ht : t < 10) : (labB s).bf t = -1 := by unfold labB Lab.bf; simp only; rw [List.getElem?_replicate, if_pos ht]; rfl
/-- the labels without chosen pairs, along each train -/
theorem lab_nil {t k : Nat} {p : List Stage} (hp : ps[t]? = some p) (hk : k ≤ p.length) (h : Topo ps at_ [] L) :
  labS ps at_ n [] L ⟨(t : Int), (k : Int)⟩ = if doneR at_ ⟨(t : Int), (k : Int)⟩ = true then labB (-1)
   else if k = 0 ∨ doneR at_ ⟨(t : Int), (k : Int) - 1⟩ = true then labB (baseN ps at_ n ⟨(t : Int), (k : Int)⟩)
   else mergeL (labB (baseN ps at_ n ⟨(t : Int), (k : Int)⟩)) (labS ps at_ n [] L ⟨(t : Int), (k : Int) - 1⟩) ⟨(t : Int), (k : Int) - 1⟩ (mnAt ps t (k - 1)) := by
 have harc : ∀ a ∈ arcsD ps [], a.to = ⟨(t : Int), (k : Int)⟩ → ∃ k' s, k = k' + 1 ∧ p[k']? = some s ∧ a = ⟨⟨(t : Int), (k' : Int)⟩, ⟨(t : Int), (k' : Int) + 1⟩, s.mn⟩ := fun a ha hto => by
  have ha : a ∈ chainR ps := by unfold arcsD at ha; simpa using ha
  obtain ⟨t', k', p', s', hp', hs', rfl⟩ := mem_chainR.1 ha
  injection hto with e1 e2
  have : t' = t := by omega
  subst this
  rw [hp] at hp'; injection hp' with hp'; subst hp'
  exact ⟨k', s', by omega, hs', rfl⟩
 cases hd : doneR at_ ⟨(t : Int), (k : Int)⟩ with
 | true =>
  rw [if_pos rfl]
  have hne : ¬ Ev ps at_ ⟨(t : Int), (k : Int)⟩ := fun h => by have h2 := h.2; rw [hd] at h2; cases h2
  refine Lab.ext10 (labS_len _) (by simp [labB]) ?_ fun j hj => ?_
  ·show secS ps at_ n [] L _ = -1
   unfold secS
   rw [solS_out h hne]
   unfold initR
   rw [if_pos hd]
  ·rw [labS_bf hj, labB_bf _ hj]
   unfold befS
   rw [solS_out h hne]
 | false =>
  rw [if_neg (by simp)]
  have hev : Ev ps at_ ⟨(t : Int), (k : Int)⟩ := ⟨⟨t, k, p, hp, hk, rfl⟩, hd⟩
  have fix : ∀ (base : Ref → Int) (ph : RArc → Int → Int) (init : Tab), solS ps at_ [] base ph init L ⟨(t : Int), (k : Int)⟩ = mxo (fun a => if a.to = ⟨(t : Int), (k : Int)⟩ ∧ doneR at_ a.frm = false then some (ph a (solS ps at_ [] base ph init L a.frm)) else none) (base ⟨(t : Int), (k : Int)⟩) (arcsD ps []) := fun base ph init => solS_fix h hev
  by_cases g : k = 0 ∨ doneR at_ ⟨(t : Int), (k : Int) - 1⟩ = true
  ·rw [if_pos g]
   have none_ : ∀ (base : Ref → Int) (ph : RArc → Int → Int) (init : Tab), solS ps at_ [] base ph init L ⟨(t : Int), (k : Int)⟩ = base ⟨(t : Int), (k : Int)⟩ := fun base ph init => by
    rw [fix]
    apply Int.le_antisymm
    ·rw [mxo_le]
     refine ⟨Int.le_refl _, fun a ha y hy => ?_⟩
     split at hy
     ·rename_i hc
      obtain ⟨k', s, rfl, hs, rfl⟩ := harc a ha hc.1
      rcases g with g | g
      ·omega
      ·have e : ((k' + 1 : Nat) : Int) - 1 = (k' : Int) := by omega
       rw [e] at g
       have h1 := hc.2
       simp only at h1
       rw [g] at h1; cases h1
     ·cases hy
    ·exact mxo_ge _ _ _
   refine Lab.ext10 (labS_len _) (by simp [labB]) (none_ _ _ _) fun j hj => ?_
   rw [labS_bf hj, labB_bf _ hj]
   exact none_ _ _ _
  ·rw [if_neg g]
   rw [not_or] at g
   obtain ⟨k', rfl⟩ : ∃ k', k = k' + 1 := ⟨k - 1, by omega⟩
   have e : ((k' + 1 : Nat) : Int) - 1 = (k' : Int) := by omega
   rw [e] at g ⊢
   have hs : p[k']? = some p[k'] := List.getElem?_eq_getElem (by omega)
   have hmn : mnAt ps t (k' + 1 - 1) = p[k'].mn := by simp [mnAt, hp, hs]
   rw [hmn]
   have hdp : doneR at_ ⟨(t : Int), (k' : Int)⟩ = false := by simpa using g.2
   have one : ∀ (base : Ref → Int) (ph : RArc → Int → Int) (init : Tab), solS ps at_ [] base ph init L ⟨(t : Int), ((k' + 1 : Nat) : Int)⟩ = max (base ⟨(t : Int), ((k' + 1 : Nat) : Int)⟩) (ph ⟨⟨(t : Int), (k' : Int)⟩, ⟨(t : Int), (k' : Int) + 1⟩, p[k'].mn⟩ (solS ps at_ [] base ph init L ⟨(t : Int), (k' : Int)⟩)) := fun base ph init => by
    rw [fix]
    apply Int.le_antisymm
    ·rw [mxo_le]
     refine ⟨by omega, fun a ha y hy => ?_⟩
     split at hy
     ·rename_i hc
      obtain ⟨k2, s, hk2, hs2, rfl⟩ := harc a ha hc.1
      have : k2 = k' := by omega
      subst this
      rw [hs] at hs2; injection hs2 with hs2; subst hs2
      injection hy with hy
      simp only at hy
      omega
     ·cases hy
    ·have h1 := mxo_ge (fun a => if a.to = ⟨(t : Int), ((k' + 1 : Nat) : Int)⟩ ∧ doneR at_ a.frm = false then some (ph a (solS ps at_ [] base ph init L a.frm)) else none) (base ⟨(t : Int), ((k' + 1 : Nat) : Int)⟩) (arcsD ps [])
     have h2 := mxo_mem (fun a => if a.to = ⟨(t : Int), ((k' + 1 : Nat) : Int)⟩ ∧ doneR at_ a.frm = false then some (ph a (solS ps at_ [] base ph init L a.frm)) else none) (base ⟨(t : Int), ((k' + 1 : Nat) : Int)⟩) (arcsD ps []) (a := ⟨⟨(t : Int), (k' : Int)⟩, ⟨(t : Int), (k' : Int) + 1⟩, p[k'].mn⟩) (List.mem_append_left _ (mem_chainR.2 ⟨t, k', p, _, hp, hs, rfl⟩)) (by rw [if_pos ⟨by simp, hdp⟩])
     simp only at h2
     omega
   refine Lab.ext10 (labS_len _) (mergeL_len _ _ _ _) ?_ fun j hj => ?_
   ·show secS ps at_ n [] L _ = max _ _
    unfold secS
    rw [one]
    rfl
   ·have h1 := mergeL_bf (labB (baseN ps at_ n ⟨(t : Int), ((k' + 1 : Nat) : Int)⟩)) (labS ps at_ n [] L ⟨(t : Int), (k' : Int)⟩) ⟨⟨(t : Int), (k' : Int)⟩, ⟨(t : Int), (k' : Int) + 1⟩, p[k'].mn⟩ hj
    simp only at h1
    rw [h1, labS_bf hj, labS_bf hj, labB_bf _ hj]
    unfold befS
    rw [one]
end

end Go.Proofs.Ytilbbpbjhoidhaa
