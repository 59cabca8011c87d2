/- A complete choice decides every pair of open uses, one way each. No program in sight. The search finds a complete choice of least cost: longer choices cost no less. No program in sight. How many uses come before one, counted by the decisions. No program in sight. The arcs that the search of chapter 37 keeps, and its labels: an arc that is implied changes nothing; one arc more, label by label. No program in sight. The graph of chapter 37 in memory. Conditions: as each theorem says. -/
import Derived.Test.YtilbbpbjhoidhaaE13
import Derived.Test.YtilbbpbjhoidhaaE14
namespace Go.Proofs.Ytilbbpbjhoidhaa
open Go.RowKit

section
variable {ps : List (List Stage)} {at_ : List Int} {L : List Ref}
theorem openA_nd (ps : List (List Stage)) (at_ : List Int) (r : Int) : (openA ps at_ r).Nodup := by
 have : (allU ps r).Nodup := (allU_lex ps r).imp fun h e => by subst e; unfold Lex at h; omega
 exact this.sublist (List.filter_sublist ..)
theorem pair_mem {r : Nat} (hr : r < 144) {u v : Ref} (hu : u ∈ openA ps at_ (r : Int)) (hv : v ∈ openA ps at_ (r : Int)) (h : u.tr < v.tr) : (⟨(r : Int), u, v⟩ : Pr) ∈ pairsP ps at_ := by
 unfold pairsP pairsTo
 refine List.mem_flatMap.2 ⟨r, List.mem_range.2 hr, ?_⟩
 unfold pairsL
 exact List.mem_flatMap.2 ⟨u, hu, List.mem_map.2 ⟨v, List.mem_filter.2 ⟨hv, by simpa using h⟩, rfl⟩⟩
theorem decs_mem {xs : List Pr} {bs : List Bool} {i : Nat} {x : Pr} {b : Bool} (hx : xs[i]? = some x) (hb : bs[i]? = some b) : dArc ps x b ∈ decs ps xs bs := by
 refine List.mem_of_getElem? (i := i) ?_
 unfold decs
 rw [List.getElem?_zipWith, hx, hb]
theorem dec_all {bs : List Bool} (hl : bs.length = (pairsP ps at_).length) {r : Nat} (hr : r < 144) {u v : Ref} (hu : u ∈ openA ps at_ (r : Int)) (hv : v ∈ openA ps at_ (r : Int)) (hne : u.tr ≠ v.tr) :
  arc0 (relOf ps (r : Int) u) v ∈ decs ps (pairsP ps at_) bs ∨ arc0 (relOf ps (r : Int) v) u ∈ decs ps (pairsP ps at_) bs := by
 have key : ∀ u v : Ref, u ∈ openA ps at_ (r : Int) → v ∈ openA ps at_ (r : Int) → u.tr < v.tr → arc0 (relOf ps (r : Int) u) v ∈ decs ps (pairsP ps at_) bs ∨ arc0 (relOf ps (r : Int) v) u ∈ decs ps (pairsP ps at_) bs := fun u v hu hv h => by
  obtain ⟨i, hi⟩ := List.mem_iff_getElem?.1 (pair_mem hr hu hv h)
  have hil := getElem?_lt hi
  have hb : bs[i]? = some (bs[i]'(by omega)) := List.getElem?_eq_getElem (by omega)
  have hm := decs_mem (ps := ps) hi hb
  unfold dArc at hm
  cases e : (bs[i]'(by omega)) with
  | true => rw [e, if_pos rfl] at hm; exact .inl hm
  | false => rw [e, if_neg (by simp)] at hm; exact .inr hm
 rcases Int.lt_or_gt_of_ne hne with h | h
 ·exact key u v hu hv h
 ·exact (key v u hv hu h).symm
theorem valid_sep (hv : valid ps = true) {r : Int} {l : List Ref} (hl : ∀ u ∈ l, u ∈ allU ps r) : (∀ u ∈ l, secOf ps u = r) ∨ (∀ u ∈ l, secOf ps u ≠ r) := by
 have key : ∀ u ∈ l, ∃ s ∈ ps.flatten, secOf ps u = s.sec ∧ r ∈ stUses s := fun u hu => by
  obtain ⟨t, k, p, s, hp, hs, hr, rfl⟩ := mem_allU.1 (hl u hu)
  exact ⟨s, List.mem_flatten.2 ⟨p, List.mem_of_getElem? hp, List.mem_of_getElem? hs⟩, by unfold secOf; simp [hp, hs], hr⟩
 by_cases g : ∃ u ∈ l, secOf ps u = r
 ·left
  obtain ⟨u, hu, e⟩ := g
  obtain ⟨s, hs, es, _⟩ := key u hu
  intro v hv2
  apply Classical.byContradiction
  intro ne
  obtain ⟨s2, hs2, es2, hr2⟩ := key v hv2
  have hp : r ∈ s2.pts := by
   unfold stUses at hr2
   rcases List.mem_cons.1 hr2 with h5 | h5
   ·exact absurd (by rw [es2, h5]) ne
   ·exact h5
  have hru : r ∈ usesAll ps := by
   unfold usesAll
   exact List.mem_flatMap.2 ⟨s2, hs2, hr2⟩
  obtain ⟨h0, h1⟩ := valid_use hv hru
  obtain ⟨n, rfl⟩ := Int.eq_ofNat_of_zero_le h0
  have hn : n < 144 := by omega
  unfold valid at hv
  simp only [Bool.and_eq_true] at hv
  have hc := hv.2
  unfold noClash at hc
  have := List.all_eq_true.1 hc n (List.mem_range.2 hn)
  have q1 : ((n : Nat) : Int) ∈ ps.flatten.map (·.sec) := List.mem_map.2 ⟨s, hs, by rw [← es, e]⟩
  have q2 : ((n : Nat) : Int) ∈ ps.flatten.flatMap (·.pts) := List.mem_flatMap.2 ⟨s2, hs2, hp⟩
  rw [decide_eq_true q1, decide_eq_true q2] at this
  simp at this
 ·exact .inr fun u hu e => g ⟨u, hu, e⟩
theorem made_dec (hm : valid ps = true) {bs : List Bool} (hl : bs.length = (pairsP ps at_).length) {r : Nat} (hr : r < 144) : Dec ps at_ (decs ps (pairsP ps at_) bs) (r : Int) (openA ps at_ (r : Int)) :=
 ⟨fun _ h => h, openA_nd ps at_ _, fun _ hu _ hv hne => dec_all hl hr hu hv hne, valid_sep hm fun _ hu => (List.mem_filter.1 hu).1⟩
theorem dec_prec (hm : valid ps = true) {bs : List Bool} (hl : bs.length = (pairsP ps at_).length) (h : Topo ps at_ (decs ps (pairsP ps at_) bs) L) (ho : ∀ a ∈ decs ps (pairsP ps at_) bs, doneR at_ a.to = false) {r : Nat} (hr : r < 144) {u v : Ref} {i : Nat} {b : Bool} (hi : (pairsP ps at_)[i]? = some ⟨(r : Int), u, v⟩) (hb : bs[i]? = some b) :
  precD ps (decs ps (pairsP ps at_) bs) (r : Int) u v = b ∧ precD ps (decs ps (pairsP ps at_) bs) (r : Int) v u = !b := by
 have hd := made_dec hm hl hr
 have hT := prec_tot h ho hd
 obtain ⟨hu, hv, hlt⟩ := mem_pairs (List.mem_of_getElem? hi)
 simp only at hu hv hlt
 have hm := decs_mem (ps := ps) hi hb
 unfold dArc at hm
 cases b with
 | true =>
  rw [if_pos rfl] at hm
  have h1 : precD ps (decs ps (pairsP ps at_) bs) (r : Int) u v = true := by
   unfold precD
   rw [if_neg (by omega)]
   simpa using hm
  exact ⟨h1, hT.asym u hu v hv h1⟩
 | false =>
  rw [if_neg (by simp)] at hm
  have h1 : precD ps (decs ps (pairsP ps at_) bs) (r : Int) v u = true := by
   unfold precD
   rw [if_neg (by omega)]
   simpa using hm
  exact ⟨hT.asym v hv u hu h1, h1⟩
end

section
variable {ps : List (List Stage)} {at_ : List Int} {D E : List RArc} {L : List Ref} {n : Int}
theorem topo_pre (h : Topo ps at_ (D ++ E) L) : Topo ps at_ D L :=
 ⟨h.nd, h.mem, fun a ha => h.ord a (by unfold arcsD at ha ⊢; rw [← List.append_assoc]; exact List.mem_append_left _ ha)⟩
theorem dok_pre (h : DOk ps at_ (D ++ E)) : DOk ps at_ D :=
 ⟨fun a ha => h.frm a (List.mem_append_left _ ha), fun a ha => h.to a (List.mem_append_left _ ha), fun a ha => h.ne a (List.mem_append_left _ ha), fun a ha => h.wt a (List.mem_append_left _ ha)⟩
theorem okD_pre (hg : Gd ps at_) (hD : DOk ps at_ (D ++ E)) (h : okD ps at_ (D ++ E) = true) : okD ps at_ D = true := by
 obtain ⟨h1, h2⟩ := topo_of_ok hg hD h
 exact ok_of_topo hg (dok_pre hD) (fun a ha => h1 a (List.mem_append_left _ ha)) (topo_pre h2)
theorem secS_pre (h : Topo ps at_ D L) {L' : List Ref} (h' : Topo ps at_ (D ++ E) L') (u : Ref) : secS ps at_ n D L u ≤ secS ps at_ n (D ++ E) L' u := by
 by_cases hu : Ev ps at_ u
 ·refine solS_least h phS_mono ?_ hu
  have hs := solS_sol (base := baseN ps at_ n) (ph := phS) (init := initR at_ n) h'
  exact ⟨hs.base, fun a ha h1 h2 => hs.arc a (by unfold arcsD at ha ⊢; rw [← List.append_assoc]; exact List.mem_append_left _ ha) h1 h2⟩
 ·unfold secS
  rw [solS_out h hu, solS_out h' hu]
  exact Int.le_refl _
end
theorem late_mono {p : Pb} {t : Nat} (hw : 0 ≤ nowAt p.wgt t) {s s' : Int} (h : s ≤ s') : lateP p t s ≤ lateP p t s' := by
 unfold lateP
 split
 ·split
  ·exact Int.le_refl _
  ·exact Int.mul_nonneg hw (by omega)
 ·rw [if_neg (by omega)]
  exact Int.mul_le_mul_of_nonneg_left (by omega) hw
theorem costT_mono {p : Pb} {T T' : Tab} (hw : ∀ t, 0 ≤ nowAt p.wgt t) (h : ∀ u, T u ≤ T' u) : ∀ n, costT p T n ≤ costT p T' n
 | 0 => Int.le_refl _
 | t + 1 => by
  have h1 := costT_mono hw h t
  have h2 := late_mono (hw t) (h ⟨(t : Int), (lenAt p.ps t : Int)⟩)
  simp only [costT]
  omega
theorem decs_pre (ps : List (List Stage)) : ∀ (xs : List Pr) (bs cs : List Bool), ∃ E, decs ps xs (bs ++ cs) = decs ps xs bs ++ E
 | xs, [], cs => ⟨decs ps xs cs, by simp [decs]⟩
 | [], b :: bs, cs => ⟨[], by simp [decs]⟩
 | x :: xs, b :: bs, cs => by
  obtain ⟨E, h⟩ := decs_pre ps xs bs cs
  exact ⟨E, by unfold decs at *; simp only [List.cons_append, List.zipWith_cons_cons, h]⟩
section
variable {p : Pb}
def okB (p : Pb) (bs : List Bool) : Bool := okD p.ps p.at_ (decs p.ps (xs p) bs)
def costB (p : Pb) (bs : List Bool) : Int := costD p (decs p.ps (xs p) bs)
theorem okB_pre (hg : Gd p.ps p.at_) {bs cs : List Bool} (h : okB p (bs ++ cs) = true) : okB p bs = true := by
 unfold okB at *
 obtain ⟨E, e⟩ := decs_pre p.ps (xs p) bs cs
 rw [e] at h
 exact okD_pre hg (by rw [← e]; exact decs_ok _) h
theorem costB_pre (hg : Gd p.ps p.at_) (hw : ∀ t, 0 ≤ nowAt p.wgt t) {bs cs : List Bool} (h : okB p (bs ++ cs) = true) : costB p bs ≤ costB p (bs ++ cs) := by
 have h0 := okB_pre hg h
 unfold okB at h h0
 unfold costB costD
 refine costT_mono hw (fun u => ?_) _
 unfold secD lineD
 obtain ⟨E, e⟩ := decs_pre p.ps (xs p) bs cs
 have h1 := (topo_of_ok hg (decs_ok bs) h0).2
 have h2 := (topo_of_ok hg (decs_ok (bs ++ cs)) h).2
 have e' : decs p.ps (pairsP p.ps p.at_) (bs ++ cs) = decs p.ps (pairsP p.ps p.at_) bs ++ E := e
 have e2 : decs p.ps (xs p) (bs ++ cs) = decs p.ps (xs p) bs ++ E := e
 rw [e2]
 rw [e'] at h2
 exact secS_pre h1 h2 u

def BestOk (p : Pb) (s : SSt) : Prop := ∀ b c, s.best = some (b, c) → b.length = (xs p).length ∧ okB p b = true ∧ c = costB p b
def Cov (p : Pb) (s : SSt) (bs : List Bool) : Prop := okB p bs = true → ∃ b c, s.best = some (b, c) ∧ c ≤ costB p bs
def Better (s s' : SSt) : Prop := ∀ b c, s.best = some (b, c) → ∃ b' c', s'.best = some (b', c') ∧ c' ≤ c
theorem Better.refl (s : SSt) : Better s s := fun b c h => ⟨b, c, h, Int.le_refl _⟩
theorem Better.trans {s1 s2 s3 : SSt} (h : Better s1 s2) (h' : Better s2 s3) : Better s1 s3 := fun b c hb => by
 obtain ⟨b', c', h1, h2⟩ := h b c hb
 obtain ⟨b'', c'', h3, h4⟩ := h' b' c' h1
 exact ⟨b'', c'', h3, by omega⟩
theorem Cov.better {s s' : SSt} {bs : List Bool} (h : Cov p s bs) (h' : Better s s') : Cov p s' bs := fun hk => by
 obtain ⟨b, c, h1, h2⟩ := h hk
 obtain ⟨b', c', h3, h4⟩ := h' b c h1
 exact ⟨b', c', h3, by omega⟩
structure DfOk (p : Pb) (k : Nat) (bs : List Bool) (s : SSt) (r : Bool × SSt) : Prop where
 ok : BestOk p s → BestOk p r.2
 better : Better s r.2
 cov : r.1 = true → ∀ cs : List Bool, cs.length = k → Cov p r.2 (bs ++ cs)
theorem goOn_iff {bs : List Bool} {s : SSt} : goOn p bs s = true ↔ okB p bs = true ∧ ∀ b c, s.best = some (b, c) → costB p bs < c := by
 unfold goOn okB costB
 cases e : s.best with
 | none => simp
 | some q =>
  obtain ⟨b, c⟩ := q
  simp
theorem decF_ok (hg : Gd p.ps p.at_) (hw : ∀ t, 0 ≤ nowAt p.wgt t) (budget : Nat) : ∀ (k : Nat) (bs : List Bool) (s : SSt), bs.length + k = (xs p).length → okB p bs = true → (∀ b c, s.best = some (b, c) → costB p bs < c) → DfOk p k bs s (decF budget p k bs s)
 | 0, bs, s, hl, hk, hb => by
  refine ⟨fun _ b c h => ?_, fun b c h => ⟨bs, costB p bs, rfl, Int.le_of_lt (hb b c h)⟩, fun _ cs hcs _ => ⟨bs, costB p bs, rfl, ?_⟩⟩
  ·simp only [decF] at h
   injection h with h
   injection h with h1 h2
   subst h1
   exact ⟨by omega, hk, h2.symm⟩
  ·have : cs = [] := List.eq_nil_of_length_eq_zero hcs
   rw [this, List.append_nil]
   exact Int.le_refl _
 | k + 1, bs, s, hl, hk, hb => by
  have key : ∀ (l : List Bool) (s : SSt), (BestOk p s → BestOk p (decT budget p (decF budget p k) bs l s).2) ∧ Better s (decT budget p (decF budget p k) bs l s).2 ∧ ((decT budget p (decF budget p k) bs l s).1 = true → ∀ b ∈ l, ∀ cs : List Bool, cs.length = k → Cov p (decT budget p (decF budget p k) bs l s).2 (bs ++ [b] ++ cs)) := by
   intro l
   induction l with
   | nil => intro s; exact ⟨fun h => h, Better.refl s, fun _ b hb => by simp at hb⟩
   | cons b l ih =>
    intro s
    simp only [decT]
    by_cases g1 : s.steps = budget
    ·rw [if_pos g1]
     exact ⟨fun h => h, Better.refl s, fun h => by simp at h⟩
    ·rw [if_neg g1]
     by_cases g2 : goOn p (bs ++ [b]) s = true
     ·rw [if_pos g2]
      obtain ⟨g3, g4⟩ := goOn_iff.1 g2
      have hr := decF_ok hg hw budget k (bs ++ [b]) ⟨s.steps + 1, s.best⟩ (by simp; omega) g3 g4
      generalize decF budget p k (bs ++ [b]) ⟨s.steps + 1, s.best⟩ = r at *
      have hbt : Better s r.2 := hr.better
      have hbo : BestOk p s → BestOk p r.2 := fun h => hr.ok h
      by_cases g5 : r.1 = true
      ·rw [if_pos g5]
       obtain ⟨i1, i2, i3⟩ := ih r.2
       refine ⟨fun h => i1 (hbo h), hbt.trans i2, fun h b' hb' cs hcs => ?_⟩
       rcases List.mem_cons.1 hb' with rfl | hb'
       ·exact (hr.cov g5 cs hcs).better i2
       ·exact i3 h b' hb' cs hcs
      ·rw [if_neg g5]
       exact ⟨hbo, hbt, fun h => by simp at h⟩
     ·rw [if_neg g2]
      obtain ⟨i1, i2, i3⟩ := ih ⟨s.steps + 1, s.best⟩
      have hbt : Better s (decT budget p (decF budget p k) bs l ⟨s.steps + 1, s.best⟩).2 := i2
      refine ⟨fun h => i1 h, hbt, fun h b' hb' cs hcs => ?_⟩
      rcases List.mem_cons.1 hb' with rfl | hb'
      ·intro hok
       have h1 := okB_pre hg hok
       have h2 : ¬ ∀ b c, s.best = some (b, c) → costB p (bs ++ [b']) < c := fun hh => g2 (goOn_iff.2 ⟨h1, hh⟩)
       have h3 : ∃ b c, s.best = some (b, c) ∧ c ≤ costB p (bs ++ [b']) := by
        apply Classical.byContradiction
        intro hn
        apply h2
        intro b c hb
        apply Classical.byContradiction
        intro hc
        exact hn ⟨b, c, hb, by omega⟩
       obtain ⟨b1, c1, h4, h5⟩ := h3
       obtain ⟨b2, c2, h6, h7⟩ := hbt b1 c1 h4
       have h8 := costB_pre hg hw hok
       exact ⟨b2, c2, h6, by omega⟩
      ·exact i3 h b' hb' cs hcs
  obtain ⟨k1, k2, k3⟩ := key [true, false] s
  refine ⟨k1, k2, fun h cs hcs => ?_⟩
  cases cs with
  | nil => simp at hcs
  | cons b cs =>
   have := k3 h b (by cases b <;> simp) cs (by simpa using hcs)
   have e : bs ++ [b] ++ cs = bs ++ b :: cs := by simp
   rw [e] at this
   exact this
end

theorem sum_ite_len (p : Ref → Bool) : ∀ l : List Ref, (l.map fun a => if p a = true then 1 else 0).sum = (l.filter p).length
 | [] => rfl
 | a :: l => by
  simp only [List.map_cons, List.sum_cons, List.filter_cons, sum_ite_len p l]
  split <;> simp <;> omega
theorem sum_single {u : Ref} (K : Nat) : ∀ {l : List Ref}, l.Nodup → (l.map fun a => if a = u then K else 0).sum = if u ∈ l then K else 0
 | [], _ => by simp
 | a :: l, h => by
  obtain ⟨h1, h2⟩ := List.nodup_cons.1 h
  simp only [List.map_cons, List.sum_cons, sum_single K h2, List.mem_cons]
  by_cases e : a = u
  ·subst e; simp [h1]
  ·have e' : ¬ u = a := fun h => e h.symm
   rw [if_neg e]
   simp [e']
theorem filter_one {u : Ref} {l : List Ref} (hn : l.Nodup) (hu : u ∈ l) : (l.filter fun c => decide (c = u)).length = 1 := by
 have h1 := sum_ite_len (fun c => decide (c = u)) l
 have h2 := sum_single (u := u) 1 hn
 rw [if_pos hu] at h2
 have e : (l.map fun a => if decide (a = u) = true then 1 else 0) = l.map fun a => if a = u then 1 else 0 := List.map_congr_left fun a _ => by simp
 rw [e, h2] at h1
 exact h1.symm
theorem sum_add (f g : Ref → Nat) : ∀ l : List Ref, (l.map fun a => f a + g a).sum = (l.map f).sum + (l.map g).sum
 | [] => rfl
 | a :: l => by simp only [List.map_cons, List.sum_cons, sum_add f g l]; omega
theorem filter_split (p q : Ref → Bool) : ∀ l : List Ref, (l.filter p).length = (l.filter fun a => p a && q a).length + (l.filter fun a => p a && !q a).length
 | [] => rfl
 | a :: l => by
  have ih := filter_split p q l
  simp only [List.filter_cons]
  cases p a <;> cases q a <;> simp <;> omega
theorem len_flat {α β : Type} (f : α → List β) : ∀ l : List α, (l.flatMap f).length = (l.map fun a => (f a).length).sum
 | [] => rfl
 | a :: l => by simp [List.flatMap_cons, len_flat f l]
theorem pairs_lost {lt : Ref → Ref → Bool} {l : List Ref} (hT : Tot lt l) (hn : l.Nodup) {r : Int} {u : Ref} (hu : u ∈ l) :
  ((pairsL r l).filter fun x => (decide (x.v = u) && lt x.u x.v) || (decide (x.u = u) && !lt x.u x.v)).length = (l.filter fun v => decide (v.tr ≠ u.tr) && lt v u).length := by
 unfold pairsL
 rw [List.filter_flatMap, len_flat]
 have key : ∀ a ∈ l, ((((l.filter fun v => decide (a.tr < v.tr)).map fun v => (⟨r, a, v⟩ : Pr)).filter fun x => (decide (x.v = u) && lt x.u x.v) || (decide (x.u = u) && !lt x.u x.v)).length) = (if (decide (a.tr < u.tr) && lt a u) = true then 1 else 0) + (if a = u then (l.filter fun c => decide (u.tr < c.tr) && lt c u).length else 0) := by
  intro a ha
  rw [List.filter_map, List.length_map, List.filter_filter]
  by_cases e : a = u
  ·subst e
   rw [if_pos rfl]
   have e1 : (decide (a.tr < a.tr) && lt a a) = false := by simp
   rw [e1, if_neg (by simp), Nat.zero_add]
   congr 1
   apply List.filter_congr
   intro c hc
   simp only [Function.comp]
   by_cases g : a.tr < c.tr
   ·have hne : a ≠ c := fun e => by subst e; omega
    have hne' : ¬ c = a := fun e => hne e.symm
    have h1 : lt c a = !lt a c := by
     cases h2 : lt a c with
     | true => rw [hT.asym a ha c hc h2]; rfl
     | false =>
      rcases hT.tot a ha c hc hne with h3 | h3
      ·rw [h2] at h3; cases h3
      ·rw [h3]; rfl
    rw [h1]
    simp [g, hne']
   ·simp [g]
  ·rw [if_neg e, Nat.add_zero]
   by_cases g : (decide (a.tr < u.tr) && lt a u) = true
   ·rw [if_pos g]
    rw [← filter_one hn hu]
    congr 1
    apply List.filter_congr
    intro c _
    simp only [Function.comp]
    simp only [Bool.and_eq_true, decide_eq_true_eq] at g
    by_cases e2 : c = u
    ·subst e2; simp [g.1, g.2, e]
    ·simp [e2, e]
   ·rw [if_neg g]
    rw [List.length_eq_zero_iff, List.filter_eq_nil_iff]
    intro c _
    simp only [Function.comp]
    simp only [Bool.and_eq_true, decide_eq_true_eq, not_and, Bool.not_eq_true] at g
    by_cases e2 : c = u
    ·subst e2
     simp only [Bool.not_eq_true]
     by_cases g2 : a.tr < c.tr
     ·simp [g g2, e]
     ·simp [g2]
    ·simp [e2, e]
 rw [List.map_congr_left key, sum_add, sum_ite_len, sum_single _ hn, if_pos hu]
 rw [filter_split (fun v => decide (v.tr ≠ u.tr) && lt v u) (fun v => decide (v.tr < u.tr)) l]
 congr 1
 ·congr 1
  apply List.filter_congr
  intro v _
  by_cases g : v.tr < u.tr
  ·have : v.tr ≠ u.tr := by omega
   simp [g, this]
  ·simp [g]
 ·congr 1
  apply List.filter_congr
  intro v _
  by_cases g : u.tr < v.tr
  ·have h1 : v.tr ≠ u.tr := by omega
   have h2 : ¬ v.tr < u.tr := by omega
   simp [g, h1, h2]
  ·by_cases g2 : v.tr = u.tr
   ·simp [g2]
   ·have h2 : v.tr < u.tr := by omega
    simp [g, h2]
def lostB (xs : List Pr) (bs : List Bool) (r : Int) (u : Ref) : Nat := ((xs.zip bs).filter fun q => decide (q.1.res = r) && ((decide (q.1.v = u) && q.2) || (decide (q.1.u = u) && !q.2))).length
def earlier (l : List Ref) (u : Ref) : Nat := (l.filter fun v => decide (v.tr = u.tr) && decide (v.st < u.st)).length
theorem zip_filter {α β : Type} (P : α × β → Bool) (Q : α → Bool) : ∀ (xs : List α) (ys : List β), xs.length = ys.length → (∀ (i : Nat) x y, xs[i]? = some x → ys[i]? = some y → P (x, y) = Q x) → ((xs.zip ys).filter P).length = (xs.filter Q).length
 | [], [], _, _ => rfl
 | [], _ :: _, h, _ => by simp at h
 | _ :: _, [], h, _ => by simp at h
 | x :: xs, y :: ys, h, hh => by
  have ih := zip_filter P Q xs ys (by simpa using h) (fun i x y h1 h2 => hh (i + 1) x y (by simpa using h1) (by simpa using h2))
  have h0 := hh 0 x y rfl rfl
  simp only [List.zip_cons_cons, List.filter_cons, h0]
  split <;> simp [ih]
theorem pairs_res {ps : List (List Stage)} {at_ : List Int} (P : Pr → Bool) {r : Nat} : ∀ n : Nat, (((pairsTo ps at_ n).filter fun x => decide (x.res = (r : Int)) && P x).length) = if r < n then ((pairsL (r : Int) (openA ps at_ (r : Int))).filter P).length else 0
 | 0 => by simp [pairsTo]
 | n + 1 => by
  have ih := pairs_res (ps := ps) (at_ := at_) P (r := r) n
  have e : pairsTo ps at_ (n + 1) = pairsTo ps at_ n ++ pairsL (n : Int) (openA ps at_ (n : Int)) := by unfold pairsTo; rw [List.range_succ, List.flatMap_append]; simp
  rw [e, List.filter_append, List.length_append, ih]
  have hres : ∀ x ∈ pairsL (n : Int) (openA ps at_ (n : Int)), x.res = (n : Int) := fun x hx => by
   unfold pairsL at hx
   obtain ⟨u, _, hx⟩ := List.mem_flatMap.1 hx
   obtain ⟨v, _, rfl⟩ := List.mem_map.1 hx
   rfl
  by_cases g : r = n
  ·subst g
   rw [if_neg (by omega), if_pos (by omega), Nat.zero_add]
   congr 1
   apply List.filter_congr
   intro x hx
   simp [hres x hx]
  ·have h0 : ((pairsL (n : Int) (openA ps at_ (n : Int))).filter fun x => decide (x.res = (r : Int)) && P x) = [] := by
    rw [List.filter_eq_nil_iff]
    intro x hx
    have : ¬ x.res = (r : Int) := by rw [hres x hx]; omega
    simp [this]
   rw [h0]
   by_cases g2 : r < n
   ·rw [if_pos g2, if_pos (by omega)]; rfl
   ·rw [if_neg g2, if_neg (by omega)]; rfl
theorem rank_count {ps : List (List Stage)} {at_ : List Int} {L : List Ref} (hm : valid ps = true) {bs : List Bool} (hl : bs.length = (pairsP ps at_).length) (h : Topo ps at_ (decs ps (pairsP ps at_) bs) L) (ho : ∀ a ∈ decs ps (pairsP ps at_) bs, doneR at_ a.to = false) {r : Nat} (hr : r < 144) {u : Ref} (hu : u ∈ openA ps at_ (r : Int)) :
  earlier (openA ps at_ (r : Int)) u + lostB (pairsP ps at_) bs (r : Int) u = rankD (precD ps (decs ps (pairsP ps at_) bs) (r : Int)) (openA ps at_ (r : Int)) u := by
 have hd := made_dec hm hl hr
 have hT := prec_tot h ho hd
 have h1 : lostB (pairsP ps at_) bs (r : Int) u = ((pairsL (r : Int) (openA ps at_ (r : Int))).filter fun x => (decide (x.v = u) && precD ps (decs ps (pairsP ps at_) bs) (r : Int) x.u x.v) || (decide (x.u = u) && !precD ps (decs ps (pairsP ps at_) bs) (r : Int) x.u x.v)).length := by
  unfold lostB
  rw [zip_filter _ (fun x => decide (x.res = (r : Int)) && ((decide (x.v = u) && precD ps (decs ps (pairsP ps at_) bs) (r : Int) x.u x.v) || (decide (x.u = u) && !precD ps (decs ps (pairsP ps at_) bs) (r : Int) x.u x.v))) _ _ hl.symm (fun i x y hx hy => ?_)]
  ·have := pairs_res (ps := ps) (at_ := at_) (r := r) (fun x => (decide (x.v = u) && precD ps (decs ps (pairsP ps at_) bs) (r : Int) x.u x.v) || (decide (x.u = u) && !precD ps (decs ps (pairsP ps at_) bs) (r : Int) x.u x.v)) 144
   rw [if_pos hr] at this
   exact this
  ·by_cases g : x.res = (r : Int)
   ·obtain ⟨xr, xu, xv⟩ := x
    simp only at g
    subst g
    have := (dec_prec hm hl h ho hr hx hy).1
    simp only [this]
   ·simp [g]
 rw [h1, pairs_lost hT (openA_nd ps at_ _) hu]
 unfold earlier rankD
 rw [filter_split (fun v => precD ps (decs ps (pairsP ps at_) bs) (r : Int) v u) (fun v => decide (v.tr = u.tr))]
 congr 1
 ·congr 1
  apply List.filter_congr
  intro v _
  unfold precD
  by_cases g : v.tr = u.tr
  ·simp [g]
  ·simp [g]
 ·congr 1
  apply List.filter_congr
  intro v _
  by_cases g : v.tr = u.tr
  ·simp [g]
  ·simp [g]

section
variable {ps : List (List Stage)} {at_ : List Int} {D D' : List RArc} {L : List Ref} {n : Int}
theorem arcsD_sub (hs : ∀ a ∈ D', a ∈ D) {a : RArc} (ha : a ∈ arcsD ps D') : a ∈ arcsD ps D := by
 unfold arcsD at ha ⊢
 rcases List.mem_append.1 ha with ha | ha
 ·exact List.mem_append_left _ ha
 ·exact List.mem_append_right _ (hs a ha)
theorem topo_sub (hs : ∀ a ∈ D', a ∈ D) (h : Topo ps at_ D L) : Topo ps at_ D' L := ⟨h.nd, h.mem, fun a ha he => h.ord a (arcsD_sub hs ha) he⟩
theorem dok_sub (hs : ∀ a ∈ D', a ∈ D) (h : DOk ps at_ D) : DOk ps at_ D' := ⟨fun a ha => h.frm a (hs a ha), fun a ha => h.to a (hs a ha), fun a ha => h.ne a (hs a ha), fun a ha => h.wt a (hs a ha)⟩
theorem sol_sub (hs : ∀ a ∈ D', a ∈ D) {base : Ref → Int} {ph : RArc → Int → Int} {T : Tab} (h : Sol ps at_ D base ph T) : Sol ps at_ D' base ph T := ⟨h.base, fun a ha h1 h2 => h.arc a (arcsD_sub hs ha) h1 h2⟩
theorem solS_sub (hs : ∀ a ∈ D', a ∈ D) {base : Ref → Int} {ph : RArc → Int → Int} {init : Tab} (hm : ∀ a x y, x ≤ y → ph a x ≤ ph a y) {L' : List Ref} (h' : Topo ps at_ D' L') (h : Topo ps at_ D L) (u : Ref) : solS ps at_ D' base ph init L' u ≤ solS ps at_ D base ph init L u := by
 by_cases hu : Ev ps at_ u
 ·exact solS_least h' hm (sol_sub hs (solS_sol h)) hu
 ·rw [solS_out h hu, solS_out h' hu]; exact Int.le_refl _
theorem leads_sub (hs : ∀ a ∈ D', a ∈ D) {L' : List Ref} (h' : Topo ps at_ D' L') (h : Topo ps at_ D L) {a b : Ref} (hl : leadsS ps at_ D' L' a b = true) : leadsS ps at_ D L a b = true := by
 unfold leadsS at hl ⊢
 rw [decide_eq_true_eq] at hl ⊢
 have h1 := solS_sub (base := fun _ => -1) (ph := phB a.tr) (init := fun _ => -1) hs (phB_mono a.tr) h' h b
 unfold befS at hl ⊢
 omega
structure Eff (ps : List (List Stage)) (at_ : List Int) (D' D : List RArc) (L : List Ref) : Prop where
 sub : ∀ a ∈ D', a ∈ D
 imp : ∀ b ∈ D, b ∈ D' ∨ leadsS ps at_ D' L b.frm b.to = true
theorem Eff.refl (D : List RArc) (L : List Ref) : Eff ps at_ D D L := ⟨fun _ h => h, fun _ h => .inl h⟩
theorem Eff.any (he : Eff ps at_ D' D L) (h : Topo ps at_ D' L) {L' : List Ref} (h' : Topo ps at_ D' L') : Eff ps at_ D' D L' :=
 ⟨he.sub, fun b hb => (he.imp b hb).imp id fun hl => leads_sub (fun _ h => h) h h' hl⟩
theorem Eff.snoc (he : Eff ps at_ D' D L) (h : Topo ps at_ D' L) {a : RArc} {L' : List Ref} (h' : Topo ps at_ (D' ++ [a]) L') : Eff ps at_ (D' ++ [a]) (D ++ [a]) L' := by
 refine ⟨fun x hx => ?_, fun b hb => ?_⟩
 ·rcases List.mem_append.1 hx with hx | hx
  ·exact List.mem_append_left _ (he.sub x hx)
  ·exact List.mem_append_right _ hx
 ·rcases List.mem_append.1 hb with hb | hb
  ·rcases he.imp b hb with h1 | h1
   ·exact .inl (List.mem_append_left _ h1)
   ·exact .inr (leads_sub (fun x hx => List.mem_append_left _ hx) h h' h1)
  ·exact .inl (List.mem_append_right _ hb)
theorem Eff.skip (he : Eff ps at_ D' D L) {x y : Ref} (hl : leadsS ps at_ D' L x y = true) : Eff ps at_ D' (D ++ [arc0 x y]) L := by
 refine ⟨fun a ha => List.mem_append_left _ (he.sub a ha), fun b hb => ?_⟩
 rcases List.mem_append.1 hb with hb | hb
 ·exact he.imp b hb
 ·obtain rfl : b = arc0 x y := by simpa using hb
  exact .inr hl
theorem eff_sol (hD : DOk ps at_ D) (h : Topo ps at_ D L) (he : Eff ps at_ D' D L) {base : Ref → Int} {ph : RArc → Int → Int} {init : Tab} (hm : ∀ a x y, x ≤ y → ph a x ≤ ph a y) (hph : ∀ a ∈ arcsD ps D', ∀ x, x ≤ ph a x)
  (hb : ∀ b ∈ D, Ev ps at_ b.to → leadsS ps at_ D' L b.frm b.to = true → ∀ T : Tab, Sol ps at_ D' base ph T → T b.frm ≤ T b.to → ph b (T b.frm) ≤ T b.to ∨ ph b (solS ps at_ D' base ph init L b.frm) ≤ solS ps at_ D' base ph init L b.to) (u : Ref) :
  solS ps at_ D' base ph init L u = solS ps at_ D base ph init L u := by
 have h' := topo_sub he.sub h
 have hs' := solS_sol (base := base) (ph := ph) (init := init) h'
 by_cases hu : Ev ps at_ u
 ·have h1 := solS_sub (base := base) (ph := ph) (init := init) he.sub hm h' h u
  have h2 : solS ps at_ D base ph init L u ≤ solS ps at_ D' base ph init L u := by
   refine solS_least h hm ⟨hs'.base, fun a ha h1 h2 => ?_⟩ hu
   rcases List.mem_append.1 ha with ha' | ha'
   ·exact hs'.arc a (List.mem_append_left _ ha') h1 h2
   ·rcases he.imp a ha' with h3 | h3
    ·exact hs'.arc a (List.mem_append_right _ h3) h1 h2
    ·have h4 := leads_le h' hs' hph (hD.frm a ha') h1 h3
     rcases hb a ha' h1 h3 _ hs' h4 with h5 | h5
     ·exact h5
     ·exact h5
  omega
 ·rw [solS_out h hu, solS_out h' hu]
theorem arcsD_wt (hv : valid ps = true) (hD : DOk ps at_ D) {a : RArc} (ha : a ∈ arcsD ps D) : 0 ≤ a.wt ∧ a.wt ≤ 4194304 := by
 rcases List.mem_append.1 ha with ha | ha
 ·obtain ⟨t, k, p, s, hp, hs, rfl⟩ := mem_chainR.1 ha
  exact (valid_clk hv hp hs).1
 ·rw [hD.wt a ha]; omega
theorem eff_lab (hv : valid ps = true) (hD : DOk ps at_ D) (h : Topo ps at_ D L) (he : Eff ps at_ D' D L) : labS ps at_ n D' L = labS ps at_ n D L := by
 funext u
 have h' := topo_sub he.sub h
 have e1 : secS ps at_ n D' L u = secS ps at_ n D L u := eff_sol hD h he phS_mono (fun a ha x => by unfold phS; have := arcsD_wt hv (dok_sub he.sub hD) ha; omega) (fun b hb _ _ T _ hle => .inl (by unfold phS; rw [hD.wt b hb]; omega)) u
 have e2 : ∀ t : Int, befS ps at_ D' L t u = befS ps at_ D L t u := fun t => eff_sol hD h he (phB_mono t) (fun a _ x => by unfold phB; omega) (fun b hb hto hl T hT hle => by
  right
  have h1 : -1 ≤ solS ps at_ D' (fun _ => -1) (phB t) (fun _ => -1) L b.to := (solS_sol (base := fun _ => -1) (ph := phB t) (init := fun _ => -1) h').base b.to hto
  have h2 := leads_le h' (solS_sol (base := fun _ => -1) (ph := phB t) (init := fun _ => -1) h') (fun a _ x => by unfold phB; omega) (hD.frm b hb) hto hl
  unfold leadsS befS at hl
  rw [decide_eq_true_eq] at hl
  unfold phB at h1 h2 hl ⊢
  by_cases e : b.frm.tr = t
  ·rw [if_pos e]; rw [e] at hl; omega
  ·rw [if_neg e]; omega) u
 unfold labS
 rw [e1]
 congr 1
 exact List.map_congr_left fun t _ => e2 _
end

def rowD (ps : List (List Stage)) (D : List RArc) (i : Nat) : List RArc := D.filter fun a => num ps a.frm == i
def nextD (ps : List (List Stage)) (D : List RArc) : List (List Int) := (List.range (evs ps).length).map fun i => (rowD ps D i).map fun a => (num ps a.to : Int)
theorem nextD_len (ps : List (List Stage)) (D : List RArc) : (nextD ps D).length = (evs ps).length := by simp [nextD]
theorem nextD_at (ps : List (List Stage)) (D : List RArc) {i : Nat} (hi : i < (evs ps).length) : (nextD ps D)[i]? = some ((rowD ps D i).map fun a => (num ps a.to : Int)) := by
 unfold nextD; rw [List.getElem?_map, List.getElem?_range hi]; rfl
theorem nextD_push (ps : List (List Stage)) (D : List RArc) (a : RArc) (hi : num ps a.frm < (evs ps).length) : nextD ps (D ++ [a]) = (nextD ps D).set (num ps a.frm) ((rowD ps D (num ps a.frm)).map (fun b => (num ps b.to : Int)) ++ [(num ps a.to : Int)]) := by
 apply List.ext_getElem?
 intro j
 rw [List.getElem?_set]
 by_cases hj : j < (evs ps).length
 ·rw [nextD_at _ _ hj]
  by_cases e : num ps a.frm = j
  ·subst e
   rw [if_pos rfl, if_pos (by rw [nextD_len]; exact hi)]
   simp [rowD, List.filter_append]
  ·rw [if_neg e, nextD_at _ _ hj]
   simp [rowD, List.filter_append, e]
 ·have h1 : (nextD ps (D ++ [a]))[j]? = none := List.getElem?_eq_none (by rw [nextD_len]; omega)
  have h2 : (nextD ps D)[j]? = none := List.getElem?_eq_none (by rw [nextD_len]; omega)
  rw [h1, h2]
  by_cases e : num ps a.frm = j
  ·omega
  ·rw [if_neg e]
theorem evs_num {ps : List (List Stage)} {u : Ref} (h : InR ps u) : (evs ps)[num ps u]? = some u := by
 obtain ⟨t, k, p, hp, hk, rfl⟩ := h
 exact evs_at hp hk
theorem num_inj {ps : List (List Stage)} {u v : Ref} (hu : InR ps u) (hv : InR ps v) (h : num ps u = num ps v) : u = v := by
 have h1 := evs_num hu
 rw [h, evs_num hv] at h1
 exact (Option.some.inj h1).symm
theorem num_lt {ps : List (List Stage)} {u : Ref} (h : InR ps u) : num ps u < (evs ps).length := (List.getElem?_eq_some_iff.1 (evs_num h)).1
theorem inR_mem {ps : List (List Stage)} {u : Ref} (h : InR ps u) : u ∈ evs ps := List.mem_of_getElem? (evs_num h)

structure Chg where
 ev : Int
 added : Bool
 old : Lab
def undo1 (E : List Ref) (c : Chg) (st : LTab × List (List Int)) : LTab × List (List Int) :=
 if c.added = true then (st.1, st.2.set c.ev.toNat ((st.2[c.ev.toNat]?).getD []).dropLast) else (updL st.1 ((E[c.ev.toNat]?).getD ⟨0, 0⟩) c.old, st.2)
def UndoR (E : List Ref) (st0 : LTab × List (List Int)) : List Chg → LTab × List (List Int) → Prop
 | [], st => st = st0
 | c :: r, st => (∃ e : Nat, c.ev = (e : Int) ∧ e < E.length ∧ (c.added = true → ∃ l x, st.2[e]? = some (l ++ [x]))) ∧ UndoR E st0 r (undo1 E c st)

theorem Prt.mono {ps : List (List Stage)} {at_ : List Int} {n : Int} {D : List RArc} {L : List Ref} {P Q : RArc → Prop} {T : LTab} (h : Prt ps at_ n D L P T) (hPQ : ∀ a ∈ arcsD ps D, Ev ps at_ a.to → doneR at_ a.frm = false → P a → Q a) : Prt ps at_ n D L Q T :=
 ⟨h.len, h.base, fun a ha h1 h2 => (h.arc a ha h1 h2).imp (hPQ a ha h1 h2) id, h.le, h.out⟩
theorem Prt.bounds {ps : List (List Stage)} {at_ : List Int} {n : Int} {D : List RArc} {L : List Ref} {P : RArc → Prop} {T : LTab} (hv : valid ps = true) (hD : DOk ps at_ D) (hn : 0 ≤ n ∧ n ≤ 4194304) (h : Topo ps at_ D L) (hp : Prt ps at_ n D L P T) (v : Ref) :
  (T v).bef.length = 10 ∧ (∀ t, t < 10 → -1 ≤ (T v).bf t ∧ (T v).bf t ≤ 64) ∧ -1 ≤ (T v).sec ∧ (T v).sec ≤ 3000000000 := by
 have hL := topo_len hv h
 have hb := fun t => befS_bd hv h t v
 have hs := secS_bd (n := n) (L := L) hv hD hn v
 by_cases hu : Ev ps at_ v
 ·obtain ⟨h1, h2⟩ := hp.le v hu
  obtain ⟨h3, h4⟩ := hp.base v hu
  refine ⟨hp.len v, fun t ht => ⟨h4 t ht, by have := h2 t ht; have := hb (t : Int); omega⟩, ?_, by omega⟩
  have h5 : -1 ≤ baseN ps at_ n v := by
   unfold baseN base2
   have h6 := (baseS_bd hv hn ⟨(v.tr.toNat : Int), (v.st.toNat : Int)⟩).1
   split <;> omega
  omega
 ·rw [hp.out v hu]
  refine ⟨labS_len v, fun t ht => ?_, ?_, ?_⟩
  ·rw [labS_bf ht]; exact hb _
  ·exact hs.1
  ·show secS ps at_ n D L v ≤ 3000000000
   omega

def labsC (E : List Ref) (T : LTab) : Array Value := (E.map fun u => (labC (T u)).toList).flatten.toArray
theorem labsC_at {E : List Ref} (T : LTab) {i j : Nat} {u : Ref} (h : E[i]? = some u) (hj : j < 11) : (labsC E T)[i * 11 + j]? = (labC (T u))[j]? := by
 unfold labsC
 rw [List.getElem?_toArray, flatten_at (size := 11) (es := (labC (T u)).toList) (fun es hes => ?_) (by rw [List.getElem?_map, h]; rfl) hj]
 ·simp
 ·obtain ⟨v, _, rfl⟩ := List.mem_map.1 hes
  rfl
theorem labsC_size (E : List Ref) (T : LTab) : (labsC E T).size = E.length * 11 := by
 unfold labsC
 simp only [List.size_toArray]
 induction E with
 | nil => rfl
 | cons a E ih =>
  simp only [List.map_cons, List.flatten_cons, List.length_append, List.length_cons, ih]
  have : (labC (T a)).toList.length = 11 := rfl
  omega
theorem setLabC_at (cs : Array Value) {i k : Nat} (l : Lab) (hk : k < cs.size) : (setLabC cs i l)[k]? = if i ≤ k ∧ k < i + 11 then (labC l)[k - i]? else cs[k]? := by
 unfold setLabC
 simp only [Array.getElem?_setIfInBounds, Array.size_setIfInBounds]
 by_cases g : i ≤ k ∧ k < i + 11
 ·rw [if_pos g]
  obtain ⟨j, rfl⟩ : ∃ j, k = i + j := ⟨k - i, by omega⟩
  have hj : j < 11 := by omega
  rw [Nat.add_sub_cancel_left]
  rcases j with _ | _ | _ | _ | _ | _ | _ | _ | _ | _ | _ | j
  all_goals first | omega | (simp [labC, b8]; try omega)
 ·rw [if_neg g]
  have h0 : ∀ d, d < 11 → ¬ i + d = k := fun d hd e => g ⟨by omega, by omega⟩
  rw [if_neg (h0 10 (by omega)), if_neg (h0 9 (by omega)), if_neg (h0 8 (by omega)), if_neg (h0 7 (by omega)), if_neg (h0 6 (by omega)), if_neg (h0 5 (by omega)), if_neg (h0 4 (by omega)), if_neg (h0 3 (by omega)), if_neg (h0 2 (by omega)), if_neg (h0 1 (by omega)), if_neg (by have := h0 0 (by omega); simpa using this)]
theorem setLabC_size (cs : Array Value) (i : Nat) (l : Lab) : (setLabC cs i l).size = cs.size := by simp [setLabC]
theorem labsC_set {E : List Ref} (hn : E.Nodup) (T : LTab) {i : Nat} {u : Ref} (h : E[i]? = some u) (l : Lab) : setLabC (labsC E T) (i * 11) l = labsC E (updL T u l) := by
 apply Array.ext
 ·rw [setLabC_size, labsC_size, labsC_size]
 ·intro k hk hk2
  rw [setLabC_size] at hk
  have e : (setLabC (labsC E T) (i * 11) l)[k]? = (labsC E (updL T u l))[k]? := by
   rw [setLabC_at _ _ hk]
   rw [labsC_size] at hk
   have hq : k / 11 < E.length := (Nat.div_lt_iff_lt_mul (by omega)).2 hk
   have hkk : k = k / 11 * 11 + k % 11 := by omega
   have hr : k % 11 < 11 := Nat.mod_lt _ (by omega)
   have hE : E[k / 11]? = some E[k / 11] := List.getElem?_eq_getElem hq
   generalize k / 11 = q at *
   generalize k % 11 = r at *
   subst hkk
   rw [labsC_at _ hE hr, labsC_at _ hE hr]
   by_cases g : q = i
   ·subst g
    rw [h] at hE
    injection hE with hE
    rw [← hE, updL_at, if_pos (by omega), Nat.add_sub_cancel_left]
   ·have hne : E[q] ≠ u := fun e => by
     rw [e] at hE
     exact g (nd_at hn hE h)
    rw [updL_ne _ _ hne, if_neg (by omega)]
  rw [Array.getElem?_eq_getElem (by rw [setLabC_size]; exact hk), Array.getElem?_eq_getElem hk2] at e
  injection e

def RChg : Rd Chg := fun _ _ cs x => cs = [.int .i64 x.ev, .bool x.added] ++ (labC x.old).toList
theorem RChg.ok : Rd.Ok RChg := ⟨fun h _ _ => h⟩
theorem RChg.flat : Rd.Flat RChg := fun _ _ _ _ _ _ h => h
def boolsC (l : List Bool) : Array Value := (l.map Value.bool).toArray
theorem boolsC_at {l : List Bool} {i : Nat} {b : Bool} (h : l[i]? = some b) : (boolsC l)[i]? = some (.bool b) := by unfold boolsC; simp [h]
theorem boolsC_set (l : List Bool) (i : Nat) (b : Bool) : (boolsC l).setIfInBounds i (.bool b) = boolsC (l.set i b) := by unfold boolsC; simp [List.map_set]
structure GS where
 ps : List (List Stage)
 at_ : List Int
 now : Int
 vp : Value
 va : Value
 vd : Value
 vw : Value
 fv : Value
 ev : Value
 gb : Nat
 lb : Nat
 nb : Nat
 qb : Nat
 bs : Nat
 Z : Foot
 wz : World
structure GD where
 T : LTab
 vs : List Value
 N : List (List Int)
 lgv : Value
 lg : List Chg
 qv : Value
 que : List Int
 qd : List Bool
def GS.n (s : GS) : Nat := (evs s.ps).length
def GOwn (s : GS) (d : GD) (b : Nat) : Prop := b = s.gb ∨ b = s.lb ∨ b = s.nb ∨ b = s.qb ∨ d.lgv.ownBlock = some b ∨ d.qv.ownBlock = some b ∨ ∃ (i : Nat) (v : Value), d.vs[i]? = some v ∧ v.ownBlock = some b
structure Gm (s : GS) (w0 wr : World) (d : GD) : Prop where
 b : Blk wr s.gb 125 #[s.vp, s.va, s.vd, s.vw, .int .i64 s.now, s.fv, s.ev, .slice (some ⟨s.lb, 0, none⟩) s.n s.n, .slice (some ⟨s.nb, 0, none⟩) s.n s.n, d.lgv, d.qv, .slice (some ⟨s.qb, 0, none⟩) s.n s.n]
 P : RPaths wr (Old w0) [s.vp] s.ps
 A : RInts wr (Old w0) [s.va] s.at_
 f : OwnL 3 1 RInt wr w0.heap.size w0.heap.size s.fv (firsts s.ps)
 fl : ∀ b, s.fv.ownBlock = some b → b < s.bs
 e : OwnL 46 2 RRef wr w0.heap.size w0.heap.size s.ev (evs s.ps)
 el : ∀ b, s.ev.ownBlock = some b → b < s.bs
 l : Blk wr s.lb 130 (labsC (evs s.ps) d.T)
 nr : Rows 22 3 1 RInt wr s.bs s.nb d.vs d.N
 nl : d.N.length = s.n
 lg : OwnL 154 13 RChg wr s.bs s.bs d.lgv d.lg
 q : OwnL 3 1 RInt wr s.bs s.bs d.qv d.que
 qd : Blk wr s.qb 4 (boolsC d.qd)
 ql : d.qd.length = s.n
 ne : ∀ (i : Nat) v b, d.vs[i]? = some v → v.ownBlock = some b → d.qv.ownBlock ≠ some b
 lo : w0.heap.size ≤ s.gb ∧ w0.heap.size ≤ s.lb ∧ w0.heap.size ≤ s.nb ∧ w0.heap.size ≤ s.qb
 hi : s.gb < s.bs ∧ s.lb < s.bs ∧ s.qb < s.bs
 bsz : s.bs ≤ wr.heap.size
 k : KeepsAll w0 wr
 z : ∀ b, s.Z b → b < s.wz.heap.size ∧ wr.heap[b]? = s.wz.heap[b]?
 zs : s.wz.heap.size ≤ wr.heap.size
 zn : ∀ b, GOwn s d b → ¬ s.Z b
section
variable {s : GS} {w0 wr w' : World} {d : GD}
theorem Gm.keep (h : Gm s w0 wr d) (k : KeepsAll wr w') : Gm s w0 w' d :=
 ⟨h.b.kept k (by simp), k.rd RPaths.ok h.P (fun b hb => ⟨Nat.lt_of_lt_of_le hb h.k.size, by simp⟩) (fun _ h => h), k.rd RInts.ok h.A (fun b hb => ⟨Nat.lt_of_lt_of_le hb h.k.size, by simp⟩) (fun _ h => h), h.f.keeps RInt.ok k (fun _ _ h => h.elim), h.fl, h.e.keeps RRef.ok k (fun _ _ h => h.elim), h.el, h.l.kept k (by simp), h.nr.keeps RInt.flat k (by simp) (by simp), h.nl, h.lg.keeps RChg.ok k (fun _ _ h => h.elim), h.q.keeps RInt.ok k (fun _ _ h => h.elim), h.qd.kept k (by simp), h.ql, h.ne, h.lo, h.hi, Nat.le_trans h.bsz k.size, h.k.tr k, fun b hb => ⟨(h.z b hb).1, (k.block b (Nat.lt_of_lt_of_le (h.z b hb).1 h.zs) (by simp)).trans (h.z b hb).2⟩, Nat.le_trans h.zs k.size, h.zn⟩
theorem Gm.zk (h : Gm s w0 wr d) {C : Foot} (k : Keeps C wr w') (hC : ∀ b, b < wr.heap.size → C b → GOwn s d b) : (∀ b, s.Z b → b < s.wz.heap.size ∧ w'.heap[b]? = s.wz.heap[b]?) ∧ s.wz.heap.size ≤ w'.heap.size :=
 ⟨fun b hb => ⟨(h.z b hb).1, (k.block b (Nat.lt_of_lt_of_le (h.z b hb).1 h.zs) (fun e => h.zn b (hC b (Nat.lt_of_lt_of_le (h.z b hb).1 h.zs) e) hb)).trans (h.z b hb).2⟩, Nat.le_trans h.zs k.size⟩
theorem Gm.znew (h : Gm s w0 wr d) {b : Nat} (hb : wr.heap.size ≤ b) : ¬ s.Z b := fun hz => by have := (h.z b hz).1; have := h.zs; omega
theorem Gm.lab (h : Gm s w0 wr d) {i : Nat} {u : Ref} (hu : (evs s.ps)[i]? = some u) : LabAt wr s.lb i (d.T u) := fun j v hv => by
 have hj : j < 11 := (Array.getElem?_eq_some_iff.1 hv).1
 rw [h.l.cell, labsC_at _ hu hj, hv]
theorem Gm.evc (h : Gm s w0 wr d) {i : Nat} {u : Ref} (hu : (evs s.ps)[i]? = some u) : ∃ eb ce, s.ev = .slice (some ⟨eb, 0, none⟩) s.n ce ∧ wr.cell? ⟨eb, i * 2, none⟩ = some (.int .i64 u.tr) ∧ wr.cell? ⟨eb, i * 2 + 1, none⟩ = some (.int .i64 u.st) := by
 have hil := getElem?_lt hu
 obtain ⟨A, c, he, _, _⟩ := h.e.form
 obtain ⟨eb, hA, _⟩ := (he ▸ h.e).some_ (by omega)
 subst hA
 have hr := (he ▸ h.e).readF RRef.ok RRef.flat (S := fun _ => True) (fun _ _ => trivial)
 obtain ⟨b, o, u', hbo, _, hu', m0, m1⟩ := RRefs.at_ hr hil
 injection hbo with hbo
 injection hbo with e1 e2
 subst e1 e2
 rw [hu] at hu'; injection hu' with hu'; subst hu'
 exact ⟨eb, c, he, by simpa using m0, by simpa using m1⟩
theorem Gm.c6 (h : Gm s w0 wr d) : wr.cell? ⟨s.gb, 6, none⟩ = some s.ev := by have := h.b.cell 6; simpa using this
theorem Gm.c7 (h : Gm s w0 wr d) : wr.cell? ⟨s.gb, 7, none⟩ = some (.slice (some ⟨s.lb, 0, none⟩) s.n s.n) := by have := h.b.cell 7; simpa using this
end

end Go.Proofs.Ytilbbpbjhoidhaa
