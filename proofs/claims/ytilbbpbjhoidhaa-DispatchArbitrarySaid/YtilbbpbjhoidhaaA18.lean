/- What choosing one more pair does to the labels, and the labels without any chosen pair. No program in sight. -/
import Derived.Test.YtilbbpbjhoidhaaA17
namespace Go.Proofs.Ytilbbpbjhoidhaa
open Go.RowKit

/-- the labels for decided arcs -/
def labD (ps : List (List Stage)) (at_ : List Int) (n : Int) (D : List RArc) : LTab := labS ps at_ n D (lineR ps (arcsD ps D) at_).1
def leadsL (T : LTab) (a b : Ref) : Bool := decide (a.st ≤ (T b).bf a.tr.toNat)
section
variable {ps : List (List Stage)} {at_ : List Int} {D : List RArc} {L : List Ref} {n : Int}
theorem labD_eq (hg : Gd ps at_) (hD : DOk ps at_ D) (hok : okD ps at_ D = true) (h : Topo ps at_ D L) (u : Ref) : labD ps at_ n D u = labS ps at_ n D L u := by
 have h' := (topo_of_ok hg hD hok).2
 unfold labD labS secS befS
 rw [solS_indep phS_mono h' h u]
 congr 1
 exact List.map_congr_left fun t _ => solS_indep (phB_mono (t : Int)) h' h u
theorem leadsL_eq (hv : valid ps = true) {a b : Ref} (ha : InR ps a) : leadsL (labS ps at_ n D L) a b = leadsS ps at_ D L a b := by
 obtain ⟨t, k, p, hp, _, rfl⟩ := ha
 have ht := getElem?_lt hp
 have := (valid_lens hv).1
 unfold leadsL leadsS
 rw [labS_bf (by simp; omega)]
 simp
theorem DOk.snoc (hD : DOk ps at_ D) {x y : Ref} (hx : Ev ps at_ x) (hy : InR ps y) (hne : x.tr ≠ y.tr) : DOk ps at_ (D ++ [arc0 x y]) := by
 have key : ∀ a, a ∈ D ++ [arc0 x y] → a ∈ D ∨ a = arc0 x y := fun a ha => by simpa using ha
 refine ⟨fun a ha => ?_, fun a ha => ?_, fun a ha => ?_, fun a ha => ?_⟩ <;> rcases key a ha with h | rfl
 ·exact hD.frm a h
 ·exact hx
 ·exact hD.to a h
 ·exact hy
 ·exact hD.ne a h
 ·exact hne
 ·exact hD.wt a h
 ·rfl
/-- an arc to an event that has happened -/
theorem choose_late (hg : Gd ps at_) (hD : DOk ps at_ D) {x y : Ref} (hx : Ev ps at_ x) (hy : InR ps y) (hne : x.tr ≠ y.tr) (hd : doneR at_ y = true) : okD ps at_ (D ++ [arc0 x y]) = false := by
 cases e : okD ps at_ (D ++ [arc0 x y]) with
 | false => rfl
 | true =>
  have h1 := (topo_of_ok hg (hD.snoc hx hy hne) e).1 (arc0 x y) (by simp)
  have h1 : doneR at_ y = false := h1
  rw [hd] at h1; cases h1
theorem choose_bad (hg : Gd ps at_) (hD : DOk ps at_ D) (h : Topo ps at_ D L) {x y : Ref} (hx : Ev ps at_ x) (hy : Ev ps at_ y) (hne : x.tr ≠ y.tr) (hl : leadsS ps at_ D L y x = true) : okD ps at_ (D ++ [arc0 x y]) = false := by
 cases e : okD ps at_ (D ++ [arc0 x y]) with
 | false => rfl
 | true =>
  have h1 := topo_bad h (topo_of_ok hg (hD.snoc hx hy.1 hne) e).2 hx hy
  rw [hl] at h1; cases h1
theorem choose_ok (hg : Gd ps at_) (hD : DOk ps at_ D) (ho : ∀ a ∈ D, doneR at_ a.to = false) (h : Topo ps at_ D L) {x y : Ref} (hx : Ev ps at_ x) (hy : Ev ps at_ y) (hne : x.tr ≠ y.tr) (hl : leadsS ps at_ D L y x = false) : okD ps at_ (D ++ [arc0 x y]) = true ∧ ∃ L', Topo ps at_ (D ++ [arc0 x y]) L' := by
 obtain ⟨L', h'⟩ := topo_add h hx hy (fun e => hne (by rw [e])) hl
 refine ⟨ok_of_topo hg (hD.snoc hx hy.1 hne) (fun a ha => ?_) h', L', h'⟩
 rcases List.mem_append.1 ha with ha | ha
 ·exact ho a ha
 ·simp at ha; subst ha; exact hy.2

theorem evs_nd (ps : List (List Stage)) : (evs ps).Nodup := by
 show List.Pairwise (fun a b => a ≠ b) _
 rw [List.pairwise_iff_getElem]
 intro i j hi hj hij e
 obtain ⟨t, k, p, _, hp, hk, rfl⟩ := evs_inv ps.length (Nat.le_refl _) (i := i) (by rw [fst_len]; exact hi)
 obtain ⟨t', k', p', _, hp', hk', rfl⟩ := evs_inv ps.length (Nat.le_refl _) (i := j) (by rw [fst_len]; exact hj)
 have h1 := evs_at hp hk
 have h2 := evs_at hp' hk'
 rw [List.getElem?_eq_getElem hi] at h1
 rw [List.getElem?_eq_getElem hj] at h2
 injection h1 with h1; injection h2 with h2
 rw [h1, h2] at e
 simp only [Ref.mk.injEq] at e
 have e1 : t = t' := by omega
 subst e1
 omega
/-- without chosen pairs there is an order -/
theorem topo_nil (ps : List (List Stage)) (at_ : List Int) : Topo ps at_ [] ((evs ps).filter fun u => !doneR at_ u) := by
 refine ⟨(evs_nd ps).sublist (List.filter_sublist ..), fun u => ?_, fun a ha he => ?_⟩
 ·rw [List.mem_filter]
  unfold Ev InR
  constructor
  ·rintro ⟨hu, hd⟩
   obtain ⟨i, hi⟩ := List.mem_iff_getElem?.1 hu
   have hil := getElem?_lt hi
   obtain ⟨t, k, p, _, hp, hk, rfl⟩ := evs_inv ps.length (Nat.le_refl _) (i := i) (by rw [fst_len]; exact hil)
   rw [evs_at hp hk] at hi
   injection hi with hi
   exact ⟨⟨t, k, p, hp, hk, hi.symm⟩, by simpa using hd⟩
  ·rintro ⟨⟨t, k, p, hp, hk, rfl⟩, hd⟩
   exact ⟨List.mem_of_getElem? (evs_at hp hk), by simp [hd]⟩
 ·have ha : a ∈ chainR ps := by unfold arcsD at ha; simpa using ha
  obtain ⟨t, k, p, s, hp, hs, rfl⟩ := mem_chainR.1 ha
  have hk := getElem?_lt hs
  cases e : doneR at_ ⟨(t : Int), (k : Int)⟩ with
  | true => exact .inl rfl
  | false =>
   right
   have h1 : Bf (evs ps) ⟨(t : Int), (k : Int)⟩ ⟨(t : Int), (k : Int) + 1⟩ := bf_at.2 ⟨fst ps t + k, fst ps t + (k + 1), by omega, evs_at hp (by omega), by have := evs_at hp (k := k + 1) (by omega); simpa using this⟩
   have h2 : [(⟨(t : Int), (k : Int)⟩ : Ref), ⟨(t : Int), (k : Int) + 1⟩].Sublist ((evs ps).filter fun u => !doneR at_ u) := by
    have := List.Sublist.filter (fun u => !doneR at_ u) h1
    simpa [List.filter_cons, e, he.2] using this
   exact h2
theorem dok_nil (ps : List (List Stage)) (at_ : List Int) : DOk ps at_ [] := ⟨by simp, by simp, by simp, by simp⟩
theorem okD_nil (hg : Gd ps at_) : okD ps at_ [] = true := ok_of_topo hg (dok_nil ps at_) (by simp) (topo_nil ps at_)
def labB (s : Int) : Lab := ⟨s, List.replicate 10 (-1)⟩
theorem labB_bf (s : Int) {t : Nat} (ht : t < 10) : (labB s).bf t = -1 := by unfold labB Lab.bf; simp only; rw [List.getElem?_replicate, if_pos ht]; rfl
/-- the labels without chosen pairs, along each train -/
theorem lab_nil {t k : Nat} {p : List Stage} (hp : ps[t]? = some p) (hk : k ≤ p.length) (h : Topo ps at_ [] L) :
  labS ps at_ n [] L ⟨(t : Int), (k : Int)⟩ = if doneR at_ ⟨(t : Int), (k : Int)⟩ = true then labB (-1)
   else if k = 0 ∨ doneR at_ ⟨(t : Int), (k : Int) - 1⟩ = true then labB (baseN ps at_ n ⟨(t : Int), (k : Int)⟩)
   else mergeL (labB (baseN ps at_ n ⟨(t : Int), (k : Int)⟩)) (labS ps at_ n [] L ⟨(t : Int), (k : Int) - 1⟩) ⟨(t : Int), (k : Int) - 1⟩ (mnAt ps t (k - 1)) := by
 have harc : ∀ a ∈ arcsD ps [], a.to = ⟨(t : Int), (k : Int)⟩ → ∃ k' s, k = k' + 1 ∧ p[k']? = some s ∧ a = ⟨⟨(t : Int), (k' : Int)⟩, ⟨(t : Int), (k' : Int) + 1⟩, s.mn⟩ := fun a ha hto => by
  have ha : a ∈ chainR ps := by unfold arcsD at ha; simpa using ha
  obtain ⟨t', k', p', s', hp', hs', rfl⟩ := mem_chainR.1 ha
  injection hto with e1 e2
  have : t' = t := by omega
  subst this
  rw [hp] at hp'; injection hp' with hp'; subst hp'
  exact ⟨k', s', by omega, hs', rfl⟩
 cases hd : doneR at_ ⟨(t : Int), (k : Int)⟩ with
 | true =>
  rw [if_pos rfl]
  have hne : ¬ Ev ps at_ ⟨(t : Int), (k : Int)⟩ := fun h => by have h2 := h.2; rw [hd] at h2; cases h2
  refine Lab.ext10 (labS_len _) (by simp [labB]) ?_ fun j hj => ?_
  ·show secS ps at_ n [] L _ = -1
   unfold secS
   rw [solS_out h hne]
   unfold initR
   rw [if_pos hd]
  ·rw [labS_bf hj, labB_bf _ hj]
   unfold befS
   rw [solS_out h hne]
 | false =>
  rw [if_neg (by simp)]
  have hev : Ev ps at_ ⟨(t : Int), (k : Int)⟩ := ⟨⟨t, k, p, hp, hk, rfl⟩, hd⟩
  have fix : ∀ (base : Ref → Int) (ph : RArc → Int → Int) (init : Tab), solS ps at_ [] base ph init L ⟨(t : Int), (k : Int)⟩ = mxo (fun a => if a.to = ⟨(t : Int), (k : Int)⟩ ∧ doneR at_ a.frm = false then some (ph a (solS ps at_ [] base ph init L a.frm)) else none) (base ⟨(t : Int), (k : Int)⟩) (arcsD ps []) := fun base ph init => solS_fix h hev
  by_cases g : k = 0 ∨ doneR at_ ⟨(t : Int), (k : Int) - 1⟩ = true
  ·rw [if_pos g]
   have none_ : ∀ (base : Ref → Int) (ph : RArc → Int → Int) (init : Tab), solS ps at_ [] base ph init L ⟨(t : Int), (k : Int)⟩ = base ⟨(t : Int), (k : Int)⟩ := fun base ph init => by
    rw [fix]
    apply Int.le_antisymm
    ·rw [mxo_le]
     refine ⟨Int.le_refl _, fun a ha y hy => ?_⟩
     split at hy
     ·rename_i hc
      obtain ⟨k', s, rfl, hs, rfl⟩ := harc a ha hc.1
      rcases g with g | g
      ·omega
      ·have e : ((k' + 1 : Nat) : Int) - 1 = (k' : Int) := by omega
       rw [e] at g
       have h1 := hc.2
       simp only at h1
       rw [g] at h1; cases h1
     ·cases hy
    ·exact mxo_ge _ _ _
   refine Lab.ext10 (labS_len _) (by simp [labB]) (none_ _ _ _) fun j hj => ?_
   rw [labS_bf hj, labB_bf _ hj]
   exact none_ _ _ _
  ·rw [if_neg g]
   rw [not_or] at g
   obtain ⟨k', rfl⟩ : ∃ k', k = k' + 1 := ⟨k - 1, by omega⟩
   have e : ((k' + 1 : Nat) : Int) - 1 = (k' : Int) := by omega
   rw [e] at g ⊢
   have hs : p[k']? = some p[k'] := List.getElem?_eq_getElem (by omega)
   have hmn : mnAt ps t (k' + 1 - 1) = p[k'].mn := by simp [mnAt, hp, hs]
   rw [hmn]
   have hdp : doneR at_ ⟨(t : Int), (k' : Int)⟩ = false := by simpa using g.2
   have one : ∀ (base : Ref → Int) (ph : RArc → Int → Int) (init : Tab), solS ps at_ [] base ph init L ⟨(t : Int), ((k' + 1 : Nat) : Int)⟩ = max (base ⟨(t : Int), ((k' + 1 : Nat) : Int)⟩) (ph ⟨⟨(t : Int), (k' : Int)⟩, ⟨(t : Int), (k' : Int) + 1⟩, p[k'].mn⟩ (solS ps at_ [] base ph init L ⟨(t : Int), (k' : Int)⟩)) := fun base ph init => by
    rw [fix]
    apply Int.le_antisymm
    ·rw [mxo_le]
     refine ⟨by omega, fun a ha y hy => ?_⟩
     split at hy
     ·rename_i hc
      obtain ⟨k2, s, hk2, hs2, rfl⟩ := harc a ha hc.1
      have : k2 = k' := by omega
      subst this
      rw [hs] at hs2; injection hs2 with hs2; subst hs2
      injection hy with hy
      simp only at hy
      omega
     ·cases hy
    ·have h1 := mxo_ge (fun a => if a.to = ⟨(t : Int), ((k' + 1 : Nat) : Int)⟩ ∧ doneR at_ a.frm = false then some (ph a (solS ps at_ [] base ph init L a.frm)) else none) (base ⟨(t : Int), ((k' + 1 : Nat) : Int)⟩) (arcsD ps [])
     have h2 := mxo_mem (fun a => if a.to = ⟨(t : Int), ((k' + 1 : Nat) : Int)⟩ ∧ doneR at_ a.frm = false then some (ph a (solS ps at_ [] base ph init L a.frm)) else none) (base ⟨(t : Int), ((k' + 1 : Nat) : Int)⟩) (arcsD ps []) (a := ⟨⟨(t : Int), (k' : Int)⟩, ⟨(t : Int), (k' : Int) + 1⟩, p[k'].mn⟩) (List.mem_append_left _ (mem_chainR.2 ⟨t, k', p, _, hp, hs, rfl⟩)) (by rw [if_pos ⟨by simp, hdp⟩])
     simp only at h2
     omega
   refine Lab.ext10 (labS_len _) (mergeL_len _ _ _ _) ?_ fun j hj => ?_
   ·show secS ps at_ n [] L _ = max _ _
    unfold secS
    rw [one]
    rfl
   ·have h1 := mergeL_bf (labB (baseN ps at_ n ⟨(t : Int), ((k' + 1 : Nat) : Int)⟩)) (labS ps at_ n [] L ⟨(t : Int), (k' : Int)⟩) ⟨⟨(t : Int), (k' : Int)⟩, ⟨(t : Int), (k' : Int) + 1⟩, p[k'].mn⟩ hj
    simp only at h1
    rw [h1, labS_bf hj, labS_bf hj, labB_bf _ hj]
    unfold befS
    rw [one]
end

end Go.Proofs.Ytilbbpbjhoidhaa
