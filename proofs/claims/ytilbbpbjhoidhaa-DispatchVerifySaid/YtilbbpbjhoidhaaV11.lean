/- Arcs of decided pairs: when they have an order of all events, and what one more arc changes. No program in sight. A list of paths in memory of which one cell is written again: it still reads as a list of paths. Conditions: as each theorem says. Owned slices: stores, and more. Conditions: as each theorem says. -/
import Derived.Test.YtilbbpbjhoidhaaV10
import Derived.Test.YtilbbpbjhoidhaaV05
namespace Go.Proofs.Ytilbbpbjhoidhaa
open Go.RowKit

def InR (ps : List (List Stage)) (u : Ref) : Prop := ∃ (t k : Nat) (p : List Stage), ps[t]? = some p ∧ k ≤ p.length ∧ u = ⟨(t : Int), (k : Int)⟩
def Ev (ps : List (List Stage)) (at_ : List Int) (u : Ref) : Prop := InR ps u ∧ doneR at_ u = false
def arcsD (ps : List (List Stage)) (D : List RArc) : List RArc := chainR ps ++ D
structure DOk (ps : List (List Stage)) (at_ : List Int) (D : List RArc) : Prop where
 frm : ∀ a ∈ D, Ev ps at_ a.frm
 to : ∀ a ∈ D, InR ps a.to
 ne : ∀ a ∈ D, a.frm.tr ≠ a.to.tr
 wt : ∀ a ∈ D, a.wt = 0
structure Topo (ps : List (List Stage)) (at_ : List Int) (D : List RArc) (L : List Ref) : Prop where
 nd : L.Nodup
 mem : ∀ u, u ∈ L ↔ Ev ps at_ u
 ord : ∀ a ∈ arcsD ps D, Ev ps at_ a.to → doneR at_ a.frm = true ∨ Bf L a.frm a.to
def okD (ps : List (List Stage)) (at_ : List Int) (D : List RArc) : Bool := (lineR ps (arcsD ps D) at_).2
section
variable {ps : List (List Stage)} {at_ : List Int} {D : List RArc} {L : List Ref}
theorem InR.tr {u : Ref} (h : InR ps u) : 0 ≤ u.tr := by obtain ⟨t, k, p, _, _, rfl⟩ := h; simp
theorem InR.st {u : Ref} (h : InR ps u) : 0 ≤ u.st := by obtain ⟨t, k, p, _, _, rfl⟩ := h; simp
theorem arcsD_ends (hD : DOk ps at_ D) {a : RArc} (ha : a ∈ arcsD ps D) : InR ps a.frm ∧ InR ps a.to := by
 rcases List.mem_append.1 ha with ha | ha
 ·obtain ⟨t, k, p, s, hp, hs, rfl⟩ := mem_chainR.1 ha
  have := getElem?_lt hs
  exact ⟨⟨t, k, p, hp, by omega, rfl⟩, ⟨t, k + 1, p, hp, by omega, by simp⟩⟩
 ·exact ⟨(hD.frm a ha).1, hD.to a ha⟩
theorem topo_of_ok (hg : Gd ps at_) (hD : DOk ps at_ D) (h : okD ps at_ D = true) : (∀ a ∈ D, doneR at_ a.to = false) ∧ Topo ps at_ D (lineR ps (arcsD ps D) at_).1 := by
 unfold okD at h
 unfold lineR at h ⊢
 by_cases g : (arcsD ps D).any (badArc at_) = true
 ·rw [if_pos g] at h; simp at h
 rw [if_neg g] at h ⊢
 by_cases g2 : total ps (lineFrom (goR ps (arcsD ps D)) (total ps at_) at_).2 = 0
 case neg => rw [if_neg g2] at h; simp at h
 rw [if_pos g2]
 simp only
 have hnb : ∀ a ∈ arcsD ps D, ¬ (doneR at_ a.to = true ∧ doneR at_ a.frm = false) := fun a ha hh => by
  apply g
  rw [List.any_eq_true]
  exact ⟨a, ha, by unfold badArc; rw [hh.1, hh.2]; rfl⟩
 have hs := goR_sound ps (arcsD ps D)
 obtain ⟨m1, m2, m3⟩ := lineFrom_mem hs (total ps at_) at_ hg
 have hinv := lineFrom_inv hs (total ps at_) at_ hg
 have hrefs := lineFrom_refs hs (total ps at_) at_ hg
 have hdep := lineFrom_dep hs (total ps at_) at_ hg
 have hfull := (total_zero hinv.1).1 g2
 refine ⟨fun a ha => ?_, m3, fun u => ⟨fun hu => ⟨hrefs u hu, (m2 u hu).2⟩, fun hu => ?_⟩, fun a ha hev => ?_⟩
 ·have h1 := hnb a (List.mem_append_right _ ha)
  have h2 := (hD.frm a ha).2
  cases e : doneR at_ a.to with
  | false => rfl
  | true => exact absurd ⟨e, h2⟩ h1
 ·obtain ⟨⟨t, k, p, hp, hk, rfl⟩, hd⟩ := hu
  have h1 : doneR (lineFrom (goR ps (arcsD ps D)) (total ps at_) at_).2 ⟨(t : Int), (k : Int)⟩ = true := by
   unfold doneR
   rw [decide_eq_true_eq]
   have := hfull t (getElem?_lt hp)
   rw [lenAt_of hp] at this
   simp only [Int.toNat_natCast]
   omega
  rcases (m1 ⟨(t : Int), (k : Int)⟩ (by simp)).1 h1 with h | h
  ·rw [h] at hd; exact absurd hd (by simp)
  ·exact h
 ·have hm : a.to ∈ (lineFrom (goR ps (arcsD ps D)) (total ps at_) at_).1 := by
   obtain ⟨⟨t, k, p, hp, hk, e⟩, hd⟩ := hev
   rw [e] at hd ⊢
   have h1 : doneR (lineFrom (goR ps (arcsD ps D)) (total ps at_) at_).2 ⟨(t : Int), (k : Int)⟩ = true := by
    unfold doneR
    rw [decide_eq_true_eq]
    have := hfull t (getElem?_lt hp)
    rw [lenAt_of hp] at this
    simp only [Int.toNat_natCast]
    omega
   rcases (m1 ⟨(t : Int), (k : Int)⟩ (by simp)).1 h1 with h | h
   ·rw [h] at hd; exact absurd hd (by simp)
   ·exact h
  obtain ⟨j, hj⟩ := List.mem_iff_getElem?.1 hm
  obtain ⟨nj, t, i1, i2, i3, i4⟩ := hdep j a.to hj
  unfold goR at i2
  have h2 := List.find?_some i2
  simp only [goC, Bool.and_eq_true, decide_eq_true_eq] at h2
  have h3 := List.all_eq_true.1 h2.2 a ha
  rw [← i3] at h3
  simp at h3
  rcases i4 a.frm (arcsD_ends hD ha).1.tr h3 with h4 | h4
  ·exact .inl h4
  ·exact .inr (bf_of_take hj h4)
theorem Topo.chain (h : Topo ps at_ D L) {t k : Nat} {p : List Stage} (hp : ps[t]? = some p) (hd : doneR at_ ⟨(t : Int), (k : Int)⟩ = false) : ∀ m : Nat, k + m + 1 ≤ p.length → Bf L ⟨(t : Int), (k : Int)⟩ ⟨(t : Int), ((k + m + 1 : Nat) : Int)⟩ := by
 have hd2 : ∀ i : Nat, k ≤ i → doneR at_ ⟨(t : Int), (i : Int)⟩ = false := fun i hi => by
  unfold doneR at hd ⊢
  simp at hd ⊢
  omega
 have step : ∀ i : Nat, k ≤ i → i + 1 ≤ p.length → Bf L ⟨(t : Int), (i : Int)⟩ ⟨(t : Int), ((i + 1 : Nat) : Int)⟩ := fun i hi hl => by
  have hs : p[i]? = some p[i] := List.getElem?_eq_getElem (by omega)
  have h1 := h.ord ⟨⟨(t : Int), (i : Int)⟩, ⟨(t : Int), (i : Int) + 1⟩, p[i].mn⟩ (List.mem_append_left _ (mem_chainR.2 ⟨t, i, p, _, hp, hs, rfl⟩)) ⟨⟨t, i + 1, p, hp, hl, by simp⟩, by have := hd2 (i + 1) (by omega); simpa using this⟩
  rcases h1 with h1 | h1
  ·rw [hd2 i hi] at h1; cases h1
  ·simpa using h1
 intro m
 induction m with
 | zero => intro hm; exact step k (Nat.le_refl _) hm
 | succ m ih =>
  intro hm
  exact (ih (by omega)).trans h.nd (step (k + m + 1) (by omega) (by omega))
theorem ok_of_topo (hg : Gd ps at_) (hD : DOk ps at_ D) (ho : ∀ a ∈ D, doneR at_ a.to = false) (h : Topo ps at_ D L) : okD ps at_ D = true := by
 have hs := goR_sound ps (arcsD ps D)
 have hinv := lineFrom_inv hs (total ps at_) at_ hg
 obtain ⟨m1, _, _⟩ := lineFrom_mem hs (total ps at_) at_ hg
 have hst := hinv.2.2 (Nat.le_refl _)
 have hgf := hinv.1
 unfold okD lineR
 have hnb : ¬ (arcsD ps D).any (badArc at_) = true := by
  rw [List.any_eq_true]
  rintro ⟨a, ha, hb⟩
  unfold badArc at hb
  simp only [Bool.and_eq_true, Bool.not_eq_true'] at hb
  rcases List.mem_append.1 ha with ha | ha
  ·obtain ⟨t, k, p, s, hp, hs, rfl⟩ := mem_chainR.1 ha
   unfold doneR at hb
   simp at hb
   omega
  ·rw [ho a ha] at hb; exact absurd hb.1 (by simp)
 rw [if_neg hnb]
 have mono : ∀ x : Ref, 0 ≤ x.tr → doneR at_ x = true → doneR (lineFrom (goR ps (arcsD ps D)) (total ps at_) at_).2 x = true := fun x hx hd => (m1 x hx).2 (.inl hd)
 generalize (lineFrom (goR ps (arcsD ps D)) (total ps at_) at_).2 = now at *
 have key : ∀ j : Nat, ∀ u, L[j]? = some u → doneR now u = true := by
  intro j
  induction j using Nat.strongRecOn with
  | _ j ih =>
   intro u hu
   obtain ⟨⟨t, k, p, hp, hk, rfl⟩, hd⟩ := (h.mem u).1 (List.mem_of_getElem? hu)
   have hpre : ∀ a ∈ arcsD ps D, a.to = ⟨(t : Int), (k : Int)⟩ → doneR now a.frm = true := fun a ha hto => by
    have hin := arcsD_ends hD ha
    rcases h.ord a ha (by rw [hto]; exact ⟨⟨t, k, p, hp, hk, rfl⟩, hd⟩) with h1 | h1
    ·exact mono _ hin.1.tr h1
    ·rw [hto] at h1
     obtain ⟨i, j', hij, hi, hj'⟩ := bf_at.1 h1
     obtain rfl := nd_at h.nd hu hj'
     exact ih i hij _ hi
   have htl := getElem?_lt hp
   have hGt := hgf.2 t htl
   rcases Int.lt_or_le (nowAt now t) (k : Int) with hlt | hle
   ·exfalso
    have hk1 : (k : Int) = nowAt now t + 1 := by
     cases k with
     | zero => omega
     | succ k =>
      have hsk : p[k]? = some p[k] := List.getElem?_eq_getElem (by omega)
      have := hpre ⟨⟨(t : Int), (k : Int)⟩, ⟨(t : Int), (k : Int) + 1⟩, p[k].mn⟩ (List.mem_append_left _ (mem_chainR.2 ⟨t, k, p, _, hp, hsk, rfl⟩)) (by simp)
      unfold doneR at this
      simp at this
      omega
    have hgo : goC ps (arcsD ps D) now t = true := by
     simp only [goC, Bool.and_eq_true, decide_eq_true_eq]
     refine ⟨by rw [lenAt_of hp]; omega, List.all_eq_true.2 fun a ha => ?_⟩
     rw [← hk1]
     by_cases e : a.to = ⟨(t : Int), (k : Int)⟩
     ·simp [hpre a ha e]
     ·simp [e]
    unfold goR at hst
    have := List.find?_eq_none.1 hst t (List.mem_range.2 htl)
    exact this hgo
   ·unfold doneR; simpa using hle
 have hz : total ps now = 0 := by
  rw [total_zero hgf]
  intro t ht
  have hp : ps[t]? = some ps[t] := List.getElem?_eq_getElem ht
  have hG := hgf.2 t ht
  rw [lenAt_of hp] at hG ⊢
  have hd : doneR now ⟨(t : Int), (ps[t].length : Int)⟩ = true := by
   cases e : doneR at_ ⟨(t : Int), (ps[t].length : Int)⟩ with
   | true => exact mono _ (by simp) e
   | false =>
    obtain ⟨j, hj⟩ := List.mem_iff_getElem?.1 ((h.mem _).2 ⟨⟨t, ps[t].length, ps[t], hp, Nat.le_refl _, rfl⟩, e⟩)
    exact key j _ hj
  unfold doneR at hd
  simp at hd
  omega
 rw [if_pos hz]

structure Sol (ps : List (List Stage)) (at_ : List Int) (D : List RArc) (base : Ref → Int) (ph : RArc → Int → Int) (T : Tab) : Prop where
 base : ∀ e, Ev ps at_ e → base e ≤ T e
 arc : ∀ a ∈ arcsD ps D, Ev ps at_ a.to → doneR at_ a.frm = false → ph a (T a.frm) ≤ T a.to
def stepS (ps : List (List Stage)) (at_ : List Int) (D : List RArc) (base : Ref → Int) (ph : RArc → Int → Int) (T : Tab) (u : Ref) : Int :=
 mxo (fun a => if a.to = u ∧ doneR at_ a.frm = false then some (ph a (T a.frm)) else none) (base u) (arcsD ps D)
def solS (ps : List (List Stage)) (at_ : List Int) (D : List RArc) (base : Ref → Int) (ph : RArc → Int → Int) (init : Tab) (L : List Ref) : Tab := secs (stepS ps at_ D base ph) init L
section
variable {base : Ref → Int} {ph : RArc → Int → Int} {init : Tab}
theorem stepS_dep (h : Topo ps at_ D L) : Dep (stepS ps at_ D base ph) L := by
 intro j u hj T T' he
 unfold stepS
 apply mxo_congr
 intro a ha
 by_cases e : a.to = u ∧ doneR at_ a.frm = false
 ·rw [if_pos e, if_pos e]
  have hev : Ev ps at_ a.to := by rw [e.1]; exact (h.mem u).1 (List.mem_of_getElem? hj)
  rcases h.ord a ha hev with h1 | h1
  ·rw [e.2] at h1; cases h1
  ·rw [e.1] at h1
   rw [he _ (h1.take h.nd hj)]
 ·rw [if_neg e, if_neg e]
theorem solS_fix (h : Topo ps at_ D L) {u : Ref} (hu : Ev ps at_ u) : solS ps at_ D base ph init L u = stepS ps at_ D base ph (solS ps at_ D base ph init L) u :=
 secs_fix h.nd (stepS_dep h) u ((h.mem u).2 hu)
theorem solS_out (h : Topo ps at_ D L) {u : Ref} (hu : ¬ Ev ps at_ u) : solS ps at_ D base ph init L u = init u := secs_out _ L init (fun hm => hu ((h.mem u).1 hm))
theorem solS_sol (h : Topo ps at_ D L) : Sol ps at_ D base ph (solS ps at_ D base ph init L) := by
 refine ⟨fun e he => ?_, fun a ha he hf => ?_⟩
 ·rw [solS_fix h he]; exact mxo_ge _ _ _
 ·rw [solS_fix h he]
  exact mxo_mem _ _ _ ha (by rw [if_pos ⟨rfl, hf⟩])
theorem solS_least (h : Topo ps at_ D L) (hm : ∀ a x y, x ≤ y → ph a x ≤ ph a y) {T : Tab} (hT : Sol ps at_ D base ph T) {u : Ref} (hu : Ev ps at_ u) : solS ps at_ D base ph init L u ≤ T u := by
 have key : ∀ j : Nat, ∀ u, L[j]? = some u → solS ps at_ D base ph init L u ≤ T u := by
  intro j
  induction j using Nat.strongRecOn with
  | _ j ih =>
   intro u hju
   have hev := (h.mem u).1 (List.mem_of_getElem? hju)
   rw [solS_fix h hev]
   unfold stepS
   rw [mxo_le]
   refine ⟨hT.base u hev, fun a ha y hy => ?_⟩
   by_cases e : a.to = u ∧ doneR at_ a.frm = false
   ·rw [if_pos e] at hy
    injection hy with hy
    obtain ⟨rfl, e2⟩ := e
    have h1 := hT.arc a ha hev e2
    rcases h.ord a ha hev with h2 | h2
    ·rw [e2] at h2; cases h2
    ·obtain ⟨i, j', hij, hi, hj'⟩ := bf_at.1 h2
     obtain rfl := nd_at h.nd hju hj'
     have := hm a _ _ (ih i hij _ hi)
     omega
   ·rw [if_neg e] at hy; cases hy
 obtain ⟨j, hj⟩ := List.mem_iff_getElem?.1 ((h.mem u).2 hu)
 exact key j u hj
theorem sol_eq (h : Topo ps at_ D L) (hm : ∀ a x y, x ≤ y → ph a x ≤ ph a y) {T : Tab} (hT : Sol ps at_ D base ph T) (hle : ∀ u, Ev ps at_ u → T u ≤ solS ps at_ D base ph init L u) {u : Ref} (hu : Ev ps at_ u) : T u = solS ps at_ D base ph init L u := by
 have h1 := solS_least (init := init) h hm hT hu
 have h2 := hle u hu
 omega
end

def phB (t : Int) (a : RArc) (x : Int) : Int := max x (if a.frm.tr = t then a.frm.st else -1)
theorem phB_mono (t : Int) : ∀ a x y, x ≤ y → phB t a x ≤ phB t a y := fun a x y h => by unfold phB; omega
def befS (ps : List (List Stage)) (at_ : List Int) (D : List RArc) (L : List Ref) (t : Int) : Tab := solS ps at_ D (fun _ => -1) (phB t) (fun _ => -1) L
def leadsS (ps : List (List Stage)) (at_ : List Int) (D : List RArc) (L : List Ref) (a b : Ref) : Bool := decide (a.st ≤ befS ps at_ D L a.tr b)
def arc0 (x y : Ref) : RArc := ⟨x, y, 0⟩
theorem befS_arc (h : Topo ps at_ D L) {a : RArc} (ha : a ∈ arcsD ps D) (he : Ev ps at_ a.to) (hf : doneR at_ a.frm = false) (t : Int) : befS ps at_ D L t a.frm ≤ befS ps at_ D L t a.to ∧ (a.frm.tr = t → a.frm.st ≤ befS ps at_ D L t a.to) := by
 have h1 : max (befS ps at_ D L t a.frm) (if a.frm.tr = t then a.frm.st else -1) ≤ befS ps at_ D L t a.to := (solS_sol (base := fun _ => -1) (ph := phB t) (init := fun _ => -1) h).arc a ha he hf
 refine ⟨by omega, fun e => ?_⟩
 rw [if_pos e] at h1
 omega
theorem leads_step (h : Topo ps at_ D L) {a : RArc} (ha : a ∈ arcsD ps D) (he : Ev ps at_ a.to) (hf : doneR at_ a.frm = false) {y : Ref} (hy : a.frm = y ∨ leadsS ps at_ D L y a.frm = true) : leadsS ps at_ D L y a.to = true := by
 obtain ⟨h1, h2⟩ := befS_arc h ha he hf y.tr
 unfold leadsS at *
 rw [decide_eq_true_eq] at *
 rcases hy with rfl | hy
 ·exact h2 rfl
 ·omega
theorem arcsD_snoc (x y : Ref) : arcsD ps (D ++ [arc0 x y]) = arcsD ps D ++ [arc0 x y] := by unfold arcsD; rw [List.append_assoc]
theorem topo_add (h : Topo ps at_ D L) {x y : Ref} (hx : Ev ps at_ x) (hy : Ev ps at_ y) (hne : x ≠ y) (hn : leadsS ps at_ D L y x = false) :
  ∃ L', Topo ps at_ (D ++ [arc0 x y]) L' := by
 obtain ⟨R, hR⟩ : ∃ R : Ref → Bool, R = fun z => decide (z = y) || leadsS ps at_ D L y z := ⟨_, rfl⟩
 have hRe : ∀ z, R z = true ↔ z = y ∨ leadsS ps at_ D L y z = true := fun z => by rw [hR]; simp
 refine ⟨L.filter (fun z => !R z) ++ L.filter R, ?_, fun u => ?_, fun a ha he => ?_⟩
 ·rw [List.nodup_append]
  refine ⟨h.nd.sublist (List.filter_sublist ..), h.nd.sublist (List.filter_sublist ..), fun u hu v hv e => ?_⟩
  subst e
  have h1 := (List.mem_filter.1 hu).2
  have h2 := (List.mem_filter.1 hv).2
  rw [h2] at h1; simp at h1
 ·rw [List.mem_append, List.mem_filter, List.mem_filter, ← h.mem u]
  cases R u <;> simp
 ·have put : ∀ {f u : Ref}, f ∈ L → u ∈ L → R f = false → R u = true → Bf (L.filter (fun z => !R z) ++ L.filter R) f u := fun hf hu h1 h2 =>
   (List.singleton_sublist.2 (List.mem_filter.2 ⟨hf, by simp [h1]⟩)).append (List.singleton_sublist.2 (List.mem_filter.2 ⟨hu, h2⟩))
  rw [arcsD_snoc] at ha
  rcases List.mem_append.1 ha with ha | ha
  ·rcases h.ord a ha he with h1 | h1
   ·exact .inl h1
   right
   have hfo : doneR at_ a.frm = false := ((h.mem _).1 h1.mem.1).2
   cases e1 : R a.to with
   | false =>
    have e2 : R a.frm = false := by
     cases e2 : R a.frm with
     | false => rfl
     | true =>
      have := leads_step h ha he hfo ((hRe _).1 e2)
      rw [(hRe _).2 (.inr this)] at e1; cases e1
    have h2 : [a.frm, a.to].Sublist (L.filter fun z => !R z) := by
     have := List.Sublist.filter (fun z => !R z) h1
     simpa [List.filter_cons, e1, e2] using this
    exact List.Sublist.trans h2 (List.sublist_append_left _ _)
   | true =>
    cases e2 : R a.frm with
    | false => exact put h1.mem.1 h1.mem.2 e2 e1
    | true =>
     have h2 : [a.frm, a.to].Sublist (L.filter R) := by
      have := List.Sublist.filter R h1
      simpa [List.filter_cons, e1, e2] using this
     exact List.Sublist.trans h2 (List.sublist_append_right _ _)
  ·simp at ha
   subst ha
   right
   refine put ((h.mem _).2 hx) ((h.mem _).2 hy) ?_ ((hRe _).2 (.inl rfl))
   show R x = false
   cases e : R x with
   | false => rfl
   | true =>
    rcases (hRe _).1 e with h1 | h1
    ·exact absurd h1 hne
    ·rw [hn] at h1; cases h1
theorem topo_bad (h : Topo ps at_ D L) {L' : List Ref} {x y : Ref} (h' : Topo ps at_ (D ++ [arc0 x y]) L') (hx : Ev ps at_ x) (hy : Ev ps at_ y) : leadsS ps at_ D L y x = false := by
 have hxy : Bf L' x y := by
  rcases h'.ord (arc0 x y) (by rw [arcsD_snoc]; simp) hy with h1 | h1
  ·have := hx.2; unfold arc0 at h1; rw [this] at h1; cases h1
  ·exact h1
 have hnyx := hxy.asymm h'.nd
 classical
 have hX : Sol ps at_ D (fun _ => -1) (phB y.tr) (fun e => if Bf L' y e then befS ps at_ D L y.tr e else min (befS ps at_ D L y.tr e) (y.st - 1)) := by
  have hs := solS_sol (base := fun _ => -1) (ph := phB y.tr) (init := fun _ => -1) h
  have hst := hy.1.st
  refine ⟨fun e he => ?_, fun a ha he hf => ?_⟩
  ·have h1 : -1 ≤ befS ps at_ D L y.tr e := hs.base e he
   split <;> omega
  ·obtain ⟨b1, b2⟩ := befS_arc h ha he hf y.tr
   have hbf : Bf L' a.frm a.to := by
    rcases h'.ord a (by rw [arcsD_snoc]; exact List.mem_append_left _ ha) he with h1 | h1
    ·rw [hf] at h1; cases h1
    ·exact h1
   have hb0 : -1 ≤ befS ps at_ D L y.tr a.to := hs.base a.to he
   unfold phB
   by_cases g : Bf L' y a.to
   ·rw [if_pos g]
    have e1 : (if Bf L' y a.frm then befS ps at_ D L y.tr a.frm else min (befS ps at_ D L y.tr a.frm) (y.st - 1)) ≤ befS ps at_ D L y.tr a.frm := by split <;> omega
    have e2 : (if a.frm.tr = y.tr then a.frm.st else -1) ≤ befS ps at_ D L y.tr a.to := by
     split
     ·rename_i e; exact b2 e
     ·exact hb0
    omega
   ·rw [if_neg g]
    have g2 : ¬ Bf L' y a.frm := fun hh => g (hh.trans h'.nd hbf)
    rw [if_neg g2]
    have e2 : (if a.frm.tr = y.tr then a.frm.st else -1) ≤ min (befS ps at_ D L y.tr a.to) (y.st - 1) := by
     split
     ·rename_i e
      have h1 := b2 e
      have h2 : a.frm.st < y.st := by
       rcases Int.lt_or_le a.frm.st y.st with h2 | h2
       ·exact h2
       ·exfalso
        obtain ⟨tf, kf, pf, hpf, hkf, ef⟩ := ((h'.mem _).1 hbf.mem.1).1
        obtain ⟨ty, ky, py, hpy, hky, ey⟩ := hy.1
        rw [ef, ey] at e h2
        simp only at e h2
        have : tf = ty := by omega
        subst this
        rw [hpf] at hpy; injection hpy with hpy; subst hpy
        by_cases e3 : kf = ky
        ·subst e3
         rw [ef, ← ey] at hbf
         exact g hbf
        ·have h3 := h'.chain hpf (k := ky) (by rw [← ey]; exact hy.2) (kf - ky - 1) (by omega)
         rw [show ky + (kf - ky - 1) + 1 = kf from by omega, ← ey, ← ef] at h3
         exact g2 h3
      omega
     ·omega
    omega
 have h1 := solS_least (init := fun _ => -1) h (phB_mono y.tr) hX hx
 simp only at h1
 rw [if_neg hnyx] at h1
 unfold leadsS
 rw [decide_eq_false_iff_not]
 have : befS ps at_ D L y.tr x ≤ min (befS ps at_ D L y.tr x) (y.st - 1) := h1
 omega
theorem leads_ind (h : Topo ps at_ D L) {y z : Ref} (hy : InR ps y) (hz : Ev ps at_ z) (Q : Ref → Prop) (h1 : ∀ a ∈ arcsD ps D, Ev ps at_ a.to → doneR at_ a.frm = false → Q a.frm → Q a.to)
  (h2 : ∀ a ∈ arcsD ps D, Ev ps at_ a.to → doneR at_ a.frm = false → a.frm.tr = y.tr → y.st ≤ a.frm.st → Q a.to) (hl : leadsS ps at_ D L y z = true) : Q z := by
 classical
 have hs := solS_sol (base := fun _ => -1) (ph := phB y.tr) (init := fun _ => -1) h
 have hst := hy.st
 have hX : Sol ps at_ D (fun _ => -1) (phB y.tr) (fun e => if Q e then befS ps at_ D L y.tr e else min (befS ps at_ D L y.tr e) (y.st - 1)) := by
  refine ⟨fun e he => ?_, fun a ha he hf => ?_⟩
  ·have h1 : -1 ≤ befS ps at_ D L y.tr e := hs.base e he
   split <;> omega
  ·obtain ⟨b1, b2⟩ := befS_arc h ha he hf y.tr
   have hb0 : -1 ≤ befS ps at_ D L y.tr a.to := hs.base a.to he
   unfold phB
   by_cases g : Q a.to
   ·rw [if_pos g]
    have e1 : (if Q a.frm then befS ps at_ D L y.tr a.frm else min (befS ps at_ D L y.tr a.frm) (y.st - 1)) ≤ befS ps at_ D L y.tr a.frm := by split <;> omega
    have e2 : (if a.frm.tr = y.tr then a.frm.st else -1) ≤ befS ps at_ D L y.tr a.to := by
     split
     ·rename_i e; exact b2 e
     ·exact hb0
    omega
   ·rw [if_neg g]
    have g2 : ¬ Q a.frm := fun hh => g (h1 a ha he hf hh)
    rw [if_neg g2]
    have e2 : (if a.frm.tr = y.tr then a.frm.st else -1) ≤ min (befS ps at_ D L y.tr a.to) (y.st - 1) := by
     split
     ·rename_i e
      have h3 := b2 e
      have h4 : a.frm.st < y.st := by
       rcases Int.lt_or_le a.frm.st y.st with h4 | h4
       ·exact h4
       ·exact absurd (h2 a ha he hf e h4) g
      omega
     ·omega
    omega
 have h3 := solS_least (init := fun _ => -1) h (phB_mono y.tr) hX hz
 unfold leadsS at hl
 rw [decide_eq_true_eq] at hl
 by_cases g : Q z
 ·exact g
 ·rw [if_neg g] at h3
  have : befS ps at_ D L y.tr z ≤ min (befS ps at_ D L y.tr z) (y.st - 1) := h3
  omega
theorem leads_le (h : Topo ps at_ D L) {base : Ref → Int} {ph : RArc → Int → Int} {T : Tab} (hT : Sol ps at_ D base ph T) (hph : ∀ a ∈ arcsD ps D, ∀ x, x ≤ ph a x) {y z : Ref} (hy : Ev ps at_ y) (hz : Ev ps at_ z) (hl : leadsS ps at_ D L y z = true) : T y ≤ T z := by
 have step : ∀ a ∈ arcsD ps D, Ev ps at_ a.to → doneR at_ a.frm = false → T a.frm ≤ T a.to := fun a ha h1 h2 => by
  have := hT.arc a ha h1 h2
  have := hph a ha (T a.frm)
  omega
 obtain ⟨⟨ty, ky, py, hpy, hky, rfl⟩, hyd⟩ := hy
 have hd2 : ∀ i : Nat, ky ≤ i → doneR at_ ⟨(ty : Int), (i : Int)⟩ = false := fun i hi => by
  unfold doneR at hyd ⊢
  simp at hyd ⊢
  omega
 have chain : ∀ m : Nat, ky + m ≤ py.length → T ⟨(ty : Int), (ky : Int)⟩ ≤ T ⟨(ty : Int), ((ky + m : Nat) : Int)⟩ := by
  intro m
  induction m with
  | zero => intro _; exact Int.le_refl _
  | succ m ih =>
   intro hm
   have hs : py[ky + m]? = some py[ky + m] := List.getElem?_eq_getElem (by omega)
   have h1 := step ⟨⟨(ty : Int), ((ky + m : Nat) : Int)⟩, ⟨(ty : Int), ((ky + m : Nat) : Int) + 1⟩, py[ky + m].mn⟩ (List.mem_append_left _ (mem_chainR.2 ⟨ty, ky + m, py, _, hpy, hs, rfl⟩)) ⟨⟨ty, ky + m + 1, py, hpy, by omega, by simp⟩, by have := hd2 (ky + m + 1) (by omega); simpa using this⟩ (hd2 (ky + m) (by omega))
   have h2 := ih (by omega)
   have e : ((ky + (m + 1) : Nat) : Int) = ((ky + m : Nat) : Int) + 1 := by omega
   rw [e]
   simp only at h1
   omega
 refine leads_ind h ⟨ty, ky, py, hpy, hky, rfl⟩ hz (fun e => T ⟨(ty : Int), (ky : Int)⟩ ≤ T e) (fun a ha h1 h2 h3 => Int.le_trans h3 (step a ha h1 h2)) (fun a ha h1 h2 h3 h4 => ?_) hl
 refine Int.le_trans ?_ (step a ha h1 h2)
 have hend : InR ps a.frm := by
  rcases List.mem_append.1 ha with ha' | ha'
  ·obtain ⟨t, k, p, s, hp, hs, rfl⟩ := mem_chainR.1 ha'
   have := getElem?_lt hs
   exact ⟨t, k, p, hp, by omega, rfl⟩
  ·rcases h.ord a ha h1 with h5 | h5
   ·rw [h2] at h5; cases h5
   ·exact ((h.mem _).1 h5.mem.1).1
 obtain ⟨tf, kf, pf, hpf, hkf, ef⟩ := hend
 rw [ef] at h3 h4 ⊢
 simp only at h3 h4
 have : tf = ty := by omega
 subst this
 rw [hpf] at hpy; injection hpy with hpy; subst hpy
 have := chain (kf - ky) (by omega)
 rw [show ky + (kf - ky) = kf from by omega] at this
 exact this
end

theorem list_choose {α : Type} {P : Nat → α → Prop} : ∀ n : Nat, (∀ j, j < n → ∃ x, P j x) → ∃ l : List α, l.length = n ∧ ∀ (j : Nat) x, l[j]? = some x → P j x
 | 0, _ => ⟨[], rfl, fun j x h => by simp at h⟩
 | n + 1, h => by
  obtain ⟨l, hl, h1⟩ := list_choose (P := P) n (fun j hj => h j (by omega))
  obtain ⟨x, hx⟩ := h n (by omega)
  refine ⟨l ++ [x], by simp [hl], fun j y hy => ?_⟩
  rcases Nat.lt_or_ge j n with hj | hj
  ·rw [List.getElem?_append_left (by omega)] at hy; exact h1 j y hy
  ·rw [List.getElem?_append_right (by omega)] at hy
   have hj0 : j = n := by have := getElem?_lt hy; simp at this; omega
   subst hj0
   rw [hl, Nat.sub_self] at hy; simp at hy; subst hy; exact hx

def Fit (w : World) (S : Foot) (p : Addr) (u : Value) : Prop := (∃ a b, w.cell? p = some (.int .i64 a) ∧ u = .int .i64 b) ∨ ∃ A n c, w.cell? p = some (.slice A n c) ∧ ∃ l, RInts (w.setCell p u) S [u] l
theorem Fit.int {w : World} {S : Foot} {p q : Addr} {u : Value} {x : Int} (h : Fit w S p u) (hq : w.cell? q = some (.int .i64 x)) : ∃ y, (w.setCell p u).cell? q = some (.int .i64 y) := by
 by_cases e : p = q
 ·subst e
  rcases h with ⟨a, b, h1, rfl⟩ | ⟨A, n, c, h1, _⟩
  ·exact ⟨b, World.cell?_setCell_same _ _ _ h1⟩
  ·rw [h1] at hq; cases hq
 ·exact ⟨x, (World.cell?_setCell_other _ _ _ _ e).trans hq⟩
theorem RInts.write {w : World} {S : Foot} {p : Addr} {u v : Value} {l : List Int} (hf : Fit w S p u) (h : RInts w S [v] l) : ∃ l', l'.length = l.length ∧ RInts (w.setCell p u) S [v] l' := by
 obtain ⟨A, c, he, h1, h2, h3⟩ := h
 injection he with he _; subst he
 by_cases hl : l = []
 ·subst hl; exact ⟨[], rfl, A, c, rfl, h1, h2, fun h => absurd rfl h⟩
 ·obtain ⟨b, o, rfl, hb, hj⟩ := h3 hl
  obtain ⟨l', hl', h5⟩ := list_choose (P := fun j y => (w.setCell p u).cell? ⟨b, o + j, none⟩ = some (.int .i64 y)) l.length (fun j hj' => by
   obtain ⟨es, e1, e2, e3⟩ := hj j l[j] (List.getElem?_eq_getElem hj')
   cases e2
   exact hf.int (by simpa using e3 0 _ rfl))
  refine ⟨l', hl', some ⟨b, o, none⟩, c, by rw [hl'], by omega, h2, fun _ => ⟨b, o, rfl, hb, fun j x hx => ⟨[.int .i64 x], rfl, rfl, fun i y hy => ?_⟩⟩⟩
  have hi : i = 0 := by
   rcases i with _ | i
   ·rfl
   ·simp at hy
  subst hi
  simp at hy; subst hy
  simpa using h5 j x hx
theorem RPath.write {w : World} {S : Foot} {p : Addr} {u v : Value} {l : List Stage} (hf : Fit w S p u) (h : RPath w S [v] l) : ∃ l', l'.length = l.length ∧ RPath (w.setCell p u) S [v] l' := by
 obtain ⟨A, c, he, h1, h2, h3⟩ := h
 injection he with he _; subst he
 by_cases hl : l = []
 ·subst hl; exact ⟨[], rfl, A, c, rfl, h1, h2, fun h => absurd rfl h⟩
 ·obtain ⟨b, o, rfl, hb, hj⟩ := h3 hl
  obtain ⟨l', hl', h5⟩ := list_choose (P := fun j s => ∃ es, es.length = 4 ∧ RStage (w.setCell p u) S es s ∧ ∀ i u', es[i]? = some u' → (w.setCell p u).cell? ⟨b, o + (j * 4 + i), none⟩ = some u') l.length (fun j hj' => by
   obtain ⟨es, e1, ⟨pv, rfl, hpv⟩, e3⟩ := hj j l[j] (List.getElem?_eq_getElem hj')
   obtain ⟨y0, z0⟩ := hf.int (e3 0 _ rfl)
   obtain ⟨y2, z2⟩ := hf.int (e3 2 _ rfl)
   obtain ⟨y3, z3⟩ := hf.int (e3 3 _ rfl)
   have q1 := e3 1 _ rfl
   obtain ⟨pv', l1, w1, r1⟩ : ∃ pv' l1, (w.setCell p u).cell? ⟨b, o + (j * 4 + 1), none⟩ = some pv' ∧ RInts (w.setCell p u) S [pv'] l1 := by
    by_cases e : p = ⟨b, o + (j * 4 + 1), none⟩
    ·subst e
     rcases hf with ⟨a, b', h1', rfl⟩ | ⟨A', n', c', h1', l2, hl2⟩
     ·rw [h1'] at q1
      obtain ⟨A', c', he', _⟩ := hpv
      injection he' with he' _; subst he'
      cases q1
     ·exact ⟨u, l2, World.cell?_setCell_same _ _ _ h1', hl2⟩
    ·obtain ⟨l2, _, hl2⟩ := RInts.write hf hpv
     exact ⟨pv, l2, (World.cell?_setCell_other _ _ _ _ e).trans q1, hl2⟩
   refine ⟨⟨y0, l1, y2, y3⟩, [.int .i64 y0, pv', .int .i64 y2, .int .i64 y3], rfl, ⟨pv', rfl, r1⟩, fun i u' hu => ?_⟩
   match i, hu with
   | 0, hu => simp at hu; subst hu; exact z0
   | 1, hu => simp at hu; subst hu; exact w1
   | 2, hu => simp at hu; subst hu; exact z2
   | 3, hu => simp at hu; subst hu; exact z3
   | i + 4, hu => simp at hu)
  exact ⟨l', hl', some ⟨b, o, none⟩, c, by rw [hl'], by omega, h2, fun _ => ⟨b, o, rfl, hb, h5⟩⟩

def Soft (w : World) (b : Nat) : Prop := ∃ cur t, Blk w b t cur
theorem Soft.set_ {w : World} {b : Nat} (h : Soft w b) (p : Addr) (u : Value) : Soft (w.setCell p u) b := by
 obtain ⟨cur, t, hb⟩ := h
 by_cases e : b = p.block
 ·subst e
  unfold Soft Blk World.setCell at *
  simp only [Array.getElem?_modify, hb]
  simp
 ·exact ⟨cur, t, hb.far e u⟩
def RPathN (B : Nat) : Rd (List Stage) := fun w S cs l => RPath w S cs l ∧ ∀ b o s n c, cs = [.slice (some ⟨b, o, s⟩) n c] → B ≤ b ∧ S b ∧ Soft w b
theorem RPathN.ok (B : Nat) : Rd.Ok (RPathN B) := ⟨fun h hS hw => ⟨RPath.ok.mono h.1 hS hw, fun b o s n c hc => by
 obtain ⟨h1, h2, cur, t, h3⟩ := h.2 b o s n c hc
 exact ⟨h1, hS b h2, cur, t, (hw b h2).trans h3⟩⟩⟩
def RStageB (B : Nat) : Rd Stage := fun w S cs s => RStage w (fun b => S b ∧ b < B) cs s
theorem RStageB.ok (B : Nat) : Rd.Ok (RStageB B) := ⟨fun h hS hw => RStage.ok.mono h (fun b hb => ⟨hS b hb.1, hb.2⟩) (fun b hb => hw b hb.1)⟩
theorem RStageB.one (B : Nat) : Rd.One (RStageB B) := fun w _ es x h u hu => RStage.one w _ es x h u hu

section
variable {α : Type} {t size : Nat} {E : Rd α} {w w' : World} {base lo : Nat} {v : Value} {l : List α}
theorem OwnL.readG {β : Type} {E' : Rd β} (f : α → β) (h : OwnL t size E w base lo v l) {S : Foot} (hE : ∀ es x, E w (fun b => lo ≤ b ∧ b < w.heap.size ∧ v.ownBlock ≠ some b) es x → E' w S es (f x)) (hS : ∀ b, v.ownBlock = some b → S b) : RSlice size E' w S [v] (l.map f) := by
 obtain ⟨ess, h1, h2, h3⟩ := h
 have hall : ∀ es ∈ ess, es.length = size := by
  intro es hes
  obtain ⟨j, hj, e⟩ := List.getElem_of_mem hes
  have hl : j < l.length := by omega
  obtain ⟨es', e1, e2, _⟩ := h3 j l[j] (List.getElem?_eq_getElem hl)
  rw [List.getElem?_eq_getElem hj, e] at e1
  injection e1 with e1; subst e1; exact e2
 rcases h2.2 with ⟨rfl, hn⟩ | ⟨g, cap, cur, rfl, hb, hh, hnc, hcm, hcs, htk⟩
 ·have : l = [] := List.eq_nil_of_length_eq_zero hn
  subst this
  exact RSlice.mkNil
 ·refine ⟨_, cap, by rw [List.length_map], by rw [List.length_map]; exact hnc, hcm, fun _ => ⟨g, 0, rfl, hS g rfl, fun j y hy => ?_⟩⟩
  rw [List.getElem?_map] at hy
  cases hx : l[j]? with
  | none => rw [hx] at hy; simp at hy
  | some x =>
   rw [hx] at hy; simp at hy; subst hy
   obtain ⟨es, e1, e2, e3⟩ := h3 j x hx
   refine ⟨es, e2, hE es x e3, fun i u hu => ?_⟩
   have hi : i < size := by rw [← e2]; exact (List.getElem?_eq_some_iff.1 hu).1
   have hj : j < l.length := getElem?_lt hx
   have hf := flatten_at hall e1 hi
   rw [hu, ← htk] at hf
   have hk : j * size + i < l.length * size := by
    have : (j + 1) * size ≤ l.length * size := Nat.mul_le_mul_right _ hj
    rw [Nat.succ_mul] at this; omega
   rw [List.getElem?_take_of_lt hk] at hf
   simp only [World.cell?, hh, Option.isSome_none, Nat.zero_add]
   simpa using hf
end
section
variable {t : Nat} {w w' : World} {base : Nat} {v : Value} {ps : List (List Stage)} {B : Nat}
theorem OwnL.row (h : OwnL t 1 (RPathN B) w base 0 v ps) {j : Nat} {x : List Stage} (hx : ps[j]? = some x) : ∃ g cap A c, v = .slice (some ⟨g, 0, none⟩) ps.length cap ∧ base ≤ g ∧ g < w.heap.size ∧ w.cell? ⟨g, j, none⟩ = some (.slice A x.length c) ∧ w.frozen? ⟨g, j, none⟩ = false ∧
  RPath w (fun b => b < w.heap.size ∧ b ≠ g) [.slice A x.length c] x ∧ (∀ b o s, A = some ⟨b, o, s⟩ → B ≤ b ∧ Soft w b) := by
 have hj := getElem?_lt hx
 obtain ⟨ess, h1, h2, h3⟩ := h
 have hall : ∀ es ∈ ess, es.length = 1 := by
  intro es hes
  obtain ⟨j, hj, e⟩ := List.getElem_of_mem hes
  have hl : j < ps.length := by omega
  obtain ⟨es', e1, e2, _⟩ := h3 j ps[j] (List.getElem?_eq_getElem hl)
  rw [List.getElem?_eq_getElem hj, e] at e1
  injection e1 with e1; subst e1; exact e2
 rcases h2.2 with ⟨rfl, hn⟩ | ⟨g, cap, cur, rfl, hb, hh, hnc, hcm, hcs, htk⟩
 ·omega
 ·obtain ⟨es, e1, e2, e3, e4⟩ := h3 j x hx
  have hlt := (Array.getElem?_eq_some_iff.1 hh).1
  obtain ⟨A, c, rfl, q⟩ := e3
  have hf := flatten_at hall e1 (i := 0) (by omega)
  rw [← htk, List.getElem?_take_of_lt (by omega)] at hf
  refine ⟨g, cap, A, c, rfl, hb, hlt, ?_, ?_, ?_, fun b o s hA => by have := e4 b o s _ _ (by rw [hA]); exact ⟨this.1, this.2.2⟩⟩
  ·simp only [World.cell?, hh, Option.isSome_none]
   simpa using hf
  ·simp [World.frozen?, hh]
  ·refine RPath.ok.mono ⟨A, c, rfl, q⟩ (fun b hb => ⟨hb.2.1, fun e => hb.2.2 ?_⟩) (fun _ _ => rfl)
   subst e; rfl
theorem OwnL.write (h : OwnL t 1 (RPathN B) w base 0 v ps) {p : Addr} {u : Value} (hp : v.ownBlock ≠ some p.block) (hf : Fit w (fun b => b < w.heap.size ∧ v.ownBlock ≠ some b) p u) : ∃ ps', ps'.length = ps.length ∧ OwnL t 1 (RPathN B) (w.setCell p u) base 0 v ps' := by
 obtain ⟨ess, h1, h2, h3⟩ := h
 have hsz : (w.setCell p u).heap.size = w.heap.size := by simp [World.setCell]
 obtain ⟨ps', hl', h5⟩ := list_choose (P := fun j x => ∃ es, ess[j]? = some es ∧ es.length = 1 ∧ RPathN B (w.setCell p u) (fun b => 0 ≤ b ∧ b < (w.setCell p u).heap.size ∧ v.ownBlock ≠ some b) es x) ps.length (fun j hj => by
  obtain ⟨es, e1, e2, e3, e4⟩ := h3 j ps[j] (List.getElem?_eq_getElem hj)
  have e3' := e3
  obtain ⟨A, c, rfl, q⟩ := e3
  have e5 := RPath.ok.mono e3' (S' := fun b => b < w.heap.size ∧ v.ownBlock ≠ some b) (fun b hb => hb.2) (fun _ _ => rfl)
  obtain ⟨l', hl', h6⟩ := RPath.write hf e5
  exact ⟨l', _, e1, rfl, RPath.ok.mono h6 (fun b hb => ⟨Nat.zero_le _, by rw [hsz]; exact hb.1, hb.2⟩) (fun _ _ => rfl), fun b o s n c hc => by
   obtain ⟨a1, a2, a3⟩ := e4 b o s n c hc
   exact ⟨a1, ⟨Nat.zero_le _, by rw [hsz]; exact a2.2.1, a2.2.2⟩, a3.set_ p u⟩⟩)
 refine ⟨ps', hl', ess, by omega, ?_, h5⟩
 rw [hl']
 refine ⟨h2.1, ?_⟩
 rcases h2.2 with hn | ⟨g, cap, cur, e, hb, hh, rest⟩
 ·exact .inl hn
 ·have hg : g ≠ p.block := fun e' => hp (by rw [e, ← e']; rfl)
  exact .inr ⟨g, cap, cur, e, hb, (Below.heap_setCell w p u g hg).trans hh, rest⟩
end

theorem RPath.toB {w : World} {S : Foot} {v : Value} {l : List Stage} {B : Nat} (h : RPath w S [v] l) (hB : ∀ b, S b → b < B) : RSlice 4 (RStageB B) w S [v] l := by
 obtain ⟨A, c, he, h1, h2, h3⟩ := h
 refine ⟨A, c, he, h1, h2, fun hl => ?_⟩
 obtain ⟨b, o, rfl, hb, hj⟩ := h3 hl
 refine ⟨b, o, rfl, hb, fun j x hx => ?_⟩
 obtain ⟨es, e1, e2, e3⟩ := hj j x hx
 exact ⟨es, e1, RStage.ok.mono e2 (fun b hb => ⟨hb, hB b hb⟩) (fun _ _ => rfl), e3⟩
theorem OwnL.soft {α : Type} {t size : Nat} {E : Rd α} {w : World} {base lo : Nat} {v : Value} {l : List α} (h : OwnL t size E w base lo v l) {b : Nat} (hb : v.ownBlock = some b) : Soft w b := by
 obtain ⟨ess, h1, h2, h3⟩ := h
 rcases h2.2 with ⟨rfl, hn⟩ | ⟨g, cap, cur, rfl, hb', hh, _⟩
 ·simp [Value.ownBlock] at hb
 ·have : g = b := by simpa [Value.ownBlock] using hb
  subst this
  exact ⟨cur, t, hh⟩

theorem OwnL.setI {t : Nat} {w : World} {base lo : Nat} {g n c : Nat} {l : List Int} (h : OwnL t 1 RInt w base lo (.slice (some ⟨g, 0, none⟩) n c) l) (i : Nat) (x : Int) : OwnL t 1 RInt (w.setCell ⟨g, i, none⟩ (.int .i64 x)) base lo (.slice (some ⟨g, 0, none⟩) n c) (l.set i x) := by
 obtain ⟨ess, h1, h2, h3⟩ := h
 have hess : ess = l.map fun y => [Value.int .i64 y] := by
  apply List.ext_getElem?
  intro j
  rw [List.getElem?_map]
  cases e : l[j]? with
  | none =>
   have : ess[j]? = none := List.getElem?_eq_none (by have := List.getElem?_eq_none_iff.1 e; omega)
   rw [this]; rfl
  | some y =>
   obtain ⟨es, e1, _, e3⟩ := h3 j y e
   rw [e1]; cases e3; rfl
 subst hess
 refine ⟨(l.set i x).map fun y => [Value.int .i64 y], by simp, ?_, fun j y hy => ⟨[.int .i64 y], by rw [List.getElem?_map, hy]; rfl, rfl, rfl⟩⟩
 have hfl : ∀ m : List Int, (m.map fun y => [Value.int .i64 y]).flatten = m.map (Value.int .i64) := by
  intro m
  induction m with
  | nil => rfl
  | cons a m ih => simp only [List.map_cons, List.flatten_cons, List.singleton_append]; rw [ih]
 rw [hfl] at h2 ⊢
 rcases h2.2 with ⟨e, _⟩ | ⟨g', cap, cur, e, hb, hh, hnc, hcm, hcs, htk⟩
 ·cases e
 ·injection e with e1 e2 e3
  injection e1 with e1; injection e1 with e1
  subst e1
  refine ⟨by simp, .inr ⟨g, cap, cur.setIfInBounds i (.int .i64 x), by rw [e2, e3, List.length_set], hb, ?_, by rw [List.length_set]; exact hnc, hcm, by simpa using hcs, ?_⟩⟩
  ·have hB : Blk w g t cur := hh
   exact hB.set_ i _
  ·rw [Array.toList_setIfInBounds, List.map_set, ← htk, List.length_set]
   rw [List.take_set]
theorem OwnL.frz {α : Type} {t size : Nat} {E : Rd α} {w : World} {base lo : Nat} {g o n c : Nat} {l : List α} (h : OwnL t size E w base lo (.slice (some ⟨g, o, none⟩) n c) l) (i : Nat) : w.frozen? ⟨g, i, none⟩ = false := by
 obtain ⟨ess, h1, h2, h3⟩ := h
 rcases h2.2 with ⟨e, _⟩ | ⟨g', cap, cur, e, hb, hh, _⟩
 ·cases e
 ·injection e with e1; injection e1 with e1; injection e1 with e1; subst e1
  exact Blk.frozen (t := t) (cs := cur) hh i
theorem OwnL.some_ {α : Type} {t size : Nat} {E : Rd α} {w : World} {base lo : Nat} {A : Option Addr} {n c : Nat} {l : List α} (h : OwnL t size E w base lo (.slice A n c) l) (hl : 0 < l.length) : ∃ g, A = some ⟨g, 0, none⟩ ∧ base ≤ g := by
 obtain ⟨ess, h1, h2, h3⟩ := h
 rcases h2.2 with ⟨_, hn⟩ | ⟨g', cap, cur, e, hb, _⟩
 ·omega
 ·injection e with e1; exact ⟨g', e1, hb⟩

end Go.Proofs.Ytilbbpbjhoidhaa
