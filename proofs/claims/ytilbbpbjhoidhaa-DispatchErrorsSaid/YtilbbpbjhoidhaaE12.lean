/- Labels of events: the least ones for decided arcs, and how merging along arcs comes to them. No program in sight. Contracts of SameOrders and SameLists at equal lists. Conditions: as each theorem says. Contracts of precedence.Rest and of the reference's Rest: both return restP. Conditions: as each theorem says. The search of chapter 38 as a plain function on lists. No program in sight. Contracts of slices.Clone, and of the search of takeover.Identify. Conditions: as each theorem says. Contract of the recursive search of takeover.Identify. Conditions: as each theorem says. Contract of (*identification).assign. Conditions: as the theorem says. Contract of takeover.Identify. Conditions: as the theorem says. Contracts of the reference's search for positions. Conditions: as each theorem says. Contract of the reference's count of a complete assignment. Conditions: as the theorem says. Contract of the reference's recursive search. Conditions: as the theorem says. Contract of the reference's Identify. Conditions: as the theorem says. Contracts of sections and of the example of chapter 38. Conditions: as each theorem says. Contract of the reference's CheckState. Conditions: as the theorem says. The search of chapter 37 as a plain function over decisions. No program in sight. -/
import Derived.Test.YtilbbpbjhoidhaaE09
import Derived.Test.YtilbbpbjhoidhaaE11
import Derived.Test.YtilbbpbjhoidhaaE08
import Derived.Test.YtilbbpbjhoidhaaE10
import Derived.Test.YtilbbpbjhoidhaaE03
import Derived.Test.YtilbbpbjhoidhaaE02
import Derived.Test.YtilbbpbjhoidhaaE07
import Derived.Test.YtilbbpbjhoidhaaE04
import Derived.Test.YtilbbpbjhoidhaaE06
namespace Go.Proofs.Ytilbbpbjhoidhaa
open Go.RowKit

def baseN (ps : List (List Stage)) (at_ : List Int) (n : Int) (u : Ref) : Int := base2 ps at_ n u.tr.toNat u.st.toNat
def phS (a : RArc) (x : Int) : Int := x + a.wt
theorem phS_mono : ∀ a x y, x ≤ y → phS a x ≤ phS a y := fun a x y h => by unfold phS; omega
section
variable {ps : List (List Stage)} {at_ : List Int} {D : List RArc} {L : List Ref} {n : Int}
theorem leastD_eq (hD : DOk ps at_ D) (T : Tab) {t k : Nat} {p : List Stage} (hp : ps[t]? = some p) (hk : k ≤ p.length) :
  stepR ps (arcsD ps D) at_ n T ⟨(t : Int), (k : Int)⟩ = stepS ps at_ D (baseN ps at_ n) phS T ⟨(t : Int), (k : Int)⟩ := by
 unfold stepR stepS baseN
 simp only [Int.toNat_natCast]
 apply Int.le_antisymm
 ·rw [mxo_le]
  refine ⟨Int.le_trans ?_ (mxo_ge _ _ _), fun a ha y hy => ?_⟩
  ·unfold base2; split <;> omega
  ·unfold valR at hy
   by_cases e : a.to = ⟨(t : Int), (k : Int)⟩
   ·rw [if_pos e] at hy
    by_cases hd : doneR at_ a.frm = false
    ·rw [if_pos hd] at hy
     exact mxo_mem _ _ _ ha (by rw [if_pos ⟨e, hd⟩]; exact hy)
    ·rw [if_neg hd] at hy
     split at hy
     ·rename_i hc
      injection hy with hy
      refine Int.le_trans ?_ (mxo_ge _ _ _)
      rcases List.mem_append.1 ha with ha' | ha'
      ·obtain ⟨t', k', p', s', hp', hs', rfl⟩ := mem_chainR.1 ha'
       injection e with e1 e2
       have ht : t' = t := by omega
       subst ht
       rw [hp] at hp'; injection hp' with hp'; subst hp'
       have hk' : k = k' + 1 := by omega
       subst hk'
       simp only [Int.toNat_natCast] at hc hy
       unfold base2
       rw [if_pos ⟨by omega, by have := hc.2.1; omega⟩]
       have : mnAt ps t' (k' + 1 - 1) = s'.mn := by simp [mnAt, hp, hs']
       rw [this]; omega
      ·exact absurd (hD.frm a ha').2 hd
     ·cases hy
   ·rw [if_neg e] at hy; cases hy
 ·rw [mxo_le]
  refine ⟨?_, fun a ha y hy => ?_⟩
  ·unfold base2
   split
   ·rename_i hc
    obtain ⟨k', rfl⟩ : ∃ k', k = k' + 1 := ⟨k - 1, by omega⟩
    have hs : p[k']? = some p[k'] := List.getElem?_eq_getElem (by omega)
    have hmn : mnAt ps t (k' + 1 - 1) = p[k'].mn := by simp [mnAt, hp, hs]
    rw [hmn]
    have h1 := mxo_ge (valR at_ n T ⟨(t : Int), ((k' + 1 : Nat) : Int)⟩) (baseS ps n ⟨(t : Int), ((k' + 1 : Nat) : Int)⟩) (arcsD ps D)
    have h2 : n + p[k'].mn ≤ mxo (valR at_ n T ⟨(t : Int), ((k' + 1 : Nat) : Int)⟩) (baseS ps n ⟨(t : Int), ((k' + 1 : Nat) : Int)⟩) (arcsD ps D) := by
     refine mxo_mem _ _ _ (a := ⟨⟨(t : Int), (k' : Int)⟩, ⟨(t : Int), (k' : Int) + 1⟩, p[k'].mn⟩) (List.mem_append_left _ (mem_chainR.2 ⟨t, k', p, _, hp, hs, rfl⟩)) ?_
     have hc2 := hc.2
     unfold valR
     rw [if_pos (by simp)]
     have hd : ¬ doneR at_ ⟨(t : Int), (k' : Int)⟩ = false := by
      unfold doneR
      simp only [decide_eq_false_iff_not, Int.toNat_natCast]
      omega
     rw [if_neg hd, if_pos ⟨rfl, by simp only [Int.toNat_natCast]; omega, by simp⟩]
    omega
   ·exact mxo_ge _ _ _
  ·by_cases hc : a.to = ⟨(t : Int), (k : Int)⟩ ∧ doneR at_ a.frm = false
   ·rw [if_pos hc] at hy
    refine mxo_mem _ _ _ ha ?_
    unfold valR
    rw [if_pos hc.1, if_pos hc.2]; exact hy
   ·rw [if_neg hc] at hy; cases hy
theorem secs_congr {s1 s2 : Tab → Ref → Int} : ∀ (L : List Ref) (T : Tab), (∀ u ∈ L, ∀ T, s1 T u = s2 T u) → secs s1 T L = secs s2 T L
 | [], _, _ => rfl
 | u :: L, T, h => by
  have e1 : secs s1 T (u :: L) = secs s1 (upd T u (s1 T u)) L := rfl
  have e2 : secs s2 T (u :: L) = secs s2 (upd T u (s2 T u)) L := rfl
  rw [e1, e2, h u (by simp) T]
  exact secs_congr L _ (fun v hv => h v (by simp [hv]))
def secS (ps : List (List Stage)) (at_ : List Int) (n : Int) (D : List RArc) (L : List Ref) : Tab := solS ps at_ D (baseN ps at_ n) phS (initR at_ n) L
theorem secS_ref (hD : DOk ps at_ D) (h : Topo ps at_ D L) : secs (stepR ps (arcsD ps D) at_ n) (initR at_ n) L = secS ps at_ n D L := by
 unfold secS solS
 refine secs_congr L _ fun u hu T => ?_
 obtain ⟨⟨t, k, p, hp, hk, rfl⟩, _⟩ := (h.mem u).1 hu
 exact leastD_eq hD T hp hk
theorem solS_indep {base : Ref → Int} {ph : RArc → Int → Int} {init : Tab} (hm : ∀ a x y, x ≤ y → ph a x ≤ ph a y) {L' : List Ref} (h : Topo ps at_ D L) (h' : Topo ps at_ D L') (u : Ref) : solS ps at_ D base ph init L u = solS ps at_ D base ph init L' u := by
 by_cases hu : Ev ps at_ u
 ·have h1 := solS_least (init := init) h hm (solS_sol (base := base) (init := init) h') hu
  have h2 := solS_least (init := init) h' hm (solS_sol (base := base) (init := init) h) hu
  omega
 ·rw [solS_out h hu, solS_out h' hu]

structure Lab where
 sec : Int
 bef : List Int
 deriving DecidableEq, Inhabited
def Lab.bf (l : Lab) (t : Nat) : Int := (l.bef[t]?).getD (-1)
abbrev LTab := Ref → Lab
def mergeL (l o : Lab) (fr : Ref) (w : Int) : Lab := ⟨max l.sec (o.sec + w), (List.range 10).map fun t : Nat => max (max (l.bf t) (o.bf t)) (if fr.tr = (t : Int) then fr.st else -1)⟩
def sat (T : LTab) (a : RArc) : Prop := mergeL (T a.to) (T a.frm) a.frm a.wt = T a.to
def labS (ps : List (List Stage)) (at_ : List Int) (n : Int) (D : List RArc) (L : List Ref) : LTab := fun u => ⟨secS ps at_ n D L u, (List.range 10).map fun t : Nat => befS ps at_ D L (t : Int) u⟩
theorem bf_map (f : Nat → Int) (s : Int) {t : Nat} (ht : t < 10) : Lab.bf ⟨s, (List.range 10).map f⟩ t = f t := by
 unfold Lab.bf
 rw [List.getElem?_map, List.getElem?_range ht]; rfl
theorem Lab.ext10 {l m : Lab} (h1 : l.bef.length = 10) (h2 : m.bef.length = 10) (hs : l.sec = m.sec) (hb : ∀ t, t < 10 → l.bf t = m.bf t) : l = m := by
 obtain ⟨ls, lb⟩ := l
 obtain ⟨ms, mb⟩ := m
 simp only at hs h1 h2
 subst hs
 congr 1
 apply List.ext_getElem?
 intro i
 by_cases hi : i < 10
 ·have := hb i hi
  unfold Lab.bf at this
  simp only at this
  rw [List.getElem?_eq_getElem (by omega), List.getElem?_eq_getElem (by omega)] at this ⊢
  simpa using this
 ·rw [List.getElem?_eq_none (by omega), List.getElem?_eq_none (by omega)]
theorem labS_len (u : Ref) : (labS ps at_ n D L u).bef.length = 10 := by simp [labS]
theorem mergeL_len (l o : Lab) (fr : Ref) (w : Int) : (mergeL l o fr w).bef.length = 10 := by simp [mergeL]
theorem mergeL_bf (l o : Lab) (a : RArc) {t : Nat} (ht : t < 10) : (mergeL l o a.frm a.wt).bf t = max (l.bf t) (phB (t : Int) a (o.bf t)) := by
 unfold mergeL phB
 rw [bf_map _ _ ht]
 omega
theorem sat_iff {T : LTab} {a : RArc} (hl : (T a.to).bef.length = 10) : sat T a ↔ phS a (T a.frm).sec ≤ (T a.to).sec ∧ ∀ t : Nat, t < 10 → phB (t : Int) a ((T a.frm).bf t) ≤ (T a.to).bf t := by
 unfold sat
 constructor
 ·intro h
  have h1 := congrArg Lab.sec h
  refine ⟨by unfold mergeL at h1; simp only at h1; unfold phS; omega, fun t ht => ?_⟩
  have h2 : (mergeL (T a.to) (T a.frm) a.frm a.wt).bf t = (T a.to).bf t := congrArg (fun l => Lab.bf l t) h
  rw [mergeL_bf _ _ _ ht] at h2
  omega
 ·rintro ⟨h1, h2⟩
  refine Lab.ext10 (mergeL_len _ _ _ _) hl ?_ fun t ht => ?_
  ·unfold mergeL; simp only; unfold phS at h1; omega
  ·rw [mergeL_bf _ _ _ ht]
   have := h2 t ht
   omega
def updL (T : LTab) (u : Ref) (l : Lab) : LTab := fun v => if v = u then l else T v
theorem updL_at (T : LTab) (u : Ref) (l : Lab) : updL T u l u = l := by unfold updL; rw [if_pos rfl]
theorem updL_ne (T : LTab) {u v : Ref} (l : Lab) (h : v ≠ u) : updL T u l v = T v := by unfold updL; rw [if_neg h]
structure Prt (ps : List (List Stage)) (at_ : List Int) (n : Int) (D : List RArc) (L : List Ref) (P : RArc → Prop) (T : LTab) : Prop where
 len : ∀ u, (T u).bef.length = 10
 base : ∀ e, Ev ps at_ e → baseN ps at_ n e ≤ (T e).sec ∧ ∀ t : Nat, t < 10 → -1 ≤ (T e).bf t
 arc : ∀ a ∈ arcsD ps D, Ev ps at_ a.to → doneR at_ a.frm = false → P a ∨ sat T a
 le : ∀ e, Ev ps at_ e → (T e).sec ≤ secS ps at_ n D L e ∧ ∀ t : Nat, t < 10 → (T e).bf t ≤ befS ps at_ D L (t : Int) e
 out : ∀ e, ¬ Ev ps at_ e → T e = labS ps at_ n D L e
theorem labS_bf {t : Nat} (ht : t < 10) (u : Ref) : (labS ps at_ n D L u).bf t = befS ps at_ D L (t : Int) u := bf_map _ _ ht
theorem Prt.done (h : Topo ps at_ D L) {P : RArc → Prop} {T : LTab} (hp : Prt ps at_ n D L P T) (hP : ∀ a ∈ arcsD ps D, Ev ps at_ a.to → doneR at_ a.frm = false → ¬ P a) (u : Ref) : T u = labS ps at_ n D L u := by
 by_cases hu : Ev ps at_ u
 ·have hsat : ∀ a ∈ arcsD ps D, Ev ps at_ a.to → doneR at_ a.frm = false → sat T a := fun a ha h1 h2 => by
   rcases hp.arc a ha h1 h2 with h3 | h3
   ·exact absurd h3 (hP a ha h1 h2)
   ·exact h3
  refine Lab.ext10 (hp.len u) (labS_len u) ?_ fun t ht => ?_
  ·exact sol_eq h phS_mono (T := fun e => (T e).sec) ⟨fun e he => (hp.base e he).1, fun a ha h1 h2 => ((sat_iff (hp.len _)).1 (hsat a ha h1 h2)).1⟩ (fun e he => (hp.le e he).1) hu
  ·rw [labS_bf ht]
   exact sol_eq h (phB_mono (t : Int)) (T := fun e => (T e).bf t) ⟨fun e he => (hp.base e he).2 t ht, fun a ha h1 h2 => ((sat_iff (hp.len _)).1 (hsat a ha h1 h2)).2 t ht⟩ (fun e he => (hp.le e he).2 t ht) hu
 ·exact hp.out u hu
theorem Prt.upd (h : Topo ps at_ D L) {P : RArc → Prop} {T : LTab} (hp : Prt ps at_ n D L P T) {a : RArc} (ha : a ∈ arcsD ps D) (he : Ev ps at_ a.to) (hf : doneR at_ a.frm = false) (hfe : Ev ps at_ a.frm) (hne : a.frm ≠ a.to) :
  Prt ps at_ n D L (fun b => (P b ∧ b ≠ a) ∨ (b.frm = a.to ∧ mergeL (T a.to) (T a.frm) a.frm a.wt ≠ T a.to)) (updL T a.to (mergeL (T a.to) (T a.frm) a.frm a.wt)) := by
 have hS : phS a (secS ps at_ n D L a.frm) ≤ secS ps at_ n D L a.to := (solS_sol (base := baseN ps at_ n) (ph := phS) (init := initR at_ n) h).arc a ha he hf
 have hB : ∀ t : Int, phB t a (befS ps at_ D L t a.frm) ≤ befS ps at_ D L t a.to := fun t => (solS_sol (base := fun _ => -1) (ph := phB t) (init := fun _ => -1) h).arc a ha he hf
 have hge : ∀ v, (T v).sec ≤ (updL T a.to (mergeL (T a.to) (T a.frm) a.frm a.wt) v).sec ∧ ∀ t : Nat, t < 10 → (T v).bf t ≤ (updL T a.to (mergeL (T a.to) (T a.frm) a.frm a.wt) v).bf t := fun v => by
  by_cases e : v = a.to
  ·subst e
   rw [updL_at]
   refine ⟨by unfold mergeL; simp only; omega, fun t ht => ?_⟩
   rw [mergeL_bf _ _ _ ht]; omega
  ·rw [updL_ne _ _ e]
   exact ⟨Int.le_refl _, fun _ _ => Int.le_refl _⟩
 refine ⟨fun u => ?_, fun e hev => ?_, fun b hb hbt hbf => ?_, fun e hev => ?_, fun e hev => ?_⟩
 ·by_cases e : u = a.to
  ·subst e; rw [updL_at]; exact mergeL_len _ _ _ _
  ·rw [updL_ne _ _ e]; exact hp.len u
 ·obtain ⟨h1, h2⟩ := hge e
  obtain ⟨h3, h4⟩ := hp.base e hev
  exact ⟨by omega, fun t ht => by have := h2 t ht; have := h4 t ht; omega⟩
 ·by_cases e1 : b.frm = a.to
  ·-- an arc out of the changed event
   by_cases e2 : mergeL (T a.to) (T a.frm) a.frm a.wt = T a.to
   ·have hT : updL T a.to (mergeL (T a.to) (T a.frm) a.frm a.wt) = T := by
     funext v
     by_cases e : v = a.to
     ·subst e; rw [updL_at, e2]
     ·rw [updL_ne _ _ e]
    rw [hT]
    rcases hp.arc b hb hbt hbf with h1 | h1
    ·by_cases e3 : b = a
     ·subst e3; exact .inr e2
     ·exact .inl (.inl ⟨h1, e3⟩)
    ·exact .inr h1
   ·exact .inl (.inr ⟨e1, e2⟩)
  ·-- its source is unchanged
   have hsrc : updL T a.to (mergeL (T a.to) (T a.frm) a.frm a.wt) b.frm = T b.frm := updL_ne _ _ e1
   by_cases e3 : b = a
   ·subst e3
    right
    unfold sat
    rw [hsrc, updL_at]
    refine Lab.ext10 (mergeL_len _ _ _ _) (mergeL_len _ _ _ _) ?_ fun t ht => ?_
    ·unfold mergeL; simp only; omega
    ·rw [mergeL_bf _ _ _ ht, mergeL_bf _ _ _ ht]; omega
   ·rcases hp.arc b hb hbt hbf with h1 | h1
    ·exact .inl (.inl ⟨h1, e3⟩)
    ·right
     have h2 := (sat_iff (hp.len _)).1 h1
     obtain ⟨h3, h4⟩ := hge b.to
     have hlen : (updL T a.to (mergeL (T a.to) (T a.frm) a.frm a.wt) b.to).bef.length = 10 := by
      by_cases e : b.to = a.to
      ·rw [e, updL_at]; exact mergeL_len _ _ _ _
      ·rw [updL_ne _ _ e]; exact hp.len _
     refine (sat_iff hlen).2 ⟨?_, fun t ht => ?_⟩
     ·rw [hsrc]; have := h2.1; omega
     ·rw [hsrc]; have := h2.2 t ht; have := h4 t ht; omega
 ·by_cases q : e = a.to
  ·subst q
   obtain ⟨h1, h2⟩ := hp.le a.to hev
   obtain ⟨h3, h4⟩ := hp.le a.frm hfe
   rw [updL_at]
   refine ⟨?_, fun t ht => ?_⟩
   ·unfold mergeL; simp only; unfold phS at hS; omega
   ·rw [mergeL_bf _ _ _ ht]
    have h5 := h2 t ht
    have h6 := phB_mono (t : Int) a _ _ (h4 t ht)
    have h7 := hB (t : Int)
    omega
  ·rw [updL_ne _ _ q]; exact hp.le e hev
 ·by_cases q : e = a.to
  ·subst q; exact absurd he hev
  ·rw [updL_ne _ _ q]; exact hp.out e hev
theorem Prt.start {L' : List Ref} {x y : Ref} (h : Topo ps at_ D L) (h' : Topo ps at_ (D ++ [arc0 x y]) L') : Prt ps at_ n (D ++ [arc0 x y]) L' (fun a => a = arc0 x y) (labS ps at_ n D L) := by
 have hsub : ∀ {base : Ref → Int} {ph : RArc → Int → Int} {T : Tab}, Sol ps at_ (D ++ [arc0 x y]) base ph T → Sol ps at_ D base ph T := fun hT =>
  ⟨hT.base, fun a ha h1 h2 => hT.arc a (by rw [arcsD_snoc]; exact List.mem_append_left _ ha) h1 h2⟩
 have hs := solS_sol (base := baseN ps at_ n) (ph := phS) (init := initR at_ n) h
 have hb := fun t : Int => solS_sol (base := fun _ => -1) (ph := phB t) (init := fun _ => -1) h
 refine ⟨fun u => labS_len u, fun e he => ⟨hs.base e he, fun t ht => by rw [labS_bf ht]; exact (hb (t : Int)).base e he⟩, fun a ha he hf => ?_, fun e he => ⟨?_, fun t ht => ?_⟩, fun e he => ?_⟩
 ·rw [arcsD_snoc] at ha
  rcases List.mem_append.1 ha with ha | ha
  ·right
   refine (sat_iff (labS_len _)).2 ⟨hs.arc a ha he hf, fun t ht => ?_⟩
   rw [labS_bf ht, labS_bf ht]
   exact (hb (t : Int)).arc a ha he hf
  ·left; simpa using ha
 ·exact solS_least h phS_mono (hsub (solS_sol h')) he
 ·rw [labS_bf ht]
  exact solS_least h (phB_mono (t : Int)) (hsub (solS_sol h')) he
 ·have e1 : secS ps at_ n D L e = secS ps at_ n (D ++ [arc0 x y]) L' e := by unfold secS; rw [solS_out h he, solS_out h' he]
  have e2 : ∀ t : Int, befS ps at_ D L t e = befS ps at_ (D ++ [arc0 x y]) L' t e := fun t => by unfold befS; rw [solS_out h he, solS_out h' he]
  unfold labS
  rw [e1]
  congr 1
  exact List.map_congr_left fun t _ => e2 _
end

def openU (ps : List (List Stage)) (at_ : List Int) (r : Int) (l : List Ref) : List Ref := l.filter fun u => !overB ps at_ u r
theorem openU_snoc (ps : List (List Stage)) (at_ : List Int) (r : Int) (l : List Ref) (u : Ref) : openU ps at_ r (l ++ [u]) = openU ps at_ r l ++ (if overB ps at_ u r = true then [] else [u]) := by
 unfold openU
 rw [List.filter_append]
 cases h : overB ps at_ u r <;> simp [h]
theorem openU_len (ps : List (List Stage)) (at_ : List Int) (r : Int) (l : List Ref) : (openU ps at_ r l).length ≤ l.length := List.length_filter_le _ _

structure ISt where
 steps : Nat
 found : Nat
 sum : Int
 best : List Int

def posns (p : List Stage) : List Int := (List.range (p.length + 2)).map fun i : Nat => (i : Int) - 1
def absDiff (a b : Int) : Int := if a - b < b - a then b - a else a - b
def diffSum : List Int → List Int → Int
 | a :: l, b :: m => absDiff a b + diffSum l m
 | _, _ => 0
def complete (exp occ : List Int) (at_ held : List Int) (s : ISt) : ISt :=
 if held.length = occ.length then
  if s.found = 0 ∨ diffSum at_ exp < s.sum then { s with found := 1, sum := diffSum at_ exp, best := at_ }
  else if diffSum at_ exp = s.sum then { s with found := s.found + 1 } else s
 else s
def tries (occ : List Int) (budget : Nat) (f : List Int → List Int → ISt → Bool × ISt) (p : List Stage) (at_ held : List Int) : List Int → ISt → Bool × ISt
 | [], s => (true, s)
 | x :: xs, s =>
  if s.steps = budget then (false, s)
  else if x < 0 ∨ (p.length : Int) ≤ x then
   match f (at_ ++ [x]) held { s with steps := s.steps + 1 } with
   | (false, s') => (false, s')
   | (true, s') => tries occ budget f p at_ held xs s'
  else if secAt p x ∈ occ ∧ secAt p x ∉ held then
   match f (at_ ++ [x]) (held ++ [secAt p x]) { s with steps := s.steps + 1 } with
   | (false, s') => (false, s')
   | (true, s') => tries occ budget f p at_ held xs s'
  else tries occ budget f p at_ held xs { s with steps := s.steps + 1 }
def search (exp occ : List Int) (budget : Nat) : List (List Stage) → List Int → List Int → ISt → Bool × ISt
 | [], at_, held, s => (true, complete exp occ at_ held s)
 | p :: rest, at_, held, s => tries occ budget (search exp occ budget rest) p at_ held (posns p) s

def ascend : List Int → Bool
 | a :: b :: r => decide (a < b) && ascend (b :: r)
 | _ => true

section
variable {w w' : World} {g : Nat} {A : Option Addr} {c : Nat} {ps : List (List Stage)} {A2 : Option Addr} {c2 : Nat} {exp occ : List Int} {budget : Nat} {at_ held : List Int} {vat : Value} {s s' : ISt}

end

section
variable {w w' : World} {g : Nat} {A : Option Addr} {c : Nat} {ps : List (List Stage)} {A2 : Option Addr} {c2 : Nat} {exp occ : List Int} {budget : Nat} {at_ held : List Int} {vat : Value} {s : ISt}
 {mis : Int} {steps : Nat} {f : Int → Option Value} {best : List Int} {sm : Int} {un : Bool}

end

def AscInv (occ : List Int) (k : Nat) : Prop := ascend occ = ascend (occ.drop (k - 1))
theorem AscInv.step {occ : List Int} {k : Nat} {a b : Int} (h : AscInv occ k) (hk : 0 < k) (ha : occ[k - 1]? = some a) (hb : occ[k]? = some b) (hlt : a < b) : AscInv occ (k + 1) := by
 unfold AscInv at *
 have e1 := drop_cons' ha
 rw [show k - 1 + 1 = k from by omega] at e1
 have e2 := drop_cons' hb
 rw [h, e1, e2, ascend, ← e2, Nat.add_sub_cancel]
 simp [hlt]
theorem AscInv.stop {occ : List Int} {k : Nat} {a b : Int} (h : AscInv occ k) (hk : 0 < k) (ha : occ[k - 1]? = some a) (hb : occ[k]? = some b) (hlt : b ≤ a) : ascend occ = false := by
 unfold AscInv at *
 have e1 := drop_cons' ha
 rw [show k - 1 + 1 = k from by omega] at e1
 have e2 := drop_cons' hb
 rw [h, e1, e2, ascend]
 simp; intro h'; omega
theorem AscInv.done {occ : List Int} (h : AscInv occ occ.length) : ascend occ = true := by
 unfold AscInv at h
 rw [h]
 have : (occ.drop (occ.length - 1)).length ≤ 1 := by simp; omega
 match hd : occ.drop (occ.length - 1), this with
 | [], _ => rfl
 | [a], _ => rfl

def heldOf : List (List Stage) → List Int → List Int
 | p :: ps, a :: l => (if a < 0 ∨ (p.length : Int) ≤ a then [] else [secAt p a]) ++ heldOf ps l
 | _, _ => []
theorem heldOf_snoc : ∀ (ps : List (List Stage)) (l : List Int) (p : List Stage) (x : Int), ps[l.length]? = some p → heldOf ps (l ++ [x]) = heldOf ps l ++ (if x < 0 ∨ (p.length : Int) ≤ x then [] else [secAt p x])
 | [], l, p, x, h => by simp at h
 | q :: ps, [], p, x, h => by simp at h; subst h; simp [heldOf]
 | q :: ps, a :: l, p, x, h => by
  have := heldOf_snoc ps l p x (by simpa using h)
  simp only [List.cons_append, heldOf, this, List.append_assoc]

def secsNonneg (ps : List (List Stage)) : Prop := ∀ p ∈ ps, ∀ s ∈ p, 0 ≤ s.sec
theorem secAt_neg {p : List Stage} (h : ∀ s ∈ p, 0 ≤ s.sec) (a : Int) : (a < 0 ∨ (p.length : Int) ≤ a) ∧ secAt p a = -1 ∨ ¬ (a < 0 ∨ (p.length : Int) ≤ a) ∧ 0 ≤ secAt p a := by
 by_cases h1 : a < 0
 ·exact .inl ⟨.inl h1, by simp [secAt, h1]⟩
 ·by_cases h2 : (p.length : Int) ≤ a
  ·refine .inl ⟨.inr h2, ?_⟩
   unfold secAt; rw [if_neg h1, List.getElem?_eq_none (by omega)]
  ·refine .inr ⟨by omega, ?_⟩
   unfold secAt
   have hl : a.toNat < p.length := by omega
   rw [if_neg h1, List.getElem?_eq_getElem hl]
   exact h _ (List.getElem_mem hl)

section
variable {w w' : World} {g : Nat} {A : Option Addr} {c : Nat} {ps : List (List Stage)} {A2 : Option Addr} {c2 : Nat} {exp : List Int} {A3 : Option Addr} {c3 : Nat} {occ : List Int} {budget : Nat} {at_ : List Int} {vat : Value} {s s' : ISt}

end

theorem held_take {ps : List (List Stage)} {at_ : List Int} {k : Nat} {p : List Stage} {x : Int} (hp : ps[k]? = some p) (hx : at_[k]? = some x) : heldOf ps (at_.take (k + 1)) = heldOf ps (at_.take k) ++ (if x < 0 ∨ (p.length : Int) ≤ x then [] else [secAt p x]) := by
 rw [List.take_add_one, hx]
 have hl : (at_.take k).length = k := by have := getElem?_lt hx; simp; omega
 exact heldOf_snoc ps (at_.take k) p x (by rw [hl]; exact hp)

section
variable {w w' : World} {g : Nat} {A : Option Addr} {c : Nat} {ps : List (List Stage)} {A2 : Option Addr} {c2 : Nat} {exp : List Int} {A3 : Option Addr} {c3 : Nat} {occ : List Int} {budget : Nat} {at_ : List Int} {vat : Value} {s : ISt}

end

theorem stepsFrom_ok (p : List Stage) : ∀ (l : List Stage) (k : Nat), stepsFrom p k l = true → ∀ s ∈ l, stageOk s = true
 | [], _, _ => by simp
 | x :: l, k, h => by
  simp only [stepsFrom, Bool.and_eq_true] at h
  intro s hs
  rcases List.mem_cons.1 hs with rfl | hs
  ·have := h.1; simp only [stepOk, Bool.and_eq_true] at this; exact this.1
  ·exact stepsFrom_ok p l (k + 1) h.2 s hs
theorem valid_secs {ps : List (List Stage)} (h : valid ps = true) : secsNonneg ps := by
 intro p hp s hs
 simp only [valid, Bool.and_eq_true, decide_eq_true_eq, List.all_eq_true] at h
 have := h.1.2 p hp
 simp only [pathOk, Bool.and_eq_true, decide_eq_true_eq] at this
 have := stepsFrom_ok p p 0 this.2 s hs
 simp only [stageOk, isRes, Bool.and_eq_true, decide_eq_true_eq] at this
 omega

def secList (ps : List (List Stage)) (at_ : List Int) : List Int := List.zipWith secAt ps at_
theorem secList_at {ps : List (List Stage)} {at_ : List Int} {t : Nat} {p : List Stage} {a : Int} (hp : ps[t]? = some p) (ha : at_[t]? = some a) : (secList ps at_)[t]? = some (secAt p a) := by
 simp [secList, List.getElem?_zipWith, hp, ha]

def checkState (ps : List (List Stage)) (at_ : List Int) : Int := if (valid ps && good ps at_) = false then 1 else if (heldOf ps at_).Nodup then 0 else 17

theorem mem_heldOf : ∀ {ps : List (List Stage)} (_ : secsNonneg ps) (l : List Int) (x : Int), x ∈ heldOf ps l ↔ x ∈ secList ps l ∧ 0 ≤ x
 | [], _, l, x => by simp [heldOf, secList]
 | p :: ps, _, [], x => by simp [heldOf, secList]
 | p :: ps, h, a :: l, x => by
  have ih := mem_heldOf (ps := ps) (fun q hq => h q (by simp [hq])) l x
  have hn := secAt_neg (h p (by simp)) a
  simp only [heldOf, secList, List.zipWith_cons_cons, List.mem_append, List.mem_cons] at *
  rw [ih]
  rcases hn with ⟨h1, h2⟩ | ⟨h1, h2⟩
  ·rw [if_pos h1, h2]; simp; omega
  ·rw [if_neg h1]; simp
   constructor
   ·rintro (rfl | h)
    ·exact ⟨.inl rfl, h2⟩
    ·exact ⟨.inr h.1, h.2⟩
   ·rintro ⟨rfl | h, h3⟩
    ·exact .inl rfl
    ·exact .inr ⟨h, h3⟩
theorem secList_take (ps : List (List Stage)) : ∀ (l : List Int) (k : Nat), secList ps (l.take k) = (secList ps l).take k := by
 induction ps with
 | nil => simp [secList]
 | cons p ps ih =>
  intro l k
  cases l with
  | nil => simp [secList]
  | cons a l => cases k with
   | zero => simp [secList]
   | succ k => have := ih l k; simp only [secList] at this; simp [secList, this]

theorem nodup_snoc {l : List Int} {x : Int} (h : l.Nodup) (hx : x ∉ l) : (l ++ [x]).Nodup := List.nodup_append.2 ⟨h, by simp, fun a ha b hb => by simp at hb; subst hb; rintro rfl; exact hx ha⟩
theorem heldOf_sublist (ps : List (List Stage)) : ∀ (l : List Int) (k : Nat), (heldOf ps (l.take k)).Sublist (heldOf ps l) := by
 induction ps with
 | nil => intro l k; simp [heldOf]
 | cons p ps ih =>
  intro l k
  cases l with
  | nil => simp [heldOf]
  | cons a l => cases k with
   | zero => simp [heldOf]
   | succ k => simp only [List.take_succ_cons, heldOf]; exact List.Sublist.append (List.Sublist.refl _) (ih l k)

set_option maxRecDepth 100000 in
set_option maxHeartbeats 1000000 in
theorem CheckState_any (ps : List (List Stage)) (at_ : List Int) (A A2 : Option Addr) (c c2 : Nat) (w : World) (h : RPaths w (Old w) [.slice A ps.length c] ps) (h2 : RInts w (Old w) [.slice A2 at_.length c2] at_) :
  Calls Try.prog 59 #[.slice A ps.length c, .slice A2 at_.length c2] w fun e w' => e = .returned (.int .i64 (checkState ps at_)) ∧ KeepsAll w w' := by
 have hc := h.caps
 have hc2 := h2.caps
 have H := Lib.hid h; clear h
 have H2 := Lib.hid h2; clear h2
 by_cases g1 : valid ps = true
 ·go_enter Try.func59, Try.ntmps59
  go_wp2_with fail
  refine (RefValid_any ps A c w H.out).mono ?_
  rintro e w1 ⟨rfl, k1⟩
  have H1 := Lib.hid (k1.rd RPaths.ok H.out (fun b hb => ⟨hb, by simp⟩) (fun _ h => h))
  have H21 := Lib.hid (k1.rd RInts.ok H2.out (fun b hb => ⟨hb, by simp⟩) (fun _ h => h))
  have K1 := Lib.hid k1; clear k1
  by_cases g2 : good ps at_ = true
  ·have hl : at_.length = ps.length := by have := g2; simp only [good, Bool.and_eq_true, decide_eq_true_eq] at this; exact this.1
   have hl1 : at_.length ≤ ps.length := by omega
   have hl2 : ps.length ≤ at_.length := by omega
   clear hl
   have HSN : Hid (secsNonneg ps) := valid_secs g1
   go_wp2_with (go_at_call 81; refine (rGood_any ps at_ A A2 c c2 _ (Old w) (Old w) H1.out H21.out).mono ?_; rintro e w2 ⟨rfl, rfl⟩)
   go_loopw [19] (fun i wr => ∃ t n : Nat, t ≤ ps.length ∧ i = .int .i64 t ∧ wr = w1.drewN n ∧ (heldOf ps (at_.take t)).Nodup) (fun i _ => ps.length - (intOf i).toNat)
   case atStart => exact ⟨0, 0, Nat.zero_le _, rfl, rfl, by cases ps <;> simp [heldOf]⟩
   case round =>
    obtain ⟨t, n, ht, rfl, rfl, hnd⟩ := hrel
    have HND := Lib.hid hnd; clear hnd
    by_cases hlt : t < ps.length
    ·have hdt : decide ((t : Int) < (ps.length : Int)) = true := by simp; omega
     have hp : ps[t]? = some ps[t] := List.getElem?_eq_getElem hlt
     have ha : at_[t]? = some (at_[t]'(by omega)) := List.getElem?_eq_getElem (by omega)
     have hsl := secList_at hp ha
     have hneg := secAt_neg (HSN.out ps[t] (List.mem_of_getElem? hp)) (at_[t]'(by omega))
     have hht := held_take hp ha
     have SC : Hid (∀ m, Calls Try.prog 82 #[.slice A ps.length c, .slice A2 at_.length c2, .int .i64 t] (w1.drewN m) fun e w' => e = .returned (.int .i64 (secAt ps[t] (at_[t]'(by omega)))) ∧ ∃ n, w' = (w1.drewN m).drewN n) := fun m => Section_any ps at_ A A2 c c2 (w1.drewN m) (Old w) (Old w) (by exact H1.out) (by exact H21.out) t _ _ hp ha
     generalize secAt ps[t] (at_[t]'(by omega)) = sx at hsl hneg hht SC
     have HSL := Lib.hid hsl
     have HNEG := Lib.hid hneg
     have HHT := Lib.hid hht
     clear hp ha hsl hneg hht
     go_wp2
     go_loopw [6] (fun i wr => ∃ u n : Nat, u ≤ t ∧ i = .int .i64 u ∧ wr = w1.drewN n ∧ (0 ≤ sx → sx ∉ (secList ps at_).take u)) (fun i _ => t - (intOf i).toNat)
     case atStart => exact ⟨0, n, Nat.zero_le _, rfl, rfl, by simp⟩
     case round =>
      obtain ⟨u, m, hu, rfl, rfl, hno⟩ := hrel
      have HNO := Lib.hid hno; clear hno
      by_cases hlt2 : u < t
      ·have hdu : decide ((u : Int) < (t : Int)) = true := by simp; omega
       have hul : u < ps.length := by omega
       have hp : ps[u]? = some ps[u] := List.getElem?_eq_getElem hul
       have ha : at_[u]? = some (at_[u]'(by omega)) := List.getElem?_eq_getElem (by omega)
       have hsl := secList_at hp ha
       have SU : Hid (∀ m, Calls Try.prog 82 #[.slice A ps.length c, .slice A2 at_.length c2, .int .i64 u] (w1.drewN m) fun e w' => e = .returned (.int .i64 (secAt ps[u] (at_[u]'(by omega)))) ∧ ∃ n, w' = (w1.drewN m).drewN n) := fun m => Section_any ps at_ A A2 c c2 (w1.drewN m) (Old w) (Old w) (by exact H1.out) (by exact H21.out) u _ _ hp ha
       generalize secAt ps[u] (at_[u]'(by omega)) = su at hsl SU
       have HSU := Lib.hid hsl
       clear hp ha hsl
       by_cases g3 : 0 ≤ sx
       ·have g3' : decide (sx ≥ 0) = true := by simp; omega
        by_cases g4 : sx = su
        ·have g4' : (sx == su) = true := by simpa using g4
         have Q : Hid (checkState ps at_ = 17) := by
          show checkState ps at_ = 17
          unfold checkState
          rw [if_neg (by simp [g1, g2]), if_neg ?_]
          intro hn
          have hn2 := List.Sublist.nodup (heldOf_sublist ps at_ (t + 1)) hn
          rw [HHT.out] at hn2
          rcases HNEG.out with h | h
          ·omega
          ·rw [if_neg h.1] at hn2
           have := (List.nodup_append.1 hn2).2.2 sx ((mem_heldOf HSN.out _ _).2 ⟨by rw [secList_take]; exact List.mem_of_getElem? (by rw [List.getElem?_take_of_lt hlt2, g4]; exact HSU.out), g3⟩) sx (by simp)
           exact this rfl
         clear g4
         go_wp2_with (first | (go_at_call 82; (with_reducible refine (SC.out _).mono ?_); rintro e w7 ⟨rfl, n7, rfl⟩) | (go_at_call 82; (with_reducible refine (SU.out _).mono ?_); rintro e w8 ⟨rfl, n8, rfl⟩))
         go_ret
         rw [Q.out]
         exact ⟨rfl, K1.out.drewN _⟩
        ·have g4' : (sx == su) = false := by simpa using g4
         have Q : Hid (0 ≤ sx → sx ∉ (secList ps at_).take (u + 1)) := by
          show _ → _
          intro h0
          rw [List.take_add_one, HSU.out]; simp
          exact ⟨by simpa using HNO.out h0, g4⟩
         clear g4
         go_wp2_with (first | (go_at_call 82; (with_reducible refine (SC.out _).mono ?_); rintro e w7 ⟨rfl, n7, rfl⟩) | (go_at_call 82; (with_reducible refine (SU.out _).mono ?_); rintro e w8 ⟨rfl, n8, rfl⟩))
         go_roundw
         case rel => exact ⟨u + 1, _, by omega, by go_num, rfl, Q.out⟩
         case measure => simp [intOf]; omega
       ·have g3' : decide (sx ≥ 0) = false := by simp; omega
        go_wp2_with (first | (go_at_call 82; (with_reducible refine (SC.out _).mono ?_); rintro e w7 ⟨rfl, n7, rfl⟩))
        go_roundw
        case rel => exact ⟨u + 1, _, by omega, by go_num, rfl, fun h => (by omega)⟩
        case measure => simp [intOf]; omega
      ·obtain rfl : u = t := by omega
       have Q : Hid ((heldOf ps (at_.take (u + 1))).Nodup) := by
        show List.Nodup _
        rw [HHT.out]
        rcases HNEG.out with h | h
        ·rw [if_pos h.1, List.append_nil]; exact HND.out
        ·rw [if_neg h.1]
         refine nodup_snoc HND.out (fun hm => HNO.out h.2 ?_)
         have := ((mem_heldOf HSN.out _ _).1 hm).1
         rw [secList_take] at this; exact this
       go_wp2
       go_roundw
       case rel => exact ⟨u + 1, _, by omega, by go_num, rfl, Q.out⟩
       case measure => simp [intOf]; omega
    ·obtain rfl : t = ps.length := by omega
     have Q : Hid (checkState ps at_ = 0) := by
      show checkState ps at_ = 0
      unfold checkState
      rw [if_neg (by simp [g1, g2]), if_pos]
      have e : at_.take ps.length = at_ := List.take_of_length_le (by omega)
      have := HND.out; rw [e] at this; exact this
     go_wp2
     go_ret
     rw [Q.out]
     exact ⟨rfl, K1.out.drewN _⟩
  ·have g2' : good ps at_ = false := by simpa using g2
   have Q : Hid (checkState ps at_ = 1) := by show checkState ps at_ = _; simp [checkState, g2']
   go_wp2_with (go_at_call 81; refine (rGood_any ps at_ A A2 c c2 _ (Old w) (Old w) H1.out H21.out).mono ?_; rintro e w2 ⟨rfl, rfl⟩)
   go_ret
   rw [Q.out]
   exact ⟨rfl, K1.out⟩
 ·have g1' : valid ps = false := by simpa using g1
  have Q : Hid (checkState ps at_ = 1) := by show checkState ps at_ = _; simp [checkState, g1']
  go_enter Try.func59, Try.ntmps59
  go_wp2_with (go_at_call 80; refine (RefValid_any ps A c w H.out).mono ?_; rintro e w1 ⟨rfl, k1⟩)
  go_ret
  rw [Q.out]
  exact ⟨rfl, k1⟩

structure Pr where
 res : Int
 u : Ref
 v : Ref
 deriving DecidableEq, Inhabited
def pairsL (r : Int) (l : List Ref) : List Pr := l.flatMap fun u => (l.filter fun v => decide (u.tr < v.tr)).map fun v => ⟨r, u, v⟩
def openA (ps : List (List Stage)) (at_ : List Int) (r : Int) : List Ref := openU ps at_ r (allU ps r)
def pairsTo (ps : List (List Stage)) (at_ : List Int) (n : Nat) : List Pr := (List.range n).flatMap fun r : Nat => pairsL (r : Int) (openA ps at_ (r : Int))
def pairsP (ps : List (List Stage)) (at_ : List Int) : List Pr := pairsTo ps at_ 144
theorem mem_pairs {ps : List (List Stage)} {at_ : List Int} {x : Pr} (h : x ∈ pairsP ps at_) : x.u ∈ openA ps at_ x.res ∧ x.v ∈ openA ps at_ x.res ∧ x.u.tr < x.v.tr := by
 unfold pairsP pairsTo at h
 obtain ⟨r, _, h⟩ := List.mem_flatMap.1 h
 unfold pairsL at h
 obtain ⟨u, hu, h⟩ := List.mem_flatMap.1 h
 obtain ⟨v, hv, rfl⟩ := List.mem_map.1 h
 obtain ⟨hv, hlt⟩ := List.mem_filter.1 hv
 exact ⟨hu, hv, by simpa using hlt⟩
def dArc (ps : List (List Stage)) (x : Pr) (b : Bool) : RArc := if b = true then arc0 (relOf ps x.res x.u) x.v else arc0 (relOf ps x.res x.v) x.u
def decs (ps : List (List Stage)) (xs : List Pr) (bs : List Bool) : List RArc := List.zipWith (dArc ps) xs bs
theorem decs_snoc (ps : List (List Stage)) {xs : List Pr} {bs : List Bool} {x : Pr} (b : Bool) (h : xs[bs.length]? = some x) : decs ps xs (bs ++ [b]) = decs ps xs bs ++ [dArc ps x b] := by
 unfold decs
 induction bs generalizing xs with
 | nil =>
  cases xs with
  | nil => simp at h
  | cons a xs => simp at h; subst h; simp
 | cons c bs ih =>
  cases xs with
  | nil => simp at h
  | cons a xs =>
   simp only [List.cons_append, List.zipWith_cons_cons]
   rw [ih (by simpa using h)]
theorem open_use {ps : List (List Stage)} {at_ : List Int} {r : Int} {u : Ref} (h : u ∈ openA ps at_ r) : InR ps u ∧ Ev ps at_ (relOf ps r u) := by
 unfold openA openU at h
 obtain ⟨hu, ho⟩ := List.mem_filter.1 h
 obtain ⟨t, k, p, hp, hk, e, etr⟩ := rel_event hu
 obtain ⟨tw, kw, pw, sw, hpw, hsw, _, rfl⟩ := mem_allU.1 hu
 refine ⟨⟨tw, kw, pw, hpw, by have := getElem?_lt hsw; omega, rfl⟩, ⟨t, k, p, hp, hk, e⟩, ?_⟩
 unfold overB at ho
 unfold doneR
 rw [relOf_tr]
 simpa using ho
theorem dArc_ok {ps : List (List Stage)} {at_ : List Int} {x : Pr} (h : x ∈ pairsP ps at_) (b : Bool) : Ev ps at_ (dArc ps x b).frm ∧ InR ps (dArc ps x b).to ∧ (dArc ps x b).frm.tr ≠ (dArc ps x b).to.tr ∧ (dArc ps x b).wt = 0 := by
 obtain ⟨hu, hv, hlt⟩ := mem_pairs h
 obtain ⟨u1, u2⟩ := open_use hu
 obtain ⟨v1, v2⟩ := open_use hv
 unfold dArc
 cases b with
 | true => exact ⟨u2, v1, by show (relOf ps x.res x.u).tr ≠ x.v.tr; rw [relOf_tr]; omega, rfl⟩
 | false => exact ⟨v2, u1, by show (relOf ps x.res x.v).tr ≠ x.u.tr; rw [relOf_tr]; omega, rfl⟩
theorem zipWith_mem {α β γ : Type} {f : α → β → γ} {z : γ} : ∀ {xs : List α} {ys : List β}, z ∈ List.zipWith f xs ys → ∃ x ∈ xs, ∃ y, z = f x y
 | [], _, h => by simp at h
 | _ :: _, [], h => by simp at h
 | x :: xs, y :: ys, h => by
  simp only [List.zipWith_cons_cons, List.mem_cons] at h
  rcases h with rfl | h
  ·exact ⟨x, by simp, y, rfl⟩
  ·obtain ⟨x', h1, h2⟩ := zipWith_mem h
   exact ⟨x', by simp [h1], h2⟩
theorem decs_ok {ps : List (List Stage)} {at_ : List Int} (bs : List Bool) : DOk ps at_ (decs ps (pairsP ps at_) bs) := by
 have key : ∀ a ∈ decs ps (pairsP ps at_) bs, Ev ps at_ a.frm ∧ InR ps a.to ∧ a.frm.tr ≠ a.to.tr ∧ a.wt = 0 := fun a ha => by
  obtain ⟨x, hx, b, rfl⟩ := zipWith_mem ha
  exact dArc_ok hx b
 exact ⟨fun a ha => (key a ha).1, fun a ha => (key a ha).2.1, fun a ha => (key a ha).2.2.1, fun a ha => (key a ha).2.2.2⟩

structure Pb where
 ps : List (List Stage)
 at_ : List Int
 due : List Int
 wgt : List Int
 now : Int
def lateP (p : Pb) (t : Nat) (s : Int) : Int := if s < nowAt p.due t then 0 else nowAt p.wgt t * (s - nowAt p.due t)
def costT (p : Pb) (T : Tab) : Nat → Int
 | 0 => 0
 | t + 1 => costT p T t + lateP p t (T ⟨(t : Int), (lenAt p.ps t : Int)⟩)
def lineD (p : Pb) (D : List RArc) : List Ref := (lineR p.ps (arcsD p.ps D) p.at_).1
def secD (p : Pb) (D : List RArc) : Tab := secS p.ps p.at_ p.now D (lineD p D)
def costD (p : Pb) (D : List RArc) : Int := costT p (secD p D) p.ps.length
def checkP (p : Pb) : Bool := decide (checkState p.ps p.at_ = 0) && decide (p.due.length = p.ps.length) && decide (p.wgt.length = p.ps.length) && p.due.all (fun x => decide (0 ≤ x) && decide (x ≤ 16777216)) && p.wgt.all (fun x => decide (0 ≤ x) && decide (x ≤ 1048576)) && decide (0 ≤ p.now) && decide (p.now ≤ 4194304)

structure SSt where
 steps : Nat
 best : Option (List Bool × Int)
def xs (p : Pb) : List Pr := pairsP p.ps p.at_
def goOn (p : Pb) (bs : List Bool) (s : SSt) : Bool := okD p.ps p.at_ (decs p.ps (xs p) bs) && (match s.best with | none => true | some b => decide (costD p (decs p.ps (xs p) bs) < b.2))
def decT (budget : Nat) (p : Pb) (rc : List Bool → SSt → Bool × SSt) (bs : List Bool) : List Bool → SSt → Bool × SSt
 | [], s => (true, s)
 | b :: l, s => if s.steps = budget then (false, s) else
   if goOn p (bs ++ [b]) s = true then (if (rc (bs ++ [b]) ⟨s.steps + 1, s.best⟩).1 = true then decT budget p rc bs l (rc (bs ++ [b]) ⟨s.steps + 1, s.best⟩).2 else (false, (rc (bs ++ [b]) ⟨s.steps + 1, s.best⟩).2))
   else decT budget p rc bs l ⟨s.steps + 1, s.best⟩
def decF (budget : Nat) (p : Pb) : Nat → List Bool → SSt → Bool × SSt
 | 0, bs, s => (true, ⟨s.steps, some (bs, costD p (decs p.ps (xs p) bs))⟩)
 | k + 1, bs, s => decT budget p (decF budget p k) bs [true, false] s
def searchD (budget : Nat) (p : Pb) : Bool × SSt := decF budget p (xs p).length [] ⟨0, none⟩

end Go.Proofs.Ytilbbpbjhoidhaa
