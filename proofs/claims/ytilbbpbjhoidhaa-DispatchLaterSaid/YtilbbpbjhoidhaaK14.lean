/- Labels of events: the least ones for decided arcs, and how merging along arcs comes to them. No program in sight. Contracts of SameOrders and SameLists at equal lists. Conditions: as each theorem says. Contracts of precedence.Rest and of the reference's Rest: both return restP. Conditions: as each theorem says. The search of chapter 38 as a plain function on lists. No program in sight. Contracts of slices.Clone, and of the search of takeover.Identify. Conditions: as each theorem says. Contract of the recursive search of takeover.Identify. Conditions: as each theorem says. Contract of (*identification).assign. Conditions: as the theorem says. Contract of takeover.Identify. Conditions: as the theorem says. Contracts of the reference's search for positions. Conditions: as each theorem says. Contract of the reference's count of a complete assignment. Conditions: as the theorem says. Contract of the reference's recursive search. Conditions: as the theorem says. Contract of the reference's Identify. Conditions: as the theorem says. Contracts of sections and of the example of chapter 38. Conditions: as each theorem says. Contract of the reference's CheckState. Conditions: as the theorem says. The search of chapter 37 as a plain function over decisions. No program in sight. Trains that follow their orders: after any number of events of a line the rest of it is the line, and no two trains hold the same section. No program in sight. -/
import Derived.Test.YtilbbpbjhoidhaaK12
import Derived.Test.YtilbbpbjhoidhaaK13
import Derived.Test.YtilbbpbjhoidhaaK11
import Derived.Test.YtilbbpbjhoidhaaK03
import Derived.Test.YtilbbpbjhoidhaaK02
import Derived.Test.YtilbbpbjhoidhaaK08
import Derived.Test.YtilbbpbjhoidhaaK05
import Derived.Test.YtilbbpbjhoidhaaK07
import Derived.Test.YtilbbpbjhoidhaaK10
namespace Go.Proofs.Ytilbbpbjhoidhaa
open Go.RowKit

def baseN (ps : List (List Stage)) (at_ : List Int) (n : Int) (u : Ref) : Int := base2 ps at_ n u.tr.toNat u.st.toNat
def phS (a : RArc) (x : Int) : Int := x + a.wt
theorem phS_mono : ∀ a x y, x ≤ y → phS a x ≤ phS a y := fun a x y h => by unfold phS; omega
section
variable {ps : List (List Stage)} {at_ : List Int} {D : List RArc} {L : List Ref} {n : Int}
/-- the seconds -/
def secS (ps : List (List Stage)) (at_ : List Int) (n : Int) (D : List RArc) (L : List Ref) : Tab := solS ps at_ D (baseN ps at_ n) phS (initR at_ n) L
theorem solS_indep {base : Ref → Int} {ph : RArc → Int → Int} {init : Tab} (hm : ∀ a x y, x ≤ y → ph a x ≤ ph a y) {L' : List Ref} (h : Topo ps at_ D L) (h' : Topo ps at_ D L') (u : Ref) : solS ps at_ D base ph init L u = solS ps at_ D base ph init L' u := by
  by_cases hu : Ev ps at_ u
  · have h1 := solS_least (init := init) h hm (solS_sol (base := base) (init := init) h') hu
    have h2 := solS_least (init := init) h' hm (solS_sol (base := base) (init := init) h) hu
    omega
  · rw [solS_out h hu, solS_out h' hu]

structure Lab where
  sec : Int
  bef : List Int
  deriving DecidableEq, Inhabited
def Lab.bf (l : Lab) (t : Nat) : Int := (l.bef[t]?).getD (-1)
abbrev LTab := Ref → Lab
def mergeL (l o : Lab) (fr : Ref) (w : Int) : Lab := ⟨max l.sec (o.sec + w), (List.range 10).map fun t : Nat => max (max (l.bf t) (o.bf t)) (if fr.tr = (t : Int) then fr.st else -1)⟩
def sat (T : LTab) (a : RArc) : Prop := mergeL (T a.to) (T a.frm) a.frm a.wt = T a.to
def labS (ps : List (List Stage)) (at_ : List Int) (n : Int) (D : List RArc) (L : List Ref) : LTab := fun u => ⟨secS ps at_ n D L u, (List.range 10).map fun t : Nat => befS ps at_ D L (t : Int) u⟩
theorem bf_map (f : Nat → Int) (s : Int) {t : Nat} (ht : t < 10) : Lab.bf ⟨s, (List.range 10).map f⟩ t = f t := by
  unfold Lab.bf
  rw [List.getElem?_map, List.getElem?_range ht]; rfl
theorem Lab.ext10 {l m : Lab} (h1 : l.bef.length = 10) (h2 : m.bef.length = 10) (hs : l.sec = m.sec) (hb : ∀ t, t < 10 → l.bf t = m.bf t) : l = m := by
  obtain ⟨ls, lb⟩ := l
  obtain ⟨ms, mb⟩ := m
  simp only at hs h1 h2
  subst hs
  congr 1
  apply List.ext_getElem?
  intro i
  by_cases hi : i < 10
  · have := hb i hi
    unfold Lab.bf at this
    simp only at this
    rw [List.getElem?_eq_getElem (by omega), List.getElem?_eq_getElem (by omega)] at this ⊢
    simpa using this
  · rw [List.getElem?_eq_none (by omega), List.getElem?_eq_none (by omega)]
theorem labS_len (u : Ref) : (labS ps at_ n D L u).bef.length = 10 := by simp [labS]
theorem mergeL_len (l o : Lab) (fr : Ref) (w : Int) : (mergeL l o fr w).bef.length = 10 := by simp [mergeL]
theorem mergeL_bf (l o : Lab) (a : RArc) {t : Nat} (ht : t < 10) : (mergeL l o a.frm a.wt).bf t = max (l.bf t) (phB (t : Int) a (o.bf t)) := by
  unfold mergeL phB
  rw [bf_map _ _ ht]
  omega
theorem sat_iff {T : LTab} {a : RArc} (hl : (T a.to).bef.length = 10) : sat T a ↔ phS a (T a.frm).sec ≤ (T a.to).sec ∧ ∀ t : Nat, t < 10 → phB (t : Int) a ((T a.frm).bf t) ≤ (T a.to).bf t := by
  unfold sat
  constructor
  · intro h
    have h1 := congrArg Lab.sec h
    refine ⟨by unfold mergeL at h1; simp only at h1; unfold phS; omega, fun t ht => ?_⟩
    have h2 : (mergeL (T a.to) (T a.frm) a.frm a.wt).bf t = (T a.to).bf t := congrArg (fun l => Lab.bf l t) h
    rw [mergeL_bf _ _ _ ht] at h2
    omega
  · rintro ⟨h1, h2⟩
    refine Lab.ext10 (mergeL_len _ _ _ _) hl ?_ fun t ht => ?_
    · unfold mergeL; simp only; unfold phS at h1; omega
    · rw [mergeL_bf _ _ _ ht]
      have := h2 t ht
      omega
def updL (T : LTab) (u : Ref) (l : Lab) : LTab := fun v => if v = u then l else T v
theorem updL_at (T : LTab) (u : Ref) (l : Lab) : updL T u l u = l := by unfold updL; rw [if_pos rfl]
theorem updL_ne (T : LTab) {u v : Ref} (l : Lab) (h : v ≠ u) : updL T u l v = T v := by unfold updL; rw [if_neg h]
/-- a table on its way to the least one: arcs out of the events of P may be unsatisfied -/
structure Prt (ps : List (List Stage)) (at_ : List Int) (n : Int) (D : List RArc) (L : List Ref) (P : RArc → Prop) (T : LTab) : Prop where
  len : ∀ u, (T u).bef.length = 10
  base : ∀ e, Ev ps at_ e → baseN ps at_ n e ≤ (T e).sec ∧ ∀ t : Nat, t < 10 → -1 ≤ (T e).bf t
  arc : ∀ a ∈ arcsD ps D, Ev ps at_ a.to → doneR at_ a.frm = false → P a ∨ sat T a
  le : ∀ e, Ev ps at_ e → (T e).sec ≤ secS ps at_ n D L e ∧ ∀ t : Nat, t < 10 → (T e).bf t ≤ befS ps at_ D L (t : Int) e
  out : ∀ e, ¬ Ev ps at_ e → T e = labS ps at_ n D L e
theorem labS_bf {t : Nat} (ht : t < 10) (u : Ref) : (labS ps at_ n D L u).bf t = befS ps at_ D L (t : Int) u := bf_map _ _ ht
/-- with nothing pending it is the least one -/
theorem Prt.done (h : Topo ps at_ D L) {P : RArc → Prop} {T : LTab} (hp : Prt ps at_ n D L P T) (hP : ∀ a ∈ arcsD ps D, Ev ps at_ a.to → doneR at_ a.frm = false → ¬ P a) (u : Ref) : T u = labS ps at_ n D L u := by
  by_cases hu : Ev ps at_ u
  · have hsat : ∀ a ∈ arcsD ps D, Ev ps at_ a.to → doneR at_ a.frm = false → sat T a := fun a ha h1 h2 => by
      rcases hp.arc a ha h1 h2 with h3 | h3
      · exact absurd h3 (hP a ha h1 h2)
      · exact h3
    refine Lab.ext10 (hp.len u) (labS_len u) ?_ fun t ht => ?_
    · exact sol_eq h phS_mono (T := fun e => (T e).sec) ⟨fun e he => (hp.base e he).1, fun a ha h1 h2 => ((sat_iff (hp.len _)).1 (hsat a ha h1 h2)).1⟩ (fun e he => (hp.le e he).1) hu
    · rw [labS_bf ht]
      exact sol_eq h (phB_mono (t : Int)) (T := fun e => (T e).bf t) ⟨fun e he => (hp.base e he).2 t ht, fun a ha h1 h2 => ((sat_iff (hp.len _)).1 (hsat a ha h1 h2)).2 t ht⟩ (fun e he => (hp.le e he).2 t ht) hu
  · exact hp.out u hu
/-- one merge along an arc -/
theorem Prt.upd (h : Topo ps at_ D L) {P : RArc → Prop} {T : LTab} (hp : Prt ps at_ n D L P T) {a : RArc} (ha : a ∈ arcsD ps D) (he : Ev ps at_ a.to) (hf : doneR at_ a.frm = false) (hfe : Ev ps at_ a.frm) (hne : a.frm ≠ a.to) :
    Prt ps at_ n D L (fun b => (P b ∧ b ≠ a) ∨ (b.frm = a.to ∧ mergeL (T a.to) (T a.frm) a.frm a.wt ≠ T a.to)) (updL T a.to (mergeL (T a.to) (T a.frm) a.frm a.wt)) := by
  have hS : phS a (secS ps at_ n D L a.frm) ≤ secS ps at_ n D L a.to := (solS_sol (base := baseN ps at_ n) (ph := phS) (init := initR at_ n) h).arc a ha he hf
  have hB : ∀ t : Int, phB t a (befS ps at_ D L t a.frm) ≤ befS ps at_ D L t a.to := fun t => (solS_sol (base := fun _ => -1) (ph := phB t) (init := fun _ => -1) h).arc a ha he hf
  have hge : ∀ v, (T v).sec ≤ (updL T a.to (mergeL (T a.to) (T a.frm) a.frm a.wt) v).sec ∧ ∀ t : Nat, t < 10 → (T v).bf t ≤ (updL T a.to (mergeL (T a.to) (T a.frm) a.frm a.wt) v).bf t := fun v => by
    by_cases e : v = a.to
    · subst e
      rw [updL_at]
      refine ⟨by unfold mergeL; simp only; omega, fun t ht => ?_⟩
      rw [mergeL_bf _ _ _ ht]; omega
    · rw [updL_ne _ _ e]
      exact ⟨Int.le_refl _, fun _ _ => Int.le_refl _⟩
  refine ⟨fun u => ?_, fun e hev => ?_, fun b hb hbt hbf => ?_, fun e hev => ?_, fun e hev => ?_⟩
  · by_cases e : u = a.to
    · subst e; rw [updL_at]; exact mergeL_len _ _ _ _
    · rw [updL_ne _ _ e]; exact hp.len u
  · obtain ⟨h1, h2⟩ := hge e
    obtain ⟨h3, h4⟩ := hp.base e hev
    exact ⟨by omega, fun t ht => by have := h2 t ht; have := h4 t ht; omega⟩
  · by_cases e1 : b.frm = a.to
    · -- an arc out of the changed event
      by_cases e2 : mergeL (T a.to) (T a.frm) a.frm a.wt = T a.to
      · have hT : updL T a.to (mergeL (T a.to) (T a.frm) a.frm a.wt) = T := by
          funext v
          by_cases e : v = a.to
          · subst e; rw [updL_at, e2]
          · rw [updL_ne _ _ e]
        rw [hT]
        rcases hp.arc b hb hbt hbf with h1 | h1
        · by_cases e3 : b = a
          · subst e3; exact .inr e2
          · exact .inl (.inl ⟨h1, e3⟩)
        · exact .inr h1
      · exact .inl (.inr ⟨e1, e2⟩)
    · -- its source is unchanged
      have hsrc : updL T a.to (mergeL (T a.to) (T a.frm) a.frm a.wt) b.frm = T b.frm := updL_ne _ _ e1
      by_cases e3 : b = a
      · subst e3
        right
        unfold sat
        rw [hsrc, updL_at]
        refine Lab.ext10 (mergeL_len _ _ _ _) (mergeL_len _ _ _ _) ?_ fun t ht => ?_
        · unfold mergeL; simp only; omega
        · rw [mergeL_bf _ _ _ ht, mergeL_bf _ _ _ ht]; omega
      · rcases hp.arc b hb hbt hbf with h1 | h1
        · exact .inl (.inl ⟨h1, e3⟩)
        · right
          have h2 := (sat_iff (hp.len _)).1 h1
          obtain ⟨h3, h4⟩ := hge b.to
          have hlen : (updL T a.to (mergeL (T a.to) (T a.frm) a.frm a.wt) b.to).bef.length = 10 := by
            by_cases e : b.to = a.to
            · rw [e, updL_at]; exact mergeL_len _ _ _ _
            · rw [updL_ne _ _ e]; exact hp.len _
          refine (sat_iff hlen).2 ⟨?_, fun t ht => ?_⟩
          · rw [hsrc]; have := h2.1; omega
          · rw [hsrc]; have := h2.2 t ht; have := h4 t ht; omega
  · by_cases q : e = a.to
    · subst q
      obtain ⟨h1, h2⟩ := hp.le a.to hev
      obtain ⟨h3, h4⟩ := hp.le a.frm hfe
      rw [updL_at]
      refine ⟨?_, fun t ht => ?_⟩
      · unfold mergeL; simp only; unfold phS at hS; omega
      · rw [mergeL_bf _ _ _ ht]
        have h5 := h2 t ht
        have h6 := phB_mono (t : Int) a _ _ (h4 t ht)
        have h7 := hB (t : Int)
        omega
    · rw [updL_ne _ _ q]; exact hp.le e hev
  · by_cases q : e = a.to
    · subst q; exact absurd he hev
    · rw [updL_ne _ _ q]; exact hp.out e hev
/-- the table for one more arc begins as the one without it -/
theorem Prt.start {L' : List Ref} {x y : Ref} (h : Topo ps at_ D L) (h' : Topo ps at_ (D ++ [arc0 x y]) L') : Prt ps at_ n (D ++ [arc0 x y]) L' (fun a => a = arc0 x y) (labS ps at_ n D L) := by
  have hsub : ∀ {base : Ref → Int} {ph : RArc → Int → Int} {T : Tab}, Sol ps at_ (D ++ [arc0 x y]) base ph T → Sol ps at_ D base ph T := fun hT =>
    ⟨hT.base, fun a ha h1 h2 => hT.arc a (by rw [arcsD_snoc]; exact List.mem_append_left _ ha) h1 h2⟩
  have hs := solS_sol (base := baseN ps at_ n) (ph := phS) (init := initR at_ n) h
  have hb := fun t : Int => solS_sol (base := fun _ => -1) (ph := phB t) (init := fun _ => -1) h
  refine ⟨fun u => labS_len u, fun e he => ⟨hs.base e he, fun t ht => by rw [labS_bf ht]; exact (hb (t : Int)).base e he⟩, fun a ha he hf => ?_, fun e he => ⟨?_, fun t ht => ?_⟩, fun e he => ?_⟩
  · rw [arcsD_snoc] at ha
    rcases List.mem_append.1 ha with ha | ha
    · right
      refine (sat_iff (labS_len _)).2 ⟨hs.arc a ha he hf, fun t ht => ?_⟩
      rw [labS_bf ht, labS_bf ht]
      exact (hb (t : Int)).arc a ha he hf
    · left; simpa using ha
  · exact solS_least h phS_mono (hsub (solS_sol h')) he
  · rw [labS_bf ht]
    exact solS_least h (phB_mono (t : Int)) (hsub (solS_sol h')) he
  · have e1 : secS ps at_ n D L e = secS ps at_ n (D ++ [arc0 x y]) L' e := by unfold secS; rw [solS_out h he, solS_out h' he]
    have e2 : ∀ t : Int, befS ps at_ D L t e = befS ps at_ (D ++ [arc0 x y]) L' t e := fun t => by unfold befS; rw [solS_out h he, solS_out h' he]
    unfold labS
    rw [e1]
    congr 1
    exact List.map_congr_left fun t _ => e2 _
end

def openU (ps : List (List Stage)) (at_ : List Int) (r : Int) (l : List Ref) : List Ref := l.filter fun u => !overB ps at_ u r

/-- what the search has found so far -/
structure ISt where
  steps : Nat
  found : Nat
  sum : Int
  best : List Int

def posns (p : List Stage) : List Int := (List.range (p.length + 2)).map fun i : Nat => (i : Int) - 1
def absDiff (a b : Int) : Int := if a - b < b - a then b - a else a - b
def diffSum : List Int → List Int → Int
  | a :: l, b :: m => absDiff a b + diffSum l m
  | _, _ => 0
/-- a complete assignment -/
def complete (exp occ : List Int) (at_ held : List Int) (s : ISt) : ISt :=
  if held.length = occ.length then
    if s.found = 0 ∨ diffSum at_ exp < s.sum then { s with found := 1, sum := diffSum at_ exp, best := at_ }
    else if diffSum at_ exp = s.sum then { s with found := s.found + 1 } else s
  else s
/-- the tries of one train -/
def tries (occ : List Int) (budget : Nat) (f : List Int → List Int → ISt → Bool × ISt) (p : List Stage) (at_ held : List Int) : List Int → ISt → Bool × ISt
  | [], s => (true, s)
  | x :: xs, s =>
    if s.steps = budget then (false, s)
    else if x < 0 ∨ (p.length : Int) ≤ x then
      match f (at_ ++ [x]) held { s with steps := s.steps + 1 } with
      | (false, s') => (false, s')
      | (true, s') => tries occ budget f p at_ held xs s'
    else if secAt p x ∈ occ ∧ secAt p x ∉ held then
      match f (at_ ++ [x]) (held ++ [secAt p x]) { s with steps := s.steps + 1 } with
      | (false, s') => (false, s')
      | (true, s') => tries occ budget f p at_ held xs s'
    else tries occ budget f p at_ held xs { s with steps := s.steps + 1 }
def search (exp occ : List Int) (budget : Nat) : List (List Stage) → List Int → List Int → ISt → Bool × ISt
  | [], at_, held, s => (true, complete exp occ at_ held s)
  | p :: rest, at_, held, s => tries occ budget (search exp occ budget rest) p at_ held (posns p) s

/-- what Identify returns: positions, steps, error -/
def ascend : List Int → Bool
  | a :: b :: r => decide (a < b) && ascend (b :: r)
  | _ => true

section
variable {w w' : World} {g : Nat} {A : Option Addr} {c : Nat} {ps : List (List Stage)} {A2 : Option Addr} {c2 : Nat} {exp occ : List Int} {budget : Nat} {at_ held : List Int} {vat : Value} {s s' : ISt}

end

section
variable {w w' : World} {g : Nat} {A : Option Addr} {c : Nat} {ps : List (List Stage)} {A2 : Option Addr} {c2 : Nat} {exp occ : List Int} {budget : Nat} {at_ held : List Int} {vat : Value} {s : ISt}
  {mis : Int} {steps : Nat} {f : Int → Option Value} {best : List Int} {sm : Int} {un : Bool}

end

def AscInv (occ : List Int) (k : Nat) : Prop := ascend occ = ascend (occ.drop (k - 1))
theorem AscInv.step {occ : List Int} {k : Nat} {a b : Int} (h : AscInv occ k) (hk : 0 < k) (ha : occ[k - 1]? = some a) (hb : occ[k]? = some b) (hlt : a < b) : AscInv occ (k + 1) := by
  unfold AscInv at *
  have e1 := drop_cons' ha
  rw [show k - 1 + 1 = k from by omega] at e1
  have e2 := drop_cons' hb
  rw [h, e1, e2, ascend, ← e2, Nat.add_sub_cancel]
  simp [hlt]
theorem AscInv.stop {occ : List Int} {k : Nat} {a b : Int} (h : AscInv occ k) (hk : 0 < k) (ha : occ[k - 1]? = some a) (hb : occ[k]? = some b) (hlt : b ≤ a) : ascend occ = false := by
  unfold AscInv at *
  have e1 := drop_cons' ha
  rw [show k - 1 + 1 = k from by omega] at e1
  have e2 := drop_cons' hb
  rw [h, e1, e2, ascend]
  simp; intro h'; omega
theorem AscInv.done {occ : List Int} (h : AscInv occ occ.length) : ascend occ = true := by
  unfold AscInv at h
  rw [h]
  have : (occ.drop (occ.length - 1)).length ≤ 1 := by simp; omega
  match hd : occ.drop (occ.length - 1), this with
  | [], _ => rfl
  | [a], _ => rfl

/-- the sections that are held -/
def heldOf : List (List Stage) → List Int → List Int
  | p :: ps, a :: l => (if a < 0 ∨ (p.length : Int) ≤ a then [] else [secAt p a]) ++ heldOf ps l
  | _, _ => []
theorem heldOf_snoc : ∀ (ps : List (List Stage)) (l : List Int) (p : List Stage) (x : Int), ps[l.length]? = some p → heldOf ps (l ++ [x]) = heldOf ps l ++ (if x < 0 ∨ (p.length : Int) ≤ x then [] else [secAt p x])
  | [], l, p, x, h => by simp at h
  | q :: ps, [], p, x, h => by simp at h; subst h; simp [heldOf]
  | q :: ps, a :: l, p, x, h => by
    have := heldOf_snoc ps l p x (by simpa using h)
    simp only [List.cons_append, heldOf, this, List.append_assoc]

section
variable {w w' : World} {g : Nat} {A : Option Addr} {c : Nat} {ps : List (List Stage)} {A2 : Option Addr} {c2 : Nat} {exp : List Int} {A3 : Option Addr} {c3 : Nat} {occ : List Int} {budget : Nat} {at_ : List Int} {vat : Value} {s s' : ISt}

end

section
variable {w w' : World} {g : Nat} {A : Option Addr} {c : Nat} {ps : List (List Stage)} {A2 : Option Addr} {c2 : Nat} {exp : List Int} {A3 : Option Addr} {c3 : Nat} {occ : List Int} {budget : Nat} {at_ : List Int} {vat : Value} {s : ISt}

end

def checkState (ps : List (List Stage)) (at_ : List Int) : Int := if (valid ps && good ps at_) = false then 1 else if (heldOf ps at_).Nodup then 0 else 17

theorem nodup_snoc {l : List Int} {x : Int} (h : l.Nodup) (hx : x ∉ l) : (l ++ [x]).Nodup := List.nodup_append.2 ⟨h, by simp, fun a ha b hb => by simp at hb; subst hb; rintro rfl; exact hx ha⟩
theorem heldOf_sublist (ps : List (List Stage)) : ∀ (l : List Int) (k : Nat), (heldOf ps (l.take k)).Sublist (heldOf ps l) := by
  induction ps with
  | nil => intro l k; simp [heldOf]
  | cons p ps ih =>
    intro l k
    cases l with
    | nil => simp [heldOf]
    | cons a l => cases k with
      | zero => simp [heldOf]
      | succ k => simp only [List.take_succ_cons, heldOf]; exact List.Sublist.append (List.Sublist.refl _) (ih l k)

structure Pr where
  res : Int
  u : Ref
  v : Ref
  deriving DecidableEq, Inhabited
/-- the pairs of a list of uses -/
def pairsL (r : Int) (l : List Ref) : List Pr := l.flatMap fun u => (l.filter fun v => decide (u.tr < v.tr)).map fun v => ⟨r, u, v⟩
def openA (ps : List (List Stage)) (at_ : List Int) (r : Int) : List Ref := openU ps at_ r (allU ps r)
def pairsTo (ps : List (List Stage)) (at_ : List Int) (n : Nat) : List Pr := (List.range n).flatMap fun r : Nat => pairsL (r : Int) (openA ps at_ (r : Int))
def pairsP (ps : List (List Stage)) (at_ : List Int) : List Pr := pairsTo ps at_ 144
theorem mem_pairs {ps : List (List Stage)} {at_ : List Int} {x : Pr} (h : x ∈ pairsP ps at_) : x.u ∈ openA ps at_ x.res ∧ x.v ∈ openA ps at_ x.res ∧ x.u.tr < x.v.tr := by
  unfold pairsP pairsTo at h
  obtain ⟨r, _, h⟩ := List.mem_flatMap.1 h
  unfold pairsL at h
  obtain ⟨u, hu, h⟩ := List.mem_flatMap.1 h
  obtain ⟨v, hv, rfl⟩ := List.mem_map.1 h
  obtain ⟨hv, hlt⟩ := List.mem_filter.1 hv
  exact ⟨hu, hv, by simpa using hlt⟩
/-- the arc of a decision -/
def dArc (ps : List (List Stage)) (x : Pr) (b : Bool) : RArc := if b = true then arc0 (relOf ps x.res x.u) x.v else arc0 (relOf ps x.res x.v) x.u
def decs (ps : List (List Stage)) (xs : List Pr) (bs : List Bool) : List RArc := List.zipWith (dArc ps) xs bs
theorem decs_snoc (ps : List (List Stage)) {xs : List Pr} {bs : List Bool} {x : Pr} (b : Bool) (h : xs[bs.length]? = some x) : decs ps xs (bs ++ [b]) = decs ps xs bs ++ [dArc ps x b] := by
  unfold decs
  induction bs generalizing xs with
  | nil =>
    cases xs with
    | nil => simp at h
    | cons a xs => simp at h; subst h; simp
  | cons c bs ih =>
    cases xs with
    | nil => simp at h
    | cons a xs =>
      simp only [List.cons_append, List.zipWith_cons_cons]
      rw [ih (by simpa using h)]
theorem open_use {ps : List (List Stage)} {at_ : List Int} {r : Int} {u : Ref} (h : u ∈ openA ps at_ r) : InR ps u ∧ Ev ps at_ (relOf ps r u) := by
  unfold openA openU at h
  obtain ⟨hu, ho⟩ := List.mem_filter.1 h
  obtain ⟨t, k, p, hp, hk, e, etr⟩ := rel_event hu
  obtain ⟨tw, kw, pw, sw, hpw, hsw, _, rfl⟩ := mem_allU.1 hu
  refine ⟨⟨tw, kw, pw, hpw, by have := getElem?_lt hsw; omega, rfl⟩, ⟨t, k, p, hp, hk, e⟩, ?_⟩
  unfold overB at ho
  unfold doneR
  rw [relOf_tr]
  simpa using ho
theorem dArc_ok {ps : List (List Stage)} {at_ : List Int} {x : Pr} (h : x ∈ pairsP ps at_) (b : Bool) : Ev ps at_ (dArc ps x b).frm ∧ InR ps (dArc ps x b).to ∧ (dArc ps x b).frm.tr ≠ (dArc ps x b).to.tr ∧ (dArc ps x b).wt = 0 := by
  obtain ⟨hu, hv, hlt⟩ := mem_pairs h
  obtain ⟨u1, u2⟩ := open_use hu
  obtain ⟨v1, v2⟩ := open_use hv
  unfold dArc
  cases b with
  | true => exact ⟨u2, v1, by show (relOf ps x.res x.u).tr ≠ x.v.tr; rw [relOf_tr]; omega, rfl⟩
  | false => exact ⟨v2, u1, by show (relOf ps x.res x.v).tr ≠ x.u.tr; rw [relOf_tr]; omega, rfl⟩
theorem zipWith_mem {α β γ : Type} {f : α → β → γ} {z : γ} : ∀ {xs : List α} {ys : List β}, z ∈ List.zipWith f xs ys → ∃ x ∈ xs, ∃ y, z = f x y
  | [], _, h => by simp at h
  | _ :: _, [], h => by simp at h
  | x :: xs, y :: ys, h => by
    simp only [List.zipWith_cons_cons, List.mem_cons] at h
    rcases h with rfl | h
    · exact ⟨x, by simp, y, rfl⟩
    · obtain ⟨x', h1, h2⟩ := zipWith_mem h
      exact ⟨x', by simp [h1], h2⟩
theorem decs_ok {ps : List (List Stage)} {at_ : List Int} (bs : List Bool) : DOk ps at_ (decs ps (pairsP ps at_) bs) := by
  have key : ∀ a ∈ decs ps (pairsP ps at_) bs, Ev ps at_ a.frm ∧ InR ps a.to ∧ a.frm.tr ≠ a.to.tr ∧ a.wt = 0 := fun a ha => by
    obtain ⟨x, hx, b, rfl⟩ := zipWith_mem ha
    exact dArc_ok hx b
  exact ⟨fun a ha => (key a ha).1, fun a ha => (key a ha).2.1, fun a ha => (key a ha).2.2.1, fun a ha => (key a ha).2.2.2⟩

/-- a problem's data besides the paths and positions -/
structure Pb where
  ps : List (List Stage)
  at_ : List Int
  due : List Int
  wgt : List Int
  now : Int
def lateP (p : Pb) (t : Nat) (s : Int) : Int := if s < nowAt p.due t then 0 else nowAt p.wgt t * (s - nowAt p.due t)
def costT (p : Pb) (T : Tab) : Nat → Int
  | 0 => 0
  | t + 1 => costT p T t + lateP p t (T ⟨(t : Int), (lenAt p.ps t : Int)⟩)
def lineD (p : Pb) (D : List RArc) : List Ref := (lineR p.ps (arcsD p.ps D) p.at_).1
def secD (p : Pb) (D : List RArc) : Tab := secS p.ps p.at_ p.now D (lineD p D)
def costD (p : Pb) (D : List RArc) : Int := costT p (secD p D) p.ps.length
def checkP (p : Pb) : Bool := decide (checkState p.ps p.at_ = 0) && decide (p.due.length = p.ps.length) && decide (p.wgt.length = p.ps.length) && p.due.all (fun x => decide (0 ≤ x) && decide (x ≤ 16777216)) && p.wgt.all (fun x => decide (0 ≤ x) && decide (x ≤ 1048576)) && decide (0 ≤ p.now) && decide (p.now ≤ 4194304)

/-- steps so far, and the best complete choice -/
structure SSt where
  steps : Nat
  best : Option (List Bool × Int)
def xs (p : Pb) : List Pr := pairsP p.ps p.at_
def goOn (p : Pb) (bs : List Bool) (s : SSt) : Bool := okD p.ps p.at_ (decs p.ps (xs p) bs) && (match s.best with | none => true | some b => decide (costD p (decs p.ps (xs p) bs) < b.2))
def decT (budget : Nat) (p : Pb) (rc : List Bool → SSt → Bool × SSt) (bs : List Bool) : List Bool → SSt → Bool × SSt
  | [], s => (true, s)
  | b :: l, s => if s.steps = budget then (false, s) else
      if goOn p (bs ++ [b]) s = true then (if (rc (bs ++ [b]) ⟨s.steps + 1, s.best⟩).1 = true then decT budget p rc bs l (rc (bs ++ [b]) ⟨s.steps + 1, s.best⟩).2 else (false, (rc (bs ++ [b]) ⟨s.steps + 1, s.best⟩).2))
      else decT budget p rc bs l ⟨s.steps + 1, s.best⟩
def decF (budget : Nat) (p : Pb) : Nat → List Bool → SSt → Bool × SSt
  | 0, bs, s => (true, ⟨s.steps, some (bs, costD p (decs p.ps (xs p) bs))⟩)
  | k + 1, bs, s => decT budget p (decF budget p k) bs [true, false] s
def searchD (budget : Nat) (p : Pb) : Bool × SSt := decF budget p (xs p).length [] ⟨0, none⟩

/-- no arc leads from an event that has not happened to one that has -/
def AgreeP (ps : List (List Stage)) (os : List Order) (now : List Int) : Prop := ∀ (t k : Nat) (p : List Stage), ps[t]? = some p → k ≤ p.length → (k : Int) ≤ nowAt now t → ∀ a ∈ rowG ps os ⟨(t : Int), (k : Int)⟩, doneR now (evAt ps a.frm.toNat) = true
theorem evAt_tr (ps : List (List Stage)) (i : Nat) : 0 ≤ (evAt ps i).tr := by
  unfold evAt
  cases h : (evs ps)[i]? with
  | none => simp
  | some u =>
    have hm := List.mem_of_getElem? h
    unfold evs at hm
    obtain ⟨q, _, hq⟩ := List.mem_flatMap.1 hm
    obtain ⟨k, _, rfl⟩ := List.mem_map.1 hq
    simp
theorem AgreeP.step {ps : List (List Stage)} {os : List Order} {now : List Int} (hg : Gd ps now) (h : AgreeP ps os now) {t : Nat} (ht : t < ps.length) (hc : canGo ps (arcsOf (evs ps).length (gAdds ps os)) now t = true) : AgreeP ps os (now.set t (nowAt now t + 1)) := by
  have hl : t < now.length := by rw [hg.1]; exact ht
  have hG := hg.2 t ht
  intro u k p hp hk hd a ha
  have hd2 : doneR (now.set t (nowAt now t + 1)) ⟨(u : Int), (k : Int)⟩ = true := by unfold doneR; simpa using hd
  have hdone : doneR now (evAt ps a.frm.toNat) = true := by
    rcases (done_set hl (by simp)).1 hd2 with h1 | h1
    · exact h u k p hp hk (by unfold doneR at h1; simpa using h1) a ha
    · simp only [Ref.mk.injEq] at h1
      have hu : u = t := by omega
      subst hu
      simp only [canGo, Bool.and_eq_true, decide_eq_true_eq, List.all_eq_true] at hc
      refine hc.2 a ?_
      unfold rowG num at ha
      simp only [Int.toNat_natCast] at ha
      rw [show ((fst ps u : Int) + nowAt now u + 1).toNat = fst ps u + k from by omega]
      exact ha
  exact (done_set hl (evAt_tr _ _)).2 (.inl hdone)

theorem nodup_leR {l m : List Ref} (hl : l.Nodup) (h : ∀ x ∈ l, x ∈ m) : l.length ≤ m.length := by
  induction l generalizing m with
  | nil => simp
  | cons a l ih =>
    obtain ⟨ha, hl⟩ := List.nodup_cons.1 hl
    have hm := h a (by simp)
    have := ih (m := m.erase a) hl (fun x hx => by
      have hx' := h x (by simp [hx])
      exact (List.mem_erase_of_ne (by rintro rfl; exact ha hx)).2 hx')
    rw [List.length_erase_of_mem hm] at this
    have := List.length_pos_of_mem hm
    simp; omega

end Go.Proofs.Ytilbbpbjhoidhaa
