/- A list of paths in memory of which one cell is written again: it still reads as a list of paths. Conditions: as each theorem says. Owned slices: stores, and more. Conditions: as each theorem says. Contracts of the reference's Between, Chain and Arcs. Conditions: as each theorem says. Contracts of the reference's ready, LineOf and Line. Conditions: as each theorem says. Contracts of the reference's LineOf and Line. Conditions: as each theorem says. Contracts of math/bits.Mul64, math/bits.Mul and slices.Repeat at one element. Conditions: as each theorem says. Tables of seconds in memory: a row of rows of integers, each in a block of its own. Conditions: as each theorem says. The seconds of Times satisfy the equation that the statement PrecedenceTimes checks. No program in sight. -/
import Derived.Test.YtilbbpbjhoidhaaK06
import Derived.Test.YtilbbpbjhoidhaaK11
import Derived.Laws.CopyRow
import Derived.Laws.Bits64b
namespace Go.Proofs.Ytilbbpbjhoidhaa
open Go.RowKit

theorem list_choose {α : Type} {P : Nat → α → Prop} : ∀ n : Nat, (∀ j, j < n → ∃ x, P j x) → ∃ l : List α, l.length = n ∧ ∀ (j : Nat) x, l[j]? = some x → P j x
  | 0, _ => ⟨[], rfl, fun j x h => by simp at h⟩
  | n + 1, h => by
    obtain ⟨l, hl, h1⟩ := list_choose (P := P) n (fun j hj => h j (by omega))
    obtain ⟨x, hx⟩ := h n (by omega)
    refine ⟨l ++ [x], by simp [hl], fun j y hy => ?_⟩
    rcases Nat.lt_or_ge j n with hj | hj
    · rw [List.getElem?_append_left (by omega)] at hy; exact h1 j y hy
    · rw [List.getElem?_append_right (by omega)] at hy
      have hj0 : j = n := by have := getElem?_lt hy; simp at this; omega
      subst hj0
      rw [hl, Nat.sub_self] at hy; simp at hy; subst hy; exact hx

/-- u may stand at p: an integer for an integer, a slice of integers for a slice -/
def Fit (w : World) (S : Foot) (p : Addr) (u : Value) : Prop := (∃ a b, w.cell? p = some (.int .i64 a) ∧ u = .int .i64 b) ∨ ∃ A n c, w.cell? p = some (.slice A n c) ∧ ∃ l, RInts (w.setCell p u) S [u] l
theorem Fit.int {w : World} {S : Foot} {p q : Addr} {u : Value} {x : Int} (h : Fit w S p u) (hq : w.cell? q = some (.int .i64 x)) : ∃ y, (w.setCell p u).cell? q = some (.int .i64 y) := by
  by_cases e : p = q
  · subst e
    rcases h with ⟨a, b, h1, rfl⟩ | ⟨A, n, c, h1, _⟩
    · exact ⟨b, World.cell?_setCell_same _ _ _ h1⟩
    · rw [h1] at hq; cases hq
  · exact ⟨x, (World.cell?_setCell_other _ _ _ _ e).trans hq⟩
theorem RInts.write {w : World} {S : Foot} {p : Addr} {u v : Value} {l : List Int} (hf : Fit w S p u) (h : RInts w S [v] l) : ∃ l', l'.length = l.length ∧ RInts (w.setCell p u) S [v] l' := by
  obtain ⟨A, c, he, h1, h2, h3⟩ := h
  injection he with he _; subst he
  by_cases hl : l = []
  · subst hl; exact ⟨[], rfl, A, c, rfl, h1, h2, fun h => absurd rfl h⟩
  · obtain ⟨b, o, rfl, hb, hj⟩ := h3 hl
    obtain ⟨l', hl', h5⟩ := list_choose (P := fun j y => (w.setCell p u).cell? ⟨b, o + j, none⟩ = some (.int .i64 y)) l.length (fun j hj' => by
      obtain ⟨es, e1, e2, e3⟩ := hj j l[j] (List.getElem?_eq_getElem hj')
      cases e2
      exact hf.int (by simpa using e3 0 _ rfl))
    refine ⟨l', hl', some ⟨b, o, none⟩, c, by rw [hl'], by omega, h2, fun _ => ⟨b, o, rfl, hb, fun j x hx => ⟨[.int .i64 x], rfl, rfl, fun i y hy => ?_⟩⟩⟩
    have hi : i = 0 := by
      rcases i with _ | i
      · rfl
      · simp at hy
    subst hi
    simp at hy; subst hy
    simpa using h5 j x hx
theorem RPath.write {w : World} {S : Foot} {p : Addr} {u v : Value} {l : List Stage} (hf : Fit w S p u) (h : RPath w S [v] l) : ∃ l', l'.length = l.length ∧ RPath (w.setCell p u) S [v] l' := by
  obtain ⟨A, c, he, h1, h2, h3⟩ := h
  injection he with he _; subst he
  by_cases hl : l = []
  · subst hl; exact ⟨[], rfl, A, c, rfl, h1, h2, fun h => absurd rfl h⟩
  · obtain ⟨b, o, rfl, hb, hj⟩ := h3 hl
    obtain ⟨l', hl', h5⟩ := list_choose (P := fun j s => ∃ es, es.length = 4 ∧ RStage (w.setCell p u) S es s ∧ ∀ i u', es[i]? = some u' → (w.setCell p u).cell? ⟨b, o + (j * 4 + i), none⟩ = some u') l.length (fun j hj' => by
      obtain ⟨es, e1, ⟨pv, rfl, hpv⟩, e3⟩ := hj j l[j] (List.getElem?_eq_getElem hj')
      obtain ⟨y0, z0⟩ := hf.int (e3 0 _ rfl)
      obtain ⟨y2, z2⟩ := hf.int (e3 2 _ rfl)
      obtain ⟨y3, z3⟩ := hf.int (e3 3 _ rfl)
      have q1 := e3 1 _ rfl
      obtain ⟨pv', l1, w1, r1⟩ : ∃ pv' l1, (w.setCell p u).cell? ⟨b, o + (j * 4 + 1), none⟩ = some pv' ∧ RInts (w.setCell p u) S [pv'] l1 := by
        by_cases e : p = ⟨b, o + (j * 4 + 1), none⟩
        · subst e
          rcases hf with ⟨a, b', h1', rfl⟩ | ⟨A', n', c', h1', l2, hl2⟩
          · rw [h1'] at q1
            obtain ⟨A', c', he', _⟩ := hpv
            injection he' with he' _; subst he'
            cases q1
          · exact ⟨u, l2, World.cell?_setCell_same _ _ _ h1', hl2⟩
        · obtain ⟨l2, _, hl2⟩ := RInts.write hf hpv
          exact ⟨pv, l2, (World.cell?_setCell_other _ _ _ _ e).trans q1, hl2⟩
      refine ⟨⟨y0, l1, y2, y3⟩, [.int .i64 y0, pv', .int .i64 y2, .int .i64 y3], rfl, ⟨pv', rfl, r1⟩, fun i u' hu => ?_⟩
      match i, hu with
      | 0, hu => simp at hu; subst hu; exact z0
      | 1, hu => simp at hu; subst hu; exact w1
      | 2, hu => simp at hu; subst hu; exact z2
      | 3, hu => simp at hu; subst hu; exact z3
      | i + 4, hu => simp at hu)
    exact ⟨l', hl', some ⟨b, o, none⟩, c, by rw [hl'], by omega, h2, fun _ => ⟨b, o, rfl, hb, h5⟩⟩

/-- a path whose stages lie in memory from B on -/
def Soft (w : World) (b : Nat) : Prop := ∃ cur t, Blk w b t cur
theorem Soft.set_ {w : World} {b : Nat} (h : Soft w b) (p : Addr) (u : Value) : Soft (w.setCell p u) b := by
  obtain ⟨cur, t, hb⟩ := h
  by_cases e : b = p.block
  · subst e
    unfold Soft Blk World.setCell at *
    simp only [Array.getElem?_modify, hb]
    simp
  · exact ⟨cur, t, hb.far e u⟩
def RPathN (B : Nat) : Rd (List Stage) := fun w S cs l => RPath w S cs l ∧ ∀ b o s n c, cs = [.slice (some ⟨b, o, s⟩) n c] → B ≤ b ∧ S b ∧ Soft w b
theorem RPathN.ok (B : Nat) : Rd.Ok (RPathN B) := ⟨fun h hS hw => ⟨RPath.ok.mono h.1 hS hw, fun b o s n c hc => by
  obtain ⟨h1, h2, cur, t, h3⟩ := h.2 b o s n c hc
  exact ⟨h1, hS b h2, cur, t, (hw b h2).trans h3⟩⟩⟩
/-- a stage whose points lie below B -/
def RStageB (B : Nat) : Rd Stage := fun w S cs s => RStage w (fun b => S b ∧ b < B) cs s
theorem RStageB.ok (B : Nat) : Rd.Ok (RStageB B) := ⟨fun h hS hw => RStage.ok.mono h (fun b hb => ⟨hS b hb.1, hb.2⟩) (fun b hb => hw b hb.1)⟩
theorem RStageB.one (B : Nat) : Rd.One (RStageB B) := fun w _ es x h u hu => RStage.one w _ es x h u hu

section
variable {α : Type} {t size : Nat} {E : Rd α} {w w' : World} {base lo : Nat} {v : Value} {l : List α}
end
section
variable {t : Nat} {w w' : World} {base : Nat} {v : Value} {ps : List (List Stage)} {B : Nat}
/-- a row of a list of paths that was built by append -/
theorem OwnL.row (h : OwnL t 1 (RPathN B) w base 0 v ps) {j : Nat} {x : List Stage} (hx : ps[j]? = some x) : ∃ g cap A c, v = .slice (some ⟨g, 0, none⟩) ps.length cap ∧ base ≤ g ∧ g < w.heap.size ∧ w.cell? ⟨g, j, none⟩ = some (.slice A x.length c) ∧ w.frozen? ⟨g, j, none⟩ = false ∧
    RPath w (fun b => b < w.heap.size ∧ b ≠ g) [.slice A x.length c] x ∧ (∀ b o s, A = some ⟨b, o, s⟩ → B ≤ b ∧ Soft w b) := by
  have hj := getElem?_lt hx
  obtain ⟨ess, h1, h2, h3⟩ := h
  have hall : ∀ es ∈ ess, es.length = 1 := by
    intro es hes
    obtain ⟨j, hj, e⟩ := List.getElem_of_mem hes
    have hl : j < ps.length := by omega
    obtain ⟨es', e1, e2, _⟩ := h3 j ps[j] (List.getElem?_eq_getElem hl)
    rw [List.getElem?_eq_getElem hj, e] at e1
    injection e1 with e1; subst e1; exact e2
  rcases h2.2 with ⟨rfl, hn⟩ | ⟨g, cap, cur, rfl, hb, hh, hnc, hcm, hcs, htk⟩
  · omega
  · obtain ⟨es, e1, e2, e3, e4⟩ := h3 j x hx
    have hlt := (Array.getElem?_eq_some_iff.1 hh).1
    obtain ⟨A, c, rfl, q⟩ := e3
    have hf := flatten_at hall e1 (i := 0) (by omega)
    rw [← htk, List.getElem?_take_of_lt (by omega)] at hf
    refine ⟨g, cap, A, c, rfl, hb, hlt, ?_, ?_, ?_, fun b o s hA => by have := e4 b o s _ _ (by rw [hA]); exact ⟨this.1, this.2.2⟩⟩
    · simp only [World.cell?, hh, Option.isSome_none]
      simpa using hf
    · simp [World.frozen?, hh]
    · refine RPath.ok.mono ⟨A, c, rfl, q⟩ (fun b hb => ⟨hb.2.1, fun e => hb.2.2 ?_⟩) (fun _ _ => rfl)
      subst e; rfl
/-- one cell of one of its rows is written -/
theorem OwnL.write (h : OwnL t 1 (RPathN B) w base 0 v ps) {p : Addr} {u : Value} (hp : v.ownBlock ≠ some p.block) (hf : Fit w (fun b => b < w.heap.size ∧ v.ownBlock ≠ some b) p u) : ∃ ps', ps'.length = ps.length ∧ OwnL t 1 (RPathN B) (w.setCell p u) base 0 v ps' := by
  obtain ⟨ess, h1, h2, h3⟩ := h
  have hsz : (w.setCell p u).heap.size = w.heap.size := by simp [World.setCell]
  obtain ⟨ps', hl', h5⟩ := list_choose (P := fun j x => ∃ es, ess[j]? = some es ∧ es.length = 1 ∧ RPathN B (w.setCell p u) (fun b => 0 ≤ b ∧ b < (w.setCell p u).heap.size ∧ v.ownBlock ≠ some b) es x) ps.length (fun j hj => by
    obtain ⟨es, e1, e2, e3, e4⟩ := h3 j ps[j] (List.getElem?_eq_getElem hj)
    have e3' := e3
    obtain ⟨A, c, rfl, q⟩ := e3
    have e5 := RPath.ok.mono e3' (S' := fun b => b < w.heap.size ∧ v.ownBlock ≠ some b) (fun b hb => hb.2) (fun _ _ => rfl)
    obtain ⟨l', hl', h6⟩ := RPath.write hf e5
    exact ⟨l', _, e1, rfl, RPath.ok.mono h6 (fun b hb => ⟨Nat.zero_le _, by rw [hsz]; exact hb.1, hb.2⟩) (fun _ _ => rfl), fun b o s n c hc => by
      obtain ⟨a1, a2, a3⟩ := e4 b o s n c hc
      exact ⟨a1, ⟨Nat.zero_le _, by rw [hsz]; exact a2.2.1, a2.2.2⟩, a3.set_ p u⟩⟩)
  refine ⟨ps', hl', ess, by omega, ?_, h5⟩
  rw [hl']
  refine ⟨h2.1, ?_⟩
  rcases h2.2 with hn | ⟨g, cap, cur, e, hb, hh, rest⟩
  · exact .inl hn
  · have hg : g ≠ p.block := fun e' => hp (by rw [e, ← e']; rfl)
    exact .inr ⟨g, cap, cur, e, hb, (Below.heap_setCell w p u g hg).trans hh, rest⟩
end

theorem OwnL.setI {t : Nat} {w : World} {base lo : Nat} {g n c : Nat} {l : List Int} (h : OwnL t 1 RInt w base lo (.slice (some ⟨g, 0, none⟩) n c) l) (i : Nat) (x : Int) : OwnL t 1 RInt (w.setCell ⟨g, i, none⟩ (.int .i64 x)) base lo (.slice (some ⟨g, 0, none⟩) n c) (l.set i x) := by
  obtain ⟨ess, h1, h2, h3⟩ := h
  have hess : ess = l.map fun y => [Value.int .i64 y] := by
    apply List.ext_getElem?
    intro j
    rw [List.getElem?_map]
    cases e : l[j]? with
    | none =>
      have : ess[j]? = none := List.getElem?_eq_none (by have := List.getElem?_eq_none_iff.1 e; omega)
      rw [this]; rfl
    | some y =>
      obtain ⟨es, e1, _, e3⟩ := h3 j y e
      rw [e1]; cases e3; rfl
  subst hess
  refine ⟨(l.set i x).map fun y => [Value.int .i64 y], by simp, ?_, fun j y hy => ⟨[.int .i64 y], by rw [List.getElem?_map, hy]; rfl, rfl, rfl⟩⟩
  have hfl : ∀ m : List Int, (m.map fun y => [Value.int .i64 y]).flatten = m.map (Value.int .i64) := by
    intro m
    induction m with
    | nil => rfl
    | cons a m ih => simp only [List.map_cons, List.flatten_cons, List.singleton_append]; rw [ih]
  rw [hfl] at h2 ⊢
  rcases h2.2 with ⟨e, _⟩ | ⟨g', cap, cur, e, hb, hh, hnc, hcm, hcs, htk⟩
  · cases e
  · injection e with e1 e2 e3
    injection e1 with e1; injection e1 with e1
    subst e1
    refine ⟨by simp, .inr ⟨g, cap, cur.setIfInBounds i (.int .i64 x), by rw [e2, e3, List.length_set], hb, ?_, by rw [List.length_set]; exact hnc, hcm, by simpa using hcs, ?_⟩⟩
    · have hB : Blk w g t cur := hh
      exact hB.set_ i _
    · rw [Array.toList_setIfInBounds, List.map_set, ← htk, List.length_set]
      rw [List.take_set]
theorem OwnL.frz {α : Type} {t size : Nat} {E : Rd α} {w : World} {base lo : Nat} {g o n c : Nat} {l : List α} (h : OwnL t size E w base lo (.slice (some ⟨g, o, none⟩) n c) l) (i : Nat) : w.frozen? ⟨g, i, none⟩ = false := by
  obtain ⟨ess, h1, h2, h3⟩ := h
  rcases h2.2 with ⟨e, _⟩ | ⟨g', cap, cur, e, hb, hh, _⟩
  · cases e
  · injection e with e1; injection e1 with e1; injection e1 with e1; subst e1
    exact Blk.frozen (t := t) (cs := cur) hh i
theorem OwnL.some_ {α : Type} {t size : Nat} {E : Rd α} {w : World} {base lo : Nat} {A : Option Addr} {n c : Nat} {l : List α} (h : OwnL t size E w base lo (.slice A n c) l) (hl : 0 < l.length) : ∃ g, A = some ⟨g, 0, none⟩ ∧ base ≤ g := by
  obtain ⟨ess, h1, h2, h3⟩ := h
  rcases h2.2 with ⟨_, hn⟩ | ⟨g', cap, cur, e, hb, _⟩
  · omega
  · injection e with e1; exact ⟨g', e1, hb⟩

def RRArc : Rd RArc := fun _ _ cs a => cs = [.int .i64 a.frm.tr, .int .i64 a.frm.st, .int .i64 a.to.tr, .int .i64 a.to.st, .int .i64 a.wt]
theorem RRArc.ok : Rd.Ok RRArc := ⟨fun h _ _ => h⟩
theorem RRArc.flat : Rd.Flat RRArc := fun _ _ _ _ _ _ h => h
theorem RRArc.one : Rd.One RRArc := fun _ _ es x h u hu => by rw [h] at hu; simp at hu; rcases hu with rfl | rfl | rfl | rfl | rfl <;> rfl
abbrev RRArcs := RSlice 5 RRArc
theorem RRArcs.ok : Rd.Ok RRArcs := RSlice.ok RRArc.ok
theorem RRArcs.atK {w wr : World} {A : Option Addr} {n c : Nat} {l : List RArc} (K : KeepsAll w wr) (h : RRArcs w (Old w) [.slice A n c] l) {k : Nat} (hk : k < l.length) :
    ∃ b o a, A = some ⟨b, o, none⟩ ∧ b < wr.heap.size ∧ l[k]? = some a ∧ wr.cell? ⟨b, o + k * 5, none⟩ = some (.int .i64 a.frm.tr) ∧ wr.cell? ⟨b, o + k * 5 + 1, none⟩ = some (.int .i64 a.frm.st) ∧ wr.cell? ⟨b, o + k * 5 + 2, none⟩ = some (.int .i64 a.to.tr) ∧ wr.cell? ⟨b, o + k * 5 + 3, none⟩ = some (.int .i64 a.to.st) ∧ wr.cell? ⟨b, o + k * 5 + 4, none⟩ = some (.int .i64 a.wt) := by
  obtain ⟨b, o, u, es, rfl, hb, hx, h1, h2, h3⟩ := h.get hk
  cases h2
  exact ⟨b, o, u, rfl, Nat.lt_of_lt_of_le hb K.size, hx, K.cellK hb (by simpa using h3 0 _ rfl), K.cellK hb (by simpa [Nat.add_assoc] using h3 1 _ rfl), K.cellK hb (by simpa [Nat.add_assoc] using h3 2 _ rfl), K.cellK hb (by simpa [Nat.add_assoc] using h3 3 _ rfl), K.cellK hb (by simpa [Nat.add_assoc] using h3 4 _ rfl)⟩

theorem OwnL.ne_blk {α : Type} {t size : Nat} {E : Rd α} {w : World} {base lo : Nat} {v : Value} {l : List α} (h : OwnL t size E w base lo v l) {g : Nat} {t' : TypeId} {cs : Array Value} (hb : Blk w g t' cs) (hne : t ≠ t') : ¬ v.ownBlock = some g := by
  obtain ⟨ess, _, h2, _⟩ := h
  rcases h2.2 with ⟨rfl, _⟩ | ⟨g', cap, cur, rfl, _, hh, _⟩
  · simp [Value.ownBlock]
  · intro e
    have e : g' = g := by simpa [Value.ownBlock] using e
    subst e
    exact Blk.ne_ (t := t) (cs := cur) hh hb hne rfl

/-- the first train that can go, so far -/
def FindInv (ps : List (List Stage)) (arcs : List RArc) (now : List Int) (t : Nat) (x : Int) : Prop :=
  (x = -1 ∧ ∀ u, u < t → goC ps arcs now u = false) ∨ ∃ f : Nat, t = f + 1 ∧ x = (f : Int) ∧ goC ps arcs now f = true ∧ ∀ u, u < f → goC ps arcs now u = false
theorem FindInv.none_ {ps : List (List Stage)} {arcs : List RArc} {now : List Int} (h : ∀ u, u < ps.length → goC ps arcs now u = false) : goR ps arcs now = none := by
  unfold goR
  rw [List.find?_eq_none]
  intro x hx
  simp [h x (List.mem_range.1 hx)]

theorem wrapU (a : Nat) (ha : a < 4294967296) : IntKind.u64.wrap (a : Int) = (a : Int) := by rw [IntKind.wrap_u64]; omega

theorem Keeps.setRow (w : World) (g : Nat) (arr : Array Value) : Keeps (fun b => b = g) w (w.setRow g arr) := by
  refine ⟨rfl, rfl, rfl, by simp [World.setRow], fun k _ hn => ?_⟩
  unfold World.setRow
  simp only [Array.getElem?_modify]
  rw [if_neg (fun e => hn e.symm)]
theorem Blk.setRow {w : World} {g : Nat} {t : TypeId} {cs : Array Value} (h : Blk w g t cs) (arr : Array Value) : Blk (w.setRow g arr) g t arr := setRow_heap w g cs arr t (0, 0) h
theorem Blk.drew_ {w : World} {g : Nat} {t : TypeId} {cs : Array Value} (h : Blk w g t cs) : Blk w.drew g t cs := h

def rowOf (ps : List (List Stage)) (T : Tab) (t : Nat) : List Int := (List.range (lenAt ps t + 1)).map fun k : Nat => T ⟨(t : Int), (k : Int)⟩
def tabOf (ps : List (List Stage)) (T : Tab) : List (List Int) := (List.range ps.length).map fun t => rowOf ps T t
theorem rowOf_len (ps : List (List Stage)) (T : Tab) (t : Nat) : (rowOf ps T t).length = lenAt ps t + 1 := by simp [rowOf]
theorem rowOf_at {ps : List (List Stage)} (T : Tab) {t k : Nat} (hk : k ≤ lenAt ps t) : (rowOf ps T t)[k]? = some (T ⟨(t : Int), (k : Int)⟩) := by
  unfold rowOf
  rw [List.getElem?_map, List.getElem?_range (by omega)]; rfl
theorem tabOf_len (ps : List (List Stage)) (T : Tab) : (tabOf ps T).length = ps.length := by simp [tabOf]
theorem tabOf_at {ps : List (List Stage)} (T : Tab) {t : Nat} (ht : t < ps.length) : (tabOf ps T)[t]? = some (rowOf ps T t) := by
  unfold tabOf
  rw [List.getElem?_map, List.getElem?_range ht]; rfl
theorem rowOf_upd_other {ps : List (List Stage)} {T : Tab} {t u k : Nat} {x : Int} (h : u ≠ t) : rowOf ps (upd T ⟨(t : Int), (k : Int)⟩ x) u = rowOf ps T u := by
  unfold rowOf
  apply List.map_congr_left
  intro j _
  unfold upd
  rw [if_neg]
  intro e; injection e with e1 e2; omega
theorem rowOf_upd {ps : List (List Stage)} {T : Tab} {t k : Nat} {x : Int} : rowOf ps (upd T ⟨(t : Int), (k : Int)⟩ x) t = (rowOf ps T t).set k x := by
  apply List.ext_getElem?
  intro j
  rw [List.getElem?_set]
  by_cases hj : j < lenAt ps t + 1
  · rw [rowOf_at _ (by omega)]
    by_cases e : k = j
    · subst e
      rw [if_pos rfl, if_pos (by rw [rowOf_len]; exact hj)]
      unfold upd; rw [if_pos rfl]
    · rw [if_neg e, rowOf_at _ (by omega)]
      unfold upd
      rw [if_neg]
      intro e'; injection e' with e1 e2; omega
  · have h1 : (rowOf ps (upd T ⟨(t : Int), (k : Int)⟩ x) t)[j]? = none := List.getElem?_eq_none (by rw [rowOf_len]; omega)
    have h2 : (rowOf ps T t)[j]? = none := List.getElem?_eq_none (by rw [rowOf_len]; omega)
    rw [h1, h2]
    by_cases e : k = j
    · rw [if_pos e, if_neg (by rw [rowOf_len]; omega)]
    · rw [if_neg e]
theorem rowOf_const (ps : List (List Stage)) (x : Int) (t : Nat) : rowOf ps (fun _ => x) t = List.replicate (lenAt ps t + 1) x := by
  unfold rowOf
  rw [List.map_const']; simp

def slT (ps : List (List Stage)) (gs : Nat → Nat) (t : Nat) : Value := .slice (some ⟨gs t, 0, none⟩) (lenAt ps t + 1) (lenAt ps t + 1)
/-- the first m rows of a table: the outer row is block N -/
structure Tb (ps : List (List Stage)) (w wr : World) (N m : Nat) (gs : Nat → Nat) (T : Tab) : Prop where
  n : ∃ cur, Blk wr N 22 cur ∧ ∀ t, t < m → cur[t]? = some (slT ps gs t)
  r : ∀ t, t < m → Blk wr (gs t) 3 (cellsI (rowOf ps T t))
  inj : ∀ t u, t < m → u < m → gs t = gs u → t = u
  lo : ∀ t, t < m → w.heap.size ≤ gs t
  nlo : w.heap.size ≤ N
  k : KeepsAll w wr
section
variable {ps : List (List Stage)} {w wr w' : World} {N m : Nat} {gs : Nat → Nat} {T : Tab}
theorem Tb.keep (h : Tb ps w wr N m gs T) (k : KeepsAll wr w') : Tb ps w w' N m gs T := by
  obtain ⟨cur, h1, h2⟩ := h.n
  exact ⟨⟨cur, h1.kept k (by simp), h2⟩, fun t ht => (h.r t ht).kept k (by simp), h.inj, h.lo, h.nlo, h.k.tr k⟩
theorem Tb.ne (h : Tb ps w wr N m gs T) {t : Nat} (ht : t < m) : N ≠ gs t := by
  obtain ⟨cur, h1, h2⟩ := h.n
  exact Blk.ne_ h1 (h.r t ht) (by decide)
theorem Tb.outer (h : Tb ps w wr N m gs T) {t : Nat} (ht : t < m) : wr.cell? ⟨N, t, none⟩ = some (slT ps gs t) := by
  obtain ⟨cur, h1, h2⟩ := h.n
  rw [h1.cell, h2 t ht]
theorem Tb.inner (h : Tb ps w wr N m gs T) {t k : Nat} (ht : t < m) (hk : k ≤ lenAt ps t) : wr.cell? ⟨gs t, k, none⟩ = some (.int .i64 (T ⟨(t : Int), (k : Int)⟩)) := by
  rw [(h.r t ht).cell, cellsI_at (rowOf_at T hk)]
theorem Tb.nlt (h : Tb ps w wr N m gs T) : N < wr.heap.size := by obtain ⟨cur, h1, _⟩ := h.n; exact h1.lt
theorem Tb.set (h : Tb ps w wr N m gs T) {t k : Nat} (ht : t < m) (x : Int) : Tb ps w (wr.setCell ⟨gs t, k, none⟩ (.int .i64 x)) N m gs (upd T ⟨(t : Int), (k : Int)⟩ x) := by
  obtain ⟨cur, h1, h2⟩ := h.n
  refine ⟨⟨cur, h1.far (h.ne ht) _, h2⟩, fun u hu => ?_, h.inj, h.lo, h.nlo, h.k.setCell (fun hh => absurd hh (by have := h.lo t ht; simp; omega)) _⟩
  by_cases e : u = t
  · subst e
    rw [rowOf_upd, ← cellsI_set]
    exact (h.r u hu).set_ k _
  · rw [rowOf_upd_other e]
    exact (h.r u hu).far (fun e' => e (h.inj u t hu ht e')) _
theorem Tb.congr {T' : Tab} (h : Tb ps w wr N m gs T) (he : ∀ t, t < m → rowOf ps T t = rowOf ps T' t) : Tb ps w wr N m gs T' :=
  ⟨h.n, fun t ht => by rw [← he t ht]; exact h.r t ht, h.inj, h.lo, h.nlo, h.k⟩
theorem Tb.read (h : Tb ps w wr N ps.length gs T) {c : Nat} (hc : ps.length ≤ c) (hc2 : c ≤ 9223372036854775807) (hl : ∀ t, lenAt ps t ≤ 1000000) : RIntss wr (Old wr) [.slice (some ⟨N, 0, none⟩) ps.length c] (tabOf ps T) := by
  refine ⟨_, _, by rw [tabOf_len], by rw [tabOf_len]; exact hc, hc2, fun _ => ⟨N, 0, rfl, h.nlt, fun j x hx => ?_⟩⟩
  have hj : j < ps.length := by have := getElem?_lt hx; rwa [tabOf_len] at this
  rw [tabOf_at T hj] at hx
  injection hx with hx
  subst hx
  refine ⟨[slT ps gs j], rfl, ?_, fun i u hu => ?_⟩
  · have := RInts.ofBlk (S := Old wr) (rowOf ps T j) (h.r j hj) (h.r j hj).lt (by rw [rowOf_len]; have := hl j; omega)
    rw [rowOf_len] at this
    exact this
  · have : i = 0 := by have := getElem?_lt hu; simp at this; omega
    subst this
    simp at hu; subst hu
    simpa using h.outer hj
/-- one row more -/
def gsAdd (gs : Nat → Nat) (m g : Nat) : Nat → Nat := fun u => if u = m then g else gs u
theorem Tb.add {x : Int} (h : Tb ps w wr N m gs (fun _ => x)) (k : KeepsAll wr w') {g : Nat} (hg : wr.heap.size ≤ g) (hb : Blk w' g 3 (cellsI (List.replicate (lenAt ps m + 1) x))) {cur : Array Value} (hn : Blk w' N 22 cur) (hcur : ∀ t, t < m → cur[t]? = some (slT ps gs t)) (hm : m < cur.size) :
    Tb ps w (w'.setCell ⟨N, m, none⟩ (.slice (some ⟨g, 0, none⟩) (lenAt ps m + 1) (lenAt ps m + 1))) N (m + 1) (gsAdd gs m g) (fun _ => x) := by
  have hgs : ∀ t, t < m → gs t < wr.heap.size := fun t ht => (h.r t ht).lt
  have hw := h.k.size
  have hNg : N ≠ g := by have := h.nlt; omega
  refine ⟨⟨_, hn.set_ m _, fun t ht => ?_⟩, fun t ht => ?_, fun t u ht hu he => ?_, fun t ht => ?_, h.nlo, (h.k.tr k).setCell (fun hh => absurd hh (by have := h.nlo; simp; omega)) _⟩
  · rw [Array.getElem?_setIfInBounds]
    unfold slT gsAdd
    by_cases e : t = m
    · subst e; simp [hm]
    · rw [if_neg (fun e' => e e'.symm), hcur t (by omega)]
      unfold slT
      rw [if_neg e]
  · unfold gsAdd
    by_cases e : t = m
    · subst e; rw [if_pos rfl, rowOf_const]; exact hb.far (fun e => hNg e.symm) _
    · rw [if_neg e]
      exact ((h.r t (by omega)).kept k (by simp)).far (fun e' => h.ne (by omega) e'.symm) _
  · unfold gsAdd at he
    by_cases e1 : t = m
    · by_cases e2 : u = m
      · omega
      · rw [if_pos e1, if_neg e2] at he
        have := hgs u (by omega); omega
    · by_cases e2 : u = m
      · rw [if_neg e1, if_pos e2] at he
        have := hgs t (by omega); omega
      · rw [if_neg e1, if_neg e2] at he
        exact h.inj t u (by omega) (by omega) he
  · unfold gsAdd
    by_cases e1 : t = m
    · rw [if_pos e1]; omega
    · rw [if_neg e1]; exact h.lo t (by omega)
end

/-- bounds of seconds -/
def Bd (T : Tab) (B : Int) : Prop := ∀ x, -1 ≤ T x ∧ T x ≤ B
theorem secs_bd {step : Tab → Ref → Int} {M : Int} (hM : 0 ≤ M) (hs : ∀ (T : Tab) (B : Int) (u : Ref), M ≤ B → Bd T B → -1 ≤ step T u ∧ step T u ≤ B + M) : ∀ (L : List Ref) (T : Tab) (B : Int), M ≤ B → Bd T B → Bd (secs step T L) (B + M * (L.length : Int))
  | [], T, B, _, h => by simpa [secs] using h
  | u :: L, T, B, hB, h => by
    have e : secs step T (u :: L) = secs step (upd T u (step T u)) L := rfl
    have h1 := hs T B u hB h
    have h2 : Bd (upd T u (step T u)) (B + M) := fun x => by
      unfold upd
      split
      · exact h1
      · have := h x; omega
    have := secs_bd hM hs L _ (B + M) (by omega) h2
    rw [e]
    rw [List.length_cons, show B + M * ((L.length + 1 : Nat) : Int) = B + M + M * (L.length : Int) from by rw [Int.natCast_add, Int.mul_add]; simp; omega]
    exact this
theorem baseS_bd {ps : List (List Stage)} (hv : valid ps = true) {n : Int} (hn : 0 ≤ n ∧ n ≤ 4194304) (u : Ref) : 0 ≤ baseS ps n u ∧ baseS ps n u ≤ 4194304 := by
  unfold baseS
  cases e1 : ps[u.tr.toNat]? with
  | none => simp; exact hn
  | some p =>
    simp only [Option.getD_some]
    cases e2 : p[u.st.toNat]? with
    | none => simp; exact hn
    | some s =>
      have := (valid_clk hv e1 e2).2
      simp only [Option.elim_some]
      omega

def mnAt (ps : List (List Stage)) (t k : Nat) : Int := (((ps[t]?).getD [])[k]?).elim 0 (·.mn)
def base2 (ps : List (List Stage)) (at_ : List Int) (n : Int) (t k : Nat) : Int := if 0 < k ∧ (k : Int) - 1 = nowAt at_ t then max (baseS ps n ⟨(t : Int), (k : Int)⟩) (n + mnAt ps t (k - 1)) else baseS ps n ⟨(t : Int), (k : Int)⟩

end Go.Proofs.Ytilbbpbjhoidhaa
