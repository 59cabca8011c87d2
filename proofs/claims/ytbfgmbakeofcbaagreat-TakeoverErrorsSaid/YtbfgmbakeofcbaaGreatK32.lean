/- A list of paths in memory of which one cell is written again: it still reads as a list of paths. Conditions: as each theorem says. Owned slices: stores, and more. Conditions: as each theorem says. -/
import Derived.Test.YtbfgmbakeofcbaaGreatK18
import Derived.Test.YtbfgmbakeofcbaaGreatK31
namespace Go.Proofs.YtbfgmbakeofcbaaGreat
open Go.RowKit

theorem list_choose {α : Type} {P : Nat → α → Prop} : ∀ n : Nat, (∀ j, j < n → ∃ x, P j x) → ∃ l : List α, l.length = n ∧ ∀ (j : Nat) x, l[j]? = some x → P j x
  | 0, _ => ⟨[], rfl, fun j x h => by simp at h⟩
  | n + 1, h => by
    obtain ⟨l, hl, h1⟩ := list_choose (P := P) n (fun j hj => h j (by omega))
    obtain ⟨x, hx⟩ := h n (by omega)
    refine ⟨l ++ [x], by simp [hl], fun j y hy => ?_⟩
    rcases Nat.lt_or_ge j n with hj | hj
    · rw [List.getElem?_append_left (by omega)] at hy; exact h1 j y hy
    · rw [List.getElem?_append_right (by omega)] at hy
      have hj0 : j = n := by have := getElem?_lt hy; simp at this; omega
      subst hj0
      rw [hl, Nat.sub_self] at hy; simp at hy; subst hy; exact hx

/-- u may stand at p: an integer for an integer, a slice of integers for a slice -/
def Fit (w : World) (S : Foot) (p : Addr) (u : Value) : Prop := (∃ a b, w.cell? p = some (.int .i64 a) ∧ u = .int .i64 b) ∨ ∃ A n c, w.cell? p = some (.slice A n c) ∧ ∃ l, RInts (w.setCell p u) S [u] l
theorem Fit.int {w : World} {S : Foot} {p q : Addr} {u : Value} {x : Int} (h : Fit w S p u) (hq : w.cell? q = some (.int .i64 x)) : ∃ y, (w.setCell p u).cell? q = some (.int .i64 y) := by
  by_cases e : p = q
  · subst e
    rcases h with ⟨a, b, h1, rfl⟩ | ⟨A, n, c, h1, _⟩
    · exact ⟨b, World.cell?_setCell_same _ _ _ h1⟩
    · rw [h1] at hq; cases hq
  · exact ⟨x, (World.cell?_setCell_other _ _ _ _ e).trans hq⟩

/-- a path whose stages lie in memory from B on -/
def Soft (w : World) (b : Nat) : Prop := ∃ cur t, Blk w b t cur
theorem Soft.set_ {w : World} {b : Nat} (h : Soft w b) (p : Addr) (u : Value) : Soft (w.setCell p u) b := by
  obtain ⟨cur, t, hb⟩ := h
  by_cases e : b = p.block
  · subst e
    unfold Soft Blk World.setCell at *
    simp only [Array.getElem?_modify, hb]
    simp
  · exact ⟨cur, t, hb.far e u⟩
def RPathN (B : Nat) : Rd (List Stage) := fun w S cs l => RPath w S cs l ∧ ∀ b o s n c, cs = [.slice (some ⟨b, o, s⟩) n c] → B ≤ b ∧ S b ∧ Soft w b
theorem RPathN.ok (B : Nat) : Rd.Ok (RPathN B) := ⟨fun h hS hw => ⟨RPath.ok.mono h.1 hS hw, fun b o s n c hc => by
  obtain ⟨h1, h2, cur, t, h3⟩ := h.2 b o s n c hc
  exact ⟨h1, hS b h2, cur, t, (hw b h2).trans h3⟩⟩⟩
/-- a stage whose points lie below B -/
def RStageB (B : Nat) : Rd Stage := fun w S cs s => RStage w (fun b => S b ∧ b < B) cs s
theorem RStageB.ok (B : Nat) : Rd.Ok (RStageB B) := ⟨fun h hS hw => RStage.ok.mono h (fun b hb => ⟨hS b hb.1, hb.2⟩) (fun b hb => hw b hb.1)⟩
theorem RStageB.one (B : Nat) : Rd.One (RStageB B) := fun w _ es x h u hu => RStage.one w _ es x h u hu

section
variable {α : Type} {t size : Nat} {E : Rd α} {w w' : World} {base lo : Nat} {v : Value} {l : List α}
end
section
variable {t : Nat} {w w' : World} {base : Nat} {v : Value} {ps : List (List Stage)} {B : Nat}
/-- a row of a list of paths that was built by append -/
theorem OwnL.row (h : OwnL t 1 (RPathN B) w base 0 v ps) {j : Nat} {x : List Stage} (hx : ps[j]? = some x) : ∃ g cap A c, v = .slice (some ⟨g, 0, none⟩) ps.length cap ∧ base ≤ g ∧ g < w.heap.size ∧ w.cell? ⟨g, j, none⟩ = some (.slice A x.length c) ∧ w.frozen? ⟨g, j, none⟩ = false ∧
    RPath w (fun b => b < w.heap.size ∧ b ≠ g) [.slice A x.length c] x ∧ (∀ b o s, A = some ⟨b, o, s⟩ → B ≤ b ∧ Soft w b) := by
  have hj := getElem?_lt hx
  obtain ⟨ess, h1, h2, h3⟩ := h
  have hall : ∀ es ∈ ess, es.length = 1 := by
    intro es hes
    obtain ⟨j, hj, e⟩ := List.getElem_of_mem hes
    have hl : j < ps.length := by omega
    obtain ⟨es', e1, e2, _⟩ := h3 j ps[j] (List.getElem?_eq_getElem hl)
    rw [List.getElem?_eq_getElem hj, e] at e1
    injection e1 with e1; subst e1; exact e2
  rcases h2.2 with ⟨rfl, hn⟩ | ⟨g, cap, cur, rfl, hb, hh, hnc, hcm, hcs, htk⟩
  · omega
  · obtain ⟨es, e1, e2, e3, e4⟩ := h3 j x hx
    have hlt := (Array.getElem?_eq_some_iff.1 hh).1
    obtain ⟨A, c, rfl, q⟩ := e3
    have hf := flatten_at hall e1 (i := 0) (by omega)
    rw [← htk, List.getElem?_take_of_lt (by omega)] at hf
    refine ⟨g, cap, A, c, rfl, hb, hlt, ?_, ?_, ?_, fun b o s hA => by have := e4 b o s _ _ (by rw [hA]); exact ⟨this.1, this.2.2⟩⟩
    · simp only [World.cell?, hh, Option.isSome_none]
      simpa using hf
    · simp [World.frozen?, hh]
    · refine RPath.ok.mono ⟨A, c, rfl, q⟩ (fun b hb => ⟨hb.2.1, fun e => hb.2.2 ?_⟩) (fun _ _ => rfl)
      subst e; rfl
end

theorem OwnL.setI {t : Nat} {w : World} {base lo : Nat} {g n c : Nat} {l : List Int} (h : OwnL t 1 RInt w base lo (.slice (some ⟨g, 0, none⟩) n c) l) (i : Nat) (x : Int) : OwnL t 1 RInt (w.setCell ⟨g, i, none⟩ (.int .i64 x)) base lo (.slice (some ⟨g, 0, none⟩) n c) (l.set i x) := by
  obtain ⟨ess, h1, h2, h3⟩ := h
  have hess : ess = l.map fun y => [Value.int .i64 y] := by
    apply List.ext_getElem?
    intro j
    rw [List.getElem?_map]
    cases e : l[j]? with
    | none =>
      have : ess[j]? = none := List.getElem?_eq_none (by have := List.getElem?_eq_none_iff.1 e; omega)
      rw [this]; rfl
    | some y =>
      obtain ⟨es, e1, _, e3⟩ := h3 j y e
      rw [e1]; cases e3; rfl
  subst hess
  refine ⟨(l.set i x).map fun y => [Value.int .i64 y], by simp, ?_, fun j y hy => ⟨[.int .i64 y], by rw [List.getElem?_map, hy]; rfl, rfl, rfl⟩⟩
  have hfl : ∀ m : List Int, (m.map fun y => [Value.int .i64 y]).flatten = m.map (Value.int .i64) := by
    intro m
    induction m with
    | nil => rfl
    | cons a m ih => simp only [List.map_cons, List.flatten_cons, List.singleton_append]; rw [ih]
  rw [hfl] at h2 ⊢
  rcases h2.2 with ⟨e, _⟩ | ⟨g', cap, cur, e, hb, hh, hnc, hcm, hcs, htk⟩
  · cases e
  · injection e with e1 e2 e3
    injection e1 with e1; injection e1 with e1
    subst e1
    refine ⟨by simp, .inr ⟨g, cap, cur.setIfInBounds i (.int .i64 x), by rw [e2, e3, List.length_set], hb, ?_, by rw [List.length_set]; exact hnc, hcm, by simpa using hcs, ?_⟩⟩
    · have hB : Blk w g t cur := hh
      exact hB.set_ i _
    · rw [Array.toList_setIfInBounds, List.map_set, ← htk, List.length_set]
      rw [List.take_set]
theorem OwnL.frz {α : Type} {t size : Nat} {E : Rd α} {w : World} {base lo : Nat} {g o n c : Nat} {l : List α} (h : OwnL t size E w base lo (.slice (some ⟨g, o, none⟩) n c) l) (i : Nat) : w.frozen? ⟨g, i, none⟩ = false := by
  obtain ⟨ess, h1, h2, h3⟩ := h
  rcases h2.2 with ⟨e, _⟩ | ⟨g', cap, cur, e, hb, hh, _⟩
  · cases e
  · injection e with e1; injection e1 with e1; injection e1 with e1; subst e1
    exact Blk.frozen (t := t) (cs := cur) hh i
theorem OwnL.some_ {α : Type} {t size : Nat} {E : Rd α} {w : World} {base lo : Nat} {A : Option Addr} {n c : Nat} {l : List α} (h : OwnL t size E w base lo (.slice A n c) l) (hl : 0 < l.length) : ∃ g, A = some ⟨g, 0, none⟩ ∧ base ≤ g := by
  obtain ⟨ess, h1, h2, h3⟩ := h
  rcases h2.2 with ⟨_, hn⟩ | ⟨g', cap, cur, e, hb, _⟩
  · omega
  · injection e with e1; exact ⟨g', e1, hb⟩

end Go.Proofs.YtbfgmbakeofcbaaGreat
