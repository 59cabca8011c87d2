/- Owned slices: stores, and more. Conditions: as each theorem says. -/
import Derived.Test.YtcbpiidbkjaneaaGreatUsedP
import Derived.Test.YtcbpiidbkjaneaaGreatChg
namespace Go.Proofs.YtcbpiidbkjaneaaGreat
open Go.RowKit

theorem OwnL.setI {t : Nat} {w : World} {base lo : Nat} {g n c : Nat} {l : List Int} (h : OwnL t 1 RInt w base lo (.slice (some ⟨g, 0, none⟩) n c) l) (i : Nat) (x : Int) : OwnL t 1 RInt (w.setCell ⟨g, i, none⟩ (.int .i64 x)) base lo (.slice (some ⟨g, 0, none⟩) n c) (l.set i x) := by
  obtain ⟨ess, h1, h2, h3⟩ := h
  have hess : ess = l.map fun y => [Value.int .i64 y] := by
    apply List.ext_getElem?
    intro j
    rw [List.getElem?_map]
    cases e : l[j]? with
    | none =>
      have : ess[j]? = none := List.getElem?_eq_none (by have := List.getElem?_eq_none_iff.1 e; omega)
      rw [this]; rfl
    | some y =>
      obtain ⟨es, e1, _, e3⟩ := h3 j y e
      rw [e1]; cases e3; rfl
  subst hess
  refine ⟨(l.set i x).map fun y => [Value.int .i64 y], by simp, ?_, fun j y hy => ⟨[.int .i64 y], by rw [List.getElem?_map, hy]; rfl, rfl, rfl⟩⟩
  have hfl : ∀ m : List Int, (m.map fun y => [Value.int .i64 y]).flatten = m.map (Value.int .i64) := by
    intro m
    induction m with
    | nil => rfl
    | cons a m ih => simp only [List.map_cons, List.flatten_cons, List.singleton_append]; rw [ih]
  rw [hfl] at h2 ⊢
  rcases h2.2 with ⟨e, _⟩ | ⟨g', cap, cur, e, hb, hh, hnc, hcm, hcs, htk⟩
  · cases e
  · injection e with e1 e2 e3
    injection e1 with e1; injection e1 with e1
    subst e1
    refine ⟨by simp, .inr ⟨g, cap, cur.setIfInBounds i (.int .i64 x), by rw [e2, e3, List.length_set], hb, ?_, by rw [List.length_set]; exact hnc, hcm, by simpa using hcs, ?_⟩⟩
    · have hB : Blk w g t cur := hh
      exact hB.set_ i _
    · rw [Array.toList_setIfInBounds, List.map_set, ← htk, List.length_set]
      rw [List.take_set]
theorem OwnL.frz {α : Type} {t size : Nat} {E : Rd α} {w : World} {base lo : Nat} {g o n c : Nat} {l : List α} (h : OwnL t size E w base lo (.slice (some ⟨g, o, none⟩) n c) l) (i : Nat) : w.frozen? ⟨g, i, none⟩ = false := by
  obtain ⟨ess, h1, h2, h3⟩ := h
  rcases h2.2 with ⟨e, _⟩ | ⟨g', cap, cur, e, hb, hh, _⟩
  · cases e
  · injection e with e1; injection e1 with e1; injection e1 with e1; subst e1
    exact Blk.frozen (t := t) (cs := cur) hh i
theorem OwnL.some_ {α : Type} {t size : Nat} {E : Rd α} {w : World} {base lo : Nat} {A : Option Addr} {n c : Nat} {l : List α} (h : OwnL t size E w base lo (.slice A n c) l) (hl : 0 < l.length) : ∃ g, A = some ⟨g, 0, none⟩ ∧ base ≤ g := by
  obtain ⟨ess, h1, h2, h3⟩ := h
  rcases h2.2 with ⟨_, hn⟩ | ⟨g', cap, cur, e, hb, _⟩
  · omega
  · injection e with e1; exact ⟨g', e1, hb⟩
theorem play_len (l : List Ref) : ∀ now : List Int, (play now l).length = now.length := by
  induction l with
  | nil => intro now; rfl
  | cons a l ih => intro now; unfold play at *; rw [List.foldl_cons, ih]; simp

end Go.Proofs.YtcbpiidbkjaneaaGreat
