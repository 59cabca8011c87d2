/- A slice that fills a block of its own reads as its list; rows that make lays. Conditions: as each theorem says. -/
import Derived.Test.YtcbpiidbkjaneaaGreatPos
import Derived.Test.YtcbpiidbkjaneaaGreatMade
import Derived.Deep.OwnRows
namespace Go.Proofs.YtcbpiidbkjaneaaGreat
open Go.RowKit

def AllRd {α : Type} (size : Nat) (E : Rd α) (w : World) (S : Foot) : List (List Value) → List α → Prop
  | [], [] => True
  | es :: r, x :: l => (es.length = size ∧ E w S es x) ∧ AllRd size E w S r l
  | _, _ => False
theorem AllRd.spec {α : Type} {size : Nat} {E : Rd α} {w : World} {S : Foot} : ∀ {ess : List (List Value)} {l : List α}, AllRd size E w S ess l → ess.length = l.length ∧ (∀ es ∈ ess, es.length = size) ∧ ∀ (j : Nat) es x, ess[j]? = some es → l[j]? = some x → E w S es x
  | [], [], _ => by simp
  | es :: r, x :: l, h => by
    obtain ⟨h1, h2, h3⟩ := AllRd.spec h.2
    refine ⟨by simp [h1], fun es' hes => ?_, fun j es' x' he hx => ?_⟩
    · rcases List.mem_cons.1 hes with rfl | hes
      · exact h.1.1
      · exact h2 es' hes
    · cases j with
      | zero => simp at he hx; subst he hx; exact h.1.2
      | succ j => exact h3 j es' x' (by simpa using he) (by simpa using hx)
  | [], _ :: _, h => h.elim
  | _ :: _, [], h => h.elim
/-- a slice that fills a block -/
theorem RSlice.ofBlk {α : Type} {size : Nat} {E : Rd α} {w : World} {S : Foot} {b : Nat} {t : TypeId} {cs : Array Value} (hb : Blk w b t cs) (hS : S b) (ess : List (List Value)) (l : List α) (hc : cs.toList = ess.flatten) (h : AllRd size E w S ess l) (hl : l.length ≤ 9223372036854775807) :
    RSlice size E w S [.slice (some ⟨b, 0, none⟩) l.length l.length] l := by
  obtain ⟨h1, h2, h3⟩ := h.spec
  refine ⟨_, _, rfl, Nat.le_refl _, hl, fun _ => ⟨b, 0, rfl, hS, fun j x hx => ?_⟩⟩
  have hj : j < ess.length := by rw [h1]; exact getElem?_lt hx
  have he : ess[j]? = some ess[j] := List.getElem?_eq_getElem hj
  have hsz := h2 ess[j] (List.getElem_mem hj)
  refine ⟨ess[j], hsz, h3 j _ x he hx, fun i u hu => ?_⟩
  have hi : i < size := by rw [← hsz]; exact getElem?_lt hu
  rw [Nat.zero_add, hb.cell, ← Array.getElem?_toList, hc, flatten_at h2 he hi]
  exact hu
theorem RInts.ofBlk {w : World} {S : Foot} {b : Nat} {t : TypeId} (l : List Int) (hb : Blk w b t (l.map (Value.int .i64)).toArray) (hS : S b) (hl : l.length ≤ 9223372036854775807) : RInts w S [.slice (some ⟨b, 0, none⟩) l.length l.length] l := by
  refine RSlice.ofBlk hb hS (l.map fun x => [.int .i64 x]) l ?_ ?_ hl
  · clear hb hl hS
    induction l with
    | nil => rfl
    | cons a l ih => simp only [List.map_cons, List.flatten_cons, List.singleton_append] at ih ⊢; rw [← ih]
  · clear hb hl hS
    induction l with
    | nil => trivial
    | cons a l ih => exact ⟨⟨rfl, rfl⟩, ih⟩


/-- blocks of integers and of bools -/
def cellsI (l : List Int) : Array Value := (l.map (Value.int .i64)).toArray
theorem cellsI_at {l : List Int} {n : Nat} {x : Int} (h : l[n]? = some x) : (cellsI l)[n]? = some (.int .i64 x) := by simp [cellsI, h]
theorem cellsI_set (l : List Int) (n : Nat) (x : Int) : (cellsI l).setIfInBounds n (.int .i64 x) = cellsI (l.set n x) := by simp [cellsI, List.map_set]
theorem cellsB'_at {l : List Bool} {n : Nat} {x : Bool} (h : l[n]? = some x) : (cellsB' l)[n]? = some (.bool x) := by simp [cellsB', h]
theorem cellsB'_set' (l : List Bool) (n : Nat) (x : Bool) : (cellsB' l).setIfInBounds n (.bool x) = cellsB' (l.set n x) := by simp [cellsB', List.map_set]
theorem madeCells_one (z : Value) (n : Nat) : madeCells #[z] n = (List.replicate n z).toArray := by
  apply Array.ext
  · simp [madeCells]
  · intro i h1 h2
    simp [madeCells, Nat.mod_one]
theorem mkInts (n : Nat) (hn : n ≤ 1000000) (W : World) : (Instr.makeSlice 23 (.int .i64 (n : Int)) (.int .i64 (n : Int))).run Tryz.prog W = .ok (.slice (some ⟨W.heap.size, 0, none⟩) n n) (W.alloc (.cells (cellsI (List.replicate n 0)) 3)) := by
  have h := run_make_row' (P := Tryz.prog) 23 3 (.int .i64 0) 8 Tryz.underlying23 (by kernel_rfl) rfl .i64 .i64 n (by omega) (by omega) W
  rw [madeCells_one] at h
  rw [h]; simp [cellsI]
theorem Blk.ints {w : World} {S : Foot} {b : Nat} {t : TypeId} {l : List Int} (hb : Blk w b t (cellsI l)) (hS : S b) (hl : l.length ≤ 9223372036854775807) : RInts w S [.slice (some ⟨b, 0, none⟩) l.length l.length] l := RInts.ofBlk l hb hS hl

end Go.Proofs.YtcbpiidbkjaneaaGreat
