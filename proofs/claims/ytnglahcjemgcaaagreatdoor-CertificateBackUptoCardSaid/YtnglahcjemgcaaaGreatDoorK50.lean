/- From a row's argument that is a slice of integers to its reading. No condition. -/
import Derived.Test.YtnglahcjemgcaaaGreatDoorK01
import Derived.Test.YtnglahcjemgcaaaGreatDoorRows
import Derived.ProofKit
import Derived.OpenShut
import Derived.ShutString
import Derived.ChangeOld
import Derived.Below
namespace Go.Proofs.YtnglahcjemgcaaaGreatDoor
open Go.ChangeShapes Go.WideShapes Go.ChangeAt Go.RowKit

theorem rowOwn : ownKnob Tryz.prog.godebug = none := by kernel_rfl
theorem rowLaid : laidOutB Tryz.prog = true := by kernel_rfl

theorem cell_lt {w : World} {p : Addr} {v : Value} (h : w.cell? p = some v) : p.block < w.heap.size := by
  rcases Nat.lt_or_ge p.block w.heap.size with h1 | h1
  · exact h1
  · have : w.heap[p.block]? = none := Array.getElem?_eq_none h1
    simp [World.cell?, this] at h

theorem ints_of_row {W : World} {a : Option Addr} {len cap : Nat} {zs : List Int}
    (h : (a = none ∧ len = 0 ∧ cap = 0 ∧ zs = []) ∨ ∃ x, a = some x ∧ len ≤ cap ∧ cap ≤ maxLen ∧ zs.length = cap ∧ (∀ i, i < zs.length → W.cell? (x.add i) = some (.int .i64 (zs.getD i 0)))) :
    ∃ l : List Int, len = l.length ∧ RInts W (Old W) [.slice a l.length cap] l := by
  rcases h with ⟨rfl, rfl, rfl, rfl⟩ | ⟨x, rfl, hl, hm, hz, hc⟩
  · exact ⟨[], rfl, RSlice.mkNil⟩
  · have hlen : (zs.take len).length = len := by simp; omega
    refine ⟨zs.take len, hlen.symm, some x, cap, rfl, by omega, by simpa [maxLen] using hm, fun hne => ?_⟩
    have hpos : 0 < len := by
      rcases Nat.eq_zero_or_pos len with h0 | h0
      · subst h0; simp at hne
      · exact h0
    have h0 := hc 0 (by omega)
    obtain ⟨b, o, spot⟩ := x
    have hspot : spot = none := by simpa [Addr.add] using World.cell?_spot h0
    subst hspot
    refine ⟨b, o, rfl, by have := cell_lt h0; show b < _; simpa [Addr.add] using this, fun j y hy => ?_⟩
    have hj := (List.getElem?_eq_some_iff.1 hy).1
    have hj2 : j < len := by omega
    refine ⟨[.int .i64 y], rfl, rfl, fun i u hu => ?_⟩
    have hi : i = 0 := by
      rcases i with _ | i
      · rfl
      · simp at hu
    subst hi
    simp at hu; subst hu
    have := hc j (by omega)
    rw [List.getElem?_take_of_lt hj2] at hy
    rw [List.getD_eq_getElem?_getD, hy] at this
    rcases j with _ | j
    · simpa [Addr.add] using this
    · simpa [Addr.add] using this

theorem trod_ints {H : Type} {enc : TypeId × Value → H} {W : World} {a : Option Addr} {len cap : Nat} {d : DataW H} {p : List MemPlace} (h : DataW.Trod enc Tryz.prog W 0 (fun _ => true) true 23 (.slice a len cap) d p) :
    ∃ l : List Int, len = l.length ∧ RInts W (Old W) [.slice a l.length cap] l := by
  obtain ⟨fuel, hf⟩ := h
  rcases open_ints Tryz.underlying23 Tryz.underlying3 (by kernel_rfl) hf with ⟨hcs, _⟩ | ⟨x, l, c, zs, hcs, _, hl, hm, hz, _, hcell, hwz⟩
  · simp [Value.cells] at hcs
    obtain ⟨rfl, rfl, rfl⟩ := hcs
    exact ints_of_row (zs := []) (.inl ⟨rfl, rfl, rfl, rfl⟩)
  · simp [Value.cells] at hcs
    obtain ⟨rfl, rfl, rfl⟩ := hcs
    exact ints_of_row (zs := zs) (.inr ⟨_, rfl, hl, hm, by simpa using hz, hcell⟩)

end Go.Proofs.YtnglahcjemgcaaaGreatDoor
