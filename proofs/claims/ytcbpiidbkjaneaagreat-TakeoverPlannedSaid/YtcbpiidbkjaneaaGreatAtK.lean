/- Reading in a world that keeps all of an earlier one. Conditions: as each theorem says. -/
import Derived.Test.YtcbpiidbkjaneaaGreatCheckA
import Derived.Test.YtcbpiidbkjaneaaGreatMade
namespace Go.Proofs.YtcbpiidbkjaneaaGreat
open Go.RowKit

theorem Keeps.rdo' {α : Type} {E : Rd α} (hE : Rd.Ok E) {a b : World} (k : KeepsAll a b) {cs : List Value} {x : α} (h : E a (Old a) cs x) : E b (Old b) cs x :=
  k.rd hE h (fun b hb => ⟨hb, by simp⟩) (fun b hb => Nat.lt_of_lt_of_le hb k.size)
theorem Keeps.tr {a b c : World} (k : KeepsAll a b) (k' : KeepsAll b c) : KeepsAll a c := k.trans k' (fun _ _ h => h)
theorem Keeps.cellK {a b : World} (k : KeepsAll a b) {p : Addr} {v : Value} (hp : p.block < a.heap.size) (h : a.cell? p = some v) : b.cell? p = some v := (k.cell hp (by simp)).trans h
section
variable {w wr : World} {A : Option Addr} {n c : Nat}
theorem RInts.atK {l : List Int} (K : KeepsAll w wr) (h : RInts w (Old w) [.slice A n c] l) {k : Nat} (hk : k < l.length) :
    ∃ b o x, A = some ⟨b, o, none⟩ ∧ b < wr.heap.size ∧ l[k]? = some x ∧ wr.cell? ⟨b, o + k, none⟩ = some (.int .i64 x) := by
  obtain ⟨b, o, x, rfl, hb, hx, h1⟩ := h.at_ hk
  exact ⟨b, o, x, rfl, Nat.lt_of_lt_of_le hb K.size, hx, K.cellK hb h1⟩
theorem RSS.atK {α : Type} {size : Nat} {E : Rd α} {l : List (List α)} (K : KeepsAll w wr) (h : RSlice 1 (RSlice size E) w (Old w) [.slice A n c] l) {k : Nat} (hk : k < l.length) :
    ∃ b o x A' c', A = some ⟨b, o, none⟩ ∧ b < wr.heap.size ∧ l[k]? = some x ∧ wr.cell? ⟨b, o + k, none⟩ = some (.slice A' x.length c') ∧ RSlice size E w (Old w) [.slice A' x.length c'] x := by
  obtain ⟨b, o, x, A', c', rfl, hb, hx, h1, h2⟩ := RSS.at_ h hk
  exact ⟨b, o, x, A', c', rfl, Nat.lt_of_lt_of_le hb K.size, hx, K.cellK hb h1, h2⟩
theorem RPath.atK {l : List Stage} (K : KeepsAll w wr) (h : RPath w (Old w) [.slice A n c] l) {k : Nat} (hk : k < l.length) :
    ∃ b o s A' c', A = some ⟨b, o, none⟩ ∧ b < wr.heap.size ∧ l[k]? = some s ∧ wr.cell? ⟨b, o + k * 4, none⟩ = some (.int .i64 s.sec) ∧ wr.cell? ⟨b, o + k * 4 + 1, none⟩ = some (.slice A' s.pts.length c') ∧
      wr.cell? ⟨b, o + k * 4 + 2, none⟩ = some (.int .i64 s.mn) ∧ wr.cell? ⟨b, o + k * 4 + 3, none⟩ = some (.int .i64 s.nt) ∧ RInts w (Old w) [.slice A' s.pts.length c'] s.pts := by
  obtain ⟨b, o, s, A', c', rfl, hb, hx, h0, h1, h2, h3, h4⟩ := RPath.at_ h hk
  exact ⟨b, o, s, A', c', rfl, Nat.lt_of_lt_of_le hb K.size, hx, K.cellK hb h0, K.cellK hb h1, K.cellK hb h2, K.cellK hb h3, h4⟩
theorem RRefs.atK {l : List Ref} (K : KeepsAll w wr) (h : RRefs w (Old w) [.slice A n c] l) {k : Nat} (hk : k < l.length) :
    ∃ b o u, A = some ⟨b, o, none⟩ ∧ b < wr.heap.size ∧ l[k]? = some u ∧ wr.cell? ⟨b, o + k * 2, none⟩ = some (.int .i64 u.tr) ∧ wr.cell? ⟨b, o + k * 2 + 1, none⟩ = some (.int .i64 u.st) := by
  obtain ⟨b, o, u, rfl, hb, hx, h0, h1⟩ := RRefs.at_ h hk
  exact ⟨b, o, u, rfl, Nat.lt_of_lt_of_le hb K.size, hx, K.cellK hb h0, K.cellK hb h1⟩
theorem ROrders.atK {l : List Order} (K : KeepsAll w wr) (h : ROrders w (Old w) [.slice A n c] l) {k : Nat} (hk : k < l.length) :
    ∃ b o x A' c', A = some ⟨b, o, none⟩ ∧ b < wr.heap.size ∧ l[k]? = some x ∧ wr.cell? ⟨b, o + k * 2, none⟩ = some (.int .i64 x.res) ∧ wr.cell? ⟨b, o + k * 2 + 1, none⟩ = some (.slice A' x.uses.length c') ∧ RRefs w (Old w) [.slice A' x.uses.length c'] x.uses := by
  obtain ⟨b, o, x, A', c', rfl, hb, hx, h0, h1, h2⟩ := ROrders.at_ h hk
  exact ⟨b, o, x, A', c', rfl, Nat.lt_of_lt_of_le hb K.size, hx, K.cellK hb h0, K.cellK hb h1, h2⟩
end

end Go.Proofs.YtcbpiidbkjaneaaGreat
