/- Contracts of the example and of awake of chapter 38. No condition. -/
import Derived.Test.YtcbpiidbkjaneaaGreatRdM
import Derived.Test.YtcbpiidbkjaneaaGreatOfBlk
namespace Go.Proofs.YtcbpiidbkjaneaaGreat
open Go.RowKit

def st3 (a b c : Int) : List Stage := [⟨a, [], 0, 0⟩, ⟨b, [], 0, 0⟩, ⟨c, [], 0, 0⟩]
def ex38 : List (List Stage) := [st3 1 2 3, st3 3 2 1]
theorem ex38_one : identify ex38 [0, 1] [1, 3] 100 = ([0, 0], (identify ex38 [0, 1] [1, 3] 100).2.1, 0) ∧ 0 < (identify ex38 [0, 1] [1, 3] 100).2.1 := by decide +kernel
theorem ex38_two : (identify ex38 [0, 0] [2] 100).2.2 = 13 := by decide +kernel

theorem st3_rd {w : World} {S : Foot} {b : Nat} {t : TypeId} {x y z : Int} (hb : Blk w b t #[.int .i64 x, .slice none 0 0, .int .i64 0, .int .i64 0, .int .i64 y, .slice none 0 0, .int .i64 0, .int .i64 0, .int .i64 z, .slice none 0 0, .int .i64 0, .int .i64 0]) (hS : S b) : RPath w S [.slice (some ⟨b, 0, none⟩) 3 3] (st3 x y z) :=
  RSlice.ofBlk hb hS [[.int .i64 x, .slice none 0 0, .int .i64 0, .int .i64 0], [.int .i64 y, .slice none 0 0, .int .i64 0, .int .i64 0], [.int .i64 z, .slice none 0 0, .int .i64 0, .int .i64 0]] (st3 x y z) rfl
    ⟨⟨rfl, _, rfl, RSlice.mkNil⟩, ⟨rfl, _, rfl, RSlice.mkNil⟩, ⟨rfl, _, rfl, RSlice.mkNil⟩, trivial⟩ (by simp [st3])

def stCells (x y z : Int) : Array Value := #[.int .i64 x, .slice none 0 0, .int .i64 0, .int .i64 0, .int .i64 y, .slice none 0 0, .int .i64 0, .int .i64 0, .int .i64 z, .slice none 0 0, .int .i64 0, .int .i64 0]
theorem ex38_rd (w : World) (t t' : TypeId) : ∀ W, W = ((w.alloc (.cells (stCells 1 2 3) t)).alloc (.cells (stCells 3 2 1) t)).alloc (.cells #[.slice (some ⟨w.heap.size, 0, none⟩) 3 3, .slice (some ⟨w.heap.size + 1, 0, none⟩) 3 3] t') →
    RPaths W (Fresh w W) [.slice (some ⟨w.heap.size + 2, 0, none⟩) 2 2] ex38 ∧ KeepsAll w W := by
  rintro W rfl
  refine ⟨?_, (((Keeps.refl _ _).alloc _).alloc _).alloc _⟩
  have hz : (((w.alloc (.cells (stCells 1 2 3) t)).alloc (.cells (stCells 3 2 1) t)).alloc (.cells #[.slice (some ⟨w.heap.size, 0, none⟩) 3 3, .slice (some ⟨w.heap.size + 1, 0, none⟩) 3 3] t')).heap.size = w.heap.size + 3 := by simp
  have B1 := ((Blk.new w t (stCells 1 2 3)).alloc (.cells (stCells 3 2 1) t)).alloc (.cells #[.slice (some ⟨w.heap.size, 0, none⟩) 3 3, .slice (some ⟨w.heap.size + 1, 0, none⟩) 3 3] t')
  have B2 := (Blk.new' (w.alloc (.cells (stCells 1 2 3) t)) t (stCells 3 2 1) (g := w.heap.size + 1) (by simp)).alloc (.cells #[.slice (some ⟨w.heap.size, 0, none⟩) 3 3, .slice (some ⟨w.heap.size + 1, 0, none⟩) 3 3] t')
  have B3 := Blk.new' ((w.alloc (.cells (stCells 1 2 3) t)).alloc (.cells (stCells 3 2 1) t)) t' #[.slice (some ⟨w.heap.size, 0, none⟩) 3 3, .slice (some ⟨w.heap.size + 1, 0, none⟩) 3 3] (g := w.heap.size + 2) (by simp)
  generalize (((w.alloc (.cells (stCells 1 2 3) t)).alloc (.cells (stCells 3 2 1) t)).alloc (.cells #[.slice (some ⟨w.heap.size, 0, none⟩) 3 3, .slice (some ⟨w.heap.size + 1, 0, none⟩) 3 3] t')) = W at *
  exact RSlice.ofBlk B3 ⟨by omega, by omega⟩ [[.slice (some ⟨w.heap.size, 0, none⟩) 3 3], [.slice (some ⟨w.heap.size + 1, 0, none⟩) 3 3]] ex38 rfl ⟨⟨rfl, st3_rd B1 ⟨by omega, by omega⟩⟩, ⟨rfl, st3_rd B2 ⟨by omega, by omega⟩⟩, trivial⟩ (by simp [ex38])

set_option maxRecDepth 100000 in
theorem example38_any (w : World) : Calls Tryz.prog 39 #[] w fun e w' => ∃ b, e = .returned (.slice (some ⟨b, 0, none⟩) 2 2) ∧ RPaths w' (Fresh w w') [.slice (some ⟨b, 0, none⟩) 2 2] ex38 ∧ KeepsAll w w' := by
  go_enter Tryz.func39, Tryz.ntmps39
  go_wp2
  go_ret
  exact ⟨w.heap.size + 2, rfl, ex38_rd w _ _ _ rfl⟩

theorem two_ints (w1 : World) (l m : List Int) (t : TypeId) (hl : l.length ≤ 1000) (hm : m.length ≤ 1000) : ∀ W, W = (w1.alloc (.cells (l.map (Value.int .i64)).toArray t)).alloc (.cells (m.map (Value.int .i64)).toArray t) →
    RInts W (Old W) [.slice (some ⟨w1.heap.size, 0, none⟩) l.length l.length] l ∧ RInts W (Old W) [.slice (some ⟨w1.heap.size + 1, 0, none⟩) m.length m.length] m ∧ KeepsAll w1 W := by
  rintro W rfl
  refine ⟨?_, ?_, ((Keeps.refl _ _).alloc _).alloc _⟩
  · exact RInts.ofBlk l ((Blk.new _ _ _).alloc _) (by show _ < _; simp; omega) (by omega)
  · exact RInts.ofBlk m (Blk.new' _ _ _ (by simp)) (by show _ < _; simp) (by omega)
theorem KeepsAll.rdo {α : Type} {E : Rd α} (hE : Rd.Ok E) {a b : World} (k : KeepsAll a b) {S : Foot} {cs : List Value} {x : α} (h : E a S cs x) (hS : ∀ b, S b → b < a.heap.size) : E b (Old b) cs x :=
  k.rd hE h (fun b hb => ⟨hS b hb, by simp⟩) (fun b hb => Nat.lt_of_lt_of_le (hS b hb) k.size)

set_option maxRecDepth 100000 in
set_option maxHeartbeats 1000000 in
theorem awake38_any (w : World) : Calls Tryz.prog 11 #[] w fun e w' => e = .returned (.bool true) ∧ KeepsAll w w' := by
  obtain ⟨E1, E1n⟩ := ex38_one
  have E2 := Lib.hid ex38_two
  generalize (identify ex38 [0, 1] [1, 3] 100).2.1 = N1 at E1 E1n
  have E1 := Lib.hid E1
  go_enter Tryz.func11, Tryz.ntmps11
  go_wp2_with fail
  refine (example38_any w).mono ?_
  rintro e w1 ⟨b1, rfl, r1, k1⟩
  have R1 := Lib.hid r1; clear r1
  have K1 := Lib.hid k1; clear k1
  go_wp2_with fail
  generalize hW : World.alloc (World.alloc w1 _) _ = W
  obtain ⟨a1, a2, a3⟩ := two_ints w1 [0, 1] [1, 3] 3 (by simp) (by simp) W hW.symm
  have P1 := a3.rdo RPaths.ok R1.out (fun b hb => hb.2)
  refine (Identify_any ex38 [0, 1] [1, 3] 100 (some ⟨b1, 0, none⟩) _ _ 2 _ _ W P1 a1 a2).mono ?_
  rintro e w2 ⟨v, rfl, rv, k2⟩
  rw [E1.out] at rv ⊢
  simp only [] at rv ⊢
  obtain ⟨Av, cv, hv⟩ : ∃ Av cv, v = .slice Av 2 cv := by obtain ⟨Ab, cb, he, _⟩ := rv; injection he with he _; exact ⟨Ab, cb, he⟩
  subst hv
  have K2 : Hid (KeepsAll w w2) := (K1.out.trans a3 (fun _ _ h => h)).trans k2 (fun _ _ h => h)
  have RV := Lib.hid rv
  clear rv k2 a1 a2 a3 P1 hW
  go_wp2_with fail
  refine (example38_any w2).mono ?_
  rintro e w3 ⟨b3, rfl, r3, k3⟩
  have R3 := Lib.hid r3; clear r3
  have K3 := Lib.hid k3; clear k3
  go_wp2_with fail
  generalize hW : World.alloc (World.alloc w3 _) _ = W3
  obtain ⟨a1, a2, a3⟩ := two_ints w3 [0, 0] [2] 3 (by simp) (by simp) W3 hW.symm
  have P1 := a3.rdo RPaths.ok R3.out (fun b hb => hb.2)
  refine (Identify_any ex38 [0, 0] [2] 100 (some ⟨b3, 0, none⟩) _ _ 2 _ _ W3 P1 a1 a2).mono ?_
  rintro e w4 ⟨v4, rfl, rv4, k4⟩
  rw [E2.out]
  have K4 : Hid (KeepsAll w2 w4) := (K3.out.trans a3 (fun _ _ h => h)).trans k4 (fun _ _ h => h)
  have RV4 := Lib.hid (K4.out.rdo RInts.ok RV.out (fun b hb => hb.2))
  clear rv4 k4 a1 a2 a3 P1 hW
  go_wp2_with fail
  generalize hW : World.alloc w4 _ = W5
  have K5 : KeepsAll w4 W5 := by subst hW; exact (Keeps.refl _ _).alloc _
  have RV5 := K5.rdo RInts.ok RV4.out (fun b hb => hb)
  have RL : RInts W5 (Old W5) [.slice (some ⟨w4.heap.size, 0, none⟩) 2 2] [0, 0] := by subst hW; exact RInts.ofBlk [0, 0] (Blk.new _ _ _) (by show _ < _; simp) (by simp)
  refine (SameInt_any [0, 0] [0, 0] Av _ cv _ W5 _ _ RV5 RL).mono ?_
  rintro e w6 ⟨rfl, n6, rfl⟩
  have K6 := Lib.hid (((K2.out.trans K4.out (fun _ _ h => h)).trans K5 (fun _ _ h => h)).drewN n6)
  clear K5 RV5 RL hW
  go_wp2
  go_ret
  exact ⟨rfl, K6.out⟩

end Go.Proofs.YtcbpiidbkjaneaaGreat
