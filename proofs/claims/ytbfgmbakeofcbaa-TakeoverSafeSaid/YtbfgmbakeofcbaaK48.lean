/- Contract of the reference's Search: it returns what searchP says. Conditions: as the theorem says. Contracts of the example and of awake of chapter 38. No condition. The statement TakeoverSafe: its function returns true. No condition beyond the arguments' reading. From a row's argument that is a slice of integers to its reading. No condition. -/
import Derived.Test.YtbfgmbakeofcbaaK47
import Derived.Test.YtbfgmbakeofcbaaK13
import Derived.Test.YtbfgmbakeofcbaaK15
import Derived.Test.YtbfgmbakeofcbaaK32
import Derived.Test.YtbfgmbakeofcbaaK44
import Derived.Test.YtbfgmbakeofcbaaK45
import Derived.Test.YtbfgmbakeofcbaaK27
import Derived.Test.YtbfgmbakeofcbaaK33
import Derived.Test.YtbfgmbakeofcbaaK26
import Derived.Test.YtbfgmbakeofcbaaK29
import Derived.Test.YtbfgmbakeofcbaaK01
import Derived.Test.YtbfgmbakeofcbaaRows
import Derived.ProofKit
import Derived.OpenShut
import Derived.ShutString
import Derived.ChangeOld
import Derived.Below
namespace Go.Proofs.Ytbfgmbakeofcbaa
open Go.RowKit

set_option maxRecDepth 100000 in
set_option maxHeartbeats 4000000 in
theorem RSearch_any (ps : List (List Stage)) (at_ : List Int) (budget : Int) (A A2 : Option Addr) (c c2 : Nat) (w : World) (h : RPaths w (Old w) [.slice A ps.length c] ps) (h2 : RInts w (Old w) [.slice A2 at_.length c2] at_) :
    Calls Try.prog 16 #[.slice A ps.length c, .slice A2 at_.length c2, .int .i64 budget] w fun e w' => ∃ v, e = .returned (.tuple #[v, .int .i64 (searchP ps at_ budget).2.1, .int .i64 (searchP ps at_ budget).2.2]) ∧ RInts w' (Fresh w w') [v] (searchP ps at_ budget).1 ∧ KeepsAll w w' := by
  have HCK := Lib.hid (CheckState_any ps at_ A A2 c c2 w h h2)
  have H := Lib.hid h
  have H2 := Lib.hid h2
  clear h h2
  by_cases g0 : checkState ps at_ = 0
  · rw [g0] at HCK
    obtain ⟨hv, hgd, _⟩ := checkState_zero g0
    have HV := Lib.hid hv
    have HG := Lib.hid (good_Gd.1 hgd)
    have HC := Lib.hid g0
    by_cases g1 : budget < 1
    · have g1' : decide (budget < 1) = true := by simpa using g1
      have Q : Hid (searchP ps at_ budget = ([], 0, 4)) := by show _ = _; unfold searchP; rw [if_neg (by simp [g0]), if_pos (.inl g1)]
      clear g0 g1
      go_enter Try.func16, Try.ntmps16
      go_wp2_with fail
      refine HCK.out.mono ?_
      rintro e w1 ⟨rfl, k1⟩
      have K1 := Lib.hid k1; clear k1
      go_wp2
      go_ret3
      rw [Q.out]
      exact ⟨_, rfl, RSlice.mkNil, K1.out⟩
    · have g1' : decide (budget < 1) = false := by simpa using g1
      by_cases g2 : 1048576 < budget
      · have g2' : decide (budget > 1048576) = true := by simpa using g2
        have Q : Hid (searchP ps at_ budget = ([], 0, 4)) := by show _ = _; unfold searchP; rw [if_neg (by simp [g0]), if_pos (.inr g2)]
        clear g0 g1 g2
        go_enter Try.func16, Try.ntmps16
        go_wp2_with fail
        refine HCK.out.mono ?_
        rintro e w1 ⟨rfl, k1⟩
        have K1 := Lib.hid k1; clear k1
        go_wp2
        go_ret3
        rw [Q.out]
        exact ⟨_, rfl, RSlice.mkNil, K1.out⟩
      · have g2' : decide (budget > 1048576) = false := by simpa using g2
        obtain ⟨b, rfl⟩ := Int.eq_ofNat_of_zero_le (by omega : 0 ≤ budget)
        have HQ : Hid (searchP ps at_ (b : Int) = if (exam ps b (total ps at_ + 1) at_ [] []).1 = 0 then ((exam ps b (total ps at_ + 1) at_ [] []).2.2, ((exam ps b (total ps at_ + 1) at_ [] []).2.1.length : Int), 0) else if (exam ps b (total ps at_ + 1) at_ [] []).1 = 19 then ([], ((exam ps b (total ps at_ + 1) at_ [] []).2.1.length : Int), 19) else ([], 0, 15)) := by
          show _ = _; unfold searchP; rw [if_neg (by simp [g0]), if_neg (by omega), Int.toNat_natCast]
        have HEX : Hid (∀ (w0 : World) (rb : Nat), RPaths w0 (Old w0) [.slice A ps.length c] ps → ∀ (W : World), RSr w0 W rb A c ps b 0 [] [] (.slice none 0 0) (.slice none 0 0) [] → RInts W (AtF W rb (.slice none 0 0) (.slice none 0 0)) [.slice A2 at_.length c2] at_ → _) := fun w0 rb hP W hS hat => rexam_any w0 rb A c ps b hP HV.out (by omega) (total ps at_ + 1) W at_ A2 c2 [] [] (.slice none 0 0) (.slice none 0 0) [] (by omega) HG.out hS (by simp) (by have := total_le HV.out HG.out; simp; omega) hat
        have HCODE := Lib.hid (exam_ok (ps := ps) (budget := b) (total ps at_ + 1) at_ HG.out (by omega) [] []).code
        have HLEN : Hid ((exam ps b (total ps at_ + 1) at_ [] []).2.1.length ≤ b) := (exam_ok (ps := ps) (budget := b) (total ps at_ + 1) at_ HG.out (by omega) [] []).le (by simp)
        generalize exam ps b (total ps at_ + 1) at_ [] [] = r at *
        have hb1 : b ≤ 1048576 := by omega
        clear g0 g1 g2
        go_enter Try.func16, Try.ntmps16
        go_wp2_with fail
        refine HCK.out.mono ?_
        rintro e w1 ⟨rfl, k1⟩
        have K1 := Lib.hid k1
        have P1 := Lib.hid (k1.rdo' RPaths.ok H.out)
        have A1 := Lib.hid (k1.rdo' RInts.ok H2.out)
        clear k1 HCK
        go_wp2_with fail
        generalize hW3 : World.alloc w1 _ = W3
        have HSR : Hid (RSr w1 W3 w1.heap.size A c ps b 0 [] [] (.slice none 0 0) (.slice none 0 0) []) := by
          subst hW3
          exact ⟨Blk.new _ _ _, OwnL.nil, OwnL.nil, rfl, fun j v x h => by simp at h, by simp, fun b h => by simp [Value.ownBlock] at h, Nat.le_refl _, (Keeps.refl _ _).alloc _⟩
        have HAT3 : Hid (RInts W3 (AtF W3 w1.heap.size (.slice none 0 0) (.slice none 0 0)) [.slice A2 at_.length c2] at_) := by
          subst hW3
          have kk : KeepsAll w1 (w1.alloc (.cells #[.slice A ps.length c, .int .i64 (b : Int), .int .i64 0, .slice none 0 0, .slice none 0 0] 76)) := (Keeps.refl _ _).alloc _
          exact kk.rd RInts.ok A1.out (fun bb hb => ⟨hb, by simp⟩) (fun bb hb => ⟨Nat.lt_of_lt_of_le hb kk.size, fun e => by
            have hb' : bb < w1.heap.size := hb
            rcases e with e | e | e
            · omega
            · simp [Value.ownBlock] at e
            · simp [Value.ownBlock] at e⟩)
        clear hW3
        generalize hrb : w1.heap.size = rb at *
        have HRB : Hid (w.heap.size ≤ rb) := by show _ ≤ _; rw [← hrb]; exact K1.out.size
        clear hrb
        refine (HEX.out w1 rb P1.out W3 HSR.out HAT3.out).mono ?_
        rintro e w5 ⟨rfl, hpost⟩
        obtain ⟨uC, vsC, vsnC, vplC, plC, hC, hu1, hu2, hp1, hp2, hevC⟩ := hpost.ex
        clear hpost hevC HEX HSR HAT3 hp2
        obtain ⟨e5, s5, m5⟩ := r
        simp only [] at hC hu1 hu2 hp1 HQ HCODE HLEN ⊢
        have H5 := Lib.hid hC
        have b2 := hC.b.cell 2
        simp at b2
        have hsz := hC.b.lt
        have K5 := Lib.hid (K1.out.tr hC.k)
        have hlen := HLEN.out
        clear hC
        rcases HCODE.out with hc | hc | hc
        · subst hc
          obtain rfl := hp1 rfl
          obtain rfl := hu1 (by omega)
          have Q : Hid (searchP ps at_ (b : Int) = (plC, (s5.length : Int), 0)) := by show _ = _; rw [HQ.out, if_pos rfl]
          obtain ⟨A5, c5, rfl, hc51, hc52⟩ := H5.out.po.form
          have b4 := H5.out.b.cell 4
          simp at b4
          have HRD : Hid (RInts w5 (Fresh w w5) [.slice A5 plC.length c5] plC) := H5.out.po.read RInt.ok (by omega) (S := Fresh w w5) (fun bb h1 h2 => ⟨by have := HRB.out; omega, h2⟩) (fun bb h1 h2 => ⟨by have := HRB.out; omega, h2⟩)
          clear HQ HCODE hp1 hu1 hu2
          rw [show decide ((0 : Int) = 0) = true from rfl]
          go_wp2
          go_quiet (fail)
          go_wp2
          go_ret3
          rw [Q.out]
          exact ⟨_, rfl, ((Keeps.refl (fun _ => False) w5).drewN _).rd RInts.ok HRD.out (fun bb hb => ⟨hb.2, by simp⟩) (fun _ h => h), K5.out.drewN _⟩
        · subst hc
          obtain rfl := hu2 rfl
          have Q : Hid (searchP ps at_ (b : Int) = ([], 0, 15)) := by show _ = _; rw [HQ.out, if_neg (by omega), if_neg (by omega)]
          have g6' : decide (b < b + 1) = true := by simp
          clear HQ HCODE hp1 hu1 hu2
          rw [show decide ((15 : Int) = 0) = false from rfl]
          go_wp2
          go_ret3
          rw [Q.out]
          exact ⟨_, rfl, RSlice.mkNil, K5.out⟩
        · subst hc
          obtain rfl := hu1 (by omega)
          have Q : Hid (searchP ps at_ (b : Int) = ([], (s5.length : Int), 19)) := by show _ = _; rw [HQ.out, if_neg (by omega), if_pos rfl]
          have g6' : decide (b < s5.length) = false := by simp; omega
          clear HQ HCODE hp1 hu1 hu2
          rw [show decide ((19 : Int) = 0) = false from rfl]
          go_wp2
          go_quiet (fail)
          go_wp2
          go_ret3
          rw [Q.out]
          exact ⟨_, rfl, RSlice.mkNil, K5.out.drewN _⟩
  · have g0' : (checkState ps at_ != 0) = true := by simpa using g0
    have Q : Hid (searchP ps at_ budget = ([], 0, checkState ps at_)) := by show _ = _; unfold searchP; rw [if_pos (by simpa using g0)]
    clear g0
    go_enter Try.func16, Try.ntmps16
    go_wp2_with fail
    refine HCK.out.mono ?_
    rintro e w1 ⟨rfl, k1⟩
    have K1 := Lib.hid k1; clear k1 HCK
    generalize checkState ps at_ = cs at *
    go_wp2
    go_ret3
    rw [Q.out]
    exact ⟨_, rfl, RSlice.mkNil, K1.out⟩

def st3 (a b c : Int) : List Stage := [⟨a, [], 0, 0⟩, ⟨b, [], 0, 0⟩, ⟨c, [], 0, 0⟩]
def ex38 : List (List Stage) := [st3 1 2 3, st3 3 2 1]
theorem ex38_one : identify ex38 [0, 1] [1, 3] 100 = ([0, 0], (identify ex38 [0, 1] [1, 3] 100).2.1, 0) ∧ 0 < (identify ex38 [0, 1] [1, 3] 100).2.1 := by decide +kernel
theorem ex38_two : (identify ex38 [0, 0] [2] 100).2.2 = 13 := by decide +kernel

theorem st3_rd {w : World} {S : Foot} {b : Nat} {t : TypeId} {x y z : Int} (hb : Blk w b t #[.int .i64 x, .slice none 0 0, .int .i64 0, .int .i64 0, .int .i64 y, .slice none 0 0, .int .i64 0, .int .i64 0, .int .i64 z, .slice none 0 0, .int .i64 0, .int .i64 0]) (hS : S b) : RPath w S [.slice (some ⟨b, 0, none⟩) 3 3] (st3 x y z) :=
  RSlice.ofBlk hb hS [[.int .i64 x, .slice none 0 0, .int .i64 0, .int .i64 0], [.int .i64 y, .slice none 0 0, .int .i64 0, .int .i64 0], [.int .i64 z, .slice none 0 0, .int .i64 0, .int .i64 0]] (st3 x y z) rfl
    ⟨⟨rfl, _, rfl, RSlice.mkNil⟩, ⟨rfl, _, rfl, RSlice.mkNil⟩, ⟨rfl, _, rfl, RSlice.mkNil⟩, trivial⟩ (by simp [st3])

def stCells (x y z : Int) : Array Value := #[.int .i64 x, .slice none 0 0, .int .i64 0, .int .i64 0, .int .i64 y, .slice none 0 0, .int .i64 0, .int .i64 0, .int .i64 z, .slice none 0 0, .int .i64 0, .int .i64 0]
theorem ex38_rd (w : World) (t t' : TypeId) : ∀ W, W = ((w.alloc (.cells (stCells 1 2 3) t)).alloc (.cells (stCells 3 2 1) t)).alloc (.cells #[.slice (some ⟨w.heap.size, 0, none⟩) 3 3, .slice (some ⟨w.heap.size + 1, 0, none⟩) 3 3] t') →
    RPaths W (Fresh w W) [.slice (some ⟨w.heap.size + 2, 0, none⟩) 2 2] ex38 ∧ KeepsAll w W := by
  rintro W rfl
  refine ⟨?_, (((Keeps.refl _ _).alloc _).alloc _).alloc _⟩
  have hz : (((w.alloc (.cells (stCells 1 2 3) t)).alloc (.cells (stCells 3 2 1) t)).alloc (.cells #[.slice (some ⟨w.heap.size, 0, none⟩) 3 3, .slice (some ⟨w.heap.size + 1, 0, none⟩) 3 3] t')).heap.size = w.heap.size + 3 := by simp
  have B1 := ((Blk.new w t (stCells 1 2 3)).alloc (.cells (stCells 3 2 1) t)).alloc (.cells #[.slice (some ⟨w.heap.size, 0, none⟩) 3 3, .slice (some ⟨w.heap.size + 1, 0, none⟩) 3 3] t')
  have B2 := (Blk.new' (w.alloc (.cells (stCells 1 2 3) t)) t (stCells 3 2 1) (g := w.heap.size + 1) (by simp)).alloc (.cells #[.slice (some ⟨w.heap.size, 0, none⟩) 3 3, .slice (some ⟨w.heap.size + 1, 0, none⟩) 3 3] t')
  have B3 := Blk.new' ((w.alloc (.cells (stCells 1 2 3) t)).alloc (.cells (stCells 3 2 1) t)) t' #[.slice (some ⟨w.heap.size, 0, none⟩) 3 3, .slice (some ⟨w.heap.size + 1, 0, none⟩) 3 3] (g := w.heap.size + 2) (by simp)
  generalize (((w.alloc (.cells (stCells 1 2 3) t)).alloc (.cells (stCells 3 2 1) t)).alloc (.cells #[.slice (some ⟨w.heap.size, 0, none⟩) 3 3, .slice (some ⟨w.heap.size + 1, 0, none⟩) 3 3] t')) = W at *
  exact RSlice.ofBlk B3 ⟨by omega, by omega⟩ [[.slice (some ⟨w.heap.size, 0, none⟩) 3 3], [.slice (some ⟨w.heap.size + 1, 0, none⟩) 3 3]] ex38 rfl ⟨⟨rfl, st3_rd B1 ⟨by omega, by omega⟩⟩, ⟨rfl, st3_rd B2 ⟨by omega, by omega⟩⟩, trivial⟩ (by simp [ex38])

set_option maxRecDepth 100000 in
theorem example38_any (w : World) : Calls Try.prog 34 #[] w fun e w' => ∃ b, e = .returned (.slice (some ⟨b, 0, none⟩) 2 2) ∧ RPaths w' (Fresh w w') [.slice (some ⟨b, 0, none⟩) 2 2] ex38 ∧ KeepsAll w w' := by
  go_enter Try.func34, Try.ntmps34
  go_wp2
  go_ret
  exact ⟨w.heap.size + 2, rfl, ex38_rd w _ _ _ rfl⟩

theorem two_ints (w1 : World) (l m : List Int) (t : TypeId) (hl : l.length ≤ 1000) (hm : m.length ≤ 1000) : ∀ W, W = (w1.alloc (.cells (l.map (Value.int .i64)).toArray t)).alloc (.cells (m.map (Value.int .i64)).toArray t) →
    RInts W (Old W) [.slice (some ⟨w1.heap.size, 0, none⟩) l.length l.length] l ∧ RInts W (Old W) [.slice (some ⟨w1.heap.size + 1, 0, none⟩) m.length m.length] m ∧ KeepsAll w1 W := by
  rintro W rfl
  refine ⟨?_, ?_, ((Keeps.refl _ _).alloc _).alloc _⟩
  · exact RInts.ofBlk l ((Blk.new _ _ _).alloc _) (by show _ < _; simp; omega) (by omega)
  · exact RInts.ofBlk m (Blk.new' _ _ _ (by simp)) (by show _ < _; simp) (by omega)
theorem KeepsAll.rdo {α : Type} {E : Rd α} (hE : Rd.Ok E) {a b : World} (k : KeepsAll a b) {S : Foot} {cs : List Value} {x : α} (h : E a S cs x) (hS : ∀ b, S b → b < a.heap.size) : E b (Old b) cs x :=
  k.rd hE h (fun b hb => ⟨hS b hb, by simp⟩) (fun b hb => Nat.lt_of_lt_of_le (hS b hb) k.size)

set_option maxRecDepth 100000 in
set_option maxHeartbeats 1000000 in
theorem awake38_any (w : World) : Calls Try.prog 11 #[] w fun e w' => e = .returned (.bool true) ∧ KeepsAll w w' := by
  obtain ⟨E1, E1n⟩ := ex38_one
  have E2 := Lib.hid ex38_two
  generalize (identify ex38 [0, 1] [1, 3] 100).2.1 = N1 at E1 E1n
  have E1 := Lib.hid E1
  go_enter Try.func11, Try.ntmps11
  go_wp2_with fail
  refine (example38_any w).mono ?_
  rintro e w1 ⟨b1, rfl, r1, k1⟩
  have R1 := Lib.hid r1; clear r1
  have K1 := Lib.hid k1; clear k1
  go_wp2_with fail
  generalize hW : World.alloc (World.alloc w1 _) _ = W
  obtain ⟨a1, a2, a3⟩ := two_ints w1 [0, 1] [1, 3] 3 (by simp) (by simp) W hW.symm
  have P1 := a3.rdo RPaths.ok R1.out (fun b hb => hb.2)
  refine (Identify_any ex38 [0, 1] [1, 3] 100 (some ⟨b1, 0, none⟩) _ _ 2 _ _ W P1 a1 a2).mono ?_
  rintro e w2 ⟨v, rfl, rv, k2⟩
  rw [E1.out] at rv ⊢
  simp only [] at rv ⊢
  obtain ⟨Av, cv, hv⟩ : ∃ Av cv, v = .slice Av 2 cv := by obtain ⟨Ab, cb, he, _⟩ := rv; injection he with he _; exact ⟨Ab, cb, he⟩
  subst hv
  have K2 : Hid (KeepsAll w w2) := (K1.out.trans a3 (fun _ _ h => h)).trans k2 (fun _ _ h => h)
  have RV := Lib.hid rv
  clear rv k2 a1 a2 a3 P1 hW
  go_wp2_with fail
  refine (example38_any w2).mono ?_
  rintro e w3 ⟨b3, rfl, r3, k3⟩
  have R3 := Lib.hid r3; clear r3
  have K3 := Lib.hid k3; clear k3
  go_wp2_with fail
  generalize hW : World.alloc (World.alloc w3 _) _ = W3
  obtain ⟨a1, a2, a3⟩ := two_ints w3 [0, 0] [2] 3 (by simp) (by simp) W3 hW.symm
  have P1 := a3.rdo RPaths.ok R3.out (fun b hb => hb.2)
  refine (Identify_any ex38 [0, 0] [2] 100 (some ⟨b3, 0, none⟩) _ _ 2 _ _ W3 P1 a1 a2).mono ?_
  rintro e w4 ⟨v4, rfl, rv4, k4⟩
  rw [E2.out]
  have K4 : Hid (KeepsAll w2 w4) := (K3.out.trans a3 (fun _ _ h => h)).trans k4 (fun _ _ h => h)
  have RV4 := Lib.hid (K4.out.rdo RInts.ok RV.out (fun b hb => hb.2))
  clear rv4 k4 a1 a2 a3 P1 hW
  go_wp2_with fail
  generalize hW : World.alloc w4 _ = W5
  have K5 : KeepsAll w4 W5 := by subst hW; exact (Keeps.refl _ _).alloc _
  have RV5 := K5.rdo RInts.ok RV4.out (fun b hb => hb)
  have RL : RInts W5 (Old W5) [.slice (some ⟨w4.heap.size, 0, none⟩) 2 2] [0, 0] := by subst hW; exact RInts.ofBlk [0, 0] (Blk.new _ _ _) (by show _ < _; simp) (by simp)
  refine (SameInt_any [0, 0] [0, 0] Av _ cv _ W5 _ _ RV5 RL).mono ?_
  rintro e w6 ⟨rfl, n6, rfl⟩
  have K6 := Lib.hid (((K2.out.trans K4.out (fun _ _ h => h)).trans K5 (fun _ _ h => h)).drewN n6)
  clear K5 RV5 RL hW
  go_wp2
  go_ret
  exact ⟨rfl, K6.out⟩

set_option maxRecDepth 100000 in
set_option maxHeartbeats 4000000 in
theorem TakeoverSafe_any (lp le la : List Int) (A A2 A3 : Option Addr) (c c2 c3 : Nat) (w : World) (h : RInts w (Old w) [.slice A lp.length c] lp) (h2 : RInts w (Old w) [.slice A2 le.length c2] le) (h3 : RInts w (Old w) [.slice A3 la.length c3] la) :
    Calls Try.prog 4 #[.slice A lp.length c, .slice A2 le.length c2, .slice A3 la.length c3] w fun e w' => e = .returned (.bool true) ∧ KeepsAll w w' := by
  have H := Lib.hid h; clear h
  have H2 := Lib.hid h2; clear h2
  have H3 := Lib.hid h3; clear h3
  go_enter Try.func4, Try.ntmps4
  go_wp2_with fail
  refine (Paths_any lp A c w H.out).mono ?_
  rintro e w1 ⟨v, ps, rfl, rp, hm, k1⟩
  obtain ⟨B, d, rfl⟩ := rp.form
  have K1 := Lib.hid k1
  have M := Lib.hid hm
  have P1 := Lib.hid (RPaths.ok.mono rp (S' := Old w1) (fun b hb => hb.2) (fun _ _ => rfl))
  clear rp hm k1
  go_wp2_with fail
  refine (Enter_any ps le B A2 d c2 w1 P1.out (K1.out.rdo' RInts.ok H2.out) (by have := M.out.2.1; omega) (fun p hp => by have := (M.out.2.2 p hp).2.1; omega)).mono ?_
  rintro e w2 ⟨v, en, rfl, re, hen, k2⟩
  obtain ⟨B2, d2, rfl⟩ := re.form
  have K2 := Lib.hid (K1.out.tr k2)
  have P2 := Lib.hid (k2.rdo' RPaths.ok P1.out)
  have E2 := Lib.hid re
  have HEN := Lib.hid hen
  clear re hen k2 K1 P1
  have hok : sortOk ps en = true := by
    simp only [sortOk, Bool.and_eq_true, decide_eq_true_eq]
    exact ⟨⟨M.out.valid, HEN.out.1⟩, HEN.out.2.1⟩
  have HS : Hid (sortO ps en = (ordersTo ps en 144, 0)) := by show _ = _; unfold sortO; rw [hok]; rfl
  have HCK := Lib.hid (sortO_check hok)
  clear hok
  go_wp2_with fail
  refine (RefSort_any ps en B B2 d d2 w2 P2.out E2.out).mono ?_
  rintro e w3 ⟨v, rfl, ro, k3⟩
  rw [HS.out] at ro ⊢
  simp only [] at ro ⊢
  obtain ⟨B3, d3, hv3, _, _⟩ := ro.val
  subst hv3
  have K3 := Lib.hid (K2.out.tr k3)
  have P3 := Lib.hid (k3.rdo' RPaths.ok P2.out)
  have O3 := Lib.hid ro
  have HOE : Hid (∃ en', EnOk ps en' ∧ ordersTo ps en 144 = ordersTo ps en' 144) := ⟨en, HEN.out, rfl⟩
  generalize ordersTo ps en 144 = os at *
  clear ro k3 K2 P2 E2 HS
  go_wp2_with fail
  refine (At_any ps la B A3 d c3 w3 P3.out (K3.out.rdo' RInts.ok H3.out) M.out.s8 M.out.l M.out.pl).mono ?_
  rintro e w4 ⟨v, at_, rfl, ra, hg, k4⟩
  obtain ⟨B4, d4, rfl⟩ := ra.form
  have K4 := Lib.hid (K3.out.tr k4)
  have P4 := Lib.hid (k4.rdo' RPaths.ok P3.out)
  have O4 := Lib.hid (k4.rdo' ROrders.ok O3.out)
  have A4 := Lib.hid (RInts.ok.mono ra (S' := Old w4) (fun b hb => hb.2) (fun _ _ => rfl))
  have G4 := Lib.hid hg
  clear ra hg k4 K3 P3 O3
  have hcso := fun h0 => take_code (os := os) M.out HCK.out (at_ := at_) h0 (budget := 1048576) ⟨by omega, by omega⟩
  have hsco := fun h0 => search_code M.out (at_ := at_) h0 (budget := 1048576) ⟨by omega, by omega⟩
  have HDC := Lib.hid hcso
  have HSC := Lib.hid hsco
  clear hcso hsco
  go_wp2_with fail
  refine (CheckState_any ps at_ B B4 d d4 w4 P4.out A4.out).mono ?_
  rintro e w5 ⟨rfl, k5⟩
  have K5 := Lib.hid (K4.out.tr k5)
  have P5 := Lib.hid (k5.rdo' RPaths.ok P4.out)
  have O5 := Lib.hid (k5.rdo' ROrders.ok O4.out)
  have A5 := Lib.hid (k5.rdo' RInts.ok A4.out)
  clear k5 K4 P4 O4 A4
  by_cases g1 : checkState ps at_ = 0
  · have HD := Lib.hid (HDC.out g1)
    have HS := Lib.hid (HSC.out g1)
    rw [g1]
    clear g1 HDC HSC
    go_wp2_with fail
    refine (RSearch_any ps at_ 1048576 B B4 d d4 w5 P5.out A5.out).mono ?_
    rintro e w6 ⟨v6, rfl, r6, k6⟩
    have K6 := Lib.hid (K5.out.tr k6)
    have P6 := Lib.hid (k6.rdo' RPaths.ok P5.out)
    have O6 := Lib.hid (k6.rdo' ROrders.ok O5.out)
    have A6 := Lib.hid (k6.rdo' RInts.ok A5.out)
    clear k6 r6 K5 P5 O5 A5
    have HTO := Lib.hid (TOrders_any ps os at_ 1048576 B B3 B4 d d3 d4 w6 M.out P6.out O6.out A6.out)
    rw [HD.out] at HTO
    generalize (searchP ps at_ 1048576).2.1 = n6 at *
    generalize (searchP ps at_ 1048576).2.2 = c6 at *
    clear HD
    go_wp2_with fail
    refine HTO.out.mono ?_
    rintro e w7 ⟨v7, rfl, r7, k7⟩
    have K7 := Lib.hid (K6.out.tr k7)
    generalize (takeP ps os at_ 1048576).2.1 = n7 at *
    clear r7 k7 K6 P6 O6 A6 HTO
    rcases HS.out with e | e
    · rw [e]
      clear HS e
      go_wp2_with fail
      refine (awake38_any w7).mono ?_
      rintro e w8 ⟨rfl, k8⟩
      have K8 := Lib.hid (K7.out.tr k8); clear k8
      go_wp2
      go_ret
      exact ⟨rfl, K8.out⟩
    · rw [e]
      clear HS e
      go_wp2_with fail
      refine (awake38_any w7).mono ?_
      rintro e w8 ⟨rfl, k8⟩
      have K8 := Lib.hid (K7.out.tr k8); clear k8
      go_wp2
      go_ret
      exact ⟨rfl, K8.out⟩
  · have g1' : (checkState ps at_ != 0) = true := by simpa using g1
    clear g1 HDC HSC
    generalize checkState ps at_ = cs at *
    go_wp2_with fail
    refine (awake38_any w5).mono ?_
    rintro e w6 ⟨rfl, k6⟩
    have K6 := Lib.hid (K5.out.tr k6); clear k6
    go_wp2
    go_ret
    exact ⟨rfl, K6.out⟩

open Go.ChangeShapes Go.WideShapes Go.ChangeAt Go.RowKit

theorem rowOwn : ownKnob Try.prog.godebug = none := by kernel_rfl
theorem rowLaid : laidOutB Try.prog = true := by kernel_rfl

theorem cell_lt {w : World} {p : Addr} {v : Value} (h : w.cell? p = some v) : p.block < w.heap.size := by
  rcases Nat.lt_or_ge p.block w.heap.size with h1 | h1
  · exact h1
  · have : w.heap[p.block]? = none := Array.getElem?_eq_none h1
    simp [World.cell?, this] at h

theorem ints_of_row {W : World} {a : Option Addr} {len cap : Nat} {zs : List Int}
    (h : (a = none ∧ len = 0 ∧ cap = 0 ∧ zs = []) ∨ ∃ x, a = some x ∧ len ≤ cap ∧ cap ≤ maxLen ∧ zs.length = cap ∧ (∀ i, i < zs.length → W.cell? (x.add i) = some (.int .i64 (zs.getD i 0)))) :
    ∃ l : List Int, len = l.length ∧ RInts W (Old W) [.slice a l.length cap] l := by
  rcases h with ⟨rfl, rfl, rfl, rfl⟩ | ⟨x, rfl, hl, hm, hz, hc⟩
  · exact ⟨[], rfl, RSlice.mkNil⟩
  · have hlen : (zs.take len).length = len := by simp; omega
    refine ⟨zs.take len, hlen.symm, some x, cap, rfl, by omega, by simpa [maxLen] using hm, fun hne => ?_⟩
    have hpos : 0 < len := by
      rcases Nat.eq_zero_or_pos len with h0 | h0
      · subst h0; simp at hne
      · exact h0
    have h0 := hc 0 (by omega)
    obtain ⟨b, o, spot⟩ := x
    have hspot : spot = none := by simpa [Addr.add] using World.cell?_spot h0
    subst hspot
    refine ⟨b, o, rfl, by have := cell_lt h0; show b < _; simpa [Addr.add] using this, fun j y hy => ?_⟩
    have hj := (List.getElem?_eq_some_iff.1 hy).1
    have hj2 : j < len := by omega
    refine ⟨[.int .i64 y], rfl, rfl, fun i u hu => ?_⟩
    have hi : i = 0 := by
      rcases i with _ | i
      · rfl
      · simp at hu
    subst hi
    simp at hu; subst hu
    have := hc j (by omega)
    rw [List.getElem?_take_of_lt hj2] at hy
    rw [List.getD_eq_getElem?_getD, hy] at this
    rcases j with _ | j
    · simpa [Addr.add] using this
    · simpa [Addr.add] using this

theorem trod_ints {H : Type} {enc : TypeId × Value → H} {W : World} {a : Option Addr} {len cap : Nat} {d : DataW H} {p : List MemPlace} (h : DataW.Trod enc Try.prog W 0 (fun _ => true) true 22 (.slice a len cap) d p) :
    ∃ l : List Int, len = l.length ∧ RInts W (Old W) [.slice a l.length cap] l := by
  obtain ⟨fuel, hf⟩ := h
  rcases open_ints Try.underlying22 Try.underlying3 (by kernel_rfl) hf with ⟨hcs, _⟩ | ⟨x, l, c, zs, hcs, _, hl, hm, hz, _, hcell, hwz⟩
  · simp [Value.cells] at hcs
    obtain ⟨rfl, rfl, rfl⟩ := hcs
    exact ints_of_row (zs := []) (.inl ⟨rfl, rfl, rfl, rfl⟩)
  · simp [Value.cells] at hcs
    obtain ⟨rfl, rfl, rfl⟩ := hcs
    exact ints_of_row (zs := zs) (.inr ⟨_, rfl, hl, hm, by simpa using hz, hcell⟩)

end Go.Proofs.Ytbfgmbakeofcbaa
