/- Contract of Solve of chapter 37. Conditions: as the theorem says. Contracts of law35's example, orders and awake. Conditions: as each theorem says. Contract of awake of chapter 37. No condition. Contract of the reference's CheckProblem of chapter 37. Conditions: as the theorem says. -/
import Derived.Test.YtilbbpbjhoidhaaE30
import Derived.Test.YtilbbpbjhoidhaaE08
import Derived.Test.YtilbbpbjhoidhaaE33
import Derived.Test.YtilbbpbjhoidhaaE21
import Derived.Test.YtilbbpbjhoidhaaE12
namespace Go.Proofs.Ytilbbpbjhoidhaa
open Go.RowKit

def SolvePost (budget : Int) (p : Pb) (w : World) (e : Ending) (w' : World) : Prop :=
 ∃ a b c, e = .returned (.tuple #[.agg #[a, b, c], .int .i64 (solveP budget p).2.1, .int .i64 (solveP budget p).2.2]) ∧ RSol w' (Old w') [a, b, c] (solveP budget p).1 ∧ KeepsAll w w'
theorem SolvePost.zero {budget : Int} {p : Pb} {w w' : World} {n e : Int} (h : solveP budget p = (sol0, n, e)) (k : KeepsAll w w') : SolvePost budget p w (.returned (.tuple #[.agg #[.slice none 0 0, .slice none 0 0, .int .i64 0], .int .i64 n, .int .i64 e])) w' :=
 ⟨_, _, _, by rw [h], by rw [h]; exact ⟨_, _, rfl, RSlice.mkNil, RSlice.mkNil⟩, k⟩

set_option maxRecDepth 100000 in
set_option maxHeartbeats 1000000 in
theorem DspSolve_any (p : Pb) (v : PV) (w : World) (budget : Int) (h : RPb w (Old w) v p) :
  Calls Try.prog 13 #[.agg (v.cs p), .int .i64 budget] w (SolvePost budget p w) := by
 have HCK : Hid (∀ W, KeepsAll w W → Calls Try.prog 37 #[.agg #[.slice v.A p.ps.length v.c, .slice v.A2 p.at_.length v.c2, .slice v.A3 p.due.length v.c3, .slice v.A4 p.wgt.length v.c4, .int .i64 p.now]] W fun e w' => e = .returned (.bool (checkP p)) ∧ KeepsAll W w') := fun W hW => DspCheck_any p v W (h.kept hW)
 have HNG : Hid (checkP p = true → ∀ W, KeepsAll w W → Calls Try.prog 38 #[.agg #[.slice v.A p.ps.length v.c, .slice v.A2 p.at_.length v.c2, .slice v.A3 p.due.length v.c3, .slice v.A4 p.wgt.length v.c4, .int .i64 p.now]] W fun e w' => ∃ s d, e = .returned (.pointer (some ⟨s.gb, 0, none⟩)) ∧ NgOk W v p s d w') := fun hc W hW =>
  (newG_any p v W (h.kept hW) hc).mono fun e w' he => NewG.ok hc he
 clear h
 unfold PV.cs
 generalize hPP : SolvePost budget p w = PP
 have HPP := Lib.hid hPP
 clear hPP
 go_enter Try.func13, Try.ntmps13
 go_wp2_with fail
 refine (HCK.out _ (((Keeps.refl _ _).alloc _).alloc _)).mono ?_
 rintro e w1 ⟨rfl, k1⟩
 have BP : Hid (Blk w1 w.heap.size 25 #[.slice v.A p.ps.length v.c, .slice v.A2 p.at_.length v.c2, .slice v.A3 p.due.length v.c3, .slice v.A4 p.wgt.length v.c4, .int .i64 p.now]) := ((Blk.new _ _ _).alloc _).kept k1 (by simp)
 have B4 : Hid (Blk w1 (w.heap.size + 1) 31 #[.slice none 0 0, .slice none 0 0, .int .i64 0]) := (Blk.new' _ _ _ (by simp)).kept k1 (by simp)
 have K1 : Hid (KeepsAll w w1) := (((Keeps.refl _ _).alloc _).alloc _).tr k1
 clear k1
 have hb4 : ∃ b, b = w.heap.size + 1 := ⟨_, rfl⟩
 obtain ⟨b4, hb4⟩ := hb4
 rw [← hb4] at B4 ⊢
 have hlt4 : w.heap.size < b4 := by omega
 clear hb4
 have c40 := B4.out.cell 0
 have c41 := B4.out.cell 1
 have c42 := B4.out.cell 2
 simp at c40 c41 c42
 have e40 := B4.out.frozen 0
 have e41 := B4.out.frozen 1
 have e42 := B4.out.frozen 2
 have l4 := B4.out.lt
 cases hc : checkP p with
 | false =>
  have HS : Hid (solveP budget p = (sol0, 0, 1)) := by show _ = _; unfold solveP; rw [if_pos hc]
  clear hc HCK HNG BP
  go_wp2
  generalize hW3 : World.setCell (World.setCell (World.setCell w1 _ _) _ _) _ _ = W3
  have HB3 : Hid (Blk W3 b4 31 #[.slice none 0 0, .slice none 0 0, .int .i64 0]) := by subst hW3; exact ((B4.out.set_ 0 _).set_ 1 _).set_ 2 _
  have K3 : Hid (KeepsAll w W3) := by subst hW3; exact (((K1.out.setCell (p := ⟨b4, 0, none⟩) (fun h => absurd h (by simp; omega)) _).setCell (p := ⟨b4, 1, none⟩) (fun h => absurd h (by simp; omega)) _).setCell (p := ⟨b4, 2, none⟩) (fun h => absurd h (by simp; omega)) _)
  clear hW3 c40 c41 c42
  have c40 := HB3.out.cell 0
  have c41 := HB3.out.cell 1
  have c42 := HB3.out.cell 2
  simp at c40 c41 c42
  exact bodyPost_ret (v := .tuple #[.agg #[.slice none 0 0, .slice none 0 0, .int .i64 0], .int .i64 0, .int .i64 1]) (by simp [results, Try.results13, go_sem, c40, c41, c42]) rfl (by rw [← HPP.out]; exact SolvePost.zero HS.out K3.out)
 | true =>
  by_cases hr : budget < 1 ∨ 1048576 < budget
  ·have HS : Hid (solveP budget p = (sol0, 0, 4)) := by show _ = _; unfold solveP; rw [if_neg (by rw [hc]; simp), if_pos hr]
   have hr' : decide (budget < 1) = true ∨ decide (budget < 1) = false ∧ decide (1048576 < budget) = true := by simp; omega
   clear hr hc HCK HNG BP
   rcases hr' with hr1 | ⟨hr1, hr2⟩
   ·go_wp2
    generalize hW3 : World.setCell (World.setCell (World.setCell w1 _ _) _ _) _ _ = W3
    have HB3 : Hid (Blk W3 b4 31 #[.slice none 0 0, .slice none 0 0, .int .i64 0]) := by subst hW3; exact ((B4.out.set_ 0 _).set_ 1 _).set_ 2 _
    have K3 : Hid (KeepsAll w W3) := by subst hW3; exact (((K1.out.setCell (p := ⟨b4, 0, none⟩) (fun h => absurd h (by simp; omega)) _).setCell (p := ⟨b4, 1, none⟩) (fun h => absurd h (by simp; omega)) _).setCell (p := ⟨b4, 2, none⟩) (fun h => absurd h (by simp; omega)) _)
    clear hW3 c40 c41 c42
    have c40 := HB3.out.cell 0
    have c41 := HB3.out.cell 1
    have c42 := HB3.out.cell 2
    simp at c40 c41 c42
    exact bodyPost_ret (v := .tuple #[.agg #[.slice none 0 0, .slice none 0 0, .int .i64 0], .int .i64 0, .int .i64 4]) (by simp [results, Try.results13, go_sem, c40, c41, c42]) rfl (by rw [← HPP.out]; exact SolvePost.zero HS.out K3.out)
   ·go_wp2
    generalize hW3 : World.setCell (World.setCell (World.setCell w1 _ _) _ _) _ _ = W3
    have HB3 : Hid (Blk W3 b4 31 #[.slice none 0 0, .slice none 0 0, .int .i64 0]) := by subst hW3; exact ((B4.out.set_ 0 _).set_ 1 _).set_ 2 _
    have K3 : Hid (KeepsAll w W3) := by subst hW3; exact (((K1.out.setCell (p := ⟨b4, 0, none⟩) (fun h => absurd h (by simp; omega)) _).setCell (p := ⟨b4, 1, none⟩) (fun h => absurd h (by simp; omega)) _).setCell (p := ⟨b4, 2, none⟩) (fun h => absurd h (by simp; omega)) _)
    clear hW3 c40 c41 c42
    have c40 := HB3.out.cell 0
    have c41 := HB3.out.cell 1
    have c42 := HB3.out.cell 2
    simp at c40 c41 c42
    exact bodyPost_ret (v := .tuple #[.agg #[.slice none 0 0, .slice none 0 0, .int .i64 0], .int .i64 0, .int .i64 4]) (by simp [results, Try.results13, go_sem, c40, c41, c42]) rfl (by rw [← HPP.out]; exact SolvePost.zero HS.out K3.out)
  ·obtain ⟨nb, rfl⟩ : ∃ n : Nat, budget = (n : Int) := ⟨budget.toNat, by omega⟩
   have hr1 : decide ((nb : Int) < 1) = false := by simp; omega
   have hr2 : decide (1048576 < (nb : Int)) = false := by simp; omega
   have hnb : 1 ≤ nb ∧ nb ≤ 1048576 := by omega
   have HC := Lib.hid hc
   clear hc hr HCK c40 c41 c42 e40 e41 e42
   have p0 := BP.out.cell 0
   have p1 := BP.out.cell 1
   have p2 := BP.out.cell 2
   have p3 := BP.out.cell 3
   have p4 := BP.out.cell 4
   simp at p0 p1 p2 p3 p4
   have HN := Lib.hid (HNG.out HC.out w1 K1.out)
   clear HNG
   go_wp2_with fail
   refine HN.out.mono ?_
   rintro e w2 ⟨s, d, rfl, hng⟩
   clear HN p0 p1 p2 p3 p4 BP
   have K2 := Lib.hid hng.g.k
   have HG := Lib.hid hng
   clear hng
   go_upto_region 6 with (fail)
   generalize hW2 : World.alloc w2 _ = W2
   have HB : Hid (Blk W2 w2.heap.size 83 #[.pointer (some ⟨s.gb, 0, none⟩), .slice none 0 0, .slice none 0 0, .int .i64 (nb : Int), .int .i64 0, .slice none 0 0, .slice none 0 0, .int .i64 0, .bool false]) := by subst hW2; exact Blk.new _ _ _
   have KA : Hid (KeepsAll w2 W2) := by subst hW2; exact (Keeps.refl _ _).alloc _
   have hsz : w2.heap.size < W2.heap.size := by subst hW2; simp
   clear hW2
   have HOL : Hid (∀ b, GOwn s d b → b < w2.heap.size) := fun b hb => HG.out.g.own_lt hb
   have HBS : Hid (s.bs ≤ w2.heap.size) := HG.out.g.bsz
   have HL4 : Hid (b4 < w2.heap.size) := Nat.lt_of_lt_of_le l4 K2.out.size
   generalize w2.heap.size = zb at *
   have HG2 := Lib.hid (HG.out.keep KA.out)
   have HZN : Hid (¬ GOwn s d zb) := fun e => by have := HOL.out zb e; omega
   clear HG
   have y0 := HB.out.cell 0
   simp at y0
   have HUS := Lib.hid (guses_any s w1 W2 d v p.due p.wgt HG2.out.sp HG2.out.so HG2.out.g)
   go_wp2_with fail
   refine HUS.out.mono ?_
   rintro e w3 ⟨g, rfl, ru, k3⟩
   have RU := Lib.hid ru
   have K3 := Lib.hid k3
   have HB3 := Lib.hid (HB.out.kept k3 (by simp))
   have HG3 := Lib.hid (HG2.out.keep k3)
   clear ru k3 HUS y0
   have y1 := HB3.out.cell 1
   simp at y1
   have e1 := HB3.out.frozen 1
   have l3 := HB3.out.lt
   go_upto_region 7 with (fail)
   generalize hW4 : World.setCell w3 _ _ = W4
   have KZ4 : Hid (Keeps (fun b => b = zb) w3 W4) := by subst hW4; exact (Keeps.refl (fun b => b = zb) w3).setCell (p := ⟨zb, 1, none⟩) (fun _ => rfl) _
   have HB4 : Hid (Blk W4 zb 83 #[.pointer (some ⟨s.gb, 0, none⟩), .slice (some ⟨g, 0, none⟩) 144 144, .slice none 0 0, .int .i64 (nb : Int), .int .i64 0, .slice none 0 0, .slice none 0 0, .int .i64 0, .bool false]) := by subst hW4; exact HB3.out.set_ 1 _
   clear hW4 y1 e1 l3
   have RU4 : Hid (RUsess W4 (Fresh W2 w3) [.slice (some ⟨g, 0, none⟩) 144 144] (usesP s.ps s.at_)) := RUsess.ok.mono RU.out (fun _ hb => hb) (fun b hb => KZ4.out.block b hb.2 (fun e => by have := hb.1; omega))
   have HG4 := Lib.hid (HG3.out.own KZ4.out HZN.out HBS.out)
   have y1 := HB4.out.cell 1
   simp at y1
   have HPR : Hid (Calls Try.prog 40 #[.slice (some ⟨g, 0, none⟩) 144 144] W4 fun e w' => ∃ v, e = .returned v ∧ RPUs w' (Fresh W4 w') [v] (prLs (usesP s.ps s.at_) 144) ∧ KeepsAll W4 w') := by
    have e144 := usesP_len s.ps s.at_
    have := pairs_any (usesP s.ps s.at_) (some ⟨g, 0, none⟩) 144 W4 (by rw [e144]; exact RUsess.ok.mono RU4.out (fun b hb => Nat.lt_of_lt_of_le hb.2 KZ4.out.size) (fun _ _ => rfl)) (fun l hl => by
     obtain ⟨r, hr⟩ := List.getElem?_of_mem hl
     have hr144 : r < 144 := by have := getElem?_lt hr; omega
     rw [usesP_at _ _ hr144] at hr
     injection hr with hr
     subst hr
     have h1 : s.ps = p.ps := congrArg Pb.ps HG4.out.pb
     have h2 : s.at_ = p.at_ := congrArg Pb.at_ HG4.out.pb
     rw [List.length_map, h1, h2]
     have := open_len (at_ := p.at_) (checkP_ok HC.out).v r hr144
     omega) (by rw [e144]; exact Nat.le_refl _)
    rw [e144] at this
    exact this
   go_wp2_with fail
   refine HPR.out.mono ?_
   rintro e w5 ⟨vp, rfl, rp, k5⟩
   obtain ⟨Ap, cp, hvp, -⟩ := id rp
   injection hvp with hvp
   subst hvp
   have RP := Lib.hid rp
   have K5 := Lib.hid k5
   have HB5 := Lib.hid (HB4.out.kept k5 (by simp))
   have HG5 := Lib.hid (HG4.out.keep k5)
   clear rp k5 HPR y1
   have y2 := HB5.out.cell 2
   simp at y2
   have e2 := HB5.out.frozen 2
   have l5 := HB5.out.lt
   go_upto_region 8 with (fail)
   generalize hW6 : World.setCell w5 _ _ = W6
   have KZ6 : Hid (Keeps (fun b => b = zb) w5 W6) := by subst hW6; exact (Keeps.refl (fun b => b = zb) w5).setCell (p := ⟨zb, 2, none⟩) (fun _ => rfl) _
   have HB6 : Hid (Blk W6 zb 83 #[.pointer (some ⟨s.gb, 0, none⟩), .slice (some ⟨g, 0, none⟩) 144 144, .slice Ap (prLs (usesP s.ps s.at_) 144).length cp, .int .i64 (nb : Int), .int .i64 0, .slice none 0 0, .slice none 0 0, .int .i64 0, .bool false]) := by subst hW6; exact HB5.out.set_ 2 _
   clear hW6 y2 e2 l5
   have HG6 := Lib.hid (HG5.out.own KZ6.out HZN.out HBS.out)
   have z34 : w3.heap.size ≤ W4.heap.size := KZ4.out.size
   have z45 : W4.heap.size ≤ w5.heap.size := K5.out.size
   have z56 : w5.heap.size ≤ W6.heap.size := KZ6.out.size
   have HSR : Hid (Srch (fun b => b = b4) s w1 p nb zb (some ⟨g, 0, none⟩) Ap 144 cp W6 d ⟨0, none⟩) := HG6.out.start (w1 := W2) (w2 := w3) (fun b hb => by have := HL4.out; omega) HBS.out hsz (fun b hb => by have := HOL.out b hb; omega) HZN.out K3.out.size (by omega) HB6.out
    (RUsess.ok.mono RU4.out (fun _ hb => hb) (fun b hb => (KZ6.out.block b (by have := hb.2; omega) (fun e => by have := hb.1; omega)).trans (K5.out.block b (by have := hb.2; omega) (by simp))))
    ((RSlice.ok RPU.ok).mono RP.out (fun b hb => ⟨by have := hb.1; omega, by have := hb.2; omega⟩) (fun b hb => KZ6.out.block b hb.2 (fun e => by have := hb.1; have := K3.out.size; omega)))
   have HDC : Hid (Calls Try.prog 41 #[.pointer (some ⟨zb, 0, none⟩), .int .i64 0] W6 fun e w7 => e = .returned (.bool (searchD nb p).1) ∧ ∃ d', Srch (fun b => b = b4) s w1 p nb zb (some ⟨g, 0, none⟩) Ap 144 cp w7 d' (searchD nb p).2 ∧ (searchD nb p).2.steps ≤ nb) := by
    have hok := HG6.out.srOk HC.out hnb.2
    have hpb := HG6.out.pb
    have := decide_any s w1 v p.due p.wgt nb zb (some ⟨g, 0, none⟩) 144 cp hok (xs (s.pb p.due p.wgt)).length (fun b => b = b4) Ap [] ⟨0, none⟩ W6 d (by simp) (Nat.zero_le _) (by rw [hpb]; exact HSR.out) (by rw [show decs s.ps (xs (s.pb p.due p.wgt)) [] = [] from by unfold decs; simp]; exact HG6.out.gp)
    rw [hpb] at this
    refine this.mono ?_
    rintro e w7 ⟨⟨h1, d', h2, _, _⟩, h3⟩
    exact ⟨h1, d', h2, h3⟩
   clear HG2 HG3 HG4 HG5 HG6 HB HB3 HB4 HB5 HB6 RU RU4 RP KZ4 KZ6 K3 K5 KA HOL z34 z45 z56 hsz HSR
   go_wp2_with fail
   refine HDC.out.mono ?_
   rintro e w7 ⟨rfl, d', hs7, hle⟩
   have K17 : KeepsAll w1 w7 := hs7.g.k
   have B7 := Lib.hid (B4.out.kept K17 (by simp))
   have K7 : Hid (KeepsAll w w7) := K1.out.tr K17
   have HS7 := Lib.hid hs7
   have HLE := Lib.hid hle
   clear hs7 hle K17 HDC
   have c70 := B7.out.cell 0
   have c71 := B7.out.cell 1
   have c72 := B7.out.cell 2
   simp at c70 c71 c72
   have e70 := B7.out.frozen 0
   have e71 := B7.out.frozen 1
   have e72 := B7.out.frozen 2
   have l7 := B7.out.lt
   have HSV : Hid (solveP (nb : Int) p = (if (searchD nb p).1 = false then (sol0, 0, 15) else match (searchD nb p).2.best with
     | none => (sol0, ((searchD nb p).2.steps : Int), 19)
     | some b => (⟨ordB p b.1, entB p b.1, b.2⟩, ((searchD nb p).2.steps : Int), 0) : Soln × Int × Int)) := by
    show solveP (nb : Int) p = _
    unfold solveP
    rw [if_neg (by rw [HC.out]; simp), if_neg (by omega), Int.toNat_natCast]
    rfl
   generalize searchD nb p = R at *
   cases hr0 : R.1 with
   | false =>
    have HS : Hid (solveP (nb : Int) p = (sol0, 0, 15)) := by show _ = _; rw [HSV.out, if_pos hr0]
    clear hr0 HSV HC HS7
    go_wp2
    generalize hW9 : World.setCell (World.setCell (World.setCell w7 _ _) _ _) _ _ = W9
    have HB9 : Hid (Blk W9 b4 31 #[.slice none 0 0, .slice none 0 0, .int .i64 0]) := by subst hW9; exact ((B7.out.set_ 0 _).set_ 1 _).set_ 2 _
    have KZ9 : Hid (Keeps (fun b => b = b4) w7 W9) := by subst hW9; exact (((Keeps.refl (fun b => b = b4) w7).setCell (p := ⟨b4, 0, none⟩) (fun _ => rfl) _).setCell (p := ⟨b4, 1, none⟩) (fun _ => rfl) _).setCell (p := ⟨b4, 2, none⟩) (fun _ => rfl) _
    have K9 : Hid (KeepsAll w W9) := K7.out.trans KZ9.out (fun b hb e => by omega)
    clear hW9 c70 c71 c72 e70 e71 e72
    have c70 := HB9.out.cell 0
    have c71 := HB9.out.cell 1
    have c72 := HB9.out.cell 2
    simp at c70 c71 c72
    exact bodyPost_ret (v := .tuple #[.agg #[.slice none 0 0, .slice none 0 0, .int .i64 0], .int .i64 0, .int .i64 15]) (by simp [results, Try.results13, go_sem, c70, c71, c72]) rfl (by rw [← HPP.out]; exact SolvePost.zero HS.out K9.out)
   | true =>
    obtain ⟨vo, ve, vc, fd, hb, hbest⟩ := HS7.out.b
    have y4 := hb.cell 4
    have y5 := hb.cell 5
    have y6 := hb.cell 6
    have y7 := hb.cell 7
    have y8 := hb.cell 8
    simp [srC] at y4 y5 y6 y7 y8
    cases hbe : R.2.best with
    | none =>
     rw [hbe] at hbest
     have hfd : fd = false := hbest
     subst hfd
     have HS : Hid (solveP (nb : Int) p = (sol0, (R.2.steps : Int), 19)) := by show _ = _; rw [HSV.out, if_neg (by rw [hr0]; simp), hbe]
     clear hr0 HSV HC HS7 hb hbest hbe
     go_upto_region 11 with (fail)
     have hz4 : ¬ zb = b4 := by have := HL4.out; omega
     have x4 := ExtC.cell (C := fun b => b = b4) y4 hz4
     have x5 := ExtC.cell (C := fun b => b = b4) y5 hz4
     have x6 := ExtC.cell (C := fun b => b = b4) y6 hz4
     have x7 := ExtC.cell (C := fun b => b = b4) y7 hz4
     refine wp_region_lexB (fun w' => ∃ x : ExtC (fun b => b = b4) w7, w' = x.val) [0, 1, 2, 3, 4, 5, 6, 7] (by kernel_rfl) (by kernel_rfl) (ExtC.start _ _) ?_
     iterate 5 (first | (refine lex_q _ rfl rfl rfl ?_; go_big_quiet_step (fail); refine wpQuiet_nil ?_) | (refine lex_nil _ rfl _ rfl rfl _ rfl ?_; go_simp))
     clear x4 x5 x6 x7 y4 y5 y6 y7 y8 c70 c71 c72 e70 e71 e72 l7
     have KD : KeepsAll w7 w7.drew := (Keeps.refl _ _).drew
     have B8 := Lib.hid (B7.out.kept KD (by simp))
     refine lex_a _ rfl rfl true (by kernel_rfl) ?_
     generalize w7.drew = w8 at *
     have c80 := B8.out.cell 0
     have c81 := B8.out.cell 1
     have c82 := B8.out.cell 2
     simp at c80 c81 c82
     have e80 := B8.out.frozen 0
     have e81 := B8.out.frozen 1
     have e82 := B8.out.frozen 2
     have l8 := B8.out.lt
     go_wp2
     generalize hW9 : World.setCell (World.setCell (World.setCell w8 _ _) _ _) _ _ = W9
     have HB9 : Hid (Blk W9 b4 31 #[.slice none 0 0, .slice none 0 0, .int .i64 0]) := by subst hW9; exact ((B8.out.set_ 0 _).set_ 1 _).set_ 2 _
     have KZ9 : Hid (Keeps (fun b => b = b4) w8 W9) := by subst hW9; exact (((Keeps.refl (fun b => b = b4) w8).setCell (p := ⟨b4, 0, none⟩) (fun _ => rfl) _).setCell (p := ⟨b4, 1, none⟩) (fun _ => rfl) _).setCell (p := ⟨b4, 2, none⟩) (fun _ => rfl) _
     have KY9 : Hid (Keeps (fun b => b = b4) w7 W9) := (KD.mono (fun _ _ h => h.elim)).trans KZ9.out (fun _ _ h => h)
     have K9 : Hid (KeepsAll w W9) := K7.out.trans KY9.out (fun b hb e => by omega)
     clear hW9 c80 c81 c82 e80 e81 e82 l8
     refine ⟨fun _ => ⟨⟨_, KY9.out⟩, rfl⟩, ?_⟩
     iterate 2 (refine lex_q _ rfl rfl rfl ?_; go_big_quiet_step (fail); refine wpQuiet_nil ?_)
     simp only [wpLex]
     refine NoPanic.normal ?_
     have c90 := HB9.out.cell 0
     have c91 := HB9.out.cell 1
     have c92 := HB9.out.cell 2
     simp at c90 c91 c92
     go_wp2
     exact bodyPost_ret (v := .tuple #[.agg #[.slice none 0 0, .slice none 0 0, .int .i64 0], .int .i64 (R.2.steps : Int), .int .i64 19]) (by simp [results, Try.results13, go_sem, c90, c91, c92]) rfl (by rw [← HPP.out]; exact SolvePost.zero HS.out K9.out)
    | some b =>
     rw [hbe] at hbest
     obtain ⟨hfd, hvc, hro, hre⟩ := hbest
     subst hfd hvc
     have HS : Hid (solveP (nb : Int) p = (⟨ordB p b.1, entB p b.1, b.2⟩, (R.2.steps : Int), 0)) := by show _ = _; rw [HSV.out, if_neg (by rw [hr0]; simp), hbe]
     have HO := Lib.hid hro
     have HE := Lib.hid hre
     obtain ⟨Ao, co, hvo, -⟩ := id hro
     injection hvo with hvo
     subst hvo
     obtain ⟨Ae, ce, hve, -⟩ := id hre
     injection hve with hve
     subst hve
     clear hr0 HSV HC HS7 hb hro hre hbe
     generalize HOB : ordB p b.1 = OB at *
     generalize HEB : entB p b.1 = EB at *
     clear HOB HEB
     generalize b.2 = cb at *
     go_upto_region 12 with (fail)
     have hz4 : ¬ zb = b4 := by have := HL4.out; omega
     have x4 := ExtC.cell (C := fun b => b = b4) y4 hz4
     have x5 := ExtC.cell (C := fun b => b = b4) y5 hz4
     have x6 := ExtC.cell (C := fun b => b = b4) y6 hz4
     have x7 := ExtC.cell (C := fun b => b = b4) y7 hz4
     refine wp_region_lexB (fun w' => ∃ x : ExtC (fun b => b = b4) w7, w' = x.val) [0, 1, 2, 3, 4, 5, 6, 7, 8, 9, 10] (by kernel_rfl) (by kernel_rfl) (ExtC.start _ _) ?_
     iterate 8 (first | (refine lex_q _ rfl rfl rfl ?_; go_big_quiet_step (fail); refine wpQuiet_nil ?_) | (refine lex_nil _ rfl _ rfl rfl _ rfl ?_; go_simp))
     clear x4 x5 x6 x7 y4 y5 y6 y7 y8 c70 c71 c72 e70 e71 e72 l7
     have KD : KeepsAll w7 w7.drew := (Keeps.refl _ _).drew
     have B8 := Lib.hid (B7.out.kept KD (by simp))
     refine lex_a _ rfl rfl true (by kernel_rfl) ?_
     generalize w7.drew = w8 at *
     have c80 := B8.out.cell 0
     have c81 := B8.out.cell 1
     have c82 := B8.out.cell 2
     simp at c80 c81 c82
     have e80 := B8.out.frozen 0
     have e81 := B8.out.frozen 1
     have e82 := B8.out.frozen 2
     have l8 := B8.out.lt
     go_wp2
     generalize hW9 : World.setCell (World.setCell (World.setCell w8 _ _) _ _) _ _ = W9
     have HB9 : Hid (Blk W9 b4 31 #[.slice Ao OB.length co, .slice Ae EB.length ce, .int .i64 cb]) := by subst hW9; exact ((B8.out.set_ 0 _).set_ 1 _).set_ 2 _
     have KZ9 : Hid (Keeps (fun b => b = b4) w8 W9) := by subst hW9; exact (((Keeps.refl (fun b => b = b4) w8).setCell (p := ⟨b4, 0, none⟩) (fun _ => rfl) _).setCell (p := ⟨b4, 1, none⟩) (fun _ => rfl) _).setCell (p := ⟨b4, 2, none⟩) (fun _ => rfl) _
     have KY9 : Hid (Keeps (fun b => b = b4) w7 W9) := (KD.mono (fun _ _ h => h.elim)).trans KZ9.out (fun _ _ h => h)
     have K9 : Hid (KeepsAll w W9) := K7.out.trans KY9.out (fun b hb e => by omega)
     clear hW9 c80 c81 c82 e80 e81 e82 l8
     refine ⟨fun _ => ⟨⟨_, KY9.out⟩, rfl⟩, ?_⟩
     iterate 2 (refine lex_q _ rfl rfl rfl ?_; go_big_quiet_step (fail); refine wpQuiet_nil ?_)
     simp only [wpLex]
     refine NoPanic.normal ?_
     have c90 := HB9.out.cell 0
     have c91 := HB9.out.cell 1
     have c92 := HB9.out.cell 2
     simp at c90 c91 c92
     go_wp2
     exact bodyPost_ret (v := .tuple #[.agg #[.slice Ao OB.length co, .slice Ae EB.length ce, .int .i64 cb], .int .i64 (R.2.steps : Int), .int .i64 0]) (by simp [results, Try.results13, go_sem, c90, c91, c92]) rfl (by
      rw [← HPP.out]
      refine ⟨_, _, _, by rw [HS.out], ?_, K9.out⟩
      rw [HS.out]
      exact ⟨_, _, rfl, ROrders.ok.mono HO.out (fun b hb => Nat.lt_of_lt_of_le hb.1.1 KY9.out.size) (fun b hb => KY9.out.block b hb.1.1 (fun e => hb.2 e)), RIntss.ok.mono HE.out (fun b hb => Nat.lt_of_lt_of_le hb.1.1 KY9.out.size) (fun b hb => KY9.out.block b hb.1.1 (fun e => hb.2 e))⟩)

def st0 (a : Int) : Stage := ⟨a, [], 0, 0⟩

theorem RPb.old {w w' : World} {v : PV} {p : Pb} (h : RPb w' (Fresh w w') v p) : RPb w' (Old w') v p :=
 ⟨RPaths.ok.mono h.P (fun _ hb => hb.2) (fun _ _ => rfl), RInts.ok.mono h.A (fun _ hb => hb.2) (fun _ _ => rfl), RInts.ok.mono h.D (fun _ hb => hb.2) (fun _ _ => rfl), RInts.ok.mono h.W (fun _ hb => hb.2) (fun _ _ => rfl)⟩
theorem RSol.form {w : World} {S : Foot} {a b c : Value} {x : Soln} (h : RSol w S [a, b, c] x) : ∃ Ao co Ae ce, a = .slice Ao x.os.length co ∧ b = .slice Ae x.en.length ce ∧ c = .int .i64 x.cost ∧ ROrders w S [.slice Ao x.os.length co] x.os ∧ RIntss w S [.slice Ae x.en.length ce] x.en := by
 obtain ⟨vo, ve, h1, h2, h3⟩ := h
 injection h1 with e1 h1
 injection h1 with e2 h1
 injection h1 with e3 h1
 subst e1 e2 e3
 obtain ⟨Ao, co, rfl⟩ := RSlice.form h2
 obtain ⟨Ae, ce, rfl⟩ := RSlice.form h3
 exact ⟨Ao, co, Ae, ce, rfl, rfl, rfl, h2, h3⟩
set_option maxRecDepth 100000 in
set_option maxHeartbeats 1000000 in
theorem awake37_any (w : World) : Calls Try.prog 15 #[] w fun e w' => e = .returned (.bool true) ∧ KeepsAll w w' := by
 have E1 := Lib.hid ex37_err
 have E2 := Lib.hid ex37_os
 have E3 := Lib.hid ex37_cost
 have EV := Lib.hid ex37_ver
 have EB := Lib.hid ex37_bound
 go_enter Try.func15, Try.ntmps15
 go_wp2_with fail
 refine (example37_any w).mono ?_
 rintro e w1 ⟨v1, rfl, r1, k1⟩
 have R1 := Lib.hid r1.old
 have K1 := Lib.hid k1
 clear r1 k1
 go_wp2_with fail
 refine (DspSolve_any ex37 v1 w1 50 R1.out).mono ?_
 rintro e w2 ⟨a, b, c, rfl, rs, k2⟩
 rw [E1.out]
 obtain ⟨Ao, co, Ae, ce, rfl, rfl, rfl, ro, re⟩ := rs.form
 rw [E2.out] at ro
 have e2 : (solveP 50 ex37).1.os.length = 1 := by rw [E2.out]; rfl
 rw [e2, E3.out]
 have K2 := Lib.hid (K1.out.tr k2)
 have RO := Lib.hid ro
 have RE := Lib.hid re
 clear ro re rs k2 e2
 simp only []
 go_wp2_with fail
 generalize hW2 : World.alloc w2 _ = W2
 have hb1 : Blk W2 w2.heap.size 31 #[.slice Ao 1 co, .slice Ae (solveP 50 ex37).1.en.length ce, .int .i64 10] := by subst hW2; exact Blk.new _ _ _
 have k2 : KeepsAll w2 W2 := by subst hW2; exact (Keeps.refl _ _).alloc _
 have K2' := Lib.hid (K2.out.tr k2)
 have RO2 := Lib.hid (k2.rdo' ROrders.ok RO.out)
 have RE2 := Lib.hid (k2.rdo' RIntss.ok RE.out)
 have HB1 := Lib.hid hb1
 clear hW2 hb1 k2 K2 RO RE
 generalize w2.heap.size = z1 at *
 refine (example37_any W2).mono ?_
 rintro e w3 ⟨v3, rfl, r3, k3⟩
 have R3 := Lib.hid r3.old
 have K3 := Lib.hid (K2'.out.tr k3)
 have RO3 := Lib.hid (k3.rdo' ROrders.ok RO2.out)
 have RE3 := Lib.hid (k3.rdo' RIntss.ok RE2.out)
 have HB3 := Lib.hid (HB1.out.kept k3 (by simp))
 clear r3 k3 HB1 RO2 RE2 K2'
 go_wp2_with fail
 refine (DspBound_any ex37 v3 w3 R3.out).mono ?_
 rintro e w4 ⟨rfl, k4⟩
 rw [EB.out]
 simp only []
 have K4 := Lib.hid (K3.out.tr k4)
 have RO4 := Lib.hid (k4.rdo' ROrders.ok RO3.out)
 have RE4 := Lib.hid (k4.rdo' RIntss.ok RE3.out)
 have HB4 := Lib.hid (HB3.out.kept k4 (by simp))
 clear k4 HB3 RO3 RE3 K3 R3
 have c0 := HB4.out.cell 0
 have c1 := HB4.out.cell 1
 have c2 := HB4.out.cell 2
 simp at c0 c1 c2
 obtain ⟨bo, oo, o', A', c', rfl, hbo, ho', n0, n1, hrefs⟩ := ROrders.at_ RO4.out (k := 0) (by simp)
 injection ho' with ho'
 subst ho'
 have HRF := Lib.hid hrefs
 clear hrefs hbo
 simp only [] at n0 n1
 go_wp2_with fail
 refine wp_region_lex (fun w' => ∃ x : Ext w4, w' = x.val) [0, 1, 2, 3, 4, 5, 6, 7, 8, 9, 10, 11, 12, 13, 14, 15, 16, 17, 18, 19, 20, 21, 22, 23, 24, 25, 26, 27, 28, 29, 30, 31, 32, 33, 34, 35, 36, 38, 37, 39, 40, 41] (by kernel_rfl) (by kernel_rfl) ⟨⟨_, (Keeps.refl _ _).drew⟩, rfl⟩ ?_
 have y0 := Ext.cell c0
 have y1 := Ext.cell c1
 have y2 := Ext.cell c2
 have x0 := Ext.cell n0
 have x1 := Ext.cell n1
 iterate 25 (refine lex_q _ rfl rfl rfl ?_; go_big_quiet_step (fail); refine wpQuiet_nil ?_)
 refine lex_a _ rfl rfl true (by kernel_rfl) ?_
 go_wp2
 refine ⟨fun _ => ⟨⟨_, ((Keeps.refl _ _).alloc _).drew⟩, rfl⟩, ?_⟩
 generalize hW5 : World.drew (World.alloc w4 _) = W5
 have k5 : KeepsAll w4 W5 := by subst hW5; exact ((Keeps.refl _ _).alloc _).drew
 have rl : RRefs W5 (Old W5) [.slice (some ⟨w4.heap.size, 0, none⟩) 2 2] [⟨1, 0⟩, ⟨0, 0⟩] := by subst hW5; exact Blk.refs (l := [⟨1, 0⟩, ⟨0, 0⟩]) (Blk.new w4 46 _) (by show _ < (World.alloc w4 _).heap.size; simp) (by simp)
 have hsm := SameRef_any [⟨1, 0⟩, ⟨0, 0⟩] [⟨1, 0⟩, ⟨0, 0⟩] A' _ c' 2 W5 _ _ (k5.rdo' RRefs.ok HRF.out) rl
 rw [decide_eq_true rfl] at hsm
 have HSM := Lib.hid hsm
 clear hsm
 have K5 := Lib.hid k5
 clear hW5 k5 rl
 refine lex_a _ rfl rfl true (by kernel_rfl) ?_
 go_wp2_with fail
 refine HSM.out.mono ?_
 rintro e w6 ⟨rfl, n6, rfl⟩
 have K6 := Lib.hid (K5.out.drewN n6)
 clear HSM
 go_wp2
 refine ⟨fun _ => ⟨⟨_, K6.out⟩, rfl⟩, ?_⟩
 generalize World.drewN W5 n6 = w6 at *
 iterate 11 (refine lex_q _ rfl rfl rfl ?_; go_big_quiet_step (fail); refine wpQuiet_nil ?_)
 refine lex_a _ rfl rfl true (by kernel_rfl) ?_
 go_wp2_with fail
 refine (example37_any w6).mono ?_
 rintro e w7 ⟨v7, rfl, r7, k7⟩
 have K7 := Lib.hid (K6.out.tr k7)
 have HVF := Lib.hid (DspVerify_any ex37 (solveP 50 ex37).1 v7 (some ⟨bo, oo, none⟩) Ae co ce w7 r7.old (by rw [E2.out]; exact K7.out.rdo' ROrders.ok RO4.out) (K7.out.rdo' RIntss.ok RE4.out))
 rw [EV.out, E3.out, E2.out] at HVF
 clear r7 k7
 go_wp2
 refine ⟨fun _ => ⟨⟨_, K7.out⟩, rfl⟩, ?_⟩
 refine lex_a _ rfl rfl true (by kernel_rfl) ?_
 go_wp2_with fail
 refine HVF.out.mono ?_
 rintro e w8 ⟨rfl, k8⟩
 have K8 := Lib.hid (K7.out.tr k8)
 clear HVF k8
 go_wp2
 refine ⟨fun _ => ⟨⟨_, K8.out⟩, rfl⟩, ?_⟩
 clear y0 y1 y2 x0 x1
 iterate 2 (refine lex_q _ rfl rfl rfl ?_; go_big_quiet_step (fail); refine wpQuiet_nil ?_)
 simp only [wpLex]
 refine NoPanic.normal ?_
 go_wp2
 go_ret
 exact ⟨rfl, K4.out.tr K8.out⟩

set_option maxHeartbeats 1000000 in
theorem RDspCheck_any (p : Pb) (v : PV) (w : World) (h : RPb w (Old w) v p) :
  Calls Try.prog 21 #[.agg (v.cs p)] w fun e w' => e = .returned (.bool (checkP p)) ∧ KeepsAll w w' := by
 have HC := Lib.hid (fun W (hW : KeepsAll w W) => CheckState_any p.ps p.at_ v.A v.A2 v.c v.c2 W (h.kept hW).P (h.kept hW).A)
 have H := Lib.hid h
 clear h
 unfold PV.cs
 have KB : KeepsAll w (w.alloc (.cells #[.slice v.A p.ps.length v.c, .slice v.A2 p.at_.length v.c2, .slice v.A3 p.due.length v.c3, .slice v.A4 p.wgt.length v.c4, .int .i64 p.now] 25)) := (Keeps.refl _ _).alloc _
 have KBH := Lib.hid KB
 have BB : Hid (Blk (w.alloc (.cells #[.slice v.A p.ps.length v.c, .slice v.A2 p.at_.length v.c2, .slice v.A3 p.due.length v.c3, .slice v.A4 p.wgt.length v.c4, .int .i64 p.now] 25)) w.heap.size 25 #[.slice v.A p.ps.length v.c, .slice v.A2 p.at_.length v.c2, .slice v.A3 p.due.length v.c3, .slice v.A4 p.wgt.length v.c4, .int .i64 p.now]) := Blk.new _ _ _
 have CALL : Hid (∀ Q : Ending → World → Prop, (∀ w1, KeepsAll w w1 → Blk w1 w.heap.size 25 #[.slice v.A p.ps.length v.c, .slice v.A2 p.at_.length v.c2, .slice v.A3 p.due.length v.c3, .slice v.A4 p.wgt.length v.c4, .int .i64 p.now] → Q (.returned (.int .i64 (checkState p.ps p.at_))) w1) → Calls Try.prog 59 #[.slice v.A p.ps.length v.c, .slice v.A2 p.at_.length v.c2] (w.alloc (.cells #[.slice v.A p.ps.length v.c, .slice v.A2 p.at_.length v.c2, .slice v.A3 p.due.length v.c3, .slice v.A4 p.wgt.length v.c4, .int .i64 p.now] 25)) Q) := Lib.hid fun Q hQ => (HC.out _ KBH.out).mono (by rintro e w1 ⟨rfl, k1⟩; exact hQ w1 (KBH.out.tr k1) (BB.out.kept k1 (by simp)))
 clear KB
 by_cases g0 : checkState p.ps p.at_ = 0
 ·by_cases g1 : p.due.length = p.ps.length
  ·by_cases g2 : p.wgt.length = p.ps.length
   ·have G := Lib.hid (And.intro g0 (And.intro g1 g2))
    have g1' : ((p.due.length : Int) != (p.ps.length : Int)) = false := by rw [g1]; simp
    have g2' : ((p.wgt.length : Int) != (p.ps.length : Int)) = false := by rw [g2]; simp
    clear g1 g2
    cases q5 : isClk p.now with
    | false =>
     have QQ : Hid (checkP p = false) := by
      show _ = _
      cases e : checkP p with
      | false => rfl
      | true =>
       have h6 := (checkP_iff.1 e).2.2.2.2.2
       unfold isClk at q5
       rw [decide_eq_true h6.1, decide_eq_true h6.2] at q5
       cases q5
     go_enter Try.func21, Try.ntmps21
     go_wp2_with fail
     refine CALL.out _ fun w1 k1 hb => ?_
     rw [g0]
     clear g0
     have c0 := hb.cell 0
     have c2 := hb.cell 2
     have c3 := hb.cell 3
     have c4 := hb.cell 4
     simp at c0 c2 c3 c4
     have K1 := Lib.hid k1
     clear k1 hb
     go_wp2_with fail
     refine (seconds_any p.now w1).mono ?_
     rintro e w2 ⟨rfl, rfl⟩
     rw [q5]
     go_wp2
     go_ret
     exact ⟨by rw [QQ.out]; rfl, K1.out⟩
    | true =>
    have HQ5 : Hid (0 ≤ p.now ∧ p.now ≤ 4194304) := by
     show _ ∧ _
     unfold isClk at q5
     rw [Bool.and_eq_true, decide_eq_true_eq, decide_eq_true_eq] at q5
     exact q5
    go_enter Try.func21, Try.ntmps21
    go_wp2_with fail
    refine CALL.out _ fun w1 k1 hb => ?_
    rw [g0]
    clear g0
    have K1 := Lib.hid k1
    have HB := Lib.hid hb
    have H1 := Lib.hid (H.out.kept k1)
    have c0 := hb.cell 0
    have c1 := hb.cell 1
    have c2 := hb.cell 2
    have c3 := hb.cell 3
    have c4 := hb.cell 4
    have hz := hb.lt
    simp at c0 c1 c2 c3 c4
    clear k1 hb
    generalize w.heap.size = z at *
    have hps10 := (valid_lens (checkState_valid G.out.1)).1
    go_wp2_with fail
    refine (seconds_any p.now w1).mono ?_
    rintro e w2 ⟨rfl, rfl⟩
    rw [q5]
    clear q5
    go_wp2
    go_loop [37] (fun i => ∃ k : Nat, k ≤ p.ps.length ∧ i = .int .i64 (k : Int) ∧ (∀ x ∈ p.due.take k, 0 ≤ x ∧ x ≤ 16777216) ∧ (∀ x ∈ p.wgt.take k, 0 ≤ x ∧ x ≤ 1048576)) (fun i => p.ps.length - (intOf i).toNat)
    case atStart => exact ⟨0, by omega, rfl, by simp, by simp⟩
    case round =>
     obtain ⟨k, hk, rfl, hr1, hr2⟩ := hrel
     have HR := Lib.hid (And.intro hr1 hr2)
     clear hr1 hr2
     by_cases hlt : k < p.ps.length
     ·have hlt' : decide (k < p.ps.length) = true := decide_eq_true hlt
      have hkd : k < p.due.length := by rw [G.out.2.1]; exact hlt
      have hkw : k < p.wgt.length := by rw [G.out.2.2]; exact hlt
      obtain ⟨b3, o3, d, hA3, _, hdx, d3⟩ := H1.out.D.at_ hkd
      obtain ⟨b4, o4, g, hA4, _, hgx, d4⟩ := H1.out.W.at_ hkw
      rw [hA3] at c2
      rw [hA4] at c3
      have BAD : Hid (¬ (0 ≤ d ∧ d ≤ 16777216 ∧ 0 ≤ g ∧ g ≤ 1048576) → checkP p = false) := Lib.hid fun hn => by
       cases e : checkP p with
       | false => rfl
       | true =>
        have h1 := (checkP_iff.1 e).2.2.2.1 d (List.mem_of_getElem? hdx)
        have h2 := (checkP_iff.1 e).2.2.2.2.1 g (List.mem_of_getElem? hgx)
        exact absurd ⟨h1.1, h1.2, h2.1, h2.2⟩ hn
      have HX := Lib.hid (And.intro hdx hgx)
      clear hdx hgx hA3 hA4
      by_cases q1 : d < 0
      ·have q1' : decide (d < 0) = true := decide_eq_true q1
       have QQ := Lib.hid (BAD.out (by omega))
       go_wp2
       go_ret
       exact ⟨by rw [QQ.out]; rfl, K1.out⟩
      ·have q1' : decide (d < 0) = false := decide_eq_false q1
       by_cases q2 : d > 16777216
       ·have q2' : decide (d > 16777216) = true := decide_eq_true q2
        have QQ := Lib.hid (BAD.out (by omega))
        go_wp2
        go_ret
        exact ⟨by rw [QQ.out]; rfl, K1.out⟩
       ·have q2' : decide (d > 16777216) = false := decide_eq_false q2
        by_cases q3 : g < 0
        ·have q3' : decide (g < 0) = true := decide_eq_true q3
         have QQ := Lib.hid (BAD.out (by omega))
         go_wp2
         go_ret
         exact ⟨by rw [QQ.out]; rfl, K1.out⟩
        ·have q3' : decide (g < 0) = false := decide_eq_false q3
         by_cases q4 : g > 1048576
         ·have q4' : decide (g > 1048576) = true := decide_eq_true q4
          have QQ := Lib.hid (BAD.out (by omega))
          go_wp2
          go_ret
          exact ⟨by rw [QQ.out]; rfl, K1.out⟩
         ·have q4' : decide (g > 1048576) = false := decide_eq_false q4
          have HN : Hid ((∀ x ∈ p.due.take (k + 1), 0 ≤ x ∧ x ≤ 16777216) ∧ (∀ x ∈ p.wgt.take (k + 1), 0 ≤ x ∧ x ≤ 1048576)) := by
           refine Lib.hid ⟨fun x hx => ?_, fun x hx => ?_⟩
           ·rw [List.take_add_one, HX.out.1] at hx
            rcases List.mem_append.1 hx with hx | hx
            ·exact HR.out.1 x hx
            ·simp at hx; subst hx; omega
           ·rw [List.take_add_one, HX.out.2] at hx
            rcases List.mem_append.1 hx with hx | hx
            ·exact HR.out.2 x hx
            ·simp at hx; subst hx; omega
          go_wp2
          go_round
          case rel => exact ⟨k + 1, by omega, by go_num, HN.out.1, HN.out.2⟩
          case measure => simp [intOf]; omega
     ·have hlt' : decide (k < p.ps.length) = false := decide_eq_false hlt
      obtain rfl : k = p.ps.length := by omega
      have HALL : Hid ((∀ x ∈ p.due, 0 ≤ x ∧ x ≤ 16777216) ∧ (∀ x ∈ p.wgt, 0 ≤ x ∧ x ≤ 1048576)) := by
       have h1 := HR.out.1
       have h2 := HR.out.2
       rw [← G.out.2.1, List.take_length] at h1
       rw [← G.out.2.2, List.take_length] at h2
       exact Lib.hid ⟨h1, h2⟩
      have QQ : Hid (checkP p = true) := by
       show _ = _
       rw [checkP_iff]
       exact ⟨G.out.1, G.out.2.1, G.out.2.2, HALL.out.1, HALL.out.2, HQ5.out.1, HQ5.out.2⟩
      go_wp2
      go_ret
      exact ⟨by rw [QQ.out]; rfl, K1.out⟩
   ·have QQ : Hid (checkP p = false) := by
     show _ = _
     cases e : checkP p with
     | false => rfl
     | true => exact absurd (checkP_iff.1 e).2.2.1 g2
    have g1' : ((p.due.length : Int) != (p.ps.length : Int)) = false := by rw [g1]; simp
    have g2' : ((p.wgt.length : Int) != (p.ps.length : Int)) = true := by simp; omega
    clear g1 g2
    go_enter Try.func21, Try.ntmps21
    go_wp2_with fail
    refine CALL.out _ fun w1 k1 hb => ?_
    rw [g0]
    clear g0
    have c0 := hb.cell 0
    have c2 := hb.cell 2
    have c3 := hb.cell 3
    simp at c0 c2 c3
    have K1 := Lib.hid k1
    clear k1 hb
    go_wp2
    go_ret
    exact ⟨by rw [QQ.out]; rfl, K1.out⟩
  ·have QQ : Hid (checkP p = false) := by
    show _ = _
    cases e : checkP p with
    | false => rfl
    | true => exact absurd (checkP_iff.1 e).2.1 g1
   have g1' : ((p.due.length : Int) != (p.ps.length : Int)) = true := by simp; omega
   clear g1
   go_enter Try.func21, Try.ntmps21
   go_wp2_with fail
   refine CALL.out _ fun w1 k1 hb => ?_
   rw [g0]
   clear g0
   have c0 := hb.cell 0
   have c2 := hb.cell 2
   simp at c0 c2
   have K1 := Lib.hid k1
   clear k1 hb
   go_wp2
   go_ret
   exact ⟨by rw [QQ.out]; rfl, K1.out⟩
 ·have QQ : Hid (checkP p = false) := by
   show _ = _
   cases e : checkP p with
   | false => rfl
   | true => exact absurd (checkP_iff.1 e).1 g0
  have g0' : (checkState p.ps p.at_ != 0) = true := by simpa using g0
  clear g0
  go_enter Try.func21, Try.ntmps21
  go_wp2_with fail
  refine CALL.out _ fun w1 k1 hb => ?_
  generalize checkState p.ps p.at_ = x at *
  have K1 := Lib.hid k1
  clear k1 hb
  go_wp2
  go_ret
  exact ⟨by rw [QQ.out]; rfl, K1.out⟩

end Go.Proofs.Ytilbbpbjhoidhaa
