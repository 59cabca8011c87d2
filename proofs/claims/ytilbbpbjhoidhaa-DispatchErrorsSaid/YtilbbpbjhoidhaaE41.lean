/- Contract of the reference's Solve of chapter 37, for any problem. Conditions: as the theorem says. The statement DispatchErrors: its function returns true. No condition beyond the arguments' reading. From a row's argument that is a slice of integers to its reading. No condition. From a row's argument that is a slice of slices or of structs to its reading. No condition. -/
import Derived.Test.YtilbbpbjhoidhaaE40
import Derived.Test.YtilbbpbjhoidhaaE34
import Derived.Test.YtilbbpbjhoidhaaE01
import Derived.Test.YtilbbpbjhoidhaaRows
import Derived.ProofKit
import Derived.OpenShut
import Derived.ShutString
import Derived.ChangeOld
import Derived.Below
import Derived.Test.YtilbbpbjhoidhaaE10
import Derived.Deep.Slices
import Derived.ChangeArms
import Derived.DataReads
namespace Go.Proofs.Ytilbbpbjhoidhaa
open Go.RowKit

theorem xs_empty_decs (p : Pb) : decs p.ps (xs p) [] = [] := by unfold decs; cases xs p <;> rfl
theorem goOn_nil {p : Pb} (hc : checkP p = true) : goOn p [] ⟨0, none⟩ = true := by
 unfold goOn
 rw [xs_empty_decs, okD_nil (checkP_Gd hc)]
 rfl
theorem search_bef {p : Pb} (hc : checkP p = true) {budget : Nat} {bb : List Bool} {cc : Int} (h : (searchD budget p).2.best = some (bb, cc)) : bb.length = (xs p).length ∧ arrL p bb 144 = ordB p bb ∧ ∀ r : Nat, r < 144 → ∀ u ∈ openA p.ps p.at_ (r : Int), befB p bb (r : Int) u < (openA p.ps p.at_ (r : Int)).length := by
 obtain ⟨h1, h2, _⟩ := (search_ok hc budget).1 bb cc h
 exact ⟨h1, arr_eq (checkP_ok hc).v (checkP_Gd hc) h1 h2, fun r hr => (bef_at (checkP_ok hc).v (checkP_Gd hc) h1 h2 hr).2⟩

set_option maxRecDepth 100000 in
set_option maxHeartbeats 2000000 in
theorem RSolve_any (p : Pb) (v : PV) (w : World) (budget : Int) (h : RPb w (Old w) v p) :
  Calls Try.prog 14 #[.agg (v.cs p), .int .i64 budget] w (SolvePost budget p w) := by
 have HCK : Hid (∀ W, KeepsAll w W → Calls Try.prog 21 #[.agg #[.slice v.A p.ps.length v.c, .slice v.A2 p.at_.length v.c2, .slice v.A3 p.due.length v.c3, .slice v.A4 p.wgt.length v.c4, .int .i64 p.now]] W fun e w' => e = .returned (.bool (checkP p)) ∧ KeepsAll W w') := fun W hW => RDspCheck_any p v W (h.kept hW)
 have H := Lib.hid h
 clear h
 unfold PV.cs
 generalize hPP : SolvePost budget p w = PP
 have HPP := Lib.hid hPP
 clear hPP
 go_enter Try.func14, Try.ntmps14
 go_wp2_with fail
 refine (HCK.out _ (((Keeps.refl _ _).alloc _).alloc _)).mono ?_
 rintro e w1 ⟨rfl, k1⟩
 have BP : Hid (Blk w1 w.heap.size 25 #[.slice v.A p.ps.length v.c, .slice v.A2 p.at_.length v.c2, .slice v.A3 p.due.length v.c3, .slice v.A4 p.wgt.length v.c4, .int .i64 p.now]) := ((Blk.new _ _ _).alloc _).kept k1 (by simp)
 have B4 : Hid (Blk w1 (w.heap.size + 1) 31 #[.slice none 0 0, .slice none 0 0, .int .i64 0]) := (Blk.new' _ _ _ (by simp)).kept k1 (by simp)
 have K1 : Hid (KeepsAll w w1) := (((Keeps.refl _ _).alloc _).alloc _).tr k1
 clear k1
 obtain ⟨b4, hb4⟩ : ∃ b, b = w.heap.size + 1 := ⟨_, rfl⟩
 rw [← hb4] at B4 ⊢
 have hlt4 : w.heap.size < b4 := by omega
 clear hb4
 have c40 := B4.out.cell 0
 have c41 := B4.out.cell 1
 have c42 := B4.out.cell 2
 simp at c40 c41 c42
 have e40 := B4.out.frozen 0
 have e41 := B4.out.frozen 1
 have e42 := B4.out.frozen 2
 have l4 := B4.out.lt
 cases hc : checkP p with
 | false =>
  have HS : Hid (solveP budget p = (sol0, 0, 1)) := by show _ = _; unfold solveP; rw [if_pos hc]
  clear hc HCK BP
  go_wp2
  generalize hW3 : World.setCell (World.setCell (World.setCell w1 _ _) _ _) _ _ = W3
  have HB3 : Hid (Blk W3 b4 31 #[.slice none 0 0, .slice none 0 0, .int .i64 0]) := by subst hW3; exact ((B4.out.set_ 0 _).set_ 1 _).set_ 2 _
  have K3 : Hid (KeepsAll w W3) := by subst hW3; exact (((K1.out.setCell (p := ⟨b4, 0, none⟩) (fun h => absurd h (by simp; omega)) _).setCell (p := ⟨b4, 1, none⟩) (fun h => absurd h (by simp; omega)) _).setCell (p := ⟨b4, 2, none⟩) (fun h => absurd h (by simp; omega)) _)
  clear hW3 c40 c41 c42
  have c40 := HB3.out.cell 0
  have c41 := HB3.out.cell 1
  have c42 := HB3.out.cell 2
  simp at c40 c41 c42
  exact bodyPost_ret (v := .tuple #[.agg #[.slice none 0 0, .slice none 0 0, .int .i64 0], .int .i64 0, .int .i64 1]) (by simp [results, Try.results14, go_sem, c40, c41, c42]) rfl (by rw [← HPP.out]; exact SolvePost.zero HS.out K3.out)
 | true =>
  by_cases hr : budget < 1 ∨ 1048576 < budget
  ·have HS : Hid (solveP budget p = (sol0, 0, 4)) := by show _ = _; unfold solveP; rw [if_neg (by rw [hc]; simp), if_pos hr]
   have hr' : decide (budget < 1) = true ∨ decide (budget < 1) = false ∧ decide (1048576 < budget) = true := by simp; omega
   clear hr hc HCK BP
   rcases hr' with hr1 | ⟨hr1, hr2⟩
   all_goals
    go_wp2
    generalize hW3 : World.setCell (World.setCell (World.setCell w1 _ _) _ _) _ _ = W3
    have HB3 : Hid (Blk W3 b4 31 #[.slice none 0 0, .slice none 0 0, .int .i64 0]) := by subst hW3; exact ((B4.out.set_ 0 _).set_ 1 _).set_ 2 _
    have K3 : Hid (KeepsAll w W3) := by subst hW3; exact (((K1.out.setCell (p := ⟨b4, 0, none⟩) (fun h => absurd h (by simp; omega)) _).setCell (p := ⟨b4, 1, none⟩) (fun h => absurd h (by simp; omega)) _).setCell (p := ⟨b4, 2, none⟩) (fun h => absurd h (by simp; omega)) _)
    clear hW3 c40 c41 c42
    have c40 := HB3.out.cell 0
    have c41 := HB3.out.cell 1
    have c42 := HB3.out.cell 2
    simp at c40 c41 c42
    exact bodyPost_ret (v := .tuple #[.agg #[.slice none 0 0, .slice none 0 0, .int .i64 0], .int .i64 0, .int .i64 4]) (by simp [results, Try.results14, go_sem, c40, c41, c42]) rfl (by rw [← HPP.out]; exact SolvePost.zero HS.out K3.out)
  ·obtain ⟨nb, rfl⟩ : ∃ n : Nat, budget = (n : Int) := ⟨budget.toNat, by omega⟩
   have hr1 : decide ((nb : Int) < 1) = false := by simp; omega
   have hr2 : decide (1048576 < (nb : Int)) = false := by simp; omega
   have hnb : 1 ≤ nb ∧ nb ≤ 1048576 := by omega
   have HC := Lib.hid hc
   have HSV : Hid (solveP (nb : Int) p = (if (searchD nb p).1 = false then (sol0, (0 : Int), (15 : Int)) else match (searchD nb p).2.best with
    | none => (sol0, ((searchD nb p).2.steps : Int), (19 : Int))
    | some b => (⟨ordB p b.1, entB p b.1, b.2⟩, ((searchD nb p).2.steps : Int), (0 : Int)) : Soln × Int × Int)) := by
    show _ = _
    unfold solveP
    rw [if_neg (by rw [hc]; simp), if_neg hr]
    rfl
   have HPA : Hid (∀ W, KeepsAll w W → Calls Try.prog 22 #[.agg #[.slice v.A p.ps.length v.c, .slice v.A2 p.at_.length v.c2, .slice v.A3 p.due.length v.c3, .slice v.A4 p.wgt.length v.c4, .int .i64 p.now]] W fun e w' => ∃ A c, e = .returned (.slice A (xs p).length c) ∧ RSlice 5 RPr w' (Fresh W w') [.slice A (xs p).length c] (xs p) ∧ KeepsAll W w') := fun W hW =>
    RPairs_any p v W (H.out.kept hW) (checkP_ok hc).v (checkP_Gd hc).1
   clear hc hr HCK c40 c41 c42 e40 e41 e42
   have p0 := BP.out.cell 0
   have p1 := BP.out.cell 1
   have p2 := BP.out.cell 2
   have p3 := BP.out.cell 3
   have p4 := BP.out.cell 4
   simp at p0 p1 p2 p3 p4
   go_upto_region 5 with (fail)
   refine wp_region_lexB (fun w' => ∃ y : Ext w1, w' = y.val) [0, 1, 3, 2, 4, 5, 6] (by kernel_rfl) (by kernel_rfl) ⟨⟨_, (Keeps.refl _ _).drew⟩, rfl⟩ ?_
   have y0 := Ext.cell p0
   have y1 := Ext.cell p1
   have y2 := Ext.cell p2
   have y3 := Ext.cell p3
   have y4 := Ext.cell p4
   iterate 3 (refine lex_q _ rfl rfl rfl ?_; go_big_quiet_step (fail); refine wpQuiet_nil ?_)
   clear y0 y1 y2 y3 y4
   refine lex_a _ rfl rfl true (by kernel_rfl) ?_
   go_wp2_with fail
   have kd : KeepsAll w1 w1.drew := (Keeps.refl _ _).drew
   refine (HPA.out w1.drew (K1.out.tr kd)).mono ?_
   rintro e w2 ⟨Ap, cp, rfl, hpr, k2⟩
   have HPR := Lib.hid hpr
   have K2 := Lib.hid (kd.tr k2)
   clear kd k2 hpr HPA
   go_wp2
   refine ⟨fun _ => ⟨⟨_, K2.out⟩, rfl⟩, ?_⟩
   refine lex_q _ rfl rfl rfl ?_; go_big_quiet_step (fail); refine wpQuiet_nil ?_
   refine lex_a _ rfl rfl true (by kernel_rfl) ?_
   go_wp2
   refine ⟨fun _ => ⟨⟨_, K2.out.alloc _⟩, rfl⟩, ?_⟩
   refine lex_q _ rfl rfl rfl ?_; go_big_quiet_step (fail); refine wpQuiet_nil ?_
   simp only [wpLex]
   refine NoPanic.normal ?_
   generalize hW3 : World.alloc w2 _ = W3
   have hk3 : KeepsAll w2 W3 := by subst hW3; exact (Keeps.refl _ _).alloc _
   have hb3 : Blk W3 w2.heap.size 90 (rdC v p Ap cp nb 0 (.slice none 0 0) false (.slice none 0 0) 0 (.slice none 0 0)) := by subst hW3; exact Blk.new _ _ _
   have HB43 := Lib.hid ((B4.out.kept K2.out (by simp)).kept hk3 (by simp))
   have HB42 := Lib.hid (B4.out.kept K2.out (by simp))
   have K3 := Lib.hid ((K1.out.tr K2.out).tr hk3)
   have hrd : RDs w2 w2.heap.size v p Ap cp nb W3 [] ⟨0, none⟩ := by
    refine ⟨hk3, H.out.kept (K1.out.tr K2.out), Nat.le_refl _, RPrs.ok.mono HPR.out (fun b hb => hb.2) (fun b hb => hk3.block b hb.2 (by simp)), _, _, _, _, _, hb3, OwnL.nil, rfl⟩
   have HRD := Lib.hid hrd
   have q5 := hb3.cell 5
   simp [rdC] at q5
   have hz3 := hb3.lt
   have hz12 := K2.out.size
   have HK02 : Hid (KeepsAll w w2) := K1.out.tr K2.out
   clear hW3 hk3 hb3 hrd HPR K2 K1 B4 BP p0 p1 p2 p3 p4
   obtain ⟨rb, hrb⟩ : ∃ z, z = w2.heap.size := ⟨_, rfl⟩
   rw [← hrb] at HRD q5 hz3 ⊢
   have hb4r : b4 < rb := by rw [hrb]; omega
   clear hrb
   have HBU : Hid (nb ≤ 1048576) := hnb.2
   by_cases hn0 : (xs p).length = 0
   ·have hxs : xs p = [] := List.eq_nil_of_length_eq_zero hn0
    have hsd : searchD nb p = (true, ⟨0, some ([], costD p (decs p.ps (xs p) []))⟩) := by rw [searchD_eq, hn0]; rfl
    rw [hn0] at q5
    have HLK := Lib.hid (look_any w2 rb v p Ap cp nb W3 [] ⟨0, none⟩ HRD.out HC.out (by simp))
    have HGO := Lib.hid (goOn_nil HC.out)
    go_wp2_with fail
    refine HLK.out.mono ?_
    rintro e w4 ⟨ve, c0, rfl, k4, hlk⟩
    rw [HGO.out]
    obtain ⟨hcc, hen⟩ := hlk HGO.out
    obtain ⟨Ae, ce, rfl⟩ := RSlice.form hen
    obtain ⟨vf, fd, vb, vc, ve0, hb, ho, _⟩ := HRD.out.b
    have hb4' := hb.kept k4 (by simp)
    have ho4' := ho.keepsF RBool.flat k4 (by simp)
    have hed : RIntss w4 (SBt rb w4 vf) [.slice Ae (entB p []).length ce] (entB p []) := RIntss.ok.mono hen (fun z hz => ⟨by have h1 : W3.heap.size ≤ z := hz.1; have := hb.lt; omega, hz.2, fun e => by have h1 : W3.heap.size ≤ z := hz.1; have := (ho.lt e).2; omega⟩) (fun _ _ => rfl)
    have HRD4 := Lib.hid (HRD.out.keep k4)
    have HCM := Lib.hid (RDcomp_any w4 rb v p Ap cp nb 0 vf fd vb vc ve0 [] Ae ce c0 (entB p []) hb4' ho4' hed (by simp))
    have HBD := Lib.hid hb4'
    have HB44 := Lib.hid (HB43.out.kept k4 (by simp))
    have K4 := Lib.hid (K3.out.tr k4)
    have HCC := Lib.hid hcc
    clear hb ho hb4' ho4' hed hlk hen hcc HLK HRD k4 HB43 K3 q5
    go_wp2_with fail
    refine HCM.out.mono ?_
    rintro e w5 ⟨rfl, vb', hb5, ho5, h15, h25, k5⟩
    have HR5 : Hid (RDs w2 rb v p Ap cp nb w5 [] (searchD nb p).2) := by
     have := HRD4.out.comp HBD.out rfl k5 hb5 ho5 h15 h25
     rw [HCC.out] at this
     rw [hsd]
     exact this
    have hs1 : (searchD nb p).1 = true := by rw [hsd]
    have HRT := Lib.hid HR5.out
    have HBT := Lib.hid (HB44.out.kept k5 (by show ¬ b4 = rb; omega))
    have KT : Hid (KeepsAll w w5) := K4.out.trans k5 (fun b hb e => by have e : b = rb := e; omega)
    have HS1 := Lib.hid hs1
    clear HR5 HB44 K4 k5 hb5 ho5 h15 h25 HCM HRD4 HBD HCC hs1 hsd hxs hn0 HGO
    obtain ⟨vf, fd, vb, vc, ve0, hb, ho, hbest⟩ := HRT.out.b
    have q7 := hb.cell 7
    have q8 := hb.cell 8
    have q9 := hb.cell 9
    have q11 := hb.cell 11
    have q12 := hb.cell 12
    simp [rdC] at q7 q8 q9 q11 q12
    have hzb := hb.lt
    have g0 := HBT.out.cell 0
    have g1 := HBT.out.cell 1
    have g2 := HBT.out.cell 2
    simp at g0 g1 g2
    have h0 := HBT.out.frozen 0
    have h1 := HBT.out.frozen 1
    have h2 := HBT.out.frozen 2
    have l4 := HBT.out.lt
    clear hb ho
    cases hbst : (searchD nb p).2.best with
    | none =>
     unfold RBest at hbest
     rw [hbst] at hbest
     have hbest : fd = false := hbest
     subst hbest
     have HS : Hid (solveP (nb : Int) p = (sol0, ((searchD nb p).2.steps : Int), 19)) := by show _ = _; rw [HSV.out, if_neg (by rw [HS1.out]; simp), hbst]
     clear hbst HSV HRT
     generalize (searchD nb p).2.steps = ns at *
     go_wp2_with fail
     refine wp_region_lexB (fun w' => ∃ y : ExtC (fun b => b = b4) w5, w' = y.val) [0, 1, 2, 3, 4, 5, 6, 7] (by kernel_rfl) (by kernel_rfl) (ExtC.start _ _) ?_
     have y7 := ExtC.cell (C := fun b => b = b4) q7 (by show ¬ rb = b4; omega)
     iterate 5 (first | (refine lex_q _ rfl rfl rfl ?_; go_big_quiet_step (fail); refine wpQuiet_nil ?_) | (refine lex_nil _ rfl _ rfl rfl _ rfl ?_; go_simp))
     clear y7
     refine lex_a _ rfl rfl true (by kernel_rfl) ?_
     go_wp2
     refine ⟨fun _ => ⟨⟨_, ((((Keeps.refl (fun b => b = b4) w5).setCell (p := ⟨b4, 0, none⟩) (fun _ => rfl) _).setCell (p := ⟨b4, 1, none⟩) (fun _ => rfl) _).setCell (p := ⟨b4, 2, none⟩) (fun _ => rfl) _).drew⟩, rfl⟩, ?_⟩
     iterate 2 (refine lex_q _ rfl rfl rfl ?_; go_big_quiet_step (fail); refine wpQuiet_nil ?_)
     simp only [wpLex]
     refine NoPanic.normal ?_
     generalize hW9 : World.drew (World.setCell (World.setCell (World.setCell w5 _ _) _ _) _ _) = W9
     have HB9 : Hid (Blk W9 b4 31 #[.slice none 0 0, .slice none 0 0, .int .i64 0]) := by subst hW9; exact (((HBT.out.set_ 0 _).set_ 1 _).set_ 2 _).drew_
     have K9 : Hid (KeepsAll w W9) := by subst hW9; exact (((KT.out.setCell (p := ⟨b4, 0, none⟩) (fun h => absurd h (by simp; omega)) _).setCell (p := ⟨b4, 1, none⟩) (fun h => absurd h (by simp; omega)) _).setCell (p := ⟨b4, 2, none⟩) (fun h => absurd h (by simp; omega)) _).drew
     clear hW9 g0 g1 g2
     have g0 := HB9.out.cell 0
     have g1 := HB9.out.cell 1
     have g2 := HB9.out.cell 2
     simp at g0 g1 g2
     go_wp2
     exact bodyPost_ret (v := .tuple #[.agg #[.slice none 0 0, .slice none 0 0, .int .i64 0], .int .i64 (ns : Int), .int .i64 19]) (by simp [results, Try.results14, go_sem, g0, g1, g2]) rfl (by rw [← HPP.out]; exact SolvePost.zero HS.out K9.out)
    | some bc =>
     obtain ⟨bb, cc⟩ := bc
     obtain ⟨hsb1, hsb2, hsb3⟩ := search_bef HC.out hbst
     have HAR := Lib.hid (arranged_any w2 rb v p Ap cp nb w5.drew [] _ bb cc (HRT.out.keep (Keeps.refl _ _).drew) hbst (checkP_ok HC.out).v (checkP_Gd HC.out).1 hsb1 hsb3)
     rw [hsb2] at HAR
     unfold RBest at hbest
     rw [hbst] at hbest
     obtain ⟨hfd, hvc, _, hri⟩ := hbest
     subst hfd
     obtain rfl : cc = vc := hvc.symm
     have hri : RIntss w5 (SBt rb w5 vf) [ve0] (entB p bb) := hri
     obtain ⟨Ae, ce, rfl⟩ := RSlice.form hri
     have HRI := Lib.hid hri
     have HS : Hid (solveP (nb : Int) p = (⟨ordB p bb, entB p bb, cc⟩, ((searchD nb p).2.steps : Int), 0)) := by show _ = _; rw [HSV.out, if_neg (by rw [HS1.out]; simp), hbst]
     clear hbst HSV HRT hsb1 hsb2 hsb3 hri
     generalize (searchD nb p).2.steps = ns at *
     generalize ordB p bb = oB at *
     generalize entB p bb = eB at *
     go_wp2_with fail
     refine wp_region_lexB (fun w' => ∃ y : ExtC (fun b => b = b4) w5, w' = y.val) [0, 2, 3, 4, 5, 6, 7, 8, 9, 11, 12, 13, 14, 1, 10, 15, 16, 17] (by kernel_rfl) (by kernel_rfl) (ExtC.start _ _) ?_
     have y7 := ExtC.cell (C := fun b => b = b4) q7 (by show ¬ rb = b4; omega)
     have y11 := ExtC.cell (C := fun b => b = b4) q11 (by show ¬ rb = b4; omega)
     have y12 := ExtC.cell (C := fun b => b = b4) q12 (by show ¬ rb = b4; omega)
     iterate 13 (first | (refine lex_q _ rfl rfl rfl ?_; go_big_quiet_step (fail); refine wpQuiet_nil ?_) | (refine lex_nil _ rfl _ rfl rfl _ rfl ?_; go_simp))
     clear y7 y11 y12
     refine lex_a _ rfl rfl true (by kernel_rfl) ?_
     go_wp2_with fail
     refine HAR.out.mono ?_
     rintro e w6 ⟨A6, c6, rfl, ho6, k6d⟩
     have k6 : KeepsAll w5 w6 := ((Keeps.refl _ _).drew : KeepsAll w5 w5.drew).tr k6d
     have HO6 := Lib.hid ho6
     have K6 := Lib.hid k6
     have g06 := k6.cellK (p := ⟨b4, 0, none⟩) l4 g0
     have g16 := k6.cellK (p := ⟨b4, 1, none⟩) l4 g1
     have g26 := k6.cellK (p := ⟨b4, 2, none⟩) l4 g2
     have h06 := (HBT.out.kept k6 (by simp)).frozen 0
     have h16 := (HBT.out.kept k6 (by simp)).frozen 1
     have h26 := (HBT.out.kept k6 (by simp)).frozen 2
     have l46 := Nat.lt_of_lt_of_le l4 k6.size
     clear ho6 k6 k6d HAR g0 g1 g2 h0 h1 h2
     go_wp2
     refine ⟨fun _ => ⟨⟨_, K6.out.mono (fun _ _ e => e.elim)⟩, rfl⟩, ?_⟩
     refine lex_q _ rfl rfl rfl ?_; go_big_quiet_step (fail); refine wpQuiet_nil ?_
     refine lex_a _ rfl rfl true (by kernel_rfl) ?_
     go_wp2
     refine ⟨fun _ => ⟨⟨_, ((((K6.out.mono (C := fun b => b = b4) (fun _ _ e => e.elim)).setCell (p := ⟨b4, 0, none⟩) (fun _ => rfl) _).setCell (p := ⟨b4, 1, none⟩) (fun _ => rfl) _).setCell (p := ⟨b4, 2, none⟩) (fun _ => rfl) _)⟩, rfl⟩, ?_⟩
     iterate 2 (refine lex_q _ rfl rfl rfl ?_; go_big_quiet_step (fail); refine wpQuiet_nil ?_)
     simp only [wpLex]
     refine NoPanic.normal ?_
     generalize hW9 : World.setCell (World.setCell (World.setCell w6 _ _) _ _) _ _ = W9
     have HB9 : Hid (Blk W9 b4 31 #[.slice A6 oB.length c6, .slice Ae eB.length ce, .int .i64 cc]) := by subst hW9; exact (((HBT.out.kept K6.out (by simp)).set_ 0 _).set_ 1 _).set_ 2 _
     have k69 : Keeps (fun b => b = b4) w6 W9 := by subst hW9; exact (((Keeps.refl (fun b => b = b4) w6).setCell (p := ⟨b4, 0, none⟩) (fun _ => rfl) _).setCell (p := ⟨b4, 1, none⟩) (fun _ => rfl) _).setCell (p := ⟨b4, 2, none⟩) (fun _ => rfl) _
     have K9 : Hid (KeepsAll w W9) := (KT.out.tr K6.out).trans k69 (fun b hb e => by have e : b = b4 := e; omega)
     have HSOL : Hid (RSol W9 (Old W9) [.slice A6 oB.length c6, .slice Ae eB.length ce, .int .i64 cc] ⟨oB, eB, cc⟩) := by
      refine ⟨_, _, rfl, ?_, ?_⟩
      ·exact ROrders.ok.mono HO6.out (fun b hb => Nat.lt_of_lt_of_le hb.2 k69.size) (fun b hb => k69.block b hb.2 (by have h1 : w5.heap.size ≤ b := hb.1; show ¬ b = b4; omega))
      ·refine RIntss.ok.mono (RIntss.ok.mono HRI.out (fun _ h => h) (fun b hb => K6.out.block b hb.2.1 (by simp))) (fun b hb => Nat.lt_of_lt_of_le (Nat.lt_of_lt_of_le hb.2.1 K6.out.size) k69.size) (fun b hb => k69.block b (Nat.lt_of_lt_of_le hb.2.1 K6.out.size) (by have := hb.1; show ¬ b = b4; omega))
     clear hW9 k69 g06 g16 g26 h06 h16 h26
     have g0 := HB9.out.cell 0
     have g1 := HB9.out.cell 1
     have g2 := HB9.out.cell 2
     simp at g0 g1 g2
     go_wp2
     exact bodyPost_ret (v := .tuple #[.agg #[.slice A6 oB.length c6, .slice Ae eB.length ce, .int .i64 cc], .int .i64 (ns : Int), .int .i64 0]) (by simp [results, Try.results14, go_sem, g0, g1, g2]) rfl (by rw [← HPP.out]; exact ⟨_, _, _, by rw [HS.out], by rw [HS.out]; exact HSOL.out, K9.out⟩)
   ·have hne : (((xs p).length : Int) == 0) = false := by simp; intro e; exact hn0 (by rw [e]; rfl)
    have HDC := Lib.hid (rdecide_any w2 rb v p Ap cp nb HC.out hnb.2 (xs p).length [] ⟨0, none⟩ W3 (by omega) (by simp) (Nat.zero_le _) HRD.out)
    have HSE : Hid (decF nb p (xs p).length [] ⟨0, none⟩ = searchD nb p) := rfl
    rw [HSE.out] at HDC
    go_wp2_with fail
    refine HDC.out.mono ?_
    rintro e w5 ⟨rfl, k5, hrr⟩
    have KT := Lib.hid (HK02.out.tr k5)
    have HBT := Lib.hid (HB42.out.kept k5 (by simp))
    cases hs1 : (searchD nb p).1 with
    | false =>
     have HS : Hid (solveP (nb : Int) p = (sol0, 0, 15)) := by show _ = _; rw [HSV.out, if_pos hs1]
     clear hrr hs1 HSV HDC HRD HB43 HB42 K3 k5 q5 hne HSE
     have g0 := HBT.out.cell 0
     have g1 := HBT.out.cell 1
     have g2 := HBT.out.cell 2
     simp at g0 g1 g2
     have h0 := HBT.out.frozen 0
     have h1 := HBT.out.frozen 1
     have h2 := HBT.out.frozen 2
     have l4 := HBT.out.lt
     go_wp2
     generalize hW9 : World.setCell (World.setCell (World.setCell w5 _ _) _ _) _ _ = W9
     have HB9 : Hid (Blk W9 b4 31 #[.slice none 0 0, .slice none 0 0, .int .i64 0]) := by subst hW9; exact ((HBT.out.set_ 0 _).set_ 1 _).set_ 2 _
     have K9 : Hid (KeepsAll w W9) := by subst hW9; exact (((KT.out.setCell (p := ⟨b4, 0, none⟩) (fun h => absurd h (by simp; omega)) _).setCell (p := ⟨b4, 1, none⟩) (fun h => absurd h (by simp; omega)) _).setCell (p := ⟨b4, 2, none⟩) (fun h => absurd h (by simp; omega)) _)
     clear hW9 g0 g1 g2
     have g0 := HB9.out.cell 0
     have g1 := HB9.out.cell 1
     have g2 := HB9.out.cell 2
     simp at g0 g1 g2
     exact bodyPost_ret (v := .tuple #[.agg #[.slice none 0 0, .slice none 0 0, .int .i64 0], .int .i64 0, .int .i64 15]) (by simp [results, Try.results14, go_sem, g0, g1, g2]) rfl (by rw [← HPP.out]; exact SolvePost.zero HS.out K9.out)
    | true =>
     have HRT := Lib.hid (hrr hs1).1
     have HS1 := Lib.hid hs1
     clear hrr hs1 HDC HRD HB43 HB42 K3 k5 q5 hne HSE hn0
     obtain ⟨vf, fd, vb, vc, ve0, hb, ho, hbest⟩ := HRT.out.b
     have q7 := hb.cell 7
     have q8 := hb.cell 8
     have q9 := hb.cell 9
     have q11 := hb.cell 11
     have q12 := hb.cell 12
     simp [rdC] at q7 q8 q9 q11 q12
     have hzb := hb.lt
     have g0 := HBT.out.cell 0
     have g1 := HBT.out.cell 1
     have g2 := HBT.out.cell 2
     simp at g0 g1 g2
     have h0 := HBT.out.frozen 0
     have h1 := HBT.out.frozen 1
     have h2 := HBT.out.frozen 2
     have l4 := HBT.out.lt
     clear hb ho
     cases hbst : (searchD nb p).2.best with
     | none =>
      unfold RBest at hbest
      rw [hbst] at hbest
      have hbest : fd = false := hbest
      subst hbest
      have HS : Hid (solveP (nb : Int) p = (sol0, ((searchD nb p).2.steps : Int), 19)) := by show _ = _; rw [HSV.out, if_neg (by rw [HS1.out]; simp), hbst]
      clear hbst HSV HRT
      generalize (searchD nb p).2.steps = ns at *
      go_wp2_with fail
      refine wp_region_lexB (fun w' => ∃ y : ExtC (fun b => b = b4) w5, w' = y.val) [0, 1, 2, 3, 4, 5, 6, 7] (by kernel_rfl) (by kernel_rfl) (ExtC.start _ _) ?_
      have y7 := ExtC.cell (C := fun b => b = b4) q7 (by show ¬ rb = b4; omega)
      iterate 5 (first | (refine lex_q _ rfl rfl rfl ?_; go_big_quiet_step (fail); refine wpQuiet_nil ?_) | (refine lex_nil _ rfl _ rfl rfl _ rfl ?_; go_simp))
      clear y7
      refine lex_a _ rfl rfl true (by kernel_rfl) ?_
      go_wp2
      refine ⟨fun _ => ⟨⟨_, ((((Keeps.refl (fun b => b = b4) w5).setCell (p := ⟨b4, 0, none⟩) (fun _ => rfl) _).setCell (p := ⟨b4, 1, none⟩) (fun _ => rfl) _).setCell (p := ⟨b4, 2, none⟩) (fun _ => rfl) _).drew⟩, rfl⟩, ?_⟩
      iterate 2 (refine lex_q _ rfl rfl rfl ?_; go_big_quiet_step (fail); refine wpQuiet_nil ?_)
      simp only [wpLex]
      refine NoPanic.normal ?_
      generalize hW9 : World.drew (World.setCell (World.setCell (World.setCell w5 _ _) _ _) _ _) = W9
      have HB9 : Hid (Blk W9 b4 31 #[.slice none 0 0, .slice none 0 0, .int .i64 0]) := by subst hW9; exact (((HBT.out.set_ 0 _).set_ 1 _).set_ 2 _).drew_
      have K9 : Hid (KeepsAll w W9) := by subst hW9; exact (((KT.out.setCell (p := ⟨b4, 0, none⟩) (fun h => absurd h (by simp; omega)) _).setCell (p := ⟨b4, 1, none⟩) (fun h => absurd h (by simp; omega)) _).setCell (p := ⟨b4, 2, none⟩) (fun h => absurd h (by simp; omega)) _).drew
      clear hW9 g0 g1 g2
      have g0 := HB9.out.cell 0
      have g1 := HB9.out.cell 1
      have g2 := HB9.out.cell 2
      simp at g0 g1 g2
      go_wp2
      exact bodyPost_ret (v := .tuple #[.agg #[.slice none 0 0, .slice none 0 0, .int .i64 0], .int .i64 (ns : Int), .int .i64 19]) (by simp [results, Try.results14, go_sem, g0, g1, g2]) rfl (by rw [← HPP.out]; exact SolvePost.zero HS.out K9.out)
     | some bc =>
      obtain ⟨bb, cc⟩ := bc
      obtain ⟨hsb1, hsb2, hsb3⟩ := search_bef HC.out hbst
      have HAR := Lib.hid (arranged_any w2 rb v p Ap cp nb w5.drew [] _ bb cc (HRT.out.keep (Keeps.refl _ _).drew) hbst (checkP_ok HC.out).v (checkP_Gd HC.out).1 hsb1 hsb3)
      rw [hsb2] at HAR
      unfold RBest at hbest
      rw [hbst] at hbest
      obtain ⟨hfd, hvc, _, hri⟩ := hbest
      subst hfd
      obtain rfl : cc = vc := hvc.symm
      have hri : RIntss w5 (SBt rb w5 vf) [ve0] (entB p bb) := hri
      obtain ⟨Ae, ce, rfl⟩ := RSlice.form hri
      have HRI := Lib.hid hri
      have HS : Hid (solveP (nb : Int) p = (⟨ordB p bb, entB p bb, cc⟩, ((searchD nb p).2.steps : Int), 0)) := by show _ = _; rw [HSV.out, if_neg (by rw [HS1.out]; simp), hbst]
      clear hbst HSV HRT hsb1 hsb2 hsb3 hri
      generalize (searchD nb p).2.steps = ns at *
      generalize ordB p bb = oB at *
      generalize entB p bb = eB at *
      go_wp2_with fail
      refine wp_region_lexB (fun w' => ∃ y : ExtC (fun b => b = b4) w5, w' = y.val) [0, 2, 3, 4, 5, 6, 7, 8, 9, 11, 12, 13, 14, 1, 10, 15, 16, 17] (by kernel_rfl) (by kernel_rfl) (ExtC.start _ _) ?_
      have y7 := ExtC.cell (C := fun b => b = b4) q7 (by show ¬ rb = b4; omega)
      have y11 := ExtC.cell (C := fun b => b = b4) q11 (by show ¬ rb = b4; omega)
      have y12 := ExtC.cell (C := fun b => b = b4) q12 (by show ¬ rb = b4; omega)
      iterate 13 (first | (refine lex_q _ rfl rfl rfl ?_; go_big_quiet_step (fail); refine wpQuiet_nil ?_) | (refine lex_nil _ rfl _ rfl rfl _ rfl ?_; go_simp))
      clear y7 y11 y12
      refine lex_a _ rfl rfl true (by kernel_rfl) ?_
      go_wp2_with fail
      refine HAR.out.mono ?_
      rintro e w6 ⟨A6, c6, rfl, ho6, k6d⟩
      have k6 : KeepsAll w5 w6 := ((Keeps.refl _ _).drew : KeepsAll w5 w5.drew).tr k6d
      have HO6 := Lib.hid ho6
      have K6 := Lib.hid k6
      have g06 := k6.cellK (p := ⟨b4, 0, none⟩) l4 g0
      have g16 := k6.cellK (p := ⟨b4, 1, none⟩) l4 g1
      have g26 := k6.cellK (p := ⟨b4, 2, none⟩) l4 g2
      have h06 := (HBT.out.kept k6 (by simp)).frozen 0
      have h16 := (HBT.out.kept k6 (by simp)).frozen 1
      have h26 := (HBT.out.kept k6 (by simp)).frozen 2
      have l46 := Nat.lt_of_lt_of_le l4 k6.size
      clear ho6 k6 k6d HAR g0 g1 g2 h0 h1 h2
      go_wp2
      refine ⟨fun _ => ⟨⟨_, K6.out.mono (fun _ _ e => e.elim)⟩, rfl⟩, ?_⟩
      refine lex_q _ rfl rfl rfl ?_; go_big_quiet_step (fail); refine wpQuiet_nil ?_
      refine lex_a _ rfl rfl true (by kernel_rfl) ?_
      go_wp2
      refine ⟨fun _ => ⟨⟨_, ((((K6.out.mono (C := fun b => b = b4) (fun _ _ e => e.elim)).setCell (p := ⟨b4, 0, none⟩) (fun _ => rfl) _).setCell (p := ⟨b4, 1, none⟩) (fun _ => rfl) _).setCell (p := ⟨b4, 2, none⟩) (fun _ => rfl) _)⟩, rfl⟩, ?_⟩
      iterate 2 (refine lex_q _ rfl rfl rfl ?_; go_big_quiet_step (fail); refine wpQuiet_nil ?_)
      simp only [wpLex]
      refine NoPanic.normal ?_
      generalize hW9 : World.setCell (World.setCell (World.setCell w6 _ _) _ _) _ _ = W9
      have HB9 : Hid (Blk W9 b4 31 #[.slice A6 oB.length c6, .slice Ae eB.length ce, .int .i64 cc]) := by subst hW9; exact (((HBT.out.kept K6.out (by simp)).set_ 0 _).set_ 1 _).set_ 2 _
      have k69 : Keeps (fun b => b = b4) w6 W9 := by subst hW9; exact (((Keeps.refl (fun b => b = b4) w6).setCell (p := ⟨b4, 0, none⟩) (fun _ => rfl) _).setCell (p := ⟨b4, 1, none⟩) (fun _ => rfl) _).setCell (p := ⟨b4, 2, none⟩) (fun _ => rfl) _
      have K9 : Hid (KeepsAll w W9) := (KT.out.tr K6.out).trans k69 (fun b hb e => by have e : b = b4 := e; omega)
      have HSOL : Hid (RSol W9 (Old W9) [.slice A6 oB.length c6, .slice Ae eB.length ce, .int .i64 cc] ⟨oB, eB, cc⟩) := by
       refine ⟨_, _, rfl, ?_, ?_⟩
       ·exact ROrders.ok.mono HO6.out (fun b hb => Nat.lt_of_lt_of_le hb.2 k69.size) (fun b hb => k69.block b hb.2 (by have h1 : w5.heap.size ≤ b := hb.1; show ¬ b = b4; omega))
       ·refine RIntss.ok.mono (RIntss.ok.mono HRI.out (fun _ h => h) (fun b hb => K6.out.block b hb.2.1 (by simp))) (fun b hb => Nat.lt_of_lt_of_le (Nat.lt_of_lt_of_le hb.2.1 K6.out.size) k69.size) (fun b hb => k69.block b (Nat.lt_of_lt_of_le hb.2.1 K6.out.size) (by have := hb.1; show ¬ b = b4; omega))
      clear hW9 k69 g06 g16 g26 h06 h16 h26
      have g0 := HB9.out.cell 0
      have g1 := HB9.out.cell 1
      have g2 := HB9.out.cell 2
      simp at g0 g1 g2
      go_wp2
      exact bodyPost_ret (v := .tuple #[.agg #[.slice A6 oB.length c6, .slice Ae eB.length ce, .int .i64 cc], .int .i64 (ns : Int), .int .i64 0]) (by simp [results, Try.results14, go_sem, g0, g1, g2]) rfl (by rw [← HPP.out]; exact ⟨_, _, _, by rw [HS.out], by rw [HS.out]; exact HSOL.out, K9.out⟩)

set_option maxRecDepth 100000 in
set_option maxHeartbeats 4000000 in
theorem DispatchErrors_any (p : Pb) (v : PV) (budget : Int) (w : World) (hp : RPb w (Old w) v p) :
  Calls Try.prog 4 #[.agg #[.slice v.A p.ps.length v.c, .slice v.A2 p.at_.length v.c2, .slice v.A3 p.due.length v.c3, .slice v.A4 p.wgt.length v.c4, .int .i64 p.now], .int .i64 budget] w fun e w' => e = .returned (.bool true) ∧ KeepsAll w w' := by
 have HP := Lib.hid hp
 clear hp
 have HS : Hid (∀ W b, RPb W (Old W) v p → Calls Try.prog 13 #[.agg #[.slice v.A p.ps.length v.c, .slice v.A2 p.at_.length v.c2, .slice v.A3 p.due.length v.c3, .slice v.A4 p.wgt.length v.c4, .int .i64 p.now], .int .i64 b] W (SolvePost b p W)) := fun W b hW => DspSolve_any p v W b hW
 have HT : Hid (∀ W b, RPb W (Old W) v p → Calls Try.prog 14 #[.agg #[.slice v.A p.ps.length v.c, .slice v.A2 p.at_.length v.c2, .slice v.A3 p.due.length v.c3, .slice v.A4 p.wgt.length v.c4, .int .i64 p.now], .int .i64 b] W (SolvePost b p W)) := fun W b hW => RSolve_any p v W b hW
 have E1 := Lib.hid ex37_zero
 have E2 := Lib.hid ex37_max
 have E3 := Lib.hid ex37_one
 go_enter Try.func4, Try.ntmps4
 go_upto_region 2 with (fail)
 generalize hW1 : World.alloc w _ = W1
 have K1 : Hid (KeepsAll w W1) := by subst hW1; exact (Keeps.refl _ _).alloc _
 have BP1 : Hid (Blk W1 w.heap.size 25 #[.slice v.A p.ps.length v.c, .slice v.A2 p.at_.length v.c2, .slice v.A3 p.due.length v.c3, .slice v.A4 p.wgt.length v.c4, .int .i64 p.now]) := by subst hW1; exact Blk.new _ _ _
 clear hW1
 generalize w.heap.size = zp at *
 have x0 := BP1.out.cell 0
 have x1 := BP1.out.cell 1
 have x2 := BP1.out.cell 2
 have x3 := BP1.out.cell 3
 have x4 := BP1.out.cell 4
 simp at x0 x1 x2 x3 x4
 go_wp2_with fail
 refine (HS.out _ _ (HP.out.kept K1.out)).mono ?_
 rintro e w2 ⟨a, b, c, rfl, rs, k2⟩
 obtain ⟨Ao, co, Ae, ce, rfl, rfl, rfl, -, -⟩ := rs.form
 have K2 := Lib.hid (K1.out.tr k2)
 have BP2 := Lib.hid (BP1.out.kept k2 (by simp))
 clear rs k2 K1 BP1 x0 x1 x2 x3 x4 HS
 simp only []
 generalize budget.tmod 40 = nb
 generalize hsol : solveP nb p = sp at *
 have HSP : Hid (solveP nb p = sp) := hsol
 clear hsol
 obtain ⟨sl, n1, e1⟩ := sp
 simp only []
 go_upto_region 3 with (fail)
 generalize hW3 : World.alloc w2 _ = W3
 have k3 : KeepsAll w2 W3 := by subst hW3; exact (Keeps.refl _ _).alloc _
 have K3 := Lib.hid (K2.out.tr k3)
 have BP3 := Lib.hid (BP2.out.kept k3 (by simp))
 clear hW3 k3 K2 BP2
 have x0 := BP3.out.cell 0
 have x1 := BP3.out.cell 1
 have x2 := BP3.out.cell 2
 have x3 := BP3.out.cell 3
 have x4 := BP3.out.cell 4
 simp at x0 x1 x2 x3 x4
 go_wp2_with fail
 refine (HT.out _ _ (HP.out.kept K3.out)).mono ?_
 rintro e w4 ⟨a, b, c, rfl, rs, k4⟩
 obtain ⟨Ao2, co2, Ae2, ce2, rfl, rfl, rfl, -, -⟩ := rs.form
 rw [HSP.out]
 have K4 := Lib.hid (K3.out.tr k4)
 clear rs k4 K3 BP3 x0 x1 x2 x3 x4 HT HSP
 simp only []
 go_upto_region 4 with (fail)
 generalize hW5 : World.alloc w4 _ = W5
 have K5 : Hid (KeepsAll w W5) := by subst hW5; exact K4.out.alloc _
 clear hW5 K4
 go_wp2_with fail
 refine (example37_any W5).mono ?_
 rintro e w6 ⟨v1, rfl, r1, k6⟩
 have R6 := Lib.hid r1.old
 have K6 := Lib.hid (K5.out.tr k6)
 clear r1 k6 K5
 go_wp2_with fail
 refine (DspSolve_any ex37 v1 w6 0 R6.out).mono ?_
 rintro e w7 ⟨a, b, c, rfl, rs, k7⟩
 obtain ⟨Ao3, co3, Ae3, ce3, rfl, rfl, rfl, -, -⟩ := rs.form
 rw [E1.out]
 have K7 := Lib.hid (K6.out.tr k7)
 clear rs k7 K6 R6
 simp only []
 generalize (solveP 0 ex37).1.os.length = m1
 generalize (solveP 0 ex37).1.en.length = m2
 generalize (solveP 0 ex37).1.cost = m3
 go_upto_region 5 with (fail)
 generalize hW8 : World.alloc w7 _ = W8
 have K8 : Hid (KeepsAll w W8) := by subst hW8; exact K7.out.alloc _
 clear hW8 K7
 go_wp2_with fail
 refine (example37_any W8).mono ?_
 rintro e w6 ⟨v2, rfl, r1, k6⟩
 have R6 := Lib.hid r1.old
 have K6 := Lib.hid (K8.out.tr k6)
 clear r1 k6 K8
 go_wp2_with fail
 refine (DspSolve_any ex37 v2 w6 1048577 R6.out).mono ?_
 rintro e w7 ⟨a, b, c, rfl, rs, k7⟩
 obtain ⟨Ao4, co4, Ae4, ce4, rfl, rfl, rfl, -, -⟩ := rs.form
 rw [E2.out]
 have K7 := Lib.hid (K6.out.tr k7)
 clear rs k7 K6 R6
 simp only []
 generalize (solveP 1048577 ex37).1.os.length = m4
 generalize (solveP 1048577 ex37).1.en.length = m5
 generalize (solveP 1048577 ex37).1.cost = m6
 go_upto_region 6 with (fail)
 generalize hW8 : World.alloc w7 _ = W9
 have K8 : Hid (KeepsAll w W9) := by subst hW8; exact K7.out.alloc _
 clear hW8 K7
 go_wp2_with fail
 refine (example37_any W9).mono ?_
 rintro e w6 ⟨v3, rfl, r1, k6⟩
 have R6 := Lib.hid r1.old
 have K6 := Lib.hid (K8.out.tr k6)
 clear r1 k6 K8
 go_wp2_with fail
 refine (DspSolve_any ex37 v3 w6 1 R6.out).mono ?_
 rintro e w7 ⟨a, b, c, rfl, rs, k7⟩
 obtain ⟨Ao5, co5, Ae5, ce5, rfl, rfl, rfl, -, -⟩ := rs.form
 rw [E3.out]
 have K7 := Lib.hid (K6.out.tr k7)
 clear rs k7 K6 R6
 simp only []
 generalize (solveP 1 ex37).1.os.length = m7
 generalize (solveP 1 ex37).1.en.length = m8
 generalize (solveP 1 ex37).1.cost = m9
 go_upto_region 7 with (fail)
 generalize hW8 : World.alloc w7 _ = WF
 have K8 : Hid (KeepsAll w WF) := by subst hW8; exact K7.out.alloc _
 clear hW8 K7
 have hnn : (n1 == n1) = true := by simp
 have hee : (e1 == e1) = true := by simp
 go_wp2_with fail
 refine (awake37_any WF).mono ?_
 rintro e wa ⟨rfl, ka⟩
 have KA := Lib.hid (K8.out.tr ka)
 clear ka K8
 go_wp2
 go_ret
 exact ⟨rfl, KA.out⟩

open Go.ChangeShapes Go.WideShapes Go.ChangeAt Go.RowKit

theorem rowOwn : ownKnob Try.prog.godebug = none := by kernel_rfl
theorem rowLaid : laidOutB Try.prog = true := by kernel_rfl

theorem cell_lt {w : World} {p : Addr} {v : Value} (h : w.cell? p = some v) : p.block < w.heap.size := by
 rcases Nat.lt_or_ge p.block w.heap.size with h1 | h1
 ·exact h1
 ·have : w.heap[p.block]? = none := Array.getElem?_eq_none h1
  simp [World.cell?, this] at h

open Go.ChangeShapes Go.WideShapes Go.ChangeAt Go.RowKit

section
variable {H : Type} {enc : TypeId × Value → H} {W : World}
def Opens {α : Type} (enc : TypeId × Value → H) (W : World) (t size : Nat) (E : Rd α) : Prop := ∀ (n : Nat) (cs : List Value) (x : DataW H × List MemPlace), DataW.trod enc Try.prog W 0 (fun _ => true) true n t cs = some x → cs.length = size ∧ ∃ y, E W (Old W) cs y
theorem opens_int : Opens enc W 3 1 RInt := fun n cs x h => by
 obtain ⟨z, rfl, _, _⟩ := DataW.trod_int Try.underlying3 h
 exact ⟨rfl, z, rfl⟩
theorem add_none (b o j : Nat) : (Addr.mk b o none).add j = ⟨b, o + j, none⟩ := by
 unfold Addr.add; split
 ·subst_vars; rfl
 ·simp
theorem opens_slice {α : Type} {T t size : Nat} {E : Rd α} (ht : Try.prog.underlying T = some (.slice t)) (hsz : Try.prog.cellsOf t = size) (hp : 0 < size) (hE : Opens enc W t size E) : Opens enc W T 1 (RSlice size E) := fun n cs x h => by
 rcases Go.Deep.open_slice ht h with ⟨rfl, _⟩ | ⟨a, len, cap, m, n', D, Pl, rfl, _, hl, hm, hmm, _, hel⟩
 ·exact ⟨rfl, [], RSlice.mkNil⟩
 ·refine ⟨rfl, ?_⟩
  rw [hsz] at hel
  have hmc : m = cap := hmm
  by_cases h0 : len = 0
  ·subst h0
   exact ⟨[], some a, cap, rfl, Nat.zero_le _, by simpa [maxLen] using hm, fun h => absurd rfl h⟩
  ·obtain ⟨cs0, hc0, _⟩ := hel 0 (by omega)
   obtain ⟨_, hl0, hcell0⟩ := World.cells?_some hc0
   have hcc := hcell0 0 hp
   have hs0 : cs0[0]? = some (cs0[0]'(by omega)) := List.getElem?_eq_getElem _
   rw [hs0] at hcc
   obtain ⟨b, o, spot⟩ := a
   have hspot : spot = none := by simpa [Addr.add] using World.cell?_spot hcc
   subst hspot
   have hblk : b < W.heap.size := by have := cell_lt hcc; simpa [Addr.add] using this
   obtain ⟨l, hl1, hl2⟩ := list_choose (P := fun j y => ∃ es, es.length = size ∧ E W (Old W) es y ∧ ∀ i u, es[i]? = some u → W.cell? ⟨b, o + (j * size + i), none⟩ = some u) len (fun j hj => by
    obtain ⟨cs', hc, htr⟩ := hel j (by omega)
    obtain ⟨_, hlc, hcell⟩ := World.cells?_some hc
    obtain ⟨hl', y, hy⟩ := hE n' cs' _ htr
    refine ⟨y, cs', hl', hy, fun i u hu => ?_⟩
    have hi : i < size := by rw [← hl']; exact getElem?_lt hu
    have := hcell i hi
    rw [add_none, add_none, hu, Nat.add_assoc] at this
    exact this)
   exact ⟨l, some ⟨b, o, none⟩, cap, by rw [hl1], by omega, by simpa [maxLen] using hm, fun _ => ⟨b, o, rfl, hblk, hl2⟩⟩
theorem four {cs : List Value} (h : cs.length = 4) : ∃ a b c d, cs = [a, b, c, d] := by
 match cs, h with
 | [a, b, c, d], _ => exact ⟨a, b, c, d, rfl⟩
theorem two {cs : List Value} (h : cs.length = 2) : ∃ a b, cs = [a, b] := by
 match cs, h with
 | [a, b], _ => exact ⟨a, b, rfl⟩
theorem some_of {α : Type} {xs : List α} {i n : Nat} {z : Option α} (hl : xs.length = n) (hi : i < n) (h : z = xs[i]?) : ∃ x, z = some x := ⟨xs[i]'(by omega), by rw [h]; exact List.getElem?_eq_getElem _⟩
theorem opens_ints : Opens enc W 22 1 RInts := opens_slice Try.underlying22 (by kernel_rfl) (by omega) opens_int
theorem opens_stage : Opens enc W 99 4 RStage := fun n cs x h => by
 obtain ⟨xs, m, _, _, hl, hxl, hf⟩ := DataW.trod_struct Try.underlying99 h
 have hc : Try.prog.cellsOf 99 = 4 := by kernel_rfl
 have hci : Try.prog.cellsOf 3 = 1 := by kernel_rfl
 have hcs : Try.prog.cellsOf 22 = 1 := by kernel_rfl
 rw [hc] at hl
 obtain ⟨a, b, c, d, rfl⟩ := four hl
 refine ⟨rfl, ?_⟩
 have q0 : DataW.trod enc Try.prog W 0 (fun _ => true) true m 3 (([a, b, c, d].drop 0).take (Try.prog.cellsOf 3)) = xs[0]? := hf 0 _ rfl
 have q1 : DataW.trod enc Try.prog W 0 (fun _ => true) true m 22 (([a, b, c, d].drop 1).take (Try.prog.cellsOf 22)) = xs[1]? := hf 1 _ rfl
 have q2 : DataW.trod enc Try.prog W 0 (fun _ => true) true m 3 (([a, b, c, d].drop 2).take (Try.prog.cellsOf 3)) = xs[2]? := hf 2 _ rfl
 have q3 : DataW.trod enc Try.prog W 0 (fun _ => true) true m 3 (([a, b, c, d].drop 3).take (Try.prog.cellsOf 3)) = xs[3]? := hf 3 _ rfl
 rw [hci] at q0 q2 q3
 rw [hcs] at q1
 obtain ⟨x0, h0⟩ := some_of hxl (i := 0) (by simp) q0
 obtain ⟨x1, h1⟩ := some_of hxl (i := 1) (by simp) q1
 obtain ⟨x2, h2⟩ := some_of hxl (i := 2) (by simp) q2
 obtain ⟨x3, h3⟩ := some_of hxl (i := 3) (by simp) q3
 obtain ⟨z0, e0, _, _⟩ := DataW.trod_int Try.underlying3 h0
 obtain ⟨_, z1, e1⟩ := opens_ints m _ _ h1
 obtain ⟨z2, e2, _, _⟩ := DataW.trod_int Try.underlying3 h2
 obtain ⟨z3, e3, _, _⟩ := DataW.trod_int Try.underlying3 h3
 injection e0 with e0; injection e2 with e2; injection e3 with e3
 subst e0 e2 e3
 exact ⟨⟨z0, z1, z2, z3⟩, b, rfl, e1⟩
theorem opens_paths : Opens enc W 23 1 RPaths := opens_slice Try.underlying23 (by kernel_rfl) (by omega) (opens_slice Try.underlying100 (by kernel_rfl) (by omega) opens_stage)

end

end Go.Proofs.Ytilbbpbjhoidhaa
