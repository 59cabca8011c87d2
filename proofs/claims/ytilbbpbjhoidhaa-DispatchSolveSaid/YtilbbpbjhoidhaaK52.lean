/- Contract of the reference's Solve of chapter 37, for made problems. Conditions: as the theorem says. -/
import Derived.Test.YtilbbpbjhoidhaaK51
import Derived.Test.YtilbbpbjhoidhaaK43
namespace Go.Proofs.Ytilbbpbjhoidhaa
open Go.RowKit

theorem xs_empty_decs (p : Pb) : decs p.ps (xs p) [] = [] := by unfold decs; cases xs p <;> rfl
theorem goOn_nil {p : Pb} (hc : checkP p = true) : goOn p [] ⟨0, none⟩ = true := by
 unfold goOn
 rw [xs_empty_decs, okD_nil (checkP_Gd hc)]
 rfl
/-- what a whole search leaves is a complete consistent choice -/
theorem search_bef {p : Pb} (hc : checkP p = true) (hm : psMade p.ps) {budget : Nat} {bb : List Bool} {cc : Int} (h : (searchD budget p).2.best = some (bb, cc)) : bb.length = (xs p).length ∧ arrL p bb 144 = ordB p bb ∧ ∀ r : Nat, r < 144 → ∀ u ∈ openA p.ps p.at_ (r : Int), befB p bb (r : Int) u < (openA p.ps p.at_ (r : Int)).length := by
 obtain ⟨h1, h2, _⟩ := (search_ok hc budget).1 bb cc h
 exact ⟨h1, arr_eq (checkP_ok hc).v (checkP_Gd hc) hm h1 h2, fun r hr => (bef_at (checkP_ok hc).v (checkP_Gd hc) hm h1 h2 hr).2⟩

set_option maxRecDepth 100000 in
set_option maxHeartbeats 2000000 in
theorem RSolve_made (p : Pb) (v : PV) (w : World) (budget : Int) (h : RPb w (Old w) v p) (hm : psMade p.ps) :
  Calls Try.prog 14 #[.agg (v.cs p), .int .i64 budget] w (SolvePost budget p w) := by
 have HCK : Hid (∀ W, KeepsAll w W → Calls Try.prog 21 #[.agg #[.slice v.A p.ps.length v.c, .slice v.A2 p.at_.length v.c2, .slice v.A3 p.due.length v.c3, .slice v.A4 p.wgt.length v.c4, .int .i64 p.now]] W fun e w' => e = .returned (.bool (checkP p)) ∧ KeepsAll W w') := fun W hW => RDspCheck_any p v W (h.kept hW)
 have H := Lib.hid h
 have HM := Lib.hid hm
 clear h hm
 unfold PV.cs
 generalize hPP : SolvePost budget p w = PP
 have HPP := Lib.hid hPP
 clear hPP
 go_enter Try.func14, Try.ntmps14
 go_wp2_with fail
 refine (HCK.out _ (((Keeps.refl _ _).alloc _).alloc _)).mono ?_
 rintro e w1 ⟨rfl, k1⟩
 have BP : Hid (Blk w1 w.heap.size 25 #[.slice v.A p.ps.length v.c, .slice v.A2 p.at_.length v.c2, .slice v.A3 p.due.length v.c3, .slice v.A4 p.wgt.length v.c4, .int .i64 p.now]) := ((Blk.new _ _ _).alloc _).kept k1 (by simp)
 have B4 : Hid (Blk w1 (w.heap.size + 1) 31 #[.slice none 0 0, .slice none 0 0, .int .i64 0]) := (Blk.new' _ _ _ (by simp)).kept k1 (by simp)
 have K1 : Hid (KeepsAll w w1) := (((Keeps.refl _ _).alloc _).alloc _).tr k1
 clear k1
 obtain ⟨b4, hb4⟩ : ∃ b, b = w.heap.size + 1 := ⟨_, rfl⟩
 rw [← hb4] at B4 ⊢
 have hlt4 : w.heap.size < b4 := by omega
 clear hb4
 have c40 := B4.out.cell 0
 have c41 := B4.out.cell 1
 have c42 := B4.out.cell 2
 simp at c40 c41 c42
 have e40 := B4.out.frozen 0
 have e41 := B4.out.frozen 1
 have e42 := B4.out.frozen 2
 have l4 := B4.out.lt
 cases hc : checkP p with
 | false =>
  have HS : Hid (solveP budget p = (sol0, 0, 1)) := by show _ = _; unfold solveP; rw [if_pos hc]
  clear hc HCK BP
  go_wp2
  generalize hW3 : World.setCell (World.setCell (World.setCell w1 _ _) _ _) _ _ = W3
  have HB3 : Hid (Blk W3 b4 31 #[.slice none 0 0, .slice none 0 0, .int .i64 0]) := by subst hW3; exact ((B4.out.set_ 0 _).set_ 1 _).set_ 2 _
  have K3 : Hid (KeepsAll w W3) := by subst hW3; exact (((K1.out.setCell (p := ⟨b4, 0, none⟩) (fun h => absurd h (by simp; omega)) _).setCell (p := ⟨b4, 1, none⟩) (fun h => absurd h (by simp; omega)) _).setCell (p := ⟨b4, 2, none⟩) (fun h => absurd h (by simp; omega)) _)
  clear hW3 c40 c41 c42
  have c40 := HB3.out.cell 0
  have c41 := HB3.out.cell 1
  have c42 := HB3.out.cell 2
  simp at c40 c41 c42
  exact bodyPost_ret (v := .tuple #[.agg #[.slice none 0 0, .slice none 0 0, .int .i64 0], .int .i64 0, .int .i64 1]) (by simp [results, Try.results14, go_sem, c40, c41, c42]) rfl (by rw [← HPP.out]; exact SolvePost.zero HS.out K3.out)
 | true =>
  by_cases hr : budget < 1 ∨ 1048576 < budget
  ·have HS : Hid (solveP budget p = (sol0, 0, 4)) := by show _ = _; unfold solveP; rw [if_neg (by rw [hc]; simp), if_pos hr]
   have hr' : decide (budget < 1) = true ∨ decide (budget < 1) = false ∧ decide (1048576 < budget) = true := by simp; omega
   clear hr hc HCK BP
   rcases hr' with hr1 | ⟨hr1, hr2⟩
   all_goals
    go_wp2
    generalize hW3 : World.setCell (World.setCell (World.setCell w1 _ _) _ _) _ _ = W3
    have HB3 : Hid (Blk W3 b4 31 #[.slice none 0 0, .slice none 0 0, .int .i64 0]) := by subst hW3; exact ((B4.out.set_ 0 _).set_ 1 _).set_ 2 _
    have K3 : Hid (KeepsAll w W3) := by subst hW3; exact (((K1.out.setCell (p := ⟨b4, 0, none⟩) (fun h => absurd h (by simp; omega)) _).setCell (p := ⟨b4, 1, none⟩) (fun h => absurd h (by simp; omega)) _).setCell (p := ⟨b4, 2, none⟩) (fun h => absurd h (by simp; omega)) _)
    clear hW3 c40 c41 c42
    have c40 := HB3.out.cell 0
    have c41 := HB3.out.cell 1
    have c42 := HB3.out.cell 2
    simp at c40 c41 c42
    exact bodyPost_ret (v := .tuple #[.agg #[.slice none 0 0, .slice none 0 0, .int .i64 0], .int .i64 0, .int .i64 4]) (by simp [results, Try.results14, go_sem, c40, c41, c42]) rfl (by rw [← HPP.out]; exact SolvePost.zero HS.out K3.out)
  ·obtain ⟨nb, rfl⟩ : ∃ n : Nat, budget = (n : Int) := ⟨budget.toNat, by omega⟩
   have hr1 : decide ((nb : Int) < 1) = false := by simp; omega
   have hr2 : decide (1048576 < (nb : Int)) = false := by simp; omega
   have hnb : 1 ≤ nb ∧ nb ≤ 1048576 := by omega
   have HC := Lib.hid hc
   have HSV : Hid (solveP (nb : Int) p = (if (searchD nb p).1 = false then (sol0, (0 : Int), (15 : Int)) else match (searchD nb p).2.best with
    | none => (sol0, ((searchD nb p).2.steps : Int), (19 : Int))
    | some b => (⟨ordB p b.1, entB p b.1, b.2⟩, ((searchD nb p).2.steps : Int), (0 : Int)) : Soln × Int × Int)) := by
    show _ = _
    unfold solveP
    rw [if_neg (by rw [hc]; simp), if_neg hr]
    rfl
   have HPA : Hid (∀ W, KeepsAll w W → Calls Try.prog 22 #[.agg #[.slice v.A p.ps.length v.c, .slice v.A2 p.at_.length v.c2, .slice v.A3 p.due.length v.c3, .slice v.A4 p.wgt.length v.c4, .int .i64 p.now]] W fun e w' => ∃ A c, e = .returned (.slice A (xs p).length c) ∧ RSlice 5 RPr w' (Fresh W w') [.slice A (xs p).length c] (xs p) ∧ KeepsAll W w') := fun W hW =>
    RPairs_any p v W (H.out.kept hW) (checkP_ok hc).v (checkP_Gd hc).1
   clear hc hr HCK c40 c41 c42 e40 e41 e42
   have p0 := BP.out.cell 0
   have p1 := BP.out.cell 1
   have p2 := BP.out.cell 2
   have p3 := BP.out.cell 3
   have p4 := BP.out.cell 4
   simp at p0 p1 p2 p3 p4
   go_upto_region 5 with (fail)
   refine wp_region_lexB (fun w' => ∃ y : Ext w1, w' = y.val) [0, 1, 3, 2, 4, 5, 6] (by kernel_rfl) (by kernel_rfl) ⟨⟨_, (Keeps.refl _ _).drew⟩, rfl⟩ ?_
   have y0 := Ext.cell p0
   have y1 := Ext.cell p1
   have y2 := Ext.cell p2
   have y3 := Ext.cell p3
   have y4 := Ext.cell p4
   iterate 3 (refine lex_q _ rfl rfl rfl ?_; go_big_quiet_step (fail); refine wpQuiet_nil ?_)
   clear y0 y1 y2 y3 y4
   refine lex_a _ rfl rfl true (by kernel_rfl) ?_
   go_wp2_with fail
   have kd : KeepsAll w1 w1.drew := (Keeps.refl _ _).drew
   refine (HPA.out w1.drew (K1.out.tr kd)).mono ?_
   rintro e w2 ⟨Ap, cp, rfl, hpr, k2⟩
   have HPR := Lib.hid hpr
   have K2 := Lib.hid (kd.tr k2)
   clear kd k2 hpr HPA
   go_wp2
   refine ⟨fun _ => ⟨⟨_, K2.out⟩, rfl⟩, ?_⟩
   refine lex_q _ rfl rfl rfl ?_; go_big_quiet_step (fail); refine wpQuiet_nil ?_
   refine lex_a _ rfl rfl true (by kernel_rfl) ?_
   go_wp2
   refine ⟨fun _ => ⟨⟨_, K2.out.alloc _⟩, rfl⟩, ?_⟩
   refine lex_q _ rfl rfl rfl ?_; go_big_quiet_step (fail); refine wpQuiet_nil ?_
   simp only [wpLex]
   refine NoPanic.normal ?_
   generalize hW3 : World.alloc w2 _ = W3
   have hk3 : KeepsAll w2 W3 := by subst hW3; exact (Keeps.refl _ _).alloc _
   have hb3 : Blk W3 w2.heap.size 90 (rdC v p Ap cp nb 0 (.slice none 0 0) false (.slice none 0 0) 0 (.slice none 0 0)) := by subst hW3; exact Blk.new _ _ _
   have HB43 := Lib.hid ((B4.out.kept K2.out (by simp)).kept hk3 (by simp))
   have HB42 := Lib.hid (B4.out.kept K2.out (by simp))
   have K3 := Lib.hid ((K1.out.tr K2.out).tr hk3)
   have hrd : RDs w2 w2.heap.size v p Ap cp nb W3 [] ⟨0, none⟩ := by
    refine ⟨hk3, H.out.kept (K1.out.tr K2.out), Nat.le_refl _, RPrs.ok.mono HPR.out (fun b hb => hb.2) (fun b hb => hk3.block b hb.2 (by simp)), _, _, _, _, _, hb3, OwnL.nil, rfl⟩
   have HRD := Lib.hid hrd
   have q5 := hb3.cell 5
   simp [rdC] at q5
   have hz3 := hb3.lt
   have hz12 := K2.out.size
   have HK02 : Hid (KeepsAll w w2) := K1.out.tr K2.out
   clear hW3 hk3 hb3 hrd HPR K2 K1 B4 BP p0 p1 p2 p3 p4
   obtain ⟨rb, hrb⟩ : ∃ z, z = w2.heap.size := ⟨_, rfl⟩
   rw [← hrb] at HRD q5 hz3 ⊢
   have hb4r : b4 < rb := by rw [hrb]; omega
   clear hrb
   have HBU : Hid (nb ≤ 1048576) := hnb.2
   by_cases hn0 : (xs p).length = 0
   ·have hxs : xs p = [] := List.eq_nil_of_length_eq_zero hn0
    have hsd : searchD nb p = (true, ⟨0, some ([], costD p (decs p.ps (xs p) []))⟩) := by rw [searchD_eq, hn0]; rfl
    rw [hn0] at q5
    have HLK := Lib.hid (look_any w2 rb v p Ap cp nb W3 [] ⟨0, none⟩ HRD.out HC.out HM.out.1 (by simp))
    have HGO := Lib.hid (goOn_nil HC.out)
    go_wp2_with fail
    refine HLK.out.mono ?_
    rintro e w4 ⟨ve, c0, rfl, k4, hlk⟩
    rw [HGO.out]
    obtain ⟨hcc, hen⟩ := hlk HGO.out
    obtain ⟨Ae, ce, rfl⟩ := RSlice.form hen
    obtain ⟨vf, fd, vb, vc, ve0, hb, ho, _⟩ := HRD.out.b
    have hb4' := hb.kept k4 (by simp)
    have ho4' := ho.keepsF RBool.flat k4 (by simp)
    have hed : RIntss w4 (SBt rb w4 vf) [.slice Ae (entB p []).length ce] (entB p []) := RIntss.ok.mono hen (fun z hz => ⟨by have h1 : W3.heap.size ≤ z := hz.1; have := hb.lt; omega, hz.2, fun e => by have h1 : W3.heap.size ≤ z := hz.1; have := (ho.lt e).2; omega⟩) (fun _ _ => rfl)
    have HRD4 := Lib.hid (HRD.out.keep k4)
    have HCM := Lib.hid (RDcomp_any w4 rb v p Ap cp nb 0 vf fd vb vc ve0 [] Ae ce c0 (entB p []) hb4' ho4' hed (by simp))
    have HBD := Lib.hid hb4'
    have HB44 := Lib.hid (HB43.out.kept k4 (by simp))
    have K4 := Lib.hid (K3.out.tr k4)
    have HCC := Lib.hid hcc
    clear hb ho hb4' ho4' hed hlk hen hcc HLK HRD k4 HB43 K3 q5
    go_wp2_with fail
    refine HCM.out.mono ?_
    rintro e w5 ⟨rfl, vb', hb5, ho5, h15, h25, k5⟩
    have HR5 : Hid (RDs w2 rb v p Ap cp nb w5 [] (searchD nb p).2) := by
     have := HRD4.out.comp HBD.out rfl k5 hb5 ho5 h15 h25
     rw [HCC.out] at this
     rw [hsd]
     exact this
    have hs1 : (searchD nb p).1 = true := by rw [hsd]
    have HRT := Lib.hid HR5.out
    have HBT := Lib.hid (HB44.out.kept k5 (by show ¬ b4 = rb; omega))
    have KT : Hid (KeepsAll w w5) := K4.out.trans k5 (fun b hb e => by have e : b = rb := e; omega)
    have HS1 := Lib.hid hs1
    clear HR5 HB44 K4 k5 hb5 ho5 h15 h25 HCM HRD4 HBD HCC hs1 hsd hxs hn0 HGO
    obtain ⟨vf, fd, vb, vc, ve0, hb, ho, hbest⟩ := HRT.out.b
    have q7 := hb.cell 7
    have q8 := hb.cell 8
    have q9 := hb.cell 9
    have q11 := hb.cell 11
    have q12 := hb.cell 12
    simp [rdC] at q7 q8 q9 q11 q12
    have hzb := hb.lt
    have g0 := HBT.out.cell 0
    have g1 := HBT.out.cell 1
    have g2 := HBT.out.cell 2
    simp at g0 g1 g2
    have h0 := HBT.out.frozen 0
    have h1 := HBT.out.frozen 1
    have h2 := HBT.out.frozen 2
    have l4 := HBT.out.lt
    clear hb ho
    cases hbst : (searchD nb p).2.best with
    | none =>
     unfold RBest at hbest
     rw [hbst] at hbest
     have hbest : fd = false := hbest
     subst hbest
     have HS : Hid (solveP (nb : Int) p = (sol0, ((searchD nb p).2.steps : Int), 19)) := by show _ = _; rw [HSV.out, if_neg (by rw [HS1.out]; simp), hbst]
     clear hbst HSV HRT
     generalize (searchD nb p).2.steps = ns at *
     go_wp2_with fail
     refine wp_region_lexB (fun w' => ∃ y : ExtC (fun b => b = b4) w5, w' = y.val) [0, 1, 2, 3, 4, 5, 6, 7] (by kernel_rfl) (by kernel_rfl) (ExtC.start _ _) ?_
     have y7 := ExtC.cell (C := fun b => b = b4) q7 (by show ¬ rb = b4; omega)
     iterate 5 (first | (refine lex_q _ rfl rfl rfl ?_; go_big_quiet_step (fail); refine wpQuiet_nil ?_) | (refine lex_nil _ rfl _ rfl rfl _ rfl ?_; go_simp))
     clear y7
     refine lex_a _ rfl rfl true (by kernel_rfl) ?_
     go_wp2
     refine ⟨fun _ => ⟨⟨_, ((((Keeps.refl (fun b => b = b4) w5).setCell (p := ⟨b4, 0, none⟩) (fun _ => rfl) _).setCell (p := ⟨b4, 1, none⟩) (fun _ => rfl) _).setCell (p := ⟨b4, 2, none⟩) (fun _ => rfl) _).drew⟩, rfl⟩, ?_⟩
     iterate 2 (refine lex_q _ rfl rfl rfl ?_; go_big_quiet_step (fail); refine wpQuiet_nil ?_)
     simp only [wpLex]
     refine NoPanic.normal ?_
     generalize hW9 : World.drew (World.setCell (World.setCell (World.setCell w5 _ _) _ _) _ _) = W9
     have HB9 : Hid (Blk W9 b4 31 #[.slice none 0 0, .slice none 0 0, .int .i64 0]) := by subst hW9; exact (((HBT.out.set_ 0 _).set_ 1 _).set_ 2 _).drew_
     have K9 : Hid (KeepsAll w W9) := by subst hW9; exact (((KT.out.setCell (p := ⟨b4, 0, none⟩) (fun h => absurd h (by simp; omega)) _).setCell (p := ⟨b4, 1, none⟩) (fun h => absurd h (by simp; omega)) _).setCell (p := ⟨b4, 2, none⟩) (fun h => absurd h (by simp; omega)) _).drew
     clear hW9 g0 g1 g2
     have g0 := HB9.out.cell 0
     have g1 := HB9.out.cell 1
     have g2 := HB9.out.cell 2
     simp at g0 g1 g2
     go_wp2
     exact bodyPost_ret (v := .tuple #[.agg #[.slice none 0 0, .slice none 0 0, .int .i64 0], .int .i64 (ns : Int), .int .i64 19]) (by simp [results, Try.results14, go_sem, g0, g1, g2]) rfl (by rw [← HPP.out]; exact SolvePost.zero HS.out K9.out)
    | some bc =>
     obtain ⟨bb, cc⟩ := bc
     obtain ⟨hsb1, hsb2, hsb3⟩ := search_bef HC.out HM.out hbst
     have HAR := Lib.hid (arranged_any w2 rb v p Ap cp nb w5.drew [] _ bb cc (HRT.out.keep (Keeps.refl _ _).drew) hbst (checkP_ok HC.out).v (checkP_Gd HC.out).1 hsb1 hsb3)
     rw [hsb2] at HAR
     unfold RBest at hbest
     rw [hbst] at hbest
     obtain ⟨hfd, hvc, _, hri⟩ := hbest
     subst hfd
     obtain rfl : cc = vc := hvc.symm
     have hri : RIntss w5 (SBt rb w5 vf) [ve0] (entB p bb) := hri
     obtain ⟨Ae, ce, rfl⟩ := RSlice.form hri
     have HRI := Lib.hid hri
     have HS : Hid (solveP (nb : Int) p = (⟨ordB p bb, entB p bb, cc⟩, ((searchD nb p).2.steps : Int), 0)) := by show _ = _; rw [HSV.out, if_neg (by rw [HS1.out]; simp), hbst]
     clear hbst HSV HRT hsb1 hsb2 hsb3 hri
     generalize (searchD nb p).2.steps = ns at *
     generalize ordB p bb = oB at *
     generalize entB p bb = eB at *
     go_wp2_with fail
     refine wp_region_lexB (fun w' => ∃ y : ExtC (fun b => b = b4) w5, w' = y.val) [0, 2, 3, 4, 5, 6, 7, 8, 9, 11, 12, 13, 14, 1, 10, 15, 16, 17] (by kernel_rfl) (by kernel_rfl) (ExtC.start _ _) ?_
     have y7 := ExtC.cell (C := fun b => b = b4) q7 (by show ¬ rb = b4; omega)
     have y11 := ExtC.cell (C := fun b => b = b4) q11 (by show ¬ rb = b4; omega)
     have y12 := ExtC.cell (C := fun b => b = b4) q12 (by show ¬ rb = b4; omega)
     iterate 13 (first | (refine lex_q _ rfl rfl rfl ?_; go_big_quiet_step (fail); refine wpQuiet_nil ?_) | (refine lex_nil _ rfl _ rfl rfl _ rfl ?_; go_simp))
     clear y7 y11 y12
     refine lex_a _ rfl rfl true (by kernel_rfl) ?_
     go_wp2_with fail
     refine HAR.out.mono ?_
     rintro e w6 ⟨A6, c6, rfl, ho6, k6d⟩
     have k6 : KeepsAll w5 w6 := ((Keeps.refl _ _).drew : KeepsAll w5 w5.drew).tr k6d
     have HO6 := Lib.hid ho6
     have K6 := Lib.hid k6
     have g06 := k6.cellK (p := ⟨b4, 0, none⟩) l4 g0
     have g16 := k6.cellK (p := ⟨b4, 1, none⟩) l4 g1
     have g26 := k6.cellK (p := ⟨b4, 2, none⟩) l4 g2
     have h06 := (HBT.out.kept k6 (by simp)).frozen 0
     have h16 := (HBT.out.kept k6 (by simp)).frozen 1
     have h26 := (HBT.out.kept k6 (by simp)).frozen 2
     have l46 := Nat.lt_of_lt_of_le l4 k6.size
     clear ho6 k6 k6d HAR g0 g1 g2 h0 h1 h2
     go_wp2
     refine ⟨fun _ => ⟨⟨_, K6.out.mono (fun _ _ e => e.elim)⟩, rfl⟩, ?_⟩
     refine lex_q _ rfl rfl rfl ?_; go_big_quiet_step (fail); refine wpQuiet_nil ?_
     refine lex_a _ rfl rfl true (by kernel_rfl) ?_
     go_wp2
     refine ⟨fun _ => ⟨⟨_, ((((K6.out.mono (C := fun b => b = b4) (fun _ _ e => e.elim)).setCell (p := ⟨b4, 0, none⟩) (fun _ => rfl) _).setCell (p := ⟨b4, 1, none⟩) (fun _ => rfl) _).setCell (p := ⟨b4, 2, none⟩) (fun _ => rfl) _)⟩, rfl⟩, ?_⟩
     iterate 2 (refine lex_q _ rfl rfl rfl ?_; go_big_quiet_step (fail); refine wpQuiet_nil ?_)
     simp only [wpLex]
     refine NoPanic.normal ?_
     generalize hW9 : World.setCell (World.setCell (World.setCell w6 _ _) _ _) _ _ = W9
     have HB9 : Hid (Blk W9 b4 31 #[.slice A6 oB.length c6, .slice Ae eB.length ce, .int .i64 cc]) := by subst hW9; exact (((HBT.out.kept K6.out (by simp)).set_ 0 _).set_ 1 _).set_ 2 _
     have k69 : Keeps (fun b => b = b4) w6 W9 := by subst hW9; exact (((Keeps.refl (fun b => b = b4) w6).setCell (p := ⟨b4, 0, none⟩) (fun _ => rfl) _).setCell (p := ⟨b4, 1, none⟩) (fun _ => rfl) _).setCell (p := ⟨b4, 2, none⟩) (fun _ => rfl) _
     have K9 : Hid (KeepsAll w W9) := (KT.out.tr K6.out).trans k69 (fun b hb e => by have e : b = b4 := e; omega)
     have HSOL : Hid (RSol W9 (Old W9) [.slice A6 oB.length c6, .slice Ae eB.length ce, .int .i64 cc] ⟨oB, eB, cc⟩) := by
      refine ⟨_, _, rfl, ?_, ?_⟩
      ·exact ROrders.ok.mono HO6.out (fun b hb => Nat.lt_of_lt_of_le hb.2 k69.size) (fun b hb => k69.block b hb.2 (by have h1 : w5.heap.size ≤ b := hb.1; show ¬ b = b4; omega))
      ·refine RIntss.ok.mono (RIntss.ok.mono HRI.out (fun _ h => h) (fun b hb => K6.out.block b hb.2.1 (by simp))) (fun b hb => Nat.lt_of_lt_of_le (Nat.lt_of_lt_of_le hb.2.1 K6.out.size) k69.size) (fun b hb => k69.block b (Nat.lt_of_lt_of_le hb.2.1 K6.out.size) (by have := hb.1; show ¬ b = b4; omega))
     clear hW9 k69 g06 g16 g26 h06 h16 h26
     have g0 := HB9.out.cell 0
     have g1 := HB9.out.cell 1
     have g2 := HB9.out.cell 2
     simp at g0 g1 g2
     go_wp2
     exact bodyPost_ret (v := .tuple #[.agg #[.slice A6 oB.length c6, .slice Ae eB.length ce, .int .i64 cc], .int .i64 (ns : Int), .int .i64 0]) (by simp [results, Try.results14, go_sem, g0, g1, g2]) rfl (by rw [← HPP.out]; exact ⟨_, _, _, by rw [HS.out], by rw [HS.out]; exact HSOL.out, K9.out⟩)
   ·have hne : (((xs p).length : Int) == 0) = false := by simp; intro e; exact hn0 (by rw [e]; rfl)
    have HDC := Lib.hid (rdecide_any w2 rb v p Ap cp nb HC.out HM.out.1 hnb.2 (xs p).length [] ⟨0, none⟩ W3 (by omega) (by simp) (Nat.zero_le _) HRD.out)
    have HSE : Hid (decF nb p (xs p).length [] ⟨0, none⟩ = searchD nb p) := rfl
    rw [HSE.out] at HDC
    go_wp2_with fail
    refine HDC.out.mono ?_
    rintro e w5 ⟨rfl, k5, hrr⟩
    have KT := Lib.hid (HK02.out.tr k5)
    have HBT := Lib.hid (HB42.out.kept k5 (by simp))
    cases hs1 : (searchD nb p).1 with
    | false =>
     have HS : Hid (solveP (nb : Int) p = (sol0, 0, 15)) := by show _ = _; rw [HSV.out, if_pos hs1]
     clear hrr hs1 HSV HDC HRD HB43 HB42 K3 k5 q5 hne HSE
     have g0 := HBT.out.cell 0
     have g1 := HBT.out.cell 1
     have g2 := HBT.out.cell 2
     simp at g0 g1 g2
     have h0 := HBT.out.frozen 0
     have h1 := HBT.out.frozen 1
     have h2 := HBT.out.frozen 2
     have l4 := HBT.out.lt
     go_wp2
     generalize hW9 : World.setCell (World.setCell (World.setCell w5 _ _) _ _) _ _ = W9
     have HB9 : Hid (Blk W9 b4 31 #[.slice none 0 0, .slice none 0 0, .int .i64 0]) := by subst hW9; exact ((HBT.out.set_ 0 _).set_ 1 _).set_ 2 _
     have K9 : Hid (KeepsAll w W9) := by subst hW9; exact (((KT.out.setCell (p := ⟨b4, 0, none⟩) (fun h => absurd h (by simp; omega)) _).setCell (p := ⟨b4, 1, none⟩) (fun h => absurd h (by simp; omega)) _).setCell (p := ⟨b4, 2, none⟩) (fun h => absurd h (by simp; omega)) _)
     clear hW9 g0 g1 g2
     have g0 := HB9.out.cell 0
     have g1 := HB9.out.cell 1
     have g2 := HB9.out.cell 2
     simp at g0 g1 g2
     exact bodyPost_ret (v := .tuple #[.agg #[.slice none 0 0, .slice none 0 0, .int .i64 0], .int .i64 0, .int .i64 15]) (by simp [results, Try.results14, go_sem, g0, g1, g2]) rfl (by rw [← HPP.out]; exact SolvePost.zero HS.out K9.out)
    | true =>
     have HRT := Lib.hid (hrr hs1).1
     have HS1 := Lib.hid hs1
     clear hrr hs1 HDC HRD HB43 HB42 K3 k5 q5 hne HSE hn0
     obtain ⟨vf, fd, vb, vc, ve0, hb, ho, hbest⟩ := HRT.out.b
     have q7 := hb.cell 7
     have q8 := hb.cell 8
     have q9 := hb.cell 9
     have q11 := hb.cell 11
     have q12 := hb.cell 12
     simp [rdC] at q7 q8 q9 q11 q12
     have hzb := hb.lt
     have g0 := HBT.out.cell 0
     have g1 := HBT.out.cell 1
     have g2 := HBT.out.cell 2
     simp at g0 g1 g2
     have h0 := HBT.out.frozen 0
     have h1 := HBT.out.frozen 1
     have h2 := HBT.out.frozen 2
     have l4 := HBT.out.lt
     clear hb ho
     cases hbst : (searchD nb p).2.best with
     | none =>
      unfold RBest at hbest
      rw [hbst] at hbest
      have hbest : fd = false := hbest
      subst hbest
      have HS : Hid (solveP (nb : Int) p = (sol0, ((searchD nb p).2.steps : Int), 19)) := by show _ = _; rw [HSV.out, if_neg (by rw [HS1.out]; simp), hbst]
      clear hbst HSV HRT
      generalize (searchD nb p).2.steps = ns at *
      go_wp2_with fail
      refine wp_region_lexB (fun w' => ∃ y : ExtC (fun b => b = b4) w5, w' = y.val) [0, 1, 2, 3, 4, 5, 6, 7] (by kernel_rfl) (by kernel_rfl) (ExtC.start _ _) ?_
      have y7 := ExtC.cell (C := fun b => b = b4) q7 (by show ¬ rb = b4; omega)
      iterate 5 (first | (refine lex_q _ rfl rfl rfl ?_; go_big_quiet_step (fail); refine wpQuiet_nil ?_) | (refine lex_nil _ rfl _ rfl rfl _ rfl ?_; go_simp))
      clear y7
      refine lex_a _ rfl rfl true (by kernel_rfl) ?_
      go_wp2
      refine ⟨fun _ => ⟨⟨_, ((((Keeps.refl (fun b => b = b4) w5).setCell (p := ⟨b4, 0, none⟩) (fun _ => rfl) _).setCell (p := ⟨b4, 1, none⟩) (fun _ => rfl) _).setCell (p := ⟨b4, 2, none⟩) (fun _ => rfl) _).drew⟩, rfl⟩, ?_⟩
      iterate 2 (refine lex_q _ rfl rfl rfl ?_; go_big_quiet_step (fail); refine wpQuiet_nil ?_)
      simp only [wpLex]
      refine NoPanic.normal ?_
      generalize hW9 : World.drew (World.setCell (World.setCell (World.setCell w5 _ _) _ _) _ _) = W9
      have HB9 : Hid (Blk W9 b4 31 #[.slice none 0 0, .slice none 0 0, .int .i64 0]) := by subst hW9; exact (((HBT.out.set_ 0 _).set_ 1 _).set_ 2 _).drew_
      have K9 : Hid (KeepsAll w W9) := by subst hW9; exact (((KT.out.setCell (p := ⟨b4, 0, none⟩) (fun h => absurd h (by simp; omega)) _).setCell (p := ⟨b4, 1, none⟩) (fun h => absurd h (by simp; omega)) _).setCell (p := ⟨b4, 2, none⟩) (fun h => absurd h (by simp; omega)) _).drew
      clear hW9 g0 g1 g2
      have g0 := HB9.out.cell 0
      have g1 := HB9.out.cell 1
      have g2 := HB9.out.cell 2
      simp at g0 g1 g2
      go_wp2
      exact bodyPost_ret (v := .tuple #[.agg #[.slice none 0 0, .slice none 0 0, .int .i64 0], .int .i64 (ns : Int), .int .i64 19]) (by simp [results, Try.results14, go_sem, g0, g1, g2]) rfl (by rw [← HPP.out]; exact SolvePost.zero HS.out K9.out)
     | some bc =>
      obtain ⟨bb, cc⟩ := bc
      obtain ⟨hsb1, hsb2, hsb3⟩ := search_bef HC.out HM.out hbst
      have HAR := Lib.hid (arranged_any w2 rb v p Ap cp nb w5.drew [] _ bb cc (HRT.out.keep (Keeps.refl _ _).drew) hbst (checkP_ok HC.out).v (checkP_Gd HC.out).1 hsb1 hsb3)
      rw [hsb2] at HAR
      unfold RBest at hbest
      rw [hbst] at hbest
      obtain ⟨hfd, hvc, _, hri⟩ := hbest
      subst hfd
      obtain rfl : cc = vc := hvc.symm
      have hri : RIntss w5 (SBt rb w5 vf) [ve0] (entB p bb) := hri
      obtain ⟨Ae, ce, rfl⟩ := RSlice.form hri
      have HRI := Lib.hid hri
      have HS : Hid (solveP (nb : Int) p = (⟨ordB p bb, entB p bb, cc⟩, ((searchD nb p).2.steps : Int), 0)) := by show _ = _; rw [HSV.out, if_neg (by rw [HS1.out]; simp), hbst]
      clear hbst HSV HRT hsb1 hsb2 hsb3 hri
      generalize (searchD nb p).2.steps = ns at *
      generalize ordB p bb = oB at *
      generalize entB p bb = eB at *
      go_wp2_with fail
      refine wp_region_lexB (fun w' => ∃ y : ExtC (fun b => b = b4) w5, w' = y.val) [0, 2, 3, 4, 5, 6, 7, 8, 9, 11, 12, 13, 14, 1, 10, 15, 16, 17] (by kernel_rfl) (by kernel_rfl) (ExtC.start _ _) ?_
      have y7 := ExtC.cell (C := fun b => b = b4) q7 (by show ¬ rb = b4; omega)
      have y11 := ExtC.cell (C := fun b => b = b4) q11 (by show ¬ rb = b4; omega)
      have y12 := ExtC.cell (C := fun b => b = b4) q12 (by show ¬ rb = b4; omega)
      iterate 13 (first | (refine lex_q _ rfl rfl rfl ?_; go_big_quiet_step (fail); refine wpQuiet_nil ?_) | (refine lex_nil _ rfl _ rfl rfl _ rfl ?_; go_simp))
      clear y7 y11 y12
      refine lex_a _ rfl rfl true (by kernel_rfl) ?_
      go_wp2_with fail
      refine HAR.out.mono ?_
      rintro e w6 ⟨A6, c6, rfl, ho6, k6d⟩
      have k6 : KeepsAll w5 w6 := ((Keeps.refl _ _).drew : KeepsAll w5 w5.drew).tr k6d
      have HO6 := Lib.hid ho6
      have K6 := Lib.hid k6
      have g06 := k6.cellK (p := ⟨b4, 0, none⟩) l4 g0
      have g16 := k6.cellK (p := ⟨b4, 1, none⟩) l4 g1
      have g26 := k6.cellK (p := ⟨b4, 2, none⟩) l4 g2
      have h06 := (HBT.out.kept k6 (by simp)).frozen 0
      have h16 := (HBT.out.kept k6 (by simp)).frozen 1
      have h26 := (HBT.out.kept k6 (by simp)).frozen 2
      have l46 := Nat.lt_of_lt_of_le l4 k6.size
      clear ho6 k6 k6d HAR g0 g1 g2 h0 h1 h2
      go_wp2
      refine ⟨fun _ => ⟨⟨_, K6.out.mono (fun _ _ e => e.elim)⟩, rfl⟩, ?_⟩
      refine lex_q _ rfl rfl rfl ?_; go_big_quiet_step (fail); refine wpQuiet_nil ?_
      refine lex_a _ rfl rfl true (by kernel_rfl) ?_
      go_wp2
      refine ⟨fun _ => ⟨⟨_, ((((K6.out.mono (C := fun b => b = b4) (fun _ _ e => e.elim)).setCell (p := ⟨b4, 0, none⟩) (fun _ => rfl) _).setCell (p := ⟨b4, 1, none⟩) (fun _ => rfl) _).setCell (p := ⟨b4, 2, none⟩) (fun _ => rfl) _)⟩, rfl⟩, ?_⟩
      iterate 2 (refine lex_q _ rfl rfl rfl ?_; go_big_quiet_step (fail); refine wpQuiet_nil ?_)
      simp only [wpLex]
      refine NoPanic.normal ?_
      generalize hW9 : World.setCell (World.setCell (World.setCell w6 _ _) _ _) _ _ = W9
      have HB9 : Hid (Blk W9 b4 31 #[.slice A6 oB.length c6, .slice Ae eB.length ce, .int .i64 cc]) := by subst hW9; exact (((HBT.out.kept K6.out (by simp)).set_ 0 _).set_ 1 _).set_ 2 _
      have k69 : Keeps (fun b => b = b4) w6 W9 := by subst hW9; exact (((Keeps.refl (fun b => b = b4) w6).setCell (p := ⟨b4, 0, none⟩) (fun _ => rfl) _).setCell (p := ⟨b4, 1, none⟩) (fun _ => rfl) _).setCell (p := ⟨b4, 2, none⟩) (fun _ => rfl) _
      have K9 : Hid (KeepsAll w W9) := (KT.out.tr K6.out).trans k69 (fun b hb e => by have e : b = b4 := e; omega)
      have HSOL : Hid (RSol W9 (Old W9) [.slice A6 oB.length c6, .slice Ae eB.length ce, .int .i64 cc] ⟨oB, eB, cc⟩) := by
       refine ⟨_, _, rfl, ?_, ?_⟩
       ·exact ROrders.ok.mono HO6.out (fun b hb => Nat.lt_of_lt_of_le hb.2 k69.size) (fun b hb => k69.block b hb.2 (by have h1 : w5.heap.size ≤ b := hb.1; show ¬ b = b4; omega))
       ·refine RIntss.ok.mono (RIntss.ok.mono HRI.out (fun _ h => h) (fun b hb => K6.out.block b hb.2.1 (by simp))) (fun b hb => Nat.lt_of_lt_of_le (Nat.lt_of_lt_of_le hb.2.1 K6.out.size) k69.size) (fun b hb => k69.block b (Nat.lt_of_lt_of_le hb.2.1 K6.out.size) (by have := hb.1; show ¬ b = b4; omega))
      clear hW9 k69 g06 g16 g26 h06 h16 h26
      have g0 := HB9.out.cell 0
      have g1 := HB9.out.cell 1
      have g2 := HB9.out.cell 2
      simp at g0 g1 g2
      go_wp2
      exact bodyPost_ret (v := .tuple #[.agg #[.slice A6 oB.length c6, .slice Ae eB.length ce, .int .i64 cc], .int .i64 (ns : Int), .int .i64 0]) (by simp [results, Try.results14, go_sem, g0, g1, g2]) rfl (by rw [← HPP.out]; exact ⟨_, _, _, by rw [HS.out], by rw [HS.out]; exact HSOL.out, K9.out⟩)

end Go.Proofs.Ytilbbpbjhoidhaa
