/- Contract of decide of chapter 37: one more pair. Conditions: as the theorem says. Contract of decide of chapter 37. Conditions: as the theorem says. The start of the search of chapter 37 in memory, and what Solve returns as a plain function. Conditions: as each theorem says. -/
import Derived.Test.YtilbbpbjhoidhaaE29
namespace Go.Proofs.Ytilbbpbjhoidhaa
open Go.RowKit

set_option maxRecDepth 100000 in
set_option maxHeartbeats 1000000 in
theorem decide_node (X : Foot) (s : GS) (w0 w : World) (v : PV) (due wgt : List Int) (budget zb : Nat) (au ap : Option Addr) (cu cp : Nat) (d : GD) (bs : List Bool) (st : SSt) (k : Nat) (hk : SrOk s w0 v due wgt budget) (hl : bs.length + (k + 1) = (xs (s.pb due wgt)).length) (hst : st.steps ≤ budget)
  (h : Srch X s w0 (s.pb due wgt) budget zb au ap cu cp w d st) (hg : GP s (decs s.ps (xs (s.pb due wgt)) bs) d)
  (ih : ∀ (X' : Foot) (bs' : List Bool) (st' : SSt) (w' : World) (d' : GD), bs'.length = bs.length + 1 → st'.steps ≤ budget → Srch X' s w0 (s.pb due wgt) budget zb au ap cu cp w' d' st' → GP s (decs s.ps (xs (s.pb due wgt)) bs') d' →
   Calls Try.prog 41 #[.pointer (some ⟨zb, 0, none⟩), .int .i64 ((bs.length : Int) + 1)] w' (fun e w'' => DecPost X' s w0 (s.pb due wgt) budget zb au ap cu cp w' d' (decF budget (s.pb due wgt) k bs' st') e w'' ∧ (decF budget (s.pb due wgt) k bs' st').2.steps ≤ budget)) :
  Calls Try.prog 41 #[.pointer (some ⟨zb, 0, none⟩), .int .i64 (bs.length : Int)] w (fun e w' => DecPost X s w0 (s.pb due wgt) budget zb au ap cu cp w d (decF budget (s.pb due wgt) (k + 1) bs st) e w' ∧ (decF budget (s.pb due wgt) (k + 1) bs st).2.steps ≤ budget) := by
 have hxl := hk.xs_len
 have hpl : (prLs (usesP s.ps s.at_) 144).length = (xs (s.pb due wgt)).length := by rw [prLs_pairs s.ps s.at_ 144 (Nat.le_refl _), List.length_map]; rfl
 have hx : (xs (s.pb due wgt))[bs.length]? = some ((xs (s.pb due wgt))[bs.length]'(by omega)) := List.getElem?_eq_getElem _
 generalize (xs (s.pb due wgt))[bs.length]'_ = x at hx
 obtain ⟨mu, mv, mlt⟩ := mem_pairs (List.mem_of_getElem? hx)
 have hpx : (prLs (usesP s.ps s.at_) 144)[bs.length]? = some (prOf s.ps x) := by
  rw [prLs_pairs s.ps s.at_ 144 (Nat.le_refl _), List.getElem?_map]
  show Option.map _ ((xs (s.pb due wgt))[bs.length]?) = _
  rw [hx]; rfl
 obtain ⟨bp, op, x', rfl, hbp, hx', p0, p1, p2, p3, p4, p5, p6, p7⟩ := RPUs.at_ h.pr (k := bs.length) (by rw [hpl]; omega)
 rw [hpx] at hx'
 injection hx' with hx'
 subst hx'
 obtain ⟨vo, ve, vc, fd, hb, hbest⟩ := h.b
 have HS := Lib.hid h
 have HB := Lib.hid hb
 have hzl := hb.lt
 have HFB := Lib.hid h.g.bsz
 rw [hpl] at HB
 have f0 := HB.out.cell 0
 have f2 := HB.out.cell 2
 simp [srC] at f0 f2
 have hbl : bs.length < (xs (s.pb due wgt)).length := by omega
 have hbz : bp < w.heap.size := hbp.1.1
 have ht : ((bs.length : Int) == ((xs (s.pb due wgt)).length : Int)) = false := by simp; omega
 have HIH := Lib.hid ih
 have HG := Lib.hid hg
 have HK := Lib.hid hk
 have HX := Lib.hid hx
 have HMU := Lib.hid mu
 have HMV := Lib.hid mv
 have HBP := Lib.hid hbp
 have HMLT := Lib.hid mlt
 have HPL := Lib.hid hpl
 have HL := Lib.hid hl
 have HNX := Lib.hid hxl
 clear h hb hbest ih hg hk hx mu mv hbp mlt hpl hpx hl hxl
 generalize (xs (s.pb due wgt)).length = nx at *
 simp only [prOf, useOf] at p0 p1 p2 p3 p4 p5 p6 p7
 generalize hPP : (fun e w' => DecPost X s w0 (s.pb due wgt) budget zb au (some ⟨bp, op, none⟩) cu cp w d (decF budget (s.pb due wgt) (k + 1) bs st) e w' ∧ (decF budget (s.pb due wgt) (k + 1) bs st).2.steps ≤ budget) = PP at *
 have HPP := Lib.hid hPP
 clear hPP
 go_enter Try.func41, Try.ntmps41
 go_wp2_with fail
 refine wp_region_fork (fun w' => ∃ x : Ext w, w' = x.val) [0, 1, 2, 3, 4, 5, 6, 7, 8, 9, 10, 11, 12, 13, 14, 15] [18, 19] 16 17 (by kernel_rfl) (by kernel_rfl) ⟨⟨_, (Keeps.refl _ _).drew⟩, rfl⟩ ?_
 have y0 := Ext.cell f0
 have y2 := Ext.cell f2
 have q0 := Ext.cell p0
 have q1 := Ext.cell p1
 have q2 := Ext.cell p2
 have q3 := Ext.cell p3
 have q4 := Ext.cell p4
 have q5 := Ext.cell p5
 have q6 := Ext.cell p6
 have q7 := Ext.cell p7
 iterate 16 (first | (refine lexK_q _ rfl rfl rfl ?_; go_big_quiet_step (fail); refine wpQuiet_nil ?_) | (refine lexK_nil _ rfl _ rfl rfl _ rfl ?_; go_simp))
 clear y0 y2 q0 q1 q2 q3 q4 q5 q6 q7 p0 p1 p2 p3 p4 p5 p6 p7 f0 f2
 have KD : KeepsAll w w.drew := (Keeps.refl _ _).drew
 have hDz : w.drew.heap.size = w.heap.size := rfl
 generalize w.drew = wd at *
 refine ⟨?_, ?_⟩
 all_goals (refine lex_a _ rfl rfl true (by kernel_rfl) ?_)
 all_goals go_wp2
 all_goals (refine ⟨fun _ => ⟨⟨_, KD.alloc _⟩, rfl⟩, ?_⟩)
 all_goals (refine lex_a _ rfl rfl true (by kernel_rfl) ?_)
 all_goals go_wp2
 all_goals (refine ⟨fun _ => ⟨⟨_, (KD.alloc _).alloc _⟩, rfl⟩, ?_⟩)
 all_goals (refine lex_a _ rfl rfl true (by kernel_rfl) ?_)
 all_goals go_wp2
 all_goals (refine ⟨fun _ => ⟨⟨_, (KD.alloc _).alloc _⟩, rfl⟩, ?_⟩)
 all_goals (refine lex_a _ rfl rfl false (by kernel_rfl) ?_)
 all_goals go_wp2
 all_goals (refine ⟨fun h => (by cases h), ?_⟩)
 all_goals simp only [wpLex]
 all_goals (refine NoPanic.normal ?_)
 all_goals (generalize hW : World.alloc (World.alloc wd _) _ = W)
 all_goals (have KW : KeepsAll w W := by subst hW; exact (KD.alloc _).alloc _)
 obtain ⟨z6, hz6⟩ : ∃ z, z = w.heap.size + 1 := ⟨_, rfl⟩
 obtain ⟨z5, hz5⟩ : ∃ z, z = w.heap.size := ⟨_, rfl⟩
 rw [← hz6, ← hz5]
 have B5 : Hid (Blk W z5 133 (u4 (evF s.ps x.res) x.u).toArray) := by subst hW; rw [hz5, ← hDz]; exact (Blk.new wd _ _).alloc _
 have B6 : Hid (Blk W z6 133 (u4 (evF s.ps x.res) x.v).toArray) := by subst hW; exact Blk.new' _ _ _ (by simp; omega)
 have HZ : Hid (w.heap.size ≤ z5 ∧ w.heap.size ≤ z6 ∧ z5 ≠ z6) := ⟨by omega, by omega, by omega⟩
 clear hW hz5 hz6 hDz KD
 have HKW := Lib.hid KW; clear KW
 rotate_left
 obtain ⟨z5, hz5⟩ : ∃ z, z = w.heap.size + 1 := ⟨_, rfl⟩
 obtain ⟨z6, hz6⟩ : ∃ z, z = w.heap.size := ⟨_, rfl⟩
 rw [← hz5, ← hz6]
 have B5 : Hid (Blk W z5 133 (u4 (evF s.ps x.res) x.u).toArray) := by subst hW; exact Blk.new' _ _ _ (by simp; omega)
 have B6 : Hid (Blk W z6 133 (u4 (evF s.ps x.res) x.v).toArray) := by subst hW; rw [hz6, ← hDz]; exact (Blk.new wd _ _).alloc _
 have HZ : Hid (w.heap.size ≤ z5 ∧ w.heap.size ≤ z6 ∧ z5 ≠ z6) := ⟨by omega, by omega, by omega⟩
 clear hW hz5 hz6 hDz KD
 have HKW := Lib.hid KW; clear KW
 rotate_left
 all_goals
  go_wp2
  go_loopw [57] (fun iv wr => ∃ (i : Nat) (d' : GD) (st' : SSt) (ua ub : Ref), i ≤ 2 ∧ iv = .int .i64 (i : Int) ∧ DcL (XX X z5 z6) s w0 (s.pb due wgt) budget zb au (some ⟨bp, op, none⟩) cu cp w d (decs s.ps (xs (s.pb due wgt)) bs) bs k st z5 z6 i wr d' st' ∧ Blk wr z5 133 (u4 (evF s.ps x.res) ua).toArray ∧ Blk wr z6 133 (u4 (evF s.ps x.res) ub).toArray ∧ (i = 0 ∧ ua = x.u ∧ ub = x.v ∨ i = 1 ∧ ua = x.v ∧ ub = x.u ∨ i = 2)) (fun iv _ => 2 - (intOf iv).toNat)
  case atStart => exact ⟨0, d, st, x.u, x.v, by omega, rfl, DcL.start HS.out hst HG.out HKW.out HZ.out.1 HZ.out.2.1 B5.out.lt B6.out.lt, B5.out, B6.out, .inl ⟨rfl, rfl, rfl⟩⟩
  case round =>
   obtain ⟨i, d', st', ua, ub, hi, rfl, hdl, hb5, hb6, hcase⟩ := hrel
   clear B5 B6 HKW
   have HD := Lib.hid hdl
   have HB5 := Lib.hid hb5
   have HB6 := Lib.hid hb6
   have HCASE := Lib.hid hcase
   clear hdl hb5 hb6 hcase
   by_cases hlt : i < 2
   ·have hdi : decide ((i : Int) < 2) = true := by simp; omega
    obtain ⟨vo', ve', vc', fd', hbr, hbest⟩ := HD.out.sr.b
    have HBR := Lib.hid hbr
    have HBE := Lib.hid hbest
    have hzr := hbr.lt
    clear hbr hbest
    rw [HPL.out] at HBR
    have g0 := HBR.out.cell 0
    have g3 := HBR.out.cell 3
    have g4 := HBR.out.cell 4
    simp [srC] at g0 g3 g4
    by_cases hbg : st'.steps = budget
    ·have hsb : ((st'.steps : Int) == (budget : Int)) = true := by simp [hbg]
     have Q : Hid (PP (.returned (.bool false)) wr.drew) := by
      show PP _ _; rw [← HPP.out]
      have := (HD.out.keep (Keeps.refl _ _).drew).out hlt hbg
      exact ⟨this.1.less (fun b hb => .inl hb), this.2⟩
     clear hbg HIH HG HK HX HMU HMV HBP HMLT HPL HL HPP HD HB5 HB6 HCASE HBR HBE HS HB
     go_wp2_with fail
     refine wp_region_lex (fun w' => ∃ x : Ext wr, w' = x.val) [0, 1, 2, 3, 4, 5, 6, 7, 8] (by kernel_rfl) (by kernel_rfl) ⟨⟨_, (Keeps.refl _ _).drew⟩, rfl⟩ ?_
     have y3 := Ext.cell g3
     have y4 := Ext.cell g4
     iterate 9 (first | (refine lex_q _ rfl rfl rfl ?_; go_big_quiet_step (fail); refine wpQuiet_nil ?_) | (refine lex_nil _ rfl _ rfl rfl _ rfl ?_; go_simp))
     clear y3 y4
     simp only [wpLex]
     refine NoPanic.normal ?_
     go_wp2
     exact Q.out
    ·have hsb : ((st'.steps : Int) == (budget : Int)) = false := by simp; omega
     have HBG := Lib.hid hbg
     clear hbg
     go_wp2_with fail
     refine wp_region_lex (fun w' => ∃ x : Ext wr, w' = x.val) [0, 1, 2, 3, 4, 5, 6, 7, 8] (by kernel_rfl) (by kernel_rfl) ⟨⟨_, (Keeps.refl _ _).drew⟩, rfl⟩ ?_
     have y3 := Ext.cell g3
     have y4 := Ext.cell g4
     iterate 9 (first | (refine lex_q _ rfl rfl rfl ?_; go_big_quiet_step (fail); refine wpQuiet_nil ?_) | (refine lex_nil _ rfl _ rfl rfl _ rfl ?_; go_simp))
     clear y3 y4
     simp only [wpLex]
     refine NoPanic.normal ?_
     have KQ : KeepsAll wr wr.drew := (Keeps.refl _ _).drew
     have HST : Hid (∀ wx, wx = wr.drew.setCell ⟨zb, 4, none⟩ (.int .i64 ((st'.steps : Int) + 1)) → DcM (XX X z5 z6) s w0 (s.pb due wgt) budget zb au (some ⟨bp, op, none⟩) cu cp w d (decs s.ps (xs (s.pb due wgt)) bs) bs k st z5 z6 i wx d' st' ∧ Blk wx z5 133 (Go.Proofs.Ytilbbpbjhoidhaa.u4 (evF s.ps x.res) ua).toArray ∧ Blk wx z6 133 (Go.Proofs.Ytilbbpbjhoidhaa.u4 (evF s.ps x.res) ub).toArray) := fun wx e => by
      subst e
      exact ⟨HD.out.step HBG.out KQ, (HB5.out.kept KQ (by simp)).far (p := ⟨zb, 4, none⟩) HD.out.n5.2 _, (HB6.out.kept KQ (by simp)).far (p := ⟨zb, 4, none⟩) HD.out.n6.2 _⟩
     have HBQ := Lib.hid (HBR.out.kept KQ (by simp))
     have hsw : st'.steps ≤ 1048576 := by have := HD.out.le; have := HK.out.b; omega
     clear g0 g3 g4 KQ HB5 HB6 hsb
     generalize wr.drew = wq at *
     have e4 := HBQ.out.frozen 4
     have g4q := HBQ.out.cell 4
     simp [srC] at g4q
     have hzq := HBQ.out.lt
     generalize st'.steps = n1 at *
     go_upto_region 10 with (fail)
     go_cut [] from 59 to 125 (fun wx => wx = wq.setCell ⟨zb, 4, none⟩ (.int .i64 ((n1 : Int) + 1)))
     case first =>
      clear HIH HG HK HX HMU HMV HBP HMLT HPL HL HPP HZ HD HCASE HBR HBE HST HBQ HBG HS HB
      go_wp2
      go_meet
      exact rfl
     case rest =>
      obtain ⟨hm1, hm5, hm6⟩ := HST.out _ hcut
      clear hcut HST HBR HBE HBQ HD e4 g4q hzq hsw hzr
      obtain ⟨vo2, ve2, vc2, fd2, hb2, hbest2⟩ := hm1.sr.b
      have HM := Lib.hid hm1
      have HM5 := Lib.hid hm5
      have HM6 := Lib.hid hm6
      have HB2 := Lib.hid hb2
      have HBE2 := Lib.hid hbest2
      have r0 := hb2.cell 0
      simp [srC] at r0
      have c9 := hm1.sr.g.c9
      obtain ⟨Al, cl, hlv, _, _⟩ := hm1.sr.g.lg.form
      rw [hlv, hm1.eq.2.2.1] at c9
      clear hm1 hm5 hm6 hb2 hbest2 hlv
      go_upto_region 11 with (fail)
      go_cut [7] from 59 to 125 (fun c7 wx => c7 = .int .i64 (d.lg.length : Int) ∧ wx = wc)
      case first =>
       clear HIH HG HK HX HMU HMV HBP HMLT HPL HL HPP HZ HCASE HS HB HBG HM HM5 HM6 HB2 HBE2
       go_wp2
       go_meet
       exact ⟨rfl, rfl⟩
      case rest =>
       obtain ⟨rfl, hwc⟩ := hcut
       rename_i wc1
       subst hwc
       clear c9
       obtain ⟨b, hb⟩ : ∃ b, [true, false].drop i = b :: [true, false].drop (i + 1) := by
        rcases (show i = 0 ∨ i = 1 by omega) with rfl | rfl
        ·exact ⟨true, rfl⟩
        ·exact ⟨false, rfl⟩
       have harc : dArc s.ps x b = arc0 (relOf s.ps x.res ua) ub ∧ ua ∈ openA s.ps s.at_ x.res ∧ ub ∈ openA s.ps s.at_ x.res ∧ ua.tr ≠ ub.tr := by
        have hlt := HMLT.out
        rcases HCASE.out with ⟨rfl, rfl, rfl⟩ | ⟨rfl, rfl, rfl⟩ | rfl
        ·simp at hb; subst hb
         exact ⟨rfl, HMU.out, HMV.out, by omega⟩
        ·simp at hb; subst hb
         exact ⟨rfl, HMV.out, HMU.out, by omega⟩
        ·omega
       have HDB : Hid (decs s.ps (xs (s.pb due wgt)) (bs ++ [b]) = decs s.ps (xs (s.pb due wgt)) bs ++ [arc0 (relOf s.ps x.res ua) ub]) := by
        show _ = _
        rw [decs_snoc s.ps b HX.out, harc.1]
       have hdl : (decs s.ps (xs (s.pb due wgt)) bs).length + 1 ≤ 90000000 := by
        have h1 := decs_len s.ps (xs (s.pb due wgt)) bs
        have h2 := HNX.out
        have h3 := HL.out
        omega
       have HCH : Hid (∀ W, KeepsAll wc W → Calls Try.prog 70 #[.pointer (some ⟨s.gb, 0, none⟩), .agg #[.int .i64 ua.tr, .int .i64 ua.st, .int .i64 (evF s.ps x.res ua).1, .int .i64 (evF s.ps x.res ua).2], .agg #[.int .i64 ub.tr, .int .i64 ub.st, .int .i64 (evF s.ps x.res ub).1, .int .i64 (evF s.ps x.res ub).2]] W fun e w1 =>
         e = .returned (.bool (okD s.ps s.at_ (decs s.ps (xs (s.pb due wgt)) (bs ++ [b])))) ∧ ∃ d1, Srch (XX X z5 z6) s w0 (s.pb due wgt) budget zb au (some ⟨bp, op, none⟩) cu cp w1 d1 ⟨st'.steps + 1, st'.best⟩ ∧ Frm s zb wc d' w1 d1 ∧ Keeps (GOwn s d') wc w1 ∧ UnS s d.lg (d.T, d.N) d.qd d1 ∧ d1.lg.length ≤ 3000000000000 ∧ (okD s.ps s.at_ (decs s.ps (xs (s.pb due wgt)) (bs ++ [b])) = true → GP s (decs s.ps (xs (s.pb due wgt)) (bs ++ [b])) d1)) := fun W hW => by
        obtain ⟨ha1, hma, hmb, hne⟩ := harc
        have hM := HM.out.keep hW
        have := choose_pr (s.fr W d') w0 W _ d' (HK.out.so.fr _) hM.sr.g.toFr (hM.gp.fr W) (by omega) x.res ua ub (open_use hma).2.1 (open_use hma).2.2 (open_use hmb).1 hne
        rw [HDB.out]
        refine this.mono ?_
        rintro e w1 ⟨h1, h2⟩
        obtain ⟨d1, g1, g2, g3, g4, g5, g6⟩ := hM.choose HK.out.so h2 hdl
        exact ⟨h1, d1, g1, (Frm.keep hW).trans g2, (hW.mono (C := GOwn s d') (fun _ _ h => h.elim)).trans g3 (fun _ _ h => h), g4, g5, g6⟩
       have HCO : Hid (∀ w1 d1, Srch (XX X z5 z6) s w0 (s.pb due wgt) budget zb au (some ⟨bp, op, none⟩) cu cp w1 d1 ⟨st'.steps + 1, st'.best⟩ → GP s (decs s.ps (xs (s.pb due wgt)) (bs ++ [b])) d1 → ∀ W, KeepsAll w1 W → Calls Try.prog 63 #[.pointer (some ⟨s.gb, 0, none⟩)] W fun e w' => e = .returned (.int .i64 (costD (s.pb due wgt) (decs s.ps (xs (s.pb due wgt)) (bs ++ [b])))) ∧ KeepsAll W w') := fun w1 d1 h1 hg W hW => by
        have := gcost_any s w0 W d1 v due wgt HK.out.sp HK.out.p (h1.g.keep hW) (fun u => by have := (hg.bd HK.out.so u).2; omega)
        rw [hg.T_eq HK.out.so] at this
        exact this
       have HRC : Hid (∀ w1 d1, Srch (XX X z5 z6) s w0 (s.pb due wgt) budget zb au (some ⟨bp, op, none⟩) cu cp w1 d1 ⟨st'.steps + 1, st'.best⟩ → GP s (decs s.ps (xs (s.pb due wgt)) (bs ++ [b])) d1 → ∀ W, KeepsAll w1 W → Calls Try.prog 41 #[.pointer (some ⟨zb, 0, none⟩), .int .i64 ((bs.length : Int) + 1)] W fun e w' =>
         DecPost (XX X z5 z6) s w0 (s.pb due wgt) budget zb au (some ⟨bp, op, none⟩) cu cp W d1 (decF budget (s.pb due wgt) k (bs ++ [b]) ⟨st'.steps + 1, st'.best⟩) e w' ∧ (decF budget (s.pb due wgt) k (bs ++ [b]) ⟨st'.steps + 1, st'.best⟩).2.steps ≤ budget) := fun w1 d1 h1 hg W hW =>
        HIH.out _ (bs ++ [b]) _ W d1 (by simp) (by have := HM.out.le; show st'.steps + 1 ≤ budget; omega) (h1.keep hW) hg
       have z5c := HM5.out.cell
       have z6c := HM6.out.cell
       have z50 := z5c 0
       have z51 := z5c 1
       have z52 := z5c 2
       have z53 := z5c 3
       have z60 := z6c 0
       have z61 := z6c 1
       have z62 := z6c 2
       have z63 := z6c 3
       have r7 := HB2.out.cell 7
       have r8 := HB2.out.cell 8
       simp [srC] at r7 r8
       simp [Go.Proofs.Ytilbbpbjhoidhaa.u4] at z50 z51 z52 z53 z60 z61 z62 z63
       have n5 := HM.out.n5
       have n6 := HM.out.n6
       have nz := HM.out.sr.zn
       have y0 := ExtC.cell r0 nz
       have y7 := ExtC.cell r7 nz
       have y8 := ExtC.cell r8 nz
       have y50 := ExtC.cell z50 n5.1
       have y51 := ExtC.cell z51 n5.1
       have y52 := ExtC.cell z52 n5.1
       have y53 := ExtC.cell z53 n5.1
       have y60 := ExtC.cell z60 n6.1
       have y61 := ExtC.cell z61 n6.1
       have y62 := ExtC.cell z62 n6.1
       have y63 := ExtC.cell z63 n6.1
       clear z5c z6c z50 z51 z52 z53 z60 z61 z62 z63 r7 r8 r0
       have HHB := Lib.hid hb
       have HN := Lib.hid (And.intro harc hdl)
       clear hb harc hdl n5 n6 nz
       go_upto_region 12 with (fail)
       go_cut [116] from 59 to 125 (fun c116 wx => ∃ r : Bool, c116 = .bool r ∧ DcT (XX X z5 z6) s w0 (s.pb due wgt) budget zb au (some ⟨bp, op, none⟩) cu cp w d bs k st z5 z6 i (Go.Proofs.Ytilbbpbjhoidhaa.u4 (evF s.ps x.res) ua).toArray (Go.Proofs.Ytilbbpbjhoidhaa.u4 (evF s.ps x.res) ub).toArray r wx)
       case first =>
        refine wp_region_lex2 (fun w' => ∃ x : ExtC (GOwn s d') wc, w' = x.val) (fun _ => True) [0, 1, 2, 3, 4, 5, 6, 7, 8, 9, 10, 11, 12, 13, 14, 15, 16, 17, 19, 20, 21, 22, 23, 18, 24, 25, 26, 27, 28, 29, 30] [31, 32, 33] (by kernel_rfl) (by kernel_rfl) (by kernel_rfl) (ExtC.start _ _) ?_
        iterate 6 (first | (refine lexK_q _ rfl rfl rfl ?_; go_big_quiet_step (fail); refine wpQuiet_nil ?_) | (refine lexK_nil _ rfl _ rfl rfl _ rfl ?_; go_simp))
        refine lexK_a _ rfl rfl true (by kernel_rfl) ?_
        go_wp2_with fail
        refine (HCH.out _ (Keeps.refl _ _).drew).mono ?_
        rintro e w1 ⟨rfl, d1, hs1, hf1, hk1, hu1, hl1, hg1⟩
        have HS1 := Lib.hid hs1
        have HF1 := Lib.hid hf1
        have HK1 := Lib.hid hk1
        have HU1 := Lib.hid hu1
        have HL1 := Lib.hid hl1
        clear hs1 hf1 hk1 hu1 hl1
        cases hok : okD s.ps s.at_ (decs s.ps (xs (s.pb due wgt)) (bs ++ [b])) with
        | false =>
         have HNO : Hid (∀ w2, KeepsAll w1 w2 → DcT (XX X z5 z6) s w0 (s.pb due wgt) budget zb au (some ⟨bp, op, none⟩) cu cp w d bs k st z5 z6 i (Go.Proofs.Ytilbbpbjhoidhaa.u4 (evF s.ps x.res) ua).toArray (Go.Proofs.Ytilbbpbjhoidhaa.u4 (evF s.ps x.res) ub).toArray false w2) := fun w2 hW =>
          HM.out.no HHB.out (by show goOn _ _ _ = false; unfold goOn; show (okD s.ps s.at_ (decs s.ps (xs (s.pb due wgt)) (bs ++ [b])) && _) = false; rw [hok]; rfl) HS1.out HF1.out HU1.out HL1.out HM5.out HM6.out hW
         clear hok hg1
         go_wp2
         refine ⟨fun _ => ⟨⟨_, HK1.out⟩, rfl⟩, ?_⟩
         (refine lexK_q _ rfl rfl rfl ?_; go_big_quiet_step (fail); refine wpQuiet_nil ?_)
         iterate 15 (refine lexK_skip _ rfl rfl rfl ?_; go_simp)
         refine lexK_skipa _ rfl rfl rfl ⟨⟨_, HK1.out⟩, rfl⟩ ?_; go_simp
         iterate 2 (refine lexK_skip _ rfl rfl rfl ?_; go_simp)
         iterate 2 (refine lexK_q _ rfl rfl rfl ?_; go_big_quiet_step (fail); refine wpQuiet_nil ?_)
         iterate 3 (refine lexK_skip _ rfl rfl rfl ?_; go_simp)
         refine lex_skipa _ rfl rfl rfl trivial ?_; go_simp
         refine lex_skip _ rfl rfl rfl ?_; go_simp
         (refine lex_q _ rfl rfl rfl ?_; go_big_quiet_step (fail); refine wpQuiet_nil ?_)
         simp only [wpLex]
         refine NoPanic.normal ?_
         go_wp2
         go_meet
         exact ⟨false, rfl, HNO.out _ (Keeps.refl _ _)⟩
        | true =>
         have HG1 := Lib.hid (hg1 hok)
         have HGO : Hid (goOn (s.pb due wgt) (bs ++ [b]) st' = (!fd2 || decide (costD (s.pb due wgt) (decs s.ps (xs (s.pb due wgt)) (bs ++ [b])) < vc2))) := by
          show goOn _ _ _ = _
          have hbe : BestV wc (SFX (XX X z5 z6) s wc d' zb) (s.pb due wgt) st'.best vo2 ve2 vc2 fd2 := HBE2.out
          unfold goOn
          show (okD s.ps s.at_ (decs s.ps (xs (s.pb due wgt)) (bs ++ [b])) && _) = _
          rw [hok, Bool.true_and]
          cases e : st'.best with
          | none => rw [e] at hbe; have hbe : fd2 = false := hbe; rw [hbe]; rfl
          | some y => rw [e] at hbe; rw [hbe.1, hbe.2.1]; rfl
         have HNO : Hid (goOn (s.pb due wgt) (bs ++ [b]) st' = false → ∀ w2, KeepsAll w1 w2 → DcT (XX X z5 z6) s w0 (s.pb due wgt) budget zb au (some ⟨bp, op, none⟩) cu cp w d bs k st z5 z6 i (Go.Proofs.Ytilbbpbjhoidhaa.u4 (evF s.ps x.res) ua).toArray (Go.Proofs.Ytilbbpbjhoidhaa.u4 (evF s.ps x.res) ub).toArray false w2) := fun hgo w2 hW => HM.out.no HHB.out hgo HS1.out HF1.out HU1.out HL1.out HM5.out HM6.out hW
         have HYS : Hid (goOn (s.pb due wgt) (bs ++ [b]) st' = true → ∀ W, KeepsAll w1 W → Calls Try.prog 41 #[.pointer (some ⟨zb, 0, none⟩), .int .i64 ((bs.length : Int) + 1)] W fun e w3 => ∃ r : Bool, e = .returned (.bool r) ∧ DcT (XX X z5 z6) s w0 (s.pb due wgt) budget zb au (some ⟨bp, op, none⟩) cu cp w d bs k st z5 z6 i (Go.Proofs.Ytilbbpbjhoidhaa.u4 (evF s.ps x.res) ua).toArray (Go.Proofs.Ytilbbpbjhoidhaa.u4 (evF s.ps x.res) ub).toArray (!r) w3) := fun hgo W hW =>
          (HRC.out w1 d1 HS1.out HG1.out W hW).mono fun e w3 h => HM.out.yes HHB.out hgo HF1.out HU1.out HL1.out HM5.out HM6.out hW h
         have HCO1 := Lib.hid (HCO.out w1 d1 HS1.out HG1.out)
         clear hok hg1 HM HM5 HM6 HB2 HBE2 HDB HCH HCO HRC HHB HN HG1 HS1 HF1 HU1 HL1
         generalize costD (s.pb due wgt) (decs s.ps (xs (s.pb due wgt)) (bs ++ [b])) = cd at *
         have hw1 : IntKind.i64.wrap ((bs.length : Int) + 1) = (bs.length : Int) + 1 := IntWalk.i64_in ((bs.length : Int) + 1) (by have := HNX.out; omega)
         cases fd2 with
         | false =>
          have HY := Lib.hid (HYS.out HGO.out)
          clear HYS HNO HGO
          go_wp2
          refine ⟨fun _ => ⟨⟨_, HK1.out⟩, rfl⟩, ?_⟩
          iterate 2 (refine lexK_q _ rfl rfl rfl ?_; go_big_quiet_step (fail); refine wpQuiet_nil ?_)
          (refine lexK_nilg _ rfl _ rfl rfl _ rfl ?_; go_simp)
          iterate 4 (refine lexK_q _ rfl rfl rfl ?_; go_big_quiet_step (fail); refine wpQuiet_nil ?_)
          iterate 9 (refine lexK_skip _ rfl rfl rfl ?_; go_simp)
          refine lexK_skipa _ rfl rfl rfl ⟨⟨_, HK1.out⟩, rfl⟩ ?_; go_simp
          (refine lexK_skip _ rfl rfl rfl ?_; go_simp)
          iterate 6 (refine lexK_q _ rfl rfl rfl ?_; go_big_quiet_step (fail); refine wpQuiet_nil ?_)
          refine lex_a _ rfl rfl true (by kernel_rfl) ?_
          go_wp2_with fail
          refine (HY.out _ (Keeps.refl _ _)).mono ?_
          rintro e w3 ⟨r, rfl, hD⟩
          have HD3 := Lib.hid hD
          clear hD
          go_wp2
          refine ⟨fun _ => trivial, ?_⟩
          iterate 2 (refine lex_q _ rfl rfl rfl ?_; go_big_quiet_step (fail); refine wpQuiet_nil ?_)
          simp only [wpLex]
          refine NoPanic.normal ?_
          go_wp2
          go_meet
          exact ⟨!r, rfl, HD3.out⟩
         | true =>
          go_wp2
          refine ⟨fun _ => ⟨⟨_, HK1.out⟩, rfl⟩, ?_⟩
          iterate 2 (refine lexK_q _ rfl rfl rfl ?_; go_big_quiet_step (fail); refine wpQuiet_nil ?_)
          (refine lexK_nilg _ rfl _ rfl rfl _ rfl ?_; go_simp)
          iterate 5 (refine lexK_q _ rfl rfl rfl ?_; go_big_quiet_step (fail); refine wpQuiet_nil ?_)
          (refine lexK_nilg _ rfl _ rfl rfl _ rfl ?_; go_simp)
          iterate 3 (refine lexK_q _ rfl rfl rfl ?_; go_big_quiet_step (fail); refine wpQuiet_nil ?_)
          (refine lexK_nilg _ rfl _ rfl rfl _ rfl ?_; go_simp)
          iterate 3 (refine lexK_q _ rfl rfl rfl ?_; go_big_quiet_step (fail); refine wpQuiet_nil ?_)
          refine lexK_a _ rfl rfl true (by kernel_rfl) ?_
          go_wp2_with fail
          refine (HCO1.out _ (Keeps.refl _ _)).mono ?_
          rintro e w2 ⟨rfl, k2⟩
          have K2 := Lib.hid k2
          clear k2
          have HK2 : Hid (Keeps (GOwn s d') wc w2) := HK1.out.trans K2.out (fun _ _ h => h.elim)
          cases hcd : decide (cd < vc2) with
          | false =>
           have HN2 := Lib.hid (HNO.out (by rw [HGO.out, hcd]; rfl) _ K2.out)
           clear HYS HNO HGO
           go_wp2
           refine ⟨fun _ => ⟨⟨_, HK2.out⟩, rfl⟩, ?_⟩
           iterate 4 (refine lexK_q _ rfl rfl rfl ?_; go_big_quiet_step (fail); refine wpQuiet_nil ?_)
           iterate 3 (refine lexK_skip _ rfl rfl rfl ?_; go_simp)
           refine lex_skipa _ rfl rfl rfl trivial ?_; go_simp
           refine lex_skip _ rfl rfl rfl ?_; go_simp
           (refine lex_q _ rfl rfl rfl ?_; go_big_quiet_step (fail); refine wpQuiet_nil ?_)
           simp only [wpLex]
           refine NoPanic.normal ?_
           go_wp2
           go_meet
           exact ⟨false, rfl, HN2.out⟩
          | true =>
           have HY := Lib.hid (HYS.out (by rw [HGO.out, hcd]; rfl))
           clear HYS HNO HGO
           go_wp2
           refine ⟨fun _ => ⟨⟨_, HK2.out⟩, rfl⟩, ?_⟩
           (refine lexK_q _ rfl rfl rfl ?_; go_big_quiet_step (fail); refine wpQuiet_nil ?_)
           iterate 6 (refine lexK_q _ rfl rfl rfl ?_; go_big_quiet_step (fail); refine wpQuiet_nil ?_)
           refine lex_a _ rfl rfl true (by kernel_rfl) ?_
           go_wp2_with fail
           refine (HY.out _ K2.out).mono ?_
           rintro e w3 ⟨r, rfl, hD⟩
           have HD3 := Lib.hid hD
           clear hD
           go_wp2
           refine ⟨fun _ => trivial, ?_⟩
           iterate 2 (refine lex_q _ rfl rfl rfl ?_; go_big_quiet_step (fail); refine wpQuiet_nil ?_)
           simp only [wpLex]
           refine NoPanic.normal ?_
           go_wp2
           go_meet
           exact ⟨!r, rfl, HD3.out⟩
       case rest =>
        obtain ⟨r, rfl, hdt⟩ := hcut
        clear y0 y7 y8 y50 y51 y52 y53 y60 y61 y62 y63 HCH HCO HRC HN HB2 HBE2 HM HM5 HM6 HDB HIH HX HMU HMV HBP HMLT HPL HBG HNX HHB HS HB
        cases r with
        | true =>
         have Q : Hid (PP (.returned (.bool false)) wc) := by show PP _ _; rw [← HPP.out]; exact ⟨(hdt.1 rfl).1.less (fun b hb => .inl hb), (hdt.1 rfl).2⟩
         clear hdt HPP HG HK HCASE
         go_wp2
         exact Q.out
        | false =>
         obtain ⟨d2, st2, hs2, hle2, hf2, hu2, hl2, n5, n6, b5, b6, hres⟩ := hdt.2 rfl
         have HUN : Hid (Calls Try.prog 71 #[.pointer (some ⟨s.gb, 0, none⟩), .int .i64 (d.lg.length : Int)] wc fun e w4 => e = .returned (.tuple #[]) ∧ ∃ d4, DcL (XX X z5 z6) s w0 (s.pb due wgt) budget zb au (some ⟨bp, op, none⟩) cu cp w d (decs s.ps (xs (s.pb due wgt)) bs) bs k st z5 z6 (i + 1) w4 d4 st2 ∧ Blk w4 z5 133 (Go.Proofs.Ytilbbpbjhoidhaa.u4 (evF s.ps x.res) ua).toArray ∧ Blk w4 z6 133 (Go.Proofs.Ytilbbpbjhoidhaa.u4 (evF s.ps x.res) ub).toArray) :=
          (undo_any (s.fr wc d2) w0 wc d2 hs2.g.toFr d.lg (d.T, d.N) d.qd ⟨hu2.ex, hu2.qd⟩ hl2).mono (by
           rintro e w4 ⟨he, d4, hg4, e1, e2, e3, e4⟩
           exact ⟨he, d4, DcL.undone hs2 hle2 hf2 n5 n6 b5 b6 hres HG.out hg4 ⟨e1, e2, e3, e4⟩⟩)
         obtain ⟨vo3, ve3, vc3, fd3, hb3, _⟩ := hs2.b
         have r0 := hb3.cell 0
         simp [srC] at r0
         have hsb0 : s.bs ≤ w.heap.size := Hid.out (Lib.hid (by
          have := HFB.out
          exact this))
         clear hdt hs2 hle2 hf2 hu2 hl2 n5 n6 b5 b6 hres hb3
         go_wp2_with fail
         refine HUN.out.mono ?_
         rintro e w4 ⟨rfl, d4, hd4, b5, b6⟩
         have HD4 := Lib.hid hd4
         have HB5 := Lib.hid b5
         have HB6 := Lib.hid b6
         clear hd4 b5 b6 HUN r0
         go_upto_region 15 with (fail)
         have z50 := HB5.out.cell 0
         have z51 := HB5.out.cell 1
         have z52 := HB5.out.cell 2
         have z53 := HB5.out.cell 3
         have z60 := HB6.out.cell 0
         have z61 := HB6.out.cell 1
         have z62 := HB6.out.cell 2
         have z63 := HB6.out.cell 3
         simp [Go.Proofs.Ytilbbpbjhoidhaa.u4] at z50 z51 z52 z53 z60 z61 z62 z63
         have e50 := HB5.out.frozen 0
         have e51 := HB5.out.frozen 1
         have e52 := HB5.out.frozen 2
         have e53 := HB5.out.frozen 3
         have e60 := HB6.out.frozen 0
         have e61 := HB6.out.frozen 1
         have e62 := HB6.out.frozen 2
         have e63 := HB6.out.frozen 3
         have hzz := HZ.out.2.2
         have hzz' := hzz.symm
         have l5 := HB5.out.lt
         have l6 := HB6.out.lt
         have HZ' := Lib.hid (And.intro hzz (And.intro l5 l6))
         have hi1 : i ≤ 1 := by omega
         go_upto_region 16 with (fail)
         generalize hW5 : World.setCell (World.setCell (World.setCell (World.setCell (World.setCell (World.setCell (World.setCell (World.setCell w4 _ _) _ _) _ _) _ _) _ _) _ _) _ _) _ _ = W5
         have HE := Lib.hid (HD4.out.swap HB5.out HB6.out (.inr (.inl rfl)) (.inr (.inr rfl)) hsb0 HZ.out.1 HZ.out.2.1 HZ.out.2.2 hW5.symm)
         clear hW5 z50 z51 z52 z53 z60 z61 z62 z63 e50 e51 e52 e53 e60 e61 e62 e63 hzz hzz' l5 l6 HD4 HB5 HB6
         go_wp2
         have hcs : i + 1 = 0 ∧ ub = x.u ∧ ua = x.v ∨ i + 1 = 1 ∧ ub = x.v ∧ ua = x.u ∨ i + 1 = 2 := by
          rcases HCASE.out with ⟨rfl, rfl, rfl⟩ | ⟨rfl, rfl, rfl⟩ | rfl
          ·exact .inr (.inl ⟨rfl, rfl, rfl⟩)
          ·exact .inr (.inr rfl)
          ·omega
         go_roundw
         case rel =>
          exact ⟨i + 1, d4, st2, ub, ua, by omega, by push_cast; rfl, HE.out.1, HE.out.2.1, HE.out.2.2, hcs⟩
         case measure => simp [intOf]; omega
   ·obtain rfl : i = 2 := by omega
    have hdi : decide ((2 : Int) < 2) = false := by decide
    have Q : Hid (PP (.returned (.bool true)) wr) := by show PP _ _; rw [← HPP.out]; exact ⟨HD.out.all.1.less (fun b hb => .inl hb), HD.out.all.2⟩
    clear HIH HG HK HX HMU HMV HBP HMLT HPL HL HPP HD HB5 HB6 HCASE HS HB
    go_wp2
    exact Q.out

theorem decide_any (s : GS) (w0 : World) (v : PV) (due wgt : List Int) (budget zb : Nat) (au : Option Addr) (cu cp : Nat) (hk : SrOk s w0 v due wgt budget) : ∀ (k : Nat) (X : Foot) (ap : Option Addr) (bs : List Bool) (st : SSt) (w : World) (d : GD), bs.length + k = (xs (s.pb due wgt)).length → st.steps ≤ budget →
  Srch X s w0 (s.pb due wgt) budget zb au ap cu cp w d st → GP s (decs s.ps (xs (s.pb due wgt)) bs) d →
  Calls Try.prog 41 #[.pointer (some ⟨zb, 0, none⟩), .int .i64 (bs.length : Int)] w (fun e w' => DecPost X s w0 (s.pb due wgt) budget zb au ap cu cp w d (decF budget (s.pb due wgt) k bs st) e w' ∧ (decF budget (s.pb due wgt) k bs st).2.steps ≤ budget) := by
 intro k
 induction k with
 | zero =>
  intro X ap bs st w d hl hst h hg
  exact (decide_leaf X s w0 w v due wgt budget zb au ap cu cp d bs st hk (by omega) h hg).mono fun e w' he => ⟨he, hst⟩
 | succ k ih =>
  intro X ap bs st w d hl hst h hg
  refine decide_node X s w0 w v due wgt budget zb au ap cu cp d bs st k hk hl hst h hg fun X' bs' st' w' d' h1 h2 h3 h4 => ?_
  have := ih X' ap bs' st' w' d' (by omega) h2 h3 h4
  rw [h1] at this
  exact_mod_cast this

structure Soln where
 os : List Order
 en : List (List Int)
 cost : Int
def sol0 : Soln := ⟨[], [], 0⟩
def solveP (budget : Int) (p : Pb) : Soln × Int × Int :=
 if checkP p = false then (sol0, 0, 1)
 else if budget < 1 ∨ 1048576 < budget then (sol0, 0, 4)
 else if (searchD budget.toNat p).1 = false then (sol0, 0, 15)
 else match (searchD budget.toNat p).2.best with
  | none => (sol0, ((searchD budget.toNat p).2.steps : Int), 19)
  | some b => (⟨ordB p b.1, entB p b.1, b.2⟩, ((searchD budget.toNat p).2.steps : Int), 0)
def RSol : Rd Soln := fun w S cs x => ∃ vo ve, cs = [vo, ve, .int .i64 x.cost] ∧ ROrders w S [vo] x.os ∧ RIntss w S [ve] x.en

theorem Gm.own_ge {s : GS} {w0 w : World} {d : GD} (h : Gm s w0 w d) {b : Nat} (hb : GOwn s d b) : w0.heap.size ≤ b := by
 have h0 : w0.heap.size ≤ s.bs := by have := h.lo.1; have := h.hi.1; omega
 rcases hb with rfl | rfl | rfl | rfl | hb | hb | ⟨i, v, hv, hb⟩
 ·exact h.lo.1
 ·exact h.lo.2.1
 ·exact h.lo.2.2.1
 ·exact h.lo.2.2.2
 ·exact Nat.le_trans h0 (h.lg.lt hb).1
 ·exact Nat.le_trans h0 (h.q.lt hb).1
 ·have hl : i < d.N.length := by rw [← h.nr.len]; exact getElem?_lt hv
  exact Nat.le_trans h0 ((h.nr.own i v _ hv (List.getElem?_eq_getElem hl)).lt hb).1
theorem searchD_eq (budget : Nat) (p : Pb) : searchD budget p = decF budget p (xs p).length [] ⟨0, none⟩ := rfl
structure NgOk (w : World) (v : PV) (p : Pb) (s : GS) (d : GD) (w1 : World) : Prop where
 g : Gm s w w1 d
 z : ∀ b, ¬ s.Z b
 sp : GSP s w v p.due p.wgt
 pb : s.pb p.due p.wgt = p
 gp : GP s [] d
 so : SOk s
 lg : d.lg = []
theorem NewG.ok {w : World} {v : PV} {p : Pb} {e : Ending} {w1 : World} (hc : checkP p = true) (h : NewG w v p e w1) : ∃ s d, e = .returned (.pointer (some ⟨s.gb, 0, none⟩)) ∧ NgOk w v p s d w1 := by
 obtain ⟨s, d, h1, h2, h3, h4, h5, h6, h7, h8, _⟩ := h
 have hgd : Gd p.ps p.at_ := by
  have h1 := (checkP_iff.1 hc).1
  rw [← good_Gd]
  unfold checkState at h1
  by_cases g : (valid p.ps && good p.ps p.at_) = false
  ·rw [if_pos g] at h1; cases h1
  ·rw [Bool.not_eq_false, Bool.and_eq_true] at g; exact g.2
 have hp := checkP_ok hc
 have hpb : s.pb p.due p.wgt = p := by unfold GS.pb; rw [h2, h3, h4]
 refine ⟨{ s with Z := fun _ => False, wz := w1 }, d, h1, h6.rezone _ (fun b hb => hb.elim), fun b hb => hb, ⟨h5.vp, h5.va, h5.vd, h5.vw, h5.r⟩, hpb, ⟨h7.dok, h7.ho, h7.fl, h7.ex⟩, ⟨by show valid s.ps = true; rw [h2]; exact hp.v, by show Gd s.ps s.at_; rw [h2, h3]; exact hgd, by show 0 ≤ s.now ∧ s.now ≤ 4194304; rw [h4]; exact hp.n⟩, h8⟩
theorem NgOk.keep {w : World} {v : PV} {p : Pb} {s : GS} {d : GD} {w1 w2 : World} (h : NgOk w v p s d w1) (k : KeepsAll w1 w2) : NgOk w v p s d w2 := ⟨h.g.keep k, h.z, h.sp, h.pb, h.gp, h.so, h.lg⟩
theorem NgOk.own {w : World} {v : PV} {p : Pb} {s : GS} {d : GD} {w1 w2 : World} (h : NgOk w v p s d w1) {z : Nat} (k : Keeps (fun b => b = z) w1 w2) (hn : ¬ GOwn s d z) (hs : s.bs ≤ z) : NgOk w v p s d w2 := ⟨h.g.keepZ k hn hs h.z, h.z, h.sp, h.pb, h.gp, h.so, h.lg⟩
theorem NgOk.srOk {w : World} {v : PV} {p : Pb} {s : GS} {d : GD} {w1 : World} (h : NgOk w v p s d w1) (hc : checkP p = true) {budget : Nat} (hb : budget ≤ 1048576) : SrOk s w v p.due p.wgt budget := by
 refine ⟨h.so, h.sp, by rw [h.pb]; exact checkP_ok hc, hb, h.so.g.1, by have := (valid_lens h.so.v).1; omega⟩
theorem NgOk.start {w : World} {v : PV} {p : Pb} {s : GS} {d : GD} {w1 w2 w3 : World} (h : NgOk w v p s d w3) {X : Foot} (hX : ∀ b, X b → b < w1.heap.size) {budget zb : Nat} (hzs : s.bs ≤ zb) (hz1 : zb < w1.heap.size) (hg1 : ∀ b, GOwn s d b → b < w1.heap.size) (hzn : ¬ GOwn s d zb) (h12 : w1.heap.size ≤ w2.heap.size) (h23 : w2.heap.size ≤ w3.heap.size) {au ap : Option Addr} {cu cp : Nat} {vo ve : Value} {vc : Int}
  (hb : Blk w3 zb 83 (srC s au ap cu cp (prLs (usesP s.ps s.at_) 144).length budget 0 vo ve vc false)) (hu : RUsess w3 (Fresh w1 w2) [.slice au 144 cu] (usesP s.ps s.at_)) (hp : RPUs w3 (Fresh w2 w3) [.slice ap (prLs (usesP s.ps s.at_) 144).length cp] (prLs (usesP s.ps s.at_) 144)) :
  Srch X s w p budget zb au ap cu cp w3 d ⟨0, none⟩ :=
 ⟨h.g, h.z, hzs, fun b hb => by have := hX b hb; omega, hzn, ⟨vo, ve, vc, false, hb, rfl⟩,
  RUsess.ok.mono hu (fun b hb => ⟨⟨by have := hb.2; omega, fun e => by have := hg1 b e; have := hb.1; omega, fun e => by have := hb.1; omega⟩, fun e => by have := hX b e; have := hb.1; omega⟩) (fun _ _ => rfl),
  (RSlice.ok RPU.ok).mono hp (fun b hb => ⟨⟨hb.2, fun e => by have := hg1 b e; have := hb.1; omega, fun e => by have := hb.1; omega⟩, fun e => by have := hX b e; have := hb.1; omega⟩) (fun _ _ => rfl)⟩

end Go.Proofs.Ytilbbpbjhoidhaa
