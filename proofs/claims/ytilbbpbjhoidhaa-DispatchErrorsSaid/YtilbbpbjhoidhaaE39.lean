/- Contract of the reference's decide of chapter 37. Conditions: as each theorem says. Contract of the reference's decide of chapter 37, whole. Conditions: as the theorem says. The orders of a complete choice of chapter 37: the program's and the reference's. No program in sight. What the reference's arranged of chapter 37 counts; its state. Conditions: as each theorem says. -/
import Derived.Test.YtilbbpbjhoidhaaE38
import Derived.Test.YtilbbpbjhoidhaaE15
import Derived.Test.YtilbbpbjhoidhaaE30
import Derived.Test.YtilbbpbjhoidhaaE29
import Derived.Test.YtilbbpbjhoidhaaE08
import Derived.Laws.StructEq
namespace Go.Proofs.Ytilbbpbjhoidhaa
open Go.RowKit

set_option maxRecDepth 100000 in
set_option maxHeartbeats 2000000 in
theorem rdecide_node (w0 : World) (rb : Nat) (v : PV) (p : Pb) (Ap : Option Addr) (cp budget : Nat) (w : World) (bs : List Bool) (st : SSt) (k : Nat) (hc : checkP p = true) (hbud : budget ≤ 1048576) (hl : bs.length + (k + 1) = (xs p).length) (hst : st.steps ≤ budget) (h : RDs w0 rb v p Ap cp budget w bs st)
  (ih : ∀ (bs' : List Bool) (st' : SSt) (w' : World), bs'.length = bs.length + 1 → st'.steps ≤ budget → RDs w0 rb v p Ap cp budget w' bs' st' → 0 < k → Calls Try.prog 44 #[.pointer (some ⟨rb, 0, none⟩)] w' (RDPost w0 rb v p Ap cp budget bs' (decF budget p k bs' st'))) :
  Calls Try.prog 44 #[.pointer (some ⟨rb, 0, none⟩)] w (RDPost w0 rb v p Ap cp budget bs (decF budget p (k + 1) bs st)) := by
 have hxl := pairsTo_big (checkP_ok hc).v p.at_ 144
 have hxl : (xs p).length ≤ 144 * 409600 := hxl
 obtain ⟨vf, fd, vb, vc, ve, hb, ho, _⟩ := h.b
 obtain ⟨Af, cf, rfl, hcf, hcf2⟩ := ho.form
 have q5 := hb.cell 5
 have q8 := hb.cell 8
 simp [rdC] at q5 q8
 have HR := Lib.hid h
 have HIH := Lib.hid ih
 have HC := Lib.hid hc
 have HL := Lib.hid hl
 have HST := Lib.hid hst
 have hbl : bs.length ≤ 90000000 := by omega
 have hne1 : ¬ bs.length = (xs p).length := by omega
 have hne2 : (bs.length == (xs p).length) = false := by simpa using hne1
 have hne3 : decide (bs.length = (xs p).length) = false := decide_eq_false hne1
 have hne4 : ((bs.length : Int) == ((xs p).length : Int)) = false := by simp; omega
 clear h hb ho ih hc hl hxl
 generalize hPP : RDPost w0 rb v p Ap cp budget bs (decF budget p (k + 1) bs st) = PP
 have HPP := Lib.hid hPP
 clear hPP
 go_enter Try.func44, Try.ntmps44
 go_wp2_with fail
 refine wp_region_lexB (fun w' => ∃ y : Ext w, w' = y.val) [0, 1, 2, 3, 4, 5, 6, 7, 8, 9, 10] (by kernel_rfl) (by kernel_rfl) ⟨⟨_, (Keeps.refl _ _).drew⟩, rfl⟩ ?_
 have y5 := Ext.cell q5
 have y8 := Ext.cell q8
 iterate 11 (first | (refine lex_q _ rfl rfl rfl ?_; go_big_quiet_step (fail); refine wpQuiet_nil ?_) | (refine lex_nil _ rfl _ rfl rfl _ rfl ?_; go_simp))
 clear y5 y8 q5 q8
 simp only [wpLex]
 refine NoPanic.normal ?_
 have HR0 := Lib.hid (HR.out.keep (Keeps.refl _ _).drew)
 clear HR hcf hcf2
 go_wp2
 clear hne1 hne2 hne3 hne4
 go_loopw [3] (fun iv wr => ∃ (i : Nat) (st' : SSt), i ≤ 2 ∧ iv = .int .i64 (i : Int) ∧ RDs w0 rb v p Ap cp budget wr bs st' ∧ st'.steps ≤ budget ∧ decF budget p (k + 1) bs st = decT budget p (decF budget p k) bs ([true, false].drop i) st') (fun iv _ => 2 - (intOf iv).toNat)
 case atStart => exact ⟨0, st, by omega, rfl, HR0.out, HST.out, rfl⟩
 case round =>
  obtain ⟨i, st', hi, rfl, hrd, hle, hres⟩ := hrel
  clear HR0
  have HRD := Lib.hid hrd
  have HRES := Lib.hid hres
  have HLE := Lib.hid hle
  clear hrd hres
  by_cases hlt : i < 2
  ·have hdi : decide ((i : Int) < 2) = true := by simp; omega
   obtain ⟨b, hdb, hbv⟩ : ∃ b, [true, false].drop i = b :: [true, false].drop (i + 1) ∧ b = decide (i = 0) := by
    rcases (show i = 0 ∨ i = 1 by omega) with rfl | rfl
    ·exact ⟨true, rfl, rfl⟩
    ·exact ⟨false, rfl, rfl⟩
   have HDB := Lib.hid hdb
   have hbi : ((i : Int) == 0) = b := by rw [hbv]; rcases (show i = 0 ∨ i = 1 by omega) with rfl | rfl <;> rfl
   clear hdb hbv
   obtain ⟨vf, fd, vb, vc, ve, hb, ho, hbest⟩ := HRD.out.b
   have q6 := hb.cell 6
   have q7 := hb.cell 7
   simp [rdC] at q6 q7
   have f7 := hb.frozen 7
   have hzr := hb.lt
   have hw7 : IntKind.i64.wrap ((st'.steps : Int) + 1) = (st'.steps : Int) + 1 := IntWalk.i64_in _ (by omega)
   have HSTP := Lib.hid HRD.out.step
   have HB := Lib.hid hb
   clear hb ho hbest
   go_upto_region 7 with (fail)
   generalize hW7 : World.setCell wr _ _ = W7
   rw [hW7] at HSTP
   have q67 : W7.cell? ⟨rb, 6, none⟩ = some (.int .i64 (budget : Int)) := by
    subst hW7
    have := (HB.out.set_ 7 (.int .i64 ((st'.steps : Int) + 1))).cell 6
    rw [this]; simp [rdC]
   have q77 : W7.cell? ⟨rb, 7, none⟩ = some (.int .i64 ((st'.steps : Int) + 1)) := by
    subst hW7
    have := (HB.out.set_ 7 (.int .i64 ((st'.steps : Int) + 1))).cell 7
    rw [this]; simp [rdC]
   clear hW7 q6 q7 f7 hw7 HRD HB hzr
   by_cases hbg : st'.steps = budget
   ·have hgt : decide ((st'.steps : Int) + 1 > (budget : Int)) = true := by rw [decide_eq_true_eq]; omega
    have Q : Hid (∀ W, KeepsAll W7 W → PP (.returned (.bool false)) W) := fun W hW => by
     show PP _ _
     rw [← HPP.out, HRES.out, HDB.out, decT, if_pos hbg]
     exact ⟨rfl, HSTP.out.k.tr hW, fun e => by cases e⟩
    clear hbg HPP HRES HSTP HDB
    refine wp_region_lexB (fun w' => ∃ y : Ext W7, w' = y.val) [0, 1, 2, 3, 4, 5, 6, 7, 8] (by kernel_rfl) (by kernel_rfl) ⟨⟨_, (Keeps.refl _ _).drew⟩, rfl⟩ ?_
    have y6 := Ext.cell q67
    have y7 := Ext.cell q77
    iterate 9 (first | (refine lex_q _ rfl rfl rfl ?_; go_big_quiet_step (fail); refine wpQuiet_nil ?_) | (refine lex_nil _ rfl _ rfl rfl _ rfl ?_; go_simp))
    clear y6 y7
    simp only [wpLex]
    refine NoPanic.normal ?_
    go_wp2
    exact Q.out _ (Keeps.refl _ _).drew
   ·have hgt : decide ((st'.steps : Int) + 1 > (budget : Int)) = false := by rw [decide_eq_false_iff_not]; omega
    have hlt7 : st'.steps + 1 ≤ budget := by omega
    have HBG := Lib.hid hbg
    clear hbg
    refine wp_region_lexB (fun w' => ∃ y : Ext W7, w' = y.val) [0, 1, 2, 3, 4, 5, 6, 7, 8] (by kernel_rfl) (by kernel_rfl) ⟨⟨_, (Keeps.refl _ _).drew⟩, rfl⟩ ?_
    have y6 := Ext.cell q67
    have y7 := Ext.cell q77
    iterate 9 (first | (refine lex_q _ rfl rfl rfl ?_; go_big_quiet_step (fail); refine wpQuiet_nil ?_) | (refine lex_nil _ rfl _ rfl rfl _ rfl ?_; go_simp))
    clear y6 y7 q67 q77
    simp only [wpLex]
    refine NoPanic.normal ?_
    have HR8 := Lib.hid (HSTP.out.keep (Keeps.refl _ _).drew)
    clear HSTP
    generalize W7.drew = W8 at *
    obtain ⟨vf, fd, vb, vc, ve, hb, ho, hbest⟩ := HR8.out.b
    obtain ⟨Af, cf, rfl, hcf, hcf2⟩ := ho.form
    have q8 := hb.cell 8
    simp [rdC] at q8
    have hz8 := hb.lt
    have HB := Lib.hid hb
    have HO := Lib.hid ho
    have HBE := Lib.hid hbest
    clear hb ho hbest
    go_upto_region 9 with (fail)
    have f8 := HB.out.frozen 8
    go_wp2_with (at_builtin; refine wpList_append_L tyBoolR RBool.ok rfl (.tmp 42) (.tmp 45) rfl (HO.out.alloc RBool.ok _) rfl _ [.bool b] rfl (Blk.new' _ _ _ (by simp)) rfl b (S := fun _ => False) rfl (fun _ h => h.elim) (by simp [Value.oneCell']) (by omega) (by omega) (by simp; omega) ?_; intro v9 w9 HO9 HK9 HA9; obtain ⟨A9, c9, hv9, hc9, hc99⟩ := HO9.form; rw [List.length_append, List.length_singleton] at hv9; subst hv9; have HO9' := Lib.hid HO9; have hk9 : Keeps (fun z => (Value.slice Af bs.length cf).ownBlock = some z) W8 w9 := ((Keeps.refl _ _).alloc _).trans HK9 (fun _ _ h => h); have HK9' := Lib.hid hk9; have HA9' : Hid ((Value.slice A9 (bs.length + 1) c9).ownBlock = (Value.slice Af bs.length cf).ownBlock ∨ ∃ z, (Value.slice A9 (bs.length + 1) c9).ownBlock = some z ∧ W8.heap.size ≤ z) := HA9.imp id (fun e => ⟨_, e, by simp⟩); have f89 := (HB.out.kept hk9 (fun e => by have := (HO.out.lt e).1; omega)).frozen 8; have q89 := hk9.cell (p := ⟨rb, 8, none⟩) hz8 (fun e => by have := (HO.out.lt e).1; simp at this; omega); rw [q8] at q89; clear HO9 HK9 HA9 hk9)
    generalize hW9 : World.setCell w9 _ _ = W9
    have hr9 : RDs w0 rb v p Ap cp budget W9 (bs ++ [b]) ⟨st'.steps + 1, st'.best⟩ := by subst hW9; exact HR8.out.lay HB.out HO.out HBE.out HO9'.out HK9'.out HA9'.out
    have HR9 := Lib.hid hr9
    clear hW9 hr9 HO9' HK9' HA9' f89 q89 HB HO HBE HR8 q8 f8 hz8
    have HLK := Lib.hid (look_any w0 rb v p Ap cp budget W9 (bs ++ [b]) ⟨st'.steps + 1, st'.best⟩ HR9.out HC.out (by have := HL.out; simp; omega))
    refine HLK.out.mono ?_
    rintro e w10 ⟨ve2, cc, rfl, k10, hlk⟩
    have K10 := Lib.hid k10
    have HR10 := Lib.hid (HR9.out.keep k10)
    have HLK2 := Lib.hid hlk
    clear k10 hlk HLK
    have HGO : Hid (goOn p (bs ++ [b]) st' = goOn p (bs ++ [b]) ⟨st'.steps + 1, st'.best⟩) := rfl
    obtain ⟨vf, fd, vb, vc, ve, hb9, ho9, hbest9⟩ := HR9.out.b
    obtain ⟨Af, cf, rfl, hcf, hcf2⟩ := ho9.form
    have HOW : Hid (∀ z, (Value.slice Af (bs ++ [b]).length cf).ownBlock = some z → z < W9.heap.size) := fun z hz => (ho9.lt hz).2
    have hb := hb9.kept K10.out (by simp)
    have ho := ho9.keepsF RBool.flat K10.out (by simp)
    clear hb9 ho9 hbest9
    have q5 := hb.cell 5
    have q8 := hb.cell 8
    simp [rdC] at q5 q8
    simp at hcf
    have hz10 := hb.lt
    cases hgo : goOn p (bs ++ [b]) ⟨st'.steps + 1, st'.best⟩ with
    | false =>
     have HN : Hid (∀ W, RDs w0 rb v p Ap cp budget W bs ⟨st'.steps + 1, st'.best⟩ → ∃ (i2 : Nat) (st2 : SSt), i2 ≤ 2 ∧ (Value.int .i64 ((i : Int) + 1)) = .int .i64 (i2 : Int) ∧ RDs w0 rb v p Ap cp budget W bs st2 ∧ st2.steps ≤ budget ∧ decF budget p (k + 1) bs st = decT budget p (decF budget p k) bs ([true, false].drop i2) st2) := fun W hW => by
      refine ⟨i + 1, _, by omega, by simp, hW, hlt7, ?_⟩
      rw [HRES.out, HDB.out, decT, if_neg HBG.out, HGO.out, hgo, if_neg (by simp)]
     have HB := Lib.hid hb
     have HO := Lib.hid ho
     clear hb ho hgo HLK2 HIH HPP HRES HDB HOW
     go_wp2
     refine wp_region_lexB (fun w' => ∃ y : Ext w10, w' = y.val) [0, 1, 2, 3, 4, 5, 6, 7, 8, 9, 10, 11, 12, 13, 14] (by kernel_rfl) (by kernel_rfl) ⟨⟨_, (Keeps.refl _ _).drew⟩, rfl⟩ ?_
     iterate 3 (refine lex_q _ rfl rfl rfl ?_; go_big_quiet_step (fail); refine wpQuiet_nil ?_)
     iterate 11 (refine lex_skip _ rfl rfl rfl ?_; go_simp)
     refine lex_q _ rfl rfl rfl ?_; go_big_quiet_step (fail); refine wpQuiet_nil ?_
     simp only [wpLex]
     refine NoPanic.normal ?_
     have HR11 := Lib.hid (HR10.out.keep (Keeps.refl _ _).drew)
     clear HB HO HR10 HR9 K10 q5 q8 hz10
     generalize w10.drew = w11 at *
     go_wp2
     obtain ⟨vf, fd, vb, vc, ve, hb, ho, hbest⟩ := HR11.out.b
     obtain ⟨Af, cf, rfl, hcf, hcf2⟩ := ho.form
     obtain ⟨g, rfl, hg⟩ := ho.some_ (by simp)
     have q8 := hb.cell 8
     simp [rdC] at q8
     simp at hcf
     have f8 := hb.frozen 8
     have hzp := hb.lt
     have hcut := ho.cut (k := bs.length) (by simp) (.inl (by simp))
     rw [List.take_left' rfl] at hcut
     have HPOP : Hid (RDs w0 rb v p Ap cp budget ((w11.setCell ⟨rb, 8, none⟩ (.slice (some ⟨g, 0, none⟩) bs.length cf)).drew) bs ⟨st'.steps + 1, st'.best⟩) := (HR11.out.lay hb ho hbest hcut (Keeps.refl _ _) (.inl rfl)).keep (Keeps.refl _ _).drew
     clear hb ho hbest hcut
     refine wp_region_lexB (fun w' => ∃ y : Ext w11, w' = y.val) [0, 1, 2, 3, 4, 5, 6, 7, 8, 9, 10, 11, 12, 13, 14] (by kernel_rfl) (by kernel_rfl) ⟨⟨_, (Keeps.refl _ _).drew⟩, rfl⟩ ?_
     have y8 := Ext.cell q8
     iterate 14 (first | (refine lex_q _ rfl rfl rfl ?_; go_big_quiet_step (fail); refine wpQuiet_nil ?_) | (refine lex_nil _ rfl _ rfl rfl _ rfl ?_; go_simp))
     clear y8
     refine lex_a _ rfl rfl false (by kernel_rfl) ?_
     go_wp2
     (try refine ⟨fun h => (by cases h), ?_⟩)
     simp only [wpLex]
     refine NoPanic.normal ?_
     generalize hWp : World.drew (World.setCell w11 _ _) = Wp
     rw [hWp] at HPOP
     clear hWp q8 f8 hzp
     go_wp2
     go_roundw
     case rel => exact HN.out Wp HPOP.out
     case measure => simp [intOf]; omega
    | true =>
     obtain ⟨hcc, hen⟩ := HLK2.out hgo
     obtain ⟨Ae, ce, rfl⟩ := RSlice.form hen
     have HEN : Hid (RIntss w10 (SBt rb w10 (.slice Af (bs ++ [b]).length cf)) [.slice Ae (entB p (bs ++ [b])).length ce] (entB p (bs ++ [b]))) := RIntss.ok.mono hen (fun z hz => ⟨by have h1 : W9.heap.size ≤ z := hz.1; have := HR9.out.rlt; omega, hz.2, fun e => by have h1 : W9.heap.size ≤ z := hz.1; have := HOW.out z e; omega⟩) (fun _ _ => rfl)
     have HCC := Lib.hid hcc
     have HB := Lib.hid hb
     have HO := Lib.hid ho
     have HRS : Hid (decF budget p (k + 1) bs st = if (decF budget p k (bs ++ [b]) ⟨st'.steps + 1, st'.best⟩).1 = true then decT budget p (decF budget p k) bs ([true, false].drop (i + 1)) (decF budget p k (bs ++ [b]) ⟨st'.steps + 1, st'.best⟩).2 else (false, (decF budget p k (bs ++ [b]) ⟨st'.steps + 1, st'.best⟩).2)) := by
      show _ = _
      rw [HRES.out, HDB.out, decT, if_neg HBG.out, HGO.out, hgo, if_pos rfl]
     have HN : Hid ((decF budget p k (bs ++ [b]) ⟨st'.steps + 1, st'.best⟩).1 = true → (decF budget p k (bs ++ [b]) ⟨st'.steps + 1, st'.best⟩).2.steps ≤ budget → ∀ W, RDs w0 rb v p Ap cp budget W bs (decF budget p k (bs ++ [b]) ⟨st'.steps + 1, st'.best⟩).2 → ∃ (i2 : Nat) (st2 : SSt), i2 ≤ 2 ∧ (Value.int .i64 ((i : Int) + 1)) = .int .i64 (i2 : Int) ∧ RDs w0 rb v p Ap cp budget W bs st2 ∧ st2.steps ≤ budget ∧ decF budget p (k + 1) bs st = decT budget p (decF budget p k) bs ([true, false].drop i2) st2) := fun h1 h2 W hW =>
      ⟨i + 1, _, by omega, by simp, hW, h2, by rw [HRS.out, if_pos h1]⟩
     clear hb ho hgo HLK2 HRES HDB HOW hen hcc
     cases k with
     | zero =>
      have hxe : (xs p).length = bs.length + 1 := by have := HL.out; omega
      have HXE := Lib.hid hxe
      rw [hxe] at q5
      clear hxe
      go_wp2
      refine wp_region_lexB (fun w' => ∃ y : Ext w10, w' = y.val) [0, 1, 2, 3, 4, 5, 6, 7, 8, 9, 10, 11, 12, 13, 14] (by kernel_rfl) (by kernel_rfl) ⟨⟨_, (Keeps.refl _ _).drew⟩, rfl⟩ ?_
      have y5 := Ext.cell q5
      have y8 := Ext.cell q8
      iterate 4 (refine lex_q _ rfl rfl rfl ?_; go_big_quiet_step (fail); refine wpQuiet_nil ?_)
      refine lex_nilg _ rfl _ rfl rfl _ rfl ?_; go_simp
      iterate 4 (refine lex_q _ rfl rfl rfl ?_; go_big_quiet_step (fail); refine wpQuiet_nil ?_)
      refine lex_nilg _ rfl _ rfl rfl _ rfl ?_; go_simp
      iterate 5 (refine lex_q _ rfl rfl rfl ?_; go_big_quiet_step (fail); refine wpQuiet_nil ?_)
      clear y5 y8
      simp only [wpLex]
      refine NoPanic.normal ?_
      have k11 : KeepsAll w10 w10.drew := (Keeps.refl _ _).drew
      have hbd := HB.out.kept k11 (by simp)
      have hod := HO.out.keepsF RBool.flat k11 (by simp)
      have hed : RIntss w10.drew (SBt rb w10.drew (.slice Af (bs ++ [b]).length cf)) [.slice Ae (entB p (bs ++ [b])).length ce] (entB p (bs ++ [b])) := RIntss.ok.mono HEN.out (fun _ h => h) (fun _ _ => rfl)
      have HRD := Lib.hid (HR10.out.keep k11)
      have HCM := Lib.hid (RDcomp_any w10.drew rb v p Ap cp budget (st'.steps + 1) _ fd vb vc ve (bs ++ [b]) Ae ce cc (entB p (bs ++ [b])) hbd hod hed (by simp; omega))
      have HBD := Lib.hid hbd
      clear hbd hod hed k11 HB HO HEN HR9 K10 q5 q8 hz10 HR10
      generalize w10.drew = w11 at *
      go_wp2_with fail
      refine HCM.out.mono ?_
      rintro e w12 ⟨rfl, vb', hb12, ho12, h112, h212, k12⟩
      have HR12 := Lib.hid (HRD.out.comp HBD.out rfl k12 hb12 ho12 h112 h212)
      clear hb12 ho12 h112 h212 k12 HCM HRD HBD
      have HLF := Lib.hid (rdecide_leaf w0 rb v p Ap cp budget w12 (bs ++ [b]) _ HR12.out (by simp; exact HXE.out.symm))
      go_wp2_with fail
      refine HLF.out.mono ?_
      rintro e w13 ⟨rfl, k13⟩
      have HR13 : Hid (RDs w0 rb v p Ap cp budget w13 (bs ++ [b]) (decF budget p 0 (bs ++ [b]) ⟨st'.steps + 1, st'.best⟩).2) := by
       have := HR12.out.keep k13
       rw [HCC.out] at this
       exact this
      have HN2 := Lib.hid (HN.out rfl hlt7)
      clear k13 HR12 HLF HN HRS HIH HPP HXE
      generalize decF budget p 0 (bs ++ [b]) ⟨st'.steps + 1, st'.best⟩ = rr at *
      go_wp2
      obtain ⟨vf, fd, vb, vc, ve, hb, ho, hbest⟩ := HR13.out.b
      obtain ⟨Af, cf, rfl, hcf, hcf2⟩ := ho.form
      obtain ⟨g, rfl, hg⟩ := ho.some_ (by simp)
      have q8 := hb.cell 8
      simp [rdC] at q8
      simp at hcf
      have f8 := hb.frozen 8
      have hzp := hb.lt
      have hcut := ho.cut (k := bs.length) (by simp) (.inl (by simp))
      rw [List.take_left' rfl] at hcut
      have HPOP : Hid (RDs w0 rb v p Ap cp budget ((w13.setCell ⟨rb, 8, none⟩ (.slice (some ⟨g, 0, none⟩) bs.length cf)).drew) bs rr.2) := (HR13.out.lay hb ho hbest hcut (Keeps.refl _ _) (.inl rfl)).keep (Keeps.refl _ _).drew
      clear hb ho hbest hcut
      refine wp_region_lexB (fun w' => ∃ y : Ext w13, w' = y.val) [0, 1, 2, 3, 4, 5, 6, 7, 8, 9, 10, 11, 12, 13, 14] (by kernel_rfl) (by kernel_rfl) ⟨⟨_, (Keeps.refl _ _).drew⟩, rfl⟩ ?_
      have y8 := Ext.cell q8
      iterate 14 (first | (refine lex_q _ rfl rfl rfl ?_; go_big_quiet_step (fail); refine wpQuiet_nil ?_) | (refine lex_nil _ rfl _ rfl rfl _ rfl ?_; go_simp))
      clear y8
      refine lex_a _ rfl rfl false (by kernel_rfl) ?_
      go_wp2
      (try refine ⟨fun h => (by cases h), ?_⟩)
      simp only [wpLex]
      refine NoPanic.normal ?_
      generalize hWp : World.drew (World.setCell w13 _ _) = Wp
      rw [hWp] at HPOP
      clear hWp q8 f8 hzp
      go_wp2
      go_roundw
      case rel => exact HN2.out Wp HPOP.out
      case measure => simp [intOf]; omega
     | succ k =>
      have hne0 : ¬ bs.length + 1 = (xs p).length := by have := HL.out; omega
      have hne1 : (bs.length + 1 == (xs p).length) = false := by simpa using hne0
      have hne2 : ((bs.length : Int) + 1 == ((xs p).length : Int)) = false := by simp; omega
      have hne3 : decide (bs.length + 1 = (xs p).length) = false := decide_eq_false hne0
      have hne4 : ((((bs.length + 1 : Nat) : Int)) == ((xs p).length : Int)) = false := by simp; omega
      go_wp2
      refine wp_region_lexB (fun w' => ∃ y : Ext w10, w' = y.val) [0, 1, 2, 3, 4, 5, 6, 7, 8, 9, 10, 11, 12, 13, 14] (by kernel_rfl) (by kernel_rfl) ⟨⟨_, (Keeps.refl _ _).drew⟩, rfl⟩ ?_
      have y5 := Ext.cell q5
      have y8 := Ext.cell q8
      iterate 4 (refine lex_q _ rfl rfl rfl ?_; go_big_quiet_step (fail); refine wpQuiet_nil ?_)
      refine lex_nilg _ rfl _ rfl rfl _ rfl ?_; go_simp
      iterate 4 (refine lex_q _ rfl rfl rfl ?_; go_big_quiet_step (fail); refine wpQuiet_nil ?_)
      refine lex_nilg _ rfl _ rfl rfl _ rfl ?_; go_simp
      iterate 5 (refine lex_q _ rfl rfl rfl ?_; go_big_quiet_step (fail); refine wpQuiet_nil ?_)
      clear y5 y8
      simp only [wpLex]
      refine NoPanic.normal ?_
      clear hne0 hne1 hne2 hne3 hne4
      have HRD := Lib.hid (HR10.out.keep (Keeps.refl _ _).drew)
      clear HB HO HEN HR9 K10 q5 q8 hz10 HR10
      generalize w10.drew = w11 at *
      have HDC := Lib.hid (HIH.out (bs ++ [b]) _ w11 (by simp) hlt7 HRD.out (by omega))
      go_wp2_with fail
      refine HDC.out.mono ?_
      rintro e w13 ⟨rfl, k13, hrr⟩
      cases hr1 : (decF budget p (k + 1) (bs ++ [b]) ⟨st'.steps + 1, st'.best⟩).1 with
      | false =>
       have Q : Hid (PP (.returned (.bool false)) w13) := by
        show PP _ _; rw [← HPP.out, HRS.out, if_neg (by rw [hr1]; simp)]
        exact ⟨rfl, k13, fun e => by cases e⟩
       clear HPP HRS HN hrr hr1 k13 HIH HDC HRD
       go_wp2
       exact Q.out
      | true =>
       obtain ⟨hr13, hs13⟩ := hrr hr1
       have HR13 := Lib.hid hr13
       have HN2 := Lib.hid (HN.out hr1 hs13)
       clear HPP HRS HN hrr hr1 k13 HIH HDC HRD hr13 hs13
       generalize decF budget p (k + 1) (bs ++ [b]) ⟨st'.steps + 1, st'.best⟩ = rr at *
       go_wp2
       obtain ⟨vf, fd, vb, vc, ve, hb, ho, hbest⟩ := HR13.out.b
       obtain ⟨Af, cf, rfl, hcf, hcf2⟩ := ho.form
       obtain ⟨g, rfl, hg⟩ := ho.some_ (by simp)
       have q8 := hb.cell 8
       simp [rdC] at q8
       simp at hcf
       have f8 := hb.frozen 8
       have hzp := hb.lt
       have hcut := ho.cut (k := bs.length) (by simp) (.inl (by simp))
       rw [List.take_left' rfl] at hcut
       have HPOP : Hid (RDs w0 rb v p Ap cp budget ((w13.setCell ⟨rb, 8, none⟩ (.slice (some ⟨g, 0, none⟩) bs.length cf)).drew) bs rr.2) := (HR13.out.lay hb ho hbest hcut (Keeps.refl _ _) (.inl rfl)).keep (Keeps.refl _ _).drew
       clear hb ho hbest hcut
       refine wp_region_lexB (fun w' => ∃ y : Ext w13, w' = y.val) [0, 1, 2, 3, 4, 5, 6, 7, 8, 9, 10, 11, 12, 13, 14] (by kernel_rfl) (by kernel_rfl) ⟨⟨_, (Keeps.refl _ _).drew⟩, rfl⟩ ?_
       have y8 := Ext.cell q8
       iterate 14 (first | (refine lex_q _ rfl rfl rfl ?_; go_big_quiet_step (fail); refine wpQuiet_nil ?_) | (refine lex_nil _ rfl _ rfl rfl _ rfl ?_; go_simp))
       clear y8
       refine lex_a _ rfl rfl false (by kernel_rfl) ?_
       go_wp2
       (try refine ⟨fun h => (by cases h), ?_⟩)
       simp only [wpLex]
       refine NoPanic.normal ?_
       generalize hWp : World.drew (World.setCell w13 _ _) = Wp
       rw [hWp] at HPOP
       clear hWp q8 f8 hzp
       go_wp2
       go_roundw
       case rel => exact HN2.out Wp HPOP.out
       case measure => simp [intOf]; omega
  ·obtain rfl : i = 2 := by omega
   have Q : Hid (PP (.returned (.bool true)) wr) := by
    show PP _ _; rw [← HPP.out, HRES.out]
    exact ⟨rfl, HRD.out.k, fun _ => ⟨HRD.out, HLE.out⟩⟩
   clear HPP HRES HRD
   go_wp2
   exact Q.out

theorem rdecide_any (w0 : World) (rb : Nat) (v : PV) (p : Pb) (Ap : Option Addr) (cp budget : Nat) (hc : checkP p = true) (hbud : budget ≤ 1048576) : ∀ (k : Nat) (bs : List Bool) (st : SSt) (w : World), 0 < k → bs.length + k = (xs p).length → st.steps ≤ budget → RDs w0 rb v p Ap cp budget w bs st →
  Calls Try.prog 44 #[.pointer (some ⟨rb, 0, none⟩)] w (RDPost w0 rb v p Ap cp budget bs (decF budget p k bs st)) := by
 intro k
 induction k with
 | zero => intro _ _ _ h; omega
 | succ k ih =>
  intro bs st w _ hl hs h
  exact rdecide_node w0 rb v p Ap cp budget w bs st k hc hbud hl hs h (fun bs' st' w' hl' hs' h' hk => ih bs' st' w' hk (by omega) hs' h')

def placeL (f : Ref → Nat) (l : List Ref) : List Ref := l.foldl (fun acc u => acc.set (f u) u) (List.replicate l.length ⟨0, 0⟩)
theorem placeL_from {f : Ref → Nat} {S : List Ref} : ∀ (l acc : List Ref), acc.length = S.length → (∀ u ∈ l, S[f u]? = some u) → ∀ i : Nat, (∀ u, S[i]? = some u → u ∉ l → acc[i]? = some u) → (∀ u, S[i]? = some u → u ∈ l → f u = i) → (l.foldl (fun acc u => acc.set (f u) u) acc)[i]? = S[i]?
 | [], acc, hl, _, i, h2, _ => by
  simp only [List.foldl_nil]
  cases e : S[i]? with
  | none => rw [List.getElem?_eq_none_iff] at e ⊢; omega
  | some u => exact h2 u e (by simp)
 | a :: l, acc, hl, h1, i, h2, h3 => by
  simp only [List.foldl_cons]
  refine placeL_from l (acc.set (f a) a) (by rw [List.length_set]; exact hl) (fun u hu => h1 u (by simp [hu])) i (fun u hs hn => ?_) (fun u hs hu => h3 u hs (by simp [hu]))
  rw [List.getElem?_set]
  have hfa := h1 a (by simp)
  by_cases e : f a = i
  ·subst e
   rw [hs] at hfa
   injection hfa with hfa
   rw [if_pos rfl, if_pos (by rw [hl]; exact getElem?_lt hs), hfa]
  ·rw [if_neg e]
   refine h2 u hs ?_
   simp only [List.mem_cons, not_or]
   refine ⟨fun e2 => ?_, hn⟩
   subst e2
   exact e (h3 u hs (by simp))
theorem placeL_eq {f : Ref → Nat} {l S : List Ref} (hp : S.Perm l) (h1 : ∀ u ∈ l, S[f u]? = some u) (hn : S.Nodup) : placeL f l = S := by
 apply List.ext_getElem?
 intro i
 refine placeL_from l _ (by rw [List.length_replicate, hp.length_eq]) h1 i (fun u hs hnl => absurd (hp.mem_iff.1 (List.mem_of_getElem? hs)) hnl) (fun u hs hu => ?_)
 exact nd_at hn (h1 u hu) hs
def befB (p : Pb) (bs : List Bool) (r : Int) (u : Ref) : Nat := earlier (openA p.ps p.at_ r) u + lostB (xs p) bs r u
def arrL (p : Pb) (bs : List Bool) : Nat → List Order
 | 0 => []
 | r + 1 => arrL p bs r ++ (if (openA p.ps p.at_ (r : Int)).length = 0 then [] else [⟨(r : Int), placeL (befB p bs (r : Int)) (openA p.ps p.at_ (r : Int))⟩])
theorem bef_at {p : Pb} (hc : valid p.ps = true) (hg : Gd p.ps p.at_) {bs : List Bool} (hl : bs.length = (xs p).length) (hk : okB p bs = true) {r : Nat} (hr : r < 144) :
  sortB (fun u v => decide (cmpL p.ps p.at_ (labD p.ps p.at_ p.now (decs p.ps (xs p) bs)) (r : Int) u v < 0)) (openA p.ps p.at_ (r : Int)) = placeL (befB p bs (r : Int)) (openA p.ps p.at_ (r : Int)) ∧ ∀ u ∈ openA p.ps p.at_ (r : Int), befB p bs (r : Int) u < (openA p.ps p.at_ (r : Int)).length := by
 have hk' : okD p.ps p.at_ (decs p.ps (xs p) bs) = true := hk
 obtain ⟨ho, ht⟩ := topo_of_ok hg (decs_ok bs) hk'
 have hd : Dec p.ps p.at_ (decs p.ps (xs p) bs) (r : Int) (openA p.ps p.at_ (r : Int)) := made_dec hc hl hr
 have hlab : labD p.ps p.at_ p.now (decs p.ps (xs p) bs) = labS p.ps p.at_ p.now (decs p.ps (xs p) bs) (lineR p.ps (arcsD p.ps (decs p.ps (xs p) bs)) p.at_).1 := rfl
 have ht : Topo p.ps p.at_ (decs p.ps (xs p) bs) (lineR p.ps (arcsD p.ps (decs p.ps (xs p) bs)) p.at_).1 := ht
 have ho : ∀ a ∈ decs p.ps (xs p) bs, doneR p.at_ a.to = false := ho
 have hT : Tot (precD p.ps (decs p.ps (xs p) bs) (r : Int)) (openA p.ps p.at_ (r : Int)) := prec_tot ht ho hd
 have hcg : sortB (fun u v => decide (cmpL p.ps p.at_ (labS p.ps p.at_ p.now (decs p.ps (xs p) bs) (lineR p.ps (arcsD p.ps (decs p.ps (xs p) bs)) p.at_).1) (r : Int) u v < 0)) (openA p.ps p.at_ (r : Int)) = sortB (precD p.ps (decs p.ps (xs p) bs) (r : Int)) (openA p.ps p.at_ (r : Int)) := sortB_congr (fun u hu v hv => prec_lab (n := p.now) hc ht ho hd hu hv)
 rw [hlab, hcg]
 obtain ⟨hs, hp⟩ := sortB_sorted hT hd.nd
 generalize sortB (precD p.ps (decs p.ps (xs p) bs) (r : Int)) (openA p.ps p.at_ (r : Int)) = S at *
 have hat : ∀ u ∈ openA p.ps p.at_ (r : Int), S[befB p bs (r : Int) u]? = some u := fun u hu => by
  obtain ⟨i, hi⟩ := List.mem_iff_getElem?.1 (hp.mem_iff.2 hu)
  have h1 := rank_at hT hs hp hi
  have h2 : befB p bs (r : Int) u = rankD (precD p.ps (decs p.ps (xs p) bs) (r : Int)) (openA p.ps p.at_ (r : Int)) u := rank_count hc hl ht ho hr hu
  rw [h2, h1]; exact hi
 exact ⟨(placeL_eq hp hat (hp.nodup_iff.2 hd.nd)).symm, fun u hu => by have := getElem?_lt (hat u hu); rwa [hp.length_eq] at this⟩
theorem arr_eq {p : Pb} (hc : valid p.ps = true) (hg : Gd p.ps p.at_) {bs : List Bool} (hl : bs.length = (xs p).length) (hk : okB p bs = true) : arrL p bs 144 = ordB p bs := by
 unfold ordB
 have key : ∀ n, n ≤ 144 → arrL p bs n = ordL p.ps p.at_ (labD p.ps p.at_ p.now (decs p.ps (xs p) bs)) n := by
  intro n
  induction n with
  | zero => intro _; rfl
  | succ n ih =>
   intro hn
   rw [arrL, ordL, ih (by omega), (bef_at hc hg hl hk (show n < 144 by omega)).1]
 exact key 144 (Nat.le_refl _)

theorem eqlRef (a b c d : Int) (W : World) : (binOp .eql 46 (.agg #[.int .i64 a, .int .i64 b]) (.agg #[.int .i64 c, .int .i64 d])).run Try.prog W = .ok (.bool (decide (a = c ∧ b = d))) W := by
 by_cases h1 : a = c
 ·by_cases h2 : b = d
  ·subst h1 h2
   go_simp
  ·subst h1
   go_simp
 ·go_simp
def earlTo (l : List Ref) (u : Ref) : Nat := (l.filter fun v => decide (v.tr = u.tr) && decide (v.st < u.st)).length
theorem earlTo_snoc (l : List Ref) (u v : Ref) : earlTo (l ++ [v]) u = earlTo l u + (if v.tr = u.tr ∧ v.st < u.st then 1 else 0) := by
 unfold earlTo
 rw [List.filter_append, List.length_append]
 by_cases h1 : v.tr = u.tr
 ·by_cases h2 : v.st < u.st
  ·simp [h1, h2]
  ·simp [h1, h2]
 ·simp [h1]
def hitB (r : Int) (u : Ref) (q : Pr × Bool) : Bool := decide (q.1.res = r) && ((decide (q.1.v = u) && q.2) || (decide (q.1.u = u) && !q.2))
def lostTo (l : List Pr) (bs : List Bool) (r : Int) (u : Ref) (m : Nat) : Nat := (((l.zip bs).take m).filter (hitB r u)).length
theorem lostTo_succ {l : List Pr} {bs : List Bool} (r : Int) (u : Ref) {m : Nat} {x : Pr} {b : Bool} (hx : l[m]? = some x) (hb : bs[m]? = some b) : lostTo l bs r u (m + 1) = lostTo l bs r u m + (if hitB r u (x, b) = true then 1 else 0) := by
 have hz : (l.zip bs)[m]? = some (x, b) := by rw [List.getElem?_zip_eq_some]; exact ⟨hx, hb⟩
 unfold lostTo
 rw [List.take_add_one, hz, Option.toList_some, List.filter_append, List.length_append]
 by_cases h : hitB r u (x, b) = true
 ·simp [h]
 ·simp [h]
theorem lostTo_all {l : List Pr} {bs : List Bool} (r : Int) (u : Ref) (h : bs.length = l.length) : lostTo l bs r u l.length = lostB l bs r u := by
 unfold lostTo lostB
 rw [List.take_of_length_le (by rw [List.length_zip]; omega)]
 rfl
theorem lostTo_le (l : List Pr) (bs : List Bool) (r : Int) (u : Ref) (m : Nat) : lostTo l bs r u m ≤ m := by
 unfold lostTo
 have h1 := List.length_filter_le (hitB r u) ((l.zip bs).take m)
 rw [List.length_take] at h1
 omega
theorem earlTo_le (l : List Ref) (u : Ref) : earlTo l u ≤ l.length := List.length_filter_le _ _
def placeTo (f : Ref → Nat) (l : List Ref) (a : Nat) : List Ref := (l.take a).foldl (fun acc u => acc.set (f u) u) (List.replicate l.length ⟨0, 0⟩)
theorem placeTo_succ (f : Ref → Nat) {l : List Ref} {a : Nat} {u : Ref} (h : l[a]? = some u) : placeTo f l (a + 1) = (placeTo f l a).set (f u) u := by
 unfold placeTo
 rw [List.take_add_one, h, Option.toList_some, List.foldl_append]
 rfl
theorem placeTo_all (f : Ref → Nat) (l : List Ref) : placeTo f l l.length = placeL f l := by unfold placeTo placeL; rw [List.take_length]
theorem foldl_set_len (f : Ref → Nat) : ∀ (l acc : List Ref), (l.foldl (fun acc u => acc.set (f u) u) acc).length = acc.length
 | [], _ => rfl
 | a :: l, acc => by rw [List.foldl_cons, foldl_set_len f l, List.length_set]
theorem placeTo_len (f : Ref → Nat) (l : List Ref) (a : Nat) : (placeTo f l a).length = l.length := by unfold placeTo; rw [foldl_set_len, List.length_replicate]

theorem refEq (u v : Ref) : decide (u = v) = decide (u.tr = v.tr ∧ u.st = v.st) := by
 rw [decide_eq_decide]
 constructor
 ·rintro rfl; exact ⟨rfl, rfl⟩
 ·rintro ⟨h1, h2⟩; cases u; cases v; simp_all
theorem earlTo_all (l : List Ref) (u : Ref) : earlTo l u = earlier l u := rfl

end Go.Proofs.Ytilbbpbjhoidhaa
