/- The statement DispatchVerify: its function returns true. No condition beyond the arguments' reading. -/
import Derived.Test.YtilbbpbjhoidhaaV39
import Derived.Test.YtilbbpbjhoidhaaV43
import Derived.BigRegion
namespace Go.Proofs.Ytilbbpbjhoidhaa
open Go.RowKit

theorem low_keep {α : Type} {E : Rd α} (hE : Rd.Ok E) {C : Foot} {w W : World} {z : Nat} {cs : List Value} {x : α} (h : E w (fun b => b < z) cs x) (k : Keeps C w W) (hz : z < w.heap.size) (hC : ∀ b, b < z → ¬ C b) : E W (Old W) cs x :=
 hE.mono h (fun b hb => by have h1 : b < z := hb; have := k.size; show b < W.heap.size; omega) (fun b hb => by have h1 : b < z := hb; exact k.block b (by omega) (hC b h1))
theorem low_pb {C : Foot} {w W : World} {z : Nat} {v : PV} {p : Pb} (h : RPb w (fun b => b < z) v p) (k : Keeps C w W) (hz : z < w.heap.size) (hC : ∀ b, b < z → ¬ C b) : RPb W (Old W) v p :=
 h.mono_ (fun b hb => by have h1 : b < z := hb; have := k.size; show b < W.heap.size; omega) (fun b hb => by have h1 : b < z := hb; exact k.block b (by omega) (hC b h1))

set_option maxRecDepth 100000 in
set_option maxHeartbeats 8000000 in
theorem DispatchVerify_any (lp la ld : List Int) (Ap Aa Ad : Option Addr) (cp ca cd : Nat) (now how at_ vv : Int) (w : World) (h : RInts w (Old w) [.slice Ap lp.length cp] lp) (h2 : RInts w (Old w) [.slice Aa la.length ca] la) (h3 : RInts w (Old w) [.slice Ad ld.length cd] ld) :
  Calls Try.prog 5 #[.slice Ap lp.length cp, .slice Aa la.length ca, .slice Ad ld.length cd, .int .i64 now, .int .i64 how, .int .i64 at_, .int .i64 vv] w fun e w' => e = .returned (.bool true) ∧ KeepsAll w w' := by
 have H := Lib.hid h
 have H2 := Lib.hid h2
 have H3 := Lib.hid h3
 clear h h2 h3
 go_enter Try.func5, Try.ntmps5
 go_wp2_with fail
 refine (small37_any lp la ld Ap Aa Ad cp ca cd now w H.out H2.out H3.out).mono ?_
 rintro e w1 ⟨v, p, rfl, hr, hm, hp2, k1⟩
 have hr1 := hr.old
 have HR := Lib.hid hr1
 have HM := Lib.hid hm
 have K1 := Lib.hid k1
 clear hr hr1 hm k1 H H2 H3 hp2
 unfold PV.cs
 go_wp2_with fail
 generalize hW2 : World.alloc w1 _ = W2
 have k2 : KeepsAll w1 W2 := by subst hW2; exact (Keeps.refl _ _).alloc _
 have hbx : Blk W2 w1.heap.size 25 #[.slice v.A p.ps.length v.c, .slice v.A2 p.at_.length v.c2, .slice v.A3 p.due.length v.c3, .slice v.A4 p.wgt.length v.c4, .int .i64 p.now] := by subst hW2; exact Blk.new _ _ _
 have HR2 := Lib.hid (HR.out.kept k2)
 have HBX2 := Lib.hid hbx
 have K2 := Lib.hid (K1.out.tr k2)
 clear hW2 k2 hbx HR K1
 generalize w1.heap.size = zx at *
 have HS : Hid (∀ W, RPb W (Old W) v p → Calls Try.prog 13 #[.agg #[.slice v.A p.ps.length v.c, .slice v.A2 p.at_.length v.c2, .slice v.A3 p.due.length v.c3, .slice v.A4 p.wgt.length v.c4, .int .i64 p.now], .int .i64 5000] W (SolvePost 5000 p W)) := fun W hW => DspSolve_any p v W 5000 hW (fun _ => made_open HM.out.ps)
 have HPSL : Hid (1 ≤ p.ps.length) := Lib.hid HM.out.ps.1
 have HBOTH : Hid ((solveP 5000 p).2.2 = 0 → verR p (solveP 5000 p).1 = true ∧ SolOk (solveP 5000 p).1) := fun h0 => solve_both (solve_err h0) HM.out.ps (by omega) h0
 have HNONE : Hid (¬ (solveP 5000 p).2.2 = 0 → verR p (solveP 5000 p).1 = false) := fun h0 => by rw [solve_none h0]; exact ver_sol0 p HPSL.out
 clear HM
 have x0 := HBX2.out.cell 0
 have x1 := HBX2.out.cell 1
 have x2 := HBX2.out.cell 2
 have x3 := HBX2.out.cell 3
 have x4 := HBX2.out.cell 4
 simp at x0 x1 x2 x3 x4
 go_wp2_with fail
 refine (HS.out _ HR2.out).mono ?_
 rintro e w6 ⟨a, b, c, rfl, rs, k6⟩
 obtain ⟨Ao, co, Ae, ce, rfl, rfl, rfl, ro, re⟩ := rs.form
 have K6 := Lib.hid (K2.out.tr k6)
 have HR6 := Lib.hid (HR2.out.kept k6)
 have HBX6 := Lib.hid (HBX2.out.kept k6 (by simp))
 have HRO6 := Lib.hid ro
 have HRE6 := Lib.hid re
 clear k6 HR2 HBX2 K2 HS rs ro re x0 x1 x2 x3 x4
 simp only []
 generalize (solveP 5000 p).2.2 = er at *
 obtain ⟨sol, hsol⟩ : ∃ s, s = (solveP 5000 p).1 := ⟨_, rfl⟩
 rw [← hsol] at HBOTH HNONE HRO6 HRE6 ⊢
 clear hsol
 obtain ⟨os, en, cost1⟩ := sol
 simp only [] at HBOTH HNONE HRO6 HRE6 ⊢
 generalize (solveP 5000 p).2.1 = st1 at *
 go_upto_region 3 with (fail)
 generalize hW7 : World.alloc w6 _ = W7
 have k7 : KeepsAll w6 W7 := by subst hW7; exact (Keeps.refl _ _).alloc _
 have hbs : Blk W7 w6.heap.size 31 #[.slice Ao os.length co, .slice Ae en.length ce, .int .i64 cost1] := by subst hW7; exact Blk.new _ _ _
 have HR7 := Lib.hid (HR6.out.kept k7)
 have HRL7 : Hid (RPb W7 (fun b => b < w6.heap.size) v p) := HR6.out.mono_ (fun _ hb => hb) (fun b hb => k7.block b hb (by simp))
 have HOL7 : Hid (ROrders W7 (fun b => b < w6.heap.size) [.slice Ao os.length co] os) := ROrders.ok.mono HRO6.out (fun _ hb => hb) (fun b hb => k7.block b hb (by simp))
 have HEL7 : Hid (RIntss W7 (fun b => b < w6.heap.size) [.slice Ae en.length ce] en) := RIntss.ok.mono HRE6.out (fun _ hb => hb) (fun b hb => k7.block b hb (by simp))
 have HBX7 := Lib.hid (HBX6.out.kept k7 (by simp))
 have HRO7 := Lib.hid (k7.rdo' ROrders.ok HRO6.out)
 have HRE7 := Lib.hid (k7.rdo' RIntss.ok HRE6.out)
 have HBS7 := Lib.hid hbs
 have K7 := Lib.hid (K6.out.tr k7)
 have hzz : w.heap.size ≤ w6.heap.size ∧ zx < w6.heap.size := ⟨K6.out.size, HBX6.out.lt⟩
 have HZZ := Lib.hid hzz
 clear hW7 k7 hbs HR6 HBX6 K6 HRO6 HRE6 hzz
 generalize w6.heap.size = zs at *
 have HVB := Lib.hid (ver_both p v HR7.out HRO7.out HRE7.out (cost := cost1))
 by_cases her : er = 0
 ·subst her
  obtain ⟨hvt, hso⟩ := HBOTH.out rfl
  have HSO := Lib.hid hso
  have HV1 : Hid (∀ W, KeepsAll W7 W → Calls Try.prog 19 #[.agg #[.slice v.A p.ps.length v.c, .slice v.A2 p.at_.length v.c2, .slice v.A3 p.due.length v.c3, .slice v.A4 p.wgt.length v.c4, .int .i64 p.now], .agg #[.slice Ao os.length co, .slice Ae en.length ce, .int .i64 cost1]] W fun e w' => e = .returned (.bool true) ∧ KeepsAll W w') := fun W hW => by have := HVB.out.1 W hW; rw [hvt] at this; exact this
  have HV2 : Hid (∀ W, KeepsAll W7 W → Calls Try.prog 20 #[.agg #[.slice v.A p.ps.length v.c, .slice v.A2 p.at_.length v.c2, .slice v.A3 p.due.length v.c3, .slice v.A4 p.wgt.length v.c4, .int .i64 p.now], .agg #[.slice Ao os.length co, .slice Ae en.length ce, .int .i64 cost1]] W fun e w' => e = .returned (.bool true) ∧ KeepsAll W w') := fun W hW => by have := HVB.out.2 W hW; rw [hvt] at this; exact this
  clear HBOTH HNONE hvt hso HVB
  have x0 := HBX7.out.cell 0
  have x1 := HBX7.out.cell 1
  have x2 := HBX7.out.cell 2
  have x3 := HBX7.out.cell 3
  have x4 := HBX7.out.cell 4
  have s0 := HBS7.out.cell 0
  have s1 := HBS7.out.cell 1
  have s2 := HBS7.out.cell 2
  simp at x0 x1 x2 x3 x4 s0 s1 s2
  go_wp2_with fail
  refine (HV1.out _ (Keeps.refl _ _)).mono ?_
  rintro e w8 ⟨rfl, k8⟩
  have HV28 := Lib.hid (HV2.out w8 k8)
  have K8 := Lib.hid k8
  have HBX8 := Lib.hid (HBX7.out.kept k8 (by simp))
  have HBS8 := Lib.hid (HBS7.out.kept k8 (by simp))
  clear k8 HV1 HV2 x0 x1 x2 x3 x4 s0 s1 s2
  have x0 := HBX8.out.cell 0
  have x1 := HBX8.out.cell 1
  have x2 := HBX8.out.cell 2
  have x3 := HBX8.out.cell 3
  have x4 := HBX8.out.cell 4
  have s0 := HBS8.out.cell 0
  have s1 := HBS8.out.cell 1
  have s2 := HBS8.out.cell 2
  simp at x0 x1 x2 x3 x4 s0 s1 s2
  go_wp2_with fail
  refine HV28.out.mono ?_
  rintro e w9 ⟨rfl, k9⟩
  have K79 := Lib.hid (K8.out.tr k9)
  have K9 := Lib.hid (K7.out.tr K79.out)
  have hzs7 := HBS7.out.lt
  have HR9 : Hid (RPb w9 (fun b => b < zs) v p) := HRL7.out.mono_ (fun _ hb => hb) (fun b hb => K79.out.block b (by have : b < zs := hb; omega) (by simp))
  have HRO9 : Hid (ROrders w9 (fun b => b < zs) [.slice Ao os.length co] os) := ROrders.ok.mono HOL7.out (fun _ hb => hb) (fun b hb => K79.out.block b (by have : b < zs := hb; omega) (by simp))
  have HRE9 : Hid (RIntss w9 (fun b => b < zs) [.slice Ae en.length ce] en) := RIntss.ok.mono HEL7.out (fun _ hb => hb) (fun b hb => K79.out.block b (by have : b < zs := hb; omega) (by simp))
  have HBX9 := Lib.hid (HBX7.out.kept K79.out (by simp))
  have HBS9 := Lib.hid (HBS7.out.kept K79.out (by simp))
  clear k9 HV28 x0 x1 x2 x3 x4 s0 s1 s2 K8 K7 K79 HR7 HRO7 HRE7 HBX7 HBS7 HBX8 HBS8 HRL7 HOL7 HEL7 hzs7
  have hwr := pick_range how 5 (by omega)
  go_wp2_with fail
  refine (Pick_any _ _ _ (by omega) (by omega)).mono ?_
  rintro e w' ⟨rfl, rfl⟩
  have hs5 : pick how 5 = 0 ∨ pick how 5 = 1 ∨ pick how 5 = 2 ∨ pick how 5 = 3 ∨ pick how 5 = 4 := by omega
  clear hwr
  rcases hs5 with e | e | e | e | e
  ·rw [e]; clear e
   have s2 := HBS9.out.cell 2
   have f2 := HBS9.out.frozen 2
   have hzs := HBS9.out.lt
   simp at s2
   have HPK := Lib.hid (Pick_any vv 3 · (by omega) (by omega))
   generalize pick vv 3 = q1 at *
   go_upto_region 10 with (fail)
   refine wp_region_lex (fun w'' => ∃ x : Ext w9, w'' = x.val) [0, 1, 2, 3, 4, 5, 6, 7] (by kernel_rfl) (by kernel_rfl) ⟨⟨_, (Keeps.refl _ _).drew⟩, rfl⟩ ?_
   have e2 := Ext.cell s2
   iterate 3 (refine lex_q _ rfl rfl rfl ?_; go_big_quiet_step (fail); refine wpQuiet_nil ?_)
   refine lex_a _ rfl rfl true (by kernel_rfl) ?_
   go_wp2_with fail
   refine (HPK.out _).mono ?_
   rintro e w10 ⟨rfl, rfl⟩
   go_wp2
   refine ⟨fun _ => ⟨⟨_, (Keeps.refl _ _).drew⟩, rfl⟩, ?_⟩
   iterate 3 (refine lex_q _ rfl rfl rfl ?_; go_big_quiet_step (fail); refine wpQuiet_nil ?_)
   clear e2
   refine lex_a _ rfl rfl false (by kernel_rfl) ?_
   go_wp2
   (try refine ⟨fun h => (by cases h), ?_⟩)
   simp only [wpLex]
   refine NoPanic.normal ?_
   obtain ⟨costF, hcf⟩ : ∃ c, c = wrap64 (cost1 + wrap64 (q1 - 1)) := ⟨_, rfl⟩
   rw [← hcf]
   generalize hWF : World.drew (World.setCell w9 _ _) = WF
   have kf : Keeps (fun b => b = zs) w9 WF := by subst hWF; exact ((Keeps.refl (fun b => b = zs) w9).setCell (p := ⟨zs, 2, none⟩) (fun _ => rfl) _).drew
   have HBSF : Hid (Blk WF zs 31 #[.slice Ao os.length co, .slice Ae en.length ce, .int .i64 costF]) := by subst hWF; exact (HBS9.out.set_ 2 _).drew_
   have HBXF := Lib.hid (HBX9.out.kept kf (by have := HZZ.out; show ¬ zx = zs; omega))
   have HRF := Lib.hid (low_pb HR9.out kf hzs (fun b hb e => by have e : b = zs := e; omega))
   have HOF := Lib.hid (low_keep ROrders.ok HRO9.out kf hzs (fun b hb e => by have e : b = zs := e; omega))
   have HEF := Lib.hid (low_keep RIntss.ok HRE9.out kf hzs (fun b hb e => by have e : b = zs := e; omega))
   have KF : Hid (KeepsAll w WF) := K9.out.trans kf (fun b hb e => by have e : b = zs := e; have := HZZ.out; omega)
   clear hWF kf hcf HPK s2 f2 hzs HR9 HRO9 HRE9 HBX9 HBS9 K9
   have HPF := Lib.hid (HBXF.out)
   have x0 := HBXF.out.cell 0
   have x1 := HBXF.out.cell 1
   have x2 := HBXF.out.cell 2
   have x3 := HBXF.out.cell 3
   have x4 := HBXF.out.cell 4
   have s0 := HBSF.out.cell 0
   have s1 := HBSF.out.cell 1
   have s2 := HBSF.out.cell 2
   simp at x0 x1 x2 x3 x4 s0 s1 s2
   have HVB := Lib.hid (ver_both p v HRF.out HOF.out HEF.out (cost := costF))
   clear HBXF HBSF HRF HOF HEF HPF
   go_upto_region 25 with (fail)
   refine wp_region_lexB (fun w' => ∃ y : Ext WF, w' = y.val) [0, 1, 2, 3, 5, 6, 4, 7, 8, 9, 10] (by kernel_rfl) (by kernel_rfl) ⟨⟨_, (Keeps.refl _ _).drew⟩, rfl⟩ ?_
   have y0 := Ext.cell x0
   have y1 := Ext.cell x1
   have y2 := Ext.cell x2
   have y3 := Ext.cell x3
   have y4 := Ext.cell x4
   have z0 := Ext.cell s0
   have z1 := Ext.cell s1
   have z2 := Ext.cell s2
   refine lex_a _ rfl rfl true (by kernel_rfl) ?_
   go_wp2_with fail
   refine (awake37_any _).mono ?_
   rintro e wa ⟨rfl, ka⟩
   have KA := Lib.hid ((Keeps.refl _ WF).drew.tr ka)
   have HVA := Lib.hid (HVB.out.1 wa KA.out)
   clear ka
   go_wp2
   refine ⟨fun _ => ⟨⟨_, KA.out⟩, rfl⟩, ?_⟩
   iterate 5 (refine lex_q _ rfl rfl rfl ?_; go_big_quiet_step (fail); refine wpQuiet_nil ?_)
   clear y0 y1 y2 y3 y4 z0 z1 z2
   refine lex_a _ rfl rfl true (by kernel_rfl) ?_
   go_wp2_with fail
   refine HVA.out.mono ?_
   rintro e wb ⟨rfl, kb⟩
   have KB := Lib.hid (KA.out.tr kb)
   have HVR := Lib.hid (HVB.out.2 wb KB.out)
   clear kb HVA HVB
   go_wp2
   refine ⟨fun _ => ⟨⟨_, KB.out⟩, rfl⟩, ?_⟩
   refine lex_a _ rfl rfl true (by kernel_rfl) ?_
   go_wp2_with fail
   refine HVR.out.mono ?_
   rintro e wc ⟨rfl, kc⟩
   have KC := Lib.hid (KF.out.tr (KB.out.tr kc))
   have KC2 := Lib.hid (KB.out.tr kc)
   clear kc HVR KB KA
   generalize verR p _ = bv at *
   have hbb : (bv == bv) = true := by simp
   go_wp2
   refine ⟨fun _ => ⟨⟨_, KC2.out⟩, rfl⟩, ?_⟩
   iterate 3 (refine lex_q _ rfl rfl rfl ?_; go_big_quiet_step (fail); refine wpQuiet_nil ?_)
   simp only [wpLex]
   refine NoPanic.normal ?_
   go_wp2
   go_ret
   first | exact ⟨rfl, KC.out⟩ | exact ⟨rfl, KC.out.drew⟩
  ·rw [e]; clear e
   generalize cost1 = costF at *
   have hol : os.length ≤ 144 := HSO.out.ol
   have HOU : Hid (∀ o ∈ os, 1 ≤ o.uses.length ∧ o.uses.length ≤ 640) := HSO.out.ou
   have hoc := HRO9.out.caps
   have s0 := HBS9.out.cell 0
   have hzs := HBS9.out.lt
   simp at s0
   have HROB := Lib.hid (HRO9.out.toB ROrder.ok (B := zs) (fun _ h => h))
   have HSL : Hid (∀ b, b < zs → 0 ≤ b ∧ b < w9.heap.size ∧ (Value.slice none 0 0).ownBlock ≠ some b) := fun b hb => ⟨Nat.zero_le _, by omega, by simp [Value.ownBlock]⟩
   by_cases hol1 : 1 ≤ os.length
   ·have hg1 : decide ((os.length : Int) > 0) = true := by simp; omega
    go_upto_region 13 with (fail)
    go_wp2_with (at_builtin; refine wpList_append_M tyOrder (RBel.ok ROrder.ok zs) (RBel.one ROrder.one zs) rfl (.const (.slice none 0 0)) (.tmp 75) rfl (OwnL.nil (base := w9.heap.size) (lo := 0)) rfl (S := fun b => b < zs) (S2 := fun b => b < zs) rfl HROB.out (fun _ _ h => h) HSL.out (by simp; omega) (by simp; omega) (Nat.le_refl _) ?_; intro v3 w3 HO3 HK3 HA3; rw [List.nil_append] at HO3; have K3 : KeepsAll w9 w3 := HK3.mono (fun _ _ h => (by simp [Value.ownBlock] at h)); obtain ⟨A4, c4, hv3, hc3, hc33⟩ := HO3.form; subst hv3; obtain ⟨g, cur, hA4, hbg, hblk⟩ := HO3.blkU hol1; subst hA4; have n0 := K3.cellK (p := ⟨zs, 0, none⟩) hzs s0; have e0 := (HBS9.out.kept K3 (by simp)).frozen 0; have HO3' := Lib.hid HO3; have K3' := Lib.hid K3; have HBK := Lib.hid hblk; clear HO3 HK3 HA3 K3 hblk)
    go_upto_region 14 with (fail)
    generalize hW4 : World.setCell w3 _ _ = W4
    have KZ4 : Hid (Keeps (fun b => b = zs) w9 W4) := by subst hW4; exact (K3'.out.mono (C := fun b => b = zs) (fun _ _ e => e.elim)).setCell (p := ⟨zs, 0, none⟩) (fun _ => rfl) _
    have kz3 : Keeps (fun b => b = zs) w3 W4 := by subst hW4; exact (Keeps.refl (fun b => b = zs) w3).setCell (p := ⟨zs, 0, none⟩) (fun _ => rfl) _
    have hgz : g ≠ zs := by omega
    have HB4 : Hid (Blk W4 zs 31 #[.slice (some ⟨g, 0, none⟩) os.length c4, .slice Ae en.length ce, .int .i64 costF]) := by subst hW4; exact (HBS9.out.kept K3'.out (by simp)).set_ 0 _
    have HG4 : Hid (Blk W4 g 44 cur) := by subst hW4; exact HBK.out.far hgz _
    have HO4 : Hid (ROrders W4 (Old W4) [.slice (some ⟨g, 0, none⟩) os.length c4] os) := HO3'.out.offZ ROrder.ok (by omega) kz3 hzs
    clear hW4 kz3 HBK K3' HO3' HSL HROB HBS9 s0 n0 e0
    have pr := pick_range at_ os.length (by omega)
    obtain ⟨k, hk⟩ := Int.eq_ofNat_of_zero_le pr.1
    have hkl : k < os.length := by omega
    have x0 := HB4.out.cell 0
    simp at x0
    refine wp_region_ext (by kernel_rfl) (by kernel_rfl) ?_
    have y0 := Ext.cell x0
    have CPK : Hid (∀ xx : Ext W4, Calls Try.prog 12 #[.int .i64 at_, .int .i64 (os.length : Int)] xx.val fun e w'' => e = .returned (.int .i64 (k : Int)) ∧ ∃ y : Ext W4, w'' = y.val) := fun xx => ext_call xx ((Pick_any at_ (os.length : Int) xx.val (by omega) (by omega)).mono (fun e w' ⟨h1, h2⟩ => ⟨h1.trans (by rw [hk]), by rw [← h2]; exact Keeps.refl _ _⟩))
    iterate 9 (go_big_quiet_step ((go_at_call 12; exact CPK.out _)))
    refine wpQuiet_nil ?_
    rintro _ ⟨X, rfl⟩
    have KX := X.keeps
    have HO5 := Lib.hid (KX.rdo' ROrders.ok HO4.out)
    have HB5 := Lib.hid (HB4.out.kept KX (by simp))
    have HG5 := Lib.hid (HG4.out.kept KX (by simp))
    have KZ5 : Hid (Keeps (fun b => b = zs) w9 X.val) := KZ4.out.trans KX (fun _ _ h => h.elim)
    clear y0 x0 KX CPK HO4 HB4 HG4 KZ4 hk pr
    generalize X.val = WX at *
    obtain ⟨b', o', x0, Au, cu, hbo, _, hx0, q0, q1, hus⟩ := ROrders.at_ HO5.out hkl
    injection hbo with hbo; injection hbo with hbo hoo; subst hbo hoo
    have hul := HOU.out x0 (List.mem_of_getElem? hx0)
    have hcu := hus.caps
    have HUS := Lib.hid hus
    have f1 := HG5.out.frozen (k * 2 + 1)
    have hgl := HG5.out.lt
    simp only [Nat.zero_add] at q0 q1
    clear hus hx0
    go_wp2_with (at_builtin; refine wpList_append_M tyRef RRef.ok RRef.one rfl (.const (.slice none 0 0)) (.tmp 90) rfl (OwnL.nil (base := WX.heap.size) (lo := WX.heap.size)) rfl (S := Old WX) (S2 := fun _ => False) rfl HUS.out (fun _ _ h => h) (fun _ h => h.elim) (by simp; omega) (by simp; omega) (Nat.le_refl _) ?_; intro v5 w5 HP5 HK5 HA5; rw [List.nil_append] at HP5; have K5 : KeepsAll WX w5 := HK5.mono (fun _ _ h => (by simp [Value.ownBlock] at h)); obtain ⟨A5, c5, hv5, hc5, hc55⟩ := HP5.form; subst hv5; obtain ⟨g2, cur2, hA5, hbg2, hblk2⟩ := HP5.blkU hul.1; subst hA5; have HP5' := Lib.hid HP5; have K5' := Lib.hid K5; have n0 := K5.cellK (p := ⟨g, k * 2, none⟩) hgl q0; have n1 := K5.cellK (p := ⟨g, k * 2 + 1, none⟩) hgl q1; have e1 := (HG5.out.kept K5 (by simp)).frozen (k * 2 + 1); have HBK2 := Lib.hid hblk2; clear HP5 HK5 HA5 K5 hblk2)
    go_upto_region 16 with (fail)
    generalize hW6 : World.setCell w5 _ _ = W6
    have hgg : g2 ≠ g := by omega
    have hzg : zs ≠ g := by omega
    have hgz9 : w9.heap.size ≤ g2 := Nat.le_trans KZ5.out.size hbg2
    have HG6 : Hid (∃ cur6, Blk W6 g 44 cur6) := by subst hW6; exact ⟨_, (HG5.out.kept K5'.out (by simp)).set_ _ _⟩
    have HC6 : Hid (Blk W6 g2 46 cur2) := by subst hW6; exact HBK2.out.far hgg _
    have HB6 : Hid (Blk W6 zs 31 #[.slice (some ⟨g, 0, none⟩) os.length c4, .slice Ae en.length ce, .int .i64 costF]) := by subst hW6; exact (HB5.out.kept K5'.out (by simp)).far hzg _
    have t0 : W6.cell? ⟨g, k * 2, none⟩ = some (.int .i64 x0.res) := by subst hW6; exact (World.cell?_setCell_other _ _ _ _ (fun h => by injection h; omega)).trans n0
    have t1 : W6.cell? ⟨g, k * 2 + 1, none⟩ = some (.slice (some ⟨g2, 0, none⟩) x0.uses.length c5) := by subst hW6; exact World.cell?_setCell_same _ _ _ n1
    have HU6 : Hid (RRefs W6 (fun b => b = g2) [.slice (some ⟨g2, 0, none⟩) x0.uses.length c5] x0.uses) := by
     subst hW6
     exact RRefs.ok.mono (HP5'.out.readF RRef.ok RRef.flat (S := fun b => b = g2) (fun b hb => by simpa [Value.ownBlock] using hb.symm)) (fun _ h => h) (fun b hb => Below.heap_setCell _ _ _ b (by rw [hb]; exact hgg))
    have KZ6 : Hid (Keeps (fun b => b = zs) w9 W6) := by subst hW6; exact (KZ5.out.trans K5'.out (fun _ _ h => h.elim)).setCell (p := ⟨g, k * 2 + 1, none⟩) (fun h => by have h : g < w9.heap.size := h; omega) _
    have hw6 : ∃ x1 : List Order, x1.length = os.length ∧ ROrders W6 (Old W6) [.slice (some ⟨g, 0, none⟩) os.length c4] x1 := by
     subst hW6
     refine ROrders.writeO (.inr ⟨_, _, _, n1, x0.uses, ?_⟩) (K5'.out.rdo' ROrders.ok HO5.out)
     refine RRefs.ok.mono (HP5'.out.readF RRef.ok RRef.flat (S := fun b => b = g2) (fun b hb => by simpa [Value.ownBlock] using hb.symm)) (fun b hb => by rw [hb]; exact HBK2.out.lt) (fun b hb => Below.heap_setCell _ _ _ b (by rw [hb]; exact hgg))
    obtain ⟨x1, hlx, hrx⟩ := hw6
    have RX6 := Lib.hid hrx
    clear hrx
    have hgz6 : g < W6.heap.size := by obtain ⟨_, hb⟩ := HG6.out; exact hb.lt
    have hg2z6 := HC6.out.lt
    have b0 := HB6.out.cell 0
    simp at b0
    clear hW6 n0 n1 e1 q0 q1 f1 HBK2 HP5' K5' HUS HO5 HG5 HB5 KZ5 hgl
    have pv := pick_range vv x0.uses.length (by omega)
    obtain ⟨i, hi⟩ := Int.eq_ofNat_of_zero_le pv.1
    have hil : i < x0.uses.length := by omega
    have pw := pick_range (wrap64 (vv.tdiv 8)) x0.uses.length (by omega)
    obtain ⟨j, hj⟩ := Int.eq_ofNat_of_zero_le pw.1
    have hjl : j < x0.uses.length := by omega
    obtain ⟨b7, o7, r7, hb7, hb7z, hr7, m0, m1⟩ := RRefs.at_ HU6.out hil
    injection hb7 with hb7; injection hb7 with hb7 ho7; subst hb7 ho7
    obtain ⟨b8, o8, r8, hb8, hb8z, hr8, l0, l1⟩ := RRefs.at_ HU6.out hjl
    injection hb8 with hb8; injection hb8 with hb8 ho8; subst hb8 ho8
    simp only [Nat.zero_add] at m0 m1 l0 l1
    have y1 := Ext.cell t1
    have CP1 : Hid (∀ xx : Ext W6, Calls Try.prog 12 #[.int .i64 vv, .int .i64 (x0.uses.length : Int)] xx.val fun e w'' => e = .returned (.int .i64 (i : Int)) ∧ ∃ y : Ext W6, w'' = y.val) := fun xx => ext_call xx ((Pick_any vv (x0.uses.length : Int) xx.val (by omega) (by omega)).mono (fun e w' ⟨h1, h2⟩ => ⟨h1.trans (by rw [hi]), by rw [← h2]; exact Keeps.refl _ _⟩))
    have CP2 : Hid (∀ xx : Ext W6, Calls Try.prog 12 #[.int .i64 (wrap64 (vv.tdiv 8)), .int .i64 (x0.uses.length : Int)] xx.val fun e w'' => e = .returned (.int .i64 (j : Int)) ∧ ∃ y : Ext W6, w'' = y.val) := fun xx => ext_call xx ((Pick_any (wrap64 (vv.tdiv 8)) (x0.uses.length : Int) xx.val (by omega) (by omega)).mono (fun e w' ⟨h1, h2⟩ => ⟨h1.trans (by rw [hj]), by rw [← h2]; exact Keeps.refl _ _⟩))
    refine wp_region_lex (fun w' => ∃ x : Ext W6, w' = x.val) [0, 1, 2, 3, 4, 5, 7, 8, 9, 10, 11, 12, 13, 6, 14, 15, 16] (by kernel_rfl) (by kernel_rfl) ⟨⟨_, (Keeps.refl _ _).drew⟩, rfl⟩ ?_
    iterate 13 (first | (refine lex_q _ rfl rfl rfl ?_; go_big_quiet_step (fail); refine wpQuiet_nil ?_) | (refine lex_nil _ rfl _ rfl rfl _ rfl ?_; go_simp))
    refine lex_a _ rfl rfl true (by kernel_rfl) ?_
    go_wp2_with fail
    refine (CP1.out ⟨_, (Keeps.refl _ _).drew⟩).mono ?_
    rintro e w' ⟨rfl, X, rfl⟩
    go_wp2
    refine ⟨fun _ => ⟨X, rfl⟩, ?_⟩
    refine lex_a _ rfl rfl true (by kernel_rfl) ?_
    go_wp2_with fail
    refine (CP2.out X).mono ?_
    rintro e w' ⟨rfl, X2, rfl⟩
    go_wp2
    refine ⟨fun _ => ⟨X2, rfl⟩, ?_⟩
    iterate 2 (refine lex_q _ rfl rfl rfl ?_; go_big_quiet_step (fail); refine wpQuiet_nil ?_)
    simp only [wpLex]
    refine NoPanic.normal ?_
    have KX := X2.keeps
    have RX7 := Lib.hid (KX.rdo' ROrders.ok RX6.out)
    have KZ7 : Hid (Keeps (fun b => b = zs) w9 X2.val) := KZ6.out.trans KX (fun _ _ h => h.elim)
    have a0 := KX.cellK (p := ⟨g2, i * 2, none⟩) hg2z6 m0
    have a1 := KX.cellK (p := ⟨g2, i * 2 + 1, none⟩) hg2z6 m1
    have c0 := KX.cellK (p := ⟨g2, j * 2, none⟩) hg2z6 l0
    have c1 := KX.cellK (p := ⟨g2, j * 2 + 1, none⟩) hg2z6 l1
    have s1 := KX.cellK (p := ⟨g, k * 2 + 1, none⟩) hgz6 t1
    have HB7 := Lib.hid (HB6.out.kept KX (by simp))
    have fz := fun n => (HC6.out.kept KX (by simp)).frozen n
    have fz0 := fz (i * 2)
    have fz1 := fz (i * 2 + 1)
    have fz2 := fz (j * 2)
    have fz3 := fz (j * 2 + 1)
    have hgx : g2 < X2.val.heap.size := Nat.lt_of_lt_of_le hg2z6 KX.size
    clear y1 KX CP1 CP2
    generalize X2.val = WY at *
    clear t0 t1 b0 fz m0 m1 l0 l1 HB6 HC6 HG6 RX6 KZ6 HU6 hgz6 hg2z6 hi hj pv pw
    obtain ⟨x1', hx1', RX8⟩ := ROrders.writeI (y := r8.tr) a0 RX7.out
    obtain ⟨_, d1⟩ := cell_writeI (y := r8.tr) a0 a1
    obtain ⟨_, d2⟩ := cell_writeI (y := r8.tr) a0 c0
    obtain ⟨_, d3⟩ := cell_writeI (y := r8.tr) a0 c1
    obtain ⟨x2', hx2', RX9⟩ := ROrders.writeI (y := r8.st) d1 RX8
    obtain ⟨z0, e2⟩ := cell_writeI (y := r8.st) d1 d2
    obtain ⟨z1, e3⟩ := cell_writeI (y := r8.st) d1 d3
    obtain ⟨x3', hx3', RX10⟩ := ROrders.writeI (y := r7.tr) e2 RX9
    obtain ⟨z2, f3⟩ := cell_writeI (y := r7.tr) e2 e3
    obtain ⟨osF, hx4', RX11⟩ := ROrders.writeI (y := r7.st) f3 RX10
    have XF0 := Lib.hid RX11
    have KZ0 := Lib.hid ((((KZ7.out.setCell (p := ⟨g2, i * 2, none⟩) (fun h => by have h : g2 < w9.heap.size := h; omega) (.int .i64 r8.tr)).setCell (p := ⟨g2, i * 2 + 1, none⟩) (fun h => by have h : g2 < w9.heap.size := h; omega) (.int .i64 r8.st)).setCell (p := ⟨g2, j * 2, none⟩) (fun h => by have h : g2 < w9.heap.size := h; omega) (.int .i64 r7.tr)).setCell (p := ⟨g2, j * 2 + 1, none⟩) (fun h => by have h : g2 < w9.heap.size := h; omega) (.int .i64 r7.st))
    have hg2zs : zs ≠ g2 := by omega
    have HB0 := Lib.hid ((((HB7.out.far (p := ⟨g2, i * 2, none⟩) hg2zs (.int .i64 r8.tr)).far (p := ⟨g2, i * 2 + 1, none⟩) hg2zs (.int .i64 r8.st)).far (p := ⟨g2, j * 2, none⟩) hg2zs (.int .i64 r7.tr)).far (p := ⟨g2, j * 2 + 1, none⟩) hg2zs (.int .i64 r7.st))
    have hxo : os.length = osF.length := by omega
    clear RX7 RX8 RX9 RX10 RX11 KZ7 HB7 d1 d2 d3 hx1' hx2' hx3' hx4'
    go_upto_region 17 with (fail)
    go_region
    generalize hWF : World.drew _ = WF
    have kf : Keeps (fun b => b = zs) w9 WF := by subst hWF; exact KZ0.out.drew
    have HOF : Hid (ROrders WF (Old WF) [.slice (some ⟨g, 0, none⟩) osF.length c4] osF) := by rw [← hxo]; subst hWF; exact ((Keeps.refl (fun _ => False) _).drew).rdo' ROrders.ok XF0.out
    have HBSF : Hid (Blk WF zs 31 #[.slice (some ⟨g, 0, none⟩) osF.length c4, .slice Ae en.length ce, .int .i64 costF]) := by rw [← hxo]; subst hWF; exact HB0.out.drew_
    have HBXF := Lib.hid (HBX9.out.kept kf (by have := HZZ.out; show ¬ zx = zs; omega))
    have HRF := Lib.hid (low_pb HR9.out kf hzs (fun b hb e => by have e : b = zs := e; omega))
    have HEF := Lib.hid (low_keep RIntss.ok HRE9.out kf hzs (fun b hb e => by have e : b = zs := e; omega))
    have KF : Hid (KeepsAll w WF) := K9.out.trans kf (fun b hb e => by have e : b = zs := e; have := HZZ.out; omega)
    clear hWF kf XF0 KZ0 HB0 hxo hlx e2 e3 f3 a0 a1 c0 c1 s1 fz0 fz1 fz2 fz3 hgx hzs HR9 HRO9 HRE9 HBX9 K9 HOU
    have HPF := Lib.hid (HBXF.out)
    have x0 := HBXF.out.cell 0
    have x1 := HBXF.out.cell 1
    have x2 := HBXF.out.cell 2
    have x3 := HBXF.out.cell 3
    have x4 := HBXF.out.cell 4
    have s0 := HBSF.out.cell 0
    have s1 := HBSF.out.cell 1
    have s2 := HBSF.out.cell 2
    simp at x0 x1 x2 x3 x4 s0 s1 s2
    have HVB := Lib.hid (ver_both p v HRF.out HOF.out HEF.out (cost := costF))
    clear HBXF HBSF HRF HOF HEF HPF
    go_upto_region 25 with (fail)
    refine wp_region_lexB (fun w' => ∃ y : Ext WF, w' = y.val) [0, 1, 2, 3, 5, 6, 4, 7, 8, 9, 10] (by kernel_rfl) (by kernel_rfl) ⟨⟨_, (Keeps.refl _ _).drew⟩, rfl⟩ ?_
    have y0 := Ext.cell x0
    have y1 := Ext.cell x1
    have y2 := Ext.cell x2
    have y3 := Ext.cell x3
    have y4 := Ext.cell x4
    have z0 := Ext.cell s0
    have z1 := Ext.cell s1
    have z2 := Ext.cell s2
    refine lex_a _ rfl rfl true (by kernel_rfl) ?_
    go_wp2_with fail
    refine (awake37_any _).mono ?_
    rintro e wa ⟨rfl, ka⟩
    have KA := Lib.hid ((Keeps.refl _ WF).drew.tr ka)
    have HVA := Lib.hid (HVB.out.1 wa KA.out)
    clear ka
    go_wp2
    refine ⟨fun _ => ⟨⟨_, KA.out⟩, rfl⟩, ?_⟩
    iterate 5 (refine lex_q _ rfl rfl rfl ?_; go_big_quiet_step (fail); refine wpQuiet_nil ?_)
    clear y0 y1 y2 y3 y4 z0 z1 z2
    refine lex_a _ rfl rfl true (by kernel_rfl) ?_
    go_wp2_with fail
    refine HVA.out.mono ?_
    rintro e wb ⟨rfl, kb⟩
    have KB := Lib.hid (KA.out.tr kb)
    have HVR := Lib.hid (HVB.out.2 wb KB.out)
    clear kb HVA HVB
    go_wp2
    refine ⟨fun _ => ⟨⟨_, KB.out⟩, rfl⟩, ?_⟩
    refine lex_a _ rfl rfl true (by kernel_rfl) ?_
    go_wp2_with fail
    refine HVR.out.mono ?_
    rintro e wc ⟨rfl, kc⟩
    have KC := Lib.hid (KF.out.tr (KB.out.tr kc))
    have KC2 := Lib.hid (KB.out.tr kc)
    clear kc HVR KB KA
    generalize verR p _ = bv at *
    have hbb : (bv == bv) = true := by simp
    go_wp2
    refine ⟨fun _ => ⟨⟨_, KC2.out⟩, rfl⟩, ?_⟩
    iterate 3 (refine lex_q _ rfl rfl rfl ?_; go_big_quiet_step (fail); refine wpQuiet_nil ?_)
    simp only [wpLex]
    refine NoPanic.normal ?_
    go_wp2
    go_ret
    first | exact ⟨rfl, KC.out⟩ | exact ⟨rfl, KC.out.drew⟩
   ·have hos0 : os.length = 0 := by omega
    have hg1 : decide ((os.length : Int) > 0) = false := by rw [hos0]; rfl
    go_upto_region 25 with (fail)
    clear hos0 hol1
    obtain ⟨WF, rfl⟩ : ∃ W : World, W = w9 := ⟨_, rfl⟩
    have HBSF := HBS9
    have HBXF := HBX9
    have HRF := Lib.hid (low_pb HR9.out (Keeps.refl (fun _ => False) WF) hzs (fun _ _ h => h))
    have HOF := Lib.hid (low_keep ROrders.ok HRO9.out (Keeps.refl (fun _ => False) WF) hzs (fun _ _ h => h))
    have HEF := Lib.hid (low_keep RIntss.ok HRE9.out (Keeps.refl (fun _ => False) WF) hzs (fun _ _ h => h))
    have KF := K9
    clear HBS9 HBX9 HR9 HRO9 HRE9 K9 HROB HSL HOU s0 hzs hg1
    have HPF := Lib.hid (HBXF.out)
    have x0 := HBXF.out.cell 0
    have x1 := HBXF.out.cell 1
    have x2 := HBXF.out.cell 2
    have x3 := HBXF.out.cell 3
    have x4 := HBXF.out.cell 4
    have s0 := HBSF.out.cell 0
    have s1 := HBSF.out.cell 1
    have s2 := HBSF.out.cell 2
    simp at x0 x1 x2 x3 x4 s0 s1 s2
    have HVB := Lib.hid (ver_both p v HRF.out HOF.out HEF.out (cost := costF))
    clear HBXF HBSF HRF HOF HEF HPF
    go_upto_region 25 with (fail)
    refine wp_region_lexB (fun w' => ∃ y : Ext WF, w' = y.val) [0, 1, 2, 3, 5, 6, 4, 7, 8, 9, 10] (by kernel_rfl) (by kernel_rfl) ⟨⟨_, (Keeps.refl _ _).drew⟩, rfl⟩ ?_
    have y0 := Ext.cell x0
    have y1 := Ext.cell x1
    have y2 := Ext.cell x2
    have y3 := Ext.cell x3
    have y4 := Ext.cell x4
    have z0 := Ext.cell s0
    have z1 := Ext.cell s1
    have z2 := Ext.cell s2
    refine lex_a _ rfl rfl true (by kernel_rfl) ?_
    go_wp2_with fail
    refine (awake37_any _).mono ?_
    rintro e wa ⟨rfl, ka⟩
    have KA := Lib.hid ((Keeps.refl _ WF).drew.tr ka)
    have HVA := Lib.hid (HVB.out.1 wa KA.out)
    clear ka
    go_wp2
    refine ⟨fun _ => ⟨⟨_, KA.out⟩, rfl⟩, ?_⟩
    iterate 5 (refine lex_q _ rfl rfl rfl ?_; go_big_quiet_step (fail); refine wpQuiet_nil ?_)
    clear y0 y1 y2 y3 y4 z0 z1 z2
    refine lex_a _ rfl rfl true (by kernel_rfl) ?_
    go_wp2_with fail
    refine HVA.out.mono ?_
    rintro e wb ⟨rfl, kb⟩
    have KB := Lib.hid (KA.out.tr kb)
    have HVR := Lib.hid (HVB.out.2 wb KB.out)
    clear kb HVA HVB
    go_wp2
    refine ⟨fun _ => ⟨⟨_, KB.out⟩, rfl⟩, ?_⟩
    refine lex_a _ rfl rfl true (by kernel_rfl) ?_
    go_wp2_with fail
    refine HVR.out.mono ?_
    rintro e wc ⟨rfl, kc⟩
    have KC := Lib.hid (KF.out.tr (KB.out.tr kc))
    have KC2 := Lib.hid (KB.out.tr kc)
    clear kc HVR KB KA
    generalize verR p _ = bv at *
    have hbb : (bv == bv) = true := by simp
    go_wp2
    refine ⟨fun _ => ⟨⟨_, KC2.out⟩, rfl⟩, ?_⟩
    iterate 3 (refine lex_q _ rfl rfl rfl ?_; go_big_quiet_step (fail); refine wpQuiet_nil ?_)
    simp only [wpLex]
    refine NoPanic.normal ?_
    go_wp2
    go_ret
    first | exact ⟨rfl, KC.out⟩ | exact ⟨rfl, KC.out.drew⟩
  ·rw [e]; clear e
   generalize cost1 = costF at *
   have hel : 1 ≤ en.length ∧ en.length ≤ 10 := HSO.out.el
   have hel1 := hel.1
   have hel2 := hel.2
   have HER : Hid (∀ r ∈ en, 1 ≤ r.length ∧ r.length ≤ 100) := HSO.out.er
   clear hel
   have hec := HRE9.out.caps
   have s1 := HBS9.out.cell 1
   have hzs := HBS9.out.lt
   simp at s1
   have HREB := Lib.hid (HRE9.out.toB RInts.ok (B := zs) (fun _ h => h))
   have HSL : Hid (∀ b, b < zs → 0 ≤ b ∧ b < w9.heap.size ∧ (Value.slice none 0 0).ownBlock ≠ some b) := fun b hb => ⟨Nat.zero_le _, by omega, by simp [Value.ownBlock]⟩
   go_upto_region 19 with (fail)
   go_wp2_with (at_builtin; refine wpList_append_M tyInts (RBel.ok RInts.ok zs) (RBel.one RSlice.one zs) rfl (.const (.slice none 0 0)) (.tmp 138) rfl (OwnL.nil (base := w9.heap.size) (lo := 0)) rfl (S := fun b => b < zs) (S2 := fun b => b < zs) rfl HREB.out (fun _ _ h => h) HSL.out (by simp; omega) (by simp; omega) (Nat.le_refl _) ?_; intro v3 w3 HO3 HK3 HA3; rw [List.nil_append] at HO3; have K3 : KeepsAll w9 w3 := HK3.mono (fun _ _ h => (by simp [Value.ownBlock] at h)); obtain ⟨A4, c4, hv3, hc3, hc33⟩ := HO3.form; subst hv3; obtain ⟨g, cur, hA4, hbg, hblk⟩ := HO3.blkU hel1; subst hA4; have n0 := K3.cellK (p := ⟨zs, 1, none⟩) hzs s1; have e0 := (HBS9.out.kept K3 (by simp)).frozen 1; have HO3' := Lib.hid HO3; have K3' := Lib.hid K3; have HBK := Lib.hid hblk; clear HO3 HK3 HA3 K3 hblk)
   go_upto_region 20 with (fail)
   generalize hW4 : World.setCell w3 _ _ = W4
   have KZ4 : Hid (Keeps (fun b => b = zs) w9 W4) := by subst hW4; exact (K3'.out.mono (C := fun b => b = zs) (fun _ _ e => e.elim)).setCell (p := ⟨zs, 1, none⟩) (fun _ => rfl) _
   have kz3 : Keeps (fun b => b = zs) w3 W4 := by subst hW4; exact (Keeps.refl (fun b => b = zs) w3).setCell (p := ⟨zs, 1, none⟩) (fun _ => rfl) _
   have hgz : g ≠ zs := by omega
   have hzg : zs ≠ g := by omega
   have HB4 : Hid (Blk W4 zs 31 #[.slice Ao os.length co, .slice (some ⟨g, 0, none⟩) en.length c4, .int .i64 costF]) := by subst hW4; exact (HBS9.out.kept K3'.out (by simp)).set_ 1 _
   have HG4 : Hid (Blk W4 g 22 cur) := by subst hW4; exact HBK.out.far hgz _
   have HO4 : Hid (RIntss W4 (Old W4) [.slice (some ⟨g, 0, none⟩) en.length c4] en) := HO3'.out.offZ RInts.ok (by omega) kz3 hzs
   clear hW4 kz3 HBK K3' HO3' HSL HREB HBS9 s1 n0 e0
   have pr := pick_range at_ en.length (by omega)
   obtain ⟨k, hk⟩ := Int.eq_ofNat_of_zero_le pr.1
   have hkl : k < en.length := by omega
   have HPK := Lib.hid (Pick_any at_ (en.length : Int) · (by omega) (by omega))
   rw [hk] at HPK
   clear hk pr
   have x0 := HB4.out.cell 1
   simp at x0
   go_wp2_with fail
   refine (HPK.out _).mono ?_
   rintro e w' ⟨rfl, rfl⟩
   clear HPK
   go_upto_region 21 with (fail)
   obtain ⟨b', o', r0, A0, c0, hbo, _, hx0, q0, hrr⟩ := RSS.at_ HO4.out hkl
   injection hbo with hbo; injection hbo with hbo hoo; subst hbo hoo
   have hrl := HER.out r0 (List.mem_of_getElem? hx0)
   have hcr := hrr.caps
   have KD : KeepsAll W4 W4.drew := (Keeps.refl _ _).drew
   have HRR := Lib.hid (KD.rdo' RInts.ok hrr)
   have hgl := HG4.out.lt
   simp only [Nat.zero_add] at q0
   clear hrr hx0
   refine wp_region_lex (fun w' => ∃ x : Ext W4, w' = x.val) [0, 1, 2, 3, 4, 5, 6, 7, 8, 9, 10] (by kernel_rfl) (by kernel_rfl) ⟨⟨_, KD⟩, rfl⟩ ?_
   have y0 := Ext.cell x0
   have y1 := Ext.cell q0
   iterate 8 (refine lex_q _ rfl rfl rfl ?_; go_big_quiet_step (fail); refine wpQuiet_nil ?_)
   clear y0 y1
   refine lex_a _ rfl rfl true (by kernel_rfl) ?_
   go_wp2_with (at_builtin; go_loud (refine wpList_append_M tyInt RInt.ok RInt.one rfl (.const (.slice none 0 0)) (.tmp 153) rfl (OwnL.nil (base := W4.drew.heap.size) (lo := W4.drew.heap.size)) rfl (S := Old W4.drew) (S2 := fun _ => False) rfl HRR.out (fun _ _ h => h) (fun _ h => h.elim) (by simp; omega) (by simp; omega) (Nat.le_refl _) ?_; intro v5 w5 HP5 HK5 HA5; rw [List.nil_append] at HP5; have K5 : KeepsAll W4.drew w5 := HK5.mono (fun _ _ h => (by simp [Value.ownBlock] at h)); obtain ⟨A5, c5, hv5, hc5, hc55⟩ := HP5.form; subst hv5; obtain ⟨g2, cur2, hA5, hbg2, hblk2⟩ := HP5.blkU hrl.1; subst hA5; have HP5' := Lib.hid HP5; have K5' := Lib.hid (KD.tr K5); have HBK2 := Lib.hid hblk2; clear HP5 HK5 HA5 K5 hblk2))
   have n0 := K5'.out.cellK (p := ⟨g, k, none⟩) hgl q0
   have e0 := (HG4.out.kept K5'.out (by simp)).frozen k
   refine ⟨fun _ => ⟨⟨_, K5'.out⟩, rfl⟩, ?_⟩
   refine lex_q _ rfl rfl rfl ?_; go_big_quiet_step (fail); refine wpQuiet_nil ?_
   refine lex_a _ rfl rfl false (by kernel_rfl) ?_
   go_wp2
   (try refine ⟨fun h => (by cases h), ?_⟩)
   simp only [wpLex]
   refine NoPanic.normal ?_
   generalize hW6 : World.setCell w5 _ _ = W6
   have hwg : W4.heap.size ≤ g2 := hbg2
   have hgg : g2 ≠ g := by omega
   have hgz9 : w9.heap.size ≤ g2 := Nat.le_trans KZ4.out.size hwg
   have hzg2 : zs ≠ g2 := by omega
   have HC6 : Hid (Blk W6 g2 3 cur2) := by subst hW6; exact HBK2.out.far hgg _
   have HB6 : Hid (Blk W6 zs 31 #[.slice Ao os.length co, .slice (some ⟨g, 0, none⟩) en.length c4, .int .i64 costF]) := by subst hW6; exact (HB4.out.kept K5'.out (by simp)).far hzg _
   have t1 : W6.cell? ⟨g, k, none⟩ = some (.slice (some ⟨g2, 0, none⟩) r0.length c5) := by subst hW6; exact World.cell?_setCell_same _ _ _ n0
   have HU6 : Hid (RInts W6 (fun b => b = g2) [.slice (some ⟨g2, 0, none⟩) r0.length c5] r0) := by
    subst hW6
    exact RInts.ok.mono (HP5'.out.readF RInt.ok RInt.flat (S := fun b => b = g2) (fun b hb => by simpa [Value.ownBlock] using hb.symm)) (fun _ h => h) (fun b hb => Below.heap_setCell _ _ _ b (by rw [hb]; exact hgg))
   have KZ6 : Hid (Keeps (fun b => b = zs) w9 W6) := by subst hW6; exact (KZ4.out.trans K5'.out (fun _ _ h => h.elim)).setCell (p := ⟨g, k, none⟩) (fun h => by have h : g < w9.heap.size := h; omega) _
   have hw6 : ∃ x1 : List (List Int), x1.length = en.length ∧ RIntss W6 (Old W6) [.slice (some ⟨g, 0, none⟩) en.length c4] x1 := by
    subst hW6
    refine RIntss.writeO (.inr ⟨_, _, _, n0, r0, ?_⟩) (K5'.out.rdo' RIntss.ok HO4.out)
    exact RInts.ok.mono (HP5'.out.readF RInt.ok RInt.flat (S := fun b => b = g2) (fun b hb => by simpa [Value.ownBlock] using hb.symm)) (fun b hb => by rw [hb]; exact HBK2.out.lt) (fun b hb => Below.heap_setCell _ _ _ b (by rw [hb]; exact hgg))
   obtain ⟨x1, hlx, hrx⟩ := hw6
   have RX6 := Lib.hid hrx
   clear hrx
   have hg2z6 := HC6.out.lt
   have b0 := HB6.out.cell 1
   simp at b0
   clear hW6 n0 e0 q0 HBK2 HP5' K5' HRR HO4 HG4 HB4 KZ4 hgl KD x0
   have pv := pick_range vv r0.length (by omega)
   obtain ⟨i, hi⟩ := Int.eq_ofNat_of_zero_le pv.1
   have hil : i < r0.length := by omega
   obtain ⟨b7, o7, r7, hb7, hb7z, hr7, m0⟩ := HU6.out.at_ hil
   injection hb7 with hb7; injection hb7 with hb7 ho7; subst hb7 ho7
   simp only [Nat.zero_add] at m0
   have CP1 : Hid (∀ xx : Ext W6, Calls Try.prog 12 #[.int .i64 vv, .int .i64 (r0.length : Int)] xx.val fun e w'' => e = .returned (.int .i64 (i : Int)) ∧ ∃ y : Ext W6, w'' = y.val) := fun xx => ext_call xx ((Pick_any vv (r0.length : Int) xx.val (by omega) (by omega)).mono (fun e w' ⟨h1, h2⟩ => ⟨h1.trans (by rw [hi]), by rw [← h2]; exact Keeps.refl _ _⟩))
   have CP2 : Hid (∀ xx : Ext W6, Calls Try.prog 12 #[.int .i64 (wrap64 (vv.tdiv 8)), .int .i64 3] xx.val fun e w'' => e = .returned (.int .i64 (pick (wrap64 (vv.tdiv 8)) 3)) ∧ ∃ y : Ext W6, w'' = y.val) := fun xx => ext_call xx ((Pick_any (wrap64 (vv.tdiv 8)) 3 xx.val (by omega) (by omega)).mono (fun e w' ⟨h1, h2⟩ => ⟨h1, by rw [← h2]; exact Keeps.refl _ _⟩))
   generalize pick (wrap64 (vv.tdiv 8)) 3 = pk at *
   clear hi pv
   go_upto_region 22 with (fail)
   refine wp_region_lex (fun w' => ∃ x : Ext W6, w' = x.val) [0, 1, 2, 3, 4, 5, 6, 7, 8, 9, 10, 11, 15, 16, 12, 13, 14, 17, 18, 19, 20, 21] (by kernel_rfl) (by kernel_rfl) ⟨⟨_, (Keeps.refl _ _).drew⟩, rfl⟩ ?_
   have y0 := Ext.cell b0
   have y1 := Ext.cell t1
   have y2 := Ext.cell m0
   iterate 14 (refine lex_q _ rfl rfl rfl ?_; go_big_quiet_step (fail); refine wpQuiet_nil ?_)
   refine lex_a _ rfl rfl true (by kernel_rfl) ?_
   go_wp2_with fail
   refine (CP1.out ⟨_, (Keeps.refl _ _).drew⟩).mono ?_
   rintro e w' ⟨rfl, X, rfl⟩
   go_wp2
   refine ⟨fun _ => ⟨X, rfl⟩, ?_⟩
   iterate 2 (refine lex_q _ rfl rfl rfl ?_; go_big_quiet_step (fail); refine wpQuiet_nil ?_)
   refine lex_a _ rfl rfl true (by kernel_rfl) ?_
   go_wp2_with fail
   refine (CP2.out X).mono ?_
   rintro e w' ⟨rfl, X2, rfl⟩
   go_wp2
   refine ⟨fun _ => ⟨X2, rfl⟩, ?_⟩
   iterate 3 (refine lex_q _ rfl rfl rfl ?_; go_big_quiet_step (fail); refine wpQuiet_nil ?_)
   have KX := X2.keeps
   have a0 := KX.cellK (p := ⟨g2, i, none⟩) hg2z6 m0
   have e0 := (HC6.out.kept KX (by simp)).frozen i
   have RX7 := Lib.hid (KX.rdo' RIntss.ok RX6.out)
   have KZ7 : Hid (Keeps (fun b => b = zs) w9 X2.val) := KZ6.out.trans KX (fun _ _ h => h.elim)
   have HB7 := Lib.hid (HB6.out.kept KX (by simp))
   clear y0 y1 y2 CP1 CP2 KX
   refine lex_a _ rfl rfl false (by kernel_rfl) ?_
   go_wp2
   (try refine ⟨fun h => (by cases h), ?_⟩)
   simp only [wpLex]
   refine NoPanic.normal ?_
   generalize X2.val = WY at *
   generalize hWF : World.setCell WY _ _ = WF
   have hxF : ∃ enF : List (List Int), enF.length = x1.length ∧ RIntss WF (Old WF) [.slice (some ⟨g, 0, none⟩) en.length c4] enF := by subst hWF; exact RIntss.writeO (.inl ⟨_, _, a0, rfl⟩) RX7.out
   obtain ⟨enF, hlF, RX8⟩ := hxF
   have hxo : en.length = enF.length := by omega
   have kf : Keeps (fun b => b = zs) w9 WF := by subst hWF; exact KZ7.out.setCell (p := ⟨g2, i, none⟩) (fun h => by have h : g2 < w9.heap.size := h; omega) _
   have HEF : Hid (RIntss WF (Old WF) [.slice (some ⟨g, 0, none⟩) enF.length c4] enF) := by rw [← hxo]; exact RX8
   have HBSF : Hid (Blk WF zs 31 #[.slice Ao os.length co, .slice (some ⟨g, 0, none⟩) enF.length c4, .int .i64 costF]) := by rw [← hxo]; subst hWF; exact HB7.out.far hzg2 _
   have HBXF := Lib.hid (HBX9.out.kept kf (by have := HZZ.out; show ¬ zx = zs; omega))
   have HRF := Lib.hid (low_pb HR9.out kf hzs (fun b hb e => by have e : b = zs := e; omega))
   have HOF := Lib.hid (low_keep ROrders.ok HRO9.out kf hzs (fun b hb e => by have e : b = zs := e; omega))
   have KF : Hid (KeepsAll w WF) := K9.out.trans kf (fun b hb e => by have e : b = zs := e; have := HZZ.out; omega)
   clear hWF kf RX8 hxo hlF hlx KZ7 HB7 RX7 KZ6 HB6 HC6 RX6 HU6 a0 e0 m0 t1 b0 hzs HR9 HRO9 HRE9 HBX9 K9 HER hg2z6
   have HPF := Lib.hid (HBXF.out)
   have x0 := HBXF.out.cell 0
   have x1 := HBXF.out.cell 1
   have x2 := HBXF.out.cell 2
   have x3 := HBXF.out.cell 3
   have x4 := HBXF.out.cell 4
   have s0 := HBSF.out.cell 0
   have s1 := HBSF.out.cell 1
   have s2 := HBSF.out.cell 2
   simp at x0 x1 x2 x3 x4 s0 s1 s2
   have HVB := Lib.hid (ver_both p v HRF.out HOF.out HEF.out (cost := costF))
   clear HBXF HBSF HRF HOF HEF HPF
   go_upto_region 25 with (fail)
   refine wp_region_lexB (fun w' => ∃ y : Ext WF, w' = y.val) [0, 1, 2, 3, 5, 6, 4, 7, 8, 9, 10] (by kernel_rfl) (by kernel_rfl) ⟨⟨_, (Keeps.refl _ _).drew⟩, rfl⟩ ?_
   have y0 := Ext.cell x0
   have y1 := Ext.cell x1
   have y2 := Ext.cell x2
   have y3 := Ext.cell x3
   have y4 := Ext.cell x4
   have z0 := Ext.cell s0
   have z1 := Ext.cell s1
   have z2 := Ext.cell s2
   refine lex_a _ rfl rfl true (by kernel_rfl) ?_
   go_wp2_with fail
   refine (awake37_any _).mono ?_
   rintro e wa ⟨rfl, ka⟩
   have KA := Lib.hid ((Keeps.refl _ WF).drew.tr ka)
   have HVA := Lib.hid (HVB.out.1 wa KA.out)
   clear ka
   go_wp2
   refine ⟨fun _ => ⟨⟨_, KA.out⟩, rfl⟩, ?_⟩
   iterate 5 (refine lex_q _ rfl rfl rfl ?_; go_big_quiet_step (fail); refine wpQuiet_nil ?_)
   clear y0 y1 y2 y3 y4 z0 z1 z2
   refine lex_a _ rfl rfl true (by kernel_rfl) ?_
   go_wp2_with fail
   refine HVA.out.mono ?_
   rintro e wb ⟨rfl, kb⟩
   have KB := Lib.hid (KA.out.tr kb)
   have HVR := Lib.hid (HVB.out.2 wb KB.out)
   clear kb HVA HVB
   go_wp2
   refine ⟨fun _ => ⟨⟨_, KB.out⟩, rfl⟩, ?_⟩
   refine lex_a _ rfl rfl true (by kernel_rfl) ?_
   go_wp2_with fail
   refine HVR.out.mono ?_
   rintro e wc ⟨rfl, kc⟩
   have KC := Lib.hid (KF.out.tr (KB.out.tr kc))
   have KC2 := Lib.hid (KB.out.tr kc)
   clear kc HVR KB KA
   generalize verR p _ = bv at *
   have hbb : (bv == bv) = true := by simp
   go_wp2
   refine ⟨fun _ => ⟨⟨_, KC2.out⟩, rfl⟩, ?_⟩
   iterate 3 (refine lex_q _ rfl rfl rfl ?_; go_big_quiet_step (fail); refine wpQuiet_nil ?_)
   simp only [wpLex]
   refine NoPanic.normal ?_
   go_wp2
   go_ret
   first | exact ⟨rfl, KC.out⟩ | exact ⟨rfl, KC.out.drew⟩
  ·rw [e]; clear e
   generalize cost1 = costF at *
   have hol : os.length ≤ 144 := HSO.out.ol
   have hoc := HRO9.out.caps
   have s0 := HBS9.out.cell 0
   have hzs := HBS9.out.lt
   simp at s0
   have HROB := Lib.hid (HRO9.out.toB ROrder.ok (B := zs) (fun _ h => h))
   have HSL : Hid (∀ b, b < zs → 0 ≤ b ∧ b < w9.heap.size ∧ (Value.slice none 0 0).ownBlock ≠ some b) := fun b hb => ⟨Nat.zero_le _, by omega, by simp [Value.ownBlock]⟩
   go_upto_region 24 with (fail)
   go_wp2_with (first | (at_builtin; refine wpList_append_M tyOrder (RBel.ok ROrder.ok zs) (RBel.one ROrder.one zs) rfl (.const (.slice none 0 0)) (.tmp 180) rfl (OwnL.nil (base := w9.heap.size) (lo := 0)) rfl (S := fun b => b < zs) (S2 := fun b => b < zs) rfl HROB.out (fun _ _ h => h) HSL.out (by simp; omega) (by simp; omega) (Nat.le_refl _) ?_; intro v3 w3 HO3 HK3 HA3; rw [List.nil_append] at HO3; have K3 : KeepsAll w9 w3 := HK3.mono (fun _ _ h => (by simp [Value.ownBlock] at h)); obtain ⟨A4, c4, hv3, hc3, hc33⟩ := HO3.form; subst hv3; have hz3 := K3.size; have HO3' := Lib.hid HO3; have K3' := Lib.hid K3; clear HO3 HK3 HA3 K3) | (at_builtin; go_loud (refine wpList_append_L tyOrder (RBel.ok ROrder.ok zs) rfl (.tmp 181) (.tmp 183) rfl (HO3'.out.alloc (RBel.ok ROrder.ok zs) _) rfl _ [.int .i64 7, .slice none 0 0] rfl (Blk.new' _ _ _ (by simp)) rfl ⟨7, []⟩ (S := fun _ => False) ⟨_, rfl, RSlice.mkNil⟩ (fun _ h => h.elim) (by simp [Value.oneCell']) (by omega) (by omega) (by simp; omega) ?_; intro v7 w7 HO7 HK7 HA7; have K7 : KeepsAll w9 w7 := (K3'.out.alloc _).trans HK7 (fun x hx e => (by have := HO3'.out.lt e; omega)); have n0 := K7.cellK (p := ⟨zs, 0, none⟩) hzs s0; have g0 := (HBS9.out.kept K7 (by simp)).frozen 0; obtain ⟨A7, c7, hv7, hc7, hc77⟩ := HO7.form; subst hv7; have HO7' := Lib.hid HO7; have K7' := Lib.hid K7; clear HO7 HK7 HA7 K7)))
   obtain ⟨osF, hosF⟩ : ∃ l, l = os ++ [(⟨7, []⟩ : Order)] := ⟨_, rfl⟩
   have hlF : osF.length = os.length + 1 := by rw [hosF]; simp
   rw [← hosF] at HO7'
   go_upto_region 25 with (fail)
   generalize hWF : World.setCell w7 _ _ = WF
   have kf7 : Keeps (fun b => b = zs) w7 WF := by subst hWF; exact (Keeps.refl (fun b => b = zs) w7).setCell (p := ⟨zs, 0, none⟩) (fun _ => rfl) _
   have kf : Keeps (fun b => b = zs) w9 WF := (K7'.out.mono (C := fun b => b = zs) (fun _ _ e => e.elim)).trans kf7 (fun _ _ e => e)
   have HBSF : Hid (Blk WF zs 31 #[.slice A7 osF.length c7, .slice Ae en.length ce, .int .i64 costF]) := by rw [hlF]; subst hWF; exact (HBS9.out.kept K7'.out (by simp)).set_ 0 _
   have HBXF := Lib.hid (HBX9.out.kept kf (by have := HZZ.out; show ¬ zx = zs; omega))
   have HRF := Lib.hid (low_pb HR9.out kf hzs (fun b hb e => by have e : b = zs := e; omega))
   have HOF : Hid (ROrders WF (Old WF) [.slice A7 osF.length c7] osF) := HO7'.out.offZ ROrder.ok (by omega) kf7 hzs
   have HEF := Lib.hid (low_keep RIntss.ok HRE9.out kf hzs (fun b hb e => by have e : b = zs := e; omega))
   have KF : Hid (KeepsAll w WF) := K9.out.trans kf (fun b hb e => by have e : b = zs := e; have := HZZ.out; omega)
   clear hWF kf kf7 hosF hlF HROB HO7' HO3' K3' K7' HSL n0 g0 s0 hzs HR9 HRO9 HRE9 HBX9 HBS9 K9
   have HPF := Lib.hid (HBXF.out)
   have x0 := HBXF.out.cell 0
   have x1 := HBXF.out.cell 1
   have x2 := HBXF.out.cell 2
   have x3 := HBXF.out.cell 3
   have x4 := HBXF.out.cell 4
   have s0 := HBSF.out.cell 0
   have s1 := HBSF.out.cell 1
   have s2 := HBSF.out.cell 2
   simp at x0 x1 x2 x3 x4 s0 s1 s2
   have HVB := Lib.hid (ver_both p v HRF.out HOF.out HEF.out (cost := costF))
   clear HBXF HBSF HRF HOF HEF HPF
   go_upto_region 25 with (fail)
   refine wp_region_lexB (fun w' => ∃ y : Ext WF, w' = y.val) [0, 1, 2, 3, 5, 6, 4, 7, 8, 9, 10] (by kernel_rfl) (by kernel_rfl) ⟨⟨_, (Keeps.refl _ _).drew⟩, rfl⟩ ?_
   have y0 := Ext.cell x0
   have y1 := Ext.cell x1
   have y2 := Ext.cell x2
   have y3 := Ext.cell x3
   have y4 := Ext.cell x4
   have z0 := Ext.cell s0
   have z1 := Ext.cell s1
   have z2 := Ext.cell s2
   refine lex_a _ rfl rfl true (by kernel_rfl) ?_
   go_wp2_with fail
   refine (awake37_any _).mono ?_
   rintro e wa ⟨rfl, ka⟩
   have KA := Lib.hid ((Keeps.refl _ WF).drew.tr ka)
   have HVA := Lib.hid (HVB.out.1 wa KA.out)
   clear ka
   go_wp2
   refine ⟨fun _ => ⟨⟨_, KA.out⟩, rfl⟩, ?_⟩
   iterate 5 (refine lex_q _ rfl rfl rfl ?_; go_big_quiet_step (fail); refine wpQuiet_nil ?_)
   clear y0 y1 y2 y3 y4 z0 z1 z2
   refine lex_a _ rfl rfl true (by kernel_rfl) ?_
   go_wp2_with fail
   refine HVA.out.mono ?_
   rintro e wb ⟨rfl, kb⟩
   have KB := Lib.hid (KA.out.tr kb)
   have HVR := Lib.hid (HVB.out.2 wb KB.out)
   clear kb HVA HVB
   go_wp2
   refine ⟨fun _ => ⟨⟨_, KB.out⟩, rfl⟩, ?_⟩
   refine lex_a _ rfl rfl true (by kernel_rfl) ?_
   go_wp2_with fail
   refine HVR.out.mono ?_
   rintro e wc ⟨rfl, kc⟩
   have KC := Lib.hid (KF.out.tr (KB.out.tr kc))
   have KC2 := Lib.hid (KB.out.tr kc)
   clear kc HVR KB KA
   generalize verR p _ = bv at *
   have hbb : (bv == bv) = true := by simp
   go_wp2
   refine ⟨fun _ => ⟨⟨_, KC2.out⟩, rfl⟩, ?_⟩
   iterate 3 (refine lex_q _ rfl rfl rfl ?_; go_big_quiet_step (fail); refine wpQuiet_nil ?_)
   simp only [wpLex]
   refine NoPanic.normal ?_
   go_wp2
   go_ret
   first | exact ⟨rfl, KC.out⟩ | exact ⟨rfl, KC.out.drew⟩
  ·rw [e]; clear e
   generalize cost1 = costF at *
   have hel : 1 ≤ en.length ∧ en.length ≤ 10 := HSO.out.el
   have hel1 := hel.1
   have hel2 := hel.2
   clear hel
   obtain ⟨be, oe, r0, A0, c0, hAe, hbe, hr0, m0, hrr⟩ := RSS.at_ HRE9.out (k := 0) (by omega)
   subst hAe
   have hec := HRE9.out.caps
   have hec1 := hec.1
   have hec2 := hec.2
   clear hec hr0 m0 hrr hbe
   have HTL := Lib.hid (RIntss.tail HRE9.out (o' := oe + 1) rfl)
   have s1 := HBS9.out.cell 1
   have f1 := HBS9.out.frozen 1
   have hzs := HBS9.out.lt
   simp at s1
   by_cases hce : ce = 1
   ·subst hce
    have hen1 : en.length = 1 := by omega
    rw [hen1] at *
    go_upto_region 25 with (fail)
    generalize hWF : World.setCell w9 _ _ = WF
    have kf : Keeps (fun b => b = zs) w9 WF := by subst hWF; exact (Keeps.refl (fun b => b = zs) w9).setCell (p := ⟨zs, 1, none⟩) (fun _ => rfl) _
    have HBSF : Hid (Blk WF zs 31 #[.slice Ao os.length co, .slice (some ⟨be, oe, none⟩) ([] : List (List Int)).length 0, .int .i64 costF]) := by subst hWF; exact HBS9.out.set_ 1 _
    have HBXF := Lib.hid (HBX9.out.kept kf (by have := HZZ.out; show ¬ zx = zs; omega))
    have HRF := Lib.hid (low_pb HR9.out kf hzs (fun b hb e => by have e : b = zs := e; omega))
    have HOF := Lib.hid (low_keep ROrders.ok HRO9.out kf hzs (fun b hb e => by have e : b = zs := e; omega))
    have HEF : Hid (RIntss WF (Old WF) [.slice (some ⟨be, oe, none⟩) ([] : List (List Int)).length 0] []) := ⟨_, _, rfl, by simp, by omega, fun h => absurd rfl h⟩
    have KF : Hid (KeepsAll w WF) := K9.out.trans kf (fun b hb e => by have e : b = zs := e; have := HZZ.out; omega)
    clear hWF kf s1 f1 hzs HR9 HRO9 HRE9 HBX9 HBS9 K9 HTL
    have HPF := Lib.hid (HBXF.out)
    have x0 := HBXF.out.cell 0
    have x1 := HBXF.out.cell 1
    have x2 := HBXF.out.cell 2
    have x3 := HBXF.out.cell 3
    have x4 := HBXF.out.cell 4
    have s0 := HBSF.out.cell 0
    have s1 := HBSF.out.cell 1
    have s2 := HBSF.out.cell 2
    simp at x0 x1 x2 x3 x4 s0 s1 s2
    have HVB := Lib.hid (ver_both p v HRF.out HOF.out HEF.out (cost := costF))
    clear HBXF HBSF HRF HOF HEF HPF
    go_upto_region 25 with (fail)
    refine wp_region_lexB (fun w' => ∃ y : Ext WF, w' = y.val) [0, 1, 2, 3, 5, 6, 4, 7, 8, 9, 10] (by kernel_rfl) (by kernel_rfl) ⟨⟨_, (Keeps.refl _ _).drew⟩, rfl⟩ ?_
    have y0 := Ext.cell x0
    have y1 := Ext.cell x1
    have y2 := Ext.cell x2
    have y3 := Ext.cell x3
    have y4 := Ext.cell x4
    have z0 := Ext.cell s0
    have z1 := Ext.cell s1
    have z2 := Ext.cell s2
    refine lex_a _ rfl rfl true (by kernel_rfl) ?_
    go_wp2_with fail
    refine (awake37_any _).mono ?_
    rintro e wa ⟨rfl, ka⟩
    have KA := Lib.hid ((Keeps.refl _ WF).drew.tr ka)
    have HVA := Lib.hid (HVB.out.1 wa KA.out)
    clear ka
    go_wp2
    refine ⟨fun _ => ⟨⟨_, KA.out⟩, rfl⟩, ?_⟩
    iterate 5 (refine lex_q _ rfl rfl rfl ?_; go_big_quiet_step (fail); refine wpQuiet_nil ?_)
    clear y0 y1 y2 y3 y4 z0 z1 z2
    refine lex_a _ rfl rfl true (by kernel_rfl) ?_
    go_wp2_with fail
    refine HVA.out.mono ?_
    rintro e wb ⟨rfl, kb⟩
    have KB := Lib.hid (KA.out.tr kb)
    have HVR := Lib.hid (HVB.out.2 wb KB.out)
    clear kb HVA HVB
    go_wp2
    refine ⟨fun _ => ⟨⟨_, KB.out⟩, rfl⟩, ?_⟩
    refine lex_a _ rfl rfl true (by kernel_rfl) ?_
    go_wp2_with fail
    refine HVR.out.mono ?_
    rintro e wc ⟨rfl, kc⟩
    have KC := Lib.hid (KF.out.tr (KB.out.tr kc))
    have KC2 := Lib.hid (KB.out.tr kc)
    clear kc HVR KB KA
    generalize verR p _ = bv at *
    have hbb : (bv == bv) = true := by simp
    go_wp2
    refine ⟨fun _ => ⟨⟨_, KC2.out⟩, rfl⟩, ?_⟩
    iterate 3 (refine lex_q _ rfl rfl rfl ?_; go_big_quiet_step (fail); refine wpQuiet_nil ?_)
    simp only [wpLex]
    refine NoPanic.normal ?_
    go_wp2
    go_ret
    first | exact ⟨rfl, KC.out⟩ | exact ⟨rfl, KC.out.drew⟩
   ·go_upto_region 25 with (fail)
    generalize hWF : World.setCell w9 _ _ = WF
    have kf : Keeps (fun b => b = zs) w9 WF := by subst hWF; exact (Keeps.refl (fun b => b = zs) w9).setCell (p := ⟨zs, 1, none⟩) (fun _ => rfl) _
    have HBSF : Hid (Blk WF zs 31 #[.slice Ao os.length co, .slice (some ⟨be, oe + 1, none⟩) (en.drop 1).length (ce - 1), .int .i64 costF]) := by rw [List.length_drop]; subst hWF; exact HBS9.out.set_ 1 _
    have HBXF := Lib.hid (HBX9.out.kept kf (by have := HZZ.out; show ¬ zx = zs; omega))
    have HRF := Lib.hid (low_pb HR9.out kf hzs (fun b hb e => by have e : b = zs := e; omega))
    have HOF := Lib.hid (low_keep ROrders.ok HRO9.out kf hzs (fun b hb e => by have e : b = zs := e; omega))
    have HEF : Hid (RIntss WF (Old WF) [.slice (some ⟨be, oe + 1, none⟩) (en.drop 1).length (ce - 1)] (en.drop 1)) := by
     have := low_keep RIntss.ok HTL.out kf hzs (fun b hb e => by have e : b = zs := e; omega)
     rw [List.length_drop]
     exact this
    have KF : Hid (KeepsAll w WF) := K9.out.trans kf (fun b hb e => by have e : b = zs := e; have := HZZ.out; omega)
    obtain ⟨enF, hef⟩ : ∃ l, l = en.drop 1 := ⟨_, rfl⟩
    rw [← hef] at HBSF HEF
    clear hef
    clear hWF kf s1 f1 hzs HR9 HRO9 HRE9 HBX9 HBS9 K9 HTL
    have HPF := Lib.hid (HBXF.out)
    have x0 := HBXF.out.cell 0
    have x1 := HBXF.out.cell 1
    have x2 := HBXF.out.cell 2
    have x3 := HBXF.out.cell 3
    have x4 := HBXF.out.cell 4
    have s0 := HBSF.out.cell 0
    have s1 := HBSF.out.cell 1
    have s2 := HBSF.out.cell 2
    simp at x0 x1 x2 x3 x4 s0 s1 s2
    have HVB := Lib.hid (ver_both p v HRF.out HOF.out HEF.out (cost := costF))
    clear HBXF HBSF HRF HOF HEF HPF
    go_upto_region 25 with (fail)
    refine wp_region_lexB (fun w' => ∃ y : Ext WF, w' = y.val) [0, 1, 2, 3, 5, 6, 4, 7, 8, 9, 10] (by kernel_rfl) (by kernel_rfl) ⟨⟨_, (Keeps.refl _ _).drew⟩, rfl⟩ ?_
    have y0 := Ext.cell x0
    have y1 := Ext.cell x1
    have y2 := Ext.cell x2
    have y3 := Ext.cell x3
    have y4 := Ext.cell x4
    have z0 := Ext.cell s0
    have z1 := Ext.cell s1
    have z2 := Ext.cell s2
    refine lex_a _ rfl rfl true (by kernel_rfl) ?_
    go_wp2_with fail
    refine (awake37_any _).mono ?_
    rintro e wa ⟨rfl, ka⟩
    have KA := Lib.hid ((Keeps.refl _ WF).drew.tr ka)
    have HVA := Lib.hid (HVB.out.1 wa KA.out)
    clear ka
    go_wp2
    refine ⟨fun _ => ⟨⟨_, KA.out⟩, rfl⟩, ?_⟩
    iterate 5 (refine lex_q _ rfl rfl rfl ?_; go_big_quiet_step (fail); refine wpQuiet_nil ?_)
    clear y0 y1 y2 y3 y4 z0 z1 z2
    refine lex_a _ rfl rfl true (by kernel_rfl) ?_
    go_wp2_with fail
    refine HVA.out.mono ?_
    rintro e wb ⟨rfl, kb⟩
    have KB := Lib.hid (KA.out.tr kb)
    have HVR := Lib.hid (HVB.out.2 wb KB.out)
    clear kb HVA HVB
    go_wp2
    refine ⟨fun _ => ⟨⟨_, KB.out⟩, rfl⟩, ?_⟩
    refine lex_a _ rfl rfl true (by kernel_rfl) ?_
    go_wp2_with fail
    refine HVR.out.mono ?_
    rintro e wc ⟨rfl, kc⟩
    have KC := Lib.hid (KF.out.tr (KB.out.tr kc))
    have KC2 := Lib.hid (KB.out.tr kc)
    clear kc HVR KB KA
    generalize verR p _ = bv at *
    have hbb : (bv == bv) = true := by simp
    go_wp2
    refine ⟨fun _ => ⟨⟨_, KC2.out⟩, rfl⟩, ?_⟩
    iterate 3 (refine lex_q _ rfl rfl rfl ?_; go_big_quiet_step (fail); refine wpQuiet_nil ?_)
    simp only [wpLex]
    refine NoPanic.normal ?_
    go_wp2
    go_ret
    first | exact ⟨rfl, KC.out⟩ | exact ⟨rfl, KC.out.drew⟩
 ·have her' : (er != 0) = true := by simpa using her
  have hvf := HNONE.out her
  have HV1 : Hid (∀ W, KeepsAll W7 W → Calls Try.prog 19 #[.agg #[.slice v.A p.ps.length v.c, .slice v.A2 p.at_.length v.c2, .slice v.A3 p.due.length v.c3, .slice v.A4 p.wgt.length v.c4, .int .i64 p.now], .agg #[.slice Ao os.length co, .slice Ae en.length ce, .int .i64 cost1]] W fun e w' => e = .returned (.bool false) ∧ KeepsAll W w') := fun W hW => by have := HVB.out.1 W hW; rw [hvf] at this; exact this
  clear HBOTH HNONE hvf HVB
  go_wp2_with fail
  refine (awake37_any W7).mono ?_
  rintro e w8 ⟨rfl, k8⟩
  have HBX8 := Lib.hid (HBX7.out.kept k8 (by simp))
  have HBS8 := Lib.hid (HBS7.out.kept k8 (by simp))
  have HV8 := Lib.hid (HV1.out w8 k8)
  have K8 := Lib.hid (K7.out.tr k8)
  clear k8 HV1
  have x0 := HBX8.out.cell 0
  have x1 := HBX8.out.cell 1
  have x2 := HBX8.out.cell 2
  have x3 := HBX8.out.cell 3
  have x4 := HBX8.out.cell 4
  have s0 := HBS8.out.cell 0
  have s1 := HBS8.out.cell 1
  have s2 := HBS8.out.cell 2
  simp at x0 x1 x2 x3 x4 s0 s1 s2
  go_wp2_with fail
  refine HV8.out.mono ?_
  rintro e w9 ⟨rfl, k9⟩
  have K9 := Lib.hid (K8.out.tr k9)
  clear k9
  go_wp2
  go_ret
  exact ⟨rfl, K9.out⟩

end Go.Proofs.Ytilbbpbjhoidhaa
