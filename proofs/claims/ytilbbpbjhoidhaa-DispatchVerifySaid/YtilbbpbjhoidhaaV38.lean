/- Contract of the maker of small problems of chapter 37. Conditions: as each theorem says. -/
import Derived.Test.YtilbbpbjhoidhaaV37
import Derived.Lib.MinMax
namespace Go.Proofs.Ytilbbpbjhoidhaa
open Go.RowKit

theorem RSlice.headN {α : Type} {size : Nat} {E : Rd α} {w : World} {S : Foot} {A : Option Addr} {n c : Nat} {l : List α} (h : RSlice size E w S [.slice A n c] l) {k : Nat} (hk : k ≤ l.length) (h1 : 1 ≤ l.length) : RSlice size E w S [.slice A (l.take k).length c] (l.take k) := by
 have hl : (l.take k).length = k := by rw [List.length_take]; omega
 obtain ⟨A', c', he, hc, hcm, hj⟩ := h
 injection he with he
 injection he with e1 e2 e3
 subst e1 e3
 refine ⟨A, c, rfl, by omega, hcm, fun _ => ?_⟩
 obtain ⟨b, o, e, hS, hx⟩ := hj (by rintro rfl; simp at h1)
 refine ⟨b, o, e, hS, fun j x hjx => hx j x ?_⟩
 rw [List.getElem?_take] at hjx
 split at hjx
 ·exact hjx
 ·cases hjx
theorem RSlice.someA {α : Type} {size : Nat} {E : Rd α} {w : World} {S : Foot} {A : Option Addr} {n c : Nat} {l : List α} (h : RSlice size E w S [.slice A n c] l) (h1 : 1 ≤ l.length) : ∃ b o, A = some ⟨b, o, none⟩ ∧ S b := by
 obtain ⟨A', c', he, _, _, hj⟩ := h
 injection he with he
 injection he with e1 e2 e3
 subst e1
 obtain ⟨b, o, e, hS, _⟩ := hj (by rintro rfl; simp at h1)
 exact ⟨b, o, e, hS⟩
def cutP (p : Pb) (n : Nat) : Pb := ⟨p.ps.take n, p.at_.take n, p.due.take n, p.wgt.take n, p.now⟩
theorem goodFrom_take : ∀ (n : Nat) (ps : List (List Stage)) (l : List Int), goodFrom ps l = true → goodFrom (ps.take n) (l.take n) = true
 | 0, ps, l, _ => by simp [goodFrom]
 | n + 1, [], l, _ => by simp [goodFrom]
 | n + 1, p :: ps, [], _ => by simp [goodFrom]
 | n + 1, p :: ps, a :: l, h => by
  simp only [goodFrom, Bool.and_eq_true, List.take_succ_cons] at h ⊢
  exact ⟨h.1, goodFrom_take n ps l h.2⟩
theorem PbMade.cut {p : Pb} (h : PbMade p) {n : Nat} (h1 : 1 ≤ n) (h2 : n ≤ p.ps.length) : PbMade (cutP p n) := by
 obtain ⟨a, b, c⟩ := h.ps
 have hg := h.at_
 unfold good at hg
 rw [Bool.and_eq_true, decide_eq_true_eq] at hg
 refine ⟨⟨?_, ?_, fun q hq => c q (List.mem_of_mem_take hq)⟩, ?_, ?_, ?_, fun x hx => h.d x (List.mem_of_mem_take hx), fun x hx => h.w x (List.mem_of_mem_take hx), h.n⟩
 ·show 1 ≤ (p.ps.take n).length; rw [List.length_take]; omega
 ·show (p.ps.take n).length ≤ 3; rw [List.length_take]; omega
 ·unfold good
  rw [Bool.and_eq_true, decide_eq_true_eq]
  refine ⟨?_, goodFrom_take n _ _ hg.2⟩
  show (p.at_.take n).length = (p.ps.take n).length
  rw [List.length_take, List.length_take, hg.1]
 ·show (p.due.take n).length = (p.ps.take n).length
  rw [List.length_take, List.length_take, h.dl]
 ·show (p.wgt.take n).length = (p.ps.take n).length
  rw [List.length_take, List.length_take, h.wl]

set_option maxRecDepth 100000 in
set_option maxHeartbeats 1000000 in
theorem small37_any (lp la ld : List Int) (Ap Aa Ad : Option Addr) (cp ca cd : Nat) (now : Int) (w : World) (h : RInts w (Old w) [.slice Ap lp.length cp] lp) (h2 : RInts w (Old w) [.slice Aa la.length ca] la) (h3 : RInts w (Old w) [.slice Ad ld.length cd] ld) :
  Calls Try.prog 18 #[.slice Ap lp.length cp, .slice Aa la.length ca, .slice Ad ld.length cd, .int .i64 now] w fun e w' => ∃ v p, e = .returned (.agg (v.cs p)) ∧ RPb w' (Fresh w w') v p ∧ PbMade p ∧ p.ps.length ≤ 2 ∧ KeepsAll w w' := by
 have H := Lib.hid h
 have H2 := Lib.hid h2
 have H3 := Lib.hid h3
 clear h h2 h3
 go_enter Try.func18, Try.ntmps18
 go_wp2_with fail
 generalize hW0 : World.alloc w _ = W0
 have k0 : KeepsAll w W0 := by subst hW0; exact (Keeps.refl _ _).alloc _
 have hz0 : W0.heap.size = w.heap.size + 1 := by subst hW0; simp
 have hb0 : Blk W0 w.heap.size 25 #[.slice none 0 0, .slice none 0 0, .slice none 0 0, .slice none 0 0, .int .i64 0] := by subst hW0; exact Blk.new _ _ _
 have HB0 := Lib.hid hb0
 have K0 := Lib.hid k0
 clear hW0 hb0 k0
 obtain ⟨z0, hz00⟩ : ∃ z, z = w.heap.size := ⟨_, rfl⟩
 rw [← hz00] at HB0 ⊢
 have HZ : Hid (z0 = w.heap.size ∧ W0.heap.size = w.heap.size + 1) := ⟨hz00, hz0⟩
 clear hz0 hz00
 refine (problem37_any lp la ld Ap Aa Ad cp ca cd now W0 (K0.out.rdo' RInts.ok H.out) (K0.out.rdo' RInts.ok H2.out) (K0.out.rdo' RInts.ok H3.out)).mono ?_
 rintro e w1 ⟨v, p, rfl, hr, hm, k1⟩
 have HR := Lib.hid hr
 have HM := Lib.hid hm
 have HB1 := Lib.hid (HB0.out.kept k1 (by simp))
 have K1 := Lib.hid k1
 have hp1 := hm.ps.1
 have hp3 := hm.ps.2.1
 clear hr hm k1 HB0
 obtain ⟨vA, vc, vA2, vc2, vA3, vc3, vA4, vc4⟩ := v
 have hal0 : p.at_.length = p.ps.length := good_len HM.out.at_
 obtain ⟨b1, o1, rfl, _⟩ := HR.out.P.someA hp1
 obtain ⟨b2, o2, rfl, _⟩ := HR.out.A.someA (by omega)
 obtain ⟨b3, o3, rfl, _⟩ := HR.out.D.someA (by rw [HM.out.dl]; omega)
 obtain ⟨b4, o4, rfl, _⟩ := HR.out.W.someA (by rw [HM.out.wl]; omega)
 clear hal0
 unfold PV.cs
 simp only []
 have hal : p.at_.length = p.ps.length := good_len HM.out.at_
 rw [hal, HM.out.dl, HM.out.wl]
 clear hal
 have hcp := HR.out.P.caps
 have hca := HR.out.A.caps
 have hcd := HR.out.D.caps
 have hcw := HR.out.W.caps
 rw [good_len HM.out.at_] at hca
 rw [HM.out.dl] at hcd
 rw [HM.out.wl] at hcw
 have key : ∀ (n k : Nat), p.ps.length = n → (min (2 : Int) (n : Int)) = (k : Int) → 1 ≤ k → k ≤ 2 → k ≤ n → n ≤ 3 → ∀ W, Keeps (fun b => b = z0) w1 W → Blk W z0 25 #[.slice (some ⟨b1, o1, none⟩) k vc, .slice (some ⟨b2, o2, none⟩) k vc2, .slice (some ⟨b3, o3, none⟩) k vc3, .slice (some ⟨b4, o4, none⟩) k vc4, .int .i64 p.now] →
   ∃ v' p', (Value.agg #[.slice (some ⟨b1, o1, none⟩) k vc, .slice (some ⟨b2, o2, none⟩) k vc2, .slice (some ⟨b3, o3, none⟩) k vc3, .slice (some ⟨b4, o4, none⟩) k vc4, .int .i64 p.now]) = .agg (v'.cs p') ∧ RPb W (Fresh w W) v' p' ∧ PbMade p' ∧ p'.ps.length ≤ 2 ∧ KeepsAll w W := by
  intro n k hn _ hk1 hk2 hkn hn3 W hW _
  obtain ⟨q1, q2⟩ := HZ.out
  have l1 : p.at_.length = n := by rw [good_len HM.out.at_, hn]
  have l2 : p.due.length = n := by rw [HM.out.dl, hn]
  have l3 : p.wgt.length = n := by rw [HM.out.wl, hn]
  have t1 : (p.ps.take k).length = k := by rw [List.length_take]; omega
  have t2 : (p.at_.take k).length = k := by rw [List.length_take]; omega
  have t3 : (p.due.take k).length = k := by rw [List.length_take]; omega
  have t4 : (p.wgt.take k).length = k := by rw [List.length_take]; omega
  have hs := hW.size
  have hF : ∀ b, Fresh W0 w1 b → Fresh w W b := fun b hb => by
   have a1 : W0.heap.size ≤ b := hb.1
   have a2 : b < w1.heap.size := hb.2
   exact ⟨by omega, by omega⟩
  have hE : ∀ b, Fresh W0 w1 b → W.heap[b]? = w1.heap[b]? := fun b hb => hW.block b hb.2 (by
   have a1 : W0.heap.size ≤ b := hb.1
   show ¬ b = z0; omega)
  refine ⟨⟨some ⟨b1, o1, none⟩, vc, some ⟨b2, o2, none⟩, vc2, some ⟨b3, o3, none⟩, vc3, some ⟨b4, o4, none⟩, vc4⟩, cutP p k, ?_, ⟨?_, ?_, ?_, ?_⟩, HM.out.cut hk1 (by omega), by show (p.ps.take k).length ≤ 2; omega, ?_⟩
  ·unfold PV.cs cutP; simp only [t1, t2, t3, t4]
  ·exact RPaths.ok.mono (HR.out.P.headN (k := k) (by omega) (by omega)) hF hE
  ·exact RInts.ok.mono (HR.out.A.headN (k := k) (by omega) (by omega)) hF hE
  ·exact RInts.ok.mono (HR.out.D.headN (k := k) (by omega) (by omega)) hF hE
  ·exact RInts.ok.mono (HR.out.W.headN (k := k) (by omega) (by omega)) hF hE
  ·exact (K0.out.tr K1.out).trans hW (fun b hb e => by have e : b = z0 := e; omega)
 have HK := Lib.hid key
 clear key
 have c0 := HB1.out.cell 0
 have c1 := HB1.out.cell 1
 have c2 := HB1.out.cell 2
 have c3 := HB1.out.cell 3
 have c4 := HB1.out.cell 4
 simp at c0 c1 c2 c3 c4
 have e0 := HB1.out.frozen 0
 have e1 := HB1.out.frozen 1
 have e2 := HB1.out.frozen 2
 have e3 := HB1.out.frozen 3
 have e4 := HB1.out.frozen 4
 have hzr := HB1.out.lt
 rcases (show p.ps.length = 1 ∨ p.ps.length = 2 ∨ p.ps.length = 3 by omega) with hn | hn | hn
 ·have HKN := Lib.hid (HK.out 1 1 hn (by decide) (by omega) (by omega) (by omega) (by omega))
  rw [hn] at hcp hca hcd hcw ⊢
  clear hn hp1 hp3 HK HR HM
  go_wp2
  rw [show (min (2 : Int) 1) = 1 from by decide]
  generalize hW2 : World.alloc w1 _ = W2
  have k2 : KeepsAll w1 W2 := by subst hW2; exact (Keeps.refl _ _).alloc _
  have hbx : Blk W2 w1.heap.size 25 #[.slice (some ⟨b1, o1, none⟩) 1 vc, .slice (some ⟨b2, o2, none⟩) 1 vc2, .slice (some ⟨b3, o3, none⟩) 1 vc3, .slice (some ⟨b4, o4, none⟩) 1 vc4, .int .i64 p.now] := by subst hW2; exact Blk.new _ _ _
  have HB2 := Lib.hid (HB1.out.kept k2 (by simp))
  have x0 := hbx.cell 0
  have x1 := hbx.cell 1
  have x2 := hbx.cell 2
  have x3 := hbx.cell 3
  have x4 := hbx.cell 4
  simp at x0 x1 x2 x3 x4
  have c0 := HB2.out.cell 0
  have c1 := HB2.out.cell 1
  have c2 := HB2.out.cell 2
  have c3 := HB2.out.cell 3
  have c4 := HB2.out.cell 4
  simp at c0 c1 c2 c3 c4
  have e0 := HB2.out.frozen 0
  have e1 := HB2.out.frozen 1
  have e2 := HB2.out.frozen 2
  have e3 := HB2.out.frozen 3
  have e4 := HB2.out.frozen 4
  have hzr := HB2.out.lt
  have K2 := Lib.hid k2
  clear hW2 hbx k2
  refine wp_region_lex (fun w' => ∃ x : Ext W2, w' = x.val) [0, 1, 2, 3, 4, 5, 6, 7, 8, 9, 10, 11, 12, 13, 14, 15, 16, 17, 18, 19] (by kernel_rfl) (by kernel_rfl) ⟨⟨_, (Keeps.refl _ _).drew⟩, rfl⟩ ?_
  have y0 := Ext.cell x0
  have y1 := Ext.cell x1
  have y2 := Ext.cell x2
  have y3 := Ext.cell x3
  have y4 := Ext.cell x4
  iterate 19 (refine lex_q _ rfl rfl rfl ?_; go_big_quiet_step (fail); refine wpQuiet_nil ?_)
  clear y0 y1 y2 y3 y4 x0 x1 x2 x3 x4
  refine lex_a _ rfl rfl false (by kernel_rfl) ?_
  go_wp2
  (try refine ⟨fun h => (by cases h), ?_⟩)
  simp only [wpLex]
  refine NoPanic.normal ?_
  generalize hW3 : World.drew (World.setCell (World.setCell (World.setCell (World.setCell (World.setCell W2 _ _) _ _) _ _) _ _) _ _) = W3
  have HB3 : Blk W3 z0 25 #[.slice (some ⟨b1, o1, none⟩) 1 vc, .slice (some ⟨b2, o2, none⟩) 1 vc2, .slice (some ⟨b3, o3, none⟩) 1 vc3, .slice (some ⟨b4, o4, none⟩) 1 vc4, .int .i64 p.now] := by
   subst hW3; exact (((((HB2.out.set_ 0 _).set_ 1 _).set_ 2 _).set_ 3 _).set_ 4 _).drew_
  have K3 : Keeps (fun b => b = z0) w1 W3 := by
   subst hW3; exact ((((((K2.out.mono (C := fun b => b = z0) (fun _ _ e => e.elim)).setCell (p := ⟨z0, 0, none⟩) (fun _ => rfl) _).setCell (p := ⟨z0, 1, none⟩) (fun _ => rfl) _).setCell (p := ⟨z0, 2, none⟩) (fun _ => rfl) _).setCell (p := ⟨z0, 3, none⟩) (fun _ => rfl) _).setCell (p := ⟨z0, 4, none⟩) (fun _ => rfl) _).drew
  have HPP := Lib.hid (HKN.out W3 K3 HB3)
  clear hW3 c0 c1 c2 c3 c4
  have c0 := HB3.cell 0
  have c1 := HB3.cell 1
  have c2 := HB3.cell 2
  have c3 := HB3.cell 3
  have c4 := HB3.cell 4
  simp at c0 c1 c2 c3 c4
  go_wp2
  exact bodyPost_ret (v := .agg #[.slice (some ⟨b1, o1, none⟩) 1 vc, .slice (some ⟨b2, o2, none⟩) 1 vc2, .slice (some ⟨b3, o3, none⟩) 1 vc3, .slice (some ⟨b4, o4, none⟩) 1 vc4, .int .i64 p.now]) (by simp [results, Try.results18, go_sem, c0, c1, c2, c3, c4]) rfl (by
   obtain ⟨v', p', h1, h2, h3, h4, h5⟩ := HPP.out
   exact ⟨v', p', by rw [h1], h2, h3, h4, h5⟩)
 ·have HKN := Lib.hid (HK.out 2 2 hn (by decide) (by omega) (by omega) (by omega) (by omega))
  rw [hn] at hcp hca hcd hcw ⊢
  clear hn hp1 hp3 HK HR HM
  go_wp2
  try rw [show (min (2 : Int) 2) = 2 from by decide]
  generalize hW2 : World.alloc w1 _ = W2
  have k2 : KeepsAll w1 W2 := by subst hW2; exact (Keeps.refl _ _).alloc _
  have hbx : Blk W2 w1.heap.size 25 #[.slice (some ⟨b1, o1, none⟩) 2 vc, .slice (some ⟨b2, o2, none⟩) 2 vc2, .slice (some ⟨b3, o3, none⟩) 2 vc3, .slice (some ⟨b4, o4, none⟩) 2 vc4, .int .i64 p.now] := by subst hW2; exact Blk.new _ _ _
  have HB2 := Lib.hid (HB1.out.kept k2 (by simp))
  have x0 := hbx.cell 0
  have x1 := hbx.cell 1
  have x2 := hbx.cell 2
  have x3 := hbx.cell 3
  have x4 := hbx.cell 4
  simp at x0 x1 x2 x3 x4
  have c0 := HB2.out.cell 0
  have c1 := HB2.out.cell 1
  have c2 := HB2.out.cell 2
  have c3 := HB2.out.cell 3
  have c4 := HB2.out.cell 4
  simp at c0 c1 c2 c3 c4
  have e0 := HB2.out.frozen 0
  have e1 := HB2.out.frozen 1
  have e2 := HB2.out.frozen 2
  have e3 := HB2.out.frozen 3
  have e4 := HB2.out.frozen 4
  have hzr := HB2.out.lt
  have K2 := Lib.hid k2
  clear hW2 hbx k2
  refine wp_region_lex (fun w' => ∃ x : Ext W2, w' = x.val) [0, 1, 2, 3, 4, 5, 6, 7, 8, 9, 10, 11, 12, 13, 14, 15, 16, 17, 18, 19] (by kernel_rfl) (by kernel_rfl) ⟨⟨_, (Keeps.refl _ _).drew⟩, rfl⟩ ?_
  have y0 := Ext.cell x0
  have y1 := Ext.cell x1
  have y2 := Ext.cell x2
  have y3 := Ext.cell x3
  have y4 := Ext.cell x4
  iterate 19 (refine lex_q _ rfl rfl rfl ?_; go_big_quiet_step (fail); refine wpQuiet_nil ?_)
  clear y0 y1 y2 y3 y4 x0 x1 x2 x3 x4
  refine lex_a _ rfl rfl false (by kernel_rfl) ?_
  go_wp2
  (try refine ⟨fun h => (by cases h), ?_⟩)
  simp only [wpLex]
  refine NoPanic.normal ?_
  generalize hW3 : World.drew (World.setCell (World.setCell (World.setCell (World.setCell (World.setCell W2 _ _) _ _) _ _) _ _) _ _) = W3
  have HB3 : Blk W3 z0 25 #[.slice (some ⟨b1, o1, none⟩) 2 vc, .slice (some ⟨b2, o2, none⟩) 2 vc2, .slice (some ⟨b3, o3, none⟩) 2 vc3, .slice (some ⟨b4, o4, none⟩) 2 vc4, .int .i64 p.now] := by
   subst hW3; exact (((((HB2.out.set_ 0 _).set_ 1 _).set_ 2 _).set_ 3 _).set_ 4 _).drew_
  have K3 : Keeps (fun b => b = z0) w1 W3 := by
   subst hW3; exact ((((((K2.out.mono (C := fun b => b = z0) (fun _ _ e => e.elim)).setCell (p := ⟨z0, 0, none⟩) (fun _ => rfl) _).setCell (p := ⟨z0, 1, none⟩) (fun _ => rfl) _).setCell (p := ⟨z0, 2, none⟩) (fun _ => rfl) _).setCell (p := ⟨z0, 3, none⟩) (fun _ => rfl) _).setCell (p := ⟨z0, 4, none⟩) (fun _ => rfl) _).drew
  have HPP := Lib.hid (HKN.out W3 K3 HB3)
  clear hW3 c0 c1 c2 c3 c4
  have c0 := HB3.cell 0
  have c1 := HB3.cell 1
  have c2 := HB3.cell 2
  have c3 := HB3.cell 3
  have c4 := HB3.cell 4
  simp at c0 c1 c2 c3 c4
  go_wp2
  exact bodyPost_ret (v := .agg #[.slice (some ⟨b1, o1, none⟩) 2 vc, .slice (some ⟨b2, o2, none⟩) 2 vc2, .slice (some ⟨b3, o3, none⟩) 2 vc3, .slice (some ⟨b4, o4, none⟩) 2 vc4, .int .i64 p.now]) (by simp [results, Try.results18, go_sem, c0, c1, c2, c3, c4]) rfl (by
   obtain ⟨v', p', h1, h2, h3, h4, h5⟩ := HPP.out
   exact ⟨v', p', by rw [h1], h2, h3, h4, h5⟩)
 ·have HKN := Lib.hid (HK.out 3 2 hn (by decide) (by omega) (by omega) (by omega) (by omega))
  rw [hn] at hcp hca hcd hcw ⊢
  clear hn hp1 hp3 HK HR HM
  go_wp2
  rw [show (min (2 : Int) 3) = 2 from by decide]
  generalize hW2 : World.alloc w1 _ = W2
  have k2 : KeepsAll w1 W2 := by subst hW2; exact (Keeps.refl _ _).alloc _
  have hbx : Blk W2 w1.heap.size 25 #[.slice (some ⟨b1, o1, none⟩) 3 vc, .slice (some ⟨b2, o2, none⟩) 3 vc2, .slice (some ⟨b3, o3, none⟩) 3 vc3, .slice (some ⟨b4, o4, none⟩) 3 vc4, .int .i64 p.now] := by subst hW2; exact Blk.new _ _ _
  have HB2 := Lib.hid (HB1.out.kept k2 (by simp))
  have x0 := hbx.cell 0
  have x1 := hbx.cell 1
  have x2 := hbx.cell 2
  have x3 := hbx.cell 3
  have x4 := hbx.cell 4
  simp at x0 x1 x2 x3 x4
  have c0 := HB2.out.cell 0
  have c1 := HB2.out.cell 1
  have c2 := HB2.out.cell 2
  have c3 := HB2.out.cell 3
  have c4 := HB2.out.cell 4
  simp at c0 c1 c2 c3 c4
  have e0 := HB2.out.frozen 0
  have e1 := HB2.out.frozen 1
  have e2 := HB2.out.frozen 2
  have e3 := HB2.out.frozen 3
  have e4 := HB2.out.frozen 4
  have hzr := HB2.out.lt
  have K2 := Lib.hid k2
  clear hW2 hbx k2
  refine wp_region_lex (fun w' => ∃ x : Ext W2, w' = x.val) [0, 1, 2, 3, 4, 5, 6, 7, 8, 9, 10, 11, 12, 13, 14, 15, 16, 17, 18, 19] (by kernel_rfl) (by kernel_rfl) ⟨⟨_, (Keeps.refl _ _).drew⟩, rfl⟩ ?_
  have y0 := Ext.cell x0
  have y1 := Ext.cell x1
  have y2 := Ext.cell x2
  have y3 := Ext.cell x3
  have y4 := Ext.cell x4
  iterate 19 (refine lex_q _ rfl rfl rfl ?_; go_big_quiet_step (fail); refine wpQuiet_nil ?_)
  clear y0 y1 y2 y3 y4 x0 x1 x2 x3 x4
  refine lex_a _ rfl rfl false (by kernel_rfl) ?_
  go_wp2
  (try refine ⟨fun h => (by cases h), ?_⟩)
  simp only [wpLex]
  refine NoPanic.normal ?_
  generalize hW3 : World.drew (World.setCell (World.setCell (World.setCell (World.setCell (World.setCell W2 _ _) _ _) _ _) _ _) _ _) = W3
  have HB3 : Blk W3 z0 25 #[.slice (some ⟨b1, o1, none⟩) 2 vc, .slice (some ⟨b2, o2, none⟩) 2 vc2, .slice (some ⟨b3, o3, none⟩) 2 vc3, .slice (some ⟨b4, o4, none⟩) 2 vc4, .int .i64 p.now] := by
   subst hW3; exact (((((HB2.out.set_ 0 _).set_ 1 _).set_ 2 _).set_ 3 _).set_ 4 _).drew_
  have K3 : Keeps (fun b => b = z0) w1 W3 := by
   subst hW3; exact ((((((K2.out.mono (C := fun b => b = z0) (fun _ _ e => e.elim)).setCell (p := ⟨z0, 0, none⟩) (fun _ => rfl) _).setCell (p := ⟨z0, 1, none⟩) (fun _ => rfl) _).setCell (p := ⟨z0, 2, none⟩) (fun _ => rfl) _).setCell (p := ⟨z0, 3, none⟩) (fun _ => rfl) _).setCell (p := ⟨z0, 4, none⟩) (fun _ => rfl) _).drew
  have HPP := Lib.hid (HKN.out W3 K3 HB3)
  clear hW3 c0 c1 c2 c3 c4
  have c0 := HB3.cell 0
  have c1 := HB3.cell 1
  have c2 := HB3.cell 2
  have c3 := HB3.cell 3
  have c4 := HB3.cell 4
  simp at c0 c1 c2 c3 c4
  go_wp2
  exact bodyPost_ret (v := .agg #[.slice (some ⟨b1, o1, none⟩) 2 vc, .slice (some ⟨b2, o2, none⟩) 2 vc2, .slice (some ⟨b3, o3, none⟩) 2 vc3, .slice (some ⟨b4, o4, none⟩) 2 vc4, .int .i64 p.now]) (by simp [results, Try.results18, go_sem, c0, c1, c2, c3, c4]) rfl (by
   obtain ⟨v', p', h1, h2, h3, h4, h5⟩ := HPP.out
   exact ⟨v', p', by rw [h1], h2, h3, h4, h5⟩)

end Go.Proofs.Ytilbbpbjhoidhaa
