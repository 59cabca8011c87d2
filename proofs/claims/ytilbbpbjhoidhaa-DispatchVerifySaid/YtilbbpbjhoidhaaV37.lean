/- Contract of the maker of problems of chapter 37. Conditions: as each theorem says. -/
import Derived.Test.YtilbbpbjhoidhaaV36
import Derived.Test.YtilbbpbjhoidhaaV10
import Derived.Test.YtilbbpbjhoidhaaV05
namespace Go.Proofs.Ytilbbpbjhoidhaa
open Go.RowKit

theorem From_src (w : World) (A : Option Addr) (c : Nat) (l : List Int) {S : Foot} (h : RInts w S [.slice A l.length c] l) (hS : ∀ b, S b → b < w.heap.size) :
  Calls Try.prog 35 #[.slice A l.length c] w fun e w' => e = .returned (.pointer (some ⟨w.heap.size, 0, none⟩)) ∧ Src w' S w.heap.size l ∧ KeepsAll w w' ∧ w'.heap.size = w.heap.size + 1 := by
 have H := Lib.hid h; clear h
 have HS := Lib.hid hS; clear hS
 go_enter Try.func35, Try.ntmps35
 go_wp2
 go_ret
 refine ⟨rfl, ⟨A, c, l, 0, ?_, ?_, Nat.zero_le _, by simp⟩, (Keeps.refl _ _).alloc _, by simp⟩
 ·exact Blk.new w _ _
 ·exact RInts.ok.mono H.out (fun _ h => h) (fun b hb => Below.heap_alloc w _ b (HS.out b hb))
structure PbMade (p : Pb) : Prop where
 ps : psMade p.ps
 at_ : good p.ps p.at_ = true
 dl : p.due.length = p.ps.length
 wl : p.wgt.length = p.ps.length
 d : ∀ x ∈ p.due, 0 ≤ x ∧ x < 120
 w : ∀ x ∈ p.wgt, 0 ≤ x ∧ x < 4
 n : 0 ≤ p.now ∧ p.now < 100
structure MkS (w W0 wr : World) (zx g : Nat) (sp sa : Value) (now : Int) (vd vw : Value) (ld lw : List Int) : Prop where
 k : Keeps (fun b => b = zx ∨ b = g) W0 wr
 src : ∃ rest, Src wr (Old w) g rest
 b : Blk wr zx 25 #[sp, sa, vd, vw, .int .i64 now]
 od : OwnL 3 1 RInt wr W0.heap.size W0.heap.size vd ld
 ow : OwnL 3 1 RInt wr W0.heap.size W0.heap.size vw lw
 ne : ∀ b, vd.ownBlock = some b → vw.ownBlock ≠ some b
section
variable {w W0 wr w5 w6 w9 : World} {zx g : Nat} {sp sa vd vw v' : Value} {now : Int} {ld lw l' : List Int}
theorem MkS.next (h : MkS w W0 wr zx g sp sa now vd vw ld lw) (hw : w.heap.size ≤ zx ∧ w.heap.size ≤ g ∧ zx ≠ g ∧ zx < W0.heap.size ∧ g < W0.heap.size) (k : Keeps (· = g) wr w5) (hs : ∃ rest, Src w5 (Old w) g rest) : MkS w W0 w5 zx g sp sa now vd vw ld lw :=
 ⟨h.k.trans k (fun _ _ e => .inr e), hs, h.b.kept k hw.2.2.1, h.od.keepsF RInt.flat k (fun b hb e => by have := h.od.lt hb; have e : b = g := e; omega), h.ow.keepsF RInt.flat k (fun b hb e => by have := h.ow.lt hb; have e : b = g := e; omega), h.ne⟩
theorem MkS.srcK (h : MkS w W0 wr zx g sp sa now vd vw ld lw) (hw : w.heap.size ≤ zx ∧ w.heap.size ≤ g ∧ zx ≠ g ∧ zx < W0.heap.size ∧ g < W0.heap.size) {C : Foot} (k : Keeps C wr w5) (hC : ∀ b, C b → W0.heap.size ≤ b ∨ b = zx) : ∃ rest, Src w5 (Old w) g rest := by
 obtain ⟨rest, hs⟩ := h.src
 have hz := h.k.size
 refine ⟨rest, hs.keeps k (fun b hb => ⟨by have : b < w.heap.size := hb; omega, fun e => ?_⟩) (fun e => ?_)⟩
 ·have hb : b < w.heap.size := hb
  rcases hC b e with e | e <;> omega
 ·rcases hC g e with e | e <;> omega
theorem MkS.keep (h : MkS w W0 wr zx g sp sa now vd vw ld lw) (hw : w.heap.size ≤ zx ∧ w.heap.size ≤ g ∧ zx ≠ g ∧ zx < W0.heap.size ∧ g < W0.heap.size) (k : KeepsAll wr w5) : MkS w W0 w5 zx g sp sa now vd vw ld lw :=
 ⟨h.k.trans k (fun _ _ e => e.elim), h.srcK hw k (fun _ e => e.elim), h.b.kept k (by simp), h.od.keepsF RInt.flat k (by simp), h.ow.keepsF RInt.flat k (by simp), h.ne⟩
theorem MkS.due (h : MkS w W0 wr zx g sp sa now vd vw ld lw) (hw : w.heap.size ≤ zx ∧ w.heap.size ≤ g ∧ zx ≠ g ∧ zx < W0.heap.size ∧ g < W0.heap.size) (ho : OwnL 3 1 RInt w9 W0.heap.size W0.heap.size v' l') (hk : Keeps (fun b => vd.ownBlock = some b) wr w9) (hn : v'.ownBlock = vd.ownBlock ∨ v'.ownBlock = some wr.heap.size) : MkS w W0 (w9.setCell ⟨zx, 2, none⟩ v') zx g sp sa now v' vw l' lw := by
 have hL : ∀ b, vd.ownBlock = some b → W0.heap.size ≤ b := fun b hb => (h.od.lt hb).1
 have hz := h.k.size
 have k1 : Keeps (fun b => b = zx) w9 (w9.setCell ⟨zx, 2, none⟩ v') := (Keeps.refl (fun b => b = zx) w9).setCell (p := ⟨zx, 2, none⟩) (fun _ => rfl) _
 have hzx : ¬ (vd.ownBlock = some zx) := fun e => by have := hL zx e; omega
 have k2 : Keeps (fun b => vd.ownBlock = some b ∨ b = zx) wr (w9.setCell ⟨zx, 2, none⟩ v') := (hk.mono (C := fun b => vd.ownBlock = some b ∨ b = zx) (fun _ _ e => .inl e)).trans k1 (fun _ _ e => .inr e)
 refine ⟨h.k.trans k2 (fun b hb e => ?_), h.srcK hw k2 (fun b e => ?_), (h.b.kept hk hzx).set_ 2 v', ho.keepsF RInt.flat k1 (fun b hb e => by have := ho.lt hb; have e : b = zx := e; omega), h.ow.keepsF RInt.flat k2 (fun b hb e => ?_), fun b hb hb2 => ?_⟩
 ·rcases e with e | e
  ·have := hL b e; omega
  ·exact .inl e
 ·rcases e with e | e
  ·exact .inl (hL b e)
  ·exact .inr e
 ·rcases e with e | e
  ·exact h.ne b e hb
  ·have := (h.ow.lt hb).1; omega
 ·rcases hn with hn | hn
  ·exact h.ne b (by rw [← hn]; exact hb) hb2
  ·rw [hn] at hb; injection hb with hb; have := (h.ow.lt hb2).2; omega
theorem MkS.wgt (h : MkS w W0 wr zx g sp sa now vd vw ld lw) (hw : w.heap.size ≤ zx ∧ w.heap.size ≤ g ∧ zx ≠ g ∧ zx < W0.heap.size ∧ g < W0.heap.size) (ho : OwnL 3 1 RInt w9 W0.heap.size W0.heap.size v' l') (hk : Keeps (fun b => vw.ownBlock = some b) wr w9) (hn : v'.ownBlock = vw.ownBlock ∨ v'.ownBlock = some wr.heap.size) : MkS w W0 (w9.setCell ⟨zx, 3, none⟩ v') zx g sp sa now vd v' ld l' := by
 have hL : ∀ b, vw.ownBlock = some b → W0.heap.size ≤ b := fun b hb => (h.ow.lt hb).1
 have hz := h.k.size
 have k1 : Keeps (fun b => b = zx) w9 (w9.setCell ⟨zx, 3, none⟩ v') := (Keeps.refl (fun b => b = zx) w9).setCell (p := ⟨zx, 3, none⟩) (fun _ => rfl) _
 have hzx : ¬ (vw.ownBlock = some zx) := fun e => by have := hL zx e; omega
 have k2 : Keeps (fun b => vw.ownBlock = some b ∨ b = zx) wr (w9.setCell ⟨zx, 3, none⟩ v') := (hk.mono (C := fun b => vw.ownBlock = some b ∨ b = zx) (fun _ _ e => .inl e)).trans k1 (fun _ _ e => .inr e)
 refine ⟨h.k.trans k2 (fun b hb e => ?_), h.srcK hw k2 (fun b e => ?_), (h.b.kept hk hzx).set_ 3 v', h.od.keepsF RInt.flat k2 (fun b hb e => ?_), ho.keepsF RInt.flat k1 (fun b hb e => by have := ho.lt hb; have e : b = zx := e; omega), fun b hb hb2 => ?_⟩
 ·rcases e with e | e
  ·have := hL b e; omega
  ·exact .inl e
 ·rcases e with e | e
  ·exact .inl (hL b e)
  ·exact .inr e
 ·rcases e with e | e
  ·exact h.ne b hb e
  ·have := (h.od.lt hb).1; omega
 ·rcases hn with hn | hn
  ·exact h.ne b hb (by rw [← hn]; exact hb2)
  ·rw [hn] at hb2; injection hb2 with hb2; have := (h.od.lt hb).2; omega
end

set_option maxRecDepth 100000 in
set_option maxHeartbeats 1000000 in
theorem problem37_any (lp la ld : List Int) (Ap Aa Ad : Option Addr) (cp ca cd : Nat) (now : Int) (w : World) (h : RInts w (Old w) [.slice Ap lp.length cp] lp) (h2 : RInts w (Old w) [.slice Aa la.length ca] la) (h3 : RInts w (Old w) [.slice Ad ld.length cd] ld) :
  Calls Try.prog 11 #[.slice Ap lp.length cp, .slice Aa la.length ca, .slice Ad ld.length cd, .int .i64 now] w fun e w' => ∃ v p, e = .returned (.agg (v.cs p)) ∧ RPb w' (Fresh w w') v p ∧ PbMade p ∧ KeepsAll w w' := by
 have H := Lib.hid h
 have H2 := Lib.hid h2
 have H3 := Lib.hid h3
 clear h h2 h3
 go_enter Try.func11, Try.ntmps11
 go_wp2_with fail
 generalize hW0 : World.alloc w _ = W0
 have k0 : KeepsAll w W0 := by subst hW0; exact (Keeps.refl _ _).alloc _
 have hz0 : W0.heap.size = w.heap.size + 1 := by subst hW0; simp
 have hb0 : Blk W0 w.heap.size 25 #[.slice none 0 0, .slice none 0 0, .slice none 0 0, .slice none 0 0, .int .i64 0] := by subst hW0; exact Blk.new _ _ _
 have HB0 := Lib.hid hb0
 have K0 := Lib.hid k0
 clear hW0 hb0 k0
 obtain ⟨z0, hz00⟩ : ∃ z, z = w.heap.size := ⟨_, rfl⟩
 rw [← hz00] at HB0 ⊢
 have hz01 : W0.heap.size ≤ w.heap.size + 1 ∧ w.heap.size + 1 ≤ W0.heap.size ∧ z0 ≤ w.heap.size ∧ w.heap.size ≤ z0 := by omega
 have HZ01 := Lib.hid hz01
 clear hz0 hz00
 refine (Paths_any lp Ap cp W0 (K0.out.rdo' RInts.ok H.out)).mono ?_
 rintro e w1 ⟨v, ps, rfl, rp, hm, k1⟩
 obtain ⟨B, d, rfl⟩ := rp.form
 have HPS := Lib.hid hm
 have RP := Lib.hid rp
 have K1 := Lib.hid (K0.out.tr k1)
 have HB1 := Lib.hid (HB0.out.kept k1 (by simp))
 have HS1 := Lib.hid k1.size
 clear rp hm k1 HB0
 go_wp2_with fail
 refine (Pick_any now 100 _ (by omega) (by omega)).mono ?_
 rintro e w2 ⟨rfl, rfl⟩
 have hpk := pick_range now 100 (by omega)
 generalize pick now 100 = nw at *
 go_wp2_with fail
 generalize hW2 : World.alloc w1 _ = W2
 have k2 : KeepsAll w1 W2 := by subst hW2; exact (Keeps.refl _ _).alloc _
 have hz2 : W2.heap.size = w1.heap.size + 1 := by subst hW2; simp
 have hbx : Blk W2 w1.heap.size 25 #[.slice B ps.length d, .slice none 0 0, .slice none 0 0, .slice none 0 0, .int .i64 nw] := by subst hW2; exact Blk.new _ _ _
 have HBX2 := Lib.hid hbx
 have KK2 := Lib.hid k2
 clear hW2 k2 hbx
 obtain ⟨zx, hzx⟩ : ∃ z, z = w1.heap.size := ⟨_, rfl⟩
 rw [← hzx] at HBX2 ⊢
 have hz21 : W2.heap.size ≤ w1.heap.size + 1 ∧ w1.heap.size + 1 ≤ W2.heap.size ∧ zx ≤ w1.heap.size ∧ w1.heap.size ≤ zx := by omega
 have HZ21 := Lib.hid hz21
 clear hz2 hzx
 have rp2 : RPaths W2 (Old W2) [.slice B ps.length d] ps := KK2.out.rdo' RPaths.ok (RPaths.ok.mono RP.out (fun _ hb => hb.2) (fun _ _ => rfl))
 refine (At_any ps la B Aa d ca W2 rp2 ((K1.out.tr KK2.out).rdo' RInts.ok H2.out) HPS.out.s8 HPS.out.l HPS.out.pl).mono ?_
 rintro e w3 ⟨v, at_, rfl, ra, hg, k3⟩
 obtain ⟨B2, d2, rfl⟩ := RSlice.form ra
 have HG := Lib.hid hg
 have RA := Lib.hid ra
 have HBX3 := Lib.hid (HBX2.out.kept k3 (by simp))
 have K3 := Lib.hid (KK2.out.tr k3)
 have hz3 := k3.size
 have hz1 := K1.out.size
 clear rp2 ra hg k3 HBX2 KK2
 have f1 := HBX3.out.frozen 1
 have x1 := HBX3.out.cell 1
 simp at x1
 have hzx3 := HBX3.out.lt
 go_wp2_with fail
 generalize hW4 : World.setCell w3 _ _ = W4
 have hb4 : Blk W4 zx 25 #[.slice B ps.length d, .slice B2 at_.length d2, .slice none 0 0, .slice none 0 0, .int .i64 nw] := by subst hW4; exact HBX3.out.set_ 1 _
 have hk4 : Keeps (fun b => b = zx) w3 W4 := by subst hW4; exact (Keeps.refl (fun b => b = zx) w3).setCell (p := ⟨zx, 1, none⟩) (fun _ => rfl) _
 have hz4 : W4.heap.size = w3.heap.size := by subst hW4; simp [World.setCell]
 have hz41 : W4.heap.size ≤ w3.heap.size ∧ w3.heap.size ≤ W4.heap.size := by omega
 clear hW4 f1 x1 hz4
 have HB4 := Lib.hid hb4
 have HK4 := Lib.hid hk4
 clear hb4 hk4
 have hk04 : Keeps (fun b => b = zx) w1 W4 := (K3.out.mono (C := fun b => b = zx) (fun _ _ e => e.elim)).trans HK4.out (fun _ _ e => e)
 have RD4 : Hid (RInts W4 (Old w) [.slice Ad ld.length cd] ld) := by
  have hk : KeepsAll w W4 := ⟨hk04.os.trans K1.out.os, hk04.tape.trans K1.out.tape, hk04.output.trans K1.out.output, by have := hk04.size; omega, fun b hb _ => (hk04.block b (by omega) (by show ¬ b = zx; omega)).trans (K1.out.block b hb (by simp))⟩
  exact RInts.ok.mono H3.out (fun _ hb => hb) (fun b hb => hk.block b hb (by simp))
 have RP4 : Hid (RPaths W4 (fun b => w.heap.size + 1 ≤ b ∧ b < W4.heap.size ∧ b ≠ zx) [.slice B ps.length d] ps) := by
  refine RPaths.ok.mono RP.out (fun b hb => ?_) (fun b hb => hk04.block b hb.2 (by show ¬ b = zx; have : b < w1.heap.size := hb.2; omega))
  have h1 : W0.heap.size ≤ b := hb.1
  have h2 : b < w1.heap.size := hb.2
  have h3 := hk04.size
  exact ⟨by omega, by omega, by omega⟩
 have RA4 : Hid (RInts W4 (fun b => w.heap.size + 1 ≤ b ∧ b < W4.heap.size ∧ b ≠ zx) [.slice B2 at_.length d2] at_) := by
  refine RInts.ok.mono RA.out (fun b hb => ?_) (fun b hb => HK4.out.block b hb.2 (by show ¬ b = zx; have : W2.heap.size ≤ b := hb.1; omega))
  have h1 : W2.heap.size ≤ b := hb.1
  have h2 : b < w3.heap.size := hb.2
  exact ⟨by omega, by omega, by omega⟩
 have HB04 : Hid (Blk W4 z0 25 #[.slice none 0 0, .slice none 0 0, .slice none 0 0, .slice none 0 0, .int .i64 0]) := HB1.out.kept hk04 (by show ¬ z0 = zx; have := HB1.out.lt; omega)
 have K04 : Hid (KeepsAll w W4) := ⟨hk04.os.trans K1.out.os, hk04.tape.trans K1.out.tape, hk04.output.trans K1.out.output, by have := hk04.size; omega, fun b hb _ => (hk04.block b (by omega) (by show ¬ b = zx; omega)).trans (K1.out.block b hb (by simp))⟩
 clear hk04 HK4 K3 RA RP HB1 HBX3
 refine (From_src W4 Ad cd ld RD4.out (fun b hb => by have : b < w.heap.size := hb; omega)).mono ?_
 rintro e w5 ⟨rfl, hsrc, k5, hz5⟩
 obtain ⟨g, hgg⟩ : ∃ z, z = W4.heap.size := ⟨_, rfl⟩
 rw [← hgg] at hsrc ⊢
 have HMK : Hid (MkS w w5 w5 zx g (.slice B ps.length d) (.slice B2 at_.length d2) nw (.slice none 0 0) (.slice none 0 0) [] []) :=
  ⟨Keeps.refl _ _, ⟨ld, hsrc⟩, HB4.out.kept k5 (by simp), OwnL.nil, OwnL.nil, fun b hb => by simp [Value.ownBlock] at hb⟩
 have hz51 : w5.heap.size ≤ g + 1 ∧ g + 1 ≤ w5.heap.size ∧ W4.heap.size ≤ g := by omega
 clear hz5 hgg
 obtain ⟨q1, q2, q3, q4⟩ := HZ01.out
 obtain ⟨q5, q6, q7, q8⟩ := HZ21.out
 have q9 := HS1.out
 have HZ : Hid (z0 ≤ w.heap.size ∧ w.heap.size ≤ z0 ∧ z0 < zx ∧ z0 < g ∧ W4.heap.size ≤ g ∧ zx < W4.heap.size) := ⟨by omega, by omega, by omega, by omega, by omega, by omega⟩
 have HW : Hid (w.heap.size ≤ zx ∧ w.heap.size ≤ g ∧ zx ≠ g ∧ zx < w5.heap.size ∧ g < w5.heap.size) := ⟨by omega, by omega, by omega, by omega, by omega⟩
 have hww := HW.out
 have hk5 : KeepsAll W4 w5 := k5
 have HK5 := Lib.hid hk5
 clear HB4 hsrc RD4 k5 hk5
 have x0 := HMK.out.b.cell 0
 simp at x0
 go_wp2
 clear x0
 go_loopw [26] (fun iv wr => ∃ (j : Nat) (vd vw : Value) (l1 l2 : List Int), j ≤ ps.length ∧ iv = .int .i64 (j : Int) ∧ MkS w w5 wr zx g (.slice B ps.length d) (.slice B2 at_.length d2) nw vd vw l1 l2 ∧ l1.length = j ∧ l2.length = j ∧ (∀ x ∈ l1, 0 ≤ x ∧ x < 120) ∧ (∀ x ∈ l2, 0 ≤ x ∧ x < 4)) (fun iv _ => ps.length - (intOf iv).toNat)
 case atStart => exact ⟨0, _, _, [], [], by omega, rfl, HMK.out, rfl, rfl, by simp, by simp⟩
 case round =>
  obtain ⟨j, vd, vw, l1, l2, hj, rfl, hmk, hl1, hl2, hd1, hd2⟩ := hrel
  clear HMK
  have HM := Lib.hid hmk
  have HL1 := Lib.hid (And.intro hl1 hd1)
  have HL2 := Lib.hid (And.intro hl2 hd2)
  have hj3 := HM.out.k.size
  clear hl1 hl2 hd1 hd2
  by_cases hlt : j < ps.length
  ·have hps3 := HPS.out.2.1
   obtain ⟨A5, c5, hvd, hc51, hc52⟩ := hmk.od.form
   obtain ⟨A6, c6, hvw, hc61, hc62⟩ := hmk.ow.form
   subst hvd hvw
   have hl1 := HL1.out.1
   have hl2 := HL2.out.1
   have hl1b : l1.length ≤ 3 := by omega
   have hl2b : l2.length ≤ 3 := by omega
   clear hmk hl1 hl2
   have x2 := HM.out.b.cell 2
   simp at x2
   have hz2r := HM.out.b.lt
   have HX2 : Hid (∀ W, KeepsAll wr W → Calls Try.prog 36 #[.pointer (some ⟨g, 0, none⟩), .int .i64 120] W fun e w' => ∃ x : Int, e = .returned (.int .i64 x) ∧ (0 ≤ x ∧ x < 120) ∧ MkS w w5 w' zx g (.slice B ps.length d) (.slice B2 at_.length d2) nw (.slice A5 l1.length c5) (.slice A6 l2.length c6) l1 l2 ∧ Keeps (· = g) wr w') := fun W hW => by
    have hM := HM.out.keep HW.out hW
    obtain ⟨rs, hs⟩ := hM.src
    have hk := hM.k.size
    have hww := HW.out
    refine (Next_any W (Old w) g rs 120 (by omega) (by omega) hs (fun b hb => by have : b < w.heap.size := hb; omega)).mono ?_
    rintro e w' ⟨rfl, h1, h2, h3⟩
    exact ⟨_, rfl, nextV_range rs 120 (by omega), hM.next HW.out h2 ⟨_, h1⟩, (hW.mono (C := (· = g)) (fun _ _ e => e.elim)).trans h2 (fun _ _ e => e)⟩
   have hzz2 : ¬ ((Value.slice A5 l1.length c5).ownBlock = some zx ∨ zx = g) := fun e => by
    have hww := HW.out
    rcases e with e | e
    ·have := (HM.out.od.lt e).1; omega
    ·exact hww.2.2.1 e
   go_wp2_with fail
   refine wp_region_lex (fun w' => ∃ x : ExtC (fun b => (Value.slice A5 l1.length c5).ownBlock = some b ∨ b = g) wr, w' = x.val) [0, 1, 2, 3, 4, 5, 6, 7] (by kernel_rfl) (by kernel_rfl) (ExtC.start _ _) ?_
   have y2 := ExtC.cell (C := fun b => (Value.slice A5 l1.length c5).ownBlock = some b ∨ b = g) x2 hzz2
   iterate 3 (refine lex_q _ rfl rfl rfl ?_; go_big_quiet_step (fail); refine wpQuiet_nil ?_)
   refine lex_a _ rfl rfl true (by kernel_rfl) ?_
   go_wp2_with fail
   refine (HX2.out _ (Keeps.refl _ _).drew).mono ?_
   rintro e w6 ⟨x, rfl, hx2, hm6, hk6⟩
   have HM6 := Lib.hid hm6
   have HK6 := Lib.hid (hk6.mono (C := fun b => (Value.slice A5 l1.length c5).ownBlock = some b ∨ b = g) (fun _ _ e => .inr e))
   clear hm6 hk6 HX2
   go_wp2
   refine ⟨fun _ => ⟨⟨_, HK6.out⟩, rfl⟩, ?_⟩
   refine lex_a _ rfl rfl true (by kernel_rfl) ?_
   go_wp2
   refine ⟨fun _ => ⟨⟨_, HK6.out.alloc _⟩, rfl⟩, ?_⟩
   generalize hW7 : World.alloc w6 _ = W7
   have k7 : KeepsAll w6 W7 := by subst hW7; exact (Keeps.refl _ _).alloc _
   have HBV : Hid (Blk W7 w6.heap.size 3 [.int .i64 x].toArray) := by subst hW7; exact Blk.new _ _ _
   have HM7 := Lib.hid (HM6.out.keep HW.out k7)
   have HK7 := Lib.hid (HK6.out.trans k7 (fun _ _ e => e.elim))
   have hz7 := HM7.out.k.size
   clear hW7 k7 HM6 HK6
   refine lex_a _ rfl rfl true (by kernel_rfl) ?_
   go_wp2_with (at_builtin; go_loud (refine wpList_append_L tyInt RInt.ok rfl (.tmp 29) (.tmp 32) rfl HM7.out.od rfl _ [.int .i64 x] rfl HBV.out rfl x (S := fun _ => False) rfl (fun _ h => h.elim) (by simp [Value.oneCell']) (by omega) (by omega) hz7 ?_; intro v8 w8 HO8 HK8 HA8; obtain ⟨A8, c8, hv8, hv81, hv82⟩ := HO8.form; rw [List.length_append, List.length_singleton] at hv8; subst hv8))
   have HN1 := Lib.hid (HM7.out.due HW.out HO8 HK8 HA8)
   have K8 := HK7.out.trans HK8 (fun _ _ h => .inl h)
   have bz8 := HM7.out.b.kept HK8 (fun e => hzz2 (.inl e))
   have c82 := bz8.cell 2
   have f82 := bz8.frozen 2
   simp at c82
   refine ⟨fun _ => ⟨⟨_, K8⟩, rfl⟩, ?_⟩
   clear K8 bz8 HO8 HK8 HA8 HM7 HK7 HBV
   refine lex_q _ rfl rfl rfl ?_; go_big_quiet_step (fail); refine wpQuiet_nil ?_
   refine lex_a _ rfl rfl false (by kernel_rfl) ?_
   go_wp2
   (try refine ⟨fun h => (by cases h), ?_⟩)
   simp only [wpLex]
   refine NoPanic.normal ?_
   generalize hW9 : World.setCell w8 _ _ = W9
   rw [hW9] at HN1
   clear hW9 c82 f82 y2 x2 hz7 hv81 hv82
   have x3 := HN1.out.b.cell 3
   simp at x3
   have hz3r := HN1.out.b.lt
   have HX3 : Hid (∀ W, KeepsAll W9 W → Calls Try.prog 36 #[.pointer (some ⟨g, 0, none⟩), .int .i64 4] W fun e w' => ∃ y : Int, e = .returned (.int .i64 y) ∧ (0 ≤ y ∧ y < 4) ∧ MkS w w5 w' zx g (.slice B ps.length d) (.slice B2 at_.length d2) nw (.slice A8 (l1.length + 1) c8) (.slice A6 l2.length c6) (l1 ++ [x]) l2 ∧ Keeps (· = g) W9 w') := fun W hW => by
    have hM := HN1.out.keep HW.out hW
    obtain ⟨rs, hs⟩ := hM.src
    have hk := hM.k.size
    have hww := HW.out
    refine (Next_any W (Old w) g rs 4 (by omega) (by omega) hs (fun b hb => by have : b < w.heap.size := hb; omega)).mono ?_
    rintro e w' ⟨rfl, h1, h2, h3⟩
    exact ⟨_, rfl, nextV_range rs 4 (by omega), hM.next HW.out h2 ⟨_, h1⟩, (hW.mono (C := (· = g)) (fun _ _ e => e.elim)).trans h2 (fun _ _ e => e)⟩
   have hzz3 : ¬ ((Value.slice A6 l2.length c6).ownBlock = some zx ∨ zx = g) := fun e => by
    have hww := HW.out
    rcases e with e | e
    ·have := (HN1.out.ow.lt e).1; omega
    ·exact hww.2.2.1 e
   go_wp2_with fail
   refine wp_region_lex (fun w' => ∃ x : ExtC (fun b => (Value.slice A6 l2.length c6).ownBlock = some b ∨ b = g) W9, w' = x.val) [0, 1, 2, 3, 4, 5, 6, 7] (by kernel_rfl) (by kernel_rfl) (ExtC.start _ _) ?_
   have y3 := ExtC.cell (C := fun b => (Value.slice A6 l2.length c6).ownBlock = some b ∨ b = g) x3 hzz3
   iterate 3 (refine lex_q _ rfl rfl rfl ?_; go_big_quiet_step (fail); refine wpQuiet_nil ?_)
   refine lex_a _ rfl rfl true (by kernel_rfl) ?_
   go_wp2_with fail
   refine (HX3.out _ (Keeps.refl _ _).drew).mono ?_
   rintro e w6b ⟨y, rfl, hx3, hm6, hk6⟩
   have HM6 := Lib.hid hm6
   have HK6 := Lib.hid (hk6.mono (C := fun b => (Value.slice A6 l2.length c6).ownBlock = some b ∨ b = g) (fun _ _ e => .inr e))
   clear hm6 hk6 HX3
   go_wp2
   refine ⟨fun _ => ⟨⟨_, HK6.out⟩, rfl⟩, ?_⟩
   refine lex_a _ rfl rfl true (by kernel_rfl) ?_
   go_wp2
   refine ⟨fun _ => ⟨⟨_, HK6.out.alloc _⟩, rfl⟩, ?_⟩
   generalize hW7 : World.alloc w6b _ = W7
   have k7 : KeepsAll w6b W7 := by subst hW7; exact (Keeps.refl _ _).alloc _
   have HBV : Hid (Blk W7 w6b.heap.size 3 [.int .i64 y].toArray) := by subst hW7; exact Blk.new _ _ _
   have HM7 := Lib.hid (HM6.out.keep HW.out k7)
   have HK7 := Lib.hid (HK6.out.trans k7 (fun _ _ e => e.elim))
   have hz7 := HM7.out.k.size
   clear hW7 k7 HM6 HK6
   refine lex_a _ rfl rfl true (by kernel_rfl) ?_
   go_wp2_with (at_builtin; go_loud (refine wpList_append_L tyInt RInt.ok rfl (.tmp 36) (.tmp 39) rfl HM7.out.ow rfl _ [.int .i64 y] rfl HBV.out rfl y (S := fun _ => False) rfl (fun _ h => h.elim) (by simp [Value.oneCell']) (by omega) (by omega) hz7 ?_; intro v8 w8b HO8 HK8 HA8; obtain ⟨A9, c9, hv8, hv81, hv82⟩ := HO8.form; rw [List.length_append, List.length_singleton] at hv8; subst hv8))
   have HN2 := Lib.hid (HM7.out.wgt HW.out HO8 HK8 HA8)
   have K8 := HK7.out.trans HK8 (fun _ _ h => .inl h)
   have bz8 := HM7.out.b.kept HK8 (fun e => hzz3 (.inl e))
   have c83 := bz8.cell 3
   have f83 := bz8.frozen 3
   simp at c83
   refine ⟨fun _ => ⟨⟨_, K8⟩, rfl⟩, ?_⟩
   clear K8 bz8 HO8 HK8 HA8 HM7 HK7 HBV
   refine lex_q _ rfl rfl rfl ?_; go_big_quiet_step (fail); refine wpQuiet_nil ?_
   refine lex_a _ rfl rfl false (by kernel_rfl) ?_
   go_wp2
   (try refine ⟨fun h => (by cases h), ?_⟩)
   simp only [wpLex]
   refine NoPanic.normal ?_
   generalize hW9 : World.setCell w8b _ _ = W9b
   rw [hW9] at HN2
   clear hW9 c83 f83 y3 x3 hz7 hv81 hv82
   go_wp2
   go_roundw
   case rel => exact ⟨j + 1, _, _, _, _, by omega, by go_num, HN2.out, by rw [List.length_append, HL1.out.1]; rfl, by rw [List.length_append, HL2.out.1]; rfl, fun q hq => by (rcases List.mem_append.1 hq with hq | hq; exact HL1.out.2 q hq; simp at hq; subst hq; exact hx2), fun q hq => by (rcases List.mem_append.1 hq with hq | hq; exact HL2.out.2 q hq; simp at hq; subst hq; exact hx3)⟩
   case measure => simp [intOf]; omega
  ·obtain rfl : j = ps.length := by omega
   obtain ⟨A5, c5, hvd, hc51, hc52⟩ := hmk.od.form
   obtain ⟨A6, c6, hvw, hc61, hc62⟩ := hmk.ow.form
   subst hvd hvw
   have hww := HW.out
   obtain ⟨q1, q2, q3, q4, q5, q6⟩ := HZ.out
   have hkk := HM.out.k
   have hW4 : W4.heap.size ≤ w5.heap.size := HK5.out.size
   have hz04 : z0 < W4.heap.size := HB04.out.lt
   have hbz : Blk wr z0 25 #[.slice none 0 0, .slice none 0 0, .slice none 0 0, .slice none 0 0, .int .i64 0] := (HB04.out.kept HK5.out (by simp)).kept hkk (fun e => by rcases e with e | e <;> omega)
   have x0 := HM.out.b.cell 0
   have x1 := HM.out.b.cell 1
   have x2 := HM.out.b.cell 2
   have x3 := HM.out.b.cell 3
   have x4 := HM.out.b.cell 4
   simp at x0 x1 x2 x3 x4
   have c0 := hbz.cell 0
   have c1 := hbz.cell 1
   have c2 := hbz.cell 2
   have c3 := hbz.cell 3
   have c4 := hbz.cell 4
   simp at c0 c1 c2 c3 c4
   have e0 := hbz.frozen 0
   have e1 := hbz.frozen 1
   have e2 := hbz.frozen 2
   have e3 := hbz.frozen 3
   have e4 := hbz.frozen 4
   have hzr := hbz.lt
   have hzxr := HM.out.b.lt
   have hne : z0 ≠ zx := by omega
   have HBZ := Lib.hid hbz
   have hP : Hid (∀ W, Keeps (fun b => b = z0) wr W → RPb W (Fresh w W) ⟨B, d, B2, d2, A5, c5, A6, c6⟩ ⟨ps, at_, l1, l2, nw⟩ ∧ KeepsAll w W) := fun W hW => by
    have hs1 := hkk.size
    have hs2 := hW.size
    have hk1 : ∀ b, b < W4.heap.size → b ≠ zx → b ≠ z0 → W.heap[b]? = W4.heap[b]? := fun b hb h1 h2 => by
     rw [hW.block b (by omega) h2, hkk.block b (by omega) (fun e => by rcases e with e | e <;> omega), HK5.out.block b hb (by simp)]
    refine ⟨⟨?_, ?_, ?_, ?_⟩, ?_⟩
    ·exact RPaths.ok.mono RP4.out (fun b hb => ⟨by omega, by omega⟩) (fun b hb => hk1 b hb.2.1 hb.2.2 (by omega))
    ·exact RInts.ok.mono RA4.out (fun b hb => ⟨by omega, by omega⟩) (fun b hb => hk1 b hb.2.1 hb.2.2 (by omega))
    ·have h1 := HM.out.od.readF RInt.ok RInt.flat (S := fun b => w5.heap.size ≤ b ∧ b < wr.heap.size) (fun b hb => HM.out.od.lt hb)
     exact RInts.ok.mono h1 (fun b hb => ⟨by omega, by omega⟩) (fun b hb => hW.block b hb.2 (by show ¬ b = z0; omega))
    ·have h1 := HM.out.ow.readF RInt.ok RInt.flat (S := fun b => w5.heap.size ≤ b ∧ b < wr.heap.size) (fun b hb => HM.out.ow.lt hb)
     exact RInts.ok.mono h1 (fun b hb => ⟨by omega, by omega⟩) (fun b hb => hW.block b hb.2 (by show ¬ b = z0; omega))
    ·have h1 := K04.out.tr HK5.out
     have h2 : KeepsAll w wr := h1.trans hkk (fun b hb e => by rcases e with e | e <;> omega)
     exact h2.trans hW (fun b hb e => by have e : b = z0 := e; omega)
   have HPM : Hid (PbMade ⟨ps, at_, l1, l2, nw⟩) := ⟨HPS.out, HG.out, HL1.out.1, HL2.out.1, HL1.out.2, HL2.out.2, hpk⟩
   clear hmk hkk hbz HB04 RP4 RA4 K04 HK5
   go_wp2
   generalize hW3 : World.setCell (World.setCell (World.setCell (World.setCell (World.setCell wr _ _) _ _) _ _) _ _) _ _ = W3
   have HB3 : Blk W3 z0 25 #[.slice B ps.length d, .slice B2 at_.length d2, .slice A5 l1.length c5, .slice A6 l2.length c6, .int .i64 nw] := by
    subst hW3; exact ((((HBZ.out.set_ 0 _).set_ 1 _).set_ 2 _).set_ 3 _).set_ 4 _
   have K3 : Keeps (fun b => b = z0) wr W3 := by
    subst hW3; exact (((((Keeps.refl (fun b => b = z0) wr).setCell (p := ⟨z0, 0, none⟩) (fun _ => rfl) _).setCell (p := ⟨z0, 1, none⟩) (fun _ => rfl) _).setCell (p := ⟨z0, 2, none⟩) (fun _ => rfl) _).setCell (p := ⟨z0, 3, none⟩) (fun _ => rfl) _).setCell (p := ⟨z0, 4, none⟩) (fun _ => rfl) _
   have HPP := Lib.hid (hP.out W3 K3)
   clear hW3 c0 c1 c2 c3 c4
   have c0 := HB3.cell 0
   have c1 := HB3.cell 1
   have c2 := HB3.cell 2
   have c3 := HB3.cell 3
   have c4 := HB3.cell 4
   simp at c0 c1 c2 c3 c4
   exact bodyPost_ret (v := .agg #[.slice B ps.length d, .slice B2 at_.length d2, .slice A5 l1.length c5, .slice A6 l2.length c6, .int .i64 nw]) (by simp [results, Try.results11, go_sem, c0, c1, c2, c3, c4]) rfl ⟨_, _, rfl, HPP.out.1, HPM.out, HPP.out.2⟩

end Go.Proofs.Ytilbbpbjhoidhaa
