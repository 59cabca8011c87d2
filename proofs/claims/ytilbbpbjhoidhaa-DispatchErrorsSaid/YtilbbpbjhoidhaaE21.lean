/- Contract of Cost of chapter 37. Conditions: as each theorem says. Contract of cost of the graph of chapter 37. Conditions: as each theorem says. Contract of enter of the graph of chapter 37. Conditions: as each theorem says. -/
import Derived.Test.YtilbbpbjhoidhaaE20
namespace Go.Proofs.Ytilbbpbjhoidhaa
open Go.RowKit

def secOk (x : Int) : Bool := decide (-1 ≤ x) && decide (x ≤ 4294967296)
def enOk (p : Pb) (en : List (List Int)) (t : Nat) : Bool := match en[t]? with
 | some r => decide (r.length = lenAt p.ps t + 1) && r.all secOk
 | none => false
def lastOf (p : Pb) (en : List (List Int)) (t : Nat) : Int := (((en[t]?).getD [])[lenAt p.ps t]?).getD 0
def costEn (p : Pb) (en : List (List Int)) : Nat → Int
 | 0 => 0
 | t + 1 => costEn p en t + lateP p t (lastOf p en t)
def costE (p : Pb) (en : List (List Int)) : Int := if (checkP p && decide (en.length = p.ps.length) && (List.range p.ps.length).all (enOk p en)) = true then costEn p en p.ps.length else 0
theorem costE_yes {p : Pb} {en : List (List Int)} (h1 : checkP p = true) (h2 : en.length = p.ps.length) (h3 : ∀ t, t < p.ps.length → enOk p en t = true) : costE p en = costEn p en p.ps.length := by
 unfold costE
 rw [if_pos]
 simp only [Bool.and_eq_true, decide_eq_true_eq, List.all_eq_true, List.mem_range]
 exact ⟨⟨h1, h2⟩, h3⟩
theorem costE_no {p : Pb} {en : List (List Int)} (h : checkP p = false ∨ en.length ≠ p.ps.length ∨ ∃ t, t < p.ps.length ∧ enOk p en t = false) : costE p en = 0 := by
 unfold costE
 rw [if_neg]
 simp only [Bool.and_eq_true, decide_eq_true_eq, List.all_eq_true, List.mem_range]
 rintro ⟨⟨h1, h2⟩, h3⟩
 rcases h with h | h | ⟨t, ht, h⟩
 ·rw [h1] at h; cases h
 ·exact h h2
 ·rw [h3 t ht] at h; cases h
structure PbOk (p : Pb) : Prop where
 d : ∀ t, t < p.ps.length → 0 ≤ nowAt p.due t ∧ nowAt p.due t ≤ 16777216
 w : ∀ t, t < p.ps.length → 0 ≤ nowAt p.wgt t ∧ nowAt p.wgt t ≤ 1048576
 l : p.due.length = p.ps.length ∧ p.wgt.length = p.ps.length
 n : 0 ≤ p.now ∧ p.now ≤ 4194304
 v : valid p.ps = true
theorem nowAt_mem {l : List Int} {t : Nat} (h : t < l.length) : nowAt l t ∈ l := by
 rw [nowAt_of (List.getElem?_eq_getElem h)]; exact List.getElem_mem h
theorem checkP_ok {p : Pb} (h : checkP p = true) : PbOk p := by
 obtain ⟨h1, h2, h3, h4, h5, h6, h7⟩ := checkP_iff.1 h
 exact ⟨fun t ht => h4 _ (nowAt_mem (by omega)), fun t ht => h5 _ (nowAt_mem (by omega)), ⟨h2, h3⟩, ⟨h6, h7⟩, checkState_valid h1⟩
theorem lateP_bd {p : Pb} (h : PbOk p) {t : Nat} (ht : t < p.ps.length) {x : Int} (hx : x ≤ 4294967296) : 0 ≤ lateP p t x ∧ lateP p t x ≤ 4503599627370496 := by
 have h1 := h.d t ht
 have h2 := h.w t ht
 unfold lateP
 split
 ·omega
 ·exact ⟨Int.mul_nonneg (by omega) (by omega), Int.le_trans (Int.mul_le_mul h2.2 (show x - nowAt p.due t ≤ 4294967296 by omega) (by omega) (by omega)) (by omega)⟩
theorem costEn_bd {p : Pb} (h : PbOk p) {en : List (List Int)} : ∀ n, n ≤ p.ps.length → (∀ t, t < n → lastOf p en t ≤ 4294967296) → 0 ≤ costEn p en n ∧ costEn p en n ≤ 4503599627370496 * (n : Int)
 | 0, _, _ => by simp [costEn]
 | n + 1, hn, hx => by
  have h1 := costEn_bd h n (by omega) (fun t ht => hx t (by omega))
  have h2 := lateP_bd h (t := n) (by omega) (hx n (by omega))
  unfold costEn
  omega
theorem enOk_last {p : Pb} {en : List (List Int)} {t : Nat} (h : enOk p en t = true) : -1 ≤ lastOf p en t ∧ lastOf p en t ≤ 4294967296 := by
 unfold enOk at h
 unfold lastOf
 cases e : en[t]? with
 | none => rw [e] at h; cases h
 | some r =>
  rw [e] at h
  simp only [Bool.and_eq_true, decide_eq_true_eq, List.all_eq_true, secOk] at h
  have hk : r[lenAt p.ps t]? = some r[lenAt p.ps t] := List.getElem?_eq_getElem (by omega)
  simp only [Option.getD_some, hk]
  exact h.2 _ (List.mem_of_getElem? hk)
theorem late_ext {W : World} (x : Ext W) (p : Pb) (v : PV) (h : RPb W (Old W) v p) (t : Nat) (y : Int) (ht : t < p.due.length) (ht2 : t < p.wgt.length) (hd : 0 ≤ nowAt p.due t ∧ nowAt p.due t ≤ 16777216) (hw : 0 ≤ nowAt p.wgt t ∧ nowAt p.wgt t ≤ 1048576) (hx : -1 ≤ y ∧ y ≤ 4294967296) :
  Calls Try.prog 76 #[.agg (v.cs p), .int .i64 (t : Int), .int .i64 y] x.val fun e w' => e = .returned (.int .i64 (lateP p t y)) ∧ ∃ z : Ext W, w' = z.val :=
 ext_call x (late_any p v x.val (h.kept x.keeps) t y ht ht2 hd hw hx)

set_option maxRecDepth 100000 in
set_option maxHeartbeats 1000000 in
theorem DspCost_any (p : Pb) (v : PV) (w : World) (h : RPb w (Old w) v p) (en : List (List Int)) (A : Option Addr) (c : Nat) (hE : RIntss w (Old w) [.slice A en.length c] en) :
  Calls Try.prog 55 #[.agg (v.cs p), .slice A en.length c] w fun e w' => e = .returned (.int .i64 (costE p en)) ∧ KeepsAll w w' := by
 have KB : KeepsAll w (w.alloc (.cells #[.slice v.A p.ps.length v.c, .slice v.A2 p.at_.length v.c2, .slice v.A3 p.due.length v.c3, .slice v.A4 p.wgt.length v.c4, .int .i64 p.now] 25)) := (Keeps.refl _ _).alloc _
 have BB : Hid (Blk (w.alloc (.cells #[.slice v.A p.ps.length v.c, .slice v.A2 p.at_.length v.c2, .slice v.A3 p.due.length v.c3, .slice v.A4 p.wgt.length v.c4, .int .i64 p.now] 25)) w.heap.size 25 (v.cs p)) := Blk.new _ _ _
 have CALL : Hid (∀ Q : Ending → World → Prop, (∀ w1, KeepsAll w w1 → Blk w1 w.heap.size 25 (v.cs p) → Q (.returned (.bool (checkP p))) w1) → Calls Try.prog 37 #[.agg #[.slice v.A p.ps.length v.c, .slice v.A2 p.at_.length v.c2, .slice v.A3 p.due.length v.c3, .slice v.A4 p.wgt.length v.c4, .int .i64 p.now]] (w.alloc (.cells #[.slice v.A p.ps.length v.c, .slice v.A2 p.at_.length v.c2, .slice v.A3 p.due.length v.c3, .slice v.A4 p.wgt.length v.c4, .int .i64 p.now] 25)) Q) := Lib.hid fun Q hQ => (DspCheck_any p v _ (h.kept KB)).mono (by rintro e w1 ⟨rfl, k1⟩; exact hQ w1 (KB.tr k1) (BB.out.kept k1 (by simp)))
 have H := Lib.hid h
 have HE := Lib.hid hE
 clear h hE KB BB
 have hcs : Hid (v.cs p = #[.slice v.A p.ps.length v.c, .slice v.A2 p.at_.length v.c2, .slice v.A3 p.due.length v.c3, .slice v.A4 p.wgt.length v.c4, .int .i64 p.now]) := Lib.hid rfl
 rw [hcs.out]
 cases g0 : checkP p with
 | false =>
  have QQ := Lib.hid (costE_no (en := en) (.inl g0))
  go_enter Try.func55, Try.ntmps55
  go_wp2_with fail
  refine CALL.out _ fun w1 k1 hb => ?_
  rw [g0]
  have K1 := Lib.hid k1
  clear k1 hb g0
  go_wp2
  go_ret
  exact ⟨by rw [QQ.out]; rfl, K1.out⟩
 | true =>
  have HO := Lib.hid (checkP_ok g0)
  have hps10 := (valid_lens HO.out.v).1
  by_cases g1 : en.length = p.ps.length
  ·have g1' : ((en.length : Int) != (p.ps.length : Int)) = false := by rw [g1]; simp
   have G1 := Lib.hid g1
   have G0 := Lib.hid g0
   go_enter Try.func55, Try.ntmps55
   go_wp2_with fail
   refine CALL.out _ fun w1 k1 hb => ?_
   rw [g0]
   have K1 := Lib.hid k1
   have H1 := Lib.hid (H.out.kept k1)
   have HE1 := Lib.hid (k1.rdo' (RSlice.ok RInts.ok) HE.out)
   have HB := Lib.hid hb
   rw [hcs.out] at hb
   have c0 := hb.cell 0
   simp at c0
   have hz := hb.lt
   clear k1 hb g0 g1
   generalize w.heap.size = z at *
   go_wp2
   go_loopw [24, 5] (fun i sm wr => ∃ k : Nat, k ≤ p.ps.length ∧ i = .int .i64 (k : Int) ∧ sm = .int .i64 (costEn p en k) ∧ KeepsAll w1 wr ∧ (∀ t, t < k → enOk p en t = true)) (fun i _ _ => p.ps.length - (intOf i).toNat)
   case atStart => exact ⟨0, by omega, rfl, rfl, Keeps.refl _ _, fun t ht => by omega⟩
   case round =>
    obtain ⟨k, hk, rfl, rfl, kr, hall⟩ := hrel
    have KR := Lib.hid kr
    have HALL := Lib.hid hall
    have hbd := costEn_bd HO.out k hk (fun t ht => (enOk_last (hall t ht)).2)
    clear hall
    by_cases hlt : k < p.ps.length
    ·have hlt' : decide (k < p.ps.length) = true := decide_eq_true hlt
     obtain ⟨bp, op, l, Al, cl, hAp, hbp, hpl, p0, _⟩ := RSS.atK kr H1.out.P hlt
     obtain ⟨be, oe, r, Ar, cr, hAe, hbe, her, e0, hrr⟩ := RSS.atK kr HE1.out (show k < en.length by rw [G1.out]; exact hlt)
     have hll : lenAt p.ps k = l.length := by unfold lenAt; rw [hpl]; rfl
     have hvc : v.A = some ⟨bp, op, none⟩ := hAp
     have HLL := Lib.hid hll
     have HER := Lib.hid her
     have HRR := Lib.hid (kr.rdo' RInts.ok hrr)
     have hl64 := ((valid_lens HO.out.v).2 l (List.mem_of_getElem? hpl)).2
     have hke : k < en.length := by rw [G1.out]; exact hlt
     have HBR := Lib.hid (HB.out.kept kr (by simp))
     have H1R := Lib.hid (H1.out.kept kr)
     subst hAe
     rw [hvc]
     clear hpl hll her hrr c0 hAp hvc
     have EN : Hid (enOk p en k = (decide (r.length = l.length + 1) && r.all secOk)) := by
      show _ = _
      unfold enOk
      rw [HER.out, ← HLL.out]
     by_cases g3 : r.length = l.length + 1
     ·have g3' : ((r.length : Int) != (l.length : Int) + 1) = false := by rw [g3]; simp
      have G3 := Lib.hid g3
      clear g3
      go_wp2
      go_loop [43] (fun i => ∃ m : Nat, m ≤ r.length ∧ i = .int .i64 (m : Int) ∧ (∀ x ∈ r.take m, secOk x = true)) (fun i => r.length - (intOf i).toNat)
      case atStart => exact ⟨0, by omega, rfl, by simp⟩
      case round =>
       obtain ⟨m, hm, rfl, hsec⟩ := hrel
       have HSEC := Lib.hid hsec
       clear hsec
       by_cases hlt2 : m < r.length
       ·have hlt2' : decide (m < r.length) = true := decide_eq_true hlt2
        obtain ⟨b4, o4, x, hA4, _, hx, x0⟩ := HRR.out.at_ hlt2
        subst hA4
        have HX := Lib.hid hx
        clear hx
        have hbad : Hid (secOk x = false → costE p en = 0) := Lib.hid fun hs => costE_no (.inr (.inr ⟨k, hlt, by
         rw [EN.out]
         rw [Bool.and_eq_false_iff]
         right
         rw [List.all_eq_false]
         exact ⟨x, List.mem_of_getElem? HX.out, by rw [hs]; simp⟩⟩))
        by_cases q1 : x < -1
        ·have q1' : decide (x < -1) = true := decide_eq_true q1
         have QQ := Lib.hid (hbad.out (by unfold secOk; rw [decide_eq_false (show ¬ -1 ≤ x by omega)]; rfl))
         go_wp2
         go_ret
         exact ⟨by rw [QQ.out]; rfl, K1.out.tr KR.out⟩
        ·have q1' : decide (x < -1) = false := decide_eq_false q1
         by_cases q2 : x > 4294967296
         ·have q2' : decide (x > 4294967296) = true := decide_eq_true q2
          have QQ := Lib.hid (hbad.out (by unfold secOk; rw [decide_eq_false (show ¬ x ≤ 4294967296 by omega)]; simp))
          go_wp2
          go_ret
          exact ⟨by rw [QQ.out]; rfl, K1.out.tr KR.out⟩
         ·have q2' : decide (x > 4294967296) = false := decide_eq_false q2
          have HS2 : Hid (∀ y ∈ r.take (m + 1), secOk y = true) := Lib.hid fun y hy => by
           rw [List.take_add_one, HX.out] at hy
           rcases List.mem_append.1 hy with hy | hy
           ·exact HSEC.out y hy
           ·simp at hy
            subst hy
            unfold secOk
            rw [decide_eq_true (show -1 ≤ y by omega), decide_eq_true (show y ≤ 4294967296 by omega)]; rfl
          have hr65 : r.length ≤ 65 := by rw [G3.out]; omega
          go_wp2
          go_round
          case rel => exact ⟨m + 1, by omega, by go_num, HS2.out⟩
          case measure => simp [intOf]; omega
       ·have hlt2' : decide (m < r.length) = false := decide_eq_false hlt2
        obtain rfl : m = r.length := by omega
        have hok : enOk p en k = true := by
         rw [EN.out, decide_eq_true G3.out, Bool.true_and, List.all_eq_true]
         have := HSEC.out
         rwa [List.take_length] at this
        have HOK := Lib.hid hok
        have hlast := enOk_last hok
        have hlx : lastOf p en k = (r[l.length]?).getD 0 := by unfold lastOf; rw [HER.out, HLL.out]; rfl
        obtain ⟨b4, o4, x, hA4, hb4, hx, x0⟩ := HRR.out.at_ (k := l.length) (by rw [G3.out]; omega)
        subst hA4
        rw [hx] at hlx
        have hlx : lastOf p en k = x := hlx
        rw [hlx] at hlast
        have HLX := Lib.hid hlx
        have hb4' : b4 < wr.heap.size := hb4
        have hrl : l.length < r.length := by rw [G3.out]; omega
        have hd1 := HO.out.d k hlt
        have hd2 := HO.out.w k hlt
        have hlb := lateP_bd HO.out hlt hlast.2
        have hkd : k < p.due.length := by rw [HO.out.l.1]; exact hlt
        have hkw : k < p.wgt.length := by rw [HO.out.l.2]; exact hlt
        have hbr := HBR.out
        rw [hcs.out] at hbr
        have b0 := hbr.cell 0
        have b1 := hbr.cell 1
        have b2 := hbr.cell 2
        have b3 := hbr.cell 3
        have b5 := hbr.cell 4
        simp at b0 b1 b2 b3 b5
        clear hok hx hlx hbr
        go_wp2
        refine wp_region_ext (by kernel_rfl) (by kernel_rfl) ?_
        have y0 := Ext.cell b0
        have y1 := Ext.cell b1
        have y2 := Ext.cell b2
        have y3 := Ext.cell b3
        have y5 := Ext.cell b5
        have ye := Ext.cell e0
        have yx := Ext.cell x0
        have hLX := fun X : Ext wr => late_ext X p v H1R.out k x hkd hkw hd1 hd2 hlast
        rw [hcs.out] at hLX
        have HLX2 := Lib.hid hLX
        clear hLX
        have hw9 : IntKind.i64.wrap (costEn p en k + lateP p k x) = costEn p en k + lateP p k x := IntWalk.i64_in _ (by omega)
        repeat (go_big_quiet_step ((go_at_call 76; exact HLX2.out _)))
        refine wpQuiet_nil ?_
        rintro _ ⟨X, rfl⟩
        have KX := Lib.hid (KR.out.tr X.keeps)
        have HSUM : Hid (costEn p en (k + 1) = costEn p en k + lateP p k x) := by show _ = _; rw [← HLX.out]; rfl
        have HALL2 : Hid (∀ t, t < k + 1 → enOk p en t = true) := Lib.hid fun t ht => by
         by_cases e : t = k
         ·subst e; exact HOK.out
         ·exact HALL.out t (by omega)
        clear y0 y1 y2 y3 y5 ye yx hw9 e0 x0 b0 b1 b2 b3 b5
        generalize X.val = W4 at *
        go_wp2
        go_roundw
        case rel => exact ⟨k + 1, by omega, by go_num, by rw [HSUM.out], KX.out, HALL2.out⟩
        case measure => simp [intOf]; omega
     ·have g3' : ((r.length : Int) != (l.length : Int) + 1) = true := by simp; omega
      have QQ := Lib.hid (costE_no (.inr (.inr ⟨k, hlt, by rw [EN.out, decide_eq_false g3]; rfl⟩)))
      clear g3
      go_wp2
      go_ret
      exact ⟨by rw [QQ.out]; rfl, K1.out.tr KR.out⟩
    ·have hlt' : decide (k < p.ps.length) = false := decide_eq_false hlt
     obtain rfl : k = p.ps.length := by omega
     have QQ := Lib.hid (costE_yes G0.out G1.out HALL.out)
     clear kr
     go_wp2
     go_ret
     exact ⟨by rw [QQ.out]; rfl, K1.out.tr KR.out⟩
  ·have g1' : ((en.length : Int) != (p.ps.length : Int)) = true := by simp; omega
   have QQ := Lib.hid (costE_no (p := p) (en := en) (.inr (.inl g1)))
   go_enter Try.func55, Try.ntmps55
   go_wp2_with fail
   refine CALL.out _ fun w1 k1 hb => ?_
   rw [g0]
   have K1 := Lib.hid k1
   rw [hcs.out] at hb
   have c0 := hb.cell 0
   simp at c0
   clear k1 hb g0 g1
   go_wp2
   go_ret
   exact ⟨by rw [QQ.out]; rfl, K1.out⟩

def GS.pb (s : GS) (due wgt : List Int) : Pb := ⟨s.ps, s.at_, due, wgt, s.now⟩
structure GSP (s : GS) (w0 : World) (v : PV) (due wgt : List Int) : Prop where
 vp : s.vp = .slice v.A s.ps.length v.c
 va : s.va = .slice v.A2 s.at_.length v.c2
 vd : s.vd = .slice v.A3 due.length v.c3
 vw : s.vw = .slice v.A4 wgt.length v.c4
 r : RPb w0 (Old w0) v (s.pb due wgt)
theorem Gm.first {s : GS} {w0 wr : World} {d : GD} (h : Gm s w0 wr d) {t : Nat} (ht : t < s.ps.length) : ∃ bf cf, s.fv = .slice (some ⟨bf, 0, none⟩) s.ps.length cf ∧ bf < wr.heap.size ∧ wr.cell? ⟨bf, t, none⟩ = some (.int .i64 (fst s.ps t : Int)) := by
 obtain ⟨Af, cf, hfv, _, _⟩ := h.f.form
 obtain ⟨bf, rfl, _⟩ := (hfv ▸ h.f : OwnL 3 1 RInt wr w0.heap.size w0.heap.size (.slice Af (firsts s.ps).length cf) (firsts s.ps)).some_ (by rw [firsts_len]; omega)
 have h1 : OwnL 3 1 RInt wr w0.heap.size w0.heap.size (.slice (some ⟨bf, 0, none⟩) (firsts s.ps).length cf) (firsts s.ps) := by rw [← hfv]; exact h.f
 obtain ⟨b, o, x, hA, _, hx, c0⟩ := RInts.at_ (h1.readF RInt.ok RInt.flat (S := fun _ => True) (fun _ _ => trivial)) (k := t) (by rw [firsts_len]; exact ht)
 injection hA with hA
 injection hA with e1 e2
 subst e1 e2
 rw [firsts_at ht] at hx
 injection hx with hx
 subst hx
 rw [Nat.zero_add] at c0
 exact ⟨bf, cf, by rw [hfv, firsts_len], World.block_lt_of_cell? wr ⟨bf, t, none⟩ c0, c0⟩
theorem Gm.path {s : GS} {w0 wr : World} {d : GD} (h : Gm s w0 wr d) {A : Option Addr} {c : Nat} (hv : s.vp = .slice A s.ps.length c) {t : Nat} {p : List Stage} (hp : s.ps[t]? = some p) : ∃ b o A' c', A = some ⟨b, o, none⟩ ∧ b < wr.heap.size ∧ wr.cell? ⟨b, o + t, none⟩ = some (.slice A' p.length c') ∧ RPath wr (Old w0) [.slice A' p.length c'] p := by
 have hP := h.P
 rw [hv] at hP
 obtain ⟨b, o, x, A', c', hA, _, hx, c0, hr⟩ := RSS.at_ hP (getElem?_lt hp)
 rw [hp] at hx
 injection hx with hx
 subst hx
 exact ⟨b, o, A', c', hA, World.block_lt_of_cell? wr ⟨b, o + t, none⟩ c0, c0, hr⟩
theorem GSP.rpb {s : GS} {w0 wr : World} {d : GD} {v : PV} {due wgt : List Int} (hsp : GSP s w0 v due wgt) (h : Gm s w0 wr d) : RPb wr (Old wr) v (s.pb due wgt) := hsp.r.kept h.k
def secT (T : LTab) : Tab := fun u => (T u).sec
theorem costT_bd {p : Pb} (h : PbOk p) {T : Tab} (hT : ∀ u, -1 ≤ T u ∧ T u ≤ 4294967296) : ∀ n, n ≤ p.ps.length → 0 ≤ costT p T n ∧ costT p T n ≤ 4503599627370496 * (n : Int)
 | 0, _ => by simp [costT]
 | n + 1, hn => by
  have h1 := costT_bd h hT n (by omega)
  have h2 := lateP_bd h (t := n) (by omega) (hT ⟨(n : Int), (lenAt p.ps n : Int)⟩).2
  unfold costT
  omega

set_option maxRecDepth 100000 in
set_option maxHeartbeats 1000000 in
theorem gcost_any (s : GS) (w0 w : World) (d : GD) (v : PV) (due wgt : List Int) (hsp : GSP s w0 v due wgt) (hp : PbOk (s.pb due wgt)) (h : Gm s w0 w d) (hT : ∀ u, -1 ≤ (d.T u).sec ∧ (d.T u).sec ≤ 4294967296) :
  Calls Try.prog 63 #[.pointer (some ⟨s.gb, 0, none⟩)] w fun e w' => e = .returned (.int .i64 (costT (s.pb due wgt) (secT d.T) s.ps.length)) ∧ KeepsAll w w' := by
 have hpb : ∃ p, p = s.pb due wgt := ⟨_, rfl⟩
 obtain ⟨p, hpe⟩ := hpb
 rw [← hpe] at hp ⊢
 have hps : p.ps = s.ps := by rw [hpe]; rfl
 have H := Lib.hid h
 have HP := Lib.hid hp
 have HSP := Lib.hid hsp
 have HPE := Lib.hid hpe
 have hps10 := (valid_lens (by rw [← hps]; exact hp.v : valid s.ps = true)).1
 have hbs := costT_bd hp (T := secT d.T) (fun u => hT u)
 rw [hps] at hbs
 have HBS := Lib.hid hbs
 have HPS := Lib.hid hps
 have c0 := h.c0
 rw [hsp.vp] at c0
 have hgz := h.b.lt
 have HT := Lib.hid hT
 clear h hsp hbs hpe hps hT
 go_enter Try.func63, Try.ntmps63
 go_wp2
 go_loopw [12, 3] (fun i sm wr => ∃ k : Nat, k ≤ s.ps.length ∧ i = .int .i64 (k : Int) ∧ sm = .int .i64 (costT p (secT d.T) k) ∧ KeepsAll w wr) (fun i _ _ => s.ps.length - (intOf i).toNat)
 case atStart => exact ⟨0, by omega, rfl, rfl, Keeps.refl _ _⟩
 case round =>
  obtain ⟨k, hk, rfl, rfl, kr⟩ := hrel
  have KR := Lib.hid kr
  by_cases hlt : k < s.ps.length
  ·have hlt' : decide (k < s.ps.length) = true := decide_eq_true hlt
   have hr := H.out.keep kr
   have HR := Lib.hid hr
   obtain ⟨l, hpl⟩ : ∃ l, s.ps[k]? = some l := ⟨_, List.getElem?_eq_getElem hlt⟩
   obtain ⟨bp, op, Al, cl, hAp, hbp, p0, _⟩ := hr.path HSP.out.vp hpl
   have hll : lenAt p.ps k = l.length := by unfold lenAt; rw [HPS.out, hpl]; rfl
   have hl64 := ((valid_lens (HPS.out ▸ HP.out.v : valid s.ps = true)).2 l (List.mem_of_getElem? hpl)).2
   have hev : (evs s.ps)[fst s.ps k + l.length]? = some ⟨(k : Int), (l.length : Int)⟩ := evs_at hpl (Nat.le_refl _)
   have hfn : fst s.ps k + l.length < s.n := getElem?_lt hev
   have hn650 : s.n ≤ 650 := by
    have h2 := fst_le (fun p hp => ((valid_lens (HPS.out ▸ HP.out.v : valid s.ps = true)).2 p hp).2) s.ps.length (Nat.le_refl _)
    rw [fst_len] at h2
    show (evs s.ps).length ≤ 650
    omega
   obtain ⟨bf, cf, hfv, hbf, f0⟩ := hr.first hlt
   have c5 := hr.c5
   rw [hfv] at c5
   have c7 := hr.c7
   have l0 := hr.lab hev 0 _ rfl
   rw [Nat.add_zero] at l0
   simp [labC] at l0
   have c0 := hr.c0
   rw [HSP.out.vp] at c0
   have c1 := hr.b.cell 1
   have c2 := hr.b.cell 2
   have c3 := hr.b.cell 3
   have c4 := hr.b.cell 4
   simp at c1 c2 c3 c4
   rw [HSP.out.va] at c1
   rw [HSP.out.vd] at c2
   rw [HSP.out.vw] at c3
   have hgr := hr.b.lt
   have hlr := hr.l.lt
   have hbd := HBS.out k hk
   have hx := HT.out ⟨(k : Int), (l.length : Int)⟩
   have hlb := lateP_bd HP.out (t := k) (by rw [HPS.out]; exact hlt) hx.2
   have hLX := fun X : Ext wr => late_ext X p v (by rw [HPE.out]; exact HSP.out.rpb HR.out) k (d.T ⟨(k : Int), (l.length : Int)⟩).sec (by rw [HP.out.l.1, HPS.out]; exact hlt) (by rw [HP.out.l.2, HPS.out]; exact hlt) (HP.out.d k (by rw [HPS.out]; exact hlt)) (HP.out.w k (by rw [HPS.out]; exact hlt)) hx
   unfold PV.cs at hLX
   have hSUM : Hid (costT p (secT d.T) (k + 1) = costT p (secT d.T) k + lateP p k (d.T ⟨(k : Int), (l.length : Int)⟩).sec) := by show costT p (secT d.T) k + lateP p k (secT d.T ⟨(k : Int), (lenAt p.ps k : Int)⟩) = _; rw [hll]; rfl
   have hA1 : p.at_ = s.at_ := by rw [HPE.out]; rfl
   have hA2 : p.due = due := by rw [HPE.out]; rfl
   have hA3 : p.wgt = wgt := by rw [HPE.out]; rfl
   have hA4 : p.now = s.now := by rw [HPE.out]; rfl
   rw [HPS.out, hA1, hA2, hA3, hA4] at hLX
   have HLX := Lib.hid hLX
   generalize (d.T ⟨(k : Int), (l.length : Int)⟩).sec = x at *
   have hw9 : IntKind.i64.wrap (costT p (secT d.T) k + lateP p k x) = costT p (secT d.T) k + lateP p k x := IntWalk.i64_in _ (by omega)
   rw [hAp] at c0 HLX ⊢
   clear hr hpl hll hev hfv hLX hA1 hA2 hA3 hA4 kr
   go_wp2
   refine wp_region_ext (by kernel_rfl) (by kernel_rfl) ?_
   have y0 := Ext.cell c0
   have y1 := Ext.cell c1
   have y2 := Ext.cell c2
   have y3 := Ext.cell c3
   have y4 := Ext.cell c4
   have y5 := Ext.cell c5
   have y7 := Ext.cell c7
   have yl := Ext.cell l0
   have yf := Ext.cell f0
   repeat (go_big_quiet_step ((go_at_call 76; exact HLX.out _)))
   refine wpQuiet_nil ?_
   rintro _ ⟨X, rfl⟩
   have KX := Lib.hid (KR.out.tr X.keeps)
   clear y0 y1 y2 y3 y4 y5 y7 yl yf hw9 c0 c1 c2 c3 c4 c5 c7 l0 f0 p0
   generalize X.val = W4 at *
   go_wp2
   go_roundw
   case rel => exact ⟨k + 1, by omega, by go_num, by rw [hSUM.out], KX.out⟩
   case measure => simp [intOf]; omega
  ·have hlt' : decide (k < s.ps.length) = false := decide_eq_false hlt
   obtain rfl : k = s.ps.length := by omega
   clear kr
   go_wp2
   go_ret
   exact ⟨rfl, KR.out⟩

theorem mkRowsI (n : Nat) (hn : n ≤ 1000000) (W : World) : (Instr.makeSlice 29 (.int .i64 (n : Int)) (.int .i64 (n : Int))).run Try.prog W = .ok (.slice (some ⟨W.heap.size, 0, none⟩) n n) (W.alloc (.cells (List.replicate n (Value.slice none 0 0)).toArray 22)) := by
 have h := run_make_row' (P := Try.prog) 29 22 (.slice none 0 0) 24 Try.underlying29 (by kernel_rfl) rfl .i64 .i64 n (by omega) (by omega) W
 rw [madeCells_one] at h; exact h
def tabTo (ps : List (List Stage)) (T : Tab) (t k : Nat) : List (List Int) := (List.range ps.length).map fun u => if u < t then rowOf ps T u else if u = t then (rowOf ps T u).take k else []
theorem tabTo_len (ps : List (List Stage)) (T : Tab) (t k : Nat) : (tabTo ps T t k).length = ps.length := by simp [tabTo]
theorem tabTo_at {ps : List (List Stage)} {T : Tab} {t k u : Nat} (hu : u < ps.length) : (tabTo ps T t k)[u]? = some (if u < t then rowOf ps T u else if u = t then (rowOf ps T u).take k else []) := by
 unfold tabTo; rw [List.getElem?_map, List.getElem?_range hu]; rfl
theorem tabTo_push {ps : List (List Stage)} {T : Tab} {t k : Nat} (ht : t < ps.length) (hk : k ≤ lenAt ps t) : (tabTo ps T t k).set t ((rowOf ps T t).take k ++ [T ⟨(t : Int), (k : Int)⟩]) = tabTo ps T t (k + 1) := by
 apply List.ext_getElem?
 intro u
 rw [List.getElem?_set]
 by_cases hu : u < ps.length
 ·rw [tabTo_at hu, tabTo_at hu]
  by_cases e : t = u
  ·subst e
   rw [if_pos rfl, if_pos (by rw [tabTo_len]; exact ht), if_neg (by omega), if_pos rfl, List.take_add_one, rowOf_at T hk]
   rfl
  ·rw [if_neg e]
   by_cases g : u < t
   ·rw [if_pos g, if_pos g]
   ·rw [if_neg g, if_neg g, if_neg (fun h => e h.symm), if_neg (fun h => e h.symm)]
 ·have h1 : (tabTo ps T t k)[u]? = none := List.getElem?_eq_none (by rw [tabTo_len]; omega)
  have h2 : (tabTo ps T t (k + 1))[u]? = none := List.getElem?_eq_none (by rw [tabTo_len]; omega)
  rw [h1, h2, if_neg (by omega)]
theorem tabTo_next {ps : List (List Stage)} {T : Tab} {t : Nat} : tabTo ps T t (lenAt ps t + 1) = tabTo ps T (t + 1) 0 := by
 unfold tabTo
 refine List.map_congr_left fun u _ => ?_
 by_cases g : u < t
 ·rw [if_pos g, if_pos (by omega)]
 ·rw [if_neg g]
  by_cases e : u = t
  ·subst e; rw [if_pos rfl, if_pos (by omega), ← rowOf_len ps T u, List.take_length]
  ·rw [if_neg e, if_neg (by omega)]; split <;> simp
theorem tabTo_zero (ps : List (List Stage)) (T : Tab) : tabTo ps T 0 0 = List.replicate ps.length [] := by
 unfold tabTo
 rw [List.eq_replicate_iff]
 refine ⟨by simp, fun x hx => ?_⟩
 obtain ⟨u, _, rfl⟩ := List.mem_map.1 hx
 rw [if_neg (by omega)]; split <;> simp
theorem tabTo_all (ps : List (List Stage)) (T : Tab) : tabTo ps T ps.length 0 = tabOf ps T := by
 unfold tabTo tabOf
 refine List.map_congr_left fun u hu => ?_
 rw [if_pos (List.mem_range.1 hu)]
structure EnS (w wr : World) (vs : List Value) (ll : List (List Int)) : Prop where
 rows : Rows 22 3 1 RInt wr (w.heap.size + 1) w.heap.size vs ll
 k : KeepsAll w wr
 sz : w.heap.size + 1 ≤ wr.heap.size
theorem EnS.keep {w wr w' : World} {vs : List Value} {ll : List (List Int)} (h : EnS w wr vs ll) (k : KeepsAll wr w') : EnS w w' vs ll := ⟨h.rows.keeps RInt.flat k (by simp) (by simp), h.k.tr k, Nat.le_trans h.sz k.size⟩
theorem EnS.push {w wr w' : World} {vs : List Value} {ll : List (List Int)} (h : EnS w wr vs ll) {i : Nat} {v v' : Value} {l l' : List Int} (hv : vs[i]? = some v) (hl : ll[i]? = some l) (ho : OwnL 3 1 RInt w' (w.heap.size + 1) (w.heap.size + 1) v' l') (hk : Keeps (fun b => v.ownBlock = some b) wr w') (hn : v'.ownBlock = v.ownBlock ∨ v'.ownBlock = some wr.heap.size) :
  EnS w (w'.setCell ⟨w.heap.size, i, none⟩ v') (vs.set i v') (ll.set i l') := by
 have hL : ∀ b, v.ownBlock = some b → w.heap.size + 1 ≤ b := fun b hb => ((h.rows.own i v l hv hl).lt hb).1
 refine ⟨h.rows.push RInt.flat hv hl h.sz ho hk hn, ?_, ?_⟩
 ·have h1 : Keeps (fun b => w.heap.size ≤ b) wr (w'.setCell ⟨w.heap.size, i, none⟩ v') := (hk.mono (C := fun b => w.heap.size ≤ b) (fun b _ e => by have := hL b e; show w.heap.size ≤ b; omega)).setCell (p := ⟨w.heap.size, i, none⟩) (fun _ => Nat.le_refl _) _
  exact h.k.trans h1 (fun b hb e => by have e : w.heap.size ≤ b := e; omega)
 ·have := hk.size
  have h2 := h.sz
  simp only [World.setCell, Array.size_modify]
  omega

set_option maxRecDepth 100000 in
set_option maxHeartbeats 1000000 in
theorem genter_any (s : GS) (w0 w : World) (d : GD) (v : PV) (due wgt : List Int) (hsp : GSP s w0 v due wgt) (hp : PbOk (s.pb due wgt)) (h : Gm s w0 w d) :
  Calls Try.prog 53 #[.pointer (some ⟨s.gb, 0, none⟩)] w fun e w' => ∃ A, e = .returned (.slice A s.ps.length s.ps.length) ∧ RIntss w' (Fresh w w') [.slice A s.ps.length s.ps.length] (tabOf s.ps (secT d.T)) ∧ KeepsAll w w' := by
 have H := Lib.hid h
 have HSP := Lib.hid hsp
 have hvs : valid s.ps = true := hp.v
 have HV := Lib.hid hvs
 have hps10 := (valid_lens hvs).1
 have hn650 : s.n ≤ 650 := by
  have h2 := fst_le (fun p hp => ((valid_lens hvs).2 p hp).2) s.ps.length (Nat.le_refl _)
  rw [fst_len] at h2
  show (evs s.ps).length ≤ 650
  omega
 have c0 := h.c0
 rw [hsp.vp] at c0
 have hgz := h.b.lt
 have hmk := mkRowsI s.ps.length (by omega)
 clear h hsp hvs hp
 go_enter Try.func53, Try.ntmps53
 go_wp2
 generalize hW : World.alloc w _ = W
 have hE0 : EnS w W (List.replicate s.ps.length (.slice none 0 0)) (tabTo s.ps (secT d.T) 0 0) := by
  subst hW
  rw [tabTo_zero]
  exact ⟨Rows.new _ (Blk.new _ _ _) (Nat.lt_succ_self _), (Keeps.refl _ _).alloc _, by simp⟩
 have HE0 := Lib.hid hE0
 clear hW hE0 hmk
 go_loopw [20] (fun i wr => ∃ (k : Nat) (vs : List Value), k ≤ s.ps.length ∧ i = .int .i64 (k : Int) ∧ EnS w wr vs (tabTo s.ps (secT d.T) k 0)) (fun i _ => s.ps.length - (intOf i).toNat)
 case atStart => exact ⟨0, _, by omega, rfl, HE0.out⟩
 case round =>
  obtain ⟨t, vs, hk, rfl, he⟩ := hrel
  have HE := Lib.hid he
  by_cases hlt : t < s.ps.length
  ·have hlt' : decide (t < s.ps.length) = true := decide_eq_true hlt
   have hr := H.out.keep he.k
   obtain ⟨l, hpl⟩ : ∃ l, s.ps[t]? = some l := ⟨_, List.getElem?_eq_getElem hlt⟩
   obtain ⟨bp, op, Al, cl, hAp, hbp, p0, _⟩ := hr.path HSP.out.vp hpl
   have hll : lenAt s.ps t = l.length := by unfold lenAt; rw [hpl]; rfl
   have hl64 := ((valid_lens HV.out).2 l (List.mem_of_getElem? hpl)).2
   have HPL := Lib.hid hpl
   have HLL := Lib.hid hll
   obtain ⟨bf, cf, hfv, hbf, f0⟩ := H.out.first hlt
   have HFV := Lib.hid hfv
   have hbf' := World.block_lt_of_cell? w ⟨bf, t, none⟩ f0
   rw [hAp]
   clear hr hpl hll he hfv
   go_wp2
   go_loopw [28] (fun i wr => ∃ (m : Nat) (vs : List Value), m ≤ l.length + 1 ∧ i = .int .i64 (m : Int) ∧ EnS w wr vs (tabTo s.ps (secT d.T) t m)) (fun i _ => l.length + 1 - (intOf i).toNat)
   case atStart => exact ⟨0, vs, by omega, rfl, HE.out⟩
   case round =>
    obtain ⟨m, vs, hm, rfl, he⟩ := hrel
    have HEM := Lib.hid he
    by_cases hlt2 : m < l.length + 1
    ·have hlt2' : decide ((m : Int) < (l.length : Int) + 1) = true := by simp; omega
     have hr := H.out.keep he.k
     have hev : (evs s.ps)[fst s.ps t + m]? = some ⟨(t : Int), (m : Int)⟩ := evs_at HPL.out (by omega)
     have hfn : fst s.ps t + m < s.n := getElem?_lt hev
     have c5 := hr.c5
     rw [HFV.out] at c5
     have c7 := hr.c7
     have l0 := hr.lab hev 0 _ rfl
     rw [Nat.add_zero] at l0
     simp [labC] at l0
     have f0r := he.k.cellK (p := ⟨bf, t, none⟩) hbf' f0
     obtain ⟨vr, lr, hvr, hlr, hown, hcell, hfrz⟩ := he.rows.get (i := t) (by rw [tabTo_len]; exact hlt)
     obtain ⟨Ar, cr, rfl, hcr, hcr2⟩ := hown.form
     have hlr2 : lr = (rowOf s.ps (secT d.T) t).take m := by
      rw [tabTo_at hlt, if_neg (by omega), if_pos rfl] at hlr
      injection hlr with hlr; exact hlr.symm
     have hlrl : lr.length = m := by rw [hlr2, List.length_take, rowOf_len, HLL.out]; omega
     have hpush : Hid ((tabTo s.ps (secT d.T) t m).set t (lr ++ [(d.T ⟨(t : Int), (m : Int)⟩).sec]) = tabTo s.ps (secT d.T) t (m + 1)) := by
      show _ = _
      rw [hlr2]; exact tabTo_push hlt (by rw [HLL.out]; omega)
     have HVR := Lib.hid hvr
     have HLR := Lib.hid hlr
     have HOWN := Lib.hid hown
     have hsz := he.sz
     have FAR : Hid (∀ b, b < w.heap.size + 1 → ¬ ((Value.slice Ar lr.length cr).ownBlock = some b)) := fun b hb e => by have := HOWN.out.lt e; omega
     have hgb : s.gb < w.heap.size + 1 := by have := H.out.b.lt; omega
     have hlb : s.lb < w.heap.size + 1 := by have := H.out.l.lt; omega
     have hbf2 : bf < w.heap.size + 1 := by omega
     have hBr : w.heap.size < wr.heap.size := by omega
     have hblk := Lib.hid he.rows.blk
     rw [hlrl] at hcell
     generalize (d.T ⟨(t : Int), (m : Int)⟩).sec = x at *
     have hw9 : IntKind.i64.wrap ((fst s.ps t : Int) + (m : Int)) = (fst s.ps t : Int) + (m : Int) := IntWalk.i64_in _ (by omega)
     clear hvr hlr hown hr hev hlr2 he
     rw [hlrl] at FAR HVR HOWN
     have hlr65 : lr.length ≤ 65 := by omega
     clear hlrl
     go_wp2
     refine wp_region_lex (fun w' => ∃ x : ExtC (fun b => (Value.slice Ar m cr).ownBlock = some b) wr, w' = x.val) [0, 1, 2, 3, 4, 5, 6, 7, 8, 9, 10, 11, 12, 13, 14, 15, 16, 17, 18, 19, 20, 21, 22, 23, 24, 25] (by kernel_rfl) (by kernel_rfl) (ExtC.start _ _) ?_
     have x5 := ExtC.cell (C := fun b => (Value.slice Ar m cr).ownBlock = some b) c5 (FAR.out _ hgb)
     have x7 := ExtC.cell (C := fun b => (Value.slice Ar m cr).ownBlock = some b) c7 (FAR.out _ hgb)
     have xl := ExtC.cell (C := fun b => (Value.slice Ar m cr).ownBlock = some b) l0 (FAR.out _ hlb)
     have xf := ExtC.cell (C := fun b => (Value.slice Ar m cr).ownBlock = some b) f0r (FAR.out _ hbf2)
     have xr := ExtC.cell (C := fun b => (Value.slice Ar m cr).ownBlock = some b) hcell (FAR.out _ (Nat.lt_succ_self _))
     iterate 7 (refine lex_q _ rfl rfl rfl ?_; go_big_quiet_step (fail); refine wpQuiet_nil ?_)
     refine lex_nil _ rfl _ rfl rfl _ rfl ?_; go_simp
     iterate 3 (refine lex_q _ rfl rfl rfl ?_; go_big_quiet_step (fail); refine wpQuiet_nil ?_)
     refine lex_nil _ rfl _ rfl rfl _ rfl ?_; go_simp
     iterate 10 (refine lex_q _ rfl rfl rfl ?_; go_big_quiet_step (fail); refine wpQuiet_nil ?_)
     refine lex_a _ rfl rfl true (by kernel_rfl) ?_
     go_wp2
     refine ⟨fun _ => ⟨⟨_, ((Keeps.refl _ _).alloc _).drew⟩, rfl⟩, ?_⟩
     generalize hWb : World.drew (World.alloc wr _) = Wb
     have KB : KeepsAll wr Wb := by subst hWb; exact ((Keeps.refl _ _).alloc _).drew
     have HBX : Hid (Blk Wb wr.heap.size 3 [.int .i64 x].toArray) := by subst hWb; exact Blk.new wr _ _
     have HEB := Lib.hid (HEM.out.keep KB)
     have HOB := Lib.hid (HOWN.out.keeps RInt.ok KB (fun _ _ h => h.elim))
     have hzb := HEB.out.sz
     have KB2 := Lib.hid KB
     clear hWb KB
     refine lex_a _ rfl rfl true (by kernel_rfl) ?_
     go_wp2_with (at_builtin; go_loud (refine wpList_append_L tyInt RInt.ok rfl (.tmp 36) (.tmp 53) rfl HOB.out rfl _ [.int .i64 x] rfl HBX.out rfl x (S := fun _ => False) rfl (fun _ h => h.elim) (by simp [Value.oneCell']) (by omega) (by omega) hzb ?_; intro v5 w5 HO5 HK5 HA5; obtain ⟨A5, c5', hv5, hv51, hv52⟩ := HO5.form; rw [List.length_append, List.length_singleton] at hv5; subst hv5))
     have HPU := HEB.out.push HVR.out HLR.out HO5 HK5 HA5
     rw [hpush.out] at HPU
     have HPU' := Lib.hid HPU
     clear HPU
     have K5 : Keeps (fun b => (Value.slice Ar m cr).ownBlock = some b) wr w5 := (KB2.out.mono (fun _ _ h => h.elim)).trans HK5 (fun _ _ h => h)
     have hc5 : w5.cell? ⟨w.heap.size, t, none⟩ = some (.slice Ar m cr) := (K5.cell (p := ⟨w.heap.size, t, none⟩) hBr (FAR.out _ (Nat.lt_succ_self _))).trans hcell
     have hf5 : w5.frozen? ⟨w.heap.size, t, none⟩ = false := (hblk.out.kept K5 (FAR.out _ (Nat.lt_succ_self _))).frozen t
     refine ⟨fun _ => ⟨⟨_, K5⟩, rfl⟩, ?_⟩
     clear K5 HO5 HK5 HA5
     refine lex_q _ rfl rfl rfl ?_; go_big_quiet_step (fail); refine wpQuiet_nil ?_
     refine lex_a _ rfl rfl false (by kernel_rfl) ?_
     go_wp2
     (try refine ⟨fun h => (by cases h), ?_⟩)
     simp only [wpLex]
     refine NoPanic.normal ?_
     generalize hWc : World.setCell w5 _ _ = Wc
     rw [hWc] at HPU'
     clear hWc hc5 hf5 x5 x7 xl xf xr hv51 hv52 HEB HOB HBX KB2 hzb
     go_wp2
     go_roundw
     case rel => exact ⟨m + 1, _, by omega, by go_num, HPU'.out⟩
     case measure => simp [intOf]; omega
    ·have hlt2' : decide ((m : Int) < (l.length : Int) + 1) = false := by simp; omega
     obtain rfl : m = l.length + 1 := by omega
     have HN : Hid (EnS w wr vs (tabTo s.ps (secT d.T) (t + 1) 0)) := by
      show EnS _ _ _ _
      rw [← tabTo_next, HLL.out]; exact HEM.out
     clear he
     go_wp2
     go_roundw
     case rel => exact ⟨t + 1, vs, by omega, by go_num, HN.out⟩
     case measure => simp [intOf]; omega
  ·have hlt' : decide (t < s.ps.length) = false := decide_eq_false hlt
   obtain rfl : t = s.ps.length := by omega
   clear he
   go_wp2
   go_ret
   refine ⟨_, rfl, ?_, HE.out.k⟩
   have h1 := HE.out.rows
   rw [tabTo_all] at h1
   have h2 := h1.read RInt.ok RInt.flat (S := Fresh w _) (by rw [tabOf_len]; omega) ⟨Nat.le_refl _, HE.out.sz⟩ (fun b hb hb2 => ⟨by omega, hb2⟩)
   rw [tabOf_len] at h2
   exact h2

end Go.Proofs.Ytilbbpbjhoidhaa
