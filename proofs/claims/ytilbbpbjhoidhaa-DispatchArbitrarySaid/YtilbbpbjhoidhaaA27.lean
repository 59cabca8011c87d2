/- Contracts of lateness and Check of chapter 37. Conditions: as each theorem says. Contract of Cost of chapter 37. Conditions: as each theorem says. -/
import Derived.Test.YtilbbpbjhoidhaaA17
import Derived.Test.YtilbbpbjhoidhaaA26
import Derived.Test.YtilbbpbjhoidhaaA07
namespace Go.Proofs.Ytilbbpbjhoidhaa
open Go.RowKit

/-- a problem's four slices as values -/
structure PV where
 A : Option Addr
 c : Nat
 A2 : Option Addr
 c2 : Nat
 A3 : Option Addr
 c3 : Nat
 A4 : Option Addr
 c4 : Nat
def PV.cs (v : PV) (p : Pb) : Array Value := #[.slice v.A p.ps.length v.c, .slice v.A2 p.at_.length v.c2, .slice v.A3 p.due.length v.c3, .slice v.A4 p.wgt.length v.c4, .int .i64 p.now]
/-- a problem in memory -/
structure RPb (w : World) (S : Foot) (v : PV) (p : Pb) : Prop where
 P : RPaths w S [.slice v.A p.ps.length v.c] p.ps
 A : RInts w S [.slice v.A2 p.at_.length v.c2] p.at_
 D : RInts w S [.slice v.A3 p.due.length v.c3] p.due
 W : RInts w S [.slice v.A4 p.wgt.length v.c4] p.wgt
theorem RPb.kept {a b : World} {v : PV} {p : Pb} (h : RPb a (Old a) v p) (k : KeepsAll a b) : RPb b (Old b) v p := ⟨k.rdo' RPaths.ok h.P, k.rdo' RInts.ok h.A, k.rdo' RInts.ok h.D, k.rdo' RInts.ok h.W⟩

set_option maxHeartbeats 1000000 in
theorem late_any (p : Pb) (v : PV) (w : World) (h : RPb w (Old w) v p) (t : Nat) (x : Int) (ht : t < p.due.length) (ht2 : t < p.wgt.length) (hd : 0 ≤ nowAt p.due t ∧ nowAt p.due t ≤ 16777216) (hw : 0 ≤ nowAt p.wgt t ∧ nowAt p.wgt t ≤ 1048576) (hx : -1 ≤ x ∧ x ≤ 4294967296) :
  Calls Try.prog 76 #[.agg (v.cs p), .int .i64 (t : Int), .int .i64 x] w fun e w' => e = .returned (.int .i64 (lateP p t x)) ∧ KeepsAll w w' := by
 obtain ⟨b3, o3, d, hA3, hb3, hdx, c3⟩ := h.D.at_ ht
 obtain ⟨b4, o4, g, hA4, hb4, hgx, c4⟩ := h.W.at_ ht2
 have e1 : nowAt p.due t = d := nowAt_of hdx
 have e2 : nowAt p.wgt t = g := nowAt_of hgx
 rw [e1] at hd
 rw [e2] at hw
 have Q : Hid (lateP p t x = if x < d then 0 else g * (x - d)) := by show _ = _; unfold lateP; rw [e1, e2]
 have hb3' : b3 < w.heap.size := hb3
 have hb4' : b4 < w.heap.size := hb4
 unfold PV.cs
 rw [hA3, hA4]
 clear e1 e2 hdx hgx h hA3 hA4 hb3 hb4
 by_cases g0 : x < d
 ·have g0' : decide (x < d) = true := decide_eq_true g0
  rw [if_pos g0] at Q
  go_enter Try.func76, Try.ntmps76
  go_wp2
  go_ret
  exact ⟨by rw [Q.out]; rfl, (Keeps.refl _ _).alloc _⟩
 ·have g0' : decide (x < d) = false := decide_eq_false g0
  rw [if_neg g0] at Q
  have hw1 : IntKind.i64.wrap (x - d) = x - d := IntWalk.i64_in _ (by omega)
  have hm : 0 ≤ g * (x - d) ∧ g * (x - d) ≤ 1048576 * 4294967296 := ⟨Int.mul_nonneg (by omega) (by omega), Int.mul_le_mul (by omega) (by omega) (by omega) (by omega)⟩
  have hw2 : IntKind.i64.wrap (g * (x - d)) = g * (x - d) := IntWalk.i64_in _ (by omega)
  clear hm
  go_enter Try.func76, Try.ntmps76
  go_wp2
  go_quiet (fail)
  go_wp2
  go_ret
  exact ⟨by rw [Q.out]; rfl, ((Keeps.refl _ _).alloc _).drewN _⟩

theorem checkState_valid {ps : List (List Stage)} {at_ : List Int} (h : checkState ps at_ = 0) : valid ps = true := by
 unfold checkState at h
 by_cases g : (valid ps && good ps at_) = false
 ·rw [if_pos g] at h; cases h
 ·rw [Bool.not_eq_false, Bool.and_eq_true] at g; exact g.1
theorem checkP_iff {p : Pb} : checkP p = true ↔ checkState p.ps p.at_ = 0 ∧ p.due.length = p.ps.length ∧ p.wgt.length = p.ps.length ∧ (∀ x ∈ p.due, 0 ≤ x ∧ x ≤ 16777216) ∧ (∀ x ∈ p.wgt, 0 ≤ x ∧ x ≤ 1048576) ∧ 0 ≤ p.now ∧ p.now ≤ 4194304 := by
 unfold checkP
 simp only [Bool.and_eq_true, decide_eq_true_eq, List.all_eq_true]
 constructor
 ·rintro ⟨⟨⟨⟨⟨⟨h1, h2⟩, h3⟩, h4⟩, h5⟩, h6⟩, h7⟩; exact ⟨h1, h2, h3, h4, h5, h6, h7⟩
 ·rintro ⟨h1, h2, h3, h4, h5, h6, h7⟩; exact ⟨⟨⟨⟨⟨⟨h1, h2⟩, h3⟩, h4⟩, h5⟩, h6⟩, h7⟩

set_option maxHeartbeats 1000000 in
theorem DspCheck_any (p : Pb) (v : PV) (w : World) (h : RPb w (Old w) v p) :
  Calls Try.prog 37 #[.agg (v.cs p)] w fun e w' => e = .returned (.bool (checkP p)) ∧ KeepsAll w w' := by
 have HC := Lib.hid (fun W (hW : KeepsAll w W) => DCheck_any p.ps p.at_ v.A v.A2 v.c v.c2 W (h.kept hW).P (h.kept hW).A)
 have H := Lib.hid h
 clear h
 unfold PV.cs
 have KB : KeepsAll w (w.alloc (.cells #[.slice v.A p.ps.length v.c, .slice v.A2 p.at_.length v.c2, .slice v.A3 p.due.length v.c3, .slice v.A4 p.wgt.length v.c4, .int .i64 p.now] 25)) := (Keeps.refl _ _).alloc _
 have KBH := Lib.hid KB
 have BB : Hid (Blk (w.alloc (.cells #[.slice v.A p.ps.length v.c, .slice v.A2 p.at_.length v.c2, .slice v.A3 p.due.length v.c3, .slice v.A4 p.wgt.length v.c4, .int .i64 p.now] 25)) w.heap.size 25 #[.slice v.A p.ps.length v.c, .slice v.A2 p.at_.length v.c2, .slice v.A3 p.due.length v.c3, .slice v.A4 p.wgt.length v.c4, .int .i64 p.now]) := Blk.new _ _ _
 have CALL : Hid (∀ Q : Ending → World → Prop, (∀ w1, KeepsAll w w1 → Blk w1 w.heap.size 25 #[.slice v.A p.ps.length v.c, .slice v.A2 p.at_.length v.c2, .slice v.A3 p.due.length v.c3, .slice v.A4 p.wgt.length v.c4, .int .i64 p.now] → Q (.returned (.int .i64 (checkState p.ps p.at_))) w1) → Calls Try.prog 66 #[.slice v.A p.ps.length v.c, .slice v.A2 p.at_.length v.c2] (w.alloc (.cells #[.slice v.A p.ps.length v.c, .slice v.A2 p.at_.length v.c2, .slice v.A3 p.due.length v.c3, .slice v.A4 p.wgt.length v.c4, .int .i64 p.now] 25)) Q) := Lib.hid fun Q hQ => (HC.out _ KBH.out).mono (by rintro e w1 ⟨rfl, k1⟩; exact hQ w1 (KBH.out.tr k1) (BB.out.kept k1 (by simp)))
 clear KB
 by_cases g0 : checkState p.ps p.at_ = 0
 ·by_cases g1 : p.due.length = p.ps.length
  ·by_cases g2 : p.wgt.length = p.ps.length
   ·have G := Lib.hid (And.intro g0 (And.intro g1 g2))
    have g1' : ((p.due.length : Int) != (p.ps.length : Int)) = false := by rw [g1]; simp
    have g2' : ((p.wgt.length : Int) != (p.ps.length : Int)) = false := by rw [g2]; simp
    clear g1 g2
    go_enter Try.func37, Try.ntmps37
    go_wp2_with fail
    refine CALL.out _ fun w1 k1 hb => ?_
    rw [g0]
    clear g0
    have K1 := Lib.hid k1
    have HB := Lib.hid hb
    have H1 := Lib.hid (H.out.kept k1)
    have c0 := hb.cell 0
    have c1 := hb.cell 1
    have c2 := hb.cell 2
    have c3 := hb.cell 3
    have c4 := hb.cell 4
    have hz := hb.lt
    simp at c0 c1 c2 c3 c4
    clear k1 hb
    generalize w.heap.size = z at *
    have hps10 := (valid_lens (checkState_valid G.out.1)).1
    go_wp2
    go_loop [31] (fun i => ∃ k : Nat, k ≤ p.ps.length ∧ i = .int .i64 (k : Int) ∧ (∀ x ∈ p.due.take k, 0 ≤ x ∧ x ≤ 16777216) ∧ (∀ x ∈ p.wgt.take k, 0 ≤ x ∧ x ≤ 1048576)) (fun i => p.ps.length - (intOf i).toNat)
    case atStart => exact ⟨0, by omega, rfl, by simp, by simp⟩
    case round =>
     obtain ⟨k, hk, rfl, hr1, hr2⟩ := hrel
     have HR := Lib.hid (And.intro hr1 hr2)
     clear hr1 hr2
     by_cases hlt : k < p.ps.length
     ·have hlt' : decide (k < p.ps.length) = true := decide_eq_true hlt
      have hkd : k < p.due.length := by rw [G.out.2.1]; exact hlt
      have hkw : k < p.wgt.length := by rw [G.out.2.2]; exact hlt
      obtain ⟨b3, o3, d, hA3, _, hdx, d3⟩ := H1.out.D.at_ hkd
      obtain ⟨b4, o4, g, hA4, _, hgx, d4⟩ := H1.out.W.at_ hkw
      rw [hA3] at c2
      rw [hA4] at c3
      have BAD : Hid (¬ (0 ≤ d ∧ d ≤ 16777216 ∧ 0 ≤ g ∧ g ≤ 1048576) → checkP p = false) := Lib.hid fun hn => by
       cases e : checkP p with
       | false => rfl
       | true =>
        have h1 := (checkP_iff.1 e).2.2.2.1 d (List.mem_of_getElem? hdx)
        have h2 := (checkP_iff.1 e).2.2.2.2.1 g (List.mem_of_getElem? hgx)
        exact absurd ⟨h1.1, h1.2, h2.1, h2.2⟩ hn
      have HX := Lib.hid (And.intro hdx hgx)
      clear hdx hgx hA3 hA4
      by_cases q1 : d < 0
      ·have q1' : decide (d < 0) = true := decide_eq_true q1
       have QQ := Lib.hid (BAD.out (by omega))
       go_wp2
       go_ret
       exact ⟨by rw [QQ.out]; rfl, K1.out⟩
      ·have q1' : decide (d < 0) = false := decide_eq_false q1
       by_cases q2 : d > 16777216
       ·have q2' : decide (d > 16777216) = true := decide_eq_true q2
        have QQ := Lib.hid (BAD.out (by omega))
        go_wp2
        go_ret
        exact ⟨by rw [QQ.out]; rfl, K1.out⟩
       ·have q2' : decide (d > 16777216) = false := decide_eq_false q2
        by_cases q3 : g < 0
        ·have q3' : decide (g < 0) = true := decide_eq_true q3
         have QQ := Lib.hid (BAD.out (by omega))
         go_wp2
         go_ret
         exact ⟨by rw [QQ.out]; rfl, K1.out⟩
        ·have q3' : decide (g < 0) = false := decide_eq_false q3
         by_cases q4 : g > 1048576
         ·have q4' : decide (g > 1048576) = true := decide_eq_true q4
          have QQ := Lib.hid (BAD.out (by omega))
          go_wp2
          go_ret
          exact ⟨by rw [QQ.out]; rfl, K1.out⟩
         ·have q4' : decide (g > 1048576) = false := decide_eq_false q4
          have HN : Hid ((∀ x ∈ p.due.take (k + 1), 0 ≤ x ∧ x ≤ 16777216) ∧ (∀ x ∈ p.wgt.take (k + 1), 0 ≤ x ∧ x ≤ 1048576)) := by
           refine Lib.hid ⟨fun x hx => ?_, fun x hx => ?_⟩
           ·rw [List.take_add_one, HX.out.1] at hx
            rcases List.mem_append.1 hx with hx | hx
            ·exact HR.out.1 x hx
            ·simp at hx; subst hx; omega
           ·rw [List.take_add_one, HX.out.2] at hx
            rcases List.mem_append.1 hx with hx | hx
            ·exact HR.out.2 x hx
            ·simp at hx; subst hx; omega
          go_wp2
          go_round
          case rel => exact ⟨k + 1, by omega, by go_num, HN.out.1, HN.out.2⟩
          case measure => simp [intOf]; omega
     ·have hlt' : decide (k < p.ps.length) = false := decide_eq_false hlt
      obtain rfl : k = p.ps.length := by omega
      have HALL : Hid ((∀ x ∈ p.due, 0 ≤ x ∧ x ≤ 16777216) ∧ (∀ x ∈ p.wgt, 0 ≤ x ∧ x ≤ 1048576)) := by
       have h1 := HR.out.1
       have h2 := HR.out.2
       rw [← G.out.2.1, List.take_length] at h1
       rw [← G.out.2.2, List.take_length] at h2
       exact Lib.hid ⟨h1, h2⟩
      by_cases q5 : p.now < 0
      ·have q5' : decide (p.now ≥ 0) = false := decide_eq_false (by omega)
       have QQ : Hid (checkP p = false) := by
        show _ = _
        cases e : checkP p with
        | false => rfl
        | true => have := (checkP_iff.1 e).2.2.2.2.2.1; omega
       go_wp2
       go_ret
       exact ⟨by rw [QQ.out]; rfl, K1.out⟩
      ·have q5' : decide (p.now ≥ 0) = true := decide_eq_true (by omega)
       have QQ : Hid (checkP p = decide (p.now ≤ 4194304)) := by
        show _ = _
        rw [Bool.eq_iff_iff, checkP_iff, decide_eq_true_eq]
        exact ⟨fun h => h.2.2.2.2.2.2, fun h => ⟨G.out.1, G.out.2.1, G.out.2.2, HALL.out.1, HALL.out.2, by omega, h⟩⟩
       go_wp2
       go_ret
       exact ⟨by rw [QQ.out]; rfl, K1.out⟩
   ·have QQ : Hid (checkP p = false) := by
     show _ = _
     cases e : checkP p with
     | false => rfl
     | true => exact absurd (checkP_iff.1 e).2.2.1 g2
    have g1' : ((p.due.length : Int) != (p.ps.length : Int)) = false := by rw [g1]; simp
    have g2' : ((p.wgt.length : Int) != (p.ps.length : Int)) = true := by simp; omega
    clear g1 g2
    go_enter Try.func37, Try.ntmps37
    go_wp2_with fail
    refine CALL.out _ fun w1 k1 hb => ?_
    rw [g0]
    clear g0
    have c0 := hb.cell 0
    have c2 := hb.cell 2
    have c3 := hb.cell 3
    simp at c0 c2 c3
    have K1 := Lib.hid k1
    clear k1 hb
    go_wp2
    go_ret
    exact ⟨by rw [QQ.out]; rfl, K1.out⟩
  ·have QQ : Hid (checkP p = false) := by
    show _ = _
    cases e : checkP p with
    | false => rfl
    | true => exact absurd (checkP_iff.1 e).2.1 g1
   have g1' : ((p.due.length : Int) != (p.ps.length : Int)) = true := by simp; omega
   clear g1
   go_enter Try.func37, Try.ntmps37
   go_wp2_with fail
   refine CALL.out _ fun w1 k1 hb => ?_
   rw [g0]
   clear g0
   have c0 := hb.cell 0
   have c2 := hb.cell 2
   simp at c0 c2
   have K1 := Lib.hid k1
   clear k1 hb
   go_wp2
   go_ret
   exact ⟨by rw [QQ.out]; rfl, K1.out⟩
 ·have QQ : Hid (checkP p = false) := by
   show _ = _
   cases e : checkP p with
   | false => rfl
   | true => exact absurd (checkP_iff.1 e).1 g0
  have g0' : (checkState p.ps p.at_ != 0) = true := by simpa using g0
  clear g0
  go_enter Try.func37, Try.ntmps37
  go_wp2_with fail
  refine CALL.out _ fun w1 k1 hb => ?_
  generalize checkState p.ps p.at_ = x at *
  have K1 := Lib.hid k1
  clear k1 hb
  go_wp2
  go_ret
  exact ⟨by rw [QQ.out]; rfl, K1.out⟩

def secOk (x : Int) : Bool := decide (-1 ≤ x) && decide (x ≤ 4294967296)
def enOk (p : Pb) (en : List (List Int)) (t : Nat) : Bool := match en[t]? with
 | some r => decide (r.length = lenAt p.ps t + 1) && r.all secOk
 | none => false
def lastOf (p : Pb) (en : List (List Int)) (t : Nat) : Int := (((en[t]?).getD [])[lenAt p.ps t]?).getD 0
def costEn (p : Pb) (en : List (List Int)) : Nat → Int
 | 0 => 0
 | t + 1 => costEn p en t + lateP p t (lastOf p en t)
def costE (p : Pb) (en : List (List Int)) : Int := if (checkP p && decide (en.length = p.ps.length) && (List.range p.ps.length).all (enOk p en)) = true then costEn p en p.ps.length else 0
theorem costE_yes {p : Pb} {en : List (List Int)} (h1 : checkP p = true) (h2 : en.length = p.ps.length) (h3 : ∀ t, t < p.ps.length → enOk p en t = true) : costE p en = costEn p en p.ps.length := by
 unfold costE
 rw [if_pos]
 simp only [Bool.and_eq_true, decide_eq_true_eq, List.all_eq_true, List.mem_range]
 exact ⟨⟨h1, h2⟩, h3⟩
theorem costE_no {p : Pb} {en : List (List Int)} (h : checkP p = false ∨ en.length ≠ p.ps.length ∨ ∃ t, t < p.ps.length ∧ enOk p en t = false) : costE p en = 0 := by
 unfold costE
 rw [if_neg]
 simp only [Bool.and_eq_true, decide_eq_true_eq, List.all_eq_true, List.mem_range]
 rintro ⟨⟨h1, h2⟩, h3⟩
 rcases h with h | h | ⟨t, ht, h⟩
 ·rw [h1] at h; cases h
 ·exact h h2
 ·rw [h3 t ht] at h; cases h
structure PbOk (p : Pb) : Prop where
 d : ∀ t, t < p.ps.length → 0 ≤ nowAt p.due t ∧ nowAt p.due t ≤ 16777216
 w : ∀ t, t < p.ps.length → 0 ≤ nowAt p.wgt t ∧ nowAt p.wgt t ≤ 1048576
 l : p.due.length = p.ps.length ∧ p.wgt.length = p.ps.length
 n : 0 ≤ p.now ∧ p.now ≤ 4194304
 v : valid p.ps = true
theorem nowAt_mem {l : List Int} {t : Nat} (h : t < l.length) : nowAt l t ∈ l := by
 rw [nowAt_of (List.getElem?_eq_getElem h)]; exact List.getElem_mem h
theorem checkP_ok {p : Pb} (h : checkP p = true) : PbOk p := by
 obtain ⟨h1, h2, h3, h4, h5, h6, h7⟩ := checkP_iff.1 h
 exact ⟨fun t ht => h4 _ (nowAt_mem (by omega)), fun t ht => h5 _ (nowAt_mem (by omega)), ⟨h2, h3⟩, ⟨h6, h7⟩, checkState_valid h1⟩
theorem lateP_bd {p : Pb} (h : PbOk p) {t : Nat} (ht : t < p.ps.length) {x : Int} (hx : x ≤ 4294967296) : 0 ≤ lateP p t x ∧ lateP p t x ≤ 4503599627370496 := by
 have h1 := h.d t ht
 have h2 := h.w t ht
 unfold lateP
 split
 ·omega
 ·exact ⟨Int.mul_nonneg (by omega) (by omega), Int.le_trans (Int.mul_le_mul h2.2 (show x - nowAt p.due t ≤ 4294967296 by omega) (by omega) (by omega)) (by omega)⟩
theorem costEn_bd {p : Pb} (h : PbOk p) {en : List (List Int)} : ∀ n, n ≤ p.ps.length → (∀ t, t < n → lastOf p en t ≤ 4294967296) → 0 ≤ costEn p en n ∧ costEn p en n ≤ 4503599627370496 * (n : Int)
 | 0, _, _ => by simp [costEn]
 | n + 1, hn, hx => by
  have h1 := costEn_bd h n (by omega) (fun t ht => hx t (by omega))
  have h2 := lateP_bd h (t := n) (by omega) (hx n (by omega))
  unfold costEn
  omega
theorem enOk_last {p : Pb} {en : List (List Int)} {t : Nat} (h : enOk p en t = true) : -1 ≤ lastOf p en t ∧ lastOf p en t ≤ 4294967296 := by
 unfold enOk at h
 unfold lastOf
 cases e : en[t]? with
 | none => rw [e] at h; cases h
 | some r =>
  rw [e] at h
  simp only [Bool.and_eq_true, decide_eq_true_eq, List.all_eq_true, secOk] at h
  have hk : r[lenAt p.ps t]? = some r[lenAt p.ps t] := List.getElem?_eq_getElem (by omega)
  simp only [Option.getD_some, hk]
  exact h.2 _ (List.mem_of_getElem? hk)
theorem late_ext {W : World} (x : Ext W) (p : Pb) (v : PV) (h : RPb W (Old W) v p) (t : Nat) (y : Int) (ht : t < p.due.length) (ht2 : t < p.wgt.length) (hd : 0 ≤ nowAt p.due t ∧ nowAt p.due t ≤ 16777216) (hw : 0 ≤ nowAt p.wgt t ∧ nowAt p.wgt t ≤ 1048576) (hx : -1 ≤ y ∧ y ≤ 4294967296) :
  Calls Try.prog 76 #[.agg (v.cs p), .int .i64 (t : Int), .int .i64 y] x.val fun e w' => e = .returned (.int .i64 (lateP p t y)) ∧ ∃ z : Ext W, w' = z.val :=
 ext_call x (late_any p v x.val (h.kept x.keeps) t y ht ht2 hd hw hx)

set_option maxRecDepth 100000 in
set_option maxHeartbeats 1000000 in
theorem DspCost_any (p : Pb) (v : PV) (w : World) (h : RPb w (Old w) v p) (en : List (List Int)) (A : Option Addr) (c : Nat) (hE : RIntss w (Old w) [.slice A en.length c] en) :
  Calls Try.prog 55 #[.agg (v.cs p), .slice A en.length c] w fun e w' => e = .returned (.int .i64 (costE p en)) ∧ KeepsAll w w' := by
 have KB : KeepsAll w (w.alloc (.cells #[.slice v.A p.ps.length v.c, .slice v.A2 p.at_.length v.c2, .slice v.A3 p.due.length v.c3, .slice v.A4 p.wgt.length v.c4, .int .i64 p.now] 25)) := (Keeps.refl _ _).alloc _
 have BB : Hid (Blk (w.alloc (.cells #[.slice v.A p.ps.length v.c, .slice v.A2 p.at_.length v.c2, .slice v.A3 p.due.length v.c3, .slice v.A4 p.wgt.length v.c4, .int .i64 p.now] 25)) w.heap.size 25 (v.cs p)) := Blk.new _ _ _
 have CALL : Hid (∀ Q : Ending → World → Prop, (∀ w1, KeepsAll w w1 → Blk w1 w.heap.size 25 (v.cs p) → Q (.returned (.bool (checkP p))) w1) → Calls Try.prog 37 #[.agg #[.slice v.A p.ps.length v.c, .slice v.A2 p.at_.length v.c2, .slice v.A3 p.due.length v.c3, .slice v.A4 p.wgt.length v.c4, .int .i64 p.now]] (w.alloc (.cells #[.slice v.A p.ps.length v.c, .slice v.A2 p.at_.length v.c2, .slice v.A3 p.due.length v.c3, .slice v.A4 p.wgt.length v.c4, .int .i64 p.now] 25)) Q) := Lib.hid fun Q hQ => (DspCheck_any p v _ (h.kept KB)).mono (by rintro e w1 ⟨rfl, k1⟩; exact hQ w1 (KB.tr k1) (BB.out.kept k1 (by simp)))
 have H := Lib.hid h
 have HE := Lib.hid hE
 clear h hE KB BB
 have hcs : Hid (v.cs p = #[.slice v.A p.ps.length v.c, .slice v.A2 p.at_.length v.c2, .slice v.A3 p.due.length v.c3, .slice v.A4 p.wgt.length v.c4, .int .i64 p.now]) := Lib.hid rfl
 rw [hcs.out]
 cases g0 : checkP p with
 | false =>
  have QQ := Lib.hid (costE_no (en := en) (.inl g0))
  go_enter Try.func55, Try.ntmps55
  go_wp2_with fail
  refine CALL.out _ fun w1 k1 hb => ?_
  rw [g0]
  have K1 := Lib.hid k1
  clear k1 hb g0
  go_wp2
  go_ret
  exact ⟨by rw [QQ.out]; rfl, K1.out⟩
 | true =>
  have HO := Lib.hid (checkP_ok g0)
  have hps10 := (valid_lens HO.out.v).1
  by_cases g1 : en.length = p.ps.length
  ·have g1' : ((en.length : Int) != (p.ps.length : Int)) = false := by rw [g1]; simp
   have G1 := Lib.hid g1
   have G0 := Lib.hid g0
   go_enter Try.func55, Try.ntmps55
   go_wp2_with fail
   refine CALL.out _ fun w1 k1 hb => ?_
   rw [g0]
   have K1 := Lib.hid k1
   have H1 := Lib.hid (H.out.kept k1)
   have HE1 := Lib.hid (k1.rdo' (RSlice.ok RInts.ok) HE.out)
   have HB := Lib.hid hb
   rw [hcs.out] at hb
   have c0 := hb.cell 0
   simp at c0
   have hz := hb.lt
   clear k1 hb g0 g1
   generalize w.heap.size = z at *
   go_wp2
   go_loopw [24, 5] (fun i sm wr => ∃ k : Nat, k ≤ p.ps.length ∧ i = .int .i64 (k : Int) ∧ sm = .int .i64 (costEn p en k) ∧ KeepsAll w1 wr ∧ (∀ t, t < k → enOk p en t = true)) (fun i _ _ => p.ps.length - (intOf i).toNat)
   case atStart => exact ⟨0, by omega, rfl, rfl, Keeps.refl _ _, fun t ht => by omega⟩
   case round =>
    obtain ⟨k, hk, rfl, rfl, kr, hall⟩ := hrel
    have KR := Lib.hid kr
    have HALL := Lib.hid hall
    have hbd := costEn_bd HO.out k hk (fun t ht => (enOk_last (hall t ht)).2)
    clear hall
    by_cases hlt : k < p.ps.length
    ·have hlt' : decide (k < p.ps.length) = true := decide_eq_true hlt
     obtain ⟨bp, op, l, Al, cl, hAp, hbp, hpl, p0, _⟩ := RSS.atK kr H1.out.P hlt
     obtain ⟨be, oe, r, Ar, cr, hAe, hbe, her, e0, hrr⟩ := RSS.atK kr HE1.out (show k < en.length by rw [G1.out]; exact hlt)
     have hll : lenAt p.ps k = l.length := by unfold lenAt; rw [hpl]; rfl
     have hvc : v.A = some ⟨bp, op, none⟩ := hAp
     have HLL := Lib.hid hll
     have HER := Lib.hid her
     have HRR := Lib.hid (kr.rdo' RInts.ok hrr)
     have hl64 := ((valid_lens HO.out.v).2 l (List.mem_of_getElem? hpl)).2
     have hke : k < en.length := by rw [G1.out]; exact hlt
     have HBR := Lib.hid (HB.out.kept kr (by simp))
     have H1R := Lib.hid (H1.out.kept kr)
     subst hAe
     rw [hvc]
     clear hpl hll her hrr c0 hAp hvc
     have EN : Hid (enOk p en k = (decide (r.length = l.length + 1) && r.all secOk)) := by
      show _ = _
      unfold enOk
      rw [HER.out, ← HLL.out]
     by_cases g3 : r.length = l.length + 1
     ·have g3' : ((r.length : Int) != (l.length : Int) + 1) = false := by rw [g3]; simp
      have G3 := Lib.hid g3
      clear g3
      go_wp2
      go_loop [43] (fun i => ∃ m : Nat, m ≤ r.length ∧ i = .int .i64 (m : Int) ∧ (∀ x ∈ r.take m, secOk x = true)) (fun i => r.length - (intOf i).toNat)
      case atStart => exact ⟨0, by omega, rfl, by simp⟩
      case round =>
       obtain ⟨m, hm, rfl, hsec⟩ := hrel
       have HSEC := Lib.hid hsec
       clear hsec
       by_cases hlt2 : m < r.length
       ·have hlt2' : decide (m < r.length) = true := decide_eq_true hlt2
        obtain ⟨b4, o4, x, hA4, _, hx, x0⟩ := HRR.out.at_ hlt2
        subst hA4
        have HX := Lib.hid hx
        clear hx
        have hbad : Hid (secOk x = false → costE p en = 0) := Lib.hid fun hs => costE_no (.inr (.inr ⟨k, hlt, by
         rw [EN.out]
         rw [Bool.and_eq_false_iff]
         right
         rw [List.all_eq_false]
         exact ⟨x, List.mem_of_getElem? HX.out, by rw [hs]; simp⟩⟩))
        by_cases q1 : x < -1
        ·have q1' : decide (x < -1) = true := decide_eq_true q1
         have QQ := Lib.hid (hbad.out (by unfold secOk; rw [decide_eq_false (show ¬ -1 ≤ x by omega)]; rfl))
         go_wp2
         go_ret
         exact ⟨by rw [QQ.out]; rfl, K1.out.tr KR.out⟩
        ·have q1' : decide (x < -1) = false := decide_eq_false q1
         by_cases q2 : x > 4294967296
         ·have q2' : decide (x > 4294967296) = true := decide_eq_true q2
          have QQ := Lib.hid (hbad.out (by unfold secOk; rw [decide_eq_false (show ¬ x ≤ 4294967296 by omega)]; simp))
          go_wp2
          go_ret
          exact ⟨by rw [QQ.out]; rfl, K1.out.tr KR.out⟩
         ·have q2' : decide (x > 4294967296) = false := decide_eq_false q2
          have HS2 : Hid (∀ y ∈ r.take (m + 1), secOk y = true) := Lib.hid fun y hy => by
           rw [List.take_add_one, HX.out] at hy
           rcases List.mem_append.1 hy with hy | hy
           ·exact HSEC.out y hy
           ·simp at hy
            subst hy
            unfold secOk
            rw [decide_eq_true (show -1 ≤ y by omega), decide_eq_true (show y ≤ 4294967296 by omega)]; rfl
          have hr65 : r.length ≤ 65 := by rw [G3.out]; omega
          go_wp2
          go_round
          case rel => exact ⟨m + 1, by omega, by go_num, HS2.out⟩
          case measure => simp [intOf]; omega
       ·have hlt2' : decide (m < r.length) = false := decide_eq_false hlt2
        obtain rfl : m = r.length := by omega
        have hok : enOk p en k = true := by
         rw [EN.out, decide_eq_true G3.out, Bool.true_and, List.all_eq_true]
         have := HSEC.out
         rwa [List.take_length] at this
        have HOK := Lib.hid hok
        have hlast := enOk_last hok
        have hlx : lastOf p en k = (r[l.length]?).getD 0 := by unfold lastOf; rw [HER.out, HLL.out]; rfl
        obtain ⟨b4, o4, x, hA4, hb4, hx, x0⟩ := HRR.out.at_ (k := l.length) (by rw [G3.out]; omega)
        subst hA4
        rw [hx] at hlx
        have hlx : lastOf p en k = x := hlx
        rw [hlx] at hlast
        have HLX := Lib.hid hlx
        have hb4' : b4 < wr.heap.size := hb4
        have hrl : l.length < r.length := by rw [G3.out]; omega
        have hd1 := HO.out.d k hlt
        have hd2 := HO.out.w k hlt
        have hlb := lateP_bd HO.out hlt hlast.2
        have hkd : k < p.due.length := by rw [HO.out.l.1]; exact hlt
        have hkw : k < p.wgt.length := by rw [HO.out.l.2]; exact hlt
        have hbr := HBR.out
        rw [hcs.out] at hbr
        have b0 := hbr.cell 0
        have b1 := hbr.cell 1
        have b2 := hbr.cell 2
        have b3 := hbr.cell 3
        have b5 := hbr.cell 4
        simp at b0 b1 b2 b3 b5
        clear hok hx hlx hbr
        go_wp2
        refine wp_region_ext (by kernel_rfl) (by kernel_rfl) ?_
        have y0 := Ext.cell b0
        have y1 := Ext.cell b1
        have y2 := Ext.cell b2
        have y3 := Ext.cell b3
        have y5 := Ext.cell b5
        have ye := Ext.cell e0
        have yx := Ext.cell x0
        have hLX := fun X : Ext wr => late_ext X p v H1R.out k x hkd hkw hd1 hd2 hlast
        rw [hcs.out] at hLX
        have HLX2 := Lib.hid hLX
        clear hLX
        have hw9 : IntKind.i64.wrap (costEn p en k + lateP p k x) = costEn p en k + lateP p k x := IntWalk.i64_in _ (by omega)
        repeat (go_big_quiet_step ((go_at_call 76; exact HLX2.out _)))
        refine wpQuiet_nil ?_
        rintro _ ⟨X, rfl⟩
        have KX := Lib.hid (KR.out.tr X.keeps)
        have HSUM : Hid (costEn p en (k + 1) = costEn p en k + lateP p k x) := by show _ = _; rw [← HLX.out]; rfl
        have HALL2 : Hid (∀ t, t < k + 1 → enOk p en t = true) := Lib.hid fun t ht => by
         by_cases e : t = k
         ·subst e; exact HOK.out
         ·exact HALL.out t (by omega)
        clear y0 y1 y2 y3 y5 ye yx hw9 e0 x0 b0 b1 b2 b3 b5
        generalize X.val = W4 at *
        go_wp2
        go_roundw
        case rel => exact ⟨k + 1, by omega, by go_num, by rw [HSUM.out], KX.out, HALL2.out⟩
        case measure => simp [intOf]; omega
     ·have g3' : ((r.length : Int) != (l.length : Int) + 1) = true := by simp; omega
      have QQ := Lib.hid (costE_no (.inr (.inr ⟨k, hlt, by rw [EN.out, decide_eq_false g3]; rfl⟩)))
      clear g3
      go_wp2
      go_ret
      exact ⟨by rw [QQ.out]; rfl, K1.out.tr KR.out⟩
    ·have hlt' : decide (k < p.ps.length) = false := decide_eq_false hlt
     obtain rfl : k = p.ps.length := by omega
     have QQ := Lib.hid (costE_yes G0.out G1.out HALL.out)
     clear kr
     go_wp2
     go_ret
     exact ⟨by rw [QQ.out]; rfl, K1.out.tr KR.out⟩
  ·have g1' : ((en.length : Int) != (p.ps.length : Int)) = true := by simp; omega
   have QQ := Lib.hid (costE_no (p := p) (en := en) (.inr (.inl g1)))
   go_enter Try.func55, Try.ntmps55
   go_wp2_with fail
   refine CALL.out _ fun w1 k1 hb => ?_
   rw [g0]
   have K1 := Lib.hid k1
   rw [hcs.out] at hb
   have c0 := hb.cell 0
   simp at c0
   clear k1 hb g0 g1
   go_wp2
   go_ret
   exact ⟨by rw [QQ.out]; rfl, K1.out⟩

end Go.Proofs.Ytilbbpbjhoidhaa
