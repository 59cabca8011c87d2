/- Contracts of what Verify of chapter 37 calls: IndexFunc over orders, EqualFunc and Equal. Conditions: as each theorem says. The state of Verify of chapter 37. Conditions: as each theorem says. -/
import Derived.Test.YtilbbpbjhoidhaaA42
import Derived.Test.YtilbbpbjhoidhaaA40
namespace Go.Proofs.Ytilbbpbjhoidhaa
open Go.RowKit

set_option maxRecDepth 100000 in
set_option maxHeartbeats 1000000 in
theorem verify1_any (r : Int) (cb : Nat) (x : Order) (va : Value) (w : World) (hb : Blk w cb 3 #[.int .i64 r]) :
  Calls Try.prog 50 #[.agg #[.int .i64 x.res, va], .pointer (some ⟨cb, 0, none⟩)] w fun e w' => e = .returned (.bool (decide (x.res = r))) ∧ KeepsAll w w' := by
 have c0 := hb.cell 0
 simp at c0
 have hcz := hb.lt
 clear hb
 have Q1 : Hid (x.res = r → decide (x.res = r) = true) := fun e => decide_eq_true e
 have Q2 : Hid (x.res ≠ r → decide (x.res = r) = false) := fun e => decide_eq_false e
 generalize decide (x.res = r) = res at *
 by_cases he : x.res = r
 ·have Q := Lib.hid (Q1.out he)
  subst he
  clear Q1 Q2
  go_enter Try.func50, Try.ntmps50
  go_wp2
  go_ret
  exact ⟨by rw [Q.out]; rfl, (Keeps.refl _ _).alloc _⟩
 ·have Q := Lib.hid (Q2.out he)
  clear Q1 Q2
  have he' : (x.res == r) = false := by simpa using he
  go_enter Try.func50, Try.ntmps50
  go_wp2
  go_ret
  exact ⟨by rw [Q.out]; rfl, (Keeps.refl _ _).alloc _⟩
theorem enters_verify1 : Enters 50 := fun _ _ => by kernel_rfl
theorem enters_equal : Enters 54 := fun _ _ => by kernel_rfl
/-- a closure that tests an order -/
def TestsOrd (F cb : Nat) (w : World) (l : List Order) (pr : Order → Bool) : Prop := ∀ a ∈ l, ∀ va W, KeepsAll w W → Calls Try.prog F #[.agg #[.int .i64 a.res, va], .pointer (some ⟨cb, 0, none⟩)] W fun e w' => e = .returned (.bool (pr a)) ∧ KeepsAll W w'
set_option maxRecDepth 100000 in
set_option maxHeartbeats 1000000 in
theorem IndexOrd_any (F cb : Nat) (l : List Order) (pr : Order → Bool) (A : Option Addr) (c : Nat) (w : World) (h : ROrders w (Old w) [.slice A l.length c] l) (hE : Enters F) (hF : TestsOrd F cb w l pr) :
  Calls Try.prog 49 #[.slice A l.length c, .func (.func F) #[] #[.pointer (some ⟨cb, 0, none⟩)]] w fun e w' => e = .returned (.int .i64 (idxF pr l)) ∧ KeepsAll w w' := by
 have hc := h.caps
 have H := Lib.hid h; clear h
 have HF := Lib.hid hF; clear hF
 have hcf : ∀ (args : Array Value) (w : World), (callFunc F args).run Try.prog w = .ok (.enter F args) w := hE
 clear hE
 go_enter Try.func49, Try.ntmps49
 go_wp2
 go_loopw [8] (fun i wr => ∃ k : Nat, k ≤ l.length ∧ i = .int .i64 k ∧ (∀ y ∈ l.take k, pr y = false) ∧ KeepsAll w wr) (fun i _ => l.length - (intOf i).toNat)
 case atStart => exact ⟨0, Nat.zero_le _, rfl, by simp, Keeps.refl _ _⟩
 case round =>
  obtain ⟨k, hk, rfl, hno, hkr⟩ := hrel
  have HNO := Lib.hid hno; clear hno
  have KR := Lib.hid hkr; clear hkr
  by_cases hlt : k < l.length
  ·obtain ⟨b, o, a, A', c', rfl, hb, ha, m0, m1, _⟩ := ROrders.atK KR.out H.out hlt
   have HC := Lib.hid (HF.out a (List.mem_of_getElem? ha) (.slice A' a.uses.length c') wr KR.out)
   have HAA := Lib.hid ha; clear ha
   go_wp2_with fail
   refine HC.out.mono ?_
   rintro e w2 ⟨rfl, hk2⟩
   have K2 := Lib.hid (KR.out.tr hk2); clear hk2
   by_cases g : pr a = true
   ·have Q := Lib.hid (idxF_stop HAA.out g HNO.out)
    rw [g]; clear g
    go_wp2
    go_ret
    exact ⟨by rw [Q.out]; rfl, K2.out⟩
   ·have g' : pr a = false := by simpa using g
    have Q : Hid (∀ y ∈ l.take (k + 1), pr y = false) := fun y hy => by
     rw [List.take_add_one, HAA.out] at hy; simp at hy
     rcases hy with hy | rfl
     ·exact HNO.out y hy
     ·exact g'
    rw [g']; clear g g'
    go_wp2
    go_roundw
    case rel => exact ⟨k + 1, by omega, by go_num, Q.out, K2.out⟩
    case measure => simp [intOf]; omega
  ·obtain rfl : k = l.length := by omega
   have Q : Hid (idxF pr l = -1) := by
    have := HNO.out; rw [List.take_length] at this
    exact idxF_none this
   go_wp2
   go_ret
   exact ⟨by rw [Q.out]; rfl, KR.out⟩
theorem verify_idx (r : Int) (l : List Order) (cb : Nat) (A : Option Addr) (c : Nat) (w : World) (h : ROrders w (Old w) [.slice A l.length c] l) (hb : Blk w cb 3 #[.int .i64 r]) :
  Calls Try.prog 49 #[.slice A l.length c, .func (.func 50) #[] #[.pointer (some ⟨cb, 0, none⟩)]] w fun e w' => e = .returned (.int .i64 (idxF (fun o : Order => decide (o.res = r)) l)) ∧ KeepsAll w w' :=
 IndexOrd_any 50 cb l _ A c w h enters_verify1 (fun a _ va W hW => verify1_any r cb a va W (hb.kept hW (by simp)))

theorem take_eq_succ {α : Type} {a b : List α} {k : Nat} {x y : α} (h : a.take k = b.take k) (hx : a[k]? = some x) (hy : b[k]? = some y) (e : x = y) : a.take (k + 1) = b.take (k + 1) := by
 rw [List.take_add_one, List.take_add_one, h, hx, hy, e]
set_option maxRecDepth 100000 in
set_option maxHeartbeats 1000000 in
theorem EqInts_any (a b : List Int) (A B : Option Addr) (c c2 : Nat) (w : World) (h : RInts w (Old w) [.slice A a.length c] a) (h2 : RInts w (Old w) [.slice B b.length c2] b) :
  Calls Try.prog 54 #[.slice A a.length c, .slice B b.length c2] w fun e w' => e = .returned (.bool (decide (a = b))) ∧ KeepsAll w w' := by
 have hc := h.caps
 have hc2 := h2.caps
 have H := Lib.hid h; clear h
 have H2 := Lib.hid h2; clear h2
 by_cases hl : a.length = b.length
 ·have hl' : ((a.length : Int) != (b.length : Int)) = false := by simp [hl]
  have hle : a.length ≤ b.length := by omega
  have HL := Lib.hid hl; clear hl
  go_enter Try.func54, Try.ntmps54
  go_wp2
  clear hl'
  go_loopw [13] (fun i wr => ∃ k : Nat, k ≤ a.length ∧ i = .int .i64 k ∧ a.take k = b.take k ∧ KeepsAll w wr) (fun i _ => a.length - (intOf i).toNat)
  case atStart => exact ⟨0, Nat.zero_le _, rfl, rfl, Keeps.refl _ _⟩
  case round =>
   obtain ⟨k, hk, rfl, hno, hkr⟩ := hrel
   have HNO := Lib.hid hno; clear hno
   have KR := Lib.hid hkr; clear hkr
   by_cases hlt : k < a.length
   ·obtain ⟨ba, oa, x, rfl, hba, hx, m0⟩ := RInts.atK KR.out H.out hlt
    obtain ⟨bb, ob, y, rfl, hbb, hy, m1⟩ := RInts.atK KR.out H2.out (show k < b.length by omega)
    have hlt2 : k < b.length := by omega
    have HXX := Lib.hid hx; clear hx
    have HYY := Lib.hid hy; clear hy
    by_cases g : x = y
    ·have Q := Lib.hid (take_eq_succ HNO.out HXX.out HYY.out g)
     have K2 := Lib.hid KR.out.drew
     subst g
     go_wp2
     go_quiet (fail)
     go_wp2
     go_roundw
     case rel => first | exact ⟨k + 1, by omega, by go_num, Q.out, K2.out⟩ | exact ⟨k + 1, by omega, by go_num, Q.out, KR.out.drewN _⟩ | exact ⟨k + 1, by omega, by go_num, Q.out, KR.out⟩
     case measure => simp [intOf]; omega
    ·have g' : (x != y) = true := by simpa using g
     have Q : Hid (decide (a = b) = false) := by
      refine decide_eq_false fun e => g ?_
      have h1 := HXX.out
      rw [e, HYY.out] at h1
      injection h1 with h1; exact h1.symm
     clear g
     go_wp2
     go_quiet (fail)
     go_wp2
     go_ret
     first | exact ⟨by rw [Q.out]; rfl, KR.out.drewN _⟩ | exact ⟨by rw [Q.out]; rfl, KR.out.drew⟩ | exact ⟨by rw [Q.out]; rfl, KR.out⟩
   ·obtain rfl : k = a.length := by omega
    have Q : Hid (decide (a = b) = true) := by
     refine decide_eq_true ?_
     have h1 := HNO.out
     rw [List.take_length, HL.out, List.take_length] at h1
     exact h1
    go_wp2
    go_ret
    exact ⟨by rw [Q.out]; rfl, KR.out⟩
 ·have hl' : ((a.length : Int) != (b.length : Int)) = true := by simp; omega
  have Q : Hid (decide (a = b) = false) := decide_eq_false fun e => hl (by rw [e])
  clear hl
  go_enter Try.func54, Try.ntmps54
  go_wp2
  go_ret
  exact ⟨by rw [Q.out]; rfl, Keeps.refl _ _⟩

set_option maxRecDepth 100000 in
set_option maxHeartbeats 1000000 in
theorem EqRows_any (a b : List (List Int)) (A B : Option Addr) (c c2 : Nat) (w : World) (h : RIntss w (Old w) [.slice A a.length c] a) (h2 : RIntss w (Old w) [.slice B b.length c2] b) :
  Calls Try.prog 52 #[.slice A a.length c, .slice B b.length c2, .func (.func 54) #[] #[]] w fun e w' => e = .returned (.bool (decide (a = b))) ∧ KeepsAll w w' := by
 have hc := h.caps
 have hc2 := h2.caps
 have H := Lib.hid h; clear h
 have H2 := Lib.hid h2; clear h2
 have hcf : ∀ (args : Array Value) (w : World), (callFunc 54 args).run Try.prog w = .ok (.enter 54 args) w := enters_equal
 by_cases hl : a.length = b.length
 ·have hl' : ((a.length : Int) != (b.length : Int)) = false := by simp [hl]
  have hle : a.length ≤ b.length := by omega
  have HL := Lib.hid hl; clear hl
  go_enter Try.func52, Try.ntmps52
  go_wp2
  clear hl'
  go_loopw [17] (fun i wr => ∃ k : Nat, k ≤ a.length ∧ i = .int .i64 k ∧ a.take k = b.take k ∧ KeepsAll w wr) (fun i _ => a.length - (intOf i).toNat)
  case atStart => exact ⟨0, Nat.zero_le _, rfl, rfl, Keeps.refl _ _⟩
  case round =>
   obtain ⟨k, hk, rfl, hno, hkr⟩ := hrel
   have HNO := Lib.hid hno; clear hno
   have KR := Lib.hid hkr; clear hkr
   by_cases hlt : k < a.length
   ·obtain ⟨ba, oa, x, Ax, cx, rfl, hba, hx, m0, rx⟩ := RSS.atK KR.out H.out hlt
    obtain ⟨bb, ob, y, Ay, cy, rfl, hbb, hy, m1, ry⟩ := RSS.atK KR.out H2.out (show k < b.length by omega)
    have hlt2 : k < b.length := by omega
    have HC := Lib.hid (EqInts_any x y Ax Ay cx cy wr (KR.out.rdo' RInts.ok rx) (KR.out.rdo' RInts.ok ry))
    have HXX := Lib.hid hx; clear hx
    have HYY := Lib.hid hy; clear hy
    clear rx ry
    go_wp2_with fail
    refine HC.out.mono ?_
    rintro e w2 ⟨rfl, hk2⟩
    have K2 := Lib.hid (KR.out.tr hk2); clear hk2 HC
    by_cases g : x = y
    ·have Q := Lib.hid (take_eq_succ HNO.out HXX.out HYY.out g)
     rw [decide_eq_true g]
     clear g
     go_wp2
     go_roundw
     case rel => exact ⟨k + 1, by omega, by go_num, Q.out, K2.out⟩
     case measure => simp [intOf]; omega
    ·have Q : Hid (decide (a = b) = false) := by
      refine decide_eq_false fun e => g ?_
      have h1 := HXX.out
      rw [e, HYY.out] at h1
      injection h1 with h1; exact h1.symm
     rw [decide_eq_false g]
     clear g
     go_wp2
     go_ret
     exact ⟨by rw [Q.out]; rfl, K2.out⟩
   ·obtain rfl : k = a.length := by omega
    have Q : Hid (decide (a = b) = true) := by
     refine decide_eq_true ?_
     have h1 := HNO.out
     rw [List.take_length, HL.out, List.take_length] at h1
     exact h1
    go_wp2
    go_ret
    exact ⟨by rw [Q.out]; rfl, KR.out⟩
 ·have hl' : ((a.length : Int) != (b.length : Int)) = true := by simp; omega
  have Q : Hid (decide (a = b) = false) := decide_eq_false fun e => hl (by rw [e])
  clear hl
  go_enter Try.func52, Try.ntmps52
  go_wp2
  go_ret
  exact ⟨by rw [Q.out]; rfl, Keeps.refl _ _⟩

theorem idxF_find {α : Type} (pr : α → Bool) (l : List α) : (idxF pr l = -1 ∧ l.find? pr = none) ∨ ∃ (i : Nat) (x : α), idxF pr l = (i : Int) ∧ l[i]? = some x ∧ l.find? pr = some x := by
 cases e : l.findIdx? pr with
 | none =>
  left
  refine ⟨by unfold idxF; rw [e], ?_⟩
  rw [List.findIdx?_eq_none_iff] at e
  rw [List.find?_eq_none]
  intro x hx
  rw [e x hx]; simp
 | some i =>
  right
  obtain ⟨hi, h1, h2⟩ := List.findIdx?_eq_some_iff_getElem.1 e
  refine ⟨i, l[i], by unfold idxF; rw [e], List.getElem?_eq_getElem hi, ?_⟩
  rw [List.find?_eq_some_iff_getElem]
  exact ⟨h1, i, hi, rfl, fun j hj => by simpa using h2 j hj⟩
theorem verTo_none {ps : List (List Stage)} {at_ : List Int} {os : List Order} {n : Nat} (h : verTo ps at_ os n = none) : ∀ k, verTo ps at_ os (n + k) = none
 | 0 => h
 | k + 1 => by rw [show n + (k + 1) = (n + k) + 1 from rfl, verTo, verTo_none h k]
theorem ver_none {p : Pb} {x : Soln} {n : Nat} (hn : n ≤ 144) (h : verTo p.ps p.at_ x.os n = none) : verP p x = false := by
 have := verTo_none h (144 - n)
 rw [show n + (144 - n) = 144 by omega] at this
 unfold verP
 rw [this, Bool.and_false]
theorem ver_res {p : Pb} {x : Soln} (h : resOk x.os = false) : verP p x = false := by
 unfold verP
 rw [h]
 cases verTo p.ps p.at_ x.os 144 <;> simp
theorem redTo_len (ps : List (List Stage)) (r : Int) : ∀ (rest pre : List Ref), (redTo ps r pre rest).length ≤ rest.length * ps.length
 | [], pre => by simp [redTo]
 | v :: rest, pre => by
  have h1 := redTo_len ps r rest (pre ++ [v])
  have h2 := arcsTo_len ps r pre v ps.length
  rw [redTo, List.length_append, List.length_cons, Nat.add_mul]
  omega
theorem openA_len (ps : List (List Stage)) (at_ : List Int) (r : Int) : (openA ps at_ r).length ≤ (allU ps r).length := List.length_filter_le _ _
theorem allU_640 {ps : List (List Stage)} (hv : valid ps = true) (r : Int) : (allU ps r).length ≤ 640 := by
 have hl := valid_lens hv
 have h1 : ∀ (t : Nat) (p : List Stage), (pathAll r t p).length ≤ p.length := fun t p => by
  have : ∀ n, n ≤ p.length → (pathAll r t (p.take n)).length ≤ n := by
   intro n
   induction n with
   | zero => intro _; simp [pathAll]
   | succ n ih =>
    intro hn
    rw [pathAll_succ r t (List.getElem?_eq_getElem (by omega) : p[n]? = some p[n]), List.length_append]
    have := ih (by omega)
    split <;> simp <;> omega
  have := this p.length (Nat.le_refl _)
  rwa [List.take_length] at this
 have h2 : ∀ n, n ≤ ps.length → (allU (ps.take n) r).length ≤ n * 64 := by
  intro n
  induction n with
  | zero => intro _; simp [allU]
  | succ n ih =>
   intro hn
   rw [allU_succ r (List.getElem?_eq_getElem (by omega) : ps[n]? = some ps[n]), List.length_append]
   have h3 := ih (by omega)
   have h4 := h1 n ps[n]
   have h5 := (hl.2 ps[n] (List.getElem_mem _)).2
   omega
 have h3 := h2 ps.length (Nat.le_refl _)
 rw [List.take_length] at h3
 omega
theorem verTo_len {ps : List (List Stage)} {at_ : List Int} {os : List Order} (hv : valid ps = true) : ∀ (n : Nat) (D : List RArc), verTo ps at_ os n = some D → D.length ≤ n * 6400
 | 0, D, h => by
  have h : some [] = some D := h
  injection h with h
  rw [← h]
  exact Nat.zero_le _
 | n + 1, D, h => by
  rw [verTo] at h
  cases e : verTo ps at_ os n with
  | none => rw [e] at h; cases h
  | some D' =>
   rw [e] at h
   have ih := verTo_len hv n D' e
   simp only at h
   cases f : os.find? (fun o => decide (o.res = (n : Int))) with
   | none =>
    rw [f] at h
    simp only at h
    split at h
    ·injection h with h; subst h; exact Nat.le_trans ih (Nat.mul_le_mul_right _ (Nat.le_succ n))
    ·cases h
   | some o =>
    rw [f] at h
    simp only at h
    split at h
    ·cases h
    ·rw [folQ_eq (openA_lex ps at_ _)] at h
     split at h
     ·rename_i g
      injection h with h
      subst h
      have h1 := (exactly_before.1 g.1).1
      have h2 := openA_len ps at_ (n : Int)
      have h3 := allU_640 hv (n : Int)
      have h4 := redTo_len ps (n : Int) o.uses []
      have h5 := (valid_lens hv).1
      have h6 : o.uses.length * ps.length ≤ 640 * 10 := Nat.mul_le_mul (by omega) h5
      rw [List.length_append]
      have h7 : (redO ps (n : Int) o.uses).length ≤ o.uses.length * ps.length := h4
      rw [Nat.add_mul]
      exact Nat.add_le_add ih (Nat.le_trans h7 (Nat.le_trans h6 (by omega)))
     ·cases h
/-- what is not the graph's stays -/
structure Frw (s : GS) (w : World) (d : GD) (w' : World) (d' : GD) : Prop where
 sz : w.heap.size ≤ w'.heap.size
 bl : ∀ b, b < w.heap.size → ¬ GOwn s d b → w'.heap[b]? = w.heap[b]? ∧ ¬ GOwn s d' b
theorem Frw.refl (s : GS) (w : World) (d : GD) : Frw s w d w d := ⟨Nat.le_refl _, fun _ _ h => ⟨rfl, h⟩⟩
theorem Frw.trans {s : GS} {w w' w'' : World} {d d' d'' : GD} (h : Frw s w d w' d') (h' : Frw s w' d' w'' d'') : Frw s w d w'' d'' :=
 ⟨Nat.le_trans h.sz h'.sz, fun b hb hn => by
  obtain ⟨h1, h2⟩ := h.bl b hb hn
  obtain ⟨h3, h4⟩ := h'.bl b (Nat.lt_of_lt_of_le hb h.sz) h2
  exact ⟨h3.trans h1, h4⟩⟩
theorem Frw.keep {s : GS} {w w' : World} {d : GD} (k : KeepsAll w w') : Frw s w d w' d := ⟨k.size, fun b hb hn => ⟨k.block b hb (by simp), hn⟩⟩
theorem Frm.rw {s : GS} {lb : Nat} {w w' : World} {d d' : GD} (h : Frm s lb w d w' d') (hl : w.heap.size ≤ lb) : Frw s w d w' d' := ⟨h.sz, fun b hb hn => h.bl b (⟨hb, hn, by omega⟩ : b < w.heap.size ∧ ¬ GOwn s d b ∧ b ≠ lb)⟩
/-- Verify's state -/
structure VeS (s : GS) (w0 wu : World) (d : GD) (D : List RArc) (wr : World) (d' : GD) : Prop where
 g : Gm s w0 wr d'
 gp : GP s D d'
 fr : Frw s wu d wr d'
/-- what the graph does not own -/
def NOwn (s : GS) (w : World) (d : GD) : Foot := fun b => b < w.heap.size ∧ ¬ GOwn s d b
section
variable {s : GS} {w0 wu wr w' : World} {d d' : GD} {D : List RArc}
theorem VeS.keep (h : VeS s w0 wu d D wr d') (k : KeepsAll wr w') : VeS s w0 wu d D w' d' := ⟨h.g.keep k, h.gp, h.fr.trans (Frw.keep k)⟩
theorem VeS.rd (h : VeS s w0 wu d D wr d') {α : Type} {E : Rd α} (hE : Rd.Ok E) {cs : List Value} {x : α} (hr : E wu (NOwn s wu d) cs x) : E wr (NOwn s wr d') cs x :=
 hE.mono hr (fun b hb => ⟨Nat.lt_of_lt_of_le hb.1 h.fr.sz, (h.fr.bl b hb.1 hb.2).2⟩) (fun b hb => (h.fr.bl b hb.1 hb.2).1)
theorem NOwn.old {α : Type} {E : Rd α} (hE : Rd.Ok E) {cs : List Value} {x : α} (hr : E wr (NOwn s wr d') cs x) : E wr (Old wr) cs x := hE.mono hr (fun _ hb => hb.1) (fun _ _ => rfl)
theorem VeS.blk (h : VeS s w0 wu d D wr d') {z : Nat} {t : TypeId} {c : Array Value} (hb : Blk wu z t c) (hn : ¬ GOwn s d z) : Blk wr z t c := by
 obtain ⟨h1, h2⟩ := h.fr.bl z hb.lt hn
 exact h1.trans hb
theorem VeS.follow (h : VeS s w0 wu d D wr d') {D' : List RArc} {e : Ending} (hf : FoPost s w0 wr d' (some D') e w') : e = .returned (.bool true) ∧ ∃ d2, VeS s w0 wu d D' w' d2 := by
 obtain ⟨lb, d2, h1, h2, h3, h4, h5⟩ := hf
 exact ⟨h4, d2, h2, h5, h.fr.trans (h3.rw h1)⟩
end

end Go.Proofs.Ytilbbpbjhoidhaa
