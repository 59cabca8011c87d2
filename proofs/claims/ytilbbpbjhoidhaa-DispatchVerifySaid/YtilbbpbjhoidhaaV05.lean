/- Contracts of the makers of positions and paths: what they return fits. Conditions: as each theorem says. A slice that fills a block of its own reads as its list; rows that make lays. Conditions: as each theorem says. Contracts of the readers of stages and uses: Contains, uses, Uses, holds. Conditions: as each theorem says. Reading in a world that keeps all of an earlier one. Conditions: as each theorem says. A slice of slices under construction: each row grows by append on its own. Conditions: as each theorem says. Contracts of the small readers of the graph: number, release, happened. Conditions: as each theorem says. -/
import Derived.Test.YtilbbpbjhoidhaaV03
import Derived.Deep.OwnRows
import Derived.Test.YtilbbpbjhoidhaaV04
namespace Go.Proofs.Ytilbbpbjhoidhaa
open Go.RowKit

theorem tyInt : ElemTy Try.prog 22 3 1 8 := .mk' Try.underlying22 (z := .int .i64 0) (by kernel_rfl) rfl (by omega)
theorem tyStage : ElemTy Try.prog 100 99 4 48 := .mk' Try.underlying100 (z := .agg #[.int .i64 0, .slice none 0 0, .int .i64 0, .int .i64 0]) (by kernel_rfl) rfl (by omega)
theorem tyPath : ElemTy Try.prog 23 100 1 24 := .mk' Try.underlying23 (z := .slice none 0 0) (by kernel_rfl) rfl (by omega)

def secs8 (ps : List (List Stage)) : Prop := ∀ p ∈ ps, ∀ s ∈ p, 0 ≤ s.sec ∧ s.sec < 8

def cellsB' (l : List Bool) : Array Value := (l.map Value.bool).toArray
theorem cellsB'_get {l : List Bool} {n : Nat} (hn : n < l.length) : ∃ b, (cellsB' l)[n]? = some (.bool b) := ⟨l[n], by simp [cellsB', hn]⟩
theorem cellsB'_set (l : List Bool) (n : Nat) : (cellsB' l).setIfInBounds n (.bool true) = cellsB' (l.set n true) := by simp [cellsB', List.map_set]

structure AtInv (w : World) (ps : List (List Stage)) (wr : World) (v : Value) (n : Nat) : Prop where
 k : KeepsAll w wr
 src : ∃ rest, Src wr (Old w) w.heap.size rest
 held : ∃ l : List Bool, l.length = 8 ∧ Blk wr (w.heap.size + 1) 119 (cellsB' l)
 out : ∃ l : List Int, l.length = n ∧ goodFrom (ps.take n) l = true ∧ OwnL 3 1 RInt wr (w.heap.size + 2) (w.heap.size + 2) v l
theorem AtInv.size {w : World} {ps : List (List Stage)} {wr : World} {v : Value} {n : Nat} (h : AtInv w ps wr v n) : w.heap.size + 1 < wr.heap.size := by
 obtain ⟨l, _, hb⟩ := h.held; exact hb.lt
theorem AtInv.keep {w : World} {ps : List (List Stage)} {wr w' : World} {v : Value} {n : Nat} {C : Foot} (h : AtInv w ps wr v n) (k : Keeps C wr w') (hC : ∀ b, C b → b = w.heap.size ∨ b = w.heap.size + 1)
  (hs : ∃ rest, Src w' (Old w) w.heap.size rest) (hh : ∃ l : List Bool, l.length = 8 ∧ Blk w' (w.heap.size + 1) 119 (cellsB' l)) : AtInv w ps w' v n := by
 refine ⟨h.k.trans k (fun x hx hc => by have := hC x hc; omega), hs, hh, ?_⟩
 obtain ⟨l, h1, h2, h3⟩ := h.out
 exact ⟨l, h1, h2, h3.keeps RInt.ok k (fun b hb hc => by have := hC b hc; omega)⟩

theorem goodFrom_snoc : ∀ (ps : List (List Stage)) (l : List Int) (p : List Stage) (a : Int), ps.length = l.length → goodFrom ps l = true → okPos p a = true → goodFrom (ps ++ [p]) (l ++ [a]) = true
 | [], [], p, a, _, _, h => by simp [goodFrom, h]
 | q :: ps, b :: l, p, a, hl, h, ho => by
  simp only [goodFrom, Bool.and_eq_true, List.cons_append] at h ⊢
  exact ⟨h.1, goodFrom_snoc ps l p a (by simpa using hl) h.2 ho⟩
 | [], _ :: _, _, _, hl, _, _ => by simp at hl
 | _ :: _, [], _, _, hl, _, _ => by simp at hl

theorem AtInv.mark {w : World} {ps : List (List Stage)} {wr : World} {v : Value} {n : Nat} {lh : List Bool} (h : AtInv w ps wr v n) (hl : lh.length = 8) (hb : Blk wr (w.heap.size + 1) 119 (cellsB' lh)) (q : Nat) :
  AtInv w ps (wr.setCell ⟨w.heap.size + 1, q, none⟩ (.bool true)) v n := by
 have kk := (Keeps.refl (fun b => b = w.heap.size + 1) wr).setCell (p := ⟨w.heap.size + 1, q, none⟩) (fun _ => rfl) (.bool true)
 have hz := h.size
 refine h.keep kk (fun b hb => .inr hb) ?_ ?_
 ·obtain ⟨r, hr⟩ := h.src
  exact ⟨r, hr.keeps kk (fun b hb => by have : b < w.heap.size := hb; exact ⟨by omega, by omega⟩) (by simp)⟩
 ·exact ⟨lh.set q true, by simpa using hl, by rw [← cellsB'_set]; exact hb.set_ q _⟩
theorem AtInv.grow {w : World} {ps : List (List Stage)} {wr w9 : World} {v v' : Value} {n : Nat} {o : Obj} {l0 : List Int} {p : List Stage} {a : Int} (h : AtInv w ps wr v n) (ho : OwnL 3 1 RInt wr (w.heap.size + 2) (w.heap.size + 2) v l0)
  (hl : l0.length = n) (hg : goodFrom (ps.take n) l0 = true) (hp : ps[n]? = some p) (hok : okPos p a = true) (ho9 : OwnL 3 1 RInt w9 (w.heap.size + 2) (w.heap.size + 2) v' (l0 ++ [a])) (hk : Keeps (fun b => v.ownBlock = some b) (wr.alloc o) w9) : AtInv w ps w9 v' (n + 1) := by
 have k2 : Keeps (fun b => v.ownBlock = some b) wr w9 := ((Keeps.refl _ wr).alloc o).trans hk (fun _ _ h => h)
 have far : ∀ b, b < w.heap.size + 2 → ¬ (v.ownBlock = some b) := fun b hb e => by have := ho.lt e; omega
 have hlt : n < ps.length := getElem?_lt hp
 refine ⟨h.k.trans k2 (fun x hx e => far x (by omega) e), ?_, ?_, ⟨l0 ++ [a], by simp [hl], ?_, ho9⟩⟩
 ·obtain ⟨r, hr⟩ := h.src
  have := h.size
  exact ⟨r, hr.keeps k2 (fun b hb => by have hb' : b < w.heap.size := hb; exact ⟨by omega, far b (by omega)⟩) (far _ (by omega))⟩
 ·obtain ⟨lh, q1, q2⟩ := h.held
  exact ⟨lh, q1, q2.kept k2 (far _ (by omega))⟩
 ·rw [List.take_add_one, hp]
  exact goodFrom_snoc _ _ _ _ (by simp; omega) hg hok

set_option maxRecDepth 100000 in
set_option maxHeartbeats 1000000 in
theorem At_any (ps : List (List Stage)) (l : List Int) (A A2 : Option Addr) (c c2 : Nat) (w : World) (h : RPaths w (Old w) [.slice A ps.length c] ps) (h2 : RInts w (Old w) [.slice A2 l.length c2] l) (hs8 : secs8 ps) (hps : ps.length ≤ 1000) (hpl : ∀ p ∈ ps, p.length ≤ 1000) :
  Calls Try.prog 34 #[.slice A ps.length c, .slice A2 l.length c2] w fun e w' => ∃ v at_, e = .returned v ∧ RInts w' (Fresh w w') [v] at_ ∧ good ps at_ = true ∧ KeepsAll w w' := by
 have hc := h.caps
 have H := Lib.hid h; clear h
 have H2 := Lib.hid h2; clear h2
 have HS8 := Lib.hid hs8; clear hs8
 have HPL := Lib.hid hpl; clear hpl
 go_enter Try.func34, Try.ntmps34
 go_wp2_with (go_at_call 35; refine (From_any w A2 c2 l H2.out).mono ?_; rintro e w1 ⟨rfl, hsrc1, hk1, hz1⟩)
 generalize hw2 : World.alloc w1 _ = w2
 have hi0 : AtInv w ps w2 (.slice none 0 0) 0 := by
  subst hw2
  refine ⟨hk1.alloc _, ⟨l, hsrc1.keeps ((Keeps.refl (fun _ => False) _).alloc _) (fun b hb => ⟨by have : b < w.heap.size := hb; omega, by simp⟩) (by simp)⟩, ⟨List.replicate 8 false, by simp, ?_⟩, ⟨[], rfl, by simp [goodFrom], OwnL.nil⟩⟩
  exact Blk.new' _ _ _ (by omega)
 clear hw2 hsrc1 hk1 hz1
 go_loopw [6, 15] (fun v i wr => ∃ k : Nat, k ≤ ps.length ∧ i = .int .i64 k ∧ AtInv w ps wr v k) (fun _ i _ => ps.length - (intOf i).toNat)
 case atStart => exact ⟨0, Nat.zero_le _, rfl, hi0⟩
 case round =>
  obtain ⟨k, hk, rfl, hinv⟩ := hrel
  clear hi0
  by_cases hlt : k < ps.length
  ·obtain ⟨b, o, p, A', c', rfl, hb, hx, kx, hp⟩ := RSS.at_ H.out hlt
   have kx' := (hinv.k.cell (p := ⟨b, o + k, none⟩) hb (by simp)).trans kx
   have hpl := HPL.out p (List.mem_of_getElem? hx)
   have hcp := hp.caps
   have HX := Lib.hid hx; clear hx kx
   have HP := Lib.hid hp; clear hp
   have hz := hinv.size
   obtain ⟨rest, hsrc⟩ := hinv.src
   have INV0 := Lib.hid hinv; clear hinv
   go_wp2_with fail
   refine (Next_any _ (Old w) w.heap.size rest _ (by omega) (by omega) hsrc (fun b hb => ⟨by have : b < w.heap.size := hb; omega, by have : b < w.heap.size := hb; omega⟩)).mono ?_
   rintro e w3 ⟨rfl, hsrc3, hk3, hz3⟩
   have hnr := nextV_range rest (↑p.length + 2) (by omega)
   generalize nextV rest (↑p.length + 2) = nx at hnr
   obtain ⟨nn, rfl⟩ := Int.eq_ofNat_of_zero_le hnr.1
   have INV3 : Hid (AtInv w ps w3 u6 k) := INV0.out.keep hk3 (fun b hb => .inl hb) ⟨_, hsrc3⟩ (by
    obtain ⟨lh, q1, q2⟩ := INV0.out.held
    exact ⟨lh, q1, q2.kept hk3 (by simp)⟩)
   have K3 := Lib.hid INV3.out.k
   clear hk3 hz3 hsrc kx'
   by_cases g1 : nn < 1
   ·have g1' : decide ((0 : Int) ≤ (nn : Int) - 1) = false := by simp; omega
    obtain ⟨l0, hl0, hg0, ho0⟩ := INV3.out.out
    have hlen0 : l0.length ≤ 1000 := by omega
    have hzf := INV3.out.size
    have HG0 := Lib.hid hg0; clear hg0
    have HL0 := Lib.hid hl0; clear hl0
    have HO := Lib.hid ho0; clear ho0
    have OK : Hid (okPos p ((nn : Int) - 1) = true) := by show okPos p ((nn : Int) - 1) = true; simp [okPos]; try omega
    go_wp2_with (at_builtin; refine wpList_append_L tyInt RInt.ok rfl (.tmp 61) (.tmp 63) rfl (HO.out.alloc RInt.ok _) rfl _ [.int .i64 ((nn : Int) - 1)] rfl (Blk.new _ _ _) rfl ((nn : Int) - 1) (S := fun _ => False) rfl (fun _ h => h.elim) (by simp [Value.oneCell']) (by omega) (by omega) (by simp; omega) ?_; intro v' w9 ho9 hk9 hat9)
    have INV9 : Hid (AtInv w ps w9 v' (k + 1)) := INV3.out.grow HO.out HL0.out HG0.out HX.out OK.out ho9 hk9
    clear ho9 hk9 hat9
    go_wp2
    go_roundw
    case rel => exact ⟨k + 1, by omega, by go_num, INV9.out⟩
    case measure => simp [intOf]; omega
   by_cases g2 : p.length + 1 ≤ nn
   ·have g2' : decide ((nn : Int) - 1 < (p.length : Int)) = false := by simp; omega
    have g1' : decide ((0 : Int) ≤ (nn : Int) - 1) = true := by simp; omega
    obtain ⟨l0, hl0, hg0, ho0⟩ := INV3.out.out
    have hlen0 : l0.length ≤ 1000 := by omega
    have hzf := INV3.out.size
    have HG0 := Lib.hid hg0; clear hg0
    have HL0 := Lib.hid hl0; clear hl0
    have HO := Lib.hid ho0; clear ho0
    have OK : Hid (okPos p ((nn : Int) - 1) = true) := by show okPos p ((nn : Int) - 1) = true; simp [okPos]; try omega
    go_wp2_with (at_builtin; refine wpList_append_L tyInt RInt.ok rfl (.tmp 61) (.tmp 63) rfl (HO.out.alloc RInt.ok _) rfl _ [.int .i64 ((nn : Int) - 1)] rfl (Blk.new _ _ _) rfl ((nn : Int) - 1) (S := fun _ => False) rfl (fun _ h => h.elim) (by simp [Value.oneCell']) (by omega) (by omega) (by simp; omega) ?_; intro v' w9 ho9 hk9 hat9)
    have INV9 : Hid (AtInv w ps w9 v' (k + 1)) := INV3.out.grow HO.out HL0.out HG0.out HX.out OK.out ho9 hk9
    clear ho9 hk9 hat9
    go_wp2
    go_roundw
    case rel => exact ⟨k + 1, by omega, by go_num, INV9.out⟩
    case measure => simp [intOf]; omega
   have hj : (nn - 1) < p.length := by omega
   obtain ⟨b5, o5, s, A5, c5, rfl, hb5, hs5, k5, _⟩ := RPath.at_ HP.out hj
   have k5' := (K3.out.cell (p := ⟨b5, o5 + (nn - 1) * 4, none⟩) hb5 (by simp)).trans k5
   have hs8 := HS8.out p (List.mem_of_getElem? HX.out) s (List.mem_of_getElem? hs5)
   obtain ⟨q, hq⟩ : ∃ q : Nat, s.sec = q := ⟨s.sec.toNat, by omega⟩
   rw [hq] at k5' hs8
   clear k5 hq hs5
   obtain ⟨lh, hlh, hbh⟩ := INV3.out.held
   have hqq : q < lh.length := by omega
   obtain ⟨hv, hhv⟩ := cellsB'_get hqq
   have kh := (hbh.cell q).trans hhv
   have kf := hbh.frozen q
   have HBH := Lib.hid hbh; clear hbh hhv
   have g1' : decide ((0 : Int) ≤ (nn : Int) - 1) = true := by simp; omega
   have g2' : decide ((nn : Int) - 1 < (p.length : Int)) = true := by simp; omega
   have hz3 := INV3.out.size
   cases hv with
   | false =>
    have INVS : Hid (AtInv w ps (w3.setCell ⟨w.heap.size + 1, q, none⟩ (.bool true)) u6 k) := INV3.out.mark hlh HBH.out q
    obtain ⟨l0, hl0, hg0, ho0⟩ := INVS.out.out
    have hlen0 : l0.length ≤ 1000 := by omega
    have hzf := INVS.out.size
    have HG0 := Lib.hid hg0; clear hg0
    have HL0 := Lib.hid hl0; clear hl0
    have HO := Lib.hid ho0; clear ho0
    have OK : Hid (okPos p ((nn : Int) - 1) = true) := by show okPos p ((nn : Int) - 1) = true; simp [okPos]; try omega
    go_wp2_with (at_builtin; refine wpList_append_L tyInt RInt.ok rfl (.tmp 61) (.tmp 63) rfl (HO.out.alloc RInt.ok _) rfl _ [.int .i64 ((nn : Int) - 1)] rfl (Blk.new' _ _ _ (by simp)) rfl ((nn : Int) - 1) (S := fun _ => False) rfl (fun _ h => h.elim) (by simp [Value.oneCell']) (by omega) (by omega) (by simp; omega) ?_; intro v' w9 ho9 hk9 hat9)
    have INV9 : Hid (AtInv w ps w9 v' (k + 1)) := INVS.out.grow HO.out HL0.out HG0.out HX.out OK.out ho9 hk9
    clear ho9 hk9 hat9
    go_wp2
    go_roundw
    case rel => exact ⟨k + 1, by omega, by go_num, INV9.out⟩
    case measure => simp [intOf]; omega
   | true =>
    obtain ⟨rest4, hsrc4⟩ := INV3.out.src
    go_wp2_with fail
    refine (Next_any _ (Old w) w.heap.size rest4 _ (by omega) (by omega) hsrc4 (fun b hb => ⟨by have : b < w.heap.size := hb; omega, by have : b < w.heap.size := hb; omega⟩)).mono ?_
    rintro e w4 ⟨rfl, hsrc5, hk4, hz4⟩
    have INV4 : Hid (AtInv w ps w4 u6 k) := INV3.out.keep hk4 (fun b hb => .inl hb) ⟨_, hsrc5⟩ ⟨lh, hlh, HBH.out.kept hk4 (by simp)⟩
    have HBH4 := Lib.hid (HBH.out.kept hk4 (by simp))
    have kh4 := (hk4.cell (p := ⟨w.heap.size + 1, q, none⟩) hz3 (by simp)).trans kh
    have kf4 := HBH4.out.frozen q
    have k54 := (hk4.cell (p := ⟨b5, o5 + (nn - 1) * 4, none⟩) (by have : b5 < w.heap.size := hb5; show b5 < _; omega) (by have : b5 < w.heap.size := hb5; show ¬ b5 = _; omega)).trans k5'
    have hm := nextV_range rest4 8 (by omega)
    generalize nextV rest4 8 = m at hm
    clear hk4 hz4 hsrc4 hsrc5 kh kf k5'
    by_cases g3 : 0 < m
    ·have g3' : decide (0 < m) = true := by simpa using g3
     obtain ⟨l0, hl0, hg0, ho0⟩ := INV4.out.out
     have hlen0 : l0.length ≤ 1000 := by omega
     have hzf := INV4.out.size
     have HG0 := Lib.hid hg0; clear hg0
     have HL0 := Lib.hid hl0; clear hl0
     have HO := Lib.hid ho0; clear ho0
     have OK : Hid (okPos p (-1) = true) := by show okPos p (-1) = true; simp [okPos]; try omega
     go_wp2_with (at_builtin; refine wpList_append_L tyInt RInt.ok rfl (.tmp 61) (.tmp 63) rfl (HO.out.alloc RInt.ok _) rfl _ [.int .i64 (-1)] rfl (Blk.new' _ _ _ (by simp)) rfl (-1) (S := fun _ => False) rfl (fun _ h => h.elim) (by simp [Value.oneCell']) (by omega) (by omega) (by simp; omega) ?_; intro v' w9 ho9 hk9 hat9)
     have INV9 : Hid (AtInv w ps w9 v' (k + 1)) := INV4.out.grow HO.out HL0.out HG0.out HX.out OK.out ho9 hk9
     clear ho9 hk9 hat9
     go_wp2
     go_roundw
     case rel => exact ⟨k + 1, by omega, by go_num, INV9.out⟩
     case measure => simp [intOf]; omega
    ·have g3' : decide (0 < m) = false := by simpa using g3
     have hz5 := INV4.out.size
     have INVS : Hid (AtInv w ps (w4.setCell ⟨w.heap.size + 1, q, none⟩ (.bool true)) u6 k) := INV4.out.mark hlh HBH4.out q
     obtain ⟨l0, hl0, hg0, ho0⟩ := INVS.out.out
     have hlen0 : l0.length ≤ 1000 := by omega
     have hzf := INVS.out.size
     have HG0 := Lib.hid hg0; clear hg0
     have HL0 := Lib.hid hl0; clear hl0
     have HO := Lib.hid ho0; clear ho0
     have OK : Hid (okPos p ((nn : Int) - 1) = true) := by show okPos p ((nn : Int) - 1) = true; simp [okPos]; try omega
     go_wp2_with (at_builtin; refine wpList_append_L tyInt RInt.ok rfl (.tmp 61) (.tmp 63) rfl (HO.out.alloc RInt.ok _) rfl _ [.int .i64 ((nn : Int) - 1)] rfl (Blk.new' _ _ _ (by simp)) rfl ((nn : Int) - 1) (S := fun _ => False) rfl (fun _ h => h.elim) (by simp [Value.oneCell']) (by omega) (by omega) (by simp; omega) ?_; intro v' w9 ho9 hk9 hat9)
     have INV9 : Hid (AtInv w ps w9 v' (k + 1)) := INVS.out.grow HO.out HL0.out HG0.out HX.out OK.out ho9 hk9
     clear ho9 hk9 hat9
     go_wp2
     go_roundw
     case rel => exact ⟨k + 1, by omega, by go_num, INV9.out⟩
     case measure => simp [intOf]; omega
  ·obtain rfl : k = ps.length := by omega
   obtain ⟨l9, hl9, hg9, ho9⟩ := hinv.out
   have R9 := Lib.hid (ho9.read RInt.ok (by omega) (S := Fresh w wr) (fun b h1 h2 => ⟨by omega, h2⟩) (fun b h1 h2 => ⟨by omega, h2⟩))
   have G9 : Hid (good ps l9 = true) := by
    show good ps l9 = true
    rw [List.take_length] at hg9
    simp [good, hl9, hg9]
   have K9 := Lib.hid hinv.k
   clear hinv ho9 hl9 hg9
   go_wp2
   go_ret
   exact ⟨_, l9, rfl, R9.out, G9.out, K9.out⟩

def AllRd {α : Type} (size : Nat) (E : Rd α) (w : World) (S : Foot) : List (List Value) → List α → Prop
 | [], [] => True
 | es :: r, x :: l => (es.length = size ∧ E w S es x) ∧ AllRd size E w S r l
 | _, _ => False
theorem AllRd.spec {α : Type} {size : Nat} {E : Rd α} {w : World} {S : Foot} : ∀ {ess : List (List Value)} {l : List α}, AllRd size E w S ess l → ess.length = l.length ∧ (∀ es ∈ ess, es.length = size) ∧ ∀ (j : Nat) es x, ess[j]? = some es → l[j]? = some x → E w S es x
 | [], [], _ => by simp
 | es :: r, x :: l, h => by
  obtain ⟨h1, h2, h3⟩ := AllRd.spec h.2
  refine ⟨by simp [h1], fun es' hes => ?_, fun j es' x' he hx => ?_⟩
  ·rcases List.mem_cons.1 hes with rfl | hes
   ·exact h.1.1
   ·exact h2 es' hes
  ·cases j with
   | zero => simp at he hx; subst he hx; exact h.1.2
   | succ j => exact h3 j es' x' (by simpa using he) (by simpa using hx)
 | [], _ :: _, h => h.elim
 | _ :: _, [], h => h.elim
theorem RSlice.ofBlk {α : Type} {size : Nat} {E : Rd α} {w : World} {S : Foot} {b : Nat} {t : TypeId} {cs : Array Value} (hb : Blk w b t cs) (hS : S b) (ess : List (List Value)) (l : List α) (hc : cs.toList = ess.flatten) (h : AllRd size E w S ess l) (hl : l.length ≤ 9223372036854775807) :
  RSlice size E w S [.slice (some ⟨b, 0, none⟩) l.length l.length] l := by
 obtain ⟨h1, h2, h3⟩ := h.spec
 refine ⟨_, _, rfl, Nat.le_refl _, hl, fun _ => ⟨b, 0, rfl, hS, fun j x hx => ?_⟩⟩
 have hj : j < ess.length := by rw [h1]; exact getElem?_lt hx
 have he : ess[j]? = some ess[j] := List.getElem?_eq_getElem hj
 have hsz := h2 ess[j] (List.getElem_mem hj)
 refine ⟨ess[j], hsz, h3 j _ x he hx, fun i u hu => ?_⟩
 have hi : i < size := by rw [← hsz]; exact getElem?_lt hu
 rw [Nat.zero_add, hb.cell, ← Array.getElem?_toList, hc, flatten_at h2 he hi]
 exact hu
theorem RInts.ofBlk {w : World} {S : Foot} {b : Nat} {t : TypeId} (l : List Int) (hb : Blk w b t (l.map (Value.int .i64)).toArray) (hS : S b) (hl : l.length ≤ 9223372036854775807) : RInts w S [.slice (some ⟨b, 0, none⟩) l.length l.length] l := by
 refine RSlice.ofBlk hb hS (l.map fun x => [.int .i64 x]) l ?_ ?_ hl
 ·clear hb hl hS
  induction l with
  | nil => rfl
  | cons a l ih => simp only [List.map_cons, List.flatten_cons, List.singleton_append] at ih ⊢; rw [← ih]
 ·clear hb hl hS
  induction l with
  | nil => trivial
  | cons a l ih => exact ⟨⟨rfl, rfl⟩, ih⟩

def cellsI (l : List Int) : Array Value := (l.map (Value.int .i64)).toArray
theorem cellsI_at {l : List Int} {n : Nat} {x : Int} (h : l[n]? = some x) : (cellsI l)[n]? = some (.int .i64 x) := by simp [cellsI, h]
theorem cellsI_set (l : List Int) (n : Nat) (x : Int) : (cellsI l).setIfInBounds n (.int .i64 x) = cellsI (l.set n x) := by simp [cellsI, List.map_set]
theorem madeCells_one (z : Value) (n : Nat) : madeCells #[z] n = (List.replicate n z).toArray := by
 apply Array.ext
 ·simp [madeCells]
 ·intro i h1 h2
  simp [madeCells, Nat.mod_one]
theorem mkInts (n : Nat) (hn : n ≤ 1000000) (W : World) : (Instr.makeSlice 22 (.int .i64 (n : Int)) (.int .i64 (n : Int))).run Try.prog W = .ok (.slice (some ⟨W.heap.size, 0, none⟩) n n) (W.alloc (.cells (cellsI (List.replicate n 0)) 3)) := by
 have h := run_make_row' (P := Try.prog) 22 3 (.int .i64 0) 8 Try.underlying22 (by kernel_rfl) rfl .i64 .i64 n (by omega) (by omega) W
 rw [madeCells_one] at h
 rw [h]; simp [cellsI]

theorem RRefs.at_ {w : World} {S : Foot} {A : Option Addr} {n c : Nat} {l : List Ref} (h : RRefs w S [.slice A n c] l) {k : Nat} (hk : k < l.length) :
  ∃ b o u, A = some ⟨b, o, none⟩ ∧ S b ∧ l[k]? = some u ∧ w.cell? ⟨b, o + k * 2, none⟩ = some (.int .i64 u.tr) ∧ w.cell? ⟨b, o + k * 2 + 1, none⟩ = some (.int .i64 u.st) := by
 obtain ⟨b, o, u, es, rfl, hb, hx, h1, h2, h3⟩ := h.get hk
 cases h2
 exact ⟨b, o, u, rfl, hb, hx, by simpa using h3 0 _ rfl, by simpa [Nat.add_assoc] using h3 1 _ rfl⟩
theorem ROrders.at_ {w : World} {S : Foot} {A : Option Addr} {n c : Nat} {l : List Order} (h : ROrders w S [.slice A n c] l) {k : Nat} (hk : k < l.length) :
  ∃ b o x A' c', A = some ⟨b, o, none⟩ ∧ S b ∧ l[k]? = some x ∧ w.cell? ⟨b, o + k * 2, none⟩ = some (.int .i64 x.res) ∧ w.cell? ⟨b, o + k * 2 + 1, none⟩ = some (.slice A' x.uses.length c') ∧ RRefs w S [.slice A' x.uses.length c'] x.uses := by
 obtain ⟨b, o, x, es, rfl, hb, hx, h1, ⟨v, rfl, hv⟩, h3⟩ := h.get hk
 have hv' := hv
 obtain ⟨A', c', he, _⟩ := hv'
 injection he with he _; subst he
 exact ⟨b, o, x, A', c', rfl, hb, hx, by simpa using h3 0 _ rfl, by simpa [Nat.add_assoc] using h3 1 _ rfl, hv⟩

abbrev stC (s : Stage) (Ap : Option Addr) (cp : Nat) : Array Value := #[.int .i64 s.sec, .slice Ap s.pts.length cp, .int .i64 s.mn, .int .i64 s.nt]
theorem mem_stUses (s : Stage) (r : Int) : decide (r ∈ stUses s) = (s.sec == r || decide (r ∈ s.pts)) := by
 rw [Bool.eq_iff_iff]
 simp only [stUses, List.mem_cons, Bool.or_eq_true, beq_iff_eq, decide_eq_true_eq]
 constructor
 ·rintro (h | h)
  ·exact .inl h.symm
  ·exact .inr h
 ·rintro (h | h)
  ·exact .inl h.symm
  ·exact .inr h

set_option maxHeartbeats 400000 in
theorem Uses_any (s : Stage) (r : Int) (Ap : Option Addr) (cp : Nat) (w : World) (h : RInts w (Old w) [.slice Ap s.pts.length cp] s.pts) :
  Calls Try.prog 61 #[.agg (stC s Ap cp), .int .i64 r] w fun e w' => e = .returned (.tuple #[.bool (decide (r ∈ stUses s)), .bool (s.sec == r)]) ∧ KeepsAll w w' := by
 have hc := h.caps
 have HA : Hid (∀ o, RInts (w.alloc o) (Old (w.alloc o)) [.slice Ap s.pts.length cp] s.pts) := fun o => ((Keeps.refl (fun _ => False) w).alloc o).rd RInts.ok h (fun b hb => ⟨hb, by simp⟩) (fun b hb => by have : b < w.heap.size := hb; show b < _; simp; omega)
 have HM := Lib.hid (mem_stUses s r)
 clear h
 by_cases g : (s.sec == r) = true
 ·have HM2 : Hid (decide (r ∈ stUses s) = true) := by rw [HM.out, g]; rfl
  clear HM
  go_enter Try.func61, Try.ntmps61
  go_wp2
  go_ret2
  exact ⟨by rw [HM2.out, g]; rfl, (Keeps.refl _ _).alloc _⟩
 ·have g' : (s.sec == r) = false := by simpa using g
  have HM2 : Hid (decide (r ∈ stUses s) = decide (r ∈ s.pts)) := by show decide (r ∈ stUses s) = decide (r ∈ s.pts); rw [HM.out, g', Bool.false_or]
  clear HM
  go_enter Try.func61, Try.ntmps61
  go_wp2
  generalize hW : World.alloc w _ = W
  have HR : Hid (RInts W (Old W) [.slice Ap s.pts.length cp] s.pts) := by subst hW; exact HA.out _
  have KW : Hid (KeepsAll w W) := by subst hW; exact (Keeps.refl _ _).alloc _
  clear hW HA
  go_loop [15] (fun i => ∃ k : Nat, k ≤ s.pts.length ∧ i = .int .i64 k ∧ r ∉ s.pts.take k) (fun i => s.pts.length - (intOf i).toNat)
  case atStart => exact ⟨0, Nat.zero_le _, rfl, by simp⟩
  case round =>
   obtain ⟨k, hk, rfl, hno⟩ := hrel
   have HNO := Lib.hid hno; clear hno
   by_cases hlt : k < s.pts.length
   ·obtain ⟨b, o, y, rfl, _, hy, k1⟩ := HR.out.at_ hlt
    by_cases g2 : (y == r) = true
    ·have Q : Hid (decide (r ∈ s.pts) = true) := by
      have : y = r := by simpa using g2
      subst this
      show decide (y ∈ s.pts) = true
      simpa using List.mem_of_getElem? hy
     clear hy
     go_wp2
     go_ret2
     exact ⟨by rw [HM2.out, Q.out]; rfl, KW.out⟩
    ·have g2' : (y == r) = false := by simpa using g2
     have Q : Hid (r ∉ s.pts.take (k + 1)) := by
      show ¬ _
      rw [List.take_add_one, hy]; simp
      exact ⟨by simpa using HNO.out, fun e => by simp [e] at g2'⟩
     clear hy
     go_wp2
     go_round
     case rel => exact ⟨k + 1, by omega, by go_num, Q.out⟩
     case measure => simp [intOf]; omega
   ·obtain rfl : k = s.pts.length := by omega
    have Q : Hid (decide (r ∈ s.pts) = false) := by
     show decide (r ∈ s.pts) = false
     have := HNO.out; rw [List.take_length] at this
     simpa using this
    go_wp2
    go_ret2
    exact ⟨by rw [HM2.out, Q.out]; rfl, KW.out⟩

theorem Keeps.rdo' {α : Type} {E : Rd α} (hE : Rd.Ok E) {a b : World} (k : KeepsAll a b) {cs : List Value} {x : α} (h : E a (Old a) cs x) : E b (Old b) cs x :=
 k.rd hE h (fun b hb => ⟨hb, by simp⟩) (fun b hb => Nat.lt_of_lt_of_le hb k.size)
theorem Keeps.tr {a b c : World} (k : KeepsAll a b) (k' : KeepsAll b c) : KeepsAll a c := k.trans k' (fun _ _ h => h)
theorem Keeps.cellK {a b : World} (k : KeepsAll a b) {p : Addr} {v : Value} (hp : p.block < a.heap.size) (h : a.cell? p = some v) : b.cell? p = some v := (k.cell hp (by simp)).trans h
section
variable {w wr : World} {A : Option Addr} {n c : Nat}
theorem RInts.atK {l : List Int} (K : KeepsAll w wr) (h : RInts w (Old w) [.slice A n c] l) {k : Nat} (hk : k < l.length) :
  ∃ b o x, A = some ⟨b, o, none⟩ ∧ b < wr.heap.size ∧ l[k]? = some x ∧ wr.cell? ⟨b, o + k, none⟩ = some (.int .i64 x) := by
 obtain ⟨b, o, x, rfl, hb, hx, h1⟩ := h.at_ hk
 exact ⟨b, o, x, rfl, Nat.lt_of_lt_of_le hb K.size, hx, K.cellK hb h1⟩
theorem RSS.atK {α : Type} {size : Nat} {E : Rd α} {l : List (List α)} (K : KeepsAll w wr) (h : RSlice 1 (RSlice size E) w (Old w) [.slice A n c] l) {k : Nat} (hk : k < l.length) :
  ∃ b o x A' c', A = some ⟨b, o, none⟩ ∧ b < wr.heap.size ∧ l[k]? = some x ∧ wr.cell? ⟨b, o + k, none⟩ = some (.slice A' x.length c') ∧ RSlice size E w (Old w) [.slice A' x.length c'] x := by
 obtain ⟨b, o, x, A', c', rfl, hb, hx, h1, h2⟩ := RSS.at_ h hk
 exact ⟨b, o, x, A', c', rfl, Nat.lt_of_lt_of_le hb K.size, hx, K.cellK hb h1, h2⟩
theorem RPath.atK {l : List Stage} (K : KeepsAll w wr) (h : RPath w (Old w) [.slice A n c] l) {k : Nat} (hk : k < l.length) :
  ∃ b o s A' c', A = some ⟨b, o, none⟩ ∧ b < wr.heap.size ∧ l[k]? = some s ∧ wr.cell? ⟨b, o + k * 4, none⟩ = some (.int .i64 s.sec) ∧ wr.cell? ⟨b, o + k * 4 + 1, none⟩ = some (.slice A' s.pts.length c') ∧
   wr.cell? ⟨b, o + k * 4 + 2, none⟩ = some (.int .i64 s.mn) ∧ wr.cell? ⟨b, o + k * 4 + 3, none⟩ = some (.int .i64 s.nt) ∧ RInts w (Old w) [.slice A' s.pts.length c'] s.pts := by
 obtain ⟨b, o, s, A', c', rfl, hb, hx, h0, h1, h2, h3, h4⟩ := RPath.at_ h hk
 exact ⟨b, o, s, A', c', rfl, Nat.lt_of_lt_of_le hb K.size, hx, K.cellK hb h0, K.cellK hb h1, K.cellK hb h2, K.cellK hb h3, h4⟩
theorem RRefs.atK {l : List Ref} (K : KeepsAll w wr) (h : RRefs w (Old w) [.slice A n c] l) {k : Nat} (hk : k < l.length) :
  ∃ b o u, A = some ⟨b, o, none⟩ ∧ b < wr.heap.size ∧ l[k]? = some u ∧ wr.cell? ⟨b, o + k * 2, none⟩ = some (.int .i64 u.tr) ∧ wr.cell? ⟨b, o + k * 2 + 1, none⟩ = some (.int .i64 u.st) := by
 obtain ⟨b, o, u, rfl, hb, hx, h0, h1⟩ := RRefs.at_ h hk
 exact ⟨b, o, u, rfl, Nat.lt_of_lt_of_le hb K.size, hx, K.cellK hb h0, K.cellK hb h1⟩
theorem ROrders.atK {l : List Order} (K : KeepsAll w wr) (h : ROrders w (Old w) [.slice A n c] l) {k : Nat} (hk : k < l.length) :
  ∃ b o x A' c', A = some ⟨b, o, none⟩ ∧ b < wr.heap.size ∧ l[k]? = some x ∧ wr.cell? ⟨b, o + k * 2, none⟩ = some (.int .i64 x.res) ∧ wr.cell? ⟨b, o + k * 2 + 1, none⟩ = some (.slice A' x.uses.length c') ∧ RRefs w (Old w) [.slice A' x.uses.length c'] x.uses := by
 obtain ⟨b, o, x, A', c', rfl, hb, hx, h0, h1, h2⟩ := ROrders.at_ h hk
 exact ⟨b, o, x, A', c', rfl, Nat.lt_of_lt_of_le hb K.size, hx, K.cellK hb h0, K.cellK hb h1, h2⟩
end

def Rd.Flat {α : Type} (E : Rd α) : Prop := ∀ w S w' S' cs x, E w S cs x → E w' S' cs x
theorem RInt.flat : Rd.Flat RInt := fun _ _ _ _ _ _ h => h
theorem RBool.flat : Rd.Flat RBool := fun _ _ _ _ _ _ h => h
theorem RRef.flat : Rd.Flat RRef := fun _ _ _ _ _ _ h => h
def RGArc : Rd GArc := fun _ _ cs a => cs = [.int .i64 a.frm, .int .i64 a.wt]
theorem RGArc.ok : Rd.Ok RGArc := ⟨fun h _ _ => h⟩
theorem RGArc.flat : Rd.Flat RGArc := fun _ _ _ _ _ _ h => h
abbrev RArcs := RSlice 2 RGArc
abbrev RArcss := RSlice 1 RArcs
theorem RArcs.ok : Rd.Ok RArcs := RSlice.ok RGArc.ok
theorem RArcss.ok : Rd.Ok RArcss := RSlice.ok RArcs.ok
theorem RArcs.atK {w wr : World} {A : Option Addr} {n c : Nat} {l : List GArc} (K : KeepsAll w wr) (h : RArcs w (Old w) [.slice A n c] l) {k : Nat} (hk : k < l.length) :
  ∃ b o u, A = some ⟨b, o, none⟩ ∧ b < wr.heap.size ∧ l[k]? = some u ∧ wr.cell? ⟨b, o + k * 2, none⟩ = some (.int .i64 u.frm) ∧ wr.cell? ⟨b, o + k * 2 + 1, none⟩ = some (.int .i64 u.wt) := by
 obtain ⟨b, o, u, es, rfl, hb, hx, h1, h2, h3⟩ := h.get hk
 cases h2
 exact ⟨b, o, u, rfl, Nat.lt_of_lt_of_le hb K.size, hx, K.cellK hb (by simpa using h3 0 _ rfl), K.cellK hb (by simpa [Nat.add_assoc] using h3 1 _ rfl)⟩

theorem OwnL.keepsF {α : Type} {t size : Nat} {E : Rd α} {w w' : World} {base lo : Nat} {v : Value} {l : List α} (hF : Rd.Flat E) {C : Foot} (h : OwnL t size E w base lo v l) (k : Keeps C w w') (hC : ∀ b, v.ownBlock = some b → ¬ C b) : OwnL t size E w' base lo v l := by
 obtain ⟨ess, h1, h2, h3⟩ := h
 refine ⟨ess, h1, ?_, fun j x hx => ?_⟩
 ·refine ⟨h2.1, ?_⟩
  rcases h2.2 with hn | ⟨g, cap, cur, e, hb, hh, rest⟩
  ·exact .inl hn
  ·have hlt := (Array.getElem?_eq_some_iff.1 hh).1
   exact .inr ⟨g, cap, cur, e, hb, (k.block g hlt (hC g (by rw [e]; rfl))).trans hh, rest⟩
 ·obtain ⟨es, e1, e2, e3⟩ := h3 j x hx
  exact ⟨es, e1, e2, hF _ _ _ _ _ _ e3⟩
theorem OwnL.readF {α : Type} {t size : Nat} {E : Rd α} {w : World} {base lo : Nat} {v : Value} {l : List α} (_hE : Rd.Ok E) (hF : Rd.Flat E) (h : OwnL t size E w base lo v l) {S : Foot} (hS : ∀ b, v.ownBlock = some b → S b) : RSlice size E w S [v] l := by
 obtain ⟨ess, h1, h2, h3⟩ := h
 have hall : ∀ es ∈ ess, es.length = size := by
  intro es hes
  obtain ⟨j, hj, e⟩ := List.getElem_of_mem hes
  have hl : j < l.length := by omega
  obtain ⟨es', e1, e2, _⟩ := h3 j l[j] (List.getElem?_eq_getElem hl)
  rw [List.getElem?_eq_getElem hj, e] at e1
  injection e1 with e1; subst e1; exact e2
 rcases h2.2 with ⟨rfl, hn⟩ | ⟨g, cap, cur, rfl, hb, hh, hnc, hcm, hcs, htk⟩
 ·have : l = [] := List.eq_nil_of_length_eq_zero hn
  subst this
  exact RSlice.mkNil
 ·refine ⟨_, cap, rfl, hnc, hcm, fun _ => ⟨g, 0, rfl, hS g rfl, fun j x hx => ?_⟩⟩
  obtain ⟨es, e1, e2, e3⟩ := h3 j x hx
  refine ⟨es, e2, hF _ _ _ _ _ _ e3, fun i u hu => ?_⟩
  have hi : i < size := by rw [← e2]; exact (List.getElem?_eq_some_iff.1 hu).1
  have hj : j < l.length := (List.getElem?_eq_some_iff.1 hx).1
  have hf := flatten_at hall e1 hi
  rw [hu, ← htk] at hf
  have hk : j * size + i < l.length * size := by
   have : (j + 1) * size ≤ l.length * size := Nat.mul_le_mul_right _ hj
   rw [Nat.succ_mul] at this; omega
  rw [List.getElem?_take_of_lt hk] at hf
  simp only [World.cell?, hh, Option.isSome_none, Nat.zero_add]
  simpa using hf

structure Rows {α : Type} (tr te size : Nat) (E : Rd α) (w : World) (base B : Nat) (vs : List Value) (ll : List (List α)) : Prop where
 blk : Blk w B tr vs.toArray
 len : vs.length = ll.length
 own : ∀ (i : Nat) v l, vs[i]? = some v → ll[i]? = some l → OwnL te size E w base base v l
 ne : ∀ (i j : Nat) u v b, i ≠ j → vs[i]? = some u → vs[j]? = some v → u.ownBlock = some b → v.ownBlock ≠ some b
 nb : B < base
section
variable {α : Type} {tr te size : Nat} {E : Rd α} {w w' : World} {base B : Nat} {vs : List Value} {ll : List (List α)}
theorem Rows.keeps (hF : Rd.Flat E) {C : Foot} (h : Rows tr te size E w base B vs ll) (k : Keeps C w w') (hB : ¬ C B) (hC : ∀ b, base ≤ b → b < w.heap.size → ¬ C b) : Rows tr te size E w' base B vs ll :=
 ⟨h.blk.kept k hB, h.len, fun i v l hv hl => (h.own i v l hv hl).keepsF hF k (fun b hb => by have := (h.own i v l hv hl).lt hb; exact hC b this.1 this.2), h.ne, h.nb⟩
theorem Rows.get (h : Rows tr te size E w base B vs ll) {i : Nat} (hi : i < ll.length) : ∃ v l, vs[i]? = some v ∧ ll[i]? = some l ∧ OwnL te size E w base base v l ∧ w.cell? ⟨B, i, none⟩ = some v ∧ w.frozen? ⟨B, i, none⟩ = false := by
 have hv : vs[i]? = some (vs[i]'(by rw [h.len]; exact hi)) := List.getElem?_eq_getElem _
 have hl : ll[i]? = some ll[i] := List.getElem?_eq_getElem hi
 exact ⟨_, _, hv, hl, h.own i _ _ hv hl, by rw [h.blk.cell]; simp, h.blk.frozen i⟩
theorem Rows.push (hF : Rd.Flat E) (h : Rows tr te size E w base B vs ll) {i : Nat} {v v' : Value} {l l' : List α} (hv : vs[i]? = some v) (hl : ll[i]? = some l) (_hbase : base ≤ w.heap.size) (ho : OwnL te size E w' base base v' l') (hk : Keeps (fun b => v.ownBlock = some b) w w') (hn : v'.ownBlock = v.ownBlock ∨ v'.ownBlock = some w.heap.size) :
  Rows tr te size E (w'.setCell ⟨B, i, none⟩ v') base B (vs.set i v') (ll.set i l') := by
 have hBv : ¬ (v.ownBlock = some B) := fun e => by have := (h.own i v l hv hl).lt e; have := h.nb; omega
 have hlt := h.blk.lt
 have hi := getElem?_lt hv
 have k2 : Keeps (fun b => b = B) w' (w'.setCell ⟨B, i, none⟩ v') := (Keeps.refl (fun b => b = B) w').setCell (p := ⟨B, i, none⟩) (fun _ => rfl) _
 have key : ∀ (j : Nat) u m, j ≠ i → vs[j]? = some u → ll[j]? = some m → OwnL te size E (w'.setCell ⟨B, i, none⟩ v') base base u m := fun j u m hj hu hm => by
  have h1 := (h.own j u m hu hm).keepsF hF hk (fun b hb e => h.ne j i u v b hj hu hv hb e)
  exact h1.keepsF hF k2 (fun b hb e => by have := h1.lt hb; have := h.nb; omega)
 refine ⟨?_, by simp [h.len], fun j u m hu hm => ?_, fun a b u u' x hab hu hu' hx => ?_, h.nb⟩
 ·have := (h.blk.kept hk hBv).set_ i v'
  have e : vs.toArray.setIfInBounds i v' = (vs.set i v').toArray := by simp
  rw [e] at this; exact this
 ·by_cases e : i = j
  ·subst e
   rw [List.getElem?_set_self hi] at hu
   rw [List.getElem?_set_self (by rw [← h.len]; exact hi)] at hm
   injection hu with hu; injection hm with hm; subst hu hm
   exact ho.keepsF hF k2 (fun b hb e => by have := ho.lt hb; have := h.nb; omega)
  ·rw [List.getElem?_set_ne e] at hu hm
   exact key j u m (fun h => e h.symm) hu hm
 ·by_cases e1 : i = a
  ·subst e1
   rw [List.getElem?_set_self hi] at hu
   injection hu with hu; subst hu
   rw [List.getElem?_set_ne hab] at hu'
   intro e2
   obtain ⟨m, hm⟩ : ∃ m, ll[b]? = some m := ⟨_, List.getElem?_eq_getElem (by rw [← h.len]; exact getElem?_lt hu')⟩
   rcases hn with hn | hn
   ·exact h.ne i b v u' x hab hv hu' (by rw [← hn]; exact hx) e2
   ·rw [hn] at hx; injection hx with hx; subst hx
    have := (h.own b u' m hu' hm).lt e2; omega
  ·rw [List.getElem?_set_ne e1] at hu
   by_cases e2 : i = b
   ·subst e2
    rw [List.getElem?_set_self hi] at hu'
    injection hu' with hu'; subst hu'
    obtain ⟨m, hm⟩ : ∃ m, ll[a]? = some m := ⟨_, List.getElem?_eq_getElem (by rw [← h.len]; exact getElem?_lt hu)⟩
    intro e3
    rcases hn with hn | hn
    ·exact h.ne a i u v x hab hu hv hx (by rw [← hn]; exact e3)
    ·rw [hn] at e3; injection e3 with e3; subst e3
     have := (h.own a u m hu hm).lt hx; omega
   ·rw [List.getElem?_set_ne e2] at hu'
    exact h.ne a b u u' x hab hu hu' hx
theorem Rows.new (n : Nat) {B : Nat} (hb : Blk w B tr (List.replicate n (Value.slice none 0 0)).toArray) (hB : B < base) : Rows tr te size E w base B (List.replicate n (.slice none 0 0)) (List.replicate n ([] : List α)) := by
 refine ⟨hb, by simp, fun i v l hv hl => ?_, fun i j u v b _ hu _ hx => ?_, hB⟩
 ·simp [List.getElem?_replicate] at hv hl
  obtain ⟨_, rfl⟩ := hv
  obtain ⟨_, rfl⟩ := hl
  exact OwnL.nil
 ·simp [List.getElem?_replicate] at hu
  obtain ⟨_, rfl⟩ := hu
  simp [Value.ownBlock] at hx
theorem Rows.read (hE : Rd.Ok E) (hF : Rd.Flat E) (h : Rows tr te size E w base B vs ll) (hl : ll.length ≤ 9223372036854775807) {S : Foot} (hB : S B) (hS : ∀ b, base ≤ b → b < w.heap.size → S b) : RSlice 1 (RSlice size E) w S [.slice (some ⟨B, 0, none⟩) ll.length ll.length] ll := by
 refine ⟨_, _, rfl, Nat.le_refl _, hl, fun _ => ⟨B, 0, rfl, hB, fun j x hx => ?_⟩⟩
 obtain ⟨v, l, hv, hl', ho, hc, _⟩ := h.get (getElem?_lt hx)
 obtain rfl := same_of hl' hx
 refine ⟨[v], rfl, ho.readF hE hF (fun b hb => by have := ho.lt hb; exact hS b this.1 this.2), fun i u hu => ?_⟩
 have hi : i = 0 := by
  rcases i with _ | i
  ·rfl
  ·simp at hu
 subst hi
 simp at hu; subst hu
 simpa using hc
end

theorem RSlice.val {α : Type} {size : Nat} {E : Rd α} {w : World} {S : Foot} {v : Value} {l : List α} (h : RSlice size E w S [v] l) : ∃ A c, v = .slice A l.length c ∧ l.length ≤ c ∧ c ≤ 9223372036854775807 := by
 obtain ⟨A, c, he, h1, h2, _⟩ := h; injection he with he _; exact ⟨A, c, he, h1, h2⟩

end Go.Proofs.Ytilbbpbjhoidhaa
