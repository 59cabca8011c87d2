/- Contracts of the makers of positions and paths: what they return fits. Conditions: as each theorem says. -/
import Derived.Test.YtbfgmbakeofcbaaGreatK03
namespace Go.Proofs.YtbfgmbakeofcbaaGreat
open Go.RowKit

theorem tyInt : ElemTy Tryz.prog 23 3 1 8 := .mk' Tryz.underlying23 (z := .int .i64 0) (by kernel_rfl) rfl (by omega)
theorem tyStage : ElemTy Tryz.prog 49 51 4 48 := .mk' Tryz.underlying49 (z := .agg #[.int .i64 0, .slice none 0 0, .int .i64 0, .int .i64 0]) (by kernel_rfl) rfl (by omega)
theorem tyPath : ElemTy Tryz.prog 22 49 1 24 := .mk' Tryz.underlying22 (z := .slice none 0 0) (by kernel_rfl) rfl (by omega)

def secs8 (ps : List (List Stage)) : Prop := ∀ p ∈ ps, ∀ s ∈ p, 0 ≤ s.sec ∧ s.sec < 8

def cellsB' (l : List Bool) : Array Value := (l.map Value.bool).toArray
theorem cellsB'_get {l : List Bool} {n : Nat} (hn : n < l.length) : ∃ b, (cellsB' l)[n]? = some (.bool b) := ⟨l[n], by simp [cellsB', hn]⟩
theorem cellsB'_set (l : List Bool) (n : Nat) : (cellsB' l).setIfInBounds n (.bool true) = cellsB' (l.set n true) := by simp [cellsB', List.map_set]

/-- keep2.At: the loop's state after n trains -/
structure AtInv (w : World) (ps : List (List Stage)) (wr : World) (v : Value) (n : Nat) : Prop where
  k : KeepsAll w wr
  src : ∃ rest, Src wr (Old w) w.heap.size rest
  held : ∃ l : List Bool, l.length = 8 ∧ Blk wr (w.heap.size + 1) 74 (cellsB' l)
  out : ∃ l : List Int, l.length = n ∧ goodFrom (ps.take n) l = true ∧ OwnL 3 1 RInt wr (w.heap.size + 2) (w.heap.size + 2) v l
theorem AtInv.size {w : World} {ps : List (List Stage)} {wr : World} {v : Value} {n : Nat} (h : AtInv w ps wr v n) : w.heap.size + 1 < wr.heap.size := by
  obtain ⟨l, _, hb⟩ := h.held; exact hb.lt
/-- a change of the source, of the array, or of nothing -/
theorem AtInv.keep {w : World} {ps : List (List Stage)} {wr w' : World} {v : Value} {n : Nat} {C : Foot} (h : AtInv w ps wr v n) (k : Keeps C wr w') (hC : ∀ b, C b → b = w.heap.size ∨ b = w.heap.size + 1)
    (hs : ∃ rest, Src w' (Old w) w.heap.size rest) (hh : ∃ l : List Bool, l.length = 8 ∧ Blk w' (w.heap.size + 1) 74 (cellsB' l)) : AtInv w ps w' v n := by
  refine ⟨h.k.trans k (fun x hx hc => by have := hC x hc; omega), hs, hh, ?_⟩
  obtain ⟨l, h1, h2, h3⟩ := h.out
  exact ⟨l, h1, h2, h3.keeps RInt.ok k (fun b hb hc => by have := hC b hc; omega)⟩

theorem goodFrom_snoc : ∀ (ps : List (List Stage)) (l : List Int) (p : List Stage) (a : Int), ps.length = l.length → goodFrom ps l = true → okPos p a = true → goodFrom (ps ++ [p]) (l ++ [a]) = true
  | [], [], p, a, _, _, h => by simp [goodFrom, h]
  | q :: ps, b :: l, p, a, hl, h, ho => by
    simp only [goodFrom, Bool.and_eq_true, List.cons_append] at h ⊢
    exact ⟨h.1, goodFrom_snoc ps l p a (by simpa using hl) h.2 ho⟩
  | [], _ :: _, _, _, hl, _, _ => by simp at hl
  | _ :: _, [], _, _, hl, _, _ => by simp at hl

theorem AtInv.mark {w : World} {ps : List (List Stage)} {wr : World} {v : Value} {n : Nat} {lh : List Bool} (h : AtInv w ps wr v n) (hl : lh.length = 8) (hb : Blk wr (w.heap.size + 1) 74 (cellsB' lh)) (q : Nat) :
    AtInv w ps (wr.setCell ⟨w.heap.size + 1, q, none⟩ (.bool true)) v n := by
  have kk := (Keeps.refl (fun b => b = w.heap.size + 1) wr).setCell (p := ⟨w.heap.size + 1, q, none⟩) (fun _ => rfl) (.bool true)
  have hz := h.size
  refine h.keep kk (fun b hb => .inr hb) ?_ ?_
  · obtain ⟨r, hr⟩ := h.src
    exact ⟨r, hr.keeps kk (fun b hb => by have : b < w.heap.size := hb; exact ⟨by omega, by omega⟩) (by simp)⟩
  · exact ⟨lh.set q true, by simpa using hl, by rw [← cellsB'_set]; exact hb.set_ q _⟩
theorem AtInv.grow {w : World} {ps : List (List Stage)} {wr w9 : World} {v v' : Value} {n : Nat} {o : Obj} {l0 : List Int} {p : List Stage} {a : Int} (h : AtInv w ps wr v n) (ho : OwnL 3 1 RInt wr (w.heap.size + 2) (w.heap.size + 2) v l0)
    (hl : l0.length = n) (hg : goodFrom (ps.take n) l0 = true) (hp : ps[n]? = some p) (hok : okPos p a = true) (ho9 : OwnL 3 1 RInt w9 (w.heap.size + 2) (w.heap.size + 2) v' (l0 ++ [a])) (hk : Keeps (fun b => v.ownBlock = some b) (wr.alloc o) w9) : AtInv w ps w9 v' (n + 1) := by
  have k2 : Keeps (fun b => v.ownBlock = some b) wr w9 := ((Keeps.refl _ wr).alloc o).trans hk (fun _ _ h => h)
  have far : ∀ b, b < w.heap.size + 2 → ¬ (v.ownBlock = some b) := fun b hb e => by have := ho.lt e; omega
  have hlt : n < ps.length := getElem?_lt hp
  refine ⟨h.k.trans k2 (fun x hx e => far x (by omega) e), ?_, ?_, ⟨l0 ++ [a], by simp [hl], ?_, ho9⟩⟩
  · obtain ⟨r, hr⟩ := h.src
    have := h.size
    exact ⟨r, hr.keeps k2 (fun b hb => by have hb' : b < w.heap.size := hb; exact ⟨by omega, far b (by omega)⟩) (far _ (by omega))⟩
  · obtain ⟨lh, q1, q2⟩ := h.held
    exact ⟨lh, q1, q2.kept k2 (far _ (by omega))⟩
  · rw [List.take_add_one, hp]
    exact goodFrom_snoc _ _ _ _ (by simp; omega) hg hok

set_option maxRecDepth 100000 in
set_option maxHeartbeats 1000000 in
theorem At_any (ps : List (List Stage)) (l : List Int) (A A2 : Option Addr) (c c2 : Nat) (w : World) (h : RPaths w (Old w) [.slice A ps.length c] ps) (h2 : RInts w (Old w) [.slice A2 l.length c2] l) (hs8 : secs8 ps) (hps : ps.length ≤ 1000) (hpl : ∀ p ∈ ps, p.length ≤ 1000) :
    Calls Tryz.prog 14 #[.slice A ps.length c, .slice A2 l.length c2] w fun e w' => ∃ v at_, e = .returned v ∧ RInts w' (Fresh w w') [v] at_ ∧ good ps at_ = true ∧ KeepsAll w w' := by
  have hc := h.caps
  have H := Lib.hid h; clear h
  have H2 := Lib.hid h2; clear h2
  have HS8 := Lib.hid hs8; clear hs8
  have HPL := Lib.hid hpl; clear hpl
  go_enter Tryz.func14, Tryz.ntmps14
  go_wp2_with (go_at_call 20; refine (From_any w A2 c2 l H2.out).mono ?_; rintro e w1 ⟨rfl, hsrc1, hk1, hz1⟩)
  generalize hw2 : World.alloc w1 _ = w2
  have hi0 : AtInv w ps w2 (.slice none 0 0) 0 := by
    subst hw2
    refine ⟨hk1.alloc _, ⟨l, hsrc1.keeps ((Keeps.refl (fun _ => False) _).alloc _) (fun b hb => ⟨by have : b < w.heap.size := hb; omega, by simp⟩) (by simp)⟩, ⟨List.replicate 8 false, by simp, ?_⟩, ⟨[], rfl, by simp [goodFrom], OwnL.nil⟩⟩
    exact Blk.new' _ _ _ (by omega)
  clear hw2 hsrc1 hk1 hz1
  go_loopw [6, 15] (fun v i wr => ∃ k : Nat, k ≤ ps.length ∧ i = .int .i64 k ∧ AtInv w ps wr v k) (fun _ i _ => ps.length - (intOf i).toNat)
  case atStart => exact ⟨0, Nat.zero_le _, rfl, hi0⟩
  case round =>
    obtain ⟨k, hk, rfl, hinv⟩ := hrel
    clear hi0
    by_cases hlt : k < ps.length
    · obtain ⟨b, o, p, A', c', rfl, hb, hx, kx, hp⟩ := RSS.at_ H.out hlt
      have kx' := (hinv.k.cell (p := ⟨b, o + k, none⟩) hb (by simp)).trans kx
      have hpl := HPL.out p (List.mem_of_getElem? hx)
      have hcp := hp.caps
      have HX := Lib.hid hx; clear hx kx
      have HP := Lib.hid hp; clear hp
      have hz := hinv.size
      obtain ⟨rest, hsrc⟩ := hinv.src
      have INV0 := Lib.hid hinv; clear hinv
      go_wp2_with fail
      refine (Next_any _ (Old w) w.heap.size rest _ (by omega) (by omega) hsrc (fun b hb => ⟨by have : b < w.heap.size := hb; omega, by have : b < w.heap.size := hb; omega⟩)).mono ?_
      rintro e w3 ⟨rfl, hsrc3, hk3, hz3⟩
      have hnr := nextV_range rest (↑p.length + 2) (by omega)
      generalize nextV rest (↑p.length + 2) = nx at hnr
      obtain ⟨nn, rfl⟩ := Int.eq_ofNat_of_zero_le hnr.1
      have INV3 : Hid (AtInv w ps w3 u6 k) := INV0.out.keep hk3 (fun b hb => .inl hb) ⟨_, hsrc3⟩ (by
        obtain ⟨lh, q1, q2⟩ := INV0.out.held
        exact ⟨lh, q1, q2.kept hk3 (by simp)⟩)
      have K3 := Lib.hid INV3.out.k
      clear hk3 hz3 hsrc kx'
      by_cases g1 : nn < 1
      · have g1' : decide ((0 : Int) ≤ (nn : Int) - 1) = false := by simp; omega
        obtain ⟨l0, hl0, hg0, ho0⟩ := INV3.out.out
        have hlen0 : l0.length ≤ 1000 := by omega
        have hzf := INV3.out.size
        have HG0 := Lib.hid hg0; clear hg0
        have HL0 := Lib.hid hl0; clear hl0
        have HO := Lib.hid ho0; clear ho0
        have OK : Hid (okPos p ((nn : Int) - 1) = true) := by show okPos p ((nn : Int) - 1) = true; simp [okPos]; try omega
        go_wp2_with (at_builtin; refine wpList_append_L tyInt RInt.ok rfl (.tmp 61) (.tmp 63) rfl (HO.out.alloc RInt.ok _) rfl _ [.int .i64 ((nn : Int) - 1)] rfl (Blk.new _ _ _) rfl ((nn : Int) - 1) (S := fun _ => False) rfl (fun _ h => h.elim) (by simp [Value.oneCell']) (by omega) (by omega) (by simp; omega) ?_; intro v' w9 ho9 hk9 hat9)
        have INV9 : Hid (AtInv w ps w9 v' (k + 1)) := INV3.out.grow HO.out HL0.out HG0.out HX.out OK.out ho9 hk9
        clear ho9 hk9 hat9
        go_wp2
        go_roundw
        case rel => exact ⟨k + 1, by omega, by go_num, INV9.out⟩
        case measure => simp [intOf]; omega
      by_cases g2 : p.length + 1 ≤ nn
      · have g2' : decide ((nn : Int) - 1 < (p.length : Int)) = false := by simp; omega
        have g1' : decide ((0 : Int) ≤ (nn : Int) - 1) = true := by simp; omega
        obtain ⟨l0, hl0, hg0, ho0⟩ := INV3.out.out
        have hlen0 : l0.length ≤ 1000 := by omega
        have hzf := INV3.out.size
        have HG0 := Lib.hid hg0; clear hg0
        have HL0 := Lib.hid hl0; clear hl0
        have HO := Lib.hid ho0; clear ho0
        have OK : Hid (okPos p ((nn : Int) - 1) = true) := by show okPos p ((nn : Int) - 1) = true; simp [okPos]; try omega
        go_wp2_with (at_builtin; refine wpList_append_L tyInt RInt.ok rfl (.tmp 61) (.tmp 63) rfl (HO.out.alloc RInt.ok _) rfl _ [.int .i64 ((nn : Int) - 1)] rfl (Blk.new _ _ _) rfl ((nn : Int) - 1) (S := fun _ => False) rfl (fun _ h => h.elim) (by simp [Value.oneCell']) (by omega) (by omega) (by simp; omega) ?_; intro v' w9 ho9 hk9 hat9)
        have INV9 : Hid (AtInv w ps w9 v' (k + 1)) := INV3.out.grow HO.out HL0.out HG0.out HX.out OK.out ho9 hk9
        clear ho9 hk9 hat9
        go_wp2
        go_roundw
        case rel => exact ⟨k + 1, by omega, by go_num, INV9.out⟩
        case measure => simp [intOf]; omega
      have hj : (nn - 1) < p.length := by omega
      obtain ⟨b5, o5, s, A5, c5, rfl, hb5, hs5, k5, _⟩ := RPath.at_ HP.out hj
      have k5' := (K3.out.cell (p := ⟨b5, o5 + (nn - 1) * 4, none⟩) hb5 (by simp)).trans k5
      have hs8 := HS8.out p (List.mem_of_getElem? HX.out) s (List.mem_of_getElem? hs5)
      obtain ⟨q, hq⟩ : ∃ q : Nat, s.sec = q := ⟨s.sec.toNat, by omega⟩
      rw [hq] at k5' hs8
      clear k5 hq hs5
      obtain ⟨lh, hlh, hbh⟩ := INV3.out.held
      have hqq : q < lh.length := by omega
      obtain ⟨hv, hhv⟩ := cellsB'_get hqq
      have kh := (hbh.cell q).trans hhv
      have kf := hbh.frozen q
      have HBH := Lib.hid hbh; clear hbh hhv
      have g1' : decide ((0 : Int) ≤ (nn : Int) - 1) = true := by simp; omega
      have g2' : decide ((nn : Int) - 1 < (p.length : Int)) = true := by simp; omega
      have hz3 := INV3.out.size
      cases hv with
      | false =>
        have INVS : Hid (AtInv w ps (w3.setCell ⟨w.heap.size + 1, q, none⟩ (.bool true)) u6 k) := INV3.out.mark hlh HBH.out q
        obtain ⟨l0, hl0, hg0, ho0⟩ := INVS.out.out
        have hlen0 : l0.length ≤ 1000 := by omega
        have hzf := INVS.out.size
        have HG0 := Lib.hid hg0; clear hg0
        have HL0 := Lib.hid hl0; clear hl0
        have HO := Lib.hid ho0; clear ho0
        have OK : Hid (okPos p ((nn : Int) - 1) = true) := by show okPos p ((nn : Int) - 1) = true; simp [okPos]; try omega
        go_wp2_with (at_builtin; refine wpList_append_L tyInt RInt.ok rfl (.tmp 61) (.tmp 63) rfl (HO.out.alloc RInt.ok _) rfl _ [.int .i64 ((nn : Int) - 1)] rfl (Blk.new' _ _ _ (by simp)) rfl ((nn : Int) - 1) (S := fun _ => False) rfl (fun _ h => h.elim) (by simp [Value.oneCell']) (by omega) (by omega) (by simp; omega) ?_; intro v' w9 ho9 hk9 hat9)
        have INV9 : Hid (AtInv w ps w9 v' (k + 1)) := INVS.out.grow HO.out HL0.out HG0.out HX.out OK.out ho9 hk9
        clear ho9 hk9 hat9
        go_wp2
        go_roundw
        case rel => exact ⟨k + 1, by omega, by go_num, INV9.out⟩
        case measure => simp [intOf]; omega
      | true =>
        obtain ⟨rest4, hsrc4⟩ := INV3.out.src
        go_wp2_with fail
        refine (Next_any _ (Old w) w.heap.size rest4 _ (by omega) (by omega) hsrc4 (fun b hb => ⟨by have : b < w.heap.size := hb; omega, by have : b < w.heap.size := hb; omega⟩)).mono ?_
        rintro e w4 ⟨rfl, hsrc5, hk4, hz4⟩
        have INV4 : Hid (AtInv w ps w4 u6 k) := INV3.out.keep hk4 (fun b hb => .inl hb) ⟨_, hsrc5⟩ ⟨lh, hlh, HBH.out.kept hk4 (by simp)⟩
        have HBH4 := Lib.hid (HBH.out.kept hk4 (by simp))
        have kh4 := (hk4.cell (p := ⟨w.heap.size + 1, q, none⟩) hz3 (by simp)).trans kh
        have kf4 := HBH4.out.frozen q
        have k54 := (hk4.cell (p := ⟨b5, o5 + (nn - 1) * 4, none⟩) (by have : b5 < w.heap.size := hb5; show b5 < _; omega) (by have : b5 < w.heap.size := hb5; show ¬ b5 = _; omega)).trans k5'
        have hm := nextV_range rest4 8 (by omega)
        generalize nextV rest4 8 = m at hm
        clear hk4 hz4 hsrc4 hsrc5 kh kf k5'
        by_cases g3 : 0 < m
        · have g3' : decide (0 < m) = true := by simpa using g3
          obtain ⟨l0, hl0, hg0, ho0⟩ := INV4.out.out
          have hlen0 : l0.length ≤ 1000 := by omega
          have hzf := INV4.out.size
          have HG0 := Lib.hid hg0; clear hg0
          have HL0 := Lib.hid hl0; clear hl0
          have HO := Lib.hid ho0; clear ho0
          have OK : Hid (okPos p (-1) = true) := by show okPos p (-1) = true; simp [okPos]; try omega
          go_wp2_with (at_builtin; refine wpList_append_L tyInt RInt.ok rfl (.tmp 61) (.tmp 63) rfl (HO.out.alloc RInt.ok _) rfl _ [.int .i64 (-1)] rfl (Blk.new' _ _ _ (by simp)) rfl (-1) (S := fun _ => False) rfl (fun _ h => h.elim) (by simp [Value.oneCell']) (by omega) (by omega) (by simp; omega) ?_; intro v' w9 ho9 hk9 hat9)
          have INV9 : Hid (AtInv w ps w9 v' (k + 1)) := INV4.out.grow HO.out HL0.out HG0.out HX.out OK.out ho9 hk9
          clear ho9 hk9 hat9
          go_wp2
          go_roundw
          case rel => exact ⟨k + 1, by omega, by go_num, INV9.out⟩
          case measure => simp [intOf]; omega
        · have g3' : decide (0 < m) = false := by simpa using g3
          have hz5 := INV4.out.size
          have INVS : Hid (AtInv w ps (w4.setCell ⟨w.heap.size + 1, q, none⟩ (.bool true)) u6 k) := INV4.out.mark hlh HBH4.out q
          obtain ⟨l0, hl0, hg0, ho0⟩ := INVS.out.out
          have hlen0 : l0.length ≤ 1000 := by omega
          have hzf := INVS.out.size
          have HG0 := Lib.hid hg0; clear hg0
          have HL0 := Lib.hid hl0; clear hl0
          have HO := Lib.hid ho0; clear ho0
          have OK : Hid (okPos p ((nn : Int) - 1) = true) := by show okPos p ((nn : Int) - 1) = true; simp [okPos]; try omega
          go_wp2_with (at_builtin; refine wpList_append_L tyInt RInt.ok rfl (.tmp 61) (.tmp 63) rfl (HO.out.alloc RInt.ok _) rfl _ [.int .i64 ((nn : Int) - 1)] rfl (Blk.new' _ _ _ (by simp)) rfl ((nn : Int) - 1) (S := fun _ => False) rfl (fun _ h => h.elim) (by simp [Value.oneCell']) (by omega) (by omega) (by simp; omega) ?_; intro v' w9 ho9 hk9 hat9)
          have INV9 : Hid (AtInv w ps w9 v' (k + 1)) := INVS.out.grow HO.out HL0.out HG0.out HX.out OK.out ho9 hk9
          clear ho9 hk9 hat9
          go_wp2
          go_roundw
          case rel => exact ⟨k + 1, by omega, by go_num, INV9.out⟩
          case measure => simp [intOf]; omega
    · obtain rfl : k = ps.length := by omega
      obtain ⟨l9, hl9, hg9, ho9⟩ := hinv.out
      have R9 := Lib.hid (ho9.read RInt.ok (by omega) (S := Fresh w wr) (fun b h1 h2 => ⟨by omega, h2⟩) (fun b h1 h2 => ⟨by omega, h2⟩))
      have G9 : Hid (good ps l9 = true) := by
        show good ps l9 = true
        rw [List.take_length] at hg9
        simp [good, hl9, hg9]
      have K9 := Lib.hid hinv.k
      clear hinv ho9 hl9 hg9
      go_wp2
      go_ret
      exact ⟨_, l9, rfl, R9.out, G9.out, K9.out⟩

end Go.Proofs.YtbfgmbakeofcbaaGreat
