/- Reading in a world that keeps all of an earlier one. Conditions: as each theorem says. Contract of deadlock.Check: it returns what the reference's CheckState returns. Conditions: as the theorem says. A slice that fills a block of its own reads as its list; rows that make lays. Conditions: as each theorem says. A slice of slices under construction: each row grows by append on its own. Conditions: as each theorem says. -/
import Derived.Test.YtbfgmbakeofcbaaGreatK17
import Derived.Test.YtbfgmbakeofcbaaGreatK06
import Derived.Test.YtbfgmbakeofcbaaGreatK16
import Derived.Test.YtbfgmbakeofcbaaGreatK03
import Derived.Deep.OwnRows
namespace Go.Proofs.YtbfgmbakeofcbaaGreat
open Go.RowKit

theorem Keeps.rdo' {α : Type} {E : Rd α} (hE : Rd.Ok E) {a b : World} (k : KeepsAll a b) {cs : List Value} {x : α} (h : E a (Old a) cs x) : E b (Old b) cs x :=
  k.rd hE h (fun b hb => ⟨hb, by simp⟩) (fun b hb => Nat.lt_of_lt_of_le hb k.size)
theorem Keeps.tr {a b c : World} (k : KeepsAll a b) (k' : KeepsAll b c) : KeepsAll a c := k.trans k' (fun _ _ h => h)
theorem Keeps.cellK {a b : World} (k : KeepsAll a b) {p : Addr} {v : Value} (hp : p.block < a.heap.size) (h : a.cell? p = some v) : b.cell? p = some v := (k.cell hp (by simp)).trans h
section
variable {w wr : World} {A : Option Addr} {n c : Nat}
theorem RInts.atK {l : List Int} (K : KeepsAll w wr) (h : RInts w (Old w) [.slice A n c] l) {k : Nat} (hk : k < l.length) :
    ∃ b o x, A = some ⟨b, o, none⟩ ∧ b < wr.heap.size ∧ l[k]? = some x ∧ wr.cell? ⟨b, o + k, none⟩ = some (.int .i64 x) := by
  obtain ⟨b, o, x, rfl, hb, hx, h1⟩ := h.at_ hk
  exact ⟨b, o, x, rfl, Nat.lt_of_lt_of_le hb K.size, hx, K.cellK hb h1⟩
theorem RSS.atK {α : Type} {size : Nat} {E : Rd α} {l : List (List α)} (K : KeepsAll w wr) (h : RSlice 1 (RSlice size E) w (Old w) [.slice A n c] l) {k : Nat} (hk : k < l.length) :
    ∃ b o x A' c', A = some ⟨b, o, none⟩ ∧ b < wr.heap.size ∧ l[k]? = some x ∧ wr.cell? ⟨b, o + k, none⟩ = some (.slice A' x.length c') ∧ RSlice size E w (Old w) [.slice A' x.length c'] x := by
  obtain ⟨b, o, x, A', c', rfl, hb, hx, h1, h2⟩ := RSS.at_ h hk
  exact ⟨b, o, x, A', c', rfl, Nat.lt_of_lt_of_le hb K.size, hx, K.cellK hb h1, h2⟩
theorem RPath.atK {l : List Stage} (K : KeepsAll w wr) (h : RPath w (Old w) [.slice A n c] l) {k : Nat} (hk : k < l.length) :
    ∃ b o s A' c', A = some ⟨b, o, none⟩ ∧ b < wr.heap.size ∧ l[k]? = some s ∧ wr.cell? ⟨b, o + k * 4, none⟩ = some (.int .i64 s.sec) ∧ wr.cell? ⟨b, o + k * 4 + 1, none⟩ = some (.slice A' s.pts.length c') ∧
      wr.cell? ⟨b, o + k * 4 + 2, none⟩ = some (.int .i64 s.mn) ∧ wr.cell? ⟨b, o + k * 4 + 3, none⟩ = some (.int .i64 s.nt) ∧ RInts w (Old w) [.slice A' s.pts.length c'] s.pts := by
  obtain ⟨b, o, s, A', c', rfl, hb, hx, h0, h1, h2, h3, h4⟩ := RPath.at_ h hk
  exact ⟨b, o, s, A', c', rfl, Nat.lt_of_lt_of_le hb K.size, hx, K.cellK hb h0, K.cellK hb h1, K.cellK hb h2, K.cellK hb h3, h4⟩
theorem RRefs.atK {l : List Ref} (K : KeepsAll w wr) (h : RRefs w (Old w) [.slice A n c] l) {k : Nat} (hk : k < l.length) :
    ∃ b o u, A = some ⟨b, o, none⟩ ∧ b < wr.heap.size ∧ l[k]? = some u ∧ wr.cell? ⟨b, o + k * 2, none⟩ = some (.int .i64 u.tr) ∧ wr.cell? ⟨b, o + k * 2 + 1, none⟩ = some (.int .i64 u.st) := by
  obtain ⟨b, o, u, rfl, hb, hx, h0, h1⟩ := RRefs.at_ h hk
  exact ⟨b, o, u, rfl, Nat.lt_of_lt_of_le hb K.size, hx, K.cellK hb h0, K.cellK hb h1⟩
theorem ROrders.atK {l : List Order} (K : KeepsAll w wr) (h : ROrders w (Old w) [.slice A n c] l) {k : Nat} (hk : k < l.length) :
    ∃ b o x A' c', A = some ⟨b, o, none⟩ ∧ b < wr.heap.size ∧ l[k]? = some x ∧ wr.cell? ⟨b, o + k * 2, none⟩ = some (.int .i64 x.res) ∧ wr.cell? ⟨b, o + k * 2 + 1, none⟩ = some (.slice A' x.uses.length c') ∧ RRefs w (Old w) [.slice A' x.uses.length c'] x.uses := by
  obtain ⟨b, o, x, A', c', rfl, hb, hx, h0, h1, h2⟩ := ROrders.at_ h hk
  exact ⟨b, o, x, A', c', rfl, Nat.lt_of_lt_of_le hb K.size, hx, K.cellK hb h0, K.cellK hb h1, h2⟩
end

theorem heldOf_next {ps : List (List Stage)} {at_ : List Int} {k : Nat} {p : List Stage} {a : Int} (hl : at_.length = ps.length) (hp : ps[k]? = some p) (ha : at_[k]? = some a) : heldOf ps (at_.take (k + 1)) = heldOf ps (at_.take k) ++ (if a < 0 ∨ (p.length : Int) ≤ a then [] else [secAt p a]) := by
  have e : at_.take (k + 1) = at_.take k ++ [a] := by rw [List.take_add_one, ha]; rfl
  have hk := getElem?_lt ha
  rw [e, heldOf_snoc ps (at_.take k) p a (by rw [List.length_take, Nat.min_eq_left (by omega)]; exact hp)]

set_option maxRecDepth 100000 in
set_option maxHeartbeats 1000000 in
theorem DCheck_any (ps : List (List Stage)) (at_ : List Int) (A A2 : Option Addr) (c c2 : Nat) (w : World) (h : RPaths w (Old w) [.slice A ps.length c] ps) (h2 : RInts w (Old w) [.slice A2 at_.length c2] at_) :
    Calls Tryz.prog 29 #[.slice A ps.length c, .slice A2 at_.length c2] w fun e w' => e = .returned (.int .i64 (checkState ps at_)) ∧ KeepsAll w w' := by
  have hc := h.caps
  have hc2 := h2.caps
  have HV := Lib.hid (Valid_any ps A c w h)
  have H := Lib.hid h; clear h
  have H2 := Lib.hid h2; clear h2
  by_cases g0 : valid ps = true
  · have HVD := Lib.hid g0
    by_cases g1 : at_.length = ps.length
    · have g1' : ((at_.length : Int) != (ps.length : Int)) = false := by simp; omega
      have G1 := Lib.hid g1; clear g1
      have l1 : at_.length ≤ ps.length := by rw [G1.out]; exact Nat.le_refl _
      have l2 : ps.length ≤ at_.length := by rw [G1.out]; exact Nat.le_refl _
      go_enter Tryz.func29, Tryz.ntmps29
      go_wp2_with fail
      refine HV.out.mono ?_
      rintro e w1 ⟨rfl, k1⟩
      rw [g0]
      have K1 := Lib.hid k1
      have P1 := Lib.hid (k1.rdo' RPaths.ok H.out)
      have A1 := Lib.hid (k1.rdo' RInts.ok H2.out)
      clear k1 HV H H2 g0
      go_wp2
      go_loop [23] (fun i => ∃ k : Nat, k ≤ ps.length ∧ i = .int .i64 k ∧ GoodInv ps at_ k) (fun i => ps.length - (intOf i).toNat)
      case atStart => exact ⟨0, Nat.zero_le _, rfl, rfl⟩
      case round =>
        obtain ⟨k, hk, rfl, hinv⟩ := hrel
        by_cases hlt : k < ps.length
        · obtain ⟨b, o, p, A', c', hbo, _, hp, k1, hr⟩ := RSS.at_ P1.out hlt
          subst hbo
          obtain ⟨b2, o2, a, hbo, _, ha, k2⟩ := A1.out.at_ (k := k) (by omega)
          subst hbo
          have hcp := hr.caps
          clear hr
          by_cases g2 : a < -1
          · have Q := Lib.hid (hinv.stop hp ha (by simp [okPos]; omega))
            have g2' : decide (a < -1) = true := by simpa using g2
            have QQ : Hid (checkState ps at_ = 1) := by show _ = _; unfold checkState; rw [Q.out]; simp
            clear hp ha
            go_wp2
            go_ret
            exact ⟨by rw [QQ.out]; rfl, K1.out⟩
          · have g2' : decide (a < -1) = false := by simpa using g2
            by_cases g3 : (p.length : Int) < a
            · have Q := Lib.hid (hinv.stop hp ha (by simp [okPos]; omega))
              have QQ : Hid (checkState ps at_ = 1) := by show _ = _; unfold checkState; rw [Q.out]; simp
              clear hp ha
              go_wp2
              go_ret
              exact ⟨by rw [QQ.out]; rfl, K1.out⟩
            · have Q := Lib.hid (hinv.step hp ha (by simp [okPos]; omega))
              clear hp ha
              go_wp2
              go_round
              case rel => exact ⟨k + 1, by omega, by go_num, Q.out⟩
              case measure => simp [intOf]; omega
        · obtain rfl : k = ps.length := by omega
          have Q : Hid (good ps at_ = true) := by show good ps at_ = true; simp [good, G1.out, hinv.done]
          have HG := Lib.hid (good_Gd.1 Q.out)
          have HN : Hid (checkState ps at_ = if (heldOf ps at_).Nodup then 0 else 17) := by show _ = _; unfold checkState; rw [Q.out, HVD.out]; simp
          clear hinv hlt hk
          go_wp2
          generalize hW2 : World.alloc w1 _ = W2
          have BH : Hid (Blk W2 w1.heap.size 84 (cellsB (marks (heldOf ps (at_.take 0))))) := by
            subst hW2
            have e : heldOf ps (at_.take 0) = [] := by cases ps <;> rfl
            show Blk _ _ _ _
            rw [e, marks_nil]; exact Blk.new _ _ _
          have K2 : Hid (KeepsAll w1 W2) := by subst hW2; exact (Keeps.refl _ _).alloc _
          clear hW2
          go_loopw [45] (fun i wr => ∃ k : Nat, k ≤ ps.length ∧ i = .int .i64 k ∧ Blk wr w1.heap.size 84 (cellsB (marks (heldOf ps (at_.take k)))) ∧ (heldOf ps (at_.take k)).Nodup ∧ KeepsAll w1 wr) (fun i _ => ps.length - (intOf i).toNat)
          case atStart => exact ⟨0, Nat.zero_le _, rfl, BH.out, by cases ps <;> simp [heldOf], K2.out⟩
          case round =>
            clear BH K2
            obtain ⟨k, hk, rfl, hb, hnd, hkr⟩ := hrel
            have KR := Lib.hid hkr
            have HB := Lib.hid hb
            have HND := Lib.hid hnd
            clear hkr hb hnd
            by_cases hlt : k < ps.length
            · obtain ⟨b, o, p, A', c', hbo, hbl, hp, k1, hr⟩ := RSS.atK KR.out P1.out hlt
              subst hbo
              obtain ⟨b2, o2, a, hbo, hb2l, ha, k2⟩ := RInts.atK KR.out A1.out (k := k) (by omega)
              subst hbo
              have hcp := hr.caps
              have hG := HG.out.2 k hlt
              rw [nowAt_of ha, lenAt_of hp] at hG
              have HNX := Lib.hid (heldOf_next G1.out hp ha)
              by_cases g2 : a < 0
              · have g2' : decide (a < 0) = true := by simpa using g2
                have QN : Hid (heldOf ps (at_.take (k + 1)) = heldOf ps (at_.take k)) := by show _ = _; rw [HNX.out, if_pos (.inl g2)]; simp
                clear hp ha hr
                go_wp2
                go_roundw
                case rel => exact ⟨k + 1, by omega, by go_num, by rw [QN.out]; exact HB.out, by rw [QN.out]; exact HND.out, KR.out⟩
                case measure => simp [intOf]; omega
              · have g2' : decide (a < 0) = false := by simpa using g2
                by_cases g3 : a = (p.length : Int)
                · have g3' : (a == (p.length : Int)) = true := by simpa using g3
                  have QN : Hid (heldOf ps (at_.take (k + 1)) = heldOf ps (at_.take k)) := by show _ = _; rw [HNX.out, if_pos (.inr (by omega))]; simp
                  clear hp ha hr
                  go_wp2
                  go_roundw
                  case rel => exact ⟨k + 1, by omega, by go_num, by rw [QN.out]; exact HB.out, by rw [QN.out]; exact HND.out, KR.out⟩
                  case measure => simp [intOf]; omega
                · have g3' : (a == (p.length : Int)) = false := by simpa using g3
                  obtain ⟨j, rfl⟩ := Int.eq_ofNat_of_zero_le (by omega : 0 ≤ a)
                  have hj : j < p.length := by omega
                  obtain ⟨b3, o3, s, As, cs, hbo, hb3l, hs, m0, m1, m2, m3, hpts⟩ := RPath.atK KR.out hr hj
                  subst hbo
                  have hst := valid_stage HVD.out (List.mem_of_getElem? hp) (List.mem_of_getElem? hs)
                  obtain ⟨n, hn, hn144⟩ := isRes_nat (stageOk_sec hst)
                  have hsec : secAt p (j : Int) = (n : Int) := by unfold secAt; rw [if_neg (by omega)]; simp only [Int.toNat_natCast, hs]; exact hn
                  rw [if_neg (by omega), hsec] at HNX
                  rw [hn] at m0
                  have q0 := HB.out.cell n
                  rw [cellsB_get _ hn144] at q0
                  have q1 := HB.out.frozen n
                  have qz := HB.out.lt
                  clear hr hpts hst hs hp ha hsec hn
                  by_cases g4 : (n : Int) ∈ heldOf ps (at_.take k)
                  · rw [decide_eq_true g4] at q0
                    have QQ : Hid (checkState ps at_ = 17) := by
                      show _ = _
                      rw [HN.out, if_neg]
                      intro hnn
                      have h3 := List.Sublist.nodup (heldOf_sublist ps at_ (k + 1)) hnn
                      rw [HNX.out] at h3
                      exact (List.nodup_append.1 h3).2.2 _ g4 _ (by simp) rfl
                    clear g4
                    go_wp2
                    go_ret
                    exact ⟨by rw [QQ.out]; rfl, K1.out.tr KR.out⟩
                  · rw [decide_eq_false g4] at q0
                    have HBN : Hid (Blk (wr.setCell ⟨w1.heap.size, n, none⟩ (.bool true)) w1.heap.size 84 (cellsB (marks (heldOf ps (at_.take (k + 1)))))) := by
                      show Blk _ _ _ _
                      rw [HNX.out, ← cellsB_set]; exact HB.out.set_ n _
                    have HNN : Hid (heldOf ps (at_.take (k + 1))).Nodup := by
                      show List.Nodup _
                      rw [HNX.out]; exact nodup_snoc HND.out g4
                    have KN : Hid (KeepsAll w1 (wr.setCell ⟨w1.heap.size, n, none⟩ (.bool true))) := KR.out.setCell (fun h => absurd h (by simp)) _
                    clear g4
                    go_wp2
                    go_roundw
                    case rel => exact ⟨k + 1, by omega, by go_num, HBN.out, HNN.out, KN.out⟩
                    case measure => simp [intOf]; omega
            · obtain rfl : k = ps.length := by omega
              have QQ : Hid (checkState ps at_ = 0) := by
                show _ = _
                have h3 := HND.out
                rw [← G1.out, List.take_length] at h3
                rw [HN.out, if_pos h3]
              go_wp2
              go_ret
              exact ⟨by rw [QQ.out]; rfl, K1.out.tr KR.out⟩
    · have g1' : ((at_.length : Int) != (ps.length : Int)) = true := by simp; omega
      have QQ : Hid (checkState ps at_ = 1) := by show _ = _; unfold checkState good; simp [g1]
      go_enter Tryz.func29, Tryz.ntmps29
      go_wp2_with fail
      refine HV.out.mono ?_
      rintro e w1 ⟨rfl, k1⟩
      rw [g0]
      have K1 := Lib.hid k1; clear k1
      go_wp2
      go_ret
      exact ⟨by rw [QQ.out]; rfl, K1.out⟩
  · have g0' : valid ps = false := by simpa using g0
    have QQ : Hid (checkState ps at_ = 1) := by show _ = _; unfold checkState; simp [g0']
    clear g0
    go_enter Tryz.func29, Tryz.ntmps29
    go_wp2_with fail
    refine HV.out.mono ?_
    rintro e w1 ⟨rfl, k1⟩
    rw [g0']
    have K1 := Lib.hid k1; clear k1
    go_wp2
    go_ret
    exact ⟨by rw [QQ.out]; rfl, K1.out⟩

def AllRd {α : Type} (size : Nat) (E : Rd α) (w : World) (S : Foot) : List (List Value) → List α → Prop
  | [], [] => True
  | es :: r, x :: l => (es.length = size ∧ E w S es x) ∧ AllRd size E w S r l
  | _, _ => False
theorem AllRd.spec {α : Type} {size : Nat} {E : Rd α} {w : World} {S : Foot} : ∀ {ess : List (List Value)} {l : List α}, AllRd size E w S ess l → ess.length = l.length ∧ (∀ es ∈ ess, es.length = size) ∧ ∀ (j : Nat) es x, ess[j]? = some es → l[j]? = some x → E w S es x
  | [], [], _ => by simp
  | es :: r, x :: l, h => by
    obtain ⟨h1, h2, h3⟩ := AllRd.spec h.2
    refine ⟨by simp [h1], fun es' hes => ?_, fun j es' x' he hx => ?_⟩
    · rcases List.mem_cons.1 hes with rfl | hes
      · exact h.1.1
      · exact h2 es' hes
    · cases j with
      | zero => simp at he hx; subst he hx; exact h.1.2
      | succ j => exact h3 j es' x' (by simpa using he) (by simpa using hx)
  | [], _ :: _, h => h.elim
  | _ :: _, [], h => h.elim
/-- a slice that fills a block -/
theorem RSlice.ofBlk {α : Type} {size : Nat} {E : Rd α} {w : World} {S : Foot} {b : Nat} {t : TypeId} {cs : Array Value} (hb : Blk w b t cs) (hS : S b) (ess : List (List Value)) (l : List α) (hc : cs.toList = ess.flatten) (h : AllRd size E w S ess l) (hl : l.length ≤ 9223372036854775807) :
    RSlice size E w S [.slice (some ⟨b, 0, none⟩) l.length l.length] l := by
  obtain ⟨h1, h2, h3⟩ := h.spec
  refine ⟨_, _, rfl, Nat.le_refl _, hl, fun _ => ⟨b, 0, rfl, hS, fun j x hx => ?_⟩⟩
  have hj : j < ess.length := by rw [h1]; exact getElem?_lt hx
  have he : ess[j]? = some ess[j] := List.getElem?_eq_getElem hj
  have hsz := h2 ess[j] (List.getElem_mem hj)
  refine ⟨ess[j], hsz, h3 j _ x he hx, fun i u hu => ?_⟩
  have hi : i < size := by rw [← hsz]; exact getElem?_lt hu
  rw [Nat.zero_add, hb.cell, ← Array.getElem?_toList, hc, flatten_at h2 he hi]
  exact hu
theorem RInts.ofBlk {w : World} {S : Foot} {b : Nat} {t : TypeId} (l : List Int) (hb : Blk w b t (l.map (Value.int .i64)).toArray) (hS : S b) (hl : l.length ≤ 9223372036854775807) : RInts w S [.slice (some ⟨b, 0, none⟩) l.length l.length] l := by
  refine RSlice.ofBlk hb hS (l.map fun x => [.int .i64 x]) l ?_ ?_ hl
  · clear hb hl hS
    induction l with
    | nil => rfl
    | cons a l ih => simp only [List.map_cons, List.flatten_cons, List.singleton_append] at ih ⊢; rw [← ih]
  · clear hb hl hS
    induction l with
    | nil => trivial
    | cons a l ih => exact ⟨⟨rfl, rfl⟩, ih⟩

/-- blocks of integers and of bools -/
def cellsI (l : List Int) : Array Value := (l.map (Value.int .i64)).toArray
theorem cellsI_at {l : List Int} {n : Nat} {x : Int} (h : l[n]? = some x) : (cellsI l)[n]? = some (.int .i64 x) := by simp [cellsI, h]
theorem cellsI_set (l : List Int) (n : Nat) (x : Int) : (cellsI l).setIfInBounds n (.int .i64 x) = cellsI (l.set n x) := by simp [cellsI, List.map_set]
theorem cellsB'_at {l : List Bool} {n : Nat} {x : Bool} (h : l[n]? = some x) : (cellsB' l)[n]? = some (.bool x) := by simp [cellsB', h]
theorem cellsB'_set' (l : List Bool) (n : Nat) (x : Bool) : (cellsB' l).setIfInBounds n (.bool x) = cellsB' (l.set n x) := by simp [cellsB', List.map_set]
theorem madeCells_one (z : Value) (n : Nat) : madeCells #[z] n = (List.replicate n z).toArray := by
  apply Array.ext
  · simp [madeCells]
  · intro i h1 h2
    simp [madeCells, Nat.mod_one]
theorem mkInts (n : Nat) (hn : n ≤ 1000000) (W : World) : (Instr.makeSlice 23 (.int .i64 (n : Int)) (.int .i64 (n : Int))).run Tryz.prog W = .ok (.slice (some ⟨W.heap.size, 0, none⟩) n n) (W.alloc (.cells (cellsI (List.replicate n 0)) 3)) := by
  have h := run_make_row' (P := Tryz.prog) 23 3 (.int .i64 0) 8 Tryz.underlying23 (by kernel_rfl) rfl .i64 .i64 n (by omega) (by omega) W
  rw [madeCells_one] at h
  rw [h]; simp [cellsI]
theorem Blk.ints {w : World} {S : Foot} {b : Nat} {t : TypeId} {l : List Int} (hb : Blk w b t (cellsI l)) (hS : S b) (hl : l.length ≤ 9223372036854775807) : RInts w S [.slice (some ⟨b, 0, none⟩) l.length l.length] l := RInts.ofBlk l hb hS hl

/-- a reading that rests on no memory -/
def Rd.Flat {α : Type} (E : Rd α) : Prop := ∀ w S w' S' cs x, E w S cs x → E w' S' cs x
theorem RInt.flat : Rd.Flat RInt := fun _ _ _ _ _ _ h => h
theorem RBool.flat : Rd.Flat RBool := fun _ _ _ _ _ _ h => h
theorem RRef.flat : Rd.Flat RRef := fun _ _ _ _ _ _ h => h
def RGArc : Rd GArc := fun _ _ cs a => cs = [.int .i64 a.frm, .int .i64 a.wt]
theorem RGArc.ok : Rd.Ok RGArc := ⟨fun h _ _ => h⟩
theorem RGArc.flat : Rd.Flat RGArc := fun _ _ _ _ _ _ h => h
abbrev RArcs := RSlice 2 RGArc
abbrev RArcss := RSlice 1 RArcs
theorem RArcs.ok : Rd.Ok RArcs := RSlice.ok RGArc.ok
theorem RArcss.ok : Rd.Ok RArcss := RSlice.ok RArcs.ok
theorem RArcs.atK {w wr : World} {A : Option Addr} {n c : Nat} {l : List GArc} (K : KeepsAll w wr) (h : RArcs w (Old w) [.slice A n c] l) {k : Nat} (hk : k < l.length) :
    ∃ b o u, A = some ⟨b, o, none⟩ ∧ b < wr.heap.size ∧ l[k]? = some u ∧ wr.cell? ⟨b, o + k * 2, none⟩ = some (.int .i64 u.frm) ∧ wr.cell? ⟨b, o + k * 2 + 1, none⟩ = some (.int .i64 u.wt) := by
  obtain ⟨b, o, u, es, rfl, hb, hx, h1, h2, h3⟩ := h.get hk
  cases h2
  exact ⟨b, o, u, rfl, Nat.lt_of_lt_of_le hb K.size, hx, K.cellK hb (by simpa using h3 0 _ rfl), K.cellK hb (by simpa [Nat.add_assoc] using h3 1 _ rfl)⟩

theorem OwnL.keepsF {α : Type} {t size : Nat} {E : Rd α} {w w' : World} {base lo : Nat} {v : Value} {l : List α} (hF : Rd.Flat E) {C : Foot} (h : OwnL t size E w base lo v l) (k : Keeps C w w') (hC : ∀ b, v.ownBlock = some b → ¬ C b) : OwnL t size E w' base lo v l := by
  obtain ⟨ess, h1, h2, h3⟩ := h
  refine ⟨ess, h1, ?_, fun j x hx => ?_⟩
  · refine ⟨h2.1, ?_⟩
    rcases h2.2 with hn | ⟨g, cap, cur, e, hb, hh, rest⟩
    · exact .inl hn
    · have hlt := (Array.getElem?_eq_some_iff.1 hh).1
      exact .inr ⟨g, cap, cur, e, hb, (k.block g hlt (hC g (by rw [e]; rfl))).trans hh, rest⟩
  · obtain ⟨es, e1, e2, e3⟩ := h3 j x hx
    exact ⟨es, e1, e2, hF _ _ _ _ _ _ e3⟩
theorem OwnL.readF {α : Type} {t size : Nat} {E : Rd α} {w : World} {base lo : Nat} {v : Value} {l : List α} (_hE : Rd.Ok E) (hF : Rd.Flat E) (h : OwnL t size E w base lo v l) {S : Foot} (hS : ∀ b, v.ownBlock = some b → S b) : RSlice size E w S [v] l := by
  obtain ⟨ess, h1, h2, h3⟩ := h
  have hall : ∀ es ∈ ess, es.length = size := by
    intro es hes
    obtain ⟨j, hj, e⟩ := List.getElem_of_mem hes
    have hl : j < l.length := by omega
    obtain ⟨es', e1, e2, _⟩ := h3 j l[j] (List.getElem?_eq_getElem hl)
    rw [List.getElem?_eq_getElem hj, e] at e1
    injection e1 with e1; subst e1; exact e2
  rcases h2.2 with ⟨rfl, hn⟩ | ⟨g, cap, cur, rfl, hb, hh, hnc, hcm, hcs, htk⟩
  · have : l = [] := List.eq_nil_of_length_eq_zero hn
    subst this
    exact RSlice.mkNil
  · refine ⟨_, cap, rfl, hnc, hcm, fun _ => ⟨g, 0, rfl, hS g rfl, fun j x hx => ?_⟩⟩
    obtain ⟨es, e1, e2, e3⟩ := h3 j x hx
    refine ⟨es, e2, hF _ _ _ _ _ _ e3, fun i u hu => ?_⟩
    have hi : i < size := by rw [← e2]; exact (List.getElem?_eq_some_iff.1 hu).1
    have hj : j < l.length := (List.getElem?_eq_some_iff.1 hx).1
    have hf := flatten_at hall e1 hi
    rw [hu, ← htk] at hf
    have hk : j * size + i < l.length * size := by
      have : (j + 1) * size ≤ l.length * size := Nat.mul_le_mul_right _ hj
      rw [Nat.succ_mul] at this; omega
    rw [List.getElem?_take_of_lt hk] at hf
    simp only [World.cell?, hh, Option.isSome_none, Nat.zero_add]
    simpa using hf

structure Rows {α : Type} (tr te size : Nat) (E : Rd α) (w : World) (base B : Nat) (vs : List Value) (ll : List (List α)) : Prop where
  blk : Blk w B tr vs.toArray
  len : vs.length = ll.length
  own : ∀ (i : Nat) v l, vs[i]? = some v → ll[i]? = some l → OwnL te size E w base base v l
  ne : ∀ (i j : Nat) u v b, i ≠ j → vs[i]? = some u → vs[j]? = some v → u.ownBlock = some b → v.ownBlock ≠ some b
  nb : B < base
section
variable {α : Type} {tr te size : Nat} {E : Rd α} {w w' : World} {base B : Nat} {vs : List Value} {ll : List (List α)}
theorem Rows.keeps (hF : Rd.Flat E) {C : Foot} (h : Rows tr te size E w base B vs ll) (k : Keeps C w w') (hB : ¬ C B) (hC : ∀ b, base ≤ b → b < w.heap.size → ¬ C b) : Rows tr te size E w' base B vs ll :=
  ⟨h.blk.kept k hB, h.len, fun i v l hv hl => (h.own i v l hv hl).keepsF hF k (fun b hb => by have := (h.own i v l hv hl).lt hb; exact hC b this.1 this.2), h.ne, h.nb⟩
theorem Rows.get (h : Rows tr te size E w base B vs ll) {i : Nat} (hi : i < ll.length) : ∃ v l, vs[i]? = some v ∧ ll[i]? = some l ∧ OwnL te size E w base base v l ∧ w.cell? ⟨B, i, none⟩ = some v ∧ w.frozen? ⟨B, i, none⟩ = false := by
  have hv : vs[i]? = some (vs[i]'(by rw [h.len]; exact hi)) := List.getElem?_eq_getElem _
  have hl : ll[i]? = some ll[i] := List.getElem?_eq_getElem hi
  exact ⟨_, _, hv, hl, h.own i _ _ hv hl, by rw [h.blk.cell]; simp, h.blk.frozen i⟩
/-- row i has grown to v', in its own block or in a new one -/
theorem Rows.push (hF : Rd.Flat E) (h : Rows tr te size E w base B vs ll) {i : Nat} {v v' : Value} {l l' : List α} (hv : vs[i]? = some v) (hl : ll[i]? = some l) (_hbase : base ≤ w.heap.size) (ho : OwnL te size E w' base base v' l') (hk : Keeps (fun b => v.ownBlock = some b) w w') (hn : v'.ownBlock = v.ownBlock ∨ v'.ownBlock = some w.heap.size) :
    Rows tr te size E (w'.setCell ⟨B, i, none⟩ v') base B (vs.set i v') (ll.set i l') := by
  have hBv : ¬ (v.ownBlock = some B) := fun e => by have := (h.own i v l hv hl).lt e; have := h.nb; omega
  have hlt := h.blk.lt
  have hi := getElem?_lt hv
  have k2 : Keeps (fun b => b = B) w' (w'.setCell ⟨B, i, none⟩ v') := (Keeps.refl (fun b => b = B) w').setCell (p := ⟨B, i, none⟩) (fun _ => rfl) _
  have key : ∀ (j : Nat) u m, j ≠ i → vs[j]? = some u → ll[j]? = some m → OwnL te size E (w'.setCell ⟨B, i, none⟩ v') base base u m := fun j u m hj hu hm => by
    have h1 := (h.own j u m hu hm).keepsF hF hk (fun b hb e => h.ne j i u v b hj hu hv hb e)
    exact h1.keepsF hF k2 (fun b hb e => by have := h1.lt hb; have := h.nb; omega)
  refine ⟨?_, by simp [h.len], fun j u m hu hm => ?_, fun a b u u' x hab hu hu' hx => ?_, h.nb⟩
  · have := (h.blk.kept hk hBv).set_ i v'
    have e : vs.toArray.setIfInBounds i v' = (vs.set i v').toArray := by simp
    rw [e] at this; exact this
  · by_cases e : i = j
    · subst e
      rw [List.getElem?_set_self hi] at hu
      rw [List.getElem?_set_self (by rw [← h.len]; exact hi)] at hm
      injection hu with hu; injection hm with hm; subst hu hm
      exact ho.keepsF hF k2 (fun b hb e => by have := ho.lt hb; have := h.nb; omega)
    · rw [List.getElem?_set_ne e] at hu hm
      exact key j u m (fun h => e h.symm) hu hm
  · by_cases e1 : i = a
    · subst e1
      rw [List.getElem?_set_self hi] at hu
      injection hu with hu; subst hu
      rw [List.getElem?_set_ne hab] at hu'
      intro e2
      obtain ⟨m, hm⟩ : ∃ m, ll[b]? = some m := ⟨_, List.getElem?_eq_getElem (by rw [← h.len]; exact getElem?_lt hu')⟩
      rcases hn with hn | hn
      · exact h.ne i b v u' x hab hv hu' (by rw [← hn]; exact hx) e2
      · rw [hn] at hx; injection hx with hx; subst hx
        have := (h.own b u' m hu' hm).lt e2; omega
    · rw [List.getElem?_set_ne e1] at hu
      by_cases e2 : i = b
      · subst e2
        rw [List.getElem?_set_self hi] at hu'
        injection hu' with hu'; subst hu'
        obtain ⟨m, hm⟩ : ∃ m, ll[a]? = some m := ⟨_, List.getElem?_eq_getElem (by rw [← h.len]; exact getElem?_lt hu)⟩
        intro e3
        rcases hn with hn | hn
        · exact h.ne a i u v x hab hu hv hx (by rw [← hn]; exact e3)
        · rw [hn] at e3; injection e3 with e3; subst e3
          have := (h.own a u m hu hm).lt hx; omega
      · rw [List.getElem?_set_ne e2] at hu'
        exact h.ne a b u u' x hab hu hu' hx
theorem Rows.new (n : Nat) {B : Nat} (hb : Blk w B tr (List.replicate n (Value.slice none 0 0)).toArray) (hB : B < base) : Rows tr te size E w base B (List.replicate n (.slice none 0 0)) (List.replicate n ([] : List α)) := by
  refine ⟨hb, by simp, fun i v l hv hl => ?_, fun i j u v b _ hu _ hx => ?_, hB⟩
  · simp [List.getElem?_replicate] at hv hl
    obtain ⟨_, rfl⟩ := hv
    obtain ⟨_, rfl⟩ := hl
    exact OwnL.nil
  · simp [List.getElem?_replicate] at hu
    obtain ⟨_, rfl⟩ := hu
    simp [Value.ownBlock] at hx
theorem Rows.read (hE : Rd.Ok E) (hF : Rd.Flat E) (h : Rows tr te size E w base B vs ll) (hl : ll.length ≤ 9223372036854775807) {S : Foot} (hB : S B) (hS : ∀ b, base ≤ b → b < w.heap.size → S b) : RSlice 1 (RSlice size E) w S [.slice (some ⟨B, 0, none⟩) ll.length ll.length] ll := by
  refine ⟨_, _, rfl, Nat.le_refl _, hl, fun _ => ⟨B, 0, rfl, hB, fun j x hx => ?_⟩⟩
  obtain ⟨v, l, hv, hl', ho, hc, _⟩ := h.get (getElem?_lt hx)
  obtain rfl := same_of hl' hx
  refine ⟨[v], rfl, ho.readF hE hF (fun b hb => by have := ho.lt hb; exact hS b this.1 this.2), fun i u hu => ?_⟩
  have hi : i = 0 := by
    rcases i with _ | i
    · rfl
    · simp at hu
  subst hi
  simp at hu; subst hu
  simpa using hc
end

end Go.Proofs.YtbfgmbakeofcbaaGreat
