/- Contracts of the readers of stages and uses: Contains, uses, Uses, holds. Conditions: as each theorem says. -/
import Derived.Test.YtcbpiidbkjaneaaGreatCheckP
namespace Go.Proofs.YtcbpiidbkjaneaaGreat
open Go.RowKit

theorem RRefs.at_ {w : World} {S : Foot} {A : Option Addr} {n c : Nat} {l : List Ref} (h : RRefs w S [.slice A n c] l) {k : Nat} (hk : k < l.length) :
    ∃ b o u, A = some ⟨b, o, none⟩ ∧ S b ∧ l[k]? = some u ∧ w.cell? ⟨b, o + k * 2, none⟩ = some (.int .i64 u.tr) ∧ w.cell? ⟨b, o + k * 2 + 1, none⟩ = some (.int .i64 u.st) := by
  obtain ⟨b, o, u, es, rfl, hb, hx, h1, h2, h3⟩ := h.get hk
  cases h2
  exact ⟨b, o, u, rfl, hb, hx, by simpa using h3 0 _ rfl, by simpa [Nat.add_assoc] using h3 1 _ rfl⟩
theorem ROrders.at_ {w : World} {S : Foot} {A : Option Addr} {n c : Nat} {l : List Order} (h : ROrders w S [.slice A n c] l) {k : Nat} (hk : k < l.length) :
    ∃ b o x A' c', A = some ⟨b, o, none⟩ ∧ S b ∧ l[k]? = some x ∧ w.cell? ⟨b, o + k * 2, none⟩ = some (.int .i64 x.res) ∧ w.cell? ⟨b, o + k * 2 + 1, none⟩ = some (.slice A' x.uses.length c') ∧ RRefs w S [.slice A' x.uses.length c'] x.uses := by
  obtain ⟨b, o, x, es, rfl, hb, hx, h1, ⟨v, rfl, hv⟩, h3⟩ := h.get hk
  have hv' := hv
  obtain ⟨A', c', he, _⟩ := hv'
  injection he with he _; subst he
  exact ⟨b, o, x, A', c', rfl, hb, hx, by simpa using h3 0 _ rfl, by simpa [Nat.add_assoc] using h3 1 _ rfl, hv⟩

def idxOf (l : List Int) (x : Int) : Int := if x ∈ l then (l.idxOf x : Int) else -1
theorem idxOf_stop {l : List Int} {k : Nat} {x : Int} (hx : l[k]? = some x) (hn : x ∉ l.take k) : idxOf l x = k := by
  have hm := List.mem_of_getElem? hx
  unfold idxOf
  rw [if_pos hm]
  have hk := getElem?_lt hx
  have e : l = l.take k ++ x :: l.drop (k + 1) := by rw [← drop_cons' hx, List.take_append_drop]
  have : l.idxOf x = k := by
    conv => lhs; rw [e]
    rw [List.idxOf_append, if_neg hn]
    simp; omega
  rw [this]

set_option maxHeartbeats 400000 in
theorem IndexInt_any (l : List Int) (x : Int) (A : Option Addr) (c : Nat) (w : World) (S : Foot) (h : RInts w S [.slice A l.length c] l) :
    Calls Tryz.prog 113 #[.slice A l.length c, .int .i64 x] w fun e w' => e = .returned (.int .i64 (idxOf l x)) ∧ w = w' := by
  have hc := h.caps
  have H := Lib.hid h; clear h
  go_enter Tryz.func113, Tryz.ntmps113
  go_wp2
  go_loop [8] (fun i => ∃ k : Nat, k ≤ l.length ∧ i = .int .i64 k ∧ x ∉ l.take k) (fun i => l.length - (intOf i).toNat)
  case atStart => exact ⟨0, Nat.zero_le _, rfl, by simp⟩
  case round =>
    obtain ⟨k, hk, rfl, hno⟩ := hrel
    have HNO := Lib.hid hno; clear hno
    by_cases hlt : k < l.length
    · obtain ⟨b, o, y, rfl, _, hy, k1⟩ := H.out.at_ hlt
      by_cases g : (x == y) = true
      · have Q : Hid (idxOf l x = k) := by
          have : x = y := by simpa using g
          subst this; exact idxOf_stop hy HNO.out
        clear hy
        go_wp2
        go_ret
        exact ⟨by rw [Q.out]; rfl, rfl⟩
      · have g' : (x == y) = false := by simpa using g
        have Q : Hid (x ∉ l.take (k + 1)) := by
          show ¬ _
          rw [List.take_add_one, hy]; simp
          exact ⟨by simpa using HNO.out, by simpa using g'⟩
        clear hy
        go_wp2
        go_round
        case rel => exact ⟨k + 1, by omega, by go_num, Q.out⟩
        case measure => simp [intOf]; omega
    · obtain rfl : k = l.length := by omega
      have Q : Hid (idxOf l x = -1) := by
        show idxOf l x = -1
        have := HNO.out; rw [List.take_length] at this
        simp [idxOf, this]
      go_wp2
      go_ret
      exact ⟨by rw [Q.out]; rfl, rfl⟩
theorem idxOf_ge (l : List Int) (x : Int) : decide (idxOf l x ≥ 0) = decide (x ∈ l) := by
  unfold idxOf
  by_cases h : x ∈ l
  · simp [h]
  · simp [h]
theorem ContainsInt_any (l : List Int) (x : Int) (A : Option Addr) (c : Nat) (w : World) (S : Foot) (h : RInts w S [.slice A l.length c] l) :
    Calls Tryz.prog 99 #[.slice A l.length c, .int .i64 x] w fun e w' => e = .returned (.bool (decide (x ∈ l))) ∧ w = w' := by
  have Q := Lib.hid (idxOf_ge l x)
  have I := Lib.hid (IndexInt_any l x A c w S h)
  clear h
  go_enter Tryz.func99, Tryz.ntmps99
  go_wp2_with fail
  refine I.out.mono ?_
  rintro e w' ⟨rfl, rfl⟩
  go_wp2
  go_ret
  exact ⟨by rw [← Q.out]; rfl, rfl⟩

/-- the cells of a stage -/
abbrev stC (s : Stage) (Ap : Option Addr) (cp : Nat) : Array Value := #[.int .i64 s.sec, .slice Ap s.pts.length cp, .int .i64 s.mn, .int .i64 s.nt]
theorem mem_stUses (s : Stage) (r : Int) : decide (r ∈ stUses s) = (s.sec == r || decide (r ∈ s.pts)) := by
  rw [Bool.eq_iff_iff]
  simp only [stUses, List.mem_cons, Bool.or_eq_true, beq_iff_eq, decide_eq_true_eq]
  constructor
  · rintro (h | h)
    · exact .inl h.symm
    · exact .inr h
  · rintro (h | h)
    · exact .inl h.symm
    · exact .inr h
set_option maxHeartbeats 400000 in
theorem uses_any (s : Stage) (r : Int) (Ap : Option Addr) (cp : Nat) (w : World) (h : RInts w (Old w) [.slice Ap s.pts.length cp] s.pts) :
    Calls Tryz.prog 75 #[.agg (stC s Ap cp), .int .i64 r] w fun e w' => e = .returned (.bool (decide (r ∈ stUses s))) ∧ KeepsAll w w' := by
  have hc := h.caps
  have HA : Hid (∀ o, RInts (w.alloc o) (Old (w.alloc o)) [.slice Ap s.pts.length cp] s.pts) := fun o => ((Keeps.refl (fun _ => False) w).alloc o).rd RInts.ok h (fun b hb => ⟨hb, by simp⟩) (fun b hb => by have : b < w.heap.size := hb; show b < _; simp; omega)
  have HM := Lib.hid (mem_stUses s r)
  clear h
  by_cases g : (s.sec == r) = true
  · have HM2 : Hid (decide (r ∈ stUses s) = true) := by rw [HM.out, g]; rfl
    clear HM
    go_enter Tryz.func75, Tryz.ntmps75
    go_wp2
    go_ret
    exact ⟨by rw [HM2.out]; rfl, (Keeps.refl _ _).alloc _⟩
  · have g' : (s.sec == r) = false := by simpa using g
    have HM2 : Hid (decide (r ∈ stUses s) = decide (r ∈ s.pts)) := by show decide (r ∈ stUses s) = decide (r ∈ s.pts); rw [HM.out, g', Bool.false_or]
    clear HM
    go_enter Tryz.func75, Tryz.ntmps75
    go_wp2_with fail
    refine (ContainsInt_any s.pts r Ap cp _ _ (HA.out _)).mono ?_
    rintro e w' ⟨rfl, rfl⟩
    go_wp2
    go_ret
    exact ⟨by rw [HM2.out]; rfl, (Keeps.refl _ _).alloc _⟩
set_option maxHeartbeats 400000 in
theorem Uses_any (s : Stage) (r : Int) (Ap : Option Addr) (cp : Nat) (w : World) (h : RInts w (Old w) [.slice Ap s.pts.length cp] s.pts) :
    Calls Tryz.prog 66 #[.agg (stC s Ap cp), .int .i64 r] w fun e w' => e = .returned (.tuple #[.bool (decide (r ∈ stUses s)), .bool (s.sec == r)]) ∧ KeepsAll w w' := by
  have hc := h.caps
  have HA : Hid (∀ o, RInts (w.alloc o) (Old (w.alloc o)) [.slice Ap s.pts.length cp] s.pts) := fun o => ((Keeps.refl (fun _ => False) w).alloc o).rd RInts.ok h (fun b hb => ⟨hb, by simp⟩) (fun b hb => by have : b < w.heap.size := hb; show b < _; simp; omega)
  have HM := Lib.hid (mem_stUses s r)
  clear h
  by_cases g : (s.sec == r) = true
  · have HM2 : Hid (decide (r ∈ stUses s) = true) := by rw [HM.out, g]; rfl
    clear HM
    go_enter Tryz.func66, Tryz.ntmps66
    go_wp2
    go_ret2
    exact ⟨by rw [HM2.out, g]; rfl, (Keeps.refl _ _).alloc _⟩
  · have g' : (s.sec == r) = false := by simpa using g
    have HM2 : Hid (decide (r ∈ stUses s) = decide (r ∈ s.pts)) := by show decide (r ∈ stUses s) = decide (r ∈ s.pts); rw [HM.out, g', Bool.false_or]
    clear HM
    go_enter Tryz.func66, Tryz.ntmps66
    go_wp2
    generalize hW : World.alloc w _ = W
    have HR : Hid (RInts W (Old W) [.slice Ap s.pts.length cp] s.pts) := by subst hW; exact HA.out _
    have KW : Hid (KeepsAll w W) := by subst hW; exact (Keeps.refl _ _).alloc _
    clear hW HA
    go_loop [15] (fun i => ∃ k : Nat, k ≤ s.pts.length ∧ i = .int .i64 k ∧ r ∉ s.pts.take k) (fun i => s.pts.length - (intOf i).toNat)
    case atStart => exact ⟨0, Nat.zero_le _, rfl, by simp⟩
    case round =>
      obtain ⟨k, hk, rfl, hno⟩ := hrel
      have HNO := Lib.hid hno; clear hno
      by_cases hlt : k < s.pts.length
      · obtain ⟨b, o, y, rfl, _, hy, k1⟩ := HR.out.at_ hlt
        by_cases g2 : (y == r) = true
        · have Q : Hid (decide (r ∈ s.pts) = true) := by
            have : y = r := by simpa using g2
            subst this
            show decide (y ∈ s.pts) = true
            simpa using List.mem_of_getElem? hy
          clear hy
          go_wp2
          go_ret2
          exact ⟨by rw [HM2.out, Q.out]; rfl, KW.out⟩
        · have g2' : (y == r) = false := by simpa using g2
          have Q : Hid (r ∉ s.pts.take (k + 1)) := by
            show ¬ _
            rw [List.take_add_one, hy]; simp
            exact ⟨by simpa using HNO.out, fun e => by simp [e] at g2'⟩
          clear hy
          go_wp2
          go_round
          case rel => exact ⟨k + 1, by omega, by go_num, Q.out⟩
          case measure => simp [intOf]; omega
      · obtain rfl : k = s.pts.length := by omega
        have Q : Hid (decide (r ∈ s.pts) = false) := by
          show decide (r ∈ s.pts) = false
          have := HNO.out; rw [List.take_length] at this
          simpa using this
        go_wp2
        go_ret2
        exact ⟨by rw [HM2.out, Q.out]; rfl, KW.out⟩

end Go.Proofs.YtcbpiidbkjaneaaGreat
