/- Contracts of what precedence.Cycle calls of Go's slices: Index, Contains, Min, Reverse, Grow, Concat at integers. Conditions: as each theorem says. -/
import Derived.Test.YtigmldildefdgaaCycP
import Derived.Test.YtigmldildefdgaaRep
import Derived.Lib.MinMax
import Derived.Lib.AppendZeros
import Derived.BigRegion
namespace Go.Proofs.Ytigmldildefdgaa
open Go.RowKit

theorem idxOf_mem' {l : List Int} {x : Int} (h : x ∈ l) : ∃ i : Nat, idxOf l x = (i : Int) ∧ l[i]? = some x := by
  refine ⟨l.idxOf x, by unfold idxOf; rw [if_pos h], ?_⟩
  rw [List.getElem?_eq_getElem (List.idxOf_lt_length_iff.2 h), List.getElem_idxOf]
set_option maxHeartbeats 400000 in
theorem MinInt_any (l : List Int) (hl : 0 < l.length) (A : Option Addr) (c : Nat) (w : World) (S : Foot) (h : RInts w S [.slice A l.length c] l) :
    Calls Try.prog 78 #[.slice A l.length c] w fun e w' => ∃ m ∈ l, e = .returned (.int .i64 m) ∧ w = w' := by
  have hc := h.caps
  obtain ⟨b, o, x0, hbo, _, hx0, k0⟩ := h.at_ hl
  subst hbo
  have H := Lib.hid h; clear h
  have HM0 : Hid (x0 ∈ l) := List.mem_of_getElem? hx0
  clear hx0
  rw [Nat.add_zero] at k0
  go_enter Try.func78, Try.ntmps78
  go_wp2
  clear k0
  go_loop [3, 4] (fun v i => ∃ (k : Nat) (m : Int), 1 ≤ k ∧ k ≤ l.length ∧ i = .int .i64 (k : Int) ∧ v = .int .i64 m ∧ m ∈ l) (fun _ i => l.length - (intOf i).toNat)
  case atStart => exact ⟨1, x0, Nat.le_refl _, hl, rfl, rfl, HM0.out⟩
  case round =>
    obtain ⟨k, m, hk1, hk, rfl, rfl, hm⟩ := hrel
    have HM := Lib.hid hm; clear hm
    by_cases hlt : k < l.length
    · obtain ⟨b', o', y, hbo, _, hy, k1⟩ := H.out.at_ hlt
      injection hbo with hbo; injection hbo with e1 e2; subst e1 e2
      have Q : Hid (min m y ∈ l) := by
        show _ ∈ _
        rcases Int.le_total m y with h' | h'
        · rw [Int.min_eq_left h']; exact HM.out
        · rw [Int.min_eq_right h']; exact List.mem_of_getElem? hy
      clear hy
      go_wp2
      go_round
      case rel => exact ⟨k + 1, min m y, by omega, by omega, by go_num, rfl, Q.out⟩
      case measure => simp [intOf]; omega
    · obtain rfl : k = l.length := by omega
      go_wp2
      go_ret
      exact ⟨m, HM.out, rfl, rfl⟩

/-- the k-th element of a list of which the first and the last i have changed places -/
def rvAt (l : List Int) (i k : Nat) : Int := if k < i ∨ l.length - i ≤ k then (l[l.length - 1 - k]?).getD 0 else (l[k]?).getD 0
set_option maxRecDepth 100000 in
set_option maxHeartbeats 1000000 in
theorem Reverse_any (g o : Nat) (l : List Int) (c : Nat) (w : World) (hl : l.length ≤ 1000000) (hc : ∀ k, k < l.length → w.cell? ⟨g, o + k, none⟩ = some (.int .i64 ((l[k]?).getD 0))) (hf : ∀ k, w.frozen? ⟨g, k, none⟩ = false) :
    Calls Try.prog 77 #[.slice (some ⟨g, o, none⟩) l.length c] w fun e w' => e = .returned (.tuple #[]) ∧ (∀ k, k < l.length → w'.cell? ⟨g, o + k, none⟩ = some (.int .i64 ((l[l.length - 1 - k]?).getD 0))) ∧ Keeps (fun b => b = g) w w' := by
  have HC : Hid (∀ k, k < l.length → w.cell? ⟨g, o + k, none⟩ = some (.int .i64 (rvAt l 0 k))) := fun k hk => by
    rw [hc k hk]; unfold rvAt; rw [if_neg (by omega)]
  have HF := Lib.hid hf
  clear hc hf
  have hs1 : IntKind.i64.wrap ((l.length : Int) - 1) = (l.length : Int) - 1 := IntWalk.i64_in _ (by omega)
  go_enter Try.func77, Try.ntmps77
  go_wp2
  clear hs1
  go_loopw [2, 3] (fun vi vj wr => ∃ i : Nat, 2 * i ≤ l.length + 1 ∧ vi = .int .i64 (i : Int) ∧ vj = .int .i64 ((l.length : Int) - 1 - (i : Int)) ∧ (∀ k, k < l.length → wr.cell? ⟨g, o + k, none⟩ = some (.int .i64 (rvAt l i k))) ∧ (∀ k, wr.frozen? ⟨g, k, none⟩ = false) ∧ Keeps (fun b => b = g) w wr) (fun vi _ _ => l.length - (intOf vi).toNat)
  case atStart => exact ⟨0, by omega, rfl, by simp, HC.out, HF.out, Keeps.refl _ _⟩
  case round =>
    obtain ⟨i, hi, rfl, rfl, hcl, hfz, hkr⟩ := hrel
    have HCL := Lib.hid hcl
    have HFZ := Lib.hid hfz
    have KR := Lib.hid hkr
    clear hcl hfz hkr
    by_cases hlt : (i : Int) < (l.length : Int) - 1 - (i : Int)
    · obtain ⟨j, hj⟩ := Int.eq_ofNat_of_zero_le (by omega : 0 ≤ (l.length : Int) - 1 - (i : Int))
      rw [hj] at hlt ⊢
      have hij : i < j := by omega
      have hjl : j < l.length := by omega
      have q0 := HCL.out i (by omega)
      have q1 := HCL.out j hjl
      have f0 := HFZ.out (o + i)
      have f1 := HFZ.out (o + j)
      have hne : o + i ≠ o + j := by omega
      generalize hxi : rvAt l i i = xi at *
      generalize hxj : rvAt l i j = xj at *
      have HN : Hid (∀ k, k < l.length → (((wr.setCell ⟨g, o + i, none⟩ (.int .i64 xj)).setCell ⟨g, o + j, none⟩ (.int .i64 xi)).drew).cell? ⟨g, o + k, none⟩ = some (.int .i64 (rvAt l (i + 1) k))) := fun k hk => by
        show ((wr.setCell ⟨g, o + i, none⟩ (.int .i64 xj)).setCell ⟨g, o + j, none⟩ (.int .i64 xi)).cell? ⟨g, o + k, none⟩ = _
        have hqj : (wr.setCell ⟨g, o + i, none⟩ (.int .i64 xj)).cell? ⟨g, o + j, none⟩ = some (.int .i64 xj) := (World.cell?_setCell_other _ _ _ _ (fun h => by injection h; omega)).trans q1
        by_cases e1 : k = j
        · subst e1
          rw [World.cell?_setCell_same _ _ _ hqj]
          congr 2
          rw [← hxi]
          unfold rvAt
          rw [if_neg (by omega), if_pos (by omega)]
          congr 2; omega
        · rw [World.cell?_setCell_other _ _ _ _ (fun h => by injection h; omega)]
          by_cases e2 : k = i
          · subst e2
            rw [World.cell?_setCell_same _ _ _ q0]
            congr 2
            rw [← hxj]
            unfold rvAt
            rw [if_neg (by omega), if_pos (by omega)]
            congr 2; omega
          · rw [World.cell?_setCell_other _ _ _ _ (fun h => by injection h; omega), HCL.out k hk]
            congr 2
            unfold rvAt
            by_cases e3 : k < i ∨ l.length - i ≤ k
            · rw [if_pos e3, if_pos (by omega)]
            · rw [if_neg e3, if_neg (by omega)]
      have HFN : Hid (∀ k, (((wr.setCell ⟨g, o + i, none⟩ (.int .i64 xj)).setCell ⟨g, o + j, none⟩ (.int .i64 xi)).drew).frozen? ⟨g, k, none⟩ = false) := fun k => by
        have := HFZ.out k
        simpa using this
      have KN : Hid (Keeps (fun b => b = g) w (((wr.setCell ⟨g, o + i, none⟩ (.int .i64 xj)).setCell ⟨g, o + j, none⟩ (.int .i64 xi)).drew)) := ((KR.out.setCell (p := ⟨g, o + i, none⟩) (fun _ => rfl) _).setCell (p := ⟨g, o + j, none⟩) (fun _ => rfl) _).drew
      have hs2 : IntKind.i64.wrap ((j : Int) - 1) = (j : Int) - 1 := IntWalk.i64_in _ (by omega)
      have HJ := Lib.hid hj
      clear hj hxi hxj hlt
      go_wp2_with fail
      go_region
      go_wp2
      go_roundw
      case rel => exact ⟨i + 1, by have := HJ.out; omega, by go_num, by have := HJ.out; first | (rw [hs2]; congr 1; omega) | (congr 1; omega), HN.out, HFN.out, KN.out⟩
      case measure => simp [intOf]; omega
    · have hlt' : decide ((i : Int) < (l.length : Int) - 1 - (i : Int)) = false := by simpa using hlt
      have HFIN : Hid (∀ k, k < l.length → wr.cell? ⟨g, o + k, none⟩ = some (.int .i64 ((l[l.length - 1 - k]?).getD 0))) := fun k hk => by
        rw [HCL.out k hk]
        congr 2
        unfold rvAt
        by_cases e3 : k < i ∨ l.length - i ≤ k
        · rw [if_pos e3]
        · rw [if_neg e3]; congr 2; omega
      go_wp2
      refine bodyPost_end (results_none rfl _ _ _) rfl ?_
      exact ⟨rfl, HFIN.out, KR.out⟩

set_option maxHeartbeats 1000000 in
theorem Grow_nil (n : Nat) (h0 : 0 < n) (hn : n ≤ 1000000) (w : World) :
    Calls Try.prog 103 #[.slice none 0 0, .int .i64 (n : Int)] w fun e w' => ∃ v, e = .returned v ∧ OwnL 3 1 RInt w' w.heap.size w.heap.size v [] ∧ KeepsAll w w' := by
  obtain ⟨i, z, i1, i2, i3, i4, i5⟩ := tyInt.info
  have HR : Hid (∀ ty, (Builtin.append_ #[22, 3] ty #[.slice none 0 0, .int .i64 (n : Int)]).run Try.prog w = .ok (.slice (some ⟨w.heap.size, 0, none⟩) n (grownCap w n 0 3)) (w.drew.alloc (.cells (Builtin.zeroCells z.cells n ++ Builtin.zeroCells z.cells (grownCap w n 0 3 - n)) 3))) := fun ty =>
    Lib.run_append_nil_zeros w 22 3 ty 3 i z .i64 .i64 Try.underlying22 Try.underlying3 i1 i2 n h0 (by omega) (by omega) (by rw [i4]; omega)
  have hcap1 := grownCap_ge w n 0 3
  have hcap2 := grownCap_le_maxLen w n 0 3 (by simp [maxLen]; omega)
  have hmx : grownCap w n 0 3 ≤ 9223372036854775807 := by simpa [maxLen] using hcap2
  have HOW : Hid (OwnL 3 1 RInt (w.drew.alloc (.cells (Builtin.zeroCells z.cells n ++ Builtin.zeroCells z.cells (grownCap w n 0 3 - n)) 3)) w.heap.size w.heap.size (.slice (some ⟨w.heap.size, 0, none⟩) 0 (grownCap w n 0 3)) []) := by
    refine ⟨[], rfl, ⟨by simp, .inr ⟨w.heap.size, grownCap w n 0 3, _, rfl, Nat.le_refl _, Blk.new w.drew _ _, Nat.zero_le _, hcap2, ?_, by simp⟩⟩, fun j x h => by simp at h⟩
    have hz : z = .int .i64 0 := by
      have hk : (Try.prog.info? 3).map (fun i => i.zero) = some (some (.int .i64 0)) := by kernel_rfl
      rw [i1] at hk
      simp only [Option.map_some, Option.some.injEq] at hk
      rw [i2] at hk; injection hk
    have hz1 : z.cells.size = 1 := by rw [hz]; rfl
    simp [Builtin.zeroCells, hz1]
    omega
  have KW : Hid (KeepsAll w (w.drew.alloc (.cells (Builtin.zeroCells z.cells n ++ Builtin.zeroCells z.cells (grownCap w n 0 3 - n)) 3))) := (Keeps.refl _ _).drew.alloc _
  have hpos : 0 < n := h0
  have hs0 : IntKind.i64.wrap (n : Int) = (n : Int) := IntWalk.i64_in _ (by omega)
  generalize grownCap w n 0 3 = cap at *
  generalize Builtin.zeroCells z.cells n ++ Builtin.zeroCells z.cells (cap - n) = cg at *
  clear hcap2 i1 i2 i3 i4 i5
  go_enter Try.func103, Try.ntmps103
  go_wp2_with (at_builtin; refine Lib.wpList_append_run _ rfl _ _ _ _ rfl _ _ rfl rfl _ _ (HR.out _) ?_)
  go_ret
  exact ⟨_, rfl, HOW.out, KW.out⟩

set_option maxRecDepth 100000 in
set_option maxHeartbeats 1000000 in
theorem Concat_two (l1 l2 : List Int) (b : Nat) (A1 A2 : Option Addr) (c1 c2 : Nat) (w : World) (hb : Blk w b 22 #[.slice A1 l1.length c1, .slice A2 l2.length c2]) (h1 : RInts w (Old w) [.slice A1 l1.length c1] l1) (h2 : RInts w (Old w) [.slice A2 l2.length c2] l2) (hp : 0 < l1.length + l2.length) (hl : l1.length + l2.length ≤ 1000000) :
    Calls Try.prog 79 #[.slice (some ⟨b, 0, none⟩) 2 2] w fun e w' => ∃ v, e = .returned v ∧ RInts w' (Old w') [v] (l1 ++ l2) ∧ KeepsAll w w' := by
  have hc1 := h1.caps
  have hc2 := h2.caps
  have e0 := hb.cell 0
  have e1 := hb.cell 1
  simp at e0 e1
  have HB := Lib.hid hb
  have hbl := hb.lt
  clear hb
  have H1 := Lib.hid h1; clear h1
  have H2 := Lib.hid h2; clear h2
  have hs1 : IntKind.i64.wrap ((l1.length : Int) + (l2.length : Int)) = (l1.length : Int) + (l2.length : Int) := IntWalk.i64_in _ (by omega)
  have hn1 : decide ((l1.length : Int) < 0) = false := by simp
  have hn2 : decide ((l1.length : Int) + (l2.length : Int) < 0) = false := by simp; omega
  go_enter Try.func79, Try.ntmps79
  go_wp2
  go_loopw [3, 11] (fun v i wr => ∃ k : Nat, k ≤ 2 ∧ i = .int .i64 (k : Int) ∧ v = .int .i64 (if k = 0 then 0 else if k = 1 then (l1.length : Int) else (l1.length : Int) + (l2.length : Int)) ∧ w = wr) (fun _ i _ => 2 - (intOf i).toNat)
  case atStart => exact ⟨0, by omega, rfl, rfl, rfl⟩
  case round =>
    obtain ⟨k, hk, rfl, rfl, rfl⟩ := hrel
    have hk3 : k = 0 ∨ k = 1 ∨ k = 2 := by omega
    rcases hk3 with rfl | rfl | rfl
    · simp only [if_pos]
      go_wp2
      go_roundw
      case rel => exact ⟨1, by omega, by go_num, by simp, trivial⟩
      case measure => simp [intOf]
    · rw [if_neg (by omega), if_pos rfl]
      go_wp2
      go_roundw
      case rel => exact ⟨2, by omega, by go_num, by simp, trivial⟩
      case measure => simp [intOf]
    · have HG : Hid (Calls Try.prog 103 #[.slice none 0 0, .int .i64 ((l1.length : Int) + (l2.length : Int))] w fun e w' => ∃ v, e = .returned v ∧ OwnL 3 1 RInt w' w.heap.size w.heap.size v [] ∧ KeepsAll w w') := by
        have q := Grow_nil (l1.length + l2.length) hp hl w
        show Calls _ _ _ _ _
        simpa using q
      rw [if_neg (by omega), if_neg (by omega), show ((2 : Nat) : Int) = 2 from rfl]
      go_wp2_with fail
      refine HG.out.mono ?_
      rintro e w1 ⟨v, rfl, ho, k1⟩
      have HO := Lib.hid ho
      have K1 := Lib.hid k1
      clear ho k1 HG e0 e1
      obtain ⟨Av, cv, rfl, hcv1, hcv2⟩ := HO.out.form
      simp only [List.length_nil] at *
      go_wp2
      go_loopw [6, 27] (fun v i wr => ∃ k : Nat, k ≤ 2 ∧ i = .int .i64 (k : Int) ∧ OwnL 3 1 RInt wr w.heap.size w.heap.size v (if k = 0 then [] else if k = 1 then l1 else l1 ++ l2) ∧ KeepsAll w wr) (fun _ i _ => 2 - (intOf i).toNat)
      case atStart => exact ⟨0, by omega, rfl, HO.out, K1.out⟩
      case round =>
        obtain ⟨k, hk, rfl, ho, hkr⟩ := hrel
        have hk3 : k = 0 ∨ k = 1 ∨ k = 2 := by omega
        rcases hk3 with rfl | rfl | rfl
        · rw [if_pos rfl] at ho
          obtain ⟨Ab, cb, rfl, hcb1, hcb2⟩ := ho.form
          have HOx := Lib.hid ho
          have KR := Lib.hid hkr
          have hbx := HB.out.kept hkr (by simp)
          have e0 := hbx.cell 0
          simp at e0
          have hbz := hbx.lt
          have hsz := hkr.size
          clear ho hkr hbx
          go_wp2_with (at_builtin; refine wpList_append_M tyInt RInt.ok RInt.one rfl (.tmp 31) (.tmp 32) rfl HOx.out rfl rfl (S := Old wr) (S2 := fun _ => False) (KR.out.rdo' RInts.ok H1.out) (fun _ _ h => h) (fun _ h => h.elim) (by simp; omega) (by simp; omega) hsz ?_; intro v5 w5 HO5 HK5 HA5; rw [List.nil_append] at HO5; have K5 := Lib.hid (KR.out.trans HK5 (fun x hx e => (by have := HOx.out.lt e; omega))); have HO5' := Lib.hid HO5; obtain ⟨A5, c5, hv5, _, _⟩ := HO5.form; subst hv5; clear HO5 HK5 HA5)
          go_roundw
          case rel => exact ⟨1, by omega, by go_num, HO5'.out, K5.out⟩
          case measure => simp [intOf]
        · rw [if_neg (by omega), if_pos rfl] at ho
          obtain ⟨Ab, cb, rfl, hcb1, hcb2⟩ := ho.form
          have HOx := Lib.hid ho
          have KR := Lib.hid hkr
          have hbx := HB.out.kept hkr (by simp)
          have e1 := hbx.cell 1
          simp at e1
          have hbz := hbx.lt
          have hsz := hkr.size
          clear ho hkr hbx
          go_wp2_with (at_builtin; refine wpList_append_M tyInt RInt.ok RInt.one rfl (.tmp 31) (.tmp 32) rfl HOx.out rfl rfl (S := Old wr) (S2 := fun _ => False) (KR.out.rdo' RInts.ok H2.out) (fun _ _ h => h) (fun _ h => h.elim) (by omega) (by omega) hsz ?_; intro v5 w5 HO5 HK5 HA5; have K5 := Lib.hid (KR.out.trans HK5 (fun x hx e => (by have := HOx.out.lt e; omega))); have HO5' := Lib.hid HO5; obtain ⟨A5, c5, hv5, _, _⟩ := HO5.form; rw [List.length_append] at hv5; subst hv5; clear HO5 HK5 HA5)
          go_roundw
          case rel => exact ⟨2, by omega, by go_num, HO5'.out, K5.out⟩
          case measure => simp [intOf]
        · rw [if_neg (by omega), if_neg (by omega)] at ho
          have HRD := Lib.hid (ho.read RInt.ok (by omega) (S := Old wr) (fun _ _ h => h) (fun _ _ h => h))
          have KR := Lib.hid hkr
          clear ho hkr
          go_wp2
          go_ret
          exact ⟨_, rfl, HRD.out, KR.out⟩

end Go.Proofs.Ytigmldildefdgaa
