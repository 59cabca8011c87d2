/- Contracts of math/bits.Mul64, math/bits.Mul and slices.Repeat at one element. Conditions: as each theorem says. -/
import Derived.Test.YtigmldildefdgaaRefC
import Derived.Laws.CopyRow
import Derived.Laws.Bits64b
namespace Go.Proofs.Ytigmldildefdgaa
open Go.RowKit

theorem maskN' (a : Nat) (ha : a < 4294967296) : bits .and .u64 (a : Int) 4294967295 = (a : Int) := by
  have h := bits_and_u64_nat a 4294967295 (by omega) (by omega)
  have e : a &&& 4294967295 = a % 4294967296 := Nat.and_two_pow_sub_one_eq_mod a 32
  rw [e, Nat.mod_eq_of_lt ha] at h
  exact h
theorem wrapU (a : Nat) (ha : a < 4294967296) : IntKind.u64.wrap (a : Int) = (a : Int) := by rw [IntKind.wrap_u64]; omega
set_option maxHeartbeats 1000000 in
theorem Mul64_one (n : Nat) (hn : n ≤ 1000) (w : World) :
    Calls Try.prog 114 #[.int .u64 1, .int .u64 (n : Int)] w fun e w' => e = .returned (.tuple #[.int .u64 0, .int .u64 (n : Int)]) ∧ w = w' := by
  have h1 : bits .and .u64 1 4294967295 = 1 := maskN' 1 (by omega)
  have h0 : bits .and .u64 0 4294967295 = 0 := maskN' 0 (by omega)
  have hN : bits .and .u64 (n : Int) 4294967295 = (n : Int) := maskN' n (by omega)
  have hw := wrapU n (by omega)
  have hd : (n : Int) / 4294967296 = 0 := by omega
  go_enter Try.func114, Try.ntmps114
  go_wp2
  go_ret2
  exact ⟨rfl, rfl⟩
set_option maxHeartbeats 1000000 in
theorem Mul_one (n : Nat) (hn : n ≤ 1000) (w : World) :
    Calls Try.prog 104 #[.int .u64 1, .int .u64 (n : Int)] w fun e w' => e = .returned (.tuple #[.int .u64 0, .int .u64 (n : Int)]) ∧ w = w' := by
  have HM := Lib.hid (Mul64_one n hn w)
  go_enter Try.func104, Try.ntmps104
  go_wp2_with (go_at_call 114; refine HM.out.mono ?_; rintro e w' ⟨rfl, rfl⟩)
  go_ret2
  exact ⟨rfl, rfl⟩
theorem Keeps.setRow (w : World) (g : Nat) (arr : Array Value) : Keeps (fun b => b = g) w (w.setRow g arr) := by
  refine ⟨rfl, rfl, rfl, by simp [World.setRow], fun k _ hn => ?_⟩
  unfold World.setRow
  simp only [Array.getElem?_modify]
  rw [if_neg (fun e => hn e.symm)]
theorem Blk.setRow {w : World} {g : Nat} {t : TypeId} {cs : Array Value} (h : Blk w g t cs) (arr : Array Value) : Blk (w.setRow g arr) g t arr := setRow_heap w g cs arr t (0, 0) h
theorem Blk.drew_ {w : World} {g : Nat} {t : TypeId} {cs : Array Value} (h : Blk w g t cs) : Blk w.drew g t cs := h
/-- x k times, then 0 -/
def repC (x : Int) (n k : Nat) : Array Value := cellsI (List.replicate k x ++ List.replicate (n - k) 0)
theorem repC_copy (x : Int) {n k m : Nat} (h : k + m ≤ n) : ((repC x n k).toList.take k ++ List.replicate m (Value.int .i64 x) ++ (repC x n k).toList.drop (k + m)).toArray = repC x n (k + m) := by
  unfold repC cellsI
  simp only [List.map_append, List.map_replicate]
  congr 1
  rw [List.take_append_of_le_length (by simp), List.take_of_length_le (by simp), List.drop_append, List.drop_of_length_le (by simp), List.nil_append]
  simp only [List.length_replicate, List.drop_replicate]
  rw [List.replicate_append_replicate]
  congr 2
  omega
theorem repC_size (x : Int) {n k : Nat} (h : k ≤ n) : (repC x n k).size = n := by simp [repC, cellsI]; omega
theorem repC_at (x : Int) {n k j : Nat} (h : j < k) : (repC x n k)[j]? = some (.int .i64 x) := by
  unfold repC
  apply cellsI_at
  rw [List.getElem?_append_left (by simpa using h)]
  simp [h]

set_option maxRecDepth 100000 in
set_option maxHeartbeats 2000000 in
theorem Repeat_one (x : Int) (n : Nat) (h1 : 1 ≤ n) (hn : n ≤ 1000) (b : Nat) (w : World) (hb : w.cell? ⟨b, 0, none⟩ = some (.int .i64 x)) (hbl : b < w.heap.size) :
    Calls Try.prog 82 #[.slice (some ⟨b, 0, none⟩) 1 1, .int .i64 (n : Int)] w fun e w' => ∃ g, e = .returned (.slice (some ⟨g, 0, none⟩) n n) ∧ w.heap.size ≤ g ∧ Blk w' g 3 (cellsI (List.replicate n x)) ∧ KeepsAll w w' := by
  have HM := Lib.hid (Mul_one n hn w)
  have hmk := mkInts n (by omega)
  have hn0 : decide ((n : Int) < 0) = false := by simp
  have hwU := wrapU n (by omega)
  have hwI : IntKind.i64.wrap (n : Int) = (n : Int) := IntWalk.i64_in _ (by omega)
  have hbig : decide ((n : Int) > 9223372036854775807) = false := by simp; omega
  have HC1 : Hid (∀ ty, (Builtin.copy_ #[22, 22] ty #[.slice (some ⟨w.heap.size, 0, none⟩) n n, .slice (some ⟨b, 0, none⟩) 1 1]).run Try.prog (w.alloc (.cells (cellsI (List.replicate n 0)) 3)) = .ok (goInt 1) ((w.alloc (.cells (cellsI (List.replicate n 0)) 3)).setRow w.heap.size (repC x n 1))) := fun ty => by
    have q := run_copy_row Try.prog (w.alloc (.cells (cellsI (List.replicate n 0)) 3)) 22 22 ty 3 w.heap.size 0 n n ⟨b, 0, none⟩ 1 1 (cellsI (List.replicate n 0)) 3 [.int .i64 x] Try.underlying22 (by kernel_rfl) (Blk.new _ _ _) (by simp [Nat.min]; omega) (fun j v hj => by
      have : j = 0 := by have := getElem?_lt hj; simp at this; omega
      subst this
      simp at hj; subst hj
      exact (World.cell?_alloc_lt w _ ⟨b, 0, none⟩ hbl).trans hb) (by simp [cellsI]; omega) (by simp [Value.oneCell'])
    rw [q]
    have e := repC_copy x (n := n) (k := 0) (m := 1) (by omega)
    have e0 : repC x n 0 = cellsI (List.replicate n 0) := by simp [repC]
    rw [e0] at e
    simp only [List.replicate_one, Nat.zero_add] at e
    simp only [List.length_singleton, Nat.zero_add]
    rw [e]; rfl
  have hc1 := HC1.out
  go_enter Try.func82, Try.ntmps82
  go_wp2_with (go_at_call 104; refine HM.out.mono ?_; rintro e w' ⟨rfl, rfl⟩)
  generalize hW : World.setRow _ _ _ = W
  have BN : Hid (Blk W w.heap.size 3 (repC x n 1)) := by subst hW; exact (Blk.new w _ _).setRow _
  have KW : Hid (KeepsAll w W) := by subst hW; exact ((Keeps.refl (fun _ => False) w).alloc _).trans (Keeps.setRow _ _ _) (fun y hy e => by omega)
  clear hW hc1 HC1 hmk HM hb hbl hn0 hwU hbig
  generalize hN : w.heap.size = N at *
  have HN := Lib.hid hN
  clear hN
  go_loopw [8] (fun v wr => ∃ k : Nat, 1 ≤ k ∧ k ≤ n ∧ v = .int .i64 (k : Int) ∧ Blk wr N 3 (repC x n k) ∧ KeepsAll w wr) (fun v _ => n - (intOf v).toNat)
  case atStart => exact ⟨1, Nat.le_refl _, h1, rfl, BN.out, KW.out⟩
  case round =>
    obtain ⟨k, hk1, hk, rfl, hbk, hkr⟩ := hrel
    have KR := Lib.hid hkr; clear hkr
    have HB := Lib.hid hbk; clear hbk
    by_cases hlt : k < n
    · obtain ⟨m, hm⟩ : ∃ m, m = Nat.min k (n - k) := ⟨_, rfl⟩
      have hmm : m = min k (n - k) := hm
      have hm1 : 1 ≤ m := by omega
      have hm2 : k + m ≤ n := by omega
      have HC2 : Hid (∀ (W : World) ty, Blk W N 3 (repC x n k) → (Builtin.copy_ #[22, 22] ty #[.slice (some ⟨N, k, none⟩) (n - k) (n - k), .slice (some ⟨N, 0, none⟩) k n]).run Try.prog W = .ok (goInt m) (W.setRow N (repC x n (k + m)))) := fun W ty hW => by
        have q := run_copy_row Try.prog W 22 22 ty 3 N k (n - k) (n - k) ⟨N, 0, none⟩ k n (repC x n k) 3 (List.replicate m (.int .i64 x)) Try.underlying22 (by kernel_rfl) hW (by simpa using hm) (fun j v hj => by
          have hjm : j < m := by have := getElem?_lt hj; simpa using this
          have hv : v = .int .i64 x := by
            rw [List.getElem?_replicate, if_pos hjm] at hj; injection hj with hj; exact hj.symm
          have hjk : j < k := by
            have : m ≤ k := by rw [hm]; exact Nat.min_le_left _ _
            omega
          have ea : (Addr.mk N 0 none).add j = ⟨N, j, none⟩ := by unfold Addr.add; split <;> simp_all
          rw [ea, hW.cell j, repC_at x hjk, hv]) (by rw [repC_size x hk]; simpa using hm2) (fun v hv => by rw [List.eq_of_mem_replicate hv]; rfl)
        rw [q]
        have e := repC_copy x hm2
        simp only [List.length_replicate]
        rw [e]
      have hbr := HB.out.drew_
      have hc2 := fun ty => HC2.out wr.drew ty hbr
      have hs1 : IntKind.i64.wrap ((k : Int) + (m : Int)) = (k : Int) + (m : Int) := IntWalk.i64_in _ (by omega)
      clear hm hmm
      go_wp2
      refine wp_region_lex (fun _ => True) [0, 1, 2, 3, 4, 5, 6, 7, 8, 9] (by kernel_rfl) (by kernel_rfl) trivial ?_
      iterate 7 (refine lex_q _ rfl rfl rfl ?_; go_big_quiet_step (fail); refine wpQuiet_nil ?_)
      refine lex_a _ rfl rfl true (by kernel_rfl) ?_
      go_wp2
      refine ⟨fun _ => trivial, ?_⟩
      iterate 2 (refine lex_q _ rfl rfl rfl ?_; go_big_quiet_step (fail); refine wpQuiet_nil ?_)
      have Q : Hid (Blk (World.setRow wr.drew N (repC x n (k + m))) N 3 (repC x n (k + m)) ∧ KeepsAll w (World.setRow wr.drew N (repC x n (k + m)))) := ⟨hbr.setRow _, KR.out.drew.trans (Keeps.setRow _ _ _) (fun y hy e => by have := HN.out; omega)⟩
      clear hc2 hbr HC2
      go_roundw
      case rel =>
        refine ⟨_, _, _, _, _, _, _, _, _, _, _, _, _, _, ⟨k + m, by omega, hm2, ?_, Q.out.1, Q.out.2⟩, rfl⟩
        go_num
      case measure => simp [intOf]; omega
    · obtain rfl : k = n := by omega
      have HF : Hid (Blk wr N 3 (cellsI (List.replicate k x))) := by
        have := HB.out
        unfold repC at this
        show Blk _ _ _ _
        simpa using this
      have hlt' : decide ((k : Int) < (k : Int)) = false := by simp
      go_wp2
      go_ret
      exact ⟨N, rfl, by rw [HN.out]; exact Nat.le_refl _, HF.out, KR.out⟩

end Go.Proofs.Ytigmldildefdgaa
