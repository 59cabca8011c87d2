/- Contracts of math/bits.Mul64, math/bits.Mul and slices.Repeat at one element. Conditions: as each theorem says. Tables of seconds in memory: a row of rows of integers, each in a block of its own. Conditions: as each theorem says. Sorting the seconds of Times gives the same orders again: the plain law. No program in sight. Contract of precedence.Times. Conditions: as the theorem says. Tables of entries in memory: a row of rows of integers, one for each stage. Conditions: as each theorem says. -/
import Derived.Test.YtbfgmbakeofcbaaGreatK36
import Derived.Laws.CopyRow
import Derived.Laws.Bits64b
import Derived.Test.YtbfgmbakeofcbaaGreatK35
import Derived.Test.YtbfgmbakeofcbaaGreatK28
namespace Go.Proofs.YtbfgmbakeofcbaaGreat
open Go.RowKit

theorem maskN' (a : Nat) (ha : a < 4294967296) : bits .and .u64 (a : Int) 4294967295 = (a : Int) := by
  have h := bits_and_u64_nat a 4294967295 (by omega) (by omega)
  have e : a &&& 4294967295 = a % 4294967296 := Nat.and_two_pow_sub_one_eq_mod a 32
  rw [e, Nat.mod_eq_of_lt ha] at h
  exact h
theorem wrapU (a : Nat) (ha : a < 4294967296) : IntKind.u64.wrap (a : Int) = (a : Int) := by rw [IntKind.wrap_u64]; omega
set_option maxHeartbeats 1000000 in
theorem Mul64_one (n : Nat) (hn : n ≤ 1000) (w : World) :
    Calls Tryz.prog 106 #[.int .u64 1, .int .u64 (n : Int)] w fun e w' => e = .returned (.tuple #[.int .u64 0, .int .u64 (n : Int)]) ∧ w = w' := by
  have h1 : bits .and .u64 1 4294967295 = 1 := maskN' 1 (by omega)
  have h0 : bits .and .u64 0 4294967295 = 0 := maskN' 0 (by omega)
  have hN : bits .and .u64 (n : Int) 4294967295 = (n : Int) := maskN' n (by omega)
  have hw := wrapU n (by omega)
  have hd : (n : Int) / 4294967296 = 0 := by omega
  go_enter Tryz.func106, Tryz.ntmps106
  go_wp2
  go_ret2
  exact ⟨rfl, rfl⟩
set_option maxHeartbeats 1000000 in
theorem Mul_one (n : Nat) (hn : n ≤ 1000) (w : World) :
    Calls Tryz.prog 84 #[.int .u64 1, .int .u64 (n : Int)] w fun e w' => e = .returned (.tuple #[.int .u64 0, .int .u64 (n : Int)]) ∧ w = w' := by
  have HM := Lib.hid (Mul64_one n hn w)
  go_enter Tryz.func84, Tryz.ntmps84
  go_wp2_with (go_at_call 106; refine HM.out.mono ?_; rintro e w' ⟨rfl, rfl⟩)
  go_ret2
  exact ⟨rfl, rfl⟩
theorem Keeps.setRow (w : World) (g : Nat) (arr : Array Value) : Keeps (fun b => b = g) w (w.setRow g arr) := by
  refine ⟨rfl, rfl, rfl, by simp [World.setRow], fun k _ hn => ?_⟩
  unfold World.setRow
  simp only [Array.getElem?_modify]
  rw [if_neg (fun e => hn e.symm)]
theorem Blk.setRow {w : World} {g : Nat} {t : TypeId} {cs : Array Value} (h : Blk w g t cs) (arr : Array Value) : Blk (w.setRow g arr) g t arr := setRow_heap w g cs arr t (0, 0) h
theorem Blk.drew_ {w : World} {g : Nat} {t : TypeId} {cs : Array Value} (h : Blk w g t cs) : Blk w.drew g t cs := h
/-- x k times, then 0 -/
def repC (x : Int) (n k : Nat) : Array Value := cellsI (List.replicate k x ++ List.replicate (n - k) 0)
theorem repC_copy (x : Int) {n k m : Nat} (h : k + m ≤ n) : ((repC x n k).toList.take k ++ List.replicate m (Value.int .i64 x) ++ (repC x n k).toList.drop (k + m)).toArray = repC x n (k + m) := by
  unfold repC cellsI
  simp only [List.map_append, List.map_replicate]
  congr 1
  rw [List.take_append_of_le_length (by simp), List.take_of_length_le (by simp), List.drop_append, List.drop_of_length_le (by simp), List.nil_append]
  simp only [List.length_replicate, List.drop_replicate]
  rw [List.replicate_append_replicate]
  congr 2
  omega
theorem repC_size (x : Int) {n k : Nat} (h : k ≤ n) : (repC x n k).size = n := by simp [repC, cellsI]; omega
theorem repC_at (x : Int) {n k j : Nat} (h : j < k) : (repC x n k)[j]? = some (.int .i64 x) := by
  unfold repC
  apply cellsI_at
  rw [List.getElem?_append_left (by simpa using h)]
  simp [h]

set_option maxRecDepth 100000 in
set_option maxHeartbeats 2000000 in
theorem Repeat_one (x : Int) (n : Nat) (h1 : 1 ≤ n) (hn : n ≤ 1000) (b : Nat) (w : World) (hb : w.cell? ⟨b, 0, none⟩ = some (.int .i64 x)) (hbl : b < w.heap.size) :
    Calls Tryz.prog 60 #[.slice (some ⟨b, 0, none⟩) 1 1, .int .i64 (n : Int)] w fun e w' => ∃ g, e = .returned (.slice (some ⟨g, 0, none⟩) n n) ∧ w.heap.size ≤ g ∧ Blk w' g 3 (cellsI (List.replicate n x)) ∧ KeepsAll w w' := by
  have HM := Lib.hid (Mul_one n hn w)
  have hmk := mkInts n (by omega)
  have hn0 : decide ((n : Int) < 0) = false := by simp
  have hwU := wrapU n (by omega)
  have hwI : IntKind.i64.wrap (n : Int) = (n : Int) := IntWalk.i64_in _ (by omega)
  have hbig : decide ((n : Int) > 9223372036854775807) = false := by simp; omega
  have HC1 : Hid (∀ ty, (Builtin.copy_ #[23, 23] ty #[.slice (some ⟨w.heap.size, 0, none⟩) n n, .slice (some ⟨b, 0, none⟩) 1 1]).run Tryz.prog (w.alloc (.cells (cellsI (List.replicate n 0)) 3)) = .ok (goInt 1) ((w.alloc (.cells (cellsI (List.replicate n 0)) 3)).setRow w.heap.size (repC x n 1))) := fun ty => by
    have q := run_copy_row Tryz.prog (w.alloc (.cells (cellsI (List.replicate n 0)) 3)) 23 23 ty 3 w.heap.size 0 n n ⟨b, 0, none⟩ 1 1 (cellsI (List.replicate n 0)) 3 [.int .i64 x] Tryz.underlying23 (by kernel_rfl) (Blk.new _ _ _) (by simp [Nat.min]; omega) (fun j v hj => by
      have : j = 0 := by have := getElem?_lt hj; simp at this; omega
      subst this
      simp at hj; subst hj
      exact (World.cell?_alloc_lt w _ ⟨b, 0, none⟩ hbl).trans hb) (by simp [cellsI]; omega) (by simp [Value.oneCell'])
    rw [q]
    have e := repC_copy x (n := n) (k := 0) (m := 1) (by omega)
    have e0 : repC x n 0 = cellsI (List.replicate n 0) := by simp [repC]
    rw [e0] at e
    simp only [List.replicate_one, Nat.zero_add] at e
    simp only [List.length_singleton, Nat.zero_add]
    rw [e]; rfl
  have hc1 := HC1.out
  go_enter Tryz.func60, Tryz.ntmps60
  go_wp2_with (go_at_call 84; refine HM.out.mono ?_; rintro e w' ⟨rfl, rfl⟩)
  generalize hW : World.setRow _ _ _ = W
  have BN : Hid (Blk W w.heap.size 3 (repC x n 1)) := by subst hW; exact (Blk.new w _ _).setRow _
  have KW : Hid (KeepsAll w W) := by subst hW; exact ((Keeps.refl (fun _ => False) w).alloc _).trans (Keeps.setRow _ _ _) (fun y hy e => by omega)
  clear hW hc1 HC1 hmk HM hb hbl hn0 hwU hbig
  generalize hN : w.heap.size = N at *
  have HN := Lib.hid hN
  clear hN
  go_loopw [8] (fun v wr => ∃ k : Nat, 1 ≤ k ∧ k ≤ n ∧ v = .int .i64 (k : Int) ∧ Blk wr N 3 (repC x n k) ∧ KeepsAll w wr) (fun v _ => n - (intOf v).toNat)
  case atStart => exact ⟨1, Nat.le_refl _, h1, rfl, BN.out, KW.out⟩
  case round =>
    obtain ⟨k, hk1, hk, rfl, hbk, hkr⟩ := hrel
    have KR := Lib.hid hkr; clear hkr
    have HB := Lib.hid hbk; clear hbk
    by_cases hlt : k < n
    · obtain ⟨m, hm⟩ : ∃ m, m = Nat.min k (n - k) := ⟨_, rfl⟩
      have hmm : m = min k (n - k) := hm
      have hm1 : 1 ≤ m := by omega
      have hm2 : k + m ≤ n := by omega
      have HC2 : Hid (∀ (W : World) ty, Blk W N 3 (repC x n k) → (Builtin.copy_ #[23, 23] ty #[.slice (some ⟨N, k, none⟩) (n - k) (n - k), .slice (some ⟨N, 0, none⟩) k n]).run Tryz.prog W = .ok (goInt m) (W.setRow N (repC x n (k + m)))) := fun W ty hW => by
        have q := run_copy_row Tryz.prog W 23 23 ty 3 N k (n - k) (n - k) ⟨N, 0, none⟩ k n (repC x n k) 3 (List.replicate m (.int .i64 x)) Tryz.underlying23 (by kernel_rfl) hW (by simpa using hm) (fun j v hj => by
          have hjm : j < m := by have := getElem?_lt hj; simpa using this
          have hv : v = .int .i64 x := by
            rw [List.getElem?_replicate, if_pos hjm] at hj; injection hj with hj; exact hj.symm
          have hjk : j < k := by
            have : m ≤ k := by rw [hm]; exact Nat.min_le_left _ _
            omega
          have ea : (Addr.mk N 0 none).add j = ⟨N, j, none⟩ := by unfold Addr.add; split <;> simp_all
          rw [ea, hW.cell j, repC_at x hjk, hv]) (by rw [repC_size x hk]; simpa using hm2) (fun v hv => by rw [List.eq_of_mem_replicate hv]; rfl)
        rw [q]
        have e := repC_copy x hm2
        simp only [List.length_replicate]
        rw [e]
      have hbr := HB.out.drew_
      have hc2 := fun ty => HC2.out wr.drew ty hbr
      have hs1 : IntKind.i64.wrap ((k : Int) + (m : Int)) = (k : Int) + (m : Int) := IntWalk.i64_in _ (by omega)
      clear hm hmm
      go_wp2
      refine wp_region_lex (fun _ => True) [0, 1, 2, 3, 4, 5, 6, 7, 8, 9] (by kernel_rfl) (by kernel_rfl) trivial ?_
      iterate 7 (refine lex_q _ rfl rfl rfl ?_; go_big_quiet_step (fail); refine wpQuiet_nil ?_)
      refine lex_a _ rfl rfl true (by kernel_rfl) ?_
      go_wp2
      refine ⟨fun _ => trivial, ?_⟩
      iterate 2 (refine lex_q _ rfl rfl rfl ?_; go_big_quiet_step (fail); refine wpQuiet_nil ?_)
      have Q : Hid (Blk (World.setRow wr.drew N (repC x n (k + m))) N 3 (repC x n (k + m)) ∧ KeepsAll w (World.setRow wr.drew N (repC x n (k + m)))) := ⟨hbr.setRow _, KR.out.drew.trans (Keeps.setRow _ _ _) (fun y hy e => by have := HN.out; omega)⟩
      clear hc2 hbr HC2
      go_roundw
      case rel =>
        refine ⟨_, _, _, _, _, _, _, _, _, _, _, _, _, _, ⟨k + m, by omega, hm2, ?_, Q.out.1, Q.out.2⟩, rfl⟩
        go_num
      case measure => simp [intOf]; omega
    · obtain rfl : k = n := by omega
      have HF : Hid (Blk wr N 3 (cellsI (List.replicate k x))) := by
        have := HB.out
        unfold repC at this
        show Blk _ _ _ _
        simpa using this
      have hlt' : decide ((k : Int) < (k : Int)) = false := by simp
      go_wp2
      go_ret
      exact ⟨N, rfl, by rw [HN.out]; exact Nat.le_refl _, HF.out, KR.out⟩

def rowOf (ps : List (List Stage)) (T : Tab) (t : Nat) : List Int := (List.range (lenAt ps t + 1)).map fun k : Nat => T ⟨(t : Int), (k : Int)⟩
def tabOf (ps : List (List Stage)) (T : Tab) : List (List Int) := (List.range ps.length).map fun t => rowOf ps T t
theorem rowOf_len (ps : List (List Stage)) (T : Tab) (t : Nat) : (rowOf ps T t).length = lenAt ps t + 1 := by simp [rowOf]
theorem rowOf_at {ps : List (List Stage)} (T : Tab) {t k : Nat} (hk : k ≤ lenAt ps t) : (rowOf ps T t)[k]? = some (T ⟨(t : Int), (k : Int)⟩) := by
  unfold rowOf
  rw [List.getElem?_map, List.getElem?_range (by omega)]; rfl
theorem tabOf_len (ps : List (List Stage)) (T : Tab) : (tabOf ps T).length = ps.length := by simp [tabOf]
theorem tabOf_at {ps : List (List Stage)} (T : Tab) {t : Nat} (ht : t < ps.length) : (tabOf ps T)[t]? = some (rowOf ps T t) := by
  unfold tabOf
  rw [List.getElem?_map, List.getElem?_range ht]; rfl
theorem rowOf_upd_other {ps : List (List Stage)} {T : Tab} {t u k : Nat} {x : Int} (h : u ≠ t) : rowOf ps (upd T ⟨(t : Int), (k : Int)⟩ x) u = rowOf ps T u := by
  unfold rowOf
  apply List.map_congr_left
  intro j _
  unfold upd
  rw [if_neg]
  intro e; injection e with e1 e2; omega
theorem rowOf_upd {ps : List (List Stage)} {T : Tab} {t k : Nat} {x : Int} : rowOf ps (upd T ⟨(t : Int), (k : Int)⟩ x) t = (rowOf ps T t).set k x := by
  apply List.ext_getElem?
  intro j
  rw [List.getElem?_set]
  by_cases hj : j < lenAt ps t + 1
  · rw [rowOf_at _ (by omega)]
    by_cases e : k = j
    · subst e
      rw [if_pos rfl, if_pos (by rw [rowOf_len]; exact hj)]
      unfold upd; rw [if_pos rfl]
    · rw [if_neg e, rowOf_at _ (by omega)]
      unfold upd
      rw [if_neg]
      intro e'; injection e' with e1 e2; omega
  · have h1 : (rowOf ps (upd T ⟨(t : Int), (k : Int)⟩ x) t)[j]? = none := List.getElem?_eq_none (by rw [rowOf_len]; omega)
    have h2 : (rowOf ps T t)[j]? = none := List.getElem?_eq_none (by rw [rowOf_len]; omega)
    rw [h1, h2]
    by_cases e : k = j
    · rw [if_pos e, if_neg (by rw [rowOf_len]; omega)]
    · rw [if_neg e]
theorem rowOf_const (ps : List (List Stage)) (x : Int) (t : Nat) : rowOf ps (fun _ => x) t = List.replicate (lenAt ps t + 1) x := by
  unfold rowOf
  rw [List.map_const']; simp

def slT (ps : List (List Stage)) (gs : Nat → Nat) (t : Nat) : Value := .slice (some ⟨gs t, 0, none⟩) (lenAt ps t + 1) (lenAt ps t + 1)
/-- the first m rows of a table: the outer row is block N -/
structure Tb (ps : List (List Stage)) (w wr : World) (N m : Nat) (gs : Nat → Nat) (T : Tab) : Prop where
  n : ∃ cur, Blk wr N 23 cur ∧ ∀ t, t < m → cur[t]? = some (slT ps gs t)
  r : ∀ t, t < m → Blk wr (gs t) 3 (cellsI (rowOf ps T t))
  inj : ∀ t u, t < m → u < m → gs t = gs u → t = u
  lo : ∀ t, t < m → w.heap.size ≤ gs t
  nlo : w.heap.size ≤ N
  k : KeepsAll w wr
section
variable {ps : List (List Stage)} {w wr w' : World} {N m : Nat} {gs : Nat → Nat} {T : Tab}
theorem Tb.keep (h : Tb ps w wr N m gs T) (k : KeepsAll wr w') : Tb ps w w' N m gs T := by
  obtain ⟨cur, h1, h2⟩ := h.n
  exact ⟨⟨cur, h1.kept k (by simp), h2⟩, fun t ht => (h.r t ht).kept k (by simp), h.inj, h.lo, h.nlo, h.k.tr k⟩
theorem Tb.ne (h : Tb ps w wr N m gs T) {t : Nat} (ht : t < m) : N ≠ gs t := by
  obtain ⟨cur, h1, h2⟩ := h.n
  exact Blk.ne_ h1 (h.r t ht) (by decide)
theorem Tb.outer (h : Tb ps w wr N m gs T) {t : Nat} (ht : t < m) : wr.cell? ⟨N, t, none⟩ = some (slT ps gs t) := by
  obtain ⟨cur, h1, h2⟩ := h.n
  rw [h1.cell, h2 t ht]
theorem Tb.inner (h : Tb ps w wr N m gs T) {t k : Nat} (ht : t < m) (hk : k ≤ lenAt ps t) : wr.cell? ⟨gs t, k, none⟩ = some (.int .i64 (T ⟨(t : Int), (k : Int)⟩)) := by
  rw [(h.r t ht).cell, cellsI_at (rowOf_at T hk)]
theorem Tb.nlt (h : Tb ps w wr N m gs T) : N < wr.heap.size := by obtain ⟨cur, h1, _⟩ := h.n; exact h1.lt
theorem Tb.set (h : Tb ps w wr N m gs T) {t k : Nat} (ht : t < m) (x : Int) : Tb ps w (wr.setCell ⟨gs t, k, none⟩ (.int .i64 x)) N m gs (upd T ⟨(t : Int), (k : Int)⟩ x) := by
  obtain ⟨cur, h1, h2⟩ := h.n
  refine ⟨⟨cur, h1.far (h.ne ht) _, h2⟩, fun u hu => ?_, h.inj, h.lo, h.nlo, h.k.setCell (fun hh => absurd hh (by have := h.lo t ht; simp; omega)) _⟩
  by_cases e : u = t
  · subst e
    rw [rowOf_upd, ← cellsI_set]
    exact (h.r u hu).set_ k _
  · rw [rowOf_upd_other e]
    exact (h.r u hu).far (fun e' => e (h.inj u t hu ht e')) _
theorem Tb.congr {T' : Tab} (h : Tb ps w wr N m gs T) (he : ∀ t, t < m → rowOf ps T t = rowOf ps T' t) : Tb ps w wr N m gs T' :=
  ⟨h.n, fun t ht => by rw [← he t ht]; exact h.r t ht, h.inj, h.lo, h.nlo, h.k⟩
theorem Tb.read (h : Tb ps w wr N ps.length gs T) {c : Nat} (hc : ps.length ≤ c) (hc2 : c ≤ 9223372036854775807) (hl : ∀ t, lenAt ps t ≤ 1000000) : RIntss wr (Old wr) [.slice (some ⟨N, 0, none⟩) ps.length c] (tabOf ps T) := by
  refine ⟨_, _, by rw [tabOf_len], by rw [tabOf_len]; exact hc, hc2, fun _ => ⟨N, 0, rfl, h.nlt, fun j x hx => ?_⟩⟩
  have hj : j < ps.length := by have := getElem?_lt hx; rwa [tabOf_len] at this
  rw [tabOf_at T hj] at hx
  injection hx with hx
  subst hx
  refine ⟨[slT ps gs j], rfl, ?_, fun i u hu => ?_⟩
  · have := RInts.ofBlk (S := Old wr) (rowOf ps T j) (h.r j hj) (h.r j hj).lt (by rw [rowOf_len]; have := hl j; omega)
    rw [rowOf_len] at this
    exact this
  · have : i = 0 := by have := getElem?_lt hu; simp at this; omega
    subst this
    simp at hu; subst hu
    simpa using h.outer hj
/-- one row more -/
def gsAdd (gs : Nat → Nat) (m g : Nat) : Nat → Nat := fun u => if u = m then g else gs u
theorem Tb.add {x : Int} (h : Tb ps w wr N m gs (fun _ => x)) (k : KeepsAll wr w') {g : Nat} (hg : wr.heap.size ≤ g) (hb : Blk w' g 3 (cellsI (List.replicate (lenAt ps m + 1) x))) {cur : Array Value} (hn : Blk w' N 23 cur) (hcur : ∀ t, t < m → cur[t]? = some (slT ps gs t)) (hm : m < cur.size) :
    Tb ps w (w'.setCell ⟨N, m, none⟩ (.slice (some ⟨g, 0, none⟩) (lenAt ps m + 1) (lenAt ps m + 1))) N (m + 1) (gsAdd gs m g) (fun _ => x) := by
  have hgs : ∀ t, t < m → gs t < wr.heap.size := fun t ht => (h.r t ht).lt
  have hw := h.k.size
  have hNg : N ≠ g := by have := h.nlt; omega
  refine ⟨⟨_, hn.set_ m _, fun t ht => ?_⟩, fun t ht => ?_, fun t u ht hu he => ?_, fun t ht => ?_, h.nlo, (h.k.tr k).setCell (fun hh => absurd hh (by have := h.nlo; simp; omega)) _⟩
  · rw [Array.getElem?_setIfInBounds]
    unfold slT gsAdd
    by_cases e : t = m
    · subst e; simp [hm]
    · rw [if_neg (fun e' => e e'.symm), hcur t (by omega)]
      unfold slT
      rw [if_neg e]
  · unfold gsAdd
    by_cases e : t = m
    · subst e; rw [if_pos rfl, rowOf_const]; exact hb.far (fun e => hNg e.symm) _
    · rw [if_neg e]
      exact ((h.r t (by omega)).kept k (by simp)).far (fun e' => h.ne (by omega) e'.symm) _
  · unfold gsAdd at he
    by_cases e1 : t = m
    · by_cases e2 : u = m
      · omega
      · rw [if_pos e1, if_neg e2] at he
        have := hgs u (by omega); omega
    · by_cases e2 : u = m
      · rw [if_neg e1, if_pos e2] at he
        have := hgs t (by omega); omega
      · rw [if_neg e1, if_neg e2] at he
        exact h.inj t u (by omega) (by omega) he
  · unfold gsAdd
    by_cases e1 : t = m
    · rw [if_pos e1]; omega
    · rw [if_neg e1]; exact h.lo t (by omega)
end

theorem insK_stop {en : List (List Int)} {u : Ref} {l : List Ref} : ∀ k, k ≤ l.length → ∀ j, insK en u l k = j + 1 → ∃ v, l[j]? = some v ∧ enAt en v ≤ enAt en u
  | 0, _, j, h => by simp [insK] at h
  | k + 1, hk, j, h => by
    have hx : l[k]? = some (l[k]'(by omega)) := List.getElem?_eq_getElem (by omega)
    simp only [insK, hx] at h
    by_cases g : enAt en u < enAt en (l[k]'(by omega))
    · rw [if_pos g] at h; exact insK_stop k (by omega) j h
    · rw [if_neg g] at h
      have : j = k := by omega
      subst this
      exact ⟨_, hx, by omega⟩

/-- the table without the last second of each row -/
def rowS (ps : List (List Stage)) (T : Tab) (t : Nat) : List Int := (List.range (lenAt ps t)).map fun k : Nat => T ⟨(t : Int), (k : Int)⟩
def tabS (ps : List (List Stage)) (T : Tab) : List (List Int) := (List.range ps.length).map fun t => rowS ps T t
theorem rowS_len (ps : List (List Stage)) (T : Tab) (t : Nat) : (rowS ps T t).length = lenAt ps t := by simp [rowS]
theorem rowS_at {ps : List (List Stage)} (T : Tab) {t k : Nat} (hk : k < lenAt ps t) : (rowS ps T t)[k]? = some (T ⟨(t : Int), (k : Int)⟩) := by
  unfold rowS
  rw [List.getElem?_map, List.getElem?_range (by omega)]; rfl
theorem tabS_len (ps : List (List Stage)) (T : Tab) : (tabS ps T).length = ps.length := by simp [tabS]
theorem tabS_at {ps : List (List Stage)} (T : Tab) {t : Nat} (ht : t < ps.length) : (tabS ps T)[t]? = some (rowS ps T t) := by
  unfold tabS
  rw [List.getElem?_map, List.getElem?_range ht]; rfl
theorem enAt_tabS {ps : List (List Stage)} (T : Tab) {t k : Nat} {p : List Stage} (hp : ps[t]? = some p) (hk : k < p.length) : enAt (tabS ps T) ⟨(t : Int), (k : Int)⟩ = T ⟨(t : Int), (k : Int)⟩ := by
  unfold enAt
  simp only [Int.toNat_natCast]
  rw [tabS_at T (getElem?_lt hp), Option.getD_some, rowS_at T (by rw [lenAt_of hp]; exact hk)]; rfl
theorem rowAsc_ofS : ∀ (l : List Int), (∀ (i : Nat) x y, l[i]? = some x → l[i + 1]? = some y → x ≤ y) → rowAsc l = true
  | [], _ => rfl
  | [_], _ => rfl
  | a :: b :: r, h => by
    simp only [rowAsc, Bool.and_eq_true, decide_eq_true_eq]
    exact ⟨h 0 a b rfl rfl, rowAsc_ofS (b :: r) fun i x y hx hy => h (i + 1) x y (by simpa using hx) (by simpa using hy)⟩
theorem rowsOk_ofS : ∀ (ps : List (List Stage)) (en : List (List Int)), (∀ (t : Nat) p l, ps[t]? = some p → en[t]? = some l → l.length = p.length ∧ rowAsc l = true) → rowsOk ps en = true
  | [], _, _ => by simp [rowsOk]
  | _ :: _, [], _ => by simp [rowsOk]
  | p :: ps, l :: en, h => by
    simp only [rowsOk, Bool.and_eq_true, decide_eq_true_eq]
    exact ⟨h 0 p l rfl rfl, rowsOk_ofS ps en fun t p l hp hl => h (t + 1) p l (by simpa using hp) (by simpa using hl)⟩

section
variable {ps : List (List Stage)} {os : List Order} {at_ : List Int} {n : Int}
end

theorem mkIntss (n : Nat) (hn : n ≤ 1000000) (W : World) : (Instr.makeSlice 35 (.int .i64 (n : Int)) (.int .i64 (n : Int))).run Tryz.prog W = .ok (.slice (some ⟨W.heap.size, 0, none⟩) n n) (W.alloc (.cells (List.replicate n (Value.slice none 0 0)).toArray 23)) := by
  have h := run_make_row' (P := Tryz.prog) 35 23 (.slice none 0 0) 24 Tryz.underlying35 (by kernel_rfl) rfl .i64 .i64 n (by omega) (by omega) W
  rw [madeCells_one] at h; exact h

theorem Tb.base {ps : List (List Stage)} {w w2 wr : World} {N m : Nat} {gs : Nat → Nat} {T : Tab} (h : Tb ps w2 wr N m gs T) (k : KeepsAll w w2) : Tb ps w wr N m gs T :=
  ⟨h.n, h.r, h.inj, fun t ht => Nat.le_trans k.size (h.lo t ht), Nat.le_trans k.size h.nlo, k.tr h.k⟩

theorem rowS_upd_other {ps : List (List Stage)} {T : Tab} {t u k : Nat} {x : Int} (h : u ≠ t) : rowS ps (upd T ⟨(t : Int), (k : Int)⟩ x) u = rowS ps T u := by
  unfold rowS
  apply List.map_congr_left
  intro j _
  unfold upd
  rw [if_neg]
  intro e; injection e with e1 e2; omega
theorem rowS_upd {ps : List (List Stage)} {T : Tab} {t k : Nat} {x : Int} : rowS ps (upd T ⟨(t : Int), (k : Int)⟩ x) t = (rowS ps T t).set k x := by
  apply List.ext_getElem?
  intro j
  rw [List.getElem?_set]
  by_cases hj : j < lenAt ps t
  · rw [rowS_at _ (by omega)]
    by_cases e : k = j
    · subst e
      rw [if_pos rfl, if_pos (by rw [rowS_len]; exact hj)]
      unfold upd; rw [if_pos rfl]
    · rw [if_neg e, rowS_at _ (by omega)]
      unfold upd
      rw [if_neg]
      intro e'; injection e' with e1 e2; omega
  · have h1 : (rowS ps (upd T ⟨(t : Int), (k : Int)⟩ x) t)[j]? = none := List.getElem?_eq_none (by rw [rowS_len]; omega)
    have h2 : (rowS ps T t)[j]? = none := List.getElem?_eq_none (by rw [rowS_len]; omega)
    rw [h1, h2]
    by_cases e : k = j
    · rw [if_pos e, if_neg (by rw [rowS_len]; omega)]
    · rw [if_neg e]
theorem rowS_const (ps : List (List Stage)) (x : Int) (t : Nat) : rowS ps (fun _ => x) t = List.replicate (lenAt ps t) x := by
  unfold rowS
  rw [List.map_const']; simp

def slE (ps : List (List Stage)) (gs : Nat → Nat) (t : Nat) : Value := .slice (some ⟨gs t, 0, none⟩) (lenAt ps t) (lenAt ps t)
/-- the first m rows of a table: the outer row is block N -/
structure Te (ps : List (List Stage)) (w wr : World) (N m : Nat) (gs : Nat → Nat) (T : Tab) : Prop where
  n : ∃ cur, Blk wr N 23 cur ∧ ∀ t, t < m → cur[t]? = some (slE ps gs t)
  r : ∀ t, t < m → Blk wr (gs t) 3 (cellsI (rowS ps T t))
  inj : ∀ t u, t < m → u < m → gs t = gs u → t = u
  lo : ∀ t, t < m → w.heap.size ≤ gs t
  nlo : w.heap.size ≤ N
  k : KeepsAll w wr
section
variable {ps : List (List Stage)} {w wr w' : World} {N m : Nat} {gs : Nat → Nat} {T : Tab}
theorem Te.keep (h : Te ps w wr N m gs T) (k : KeepsAll wr w') : Te ps w w' N m gs T := by
  obtain ⟨cur, h1, h2⟩ := h.n
  exact ⟨⟨cur, h1.kept k (by simp), h2⟩, fun t ht => (h.r t ht).kept k (by simp), h.inj, h.lo, h.nlo, h.k.tr k⟩
theorem Te.ne (h : Te ps w wr N m gs T) {t : Nat} (ht : t < m) : N ≠ gs t := by
  obtain ⟨cur, h1, h2⟩ := h.n
  exact Blk.ne_ h1 (h.r t ht) (by decide)
theorem Te.outer (h : Te ps w wr N m gs T) {t : Nat} (ht : t < m) : wr.cell? ⟨N, t, none⟩ = some (slE ps gs t) := by
  obtain ⟨cur, h1, h2⟩ := h.n
  rw [h1.cell, h2 t ht]
theorem Te.inner (h : Te ps w wr N m gs T) {t k : Nat} (ht : t < m) (hk : k < lenAt ps t) : wr.cell? ⟨gs t, k, none⟩ = some (.int .i64 (T ⟨(t : Int), (k : Int)⟩)) := by
  rw [(h.r t ht).cell, cellsI_at (rowS_at T hk)]
theorem Te.nlt (h : Te ps w wr N m gs T) : N < wr.heap.size := by obtain ⟨cur, h1, _⟩ := h.n; exact h1.lt
theorem Te.set (h : Te ps w wr N m gs T) {t k : Nat} (ht : t < m) (x : Int) : Te ps w (wr.setCell ⟨gs t, k, none⟩ (.int .i64 x)) N m gs (upd T ⟨(t : Int), (k : Int)⟩ x) := by
  obtain ⟨cur, h1, h2⟩ := h.n
  refine ⟨⟨cur, h1.far (h.ne ht) _, h2⟩, fun u hu => ?_, h.inj, h.lo, h.nlo, h.k.setCell (fun hh => absurd hh (by have := h.lo t ht; simp; omega)) _⟩
  by_cases e : u = t
  · subst e
    rw [rowS_upd, ← cellsI_set]
    exact (h.r u hu).set_ k _
  · rw [rowS_upd_other e]
    exact (h.r u hu).far (fun e' => e (h.inj u t hu ht e')) _
theorem Te.congr {T' : Tab} (h : Te ps w wr N m gs T) (he : ∀ t, t < m → rowS ps T t = rowS ps T' t) : Te ps w wr N m gs T' :=
  ⟨h.n, fun t ht => by rw [← he t ht]; exact h.r t ht, h.inj, h.lo, h.nlo, h.k⟩
theorem Te.read (h : Te ps w wr N ps.length gs T) {c : Nat} (hc : ps.length ≤ c) (hc2 : c ≤ 9223372036854775807) (hl : ∀ t, lenAt ps t ≤ 1000000) : RIntss wr (Old wr) [.slice (some ⟨N, 0, none⟩) ps.length c] (tabS ps T) := by
  refine ⟨_, _, by rw [tabS_len], by rw [tabS_len]; exact hc, hc2, fun _ => ⟨N, 0, rfl, h.nlt, fun j x hx => ?_⟩⟩
  have hj : j < ps.length := by have := getElem?_lt hx; rwa [tabS_len] at this
  rw [tabS_at T hj] at hx
  injection hx with hx
  subst hx
  refine ⟨[slE ps gs j], rfl, ?_, fun i u hu => ?_⟩
  · have := RInts.ofBlk (S := Old wr) (rowS ps T j) (h.r j hj) (h.r j hj).lt (by rw [rowS_len]; have := hl j; omega)
    rw [rowS_len] at this
    exact this
  · have : i = 0 := by have := getElem?_lt hu; simp at this; omega
    subst this
    simp at hu; subst hu
    simpa using h.outer hj
/-- one row more -/
theorem Te.add {x : Int} (h : Te ps w wr N m gs (fun _ => x)) (k : KeepsAll wr w') {g : Nat} (hg : wr.heap.size ≤ g) (hb : Blk w' g 3 (cellsI (List.replicate (lenAt ps m) x))) {cur : Array Value} (hn : Blk w' N 23 cur) (hcur : ∀ t, t < m → cur[t]? = some (slE ps gs t)) (hm : m < cur.size) :
    Te ps w (w'.setCell ⟨N, m, none⟩ (.slice (some ⟨g, 0, none⟩) (lenAt ps m) (lenAt ps m))) N (m + 1) (gsAdd gs m g) (fun _ => x) := by
  have hgs : ∀ t, t < m → gs t < wr.heap.size := fun t ht => (h.r t ht).lt
  have hw := h.k.size
  have hNg : N ≠ g := by have := h.nlt; omega
  refine ⟨⟨_, hn.set_ m _, fun t ht => ?_⟩, fun t ht => ?_, fun t u ht hu he => ?_, fun t ht => ?_, h.nlo, (h.k.tr k).setCell (fun hh => absurd hh (by have := h.nlo; simp; omega)) _⟩
  · rw [Array.getElem?_setIfInBounds]
    unfold slE gsAdd
    by_cases e : t = m
    · subst e; simp [hm]
    · rw [if_neg (fun e' => e e'.symm), hcur t (by omega)]
      unfold slE
      rw [if_neg e]
  · unfold gsAdd
    by_cases e : t = m
    · subst e; rw [if_pos rfl, rowS_const]; exact hb.far (fun e => hNg e.symm) _
    · rw [if_neg e]
      exact ((h.r t (by omega)).kept k (by simp)).far (fun e' => h.ne (by omega) e'.symm) _
  · unfold gsAdd at he
    by_cases e1 : t = m
    · by_cases e2 : u = m
      · omega
      · rw [if_pos e1, if_neg e2] at he
        have := hgs u (by omega); omega
    · by_cases e2 : u = m
      · rw [if_neg e1, if_pos e2] at he
        have := hgs t (by omega); omega
      · rw [if_neg e1, if_neg e2] at he
        exact h.inj t u (by omega) (by omega) he
  · unfold gsAdd
    by_cases e1 : t = m
    · rw [if_pos e1]; omega
    · rw [if_neg e1]; exact h.lo t (by omega)
end

def rowsE (ps : List (List Stage)) (gs : Nat → Nat) (m : Nat) : Array Value := ((List.range ps.length).map fun t => if t < m then slE ps gs t else .slice none 0 0).toArray
theorem rowsE_at (ps : List (List Stage)) (gs : Nat → Nat) (m : Nat) {t : Nat} (ht : t < ps.length) : (rowsE ps gs m)[t]? = some (if t < m then slE ps gs t else .slice none 0 0) := by
  simp [rowsE, ht]
theorem rowsE_size (ps : List (List Stage)) (gs : Nat → Nat) (m : Nat) : (rowsE ps gs m).size = ps.length := by simp [rowsE]
theorem rowsE_zero (ps : List (List Stage)) (gs : Nat → Nat) : rowsE ps gs 0 = (List.replicate ps.length (Value.slice none 0 0)).toArray := by
  apply Array.ext
  · simp [rowsE]
  · intro i h1 h2; simp [rowsE]
theorem rowsE_succ (ps : List (List Stage)) (gs : Nat → Nat) (m g : Nat) : (rowsE ps gs m).setIfInBounds m (.slice (some ⟨g, 0, none⟩) (lenAt ps m) (lenAt ps m)) = rowsE ps (gsAdd gs m g) (m + 1) := by
  apply Array.ext
  · simp [rowsE]
  · intro i h1 h2
    have hi : i < ps.length := by rw [rowsE_size] at h2; exact h2
    have e1 : ((rowsE ps gs m).setIfInBounds m (.slice (some ⟨g, 0, none⟩) (lenAt ps m) (lenAt ps m)))[i]? = (rowsE ps (gsAdd gs m g) (m + 1))[i]? := by
      rw [Array.getElem?_setIfInBounds, rowsE_at _ _ _ hi, rowsE_at _ _ _ hi]
      unfold slE gsAdd
      by_cases e : m = i
      · subst e; rw [if_pos rfl, if_pos (by rw [rowsE_size]; exact hi), if_pos (by omega), if_pos rfl]
      · rw [if_neg e]
        by_cases e2 : i < m
        · rw [if_pos e2, if_pos (by omega), if_neg (fun e' => e e'.symm)]
        · rw [if_neg e2, if_neg (by omega)]
    rw [Array.getElem?_eq_getElem h1, Array.getElem?_eq_getElem h2] at e1
    injection e1

end Go.Proofs.YtbfgmbakeofcbaaGreat
