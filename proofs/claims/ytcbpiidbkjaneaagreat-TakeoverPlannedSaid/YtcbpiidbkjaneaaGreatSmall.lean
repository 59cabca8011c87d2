/- Contracts of the small helpers: range tests, Pick, the source of choices. Conditions: as each theorem says. -/
import Derived.Test.YtcbpiidbkjaneaaGreatProg
import Derived.Test.YtcbpiidbkjaneaaGreatBase
namespace Go.Proofs.YtcbpiidbkjaneaaGreat
open Go.RowKit

def isRes (r : Int) : Bool := decide (0 ≤ r) && decide (r < 144)
def isClk (r : Int) : Bool := decide (0 ≤ r) && decide (r ≤ 4194304)

theorem isResource_any (r : Int) (w : World) : Calls Tryz.prog 70 #[.int .i64 r] w fun e w' => e = .returned (.bool (isRes r)) ∧ w = w' := by
  go_enter Tryz.func70, Tryz.ntmps70
  go_wp2
  all_goals (go_ret; simp_all [isRes]; try omega)
theorem resource_any (r : Int) (w : World) : Calls Tryz.prog 73 #[.int .i64 r] w fun e w' => e = .returned (.bool (isRes r)) ∧ w = w' := by
  go_enter Tryz.func73, Tryz.ntmps73
  go_wp2
  all_goals (go_ret; simp_all [isRes]; try omega)
theorem isClock_any (r : Int) (w : World) : Calls Tryz.prog 71 #[.int .i64 r] w fun e w' => e = .returned (.bool (isClk r)) ∧ w = w' := by
  go_enter Tryz.func71, Tryz.ntmps71
  go_wp2
  all_goals (go_ret; simp_all [isClk]; try omega)
theorem seconds_any (r : Int) (w : World) : Calls Tryz.prog 74 #[.int .i64 r] w fun e w' => e = .returned (.bool (isClk r)) ∧ w = w' := by
  go_enter Tryz.func74, Tryz.ntmps74
  go_wp2
  all_goals (go_ret; simp_all [isClk]; try omega)

/-- keep.Pick -/
def pick (v n : Int) : Int := (v % 18446744073709551616) % n
theorem pick_range (v n : Int) (hn : 0 < n) : 0 ≤ pick v n ∧ pick v n < n := ⟨Int.emod_nonneg _ (by omega), Int.emod_lt_of_pos _ hn⟩
theorem pick_walk (v n : Int) (hn : 0 < n) (hn2 : n ≤ 9223372036854775807) : wrap64 ((IntKind.u64.wrap v).tmod n) = pick v n := by
  have h1 : IntKind.u64.wrap v = v % 18446744073709551616 := by simp [IntKind.wrap, IntKind.signed, IntKind.bits]
  rw [h1, Int.tmod_eq_emod_of_nonneg (by omega)]
  have := pick_range v n hn
  exact IntWalk.wrap64_in _ ⟨by unfold pick at this; omega, by unfold pick at this; omega⟩
theorem Pick_any (v n : Int) (w : World) (hn : 0 < n) (hn2 : n ≤ 9223372036854775807) :
    Calls Tryz.prog 15 #[.int .i64 v, .int .i64 n] w fun e w' => e = .returned (.int .i64 (pick v n)) ∧ w = w' := by
  go_enter Tryz.func15, Tryz.ntmps15
  go_wp2
  go_ret
  refine ⟨?_, rfl⟩
  show Ending.returned (Value.int .i64 (wrap64 ((IntKind.u64.wrap v).tmod n))) = _
  rw [pick_walk v n hn hn2]

/-- keep.Source: a struct behind a pointer, in block g; rest: what is left of its list -/
def Src (w : World) (S : Foot) (g : Nat) (rest : List Int) : Prop :=
  ∃ A c l, ∃ i : Nat, Blk w g 83 #[.slice A l.length c, .int .i64 i] ∧ RInts w S [.slice A l.length c] l ∧ i ≤ l.length ∧ rest = l.drop i
theorem From_any (w : World) (A : Option Addr) (c : Nat) (l : List Int) (h : RInts w (Old w) [.slice A l.length c] l) :
    Calls Tryz.prog 20 #[.slice A l.length c] w fun e w' => e = .returned (.pointer (some ⟨w.heap.size, 0, none⟩)) ∧ Src w' (Old w) w.heap.size l ∧ KeepsAll w w' ∧ w'.heap.size = w.heap.size + 1 := by
  have H := Lib.hid h; clear h
  go_enter Tryz.func20, Tryz.ntmps20
  go_wp2
  go_ret
  refine ⟨rfl, ⟨A, c, l, 0, ?_, ?_, Nat.zero_le _, by simp⟩, (Keeps.refl _ _).alloc _, by simp⟩
  · exact Blk.new w _ _
  · exact RInts.ok.mono H.out (fun _ h => h) (fun b hb => Below.heap_alloc w _ b hb)

def nextV (rest : List Int) (n : Int) : Int := match rest with | [] => 0 | x :: _ => pick x n
theorem nextV_range (rest : List Int) (n : Int) (hn : 0 < n) : 0 ≤ nextV rest n ∧ nextV rest n < n := by
  cases rest with
  | nil => exact ⟨Int.le_refl _, hn⟩
  | cons x r => exact pick_range x n hn
theorem Src.keep {w w' : World} {S S' : Foot} {g : Nat} {rest : List Int} (h : Src w S g rest) (hS : ∀ b, S b → S' b) (hw : ∀ b, S b → w'.heap[b]? = w.heap[b]?) (hg : w'.heap[g]? = w.heap[g]?) : Src w' S' g rest := by
  obtain ⟨A, c, l, i, h1, h2, h3, h4⟩ := h
  exact ⟨A, c, l, i, hg.trans h1, RInts.ok.mono h2 hS hw, h3, h4⟩
theorem Src.lt {w : World} {S : Foot} {g : Nat} {rest : List Int} (h : Src w S g rest) : g < w.heap.size := by
  obtain ⟨A, c, l, i, h1, _⟩ := h; exact h1.lt
theorem Src.keeps {C : Foot} {w w' : World} {S : Foot} {g : Nat} {rest : List Int} (h : Src w S g rest) (k : Keeps C w w') (hS : ∀ b, S b → b < w.heap.size ∧ ¬ C b) (hg : ¬ C g) : Src w' S g rest :=
  h.keep (fun _ h => h) (fun b hb => k.block b (hS b hb).1 (hS b hb).2) (k.block g h.lt hg)

set_option maxHeartbeats 400000 in
/-- (*Source).Next: S does not hold g -/
theorem Next_any (w : World) (S : Foot) (g : Nat) (rest : List Int) (n : Int) (hn : 0 < n) (hn2 : n ≤ 9223372036854775807) (h : Src w S g rest) (hS : ∀ b, S b → b < w.heap.size ∧ b ≠ g) :
    Calls Tryz.prog 21 #[.pointer (some ⟨g, 0, none⟩), .int .i64 n] w fun e w' => e = .returned (.int .i64 (nextV rest n)) ∧ Src w' S g rest.tail ∧ Keeps (· = g) w w' ∧ w'.heap.size = w.heap.size := by
  obtain ⟨A, c, l, i, h1, h2, h3, h4⟩ := h
  have hc := h2.caps
  have c0 : w.cell? ⟨g, 0, none⟩ = some (.slice A l.length c) := h1.cell 0
  have c1 : w.cell? ⟨g, 1, none⟩ = some (.int .i64 i) := h1.cell 1
  have f1 : w.frozen? ⟨g, 1, none⟩ = false := h1.frozen 1
  have H1 := Lib.hid h1; clear h1
  have HS := Lib.hid hS; clear hS
  by_cases hi : i < l.length
  · obtain ⟨b, o, x, rfl, hb, hx, hx2⟩ := h2.at_ hi
    have hne : b ≠ g := (HS.out b hb).2
    have H2 := Lib.hid h2; clear h2
    have HX := Lib.hid hx; clear hx
    have H4 := Lib.hid h4; clear h4
    go_enter Tryz.func21, Tryz.ntmps21
    go_wp2
    go_quiet (fail)
    go_wp2
    go_quiet ((go_at_call 15; exact quiet_left (Pick_any x n _ hn hn2)))
    go_wp2
    go_ret
    have K := fun a k => (((Keeps.refl (· = g) w).drewN a).setCell (p := ⟨g, 1, none⟩) (fun _ => rfl) (.int .i64 (↑i + 1))).drewN k
    refine ⟨?_, ⟨some ⟨b, o, none⟩, c, l, i + 1, ?_, ?_, hi, by rw [H4.out, List.tail_drop]⟩, K _ _, by simp [World.setCell]⟩
    · rw [H4.out, ← List.getElem_cons_drop hi]
      rw [List.getElem?_eq_getElem hi] at HX
      have := HX.out; injection this with this; rw [this]; rfl
    · exact H1.out.set_ 1 _
    · exact (K _ _).rd RInts.ok H2.out HS.out (fun _ h => h)
  · have H2 := Lib.hid h2; clear h2
    have H4 := Lib.hid h4; clear h4
    go_enter Tryz.func21, Tryz.ntmps21
    go_wp2
    go_quiet (fail)
    go_wp2
    go_ret
    have e : rest = [] := by rw [H4.out, List.drop_of_length_le (by omega)]
    subst e
    exact ⟨rfl, ⟨A, c, l, i, H1.out, H2.out, h3, by rw [← H4.out]; rfl⟩, (Keeps.refl _ _).drewN _, rfl⟩

end Go.Proofs.YtcbpiidbkjaneaaGreat
