/- Contracts of the graph's refs and complete, and of precedence.Line. Conditions: as each theorem says. -/
import Derived.Test.YtigmldildefdgaaLineD
namespace Go.Proofs.Ytigmldildefdgaa
open Go.RowKit

/-- blocks of references -/
def cellsR (l : List Ref) : Array Value := ((l.map fun u => [Value.int .i64 u.tr, Value.int .i64 u.st]).flatten).toArray
theorem cellsR_at {l : List Ref} {i : Nat} {u : Ref} (h : l[i]? = some u) : (cellsR l)[i * 2]? = some (.int .i64 u.tr) ∧ (cellsR l)[i * 2 + 1]? = some (.int .i64 u.st) := by
  have hsz : ∀ es ∈ l.map (fun u => [Value.int .i64 u.tr, Value.int .i64 u.st]), es.length = 2 := by
    intro es hes; obtain ⟨x, _, rfl⟩ := List.mem_map.1 hes; rfl
  have he : (l.map (fun u => [Value.int .i64 u.tr, Value.int .i64 u.st]))[i]? = some [Value.int .i64 u.tr, Value.int .i64 u.st] := by simp [h]
  have h0 := flatten_at hsz he (i := 0) (by omega)
  have h1 := flatten_at hsz he (i := 1) (by omega)
  exact ⟨by simpa [cellsR] using h0, by simpa [cellsR] using h1⟩
theorem cellsR_set (l : List Ref) : ∀ (i : Nat) (u : Ref), ((cellsR l).setIfInBounds (i * 2) (.int .i64 u.tr)).setIfInBounds (i * 2 + 1) (.int .i64 u.st) = cellsR (l.set i u) := by
  have key : ∀ (l : List Ref) (i : Nat) (u : Ref), ((((l.map fun u => [Value.int .i64 u.tr, Value.int .i64 u.st]).flatten).set (i * 2) (.int .i64 u.tr)).set (i * 2 + 1) (.int .i64 u.st)) = (((l.set i u).map fun u => [Value.int .i64 u.tr, Value.int .i64 u.st]).flatten) := by
    intro l
    induction l with
    | nil => intro i u; simp
    | cons a l ih =>
      intro i u
      cases i with
      | zero => simp
      | succ i =>
        have := ih i u
        rw [show (i + 1) * 2 = i * 2 + 2 from by omega]
        simp only [List.map_cons, List.flatten_cons, List.cons_append, List.nil_append, List.set_cons_succ]
        rw [this]
  intro i u
  unfold cellsR
  simp only [List.setIfInBounds_toArray]
  rw [key]
theorem cellsR_rep (n : Nat) : cellsR (List.replicate n ⟨0, 0⟩) = (List.replicate (n * 2) (Value.int .i64 0)).toArray := by
  unfold cellsR
  congr 1
  induction n with
  | zero => rfl
  | succ n ih => rw [List.replicate_succ, List.map_cons, List.flatten_cons, ih, show (n + 1) * 2 = n * 2 + 1 + 1 from by omega, List.replicate_succ, List.replicate_succ]; rfl
theorem Blk.refs {w : World} {S : Foot} {b : Nat} {t : TypeId} {l : List Ref} (hb : Blk w b t (cellsR l)) (hS : S b) (hl : l.length ≤ 9223372036854775807) : RRefs w S [.slice (some ⟨b, 0, none⟩) l.length l.length] l := by
  refine RSlice.ofBlk hb hS (l.map fun u => [.int .i64 u.tr, .int .i64 u.st]) l rfl ?_ hl
  clear hb hl hS
  induction l with
  | nil => trivial
  | cons a l ih => exact ⟨⟨rfl, rfl⟩, ih⟩
theorem madeCells_two (z : Value) (n : Nat) : madeCells #[z, z] n = (List.replicate n z).toArray := by
  apply Array.ext
  · simp [madeCells]
  · intro i h1 h2
    have : i % 2 = 0 ∨ i % 2 = 1 := by omega
    rcases this with h | h <;> simp [madeCells, h]
theorem mkRefs (n : Nat) (hn : n ≤ 1000000) (W : World) : (Instr.makeSlice 43 (.int .i64 (n : Int)) (.int .i64 (n : Int))).run Try.prog W = .ok (.slice (some ⟨W.heap.size, 0, none⟩) n n) (W.alloc (.cells (cellsR (List.replicate n ⟨0, 0⟩)) 48)) := by
  obtain ⟨i, z, h1, h2, h3, h4, h5⟩ := tyRef.info
  have hz : z = .agg #[.int .i64 0, .int .i64 0] := by
    have hk : (Try.prog.info? 48).map (fun i => i.zero) = some (some (.agg #[.int .i64 0, .int .i64 0])) := by kernel_rfl
    rw [h1] at hk
    simp only [Option.map_some, Option.some.injEq] at hk
    rw [h2] at hk; injection hk
  subst hz
  have h := run_make (P := Try.prog) W 43 48 i _ Try.underlying43 h1 h2 .i64 .i64 (n : Int) (n : Int) (by omega) (by omega) (by rw [h4]; omega) (by omega)
  rw [Int.toNat_natCast, h3] at h
  rw [h, cellsR_rep]
  have : (Value.agg #[.int .i64 0, .int .i64 0]).cells = #[.int .i64 0, .int .i64 0] := rfl
  rw [this, madeCells_two]

set_option maxRecDepth 100000 in
set_option maxHeartbeats 1000000 in
theorem refs_any (w : World) (g : Nat) (ps : List (List Stage)) (at_ : List Int) (v0 v1 v2 v3 v4 : Value) (A : Option Addr) (c : Nat) (l : List Int) (h : GrB w (Old w) g ps at_ v0 v1 v2 v3 v4) (hl : RInts w (Old w) [.slice A l.length c] l) (hin : ∀ x ∈ l, ∃ i : Nat, x = (i : Int) ∧ i < (evs ps).length) (hll : l.length ≤ 1000000) :
    Calls Try.prog 66 #[.pointer (some ⟨g, 0, none⟩), .slice A l.length c] w fun e w' => ∃ v, e = .returned v ∧ RRefs w' (Fresh w w') [v] (l.map fun x => evAt ps x.toNat) ∧ KeepsAll w w' := by
  have hc := hl.caps
  obtain ⟨A3, c3, rfl, hc3, hc32⟩ := h.re.val
  have HB := Lib.hid h; clear h
  have HL := Lib.hid hl; clear hl
  have HIN := Lib.hid hin; clear hin
  have hmk := mkRefs l.length (by omega)
  have HOL : Hid ((l.map fun x => evAt ps x.toNat).length = l.length) := by show _ = _; simp
  go_enter Try.func66, Try.ntmps66
  go_wp2
  generalize hW : World.alloc w _ = W
  have HI : Hid (Blk W w.heap.size 48 (cellsR ((l.map fun x => evAt ps x.toNat).take 0 ++ List.replicate ((l.map fun x => evAt ps x.toNat).length - 0) ⟨0, 0⟩)) ∧ KeepsAll w W) := by
    subst hW
    exact ⟨by rw [HOL.out]; simpa using Blk.new _ _ _, (Keeps.refl _ _).alloc _⟩
  clear hW hmk
  go_loopw [13] (fun i wr => ∃ k : Nat, k ≤ l.length ∧ i = .int .i64 k ∧ Blk wr w.heap.size 48 (cellsR ((l.map fun x => evAt ps x.toNat).take k ++ List.replicate ((l.map fun x => evAt ps x.toNat).length - k) ⟨0, 0⟩)) ∧ KeepsAll w wr) (fun i _ => l.length - (intOf i).toNat)
  case atStart => exact ⟨0, Nat.zero_le _, rfl, HI.out.1, HI.out.2⟩
  case round =>
    obtain ⟨k, hk, rfl, hbd, hkr⟩ := hrel
    clear HI
    have KR := Lib.hid hkr; clear hkr
    by_cases hlt : k < l.length
    · obtain ⟨b, o, x, hbo, hb, hx, m0⟩ := RInts.atK KR.out HL.out hlt
      subst hbo
      obtain ⟨i, rfl, hil⟩ := HIN.out x (List.mem_of_getElem? hx)
      obtain ⟨b3, o3, u, hbo, hb3, hu, n0, n1⟩ := RRefs.atK KR.out HB.out.re hil
      subst hbo
      have HOX : Hid ((l.map fun x => evAt ps x.toNat)[k]? = some u) := by
        show _ = _
        rw [List.getElem?_map, hx]; simp [evAt, hu]
      have e3 := (HB.out.all KR.out).b.cell 3
      simp only [List.getElem?_toArray, List.getElem?_cons_succ, List.getElem?_cons_zero] at e3
      have hfa := fill_at (l.map fun x => evAt ps x.toNat) (⟨0, 0⟩ : Ref) (k := k) (by rw [HOL.out]; exact hlt)
      have q0 := hbd.cell (k * 2)
      have q1 := hbd.cell (k * 2 + 1)
      have f0 := hbd.frozen (k * 2)
      have f1 := hbd.frozen (k * 2 + 1)
      rw [(cellsR_at hfa).1] at q0
      rw [(cellsR_at hfa).2] at q1
      have qz := hbd.lt
      have HN : Hid (Blk ((wr.setCell ⟨w.heap.size, k * 2, none⟩ (.int .i64 u.tr)).setCell ⟨w.heap.size, k * 2 + 1, none⟩ (.int .i64 u.st)) w.heap.size 48 (cellsR ((l.map fun x => evAt ps x.toNat).take (k + 1) ++ List.replicate ((l.map fun x => evAt ps x.toNat).length - (k + 1)) ⟨0, 0⟩)) ∧ KeepsAll w ((wr.setCell ⟨w.heap.size, k * 2, none⟩ (.int .i64 u.tr)).setCell ⟨w.heap.size, k * 2 + 1, none⟩ (.int .i64 u.st))) := by
        refine ⟨?_, (KR.out.setCell (fun h => absurd h (by simp)) _).setCell (fun h => absurd h (by simp)) _⟩
        have := (hbd.set_ (k * 2) (.int .i64 u.tr)).set_ (k * 2 + 1) (.int .i64 u.st)
        rw [cellsR_set, fill_set _ _ _ HOX.out] at this
        exact this
      clear hbd hx hu hfa
      go_wp2
      go_roundw
      case rel => exact ⟨k + 1, by omega, by go_num, HN.out.1, HN.out.2⟩
      case measure => simp [intOf]; omega
    · obtain rfl : k = l.length := by omega
      have e : (l.map fun x => evAt ps x.toNat).take l.length ++ List.replicate ((l.map fun x => evAt ps x.toNat).length - l.length) (⟨0, 0⟩ : Ref) = (l.map fun x => evAt ps x.toNat) := by
        have := fill_done (l.map fun x => evAt ps x.toNat) (⟨0, 0⟩ : Ref)
        rw [HOL.out] at this ⊢; exact this
      rw [e] at hbd
      clear e
      have HBD := Lib.hid hbd; clear hbd
      go_wp2
      go_ret
      refine ⟨_, rfl, ?_, KR.out⟩
      have := HBD.out.refs (S := Fresh w wr) ⟨Nat.le_refl _, HBD.out.lt⟩ (by rw [HOL.out]; omega)
      rw [HOL.out] at this; exact this

def idxB (l : List Bool) (x : Bool) : Int := idxF (fun y => x == y) l
set_option maxHeartbeats 400000 in
theorem IndexBool_any (l : List Bool) (x : Bool) (A : Option Addr) (c : Nat) (w : World) (S : Foot) (h : RBools w S [.slice A l.length c] l) :
    Calls Try.prog 72 #[.slice A l.length c, .bool x] w fun e w' => e = .returned (.int .i64 (idxB l x)) ∧ w = w' := by
  have hc := h.caps
  have H := Lib.hid h; clear h
  go_enter Try.func72, Try.ntmps72
  go_wp2
  go_loop [8] (fun i => ∃ k : Nat, k ≤ l.length ∧ i = .int .i64 k ∧ ∀ y ∈ l.take k, (x == y) = false) (fun i => l.length - (intOf i).toNat)
  case atStart => exact ⟨0, Nat.zero_le _, rfl, by simp⟩
  case round =>
    obtain ⟨k, hk, rfl, hno⟩ := hrel
    have HNO := Lib.hid hno; clear hno
    by_cases hlt : k < l.length
    · obtain ⟨b, o, y, rfl, _, hy, k1⟩ := H.out.at_ hlt
      by_cases g : (x == y) = true
      · have Q : Hid (idxB l x = k) := idxF_stop hy g HNO.out
        clear hy
        go_wp2
        go_ret
        exact ⟨by rw [Q.out]; rfl, rfl⟩
      · have g' : (x == y) = false := by simpa using g
        have Q : Hid (∀ y ∈ l.take (k + 1), (x == y) = false) := fun z hz => by
          rw [List.take_add_one, hy] at hz; simp at hz
          rcases hz with hz | rfl
          · exact HNO.out z hz
          · exact g'
        clear hy
        go_wp2
        go_round
        case rel => exact ⟨k + 1, by omega, by go_num, Q.out⟩
        case measure => simp [intOf]; omega
    · obtain rfl : k = l.length := by omega
      have Q : Hid (idxB l x = -1) := by
        have := HNO.out; rw [List.take_length] at this
        exact idxF_none this
      go_wp2
      go_ret
      exact ⟨by rw [Q.out]; rfl, rfl⟩
theorem ContainsBool_any (l : List Bool) (x : Bool) (A : Option Addr) (c : Nat) (w : World) (S : Foot) (h : RBools w S [.slice A l.length c] l) :
    Calls Try.prog 100 #[.slice A l.length c, .bool x] w fun e w' => e = .returned (.bool (l.any fun y => x == y)) ∧ w = w' := by
  have Q := Lib.hid (idxF_ge (fun y => x == y) l)
  have I := Lib.hid (IndexBool_any l x A c w S h)
  clear h
  go_enter Try.func100, Try.ntmps100
  go_wp2_with fail
  refine I.out.mono ?_
  rintro e w' ⟨rfl, rfl⟩
  go_wp2
  go_ret
  exact ⟨by rw [← Q.out]; rfl, rfl⟩

end Go.Proofs.Ytigmldildefdgaa
