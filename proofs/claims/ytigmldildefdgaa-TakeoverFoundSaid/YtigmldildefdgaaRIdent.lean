/- Contracts of the reference's search for positions. Conditions: as each theorem says. -/
import Derived.Test.YtigmldildefdgaaIdent4
import Derived.Test.YtigmldildefdgaaValid3
namespace Go.Proofs.Ytigmldildefdgaa
open Go.RowKit

/-- the sections that are held -/
def heldOf : List (List Stage) → List Int → List Int
  | p :: ps, a :: l => (if a < 0 ∨ (p.length : Int) ≤ a then [] else [secAt p a]) ++ heldOf ps l
  | _, _ => []
theorem heldOf_snoc : ∀ (ps : List (List Stage)) (l : List Int) (p : List Stage) (x : Int), ps[l.length]? = some p → heldOf ps (l ++ [x]) = heldOf ps l ++ (if x < 0 ∨ (p.length : Int) ≤ x then [] else [secAt p x])
  | [], l, p, x, h => by simp at h
  | q :: ps, [], p, x, h => by simp at h; subst h; simp [heldOf]
  | q :: ps, a :: l, p, x, h => by
    have := heldOf_snoc ps l p x (by simpa using h)
    simp only [List.cons_append, heldOf, this, List.append_assoc]

def secsNonneg (ps : List (List Stage)) : Prop := ∀ p ∈ ps, ∀ s ∈ p, 0 ≤ s.sec
theorem secAt_neg {p : List Stage} (h : ∀ s ∈ p, 0 ≤ s.sec) (a : Int) : (a < 0 ∨ (p.length : Int) ≤ a) ∧ secAt p a = -1 ∨ ¬ (a < 0 ∨ (p.length : Int) ≤ a) ∧ 0 ≤ secAt p a := by
  by_cases h1 : a < 0
  · exact .inl ⟨.inl h1, by simp [secAt, h1]⟩
  · by_cases h2 : (p.length : Int) ≤ a
    · refine .inl ⟨.inr h2, ?_⟩
      unfold secAt; rw [if_neg h1, List.getElem?_eq_none (by omega)]
    · refine .inr ⟨by omega, ?_⟩
      unfold secAt
      have hl : a.toNat < p.length := by omega
      rw [if_neg h1, List.getElem?_eq_getElem hl]
      exact h _ (List.getElem_mem hl)

/-- the reference's struct lies in block g -/
structure SkSt (w : World) (g : Nat) (A : Option Addr) (c : Nat) (ps : List (List Stage)) (A2 : Option Addr) (c2 : Nat) (exp : List Int) (A3 : Option Addr) (c3 : Nat) (occ : List Int) (budget : Nat) (at_ : List Int) (vat : Value) (s : ISt) : Prop where
  blk : ∃ vb, Blk w g 91 #[.slice A ps.length c, .slice A2 exp.length c2, .slice A3 occ.length c3, .int .i64 budget, .int .i64 s.steps, vat, .int .i64 s.found, .int .i64 s.sum, vb] ∧
    RInts w (fun b => g + 1 ≤ b ∧ b < w.heap.size ∧ vat.ownBlock ≠ some b) [vb] s.best
  at_ : OwnL 3 1 RInt w (g + 1) (g + 1) vat at_
  pth : RPaths w (fun b => b < g) [.slice A ps.length c] ps
  ex : RInts w (fun b => b < g) [.slice A2 exp.length c2] exp
  oc : RInts w (fun b => b < g) [.slice A3 occ.length c3] occ
  sums : 0 ≤ s.sum ∧ s.sum ≤ 1000
  fnd : s.found ≤ s.steps + 1

section
variable {w w' : World} {g : Nat} {A : Option Addr} {c : Nat} {ps : List (List Stage)} {A2 : Option Addr} {c2 : Nat} {exp : List Int} {A3 : Option Addr} {c3 : Nat} {occ : List Int} {budget : Nat} {at_ : List Int} {vat : Value} {s s' : ISt}
theorem SkSt.lt (h : SkSt w g A c ps A2 c2 exp A3 c3 occ budget at_ vat s) : g < w.heap.size := by obtain ⟨vb, hb, _⟩ := h.blk; exact hb.lt
theorem SkSt.keeps0 (h : SkSt w g A c ps A2 c2 exp A3 c3 occ budget at_ vat s) (k : KeepsAll w w') : SkSt w' g A c ps A2 c2 exp A3 c3 occ budget at_ vat s := by
  have hg := h.lt
  obtain ⟨vb, h1, h2⟩ := h.blk
  refine ⟨⟨vb, h1.kept k (by simp), k.rd RInts.ok h2 (fun b hb => ⟨hb.2.1, by simp⟩) (fun b hb => ⟨hb.1, Nat.lt_of_lt_of_le hb.2.1 k.size, hb.2.2⟩)⟩, h.at_.keeps RInt.ok k (fun _ _ h => h.elim), ?_, ?_, ?_, h.sums, h.fnd⟩
  · exact k.rd RPaths.ok h.pth (fun b hb => ⟨by omega, by simp⟩) (fun _ h => h)
  · exact k.rd RInts.ok h.ex (fun b hb => ⟨by omega, by simp⟩) (fun _ h => h)
  · exact k.rd RInts.ok h.oc (fun b hb => ⟨by omega, by simp⟩) (fun _ h => h)
theorem SkSt.set (h : SkSt w g A c ps A2 c2 exp A3 c3 occ budget at_ vat s) (k : Keeps (· = g) w w') {vb : Value} (hs : 0 ≤ s'.sum ∧ s'.sum ≤ 1000) (hf : s'.found ≤ s'.steps + 1)
    (hb : Blk w' g 91 #[.slice A ps.length c, .slice A2 exp.length c2, .slice A3 occ.length c3, .int .i64 budget, .int .i64 s'.steps, vat, .int .i64 s'.found, .int .i64 s'.sum, vb])
    (hr : RInts w (fun b => g + 1 ≤ b ∧ b < w.heap.size ∧ vat.ownBlock ≠ some b) [vb] s'.best) : SkSt w' g A c ps A2 c2 exp A3 c3 occ budget at_ vat s' := by
  have hg := h.lt
  refine ⟨⟨vb, hb, k.rd RInts.ok hr (fun b hb => ⟨hb.2.1, by omega⟩) (fun b hb => ⟨hb.1, Nat.lt_of_lt_of_le hb.2.1 k.size, hb.2.2⟩)⟩, h.at_.keeps RInt.ok k (fun b _ h => by omega), ?_, ?_, ?_, hs, hf⟩
  · exact k.rd RPaths.ok h.pth (fun b hb => ⟨by omega, by omega⟩) (fun _ h => h)
  · exact k.rd RInts.ok h.ex (fun b hb => ⟨by omega, by omega⟩) (fun _ h => h)
  · exact k.rd RInts.ok h.oc (fun b hb => ⟨by omega, by omega⟩) (fun _ h => h)
end

theorem held_take {ps : List (List Stage)} {at_ : List Int} {k : Nat} {p : List Stage} {x : Int} (hp : ps[k]? = some p) (hx : at_[k]? = some x) : heldOf ps (at_.take (k + 1)) = heldOf ps (at_.take k) ++ (if x < 0 ∨ (p.length : Int) ≤ x then [] else [secAt p x]) := by
  rw [List.take_add_one, hx]
  have hl : (at_.take k).length = k := by have := getElem?_lt hx; simp; omega
  exact heldOf_snoc ps (at_.take k) p x (by rw [hl]; exact hp)

set_option maxRecDepth 100000 in
set_option maxHeartbeats 1000000 in
theorem free_any (w : World) (g : Nat) (A : Option Addr) (c : Nat) (ps : List (List Stage)) (A2 : Option Addr) (c2 : Nat) (exp : List Int) (A3 : Option Addr) (c3 : Nat) (occ : List Int) (budget : Nat) (at_ : List Int) (vat : Value) (s : ISt)
    (h : SkSt w g A c ps A2 c2 exp A3 c3 occ budget at_ vat s) (hl : at_.length ≤ ps.length) (hsn : secsNonneg ps) (sec : Int) (hsec : 0 ≤ sec) :
    Calls Try.prog 95 #[.pointer (some ⟨g, 0, none⟩), .int .i64 sec] w fun e w' => e = .returned (.bool (decide (sec ∈ occ ∧ sec ∉ heldOf ps at_))) ∧ ∃ n, w' = w.drewN n := by
  obtain ⟨vb, hblk, _⟩ := h.blk
  obtain ⟨Aa, ca, rfl, hca, hca2⟩ := h.at_.form
  have c0 := hblk.cell 0
  have c2' := hblk.cell 2
  have c5 := hblk.cell 5
  simp at c0 c2' c5
  have hoc := h.oc.caps
  have hpc := h.pth.caps
  have HR := Lib.hid (h.at_.read RInt.ok (by omega) (S := fun b => b < w.heap.size) (fun _ _ h => h) (fun _ _ h => h))
  have H := Lib.hid h; clear h hblk
  have HSN := Lib.hid hsn; clear hsn
  go_enter Try.func95, Try.ntmps95
  go_wp2
  go_loop [5, 14] (fun v i => ∃ (k : Nat) (bb : Bool), k ≤ occ.length ∧ i = .int .i64 k ∧ v = .bool bb ∧ (bb = true ↔ sec ∈ occ.take k)) (fun _ i => occ.length - (intOf i).toNat)
  case atStart => exact ⟨0, false, Nat.zero_le _, rfl, rfl, by simp⟩
  case round =>
    obtain ⟨k, bb, hk, rfl, rfl, hbb⟩ := hrel
    have HBB := Lib.hid hbb; clear hbb
    by_cases hlt : k < occ.length
    · obtain ⟨b, o, x, rfl, _, hx, k1⟩ := H.out.oc.at_ hlt
      cases bb with
      | true =>
        have Q : Hid (true = true ↔ sec ∈ occ.take (k + 1)) := by
          show true = true ↔ _
          have := HBB.out.1 rfl
          rw [List.take_add_one]; simp [this]
        clear hx
        go_wp2
        go_round
        case rel => exact ⟨k + 1, true, by omega, by go_num, rfl, Q.out⟩
        case measure => simp [intOf]; omega
      | false =>
        have Q : Hid ((x == sec) = true ↔ sec ∈ occ.take (k + 1)) := by
          show (x == sec) = true ↔ _
          have h0 : sec ∉ occ.take k := fun h => by have := HBB.out.2 h; cases this
          rw [List.take_add_one, hx]; simp [h0]; exact eq_comm
        clear hx
        go_wp2
        go_round
        case rel => exact ⟨k + 1, (x == sec), by omega, by go_num, rfl, Q.out⟩
        case measure => simp [intOf]; omega
    · obtain rfl : k = occ.length := by omega
      have HB2 : Hid (bb = true ↔ sec ∈ occ) := by
        have := HBB.out
        rw [List.take_length] at this; exact this
      go_wp2
      go_loopw [5, 30] (fun v i wr => ∃ (k : Nat) (b2 : Bool) (n : Nat), k ≤ at_.length ∧ i = .int .i64 k ∧ v = .bool b2 ∧ (b2 = true ↔ sec ∈ occ ∧ sec ∉ heldOf ps (at_.take k)) ∧ wr = w.drewN n) (fun _ i _ => at_.length - (intOf i).toNat)
      case atStart => exact ⟨0, bb, 0, Nat.zero_le _, rfl, rfl, by rw [HB2.out]; cases ps <;> simp [heldOf], rfl⟩
      case round =>
        obtain ⟨k, b2, n, hk, rfl, rfl, hb2, rfl⟩ := hrel
        have HB := Lib.hid hb2; clear hb2
        by_cases hlt2 : k < at_.length
        · obtain ⟨b, o, x, rfl, _, hx, k1⟩ := RInts.at_ HR.out hlt2
          have hpk : k < ps.length := by omega
          have hp : ps[k]? = some ps[k] := List.getElem?_eq_getElem hpk
          have hts := held_take hp hx
          have hns := secAt_neg (HSN.out ps[k] (List.mem_of_getElem? hp)) x
          cases b2 with
          | false =>
            have Q : Hid (false = true ↔ sec ∈ occ ∧ sec ∉ heldOf ps (at_.take (k + 1))) := by
              show false = true ↔ _
              have h0 := HB.out
              constructor
              · intro h; cases h
              · intro ⟨h1, h2⟩
                exact h0.2 ⟨h1, fun h => h2 (by rw [hts]; exact List.mem_append_left _ h)⟩
            clear hx hts hns
            go_wp2
            go_quiet (fail)
            go_wp2
            go_roundw
            case rel => exact ⟨k + 1, false, _, by omega, by go_num, rfl, Q.out, rfl⟩
            case measure => simp [intOf]; omega
          | true =>
            have HXX := Lib.hid hx
            have HPP := Lib.hid hp
            generalize hsx : secAt ps[k] x = sx at hts hns
            have Q : Hid ((sx != sec) = true ↔ sec ∈ occ ∧ sec ∉ heldOf ps (at_.take (k + 1))) := by
              show (sx != sec) = true ↔ _
              have h0 := HB.out.1 rfl
              rw [hts]
              rcases hns with ⟨h1, h2⟩ | ⟨h1, h2⟩
              · rw [if_pos h1, h2]; simp [h0.1, h0.2]; omega
              · rw [if_neg h1]; simp [h0.1, h0.2]; exact ⟨fun h e => h e.symm, fun h e => h e.symm⟩
            have SC : Hid (∀ n', Calls Try.prog 53 #[.slice A ps.length c, .slice (some ⟨b, o, none⟩) at_.length ca, .int .i64 k] (w.drewN n') fun e w' => e = .returned (.int .i64 sx) ∧ ∃ m, w' = (w.drewN n').drewN m) := fun n' => by
              rw [← hsx]; exact Section_any ps at_ A (some ⟨b, o, none⟩) c ca _ (fun b => b < g) (fun b => b < w.heap.size) (by exact H.out.pth) (by exact HR.out) k ps[k] x HPP.out HXX.out
            clear hx hts hns hp hsx
            go_wp2
            go_quiet ((go_at_call 53; exact quiet_draw_add (SC.out _)))
            go_wp2
            go_roundw
            case rel => exact ⟨k + 1, (sx != sec), _, by omega, by go_num, rfl, Q.out, rfl⟩
            case measure => simp [intOf]; omega
        · obtain rfl : k = at_.length := by omega
          have Q : Hid (decide (sec ∈ occ ∧ sec ∉ heldOf ps at_) = b2) := by
            have := HB.out
            rw [List.take_length] at this
            show decide _ = b2
            cases b2 <;> simp at this ⊢ <;> exact this
          go_wp2
          go_ret
          exact ⟨by rw [Q.out]; rfl, _, rfl⟩

end Go.Proofs.Ytigmldildefdgaa
