/- Contracts of the reference's search for positions. Conditions: as each theorem says. Contract of the reference's count of a complete assignment. Conditions: as the theorem says. Contract of the reference's recursive search. Conditions: as the theorem says. Contract of the reference's Identify. Conditions: as the theorem says. Contracts of sections and of the example of chapter 38. Conditions: as each theorem says. Contract of the reference's CheckState. Conditions: as the theorem says. -/
import Derived.Test.YtcbpiidbkjaneaaGreatIdM
import Derived.Test.YtcbpiidbkjaneaaGreatValid3
import Derived.Test.YtcbpiidbkjaneaaGreatPaths
namespace Go.Proofs.YtcbpiidbkjaneaaGreat
open Go.RowKit

/-- the sections that are held -/
def heldOf : List (List Stage) → List Int → List Int
  | p :: ps, a :: l => (if a < 0 ∨ (p.length : Int) ≤ a then [] else [secAt p a]) ++ heldOf ps l
  | _, _ => []
theorem heldOf_snoc : ∀ (ps : List (List Stage)) (l : List Int) (p : List Stage) (x : Int), ps[l.length]? = some p → heldOf ps (l ++ [x]) = heldOf ps l ++ (if x < 0 ∨ (p.length : Int) ≤ x then [] else [secAt p x])
  | [], l, p, x, h => by simp at h
  | q :: ps, [], p, x, h => by simp at h; subst h; simp [heldOf]
  | q :: ps, a :: l, p, x, h => by
    have := heldOf_snoc ps l p x (by simpa using h)
    simp only [List.cons_append, heldOf, this, List.append_assoc]

def secsNonneg (ps : List (List Stage)) : Prop := ∀ p ∈ ps, ∀ s ∈ p, 0 ≤ s.sec
theorem secAt_neg {p : List Stage} (h : ∀ s ∈ p, 0 ≤ s.sec) (a : Int) : (a < 0 ∨ (p.length : Int) ≤ a) ∧ secAt p a = -1 ∨ ¬ (a < 0 ∨ (p.length : Int) ≤ a) ∧ 0 ≤ secAt p a := by
  by_cases h1 : a < 0
  · exact .inl ⟨.inl h1, by simp [secAt, h1]⟩
  · by_cases h2 : (p.length : Int) ≤ a
    · refine .inl ⟨.inr h2, ?_⟩
      unfold secAt; rw [if_neg h1, List.getElem?_eq_none (by omega)]
    · refine .inr ⟨by omega, ?_⟩
      unfold secAt
      have hl : a.toNat < p.length := by omega
      rw [if_neg h1, List.getElem?_eq_getElem hl]
      exact h _ (List.getElem_mem hl)

/-- the reference's struct lies in block g -/
structure SkSt (w : World) (g : Nat) (A : Option Addr) (c : Nat) (ps : List (List Stage)) (A2 : Option Addr) (c2 : Nat) (exp : List Int) (A3 : Option Addr) (c3 : Nat) (occ : List Int) (budget : Nat) (at_ : List Int) (vat : Value) (s : ISt) : Prop where
  blk : ∃ vb, Blk w g 61 #[.slice A ps.length c, .slice A2 exp.length c2, .slice A3 occ.length c3, .int .i64 budget, .int .i64 s.steps, vat, .int .i64 s.found, .int .i64 s.sum, vb] ∧
    RInts w (fun b => g + 1 ≤ b ∧ b < w.heap.size ∧ vat.ownBlock ≠ some b) [vb] s.best
  at_ : OwnL 3 1 RInt w (g + 1) (g + 1) vat at_
  pth : RPaths w (fun b => b < g) [.slice A ps.length c] ps
  ex : RInts w (fun b => b < g) [.slice A2 exp.length c2] exp
  oc : RInts w (fun b => b < g) [.slice A3 occ.length c3] occ
  sums : 0 ≤ s.sum ∧ s.sum ≤ 1000
  fnd : s.found ≤ s.steps + 1

section
variable {w w' : World} {g : Nat} {A : Option Addr} {c : Nat} {ps : List (List Stage)} {A2 : Option Addr} {c2 : Nat} {exp : List Int} {A3 : Option Addr} {c3 : Nat} {occ : List Int} {budget : Nat} {at_ : List Int} {vat : Value} {s s' : ISt}
theorem SkSt.lt (h : SkSt w g A c ps A2 c2 exp A3 c3 occ budget at_ vat s) : g < w.heap.size := by obtain ⟨vb, hb, _⟩ := h.blk; exact hb.lt
theorem SkSt.keeps0 (h : SkSt w g A c ps A2 c2 exp A3 c3 occ budget at_ vat s) (k : KeepsAll w w') : SkSt w' g A c ps A2 c2 exp A3 c3 occ budget at_ vat s := by
  have hg := h.lt
  obtain ⟨vb, h1, h2⟩ := h.blk
  refine ⟨⟨vb, h1.kept k (by simp), k.rd RInts.ok h2 (fun b hb => ⟨hb.2.1, by simp⟩) (fun b hb => ⟨hb.1, Nat.lt_of_lt_of_le hb.2.1 k.size, hb.2.2⟩)⟩, h.at_.keeps RInt.ok k (fun _ _ h => h.elim), ?_, ?_, ?_, h.sums, h.fnd⟩
  · exact k.rd RPaths.ok h.pth (fun b hb => ⟨by omega, by simp⟩) (fun _ h => h)
  · exact k.rd RInts.ok h.ex (fun b hb => ⟨by omega, by simp⟩) (fun _ h => h)
  · exact k.rd RInts.ok h.oc (fun b hb => ⟨by omega, by simp⟩) (fun _ h => h)
theorem SkSt.set (h : SkSt w g A c ps A2 c2 exp A3 c3 occ budget at_ vat s) (k : Keeps (· = g) w w') {vb : Value} (hs : 0 ≤ s'.sum ∧ s'.sum ≤ 1000) (hf : s'.found ≤ s'.steps + 1)
    (hb : Blk w' g 61 #[.slice A ps.length c, .slice A2 exp.length c2, .slice A3 occ.length c3, .int .i64 budget, .int .i64 s'.steps, vat, .int .i64 s'.found, .int .i64 s'.sum, vb])
    (hr : RInts w (fun b => g + 1 ≤ b ∧ b < w.heap.size ∧ vat.ownBlock ≠ some b) [vb] s'.best) : SkSt w' g A c ps A2 c2 exp A3 c3 occ budget at_ vat s' := by
  have hg := h.lt
  refine ⟨⟨vb, hb, k.rd RInts.ok hr (fun b hb => ⟨hb.2.1, by omega⟩) (fun b hb => ⟨hb.1, Nat.lt_of_lt_of_le hb.2.1 k.size, hb.2.2⟩)⟩, h.at_.keeps RInt.ok k (fun b _ h => by omega), ?_, ?_, ?_, hs, hf⟩
  · exact k.rd RPaths.ok h.pth (fun b hb => ⟨by omega, by omega⟩) (fun _ h => h)
  · exact k.rd RInts.ok h.ex (fun b hb => ⟨by omega, by omega⟩) (fun _ h => h)
  · exact k.rd RInts.ok h.oc (fun b hb => ⟨by omega, by omega⟩) (fun _ h => h)
end

theorem held_take {ps : List (List Stage)} {at_ : List Int} {k : Nat} {p : List Stage} {x : Int} (hp : ps[k]? = some p) (hx : at_[k]? = some x) : heldOf ps (at_.take (k + 1)) = heldOf ps (at_.take k) ++ (if x < 0 ∨ (p.length : Int) ≤ x then [] else [secAt p x]) := by
  rw [List.take_add_one, hx]
  have hl : (at_.take k).length = k := by have := getElem?_lt hx; simp; omega
  exact heldOf_snoc ps (at_.take k) p x (by rw [hl]; exact hp)

set_option maxRecDepth 100000 in
set_option maxHeartbeats 1000000 in
theorem free_any (w : World) (g : Nat) (A : Option Addr) (c : Nat) (ps : List (List Stage)) (A2 : Option Addr) (c2 : Nat) (exp : List Int) (A3 : Option Addr) (c3 : Nat) (occ : List Int) (budget : Nat) (at_ : List Int) (vat : Value) (s : ISt)
    (h : SkSt w g A c ps A2 c2 exp A3 c3 occ budget at_ vat s) (hl : at_.length ≤ ps.length) (hsn : secsNonneg ps) (sec : Int) (hsec : 0 ≤ sec) :
    Calls Tryz.prog 51 #[.pointer (some ⟨g, 0, none⟩), .int .i64 sec] w fun e w' => e = .returned (.bool (decide (sec ∈ occ ∧ sec ∉ heldOf ps at_))) ∧ ∃ n, w' = w.drewN n := by
  obtain ⟨vb, hblk, _⟩ := h.blk
  obtain ⟨Aa, ca, rfl, hca, hca2⟩ := h.at_.form
  have c0 := hblk.cell 0
  have c2' := hblk.cell 2
  have c5 := hblk.cell 5
  simp at c0 c2' c5
  have hoc := h.oc.caps
  have hpc := h.pth.caps
  have HR := Lib.hid (h.at_.read RInt.ok (by omega) (S := fun b => b < w.heap.size) (fun _ _ h => h) (fun _ _ h => h))
  have H := Lib.hid h; clear h hblk
  have HSN := Lib.hid hsn; clear hsn
  go_enter Tryz.func51, Tryz.ntmps51
  go_wp2
  go_loop [5, 14] (fun v i => ∃ (k : Nat) (bb : Bool), k ≤ occ.length ∧ i = .int .i64 k ∧ v = .bool bb ∧ (bb = true ↔ sec ∈ occ.take k)) (fun _ i => occ.length - (intOf i).toNat)
  case atStart => exact ⟨0, false, Nat.zero_le _, rfl, rfl, by simp⟩
  case round =>
    obtain ⟨k, bb, hk, rfl, rfl, hbb⟩ := hrel
    have HBB := Lib.hid hbb; clear hbb
    by_cases hlt : k < occ.length
    · obtain ⟨b, o, x, rfl, _, hx, k1⟩ := H.out.oc.at_ hlt
      cases bb with
      | true =>
        have Q : Hid (true = true ↔ sec ∈ occ.take (k + 1)) := by
          show true = true ↔ _
          have := HBB.out.1 rfl
          rw [List.take_add_one]; simp [this]
        clear hx
        go_wp2
        go_round
        case rel => exact ⟨k + 1, true, by omega, by go_num, rfl, Q.out⟩
        case measure => simp [intOf]; omega
      | false =>
        have Q : Hid ((x == sec) = true ↔ sec ∈ occ.take (k + 1)) := by
          show (x == sec) = true ↔ _
          have h0 : sec ∉ occ.take k := fun h => by have := HBB.out.2 h; cases this
          rw [List.take_add_one, hx]; simp [h0]; exact eq_comm
        clear hx
        go_wp2
        go_round
        case rel => exact ⟨k + 1, (x == sec), by omega, by go_num, rfl, Q.out⟩
        case measure => simp [intOf]; omega
    · obtain rfl : k = occ.length := by omega
      have HB2 : Hid (bb = true ↔ sec ∈ occ) := by
        have := HBB.out
        rw [List.take_length] at this; exact this
      go_wp2
      go_loopw [5, 30] (fun v i wr => ∃ (k : Nat) (b2 : Bool) (n : Nat), k ≤ at_.length ∧ i = .int .i64 k ∧ v = .bool b2 ∧ (b2 = true ↔ sec ∈ occ ∧ sec ∉ heldOf ps (at_.take k)) ∧ wr = w.drewN n) (fun _ i _ => at_.length - (intOf i).toNat)
      case atStart => exact ⟨0, bb, 0, Nat.zero_le _, rfl, rfl, by rw [HB2.out]; cases ps <;> simp [heldOf], rfl⟩
      case round =>
        obtain ⟨k, b2, n, hk, rfl, rfl, hb2, rfl⟩ := hrel
        have HB := Lib.hid hb2; clear hb2
        by_cases hlt2 : k < at_.length
        · obtain ⟨b, o, x, rfl, _, hx, k1⟩ := RInts.at_ HR.out hlt2
          have hpk : k < ps.length := by omega
          have hp : ps[k]? = some ps[k] := List.getElem?_eq_getElem hpk
          have hts := held_take hp hx
          have hns := secAt_neg (HSN.out ps[k] (List.mem_of_getElem? hp)) x
          cases b2 with
          | false =>
            have Q : Hid (false = true ↔ sec ∈ occ ∧ sec ∉ heldOf ps (at_.take (k + 1))) := by
              show false = true ↔ _
              have h0 := HB.out
              constructor
              · intro h; cases h
              · intro ⟨h1, h2⟩
                exact h0.2 ⟨h1, fun h => h2 (by rw [hts]; exact List.mem_append_left _ h)⟩
            clear hx hts hns
            go_wp2
            go_quiet (fail)
            go_wp2
            go_roundw
            case rel => exact ⟨k + 1, false, _, by omega, by go_num, rfl, Q.out, rfl⟩
            case measure => simp [intOf]; omega
          | true =>
            have HXX := Lib.hid hx
            have HPP := Lib.hid hp
            generalize hsx : secAt ps[k] x = sx at hts hns
            have Q : Hid ((sx != sec) = true ↔ sec ∈ occ ∧ sec ∉ heldOf ps (at_.take (k + 1))) := by
              show (sx != sec) = true ↔ _
              have h0 := HB.out.1 rfl
              rw [hts]
              rcases hns with ⟨h1, h2⟩ | ⟨h1, h2⟩
              · rw [if_pos h1, h2]; simp [h0.1, h0.2]; omega
              · rw [if_neg h1]; simp [h0.1, h0.2]; exact ⟨fun h e => h e.symm, fun h e => h e.symm⟩
            have SC : Hid (∀ n', Calls Tryz.prog 45 #[.slice A ps.length c, .slice (some ⟨b, o, none⟩) at_.length ca, .int .i64 k] (w.drewN n') fun e w' => e = .returned (.int .i64 sx) ∧ ∃ m, w' = (w.drewN n').drewN m) := fun n' => by
              rw [← hsx]; exact Section_any ps at_ A (some ⟨b, o, none⟩) c ca _ (fun b => b < g) (fun b => b < w.heap.size) (by exact H.out.pth) (by exact HR.out) k ps[k] x HPP.out HXX.out
            clear hx hts hns hp hsx
            go_wp2
            go_quiet ((go_at_call 45; exact quiet_draw_add (SC.out _)))
            go_wp2
            go_roundw
            case rel => exact ⟨k + 1, (sx != sec), _, by omega, by go_num, rfl, Q.out, rfl⟩
            case measure => simp [intOf]; omega
        · obtain rfl : k = at_.length := by omega
          have Q : Hid (decide (sec ∈ occ ∧ sec ∉ heldOf ps at_) = b2) := by
            have := HB.out
            rw [List.take_length] at this
            show decide _ = b2
            cases b2 <;> simp at this ⊢ <;> exact this
          go_wp2
          go_ret
          exact ⟨by rw [Q.out]; rfl, _, rfl⟩





theorem held_count {ps : List (List Stage)} {at_ : List Int} {k : Nat} {p : List Stage} {x sx : Int} (hp : ps[k]? = some p) (hx : at_[k]? = some x) (hs : ∀ s ∈ p, 0 ≤ s.sec) (e : secAt p x = sx) :
    sx < 0 ∧ (heldOf ps (at_.take (k + 1))).length = (heldOf ps (at_.take k)).length ∨ 0 ≤ sx ∧ (heldOf ps (at_.take (k + 1))).length = (heldOf ps (at_.take k)).length + 1 := by
  have h1 := held_take hp hx
  subst e
  rcases secAt_neg hs x with ⟨h, h2⟩ | ⟨h, h2⟩
  · refine .inl ⟨by omega, ?_⟩; rw [h1, if_pos h]; simp
  · refine .inr ⟨h2, ?_⟩; rw [h1, if_neg h]; simp
theorem heldOf_len : ∀ (ps : List (List Stage)) (l : List Int), (heldOf ps l).length ≤ l.length
  | [], l => by cases l <;> simp [heldOf]
  | p :: ps, [] => by simp [heldOf]
  | p :: ps, a :: l => by
    have := heldOf_len ps l
    simp only [heldOf, List.length_append, List.length_cons]
    split <;> simp <;> omega

set_option maxRecDepth 100000 in
set_option maxHeartbeats 2000000 in
theorem assigned_any (w : World) (g : Nat) (A : Option Addr) (c : Nat) (ps : List (List Stage)) (A2 : Option Addr) (c2 : Nat) (exp : List Int) (A3 : Option Addr) (c3 : Nat) (occ : List Int) (budget : Nat) (at_ : List Int) (vat : Value) (s : ISt)
    (h : SkSt w g A c ps A2 c2 exp A3 c3 occ budget at_ vat s) (ha : small at_) (he : small exp) (hl : at_.length = exp.length) (hlp : at_.length ≤ ps.length) (hsn : secsNonneg ps) (hf : s.found ≤ s.steps) (hst : s.steps ≤ 2000000) :
    Calls Tryz.prog 50 #[.pointer (some ⟨g, 0, none⟩)] w fun e w' => e = .returned (.tuple #[]) ∧ SkSt w' g A c ps A2 c2 exp A3 c3 occ budget at_ vat (complete exp occ at_ (heldOf ps at_) s) ∧ Keeps (fun b => g ≤ b) w w' := by
  obtain ⟨vb, hblk, hbest⟩ := h.blk
  obtain ⟨Aa, ca, rfl, hca, hca2⟩ := h.at_.form
  have c0 := hblk.cell 0
  have c1 := hblk.cell 1
  have c2' := hblk.cell 2
  have c5 := hblk.cell 5
  have c6 := hblk.cell 6
  have c7 := hblk.cell 7
  simp at c0 c1 c2' c5 c6 c7
  have hl1 : at_.length ≤ exp.length := by omega
  have hl2 : exp.length ≤ at_.length := by omega
  have HL := Lib.hid hl; clear hl
  have hec := h.ex.caps
  have hoc := h.oc.caps
  have hpc := h.pth.caps
  have hss := h.sums
  have hgz0 := h.lt
  have HR := Lib.hid (h.at_.read RInt.ok (by omega) (S := fun b => g + 1 ≤ b ∧ b < w.heap.size) (fun _ h1 h2 => ⟨h1, h2⟩) (fun _ h1 h2 => ⟨h1, h2⟩))
  have H := Lib.hid h; clear h
  have HB := Lib.hid hblk; clear hblk
  have HBE := Lib.hid hbest; clear hbest
  have HA := Lib.hid ha; clear ha
  have HE := Lib.hid he; clear he
  have HSN := Lib.hid hsn; clear hsn
  have ha10 := HA.out.1
  have he10 := HE.out.1
  go_enter Tryz.func50, Tryz.ntmps50
  go_wp2
  go_loopw [2, 3, 10] (fun u v i wr => ∃ k : Nat, k ≤ at_.length ∧ i = .int .i64 k ∧ v = .int .i64 (diffSum (at_.take k) (exp.take k)) ∧ u = .int .i64 (heldOf ps (at_.take k)).length ∧ ∃ n, wr = w.drewN n) (fun _ _ i _ => at_.length - (intOf i).toNat)
  case atStart => exact ⟨0, Nat.zero_le _, rfl, by simp [diffSum], by cases ps <;> simp [heldOf], 0, rfl⟩
  case round =>
    obtain ⟨k, hk, rfl, rfl, rfl, n, rfl⟩ := hrel
    have hr := diffSum_range (at_.take k) (exp.take k) (fun x hx => HA.out.2 x (List.mem_of_mem_take hx)) (fun x hx => HE.out.2 x (List.mem_of_mem_take hx))
    have hr2 : diffSum (at_.take k) (exp.take k) ≤ 650 := by
      have : (at_.take k).length ≤ 10 := by simp; omega
      omega
    have hr1 := hr.1
    clear hr
    have hh10 : (heldOf ps (at_.take k)).length ≤ 10 := by
      have := heldOf_len ps (at_.take k)
      have h2 : (at_.take k).length ≤ 10 := by simp; omega
      omega
    by_cases hlt : k < at_.length
    · obtain ⟨b1, o1, x, rfl, _, hx, k1⟩ := RInts.at_ HR.out hlt
      obtain ⟨b2, o2, y, rfl, _, hy, k2⟩ := H.out.ex.at_ (k := k) (by omega)
      have hxr := HA.out.2 x (List.mem_of_getElem? hx)
      have hyr := HE.out.2 y (List.mem_of_getElem? hy)
      have ST := Lib.hid (diffSum_step at_ exp k x y hx hy)
      have hpk : k < ps.length := by omega
      have hp : ps[k]? = some ps[k] := List.getElem?_eq_getElem hpk
      have HXX := Lib.hid hx
      have HPP := Lib.hid hp
      generalize hsx : secAt ps[k] x = sx
      have hcnt := held_count hp hx (HSN.out ps[k] (List.mem_of_getElem? hp)) hsx
      have SC : Hid (∀ n', Calls Tryz.prog 45 #[.slice A ps.length c, .slice (some ⟨b1, o1, none⟩) at_.length ca, .int .i64 k] (w.drewN n') fun e w' => e = .returned (.int .i64 sx) ∧ ∃ m, w' = (w.drewN n').drewN m) := fun n' => by
        rw [← hsx]; exact Section_any ps at_ A (some ⟨b1, o1, none⟩) c ca _ (fun b => b < g) (fun b => g + 1 ≤ b ∧ b < w.heap.size) (by exact H.out.pth) (by exact HR.out) k ps[k] x HPP.out HXX.out
      clear hx hy hp hsx
      generalize diffSum (at_.take k) (exp.take k) = D at hr1 hr2 ST
      generalize (heldOf ps (at_.take k)).length = N at hcnt hh10
      rcases hcnt with ⟨hneg, hN⟩ | ⟨hneg, hN⟩
      · have HN := Lib.hid hN; clear hN
        have g1 : decide (sx ≥ 0) = false := by simp; omega
        go_wp2
        go_quiet ((go_at_call 45; exact quiet_draw_add (SC.out _)))
        go_wp2
        go_quiet (fail)
        go_wp2
        go_roundw
        case rel =>
          refine ⟨k + 1, by omega, by go_num, ?_, ?_, _, rfl⟩
          · rw [ST.out]; rfl
          · rw [HN.out]
        case measure => simp [intOf]; omega
      · have HN := Lib.hid hN; clear hN
        have g1 : decide (sx ≥ 0) = true := by simp; omega
        go_wp2
        go_quiet ((go_at_call 45; exact quiet_draw_add (SC.out _)))
        go_wp2
        go_quiet (fail)
        go_wp2
        go_roundw
        case rel =>
          refine ⟨k + 1, by omega, by go_num, ?_, ?_, _, rfl⟩
          · rw [ST.out]; rfl
          · rw [HN.out]; go_num
        case measure => simp [intOf]; omega
    · obtain rfl : k = at_.length := by omega
      have e1 : Hid (diffSum (at_.take at_.length) (exp.take at_.length) = diffSum at_ exp) := by
        show _ = _
        rw [List.take_length, HL.out, List.take_length]
      have e2 : Hid ((heldOf ps (at_.take at_.length)).length = (heldOf ps at_).length) := by
        show _ = _
        rw [List.take_length]
      generalize hD : diffSum (at_.take at_.length) (exp.take at_.length) = D at hr1 hr2
      have HD : Hid (diffSum at_ exp = D) := by rw [← e1.out]; exact hD
      generalize hN : (heldOf ps (at_.take at_.length)).length = N at hh10
      have HN : Hid ((heldOf ps at_).length = N) := by rw [← e2.out]; exact hN
      clear hD e1 hN e2
      by_cases g1 : N = occ.length
      · have g1' : ((N : Int) == (occ.length : Int)) = true := by simp; omega
        have g1'' : ((N : Int) != (occ.length : Int)) = false := by simp; omega
        have G1 : Hid ((heldOf ps at_).length = occ.length) := by rw [← g1]; exact HN.out
        clear g1
        by_cases g2 : s.found = 0
        · have g2' : ((s.found : Int) == 0) = true := by simp; omega
          have Q : Hid (complete exp occ at_ (heldOf ps at_) s = { s with found := 1, sum := D, best := at_ }) := by
            show complete exp occ at_ (heldOf ps at_) s = { s with found := 1, sum := D, best := at_ }
            simp [complete, G1.out, g2, HD.out]
          clear g2
          have f6 := HB.out.frozen 6
          have f7 := HB.out.frozen 7
          have KK := Lib.hid ((((Keeps.refl (· = g) w).drewN n).setCell (p := ⟨g, 6, none⟩) (fun _ => rfl) (.int .i64 1)).setCell (p := ⟨g, 7, none⟩) (fun _ => rfl) (.int .i64 D))
          have H1 : Hid (SkSt (((w.drewN n).setCell ⟨g, 6, none⟩ (.int .i64 1)).setCell ⟨g, 7, none⟩ (.int .i64 D)) g A c ps A2 c2 exp A3 c3 occ budget at_ (.slice Aa at_.length ca) { s with found := 1, sum := D }) := by
            refine H.out.set KK.out ⟨hr1, by show D ≤ 1000; omega⟩ (by show 1 ≤ s.steps + 1; omega) (vb := vb) ?_ HBE.out
            have := ((show Blk (w.drewN n) g _ _ from HB.out).set_ 6 (.int .i64 1)).set_ 7 (.int .i64 D)
            simpa using this
          have HRW : Hid (RInts (((w.drewN n).setCell ⟨g, 6, none⟩ (.int .i64 1)).setCell ⟨g, 7, none⟩ (.int .i64 D)) (fun b => g + 1 ≤ b ∧ b < w.heap.size) [.slice Aa at_.length ca] at_) := KK.out.rd RInts.ok HR.out (fun b hb => ⟨hb.2, by omega⟩) (fun _ h => h)
          have HSZ : Hid (w.heap.size ≤ (((w.drewN n).setCell ⟨g, 6, none⟩ (.int .i64 1)).setCell ⟨g, 7, none⟩ (.int .i64 D)).heap.size) := KK.out.size
          go_wp2_with (at_builtin; refine wpList_append_M tyInt RInt.ok RInt.one rfl (.const (.slice none 0 0)) (.tmp 92) rfl (OwnL.nil (base := w.heap.size) (lo := w.heap.size)) rfl rfl (S := fun b => g + 1 ≤ b ∧ b < w.heap.size) (S2 := fun _ => False) HRW.out (fun _ _ h => h) (fun _ h => h.elim) (by simp; omega) (by simp; omega) HSZ.out ?_; intro v' w1 ho1 hk1 ha1; obtain ⟨A', c', rfl, hc', hc2'⟩ := ho1.form; have H2 := Lib.hid (H1.out.keeps0 (hk1.mono (fun _ _ h => (by simp [Value.ownBlock] at h)))); have HK1 := Lib.hid hk1; have HO1 := Lib.hid ho1; clear ho1 hk1 ha1; obtain ⟨vb2, hblk2, hbest2⟩ := H2.out.blk; have d8 := hblk2.cell 8; have e8 := hblk2.frozen 8; simp at d8; have HB2 := Lib.hid hblk2; clear hblk2 hbest2)
          refine bodyPost_end (results_none rfl _ _ _) rfl ?_
          have HFAR : ∀ b, w.heap.size ≤ b → (Value.slice Aa at_.length ca).ownBlock ≠ some b := fun b hb e => by have := H.out.at_.lt e; omega
          have K2 := (Keeps.refl (· = g) w1).setCell (p := ⟨g, 8, none⟩) (fun _ => rfl) (.slice A' ([] ++ at_).length c')
          have KF : Keeps (fun b => g ≤ b) w (w1.setCell ⟨g, 8, none⟩ (.slice A' ([] ++ at_).length c')) := ((KK.out.trans HK1.out (fun _ _ h => (by simp [Value.ownBlock] at h))).trans K2 (fun x _ e => e)).mono (fun x _ e => by omega)
          refine ⟨rfl, ?_, KF⟩
          rw [Q.out]
          refine H2.out.set K2 ⟨hr1, by show D ≤ 1000; omega⟩ (by show 1 ≤ s.steps + 1; omega) (vb := .slice A' ([] ++ at_).length c') ?_ ?_
          · have := HB2.out.set_ 8 (.slice A' ([] ++ at_).length c')
            simpa using this
          · have hsz : w.heap.size ≤ w1.heap.size := Nat.le_trans KK.out.size HK1.out.size
            exact HO1.out.read RInt.ok (by omega) (fun b h1 h2 => ⟨by omega, h2, HFAR b h1⟩) (fun b h1 h2 => ⟨by omega, h2, HFAR b h1⟩)
        · have g2' : ((s.found : Int) == 0) = false := by simp; omega
          by_cases g3 : D < s.sum
          · have Q : Hid (complete exp occ at_ (heldOf ps at_) s = { s with found := 1, sum := D, best := at_ }) := by
              show complete exp occ at_ (heldOf ps at_) s = { s with found := 1, sum := D, best := at_ }
              simp [complete, G1.out, g2, HD.out, g3]
            clear g2
            have f6 := HB.out.frozen 6
            have f7 := HB.out.frozen 7
            have KK := Lib.hid ((((Keeps.refl (· = g) w).drewN n).setCell (p := ⟨g, 6, none⟩) (fun _ => rfl) (.int .i64 1)).setCell (p := ⟨g, 7, none⟩) (fun _ => rfl) (.int .i64 D))
            have H1 : Hid (SkSt (((w.drewN n).setCell ⟨g, 6, none⟩ (.int .i64 1)).setCell ⟨g, 7, none⟩ (.int .i64 D)) g A c ps A2 c2 exp A3 c3 occ budget at_ (.slice Aa at_.length ca) { s with found := 1, sum := D }) := by
              refine H.out.set KK.out ⟨hr1, by show D ≤ 1000; omega⟩ (by show 1 ≤ s.steps + 1; omega) (vb := vb) ?_ HBE.out
              have := ((show Blk (w.drewN n) g _ _ from HB.out).set_ 6 (.int .i64 1)).set_ 7 (.int .i64 D)
              simpa using this
            have HRW : Hid (RInts (((w.drewN n).setCell ⟨g, 6, none⟩ (.int .i64 1)).setCell ⟨g, 7, none⟩ (.int .i64 D)) (fun b => g + 1 ≤ b ∧ b < w.heap.size) [.slice Aa at_.length ca] at_) := KK.out.rd RInts.ok HR.out (fun b hb => ⟨hb.2, by omega⟩) (fun _ h => h)
            have HSZ : Hid (w.heap.size ≤ (((w.drewN n).setCell ⟨g, 6, none⟩ (.int .i64 1)).setCell ⟨g, 7, none⟩ (.int .i64 D)).heap.size) := KK.out.size
            go_wp2_with (at_builtin; refine wpList_append_M tyInt RInt.ok RInt.one rfl (.const (.slice none 0 0)) (.tmp 92) rfl (OwnL.nil (base := w.heap.size) (lo := w.heap.size)) rfl rfl (S := fun b => g + 1 ≤ b ∧ b < w.heap.size) (S2 := fun _ => False) HRW.out (fun _ _ h => h) (fun _ h => h.elim) (by simp; omega) (by simp; omega) HSZ.out ?_; intro v' w1 ho1 hk1 ha1; obtain ⟨A', c', rfl, hc', hc2'⟩ := ho1.form; have H2 := Lib.hid (H1.out.keeps0 (hk1.mono (fun _ _ h => (by simp [Value.ownBlock] at h)))); have HK1 := Lib.hid hk1; have HO1 := Lib.hid ho1; clear ho1 hk1 ha1; obtain ⟨vb2, hblk2, hbest2⟩ := H2.out.blk; have d8 := hblk2.cell 8; have e8 := hblk2.frozen 8; simp at d8; have HB2 := Lib.hid hblk2; clear hblk2 hbest2)
            refine bodyPost_end (results_none rfl _ _ _) rfl ?_
            have HFAR : ∀ b, w.heap.size ≤ b → (Value.slice Aa at_.length ca).ownBlock ≠ some b := fun b hb e => by have := H.out.at_.lt e; omega
            have K2 := (Keeps.refl (· = g) w1).setCell (p := ⟨g, 8, none⟩) (fun _ => rfl) (.slice A' ([] ++ at_).length c')
            have KF : Keeps (fun b => g ≤ b) w (w1.setCell ⟨g, 8, none⟩ (.slice A' ([] ++ at_).length c')) := ((KK.out.trans HK1.out (fun _ _ h => (by simp [Value.ownBlock] at h))).trans K2 (fun x _ e => e)).mono (fun x _ e => by omega)
            refine ⟨rfl, ?_, KF⟩
            rw [Q.out]
            refine H2.out.set K2 ⟨hr1, by show D ≤ 1000; omega⟩ (by show 1 ≤ s.steps + 1; omega) (vb := .slice A' ([] ++ at_).length c') ?_ ?_
            · have := HB2.out.set_ 8 (.slice A' ([] ++ at_).length c')
              simpa using this
            · have hsz : w.heap.size ≤ w1.heap.size := Nat.le_trans KK.out.size HK1.out.size
              exact HO1.out.read RInt.ok (by omega) (fun b h1 h2 => ⟨by omega, h2, HFAR b h1⟩) (fun b h1 h2 => ⟨by omega, h2, HFAR b h1⟩)
          · have g3' : decide (D < s.sum) = false := by simp; omega
            by_cases g4 : D = s.sum
            · have Q : Hid (complete exp occ at_ (heldOf ps at_) s = { s with found := s.found + 1 }) := by
                show complete exp occ at_ (heldOf ps at_) s = { s with found := s.found + 1 }
                simp [complete, G1.out, g2, HD.out, g4]
              have g4' : (D == s.sum) = true := by simpa using g4
              have e6 := HB.out.frozen 6
              clear g2 g4
              go_wp2
              refine bodyPost_end (results_none rfl _ _ _) rfl ?_
              have KK := ((Keeps.refl (· = g) w).drewN n).setCell (p := ⟨g, 6, none⟩) (fun _ => rfl) (.int .i64 ((s.found : Int) + 1))
              refine ⟨rfl, ?_, KK.mono (fun x _ e => by omega)⟩
              rw [Q.out]
              refine H.out.set (s' := { s with found := s.found + 1 }) KK hss (by show s.found + 1 ≤ s.steps + 1; omega) (vb := vb) ?_ HBE.out
              have := (show Blk (w.drewN n) g _ _ from HB.out).set_ 6 (.int .i64 ((s.found : Int) + 1))
              simpa using this
            · have Q : Hid (complete exp occ at_ (heldOf ps at_) s = s) := by
                show complete exp occ at_ (heldOf ps at_) s = s
                simp only [complete, G1.out, if_true, HD.out]
                rw [if_neg (by simp [g2]; omega), if_neg g4]
              have g4' : (D == s.sum) = false := by simpa using g4
              have G2 := Lib.hid g2; clear g2
              go_wp2
              refine bodyPost_end (results_none rfl _ _ _) rfl ?_
              refine ⟨rfl, ?_, (Keeps.refl _ _).drewN _⟩
              rw [Q.out]
              exact H.out.keeps0 ((Keeps.refl _ _).drewN _)
      · have g1' : ((N : Int) != (occ.length : Int)) = true := by simp; omega
        have Q : Hid (complete exp occ at_ (heldOf ps at_) s = s) := by show complete exp occ at_ (heldOf ps at_) s = s; rw [complete, if_neg (by rw [HN.out]; exact g1)]
        clear g1
        go_wp2
        refine bodyPost_ret (results_none rfl _ _ _) rfl ?_
        refine ⟨rfl, ?_, (Keeps.refl _ _).drewN _⟩
        rw [Q.out]
        exact H.out.keeps0 ((Keeps.refl _ _).drewN _)





section
variable {w w' : World} {g : Nat} {A : Option Addr} {c : Nat} {ps : List (List Stage)} {A2 : Option Addr} {c2 : Nat} {exp : List Int} {A3 : Option Addr} {c3 : Nat} {occ : List Int} {budget : Nat} {at_ : List Int} {vat : Value} {s : ISt}
theorem SkSt.after {o : Obj} (h : SkSt w g A c ps A2 c2 exp A3 c3 occ budget at_ vat s) (k : Keeps (fun b => vat.ownBlock = some b) (w.alloc o) w') : w'.cell? ⟨g, 5, none⟩ = some vat ∧ w'.frozen? ⟨g, 5, none⟩ = false ∧ Keeps (fun b => g ≤ b) w w' := by
  obtain ⟨vb, h1, h2⟩ := h.blk
  have far : ∀ b, b < g + 1 → ¬ (vat.ownBlock = some b) := fun b hb e => by have := h.at_.lt e; omega
  have k2 : Keeps (fun b => vat.ownBlock = some b) w w' := ((Keeps.refl _ w).alloc o).trans k (fun _ _ h => h)
  have hb := h1.kept k2 (far g (by omega))
  refine ⟨by simpa using hb.cell 5, hb.frozen 5, k2.mono (fun x _ e => ?_)⟩
  have := h.at_.lt e; omega
theorem SkSt.push {o : Obj} {vat' : Value} {x : Int} (h : SkSt w g A c ps A2 c2 exp A3 c3 occ budget at_ vat s) (ho : OwnL 3 1 RInt w' (g + 1) (g + 1) vat' (at_ ++ [x])) (k : Keeps (fun b => vat.ownBlock = some b) (w.alloc o) w')
    (ha : vat'.ownBlock = vat.ownBlock ∨ vat'.ownBlock = some (w.alloc o).heap.size) : SkSt (w'.setCell ⟨g, 5, none⟩ vat') g A c ps A2 c2 exp A3 c3 occ budget (at_ ++ [x]) vat' s := by
  have hg := h.lt
  obtain ⟨vb, h1, h2⟩ := h.blk
  have far : ∀ b, b < g + 1 → ¬ (vat.ownBlock = some b) := fun b hb e => by have := h.at_.lt e; omega
  have k2 : Keeps (fun b => vat.ownBlock = some b) w w' := ((Keeps.refl _ w).alloc o).trans k (fun _ _ h => h)
  have k3 : Keeps (fun b => vat.ownBlock = some b ∨ b = g) w (w'.setCell ⟨g, 5, none⟩ vat') := (k2.mono (fun _ _ h => .inl h)).setCell (p := ⟨g, 5, none⟩) (fun _ => .inr rfl) _
  have kg := (Keeps.refl (· = g) w').setCell (p := ⟨g, 5, none⟩) (fun _ => rfl) vat'
  refine ⟨⟨vb, ?_, ?_⟩, ho.keeps RInt.ok kg (fun b _ e => by omega), ?_, ?_, ?_, h.sums, h.fnd⟩
  · have := (h1.kept k2 (far g (by omega))).set_ 5 vat'; simpa using this
  · refine k3.rd RInts.ok h2 (fun b hb => ⟨hb.2.1, fun e => by rcases e with e | e; exact hb.2.2 e; omega⟩) (fun b hb => ⟨hb.1, Nat.lt_of_lt_of_le hb.2.1 k3.size, fun e => ?_⟩)
    rcases ha with ha | ha
    · exact hb.2.2 (by rw [← ha]; exact e)
    · rw [ha] at e; injection e with e; have := hb.2.1; simp at e; omega
  · exact k3.rd RPaths.ok h.pth (fun b hb => ⟨by omega, fun e => by rcases e with e | e; exact far b (by omega) e; omega⟩) (fun _ h => h)
  · exact k3.rd RInts.ok h.ex (fun b hb => ⟨by omega, fun e => by rcases e with e | e; exact far b (by omega) e; omega⟩) (fun _ h => h)
  · exact k3.rd RInts.ok h.oc (fun b hb => ⟨by omega, fun e => by rcases e with e | e; exact far b (by omega) e; omega⟩) (fun _ h => h)
theorem SkSt.cut {Aa : Addr} {n cc t : Nat} (h : SkSt w g A c ps A2 c2 exp A3 c3 occ budget at_ (.slice (some Aa) n cc) s) (ht : t ≤ at_.length) : SkSt (w.setCell ⟨g, 5, none⟩ (.slice (some Aa) t cc)) g A c ps A2 c2 exp A3 c3 occ budget (at_.take t) (.slice (some Aa) t cc) s := by
  have hg := h.lt
  obtain ⟨vb, h1, h2⟩ := h.blk
  have k := (Keeps.refl (· = g) w).setCell (p := ⟨g, 5, none⟩) (fun _ => rfl) (.slice (some Aa) t cc)
  refine ⟨⟨vb, by have := h1.set_ 5 (.slice (some Aa) t cc); simpa using this, k.rd RInts.ok h2 (fun b hb => ⟨hb.2.1, by omega⟩) (fun b hb => ⟨hb.1, Nat.lt_of_lt_of_le hb.2.1 k.size, hb.2.2⟩)⟩, (h.at_.cut ht (.inl (by simp))).keeps RInt.ok k (fun b _ h => by omega), ?_, ?_, ?_, h.sums, h.fnd⟩
  · exact k.rd RPaths.ok h.pth (fun b hb => ⟨by omega, by omega⟩) (fun _ h => h)
  · exact k.rd RInts.ok h.ex (fun b hb => ⟨by omega, by omega⟩) (fun _ h => h)
  · exact k.rd RInts.ok h.oc (fun b hb => ⟨by omega, by omega⟩) (fun _ h => h)
theorem SkSt.step (h : SkSt w g A c ps A2 c2 exp A3 c3 occ budget at_ vat s) : SkSt (w.setCell ⟨g, 4, none⟩ (.int .i64 ((s.steps : Int) + 1))) g A c ps A2 c2 exp A3 c3 occ budget at_ vat { s with steps := s.steps + 1 } := by
  obtain ⟨vb, h1, h2⟩ := h.blk
  refine h.set ((Keeps.refl (· = g) w).setCell (p := ⟨g, 4, none⟩) (fun _ => rfl) _) h.sums (by have := h.fnd; show s.found ≤ s.steps + 1 + 1; omega) (vb := vb) ?_ h2
  have := h1.set_ 4 (.int .i64 ((s.steps : Int) + 1)); simpa using this
theorem SkSt.some_ {x : Int} {A4 : Option Addr} {n c4 : Nat} (h4 : SkSt w g A c ps A2 c2 exp A3 c3 occ budget (at_ ++ [x]) (.slice A4 n c4) s) : ∃ ab ao, A4 = some ⟨ab, ao, none⟩ := by
  obtain ⟨ess, hl, hrow, _⟩ := h4.at_
  rcases hrow.2 with ⟨_, hn⟩ | ⟨_, _, _, he, _⟩
  · simp at hn
  · injection he with he; exact ⟨_, _, he⟩
end

theorem tries_down {ps : List (List Stage)} {occ : List Int} {budget : Nat} {F : List Int → List Int → ISt → Bool × ISt} {p : List Stage} {at_ : List Int} {x : Int} {xs : List Int} {s s1 : ISt} (hs : s.steps ≠ budget) (h1 : s1 = { s with steps := s.steps + 1 }) (hp : ps[at_.length]? = some p) (h : (x < 0 ∨ (p.length : Int) ≤ x) ∨ (secAt p x ∈ occ ∧ secAt p x ∉ heldOf ps at_)) :
    tries occ budget F p at_ (heldOf ps at_) (x :: xs) s = if (F (at_ ++ [x]) (heldOf ps (at_ ++ [x])) s1).1 = true then tries occ budget F p at_ (heldOf ps at_) xs (F (at_ ++ [x]) (heldOf ps (at_ ++ [x])) s1).2 else F (at_ ++ [x]) (heldOf ps (at_ ++ [x])) s1 := by
  subst h1
  rw [tries_cons, if_neg hs, heldOf_snoc ps at_ p x hp]
  by_cases h2 : x < 0 ∨ (p.length : Int) ≤ x
  · rw [if_pos h2, if_pos h2, List.append_nil]
  · rw [if_neg h2, if_neg h2, if_pos (h.resolve_left h2)]
theorem tries_skip {ps : List (List Stage)} {occ : List Int} {budget : Nat} {F : List Int → List Int → ISt → Bool × ISt} {p : List Stage} {at_ : List Int} {x : Int} {xs : List Int} {s s1 : ISt} (hs : s.steps ≠ budget) (h1 : s1 = { s with steps := s.steps + 1 }) (h2 : ¬ (x < 0 ∨ (p.length : Int) ≤ x)) (h3 : ¬ (secAt p x ∈ occ ∧ secAt p x ∉ heldOf ps at_)) :
    tries occ budget F p at_ (heldOf ps at_) (x :: xs) s = tries occ budget F p at_ (heldOf ps at_) xs s1 := by
  subst h1; rw [tries_cons, if_neg hs, if_neg h2, if_neg h3]

def RInv (w wr : World) (g : Nat) (A : Option Addr) (c : Nat) (ps : List (List Stage)) (A2 : Option Addr) (c2 : Nat) (exp : List Int) (A3 : Option Addr) (c3 : Nat) (occ : List Int) (budget : Nat) (at_ : List Int) (F : List Int → List Int → ISt → Bool × ISt) (p : List Stage) (R : Bool × ISt) (j : Nat) : Prop :=
  ∃ vat s, SkSt wr g A c ps A2 c2 exp A3 c3 occ budget at_ vat s ∧ s.steps ≤ budget ∧ Keeps (fun b => g ≤ b) w wr ∧ R = tries occ budget F p at_ (heldOf ps at_) ((posns p).drop j) s

set_option maxRecDepth 100000 in
set_option maxHeartbeats 2000000 in
theorem rassign_any (g : Nat) (A : Option Addr) (c : Nat) (ps : List (List Stage)) (A2 : Option Addr) (c2 : Nat) (exp : List Int) (A3 : Option Addr) (c3 : Nat) (occ : List Int) (budget : Nat) (hfix : IdFix ps exp occ budget) (hsn : secsNonneg ps) :
    ∀ (rest : List (List Stage)) (w : World) (at_ : List Int) (vat : Value) (s : ISt), ps.drop at_.length = rest → at_.length ≤ ps.length → (∀ x ∈ at_, -1 ≤ x ∧ x ≤ 64) → s.steps ≤ budget → s.found ≤ s.steps →
      SkSt w g A c ps A2 c2 exp A3 c3 occ budget at_ vat s →
      Calls Tryz.prog 27 #[.pointer (some ⟨g, 0, none⟩)] w fun e w' => e = .returned (.bool (search exp occ budget rest at_ (heldOf ps at_) s).1) ∧ Keeps (fun b => g ≤ b) w w' ∧
        ((search exp occ budget rest at_ (heldOf ps at_) s).1 = true → ∃ vat', SkSt w' g A c ps A2 c2 exp A3 c3 occ budget at_ vat' (search exp occ budget rest at_ (heldOf ps at_) s).2) := by
  intro rest
  induction rest with
  | nil =>
    intro w at_ vat s hrest htl hsm hst hfn h
    have ht : at_.length = ps.length := by
      have := congrArg List.length hrest; simp at this; omega
    obtain ⟨vb, hblk, _⟩ := h.blk
    obtain ⟨Aa, ca, rfl, hca, hca2⟩ := h.at_.form
    have c0 := hblk.cell 0
    have c5 := hblk.cell 5
    simp at c0 c5
    have hc := h.pth.caps
    have g1 : ((at_.length : Int) == (ps.length : Int)) = true := by simp; omega
    have HA : Hid (at_.length = exp.length) := by rw [ht, hfix.l]; rfl
    have HF := Lib.hid hfix; clear hfix
    have hl10 : at_.length ≤ 10 := by rw [ht]; have := HF.out.n; omega
    have hb20 := HF.out.b
    have H := Lib.hid h
    have HSM := Lib.hid hsm
    have HSN := Lib.hid hsn
    have Q : Hid (search exp occ budget [] at_ (heldOf ps at_) s = (true, complete exp occ at_ (heldOf ps at_) s)) := by show search exp occ budget [] at_ (heldOf ps at_) s = _; rw [search]
    clear h hsm hblk hrest ht hsn
    go_enter Tryz.func27, Tryz.ntmps27
    go_wp2_with (go_at_call 50; refine (assigned_any w g A c ps A2 c2 exp A3 c3 occ budget at_ _ s H.out ⟨hl10, HSM.out⟩ HF.out.e HA.out htl HSN.out hfn (by omega)).mono ?_; rintro e w1 ⟨rfl, h1, k1⟩)
    go_ret
    rw [Q.out]
    exact ⟨rfl, k1, fun _ => ⟨_, h1⟩⟩
  | cons p rest ih =>
    intro w at_ vat s hrest htl hsm hst hfn h
    have IH := Lib.hid ih; clear ih
    have htp : ps[at_.length]? = some p := by
      have h1 : (ps.drop at_.length)[0]? = some p := by rw [hrest]; rfl
      simpa using h1
    have hrest' : ps.drop (at_.length + 1) = rest := by
      have := drop_cons' htp
      rw [hrest] at this
      injection this with _ this; exact this.symm
    have htl2 := getElem?_lt htp
    have HF := Lib.hid hfix; clear hfix
    have hp64 := HF.out.p p (List.mem_of_getElem? htp)
    have hn10 := HF.out.n
    have hb20 := HF.out.b
    obtain ⟨vb, hblk, _⟩ := h.blk
    obtain ⟨Av, cv, rfl, hcv, hcv2⟩ := h.at_.form
    have c0 := hblk.cell 0
    have c5 := hblk.cell 5
    simp at c0 c5
    have hc := h.pth.caps
    have hlat : at_.length ≤ 10 := by omega
    have g1 : ((at_.length : Int) == (ps.length : Int)) = false := by simp; omega
    have Q : Hid (search exp occ budget (p :: rest) at_ (heldOf ps at_) s = tries occ budget (search exp occ budget rest) p at_ (heldOf ps at_) (posns p) s) := by show search exp occ budget (p :: rest) at_ (heldOf ps at_) s = _; rw [search]
    have hA0 : RInv w w g A c ps A2 c2 exp A3 c3 occ budget at_ (search exp occ budget rest) p (search exp occ budget (p :: rest) at_ (heldOf ps at_) s) 0 := ⟨_, s, h, hst, Keeps.refl _ _, Q.out⟩
    have HT := Lib.hid htp
    have HR := Lib.hid hrest'
    have HSM := Lib.hid hsm
    have HSN := Lib.hid hsn
    have hgw := h.lt
    generalize hRR : search exp occ budget (p :: rest) at_ (heldOf ps at_) s = R at hA0
    have HRR := Lib.hid hRR; clear hRR
    clear h hblk hrest hrest' htp hsm Q hsn
    go_enter Tryz.func27, Tryz.ntmps27
    go_wp2_with fail
    go_loopw [4] (fun i wr => ∃ j : Nat, j ≤ p.length + 2 ∧ i = .int .i64 ((j : Int) - 1) ∧ RInv w wr g A c ps A2 c2 exp A3 c3 occ budget at_ (search exp occ budget rest) p R j) (fun i _ => p.length + 2 - (intOf i + 1).toNat)
    case atStart => exact ⟨0, by omega, by go_num, hA0⟩
    case round =>
      obtain ⟨j, hj, rfl, vat1, s0, h1, hst1, hk1, hi1⟩ := hrel
      clear hA0 c0 c5
      obtain ⟨vb1, hb1, _⟩ := h1.blk
      obtain ⟨Aa, ca, rfl, hca, hca2⟩ := h1.at_.form
      have c0 := hb1.cell 0
      have c3' := hb1.cell 3
      have c4 := hb1.cell 4
      have c5 := hb1.cell 5
      have f4 := hb1.frozen 4
      simp at c0 c3' c4 c5
      obtain ⟨b, o, p', A', c', hAA, hb, hp', k1, hpr⟩ := RSS.at_ h1.pth htl2
      obtain rfl := same_of hp' HT.out
      subst hAA
      have hcp := hpr.caps
      have HPR := Lib.hid hpr; clear hpr hp'
      have hgz := h1.lt
      have H := Lib.hid h1; clear h1 hb1
      have KW0 := Lib.hid hk1; clear hk1
      have HI0 := Lib.hid hi1; clear hi1
      have hbg : b < g := hb
      by_cases hlt : j < p'.length + 2
      · have HI : Hid (R = tries occ budget (search exp occ budget rest) p' at_ (heldOf ps at_) (((j : Int) - 1) :: (posns p').drop (j + 1)) s0) := by rw [← posns_drop p' hlt]; exact HI0.out
        clear HI0
        have H1 := Lib.hid H.out.step
        have K1 : Hid (Keeps (fun b => g ≤ b) w (wr.setCell ⟨g, 4, none⟩ (.int .i64 ((s0.steps : Int) + 1)))) := KW0.out.setCell (p := ⟨g, 4, none⟩) (fun _ => Nat.le_refl _) _
        by_cases hsb : s0.steps = budget
        · have g2 : decide ((s0.steps : Int) + 1 > (budget : Int)) = true := by simp; omega
          have HSB := Lib.hid hsb; clear hsb
          go_wp2
          go_quiet (fail)
          go_wp2
          go_ret
          have hR : R = (false, s0) := by rw [HI.out, tries_cons, if_pos HSB.out]
          subst hR
          exact ⟨rfl, K1.out.drewN _, fun h => (by cases h)⟩
        · have g2 : decide ((s0.steps : Int) + 1 > (budget : Int)) = false := by simp; omega
          have HS1' := Lib.hid hsb; clear hsb
          obtain ⟨s1, hs1⟩ : ∃ s1 : ISt, s1 = { s0 with steps := s0.steps + 1 } := ⟨_, rfl⟩
          rw [← hs1] at H1
          have HS1 : Hid (s1.steps ≤ budget) := by have h := HS1'.out; show s1.steps ≤ budget; rw [hs1]; simp; omega
          have HFN : Hid (s1.found ≤ s1.steps) := by have h := H.out.fnd; show s1.found ≤ s1.steps; rw [hs1]; exact h
          have HS := Lib.hid hs1; clear hs1
          go_wp2
          go_quiet (fail)
          generalize hW0 : World.drewN (World.setCell wr _ _) _ = W0
          have H0 : Hid (SkSt W0 g (some ⟨b, o, none⟩) c ps A2 c2 exp A3 c3 occ budget at_ (.slice Aa at_.length ca) s1) := by subst hW0; exact H1.out.keeps0 ((Keeps.refl _ _).drewN _)
          have KW1 : Hid (Keeps (fun b => g ≤ b) w W0) := by subst hW0; exact K1.out.drewN _
          have k0 : Keeps (· = g) wr W0 := by subst hW0; exact ((Keeps.refl (· = g) wr).setCell (p := ⟨g, 4, none⟩) (fun _ => rfl) _).drewN _
          have k1 : W0.cell? ⟨b, o + at_.length, none⟩ = some (.slice A' p'.length c') := by rw [k0.cell (by show b < _; omega) (by show b ≠ g; omega)]; exact k1
          have HPR0 : Hid (RPath W0 (fun b => b < g) [.slice A' p'.length c'] p') := k0.rd RPath.ok HPR.out (fun b hb => ⟨by omega, by omega⟩) (fun _ h => h)
          clear hW0 c0 c3' c4 c5 f4 k0 H1 K1 HPR
          obtain ⟨vb0, hb0, _⟩ := H0.out.blk
          have c0 := hb0.cell 0
          have c5 := hb0.cell 5
          simp at c0 c5
          have f5 := hb0.frozen 5
          have hgz0 := H0.out.lt
          clear hb0
          by_cases hin : 1 ≤ j ∧ j ≤ p'.length
          · have g3 : decide ((j : Int) - 1 ≥ 0) = true := by simp; omega
            have g4 : decide ((j : Int) - 1 < (p'.length : Int)) = true := by simp; omega
            have HNO : Hid (¬ ((j : Int) - 1 < 0 ∨ (p'.length : Int) ≤ (j : Int) - 1)) := by show ¬ (_ ∨ _); omega
            obtain ⟨b3, o3, st, A3', c3', rfl, hb3, hs3, k3, _⟩ := RPath.at_ HPR0.out (k := j - 1) (by omega)
            have HSEC : Hid (secAt p' ((j : Int) - 1) = st.sec) := by
              show secAt p' ((j : Int) - 1) = st.sec
              unfold secAt
              rw [if_neg (by omega), show ((j : Int) - 1).toNat = j - 1 from by omega, hs3]
            have hsec0 : 0 ≤ st.sec := HSN.out p' (List.mem_of_getElem? HT.out) st (List.mem_of_getElem? hs3)
            clear hs3
            have hb3g : b3 < g := hb3
            have HFR := Lib.hid (free_any W0 g _ c ps A2 c2 exp A3 c3 occ budget at_ _ s1 H0.out (by omega) HSN.out st.sec hsec0)
            by_cases hfree : st.sec ∈ occ ∧ st.sec ∉ heldOf ps at_
            · have gd : decide (st.sec ∈ occ ∧ st.sec ∉ heldOf ps at_) = true := by simpa using hfree
              rw [gd] at HFR
              have HDN : Hid (((j : Int) - 1 < 0 ∨ (p'.length : Int) ≤ (j : Int) - 1) ∨ (secAt p' ((j : Int) - 1) ∈ occ ∧ secAt p' ((j : Int) - 1) ∉ heldOf ps at_)) := by rw [HSEC.out]; exact .inr hfree
              clear hfree gd
              -- REST: H7 : SkSt W7 .. s1, KW7 : Keeps w W7, HDN
              have HDOWN : Hid (R = if (search exp occ budget rest (at_ ++ [(j : Int) - 1]) (heldOf ps (at_ ++ [(j : Int) - 1])) s1).1 = true then tries occ budget (search exp occ budget rest) p' at_ (heldOf ps at_) ((posns p').drop (j + 1)) (search exp occ budget rest (at_ ++ [(j : Int) - 1]) (heldOf ps (at_ ++ [(j : Int) - 1])) s1).2 else search exp occ budget rest (at_ ++ [(j : Int) - 1]) (heldOf ps (at_ ++ [(j : Int) - 1])) s1) := by
                rw [HI.out]; exact tries_down HS1'.out HS.out HT.out HDN.out
              go_wp2_with (first | (go_at_call 51; refine HFR.out.mono ?_; rintro e W7 ⟨rfl, n7, hw7⟩; have H7 : Hid (SkSt W7 g (some ⟨b, o, none⟩) c ps A2 c2 exp A3 c3 occ budget at_ (.slice Aa at_.length ca) s1) := (by rw [hw7]; exact H0.out.keeps0 ((Keeps.refl _ _).drewN _)); have KW7 : Hid (Keeps (fun b => g ≤ b) w W7) := (by rw [hw7]; exact KW1.out.drewN _); clear hw7; obtain ⟨vb7, hb7, _⟩ := H7.out.blk; have d5 := hb7.cell 5; have e5 := hb7.frozen 5; simp at d5; have hz7 := H7.out.lt; clear hb7 k1 c0 c5 f5) | (at_builtin; refine wpList_append_L tyInt RInt.ok rfl (.tmp 81) (.tmp 83) rfl (H7.out.at_.alloc RInt.ok _) rfl _ [.int .i64 ((j : Int) - 1)] rfl (Blk.new' _ _ _ (by simp)) rfl ((j : Int) - 1) (S := fun _ => False) rfl (fun _ h => h.elim) (by simp [Value.oneCell']) (by omega) (by omega) (by simp; omega) ?_; intro v2 w2 HO2 HK2 HA2; obtain ⟨A6, c6x, hv6, _, _⟩ := HO2.form; rw [List.length_append, List.length_singleton] at hv6; subst hv6; have AF := H7.out.after HK2; have E6 := AF.1; have F6 := AF.2.1; have HKK := Lib.hid AF.2.2; clear AF; have HRP := Lib.hid (H7.out.push HO2 HK2 HA2); clear HO2 HK2 HA2))
              generalize hW3 : World.setCell w2 _ _ = W3
              have K3 : Hid (Keeps (fun b => g ≤ b) W7 W3) := by subst hW3; exact HKK.out.setCell (p := ⟨g, 5, none⟩) (fun _ => Nat.le_refl _) _
              have HRP3 : Hid (SkSt W3 g (some ⟨b, o, none⟩) c ps A2 c2 exp A3 c3 occ budget (at_ ++ [(j : Int) - 1]) (.slice A6 (at_.length + 1) c6x) s1) := by subst hW3; exact HRP.out
              clear hW3 E6 F6 HRP HKK
              refine (IH.out W3 (at_ ++ [(j : Int) - 1]) (.slice A6 (at_.length + 1) c6x) s1 (by rw [List.length_append, List.length_singleton]; exact HR.out) (by simp; omega) (fun x hx => by
                rcases List.mem_append.1 hx with hx | hx
                · exact HSM.out x hx
                · simp at hx; subst hx; omega) (by have := HS1.out; omega) HFN.out HRP3.out).mono ?_
              rintro e w4 ⟨rfl, k4, h4⟩
              generalize hR4 : search exp occ budget rest (at_ ++ [(j : Int) - 1]) (heldOf ps (at_ ++ [(j : Int) - 1])) s1 = R4 at h4
              have HST4 : Hid (R4.2.steps ≤ budget) := by
                have := search_steps exp occ budget rest (at_ ++ [(j : Int) - 1]) (heldOf ps (at_ ++ [(j : Int) - 1])) s1 (by have := HS1.out; omega)
                rw [hR4] at this; exact this
              have HD2 : Hid (R = if R4.1 = true then tries occ budget (search exp occ budget rest) p' at_ (heldOf ps at_) ((posns p').drop (j + 1)) R4.2 else R4) := by
                have := HDOWN.out; rw [hR4] at this; exact this
              clear hR4 HDOWN
              obtain ⟨ok4, s4⟩ := R4
              have K4 : Hid (Keeps (fun b => g ≤ b) w w4) := (KW7.out.trans K3.out (fun _ _ h => h)).trans k4 (fun _ _ h => h)
              clear k4
              cases ok4 with
              | false =>
                clear h4
                go_wp2
                go_ret
                have hR : R = (false, s4) := HD2.out
                subst hR
                exact ⟨rfl, K4.out, fun h => (by cases h)⟩
              | true =>
                obtain ⟨vat4, h4⟩ := h4 rfl
                obtain ⟨A4, c4, rfl, hc4, hc42⟩ := h4.at_.form
                obtain ⟨ab, ao, rfl⟩ := h4.some_
                have hl4 : (at_ ++ [(j : Int) - 1]).length = at_.length + 1 := by simp
                rw [hl4] at hc4 h4
                have H4 := Lib.hid h4; clear h4 hl4
                obtain ⟨vb4, hb4, _⟩ := H4.out.blk
                have m5 := hb4.cell 5
                have n5 := hb4.frozen 5
                simp at m5
                clear hb4
                have HCUT : Hid (SkSt (w4.setCell ⟨g, 5, none⟩ (.slice (some ⟨ab, ao, none⟩) at_.length c4)) g (some ⟨b, o, none⟩) c ps A2 c2 exp A3 c3 occ budget at_ (.slice (some ⟨ab, ao, none⟩) at_.length c4) s4) := by
                  have h := H4.out.cut (t := at_.length) (by simp)
                  have e : (at_ ++ [(j : Int) - 1]).take at_.length = at_ := by simp
                  rw [e] at h; exact h
                have hz4 := H4.out.lt
                have KC := Lib.hid ((K4.out.setCell (p := ⟨g, 5, none⟩) (fun _ => Nat.le_refl _) (.slice (some ⟨ab, ao, none⟩) at_.length c4)))
                go_wp2
                go_roundw
                case rel => exact ⟨j + 1, by omega, by go_num, _, s4, HCUT.out, HST4.out, KC.out, HD2.out⟩
                case measure => simp [intOf]; omega
            · have gd : decide (st.sec ∈ occ ∧ st.sec ∉ heldOf ps at_) = false := by simpa using hfree
              rw [gd] at HFR
              have HNF : Hid (¬ (secAt p' ((j : Int) - 1) ∈ occ ∧ secAt p' ((j : Int) - 1) ∉ heldOf ps at_)) := by rw [HSEC.out]; exact hfree
              clear hfree gd
              go_wp2_with (go_at_call 51; refine HFR.out.mono ?_; rintro e w7 ⟨rfl, n7, rfl⟩)
              go_roundw
              case rel => exact ⟨j + 1, by omega, by go_num, _, s1, H0.out.keeps0 ((Keeps.refl _ _).drewN n7), HS1.out, KW1.out.drewN n7, by rw [HI.out]; exact tries_skip HS1'.out HS.out HNO.out HNF.out⟩
              case measure => simp [intOf]; omega
          · have HDN : Hid (((j : Int) - 1 < 0 ∨ (p'.length : Int) ≤ (j : Int) - 1) ∨ (secAt p' ((j : Int) - 1) ∈ occ ∧ secAt p' ((j : Int) - 1) ∉ heldOf ps at_)) := .inl (by omega)
            obtain ⟨W7, hW7⟩ : ∃ W7, W7 = W0 := ⟨_, rfl⟩
            subst hW7
            have H7 := H0
            have KW7 := KW1
            by_cases hj0 : j = 0
            · have g3 : decide ((j : Int) - 1 ≥ 0) = false := by simp; omega
              have hj1 : (j : Int) < 1 := by omega
              clear hj0
              -- REST: H7 : SkSt W7 .. s1, KW7 : Keeps w W7, HDN
              have HDOWN : Hid (R = if (search exp occ budget rest (at_ ++ [(j : Int) - 1]) (heldOf ps (at_ ++ [(j : Int) - 1])) s1).1 = true then tries occ budget (search exp occ budget rest) p' at_ (heldOf ps at_) ((posns p').drop (j + 1)) (search exp occ budget rest (at_ ++ [(j : Int) - 1]) (heldOf ps (at_ ++ [(j : Int) - 1])) s1).2 else search exp occ budget rest (at_ ++ [(j : Int) - 1]) (heldOf ps (at_ ++ [(j : Int) - 1])) s1) := by
                rw [HI.out]; exact tries_down HS1'.out HS.out HT.out HDN.out
              go_wp2_with (at_builtin; refine wpList_append_L tyInt RInt.ok rfl (.tmp 81) (.tmp 83) rfl (H7.out.at_.alloc RInt.ok _) rfl _ [.int .i64 ((j : Int) - 1)] rfl (Blk.new' _ _ _ (by simp)) rfl ((j : Int) - 1) (S := fun _ => False) rfl (fun _ h => h.elim) (by simp [Value.oneCell']) (by omega) (by omega) (by simp; omega) ?_; intro v2 w2 HO2 HK2 HA2; obtain ⟨A6, c6x, hv6, _, _⟩ := HO2.form; rw [List.length_append, List.length_singleton] at hv6; subst hv6; have AF := H7.out.after HK2; have E6 := AF.1; have F6 := AF.2.1; have HKK := Lib.hid AF.2.2; clear AF; have HRP := Lib.hid (H7.out.push HO2 HK2 HA2); clear HO2 HK2 HA2)
              generalize hW3 : World.setCell w2 _ _ = W3
              have K3 : Hid (Keeps (fun b => g ≤ b) W7 W3) := by subst hW3; exact HKK.out.setCell (p := ⟨g, 5, none⟩) (fun _ => Nat.le_refl _) _
              have HRP3 : Hid (SkSt W3 g (some ⟨b, o, none⟩) c ps A2 c2 exp A3 c3 occ budget (at_ ++ [(j : Int) - 1]) (.slice A6 (at_.length + 1) c6x) s1) := by subst hW3; exact HRP.out
              clear hW3 E6 F6 HRP HKK
              refine (IH.out W3 (at_ ++ [(j : Int) - 1]) (.slice A6 (at_.length + 1) c6x) s1 (by rw [List.length_append, List.length_singleton]; exact HR.out) (by simp; omega) (fun x hx => by
                rcases List.mem_append.1 hx with hx | hx
                · exact HSM.out x hx
                · simp at hx; subst hx; omega) (by have := HS1.out; omega) HFN.out HRP3.out).mono ?_
              rintro e w4 ⟨rfl, k4, h4⟩
              generalize hR4 : search exp occ budget rest (at_ ++ [(j : Int) - 1]) (heldOf ps (at_ ++ [(j : Int) - 1])) s1 = R4 at h4
              have HST4 : Hid (R4.2.steps ≤ budget) := by
                have := search_steps exp occ budget rest (at_ ++ [(j : Int) - 1]) (heldOf ps (at_ ++ [(j : Int) - 1])) s1 (by have := HS1.out; omega)
                rw [hR4] at this; exact this
              have HD2 : Hid (R = if R4.1 = true then tries occ budget (search exp occ budget rest) p' at_ (heldOf ps at_) ((posns p').drop (j + 1)) R4.2 else R4) := by
                have := HDOWN.out; rw [hR4] at this; exact this
              clear hR4 HDOWN
              obtain ⟨ok4, s4⟩ := R4
              have K4 : Hid (Keeps (fun b => g ≤ b) w w4) := (KW7.out.trans K3.out (fun _ _ h => h)).trans k4 (fun _ _ h => h)
              clear k4
              cases ok4 with
              | false =>
                clear h4
                go_wp2
                go_ret
                have hR : R = (false, s4) := HD2.out
                subst hR
                exact ⟨rfl, K4.out, fun h => (by cases h)⟩
              | true =>
                obtain ⟨vat4, h4⟩ := h4 rfl
                obtain ⟨A4, c4, rfl, hc4, hc42⟩ := h4.at_.form
                obtain ⟨ab, ao, rfl⟩ := h4.some_
                have hl4 : (at_ ++ [(j : Int) - 1]).length = at_.length + 1 := by simp
                rw [hl4] at hc4 h4
                have H4 := Lib.hid h4; clear h4 hl4
                obtain ⟨vb4, hb4, _⟩ := H4.out.blk
                have m5 := hb4.cell 5
                have n5 := hb4.frozen 5
                simp at m5
                clear hb4
                have HCUT : Hid (SkSt (w4.setCell ⟨g, 5, none⟩ (.slice (some ⟨ab, ao, none⟩) at_.length c4)) g (some ⟨b, o, none⟩) c ps A2 c2 exp A3 c3 occ budget at_ (.slice (some ⟨ab, ao, none⟩) at_.length c4) s4) := by
                  have h := H4.out.cut (t := at_.length) (by simp)
                  have e : (at_ ++ [(j : Int) - 1]).take at_.length = at_ := by simp
                  rw [e] at h; exact h
                have hz4 := H4.out.lt
                have KC := Lib.hid ((K4.out.setCell (p := ⟨g, 5, none⟩) (fun _ => Nat.le_refl _) (.slice (some ⟨ab, ao, none⟩) at_.length c4)))
                go_wp2
                go_roundw
                case rel => exact ⟨j + 1, by omega, by go_num, _, s4, HCUT.out, HST4.out, KC.out, HD2.out⟩
                case measure => simp [intOf]; omega
            · have g3 : decide ((j : Int) - 1 ≥ 0) = true := by simp; omega
              have g4 : decide ((j : Int) - 1 < (p'.length : Int)) = false := by simp; omega
              -- REST: H7 : SkSt W7 .. s1, KW7 : Keeps w W7, HDN
              have HDOWN : Hid (R = if (search exp occ budget rest (at_ ++ [(j : Int) - 1]) (heldOf ps (at_ ++ [(j : Int) - 1])) s1).1 = true then tries occ budget (search exp occ budget rest) p' at_ (heldOf ps at_) ((posns p').drop (j + 1)) (search exp occ budget rest (at_ ++ [(j : Int) - 1]) (heldOf ps (at_ ++ [(j : Int) - 1])) s1).2 else search exp occ budget rest (at_ ++ [(j : Int) - 1]) (heldOf ps (at_ ++ [(j : Int) - 1])) s1) := by
                rw [HI.out]; exact tries_down HS1'.out HS.out HT.out HDN.out
              go_wp2_with (at_builtin; refine wpList_append_L tyInt RInt.ok rfl (.tmp 81) (.tmp 83) rfl (H7.out.at_.alloc RInt.ok _) rfl _ [.int .i64 ((j : Int) - 1)] rfl (Blk.new' _ _ _ (by simp)) rfl ((j : Int) - 1) (S := fun _ => False) rfl (fun _ h => h.elim) (by simp [Value.oneCell']) (by omega) (by omega) (by simp; omega) ?_; intro v2 w2 HO2 HK2 HA2; obtain ⟨A6, c6x, hv6, _, _⟩ := HO2.form; rw [List.length_append, List.length_singleton] at hv6; subst hv6; have AF := H7.out.after HK2; have E6 := AF.1; have F6 := AF.2.1; have HKK := Lib.hid AF.2.2; clear AF; have HRP := Lib.hid (H7.out.push HO2 HK2 HA2); clear HO2 HK2 HA2)
              generalize hW3 : World.setCell w2 _ _ = W3
              have K3 : Hid (Keeps (fun b => g ≤ b) W7 W3) := by subst hW3; exact HKK.out.setCell (p := ⟨g, 5, none⟩) (fun _ => Nat.le_refl _) _
              have HRP3 : Hid (SkSt W3 g (some ⟨b, o, none⟩) c ps A2 c2 exp A3 c3 occ budget (at_ ++ [(j : Int) - 1]) (.slice A6 (at_.length + 1) c6x) s1) := by subst hW3; exact HRP.out
              clear hW3 E6 F6 HRP HKK
              refine (IH.out W3 (at_ ++ [(j : Int) - 1]) (.slice A6 (at_.length + 1) c6x) s1 (by rw [List.length_append, List.length_singleton]; exact HR.out) (by simp; omega) (fun x hx => by
                rcases List.mem_append.1 hx with hx | hx
                · exact HSM.out x hx
                · simp at hx; subst hx; omega) (by have := HS1.out; omega) HFN.out HRP3.out).mono ?_
              rintro e w4 ⟨rfl, k4, h4⟩
              generalize hR4 : search exp occ budget rest (at_ ++ [(j : Int) - 1]) (heldOf ps (at_ ++ [(j : Int) - 1])) s1 = R4 at h4
              have HST4 : Hid (R4.2.steps ≤ budget) := by
                have := search_steps exp occ budget rest (at_ ++ [(j : Int) - 1]) (heldOf ps (at_ ++ [(j : Int) - 1])) s1 (by have := HS1.out; omega)
                rw [hR4] at this; exact this
              have HD2 : Hid (R = if R4.1 = true then tries occ budget (search exp occ budget rest) p' at_ (heldOf ps at_) ((posns p').drop (j + 1)) R4.2 else R4) := by
                have := HDOWN.out; rw [hR4] at this; exact this
              clear hR4 HDOWN
              obtain ⟨ok4, s4⟩ := R4
              have K4 : Hid (Keeps (fun b => g ≤ b) w w4) := (KW7.out.trans K3.out (fun _ _ h => h)).trans k4 (fun _ _ h => h)
              clear k4
              cases ok4 with
              | false =>
                clear h4
                go_wp2
                go_ret
                have hR : R = (false, s4) := HD2.out
                subst hR
                exact ⟨rfl, K4.out, fun h => (by cases h)⟩
              | true =>
                obtain ⟨vat4, h4⟩ := h4 rfl
                obtain ⟨A4, c4, rfl, hc4, hc42⟩ := h4.at_.form
                obtain ⟨ab, ao, rfl⟩ := h4.some_
                have hl4 : (at_ ++ [(j : Int) - 1]).length = at_.length + 1 := by simp
                rw [hl4] at hc4 h4
                have H4 := Lib.hid h4; clear h4 hl4
                obtain ⟨vb4, hb4, _⟩ := H4.out.blk
                have m5 := hb4.cell 5
                have n5 := hb4.frozen 5
                simp at m5
                clear hb4
                have HCUT : Hid (SkSt (w4.setCell ⟨g, 5, none⟩ (.slice (some ⟨ab, ao, none⟩) at_.length c4)) g (some ⟨b, o, none⟩) c ps A2 c2 exp A3 c3 occ budget at_ (.slice (some ⟨ab, ao, none⟩) at_.length c4) s4) := by
                  have h := H4.out.cut (t := at_.length) (by simp)
                  have e : (at_ ++ [(j : Int) - 1]).take at_.length = at_ := by simp
                  rw [e] at h; exact h
                have hz4 := H4.out.lt
                have KC := Lib.hid ((K4.out.setCell (p := ⟨g, 5, none⟩) (fun _ => Nat.le_refl _) (.slice (some ⟨ab, ao, none⟩) at_.length c4)))
                go_wp2
                go_roundw
                case rel => exact ⟨j + 1, by omega, by go_num, _, s4, HCUT.out, HST4.out, KC.out, HD2.out⟩
                case measure => simp [intOf]; omega
      · obtain rfl : j = p'.length + 2 := by omega
        have hR : Hid (R = (true, s0)) := by rw [HI0.out, posns_end]; rfl
        go_wp2
        go_ret
        have hR' := hR.out
        subst hR'
        exact ⟨rfl, KW0.out, fun _ => ⟨_, H.out⟩⟩





theorem stepsFrom_ok (p : List Stage) : ∀ (l : List Stage) (k : Nat), stepsFrom p k l = true → ∀ s ∈ l, stageOk s = true
  | [], _, _ => by simp
  | x :: l, k, h => by
    simp only [stepsFrom, Bool.and_eq_true] at h
    intro s hs
    rcases List.mem_cons.1 hs with rfl | hs
    · have := h.1; simp only [stepOk, Bool.and_eq_true] at this; exact this.1
    · exact stepsFrom_ok p l (k + 1) h.2 s hs
theorem valid_secs {ps : List (List Stage)} (h : valid ps = true) : secsNonneg ps := by
  intro p hp s hs
  simp only [valid, Bool.and_eq_true, decide_eq_true_eq, List.all_eq_true] at h
  have := h.1.2 p hp
  simp only [pathOk, Bool.and_eq_true, decide_eq_true_eq] at this
  have := stepsFrom_ok p p 0 this.2 s hs
  simp only [stageOk, isRes, Bool.and_eq_true, decide_eq_true_eq] at this
  omega

set_option maxRecDepth 100000 in
set_option maxHeartbeats 1000000 in
theorem RefIdentify_any (ps : List (List Stage)) (exp occ : List Int) (budget : Int) (A A2 A3 : Option Addr) (c c2 c3 : Nat) (w : World) (h : RPaths w (Old w) [.slice A ps.length c] ps) (h2 : RInts w (Old w) [.slice A2 exp.length c2] exp) (h3 : RInts w (Old w) [.slice A3 occ.length c3] occ) :
    Calls Tryz.prog 8 #[.slice A ps.length c, .slice A2 exp.length c2, .slice A3 occ.length c3, .int .i64 budget] w fun e w' => ∃ v, e = .returned (.tuple #[v, .int .i64 (identify ps exp occ budget).2.1, .int .i64 (identify ps exp occ budget).2.2]) ∧ RInts w' (Fresh w w') [v] (identify ps exp occ budget).1 ∧ KeepsAll w w' := by
  have hc := h.caps
  have hc2 := h2.caps
  have hc3 := h3.caps
  have H := Lib.hid h; clear h
  have H2 := Lib.hid h2; clear h2
  have H3 := Lib.hid h3; clear h3
  by_cases g1 : valid ps = true
  · go_enter Tryz.func8, Tryz.ntmps8
    go_wp2_with fail
    refine (RefValid_any ps A c w H.out).mono ?_
    rintro e w1 ⟨rfl, k1⟩
    have H1 := Lib.hid (k1.rd RPaths.ok H.out (fun b hb => ⟨hb, by simp⟩) (fun _ h => h))
    have H21 := Lib.hid (k1.rd RInts.ok H2.out (fun b hb => ⟨hb, by simp⟩) (fun _ h => h))
    have H31 := Lib.hid (k1.rd RInts.ok H3.out (fun b hb => ⟨hb, by simp⟩) (fun _ h => h))
    have K1 := Lib.hid k1; clear k1
    by_cases g2 : good ps exp = true
    · go_wp2_with (go_at_call 26; refine (rGood_any ps exp A A2 c c2 _ (Old w) (Old w) H1.out H21.out).mono ?_; rintro e w2 ⟨rfl, rfl⟩)
      go_loopw [11] (fun i wr => ∃ k n : Nat, (k ≤ occ.length ∨ k = 1) ∧ 1 ≤ k ∧ i = .int .i64 k ∧ AscInv occ k ∧ wr = w1.drewN n) (fun i _ => occ.length - (intOf i).toNat)
      case atStart => exact ⟨1, 0, .inr rfl, Nat.le_refl _, rfl, rfl, rfl⟩
      case round =>
        obtain ⟨k, n, hk, hk0, rfl, hasc, rfl⟩ := hrel
        by_cases hlt : k < occ.length
        · obtain ⟨b, o, x, rfl, _, hx, k1⟩ := H31.out.at_ hlt
          obtain ⟨b', o', y, hbo, _, hy, k2⟩ := H31.out.at_ (k := k - 1) (by omega)
          injection hbo with hbo; injection hbo with hbo1 hbo2; subst hbo1 hbo2
          clear hk
          by_cases hxy : x ≤ y
          · have Q : Hid (identify ps exp occ budget = ([], 0, 1)) := by show identify ps exp occ budget = _; simp [identify, g1, g2, hasc.stop hk0 hy hx hxy]
            clear hx hy
            go_wp2
            go_quiet (fail)
            go_wp2
            go_ret3
            rw [Q.out]
            exact ⟨_, rfl, RSlice.mkNil, (K1.out.drewN _).drewN _⟩
          · have Q := Lib.hid (hasc.step hk0 hy hx (by omega))
            clear hx hy
            go_wp2
            go_quiet (fail)
            go_wp2
            go_roundw
            case rel => exact ⟨k + 1, _, .inl (by omega), by omega, by go_num, Q.out, rfl⟩
            case measure => simp [intOf]; omega
        · have HASC : Hid (ascend occ = true) := by
            by_cases he : k = occ.length
            · subst he; exact hasc.done
            · have : occ.length = 0 := by omega
              have : occ = [] := List.length_eq_zero_iff.1 this
              subst this; rfl
          clear hasc hk
          have HK0 : Hid (KeepsAll w (w1.drewN n)) := K1.out.drewN n
          by_cases g3 : budget < 1 ∨ 1048576 < budget
          · have Q : Hid (identify ps exp occ budget = ([], 0, 4)) := by show identify ps exp occ budget = _; simp [identify, g1, g2, HASC.out, g3]
            rcases g3 with g3 | g3
            · go_wp2
              go_ret3
              rw [Q.out]
              exact ⟨_, rfl, RSlice.mkNil, HK0.out⟩
            · have g3' : decide (budget < 1) = false := by simp; omega
              go_wp2
              go_ret3
              rw [Q.out]
              exact ⟨_, rfl, RSlice.mkNil, HK0.out⟩
          · obtain ⟨bn, rfl⟩ := Int.eq_ofNat_of_zero_le (by omega : 0 ≤ budget)
            have g3a : decide ((bn : Int) < 1) = false := by simp; omega
            have g3b : bn ≤ 1048576 := by omega
            have g3c : decide ((1048576 : Int) < (bn : Int)) = false := by simp; omega
            have Q : Hid (identify ps exp occ bn = match search exp occ bn ps [] [] ⟨0, 0, 0, []⟩ with
              | (false, _) => ([], 0, 15)
              | (true, s) => if s.found = 0 then ([], s.steps, 6) else if 1 < s.found then ([], s.steps, 13) else (s.best, s.steps, 0)) := by
              show identify ps exp occ bn = _
              simp only [identify, g1, g2, HASC.out, g3]
              simp
              rfl
            have hzk := K1.out.size
            clear g3
            have hv := valid_len g1
            have hgs := good_small g1 g2
            have FX : Hid (IdFix ps exp occ bn) := ⟨by omega, hv.1, fun p hp => (hv.2 p hp).2, hgs.1, hgs.2, g3b⟩
            have HSN : Hid (secsNonneg ps) := valid_secs g1
            clear hv hgs
            go_wp2_with fail
            generalize hW2 : World.alloc (World.drewN w1 n) _ = W2
            have KK : Hid (KeepsAll w1 W2) := by subst hW2; exact ((Keeps.refl _ _).drewN _).alloc _
            have ST : Hid (SkSt W2 w1.heap.size A c ps A2 c2 exp A3 c3 occ bn [] (.slice none 0 0) ⟨0, 0, 0, []⟩) := by
              refine ⟨⟨.slice none 0 0, by subst hW2; exact Blk.new' _ _ _ rfl, RSlice.mkNil⟩, OwnL.nil, ?_, ?_, ?_, by simp, by simp⟩
              · exact KK.out.rd RPaths.ok H1.out (fun b hb => by have : b < w.heap.size := hb; exact ⟨by omega, by simp⟩) (fun b hb => by have : b < w.heap.size := hb; show b < _; omega)
              · exact KK.out.rd RInts.ok H21.out (fun b hb => by have : b < w.heap.size := hb; exact ⟨by omega, by simp⟩) (fun b hb => by have : b < w.heap.size := hb; show b < _; omega)
              · exact KK.out.rd RInts.ok H31.out (fun b hb => by have : b < w.heap.size := hb; exact ⟨by omega, by simp⟩) (fun b hb => by have : b < w.heap.size := hb; show b < _; omega)
            clear hW2
            have HSE : Hid (heldOf ps [] = []) := by show heldOf ps [] = []; cases ps <;> rfl
            refine (rassign_any w1.heap.size A c ps A2 c2 exp A3 c3 occ bn FX.out HSN.out ps W2 [] (.slice none 0 0) ⟨0, 0, 0, []⟩ (by simp) (by simp) (by simp) (by simp) (by simp) ST.out).mono ?_
            rintro e w4 ⟨rfl, k4, h4⟩
            rw [HSE.out] at h4 ⊢
            generalize hR4 : search exp occ bn ps [] [] ⟨0, 0, 0, []⟩ = R4 at h4
            rw [hR4] at Q
            clear hR4
            obtain ⟨ok4, s4⟩ := R4
            have KF : Hid (KeepsAll w w4) := (K1.out.trans KK.out (fun _ _ h => h)).trans k4 (fun x hx e => by omega)
            clear k4
            cases ok4 with
            | false =>
              clear h4
              go_wp2
              go_ret3
              rw [Q.out]
              exact ⟨_, rfl, RSlice.mkNil, KF.out⟩
            | true =>
              obtain ⟨vat4, h4⟩ := h4 rfl
              obtain ⟨vb4, hb4, hbest4⟩ := h4.blk
              have m4 := hb4.cell 4
              have m6 := hb4.cell 6
              have m8 := hb4.cell 8
              simp at m4 m6 m8
              simp only [] at Q
              have hbs : ∃ Ab cb, vb4 = .slice Ab s4.best.length cb := by obtain ⟨Ab, cb, he, _⟩ := hbest4; injection he with he _; exact ⟨Ab, cb, he⟩
              obtain ⟨Ab, cb, rfl⟩ := hbs
              have HB4 := Lib.hid hbest4
              clear hb4 hbest4 h4
              by_cases g5 : s4.found = 0
              · have Q2 : Hid (identify ps exp occ bn = ([], (s4.steps : Int), 6)) := by rw [Q.out]; simp only [g5]; rfl
                have g5' : ((s4.found : Int) == 0) = true := by simp; omega
                clear Q g5
                go_wp2
                go_quiet (fail)
                go_wp2
                go_ret3
                rw [Q2.out]
                exact ⟨_, rfl, RSlice.mkNil, KF.out.drewN _⟩
              · have g5' : ((s4.found : Int) == 0) = false := by simp; omega
                by_cases g6 : 1 < s4.found
                · have Q2 : Hid (identify ps exp occ bn = ([], (s4.steps : Int), 13)) := by
                    rw [Q.out]
                    rw [if_neg g5, if_pos (by omega)]; rfl
                  clear Q g5
                  go_wp2
                  go_quiet (fail)
                  go_wp2
                  go_ret3
                  rw [Q2.out]
                  exact ⟨_, rfl, RSlice.mkNil, KF.out.drewN _⟩
                · have g6' : decide ((s4.found : Int) > 1) = false := by simp; omega
                  have Q2 : Hid (identify ps exp occ bn = (s4.best, (s4.steps : Int), 0)) := by
                    rw [Q.out]
                    rw [if_neg g5, if_neg g6]; rfl
                  clear Q g5
                  go_wp2
                  go_quiet (fail)
                  go_wp2
                  go_ret3
                  rw [Q2.out]
                  exact ⟨_, rfl, RInts.ok.mono HB4.out (fun b hb => ⟨by have := hb.1; omega, hb.2.1⟩) (fun _ _ => rfl), KF.out.drewN _⟩
    · have g2' : good ps exp = false := by simpa using g2
      have Q : Hid (identify ps exp occ budget = ([], 0, 1)) := by show identify ps exp occ budget = _; simp [identify, g2']
      go_wp2_with (go_at_call 26; refine (rGood_any ps exp A A2 c c2 _ (Old w) (Old w) H1.out H21.out).mono ?_; rintro e w2 ⟨rfl, rfl⟩)
      go_ret3
      rw [Q.out]
      exact ⟨_, rfl, RSlice.mkNil, K1.out⟩
  · have g1' : valid ps = false := by simpa using g1
    have Q : Hid (identify ps exp occ budget = ([], 0, 1)) := by show identify ps exp occ budget = _; simp [identify, g1']
    go_enter Tryz.func8, Tryz.ntmps8
    go_wp2_with (go_at_call 25; refine (RefValid_any ps A c w H.out).mono ?_; rintro e w1 ⟨rfl, k1⟩)
    go_ret3
    rw [Q.out]
    exact ⟨_, rfl, RSlice.mkNil, k1⟩





def secList (ps : List (List Stage)) (at_ : List Int) : List Int := List.zipWith secAt ps at_
def secsTo (ps : List (List Stage)) (at_ : List Int) : Nat → List Int
  | 0 => []
  | k + 1 => secsTo ps at_ k ++ (if (k : Int) ∈ secList ps at_ then [(k : Int)] else [])
theorem secsTo_len (ps : List (List Stage)) (at_ : List Int) : ∀ k, (secsTo ps at_ k).length ≤ k
  | 0 => by simp [secsTo]
  | k + 1 => by have := secsTo_len ps at_ k; simp only [secsTo, List.length_append]; split <;> simp <;> omega
theorem secList_at {ps : List (List Stage)} {at_ : List Int} {t : Nat} {p : List Stage} {a : Int} (hp : ps[t]? = some p) (ha : at_[t]? = some a) : (secList ps at_)[t]? = some (secAt p a) := by
  simp [secList, List.getElem?_zipWith, hp, ha]







def checkState (ps : List (List Stage)) (at_ : List Int) : Int := if (valid ps && good ps at_) = false then 1 else if (heldOf ps at_).Nodup then 0 else 17

theorem mem_heldOf : ∀ {ps : List (List Stage)} (_ : secsNonneg ps) (l : List Int) (x : Int), x ∈ heldOf ps l ↔ x ∈ secList ps l ∧ 0 ≤ x
  | [], _, l, x => by simp [heldOf, secList]
  | p :: ps, _, [], x => by simp [heldOf, secList]
  | p :: ps, h, a :: l, x => by
    have ih := mem_heldOf (ps := ps) (fun q hq => h q (by simp [hq])) l x
    have hn := secAt_neg (h p (by simp)) a
    simp only [heldOf, secList, List.zipWith_cons_cons, List.mem_append, List.mem_cons] at *
    rw [ih]
    rcases hn with ⟨h1, h2⟩ | ⟨h1, h2⟩
    · rw [if_pos h1, h2]; simp; omega
    · rw [if_neg h1]; simp
      constructor
      · rintro (rfl | h)
        · exact ⟨.inl rfl, h2⟩
        · exact ⟨.inr h.1, h.2⟩
      · rintro ⟨rfl | h, h3⟩
        · exact .inl rfl
        · exact .inr ⟨h, h3⟩
theorem secList_take (ps : List (List Stage)) : ∀ (l : List Int) (k : Nat), secList ps (l.take k) = (secList ps l).take k := by
  induction ps with
  | nil => simp [secList]
  | cons p ps ih =>
    intro l k
    cases l with
    | nil => simp [secList]
    | cons a l => cases k with
      | zero => simp [secList]
      | succ k => have := ih l k; simp only [secList] at this; simp [secList, this]

theorem nodup_snoc {l : List Int} {x : Int} (h : l.Nodup) (hx : x ∉ l) : (l ++ [x]).Nodup := List.nodup_append.2 ⟨h, by simp, fun a ha b hb => by simp at hb; subst hb; rintro rfl; exact hx ha⟩
theorem heldOf_sublist (ps : List (List Stage)) : ∀ (l : List Int) (k : Nat), (heldOf ps (l.take k)).Sublist (heldOf ps l) := by
  induction ps with
  | nil => intro l k; simp [heldOf]
  | cons p ps ih =>
    intro l k
    cases l with
    | nil => simp [heldOf]
    | cons a l => cases k with
      | zero => simp [heldOf]
      | succ k => simp only [List.take_succ_cons, heldOf]; exact List.Sublist.append (List.Sublist.refl _) (ih l k)

set_option maxRecDepth 100000 in
set_option maxHeartbeats 1000000 in
theorem CheckState_any (ps : List (List Stage)) (at_ : List Int) (A A2 : Option Addr) (c c2 : Nat) (w : World) (h : RPaths w (Old w) [.slice A ps.length c] ps) (h2 : RInts w (Old w) [.slice A2 at_.length c2] at_) :
    Calls Tryz.prog 18 #[.slice A ps.length c, .slice A2 at_.length c2] w fun e w' => e = .returned (.int .i64 (checkState ps at_)) ∧ KeepsAll w w' := by
  have hc := h.caps
  have hc2 := h2.caps
  have H := Lib.hid h; clear h
  have H2 := Lib.hid h2; clear h2
  by_cases g1 : valid ps = true
  · go_enter Tryz.func18, Tryz.ntmps18
    go_wp2_with fail
    refine (RefValid_any ps A c w H.out).mono ?_
    rintro e w1 ⟨rfl, k1⟩
    have H1 := Lib.hid (k1.rd RPaths.ok H.out (fun b hb => ⟨hb, by simp⟩) (fun _ h => h))
    have H21 := Lib.hid (k1.rd RInts.ok H2.out (fun b hb => ⟨hb, by simp⟩) (fun _ h => h))
    have K1 := Lib.hid k1; clear k1
    by_cases g2 : good ps at_ = true
    · have hl : at_.length = ps.length := by have := g2; simp only [good, Bool.and_eq_true, decide_eq_true_eq] at this; exact this.1
      have hl1 : at_.length ≤ ps.length := by omega
      have hl2 : ps.length ≤ at_.length := by omega
      clear hl
      have HSN : Hid (secsNonneg ps) := valid_secs g1
      go_wp2_with (go_at_call 26; refine (rGood_any ps at_ A A2 c c2 _ (Old w) (Old w) H1.out H21.out).mono ?_; rintro e w2 ⟨rfl, rfl⟩)
      go_loopw [19] (fun i wr => ∃ t n : Nat, t ≤ ps.length ∧ i = .int .i64 t ∧ wr = w1.drewN n ∧ (heldOf ps (at_.take t)).Nodup) (fun i _ => ps.length - (intOf i).toNat)
      case atStart => exact ⟨0, 0, Nat.zero_le _, rfl, rfl, by cases ps <;> simp [heldOf]⟩
      case round =>
        obtain ⟨t, n, ht, rfl, rfl, hnd⟩ := hrel
        have HND := Lib.hid hnd; clear hnd
        by_cases hlt : t < ps.length
        · have hdt : decide ((t : Int) < (ps.length : Int)) = true := by simp; omega
          have hp : ps[t]? = some ps[t] := List.getElem?_eq_getElem hlt
          have ha : at_[t]? = some (at_[t]'(by omega)) := List.getElem?_eq_getElem (by omega)
          have hsl := secList_at hp ha
          have hneg := secAt_neg (HSN.out ps[t] (List.mem_of_getElem? hp)) (at_[t]'(by omega))
          have hht := held_take hp ha
          have SC : Hid (∀ m, Calls Tryz.prog 45 #[.slice A ps.length c, .slice A2 at_.length c2, .int .i64 t] (w1.drewN m) fun e w' => e = .returned (.int .i64 (secAt ps[t] (at_[t]'(by omega)))) ∧ ∃ n, w' = (w1.drewN m).drewN n) := fun m => Section_any ps at_ A A2 c c2 (w1.drewN m) (Old w) (Old w) (by exact H1.out) (by exact H21.out) t _ _ hp ha
          generalize secAt ps[t] (at_[t]'(by omega)) = sx at hsl hneg hht SC
          have HSL := Lib.hid hsl
          have HNEG := Lib.hid hneg
          have HHT := Lib.hid hht
          clear hp ha hsl hneg hht
          go_wp2
          go_loopw [6] (fun i wr => ∃ u n : Nat, u ≤ t ∧ i = .int .i64 u ∧ wr = w1.drewN n ∧ (0 ≤ sx → sx ∉ (secList ps at_).take u)) (fun i _ => t - (intOf i).toNat)
          case atStart => exact ⟨0, n, Nat.zero_le _, rfl, rfl, by simp⟩
          case round =>
            obtain ⟨u, m, hu, rfl, rfl, hno⟩ := hrel
            have HNO := Lib.hid hno; clear hno
            by_cases hlt2 : u < t
            · have hdu : decide ((u : Int) < (t : Int)) = true := by simp; omega
              have hul : u < ps.length := by omega
              have hp : ps[u]? = some ps[u] := List.getElem?_eq_getElem hul
              have ha : at_[u]? = some (at_[u]'(by omega)) := List.getElem?_eq_getElem (by omega)
              have hsl := secList_at hp ha
              have SU : Hid (∀ m, Calls Tryz.prog 45 #[.slice A ps.length c, .slice A2 at_.length c2, .int .i64 u] (w1.drewN m) fun e w' => e = .returned (.int .i64 (secAt ps[u] (at_[u]'(by omega)))) ∧ ∃ n, w' = (w1.drewN m).drewN n) := fun m => Section_any ps at_ A A2 c c2 (w1.drewN m) (Old w) (Old w) (by exact H1.out) (by exact H21.out) u _ _ hp ha
              generalize secAt ps[u] (at_[u]'(by omega)) = su at hsl SU
              have HSU := Lib.hid hsl
              clear hp ha hsl
              by_cases g3 : 0 ≤ sx
              · have g3' : decide (sx ≥ 0) = true := by simp; omega
                by_cases g4 : sx = su
                · have g4' : (sx == su) = true := by simpa using g4
                  have Q : Hid (checkState ps at_ = 17) := by
                    show checkState ps at_ = 17
                    unfold checkState
                    rw [if_neg (by simp [g1, g2]), if_neg ?_]
                    intro hn
                    have hn2 := List.Sublist.nodup (heldOf_sublist ps at_ (t + 1)) hn
                    rw [HHT.out] at hn2
                    rcases HNEG.out with h | h
                    · omega
                    · rw [if_neg h.1] at hn2
                      have := (List.nodup_append.1 hn2).2.2 sx ((mem_heldOf HSN.out _ _).2 ⟨by rw [secList_take]; exact List.mem_of_getElem? (by rw [List.getElem?_take_of_lt hlt2, g4]; exact HSU.out), g3⟩) sx (by simp)
                      exact this rfl
                  clear g4
                  go_wp2_with (first | (go_at_call 45; (with_reducible refine (SC.out _).mono ?_); rintro e w7 ⟨rfl, n7, rfl⟩) | (go_at_call 45; (with_reducible refine (SU.out _).mono ?_); rintro e w8 ⟨rfl, n8, rfl⟩))
                  go_ret
                  rw [Q.out]
                  exact ⟨rfl, K1.out.drewN _⟩
                · have g4' : (sx == su) = false := by simpa using g4
                  have Q : Hid (0 ≤ sx → sx ∉ (secList ps at_).take (u + 1)) := by
                    show _ → _
                    intro h0
                    rw [List.take_add_one, HSU.out]; simp
                    exact ⟨by simpa using HNO.out h0, g4⟩
                  clear g4
                  go_wp2_with (first | (go_at_call 45; (with_reducible refine (SC.out _).mono ?_); rintro e w7 ⟨rfl, n7, rfl⟩) | (go_at_call 45; (with_reducible refine (SU.out _).mono ?_); rintro e w8 ⟨rfl, n8, rfl⟩))
                  go_roundw
                  case rel => exact ⟨u + 1, _, by omega, by go_num, rfl, Q.out⟩
                  case measure => simp [intOf]; omega
              · have g3' : decide (sx ≥ 0) = false := by simp; omega
                go_wp2_with (first | (go_at_call 45; (with_reducible refine (SC.out _).mono ?_); rintro e w7 ⟨rfl, n7, rfl⟩))
                go_roundw
                case rel => exact ⟨u + 1, _, by omega, by go_num, rfl, fun h => (by omega)⟩
                case measure => simp [intOf]; omega
            · obtain rfl : u = t := by omega
              have Q : Hid ((heldOf ps (at_.take (u + 1))).Nodup) := by
                show List.Nodup _
                rw [HHT.out]
                rcases HNEG.out with h | h
                · rw [if_pos h.1, List.append_nil]; exact HND.out
                · rw [if_neg h.1]
                  refine nodup_snoc HND.out (fun hm => HNO.out h.2 ?_)
                  have := ((mem_heldOf HSN.out _ _).1 hm).1
                  rw [secList_take] at this; exact this
              go_wp2
              go_roundw
              case rel => exact ⟨u + 1, _, by omega, by go_num, rfl, Q.out⟩
              case measure => simp [intOf]; omega
        · obtain rfl : t = ps.length := by omega
          have Q : Hid (checkState ps at_ = 0) := by
            show checkState ps at_ = 0
            unfold checkState
            rw [if_neg (by simp [g1, g2]), if_pos]
            have e : at_.take ps.length = at_ := List.take_of_length_le (by omega)
            have := HND.out; rw [e] at this; exact this
          go_wp2
          go_ret
          rw [Q.out]
          exact ⟨rfl, K1.out.drewN _⟩
    · have g2' : good ps at_ = false := by simpa using g2
      have Q : Hid (checkState ps at_ = 1) := by show checkState ps at_ = _; simp [checkState, g2']
      go_wp2_with (go_at_call 26; refine (rGood_any ps at_ A A2 c c2 _ (Old w) (Old w) H1.out H21.out).mono ?_; rintro e w2 ⟨rfl, rfl⟩)
      go_ret
      rw [Q.out]
      exact ⟨rfl, K1.out⟩
  · have g1' : valid ps = false := by simpa using g1
    have Q : Hid (checkState ps at_ = 1) := by show checkState ps at_ = _; simp [checkState, g1']
    go_enter Tryz.func18, Tryz.ntmps18
    go_wp2_with (go_at_call 25; refine (RefValid_any ps A c w H.out).mono ?_; rintro e w1 ⟨rfl, k1⟩)
    go_ret
    rw [Q.out]
    exact ⟨rfl, k1⟩

end Go.Proofs.YtcbpiidbkjaneaaGreat
