/- Contracts of the reference's search for positions. Conditions: as each theorem says. Contract of the reference's count of a complete assignment. Conditions: as the theorem says. -/
import Derived.Test.YtbfgmbakeofcbaaGreatK10
import Derived.Test.YtbfgmbakeofcbaaGreatK11
namespace Go.Proofs.YtbfgmbakeofcbaaGreat
open Go.RowKit

/-- the sections that are held -/
def heldOf : List (List Stage) → List Int → List Int
  | p :: ps, a :: l => (if a < 0 ∨ (p.length : Int) ≤ a then [] else [secAt p a]) ++ heldOf ps l
  | _, _ => []
theorem heldOf_snoc : ∀ (ps : List (List Stage)) (l : List Int) (p : List Stage) (x : Int), ps[l.length]? = some p → heldOf ps (l ++ [x]) = heldOf ps l ++ (if x < 0 ∨ (p.length : Int) ≤ x then [] else [secAt p x])
  | [], l, p, x, h => by simp at h
  | q :: ps, [], p, x, h => by simp at h; subst h; simp [heldOf]
  | q :: ps, a :: l, p, x, h => by
    have := heldOf_snoc ps l p x (by simpa using h)
    simp only [List.cons_append, heldOf, this, List.append_assoc]

def secsNonneg (ps : List (List Stage)) : Prop := ∀ p ∈ ps, ∀ s ∈ p, 0 ≤ s.sec
theorem secAt_neg {p : List Stage} (h : ∀ s ∈ p, 0 ≤ s.sec) (a : Int) : (a < 0 ∨ (p.length : Int) ≤ a) ∧ secAt p a = -1 ∨ ¬ (a < 0 ∨ (p.length : Int) ≤ a) ∧ 0 ≤ secAt p a := by
  by_cases h1 : a < 0
  · exact .inl ⟨.inl h1, by simp [secAt, h1]⟩
  · by_cases h2 : (p.length : Int) ≤ a
    · refine .inl ⟨.inr h2, ?_⟩
      unfold secAt; rw [if_neg h1, List.getElem?_eq_none (by omega)]
    · refine .inr ⟨by omega, ?_⟩
      unfold secAt
      have hl : a.toNat < p.length := by omega
      rw [if_neg h1, List.getElem?_eq_getElem hl]
      exact h _ (List.getElem_mem hl)

/-- the reference's struct lies in block g -/
structure SkSt (w : World) (g : Nat) (A : Option Addr) (c : Nat) (ps : List (List Stage)) (A2 : Option Addr) (c2 : Nat) (exp : List Int) (A3 : Option Addr) (c3 : Nat) (occ : List Int) (budget : Nat) (at_ : List Int) (vat : Value) (s : ISt) : Prop where
  blk : ∃ vb, Blk w g 61 #[.slice A ps.length c, .slice A2 exp.length c2, .slice A3 occ.length c3, .int .i64 budget, .int .i64 s.steps, vat, .int .i64 s.found, .int .i64 s.sum, vb] ∧
    RInts w (fun b => g + 1 ≤ b ∧ b < w.heap.size ∧ vat.ownBlock ≠ some b) [vb] s.best
  at_ : OwnL 3 1 RInt w (g + 1) (g + 1) vat at_
  pth : RPaths w (fun b => b < g) [.slice A ps.length c] ps
  ex : RInts w (fun b => b < g) [.slice A2 exp.length c2] exp
  oc : RInts w (fun b => b < g) [.slice A3 occ.length c3] occ
  sums : 0 ≤ s.sum ∧ s.sum ≤ 1000
  fnd : s.found ≤ s.steps + 1

section
variable {w w' : World} {g : Nat} {A : Option Addr} {c : Nat} {ps : List (List Stage)} {A2 : Option Addr} {c2 : Nat} {exp : List Int} {A3 : Option Addr} {c3 : Nat} {occ : List Int} {budget : Nat} {at_ : List Int} {vat : Value} {s s' : ISt}
theorem SkSt.lt (h : SkSt w g A c ps A2 c2 exp A3 c3 occ budget at_ vat s) : g < w.heap.size := by obtain ⟨vb, hb, _⟩ := h.blk; exact hb.lt
theorem SkSt.keeps0 (h : SkSt w g A c ps A2 c2 exp A3 c3 occ budget at_ vat s) (k : KeepsAll w w') : SkSt w' g A c ps A2 c2 exp A3 c3 occ budget at_ vat s := by
  have hg := h.lt
  obtain ⟨vb, h1, h2⟩ := h.blk
  refine ⟨⟨vb, h1.kept k (by simp), k.rd RInts.ok h2 (fun b hb => ⟨hb.2.1, by simp⟩) (fun b hb => ⟨hb.1, Nat.lt_of_lt_of_le hb.2.1 k.size, hb.2.2⟩)⟩, h.at_.keeps RInt.ok k (fun _ _ h => h.elim), ?_, ?_, ?_, h.sums, h.fnd⟩
  · exact k.rd RPaths.ok h.pth (fun b hb => ⟨by omega, by simp⟩) (fun _ h => h)
  · exact k.rd RInts.ok h.ex (fun b hb => ⟨by omega, by simp⟩) (fun _ h => h)
  · exact k.rd RInts.ok h.oc (fun b hb => ⟨by omega, by simp⟩) (fun _ h => h)
theorem SkSt.set (h : SkSt w g A c ps A2 c2 exp A3 c3 occ budget at_ vat s) (k : Keeps (· = g) w w') {vb : Value} (hs : 0 ≤ s'.sum ∧ s'.sum ≤ 1000) (hf : s'.found ≤ s'.steps + 1)
    (hb : Blk w' g 61 #[.slice A ps.length c, .slice A2 exp.length c2, .slice A3 occ.length c3, .int .i64 budget, .int .i64 s'.steps, vat, .int .i64 s'.found, .int .i64 s'.sum, vb])
    (hr : RInts w (fun b => g + 1 ≤ b ∧ b < w.heap.size ∧ vat.ownBlock ≠ some b) [vb] s'.best) : SkSt w' g A c ps A2 c2 exp A3 c3 occ budget at_ vat s' := by
  have hg := h.lt
  refine ⟨⟨vb, hb, k.rd RInts.ok hr (fun b hb => ⟨hb.2.1, by omega⟩) (fun b hb => ⟨hb.1, Nat.lt_of_lt_of_le hb.2.1 k.size, hb.2.2⟩)⟩, h.at_.keeps RInt.ok k (fun b _ h => by omega), ?_, ?_, ?_, hs, hf⟩
  · exact k.rd RPaths.ok h.pth (fun b hb => ⟨by omega, by omega⟩) (fun _ h => h)
  · exact k.rd RInts.ok h.ex (fun b hb => ⟨by omega, by omega⟩) (fun _ h => h)
  · exact k.rd RInts.ok h.oc (fun b hb => ⟨by omega, by omega⟩) (fun _ h => h)
end

theorem held_take {ps : List (List Stage)} {at_ : List Int} {k : Nat} {p : List Stage} {x : Int} (hp : ps[k]? = some p) (hx : at_[k]? = some x) : heldOf ps (at_.take (k + 1)) = heldOf ps (at_.take k) ++ (if x < 0 ∨ (p.length : Int) ≤ x then [] else [secAt p x]) := by
  rw [List.take_add_one, hx]
  have hl : (at_.take k).length = k := by have := getElem?_lt hx; simp; omega
  exact heldOf_snoc ps (at_.take k) p x (by rw [hl]; exact hp)

set_option maxRecDepth 100000 in
set_option maxHeartbeats 1000000 in
theorem free_any (w : World) (g : Nat) (A : Option Addr) (c : Nat) (ps : List (List Stage)) (A2 : Option Addr) (c2 : Nat) (exp : List Int) (A3 : Option Addr) (c3 : Nat) (occ : List Int) (budget : Nat) (at_ : List Int) (vat : Value) (s : ISt)
    (h : SkSt w g A c ps A2 c2 exp A3 c3 occ budget at_ vat s) (hl : at_.length ≤ ps.length) (hsn : secsNonneg ps) (sec : Int) (hsec : 0 ≤ sec) :
    Calls Tryz.prog 51 #[.pointer (some ⟨g, 0, none⟩), .int .i64 sec] w fun e w' => e = .returned (.bool (decide (sec ∈ occ ∧ sec ∉ heldOf ps at_))) ∧ ∃ n, w' = w.drewN n := by
  obtain ⟨vb, hblk, _⟩ := h.blk
  obtain ⟨Aa, ca, rfl, hca, hca2⟩ := h.at_.form
  have c0 := hblk.cell 0
  have c2' := hblk.cell 2
  have c5 := hblk.cell 5
  simp at c0 c2' c5
  have hoc := h.oc.caps
  have hpc := h.pth.caps
  have HR := Lib.hid (h.at_.read RInt.ok (by omega) (S := fun b => b < w.heap.size) (fun _ _ h => h) (fun _ _ h => h))
  have H := Lib.hid h; clear h hblk
  have HSN := Lib.hid hsn; clear hsn
  go_enter Tryz.func51, Tryz.ntmps51
  go_wp2
  go_loop [5, 14] (fun v i => ∃ (k : Nat) (bb : Bool), k ≤ occ.length ∧ i = .int .i64 k ∧ v = .bool bb ∧ (bb = true ↔ sec ∈ occ.take k)) (fun _ i => occ.length - (intOf i).toNat)
  case atStart => exact ⟨0, false, Nat.zero_le _, rfl, rfl, by simp⟩
  case round =>
    obtain ⟨k, bb, hk, rfl, rfl, hbb⟩ := hrel
    have HBB := Lib.hid hbb; clear hbb
    by_cases hlt : k < occ.length
    · obtain ⟨b, o, x, rfl, _, hx, k1⟩ := H.out.oc.at_ hlt
      cases bb with
      | true =>
        have Q : Hid (true = true ↔ sec ∈ occ.take (k + 1)) := by
          show true = true ↔ _
          have := HBB.out.1 rfl
          rw [List.take_add_one]; simp [this]
        clear hx
        go_wp2
        go_round
        case rel => exact ⟨k + 1, true, by omega, by go_num, rfl, Q.out⟩
        case measure => simp [intOf]; omega
      | false =>
        have Q : Hid ((x == sec) = true ↔ sec ∈ occ.take (k + 1)) := by
          show (x == sec) = true ↔ _
          have h0 : sec ∉ occ.take k := fun h => by have := HBB.out.2 h; cases this
          rw [List.take_add_one, hx]; simp [h0]; exact eq_comm
        clear hx
        go_wp2
        go_round
        case rel => exact ⟨k + 1, (x == sec), by omega, by go_num, rfl, Q.out⟩
        case measure => simp [intOf]; omega
    · obtain rfl : k = occ.length := by omega
      have HB2 : Hid (bb = true ↔ sec ∈ occ) := by
        have := HBB.out
        rw [List.take_length] at this; exact this
      go_wp2
      go_loopw [5, 30] (fun v i wr => ∃ (k : Nat) (b2 : Bool) (n : Nat), k ≤ at_.length ∧ i = .int .i64 k ∧ v = .bool b2 ∧ (b2 = true ↔ sec ∈ occ ∧ sec ∉ heldOf ps (at_.take k)) ∧ wr = w.drewN n) (fun _ i _ => at_.length - (intOf i).toNat)
      case atStart => exact ⟨0, bb, 0, Nat.zero_le _, rfl, rfl, by rw [HB2.out]; cases ps <;> simp [heldOf], rfl⟩
      case round =>
        obtain ⟨k, b2, n, hk, rfl, rfl, hb2, rfl⟩ := hrel
        have HB := Lib.hid hb2; clear hb2
        by_cases hlt2 : k < at_.length
        · obtain ⟨b, o, x, rfl, _, hx, k1⟩ := RInts.at_ HR.out hlt2
          have hpk : k < ps.length := by omega
          have hp : ps[k]? = some ps[k] := List.getElem?_eq_getElem hpk
          have hts := held_take hp hx
          have hns := secAt_neg (HSN.out ps[k] (List.mem_of_getElem? hp)) x
          cases b2 with
          | false =>
            have Q : Hid (false = true ↔ sec ∈ occ ∧ sec ∉ heldOf ps (at_.take (k + 1))) := by
              show false = true ↔ _
              have h0 := HB.out
              constructor
              · intro h; cases h
              · intro ⟨h1, h2⟩
                exact h0.2 ⟨h1, fun h => h2 (by rw [hts]; exact List.mem_append_left _ h)⟩
            clear hx hts hns
            go_wp2
            go_quiet (fail)
            go_wp2
            go_roundw
            case rel => exact ⟨k + 1, false, _, by omega, by go_num, rfl, Q.out, rfl⟩
            case measure => simp [intOf]; omega
          | true =>
            have HXX := Lib.hid hx
            have HPP := Lib.hid hp
            generalize hsx : secAt ps[k] x = sx at hts hns
            have Q : Hid ((sx != sec) = true ↔ sec ∈ occ ∧ sec ∉ heldOf ps (at_.take (k + 1))) := by
              show (sx != sec) = true ↔ _
              have h0 := HB.out.1 rfl
              rw [hts]
              rcases hns with ⟨h1, h2⟩ | ⟨h1, h2⟩
              · rw [if_pos h1, h2]; simp [h0.1, h0.2]; omega
              · rw [if_neg h1]; simp [h0.1, h0.2]; exact ⟨fun h e => h e.symm, fun h e => h e.symm⟩
            have SC : Hid (∀ n', Calls Tryz.prog 45 #[.slice A ps.length c, .slice (some ⟨b, o, none⟩) at_.length ca, .int .i64 k] (w.drewN n') fun e w' => e = .returned (.int .i64 sx) ∧ ∃ m, w' = (w.drewN n').drewN m) := fun n' => by
              rw [← hsx]; exact Section_any ps at_ A (some ⟨b, o, none⟩) c ca _ (fun b => b < g) (fun b => b < w.heap.size) (by exact H.out.pth) (by exact HR.out) k ps[k] x HPP.out HXX.out
            clear hx hts hns hp hsx
            go_wp2
            go_quiet ((go_at_call 45; exact quiet_draw_add (SC.out _)))
            go_wp2
            go_roundw
            case rel => exact ⟨k + 1, (sx != sec), _, by omega, by go_num, rfl, Q.out, rfl⟩
            case measure => simp [intOf]; omega
        · obtain rfl : k = at_.length := by omega
          have Q : Hid (decide (sec ∈ occ ∧ sec ∉ heldOf ps at_) = b2) := by
            have := HB.out
            rw [List.take_length] at this
            show decide _ = b2
            cases b2 <;> simp at this ⊢ <;> exact this
          go_wp2
          go_ret
          exact ⟨by rw [Q.out]; rfl, _, rfl⟩

theorem held_count {ps : List (List Stage)} {at_ : List Int} {k : Nat} {p : List Stage} {x sx : Int} (hp : ps[k]? = some p) (hx : at_[k]? = some x) (hs : ∀ s ∈ p, 0 ≤ s.sec) (e : secAt p x = sx) :
    sx < 0 ∧ (heldOf ps (at_.take (k + 1))).length = (heldOf ps (at_.take k)).length ∨ 0 ≤ sx ∧ (heldOf ps (at_.take (k + 1))).length = (heldOf ps (at_.take k)).length + 1 := by
  have h1 := held_take hp hx
  subst e
  rcases secAt_neg hs x with ⟨h, h2⟩ | ⟨h, h2⟩
  · refine .inl ⟨by omega, ?_⟩; rw [h1, if_pos h]; simp
  · refine .inr ⟨h2, ?_⟩; rw [h1, if_neg h]; simp
theorem heldOf_len : ∀ (ps : List (List Stage)) (l : List Int), (heldOf ps l).length ≤ l.length
  | [], l => by cases l <;> simp [heldOf]
  | p :: ps, [] => by simp [heldOf]
  | p :: ps, a :: l => by
    have := heldOf_len ps l
    simp only [heldOf, List.length_append, List.length_cons]
    split <;> simp <;> omega

set_option maxRecDepth 100000 in
set_option maxHeartbeats 2000000 in
theorem assigned_any (w : World) (g : Nat) (A : Option Addr) (c : Nat) (ps : List (List Stage)) (A2 : Option Addr) (c2 : Nat) (exp : List Int) (A3 : Option Addr) (c3 : Nat) (occ : List Int) (budget : Nat) (at_ : List Int) (vat : Value) (s : ISt)
    (h : SkSt w g A c ps A2 c2 exp A3 c3 occ budget at_ vat s) (ha : small at_) (he : small exp) (hl : at_.length = exp.length) (hlp : at_.length ≤ ps.length) (hsn : secsNonneg ps) (hf : s.found ≤ s.steps) (hst : s.steps ≤ 2000000) :
    Calls Tryz.prog 50 #[.pointer (some ⟨g, 0, none⟩)] w fun e w' => e = .returned (.tuple #[]) ∧ SkSt w' g A c ps A2 c2 exp A3 c3 occ budget at_ vat (complete exp occ at_ (heldOf ps at_) s) ∧ Keeps (fun b => g ≤ b) w w' := by
  obtain ⟨vb, hblk, hbest⟩ := h.blk
  obtain ⟨Aa, ca, rfl, hca, hca2⟩ := h.at_.form
  have c0 := hblk.cell 0
  have c1 := hblk.cell 1
  have c2' := hblk.cell 2
  have c5 := hblk.cell 5
  have c6 := hblk.cell 6
  have c7 := hblk.cell 7
  simp at c0 c1 c2' c5 c6 c7
  have hl1 : at_.length ≤ exp.length := by omega
  have hl2 : exp.length ≤ at_.length := by omega
  have HL := Lib.hid hl; clear hl
  have hec := h.ex.caps
  have hoc := h.oc.caps
  have hpc := h.pth.caps
  have hss := h.sums
  have hgz0 := h.lt
  have HR := Lib.hid (h.at_.read RInt.ok (by omega) (S := fun b => g + 1 ≤ b ∧ b < w.heap.size) (fun _ h1 h2 => ⟨h1, h2⟩) (fun _ h1 h2 => ⟨h1, h2⟩))
  have H := Lib.hid h; clear h
  have HB := Lib.hid hblk; clear hblk
  have HBE := Lib.hid hbest; clear hbest
  have HA := Lib.hid ha; clear ha
  have HE := Lib.hid he; clear he
  have HSN := Lib.hid hsn; clear hsn
  have ha10 := HA.out.1
  have he10 := HE.out.1
  go_enter Tryz.func50, Tryz.ntmps50
  go_wp2
  go_loopw [2, 3, 10] (fun u v i wr => ∃ k : Nat, k ≤ at_.length ∧ i = .int .i64 k ∧ v = .int .i64 (diffSum (at_.take k) (exp.take k)) ∧ u = .int .i64 (heldOf ps (at_.take k)).length ∧ ∃ n, wr = w.drewN n) (fun _ _ i _ => at_.length - (intOf i).toNat)
  case atStart => exact ⟨0, Nat.zero_le _, rfl, by simp [diffSum], by cases ps <;> simp [heldOf], 0, rfl⟩
  case round =>
    obtain ⟨k, hk, rfl, rfl, rfl, n, rfl⟩ := hrel
    have hr := diffSum_range (at_.take k) (exp.take k) (fun x hx => HA.out.2 x (List.mem_of_mem_take hx)) (fun x hx => HE.out.2 x (List.mem_of_mem_take hx))
    have hr2 : diffSum (at_.take k) (exp.take k) ≤ 650 := by
      have : (at_.take k).length ≤ 10 := by simp; omega
      omega
    have hr1 := hr.1
    clear hr
    have hh10 : (heldOf ps (at_.take k)).length ≤ 10 := by
      have := heldOf_len ps (at_.take k)
      have h2 : (at_.take k).length ≤ 10 := by simp; omega
      omega
    by_cases hlt : k < at_.length
    · obtain ⟨b1, o1, x, rfl, _, hx, k1⟩ := RInts.at_ HR.out hlt
      obtain ⟨b2, o2, y, rfl, _, hy, k2⟩ := H.out.ex.at_ (k := k) (by omega)
      have hxr := HA.out.2 x (List.mem_of_getElem? hx)
      have hyr := HE.out.2 y (List.mem_of_getElem? hy)
      have ST := Lib.hid (diffSum_step at_ exp k x y hx hy)
      have hpk : k < ps.length := by omega
      have hp : ps[k]? = some ps[k] := List.getElem?_eq_getElem hpk
      have HXX := Lib.hid hx
      have HPP := Lib.hid hp
      generalize hsx : secAt ps[k] x = sx
      have hcnt := held_count hp hx (HSN.out ps[k] (List.mem_of_getElem? hp)) hsx
      have SC : Hid (∀ n', Calls Tryz.prog 45 #[.slice A ps.length c, .slice (some ⟨b1, o1, none⟩) at_.length ca, .int .i64 k] (w.drewN n') fun e w' => e = .returned (.int .i64 sx) ∧ ∃ m, w' = (w.drewN n').drewN m) := fun n' => by
        rw [← hsx]; exact Section_any ps at_ A (some ⟨b1, o1, none⟩) c ca _ (fun b => b < g) (fun b => g + 1 ≤ b ∧ b < w.heap.size) (by exact H.out.pth) (by exact HR.out) k ps[k] x HPP.out HXX.out
      clear hx hy hp hsx
      generalize diffSum (at_.take k) (exp.take k) = D at hr1 hr2 ST
      generalize (heldOf ps (at_.take k)).length = N at hcnt hh10
      rcases hcnt with ⟨hneg, hN⟩ | ⟨hneg, hN⟩
      · have HN := Lib.hid hN; clear hN
        have g1 : decide (sx ≥ 0) = false := by simp; omega
        go_wp2
        go_quiet ((go_at_call 45; exact quiet_draw_add (SC.out _)))
        go_wp2
        go_quiet (fail)
        go_wp2
        go_roundw
        case rel =>
          refine ⟨k + 1, by omega, by go_num, ?_, ?_, _, rfl⟩
          · rw [ST.out]; rfl
          · rw [HN.out]
        case measure => simp [intOf]; omega
      · have HN := Lib.hid hN; clear hN
        have g1 : decide (sx ≥ 0) = true := by simp; omega
        go_wp2
        go_quiet ((go_at_call 45; exact quiet_draw_add (SC.out _)))
        go_wp2
        go_quiet (fail)
        go_wp2
        go_roundw
        case rel =>
          refine ⟨k + 1, by omega, by go_num, ?_, ?_, _, rfl⟩
          · rw [ST.out]; rfl
          · rw [HN.out]; go_num
        case measure => simp [intOf]; omega
    · obtain rfl : k = at_.length := by omega
      have e1 : Hid (diffSum (at_.take at_.length) (exp.take at_.length) = diffSum at_ exp) := by
        show _ = _
        rw [List.take_length, HL.out, List.take_length]
      have e2 : Hid ((heldOf ps (at_.take at_.length)).length = (heldOf ps at_).length) := by
        show _ = _
        rw [List.take_length]
      generalize hD : diffSum (at_.take at_.length) (exp.take at_.length) = D at hr1 hr2
      have HD : Hid (diffSum at_ exp = D) := by rw [← e1.out]; exact hD
      generalize hN : (heldOf ps (at_.take at_.length)).length = N at hh10
      have HN : Hid ((heldOf ps at_).length = N) := by rw [← e2.out]; exact hN
      clear hD e1 hN e2
      by_cases g1 : N = occ.length
      · have g1' : ((N : Int) == (occ.length : Int)) = true := by simp; omega
        have g1'' : ((N : Int) != (occ.length : Int)) = false := by simp; omega
        have G1 : Hid ((heldOf ps at_).length = occ.length) := by rw [← g1]; exact HN.out
        clear g1
        by_cases g2 : s.found = 0
        · have g2' : ((s.found : Int) == 0) = true := by simp; omega
          have Q : Hid (complete exp occ at_ (heldOf ps at_) s = { s with found := 1, sum := D, best := at_ }) := by
            show complete exp occ at_ (heldOf ps at_) s = { s with found := 1, sum := D, best := at_ }
            simp [complete, G1.out, g2, HD.out]
          clear g2
          have f6 := HB.out.frozen 6
          have f7 := HB.out.frozen 7
          have KK := Lib.hid ((((Keeps.refl (· = g) w).drewN n).setCell (p := ⟨g, 6, none⟩) (fun _ => rfl) (.int .i64 1)).setCell (p := ⟨g, 7, none⟩) (fun _ => rfl) (.int .i64 D))
          have H1 : Hid (SkSt (((w.drewN n).setCell ⟨g, 6, none⟩ (.int .i64 1)).setCell ⟨g, 7, none⟩ (.int .i64 D)) g A c ps A2 c2 exp A3 c3 occ budget at_ (.slice Aa at_.length ca) { s with found := 1, sum := D }) := by
            refine H.out.set KK.out ⟨hr1, by show D ≤ 1000; omega⟩ (by show 1 ≤ s.steps + 1; omega) (vb := vb) ?_ HBE.out
            have := ((show Blk (w.drewN n) g _ _ from HB.out).set_ 6 (.int .i64 1)).set_ 7 (.int .i64 D)
            simpa using this
          have HRW : Hid (RInts (((w.drewN n).setCell ⟨g, 6, none⟩ (.int .i64 1)).setCell ⟨g, 7, none⟩ (.int .i64 D)) (fun b => g + 1 ≤ b ∧ b < w.heap.size) [.slice Aa at_.length ca] at_) := KK.out.rd RInts.ok HR.out (fun b hb => ⟨hb.2, by omega⟩) (fun _ h => h)
          have HSZ : Hid (w.heap.size ≤ (((w.drewN n).setCell ⟨g, 6, none⟩ (.int .i64 1)).setCell ⟨g, 7, none⟩ (.int .i64 D)).heap.size) := KK.out.size
          go_wp2_with (at_builtin; refine wpList_append_M tyInt RInt.ok RInt.one rfl (.const (.slice none 0 0)) (.tmp 92) rfl (OwnL.nil (base := w.heap.size) (lo := w.heap.size)) rfl rfl (S := fun b => g + 1 ≤ b ∧ b < w.heap.size) (S2 := fun _ => False) HRW.out (fun _ _ h => h) (fun _ h => h.elim) (by simp; omega) (by simp; omega) HSZ.out ?_; intro v' w1 ho1 hk1 ha1; obtain ⟨A', c', rfl, hc', hc2'⟩ := ho1.form; have H2 := Lib.hid (H1.out.keeps0 (hk1.mono (fun _ _ h => (by simp [Value.ownBlock] at h)))); have HK1 := Lib.hid hk1; have HO1 := Lib.hid ho1; clear ho1 hk1 ha1; obtain ⟨vb2, hblk2, hbest2⟩ := H2.out.blk; have d8 := hblk2.cell 8; have e8 := hblk2.frozen 8; simp at d8; have HB2 := Lib.hid hblk2; clear hblk2 hbest2)
          refine bodyPost_end (results_none rfl _ _ _) rfl ?_
          have HFAR : ∀ b, w.heap.size ≤ b → (Value.slice Aa at_.length ca).ownBlock ≠ some b := fun b hb e => by have := H.out.at_.lt e; omega
          have K2 := (Keeps.refl (· = g) w1).setCell (p := ⟨g, 8, none⟩) (fun _ => rfl) (.slice A' ([] ++ at_).length c')
          have KF : Keeps (fun b => g ≤ b) w (w1.setCell ⟨g, 8, none⟩ (.slice A' ([] ++ at_).length c')) := ((KK.out.trans HK1.out (fun _ _ h => (by simp [Value.ownBlock] at h))).trans K2 (fun x _ e => e)).mono (fun x _ e => by omega)
          refine ⟨rfl, ?_, KF⟩
          rw [Q.out]
          refine H2.out.set K2 ⟨hr1, by show D ≤ 1000; omega⟩ (by show 1 ≤ s.steps + 1; omega) (vb := .slice A' ([] ++ at_).length c') ?_ ?_
          · have := HB2.out.set_ 8 (.slice A' ([] ++ at_).length c')
            simpa using this
          · have hsz : w.heap.size ≤ w1.heap.size := Nat.le_trans KK.out.size HK1.out.size
            exact HO1.out.read RInt.ok (by omega) (fun b h1 h2 => ⟨by omega, h2, HFAR b h1⟩) (fun b h1 h2 => ⟨by omega, h2, HFAR b h1⟩)
        · have g2' : ((s.found : Int) == 0) = false := by simp; omega
          by_cases g3 : D < s.sum
          · have Q : Hid (complete exp occ at_ (heldOf ps at_) s = { s with found := 1, sum := D, best := at_ }) := by
              show complete exp occ at_ (heldOf ps at_) s = { s with found := 1, sum := D, best := at_ }
              simp [complete, G1.out, g2, HD.out, g3]
            clear g2
            have f6 := HB.out.frozen 6
            have f7 := HB.out.frozen 7
            have KK := Lib.hid ((((Keeps.refl (· = g) w).drewN n).setCell (p := ⟨g, 6, none⟩) (fun _ => rfl) (.int .i64 1)).setCell (p := ⟨g, 7, none⟩) (fun _ => rfl) (.int .i64 D))
            have H1 : Hid (SkSt (((w.drewN n).setCell ⟨g, 6, none⟩ (.int .i64 1)).setCell ⟨g, 7, none⟩ (.int .i64 D)) g A c ps A2 c2 exp A3 c3 occ budget at_ (.slice Aa at_.length ca) { s with found := 1, sum := D }) := by
              refine H.out.set KK.out ⟨hr1, by show D ≤ 1000; omega⟩ (by show 1 ≤ s.steps + 1; omega) (vb := vb) ?_ HBE.out
              have := ((show Blk (w.drewN n) g _ _ from HB.out).set_ 6 (.int .i64 1)).set_ 7 (.int .i64 D)
              simpa using this
            have HRW : Hid (RInts (((w.drewN n).setCell ⟨g, 6, none⟩ (.int .i64 1)).setCell ⟨g, 7, none⟩ (.int .i64 D)) (fun b => g + 1 ≤ b ∧ b < w.heap.size) [.slice Aa at_.length ca] at_) := KK.out.rd RInts.ok HR.out (fun b hb => ⟨hb.2, by omega⟩) (fun _ h => h)
            have HSZ : Hid (w.heap.size ≤ (((w.drewN n).setCell ⟨g, 6, none⟩ (.int .i64 1)).setCell ⟨g, 7, none⟩ (.int .i64 D)).heap.size) := KK.out.size
            go_wp2_with (at_builtin; refine wpList_append_M tyInt RInt.ok RInt.one rfl (.const (.slice none 0 0)) (.tmp 92) rfl (OwnL.nil (base := w.heap.size) (lo := w.heap.size)) rfl rfl (S := fun b => g + 1 ≤ b ∧ b < w.heap.size) (S2 := fun _ => False) HRW.out (fun _ _ h => h) (fun _ h => h.elim) (by simp; omega) (by simp; omega) HSZ.out ?_; intro v' w1 ho1 hk1 ha1; obtain ⟨A', c', rfl, hc', hc2'⟩ := ho1.form; have H2 := Lib.hid (H1.out.keeps0 (hk1.mono (fun _ _ h => (by simp [Value.ownBlock] at h)))); have HK1 := Lib.hid hk1; have HO1 := Lib.hid ho1; clear ho1 hk1 ha1; obtain ⟨vb2, hblk2, hbest2⟩ := H2.out.blk; have d8 := hblk2.cell 8; have e8 := hblk2.frozen 8; simp at d8; have HB2 := Lib.hid hblk2; clear hblk2 hbest2)
            refine bodyPost_end (results_none rfl _ _ _) rfl ?_
            have HFAR : ∀ b, w.heap.size ≤ b → (Value.slice Aa at_.length ca).ownBlock ≠ some b := fun b hb e => by have := H.out.at_.lt e; omega
            have K2 := (Keeps.refl (· = g) w1).setCell (p := ⟨g, 8, none⟩) (fun _ => rfl) (.slice A' ([] ++ at_).length c')
            have KF : Keeps (fun b => g ≤ b) w (w1.setCell ⟨g, 8, none⟩ (.slice A' ([] ++ at_).length c')) := ((KK.out.trans HK1.out (fun _ _ h => (by simp [Value.ownBlock] at h))).trans K2 (fun x _ e => e)).mono (fun x _ e => by omega)
            refine ⟨rfl, ?_, KF⟩
            rw [Q.out]
            refine H2.out.set K2 ⟨hr1, by show D ≤ 1000; omega⟩ (by show 1 ≤ s.steps + 1; omega) (vb := .slice A' ([] ++ at_).length c') ?_ ?_
            · have := HB2.out.set_ 8 (.slice A' ([] ++ at_).length c')
              simpa using this
            · have hsz : w.heap.size ≤ w1.heap.size := Nat.le_trans KK.out.size HK1.out.size
              exact HO1.out.read RInt.ok (by omega) (fun b h1 h2 => ⟨by omega, h2, HFAR b h1⟩) (fun b h1 h2 => ⟨by omega, h2, HFAR b h1⟩)
          · have g3' : decide (D < s.sum) = false := by simp; omega
            by_cases g4 : D = s.sum
            · have Q : Hid (complete exp occ at_ (heldOf ps at_) s = { s with found := s.found + 1 }) := by
                show complete exp occ at_ (heldOf ps at_) s = { s with found := s.found + 1 }
                simp [complete, G1.out, g2, HD.out, g4]
              have g4' : (D == s.sum) = true := by simpa using g4
              have e6 := HB.out.frozen 6
              clear g2 g4
              go_wp2
              refine bodyPost_end (results_none rfl _ _ _) rfl ?_
              have KK := ((Keeps.refl (· = g) w).drewN n).setCell (p := ⟨g, 6, none⟩) (fun _ => rfl) (.int .i64 ((s.found : Int) + 1))
              refine ⟨rfl, ?_, KK.mono (fun x _ e => by omega)⟩
              rw [Q.out]
              refine H.out.set (s' := { s with found := s.found + 1 }) KK hss (by show s.found + 1 ≤ s.steps + 1; omega) (vb := vb) ?_ HBE.out
              have := (show Blk (w.drewN n) g _ _ from HB.out).set_ 6 (.int .i64 ((s.found : Int) + 1))
              simpa using this
            · have Q : Hid (complete exp occ at_ (heldOf ps at_) s = s) := by
                show complete exp occ at_ (heldOf ps at_) s = s
                simp only [complete, G1.out, if_true, HD.out]
                rw [if_neg (by simp [g2]; omega), if_neg g4]
              have g4' : (D == s.sum) = false := by simpa using g4
              have G2 := Lib.hid g2; clear g2
              go_wp2
              refine bodyPost_end (results_none rfl _ _ _) rfl ?_
              refine ⟨rfl, ?_, (Keeps.refl _ _).drewN _⟩
              rw [Q.out]
              exact H.out.keeps0 ((Keeps.refl _ _).drewN _)
      · have g1' : ((N : Int) != (occ.length : Int)) = true := by simp; omega
        have Q : Hid (complete exp occ at_ (heldOf ps at_) s = s) := by show complete exp occ at_ (heldOf ps at_) s = s; rw [complete, if_neg (by rw [HN.out]; exact g1)]
        clear g1
        go_wp2
        refine bodyPost_ret (results_none rfl _ _ _) rfl ?_
        refine ⟨rfl, ?_, (Keeps.refl _ _).drewN _⟩
        rw [Q.out]
        exact H.out.keeps0 ((Keeps.refl _ _).drewN _)

end Go.Proofs.YtbfgmbakeofcbaaGreat
