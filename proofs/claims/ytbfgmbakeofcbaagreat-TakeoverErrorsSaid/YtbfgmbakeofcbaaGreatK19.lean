/- Contracts of the small readers of the graph: number, release, happened. Conditions: as each theorem says. -/
import Derived.Test.YtbfgmbakeofcbaaGreatK18
namespace Go.Proofs.YtbfgmbakeofcbaaGreat
open Go.RowKit

/-- the graph's fixed parts in block g -/
structure GrB (w : World) (S : Foot) (g : Nat) (ps : List (List Stage)) (at_ : List Int) (v0 v1 v2 v3 v4 : Value) : Prop where
  b : Blk w g 121 #[v0, v1, v2, v3, v4]
  rp : RPaths w S [v0] ps
  ra : RInts w S [v1] at_
  rf : RInts w S [v2] (firsts ps)
  re : RRefs w S [v3] (evs ps)
theorem GrB.keeps {w w' : World} {S S' C : Foot} {g : Nat} {ps : List (List Stage)} {at_ : List Int} {v0 v1 v2 v3 v4 : Value} (h : GrB w S g ps at_ v0 v1 v2 v3 v4) (k : Keeps C w w') (hg : ¬ C g) (hS : ∀ b, S b → b < w.heap.size ∧ ¬ C b) (hS' : ∀ b, S b → S' b) : GrB w' S' g ps at_ v0 v1 v2 v3 v4 :=
  ⟨h.b.kept k hg, k.rd RPaths.ok h.rp hS hS', k.rd RInts.ok h.ra hS hS', k.rd RInts.ok h.rf hS hS', k.rd RRefs.ok h.re hS hS'⟩
theorem GrB.all {w w' : World} {g : Nat} {ps : List (List Stage)} {at_ : List Int} {v0 v1 v2 v3 v4 : Value} (h : GrB w (Old w) g ps at_ v0 v1 v2 v3 v4) (k : KeepsAll w w') : GrB w' (Old w') g ps at_ v0 v1 v2 v3 v4 :=
  h.keeps k (by simp) (fun _ hb => ⟨hb, by simp⟩) (fun _ hb => Nat.lt_of_lt_of_le hb k.size)
theorem RSlice.val {α : Type} {size : Nat} {E : Rd α} {w : World} {S : Foot} {v : Value} {l : List α} (h : RSlice size E w S [v] l) : ∃ A c, v = .slice A l.length c ∧ l.length ≤ c ∧ c ≤ 9223372036854775807 := by
  obtain ⟨A, c, he, h1, h2, _⟩ := h; injection he with he _; exact ⟨A, c, he, h1, h2⟩

set_option maxHeartbeats 400000 in
theorem number_any (w : World) (g : Nat) (ps : List (List Stage)) (at_ : List Int) (v0 v1 v2 v3 v4 : Value) (h : GrB w (Old w) g ps at_ v0 v1 v2 v3 v4) (t k : Nat) (ht : t < ps.length) (hf : fst ps t ≤ 1000000) (hk : k ≤ 1000000) :
    Calls Tryz.prog 100 #[.pointer (some ⟨g, 0, none⟩), .agg #[.int .i64 (t : Int), .int .i64 (k : Int)]] w fun e w' => e = .returned (.int .i64 ((fst ps t : Int) + (k : Int))) ∧ KeepsAll w w' := by
  obtain ⟨A2, c2, rfl, hc, hc2⟩ := h.rf.val
  have e2 := h.b.cell 2
  simp at e2
  have hg := h.b.lt
  rw [firsts_len] at hc e2
  have hrf := h.rf
  rw [firsts_len] at hrf
  obtain ⟨b, o, x, rfl, hb, hx, m0⟩ := hrf.at_ (k := t) (by rw [firsts_len]; exact ht)
  rw [firsts_at ht] at hx; injection hx with hx; subst hx
  have hb' : b < w.heap.size := hb
  clear h hrf
  go_enter Tryz.func100, Tryz.ntmps100
  go_wp2
  go_quiet (fail)
  go_wp2
  go_ret
  exact ⟨rfl, ((Keeps.refl _ _).alloc _).drewN _⟩

set_option maxHeartbeats 400000 in
theorem release_any (ps : List (List Stage)) (r : Int) (A : Option Addr) (c : Nat) (w : World) (h : RPaths w (Old w) [.slice A ps.length c] ps) (t k : Nat) (p : List Stage) (s : Stage) (hp : ps[t]? = some p) (hs : p[k]? = some s) (hk : k ≤ 1000000) :
    Calls Tryz.prog 54 #[.slice A ps.length c, .int .i64 r, .agg #[.int .i64 (t : Int), .int .i64 (k : Int)]] w fun e w' => e = .returned (.agg #[.int .i64 (t : Int), .int .i64 (relOf ps r ⟨(t : Int), (k : Int)⟩).st]) ∧ KeepsAll w w' := by
  have hc := h.caps
  have HR : Hid (relOf ps r ⟨(t : Int), (k : Int)⟩ = if s.sec = r then ⟨(t : Int), (k : Int) + 1⟩ else ⟨(t : Int), (k : Int)⟩) := by
    show relOf ps r _ = _
    simp [relOf, secOf, hp, hs]
  have ht := getElem?_lt hp
  have hkl := getElem?_lt hs
  obtain ⟨b, o, p', A', c', rfl, hb, hp', k1, hr⟩ := RSS.at_ h ht
  obtain rfl := same_of hp' hp
  have hcp := hr.caps
  obtain ⟨b2, o2, s', A2, c2, rfl, hb2, hs', m0, _⟩ := RPath.at_ hr hkl
  obtain rfl := same_of hs' hs
  have hb' : b < w.heap.size := hb
  have hb2' : b2 < w.heap.size := hb2
  clear h hr hp hp' hs hs'
  by_cases g : (s'.sec == r) = true
  · have Q : Hid ((relOf ps r ⟨(t : Int), (k : Int)⟩).st = (k : Int) + 1) := by
      show (relOf ps r _).st = _
      rw [HR.out, if_pos (by simpa using g)]
    clear HR
    go_enter Tryz.func54, Tryz.ntmps54
    go_wp2
    go_quiet (fail)
    go_wp2
    refine bodyPost_ret (v := .agg #[.int .i64 (t : Int), .int .i64 ((k : Int) + 1)]) (by simp [results, Tryz.results54, go_sem]) rfl ⟨by rw [Q.out], ?_⟩
    repeat first | exact Keeps.refl _ _ | refine Keeps.alloc ?_ _ | refine Keeps.drewN ?_ _ | refine Keeps.setCell ?_ (fun h => absurd h (by simp)) _
  · have g' : (s'.sec == r) = false := by simpa using g
    have Q : Hid ((relOf ps r ⟨(t : Int), (k : Int)⟩).st = (k : Int)) := by
      show (relOf ps r _).st = _
      rw [HR.out, if_neg (by simpa using g)]
    clear HR
    go_enter Tryz.func54, Tryz.ntmps54
    go_wp2
    go_quiet (fail)
    go_wp2
    refine bodyPost_ret (v := .agg #[.int .i64 (t : Int), .int .i64 (k : Int)]) (by simp [results, Tryz.results54, go_sem]) rfl ⟨by rw [Q.out], ?_⟩
    repeat first | exact Keeps.refl _ _ | refine Keeps.alloc ?_ _ | refine Keeps.drewN ?_ _ | refine Keeps.setCell ?_ (fun h => absurd h (by simp)) _

set_option maxHeartbeats 400000 in
theorem happened_any (w : World) (g : Nat) (ps : List (List Stage)) (at_ : List Int) (v0 v1 v2 v3 v4 : Value) (h : GrB w (Old w) g ps at_ v0 v1 v2 v3 v4) (i t k : Nat) (x : Int) (hi : (evs ps)[i]? = some ⟨(t : Int), (k : Int)⟩) (hx : at_[t]? = some x) :
    Calls Tryz.prog 101 #[.pointer (some ⟨g, 0, none⟩), .int .i64 (i : Int)] w fun e w' => e = .returned (.bool (decide ((k : Int) ≤ x))) ∧ ∃ n, w' = w.drewN n := by
  obtain ⟨A1, c1, rfl, hc1, hd1⟩ := h.ra.val
  obtain ⟨A3, c3, rfl, hc3, hd3⟩ := h.re.val
  have e1 := h.b.cell 1
  have e3 := h.b.cell 3
  simp at e1 e3
  have hg := h.b.lt
  have hil := getElem?_lt hi
  have htl := getElem?_lt hx
  obtain ⟨b, o, u, rfl, hb, hu, m0, m1⟩ := RRefs.at_ h.re hil
  obtain rfl := same_of hu hi
  obtain ⟨b2, o2, y, rfl, hb2, hy, n0⟩ := h.ra.at_ htl
  obtain rfl := same_of hy hx
  clear h hu hi hy hx
  simp only [] at m0 m1
  go_enter Tryz.func101, Tryz.ntmps101
  go_wp2
  go_quiet (fail)
  go_wp2
  go_ret
  exact ⟨rfl, _, rfl⟩

end Go.Proofs.YtbfgmbakeofcbaaGreat
