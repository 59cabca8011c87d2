/- Contracts of sections and of the example of chapter 38. Conditions: as each theorem says. Contract of the reference's CheckState. Conditions: as the theorem says. The orders of chapter 35 as plain lists: which uses a resource has, and when orders are valid. No program in sight. -/
import Derived.Test.YtbfgmbakeofcbaaGreatK14
import Derived.Test.YtbfgmbakeofcbaaGreatK15
import Derived.Test.YtbfgmbakeofcbaaGreatK04
import Derived.Test.YtbfgmbakeofcbaaGreatK03
namespace Go.Proofs.YtbfgmbakeofcbaaGreat
open Go.RowKit

def secList (ps : List (List Stage)) (at_ : List Int) : List Int := List.zipWith secAt ps at_
theorem secList_at {ps : List (List Stage)} {at_ : List Int} {t : Nat} {p : List Stage} {a : Int} (hp : ps[t]? = some p) (ha : at_[t]? = some a) : (secList ps at_)[t]? = some (secAt p a) := by
  simp [secList, List.getElem?_zipWith, hp, ha]

def checkState (ps : List (List Stage)) (at_ : List Int) : Int := if (valid ps && good ps at_) = false then 1 else if (heldOf ps at_).Nodup then 0 else 17

theorem mem_heldOf : ∀ {ps : List (List Stage)} (_ : secsNonneg ps) (l : List Int) (x : Int), x ∈ heldOf ps l ↔ x ∈ secList ps l ∧ 0 ≤ x
  | [], _, l, x => by simp [heldOf, secList]
  | p :: ps, _, [], x => by simp [heldOf, secList]
  | p :: ps, h, a :: l, x => by
    have ih := mem_heldOf (ps := ps) (fun q hq => h q (by simp [hq])) l x
    have hn := secAt_neg (h p (by simp)) a
    simp only [heldOf, secList, List.zipWith_cons_cons, List.mem_append, List.mem_cons] at *
    rw [ih]
    rcases hn with ⟨h1, h2⟩ | ⟨h1, h2⟩
    · rw [if_pos h1, h2]; simp; omega
    · rw [if_neg h1]; simp
      constructor
      · rintro (rfl | h)
        · exact ⟨.inl rfl, h2⟩
        · exact ⟨.inr h.1, h.2⟩
      · rintro ⟨rfl | h, h3⟩
        · exact .inl rfl
        · exact .inr ⟨h, h3⟩
theorem secList_take (ps : List (List Stage)) : ∀ (l : List Int) (k : Nat), secList ps (l.take k) = (secList ps l).take k := by
  induction ps with
  | nil => simp [secList]
  | cons p ps ih =>
    intro l k
    cases l with
    | nil => simp [secList]
    | cons a l => cases k with
      | zero => simp [secList]
      | succ k => have := ih l k; simp only [secList] at this; simp [secList, this]

theorem nodup_snoc {l : List Int} {x : Int} (h : l.Nodup) (hx : x ∉ l) : (l ++ [x]).Nodup := List.nodup_append.2 ⟨h, by simp, fun a ha b hb => by simp at hb; subst hb; rintro rfl; exact hx ha⟩
theorem heldOf_sublist (ps : List (List Stage)) : ∀ (l : List Int) (k : Nat), (heldOf ps (l.take k)).Sublist (heldOf ps l) := by
  induction ps with
  | nil => intro l k; simp [heldOf]
  | cons p ps ih =>
    intro l k
    cases l with
    | nil => simp [heldOf]
    | cons a l => cases k with
      | zero => simp [heldOf]
      | succ k => simp only [List.take_succ_cons, heldOf]; exact List.Sublist.append (List.Sublist.refl _) (ih l k)

set_option maxRecDepth 100000 in
set_option maxHeartbeats 1000000 in
theorem CheckState_any (ps : List (List Stage)) (at_ : List Int) (A A2 : Option Addr) (c c2 : Nat) (w : World) (h : RPaths w (Old w) [.slice A ps.length c] ps) (h2 : RInts w (Old w) [.slice A2 at_.length c2] at_) :
    Calls Tryz.prog 18 #[.slice A ps.length c, .slice A2 at_.length c2] w fun e w' => e = .returned (.int .i64 (checkState ps at_)) ∧ KeepsAll w w' := by
  have hc := h.caps
  have hc2 := h2.caps
  have H := Lib.hid h; clear h
  have H2 := Lib.hid h2; clear h2
  by_cases g1 : valid ps = true
  · go_enter Tryz.func18, Tryz.ntmps18
    go_wp2_with fail
    refine (RefValid_any ps A c w H.out).mono ?_
    rintro e w1 ⟨rfl, k1⟩
    have H1 := Lib.hid (k1.rd RPaths.ok H.out (fun b hb => ⟨hb, by simp⟩) (fun _ h => h))
    have H21 := Lib.hid (k1.rd RInts.ok H2.out (fun b hb => ⟨hb, by simp⟩) (fun _ h => h))
    have K1 := Lib.hid k1; clear k1
    by_cases g2 : good ps at_ = true
    · have hl : at_.length = ps.length := by have := g2; simp only [good, Bool.and_eq_true, decide_eq_true_eq] at this; exact this.1
      have hl1 : at_.length ≤ ps.length := by omega
      have hl2 : ps.length ≤ at_.length := by omega
      clear hl
      have HSN : Hid (secsNonneg ps) := valid_secs g1
      go_wp2_with (go_at_call 26; refine (rGood_any ps at_ A A2 c c2 _ (Old w) (Old w) H1.out H21.out).mono ?_; rintro e w2 ⟨rfl, rfl⟩)
      go_loopw [19] (fun i wr => ∃ t n : Nat, t ≤ ps.length ∧ i = .int .i64 t ∧ wr = w1.drewN n ∧ (heldOf ps (at_.take t)).Nodup) (fun i _ => ps.length - (intOf i).toNat)
      case atStart => exact ⟨0, 0, Nat.zero_le _, rfl, rfl, by cases ps <;> simp [heldOf]⟩
      case round =>
        obtain ⟨t, n, ht, rfl, rfl, hnd⟩ := hrel
        have HND := Lib.hid hnd; clear hnd
        by_cases hlt : t < ps.length
        · have hdt : decide ((t : Int) < (ps.length : Int)) = true := by simp; omega
          have hp : ps[t]? = some ps[t] := List.getElem?_eq_getElem hlt
          have ha : at_[t]? = some (at_[t]'(by omega)) := List.getElem?_eq_getElem (by omega)
          have hsl := secList_at hp ha
          have hneg := secAt_neg (HSN.out ps[t] (List.mem_of_getElem? hp)) (at_[t]'(by omega))
          have hht := held_take hp ha
          have SC : Hid (∀ m, Calls Tryz.prog 45 #[.slice A ps.length c, .slice A2 at_.length c2, .int .i64 t] (w1.drewN m) fun e w' => e = .returned (.int .i64 (secAt ps[t] (at_[t]'(by omega)))) ∧ ∃ n, w' = (w1.drewN m).drewN n) := fun m => Section_any ps at_ A A2 c c2 (w1.drewN m) (Old w) (Old w) (by exact H1.out) (by exact H21.out) t _ _ hp ha
          generalize secAt ps[t] (at_[t]'(by omega)) = sx at hsl hneg hht SC
          have HSL := Lib.hid hsl
          have HNEG := Lib.hid hneg
          have HHT := Lib.hid hht
          clear hp ha hsl hneg hht
          go_wp2
          go_loopw [6] (fun i wr => ∃ u n : Nat, u ≤ t ∧ i = .int .i64 u ∧ wr = w1.drewN n ∧ (0 ≤ sx → sx ∉ (secList ps at_).take u)) (fun i _ => t - (intOf i).toNat)
          case atStart => exact ⟨0, n, Nat.zero_le _, rfl, rfl, by simp⟩
          case round =>
            obtain ⟨u, m, hu, rfl, rfl, hno⟩ := hrel
            have HNO := Lib.hid hno; clear hno
            by_cases hlt2 : u < t
            · have hdu : decide ((u : Int) < (t : Int)) = true := by simp; omega
              have hul : u < ps.length := by omega
              have hp : ps[u]? = some ps[u] := List.getElem?_eq_getElem hul
              have ha : at_[u]? = some (at_[u]'(by omega)) := List.getElem?_eq_getElem (by omega)
              have hsl := secList_at hp ha
              have SU : Hid (∀ m, Calls Tryz.prog 45 #[.slice A ps.length c, .slice A2 at_.length c2, .int .i64 u] (w1.drewN m) fun e w' => e = .returned (.int .i64 (secAt ps[u] (at_[u]'(by omega)))) ∧ ∃ n, w' = (w1.drewN m).drewN n) := fun m => Section_any ps at_ A A2 c c2 (w1.drewN m) (Old w) (Old w) (by exact H1.out) (by exact H21.out) u _ _ hp ha
              generalize secAt ps[u] (at_[u]'(by omega)) = su at hsl SU
              have HSU := Lib.hid hsl
              clear hp ha hsl
              by_cases g3 : 0 ≤ sx
              · have g3' : decide (sx ≥ 0) = true := by simp; omega
                by_cases g4 : sx = su
                · have g4' : (sx == su) = true := by simpa using g4
                  have Q : Hid (checkState ps at_ = 17) := by
                    show checkState ps at_ = 17
                    unfold checkState
                    rw [if_neg (by simp [g1, g2]), if_neg ?_]
                    intro hn
                    have hn2 := List.Sublist.nodup (heldOf_sublist ps at_ (t + 1)) hn
                    rw [HHT.out] at hn2
                    rcases HNEG.out with h | h
                    · omega
                    · rw [if_neg h.1] at hn2
                      have := (List.nodup_append.1 hn2).2.2 sx ((mem_heldOf HSN.out _ _).2 ⟨by rw [secList_take]; exact List.mem_of_getElem? (by rw [List.getElem?_take_of_lt hlt2, g4]; exact HSU.out), g3⟩) sx (by simp)
                      exact this rfl
                  clear g4
                  go_wp2_with (first | (go_at_call 45; (with_reducible refine (SC.out _).mono ?_); rintro e w7 ⟨rfl, n7, rfl⟩) | (go_at_call 45; (with_reducible refine (SU.out _).mono ?_); rintro e w8 ⟨rfl, n8, rfl⟩))
                  go_ret
                  rw [Q.out]
                  exact ⟨rfl, K1.out.drewN _⟩
                · have g4' : (sx == su) = false := by simpa using g4
                  have Q : Hid (0 ≤ sx → sx ∉ (secList ps at_).take (u + 1)) := by
                    show _ → _
                    intro h0
                    rw [List.take_add_one, HSU.out]; simp
                    exact ⟨by simpa using HNO.out h0, g4⟩
                  clear g4
                  go_wp2_with (first | (go_at_call 45; (with_reducible refine (SC.out _).mono ?_); rintro e w7 ⟨rfl, n7, rfl⟩) | (go_at_call 45; (with_reducible refine (SU.out _).mono ?_); rintro e w8 ⟨rfl, n8, rfl⟩))
                  go_roundw
                  case rel => exact ⟨u + 1, _, by omega, by go_num, rfl, Q.out⟩
                  case measure => simp [intOf]; omega
              · have g3' : decide (sx ≥ 0) = false := by simp; omega
                go_wp2_with (first | (go_at_call 45; (with_reducible refine (SC.out _).mono ?_); rintro e w7 ⟨rfl, n7, rfl⟩))
                go_roundw
                case rel => exact ⟨u + 1, _, by omega, by go_num, rfl, fun h => (by omega)⟩
                case measure => simp [intOf]; omega
            · obtain rfl : u = t := by omega
              have Q : Hid ((heldOf ps (at_.take (u + 1))).Nodup) := by
                show List.Nodup _
                rw [HHT.out]
                rcases HNEG.out with h | h
                · rw [if_pos h.1, List.append_nil]; exact HND.out
                · rw [if_neg h.1]
                  refine nodup_snoc HND.out (fun hm => HNO.out h.2 ?_)
                  have := ((mem_heldOf HSN.out _ _).1 hm).1
                  rw [secList_take] at this; exact this
              go_wp2
              go_roundw
              case rel => exact ⟨u + 1, _, by omega, by go_num, rfl, Q.out⟩
              case measure => simp [intOf]; omega
        · obtain rfl : t = ps.length := by omega
          have Q : Hid (checkState ps at_ = 0) := by
            show checkState ps at_ = 0
            unfold checkState
            rw [if_neg (by simp [g1, g2]), if_pos]
            have e : at_.take ps.length = at_ := List.take_of_length_le (by omega)
            have := HND.out; rw [e] at this; exact this
          go_wp2
          go_ret
          rw [Q.out]
          exact ⟨rfl, K1.out.drewN _⟩
    · have g2' : good ps at_ = false := by simpa using g2
      have Q : Hid (checkState ps at_ = 1) := by show checkState ps at_ = _; simp [checkState, g2']
      go_wp2_with (go_at_call 26; refine (rGood_any ps at_ A A2 c c2 _ (Old w) (Old w) H1.out H21.out).mono ?_; rintro e w2 ⟨rfl, rfl⟩)
      go_ret
      rw [Q.out]
      exact ⟨rfl, K1.out⟩
  · have g1' : valid ps = false := by simpa using g1
    have Q : Hid (checkState ps at_ = 1) := by show checkState ps at_ = _; simp [checkState, g1']
    go_enter Tryz.func18, Tryz.ntmps18
    go_wp2_with (go_at_call 25; refine (RefValid_any ps A c w H.out).mono ?_; rintro e w1 ⟨rfl, k1⟩)
    go_ret
    rw [Q.out]
    exact ⟨rfl, k1⟩

def stUses (s : Stage) : List Int := s.sec :: s.pts
def usesAll (ps : List (List Stage)) : List Int := ps.flatten.flatMap stUses
def pathAll (r : Int) (t : Nat) (p : List Stage) : List Ref := p.zipIdx.flatMap fun q => if r ∈ stUses q.1 then [⟨(t : Int), (q.2 : Int)⟩] else []
def allU (ps : List (List Stage)) (r : Int) : List Ref := ps.zipIdx.flatMap fun q => pathAll r q.2 q.1

theorem zipIdx_take_succ {α : Type} {l : List α} {k : Nat} {x : α} (h : l[k]? = some x) : (l.take (k + 1)).zipIdx = (l.take k).zipIdx ++ [(x, k)] := by
  have hk : (l.take k).length = k := by have := getElem?_lt h; simp; omega
  rw [List.take_add_one, h, Option.toList_some, List.zipIdx_append, hk]
  simp
theorem pathAll_nil (r : Int) (t : Nat) : pathAll r t [] = [] := rfl
theorem pathAll_succ (r : Int) (t : Nat) {p : List Stage} {k : Nat} {s : Stage} (h : p[k]? = some s) : pathAll r t (p.take (k + 1)) = pathAll r t (p.take k) ++ (if r ∈ stUses s then [⟨(t : Int), (k : Int)⟩] else []) := by
  unfold pathAll; rw [zipIdx_take_succ h]; simp
theorem allU_succ (r : Int) {ps : List (List Stage)} {t : Nat} {p : List Stage} (h : ps[t]? = some p) : allU (ps.take (t + 1)) r = allU (ps.take t) r ++ pathAll r t p := by
  unfold allU; rw [zipIdx_take_succ h]; simp
theorem mem_pathAll {r : Int} {t : Nat} {p : List Stage} {u : Ref} : u ∈ pathAll r t p ↔ ∃ (k : Nat) (s : Stage), p[k]? = some s ∧ r ∈ stUses s ∧ u = ⟨(t : Int), (k : Int)⟩ := by
  unfold pathAll
  rw [List.mem_flatMap]
  constructor
  · rintro ⟨⟨s, k⟩, hq, hu⟩
    rw [List.mem_zipIdx_iff_getElem?] at hq
    by_cases h : r ∈ stUses s
    · simp only [h, if_true, List.mem_singleton] at hu
      exact ⟨k, s, hq, h, hu⟩
    · simp [h] at hu
  · rintro ⟨k, s, hk, hr, rfl⟩
    exact ⟨(s, k), List.mem_zipIdx_iff_getElem?.2 hk, by simp [hr]⟩
theorem mem_allU {ps : List (List Stage)} {r : Int} {u : Ref} : u ∈ allU ps r ↔ ∃ (t k : Nat) (p : List Stage) (s : Stage), ps[t]? = some p ∧ p[k]? = some s ∧ r ∈ stUses s ∧ u = ⟨(t : Int), (k : Int)⟩ := by
  unfold allU
  rw [List.mem_flatMap]
  constructor
  · rintro ⟨⟨p, t⟩, hq, hu⟩
    rw [List.mem_zipIdx_iff_getElem?] at hq
    obtain ⟨k, s, hk, hr, rfl⟩ := mem_pathAll.1 hu
    exact ⟨t, k, p, s, hq, hk, hr, rfl⟩
  · rintro ⟨t, k, p, s, ht, hk, hr, rfl⟩
    exact ⟨(p, t), List.mem_zipIdx_iff_getElem?.2 ht, mem_pathAll.2 ⟨k, s, hk, hr, rfl⟩⟩
theorem mem_usesAll {ps : List (List Stage)} {r : Int} : r ∈ usesAll ps ↔ ∃ (t k : Nat) (p : List Stage) (s : Stage), ps[t]? = some p ∧ p[k]? = some s ∧ r ∈ stUses s := by
  unfold usesAll
  simp only [List.mem_flatMap, List.mem_flatten]
  constructor
  · rintro ⟨s, ⟨p, hp, hs⟩, hr⟩
    obtain ⟨t, ht⟩ := List.mem_iff_getElem?.1 hp
    obtain ⟨k, hk⟩ := List.mem_iff_getElem?.1 hs
    exact ⟨t, k, p, s, ht, hk, hr⟩
  · rintro ⟨t, k, p, s, ht, hk, hr⟩
    exact ⟨s, ⟨p, List.mem_of_getElem? ht, List.mem_of_getElem? hk⟩, hr⟩
theorem allU_nil_iff {ps : List (List Stage)} {r : Int} : allU ps r = [] ↔ r ∉ usesAll ps := by
  rw [List.eq_nil_iff_forall_not_mem]
  constructor
  · intro h hr
    obtain ⟨t, k, p, s, ht, hk, hr⟩ := mem_usesAll.1 hr
    exact h _ (mem_allU.2 ⟨t, k, p, s, ht, hk, hr, rfl⟩)
  · intro h u hu
    obtain ⟨t, k, p, s, ht, hk, hr, _⟩ := mem_allU.1 hu
    exact h (mem_usesAll.2 ⟨t, k, p, s, ht, hk, hr⟩)

/-- the number of uses -/
theorem sum_zipIdx {α : Type} (g : α → Nat) : ∀ (l : List α) (k : Nat), ((l.zipIdx k).map fun q => g q.1).sum = (l.map g).sum
  | [], _ => rfl
  | a :: l, k => by simp only [List.zipIdx_cons, List.map_cons, List.sum_cons, sum_zipIdx g l (k + 1)]
theorem allU_len (ps : List (List Stage)) (r : Int) : (allU ps r).length = (ps.map fun p => (p.map fun s => if r ∈ stUses s then 1 else 0).sum).sum := by
  have h1 : ∀ (t : Nat) (p : List Stage), (pathAll r t p).length = (p.map fun s => if r ∈ stUses s then 1 else 0).sum := by
    intro t p
    unfold pathAll
    rw [List.length_flatMap, ← sum_zipIdx (fun s => if r ∈ stUses s then 1 else 0) p 0]
    congr 1
    apply List.map_congr_left
    rintro ⟨s, k⟩ _
    by_cases h : r ∈ stUses s <;> simp [h]
  unfold allU
  rw [List.length_flatMap, ← sum_zipIdx (fun p : List Stage => (p.map fun s => if r ∈ stUses s then 1 else 0).sum) ps 0]
  congr 1
  apply List.map_congr_left
  rintro ⟨p, t⟩ _
  exact h1 t p
theorem usesAll_count (ps : List (List Stage)) (r : Int) (hn : ∀ p ∈ ps, ∀ s ∈ p, (stUses s).Nodup) : (usesAll ps).count r = (allU ps r).length := by
  rw [allU_len]
  unfold usesAll
  rw [List.count_flatMap]
  induction ps with
  | nil => rfl
  | cons p ps ih =>
    simp only [List.flatten_cons, List.map_append, List.sum_append, List.map_cons, List.sum_cons]
    rw [ih (fun q hq => hn q (by simp [hq]))]
    congr 1
    congr 1
    apply List.map_congr_left
    intro s hs
    have h1 := List.nodup_iff_count.1 (hn p (by simp) s hs) r
    simp only [Function.comp]
    by_cases h : r ∈ stUses s
    · have := List.count_pos_iff.2 h
      rw [if_pos h]; omega
    · rw [if_neg h]; exact List.count_eq_zero.2 h
theorem stageOk_nodup {s : Stage} (h : stageOk s = true) : (stUses s).Nodup := by
  simp only [stageOk, Bool.and_eq_true, decide_eq_true_eq] at h
  obtain ⟨⟨⟨_, h2⟩, h3⟩, _⟩ := h
  obtain ⟨sec, pts, mn, nt⟩ := s
  match pts, h2, h3 with
  | [], _, _ => simp [stUses]
  | [a], _, h3 =>
    simp [ptsFrom, ptOk] at h3
    simp [stUses]; exact fun e => h3.2 e.symm
  | [a, b], _, h3 =>
    simp [ptsFrom, ptOk] at h3
    simp [stUses]; exact ⟨⟨fun e => h3.1.2 e.symm, fun e => h3.2.1.2 e.symm⟩, fun e => h3.2.2 e.symm⟩
  | _ :: _ :: _ :: _, h2, _ => simp at h2
theorem stepsFrom_all {p : List Stage} : ∀ (l : List Stage) (j : Nat), stepsFrom p j l = true → ∀ s ∈ l, stageOk s = true
  | [], _, _, s, hs => by simp at hs
  | a :: l, j, h, s, hs => by
    simp only [stepsFrom, Bool.and_eq_true, stepOk] at h
    rcases List.mem_cons.1 hs with rfl | hs
    · exact h.1.1
    · exact stepsFrom_all l (j + 1) h.2 s hs
theorem valid_stage {ps : List (List Stage)} (h : valid ps = true) {p : List Stage} (hp : p ∈ ps) {s : Stage} (hs : s ∈ p) : stageOk s = true := by
  simp only [valid, Bool.and_eq_true, decide_eq_true_eq, List.all_eq_true] at h
  have := h.1.2 p hp
  simp only [pathOk, Bool.and_eq_true, decide_eq_true_eq] at this
  exact stepsFrom_all p 0 this.2 s hs
theorem valid_lens {ps : List (List Stage)} (h : valid ps = true) : ps.length ≤ 10 ∧ ∀ p ∈ ps, 1 ≤ p.length ∧ p.length ≤ 64 := by
  simp only [valid, Bool.and_eq_true, decide_eq_true_eq, List.all_eq_true] at h
  refine ⟨h.1.1, fun p hp => ?_⟩
  have := h.1.2 p hp
  simp only [pathOk, Bool.and_eq_true, decide_eq_true_eq] at this
  exact this.1
theorem valid_use {ps : List (List Stage)} (h : valid ps = true) {r : Int} (hr : r ∈ usesAll ps) : 0 ≤ r ∧ r < 144 := by
  obtain ⟨t, k, p, s, ht, hk, hr⟩ := mem_usesAll.1 hr
  have hs := valid_stage h (List.mem_of_getElem? ht) (List.mem_of_getElem? hk)
  simp only [stUses, List.mem_cons] at hr
  have : isRes r = true := by
    rcases hr with rfl | hr
    · exact stageOk_sec hs
    · exact stageOk_pts hs r hr
  simp [isRes] at this; exact this
theorem valid_count {ps : List (List Stage)} (h : valid ps = true) (r : Int) : (usesAll ps).count r = (allU ps r).length :=
  usesAll_count ps r fun _ hp _ hs => stageOk_nodup (valid_stage h hp hs)

/-- valid orders -/
def PairOk (v u : Ref) : Prop := v ≠ u ∧ ¬ (v.tr = u.tr ∧ u.st < v.st)
instance (v u : Ref) : Decidable (PairOk v u) := by unfold PairOk; infer_instance
def exactlyB (l want : List Ref) : Bool := decide (l.length = want.length) && l.all (fun u => decide (u ∈ want)) && decide (l.Pairwise PairOk)
def resTo (ps : List (List Stage)) : Nat → List Int
  | 0 => []
  | n + 1 => resTo ps n ++ (if (n : Int) ∈ usesAll ps then [(n : Int)] else [])
def checkO (ps : List (List Stage)) (os : List Order) : Bool := valid ps && decide (os.map (·.res) = resTo ps 144) && os.all (fun o => exactlyB o.uses (allU ps o.res))

theorem mem_resTo {ps : List (List Stage)} {r : Int} : ∀ n : Nat, r ∈ resTo ps n ↔ r ∈ usesAll ps ∧ 0 ≤ r ∧ r < n
  | 0 => by simp [resTo]; try omega
  | n + 1 => by
    simp only [resTo, List.mem_append, mem_resTo n]
    by_cases h : (n : Int) ∈ usesAll ps
    · simp only [h, if_true, List.mem_singleton]
      constructor
      · rintro (⟨h1, h2, h3⟩ | rfl)
        · exact ⟨h1, h2, by omega⟩
        · exact ⟨h, by omega, by omega⟩
      · rintro ⟨h1, h2, h3⟩
        by_cases e : r = n
        · exact .inr e
        · exact .inl ⟨h1, h2, by omega⟩
    · simp only [h, if_false, List.not_mem_nil, or_false]
      constructor
      · rintro ⟨h1, h2, h3⟩; exact ⟨h1, h2, by omega⟩
      · rintro ⟨h1, h2, h3⟩
        refine ⟨h1, h2, ?_⟩
        have : r ≠ n := by rintro rfl; exact h h1
        omega
theorem resTo_pw (ps : List (List Stage)) : ∀ n : Nat, (resTo ps n).Pairwise (· < ·)
  | 0 => List.Pairwise.nil
  | n + 1 => by
    rw [resTo, List.pairwise_append]
    refine ⟨resTo_pw ps n, by split <;> simp, fun a ha b hb => ?_⟩
    split at hb
    · simp at hb; subst hb; exact ((mem_resTo n).1 ha).2.2
    · simp at hb
theorem resTo_le (ps : List (List Stage)) (n : Nat) : ∀ m, n ≤ m → ∃ l, resTo ps m = resTo ps n ++ l
  | 0, h => by obtain rfl : n = 0 := by omega
               exact ⟨[], by simp⟩
  | m + 1, h => by
    by_cases e : n = m + 1
    · subst e; exact ⟨[], by simp⟩
    · obtain ⟨l, hl⟩ := resTo_le ps n m (by omega)
      exact ⟨l ++ _, by rw [resTo, hl, List.append_assoc]⟩
/-- ascending lists with the same members are equal -/
theorem pw_ext : ∀ (l m : List Int), l.Pairwise (· < ·) → m.Pairwise (· < ·) → (∀ x, x ∈ l ↔ x ∈ m) → l = m
  | [], [], _, _, _ => rfl
  | [], b :: m, _, _, h => by have := (h b).2 (by simp); simp at this
  | a :: l, [], _, _, h => by have := (h a).1 (by simp); simp at this
  | a :: l, b :: m, hl, hm, h => by
    obtain ⟨ha, hl'⟩ := List.pairwise_cons.1 hl
    obtain ⟨hb, hm'⟩ := List.pairwise_cons.1 hm
    have hab : a = b := by
      have h1 := (h a).1 (by simp)
      have h2 := (h b).2 (by simp)
      rcases List.mem_cons.1 h1 with e | h1
      · exact e
      · rcases List.mem_cons.1 h2 with e | h2
        · exact e.symm
        · have := ha b h2; have := hb a h1; omega
    subst hab
    have key : ∀ x, x ∈ l ↔ x ∈ m := by
     intro x
     constructor
     · intro hx
       have := ha x hx
       rcases List.mem_cons.1 ((h x).1 (by simp [hx])) with e | h'
       · omega
       · exact h'
     · intro hx
       have := hb x hx
       rcases List.mem_cons.1 ((h x).2 (by simp [hx])) with e | h'
       · omega
       · exact h'
    rw [pw_ext l m hl' hm' key]
theorem nodup_le {l m : List Int} (hl : l.Nodup) (h : ∀ x ∈ l, x ∈ m) : l.length ≤ m.length := by
  induction l generalizing m with
  | nil => simp
  | cons a l ih =>
    obtain ⟨ha, hl⟩ := List.nodup_cons.1 hl
    have hm := h a (by simp)
    have := ih (m := m.erase a) hl (fun x hx => by
      have hx' := h x (by simp [hx])
      exact (List.mem_erase_of_ne (by rintro rfl; exact ha hx)).2 hx')
    rw [List.length_erase_of_mem hm] at this
    have := List.length_pos_of_mem hm
    simp; omega
theorem nodup_full {l m : List Int} (hl : l.Nodup) (h : ∀ x ∈ l, x ∈ m) (hlen : m.length ≤ l.length) (_hm : m.Nodup) : ∀ x ∈ m, x ∈ l := by
  intro x hx
  rcases Classical.em (x ∈ l) with h' | h'
  · exact h'
  · have := nodup_le (l := x :: l) (m := m) (List.nodup_cons.2 ⟨h', hl⟩) (fun y hy => by
      rcases List.mem_cons.1 hy with rfl | hy
      · exact hx
      · exact h y hy)
    simp at this; omega

/-- the program's test of the uses of one order, with the last stage of each train so far -/
def useFits (ps : List (List Stage)) (r : Int) (last : List Int) (u : Ref) : Bool :=
  decide (0 ≤ u.tr) && decide (u.tr < ps.length) && decide ((last[u.tr.toNat]?).getD 0 < u.st) && decide (u.st < ((ps[u.tr.toNat]?).getD []).length) && decide (r ∈ (((ps[u.tr.toNat]?).getD [])[u.st.toNat]?).elim [] stUses)
def properFrom (ps : List (List Stage)) (r : Int) : List Ref → List Int → Bool
  | [], _ => true
  | u :: l, last => useFits ps r last u && properFrom ps r l (last.set u.tr.toNat u.st)
def properB (ps : List (List Stage)) (o : Order) : Bool := properFrom ps o.res o.uses (List.replicate ps.length (-1))

theorem useFits_iff {ps : List (List Stage)} {r : Int} {last : List Int} (hl : last.length = ps.length) (hm : ∀ x ∈ last, -1 ≤ x) (u : Ref) :
    useFits ps r last u = true ↔ u ∈ allU ps r ∧ ∀ x, last[u.tr.toNat]? = some x → x < u.st := by
  obtain ⟨tr, st⟩ := u
  simp only [useFits, Bool.and_eq_true, decide_eq_true_eq, mem_allU]
  constructor
  · rintro ⟨⟨⟨⟨h1, h2⟩, h3⟩, h4⟩, h5⟩
    obtain ⟨t, rfl⟩ := Int.eq_ofNat_of_zero_le h1
    have ht : t < ps.length := by omega
    have htl : t < last.length := by omega
    simp only [Int.toNat_natCast] at *
    have e1 := List.getElem?_eq_getElem ht
    have e2 := List.getElem?_eq_getElem htl
    rw [e2] at h3; rw [e1] at h4 h5
    simp only [Option.getD_some] at h3 h4 h5
    have := hm last[t] (List.getElem_mem _)
    obtain ⟨k, rfl⟩ := Int.eq_ofNat_of_zero_le (by omega : 0 ≤ st)
    have hk : k < ps[t].length := by omega
    simp only [Int.toNat_natCast] at h5
    rw [List.getElem?_eq_getElem hk] at h5
    refine ⟨⟨t, k, ps[t], ps[t][k], e1, List.getElem?_eq_getElem hk, h5, rfl⟩, fun x hx => ?_⟩
    rw [e2] at hx; injection hx with hx; omega
  · rintro ⟨⟨t, k, p, s, ht, hk, hr, hu⟩, hlast⟩
    injection hu with h1 h2
    subst h1 h2
    have h1 := getElem?_lt ht
    have h2 := getElem?_lt hk
    simp only [Int.toNat_natCast] at hlast ⊢
    have e2 := List.getElem?_eq_getElem (show t < last.length by omega)
    rw [ht, e2]
    simp only [Option.getD_some]
    rw [hk]
    exact ⟨⟨⟨⟨by omega, by omega⟩, hlast _ e2⟩, by omega⟩, hr⟩
def Before (v u : Ref) : Prop := v.tr = u.tr → v.st < u.st
theorem properFrom_iff {ps : List (List Stage)} {r : Int} : ∀ (l : List Ref) (last : List Int), last.length = ps.length → (∀ x ∈ last, -1 ≤ x) →
    (properFrom ps r l last = true ↔ (∀ u ∈ l, u ∈ allU ps r ∧ ∀ x, last[u.tr.toNat]? = some x → x < u.st) ∧ l.Pairwise Before)
  | [], last, _, _ => by simp [properFrom]
  | u :: l, last, hl, hm => by
    rw [properFrom, Bool.and_eq_true, useFits_iff hl hm u, List.pairwise_cons]
    constructor
    · rintro ⟨⟨h1, h2⟩, h3⟩
      obtain ⟨t, k, p, s, ht, hk, hr, hu⟩ := mem_allU.1 h1
      have hst : -1 ≤ u.st := by rw [hu]; show (-1 : Int) ≤ (k : Int); omega
      have h4 := (properFrom_iff l (last.set u.tr.toNat u.st) (by simpa using hl) (fun x hx => by
        rcases List.mem_or_eq_of_mem_set hx with h | rfl
        · exact hm x h
        · exact hst)).1 h3
      have htl : u.tr.toNat < last.length := by rw [hu]; simp; have := getElem?_lt ht; omega
      refine ⟨fun v hv => ?_, fun v hv e => ?_, h4.2⟩
      · rcases List.mem_cons.1 hv with rfl | hv
        · exact ⟨h1, h2⟩
        · obtain ⟨a, b⟩ := h4.1 v hv
          refine ⟨a, fun x hx => ?_⟩
          by_cases e : u.tr.toNat = v.tr.toNat
          · have h5 := b u.st (by rw [← e]; simp [htl])
            have h6 := h2 x (by rw [e]; exact hx)
            omega
          · exact b x (by rw [List.getElem?_set_ne e]; exact hx)
      · obtain ⟨a, b⟩ := h4.1 v hv
        exact b u.st (by rw [← e]; simp [htl])
    · rintro ⟨h1, h2, h3⟩
      have hu := h1 u (by simp)
      obtain ⟨t, k, p, s, ht, hk, hr, hu'⟩ := mem_allU.1 hu.1
      have hst : -1 ≤ u.st := by rw [hu']; show (-1 : Int) ≤ (k : Int); omega
      refine ⟨hu, (properFrom_iff l (last.set u.tr.toNat u.st) (by simpa using hl) (fun x hx => by
        rcases List.mem_or_eq_of_mem_set hx with h | rfl
        · exact hm x h
        · exact hst)).2 ⟨fun v hv => ?_, h3⟩⟩
      have hv' := h1 v (by simp [hv])
      refine ⟨hv'.1, fun x hx => ?_⟩
      by_cases e : u.tr.toNat = v.tr.toNat
      · have htl : u.tr.toNat < last.length := by rw [hu']; simp; have := getElem?_lt ht; omega
        rw [← e, List.getElem?_set_self htl] at hx
        injection hx with hx; subst hx
        refine h2 v hv ?_
        obtain ⟨t', k', _, _, _, _, _, hv2⟩ := mem_allU.1 hv'.1
        rw [hu', hv2] at e ⊢; simp at e ⊢; omega
      · rw [List.getElem?_set_ne e] at hx
        exact hv'.2 x hx
theorem properB_iff {ps : List (List Stage)} {o : Order} : properB ps o = true ↔ (∀ u ∈ o.uses, u ∈ allU ps o.res) ∧ o.uses.Pairwise Before := by
  unfold properB
  rw [properFrom_iff _ _ (by simp) (by intro x hx; simp at hx; omega)]
  constructor
  · rintro ⟨h1, h2⟩; exact ⟨fun u hu => (h1 u hu).1, h2⟩
  · rintro ⟨h1, h2⟩
    refine ⟨fun u hu => ⟨h1 u hu, fun x hx => ?_⟩, h2⟩
    obtain ⟨t, k, p, s, ht, hk, hr, rfl⟩ := mem_allU.1 (h1 u hu)
    have := List.mem_of_getElem? hx
    simp at this
    obtain ⟨_, rfl⟩ := this
    show (-1 : Int) < (k : Int); omega
theorem pairOk_before {l : List Ref} : l.Pairwise PairOk ↔ l.Pairwise Before := by
  constructor <;> intro h <;> refine h.imp ?_
  · intro v u ⟨h1, h2⟩ e
    have : v.st ≠ u.st := fun e2 => h1 (by cases v; cases u; simp_all)
    omega
  · intro v u h
    refine ⟨fun e => ?_, fun ⟨e, h'⟩ => ?_⟩
    · subst e; have := h rfl; omega
    · have := h e; omega
/-- the program's and the reference's test of one order -/
theorem exactly_proper {ps : List (List Stage)} {o : Order} : exactlyB o.uses (allU ps o.res) = (decide (o.uses.length = (allU ps o.res).length) && properB ps o) := by
  rw [Bool.eq_iff_iff]
  simp only [exactlyB, Bool.and_eq_true, decide_eq_true_eq, List.all_eq_true, properB_iff, pairOk_before, and_assoc]

end Go.Proofs.YtbfgmbakeofcbaaGreat
