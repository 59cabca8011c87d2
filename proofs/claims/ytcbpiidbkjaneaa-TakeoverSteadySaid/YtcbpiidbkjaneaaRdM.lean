/- Contracts of the reference's search for positions. Conditions: as each theorem says. Contract of the reference's count of a complete assignment. Conditions: as the theorem says. Contract of the reference's recursive search. Conditions: as the theorem says. Contract of the reference's Identify. Conditions: as the theorem says. Contracts of sections and of the example of chapter 38. Conditions: as each theorem says. Contract of the reference's CheckState. Conditions: as the theorem says. -/
import Derived.Test.YtcbpiidbkjaneaaIdM
import Derived.Test.YtcbpiidbkjaneaaValid3
import Derived.Test.YtcbpiidbkjaneaaPaths
namespace Go.Proofs.Ytcbpiidbkjaneaa
open Go.RowKit

/-- the sections that are held -/
def heldOf : List (List Stage) → List Int → List Int
  | p :: ps, a :: l => (if a < 0 ∨ (p.length : Int) ≤ a then [] else [secAt p a]) ++ heldOf ps l
  | _, _ => []
theorem heldOf_snoc : ∀ (ps : List (List Stage)) (l : List Int) (p : List Stage) (x : Int), ps[l.length]? = some p → heldOf ps (l ++ [x]) = heldOf ps l ++ (if x < 0 ∨ (p.length : Int) ≤ x then [] else [secAt p x])
  | [], l, p, x, h => by simp at h
  | q :: ps, [], p, x, h => by simp at h; subst h; simp [heldOf]
  | q :: ps, a :: l, p, x, h => by
    have := heldOf_snoc ps l p x (by simpa using h)
    simp only [List.cons_append, heldOf, this, List.append_assoc]

def secsNonneg (ps : List (List Stage)) : Prop := ∀ p ∈ ps, ∀ s ∈ p, 0 ≤ s.sec
theorem secAt_neg {p : List Stage} (h : ∀ s ∈ p, 0 ≤ s.sec) (a : Int) : (a < 0 ∨ (p.length : Int) ≤ a) ∧ secAt p a = -1 ∨ ¬ (a < 0 ∨ (p.length : Int) ≤ a) ∧ 0 ≤ secAt p a := by
  by_cases h1 : a < 0
  · exact .inl ⟨.inl h1, by simp [secAt, h1]⟩
  · by_cases h2 : (p.length : Int) ≤ a
    · refine .inl ⟨.inr h2, ?_⟩
      unfold secAt; rw [if_neg h1, List.getElem?_eq_none (by omega)]
    · refine .inr ⟨by omega, ?_⟩
      unfold secAt
      have hl : a.toNat < p.length := by omega
      rw [if_neg h1, List.getElem?_eq_getElem hl]
      exact h _ (List.getElem_mem hl)



section
variable {w w' : World} {g : Nat} {A : Option Addr} {c : Nat} {ps : List (List Stage)} {A2 : Option Addr} {c2 : Nat} {exp : List Int} {A3 : Option Addr} {c3 : Nat} {occ : List Int} {budget : Nat} {at_ : List Int} {vat : Value} {s s' : ISt}



end

theorem held_take {ps : List (List Stage)} {at_ : List Int} {k : Nat} {p : List Stage} {x : Int} (hp : ps[k]? = some p) (hx : at_[k]? = some x) : heldOf ps (at_.take (k + 1)) = heldOf ps (at_.take k) ++ (if x < 0 ∨ (p.length : Int) ≤ x then [] else [secAt p x]) := by
  rw [List.take_add_one, hx]
  have hl : (at_.take k).length = k := by have := getElem?_lt hx; simp; omega
  exact heldOf_snoc ps (at_.take k) p x (by rw [hl]; exact hp)







theorem held_count {ps : List (List Stage)} {at_ : List Int} {k : Nat} {p : List Stage} {x sx : Int} (hp : ps[k]? = some p) (hx : at_[k]? = some x) (hs : ∀ s ∈ p, 0 ≤ s.sec) (e : secAt p x = sx) :
    sx < 0 ∧ (heldOf ps (at_.take (k + 1))).length = (heldOf ps (at_.take k)).length ∨ 0 ≤ sx ∧ (heldOf ps (at_.take (k + 1))).length = (heldOf ps (at_.take k)).length + 1 := by
  have h1 := held_take hp hx
  subst e
  rcases secAt_neg hs x with ⟨h, h2⟩ | ⟨h, h2⟩
  · refine .inl ⟨by omega, ?_⟩; rw [h1, if_pos h]; simp
  · refine .inr ⟨h2, ?_⟩; rw [h1, if_neg h]; simp
theorem heldOf_len : ∀ (ps : List (List Stage)) (l : List Int), (heldOf ps l).length ≤ l.length
  | [], l => by cases l <;> simp [heldOf]
  | p :: ps, [] => by simp [heldOf]
  | p :: ps, a :: l => by
    have := heldOf_len ps l
    simp only [heldOf, List.length_append, List.length_cons]
    split <;> simp <;> omega







section
variable {w w' : World} {g : Nat} {A : Option Addr} {c : Nat} {ps : List (List Stage)} {A2 : Option Addr} {c2 : Nat} {exp : List Int} {A3 : Option Addr} {c3 : Nat} {occ : List Int} {budget : Nat} {at_ : List Int} {vat : Value} {s : ISt}





end

theorem tries_down {ps : List (List Stage)} {occ : List Int} {budget : Nat} {F : List Int → List Int → ISt → Bool × ISt} {p : List Stage} {at_ : List Int} {x : Int} {xs : List Int} {s s1 : ISt} (hs : s.steps ≠ budget) (h1 : s1 = { s with steps := s.steps + 1 }) (hp : ps[at_.length]? = some p) (h : (x < 0 ∨ (p.length : Int) ≤ x) ∨ (secAt p x ∈ occ ∧ secAt p x ∉ heldOf ps at_)) :
    tries occ budget F p at_ (heldOf ps at_) (x :: xs) s = if (F (at_ ++ [x]) (heldOf ps (at_ ++ [x])) s1).1 = true then tries occ budget F p at_ (heldOf ps at_) xs (F (at_ ++ [x]) (heldOf ps (at_ ++ [x])) s1).2 else F (at_ ++ [x]) (heldOf ps (at_ ++ [x])) s1 := by
  subst h1
  rw [tries_cons, if_neg hs, heldOf_snoc ps at_ p x hp]
  by_cases h2 : x < 0 ∨ (p.length : Int) ≤ x
  · rw [if_pos h2, if_pos h2, List.append_nil]
  · rw [if_neg h2, if_neg h2, if_pos (h.resolve_left h2)]
theorem tries_skip {ps : List (List Stage)} {occ : List Int} {budget : Nat} {F : List Int → List Int → ISt → Bool × ISt} {p : List Stage} {at_ : List Int} {x : Int} {xs : List Int} {s s1 : ISt} (hs : s.steps ≠ budget) (h1 : s1 = { s with steps := s.steps + 1 }) (h2 : ¬ (x < 0 ∨ (p.length : Int) ≤ x)) (h3 : ¬ (secAt p x ∈ occ ∧ secAt p x ∉ heldOf ps at_)) :
    tries occ budget F p at_ (heldOf ps at_) (x :: xs) s = tries occ budget F p at_ (heldOf ps at_) xs s1 := by
  subst h1; rw [tries_cons, if_neg hs, if_neg h2, if_neg h3]









theorem stepsFrom_ok (p : List Stage) : ∀ (l : List Stage) (k : Nat), stepsFrom p k l = true → ∀ s ∈ l, stageOk s = true
  | [], _, _ => by simp
  | x :: l, k, h => by
    simp only [stepsFrom, Bool.and_eq_true] at h
    intro s hs
    rcases List.mem_cons.1 hs with rfl | hs
    · have := h.1; simp only [stepOk, Bool.and_eq_true] at this; exact this.1
    · exact stepsFrom_ok p l (k + 1) h.2 s hs
theorem valid_secs {ps : List (List Stage)} (h : valid ps = true) : secsNonneg ps := by
  intro p hp s hs
  simp only [valid, Bool.and_eq_true, decide_eq_true_eq, List.all_eq_true] at h
  have := h.1.2 p hp
  simp only [pathOk, Bool.and_eq_true, decide_eq_true_eq] at this
  have := stepsFrom_ok p p 0 this.2 s hs
  simp only [stageOk, isRes, Bool.and_eq_true, decide_eq_true_eq] at this
  omega







def secList (ps : List (List Stage)) (at_ : List Int) : List Int := List.zipWith secAt ps at_
def secsTo (ps : List (List Stage)) (at_ : List Int) : Nat → List Int
  | 0 => []
  | k + 1 => secsTo ps at_ k ++ (if (k : Int) ∈ secList ps at_ then [(k : Int)] else [])
theorem secsTo_len (ps : List (List Stage)) (at_ : List Int) : ∀ k, (secsTo ps at_ k).length ≤ k
  | 0 => by simp [secsTo]
  | k + 1 => by have := secsTo_len ps at_ k; simp only [secsTo, List.length_append]; split <;> simp <;> omega
theorem secList_at {ps : List (List Stage)} {at_ : List Int} {t : Nat} {p : List Stage} {a : Int} (hp : ps[t]? = some p) (ha : at_[t]? = some a) : (secList ps at_)[t]? = some (secAt p a) := by
  simp [secList, List.getElem?_zipWith, hp, ha]







def checkState (ps : List (List Stage)) (at_ : List Int) : Int := if (valid ps && good ps at_) = false then 1 else if (heldOf ps at_).Nodup then 0 else 17

theorem mem_heldOf : ∀ {ps : List (List Stage)} (_ : secsNonneg ps) (l : List Int) (x : Int), x ∈ heldOf ps l ↔ x ∈ secList ps l ∧ 0 ≤ x
  | [], _, l, x => by simp [heldOf, secList]
  | p :: ps, _, [], x => by simp [heldOf, secList]
  | p :: ps, h, a :: l, x => by
    have ih := mem_heldOf (ps := ps) (fun q hq => h q (by simp [hq])) l x
    have hn := secAt_neg (h p (by simp)) a
    simp only [heldOf, secList, List.zipWith_cons_cons, List.mem_append, List.mem_cons] at *
    rw [ih]
    rcases hn with ⟨h1, h2⟩ | ⟨h1, h2⟩
    · rw [if_pos h1, h2]; simp; omega
    · rw [if_neg h1]; simp
      constructor
      · rintro (rfl | h)
        · exact ⟨.inl rfl, h2⟩
        · exact ⟨.inr h.1, h.2⟩
      · rintro ⟨rfl | h, h3⟩
        · exact .inl rfl
        · exact .inr ⟨h, h3⟩
theorem secList_take (ps : List (List Stage)) : ∀ (l : List Int) (k : Nat), secList ps (l.take k) = (secList ps l).take k := by
  induction ps with
  | nil => simp [secList]
  | cons p ps ih =>
    intro l k
    cases l with
    | nil => simp [secList]
    | cons a l => cases k with
      | zero => simp [secList]
      | succ k => have := ih l k; simp only [secList] at this; simp [secList, this]

theorem nodup_snoc {l : List Int} {x : Int} (h : l.Nodup) (hx : x ∉ l) : (l ++ [x]).Nodup := List.nodup_append.2 ⟨h, by simp, fun a ha b hb => by simp at hb; subst hb; rintro rfl; exact hx ha⟩
theorem heldOf_sublist (ps : List (List Stage)) : ∀ (l : List Int) (k : Nat), (heldOf ps (l.take k)).Sublist (heldOf ps l) := by
  induction ps with
  | nil => intro l k; simp [heldOf]
  | cons p ps ih =>
    intro l k
    cases l with
    | nil => simp [heldOf]
    | cons a l => cases k with
      | zero => simp [heldOf]
      | succ k => simp only [List.take_succ_cons, heldOf]; exact List.Sublist.append (List.Sublist.refl _) (ih l k)

set_option maxRecDepth 100000 in
set_option maxHeartbeats 1000000 in
theorem CheckState_any (ps : List (List Stage)) (at_ : List Int) (A A2 : Option Addr) (c c2 : Nat) (w : World) (h : RPaths w (Old w) [.slice A ps.length c] ps) (h2 : RInts w (Old w) [.slice A2 at_.length c2] at_) :
    Calls Try.prog 12 #[.slice A ps.length c, .slice A2 at_.length c2] w fun e w' => e = .returned (.int .i64 (checkState ps at_)) ∧ KeepsAll w w' := by
  have hc := h.caps
  have hc2 := h2.caps
  have H := Lib.hid h; clear h
  have H2 := Lib.hid h2; clear h2
  by_cases g1 : valid ps = true
  · go_enter Try.func12, Try.ntmps12
    go_wp2_with fail
    refine (RefValid_any ps A c w H.out).mono ?_
    rintro e w1 ⟨rfl, k1⟩
    have H1 := Lib.hid (k1.rd RPaths.ok H.out (fun b hb => ⟨hb, by simp⟩) (fun _ h => h))
    have H21 := Lib.hid (k1.rd RInts.ok H2.out (fun b hb => ⟨hb, by simp⟩) (fun _ h => h))
    have K1 := Lib.hid k1; clear k1
    by_cases g2 : good ps at_ = true
    · have hl : at_.length = ps.length := by have := g2; simp only [good, Bool.and_eq_true, decide_eq_true_eq] at this; exact this.1
      have hl1 : at_.length ≤ ps.length := by omega
      have hl2 : ps.length ≤ at_.length := by omega
      clear hl
      have HSN : Hid (secsNonneg ps) := valid_secs g1
      go_wp2_with (go_at_call 36; refine (rGood_any ps at_ A A2 c c2 _ (Old w) (Old w) H1.out H21.out).mono ?_; rintro e w2 ⟨rfl, rfl⟩)
      go_loopw [19] (fun i wr => ∃ t n : Nat, t ≤ ps.length ∧ i = .int .i64 t ∧ wr = w1.drewN n ∧ (heldOf ps (at_.take t)).Nodup) (fun i _ => ps.length - (intOf i).toNat)
      case atStart => exact ⟨0, 0, Nat.zero_le _, rfl, rfl, by cases ps <;> simp [heldOf]⟩
      case round =>
        obtain ⟨t, n, ht, rfl, rfl, hnd⟩ := hrel
        have HND := Lib.hid hnd; clear hnd
        by_cases hlt : t < ps.length
        · have hdt : decide ((t : Int) < (ps.length : Int)) = true := by simp; omega
          have hp : ps[t]? = some ps[t] := List.getElem?_eq_getElem hlt
          have ha : at_[t]? = some (at_[t]'(by omega)) := List.getElem?_eq_getElem (by omega)
          have hsl := secList_at hp ha
          have hneg := secAt_neg (HSN.out ps[t] (List.mem_of_getElem? hp)) (at_[t]'(by omega))
          have hht := held_take hp ha
          have SC : Hid (∀ m, Calls Try.prog 37 #[.slice A ps.length c, .slice A2 at_.length c2, .int .i64 t] (w1.drewN m) fun e w' => e = .returned (.int .i64 (secAt ps[t] (at_[t]'(by omega)))) ∧ ∃ n, w' = (w1.drewN m).drewN n) := fun m => Section_any ps at_ A A2 c c2 (w1.drewN m) (Old w) (Old w) (by exact H1.out) (by exact H21.out) t _ _ hp ha
          generalize secAt ps[t] (at_[t]'(by omega)) = sx at hsl hneg hht SC
          have HSL := Lib.hid hsl
          have HNEG := Lib.hid hneg
          have HHT := Lib.hid hht
          clear hp ha hsl hneg hht
          go_wp2
          go_loopw [6] (fun i wr => ∃ u n : Nat, u ≤ t ∧ i = .int .i64 u ∧ wr = w1.drewN n ∧ (0 ≤ sx → sx ∉ (secList ps at_).take u)) (fun i _ => t - (intOf i).toNat)
          case atStart => exact ⟨0, n, Nat.zero_le _, rfl, rfl, by simp⟩
          case round =>
            obtain ⟨u, m, hu, rfl, rfl, hno⟩ := hrel
            have HNO := Lib.hid hno; clear hno
            by_cases hlt2 : u < t
            · have hdu : decide ((u : Int) < (t : Int)) = true := by simp; omega
              have hul : u < ps.length := by omega
              have hp : ps[u]? = some ps[u] := List.getElem?_eq_getElem hul
              have ha : at_[u]? = some (at_[u]'(by omega)) := List.getElem?_eq_getElem (by omega)
              have hsl := secList_at hp ha
              have SU : Hid (∀ m, Calls Try.prog 37 #[.slice A ps.length c, .slice A2 at_.length c2, .int .i64 u] (w1.drewN m) fun e w' => e = .returned (.int .i64 (secAt ps[u] (at_[u]'(by omega)))) ∧ ∃ n, w' = (w1.drewN m).drewN n) := fun m => Section_any ps at_ A A2 c c2 (w1.drewN m) (Old w) (Old w) (by exact H1.out) (by exact H21.out) u _ _ hp ha
              generalize secAt ps[u] (at_[u]'(by omega)) = su at hsl SU
              have HSU := Lib.hid hsl
              clear hp ha hsl
              by_cases g3 : 0 ≤ sx
              · have g3' : decide (sx ≥ 0) = true := by simp; omega
                by_cases g4 : sx = su
                · have g4' : (sx == su) = true := by simpa using g4
                  have Q : Hid (checkState ps at_ = 17) := by
                    show checkState ps at_ = 17
                    unfold checkState
                    rw [if_neg (by simp [g1, g2]), if_neg ?_]
                    intro hn
                    have hn2 := List.Sublist.nodup (heldOf_sublist ps at_ (t + 1)) hn
                    rw [HHT.out] at hn2
                    rcases HNEG.out with h | h
                    · omega
                    · rw [if_neg h.1] at hn2
                      have := (List.nodup_append.1 hn2).2.2 sx ((mem_heldOf HSN.out _ _).2 ⟨by rw [secList_take]; exact List.mem_of_getElem? (by rw [List.getElem?_take_of_lt hlt2, g4]; exact HSU.out), g3⟩) sx (by simp)
                      exact this rfl
                  clear g4
                  go_wp2_with (first | (go_at_call 37; (with_reducible refine (SC.out _).mono ?_); rintro e w7 ⟨rfl, n7, rfl⟩) | (go_at_call 37; (with_reducible refine (SU.out _).mono ?_); rintro e w8 ⟨rfl, n8, rfl⟩))
                  go_ret
                  rw [Q.out]
                  exact ⟨rfl, K1.out.drewN _⟩
                · have g4' : (sx == su) = false := by simpa using g4
                  have Q : Hid (0 ≤ sx → sx ∉ (secList ps at_).take (u + 1)) := by
                    show _ → _
                    intro h0
                    rw [List.take_add_one, HSU.out]; simp
                    exact ⟨by simpa using HNO.out h0, g4⟩
                  clear g4
                  go_wp2_with (first | (go_at_call 37; (with_reducible refine (SC.out _).mono ?_); rintro e w7 ⟨rfl, n7, rfl⟩) | (go_at_call 37; (with_reducible refine (SU.out _).mono ?_); rintro e w8 ⟨rfl, n8, rfl⟩))
                  go_roundw
                  case rel => exact ⟨u + 1, _, by omega, by go_num, rfl, Q.out⟩
                  case measure => simp [intOf]; omega
              · have g3' : decide (sx ≥ 0) = false := by simp; omega
                go_wp2_with (first | (go_at_call 37; (with_reducible refine (SC.out _).mono ?_); rintro e w7 ⟨rfl, n7, rfl⟩))
                go_roundw
                case rel => exact ⟨u + 1, _, by omega, by go_num, rfl, fun h => (by omega)⟩
                case measure => simp [intOf]; omega
            · obtain rfl : u = t := by omega
              have Q : Hid ((heldOf ps (at_.take (u + 1))).Nodup) := by
                show List.Nodup _
                rw [HHT.out]
                rcases HNEG.out with h | h
                · rw [if_pos h.1, List.append_nil]; exact HND.out
                · rw [if_neg h.1]
                  refine nodup_snoc HND.out (fun hm => HNO.out h.2 ?_)
                  have := ((mem_heldOf HSN.out _ _).1 hm).1
                  rw [secList_take] at this; exact this
              go_wp2
              go_roundw
              case rel => exact ⟨u + 1, _, by omega, by go_num, rfl, Q.out⟩
              case measure => simp [intOf]; omega
        · obtain rfl : t = ps.length := by omega
          have Q : Hid (checkState ps at_ = 0) := by
            show checkState ps at_ = 0
            unfold checkState
            rw [if_neg (by simp [g1, g2]), if_pos]
            have e : at_.take ps.length = at_ := List.take_of_length_le (by omega)
            have := HND.out; rw [e] at this; exact this
          go_wp2
          go_ret
          rw [Q.out]
          exact ⟨rfl, K1.out.drewN _⟩
    · have g2' : good ps at_ = false := by simpa using g2
      have Q : Hid (checkState ps at_ = 1) := by show checkState ps at_ = _; simp [checkState, g2']
      go_wp2_with (go_at_call 36; refine (rGood_any ps at_ A A2 c c2 _ (Old w) (Old w) H1.out H21.out).mono ?_; rintro e w2 ⟨rfl, rfl⟩)
      go_ret
      rw [Q.out]
      exact ⟨rfl, K1.out⟩
  · have g1' : valid ps = false := by simpa using g1
    have Q : Hid (checkState ps at_ = 1) := by show checkState ps at_ = _; simp [checkState, g1']
    go_enter Try.func12, Try.ntmps12
    go_wp2_with (go_at_call 22; refine (RefValid_any ps A c w H.out).mono ?_; rintro e w1 ⟨rfl, k1⟩)
    go_ret
    rw [Q.out]
    exact ⟨rfl, k1⟩

end Go.Proofs.Ytcbpiidbkjaneaa
