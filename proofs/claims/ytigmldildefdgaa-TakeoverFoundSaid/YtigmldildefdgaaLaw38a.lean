/- Contracts of sections and of the example of chapter 38. Conditions: as each theorem says. -/
import Derived.Test.YtigmldildefdgaaRIdent4
import Derived.Test.YtigmldildefdgaaPaths
namespace Go.Proofs.Ytigmldildefdgaa
open Go.RowKit

def secList (ps : List (List Stage)) (at_ : List Int) : List Int := List.zipWith secAt ps at_
def secsTo (ps : List (List Stage)) (at_ : List Int) : Nat → List Int
  | 0 => []
  | k + 1 => secsTo ps at_ k ++ (if (k : Int) ∈ secList ps at_ then [(k : Int)] else [])
theorem secsTo_len (ps : List (List Stage)) (at_ : List Int) : ∀ k, (secsTo ps at_ k).length ≤ k
  | 0 => by simp [secsTo]
  | k + 1 => by have := secsTo_len ps at_ k; simp only [secsTo, List.length_append]; split <;> simp <;> omega
theorem secList_at {ps : List (List Stage)} {at_ : List Int} {t : Nat} {p : List Stage} {a : Int} (hp : ps[t]? = some p) (ha : at_[t]? = some a) : (secList ps at_)[t]? = some (secAt p a) := by
  simp [secList, List.getElem?_zipWith, hp, ha]

set_option maxRecDepth 100000 in
set_option maxHeartbeats 1000000 in
theorem sections_any (ps : List (List Stage)) (at_ : List Int) (A A2 : Option Addr) (c c2 : Nat) (w : World) (h : RPaths w (Old w) [.slice A ps.length c] ps) (h2 : RInts w (Old w) [.slice A2 at_.length c2] at_) (hl : at_.length = ps.length) :
    Calls Try.prog 17 #[.slice A ps.length c, .slice A2 at_.length c2] w fun e w' => ∃ v, e = .returned v ∧ OwnL 3 1 RInt w' w.heap.size w.heap.size v (secsTo ps at_ 8) ∧ KeepsAll w w' := by
  have hc := h.caps
  have hc2 := h2.caps
  have hl1 : at_.length ≤ ps.length := by omega
  have hl2 : ps.length ≤ at_.length := by omega
  have HL := Lib.hid hl; clear hl
  have H := Lib.hid h; clear h
  have H2 := Lib.hid h2; clear h2
  go_enter Try.func17, Try.ntmps17
  go_wp2
  go_loopw [5, 6] (fun v i wr => ∃ k : Nat, k ≤ 8 ∧ i = .int .i64 k ∧ OwnL 3 1 RInt wr w.heap.size w.heap.size v (secsTo ps at_ k) ∧ KeepsAll w wr) (fun _ i _ => 8 - (intOf i).toNat)
  case atStart => exact ⟨0, by omega, rfl, OwnL.nil, Keeps.refl _ _⟩
  case round =>
    obtain ⟨k, hk, rfl, ho, hk1⟩ := hrel
    obtain ⟨Aa, ca, rfl, hca, hca2⟩ := ho.form
    have hs8 := secsTo_len ps at_ k
    have HO := Lib.hid ho; clear ho
    have K1 := Lib.hid hk1; clear hk1
    have H1 := Lib.hid (K1.out.rd RPaths.ok H.out (fun b hb => ⟨hb, by simp⟩) (fun _ h => h))
    have H21 := Lib.hid (K1.out.rd RInts.ok H2.out (fun b hb => ⟨hb, by simp⟩) (fun _ h => h))
    have hwz := K1.out.size
    by_cases hlt : k < 8
    · have hdk : decide ((k : Int) < 8) = true := by simp; omega
      go_wp2
      go_loopw [5, 14] (fun v i w2 => ∃ t n : Nat, t ≤ ps.length ∧ v = .slice Aa (secsTo ps at_ k).length ca ∧ i = .int .i64 t ∧ w2 = wr.drewN n ∧ (k : Int) ∉ (secList ps at_).take t) (fun _ i _ => ps.length - (intOf i).toNat)
      case atStart => exact ⟨0, 0, by omega, rfl, rfl, rfl, by simp⟩
      case round =>
        obtain ⟨t, n, ht, rfl, rfl, rfl, hno⟩ := hrel
        have HNO := Lib.hid hno; clear hno
        by_cases hlt2 : t < ps.length
        · have hp : ps[t]? = some ps[t] := List.getElem?_eq_getElem hlt2
          have ha : at_[t]? = some (at_[t]'(by omega)) := List.getElem?_eq_getElem (by omega)
          have hsl := secList_at hp ha
          have SC := Lib.hid (Section_any ps at_ A A2 c c2 (wr.drewN n) (Old w) (Old w) (by exact H1.out) (by exact H21.out) t _ _ hp ha)
          generalize hsx : secAt ps[t] (at_[t]'(by omega)) = sx at hsl
          rw [hsx] at SC
          have HSL := Lib.hid hsl
          clear hp ha hsx hsl
          by_cases heq : sx = (k : Int)
          · have heq' : (sx == (k : Int)) = true := by simpa using heq
            have Q : Hid (secsTo ps at_ (k + 1) = secsTo ps at_ k ++ [(k : Int)]) := by
              show secsTo ps at_ (k + 1) = secsTo ps at_ k ++ [(k : Int)]
              rw [secsTo, if_pos (by rw [← heq]; exact List.mem_of_getElem? HSL.out)]
            clear heq
            go_wp2_with (first | (go_at_call 53; refine SC.out.mono ?_; rintro e w7 ⟨rfl, n7, rfl⟩) | (at_builtin; refine wpList_append_L tyInt RInt.ok rfl (.tmp 23) (.tmp 25) rfl ((HO.out.drewN RInt.ok _).alloc RInt.ok _) rfl _ [.int .i64 (k : Int)] rfl (Blk.new' _ _ _ (by simp)) rfl (k : Int) (S := fun _ => False) rfl (fun _ h => h.elim) (by simp [Value.oneCell']) (by omega) (by omega) (by simp; omega) ?_; intro v2 w2 HO2 HK2 HA2; obtain ⟨A6, c6x, hv6, _, _⟩ := HO2.form; rw [List.length_append, List.length_singleton] at hv6; subst hv6))
            go_roundw
            case rel => exact ⟨k + 1, by omega, by go_num, by rw [Q.out]; exact HO2, (((K1.out.drewN _).alloc _).trans HK2 (fun x hx e => (by have := HO.out.lt e; omega)))⟩
            case measure => simp [intOf]; omega
          · have heq' : (sx == (k : Int)) = false := by simpa using heq
            have Q : Hid ((k : Int) ∉ (secList ps at_).take (t + 1)) := by
              show ¬ _
              rw [List.take_add_one, HSL.out]; simp
              exact ⟨by simpa using HNO.out, fun e => heq e.symm⟩
            clear heq
            go_wp2_with (go_at_call 53; refine SC.out.mono ?_; rintro e w7 ⟨rfl, n7, rfl⟩)
            go_roundw
            case rel => exact ⟨t + 1, _, by omega, rfl, by go_num, rfl, Q.out⟩
            case measure => simp [intOf]; omega
        · obtain rfl : t = ps.length := by omega
          have Q : Hid (secsTo ps at_ (k + 1) = secsTo ps at_ k) := by
            show secsTo ps at_ (k + 1) = secsTo ps at_ k
            have e : (secList ps at_).take ps.length = secList ps at_ := List.take_of_length_le (by simp [secList]; omega)
            rw [secsTo, if_neg (by have := HNO.out; rw [e] at this; exact this), List.append_nil]
          go_wp2
          go_roundw
          case rel => exact ⟨k + 1, by omega, by go_num, by rw [Q.out]; exact HO.out.drewN RInt.ok n, K1.out.drewN _⟩
          case measure => simp [intOf]; omega
    · obtain rfl : k = 8 := by omega
      go_wp2
      go_ret
      exact ⟨_, rfl, HO.out, K1.out⟩

end Go.Proofs.Ytigmldildefdgaa
