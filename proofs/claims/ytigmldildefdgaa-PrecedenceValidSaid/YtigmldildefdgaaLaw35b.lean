/- The statement PrecedenceValid: its function returns true. No condition beyond the arguments' reading. -/
import Derived.Test.YtigmldildefdgaaLaw35a
import Derived.Test.YtigmldildefdgaaChg2
import Derived.Test.YtigmldildefdgaaMadeV
import Derived.Test.YtigmldildefdgaaValid3
namespace Go.Proofs.Ytigmldildefdgaa
open Go.RowKit

theorem mkPaths11 (W : World) : (Instr.makeSlice 23 (.int .i64 11) (.int .i64 11)).run Try.prog W = .ok (.slice (some ⟨W.heap.size, 0, none⟩) 11 11) (W.alloc (.cells (List.replicate 0 (Value.slice none 0 0) ++ List.replicate (11 - 0) (Value.slice none 0 0)).toArray 36)) := by
  have h := run_make_row' (P := Try.prog) 23 36 (.slice none 0 0) 24 Try.underlying23 (by kernel_rfl) rfl .i64 .i64 11 (by omega) (by omega) W
  rw [madeCells_one] at h
  exact h
theorem many_rd {w : World} {b : Nat} {t : TypeId} {v : Value} {p : List Stage} (n : Nat) (hb : Blk w b t (List.replicate n v).toArray) (hr : RPath w (Old w) [v] p) (hn : n ≤ 1000) : RPaths w (Old w) [.slice (some ⟨b, 0, none⟩) n n] (List.replicate n p) := by
  have e1 : (List.replicate n v).toArray.toList = (List.replicate n [v]).flatten := by
    clear hb hn
    induction n with
    | zero => rfl
    | succ n ih => simp only [List.replicate_succ, List.flatten_cons, List.singleton_append] at ih ⊢; rw [← ih]
  have e2 : AllRd 1 RPath w (Old w) (List.replicate n [v]) (List.replicate n p) := by
    clear hb hn e1
    induction n with
    | zero => trivial
    | succ n ih => exact ⟨⟨rfl, hr⟩, ih⟩
  have h := RSlice.ofBlk (E := RPath) (S := Old w) hb hb.lt (List.replicate n [v]) (List.replicate n p) e1 e2 (by simp; omega)
  rw [List.length_replicate] at h; exact h
theorem rep_at {α : Type} (x z : α) {k n : Nat} (hk : k < n) : (List.replicate k x ++ List.replicate (n - k) z)[k]? = some z := by
  rw [List.getElem?_append_right (by simp), List.length_replicate, Nat.sub_self, List.getElem?_replicate, if_pos (by omega)]
theorem rep_set {α : Type} (x z : α) {k n : Nat} (hk : k < n) : (List.replicate k x ++ List.replicate (n - k) z).set k x = List.replicate (k + 1) x ++ List.replicate (n - (k + 1)) z := by
  rw [List.set_append_right _ _ (by simp), List.length_replicate, Nat.sub_self, show n - k = (n - (k + 1)) + 1 from by omega, List.replicate_succ, List.set_cons_zero, List.replicate_succ', List.append_assoc]; rfl
theorem psMade.pt {ps : List (List Stage)} (h : psMade ps) : ∀ p ∈ ps, ∀ s ∈ p, s.pts.length ≤ 1000 := fun p hp s hs => by
  rcases ((h.2.2 p hp).2.2.1 s hs).2.2.1 with e | e | e <;> rw [e] <;> simp
theorem psMade.pl1 {ps : List (List Stage)} (h : psMade ps) : ∀ p ∈ ps, 1 ≤ p.length ∧ p.length ≤ 1000 := fun p hp => ⟨(h.2.2 p hp).1, by have := (h.2.2 p hp).2.1; omega⟩

set_option maxRecDepth 100000 in
set_option maxHeartbeats 2000000 in
theorem PrecedenceValid_any (raw : List (List Stage)) (lp : List Int) (A A2 : Option Addr) (c c2 : Nat) (how at_ vv : Int) (w : World) (h : RPaths w (Old w) [.slice A raw.length c] raw) (h2 : RInts w (Old w) [.slice A2 lp.length c2] lp) :
    Calls Try.prog 5 #[.slice A raw.length c, .slice A2 lp.length c2, .int .i64 how, .int .i64 at_, .int .i64 vv] w fun e w' => e = .returned (.bool true) ∧ KeepsAll w w' := by
  have H := Lib.hid h; clear h
  have H2 := Lib.hid h2; clear h2
  have hmk := mkPaths11
  go_enter Try.func5, Try.ntmps5
  go_wp2_with fail
  refine (Paths_any lp A2 c2 w H2.out).mono ?_
  rintro e w1 ⟨v, ps, rfl, rp, hm, k1⟩
  obtain ⟨B, d, rfl⟩ := rp.form
  have K1 := Lib.hid k1
  have M := Lib.hid hm
  have P1 := Lib.hid (RPaths.ok.mono rp (S' := Old w1) (fun b hb => hb.2) (fun _ _ => rfl))
  clear rp hm k1
  have hpl1 := M.out.1
  have hpl3 := M.out.2.1
  go_wp2_with fail
  refine (changed_any ps how at_ vv B d w1 P1.out hpl1 (by omega) M.out.pl1 M.out.pt).mono ?_
  rintro e w2 ⟨v, x, rfl, rx, k2⟩
  obtain ⟨B2, d2, rfl⟩ := rx.form
  have K2 := Lib.hid (K1.out.tr k2)
  have P2 := Lib.hid (k2.rdo' RPaths.ok P1.out)
  have X2 := Lib.hid rx
  clear rx k2 P1 K1
  obtain ⟨bp, op, p0, A0, c0, hbo, hb0, hp0, q0, hr0⟩ := RSS.at_ P2.out (k := 0) (by omega)
  subst hbo
  have hb0' : bp < w2.heap.size := hb0
  have HR0 : Hid (RPath w2 (Old w2) [.slice A0 p0.length c0] p0) := hr0
  have Q0 : Hid (w2.cell? ⟨bp, op, none⟩ = some (.slice A0 p0.length c0)) := q0
  clear hr0 hp0 hb0
  go_wp2
  generalize hW : World.alloc w2 _ = W
  have HI : Hid (Blk W w2.heap.size 36 (List.replicate 0 (Value.slice A0 p0.length c0) ++ List.replicate (11 - 0) (Value.slice none 0 0)).toArray ∧ KeepsAll w2 W) := by
    subst hW
    exact ⟨by simpa using Blk.new _ _ _, (Keeps.refl _ _).alloc _⟩
  clear hW hmk q0
  go_loopw [25] (fun i wr => ∃ k : Nat, k ≤ 11 ∧ i = .int .i64 k ∧ Blk wr w2.heap.size 36 (List.replicate k (Value.slice A0 p0.length c0) ++ List.replicate (11 - k) (Value.slice none 0 0)).toArray ∧ KeepsAll w2 wr) (fun i _ => 11 - (intOf i).toNat)
  case atStart => exact ⟨0, by omega, rfl, HI.out.1, HI.out.2⟩
  case round =>
    obtain ⟨k, hk, rfl, hb, hkr⟩ := hrel
    clear HI
    have KR := Lib.hid hkr; clear hkr
    by_cases hlt : k < 11
    · have q0 := KR.out.cellK (p := ⟨bp, op, none⟩) hb0' Q0.out
      have q1 := hb.cell k
      have q2 := hb.frozen k
      have qz := hb.lt
      rw [List.getElem?_toArray, rep_at _ _ hlt] at q1
      have hbr : bp < wr.heap.size := Nat.lt_of_lt_of_le hb0' KR.out.size
      have HN : Hid (Blk (wr.setCell ⟨w2.heap.size, k, none⟩ (.slice A0 p0.length c0)) w2.heap.size 36 (List.replicate (k + 1) (Value.slice A0 p0.length c0) ++ List.replicate (11 - (k + 1)) (Value.slice none 0 0)).toArray ∧ KeepsAll w2 (wr.setCell ⟨w2.heap.size, k, none⟩ (.slice A0 p0.length c0))) := by
        refine ⟨?_, KR.out.setCell (fun h => absurd h (by simp)) _⟩
        have := hb.set_ k (.slice A0 p0.length c0)
        have e : (List.replicate k (Value.slice A0 p0.length c0) ++ List.replicate (11 - k) (Value.slice none 0 0)).toArray.setIfInBounds k (Value.slice A0 p0.length c0) = ((List.replicate k (Value.slice A0 p0.length c0) ++ List.replicate (11 - k) (Value.slice none 0 0)).set k (Value.slice A0 p0.length c0)).toArray := List.setIfInBounds_toArray ..
        rw [e, rep_set _ _ hlt] at this
        exact this
      clear hb
      go_wp2
      go_roundw
      case rel => exact ⟨k + 1, by omega, by go_num, HN.out.1, HN.out.2⟩
      case measure => simp [intOf]; omega
    · obtain rfl : k = 11 := by omega
      have e : (List.replicate 11 (Value.slice A0 p0.length c0) ++ List.replicate (11 - 11) (Value.slice none 0 0)).toArray = (List.replicate 11 (Value.slice A0 p0.length c0)).toArray := by simp
      rw [e] at hb
      have MN := Lib.hid (many_rd 11 hb (KR.out.rdo' RPath.ok HR0.out) (by omega))
      have K3 := Lib.hid (K2.out.tr KR.out)
      have P3 := Lib.hid (KR.out.rdo' RPaths.ok P2.out)
      have X3 := Lib.hid (KR.out.rdo' RPaths.ok X2.out)
      have R3 := Lib.hid (K3.out.rdo' RPaths.ok H.out)
      have hvm : valid (List.replicate 11 p0) = false := by simp [valid]
      have HVM := Lib.hid hvm
      have HVP := Lib.hid M.out.valid
      clear e hb KR K2 P2 X2 Q0 HR0 hvm
      go_wp2_with fail
      refine (awake35_any wr).mono ?_
      rintro e w4 ⟨rfl, k4⟩
      have K4 := Lib.hid (K3.out.tr k4)
      have P4 := Lib.hid (k4.rdo' RPaths.ok P3.out)
      have X4 := Lib.hid (k4.rdo' RPaths.ok X3.out)
      have R4 := Lib.hid (k4.rdo' RPaths.ok R3.out)
      have M4 := Lib.hid (k4.rdo' RPaths.ok MN.out)
      clear k4 K3 P3 X3 R3 MN
      go_wp2_with fail
      refine (Valid_any ps _ d w4 P4.out).mono ?_
      rintro e w5 ⟨rfl, k5⟩
      rw [HVP.out]
      have K5 := Lib.hid (K4.out.tr k5)
      have X5 := Lib.hid (k5.rdo' RPaths.ok X4.out)
      have R5 := Lib.hid (k5.rdo' RPaths.ok R4.out)
      have M5 := Lib.hid (k5.rdo' RPaths.ok M4.out)
      clear k5 K4 P4 X4 R4 M4
      go_wp2_with fail
      refine (Valid_any x B2 d2 w5 X5.out).mono ?_
      rintro e w6 ⟨rfl, k6⟩
      have K6 := Lib.hid (K5.out.tr k6)
      have X6 := Lib.hid (RefValid_any x B2 d2 w6 (k6.rdo' RPaths.ok X5.out))
      have R6 := Lib.hid (k6.rdo' RPaths.ok R5.out)
      have M6 := Lib.hid (k6.rdo' RPaths.ok M5.out)
      clear k6 K5 X5 R5 M5
      generalize valid x = bx at X6
      go_wp2_with fail
      refine X6.out.mono ?_
      rintro e w7 ⟨rfl, k7⟩
      have K7 := Lib.hid (K6.out.tr k7)
      have R7 := Lib.hid (k7.rdo' RPaths.ok R6.out)
      have M7 := Lib.hid (k7.rdo' RPaths.ok M6.out)
      clear k7 K6 X6 R6 M6
      have hbx : (bx == bx) = true := by simp
      go_wp2_with fail
      refine (Valid_any raw A c w7 R7.out).mono ?_
      rintro e w8 ⟨rfl, k8⟩
      have K8 := Lib.hid (K7.out.tr k8)
      have R8 := Lib.hid (RefValid_any raw A c w8 (k8.rdo' RPaths.ok R7.out))
      have M8 := Lib.hid (k8.rdo' RPaths.ok M7.out)
      clear k8 K7 R7 M7
      generalize valid raw = br at R8
      go_wp2_with fail
      refine R8.out.mono ?_
      rintro e w9 ⟨rfl, k9⟩
      have K9 := Lib.hid (K8.out.tr k9)
      have M9 := Lib.hid (Valid_any (List.replicate 11 p0) (some ⟨w2.heap.size, 0, none⟩) 11 w9 (by have := k9.rdo' RPaths.ok M8.out; rw [List.length_replicate]; exact this))
      rw [List.length_replicate] at M9
      clear k9 K8 R8 M8
      have hbr : (br == br) = true := by simp
      go_wp2_with fail
      refine M9.out.mono ?_
      rintro e w10 ⟨rfl, k10⟩
      rw [HVM.out]
      have K10 := Lib.hid (K9.out.tr k10)
      clear k10 K9 M9
      go_wp2
      go_ret
      exact ⟨rfl, K10.out⟩

end Go.Proofs.Ytigmldildefdgaa
