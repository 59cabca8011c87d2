/- The statement TakeoverFound: its function returns true. No condition beyond the arguments' reading. -/
import Derived.Test.YtigmldildefdgaaLaw38c
import Derived.Test.YtigmldildefdgaaFoundQ
namespace Go.Proofs.Ytigmldildefdgaa
open Go.RowKit

set_option maxRecDepth 100000 in
set_option maxHeartbeats 2000000 in
theorem TakeoverFound_any (lp la lx : List Int) (A A2 A3 : Option Addr) (c c2 c3 : Nat) (w : World) (h : RInts w (Old w) [.slice A lp.length c] lp) (h2 : RInts w (Old w) [.slice A2 la.length c2] la) (h3 : RInts w (Old w) [.slice A3 lx.length c3] lx) :
    Calls Try.prog 4 #[.slice A lp.length c, .slice A2 la.length c2, .slice A3 lx.length c3] w fun e w' => e = .returned (.bool true) ∧ KeepsAll w w' := by
  have H := Lib.hid h; clear h
  have H2 := Lib.hid h2; clear h2
  have H3 := Lib.hid h3; clear h3
  go_enter Try.func4, Try.ntmps4
  go_wp2_with fail
  refine (Paths_any lp A c w H.out).mono ?_
  rintro e w1 ⟨v, ps, rfl, rp, hm, k1⟩
  obtain ⟨B, d, rfl⟩ := rp.form
  have K1 := Lib.hid k1
  have M := Lib.hid hm
  have P1 := Lib.hid (RPaths.ok.mono rp (S' := Old w1) (fun b hb => hb.2) (fun _ _ => rfl))
  have A1 := Lib.hid (k1.rdo RInts.ok H2.out (fun b hb => hb))
  have X1 := Lib.hid (k1.rdo RInts.ok H3.out (fun b hb => hb))
  clear rp hm k1
  go_wp2_with fail
  refine (At_any ps la B A2 d c2 w1 P1.out A1.out M.out.s8 M.out.l M.out.pl).mono ?_
  rintro e w2 ⟨v, at_, rfl, ra, hg, k2⟩
  obtain ⟨B2, d2, rfl⟩ := ra.form
  have K2 := Lib.hid (K1.out.trans k2 (fun _ _ h => h))
  have G2 := Lib.hid hg
  have P2 := Lib.hid (k2.rdo RPaths.ok P1.out (fun b hb => hb))
  have A2' := Lib.hid (RInts.ok.mono ra (S' := Old w2) (fun b hb => hb.2) (fun _ _ => rfl))
  have X2 := Lib.hid (k2.rdo RInts.ok X1.out (fun b hb => hb))
  clear ra hg k2 P1 A1 X1 K1
  go_wp2_with fail
  refine (CheckState_any ps at_ B B2 d d2 w2 P2.out A2'.out).mono ?_
  rintro e w3 ⟨rfl, k3⟩
  have K3 := Lib.hid (K2.out.trans k3 (fun _ _ h => h))
  have P3 := Lib.hid (k3.rdo RPaths.ok P2.out (fun b hb => hb))
  have A3' := Lib.hid (k3.rdo RInts.ok A2'.out (fun b hb => hb))
  have X3 := Lib.hid (k3.rdo RInts.ok X2.out (fun b hb => hb))
  clear k3 P2 A2' X2 K2
  by_cases g : checkState ps at_ = 0
  · have hnd : (heldOf ps at_).Nodup := by
      unfold checkState at g
      rw [if_neg (by simp [M.out.valid, G2.out])] at g
      rcases Classical.em ((heldOf ps at_).Nodup) with h | h
      · exact h
      · rw [if_neg h] at g; omega
    have g' : (checkState ps at_ != 0) = false := by simpa using g
    have HND := Lib.hid hnd
    clear g hnd
    have FS := Lib.hid (found_same M.out.valid M.out.s8 M.out.cnt G2.out HND.out)
    have FO : Hid (∀ ex, good ps ex = true → _) := fun ex hx => found_other (ex := ex) M.out.valid M.out.s8 M.out.cnt G2.out HND.out hx
    go_wp2_with fail
    refine (sections_any ps at_ B B2 d d2 w3 P3.out A3'.out (good_len G2.out)).mono ?_
    rintro e w4 ⟨v, rfl, ho, k4⟩
    obtain ⟨B4, d4, rfl, hd4, hd4'⟩ := ho.form
    have K4 := Lib.hid (K3.out.trans k4 (fun _ _ h => h))
    have P4 := Lib.hid (k4.rdo RPaths.ok P3.out (fun b hb => hb))
    have A4' := Lib.hid (k4.rdo RInts.ok A3'.out (fun b hb => hb))
    have X4 := Lib.hid (k4.rdo RInts.ok X3.out (fun b hb => hb))
    have O4 := Lib.hid (ho.read RInt.ok (by omega) (S := Old w4) (fun _ _ h => h) (fun _ _ h => h))
    generalize secsTo ps at_ 8 = oc at hd4 ho O4 FS FO
    clear ho k4 P3 A3' X3 K3
    go_wp2_with fail
    refine (Identify_any ps at_ oc 1048576 B B2 _ d d2 _ w4 P4.out A4'.out O4.out).mono ?_
    rintro e w5 ⟨v5, rfl, r5, k5⟩
    have fs2 := FS.out.2
    rw [FS.out.1] at r5
    rw [fs2]
    obtain ⟨B5, d5, rfl⟩ := r5.form
    have K5 := Lib.hid (K4.out.trans k5 (fun _ _ h => h))
    have P5 := Lib.hid (k5.rdo RPaths.ok P4.out (fun b hb => hb))
    have A5' := Lib.hid (k5.rdo RInts.ok A4'.out (fun b hb => hb))
    have X5 := Lib.hid (k5.rdo RInts.ok X4.out (fun b hb => hb))
    have O5 := Lib.hid (k5.rdo RInts.ok O4.out (fun b hb => hb))
    have R5 := Lib.hid (RInts.ok.mono r5 (S' := Old w5) (fun b hb => hb.2) (fun _ _ => rfl))
    generalize (identify ps at_ oc 1048576).2.1 = n5
    clear r5 k5 P4 A4' X4 O4 K4 fs2 FS
    go_wp2_with fail
    refine (SameInt_any at_ at_ B5 B2 d5 d2 w5 _ _ R5.out A5'.out).mono ?_
    rintro e w6 ⟨rfl, n6, rfl⟩
    have hd : decide (at_ = at_) = true := by simp
    rw [hd]
    clear hd
    have KD : KeepsAll w5 (w5.drewN n6) := (Keeps.refl _ _).drewN _
    have K6 := Lib.hid (K5.out.drewN n6)
    have P6 := Lib.hid (KD.rdo RPaths.ok P5.out (fun b hb => hb))
    have X6 := Lib.hid (KD.rdo RInts.ok X5.out (fun b hb => hb))
    have O6 := Lib.hid (KD.rdo RInts.ok O5.out (fun b hb => hb))
    clear KD R5 P5 A5' X5 O5 K5
    generalize w5.drewN n6 = w6 at K6 P6 X6 O6
    go_wp2_with fail
    refine (At_any ps lx B A3 d c3 w6 P6.out X6.out M.out.s8 M.out.l M.out.pl).mono ?_
    rintro e w7 ⟨v, ex, rfl, rx, hg, k7⟩
    obtain ⟨B7, d7, rfl⟩ := rx.form
    have FX := Lib.hid (FO.out ex hg)
    have K7 := Lib.hid (K6.out.trans k7 (fun _ _ h => h))
    have P7 := Lib.hid (k7.rdo RPaths.ok P6.out (fun b hb => hb))
    have X7 := Lib.hid (RInts.ok.mono rx (S' := Old w7) (fun b hb => hb.2) (fun _ _ => rfl))
    have O7 := Lib.hid (k7.rdo RInts.ok O6.out (fun b hb => hb))
    clear rx hg k7 P6 X6 O6 K6 FO
    go_wp2_with fail
    refine (Identify_any ps ex oc 1048576 B B7 _ d d7 _ w7 P7.out X7.out O7.out).mono ?_
    rintro e w8 ⟨v8, rfl, r8, k8⟩
    obtain ⟨B8, d8, rfl⟩ := r8.form
    have K8 := Lib.hid (K7.out.trans k8 (fun _ _ h => h))
    have P8 := Lib.hid (k8.rdo RPaths.ok P7.out (fun b hb => hb))
    have O8 := Lib.hid (k8.rdo RInts.ok O7.out (fun b hb => hb))
    have R8 := Lib.hid (RInts.ok.mono r8 (S' := Old w8) (fun b hb => hb.2) (fun _ _ => rfl))
    generalize identify ps ex oc 1048576 = R at FX R8
    clear r8 k8 P7 X7 O7 K7
    obtain ⟨rl, rn, re⟩ := R
    simp only [] at FX R8 ⊢
    rcases FX.out with f13 | ⟨f0, fl, fc, fo⟩
    · subst f13
      clear FX
      go_wp2_with fail
      refine (awake38_any w8).mono ?_
      rintro e w9 ⟨rfl, k9⟩
      have K9 := Lib.hid (K8.out.trans k9 (fun _ _ h => h))
      clear k9
      go_wp2
      go_ret
      exact ⟨rfl, K9.out⟩
    · subst f0
      have FL := Lib.hid fl
      have FC := Lib.hid fc
      have FOO := Lib.hid fo
      have hb : ((rl.length : Int) == (ps.length : Int)) = true := by simp [fl]
      clear FX fl fc fo
      go_wp2_with fail
      refine (awake38_any w8).mono ?_
      rintro e w9 ⟨rfl, k9⟩
      have K9 := Lib.hid (K8.out.trans k9 (fun _ _ h => h))
      have P9 := Lib.hid (k9.rdo RPaths.ok P8.out (fun b hb => hb))
      have O9 := Lib.hid (k9.rdo RInts.ok O8.out (fun b hb => hb))
      have R9 := Lib.hid (k9.rdo RInts.ok R8.out (fun b hb => hb))
      clear k9 P8 O8 R8 K8
      go_wp2_with fail
      refine (CheckState_any ps rl B B8 d d8 w9 P9.out R9.out).mono ?_
      rintro e w10 ⟨rfl, k10⟩
      rw [FC.out]
      have K10 := Lib.hid (K9.out.trans k10 (fun _ _ h => h))
      have P10 := Lib.hid (k10.rdo RPaths.ok P9.out (fun b hb => hb))
      have O10 := Lib.hid (k10.rdo RInts.ok O9.out (fun b hb => hb))
      have R10 := Lib.hid (k10.rdo RInts.ok R9.out (fun b hb => hb))
      clear k10 P9 O9 R9 K9
      go_wp2_with fail
      refine (sections_any ps rl B B8 d d8 w10 P10.out R10.out FL.out).mono ?_
      rintro e w11 ⟨v, rfl, ho, k11⟩
      rw [FOO.out] at ho
      obtain ⟨B11, d11, rfl, hd11, hd11'⟩ := ho.form
      have K11 := Lib.hid (K10.out.trans k11 (fun _ _ h => h))
      have O11 := Lib.hid (k11.rdo RInts.ok O10.out (fun b hb => hb))
      have R11 := Lib.hid (ho.read RInt.ok (by omega) (S := Old w11) (fun _ _ h => h) (fun _ _ h => h))
      clear ho k11 P10 O10 R10 K10
      go_wp2_with fail
      refine (SameInt_any oc oc B11 _ d11 _ w11 _ _ R11.out O11.out).mono ?_
      rintro e w12 ⟨rfl, n12, rfl⟩
      have hd : decide (oc = oc) = true := by simp
      rw [hd]
      clear hd
      go_wp2
      go_ret
      exact ⟨rfl, K11.out.drewN _⟩
  · have g' : (checkState ps at_ != 0) = true := by simpa using g
    clear g
    go_wp2_with fail
    refine (awake38_any w3).mono ?_
    rintro e w9 ⟨rfl, k9⟩
    have K9 := Lib.hid (K3.out.trans k9 (fun _ _ h => h))
    clear k9
    go_wp2
    go_ret
    exact ⟨rfl, K9.out⟩

end Go.Proofs.Ytigmldildefdgaa
