/- The statement TakeoverIdentify: its function returns true. No condition beyond the arguments' reading. -/
import Derived.Test.YtigmldildefdgaaLaw38b
namespace Go.Proofs.Ytigmldildefdgaa
open Go.RowKit

theorem psMade.s8 {ps : List (List Stage)} (h : psMade ps) : secs8 ps := fun p hp s hs => by have := (h.2.2 p hp).2.2.1 s hs; have h1 := this.1; have h2 := this.2.1; omega
theorem psMade.l {ps : List (List Stage)} (h : psMade ps) : ps.length ≤ 1000 := by have := h.2.1; omega
theorem psMade.pl {ps : List (List Stage)} (h : psMade ps) : ∀ p ∈ ps, p.length ≤ 1000 := fun p hp => by have := (h.2.2 p hp).2.1; omega
theorem good_len {ps : List (List Stage)} {at_ : List Int} (h : good ps at_ = true) : at_.length = ps.length := by
  simp only [good, Bool.and_eq_true, decide_eq_true_eq] at h; exact h.1
theorem RSlice.form {α : Type} {size : Nat} {E : Rd α} {w : World} {S : Foot} {v : Value} {l : List α} (h : RSlice size E w S [v] l) : ∃ A c, v = .slice A l.length c := by
  obtain ⟨A, c, he, _⟩ := h; injection he with he _; exact ⟨A, c, he⟩

set_option maxRecDepth 100000 in
set_option maxHeartbeats 2000000 in
theorem TakeoverIdentify_any (lp la lx : List Int) (A A2 A3 : Option Addr) (c c2 c3 : Nat) (budget how vv : Int) (w : World) (h : RInts w (Old w) [.slice A lp.length c] lp) (h2 : RInts w (Old w) [.slice A2 la.length c2] la) (h3 : RInts w (Old w) [.slice A3 lx.length c3] lx) :
    Calls Try.prog 3 #[.slice A lp.length c, .slice A2 la.length c2, .slice A3 lx.length c3, .int .i64 budget, .int .i64 how, .int .i64 vv] w fun e w' => e = .returned (.bool true) ∧ KeepsAll w w' := by
  have H := Lib.hid h; clear h
  have H2 := Lib.hid h2; clear h2
  have H3 := Lib.hid h3; clear h3
  go_enter Try.func3, Try.ntmps3
  go_wp2_with fail
  refine (Paths_any lp A c w H.out).mono ?_
  rintro e w1 ⟨v, ps, rfl, rp, hm, k1⟩
  obtain ⟨B, d, rfl⟩ := rp.form
  have K1 := Lib.hid k1
  have M := Lib.hid hm
  have P1 := Lib.hid (RPaths.ok.mono rp (S' := Old w1) (fun b hb => hb.2) (fun _ _ => rfl))
  have A1 := Lib.hid (k1.rdo RInts.ok H2.out (fun b hb => hb))
  have X1 := Lib.hid (k1.rdo RInts.ok H3.out (fun b hb => hb))
  clear rp hm k1
  go_wp2_with fail
  refine (At_any ps la B A2 d c2 w1 P1.out A1.out M.out.s8 M.out.l M.out.pl).mono ?_
  rintro e w2 ⟨v, at_, rfl, ra, hg, k2⟩
  obtain ⟨B2, d2, rfl⟩ := ra.form
  have K2 := Lib.hid (K1.out.trans k2 (fun _ _ h => h))
  have G2 := Lib.hid (good_len hg)
  have P2 := Lib.hid (k2.rdo RPaths.ok P1.out (fun b hb => hb))
  have A2' := Lib.hid (RInts.ok.mono ra (S' := Old w2) (fun b hb => hb.2) (fun _ _ => rfl))
  have X2 := Lib.hid (k2.rdo RInts.ok X1.out (fun b hb => hb))
  clear ra hg k2 P1 A1 X1 K1
  go_wp2_with fail
  refine (At_any ps lx B A3 d c3 w2 P2.out X2.out M.out.s8 M.out.l M.out.pl).mono ?_
  rintro e w3 ⟨v, ex, rfl, rx, hg, k3⟩
  obtain ⟨B3, d3, rfl⟩ := rx.form
  have K3 := Lib.hid (K2.out.trans k3 (fun _ _ h => h))
  have P3 := Lib.hid (k3.rdo RPaths.ok P2.out (fun b hb => hb))
  have A3' := Lib.hid (k3.rdo RInts.ok A2'.out (fun b hb => hb))
  have X3 := Lib.hid (RInts.ok.mono rx (S' := Old w3) (fun b hb => hb.2) (fun _ _ => rfl))
  clear rx hg k3 P2 A2' X2 K2
  go_wp2_with fail
  refine (sections_any ps at_ B B2 d d2 w3 P3.out A3'.out G2.out).mono ?_
  rintro e w4 ⟨v, rfl, ho, k4⟩
  obtain ⟨B4, d4, rfl, hd4, hd4'⟩ := ho.form
  have hl8 := secsTo_len ps at_ 8
  have K4 := Lib.hid (K3.out.trans k4 (fun _ _ h => h))
  have hz4 := k4.size
  have HO := Lib.hid ho
  generalize secsTo ps at_ 8 = oc at hl8 hd4 ho HO
  have K34 := Lib.hid k4
  clear ho k4 A3' K4
  have FIN : Hid (∀ (W : World), KeepsAll w3 W → RPaths W (Old W) [.slice B ps.length d] ps ∧ RInts W (Old W) [.slice B3 ex.length d3] ex ∧ KeepsAll w W) := fun W k =>
    ⟨k.rdo RPaths.ok P3.out (fun b hb => hb), k.rdo RInts.ok X3.out (fun b hb => hb), K3.out.trans k (fun _ _ h => h)⟩
  clear P3 X3 K3
  have p1 := pick_range how 4 (by omega)
  have p2 := pick_range vv 9 (by omega)
  have p3 := pick_range budget 400 (by omega)
  by_cases g : pick how 4 = 0
  · have g' : (pick how 4 == 0) = true := by simpa using g
    clear g
    go_wp2_with (first | (go_at_call 18; refine (Pick_any _ _ _ (by omega) (by omega)).mono ?_; rintro e w' ⟨rfl, rfl⟩) | (at_builtin; refine wpList_append_L tyInt RInt.ok rfl (.tmp 38) (.tmp 41) rfl (HO.out.alloc RInt.ok _) rfl _ [.int .i64 (pick vv 9)] rfl (Blk.new' _ _ _ (by simp)) rfl (pick vv 9) (S := fun _ => False) rfl (fun _ h => h.elim) (by simp [Value.oneCell']) (by omega) (by omega) (by simp; omega) ?_; intro v2 w5 HO2 HK2 HA2; obtain ⟨B5, d5, hv5, _, _⟩ := HO2.form; subst hv5; generalize hoc2 : oc ++ [pick vv 9] = oc2 at HO2 ⊢; clear hoc2))
    have K35 : Hid (KeepsAll w3 w5) := ((K34.out.alloc _).trans HK2 (fun x hx e => (by have := HO.out.lt e; omega)))
    have OCW := Lib.hid (HO2.read RInt.ok (by omega) (S := Old w5) (fun _ _ h => h) (fun _ _ h => h))
    clear HO2 HK2 HA2
    have IX : Hid (identify ps ex oc2 (1 + pick budget 400) = identify ps ex oc2 (1 + pick budget 400)) := rfl
    obtain ⟨PW, XW, KW⟩ := FIN.out w5 K35.out
    refine (Identify_any ps ex oc2 (1 + pick budget 400) B B3 _ d d3 _ w5 PW XW OCW.out).mono ?_
    rintro e w6 ⟨v6, rfl, r6, k6⟩
    obtain ⟨B6, d6, rfl⟩ := r6.form
    have PW6 := k6.rdo RPaths.ok PW (fun b hb => hb)
    have XW6 := k6.rdo RInts.ok XW (fun b hb => hb)
    have OW6 := k6.rdo RInts.ok OCW.out (fun b hb => hb)
    have RI := Lib.hid (RefIdentify_any ps ex oc2 (1 + pick budget 400) B B3 _ d d3 _ w6 PW6 XW6 OW6)
    have R6 := Lib.hid (RInts.ok.mono r6 (S' := Old w6) (fun b hb => hb.2) (fun _ _ => rfl))
    have K6 := Lib.hid (KW.trans k6 (fun _ _ h => h))
    generalize identify ps ex oc2 (1 + pick budget 400) = R at RI R6
    clear r6 k6 PW6 XW6 OW6 PW XW KW IX
    obtain ⟨rl, rn, re⟩ := R
    simp only [] at RI R6
    go_wp2_with fail
    refine RI.out.mono ?_
    rintro e w7 ⟨v7, rfl, r7, k7⟩
    obtain ⟨B7, d7, rfl⟩ := r7.form
    have R7 := Lib.hid (RInts.ok.mono r7 (S' := Old w7) (fun b hb => hb.2) (fun _ _ => rfl))
    have R67 := Lib.hid (k7.rdo RInts.ok R6.out (fun b hb => hb))
    have K7 := Lib.hid (K6.out.trans k7 (fun _ _ h => h))
    clear r7 k7 RI R6 K6
    go_wp2_with fail
    refine (awake38_any w7).mono ?_
    rintro e w8 ⟨rfl, k8⟩
    have R68 := Lib.hid (k8.rdo RInts.ok R67.out (fun b hb => hb))
    have R78 := Lib.hid (k8.rdo RInts.ok R7.out (fun b hb => hb))
    have K8 := Lib.hid (K7.out.trans k8 (fun _ _ h => h))
    clear k8 R67 R7 K7
    go_wp2_with fail
    refine (SameInt_any rl rl B6 B7 d6 d7 w8 _ _ R68.out R78.out).mono ?_
    rintro e w9 ⟨rfl, n9, rfl⟩
    have hd : decide (rl = rl) = true := by simp
    rw [hd]
    clear hd
    go_wp2
    go_ret
    exact ⟨by simp, K8.out.drewN _⟩
  · have g' : (pick how 4 == 0) = false := by simpa using g
    clear g
    go_wp2_with (first | (go_at_call 18; refine (Pick_any _ _ _ (by omega) (by omega)).mono ?_; rintro e w' ⟨rfl, rfl⟩))
    have K35 := K34
    have OCW := Lib.hid (HO.out.read RInt.ok (by omega) (S := Old w4) (fun _ _ h => h) (fun _ _ h => h))
    have IX : Hid (identify ps ex oc (1 + pick budget 400) = identify ps ex oc (1 + pick budget 400)) := rfl
    obtain ⟨PW, XW, KW⟩ := FIN.out w4 K35.out
    refine (Identify_any ps ex oc (1 + pick budget 400) B B3 _ d d3 _ w4 PW XW OCW.out).mono ?_
    rintro e w6 ⟨v6, rfl, r6, k6⟩
    obtain ⟨B6, d6, rfl⟩ := r6.form
    have PW6 := k6.rdo RPaths.ok PW (fun b hb => hb)
    have XW6 := k6.rdo RInts.ok XW (fun b hb => hb)
    have OW6 := k6.rdo RInts.ok OCW.out (fun b hb => hb)
    have RI := Lib.hid (RefIdentify_any ps ex oc (1 + pick budget 400) B B3 _ d d3 _ w6 PW6 XW6 OW6)
    have R6 := Lib.hid (RInts.ok.mono r6 (S' := Old w6) (fun b hb => hb.2) (fun _ _ => rfl))
    have K6 := Lib.hid (KW.trans k6 (fun _ _ h => h))
    generalize identify ps ex oc (1 + pick budget 400) = R at RI R6
    clear r6 k6 PW6 XW6 OW6 PW XW KW IX
    obtain ⟨rl, rn, re⟩ := R
    simp only [] at RI R6
    go_wp2_with fail
    refine RI.out.mono ?_
    rintro e w7 ⟨v7, rfl, r7, k7⟩
    obtain ⟨B7, d7, rfl⟩ := r7.form
    have R7 := Lib.hid (RInts.ok.mono r7 (S' := Old w7) (fun b hb => hb.2) (fun _ _ => rfl))
    have R67 := Lib.hid (k7.rdo RInts.ok R6.out (fun b hb => hb))
    have K7 := Lib.hid (K6.out.trans k7 (fun _ _ h => h))
    clear r7 k7 RI R6 K6
    go_wp2_with fail
    refine (awake38_any w7).mono ?_
    rintro e w8 ⟨rfl, k8⟩
    have R68 := Lib.hid (k8.rdo RInts.ok R67.out (fun b hb => hb))
    have R78 := Lib.hid (k8.rdo RInts.ok R7.out (fun b hb => hb))
    have K8 := Lib.hid (K7.out.trans k8 (fun _ _ h => h))
    clear k8 R67 R7 K7
    go_wp2_with fail
    refine (SameInt_any rl rl B6 B7 d6 d7 w8 _ _ R68.out R78.out).mono ?_
    rintro e w9 ⟨rfl, n9, rfl⟩
    have hd : decide (rl = rl) = true := by simp
    rw [hd]
    clear hd
    go_wp2
    go_ret
    exact ⟨by simp, K8.out.drewN _⟩

end Go.Proofs.Ytigmldildefdgaa
