/- The statement about texts of records, walked. Conditions: as each theorem says. The statement about what is printed and read again, walked. Conditions: as the theorem says. -/
import Derived.Test.YtnglahcjemgcaaaGreatDoorK06
import Derived.Test.YtnglahcjemgcaaaGreatDoorK07
import Derived.Test.YtnglahcjemgcaaaGreatDoorK48
import Derived.Deep.Cut
namespace Go.Proofs.YtnglahcjemgcaaaGreatDoor
section
open Go.RowKit

theorem awake43_any (w : World) (ht : TabW w) : Calls Tryz.prog 9 #[] w fun e w' => e = .returned (.bool true) ∧ KeepsAll w w' := by
  have h := axk265_true w ⟨ht, fun _ _ h => h⟩
  rw [show axk265.f = 9 from by unfold axk265; rfl] at h
  exact h
def parV : List Rc ⊕ (Nat × Int) → List Rc × Int × Int
  | .inl rs => (rs, 0, 0)
  | .inr (k, x) => ([], (k : Int), x)
theorem ParE.uni {w w' : World} {e : Ending} {p : List Rc ⊕ (Nat × Int)} (h : ParE w w' e p) : ∃ A c, e = .returned (.tuple #[.slice A (parV p).1.length c, .int .i64 (parV p).2.1, .int .i64 (parV p).2.2]) ∧ RRecs w' (Old w') [.slice A (parV p).1.length c] (parV p).1 := by
  cases p with
  | inl rs =>
    obtain ⟨A, c, rfl, hr⟩ := h
    exact ⟨A, c, rfl, RRecs.ok.mono hr (fun b hb => hb.2) (fun _ _ => rfl)⟩
  | inr q =>
    obtain ⟨k, x⟩ := q
    exact ⟨none, 0, h, RSlice.mkNil⟩
/-- both sides read the same -/
theorem parse_both (s : Bs) (hl : s.length ≤ 9223372036854775807) : ∃ (rt : List Rc) (kt xt : Int), parV (parT s) = (rt, kt, xt) ∧
    (∀ W, Calls Tryz.prog 6 #[.string (mkS s)] W fun e w' => (∃ A c, e = .returned (.tuple #[.slice A rt.length c, .int .i64 kt, .int .i64 xt]) ∧ RRecs w' (Old w') [.slice A rt.length c] rt) ∧ KeepsAll W w') ∧
    (∀ W, Calls Tryz.prog 7 #[.string (mkS s)] W fun e w' => (∃ A c, e = .returned (.tuple #[.slice A rt.length c, .int .i64 kt, .int .i64 xt]) ∧ RRecs w' (Old w') [.slice A rt.length c] rt) ∧ KeepsAll W w') :=
  ⟨(parV (parT s)).1, (parV (parT s)).2.1, (parV (parT s)).2.2, rfl, fun W => (cParse_any s hl W).mono fun _ _ ⟨h1, h2⟩ => ⟨h1.uni, h2⟩, fun W => (rParse_any s hl W).mono fun _ _ ⟨h1, h2⟩ => ⟨h1.uni, h2⟩⟩
theorem fmtL_len (rs : List Rc) (h6 : ∀ r ∈ rs, r.length = 6) : (fmtL rs).length ≤ 1409 * rs.length := by
  by_cases h : ∀ r ∈ rs, r.all inM = true
  · rw [fmtL_ok rs h]
    have := jlines_len (rs.map fun r => r.map Lib.itoa) (fun l hl => by
      obtain ⟨r, hr, rfl⟩ := List.mem_map.1 hl
      exact jok_rec r (h6 r hr) (h r hr))
    rw [List.length_map] at this
    exact this
  · have : fmtL rs = [] := by unfold fmtL; rw [if_neg (fun e => h (List.all_eq_true.1 e))]
    rw [this]; simp
theorem RRecs.six {w : World} {S : Foot} {rs : List Rc} {A : Option Addr} {n0 c : Nat} (h : RRecs w S [.slice A n0 c] rs) : ∀ r ∈ rs, r.length = 6 := by
  intro r hr
  obtain ⟨i, hi, e⟩ := List.getElem_of_mem hr
  obtain ⟨b, o, x, es, _, _, hx, _, ⟨h6, _⟩, _⟩ := h.get hi
  rw [List.getElem?_eq_getElem hi, e] at hx
  rw [Option.some.inj hx]; exact h6
/-- both sides print the same -/
theorem format_both (rs : List Rc) (hl : rs.length ≤ 1048576) (A : Option Addr) (c : Nat) (w : World) (h : RRecs w (Old w) [.slice A rs.length c] rs) (ht : TabW w) :
    (∀ W, KeepsAll w W → Calls Tryz.prog 8 #[.slice A rs.length c] W fun e w' => e = .returned (.string (mkS (fmtL rs))) ∧ KeepsAll W w') ∧
    (∀ W, KeepsAll w W → Calls Tryz.prog 10 #[.slice A rs.length c] W fun e w' => e = .returned (.string (mkS (fmtL rs))) ∧ KeepsAll W w') := by
  have hr : ∀ W, KeepsAll w W → RRecs W (Old W) [.slice A rs.length c] rs := fun W k => k.rd RRecs.ok h (fun b hb => ⟨hb, fun h => h⟩) (fun b hb => Nat.lt_of_lt_of_le hb k.size)
  exact ⟨fun W k => cFormat_any rs hl A c W (hr W k) (ht.keptA k), fun W k => rFormat_any rs hl A c W (hr W k)⟩
theorem same_both (rs : List Rc) (A A2 : Option Addr) (c c2 : Nat) (w w2 : World) (h : RRecs w (Old w) [.slice A rs.length c] rs) (h2 : RRecs w2 (Old w2) [.slice A2 rs.length c2] rs) (k0 : KeepsAll w w2) :
    ∀ W, KeepsAll w2 W → Calls Tryz.prog 11 #[.slice A rs.length c, .slice A2 rs.length c2] W fun e w' => e = .returned (.bool true) ∧ KeepsAll W w' := fun W k =>
  SameRec_any rs A A2 c c2 W ((k0.trA k).rd RRecs.ok h (fun _ hb => ⟨hb, fun h => h⟩) (fun _ hb => Nat.lt_of_lt_of_le hb (k0.trA k).size)) (k.rd RRecs.ok h2 (fun _ hb => ⟨hb, fun h => h⟩) (fun _ hb => Nat.lt_of_lt_of_le hb k.size))
set_option maxHeartbeats 16000000 in
set_option maxRecDepth 100000 in
theorem text_walk (rs : List Rc) (hrs : rs.length ≤ 1048576) (src : Bs) (hsrc : src.length ≤ 9000000000000000000) (l : List Int) (A A3 : Option Addr) (c c3 : Nat) (w : World) (h1 : RRecs w (Old w) [.slice A rs.length c] rs) (h3 : RInts w (Old w) [.slice A3 l.length c3] l) (ht : TabW w) :
    Calls Tryz.prog 3 #[.slice A rs.length c, .string (mkS src), .slice A3 l.length c3] w fun e w' => e = .returned (.bool true) ∧ KeepsAll w w' := by
  obtain ⟨ra, ka, xa, -, hpa, hpb⟩ := parse_both src (by omega)
  obtain ⟨hf1, hf2⟩ := format_both rs hrs A c w h1 ht
  have HPA := Lib.hid hpa
  have HPB := Lib.hid hpb
  have HF1 := Lib.hid hf1
  have HF2 := Lib.hid hf2
  have HREC := Lib.hid (Records_any l A3 c3 w h3)
  have HT := Lib.hid ht
  have hss : (mkS src).size = src.length := mkS_size src
  have HSX : Hid (∀ ft : Bs, 0 < src.length → (mkS src).extract 0 1 ++ mkS ft = mkS (src.take 1 ++ ft)) := fun ft _ => by
    rw [mkS_ext, mkS_app, List.drop_zero]
  have HSZ : Hid (0 < src.length → ((mkS src).extract 0 1).size = 1) := fun h => by
    rw [mkS_ext, mkS_size]
    simp; omega
  clear hpa hpb hf1 hf2 h1 h3 ht
  generalize hsb : mkS src = sb at *
  clear hsb
  generalize mkS (fmtL rs) = fb at *
  go_enter Tryz.func3, Tryz.ntmps3
  go_upto_region 5 with (first
    | (go_at_call 5; refine (HREC.out).mono ?_; rintro e w1 ⟨rx, Ax, cx, rfl, hrx, hrl, hk1⟩; have HK1 := Lib.hid hk1; have HRX : Hid (RRecs w1 (Old w1) [.slice Ax rx.length cx] rx) := RRecs.ok.mono hrx (fun b hb => hb.2) (fun _ _ => rfl); clear hrx hk1)
    | (go_at_call 6; refine (HPA.out _).mono ?_; rintro e w2 ⟨⟨Aa, ca, rfl, hra⟩, hk2⟩; have HK2 := Lib.hid hk2; have HRA := Lib.hid hra; clear hra hk2)
    | (go_at_call 7; refine (HPB.out _).mono ?_; rintro e w3 ⟨⟨Ab, cb, rfl, hrb⟩, hk3⟩; have HK3 := Lib.hid hk3; have HRB := Lib.hid hrb; clear hrb hk3)
    | (go_at_call 8; have hfx := format_both rx (by omega) Ax cx w1 HRX.out (HT.out.keptA HK1.out); have HX1 := Lib.hid hfx.1; have HX2 := Lib.hid hfx.2; clear hfx; refine (HX1.out _ (HK2.out.trA HK3.out)).mono ?_; rintro e w4 ⟨rfl, hk4⟩; have HK4 := Lib.hid hk4; clear hk4))
  have hfl : (fmtL rx).length ≤ 11272 := Nat.le_trans (fmtL_len rx HRX.out.six) (by omega)
  have HSA := Lib.hid (same_both ra Aa Ab ca cb w2 w3 HRA.out HRB.out HK3.out)
  have H34 : Hid (KeepsAll w3 w4) := HK4.out
  have H14 : Hid (KeepsAll w1 w4) := (HK2.out.trA HK3.out).trA HK4.out
  have H04 : Hid (KeepsAll w w4) := HK1.out.trA H14.out
  have hfs : (mkS (fmtL rx)).size = (fmtL rx).length := mkS_size _
  clear HPA HPB HREC HRX HRA HRB HK1 HK2 HK3 HK4
  generalize fmtL rx = ft at *
  by_cases hx0 : 0 < rx.length
  · by_cases hs0 : 0 < src.length
    · have hcat := HSX.out ft hs0
      have hsz1 := HSZ.out hs0
      have htl : (src.take 1 ++ ft).length ≤ 11273 := by rw [List.length_append, List.length_take]; omega
      clear HSX HSZ
      obtain ⟨rt, kt, xt, -, hqa, hqb⟩ := parse_both (src.take 1 ++ ft) (by omega)
      have HQA := Lib.hid hqa
      have HQB := Lib.hid hqb
      clear hqa hqb
      generalize src.take 1 ++ ft = tt at *
      go_wp2_with (first
        | (go_at_call 6; refine (HQA.out _).mono ?_; rintro e w5 ⟨⟨Ac, cc, rfl, hrc⟩, hk5⟩; have HK5 := Lib.hid hk5; have HRC := Lib.hid hrc; clear hrc hk5)
        | (go_at_call 7; refine (HQB.out _).mono ?_; rintro e w6 ⟨⟨Ad, cd, rfl, hrd⟩, hk6⟩; have HW : Hid (KeepsAll w6 w6) := Keeps.refl _ _; have HSC := Lib.hid (same_both rt Ac Ad cc cd w5 w6 HRC.out hrd hk6); have H46 := Lib.hid (HK5.out.trA hk6); clear hrd hk6)
        | (go_at_call 9; refine (awake43_any _ (HT.out.keptA ((H04.out.trA H46.out).trA HW.out))).mono ?_; rintro e wk ⟨rfl, hk⟩; replace HW := Lib.hid (HW.out.trA hk); clear hk)
        | (go_at_call 8; with_reducible refine (HF1.out _ ((H04.out.trA H46.out).trA HW.out)).mono ?_; rintro e wk ⟨rfl, hk⟩; replace HW := Lib.hid (HW.out.trA hk); clear hk)
        | (go_at_call 10; with_reducible refine (HF2.out _ ((H04.out.trA H46.out).trA HW.out)).mono ?_; rintro e wk ⟨rfl, hk⟩; replace HW := Lib.hid (HW.out.trA hk); clear hk)
        | (go_at_call 8; with_reducible refine (HX1.out _ ((H14.out.trA H46.out).trA HW.out)).mono ?_; rintro e wk ⟨rfl, hk⟩; replace HW := Lib.hid (HW.out.trA hk); clear hk)
        | (go_at_call 10; with_reducible refine (HX2.out _ ((H14.out.trA H46.out).trA HW.out)).mono ?_; rintro e wk ⟨rfl, hk⟩; replace HW := Lib.hid (HW.out.trA hk); clear hk)
        | (go_at_call 11; with_reducible refine (HSA.out _ ((H34.out.trA H46.out).trA HW.out)).mono ?_; rintro e wk ⟨rfl, hk⟩; replace HW := Lib.hid (HW.out.trA hk); clear hk)
        | (go_at_call 11; with_reducible refine (HSC.out _ HW.out).mono ?_; rintro e wk ⟨rfl, hk⟩; replace HW := Lib.hid (HW.out.trA hk); clear hk))
      go_ret
      exact ⟨rfl, (H04.out.trA H46.out).trA HW.out⟩
    · clear HSX HSZ
      obtain ⟨rt, kt, xt, -, hqa, hqb⟩ := parse_both ft (by omega)
      have HQA := Lib.hid hqa
      have HQB := Lib.hid hqb
      clear hqa hqb
      go_wp2_with (first
        | (go_at_call 6; refine (HQA.out _).mono ?_; rintro e w5 ⟨⟨Ac, cc, rfl, hrc⟩, hk5⟩; have HK5 := Lib.hid hk5; have HRC := Lib.hid hrc; clear hrc hk5)
        | (go_at_call 7; refine (HQB.out _).mono ?_; rintro e w6 ⟨⟨Ad, cd, rfl, hrd⟩, hk6⟩; have HW : Hid (KeepsAll w6 w6) := Keeps.refl _ _; have HSC := Lib.hid (same_both rt Ac Ad cc cd w5 w6 HRC.out hrd hk6); have H46 := Lib.hid (HK5.out.trA hk6); clear hrd hk6)
        | (go_at_call 9; refine (awake43_any _ (HT.out.keptA ((H04.out.trA H46.out).trA HW.out))).mono ?_; rintro e wk ⟨rfl, hk⟩; replace HW := Lib.hid (HW.out.trA hk); clear hk)
        | (go_at_call 8; with_reducible refine (HF1.out _ ((H04.out.trA H46.out).trA HW.out)).mono ?_; rintro e wk ⟨rfl, hk⟩; replace HW := Lib.hid (HW.out.trA hk); clear hk)
        | (go_at_call 10; with_reducible refine (HF2.out _ ((H04.out.trA H46.out).trA HW.out)).mono ?_; rintro e wk ⟨rfl, hk⟩; replace HW := Lib.hid (HW.out.trA hk); clear hk)
        | (go_at_call 8; with_reducible refine (HX1.out _ ((H14.out.trA H46.out).trA HW.out)).mono ?_; rintro e wk ⟨rfl, hk⟩; replace HW := Lib.hid (HW.out.trA hk); clear hk)
        | (go_at_call 10; with_reducible refine (HX2.out _ ((H14.out.trA H46.out).trA HW.out)).mono ?_; rintro e wk ⟨rfl, hk⟩; replace HW := Lib.hid (HW.out.trA hk); clear hk)
        | (go_at_call 11; with_reducible refine (HSA.out _ ((H34.out.trA H46.out).trA HW.out)).mono ?_; rintro e wk ⟨rfl, hk⟩; replace HW := Lib.hid (HW.out.trA hk); clear hk)
        | (go_at_call 11; with_reducible refine (HSC.out _ HW.out).mono ?_; rintro e wk ⟨rfl, hk⟩; replace HW := Lib.hid (HW.out.trA hk); clear hk))
      go_ret
      exact ⟨rfl, (H04.out.trA H46.out).trA HW.out⟩
  · clear HSX HSZ
    obtain ⟨rt, kt, xt, -, hqa, hqb⟩ := parse_both ft (by omega)
    have HQA := Lib.hid hqa
    have HQB := Lib.hid hqb
    clear hqa hqb
    go_wp2_with (first
      | (go_at_call 6; refine (HQA.out _).mono ?_; rintro e w5 ⟨⟨Ac, cc, rfl, hrc⟩, hk5⟩; have HK5 := Lib.hid hk5; have HRC := Lib.hid hrc; clear hrc hk5)
      | (go_at_call 7; refine (HQB.out _).mono ?_; rintro e w6 ⟨⟨Ad, cd, rfl, hrd⟩, hk6⟩; have HW : Hid (KeepsAll w6 w6) := Keeps.refl _ _; have HSC := Lib.hid (same_both rt Ac Ad cc cd w5 w6 HRC.out hrd hk6); have H46 := Lib.hid (HK5.out.trA hk6); clear hrd hk6)
      | (go_at_call 9; refine (awake43_any _ (HT.out.keptA ((H04.out.trA H46.out).trA HW.out))).mono ?_; rintro e wk ⟨rfl, hk⟩; replace HW := Lib.hid (HW.out.trA hk); clear hk)
      | (go_at_call 8; with_reducible refine (HF1.out _ ((H04.out.trA H46.out).trA HW.out)).mono ?_; rintro e wk ⟨rfl, hk⟩; replace HW := Lib.hid (HW.out.trA hk); clear hk)
      | (go_at_call 10; with_reducible refine (HF2.out _ ((H04.out.trA H46.out).trA HW.out)).mono ?_; rintro e wk ⟨rfl, hk⟩; replace HW := Lib.hid (HW.out.trA hk); clear hk)
      | (go_at_call 8; with_reducible refine (HX1.out _ ((H14.out.trA H46.out).trA HW.out)).mono ?_; rintro e wk ⟨rfl, hk⟩; replace HW := Lib.hid (HW.out.trA hk); clear hk)
      | (go_at_call 10; with_reducible refine (HX2.out _ ((H14.out.trA H46.out).trA HW.out)).mono ?_; rintro e wk ⟨rfl, hk⟩; replace HW := Lib.hid (HW.out.trA hk); clear hk)
      | (go_at_call 11; with_reducible refine (HSA.out _ ((H34.out.trA H46.out).trA HW.out)).mono ?_; rintro e wk ⟨rfl, hk⟩; replace HW := Lib.hid (HW.out.trA hk); clear hk)
      | (go_at_call 11; with_reducible refine (HSC.out _ HW.out).mono ?_; rintro e wk ⟨rfl, hk⟩; replace HW := Lib.hid (HW.out.trA hk); clear hk))
    go_ret
    exact ⟨rfl, (H04.out.trA H46.out).trA HW.out⟩
end

section
open Go.RowKit

set_option maxHeartbeats 16000000 in
set_option maxRecDepth 100000 in
theorem back_walk (rs : List Rc) (hrs : rs.length ≤ 1048576) (l : List Int) (A A3 : Option Addr) (c c3 : Nat) (w : World) (h1 : RRecs w (Old w) [.slice A rs.length c] rs) (h3 : RInts w (Old w) [.slice A3 l.length c3] l) (ht : TabW w) :
    Calls Tryz.prog 4 #[.slice A3 l.length c3, .slice A rs.length c] w fun e w' => e = .returned (.bool true) ∧ KeepsAll w w' := by
  have HREC := Lib.hid (Records_any l A3 c3 w h3)
  have HT := Lib.hid ht
  have HR := Lib.hid h1
  clear h1 h3 ht
  go_enter Tryz.func4, Tryz.ntmps4
  go_upto_region 2 with (go_at_call 5; refine (HREC.out).mono ?_; rintro e w1 ⟨rx, Ax, cx, rfl, hrx, hrl, hk1⟩; have HK1 := Lib.hid hk1; have HRX : Hid (RRecs w1 (Old w1) [.slice Ax rx.length cx] rx) := RRecs.ok.mono hrx (fun b hb => hb.2) (fun _ _ => rfl); clear hrx hk1)
  by_cases hr0 : 0 < rs.length
  · have HPK := Lib.hid (fun W => Pick_any (rs.length : Int) 2 W (by decide) (by decide))
    by_cases hp : pick (rs.length : Int) 2 = 0
    · have hpb : (pick (rs.length : Int) 2 == 0) = true := by simpa using hp
      generalize pick (rs.length : Int) 2 = pk at *
      subst hp
      clear hpb
      go_upto_region 4 with (go_at_call 12; refine (HPK.out _).mono ?_; rintro e w' ⟨rfl, rfl⟩)
      have HXX : Hid (RRecs w1 (Old w1) [.slice A rs.length c] rs) := HK1.out.rd RRecs.ok HR.out (fun b hb => ⟨hb, fun h => h⟩) (fun b hb => Nat.lt_of_lt_of_le hb HK1.out.size)
      obtain ⟨hf1, hf2⟩ := format_both rs (by omega) A c w1 HXX.out (HT.out.keptA HK1.out)
      have HF1 := Lib.hid hf1
      have HF2 := Lib.hid hf2
      have h6 := HXX.out.six
      have hfl : (fmtL rs).length ≤ 1477443584 := Nat.le_trans (fmtL_len rs h6) (by omega)
      have hfs : (mkS (fmtL rs)).size = (fmtL rs).length := mkS_size _
      have htl : (mkS (fmtL rs)).toList = fmtL rs := by rw [ByteArray.toList_eq, mkS_list]
      have HPAR := Lib.hid (fun W => cParse_any (fmtL rs) (by omega) W)
      have HPF := Lib.hid (par_fmt rs h6)
      clear hf1 hf2
      by_cases hF0 : fmtL rs = []
      · have hE1 : (mkS (fmtL rs)).toList = [] := by rw [htl]; exact hF0
        have hE2 : (mkS (fmtL rs)).toList.isEmpty = true := by rw [hE1]; rfl
        have hF0l : (fmtL rs).length = 0 := by rw [hF0]; rfl
        clear HPAR HPF htl hF0
        generalize hft : fmtL rs = ft at *
        clear hft
        generalize mkS ft = tb at *
        go_wp2_with (first
          | (go_at_call 8; refine (HF1.out _ (Keeps.refl _ _)).mono ?_; rintro e w4 ⟨rfl, hk4⟩; have HW := Lib.hid hk4; clear hk4)
          | (go_at_call 9; refine (awake43_any _ (HT.out.keptA (HK1.out.trA HW.out))).mono ?_; rintro e wk ⟨rfl, hk⟩; replace HW := Lib.hid (HW.out.trA hk); clear hk)
          | (go_at_call 10; refine (HF2.out _ HW.out).mono ?_; rintro e wk ⟨rfl, hk⟩; replace HW := Lib.hid (HW.out.trA hk); clear hk))
        go_ret
        exact ⟨rfl, HK1.out.trA HW.out⟩
      · have hE1 : ¬ (mkS (fmtL rs)).toList = [] := by rw [htl]; exact hF0
        have hE2 : (mkS (fmtL rs)).toList.isEmpty = false := by rw [htl]; simpa using hF0
        by_cases hbig : 65536 < (fmtL rs).length
        · clear HPAR HPF htl
          generalize hft : fmtL rs = ft at *
          clear hft
          generalize mkS ft = tb at *
          go_wp2_with (first
            | (go_at_call 8; refine (HF1.out _ (Keeps.refl _ _)).mono ?_; rintro e w4 ⟨rfl, hk4⟩; have HW := Lib.hid hk4; clear hk4)
            | (go_at_call 9; refine (awake43_any _ (HT.out.keptA (HK1.out.trA HW.out))).mono ?_; rintro e wk ⟨rfl, hk⟩; replace HW := Lib.hid (HW.out.trA hk); clear hk)
            | (go_at_call 10; refine (HF2.out _ HW.out).mono ?_; rintro e wk ⟨rfl, hk⟩; replace HW := Lib.hid (HW.out.trA hk); clear hk))
          go_ret
          exact ⟨rfl, HK1.out.trA HW.out⟩
        · have HPQ : Hid (∀ W, Calls Tryz.prog 6 #[.string (mkS (fmtL rs))] W fun e w' => (∃ A c, e = .returned (.tuple #[.slice A rs.length c, .int .i64 0, .int .i64 0]) ∧ RRecs w' (Fresh W w') [.slice A rs.length c] rs) ∧ KeepsAll W w') := fun W => by
            have := HPAR.out W
            rw [HPF.out hF0 (by omega)] at this
            exact this
          clear HPAR HPF htl
          generalize hft : fmtL rs = ft at *
          clear hft
          generalize mkS ft = tb at *
          go_wp2_with (first
            | (go_at_call 8; refine (HF1.out _ (Keeps.refl _ _)).mono ?_; rintro e w4 ⟨rfl, hk4⟩; have HW := Lib.hid hk4; clear hk4)
            | (go_at_call 6; refine (HPQ.out _).mono ?_; rintro e w5 ⟨⟨Ay, cy, rfl, hry⟩, hk5⟩; have HY : Hid (RRecs w5 (Old w5) [.slice Ay rs.length cy] rs) := RRecs.ok.mono hry (fun b hb => hb.2) (fun _ _ => rfl); replace HW := Lib.hid (HW.out.trA hk5); have HW5 : Hid (KeepsAll w5 w5) := Keeps.refl _ _; clear hk5 hry)
            | (go_at_call 9; refine (awake43_any _ (HT.out.keptA (HK1.out.trA HW.out))).mono ?_; rintro e wk ⟨rfl, hk⟩; replace HW := Lib.hid (HW.out.trA hk); replace HW5 := Lib.hid (HW5.out.trA hk); clear hk)
            | (go_at_call 11; refine (SameRec_any rs Ay A cy c _ (HW5.out.rd RRecs.ok HY.out (fun b hb => ⟨hb, fun h => h⟩) (fun b hb => Nat.lt_of_lt_of_le hb HW5.out.size)) (HW.out.rd RRecs.ok HXX.out (fun b hb => ⟨hb, fun h => h⟩) (fun b hb => Nat.lt_of_lt_of_le hb HW.out.size))).mono ?_; rintro e wk ⟨rfl, hk⟩; replace HW := Lib.hid (HW.out.trA hk); clear hk))
          go_ret
          exact ⟨rfl, HK1.out.trA HW.out⟩
    · have hpb : (pick (rs.length : Int) 2 == 0) = false := by simpa using hp
      generalize pick (rs.length : Int) 2 = pk at *
      go_upto_region 4 with (go_at_call 12; refine (HPK.out _).mono ?_; rintro e w' ⟨rfl, rfl⟩)
      clear hp hpb
      have HXX : Hid (RRecs w1 (Old w1) [.slice Ax rx.length cx] rx) := HRX.out
      obtain ⟨hf1, hf2⟩ := format_both rx (by omega) Ax cx w1 HXX.out (HT.out.keptA HK1.out)
      have HF1 := Lib.hid hf1
      have HF2 := Lib.hid hf2
      have h6 := HXX.out.six
      have hfl : (fmtL rx).length ≤ 1477443584 := Nat.le_trans (fmtL_len rx h6) (by omega)
      have hfs : (mkS (fmtL rx)).size = (fmtL rx).length := mkS_size _
      have htl : (mkS (fmtL rx)).toList = fmtL rx := by rw [ByteArray.toList_eq, mkS_list]
      have HPAR := Lib.hid (fun W => cParse_any (fmtL rx) (by omega) W)
      have HPF := Lib.hid (par_fmt rx h6)
      clear hf1 hf2
      by_cases hF0 : fmtL rx = []
      · have hE1 : (mkS (fmtL rx)).toList = [] := by rw [htl]; exact hF0
        have hE2 : (mkS (fmtL rx)).toList.isEmpty = true := by rw [hE1]; rfl
        have hF0l : (fmtL rx).length = 0 := by rw [hF0]; rfl
        clear HPAR HPF htl hF0
        generalize hft : fmtL rx = ft at *
        clear hft
        generalize mkS ft = tb at *
        go_wp2_with (first
          | (go_at_call 8; refine (HF1.out _ (Keeps.refl _ _)).mono ?_; rintro e w4 ⟨rfl, hk4⟩; have HW := Lib.hid hk4; clear hk4)
          | (go_at_call 9; refine (awake43_any _ (HT.out.keptA (HK1.out.trA HW.out))).mono ?_; rintro e wk ⟨rfl, hk⟩; replace HW := Lib.hid (HW.out.trA hk); clear hk)
          | (go_at_call 10; refine (HF2.out _ HW.out).mono ?_; rintro e wk ⟨rfl, hk⟩; replace HW := Lib.hid (HW.out.trA hk); clear hk))
        go_ret
        exact ⟨rfl, HK1.out.trA HW.out⟩
      · have hE1 : ¬ (mkS (fmtL rx)).toList = [] := by rw [htl]; exact hF0
        have hE2 : (mkS (fmtL rx)).toList.isEmpty = false := by rw [htl]; simpa using hF0
        by_cases hbig : 65536 < (fmtL rx).length
        · clear HPAR HPF htl
          generalize hft : fmtL rx = ft at *
          clear hft
          generalize mkS ft = tb at *
          go_wp2_with (first
            | (go_at_call 8; refine (HF1.out _ (Keeps.refl _ _)).mono ?_; rintro e w4 ⟨rfl, hk4⟩; have HW := Lib.hid hk4; clear hk4)
            | (go_at_call 9; refine (awake43_any _ (HT.out.keptA (HK1.out.trA HW.out))).mono ?_; rintro e wk ⟨rfl, hk⟩; replace HW := Lib.hid (HW.out.trA hk); clear hk)
            | (go_at_call 10; refine (HF2.out _ HW.out).mono ?_; rintro e wk ⟨rfl, hk⟩; replace HW := Lib.hid (HW.out.trA hk); clear hk))
          go_ret
          exact ⟨rfl, HK1.out.trA HW.out⟩
        · have HPQ : Hid (∀ W, Calls Tryz.prog 6 #[.string (mkS (fmtL rx))] W fun e w' => (∃ A c, e = .returned (.tuple #[.slice A rx.length c, .int .i64 0, .int .i64 0]) ∧ RRecs w' (Fresh W w') [.slice A rx.length c] rx) ∧ KeepsAll W w') := fun W => by
            have := HPAR.out W
            rw [HPF.out hF0 (by omega)] at this
            exact this
          clear HPAR HPF htl
          generalize hft : fmtL rx = ft at *
          clear hft
          generalize mkS ft = tb at *
          go_wp2_with (first
            | (go_at_call 8; refine (HF1.out _ (Keeps.refl _ _)).mono ?_; rintro e w4 ⟨rfl, hk4⟩; have HW := Lib.hid hk4; clear hk4)
            | (go_at_call 6; refine (HPQ.out _).mono ?_; rintro e w5 ⟨⟨Ay, cy, rfl, hry⟩, hk5⟩; have HY : Hid (RRecs w5 (Old w5) [.slice Ay rx.length cy] rx) := RRecs.ok.mono hry (fun b hb => hb.2) (fun _ _ => rfl); replace HW := Lib.hid (HW.out.trA hk5); have HW5 : Hid (KeepsAll w5 w5) := Keeps.refl _ _; clear hk5 hry)
            | (go_at_call 9; refine (awake43_any _ (HT.out.keptA (HK1.out.trA HW.out))).mono ?_; rintro e wk ⟨rfl, hk⟩; replace HW := Lib.hid (HW.out.trA hk); replace HW5 := Lib.hid (HW5.out.trA hk); clear hk)
            | (go_at_call 11; refine (SameRec_any rx Ay Ax cy cx _ (HW5.out.rd RRecs.ok HY.out (fun b hb => ⟨hb, fun h => h⟩) (fun b hb => Nat.lt_of_lt_of_le hb HW5.out.size)) (HW.out.rd RRecs.ok HXX.out (fun b hb => ⟨hb, fun h => h⟩) (fun b hb => Nat.lt_of_lt_of_le hb HW.out.size))).mono ?_; rintro e wk ⟨rfl, hk⟩; replace HW := Lib.hid (HW.out.trA hk); clear hk))
          go_ret
          exact ⟨rfl, HK1.out.trA HW.out⟩
  · go_upto_region 4 with fail
    have HXX : Hid (RRecs w1 (Old w1) [.slice Ax rx.length cx] rx) := HRX.out
    obtain ⟨hf1, hf2⟩ := format_both rx (by omega) Ax cx w1 HXX.out (HT.out.keptA HK1.out)
    have HF1 := Lib.hid hf1
    have HF2 := Lib.hid hf2
    have h6 := HXX.out.six
    have hfl : (fmtL rx).length ≤ 1477443584 := Nat.le_trans (fmtL_len rx h6) (by omega)
    have hfs : (mkS (fmtL rx)).size = (fmtL rx).length := mkS_size _
    have htl : (mkS (fmtL rx)).toList = fmtL rx := by rw [ByteArray.toList_eq, mkS_list]
    have HPAR := Lib.hid (fun W => cParse_any (fmtL rx) (by omega) W)
    have HPF := Lib.hid (par_fmt rx h6)
    clear hf1 hf2
    by_cases hF0 : fmtL rx = []
    · have hE1 : (mkS (fmtL rx)).toList = [] := by rw [htl]; exact hF0
      have hE2 : (mkS (fmtL rx)).toList.isEmpty = true := by rw [hE1]; rfl
      have hF0l : (fmtL rx).length = 0 := by rw [hF0]; rfl
      clear HPAR HPF htl hF0
      generalize hft : fmtL rx = ft at *
      clear hft
      generalize mkS ft = tb at *
      go_wp2_with (first
        | (go_at_call 8; refine (HF1.out _ (Keeps.refl _ _)).mono ?_; rintro e w4 ⟨rfl, hk4⟩; have HW := Lib.hid hk4; clear hk4)
        | (go_at_call 9; refine (awake43_any _ (HT.out.keptA (HK1.out.trA HW.out))).mono ?_; rintro e wk ⟨rfl, hk⟩; replace HW := Lib.hid (HW.out.trA hk); clear hk)
        | (go_at_call 10; refine (HF2.out _ HW.out).mono ?_; rintro e wk ⟨rfl, hk⟩; replace HW := Lib.hid (HW.out.trA hk); clear hk))
      go_ret
      exact ⟨rfl, HK1.out.trA HW.out⟩
    · have hE1 : ¬ (mkS (fmtL rx)).toList = [] := by rw [htl]; exact hF0
      have hE2 : (mkS (fmtL rx)).toList.isEmpty = false := by rw [htl]; simpa using hF0
      by_cases hbig : 65536 < (fmtL rx).length
      · clear HPAR HPF htl
        generalize hft : fmtL rx = ft at *
        clear hft
        generalize mkS ft = tb at *
        go_wp2_with (first
          | (go_at_call 8; refine (HF1.out _ (Keeps.refl _ _)).mono ?_; rintro e w4 ⟨rfl, hk4⟩; have HW := Lib.hid hk4; clear hk4)
          | (go_at_call 9; refine (awake43_any _ (HT.out.keptA (HK1.out.trA HW.out))).mono ?_; rintro e wk ⟨rfl, hk⟩; replace HW := Lib.hid (HW.out.trA hk); clear hk)
          | (go_at_call 10; refine (HF2.out _ HW.out).mono ?_; rintro e wk ⟨rfl, hk⟩; replace HW := Lib.hid (HW.out.trA hk); clear hk))
        go_ret
        exact ⟨rfl, HK1.out.trA HW.out⟩
      · have HPQ : Hid (∀ W, Calls Tryz.prog 6 #[.string (mkS (fmtL rx))] W fun e w' => (∃ A c, e = .returned (.tuple #[.slice A rx.length c, .int .i64 0, .int .i64 0]) ∧ RRecs w' (Fresh W w') [.slice A rx.length c] rx) ∧ KeepsAll W w') := fun W => by
          have := HPAR.out W
          rw [HPF.out hF0 (by omega)] at this
          exact this
        clear HPAR HPF htl
        generalize hft : fmtL rx = ft at *
        clear hft
        generalize mkS ft = tb at *
        go_wp2_with (first
          | (go_at_call 8; refine (HF1.out _ (Keeps.refl _ _)).mono ?_; rintro e w4 ⟨rfl, hk4⟩; have HW := Lib.hid hk4; clear hk4)
          | (go_at_call 6; refine (HPQ.out _).mono ?_; rintro e w5 ⟨⟨Ay, cy, rfl, hry⟩, hk5⟩; have HY : Hid (RRecs w5 (Old w5) [.slice Ay rx.length cy] rx) := RRecs.ok.mono hry (fun b hb => hb.2) (fun _ _ => rfl); replace HW := Lib.hid (HW.out.trA hk5); have HW5 : Hid (KeepsAll w5 w5) := Keeps.refl _ _; clear hk5 hry)
          | (go_at_call 9; refine (awake43_any _ (HT.out.keptA (HK1.out.trA HW.out))).mono ?_; rintro e wk ⟨rfl, hk⟩; replace HW := Lib.hid (HW.out.trA hk); replace HW5 := Lib.hid (HW5.out.trA hk); clear hk)
          | (go_at_call 11; refine (SameRec_any rx Ay Ax cy cx _ (HW5.out.rd RRecs.ok HY.out (fun b hb => ⟨hb, fun h => h⟩) (fun b hb => Nat.lt_of_lt_of_le hb HW5.out.size)) (HW.out.rd RRecs.ok HXX.out (fun b hb => ⟨hb, fun h => h⟩) (fun b hb => Nat.lt_of_lt_of_le hb HW.out.size))).mono ?_; rintro e wk ⟨rfl, hk⟩; replace HW := Lib.hid (HW.out.trA hk); clear hk))
        go_ret
        exact ⟨rfl, HK1.out.trA HW.out⟩
end
end Go.Proofs.YtnglahcjemgcaaaGreatDoor
