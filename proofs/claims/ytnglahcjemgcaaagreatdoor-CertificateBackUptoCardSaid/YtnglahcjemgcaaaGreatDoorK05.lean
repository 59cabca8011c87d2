/- Contract of Number of the reference: it returns numV. Conditions: as each theorem says. Lines of words are short and not empty; the record of a line. No program in sight. Contracts of the program's parse and Parse of records. Conditions: as each theorem says. Contract of the program's Parse of records. Conditions: as each theorem says. -/
import Derived.Test.YtnglahcjemgcaaaGreatDoorK04
import Derived.Test.YtnglahcjemgcaaaGreatDoorK02
namespace Go.Proofs.YtnglahcjemgcaaaGreatDoor
section
open Go.RowKit

theorem trim_neg (s : Bs) (h : s.head? = some 45) : Lib.hasPrefix s [45] = true ∧ Lib.trimPrefix s [45] = s.drop 1 := by
  cases s with
  | nil => cases h
  | cons x r =>
    have hx : x = 45 := by simpa using h
    subst hx
    have : Lib.hasPrefix (45 :: r) [45] = true := by simp [Lib.hasPrefix]
    exact ⟨this, by unfold Lib.trimPrefix; rw [this]; rfl⟩
theorem trim_pos (s : Bs) (h : s.head? ≠ some 45) : Lib.hasPrefix s [45] = false ∧ Lib.trimPrefix s [45] = s := by
  have : Lib.hasPrefix s [45] = false := by
    cases s with
    | nil => rfl
    | cons x r =>
      have hx : ¬ (45 : UInt8) = x := fun e => h (by rw [e]; rfl)
      simp [Lib.hasPrefix, List.isPrefixOf, hx]
  exact ⟨this, by unfold Lib.trimPrefix; rw [this]; rfl⟩
theorem pow13 (b : Nat) (x : Int) (hb : b ≤ 13) (h : x < 10 ^ b) : x < 10000000000000 := by
  have h4 : (10 : Int) ^ b ≤ 10 ^ 13 := by
    have : (10 : Nat) ^ b ≤ 10 ^ 13 := Nat.pow_le_pow_right (by omega) hb
    exact_mod_cast this
  have h6 : (10 : Int) ^ 13 = 10000000000000 := by decide
  omega
set_option maxHeartbeats 4000000 in
set_option maxRecDepth 100000 in
theorem rNum_any (s : Bs) (hl : s.length ≤ 9223372036854775807) (w : World) : Calls Tryz.prog 18 #[.string (mkS s)] w fun e w' => e = numE (numV s) ∧ w' = w := by
  rw [numV_D]
  obtain ⟨neg, hneg⟩ : ∃ neg, neg = decide (s.head? = some 45) := ⟨_, rfl⟩
  have hts0 : (mkS s).size = s.length := mkS_size s
  have HH : Hid (∀ h : 0 < (mkS s).size, (((mkS s)[0].toNat : Int) = 45) = (neg = true)) := fun h => by
    have hh : s.head? = some ((mkS s)[0]) := by
      rw [List.head?_eq_getElem?]
      have hi : 0 < s.length := by rw [← hts0]; exact h
      rw [List.getElem?_eq_getElem hi]
      rw [mkS_at s 0 s[0] (List.getElem?_eq_getElem hi) h]
    rw [hneg, hh]
    simp only [Option.some.injEq, decide_eq_true_eq]
    rw [u8_int]
    rfl
  have HEX : Hid ((mkS s).extract 1 s.length = mkS (s.drop 1)) := by
    show _ = _
    rw [mkS_ext, List.take_length]
  have hpos : neg = true → 0 < s.length := fun h => by
    cases s with
    | nil => rw [hneg] at h; simp at h
    | cons x r => simp
  have hTD : (Lib.hasPrefix s [45] = neg) ∧ Lib.trimPrefix s [45] = if neg = true then s.drop 1 else s := by
    by_cases h : s.head? = some 45
    · have := trim_neg s h
      rw [hneg, decide_eq_true h]
      exact ⟨this.1, by rw [this.2, if_pos rfl]⟩
    · have := trim_pos s h
      rw [hneg, decide_eq_false h]
      exact ⟨this.1, by rw [this.2, if_neg (by simp)]⟩
  rw [hTD.1, hTD.2]
  clear hTD
  have H0 : Hid (s = s.drop 0) := rfl
  obtain ⟨q, hq⟩ : ∃ q : Nat, q = if neg = true then 1 else 0 := ⟨_, rfl⟩
  have hdq : (if neg = true then s.drop 1 else s) = s.drop q := by rw [hq]; split <;> rfl
  have hsl : (s.drop q).length = s.length - q := by simp
  rw [hdq]
  generalize hd : s.drop q = d at *
  have hts : (mkS d).size = d.length := mkS_size d
  have key : ∀ (i : Nat) (h : i < (mkS d).size), d[i]? = some ((mkS d)[i]) := fun i h => by
    have hi : i < d.length := by rw [← hts]; exact h
    rw [mkS_at d i d[i] (List.getElem?_eq_getElem hi) h, List.getElem?_eq_getElem hi]
  have KEY := Lib.hid key
  have hdl2 := mkS_list d
  have HX1 : Hid (neg = true → (mkS s).extract 1 s.length = mkS d) := fun h => by
    have : q = 1 := by rw [hq, if_pos h]
    rw [HEX.out, ← hd, this]
  have HX2 : Hid (neg = false → mkS s = mkS d) := fun h => by
    have : q = 0 := by rw [hq, h]; rfl
    rw [← hd, this]
    rfl
  have hq1 : q ≤ 1 := by rw [hq]; split <;> omega
  clear key HEX hd hdq H0 hneg
  generalize mkS d = db at *
  generalize mkS s = sb at *
  go_enter Tryz.func18, Tryz.ntmps18
  cases neg
  · have hq0 : q = 0 := by rw [hq]; rfl
    have hsb := (HX2.out rfl).symm
    have h45 : ∀ h : 0 < sb.size, ¬ (sb[0].toNat : Int) = 45 := fun h => by have := HH.out h; simpa using this
    have h45b : ∀ h : 0 < sb.size, ((sb[0].toNat : Int) == 45) = false := fun h => by have := HH.out h; simpa using this
    have hdl : d.length = s.length := by omega
    rw [← hdl] at hl hts0
    clear HH HX1 HX2 hq hpos hq1 hq0 hsl hdl
    subst hsb
    by_cases hs0 : d.length = 0
    · have HN : Hid (numD d false = none) := by
        show _ = _
        rw [List.eq_nil_of_length_eq_zero (by omega : d.length = 0)]
        exact numD_nil _
      go_wp2
      go_ret2
      exact ⟨by rw [HN.out]; rfl, rfl⟩
    · have hs1 : 0 < d.length := by omega
      go_upto_region 4 with fail
      clear h45 h45b hs0
      have HBAD : Hid (d.all isD ≠ true → numD d false = none) := numD_bad d false
      have HBIG : Hid (1099511627776 < valD d 0 → numD d false = none) := numD_big d false
      by_cases h1 : d = []
      · have HN : Hid (numD d false = none) := by show _ = _; rw [h1]; exact numD_nil _
        have h1l : d.length = 0 := by rw [h1]; rfl
        clear h1 HBAD HBIG KEY
        go_wp2
        go_ret2
        exact ⟨by rw [HN.out]; rfl, rfl⟩
      · have h1l : 0 < d.length := List.length_pos_iff.2 h1
        have HH0 : Hid (∀ h : 0 < db.size, ((db[0].toNat : Int) = 48 ↔ d.head? = some 48)) := fun h => by
          have := KEY.out 0 h
          rw [List.head?_eq_getElem?, this, Option.some.injEq, u8_int]
          exact Iff.rfl
        have H48 := HH0
        have HOKK : Hid (¬ (d.head? = some 48 ∧ (false = true ∨ 1 < d.length)) → ∀ x, valD d 0 = x → d.all isD = true → x ≤ 1099511627776 → numD d false = some (if false = true then -x else x)) := fun hz x hx h2 h3 => by
          subst hx
          exact numD_ok d false h1 hz h2 h3
        have HLONG : Hid (13 < d.length → numD d false = none) := numD_long d false
        have HZERO : Hid (d.head? = some 48 → (false = true ∨ 1 < d.length) → numD d false = none) := numD_zero d false
        clear h1
        by_cases h2 : 13 < d.length
        · have HN := Lib.hid (HLONG.out h2)
          clear HBAD HBIG KEY HOKK HLONG HZERO HH0 H48
          go_wp2
          go_ret2
          exact ⟨by rw [HN.out]; rfl, rfl⟩
        · by_cases h3 : d.head? = some 48
          · have h48 : ∀ h : 0 < db.size, (db[0].toNat : Int) = 48 := fun h => (H48.out h).2 h3
            by_cases h4 : 1 < d.length
            · have HN := Lib.hid (HZERO.out h3 (.inr h4))
              clear HBAD HBIG KEY HOKK HLONG HZERO HH0 H48 h3
              go_wp2
              go_ret2
              exact ⟨by rw [HN.out]; rfl, rfl⟩
            · have HOK : Hid (∀ x, valD d 0 = x → d.all isD = true → x ≤ 1099511627776 → numD d false = some x) := fun x a b c => HOKK.out (fun h => h.2.elim (fun e => by cases e) h4) x a b c
              have h5 : d.length ≤ 1 := by omega
              clear HOKK HLONG HZERO HH0 h3 h4
              go_wp2
              clear h48 H48
              go_loopw [2, 3, 6, 7] (fun v2 v3 v6 i wr => ∃ (b : Nat) (x : Int), b ≤ d.length ∧ i = .int .i64 (b : Int) ∧ v2 = .int .i64 0 ∧ v3 = .bool false ∧ v6 = .int .i64 x ∧ valD (d.take b) 0 = x ∧ 0 ≤ x ∧ x < 10 ^ b ∧ (d.take b).all isD = true ∧ wr = w) (fun _ _ _ i _ => d.length - (intOf i).toNat)
              case atStart => exact ⟨0, 0, Nat.zero_le _, rfl, rfl, rfl, rfl, rfl, by omega, by simp, rfl, rfl⟩
              case round =>
                obtain ⟨b, x, hb, rfl, rfl, rfl, rfl, hv, hx0, hx1, hall, rfl⟩ := hrel
                have HV := Lib.hid hv
                have HALL := Lib.hid hall
                have HX1 := Lib.hid hx1
                have hx13 : x < 10000000000000 := pow13 b x (by omega) hx1
                clear hv hall hx1
                by_cases hlt : b < d.length
                · obtain ⟨y, hy⟩ : ∃ y, d[b]? = some y := ⟨d[b], List.getElem?_eq_getElem hlt⟩
                  have hxe : ∀ h : b < db.size, db[b] = y := fun h => by have := KEY.out b h; rw [hy] at this; exact (Option.some.inj this).symm
                  by_cases hD : isD y = true
                  · have HCL : Hid (Calls Tryz.prog 34 #[.int .u8 (y.toNat : Int)] wr fun e w' => e = .returned (.bool true) ∧ w' = wr) := by
                      have := rDig_any y wr
                      rw [hD] at this
                      exact this.mono fun e w' ⟨h1, h2⟩ => ⟨h1, h2.symm⟩
                    have hyr : 48 ≤ (y.toNat : Int) ∧ (y.toNat : Int) ≤ 57 := by have := isD_val hD; omega
                    have HNX : Hid (valD (d.take (b + 1)) 0 = 10 * x + ((y.toNat : Int) - 48)) := by show _ = _; rw [valD_take d b y hy, HV.out]
                    have HNA : Hid ((d.take (b + 1)).all isD = true) := by show _ = _; rw [all_takeD d b y hy, HALL.out, hD]; rfl
                    have HPW : Hid (10 * x + ((y.toNat : Int) - 48) < 10 ^ (b + 1)) := by
                      show _ < _
                      rw [Int.pow_succ]
                      have := HX1.out
                      omega
                    have hze : ∀ h : b < db.size, ((db[b]).toNat : Int) = (y.toNat : Int) := fun h => by rw [hxe h]
                    clear HOK HBAD HBIG hD hy hxe
                    generalize (y.toNat : Int) = z at *
                    go_wp2_with (go_at_call 34; refine (HCL.out).mono ?_; rintro e w' ⟨rfl, rfl⟩)
                    go_roundw
                    case rel => exact ⟨b + 1, 10 * x + (z - 48), by omega, by go_num, rfl, rfl, rfl, HNX.out, by omega, HPW.out, HNA.out, trivial⟩
                    case measure => simp [intOf]; omega
                  · have hD2 : isD y = false := by simpa using hD
                    have HCL : Hid (Calls Tryz.prog 34 #[.int .u8 (y.toNat : Int)] wr fun e w' => e = .returned (.bool false) ∧ w' = wr) := by
                      have := rDig_any y wr
                      rw [hD2] at this
                      exact this.mono fun e w' ⟨h1, h2⟩ => ⟨h1, h2.symm⟩
                    have HN : Hid (numD d false = none) := HBAD.out (fun ha => hD (List.all_eq_true.1 ha y (List.mem_of_getElem? hy)))
                    have hze : ∀ h : b < db.size, ((db[b]).toNat : Int) = (y.toNat : Int) := fun h => by rw [hxe h]
                    clear HOK HBAD HBIG hD hy hD2 hxe
                    generalize (y.toNat : Int) = z at *
                    go_wp2_with (go_at_call 34; refine (HCL.out).mono ?_; rintro e w' ⟨rfl, rfl⟩)
                    go_ret2
                    exact ⟨by rw [HN.out]; rfl, rfl⟩
                · obtain rfl : b = d.length := by omega
                  have hvx : valD d 0 = x := by rw [← HV.out, List.take_length]
                  have hax : d.all isD = true := by rw [← HALL.out, List.take_length]
                  by_cases hbig : 1099511627776 < x
                  · have HN : Hid (numD d false = none) := HBIG.out (by rw [hvx]; exact hbig)
                    clear HOK HBAD HBIG hvx hax
                    go_wp2
                    go_ret2
                    exact ⟨by rw [HN.out]; rfl, rfl⟩
                  · have HFIN : Hid (numD d false = some (x)) := HOK.out x hvx hax (by omega)
                    have hms : 1 * x = x := by omega
                    clear HOK HBAD HBIG hvx hax
                    go_wp2
                    go_ret2
                    exact ⟨by rw [HFIN.out]; rfl, rfl⟩
          · have h48 : ∀ h : 0 < db.size, ¬ (db[0].toNat : Int) = 48 := fun h e => h3 ((H48.out h).1 e)
            have h48b : ∀ h : 0 < db.size, ((db[0].toNat : Int) == 48) = false := fun h => by have := h48 h; simpa using this
            have HOK : Hid (∀ x, valD d 0 = x → d.all isD = true → x ≤ 1099511627776 → numD d false = some (x)) := fun x a b c => HOKK.out (fun h => h3 h.1) x a b c
            clear HOKK HLONG HZERO HH0 h3
            go_wp2
            clear h48 H48
            go_loopw [2, 3, 6, 7] (fun v2 v3 v6 i wr => ∃ (b : Nat) (x : Int), b ≤ d.length ∧ i = .int .i64 (b : Int) ∧ v2 = .int .i64 0 ∧ v3 = .bool false ∧ v6 = .int .i64 x ∧ valD (d.take b) 0 = x ∧ 0 ≤ x ∧ x < 10 ^ b ∧ (d.take b).all isD = true ∧ wr = w) (fun _ _ _ i _ => d.length - (intOf i).toNat)
            case atStart => exact ⟨0, 0, Nat.zero_le _, rfl, rfl, rfl, rfl, rfl, by omega, by simp, rfl, rfl⟩
            case round =>
              obtain ⟨b, x, hb, rfl, rfl, rfl, rfl, hv, hx0, hx1, hall, rfl⟩ := hrel
              have HV := Lib.hid hv
              have HALL := Lib.hid hall
              have HX1 := Lib.hid hx1
              have hx13 : x < 10000000000000 := pow13 b x (by omega) hx1
              clear hv hall hx1
              by_cases hlt : b < d.length
              · obtain ⟨y, hy⟩ : ∃ y, d[b]? = some y := ⟨d[b], List.getElem?_eq_getElem hlt⟩
                have hxe : ∀ h : b < db.size, db[b] = y := fun h => by have := KEY.out b h; rw [hy] at this; exact (Option.some.inj this).symm
                by_cases hD : isD y = true
                · have HCL : Hid (Calls Tryz.prog 34 #[.int .u8 (y.toNat : Int)] wr fun e w' => e = .returned (.bool true) ∧ w' = wr) := by
                    have := rDig_any y wr
                    rw [hD] at this
                    exact this.mono fun e w' ⟨h1, h2⟩ => ⟨h1, h2.symm⟩
                  have hyr : 48 ≤ (y.toNat : Int) ∧ (y.toNat : Int) ≤ 57 := by have := isD_val hD; omega
                  have HNX : Hid (valD (d.take (b + 1)) 0 = 10 * x + ((y.toNat : Int) - 48)) := by show _ = _; rw [valD_take d b y hy, HV.out]
                  have HNA : Hid ((d.take (b + 1)).all isD = true) := by show _ = _; rw [all_takeD d b y hy, HALL.out, hD]; rfl
                  have HPW : Hid (10 * x + ((y.toNat : Int) - 48) < 10 ^ (b + 1)) := by
                    show _ < _
                    rw [Int.pow_succ]
                    have := HX1.out
                    omega
                  have hze : ∀ h : b < db.size, ((db[b]).toNat : Int) = (y.toNat : Int) := fun h => by rw [hxe h]
                  clear HOK HBAD HBIG hD hy hxe
                  generalize (y.toNat : Int) = z at *
                  go_wp2_with (go_at_call 34; refine (HCL.out).mono ?_; rintro e w' ⟨rfl, rfl⟩)
                  go_roundw
                  case rel => exact ⟨b + 1, 10 * x + (z - 48), by omega, by go_num, rfl, rfl, rfl, HNX.out, by omega, HPW.out, HNA.out, trivial⟩
                  case measure => simp [intOf]; omega
                · have hD2 : isD y = false := by simpa using hD
                  have HCL : Hid (Calls Tryz.prog 34 #[.int .u8 (y.toNat : Int)] wr fun e w' => e = .returned (.bool false) ∧ w' = wr) := by
                    have := rDig_any y wr
                    rw [hD2] at this
                    exact this.mono fun e w' ⟨h1, h2⟩ => ⟨h1, h2.symm⟩
                  have HN : Hid (numD d false = none) := HBAD.out (fun ha => hD (List.all_eq_true.1 ha y (List.mem_of_getElem? hy)))
                  have hze : ∀ h : b < db.size, ((db[b]).toNat : Int) = (y.toNat : Int) := fun h => by rw [hxe h]
                  clear HOK HBAD HBIG hD hy hD2 hxe
                  generalize (y.toNat : Int) = z at *
                  go_wp2_with (go_at_call 34; refine (HCL.out).mono ?_; rintro e w' ⟨rfl, rfl⟩)
                  go_ret2
                  exact ⟨by rw [HN.out]; rfl, rfl⟩
              · obtain rfl : b = d.length := by omega
                have hvx : valD d 0 = x := by rw [← HV.out, List.take_length]
                have hax : d.all isD = true := by rw [← HALL.out, List.take_length]
                by_cases hbig : 1099511627776 < x
                · have HN : Hid (numD d false = none) := HBIG.out (by rw [hvx]; exact hbig)
                  clear HOK HBAD HBIG hvx hax
                  go_wp2
                  go_ret2
                  exact ⟨by rw [HN.out]; rfl, rfl⟩
                · have HFIN : Hid (numD d false = some (x)) := HOK.out x hvx hax (by omega)
                  have hms : 1 * x = x := by omega
                  clear HOK HBAD HBIG hvx hax
                  go_wp2
                  go_ret2
                  exact ⟨by rw [HFIN.out]; rfl, rfl⟩
  · have hq1' : q = 1 := by rw [hq]; rfl
    have hs1 := hpos rfl
    have h45 : ∀ h : 0 < sb.size, (sb[0].toNat : Int) = 45 := fun h => by have := HH.out h; simpa using this
    have hx1 := HX1.out rfl
    have hdl : d.length ≤ s.length := by omega
    clear HH HX1 HX2 hq hpos hq1 hq1' hsl
    go_upto_region 4 with fail
    clear h45 hx1
    have HBAD : Hid (d.all isD ≠ true → numD d true = none) := numD_bad d true
    have HBIG : Hid (1099511627776 < valD d 0 → numD d true = none) := numD_big d true
    by_cases h1 : d = []
    · have HN : Hid (numD d true = none) := by show _ = _; rw [h1]; exact numD_nil _
      have h1l : d.length = 0 := by rw [h1]; rfl
      clear h1 HBAD HBIG KEY
      go_wp2
      go_ret2
      exact ⟨by rw [HN.out]; rfl, rfl⟩
    · have h1l : 0 < d.length := List.length_pos_iff.2 h1
      have HH0 : Hid (∀ h : 0 < db.size, ((db[0].toNat : Int) = 48 ↔ d.head? = some 48)) := fun h => by
        have := KEY.out 0 h
        rw [List.head?_eq_getElem?, this, Option.some.injEq, u8_int]
        exact Iff.rfl
      have H48 := HH0
      have HOKK : Hid (¬ (d.head? = some 48 ∧ (true = true ∨ 1 < d.length)) → ∀ x, valD d 0 = x → d.all isD = true → x ≤ 1099511627776 → numD d true = some (if true = true then -x else x)) := fun hz x hx h2 h3 => by
        subst hx
        exact numD_ok d true h1 hz h2 h3
      have HLONG : Hid (13 < d.length → numD d true = none) := numD_long d true
      have HZERO : Hid (d.head? = some 48 → (true = true ∨ 1 < d.length) → numD d true = none) := numD_zero d true
      clear h1
      by_cases h2 : 13 < d.length
      · have HN := Lib.hid (HLONG.out h2)
        clear HBAD HBIG KEY HOKK HLONG HZERO HH0 H48
        go_wp2
        go_ret2
        exact ⟨by rw [HN.out]; rfl, rfl⟩
      · by_cases h3 : d.head? = some 48
        · have h48 : ∀ h : 0 < db.size, (db[0].toNat : Int) = 48 := fun h => (H48.out h).2 h3
          have HN := Lib.hid (HZERO.out h3 (.inl rfl))
          clear HBAD HBIG KEY HOKK HLONG HZERO HH0 H48 h3
          go_wp2
          all_goals
            go_ret2
            exact ⟨by rw [HN.out]; rfl, rfl⟩
        · have h48 : ∀ h : 0 < db.size, ¬ (db[0].toNat : Int) = 48 := fun h e => h3 ((H48.out h).1 e)
          have h48b : ∀ h : 0 < db.size, ((db[0].toNat : Int) == 48) = false := fun h => by have := h48 h; simpa using this
          have HOK : Hid (∀ x, valD d 0 = x → d.all isD = true → x ≤ 1099511627776 → numD d true = some (-x)) := fun x a b c => HOKK.out (fun h => h3 h.1) x a b c
          clear HOKK HLONG HZERO HH0 h3
          go_wp2
          clear h48 H48
          go_loopw [2, 3, 6, 7] (fun v2 v3 v6 i wr => ∃ (b : Nat) (x : Int), b ≤ d.length ∧ i = .int .i64 (b : Int) ∧ v2 = .int .i64 0 ∧ v3 = .bool false ∧ v6 = .int .i64 x ∧ valD (d.take b) 0 = x ∧ 0 ≤ x ∧ x < 10 ^ b ∧ (d.take b).all isD = true ∧ wr = w) (fun _ _ _ i _ => d.length - (intOf i).toNat)
          case atStart => exact ⟨0, 0, Nat.zero_le _, rfl, rfl, rfl, rfl, rfl, by omega, by simp, rfl, rfl⟩
          case round =>
            obtain ⟨b, x, hb, rfl, rfl, rfl, rfl, hv, hx0, hx1, hall, rfl⟩ := hrel
            have HV := Lib.hid hv
            have HALL := Lib.hid hall
            have HX1 := Lib.hid hx1
            have hx13 : x < 10000000000000 := pow13 b x (by omega) hx1
            clear hv hall hx1
            by_cases hlt : b < d.length
            · obtain ⟨y, hy⟩ : ∃ y, d[b]? = some y := ⟨d[b], List.getElem?_eq_getElem hlt⟩
              have hxe : ∀ h : b < db.size, db[b] = y := fun h => by have := KEY.out b h; rw [hy] at this; exact (Option.some.inj this).symm
              by_cases hD : isD y = true
              · have HCL : Hid (Calls Tryz.prog 34 #[.int .u8 (y.toNat : Int)] wr fun e w' => e = .returned (.bool true) ∧ w' = wr) := by
                  have := rDig_any y wr
                  rw [hD] at this
                  exact this.mono fun e w' ⟨h1, h2⟩ => ⟨h1, h2.symm⟩
                have hyr : 48 ≤ (y.toNat : Int) ∧ (y.toNat : Int) ≤ 57 := by have := isD_val hD; omega
                have HNX : Hid (valD (d.take (b + 1)) 0 = 10 * x + ((y.toNat : Int) - 48)) := by show _ = _; rw [valD_take d b y hy, HV.out]
                have HNA : Hid ((d.take (b + 1)).all isD = true) := by show _ = _; rw [all_takeD d b y hy, HALL.out, hD]; rfl
                have HPW : Hid (10 * x + ((y.toNat : Int) - 48) < 10 ^ (b + 1)) := by
                  show _ < _
                  rw [Int.pow_succ]
                  have := HX1.out
                  omega
                have hze : ∀ h : b < db.size, ((db[b]).toNat : Int) = (y.toNat : Int) := fun h => by rw [hxe h]
                clear HOK HBAD HBIG hD hy hxe
                generalize (y.toNat : Int) = z at *
                go_wp2_with (go_at_call 34; refine (HCL.out).mono ?_; rintro e w' ⟨rfl, rfl⟩)
                go_roundw
                case rel => exact ⟨b + 1, 10 * x + (z - 48), by omega, by go_num, rfl, rfl, rfl, HNX.out, by omega, HPW.out, HNA.out, trivial⟩
                case measure => simp [intOf]; omega
              · have hD2 : isD y = false := by simpa using hD
                have HCL : Hid (Calls Tryz.prog 34 #[.int .u8 (y.toNat : Int)] wr fun e w' => e = .returned (.bool false) ∧ w' = wr) := by
                  have := rDig_any y wr
                  rw [hD2] at this
                  exact this.mono fun e w' ⟨h1, h2⟩ => ⟨h1, h2.symm⟩
                have HN : Hid (numD d true = none) := HBAD.out (fun ha => hD (List.all_eq_true.1 ha y (List.mem_of_getElem? hy)))
                have hze : ∀ h : b < db.size, ((db[b]).toNat : Int) = (y.toNat : Int) := fun h => by rw [hxe h]
                clear HOK HBAD HBIG hD hy hD2 hxe
                generalize (y.toNat : Int) = z at *
                go_wp2_with (go_at_call 34; refine (HCL.out).mono ?_; rintro e w' ⟨rfl, rfl⟩)
                go_ret2
                exact ⟨by rw [HN.out]; rfl, rfl⟩
            · obtain rfl : b = d.length := by omega
              have hvx : valD d 0 = x := by rw [← HV.out, List.take_length]
              have hax : d.all isD = true := by rw [← HALL.out, List.take_length]
              by_cases hbig : 1099511627776 < x
              · have HN : Hid (numD d true = none) := HBIG.out (by rw [hvx]; exact hbig)
                clear HOK HBAD HBIG hvx hax
                go_wp2
                go_ret2
                exact ⟨by rw [HN.out]; rfl, rfl⟩
              · have HFIN : Hid (numD d true = some (-x)) := HOK.out x hvx hax (by omega)
                have hms : -1 * x = -x := by omega
                clear HOK HBAD HBIG hvx hax
                go_wp2
                go_ret2
                exact ⟨by rw [HFIN.out]; rfl, rfl⟩
end

section

theorem flush_bd {B : Nat} {a : List Wd} {c : Bs} {i : Nat} (ha : ∀ x ∈ a, x.1.length ≤ B) (hc : c.length ≤ B) : ∀ x ∈ flushW a c i, x.1.length ≤ B := by
  intro x hx
  unfold flushW at hx
  split at hx
  · exact ha x hx
  · rcases List.mem_append.1 hx with h | h
    · exact ha x h
    · have : x = (c, (i : Int) - c.length + 1) := by simpa using h
      rw [this]; exact hc
theorem scan_bd (B : Nat) (l : Bs) : ∀ a c i ws, scanW l a c i = some ws → (∀ x ∈ a, x.1.length ≤ B) → c.length + l.length ≤ B → ∀ x ∈ ws, x.1.length ≤ B := by
  induction l with
  | nil =>
    intro a c i ws h ha hc
    simp only [scanW, Option.some.injEq] at h
    subst h
    exact flush_bd ha (by simpa using hc)
  | cons b r ih =>
    intro a c i ws h ha hc
    simp only [List.length_cons] at hc
    unfold scanW at h
    split at h
    · cases h; exact flush_bd ha (by omega)
    · split at h
      · exact ih _ _ _ _ h (flush_bd ha (by omega)) (by simp; omega)
      · split at h
        · exact ih _ _ _ _ h ha (by simp; omega)
        · cases h
structure LnOk (B : Nat) (l : Ln) : Prop where
  ne : l.2 ≠ []
  cap : l.2.length ≤ 64
  bd : ∀ x ∈ l.2, x.1.length ≤ B
theorem goLines_bd (B : Nat) (ps : List Bs) : ∀ k acc ls, (∀ p ∈ ps, p.length ≤ B) → (∀ l ∈ acc, LnOk B l) → goLines ps k acc = .inl ls → ls.length ≤ acc.length + ps.length ∧ ∀ l ∈ ls, LnOk B l := by
  induction ps with
  | nil =>
    intro k acc ls _ ha h
    simp only [goLines, Sum.inl.injEq] at h
    subst h
    exact ⟨by simp, ha⟩
  | cons p r ih =>
    intro k acc ls hp ha h
    unfold goLines at h
    split at h
    · cases h
    · rename_i ws hw
      split at h
      · cases h
      · rename_i h64
        have h2 := ih _ _ _ (fun q hq => hp q (by simp [hq])) (fun l hl => by
          split at hl
          · exact ha l hl
          · rename_i hne
            rcases List.mem_append.1 hl with h1 | h1
            · exact ha l h1
            · have : l = (k, ws) := by simpa using h1
              subst this
              exact ⟨hne, (by show ws.length ≤ 64; omega), scan_bd B p _ _ _ _ hw (by simp) (by simpa using hp p (by simp))⟩) h
        refine ⟨?_, h2.2⟩
        have h3 := h2.1
        split at h3
        · simp; omega
        · simp at h3 ⊢; omega
theorem pieces_bd (l : Bs) : (piecesL l).length ≤ l.length + 1 ∧ ∀ p ∈ piecesL l, p.length ≤ l.length := by
  induction l with
  | nil => exact ⟨by simp [piecesL], fun p hp => by simp [piecesL] at hp; simp [hp]⟩
  | cons c r ih =>
    unfold piecesL
    split
    · refine ⟨by simp; omega, fun p hp => ?_⟩
      rcases List.mem_cons.1 hp with rfl | h
      · simp
      · have := ih.2 p h; simp; omega
    · split
      · exact ⟨by simp, fun p hp => by have : p = [c] := by simpa using hp
                                       rw [this]; simp⟩
      · rename_i p1 q hq
        rw [hq] at ih
        refine ⟨by have := ih.1; simp at this ⊢; omega, fun p hp => ?_⟩
        rcases List.mem_cons.1 hp with rfl | h
        · have := ih.2 p1 (by simp); simp; omega
        · have := ih.2 p (by simp [h]); simp; omega
theorem lines_ok (s : Bs) (ls : List Ln) (h : linesT s = .inl ls) : ls.length ≤ 65537 ∧ ∀ l ∈ ls, LnOk 65536 l := by
  unfold linesT at h
  split at h
  · cases h
  · rename_i hs
    have hp := pieces_bd s
    have := goLines_bd 65536 (piecesL s) 1 [] ls (fun p hp2 => by have := hp.2 p hp2; omega) (by simp) h
    exact ⟨by have := this.1; simp at this; omega, this.2⟩
theorem recW_some (ws : List Wd) (vs : List Int) (h6 : ws.length = 6) (hv : vs.length = 6) (h : ∀ (j : Nat) (w : Wd) (v : Int), ws[j]? = some w → vs[j]? = some v → numV w.1 = some v) : recW ws = some vs := by
  unfold recW
  rw [if_pos]
  · congr 1
    apply List.ext_getElem?
    intro j
    rw [List.getElem?_map]
    rcases Nat.lt_or_ge j 6 with hj | hj
    · have e1 := List.getElem?_eq_getElem (l := ws) (i := j) (by omega)
      have e2 := List.getElem?_eq_getElem (l := vs) (i := j) (by omega)
      rw [e1, e2, Option.map_some, h j _ _ e1 e2]
      rfl
    · rw [List.getElem?_eq_none (by omega), List.getElem?_eq_none (by omega)]
      rfl
  · refine ⟨h6, List.all_eq_true.2 fun w hw => ?_⟩
    obtain ⟨j, hj, e⟩ := List.getElem_of_mem hw
    have e1 : ws[j]? = some w := by rw [List.getElem?_eq_getElem hj, e]
    have e2 := List.getElem?_eq_getElem (l := vs) (i := j) (by omega)
    rw [h j _ _ e1 e2]
    rfl
theorem recW_len (ws : List Wd) (h : ws.length ≠ 6) : recW ws = none := by
  unfold recW; rw [if_neg (fun e => h e.1)]
theorem recW_bad (ws : List Wd) (w : Wd) (hw : w ∈ ws) (h : numV w.1 = none) : recW ws = none := by
  unfold recW
  rw [if_neg]
  rintro ⟨-, h2⟩
  have := List.all_eq_true.1 h2 w hw
  rw [h] at this
  cases this
theorem recW_6 (ws : List Wd) (r : Rc) (h : recW ws = some r) : r.length = 6 := by
  unfold recW at h
  split at h
  · rename_i h6
    cases h
    simpa using h6.1
  · cases h
end

section
open Go.RowKit

theorem RWds.atK {w wr : World} {k : Int} {ws : List Wd} {A : Option Addr} {c : Nat} (K : KeepsAll w wr) {n0 : Nat} (h : RWds k w (Old w) [.slice A n0 c] ws) {j : Nat} (hj : j < ws.length) :
    ∃ b o x, A = some ⟨b, o, none⟩ ∧ b < w.heap.size ∧ ws[j]? = some x ∧ wr.cell? ⟨b, o + j * 3, none⟩ = some (.string (mkS x.1)) ∧ wr.cell? ⟨b, o + j * 3 + 1, none⟩ = some (.int .i64 k) ∧ wr.cell? ⟨b, o + j * 3 + 2, none⟩ = some (.int .i64 x.2) := by
  obtain ⟨b, o, x, es, rfl, hb, hx, h1, h2, h3⟩ := h.get hj
  cases h2
  exact ⟨b, o, x, rfl, hb, hx, K.cellA hb (by simpa using h3 0 _ rfl), K.cellA hb (by simpa [Nat.add_assoc] using h3 1 _ rfl), K.cellA hb (by simpa [Nat.add_assoc] using h3 2 _ rfl)⟩
def parE : Option Rc → Ending
  | none => .returned (.tuple #[.agg #[.int .i64 0, .int .i64 0, .int .i64 0, .int .i64 0, .int .i64 0, .int .i64 0], .bool false])
  | some r => .returned (.tuple #[.agg (r.map (Value.int .i64)).toArray, .bool true])
set_option maxHeartbeats 4000000 in
set_option maxRecDepth 100000 in
theorem cparse_any (k : Int) (ws : List Wd) (A : Option Addr) (c : Nat) (w : World) (h : RWds k w (Old w) [.slice A ws.length c] ws) (hb : ∀ x ∈ ws, x.1.length ≤ 65536) (_hl64 : ws.length ≤ 64) :
    Calls Tryz.prog 16 #[.slice A ws.length c] w fun e w' => e = parE (recW ws) ∧ KeepsAll w w' := by
  have HR := Lib.hid h
  have HB := Lib.hid hb
  clear h hb
  by_cases h6 : ws.length = 6
  · rw [h6] at HR ⊢
    have H6 := Lib.hid h6
    clear h6
    go_enter Tryz.func16, Tryz.ntmps16
    generalize hN : w.heap.size = N at *
    go_wp2
    generalize hW1 : World.alloc (World.alloc w _) _ = W1
    have hz1 : W1.heap.size = N + 2 := by subst hW1; simp [hN]
    have hk1 : KeepsAll w W1 := by subst hW1; exact ((Keeps.refl _ w).alloc _).alloc _
    have hb1 : Blk W1 N 32 #[.int .i64 0, .int .i64 0, .int .i64 0, .int .i64 0, .int .i64 0, .int .i64 0] := by subst hW1; exact (Blk.new' _ _ _ (by simp [hN])).alloc _
    have hb2 : Blk W1 (N + 1) 47 (([0, 0, 0, 0, 0, 0] : List Int).map (Value.int .i64)).toArray := by subst hW1; exact Blk.new' _ _ _ (by simp [hN])
    clear hW1
    go_loopw [3, 14] (fun v3 i wr => ∃ (n : Nat) (vs : List Int), n ≤ 6 ∧ i = .int .i64 (n : Int) ∧ v3 = .bool false ∧ vs.length = 6 ∧ Blk wr N 32 #[.int .i64 0, .int .i64 0, .int .i64 0, .int .i64 0, .int .i64 0, .int .i64 0] ∧ Blk wr (N + 1) 47 (vs.map (Value.int .i64)).toArray ∧ KeepsAll w wr ∧ (∀ (j : Nat) (x : Wd) (v : Int), j < n → ws[j]? = some x → vs[j]? = some v → numV x.1 = some v)) (fun _ i _ => 6 - (intOf i).toNat)
    case atStart => exact ⟨0, [0, 0, 0, 0, 0, 0], by omega, rfl, rfl, rfl, hb1, hb2, hk1, (fun j x v h => by omega)⟩
    case round =>
      obtain ⟨n, vs, hn, rfl, rfl, hvl, hbr, hba, hk, hv⟩ := hrel
      have HBR := Lib.hid hbr
      have HBA := Lib.hid hba
      have HK := Lib.hid hk
      have HV := Lib.hid hv
      have HVL := Lib.hid hvl
      have hsz := hk.size
      have hN2 : N + 1 < wr.heap.size := hba.lt
      clear hbr hba hk hv
      by_cases hlt : n < 6
      · obtain ⟨b, o, x, rfl, hb0, hx, c0, c1, c2⟩ := HR.out.atK HK.out (j := n) (by rw [H6.out]; omega)
        have hxl : x.1.length ≤ 65536 := HB.out x (List.mem_of_getElem? hx)
        have hbw : b < wr.heap.size := by omega
        have q1 := HBA.out.cell n
        obtain ⟨u, hu⟩ : ∃ u, vs[n]? = some u := ⟨vs[n]'(by omega), List.getElem?_eq_getElem (by omega)⟩
        have q2 : wr.cell? ⟨N + 1, n, none⟩ = some (.int .i64 u) := by rw [q1]; simp [hu]
        have f2 := HBA.out.frozen n
        clear q1 hvl hu
        cases hm : numV x.1 with
        | none =>
          have HN : Hid (recW ws = none) := recW_bad ws x (List.mem_of_getElem? hx) hm
          have HNUM : Hid (∀ W1, Calls Tryz.prog 32 #[.string (mkS x.1)] W1 fun e w' => e = .returned (.tuple #[.int .i64 0, .bool false]) ∧ w' = W1) := fun W1 => by
            have := wNum_any x.1 (by omega) W1
            rw [hm] at this
            exact this
          clear hm hx hz1
          go_upto_region 10 with (go_at_call 32; refine (HNUM.out _).mono ?_; rintro e w' ⟨rfl, rfl⟩)
          generalize hW4 : World.alloc _ _ = W4
          have hb4 : Blk W4 N 32 #[.int .i64 0, .int .i64 0, .int .i64 0, .int .i64 0, .int .i64 0, .int .i64 0] := by
            subst hW4
            exact (HBR.out.far (p := ⟨N + 1, n, none⟩) (by show N ≠ N + 1; omega) _).alloc _
          have hk4 : KeepsAll w W4 := by
            subst hW4
            exact (HK.out.setCell (p := ⟨N + 1, n, none⟩) (fun h => by have : N + 1 < w.heap.size := h; omega) _).alloc _
          clear hW4 q2 f2
          have HB4 := Lib.hid hb4
          have HK4 := Lib.hid hk4
          have b0 := hb4.cell 0
          have b1 := hb4.cell 1
          have b2 := hb4.cell 2
          have b3 := hb4.cell 3
          have b4 := hb4.cell 4
          have b5 := hb4.cell 5
          simp at b0 b1 b2 b3 b4 b5
          have f0 := hb4.frozen 0
          have f1 := hb4.frozen 1
          have f2 := hb4.frozen 2
          have f3 := hb4.frozen 3
          have f4 := hb4.frozen 4
          have f5 := hb4.frozen 5
          clear hb4 hk4
          go_wp2
          generalize hW5 : World.setCell _ ⟨N, 5, none⟩ _ = W5
          have hb5 : Blk W5 N 32 #[.int .i64 0, .int .i64 0, .int .i64 0, .int .i64 0, .int .i64 0, .int .i64 0] := by
            subst hW5
            exact (((((HB4.out.set_ 0 _).set_ 1 _).set_ 2 _).set_ 3 _).set_ 4 _).set_ 5 _
          have hw : ¬ N < w.heap.size := by omega
          have hk5 : KeepsAll w W5 := by
            subst hW5
            exact (((((HK4.out.setCell (fun h => hw h) _).setCell (fun h => hw h) _).setCell (fun h => hw h) _).setCell (fun h => hw h) _).setCell (fun h => hw h) _).setCell (fun h => hw h) _
          clear hW5 b0 b1 b2 b3 b4 b5 f0 f1 f2 f3 f4 f5
          have b0 := hb5.cell 0
          have b1 := hb5.cell 1
          have b2 := hb5.cell 2
          have b3 := hb5.cell 3
          have b4 := hb5.cell 4
          have b5 := hb5.cell 5
          simp at b0 b1 b2 b3 b4 b5
          refine ⟨rfl, .tuple #[.agg #[.int .i64 0, .int .i64 0, .int .i64 0, .int .i64 0, .int .i64 0, .int .i64 0], .bool false], by simp [results, Tryz.results16, go_sem, b0, b1, b2, b3, b4, b5], ?_⟩
          exact ⟨by rw [HN.out]; rfl, hk5⟩
        | some v =>
          have HNUM : Hid (∀ W1, Calls Tryz.prog 32 #[.string (mkS x.1)] W1 fun e w' => e = .returned (.tuple #[.int .i64 v, .bool true]) ∧ w' = W1) := fun W1 => by
            have := wNum_any x.1 (by omega) W1
            rw [hm] at this
            exact this
          have HV2 : Hid (∀ (j : Nat) (y : Wd) (v' : Int), j < n + 1 → ws[j]? = some y → (vs.set n v)[j]? = some v' → numV y.1 = some v') := fun j y v' hj h1 h2 => by
            rcases Nat.lt_or_ge j n with h3 | h3
            · rw [List.getElem?_set_ne (by omega)] at h2
              exact HV.out j y v' h3 h1 h2
            · obtain rfl : j = n := by omega
              rw [hx] at h1
              rw [List.getElem?_set_self (by have := HVL.out; omega)] at h2
              rw [← Option.some.inj h1, ← Option.some.inj h2]
              exact hm
          clear hm hx hz1 HV
          go_wp2_with (go_at_call 32; refine (HNUM.out _).mono ?_; rintro e w' ⟨rfl, rfl⟩)
          go_roundw
          case rel =>
            refine ⟨n + 1, vs.set n v, by omega, by go_num, rfl, by rw [List.length_set]; exact HVL.out, (HBR.out.far (p := ⟨N + 1, n, none⟩) (by show N ≠ N + 1; omega) _).alloc _, ?_, (HK.out.setCell (p := ⟨N + 1, n, none⟩) (fun h => by have : N + 1 < w.heap.size := h; omega) _).alloc _, HV2.out⟩
            have hq := (HBA.out.set_ n (.int .i64 v)).alloc (.cells #[.string (mkS x.1), .int .i64 k, .int .i64 x.2] 46)
            have e : ((vs.map (Value.int .i64)).toArray).setIfInBounds n (.int .i64 v) = ((vs.set n v).map (Value.int .i64)).toArray := by
              rw [List.map_set]; simp
            rw [e] at hq
            exact hq
          case measure => simp [intOf]; omega
      · obtain rfl : n = 6 := by omega
        have HS : Hid (recW ws = some vs) := recW_some ws vs H6.out HVL.out (fun j x v h1 h2 => HV.out j x v (by have := (List.getElem?_eq_some_iff.1 h1).1; rw [H6.out] at this; omega) h1 h2)
        obtain ⟨v0, v1, v2, v3, v4, v5, rfl⟩ : ∃ v0 v1 v2 v3 v4 v5, vs = [v0, v1, v2, v3, v4, v5] := by
          match vs, hvl with
          | [v0, v1, v2, v3, v4, v5], _ => exact ⟨v0, v1, v2, v3, v4, v5, rfl⟩
        have a0 := HBA.out.cell 0
        have a1 := HBA.out.cell 1
        have a2 := HBA.out.cell 2
        have a3 := HBA.out.cell 3
        have a4 := HBA.out.cell 4
        have a5 := HBA.out.cell 5
        have b0 := HBR.out.cell 0
        have b1 := HBR.out.cell 1
        have b2 := HBR.out.cell 2
        have b3 := HBR.out.cell 3
        have b4 := HBR.out.cell 4
        have b5 := HBR.out.cell 5
        simp at a0 a1 a2 a3 a4 a5 b0 b1 b2 b3 b4 b5
        have f0 := HBR.out.frozen 0
        have f1 := HBR.out.frozen 1
        have f2 := HBR.out.frozen 2
        have f3 := HBR.out.frozen 3
        have f4 := HBR.out.frozen 4
        have f5 := HBR.out.frozen 5
        clear hvl HVL HV
        go_wp2
        generalize hW5 : World.setCell _ ⟨N, 5, none⟩ _ = W5
        have hb5 : Blk W5 N 32 #[.int .i64 v0, .int .i64 v1, .int .i64 v2, .int .i64 v3, .int .i64 v4, .int .i64 v5] := by
          subst hW5
          exact (((((HBR.out.set_ 0 _).set_ 1 _).set_ 2 _).set_ 3 _).set_ 4 _).set_ 5 _
        have hw : ¬ N < w.heap.size := by omega
        have hk5 : KeepsAll w W5 := by
          subst hW5
          exact (((((HK.out.setCell (fun h => hw h) _).setCell (fun h => hw h) _).setCell (fun h => hw h) _).setCell (fun h => hw h) _).setCell (fun h => hw h) _).setCell (fun h => hw h) _
        clear hW5 b0 b1 b2 b3 b4 b5 f0 f1 f2 f3 f4 f5 a0 a1 a2 a3 a4 a5
        have b0 := hb5.cell 0
        have b1 := hb5.cell 1
        have b2 := hb5.cell 2
        have b3 := hb5.cell 3
        have b4 := hb5.cell 4
        have b5 := hb5.cell 5
        simp at b0 b1 b2 b3 b4 b5
        refine ⟨rfl, .tuple #[.agg #[.int .i64 v0, .int .i64 v1, .int .i64 v2, .int .i64 v3, .int .i64 v4, .int .i64 v5], .bool true], by simp [results, Tryz.results16, go_sem, b0, b1, b2, b3, b4, b5], ?_⟩
        exact ⟨by rw [HS.out]; rfl, hk5⟩
  · have HN : Hid (recW ws = none) := recW_len ws h6
    have h6b : ((ws.length : Int) != 6) = true := by simp; omega
    go_enter Tryz.func16, Tryz.ntmps16
    generalize hN : w.heap.size = N at *
    go_wp2
    generalize hW1 : World.alloc (World.alloc w _) _ = W1
    have hb1 : Blk W1 N 32 #[.int .i64 0, .int .i64 0, .int .i64 0, .int .i64 0, .int .i64 0, .int .i64 0] := by subst hW1; exact (Blk.new' _ _ _ (by simp [hN])).alloc _
    have hk1 : KeepsAll w W1 := by subst hW1; exact ((Keeps.refl _ w).alloc _).alloc _
    clear hW1
    have b0 := hb1.cell 0
    have b1 := hb1.cell 1
    have b2 := hb1.cell 2
    have b3 := hb1.cell 3
    have b4 := hb1.cell 4
    have b5 := hb1.cell 5
    simp at b0 b1 b2 b3 b4 b5
    refine ⟨rfl, .tuple #[.agg #[.int .i64 0, .int .i64 0, .int .i64 0, .int .i64 0, .int .i64 0, .int .i64 0], .bool false], by simp [results, Tryz.results16, go_sem, b0, b1, b2, b3, b4, b5], ?_⟩
    exact ⟨by rw [HN.out]; rfl, hk1⟩
end

section
open Go.RowKit

/-- a record in memory -/
def RRec : Rd Rc := fun _ _ cs x => x.length = 6 ∧ cs = x.map (Value.int .i64)
theorem RRec.ok : Rd.Ok RRec := ⟨fun h _ _ => h⟩
theorem RRec.flt : Rd.Flt RRec := fun _ _ _ _ _ _ h => h
abbrev RRecs := RSlice 6 RRec
theorem RRecs.ok : Rd.Ok RRecs := RSlice.ok RRec.ok
theorem tyRec : ElemTy Tryz.prog 22 32 6 48 := ElemTy.mk' (z := .agg #[.int .i64 0, .int .i64 0, .int .i64 0, .int .i64 0, .int .i64 0, .int .i64 0]) Tryz.underlying22 (by kernel_rfl) rfl (by decide)
def ParE (w w' : World) (e : Ending) : List Rc ⊕ (Nat × Int) → Prop
  | .inl rs => ∃ A c, e = .returned (.tuple #[.slice A rs.length c, .int .i64 0, .int .i64 0]) ∧ RRecs w' (Fresh w w') [.slice A rs.length c] rs
  | .inr (k, x) => e = .returned (.tuple #[.slice none 0 0, .int .i64 (k : Int), .int .i64 x])
theorem goLines_err (ps : List Bs) : ∀ k acc q, goLines ps k acc = .inr q → q.2 = 2 ∨ q.2 = 7 := by
  induction ps with
  | nil => intro k acc q h; cases h
  | cons p r ih =>
    intro k acc q h
    unfold goLines at h
    split at h
    · cases h; exact .inl rfl
    · split at h
      · cases h; exact .inr rfl
      · exact ih _ _ _ h
theorem lines_err (s : Bs) (k : Nat) (x : Int) (h : linesT s = .inr (k, x)) : x = 2 ∨ x = 7 := by
  unfold linesT at h
  split at h
  · cases h; exact .inr rfl
  · exact goLines_err _ _ _ _ h
theorem RLns.atK {w wr : World} {ls : List Ln} {A : Option Addr} {n0 c : Nat} (K : KeepsAll w wr) (h : RLns w (Old w) [.slice A n0 c] ls) {j : Nat} (hj : j < ls.length) :
    ∃ b o x A' c', A = some ⟨b, o, none⟩ ∧ b < w.heap.size ∧ ls[j]? = some x ∧ wr.cell? ⟨b, o + j, none⟩ = some (.slice A' x.2.length c') ∧ RWds (x.1 : Int) wr (Old wr) [.slice A' x.2.length c'] x.2 := by
  obtain ⟨b, o, x, es, rfl, hb, hx, h1, h2, h3⟩ := h.get hj
  have h2' : RWds (x.1 : Int) w (Old w) es x.2 := h2
  obtain ⟨A', c', rfl, _⟩ := id h2'
  exact ⟨b, o, x, A', c', rfl, hb, hx, K.cellA hb (by simpa using h3 0 _ rfl), K.rd (RSlice.ok RWd.ok) h2' (fun b hb => ⟨hb, fun h => h⟩) (fun b hb => Nat.lt_of_lt_of_le hb K.size)⟩
set_option maxHeartbeats 8000000 in
set_option maxRecDepth 100000 in
theorem cParse_any (s : Bs) (hl : s.length ≤ 9223372036854775807) (w : World) : Calls Tryz.prog 6 #[.string (mkS s)] w fun e w' => ParE w w' e (parT s) ∧ KeepsAll w w' := by
  have HLN := Lib.hid (wLines_any s hl w)
  have HG : Hid (parT s = match linesT s with | .inr e => .inr e | .inl ls => goRecs ls []) := rfl
  generalize parT s = G at *
  generalize mkS s = tb at *
  cases hL : linesT s with
  | inr q =>
    obtain ⟨k, x⟩ := q
    have hx := lines_err s k x hL
    rw [hL] at HLN HG
    have HL1 : Hid (Calls Tryz.prog 15 #[.string tb] w fun e w' => e = .returned (.tuple #[.slice none 0 0, .int .i64 (k : Int), .int .i64 x]) ∧ KeepsAll w w') := HLN.out
    clear HLN hL
    go_enter Tryz.func6, Tryz.ntmps6
    rcases hx with rfl | rfl
    · go_wp2_with (go_at_call 15; refine (HL1.out).mono ?_; rintro e w2 ⟨rfl, hk2⟩)
      refine bodyPost_ret (v := .tuple #[.slice none 0 0, .int .i64 (k : Int), .int .i64 2]) (by simp [results, Tryz.results6, go_sem]) rfl ?_
      exact ⟨by rw [HG.out]; rfl, hk2⟩
    · go_wp2_with (go_at_call 15; refine (HL1.out).mono ?_; rintro e w2 ⟨rfl, hk2⟩)
      refine bodyPost_ret (v := .tuple #[.slice none 0 0, .int .i64 (k : Int), .int .i64 7]) (by simp [results, Tryz.results6, go_sem]) rfl ?_
      exact ⟨by rw [HG.out]; rfl, hk2⟩
  | inl ls =>
    have hok := lines_ok s ls hL
    rw [hL] at HLN HG
    have HL1 : Hid (Calls Tryz.prog 15 #[.string tb] w fun e w' => (∃ A c, e = .returned (.tuple #[.slice A ls.length c, .int .i64 0, .int .i64 0]) ∧ RLns w' (Fresh w w') [.slice A ls.length c] ls) ∧ KeepsAll w w') := HLN.out
    have HG0 : Hid (G = goRecs (ls.drop 0) []) := HG.out
    have HOK := Lib.hid hok.2
    have hll := hok.1
    clear HLN hL HG hok
    go_enter Tryz.func6, Tryz.ntmps6
    go_wp2_with (go_at_call 15; refine (HL1.out).mono ?_; rintro e w2 ⟨⟨A, c, rfl, hr2⟩, hk2⟩)
    have HR : Hid (RLns w2 (Old w2) [.slice A ls.length c] ls) := RLns.ok.mono hr2 (fun b hb => hb.2) (fun _ _ => rfl)
    have HK2 := Lib.hid hk2
    have hsz2 := hk2.size
    have hcap := hr2.caps
    clear hr2 hk2 HL1
    go_loopw [2, 3, 4, 8, 25] (fun v2 v3 v4 v8 i wr => ∃ (n : Nat) (acc : List Rc), n ≤ ls.length ∧ i = .int .i64 (n : Int) ∧ v2 = .slice none 0 0 ∧ v3 = .int .i64 0 ∧ v4 = .int .i64 0 ∧ OwnL 32 6 RRec wr w2.heap.size w2.heap.size v8 acc ∧ KeepsAll w2 wr ∧ G = goRecs (ls.drop n) acc ∧ acc.length ≤ n) (fun _ _ _ _ i _ => ls.length - (intOf i).toNat)
    case atStart => exact ⟨0, [], Nat.zero_le _, rfl, rfl, rfl, rfl, OwnL.nil, Keeps.refl _ _, HG0.out, Nat.le_refl _⟩
    case round =>
      obtain ⟨n, acc, hn, rfl, rfl, rfl, rfl, ho, hk, hG, han⟩ := hrel
      obtain ⟨Ao, cp, rfl, hcp1, hcp2⟩ := ho.form
      have HO := Lib.hid ho
      have HK := Lib.hid hk
      have HGn := Lib.hid hG
      have hsz := hk.size
      clear ho hk hG HG0
      by_cases hlt : n < ls.length
      · obtain ⟨b, o, x, A', c', rfl, hb, hx, hcell, hws⟩ := HR.out.atK HK.out hlt
        have hlok := HOK.out x (List.mem_of_getElem? hx)
        have HCP := Lib.hid (cparse_any (x.1 : Int) x.2 A' c' wr hws hlok.bd hlok.cap)
        have hdr : ls.drop n = x :: ls.drop (n + 1) := by
          rw [List.drop_eq_getElem_cons hlt]
          congr 1
          rw [List.getElem?_eq_getElem hlt] at hx
          exact Option.some.inj hx
        have hG := HGn.out
        rw [hdr, goRecs] at hG
        have hpos : 0 < x.2.length := List.length_pos_iff.2 hlok.ne
        obtain ⟨bw, ow, xw, rfl, hbw, hxw, z0, z1, z2⟩ := hws.atK (Keeps.refl _ wr) hpos
        simp only [Nat.zero_mul, Nat.add_zero] at z0 z1 z2
        have HWS := Lib.hid hws
        have hbo : b < wr.heap.size := by omega
        clear hdr hws hlok hx hxw z0 z2 HGn
        cases hr : recW x.2 with
        | none =>
          rw [hr] at hG
          have HF : Hid (G = .inr (x.1, 2)) := hG
          have HC1 : Hid (Calls Tryz.prog 16 #[.slice (some ⟨bw, ow, none⟩) x.2.length c'] wr fun e w' => e = .returned (.tuple #[.agg #[.int .i64 0, .int .i64 0, .int .i64 0, .int .i64 0, .int .i64 0, .int .i64 0], .bool false]) ∧ KeepsAll wr w') := by
            have := HCP.out
            rw [hr] at this
            exact this
          clear HCP hr hG
          generalize x.2.length = wl at *
          go_upto_region 10 with (go_at_call 16; refine (HC1.out).mono ?_; rintro e w3 ⟨rfl, hk3⟩)
          generalize hW4 : World.alloc w3 _ = W4
          have hk4 : KeepsAll wr W4 := by subst hW4; exact hk3.alloc _
          have c1 := hk4.cellA hbw z1
          have HK4 := Lib.hid hk4
          clear hW4 hk4 hk3
          go_quiet (fail)
          go_wp2
          refine bodyPost_ret (v := .tuple #[.slice none 0 0, .int .i64 (x.1 : Int), .int .i64 2]) (by simp [results, Tryz.results6, go_sem]) rfl ?_
          exact ⟨by rw [HF.out]; rfl, ((HK2.out.trA HK.out).trA HK4.out).drewN _⟩
        | some r =>
          have h6 := recW_6 _ _ hr
          obtain ⟨v0, v1, v2, v3, v4, v5, rfl⟩ : ∃ v0 v1 v2 v3 v4 v5, r = [v0, v1, v2, v3, v4, v5] := by
            match r, h6 with
            | [v0, v1, v2, v3, v4, v5], _ => exact ⟨v0, v1, v2, v3, v4, v5, rfl⟩
          rw [hr] at hG
          have HF : Hid (G = goRecs (ls.drop (n + 1)) (acc ++ [[v0, v1, v2, v3, v4, v5]])) := hG
          have HC1 : Hid (Calls Tryz.prog 16 #[.slice (some ⟨bw, ow, none⟩) x.2.length c'] wr fun e w' => e = .returned (.tuple #[.agg #[.int .i64 v0, .int .i64 v1, .int .i64 v2, .int .i64 v3, .int .i64 v4, .int .i64 v5], .bool true]) ∧ KeepsAll wr w') := by
            have := HCP.out
            rw [hr] at this
            exact this
          clear HCP hr hG z1
          generalize x.2.length = wl at *
          go_wp2_with (first
            | (go_at_call 16; refine (HC1.out).mono ?_; rintro e w3 ⟨rfl, hk3⟩; have HK3 := Lib.hid hk3; have hsz3 := hk3.size; clear hk3)
            | (at_builtin; go_loud (
                have KB : KeepsAll wr ((w3.alloc (.cells #[.int .i64 v0, .int .i64 v1, .int .i64 v2, .int .i64 v3, .int .i64 v4, .int .i64 v5] 32)).alloc (.cells #[.int .i64 v0, .int .i64 v1, .int .i64 v2, .int .i64 v3, .int .i64 v4, .int .i64 v5] 32)) := (HK3.out.alloc _).alloc _
                refine wpList_append_L tyRec RRec.ok rfl (.tmp 40) (.tmp 42) rfl (HO.out.keepsT RRec.flt KB (by simp)) rfl _ [.int .i64 v0, .int .i64 v1, .int .i64 v2, .int .i64 v3, .int .i64 v4, .int .i64 v5] rfl (Blk.new' _ 32 #[.int .i64 v0, .int .i64 v1, .int .i64 v2, .int .i64 v3, .int .i64 v4, .int .i64 v5] (by simp)) rfl ([v0, v1, v2, v3, v4, v5] : Rc) (S := fun _ => False) ⟨rfl, rfl⟩ (fun _ h => h.elim) (by simp [Value.oneCell']) (by omega) (by omega) (by simp; omega) ?_
                intro v8 w8 HO8 HK8 HA8)))
          refine ⟨⟨n + 1, acc ++ [[v0, v1, v2, v3, v4, v5]], by omega, by go_num, rfl, rfl, rfl, HO8, (((HK.out.trA HK3.out).alloc _).alloc _).trans HK8 (fun y hy e => by have := (HO.out.lt e).1; omega), HF.out, by simp; omega⟩, by simp [intOf]; omega⟩
      · obtain rfl : n = ls.length := by omega
        have hfin : G = .inl acc := by
          rw [HGn.out, List.drop_length]
          rfl
        have HF := Lib.hid hfin
        clear hfin
        go_wp2
        refine bodyPost_ret (v := .tuple #[.slice Ao acc.length cp, .int .i64 0, .int .i64 0]) (by simp [results, Tryz.results6, go_sem]) rfl ?_
        exact ⟨by rw [HF.out]; exact ⟨Ao, cp, rfl, HO.out.readT RRec.flt (fun b hb => ⟨Nat.le_trans hsz2 (HO.out.lt hb).1, (HO.out.lt hb).2⟩)⟩, HK2.out.trA HK.out⟩
end
end Go.Proofs.YtnglahcjemgcaaaGreatDoor
