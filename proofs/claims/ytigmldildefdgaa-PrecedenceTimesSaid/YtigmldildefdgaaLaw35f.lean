/- The statement PrecedenceTimes: its function returns true. No condition beyond the arguments' reading. -/
import Derived.Test.YtigmldildefdgaaTimesA
import Derived.Test.YtigmldildefdgaaLeastP
import Derived.Lib.MinMax
namespace Go.Proofs.Ytigmldildefdgaa
open Go.RowKit

set_option maxRecDepth 100000 in
set_option maxHeartbeats 4000000 in
theorem PrecedenceTimes_any (lp le la : List Int) (A A2 A3 : Option Addr) (c c2 c3 : Nat) (nw : Int) (w : World) (h : RInts w (Old w) [.slice A lp.length c] lp) (h2 : RInts w (Old w) [.slice A2 le.length c2] le) (h3 : RInts w (Old w) [.slice A3 la.length c3] la) :
    Calls Try.prog 9 #[.slice A lp.length c, .slice A2 le.length c2, .slice A3 la.length c3, .int .i64 nw] w fun e w' => e = .returned (.bool true) ∧ KeepsAll w w' := by
  have HM := Lib.hid (made_any lp le la A A2 A3 c c2 c3 w h h2 h3)
  clear h h2 h3
  go_enter Try.func9, Try.ntmps9
  go_wp2_with fail
  refine HM.out.mono ?_
  rintro e w1 ⟨ps, os, at_, v0, v1, v2, rfl, rp, ro, ra, hm, hck, hgd, _, k1⟩
  obtain ⟨B, d, rfl, hd1, hd2⟩ := rp.val
  obtain ⟨B2, d2, rfl, hd3, hd4⟩ := ro.val
  obtain ⟨B3, d3, rfl, hd5, hd6⟩ := ra.val
  have P1 := Lib.hid rp; have O1 := Lib.hid ro; have A1 := Lib.hid ra; have K1 := Lib.hid k1
  have hG := good_Gd.1 hgd
  have hv := hm.valid
  have hps1 := hm.1
  have hps3 := hm.2.1
  have hal : at_.length = ps.length := hG.1
  have al1 : at_.length ≤ ps.length := by omega
  have al2 : ps.length ≤ at_.length := by omega
  have HCK := Lib.hid hck
  have HGD := Lib.hid hgd
  have HGG := Lib.hid hG
  have HV := Lib.hid hv
  have HLEN := Lib.hid (fun t => lenAt_le hv t)
  have pn := pick_range nw 100 (by omega)
  clear rp ro ra k1 hm hgd hG HM hal
  go_wp2_with (go_at_call 18; refine (Pick_any _ _ _ (by omega) (by omega)).mono ?_; rintro e w' ⟨rfl, rfl⟩)
  generalize pick nw 100 = n at *
  have hclk : isClk n = true := by simp [isClk]; omega
  refine (Times_any ps os at_ n B B2 B3 d d2 d3 w1 P1.out O1.out A1.out).mono ?_
  rintro e w2 ⟨vt, rfl, rt, k2⟩
  have K2 := Lib.hid (K1.out.tr k2)
  have P2 := Lib.hid (k2.rdo' RPaths.ok P1.out)
  have O2 := Lib.hid (k2.rdo' ROrders.ok O1.out)
  have A2' := Lib.hid (k2.rdo' RInts.ok A1.out)
  clear k2 K1 P1 O1 A1
  by_cases g1 : okP ps os at_ = true
  · have Q1 : Hid (lineP ps os at_ = ((runP ps os at_).1, true)) := by show _ = _; unfold lineP; rw [hck, HGD.out, g1]; rfl
    have Q2 : Hid (timesP ps os at_ n = (tabOf ps (tabG ps os at_ n), 0)) := by show _ = _; unfold timesP; rw [hck, HGD.out, g1, hclk]; rfl
    have HLE : Hid (∀ (t k : Nat) (p : List Stage), ps[t]? = some p → k ≤ p.length → ((k : Int) ≤ nowAt at_ t → tabG ps os at_ n ⟨(t : Int), (k : Int)⟩ = -1) ∧ (¬ (k : Int) ≤ nowAt at_ t → tabG ps os at_ n ⟨(t : Int), (k : Int)⟩ = mxo (valL at_ (tabG ps os at_ n) ⟨(t : Int), (k : Int)⟩) (base2 ps at_ n t k) (refArcs ps os))) := fun t k p hp hk => times_least hck HGD.out g1 hp hk
    have HBD : Hid (Bd (tabG ps os at_ n) (4194304 * 651)) := by
      have q := tabG_bd hv os at_ (n := n) (by omega) (runP ps os at_).1
      have q2 := runP_len (os := os) hv HGG.out
      intro x
      have := q x
      unfold tabG
      omega
    have HWT := Lib.hid (refArcs_wt hv os)
    have HEND : Hid (∀ a ∈ refArcs ps os, ∃ (tf kf : Nat) (pf : List Stage), ps[tf]? = some pf ∧ kf ≤ pf.length ∧ a.frm = ⟨(tf : Int), (kf : Int)⟩) := fun a ha => (refArcs_ends hck ha).2
    rw [Q2.out] at rt ⊢
    simp only [] at rt ⊢
    generalize tabG ps os at_ n = T at *
    obtain ⟨Bt, dt, rfl, hdt1, hdt2⟩ := rt.val
    rw [tabOf_len] at hdt1 ⊢
    have RT := Lib.hid rt
    clear rt hck hv g1 Q2
    go_wp2_with fail
    refine (RefLine_any ps os at_ B B2 B3 d d2 d3 w2 hps1 P2.out O2.out A2'.out).mono ?_
    rintro e w3 ⟨vl, rfl, rl, k3⟩
    rw [Q1.out]
    simp only []
    have K3 := Lib.hid (K2.out.tr k3)
    have P3 := Lib.hid (k3.rdo' RPaths.ok P2.out)
    have O3 := Lib.hid (k3.rdo' ROrders.ok O2.out)
    have A3' := Lib.hid (k3.rdo' RInts.ok A2'.out)
    have RT3 := Lib.hid (k3.rdo' RIntss.ok RT.out)
    clear rl k3 K2 P2 O2 A2' RT
    go_wp2_with fail
    refine (Arcs_any ps os B B2 d d2 w3 HCK.out P3.out O3.out).mono ?_
    rintro e w4 ⟨va, rfl, ha4, hal4, k4⟩
    obtain ⟨Aa, ca, rfl, hca1, hca2⟩ := ha4.form
    have RA := Lib.hid (ha4.read RRArc.ok (by omega) (S := Old w4) (fun _ _ h => h) (fun _ _ h => h))
    have K4 := Lib.hid (K3.out.tr k4)
    have P4 := Lib.hid (k4.rdo' RPaths.ok P3.out)
    have A4 := Lib.hid (k4.rdo' RInts.ok A3'.out)
    have RT4 := Lib.hid (k4.rdo' RIntss.ok RT3.out)
    clear ha4 k4 K3 P3 O3 A3' RT3 Q1
    generalize refArcs ps os = arcs at *
    go_wp2
    go_loopw [71] (fun v wr => ∃ (t m : Nat), t ≤ ps.length ∧ v = .int .i64 (t : Int) ∧ wr = w4.drewN m) (fun v _ => ps.length - (intOf v).toNat)
    case atStart => exact ⟨0, 0, Nat.zero_le _, rfl, rfl⟩
    case round =>
      obtain ⟨t, m, ht, rfl, rfl⟩ := hrel
      by_cases hlt : t < ps.length
      · obtain ⟨b, o, p, A', c', hbo, hb, hp, k1, hr⟩ := RSS.at_ P4.out hlt
        subst hbo
        have hcp := hr.caps
        obtain ⟨b3, o3, x, A5, c5, hbo, hb3, hx, q0, hrx⟩ := RSS.at_ RT4.out (k := t) (by rw [tabOf_len]; exact hlt)
        subst hbo
        rw [tabOf_at T hlt] at hx
        injection hx with hx
        subst hx
        have hcx := hrx.caps
        rw [rowOf_len, lenAt_of hp] at q0 hcx
        have hl64 := HLEN.out t
        rw [lenAt_of hp] at hl64
        clear hr hrx hp
        have hs1 : IntKind.i64.wrap ((p.length : Int) + 1) = (p.length : Int) + 1 := IntWalk.i64_in _ (by omega)
        have hdt : decide ((t : Int) < (ps.length : Int)) = true := by simp; omega
        have hne : (((p.length + 1 : Nat) : Int) != (p.length : Int) + 1) = false := by simp
        go_wp2
        go_quiet (fail)
        go_wp2
        go_roundw
        case rel => exact ⟨t + 1, _, by omega, by go_num, rfl⟩
        case measure => simp [intOf]; omega
      · obtain rfl : t = ps.length := by omega
        have hdt : decide ((ps.length : Int) < (ps.length : Int)) = false := by simp
        have K5 : Hid (KeepsAll w4 (w4.drewN m)) := (Keeps.refl _ _).drewN _
        generalize w4.drewN m = w5 at *
        go_wp2
        go_loopw [89] (fun v wr => ∃ t : Nat, t ≤ ps.length ∧ v = .int .i64 (t : Int) ∧ KeepsAll w4 wr) (fun v _ => ps.length - (intOf v).toNat)
        case atStart => exact ⟨0, Nat.zero_le _, rfl, K5.out⟩
        case round =>
          obtain ⟨t, ht, rfl, hkt⟩ := hrel
          have KT := Lib.hid hkt; clear hkt
          by_cases hlt : t < ps.length
          · obtain ⟨b, o, p, A', c', hbo, hb0, hp, k10, hr⟩ := RSS.at_ P4.out hlt
            subst hbo
            have hcp := hr.caps
            have HPR := Lib.hid hr
            obtain ⟨b3, o3, x, A5, c5, hbo, hb30, hx, q00, hrx⟩ := RSS.at_ RT4.out (k := t) (by rw [tabOf_len]; exact hlt)
            subst hbo
            rw [tabOf_at T hlt] at hx
            injection hx with hx
            subst hx
            have hcx := hrx.caps
            have HRX := Lib.hid hrx
            have el := lenAt_of hp
            have hl64 := HLEN.out t
            rw [rowOf_len, el] at q00 hcx
            rw [el] at hl64
            have hp1 := ((valid_lens HV.out).2 p (List.mem_of_getElem? hp)).1
            obtain ⟨ba, oa, xa, hbo, hba0, hxa, r00⟩ := A4.out.at_ (k := t) (by omega)
            subst hbo
            have HCELL : Hid (∀ W, KeepsAll w4 W → W.cell? ⟨b, o + t, none⟩ = some (.slice A' p.length c') ∧ W.cell? ⟨b3, o3 + t, none⟩ = some (.slice A5 (p.length + 1) c5) ∧ W.cell? ⟨ba, oa + t, none⟩ = some (.int .i64 xa) ∧ b < W.heap.size ∧ b3 < W.heap.size ∧ ba < W.heap.size) := fun W hW => ⟨hW.cellK hb0 k10, hW.cellK hb30 q00, hW.cellK hba0 r00, Nat.lt_of_lt_of_le hb0 hW.size, Nat.lt_of_lt_of_le hb30 hW.size, Nat.lt_of_lt_of_le hba0 hW.size⟩
            obtain ⟨k1, q0, r0, hb, hb3, hba⟩ := HCELL.out wr KT.out
            clear hb0 hb30 hba0 k10 q00 r00
            have HLT : Hid (∀ k : Nat, k ≤ p.length → ((k : Int) ≤ xa → T ⟨(t : Int), (k : Int)⟩ = -1) ∧ (¬ (k : Int) ≤ xa → T ⟨(t : Int), (k : Int)⟩ = mxo (valL at_ T ⟨(t : Int), (k : Int)⟩) (base2 ps at_ n t k) arcs)) := fun k hk => by
              have q := HLE.out t k p hp hk
              rw [nowAt_of hxa] at q; exact ⟨q.1, fun h => q.2 (by omega)⟩
            have HB2 : Hid (∀ k : Nat, base2 ps at_ n t k = if 0 < k ∧ (k : Int) - 1 = xa then max (baseS ps n ⟨(t : Int), (k : Int)⟩) (n + mnAt ps t (k - 1)) else baseS ps n ⟨(t : Int), (k : Int)⟩) := fun k => by
              unfold base2; rw [nowAt_of hxa]
            have HBS : Hid (∀ k : Nat, (∀ s, p[k]? = some s → baseS ps n ⟨(t : Int), (k : Int)⟩ = max n s.nt ∧ mnAt ps t k = s.mn) ∧ (¬ k < p.length → baseS ps n ⟨(t : Int), (k : Int)⟩ = n)) := fun k => by
              unfold baseS mnAt
              simp only [Int.toNat_natCast, hp, Option.getD_some]
              refine ⟨fun s hs => by rw [hs]; exact ⟨rfl, rfl⟩, fun hn' => by rw [List.getElem?_eq_none (by omega)]; rfl⟩
            have hGt := HGG.out.2 t hlt
            rw [nowAt_of hxa, el] at hGt
            have HEL := Lib.hid el
            have HPQ := Lib.hid hp
            clear hr hrx hp hxa el
            have hdt : decide ((t : Int) < (ps.length : Int)) = true := by simp; omega
            go_wp2
            go_loopw [99] (fun v wr => ∃ k : Nat, k ≤ p.length + 1 ∧ v = .int .i64 (k : Int) ∧ KeepsAll w4 wr) (fun v _ => p.length + 1 - (intOf v).toNat)
            case atStart => exact ⟨0, Nat.zero_le _, rfl, KT.out⟩
            case round =>
              clear k1 q0 r0 hb hb3 hba
              obtain ⟨k, hk, rfl, hkk⟩ := hrel
              have KK := Lib.hid hkk; clear hkk
              by_cases hltk : k < p.length + 1
              · obtain ⟨bx, ox, tv, hbo, hbx, htv, x0⟩ := RInts.atK KK.out HRX.out (k := k) (by rw [rowOf_len, HEL.out]; omega)
                subst hbo
                rw [rowOf_at T (by rw [HEL.out]; omega)] at htv
                injection htv with htv
                subst htv
                obtain ⟨-, q0, r0, -, hb3, hba⟩ := HCELL.out wr KK.out
                have hLk := HLT.out k (by omega)
                have hkk1 : k < p.length + 1 := hltk
                have hdk : decide ((k : Int) < (p.length : Int) + 1) = true := by simp; omega
                by_cases gd : (k : Int) ≤ xa
                · have gd' : decide ((k : Int) ≤ xa) = true := by simpa using gd
                  rw [hLk.1 gd] at x0
                  clear hLk gd
                  go_wp2
                  go_roundw
                  case rel => exact ⟨k + 1, by omega, by go_num, KK.out⟩
                  case measure => simp [intOf]; omega
                · have gd' : decide ((k : Int) ≤ xa) = false := by simpa using gd
                  rw [hLk.2 (by omega)] at x0
                  have hb2 := HB2.out k
                  have hbs := HBS.out k
                  have HGO : (∃ (b2 o2 : Nat) (s : Stage), A' = some ⟨b2, o2, none⟩ ∧ b2 < wr.heap.size ∧ k < p.length ∧ wr.cell? ⟨b2, o2 + k * 4 + 3, none⟩ = some (.int .i64 s.nt) ∧ k = 0 ∧ Hid (base2 ps at_ n t k = max n s.nt)) ∨
                      (∃ (b2 o2 : Nat) (s s1 : Stage) (k1 : Nat), A' = some ⟨b2, o2, none⟩ ∧ b2 < wr.heap.size ∧ k < p.length ∧ wr.cell? ⟨b2, o2 + k * 4 + 3, none⟩ = some (.int .i64 s.nt) ∧ k = k1 + 1 ∧ wr.cell? ⟨b2, o2 + (k - 1) * 4 + 2, none⟩ = some (.int .i64 s1.mn) ∧ (0 ≤ s1.mn ∧ s1.mn ≤ 4194304) ∧ xa = (k1 : Int) ∧ Hid (base2 ps at_ n t k = max (max n s.nt) (n + s1.mn))) ∨
                      (∃ (b2 o2 : Nat) (s : Stage) (k1 : Nat), A' = some ⟨b2, o2, none⟩ ∧ b2 < wr.heap.size ∧ k < p.length ∧ wr.cell? ⟨b2, o2 + k * 4 + 3, none⟩ = some (.int .i64 s.nt) ∧ k = k1 + 1 ∧ ¬ xa = (k1 : Int) ∧ Hid (base2 ps at_ n t k = max n s.nt)) ∨
                      (∃ (b2 o2 : Nat) (s1 : Stage) (k1 : Nat), A' = some ⟨b2, o2, none⟩ ∧ b2 < wr.heap.size ∧ ¬ k < p.length ∧ k = k1 + 1 ∧ wr.cell? ⟨b2, o2 + (k - 1) * 4 + 2, none⟩ = some (.int .i64 s1.mn) ∧ (0 ≤ s1.mn ∧ s1.mn ≤ 4194304) ∧ xa = (k1 : Int) ∧ Hid (base2 ps at_ n t k = max n (n + s1.mn))) ∨
                      (∃ (k1 : Nat), ¬ k < p.length ∧ k = k1 + 1 ∧ ¬ xa = (k1 : Int) ∧ Hid (base2 ps at_ n t k = n)) := by
                    by_cases hkp : k < p.length
                    · obtain ⟨b2, o2, s, As, cs, hbo, hb2', hs, m0, m1, m2, m3, hpts⟩ := RPath.atK KK.out HPR.out hkp
                      have e1 := (hbs.1 s hs).1
                      by_cases hk0 : k = 0
                      · exact .inl ⟨b2, o2, s, hbo, hb2', hkp, m3, hk0, by show _ = _; rw [hb2, if_neg (by omega), e1]⟩
                      · obtain ⟨k1, hk1⟩ : ∃ k1, k = k1 + 1 := ⟨k - 1, by omega⟩
                        obtain ⟨b2', o2', s1, As', cs', hbo', hb2'', hs1, m0', m1', m2', m3', hpts'⟩ := RPath.atK KK.out HPR.out (k := k1) (by omega)
                        rw [hbo] at hbo'
                        injection hbo' with hbo'; injection hbo' with e2 e3; subst e2 e3
                        by_cases hxa : xa = (k1 : Int)
                        · exact .inr (.inl ⟨b2, o2, s, s1, k1, hbo, hb2', hkp, m3, hk1, by rw [show k - 1 = k1 from by omega]; exact m2', (valid_clk HV.out HPQ.out hs1).1, hxa, by show _ = _; rw [hb2, if_pos ⟨by omega, by omega⟩, e1, show k - 1 = k1 from by omega, ((HBS.out k1).1 s1 hs1).2]⟩)
                        · exact .inr (.inr (.inl ⟨b2, o2, s, k1, hbo, hb2', hkp, m3, hk1, hxa, by show _ = _; rw [hb2, if_neg (by omega), e1]⟩))
                    · obtain ⟨k1, hk1⟩ : ∃ k1, k = k1 + 1 := ⟨k - 1, by omega⟩
                      obtain ⟨b2', o2', s1, As', cs', hbo', hb2'', hs1, m0', m1', m2', m3', hpts'⟩ := RPath.atK KK.out HPR.out (k := k1) (by omega)
                      have e1 := hbs.2 hkp
                      by_cases hxa : xa = (k1 : Int)
                      · exact .inr (.inr (.inr (.inl ⟨b2', o2', s1, k1, hbo', hb2'', hkp, hk1, by rw [show k - 1 = k1 from by omega]; exact m2', (valid_clk HV.out HPQ.out hs1).1, hxa, by show _ = _; rw [hb2, if_pos ⟨by omega, by omega⟩, e1, show k - 1 = k1 from by omega, ((HBS.out k1).1 s1 hs1).2]⟩)))
                      · exact .inr (.inr (.inr (.inr ⟨k1, hkp, hk1, hxa, by show _ = _; rw [hb2, if_neg (by omega), e1]⟩)))
                  have HGDk : Hid (¬ (k : Int) ≤ xa) := gd
                  clear hb2 hbs hLk gd
                  have hn0 := pn.1
                  have hn1 := pn.2
                  rcases HGO with ⟨b2, o2, s, rfl, hb2, hkp, m3, hk0, HBASE⟩ | ⟨b2, o2, s, s1, k1, rfl, hb2, hkp, m3, hk0, m2, hmn, hxa, HBASE⟩ | ⟨b2, o2, s, k1, rfl, hb2, hkp, m3, hk0, hxa, HBASE⟩ | ⟨b2, o2, s1, k1, rfl, hb2, hkp, hk0, m2, hmn, hxa, HBASE⟩ | ⟨k1, hkp, hk0, hxa, HBASE⟩
                  · have hkg : decide (0 < k) = false := by simp; omega
                    clear hk0
                    go_wp2
                    clear x0 q0 r0 hb3 hba hbx
                    go_loopw [22, 151] (fun vl vi wr => ∃ i : Nat, i ≤ arcs.length ∧ vi = .int .i64 (i : Int) ∧ vl = .int .i64 (mxo (valL at_ T ⟨(t : Int), (k : Int)⟩) (base2 ps at_ n t k) (arcs.take i)) ∧ KeepsAll w4 wr) (fun _ vi _ => arcs.length - (intOf vi).toNat)
                    case atStart => exact ⟨0, Nat.zero_le _, rfl, by rw [HBASE.out]; first | rfl | (congr 1; simp only [mxo, List.take_zero, List.foldl_nil]; omega), KK.out⟩
                    case round =>
                      obtain ⟨i, hi, rfl, rfl, hki⟩ := hrel
                      have KI := Lib.hid hki; clear hki
                      by_cases hlti : i < arcs.length
                      · obtain ⟨bA, oA, a, hbo, hbA, ha, c0, c1', c2', c3', c4'⟩ := RRArcs.atK KI.out RA.out hlti
                        subst hbo
                        obtain ⟨tf, kf, pf, hpf, hkf, hfe⟩ := HEND.out a (List.mem_of_getElem? ha)
                        have hwt := HWT.out a (List.mem_of_getElem? ha)
                        have htfl := getElem?_lt hpf
                        obtain ⟨bf, of, xf, hbo, hbf, hxf, y0⟩ := RInts.atK KI.out A4.out (k := tf) (by omega)
                        injection hbo with hbo; injection hbo with hbo1 hbo2; subst hbo1 hbo2
                        obtain ⟨bt, ot, rw_, At, ct, hbo, hbt, hrw, y1, hrr⟩ := RSS.atK KI.out RT4.out (k := tf) (by rw [tabOf_len]; exact htfl)
                        injection hbo with hbo; injection hbo with hbo1 hbo2; subst hbo1 hbo2
                        rw [tabOf_at T htfl] at hrw
                        injection hrw with hrw
                        subst hrw
                        have hcrr := hrr.caps
                        obtain ⟨bz, oz, tz, hbo, hbz, htz, y2⟩ := RInts.atK KI.out hrr (k := kf) (by rw [rowOf_len, lenAt_of hpf]; omega)
                        subst hbo
                        rw [rowOf_at T (by rw [lenAt_of hpf]; exact hkf)] at htz
                        injection htz with htz
                        subst htz
                        rw [rowOf_len, lenAt_of hpf] at y1 hcrr
                        have hbd := HBD.out ⟨(tf : Int), (kf : Int)⟩
                        have HVL : Hid (valL at_ T ⟨(t : Int), (k : Int)⟩ a = if a.to = ⟨(t : Int), (k : Int)⟩ ∧ ¬ (kf : Int) ≤ xf then some (T ⟨(tf : Int), (kf : Int)⟩ + a.wt) else none) := by
                          show valL _ _ _ _ = _
                          unfold valL doneR
                          rw [hfe, Int.toNat_natCast, nowAt_of hxf]
                          simp only [decide_eq_false_iff_not]
                        have HSN2 : Hid (mxo (valL at_ T ⟨(t : Int), (k : Int)⟩) (base2 ps at_ n t k) (arcs.take (i + 1)) = (valL at_ T ⟨(t : Int), (k : Int)⟩ a).elim (mxo (valL at_ T ⟨(t : Int), (k : Int)⟩) (base2 ps at_ n t k) (arcs.take i)) (max (mxo (valL at_ T ⟨(t : Int), (k : Int)⟩) (base2 ps at_ n t k) (arcs.take i)))) := by
                          show _ = _
                          rw [take_succ' ha, mxo_snoc]
                        generalize mxo (valL at_ T ⟨(t : Int), (k : Int)⟩) (base2 ps at_ n t k) (arcs.take i) = cur at *
                        generalize T ⟨(tf : Int), (kf : Int)⟩ = tz at y2 hbd HVL
                        rw [hfe] at c0 c1'
                        simp only [] at c0 c1'
                        have hkf2 : kf < pf.length + 1 := by omega
                        clear ha hpf hkf hfe hxf hrr
                        have hdi : decide ((i : Int) < (arcs.length : Int)) = true := by simp; omega
                        go_wp2
                        generalize hW6 : World.alloc wr _ = W6
                        have KW6 : KeepsAll wr W6 := by subst hW6; exact (Keeps.refl _ _).alloc _
                        have BA : Blk W6 wr.heap.size 57 #[.int .i64 (tf : Int), .int .i64 (kf : Int), .int .i64 a.to.tr, .int .i64 a.to.st, .int .i64 a.wt] := by subst hW6; exact Blk.new _ _ _
                        have a0 := BA.cell 0
                        have a1 := BA.cell 1
                        have a2 := BA.cell 2
                        have a3 := BA.cell 3
                        have a4 := BA.cell 4
                        simp at a0 a1 a2 a3 a4
                        have hza := BA.lt
                        replace y0 := KW6.cellK (p := ⟨ba, oa + tf, none⟩) hbf y0
                        replace y1 := KW6.cellK (p := ⟨b3, o3 + tf, none⟩) hbt y1
                        replace y2 := KW6.cellK (p := ⟨bz, oz + kf, none⟩) hbz y2
                        have K6 := Lib.hid (KI.out.tr KW6)
                        clear hW6 KW6 BA c0 c1' c2' c3' c4' hbA hbf hbt hbz
                        generalize wr.heap.size = za at *
                        by_cases g1 : a.to = ⟨(t : Int), (k : Int)⟩
                        · have g1' : a.to.tr = (t : Int) := by rw [g1]
                          have g1'' : a.to.st = (k : Int) := by rw [g1]
                          rw [g1'] at a2
                          rw [g1''] at a3
                          by_cases g2 : (kf : Int) ≤ xf
                          · have Q : Hid (mxo (valL at_ T ⟨(t : Int), (k : Int)⟩) (base2 ps at_ n t k) (arcs.take (i + 1)) = cur) := by show _ = _; rw [HSN2.out, HVL.out, if_neg (fun h => by have := h.2; omega)]; rfl
                            have g2' : decide ((kf : Int) > xf) = false := by simp; omega
                            clear g1 g1' g1'' g2 HVL HSN2
                            go_quiet (fail)
                            go_wp2
                            go_roundw
                            case rel => exact ⟨i + 1, by omega, by go_num, by rw [Q.out], K6.out.drewN _⟩
                            case measure => simp [intOf]; omega
                          · have Q : Hid (mxo (valL at_ T ⟨(t : Int), (k : Int)⟩) (base2 ps at_ n t k) (arcs.take (i + 1)) = max cur (tz + a.wt)) := by show _ = _; rw [HSN2.out, HVL.out, if_pos ⟨g1, by omega⟩]; rfl
                            have g2' : decide ((kf : Int) > xf) = true := by simp; omega
                            have hs1 : IntKind.i64.wrap (tz + a.wt) = tz + a.wt := IntWalk.i64_in _ (by omega)
                            clear g1 g1' g1'' g2 HVL HSN2
                            go_quiet (fail)
                            go_wp2
                            go_quiet (fail)
                            go_wp2
                            go_roundw
                            case rel => exact ⟨i + 1, by omega, by go_num, by rw [Q.out], K6.out.drewN _⟩
                            case measure => simp [intOf]; omega
                        · have Q : Hid (mxo (valL at_ T ⟨(t : Int), (k : Int)⟩) (base2 ps at_ n t k) (arcs.take (i + 1)) = cur) := by show _ = _; rw [HSN2.out, HVL.out, if_neg (fun h => g1 h.1)]; rfl
                          have g1n : ¬ (a.to.tr = (t : Int) ∧ a.to.st = (k : Int)) := fun h => g1 (Ref.eq_of h.1 h.2)
                          clear g1 HVL HSN2
                          by_cases g3 : a.to.tr = (t : Int)
                          · have g4 : ¬ a.to.st = (k : Int) := fun h => g1n ⟨g3, h⟩
                            have g4' : (a.to.st == (k : Int)) = false := by simpa using g4
                            rw [g3] at a2
                            clear g1n g3
                            go_quiet (fail)
                            go_wp2
                            go_roundw
                            case rel => exact ⟨i + 1, by omega, by go_num, by rw [Q.out], K6.out.drewN _⟩
                            case measure => simp [intOf]; omega
                          · have g3' : (a.to.tr == (t : Int)) = false := by simpa using g3
                            clear g1n
                            go_quiet (fail)
                            go_wp2
                            go_roundw
                            case rel => exact ⟨i + 1, by omega, by go_num, by rw [Q.out], K6.out.drewN _⟩
                            case measure => simp [intOf]; omega
                      · obtain rfl : i = arcs.length := by omega
                        rw [List.take_length]
                        obtain ⟨-, q0, -, -, hb3, -⟩ := HCELL.out wr KI.out
                        obtain ⟨bx', ox', tv, hbo, hbx, htv, x0⟩ := RInts.atK KI.out HRX.out (k := k) (by rw [rowOf_len, HEL.out]; omega)
                        injection hbo with hbo; injection hbo with hbo1 hbo2; subst hbo1 hbo2
                        rw [rowOf_at T (by rw [HEL.out]; omega)] at htv
                        injection htv with htv
                        rw [← htv, (HLT.out k (by omega)).2 (by have := HGDk.out; omega)] at x0
                        clear htv
                        generalize mxo (valL at_ T ⟨(t : Int), (k : Int)⟩) (base2 ps at_ n t k) arcs = sv at *
                        have hsv : (sv != sv) = false := by simp
                        have hdi : decide ((arcs.length : Int) < (arcs.length : Int)) = false := by simp
                        go_wp2
                        go_roundw
                        case rel => exact ⟨k + 1, by omega, by go_num, KI.out⟩
                        case measure => simp [intOf]; omega
                  · have hkg : 0 < k := by omega
                    have hxe : ((k : Int) - 1 == xa) = true := by simp; omega
                    have hs2 : IntKind.i64.wrap (n + s1.mn) = n + s1.mn := IntWalk.i64_in _ (by omega)
                    have hk1l : k - 1 < p.length := by omega
                    clear hk0 hxa
                    go_wp2
                    clear x0 q0 r0 hb3 hba hbx
                    go_loopw [22, 151] (fun vl vi wr => ∃ i : Nat, i ≤ arcs.length ∧ vi = .int .i64 (i : Int) ∧ vl = .int .i64 (mxo (valL at_ T ⟨(t : Int), (k : Int)⟩) (base2 ps at_ n t k) (arcs.take i)) ∧ KeepsAll w4 wr) (fun _ vi _ => arcs.length - (intOf vi).toNat)
                    case atStart => exact ⟨0, Nat.zero_le _, rfl, by rw [HBASE.out]; first | rfl | (congr 1; simp only [mxo, List.take_zero, List.foldl_nil]; omega), KK.out⟩
                    case round =>
                      obtain ⟨i, hi, rfl, rfl, hki⟩ := hrel
                      have KI := Lib.hid hki; clear hki
                      by_cases hlti : i < arcs.length
                      · obtain ⟨bA, oA, a, hbo, hbA, ha, c0, c1', c2', c3', c4'⟩ := RRArcs.atK KI.out RA.out hlti
                        subst hbo
                        obtain ⟨tf, kf, pf, hpf, hkf, hfe⟩ := HEND.out a (List.mem_of_getElem? ha)
                        have hwt := HWT.out a (List.mem_of_getElem? ha)
                        have htfl := getElem?_lt hpf
                        obtain ⟨bf, of, xf, hbo, hbf, hxf, y0⟩ := RInts.atK KI.out A4.out (k := tf) (by omega)
                        injection hbo with hbo; injection hbo with hbo1 hbo2; subst hbo1 hbo2
                        obtain ⟨bt, ot, rw_, At, ct, hbo, hbt, hrw, y1, hrr⟩ := RSS.atK KI.out RT4.out (k := tf) (by rw [tabOf_len]; exact htfl)
                        injection hbo with hbo; injection hbo with hbo1 hbo2; subst hbo1 hbo2
                        rw [tabOf_at T htfl] at hrw
                        injection hrw with hrw
                        subst hrw
                        have hcrr := hrr.caps
                        obtain ⟨bz, oz, tz, hbo, hbz, htz, y2⟩ := RInts.atK KI.out hrr (k := kf) (by rw [rowOf_len, lenAt_of hpf]; omega)
                        subst hbo
                        rw [rowOf_at T (by rw [lenAt_of hpf]; exact hkf)] at htz
                        injection htz with htz
                        subst htz
                        rw [rowOf_len, lenAt_of hpf] at y1 hcrr
                        have hbd := HBD.out ⟨(tf : Int), (kf : Int)⟩
                        have HVL : Hid (valL at_ T ⟨(t : Int), (k : Int)⟩ a = if a.to = ⟨(t : Int), (k : Int)⟩ ∧ ¬ (kf : Int) ≤ xf then some (T ⟨(tf : Int), (kf : Int)⟩ + a.wt) else none) := by
                          show valL _ _ _ _ = _
                          unfold valL doneR
                          rw [hfe, Int.toNat_natCast, nowAt_of hxf]
                          simp only [decide_eq_false_iff_not]
                        have HSN2 : Hid (mxo (valL at_ T ⟨(t : Int), (k : Int)⟩) (base2 ps at_ n t k) (arcs.take (i + 1)) = (valL at_ T ⟨(t : Int), (k : Int)⟩ a).elim (mxo (valL at_ T ⟨(t : Int), (k : Int)⟩) (base2 ps at_ n t k) (arcs.take i)) (max (mxo (valL at_ T ⟨(t : Int), (k : Int)⟩) (base2 ps at_ n t k) (arcs.take i)))) := by
                          show _ = _
                          rw [take_succ' ha, mxo_snoc]
                        generalize mxo (valL at_ T ⟨(t : Int), (k : Int)⟩) (base2 ps at_ n t k) (arcs.take i) = cur at *
                        generalize T ⟨(tf : Int), (kf : Int)⟩ = tz at y2 hbd HVL
                        rw [hfe] at c0 c1'
                        simp only [] at c0 c1'
                        have hkf2 : kf < pf.length + 1 := by omega
                        clear ha hpf hkf hfe hxf hrr
                        have hdi : decide ((i : Int) < (arcs.length : Int)) = true := by simp; omega
                        go_wp2
                        generalize hW6 : World.alloc wr _ = W6
                        have KW6 : KeepsAll wr W6 := by subst hW6; exact (Keeps.refl _ _).alloc _
                        have BA : Blk W6 wr.heap.size 57 #[.int .i64 (tf : Int), .int .i64 (kf : Int), .int .i64 a.to.tr, .int .i64 a.to.st, .int .i64 a.wt] := by subst hW6; exact Blk.new _ _ _
                        have a0 := BA.cell 0
                        have a1 := BA.cell 1
                        have a2 := BA.cell 2
                        have a3 := BA.cell 3
                        have a4 := BA.cell 4
                        simp at a0 a1 a2 a3 a4
                        have hza := BA.lt
                        replace y0 := KW6.cellK (p := ⟨ba, oa + tf, none⟩) hbf y0
                        replace y1 := KW6.cellK (p := ⟨b3, o3 + tf, none⟩) hbt y1
                        replace y2 := KW6.cellK (p := ⟨bz, oz + kf, none⟩) hbz y2
                        have K6 := Lib.hid (KI.out.tr KW6)
                        clear hW6 KW6 BA c0 c1' c2' c3' c4' hbA hbf hbt hbz
                        generalize wr.heap.size = za at *
                        by_cases g1 : a.to = ⟨(t : Int), (k : Int)⟩
                        · have g1' : a.to.tr = (t : Int) := by rw [g1]
                          have g1'' : a.to.st = (k : Int) := by rw [g1]
                          rw [g1'] at a2
                          rw [g1''] at a3
                          by_cases g2 : (kf : Int) ≤ xf
                          · have Q : Hid (mxo (valL at_ T ⟨(t : Int), (k : Int)⟩) (base2 ps at_ n t k) (arcs.take (i + 1)) = cur) := by show _ = _; rw [HSN2.out, HVL.out, if_neg (fun h => by have := h.2; omega)]; rfl
                            have g2' : decide ((kf : Int) > xf) = false := by simp; omega
                            clear g1 g1' g1'' g2 HVL HSN2
                            go_quiet (fail)
                            go_wp2
                            go_roundw
                            case rel => exact ⟨i + 1, by omega, by go_num, by rw [Q.out], K6.out.drewN _⟩
                            case measure => simp [intOf]; omega
                          · have Q : Hid (mxo (valL at_ T ⟨(t : Int), (k : Int)⟩) (base2 ps at_ n t k) (arcs.take (i + 1)) = max cur (tz + a.wt)) := by show _ = _; rw [HSN2.out, HVL.out, if_pos ⟨g1, by omega⟩]; rfl
                            have g2' : decide ((kf : Int) > xf) = true := by simp; omega
                            have hs1 : IntKind.i64.wrap (tz + a.wt) = tz + a.wt := IntWalk.i64_in _ (by omega)
                            clear g1 g1' g1'' g2 HVL HSN2
                            go_quiet (fail)
                            go_wp2
                            go_quiet (fail)
                            go_wp2
                            go_roundw
                            case rel => exact ⟨i + 1, by omega, by go_num, by rw [Q.out], K6.out.drewN _⟩
                            case measure => simp [intOf]; omega
                        · have Q : Hid (mxo (valL at_ T ⟨(t : Int), (k : Int)⟩) (base2 ps at_ n t k) (arcs.take (i + 1)) = cur) := by show _ = _; rw [HSN2.out, HVL.out, if_neg (fun h => g1 h.1)]; rfl
                          have g1n : ¬ (a.to.tr = (t : Int) ∧ a.to.st = (k : Int)) := fun h => g1 (Ref.eq_of h.1 h.2)
                          clear g1 HVL HSN2
                          by_cases g3 : a.to.tr = (t : Int)
                          · have g4 : ¬ a.to.st = (k : Int) := fun h => g1n ⟨g3, h⟩
                            have g4' : (a.to.st == (k : Int)) = false := by simpa using g4
                            rw [g3] at a2
                            clear g1n g3
                            go_quiet (fail)
                            go_wp2
                            go_roundw
                            case rel => exact ⟨i + 1, by omega, by go_num, by rw [Q.out], K6.out.drewN _⟩
                            case measure => simp [intOf]; omega
                          · have g3' : (a.to.tr == (t : Int)) = false := by simpa using g3
                            clear g1n
                            go_quiet (fail)
                            go_wp2
                            go_roundw
                            case rel => exact ⟨i + 1, by omega, by go_num, by rw [Q.out], K6.out.drewN _⟩
                            case measure => simp [intOf]; omega
                      · obtain rfl : i = arcs.length := by omega
                        rw [List.take_length]
                        obtain ⟨-, q0, -, -, hb3, -⟩ := HCELL.out wr KI.out
                        obtain ⟨bx', ox', tv, hbo, hbx, htv, x0⟩ := RInts.atK KI.out HRX.out (k := k) (by rw [rowOf_len, HEL.out]; omega)
                        injection hbo with hbo; injection hbo with hbo1 hbo2; subst hbo1 hbo2
                        rw [rowOf_at T (by rw [HEL.out]; omega)] at htv
                        injection htv with htv
                        rw [← htv, (HLT.out k (by omega)).2 (by have := HGDk.out; omega)] at x0
                        clear htv
                        generalize mxo (valL at_ T ⟨(t : Int), (k : Int)⟩) (base2 ps at_ n t k) arcs = sv at *
                        have hsv : (sv != sv) = false := by simp
                        have hdi : decide ((arcs.length : Int) < (arcs.length : Int)) = false := by simp
                        go_wp2
                        go_roundw
                        case rel => exact ⟨k + 1, by omega, by go_num, KI.out⟩
                        case measure => simp [intOf]; omega
                  · have hkg : 0 < k := by omega
                    have hxe : ((k : Int) - 1 == xa) = false := by simp; omega
                    clear hk0 hxa
                    go_wp2
                    clear x0 q0 r0 hb3 hba hbx
                    go_loopw [22, 151] (fun vl vi wr => ∃ i : Nat, i ≤ arcs.length ∧ vi = .int .i64 (i : Int) ∧ vl = .int .i64 (mxo (valL at_ T ⟨(t : Int), (k : Int)⟩) (base2 ps at_ n t k) (arcs.take i)) ∧ KeepsAll w4 wr) (fun _ vi _ => arcs.length - (intOf vi).toNat)
                    case atStart => exact ⟨0, Nat.zero_le _, rfl, by rw [HBASE.out]; first | rfl | (congr 1; simp only [mxo, List.take_zero, List.foldl_nil]; omega), KK.out⟩
                    case round =>
                      obtain ⟨i, hi, rfl, rfl, hki⟩ := hrel
                      have KI := Lib.hid hki; clear hki
                      by_cases hlti : i < arcs.length
                      · obtain ⟨bA, oA, a, hbo, hbA, ha, c0, c1', c2', c3', c4'⟩ := RRArcs.atK KI.out RA.out hlti
                        subst hbo
                        obtain ⟨tf, kf, pf, hpf, hkf, hfe⟩ := HEND.out a (List.mem_of_getElem? ha)
                        have hwt := HWT.out a (List.mem_of_getElem? ha)
                        have htfl := getElem?_lt hpf
                        obtain ⟨bf, of, xf, hbo, hbf, hxf, y0⟩ := RInts.atK KI.out A4.out (k := tf) (by omega)
                        injection hbo with hbo; injection hbo with hbo1 hbo2; subst hbo1 hbo2
                        obtain ⟨bt, ot, rw_, At, ct, hbo, hbt, hrw, y1, hrr⟩ := RSS.atK KI.out RT4.out (k := tf) (by rw [tabOf_len]; exact htfl)
                        injection hbo with hbo; injection hbo with hbo1 hbo2; subst hbo1 hbo2
                        rw [tabOf_at T htfl] at hrw
                        injection hrw with hrw
                        subst hrw
                        have hcrr := hrr.caps
                        obtain ⟨bz, oz, tz, hbo, hbz, htz, y2⟩ := RInts.atK KI.out hrr (k := kf) (by rw [rowOf_len, lenAt_of hpf]; omega)
                        subst hbo
                        rw [rowOf_at T (by rw [lenAt_of hpf]; exact hkf)] at htz
                        injection htz with htz
                        subst htz
                        rw [rowOf_len, lenAt_of hpf] at y1 hcrr
                        have hbd := HBD.out ⟨(tf : Int), (kf : Int)⟩
                        have HVL : Hid (valL at_ T ⟨(t : Int), (k : Int)⟩ a = if a.to = ⟨(t : Int), (k : Int)⟩ ∧ ¬ (kf : Int) ≤ xf then some (T ⟨(tf : Int), (kf : Int)⟩ + a.wt) else none) := by
                          show valL _ _ _ _ = _
                          unfold valL doneR
                          rw [hfe, Int.toNat_natCast, nowAt_of hxf]
                          simp only [decide_eq_false_iff_not]
                        have HSN2 : Hid (mxo (valL at_ T ⟨(t : Int), (k : Int)⟩) (base2 ps at_ n t k) (arcs.take (i + 1)) = (valL at_ T ⟨(t : Int), (k : Int)⟩ a).elim (mxo (valL at_ T ⟨(t : Int), (k : Int)⟩) (base2 ps at_ n t k) (arcs.take i)) (max (mxo (valL at_ T ⟨(t : Int), (k : Int)⟩) (base2 ps at_ n t k) (arcs.take i)))) := by
                          show _ = _
                          rw [take_succ' ha, mxo_snoc]
                        generalize mxo (valL at_ T ⟨(t : Int), (k : Int)⟩) (base2 ps at_ n t k) (arcs.take i) = cur at *
                        generalize T ⟨(tf : Int), (kf : Int)⟩ = tz at y2 hbd HVL
                        rw [hfe] at c0 c1'
                        simp only [] at c0 c1'
                        have hkf2 : kf < pf.length + 1 := by omega
                        clear ha hpf hkf hfe hxf hrr
                        have hdi : decide ((i : Int) < (arcs.length : Int)) = true := by simp; omega
                        go_wp2
                        generalize hW6 : World.alloc wr _ = W6
                        have KW6 : KeepsAll wr W6 := by subst hW6; exact (Keeps.refl _ _).alloc _
                        have BA : Blk W6 wr.heap.size 57 #[.int .i64 (tf : Int), .int .i64 (kf : Int), .int .i64 a.to.tr, .int .i64 a.to.st, .int .i64 a.wt] := by subst hW6; exact Blk.new _ _ _
                        have a0 := BA.cell 0
                        have a1 := BA.cell 1
                        have a2 := BA.cell 2
                        have a3 := BA.cell 3
                        have a4 := BA.cell 4
                        simp at a0 a1 a2 a3 a4
                        have hza := BA.lt
                        replace y0 := KW6.cellK (p := ⟨ba, oa + tf, none⟩) hbf y0
                        replace y1 := KW6.cellK (p := ⟨b3, o3 + tf, none⟩) hbt y1
                        replace y2 := KW6.cellK (p := ⟨bz, oz + kf, none⟩) hbz y2
                        have K6 := Lib.hid (KI.out.tr KW6)
                        clear hW6 KW6 BA c0 c1' c2' c3' c4' hbA hbf hbt hbz
                        generalize wr.heap.size = za at *
                        by_cases g1 : a.to = ⟨(t : Int), (k : Int)⟩
                        · have g1' : a.to.tr = (t : Int) := by rw [g1]
                          have g1'' : a.to.st = (k : Int) := by rw [g1]
                          rw [g1'] at a2
                          rw [g1''] at a3
                          by_cases g2 : (kf : Int) ≤ xf
                          · have Q : Hid (mxo (valL at_ T ⟨(t : Int), (k : Int)⟩) (base2 ps at_ n t k) (arcs.take (i + 1)) = cur) := by show _ = _; rw [HSN2.out, HVL.out, if_neg (fun h => by have := h.2; omega)]; rfl
                            have g2' : decide ((kf : Int) > xf) = false := by simp; omega
                            clear g1 g1' g1'' g2 HVL HSN2
                            go_quiet (fail)
                            go_wp2
                            go_roundw
                            case rel => exact ⟨i + 1, by omega, by go_num, by rw [Q.out], K6.out.drewN _⟩
                            case measure => simp [intOf]; omega
                          · have Q : Hid (mxo (valL at_ T ⟨(t : Int), (k : Int)⟩) (base2 ps at_ n t k) (arcs.take (i + 1)) = max cur (tz + a.wt)) := by show _ = _; rw [HSN2.out, HVL.out, if_pos ⟨g1, by omega⟩]; rfl
                            have g2' : decide ((kf : Int) > xf) = true := by simp; omega
                            have hs1 : IntKind.i64.wrap (tz + a.wt) = tz + a.wt := IntWalk.i64_in _ (by omega)
                            clear g1 g1' g1'' g2 HVL HSN2
                            go_quiet (fail)
                            go_wp2
                            go_quiet (fail)
                            go_wp2
                            go_roundw
                            case rel => exact ⟨i + 1, by omega, by go_num, by rw [Q.out], K6.out.drewN _⟩
                            case measure => simp [intOf]; omega
                        · have Q : Hid (mxo (valL at_ T ⟨(t : Int), (k : Int)⟩) (base2 ps at_ n t k) (arcs.take (i + 1)) = cur) := by show _ = _; rw [HSN2.out, HVL.out, if_neg (fun h => g1 h.1)]; rfl
                          have g1n : ¬ (a.to.tr = (t : Int) ∧ a.to.st = (k : Int)) := fun h => g1 (Ref.eq_of h.1 h.2)
                          clear g1 HVL HSN2
                          by_cases g3 : a.to.tr = (t : Int)
                          · have g4 : ¬ a.to.st = (k : Int) := fun h => g1n ⟨g3, h⟩
                            have g4' : (a.to.st == (k : Int)) = false := by simpa using g4
                            rw [g3] at a2
                            clear g1n g3
                            go_quiet (fail)
                            go_wp2
                            go_roundw
                            case rel => exact ⟨i + 1, by omega, by go_num, by rw [Q.out], K6.out.drewN _⟩
                            case measure => simp [intOf]; omega
                          · have g3' : (a.to.tr == (t : Int)) = false := by simpa using g3
                            clear g1n
                            go_quiet (fail)
                            go_wp2
                            go_roundw
                            case rel => exact ⟨i + 1, by omega, by go_num, by rw [Q.out], K6.out.drewN _⟩
                            case measure => simp [intOf]; omega
                      · obtain rfl : i = arcs.length := by omega
                        rw [List.take_length]
                        obtain ⟨-, q0, -, -, hb3, -⟩ := HCELL.out wr KI.out
                        obtain ⟨bx', ox', tv, hbo, hbx, htv, x0⟩ := RInts.atK KI.out HRX.out (k := k) (by rw [rowOf_len, HEL.out]; omega)
                        injection hbo with hbo; injection hbo with hbo1 hbo2; subst hbo1 hbo2
                        rw [rowOf_at T (by rw [HEL.out]; omega)] at htv
                        injection htv with htv
                        rw [← htv, (HLT.out k (by omega)).2 (by have := HGDk.out; omega)] at x0
                        clear htv
                        generalize mxo (valL at_ T ⟨(t : Int), (k : Int)⟩) (base2 ps at_ n t k) arcs = sv at *
                        have hsv : (sv != sv) = false := by simp
                        have hdi : decide ((arcs.length : Int) < (arcs.length : Int)) = false := by simp
                        go_wp2
                        go_roundw
                        case rel => exact ⟨k + 1, by omega, by go_num, KI.out⟩
                        case measure => simp [intOf]; omega
                  · have hkg : 0 < k := by omega
                    have hxe : ((k : Int) - 1 == xa) = true := by simp; omega
                    have hs2 : IntKind.i64.wrap (n + s1.mn) = n + s1.mn := IntWalk.i64_in _ (by omega)
                    have hk1l : k - 1 < p.length := by omega
                    have hkl : decide (k < p.length) = false := by simp; omega
                    clear hk0 hxa
                    go_wp2
                    clear x0 q0 r0 hb3 hba hbx
                    go_loopw [22, 151] (fun vl vi wr => ∃ i : Nat, i ≤ arcs.length ∧ vi = .int .i64 (i : Int) ∧ vl = .int .i64 (mxo (valL at_ T ⟨(t : Int), (k : Int)⟩) (base2 ps at_ n t k) (arcs.take i)) ∧ KeepsAll w4 wr) (fun _ vi _ => arcs.length - (intOf vi).toNat)
                    case atStart => exact ⟨0, Nat.zero_le _, rfl, by rw [HBASE.out]; first | rfl | (congr 1; simp only [mxo, List.take_zero, List.foldl_nil]; omega), KK.out⟩
                    case round =>
                      obtain ⟨i, hi, rfl, rfl, hki⟩ := hrel
                      have KI := Lib.hid hki; clear hki
                      by_cases hlti : i < arcs.length
                      · obtain ⟨bA, oA, a, hbo, hbA, ha, c0, c1', c2', c3', c4'⟩ := RRArcs.atK KI.out RA.out hlti
                        subst hbo
                        obtain ⟨tf, kf, pf, hpf, hkf, hfe⟩ := HEND.out a (List.mem_of_getElem? ha)
                        have hwt := HWT.out a (List.mem_of_getElem? ha)
                        have htfl := getElem?_lt hpf
                        obtain ⟨bf, of, xf, hbo, hbf, hxf, y0⟩ := RInts.atK KI.out A4.out (k := tf) (by omega)
                        injection hbo with hbo; injection hbo with hbo1 hbo2; subst hbo1 hbo2
                        obtain ⟨bt, ot, rw_, At, ct, hbo, hbt, hrw, y1, hrr⟩ := RSS.atK KI.out RT4.out (k := tf) (by rw [tabOf_len]; exact htfl)
                        injection hbo with hbo; injection hbo with hbo1 hbo2; subst hbo1 hbo2
                        rw [tabOf_at T htfl] at hrw
                        injection hrw with hrw
                        subst hrw
                        have hcrr := hrr.caps
                        obtain ⟨bz, oz, tz, hbo, hbz, htz, y2⟩ := RInts.atK KI.out hrr (k := kf) (by rw [rowOf_len, lenAt_of hpf]; omega)
                        subst hbo
                        rw [rowOf_at T (by rw [lenAt_of hpf]; exact hkf)] at htz
                        injection htz with htz
                        subst htz
                        rw [rowOf_len, lenAt_of hpf] at y1 hcrr
                        have hbd := HBD.out ⟨(tf : Int), (kf : Int)⟩
                        have HVL : Hid (valL at_ T ⟨(t : Int), (k : Int)⟩ a = if a.to = ⟨(t : Int), (k : Int)⟩ ∧ ¬ (kf : Int) ≤ xf then some (T ⟨(tf : Int), (kf : Int)⟩ + a.wt) else none) := by
                          show valL _ _ _ _ = _
                          unfold valL doneR
                          rw [hfe, Int.toNat_natCast, nowAt_of hxf]
                          simp only [decide_eq_false_iff_not]
                        have HSN2 : Hid (mxo (valL at_ T ⟨(t : Int), (k : Int)⟩) (base2 ps at_ n t k) (arcs.take (i + 1)) = (valL at_ T ⟨(t : Int), (k : Int)⟩ a).elim (mxo (valL at_ T ⟨(t : Int), (k : Int)⟩) (base2 ps at_ n t k) (arcs.take i)) (max (mxo (valL at_ T ⟨(t : Int), (k : Int)⟩) (base2 ps at_ n t k) (arcs.take i)))) := by
                          show _ = _
                          rw [take_succ' ha, mxo_snoc]
                        generalize mxo (valL at_ T ⟨(t : Int), (k : Int)⟩) (base2 ps at_ n t k) (arcs.take i) = cur at *
                        generalize T ⟨(tf : Int), (kf : Int)⟩ = tz at y2 hbd HVL
                        rw [hfe] at c0 c1'
                        simp only [] at c0 c1'
                        have hkf2 : kf < pf.length + 1 := by omega
                        clear ha hpf hkf hfe hxf hrr
                        have hdi : decide ((i : Int) < (arcs.length : Int)) = true := by simp; omega
                        go_wp2
                        generalize hW6 : World.alloc wr _ = W6
                        have KW6 : KeepsAll wr W6 := by subst hW6; exact (Keeps.refl _ _).alloc _
                        have BA : Blk W6 wr.heap.size 57 #[.int .i64 (tf : Int), .int .i64 (kf : Int), .int .i64 a.to.tr, .int .i64 a.to.st, .int .i64 a.wt] := by subst hW6; exact Blk.new _ _ _
                        have a0 := BA.cell 0
                        have a1 := BA.cell 1
                        have a2 := BA.cell 2
                        have a3 := BA.cell 3
                        have a4 := BA.cell 4
                        simp at a0 a1 a2 a3 a4
                        have hza := BA.lt
                        replace y0 := KW6.cellK (p := ⟨ba, oa + tf, none⟩) hbf y0
                        replace y1 := KW6.cellK (p := ⟨b3, o3 + tf, none⟩) hbt y1
                        replace y2 := KW6.cellK (p := ⟨bz, oz + kf, none⟩) hbz y2
                        have K6 := Lib.hid (KI.out.tr KW6)
                        clear hW6 KW6 BA c0 c1' c2' c3' c4' hbA hbf hbt hbz
                        generalize wr.heap.size = za at *
                        by_cases g1 : a.to = ⟨(t : Int), (k : Int)⟩
                        · have g1' : a.to.tr = (t : Int) := by rw [g1]
                          have g1'' : a.to.st = (k : Int) := by rw [g1]
                          rw [g1'] at a2
                          rw [g1''] at a3
                          by_cases g2 : (kf : Int) ≤ xf
                          · have Q : Hid (mxo (valL at_ T ⟨(t : Int), (k : Int)⟩) (base2 ps at_ n t k) (arcs.take (i + 1)) = cur) := by show _ = _; rw [HSN2.out, HVL.out, if_neg (fun h => by have := h.2; omega)]; rfl
                            have g2' : decide ((kf : Int) > xf) = false := by simp; omega
                            clear g1 g1' g1'' g2 HVL HSN2
                            go_quiet (fail)
                            go_wp2
                            go_roundw
                            case rel => exact ⟨i + 1, by omega, by go_num, by rw [Q.out], K6.out.drewN _⟩
                            case measure => simp [intOf]; omega
                          · have Q : Hid (mxo (valL at_ T ⟨(t : Int), (k : Int)⟩) (base2 ps at_ n t k) (arcs.take (i + 1)) = max cur (tz + a.wt)) := by show _ = _; rw [HSN2.out, HVL.out, if_pos ⟨g1, by omega⟩]; rfl
                            have g2' : decide ((kf : Int) > xf) = true := by simp; omega
                            have hs1 : IntKind.i64.wrap (tz + a.wt) = tz + a.wt := IntWalk.i64_in _ (by omega)
                            clear g1 g1' g1'' g2 HVL HSN2
                            go_quiet (fail)
                            go_wp2
                            go_quiet (fail)
                            go_wp2
                            go_roundw
                            case rel => exact ⟨i + 1, by omega, by go_num, by rw [Q.out], K6.out.drewN _⟩
                            case measure => simp [intOf]; omega
                        · have Q : Hid (mxo (valL at_ T ⟨(t : Int), (k : Int)⟩) (base2 ps at_ n t k) (arcs.take (i + 1)) = cur) := by show _ = _; rw [HSN2.out, HVL.out, if_neg (fun h => g1 h.1)]; rfl
                          have g1n : ¬ (a.to.tr = (t : Int) ∧ a.to.st = (k : Int)) := fun h => g1 (Ref.eq_of h.1 h.2)
                          clear g1 HVL HSN2
                          by_cases g3 : a.to.tr = (t : Int)
                          · have g4 : ¬ a.to.st = (k : Int) := fun h => g1n ⟨g3, h⟩
                            have g4' : (a.to.st == (k : Int)) = false := by simpa using g4
                            rw [g3] at a2
                            clear g1n g3
                            go_quiet (fail)
                            go_wp2
                            go_roundw
                            case rel => exact ⟨i + 1, by omega, by go_num, by rw [Q.out], K6.out.drewN _⟩
                            case measure => simp [intOf]; omega
                          · have g3' : (a.to.tr == (t : Int)) = false := by simpa using g3
                            clear g1n
                            go_quiet (fail)
                            go_wp2
                            go_roundw
                            case rel => exact ⟨i + 1, by omega, by go_num, by rw [Q.out], K6.out.drewN _⟩
                            case measure => simp [intOf]; omega
                      · obtain rfl : i = arcs.length := by omega
                        rw [List.take_length]
                        obtain ⟨-, q0, -, -, hb3, -⟩ := HCELL.out wr KI.out
                        obtain ⟨bx', ox', tv, hbo, hbx, htv, x0⟩ := RInts.atK KI.out HRX.out (k := k) (by rw [rowOf_len, HEL.out]; omega)
                        injection hbo with hbo; injection hbo with hbo1 hbo2; subst hbo1 hbo2
                        rw [rowOf_at T (by rw [HEL.out]; omega)] at htv
                        injection htv with htv
                        rw [← htv, (HLT.out k (by omega)).2 (by have := HGDk.out; omega)] at x0
                        clear htv
                        generalize mxo (valL at_ T ⟨(t : Int), (k : Int)⟩) (base2 ps at_ n t k) arcs = sv at *
                        have hsv : (sv != sv) = false := by simp
                        have hdi : decide ((arcs.length : Int) < (arcs.length : Int)) = false := by simp
                        go_wp2
                        go_roundw
                        case rel => exact ⟨k + 1, by omega, by go_num, KI.out⟩
                        case measure => simp [intOf]; omega
                  · have hkg : 0 < k := by omega
                    have hxe : ((k : Int) - 1 == xa) = false := by simp; omega
                    have hkl : decide (k < p.length) = false := by simp; omega
                    clear hk0 hxa
                    go_wp2
                    clear x0 q0 r0 hb3 hba hbx
                    go_loopw [22, 151] (fun vl vi wr => ∃ i : Nat, i ≤ arcs.length ∧ vi = .int .i64 (i : Int) ∧ vl = .int .i64 (mxo (valL at_ T ⟨(t : Int), (k : Int)⟩) (base2 ps at_ n t k) (arcs.take i)) ∧ KeepsAll w4 wr) (fun _ vi _ => arcs.length - (intOf vi).toNat)
                    case atStart => exact ⟨0, Nat.zero_le _, rfl, by rw [HBASE.out]; first | rfl | (congr 1; simp only [mxo, List.take_zero, List.foldl_nil]; omega), KK.out⟩
                    case round =>
                      obtain ⟨i, hi, rfl, rfl, hki⟩ := hrel
                      have KI := Lib.hid hki; clear hki
                      by_cases hlti : i < arcs.length
                      · obtain ⟨bA, oA, a, hbo, hbA, ha, c0, c1', c2', c3', c4'⟩ := RRArcs.atK KI.out RA.out hlti
                        subst hbo
                        obtain ⟨tf, kf, pf, hpf, hkf, hfe⟩ := HEND.out a (List.mem_of_getElem? ha)
                        have hwt := HWT.out a (List.mem_of_getElem? ha)
                        have htfl := getElem?_lt hpf
                        obtain ⟨bf, of, xf, hbo, hbf, hxf, y0⟩ := RInts.atK KI.out A4.out (k := tf) (by omega)
                        injection hbo with hbo; injection hbo with hbo1 hbo2; subst hbo1 hbo2
                        obtain ⟨bt, ot, rw_, At, ct, hbo, hbt, hrw, y1, hrr⟩ := RSS.atK KI.out RT4.out (k := tf) (by rw [tabOf_len]; exact htfl)
                        injection hbo with hbo; injection hbo with hbo1 hbo2; subst hbo1 hbo2
                        rw [tabOf_at T htfl] at hrw
                        injection hrw with hrw
                        subst hrw
                        have hcrr := hrr.caps
                        obtain ⟨bz, oz, tz, hbo, hbz, htz, y2⟩ := RInts.atK KI.out hrr (k := kf) (by rw [rowOf_len, lenAt_of hpf]; omega)
                        subst hbo
                        rw [rowOf_at T (by rw [lenAt_of hpf]; exact hkf)] at htz
                        injection htz with htz
                        subst htz
                        rw [rowOf_len, lenAt_of hpf] at y1 hcrr
                        have hbd := HBD.out ⟨(tf : Int), (kf : Int)⟩
                        have HVL : Hid (valL at_ T ⟨(t : Int), (k : Int)⟩ a = if a.to = ⟨(t : Int), (k : Int)⟩ ∧ ¬ (kf : Int) ≤ xf then some (T ⟨(tf : Int), (kf : Int)⟩ + a.wt) else none) := by
                          show valL _ _ _ _ = _
                          unfold valL doneR
                          rw [hfe, Int.toNat_natCast, nowAt_of hxf]
                          simp only [decide_eq_false_iff_not]
                        have HSN2 : Hid (mxo (valL at_ T ⟨(t : Int), (k : Int)⟩) (base2 ps at_ n t k) (arcs.take (i + 1)) = (valL at_ T ⟨(t : Int), (k : Int)⟩ a).elim (mxo (valL at_ T ⟨(t : Int), (k : Int)⟩) (base2 ps at_ n t k) (arcs.take i)) (max (mxo (valL at_ T ⟨(t : Int), (k : Int)⟩) (base2 ps at_ n t k) (arcs.take i)))) := by
                          show _ = _
                          rw [take_succ' ha, mxo_snoc]
                        generalize mxo (valL at_ T ⟨(t : Int), (k : Int)⟩) (base2 ps at_ n t k) (arcs.take i) = cur at *
                        generalize T ⟨(tf : Int), (kf : Int)⟩ = tz at y2 hbd HVL
                        rw [hfe] at c0 c1'
                        simp only [] at c0 c1'
                        have hkf2 : kf < pf.length + 1 := by omega
                        clear ha hpf hkf hfe hxf hrr
                        have hdi : decide ((i : Int) < (arcs.length : Int)) = true := by simp; omega
                        go_wp2
                        generalize hW6 : World.alloc wr _ = W6
                        have KW6 : KeepsAll wr W6 := by subst hW6; exact (Keeps.refl _ _).alloc _
                        have BA : Blk W6 wr.heap.size 57 #[.int .i64 (tf : Int), .int .i64 (kf : Int), .int .i64 a.to.tr, .int .i64 a.to.st, .int .i64 a.wt] := by subst hW6; exact Blk.new _ _ _
                        have a0 := BA.cell 0
                        have a1 := BA.cell 1
                        have a2 := BA.cell 2
                        have a3 := BA.cell 3
                        have a4 := BA.cell 4
                        simp at a0 a1 a2 a3 a4
                        have hza := BA.lt
                        replace y0 := KW6.cellK (p := ⟨ba, oa + tf, none⟩) hbf y0
                        replace y1 := KW6.cellK (p := ⟨b3, o3 + tf, none⟩) hbt y1
                        replace y2 := KW6.cellK (p := ⟨bz, oz + kf, none⟩) hbz y2
                        have K6 := Lib.hid (KI.out.tr KW6)
                        clear hW6 KW6 BA c0 c1' c2' c3' c4' hbA hbf hbt hbz
                        generalize wr.heap.size = za at *
                        by_cases g1 : a.to = ⟨(t : Int), (k : Int)⟩
                        · have g1' : a.to.tr = (t : Int) := by rw [g1]
                          have g1'' : a.to.st = (k : Int) := by rw [g1]
                          rw [g1'] at a2
                          rw [g1''] at a3
                          by_cases g2 : (kf : Int) ≤ xf
                          · have Q : Hid (mxo (valL at_ T ⟨(t : Int), (k : Int)⟩) (base2 ps at_ n t k) (arcs.take (i + 1)) = cur) := by show _ = _; rw [HSN2.out, HVL.out, if_neg (fun h => by have := h.2; omega)]; rfl
                            have g2' : decide ((kf : Int) > xf) = false := by simp; omega
                            clear g1 g1' g1'' g2 HVL HSN2
                            go_quiet (fail)
                            go_wp2
                            go_roundw
                            case rel => exact ⟨i + 1, by omega, by go_num, by rw [Q.out], K6.out.drewN _⟩
                            case measure => simp [intOf]; omega
                          · have Q : Hid (mxo (valL at_ T ⟨(t : Int), (k : Int)⟩) (base2 ps at_ n t k) (arcs.take (i + 1)) = max cur (tz + a.wt)) := by show _ = _; rw [HSN2.out, HVL.out, if_pos ⟨g1, by omega⟩]; rfl
                            have g2' : decide ((kf : Int) > xf) = true := by simp; omega
                            have hs1 : IntKind.i64.wrap (tz + a.wt) = tz + a.wt := IntWalk.i64_in _ (by omega)
                            clear g1 g1' g1'' g2 HVL HSN2
                            go_quiet (fail)
                            go_wp2
                            go_quiet (fail)
                            go_wp2
                            go_roundw
                            case rel => exact ⟨i + 1, by omega, by go_num, by rw [Q.out], K6.out.drewN _⟩
                            case measure => simp [intOf]; omega
                        · have Q : Hid (mxo (valL at_ T ⟨(t : Int), (k : Int)⟩) (base2 ps at_ n t k) (arcs.take (i + 1)) = cur) := by show _ = _; rw [HSN2.out, HVL.out, if_neg (fun h => g1 h.1)]; rfl
                          have g1n : ¬ (a.to.tr = (t : Int) ∧ a.to.st = (k : Int)) := fun h => g1 (Ref.eq_of h.1 h.2)
                          clear g1 HVL HSN2
                          by_cases g3 : a.to.tr = (t : Int)
                          · have g4 : ¬ a.to.st = (k : Int) := fun h => g1n ⟨g3, h⟩
                            have g4' : (a.to.st == (k : Int)) = false := by simpa using g4
                            rw [g3] at a2
                            clear g1n g3
                            go_quiet (fail)
                            go_wp2
                            go_roundw
                            case rel => exact ⟨i + 1, by omega, by go_num, by rw [Q.out], K6.out.drewN _⟩
                            case measure => simp [intOf]; omega
                          · have g3' : (a.to.tr == (t : Int)) = false := by simpa using g3
                            clear g1n
                            go_quiet (fail)
                            go_wp2
                            go_roundw
                            case rel => exact ⟨i + 1, by omega, by go_num, by rw [Q.out], K6.out.drewN _⟩
                            case measure => simp [intOf]; omega
                      · obtain rfl : i = arcs.length := by omega
                        rw [List.take_length]
                        obtain ⟨-, q0, -, -, hb3, -⟩ := HCELL.out wr KI.out
                        obtain ⟨bx', ox', tv, hbo, hbx, htv, x0⟩ := RInts.atK KI.out HRX.out (k := k) (by rw [rowOf_len, HEL.out]; omega)
                        injection hbo with hbo; injection hbo with hbo1 hbo2; subst hbo1 hbo2
                        rw [rowOf_at T (by rw [HEL.out]; omega)] at htv
                        injection htv with htv
                        rw [← htv, (HLT.out k (by omega)).2 (by have := HGDk.out; omega)] at x0
                        clear htv
                        generalize mxo (valL at_ T ⟨(t : Int), (k : Int)⟩) (base2 ps at_ n t k) arcs = sv at *
                        have hsv : (sv != sv) = false := by simp
                        have hdi : decide ((arcs.length : Int) < (arcs.length : Int)) = false := by simp
                        go_wp2
                        go_roundw
                        case rel => exact ⟨k + 1, by omega, by go_num, KI.out⟩
                        case measure => simp [intOf]; omega
              · obtain rfl : k = p.length + 1 := by omega
                have hdk : decide ((p.length : Int) + 1 < (p.length : Int) + 1) = false := by simp
                go_wp2
                go_roundw
                case rel => exact ⟨t + 1, by omega, by go_num, KK.out⟩
                case measure => simp [intOf]; omega
          · obtain rfl : t = ps.length := by omega
            have hdt : decide ((ps.length : Int) < (ps.length : Int)) = false := by simp
            go_wp2_with fail
            refine (awake35_any wr).mono ?_
            rintro e w6 ⟨rfl, k6⟩
            have K6 := Lib.hid (K4.out.tr (KT.out.tr k6)); clear k6
            go_wp2
            go_ret
            exact ⟨rfl, K6.out⟩
  · have g1' : okP ps os at_ = false := by simpa using g1
    have Q1 : Hid (lineP ps os at_ = ([], false)) := by show _ = _; unfold lineP; rw [hck, HGD.out, g1']; rfl
    have Q2 : Hid (timesP ps os at_ n = ([], 13)) := by show _ = _; unfold timesP; rw [hck, HGD.out, g1', hclk]; rfl
    rw [Q2.out]
    simp only []
    clear rt hck hv g1 g1' Q2
    go_wp2_with fail
    refine (RefLine_any ps os at_ B B2 B3 d d2 d3 w2 hps1 P2.out O2.out A2'.out).mono ?_
    rintro e w3 ⟨vl, rfl, rl, k3⟩
    rw [Q1.out]
    simp only []
    have K3 := Lib.hid (K2.out.tr k3)
    clear rl k3 K2 P2 O2 A2' Q1
    go_wp2_with fail
    refine (awake35_any w3).mono ?_
    rintro e w4 ⟨rfl, k4⟩
    have K4 := Lib.hid (K3.out.tr k4); clear k4
    go_wp2
    go_ret
    exact ⟨rfl, K4.out⟩

end Go.Proofs.Ytigmldildefdgaa
