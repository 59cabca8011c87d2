/- Contract of precedence.Times. Conditions: as the theorem says. -/
import Derived.Test.YtigmldildefdgaaTb
namespace Go.Proofs.Ytigmldildefdgaa
open Go.RowKit

theorem mkIntss (n : Nat) (hn : n ≤ 1000000) (W : World) : (Instr.makeSlice 61 (.int .i64 (n : Int)) (.int .i64 (n : Int))).run Try.prog W = .ok (.slice (some ⟨W.heap.size, 0, none⟩) n n) (W.alloc (.cells (List.replicate n (Value.slice none 0 0)).toArray 22)) := by
  have h := run_make_row' (P := Try.prog) 61 22 (.slice none 0 0) 24 Try.underlying61 (by kernel_rfl) rfl .i64 .i64 n (by omega) (by omega) W
  rw [madeCells_one] at h; exact h
def rowsC (ps : List (List Stage)) (gs : Nat → Nat) (m : Nat) : Array Value := ((List.range ps.length).map fun t => if t < m then slT ps gs t else .slice none 0 0).toArray
theorem rowsC_at (ps : List (List Stage)) (gs : Nat → Nat) (m : Nat) {t : Nat} (ht : t < ps.length) : (rowsC ps gs m)[t]? = some (if t < m then slT ps gs t else .slice none 0 0) := by
  simp [rowsC, ht]
theorem rowsC_size (ps : List (List Stage)) (gs : Nat → Nat) (m : Nat) : (rowsC ps gs m).size = ps.length := by simp [rowsC]
theorem rowsC_zero (ps : List (List Stage)) (gs : Nat → Nat) : rowsC ps gs 0 = (List.replicate ps.length (Value.slice none 0 0)).toArray := by
  apply Array.ext
  · simp [rowsC]
  · intro i h1 h2; simp [rowsC]
theorem rowsC_succ (ps : List (List Stage)) (gs : Nat → Nat) (m g : Nat) : (rowsC ps gs m).setIfInBounds m (.slice (some ⟨g, 0, none⟩) (lenAt ps m + 1) (lenAt ps m + 1)) = rowsC ps (gsAdd gs m g) (m + 1) := by
  apply Array.ext
  · simp [rowsC]
  · intro i h1 h2
    have hi : i < ps.length := by rw [rowsC_size] at h2; exact h2
    have e1 : ((rowsC ps gs m).setIfInBounds m (.slice (some ⟨g, 0, none⟩) (lenAt ps m + 1) (lenAt ps m + 1)))[i]? = (rowsC ps (gsAdd gs m g) (m + 1))[i]? := by
      rw [Array.getElem?_setIfInBounds, rowsC_at _ _ _ hi, rowsC_at _ _ _ hi]
      unfold slT gsAdd
      by_cases e : m = i
      · subst e; rw [if_pos rfl, if_pos (by rw [rowsC_size]; exact hi), if_pos (by omega), if_pos rfl]
      · rw [if_neg e]
        by_cases e2 : i < m
        · rw [if_pos e2, if_pos (by omega), if_neg (fun e' => e e'.symm)]
        · rw [if_neg e2, if_neg (by omega)]
    rw [Array.getElem?_eq_getElem h1, Array.getElem?_eq_getElem h2] at e1
    injection e1

theorem Tb.base {ps : List (List Stage)} {w w2 wr : World} {N m : Nat} {gs : Nat → Nat} {T : Tab} (h : Tb ps w2 wr N m gs T) (k : KeepsAll w w2) : Tb ps w wr N m gs T :=
  ⟨h.n, h.r, h.inj, fun t ht => Nat.le_trans k.size (h.lo t ht), Nat.le_trans k.size h.nlo, k.tr h.k⟩

set_option maxRecDepth 100000 in
set_option maxHeartbeats 4000000 in
theorem Times_tb (ps : List (List Stage)) (os : List Order) (at_ : List Int) (n : Int) (A A2 A3 : Option Addr) (c c2 c3 : Nat) (w : World) (h : RPaths w (Old w) [.slice A ps.length c] ps) (h2 : ROrders w (Old w) [.slice A2 os.length c2] os) (h3 : RInts w (Old w) [.slice A3 at_.length c3] at_) :
    Calls Try.prog 38 #[.slice A ps.length c, .slice A2 os.length c2, .slice A3 at_.length c3, .int .i64 n] w fun e w' => ∃ v, e = .returned (.tuple #[v, .int .i64 (timesP ps os at_ n).2]) ∧ RIntss w' (Old w') [v] (timesP ps os at_ n).1 ∧ KeepsAll w w' ∧ ((timesP ps os at_ n).2 = 0 → ∃ (N : Nat) (gs : Nat → Nat), v = .slice (some ⟨N, 0, none⟩) ps.length ps.length ∧ Tb ps w w' N ps.length gs (tabG ps os at_ n)) := by
  by_cases g1 : (checkO ps os && good ps at_) = true
  · have g2 := g1
    rw [Bool.and_eq_true] at g2
    obtain ⟨hck, hgd⟩ := g2
    have hG := good_Gd.1 hgd
    have hv := (checkO_facts hck).1
    have hc := h.caps
    have HN := Lib.hid (newGraph_yes ps os at_ A A2 A3 c c2 c3 w h h2 h3 hck hgd)
    have H := Lib.hid h
    have HV := Lib.hid hv
    have HGD := Lib.hid hG
    have hps10 := (valid_lens hv).1
    have HLEN := Lib.hid (fun t => lenAt_le hv t)
    by_cases g4 : isClk n = true
    · have hn : 0 ≤ n ∧ n ≤ 4194304 := by simpa [isClk] using g4
      have HCP : Hid (∀ W g, GrR W g ps at_ (gAdds ps os) → _) := fun W g hW => complete_any W g ps os at_ hck hG hW
      by_cases g3 : okP ps os at_ = true
      · have Q : Hid (timesP ps os at_ n = (tabOf ps (secs (stepG ps os at_ n) (fun _ => -1) (runP ps os at_).1), 0)) := by show _ = _; unfold timesP; rw [g1, g4, g3]; rfl
        have HTG : Hid (tabG ps os at_ n = secs (stepG ps os at_ n) (fun _ => -1) (runP ps os at_).1) := rfl
        have HFULL := Lib.hid (full_of hck hgd g3)
        have hrl := runP_len (os := os) hv hG
        have HBD := Lib.hid (fun L => tabG_bd hv os at_ hn L)
        have HWT := Lib.hid (fun u => rowG_wt hv os u)
        have HROW : Hid (∀ u, rowG ps os u = arcsAt (arcsOf (evs ps).length (gAdds ps os)) (num ps u)) := fun u => rfl
        have HIR := Lib.hid (gAdds_range hck)
        have hmk := mkIntss ps.length (by omega)
        clear h h2 h3 hgd hG hv hck g1
        go_enter Try.func38, Try.ntmps38
        go_wp2_with fail
        refine HN.out.mono ?_
        rintro e w1 ⟨g, rfl, hgr, k1⟩
        have K1 := Lib.hid k1
        have HGR := Lib.hid hgr
        clear k1 hgr HN
        go_wp2_with (go_at_call 81; refine (isClock_any _ _).mono ?_; rintro e w' ⟨rfl, rfl⟩; rw [g4])
        refine (HCP.out w1 g HGR.out).mono ?_
        rintro e w2 ⟨vl, rfl, rl, k2⟩
        rw [g3]
        have hLl : ((runP ps os at_).1.map (numI ps)).length = (runP ps os at_).1.length := by simp
        generalize (runP ps os at_).1 = L at *
        obtain ⟨Al, cl, rfl, hcl1, hcl2⟩ := rl.val
        rw [hLl] at hcl1 rl ⊢
        have RL := Lib.hid rl
        have K2 := Lib.hid (K1.out.tr k2)
        have HGR2 := Lib.hid (HGR.out.keep k2)
        have HP2 := Lib.hid (K2.out.rdo' RPaths.ok H.out)
        clear rl k2 HGR HCP g3 g4 K1 H hLl
        go_wp2
        generalize hW : World.alloc w2 _ = W
        have HT0 : Hid (Blk W w2.heap.size 22 (rowsC ps (fun _ => 0) 0)) := by subst hW; show Blk _ _ _ _; rw [rowsC_zero]; exact Blk.new _ _ _
        have KW : Hid (KeepsAll w2 W) := by subst hW; exact (Keeps.refl _ _).alloc _
        clear hW hmk
        generalize hNN : w2.heap.size = N at *
        have HNN := Lib.hid hNN; clear hNN
        go_loopw [50] (fun v wr => ∃ (m : Nat) (gs : Nat → Nat), m ≤ ps.length ∧ v = .int .i64 (m : Int) ∧ Tb ps w2 wr N m gs (fun _ => -1) ∧ Blk wr N 22 (rowsC ps gs m)) (fun v _ => ps.length - (intOf v).toNat)
        case atStart => exact ⟨0, fun _ => 0, Nat.zero_le _, rfl, ⟨⟨_, HT0.out, fun t ht => by omega⟩, fun t ht => by omega, fun t u ht => by omega, fun t ht => by omega, by rw [HNN.out]; exact Nat.le_refl _, KW.out⟩, HT0.out⟩
        case round =>
          obtain ⟨m, gs, hm, rfl, htb, hbn⟩ := hrel
          by_cases hlt : m < ps.length
          · obtain ⟨b, o, p, A', c', hbo, hb, hp, k1, hr⟩ := RSS.atK htb.k HP2.out hlt
            subst hbo
            have hcp := hr.caps
            have el := lenAt_of hp
            have hl64 := HLEN.out m
            have HTB := Lib.hid htb
            have HBN := Lib.hid hbn
            have hNl := hbn.lt
            rw [el] at hl64
            have HEL := Lib.hid el
            clear hr hp htb hbn el
            have hs1 : IntKind.i64.wrap ((p.length : Int) + 1) = (p.length : Int) + 1 := IntWalk.i64_in _ (by omega)
            have hdm : decide ((m : Int) < (ps.length : Int)) = true := by simp; omega
            go_wp2_with fail
            generalize hW3 : World.alloc wr _ = W3
            have KW3 : Hid (KeepsAll wr W3) := by subst hW3; exact (Keeps.refl _ _).alloc _
            have BX : Hid (Blk W3 wr.heap.size 3 #[.int .i64 (-1)]) := by subst hW3; exact Blk.new _ _ _
            have RP : Hid (Calls Try.prog 82 #[.slice (some ⟨wr.heap.size, 0, none⟩) 1 1, .int .i64 ((p.length : Int) + 1)] W3 fun e w' => ∃ g, e = .returned (.slice (some ⟨g, 0, none⟩) (p.length + 1) (p.length + 1)) ∧ W3.heap.size ≤ g ∧ Blk w' g 3 (cellsI (List.replicate (p.length + 1) (-1))) ∧ KeepsAll W3 w') := Repeat_one (-1) (p.length + 1) (by omega) (by omega) wr.heap.size W3 (by have := BX.out.cell 0; simpa using this) BX.out.lt
            clear hW3 k1 hb
            refine RP.out.mono ?_
            rintro e w4 ⟨g4, rfl, hg4, hb4, k4⟩
            have K4 := Lib.hid (KW3.out.tr k4)
            have BN4 := HBN.out.kept K4.out (by simp)
            have q0 := BN4.cell m
            have q1 := BN4.frozen m
            rw [rowsC_at _ _ _ hlt, if_neg (by omega)] at q0
            have hN4 := BN4.lt
            have HFIN : Hid (Tb ps w2 (w4.setCell ⟨N, m, none⟩ (.slice (some ⟨g4, 0, none⟩) (p.length + 1) (p.length + 1))) N (m + 1) (gsAdd gs m g4) (fun _ => -1) ∧ Blk (w4.setCell ⟨N, m, none⟩ (.slice (some ⟨g4, 0, none⟩) (p.length + 1) (p.length + 1))) N 22 (rowsC ps (gsAdd gs m g4) (m + 1))) := by
              have e := HEL.out
              have hz := KW3.out.size
              refine ⟨?_, ?_⟩
              · have q := HTB.out.add K4.out (g := g4) (by omega) (by rw [e]; exact hb4) BN4 (fun t ht => by rw [rowsC_at _ _ _ (by omega), if_pos ht]) (by rw [rowsC_size]; exact hlt)
                rw [e] at q; exact q
              · have q := BN4.set_ m (.slice (some ⟨g4, 0, none⟩) (p.length + 1) (p.length + 1))
                have q2 := rowsC_succ ps gs m g4
                rw [e] at q2
                rw [q2] at q; exact q
            clear BN4 hb4 k4 hg4 RP BX KW3 K4 HTB HBN HEL
            go_wp2
            go_roundw
            case rel => exact ⟨m + 1, _, by omega, by go_num, HFIN.out.1, HFIN.out.2⟩
            case measure => simp [intOf]; omega
          · obtain rfl : m = ps.length := by omega
            have HTB := Lib.hid htb
            clear htb hbn hlt hm HT0 KW
            obtain ⟨v0, v1, v2, v3, v4, hgb, hga⟩ := HGR2.out
            obtain ⟨A3', c3', rfl, hce1, hce2⟩ := hgb.re.val
            obtain ⟨A4', c4', rfl, hca1, hca2⟩ := hga.val
            rw [arcsOf_len] at hca1 hga hgb
            have HB := Lib.hid hgb
            have HA := Lib.hid hga
            clear hgb hga HGR2
            go_wp2
            go_loopw [66] (fun v wr => ∃ (j : Nat), j ≤ L.length ∧ v = .int .i64 (j : Int) ∧ Tb ps w2 wr N ps.length gs (secs (stepG ps os at_ n) (fun _ => -1) (L.take j))) (fun v _ => L.length - (intOf v).toNat)
            case atStart => exact ⟨0, Nat.zero_le _, rfl, by simpa [secs] using HTB.out⟩
            case round =>
              clear HTB
              obtain ⟨j, hj, rfl, htb⟩ := hrel
              have HTJ := Lib.hid htb
              have KJ := Lib.hid htb.k
              have hNz := htb.nlt
              clear htb
              by_cases hlt : j < L.length
              · have hu : L[j]? = some L[j] := List.getElem?_eq_getElem hlt
                obtain ⟨bl, ol, xl, hbo, hbl, hxl, l0⟩ := RInts.atK KJ.out RL.out (k := j) (by simpa using hlt)
                subst hbo
                rw [List.getElem?_map, hu] at hxl
                injection hxl with hxl
                have HSN : Hid (secs (stepG ps os at_ n) (fun _ => -1) (L.take (j + 1)) = upd (secs (stepG ps os at_ n) (fun _ => -1) (L.take j)) L[j] (mxo (valG ps at_ n (secs (stepG ps os at_ n) (fun _ => -1) (L.take j)) L[j]) (baseS ps n L[j]) (rowG ps os L[j]))) := by
                  show _ = _
                  rw [take_succ' hu, secs_snoc]; rfl
                have hbd := HBD.out (L.take j)
                have hlj : (L.take j).length = j := by simp; omega
                rw [hlj] at hbd
                have HBJ := Lib.hid hbd
                clear hbd hlj
                obtain ⟨t, k, p, hp, hk, hue⟩ := HFULL.out.ev L[j] (List.getElem_mem _)
                rw [hue] at hxl HSN
                generalize secs (stepG ps os at_ n) (fun _ => -1) (L.take j) = Tj at HTJ HSN HBJ
                have hnl := (evAt_num hp hk).2
                have hnum : num ps ⟨(t : Int), (k : Int)⟩ = fst ps t + k := by simp [num]
                have hxl2 : xl = ((fst ps t + k : Nat) : Int) := by rw [← hxl]; unfold numI; rw [hnum]
                subst hxl2
                rw [hnum] at hnl
                obtain ⟨be, oe, ue, hbo, hbe, hue2, n0, n1⟩ := RRefs.atK KJ.out HB.out.re (k := fst ps t + k) hnl
                subst hbo
                rw [evs_at hp hk] at hue2
                injection hue2 with hue2
                subst hue2
                simp only [] at n0 n1
                have htl := getElem?_lt hp
                obtain ⟨bp, op, p', Ap, cp, hbo, hbp, hp', p0, hpr⟩ := RSS.atK KJ.out HP2.out htl
                subst hbo
                obtain rfl := same_of hp' hp
                have hcpp := hpr.caps
                have hpl := HLEN.out t
                have hel := lenAt_of hp
                rw [hel] at hpl
                obtain ⟨ba, oa, row, Ar, cr, hbo, hba, hrow, a0, harc⟩ := RSS.atK KJ.out HA.out (k := fst ps t + k) (by rw [arcsOf_len]; exact hnl)
                subst hbo
                have hcr := harc.caps
                have HARC := Lib.hid harc
                have HRG : Hid (rowG ps os ⟨(t : Int), (k : Int)⟩ = row) := by
                  show _ = _
                  rw [HROW.out, hnum]; unfold arcsAt; rw [hrow]; rfl
                have HROWM : Hid (∀ a ∈ row, ∃ f : Nat, a.frm = (f : Int) ∧ f < (evs ps).length) := fun a ha => HIR.out _ ((mem_arcsOf hrow).1 ha)
                have HWTR : Hid (∀ a ∈ row, 0 ≤ a.wt ∧ a.wt ≤ 4194304) := fun a ha => HWT.out _ a (by rw [HRG.out]; exact ha)
                rw [HRG.out] at HSN
                have hgb := (HB.out.all KJ.out).b
                have e3 := hgb.cell 3
                have e4 := hgb.cell 4
                simp only [List.getElem?_toArray, List.getElem?_cons_succ, List.getElem?_cons_zero] at e3 e4
                have hgz := hgb.lt
                have hGl : fst ps t + k ≤ 1000000 := by
                  have := fst_le (fun p hp => ((valid_lens HV.out).2 p hp).2) t (by omega)
                  omega
                have HKL : Hid (k ≤ lenAt ps t) := by show _ ≤ _; rw [hel]; exact hk
                have HPQ := Lib.hid hp
                clear hgb hrow harc hp hp' hxl hue hu hnum hel
                generalize fst ps t + k = en at *
                have hdj : decide ((j : Int) < (L.length : Int)) = true := by simp; omega
                have hbase : (k < p'.length → ∀ s, p'[k]? = some s → baseS ps n ⟨(t : Int), (k : Int)⟩ = max n s.nt) ∧ (¬ k < p'.length → baseS ps n ⟨(t : Int), (k : Int)⟩ = n) := by
                  unfold baseS
                  simp only [Int.toNat_natCast, HPQ.out, Option.getD_some]
                  refine ⟨fun _ s hs => by rw [hs]; rfl, fun hn' => by rw [List.getElem?_eq_none (by omega)]; rfl⟩
                have HBS := Lib.hid hbase
                clear hbase
                have HGO : (∃ (b2 o2 : Nat) (s : Stage), Ap = some ⟨b2, o2, none⟩ ∧ b2 < wr.heap.size ∧ k < p'.length ∧ wr.cell? ⟨b2, o2 + k * 4 + 3, none⟩ = some (.int .i64 s.nt) ∧ n < s.nt ∧ Hid (baseS ps n ⟨(t : Int), (k : Int)⟩ = s.nt)) ∨ (∃ (b2 o2 : Nat) (s : Stage), Ap = some ⟨b2, o2, none⟩ ∧ b2 < wr.heap.size ∧ k < p'.length ∧ wr.cell? ⟨b2, o2 + k * 4 + 3, none⟩ = some (.int .i64 s.nt) ∧ ¬ n < s.nt ∧ Hid (baseS ps n ⟨(t : Int), (k : Int)⟩ = n)) ∨ (¬ k < p'.length ∧ Hid (baseS ps n ⟨(t : Int), (k : Int)⟩ = n)) := by
                  by_cases hkp : k < p'.length
                  · obtain ⟨b2, o2, s, As, cs, hbo, hb2, hs, m0, m1, m2, m3, hpts⟩ := RPath.atK KJ.out hpr hkp
                    have HB0 := HBS.out.1 hkp s hs
                    by_cases hmx : n < s.nt
                    · exact .inl ⟨b2, o2, s, hbo, hb2, hkp, m3, hmx, by show _ = _; rw [HB0]; omega⟩
                    · exact .inr (.inl ⟨b2, o2, s, hbo, hb2, hkp, m3, hmx, by show _ = _; rw [HB0]; omega⟩)
                  · exact .inr (.inr ⟨hkp, HBS.out.2 hkp⟩)
                clear hpr HBS
                rcases HGO with ⟨b2, o2, s, rfl, hb2, hkp, m3, hmx, HBASE⟩ | ⟨b2, o2, s, rfl, hb2, hkp, m3, hmx, HBASE⟩ | ⟨hkp, HBASE⟩
                all_goals (
                  go_wp2
                  generalize hW5 : World.alloc wr _ = W5
                  have KW5 : KeepsAll wr W5 := by subst hW5; exact (Keeps.refl _ _).alloc _
                  have BU : Hid (Blk W5 wr.heap.size 48 #[.int .i64 (t : Int), .int .i64 (k : Int)]) := by subst hW5; exact Blk.new _ _ _
                  have HT5 := Lib.hid (HTJ.out.keep KW5)
                  have K5 := Lib.hid (KJ.out.tr KW5)
                  clear hW5 l0 n0 n1 p0 a0 e3 e4 KW5 hbl hbe hbp hba hgz hNz
                  generalize wr.heap.size = zu at *
                  go_loopw [19, 104] (fun vs vi wr => ∃ i : Nat, i ≤ row.length ∧ vi = .int .i64 (i : Int) ∧ vs = .int .i64 (mxo (valG ps at_ n Tj ⟨(t : Int), (k : Int)⟩) (baseS ps n ⟨(t : Int), (k : Int)⟩) (row.take i)) ∧ KeepsAll W5 wr) (fun _ vi _ => row.length - (intOf vi).toNat)
                  case atStart => exact ⟨0, Nat.zero_le _, rfl, by rw [HBASE.out]; rfl, Keeps.refl _ _⟩
                  case round =>
                    obtain ⟨i, hi, rfl, rfl, hki⟩ := hrel
                    have KI := Lib.hid (K5.out.tr hki)
                    have HTI := Lib.hid (HT5.out.keep hki)
                    have BUI := Lib.hid (BU.out.kept hki (by simp))
                    have K5I := Lib.hid hki
                    clear hki
                    by_cases hlti : i < row.length
                    · obtain ⟨b, o, a, hbo, hb, haa, m0, m1⟩ := RArcs.atK KI.out HARC.out hlti
                      subst hbo
                      obtain ⟨f, hf, hfl⟩ := HROWM.out a (List.mem_of_getElem? haa)
                      have hwt := HWTR.out a (List.mem_of_getElem? haa)
                      obtain ⟨tf, kf, pf, _, hpf, hkf, hfe⟩ := evs_inv ps.length (Nat.le_refl _) (i := f) (by rw [fst_len]; exact hfl)
                      have hev : (evs ps)[f]? = some ⟨(tf : Int), (kf : Int)⟩ := by rw [hfe]; exact evs_at hpf hkf
                      obtain ⟨be2, oe2, ue2, hbo, hbe2, hue2, n0, n1⟩ := RRefs.atK KI.out HB.out.re (k := f) hfl
                      injection hbo with hbo; injection hbo with hbo1 hbo2; subst hbo1 hbo2
                      rw [hev] at hue2; injection hue2 with hue2; subst hue2
                      simp only [] at n0 n1
                      have hea : evAt ps f = ⟨(tf : Int), (kf : Int)⟩ := by simp [evAt, hev]
                      have HEA := Lib.hid hea
                      have HVG : Hid (valG ps at_ n Tj ⟨(t : Int), (k : Int)⟩ a = if doneR at_ ⟨(tf : Int), (kf : Int)⟩ = false then some (Tj ⟨(tf : Int), (kf : Int)⟩ + a.wt) else if (tf : Int) = (t : Int) then some (n + a.wt) else none) := by
                        show valG _ _ _ _ _ _ = _
                        unfold valG
                        rw [hf, Int.toNat_natCast, hea]
                      have HSN2 : Hid (mxo (valG ps at_ n Tj ⟨(t : Int), (k : Int)⟩) (baseS ps n ⟨(t : Int), (k : Int)⟩) (row.take (i + 1)) = (valG ps at_ n Tj ⟨(t : Int), (k : Int)⟩ a).elim (mxo (valG ps at_ n Tj ⟨(t : Int), (k : Int)⟩) (baseS ps n ⟨(t : Int), (k : Int)⟩) (row.take i)) (max (mxo (valG ps at_ n Tj ⟨(t : Int), (k : Int)⟩) (baseS ps n ⟨(t : Int), (k : Int)⟩) (row.take i)))) := by
                        show _ = _
                        rw [take_succ' haa, mxo_snoc]
                      generalize mxo (valG ps at_ n Tj ⟨(t : Int), (k : Int)⟩) (baseS ps n ⟨(t : Int), (k : Int)⟩) (row.take i) = cur at *
                      have htfl := getElem?_lt hpf
                      have hlf : lenAt ps tf = pf.length := lenAt_of hpf
                      have hkfl : kf ≤ lenAt ps tf := by omega
                      have htj := HBJ.out ⟨(tf : Int), (kf : Int)⟩
                      have hgb := (HB.out.all KI.out).b
                      have e3 := hgb.cell 3
                      simp only [List.getElem?_toArray, List.getElem?_cons_succ, List.getElem?_cons_zero] at e3
                      have hgz := hgb.lt
                      rw [hf] at m0
                      clear haa hf hfe hpf hev hea hgb hlf
                      have hdi : decide ((i : Int) < (row.length : Int)) = true := by simp; omega
                      go_wp2
                      generalize hW6 : World.alloc wr _ = W6
                      have KW6 : KeepsAll wr W6 := by subst hW6; exact (Keeps.refl _ _).alloc _
                      have BA : Hid (Blk W6 wr.heap.size 119 #[.int .i64 (f : Int), .int .i64 a.wt]) := by subst hW6; exact Blk.new _ _ _
                      replace e3 := KW6.cellK (p := ⟨g, 3, none⟩) hgz e3
                      replace n0 := KW6.cellK (p := ⟨be, oe + f * 2, none⟩) hbe2 n0
                      replace n1 := KW6.cellK (p := ⟨be, oe + f * 2 + 1, none⟩) hbe2 n1
                      have q0 := BA.out.cell 0
                      simp at q0
                      have hza := BA.out.lt
                      have K6 := Lib.hid (KI.out.tr KW6)
                      have HT6 := Lib.hid (HTI.out.keep KW6)
                      have BU6 := Lib.hid (BUI.out.kept KW6 (by simp))
                      have K56 := Lib.hid (K5I.out.tr KW6)
                      clear hW6 KW6 m0 m1 hb hbe2 hgz KI HTI BUI K5I
                      generalize wr.heap.size = za at *
                      refine wp_region_lex (fun w' => ∃ x : Ext W6, w' = x.val) [0, 1, 2, 3, 4, 5, 6, 7, 8, 9] (by kernel_rfl) (by kernel_rfl) ⟨⟨_, (Keeps.refl _ _).drew⟩, rfl⟩ ?_
                      have x3 := Ext.cell e3
                      have x0 := Ext.cell n0
                      have x1 := Ext.cell n1
                      have xa := Ext.cell q0
                      refine lex_q _ rfl rfl rfl ?_; go_big_quiet_step (fail); refine wpQuiet_nil ?_
                      refine lex_nil _ rfl _ rfl rfl _ rfl ?_; go_simp
                      iterate 6 (refine lex_q _ rfl rfl rfl ?_; go_big_quiet_step (fail); refine wpQuiet_nil ?_)
                      refine lex_a _ rfl rfl true (by kernel_rfl) ?_
                      go_wp2
                      refine ⟨fun _ => ⟨⟨_, ((Keeps.refl _ _).alloc _).drew⟩, rfl⟩, ?_⟩
                      generalize hW7 : World.drew (World.alloc W6 _) = W7
                      have KW7 : KeepsAll W6 W7 := by subst hW7; exact ((Keeps.refl _ _).alloc _).drew
                      have B7 : Blk W7 W6.heap.size 48 #[.int .i64 0, .int .i64 0] := by subst hW7; exact Blk.new _ _ _
                      have c0 := B7.cell 0
                      have c1 := B7.cell 1
                      have c2 := B7.frozen 0
                      have c3 := B7.frozen 1
                      simp at c0 c1
                      have hz7 := B7.lt
                      have HB7 := Lib.hid B7
                      have HK7 := Lib.hid KW7
                      clear hW7 KW7 B7
                      refine lex_a _ rfl rfl false (by kernel_rfl) ?_
                      go_wp2
                      refine ⟨fun h => (by cases h), ?_⟩
                      generalize hW8 : World.setCell (World.setCell W7 _ _) _ _ = W8
                      have BF : Hid (Blk W8 W6.heap.size 48 #[.int .i64 (tf : Int), .int .i64 (kf : Int)]) := by subst hW8; show Blk _ _ _ _; simpa using (HB7.out.set_ 0 (.int .i64 (tf : Int))).set_ 1 (.int .i64 (kf : Int))
                      have KW8 : KeepsAll W6 W8 := by subst hW8; exact (HK7.out.setCell (fun h => absurd h (by simp)) _).setCell (fun h => absurd h (by simp)) _
                      have K8 := Lib.hid (K6.out.tr KW8)
                      have HT8 := Lib.hid (HT6.out.keep KW8)
                      have K58 := Lib.hid (K56.out.tr KW8)
                      have o0 := HT8.out.outer htfl
                      have o1 := HT8.out.inner htfl hkfl
                      unfold slT at o0
                      have f0 := BF.out.cell 0
                      have f1 := BF.out.cell 1
                      have BA8 := BA.out.kept KW8 (by simp)
                      have BU8 := BU6.out.kept KW8 (by simp)
                      have q0 := BA8.cell 0
                      have q1 := BA8.cell 1
                      have u0 := BU8.cell 0
                      simp at f0 f1 q0 q1 u0
                      have hzf := BF.out.lt
                      have hza8 := BA8.lt
                      have hzu8 := BU8.lt
                      have hN8 := HT8.out.nlt
                      have HH : Hid (Calls Try.prog 83 #[.pointer (some ⟨g, 0, none⟩), .int .i64 (f : Int)] W8 fun e w' => e = .returned (.bool (doneR at_ ⟨(tf : Int), (kf : Int)⟩)) ∧ ∃ n, w' = W8.drewN n) := by
                        have q := happenedE W8 g ps at_ _ _ _ _ _ (HB.out.all K8.out) HGD.out f hfl
                        rw [HEA.out] at q; exact q
                      clear hW8 KW8 BA8 BU8 x0 x1 x3 xa e3 n0 n1 c0 c1 c2 c3 hz7 HB7 HK7 BF
                      generalize W6.heap.size = zf at *
                      refine (by assumption : ∀ (a : Act) (w : World), Code.wp Try.prog (Code.block 6 _) _ a w → _) _ _ ?_
                      go_wp2_with fail
                      refine HH.out.mono ?_
                      rintro e w9 ⟨rfl, n9, rfl⟩
                      cases hd : doneR at_ ⟨(tf : Int), (kf : Int)⟩ with
                      | false =>
                        have hs1 : IntKind.i64.wrap (Tj ⟨(tf : Int), (kf : Int)⟩ + a.wt) = Tj ⟨(tf : Int), (kf : Int)⟩ + a.wt := IntWalk.i64_in _ (by omega)
                        have HV2 : Hid (valG ps at_ n Tj ⟨(t : Int), (k : Int)⟩ a = some (Tj ⟨(tf : Int), (kf : Int)⟩ + a.wt)) := by show _ = _; rw [HVG.out, if_pos hd]
                        have hkf2 : kf < lenAt ps tf + 1 := by omega
                        clear hd HVG HH
                        generalize Tj ⟨(tf : Int), (kf : Int)⟩ = tv at *
                        by_cases hm : cur < tv + a.wt
                        · have Q : Hid (mxo (valG ps at_ n Tj ⟨(t : Int), (k : Int)⟩) (baseS ps n ⟨(t : Int), (k : Int)⟩) (row.take (i + 1)) = tv + a.wt) := by show _ = _; rw [HSN2.out, HV2.out]; simp only [Option.elim_some]; omega
                          clear HSN2 HV2
                          go_wp2
                          go_quiet (fail)
                          go_wp2
                          go_roundw
                          case rel => exact ⟨i + 1, by omega, by go_num, by rw [Q.out], K58.out.drewN _⟩
                          case measure => simp [intOf]; omega
                        · have Q : Hid (mxo (valG ps at_ n Tj ⟨(t : Int), (k : Int)⟩) (baseS ps n ⟨(t : Int), (k : Int)⟩) (row.take (i + 1)) = cur) := by show _ = _; rw [HSN2.out, HV2.out]; simp only [Option.elim_some]; omega
                          clear HSN2 HV2
                          go_wp2
                          go_quiet (fail)
                          go_wp2
                          go_roundw
                          case rel => exact ⟨i + 1, by omega, by go_num, by rw [Q.out], K58.out.drewN _⟩
                          case measure => simp [intOf]; omega
                      | true =>
                        by_cases htt : (tf : Int) = (t : Int)
                        · have hs1 : IntKind.i64.wrap (n + a.wt) = n + a.wt := IntWalk.i64_in _ (by omega)
                          have HV2 : Hid (valG ps at_ n Tj ⟨(t : Int), (k : Int)⟩ a = some (n + a.wt)) := by show _ = _; rw [HVG.out, if_neg (by rw [hd]; simp), if_pos htt]
                          have htt' : ((tf : Int) == (t : Int)) = true := by simpa using htt
                          clear hd HVG HH htt
                          by_cases hm : cur < n + a.wt
                          · have Q : Hid (mxo (valG ps at_ n Tj ⟨(t : Int), (k : Int)⟩) (baseS ps n ⟨(t : Int), (k : Int)⟩) (row.take (i + 1)) = n + a.wt) := by show _ = _; rw [HSN2.out, HV2.out]; simp only [Option.elim_some]; omega
                            clear HSN2 HV2
                            go_wp2
                            go_roundw
                            case rel => exact ⟨i + 1, by omega, by go_num, by rw [Q.out], K58.out.drewN _⟩
                            case measure => simp [intOf]; omega
                          · have Q : Hid (mxo (valG ps at_ n Tj ⟨(t : Int), (k : Int)⟩) (baseS ps n ⟨(t : Int), (k : Int)⟩) (row.take (i + 1)) = cur) := by show _ = _; rw [HSN2.out, HV2.out]; simp only [Option.elim_some]; omega
                            clear HSN2 HV2
                            go_wp2
                            go_roundw
                            case rel => exact ⟨i + 1, by omega, by go_num, by rw [Q.out], K58.out.drewN _⟩
                            case measure => simp [intOf]; omega
                        · have HV2 : Hid (valG ps at_ n Tj ⟨(t : Int), (k : Int)⟩ a = none) := by show _ = _; rw [HVG.out, if_neg (by rw [hd]; simp), if_neg htt]
                          have Q : Hid (mxo (valG ps at_ n Tj ⟨(t : Int), (k : Int)⟩) (baseS ps n ⟨(t : Int), (k : Int)⟩) (row.take (i + 1)) = cur) := by show _ = _; rw [HSN2.out, HV2.out]; rfl
                          have htt' : ((tf : Int) == (t : Int)) = false := by simpa using htt
                          clear hd HVG HH HSN2 HV2 htt
                          go_wp2
                          go_roundw
                          case rel => exact ⟨i + 1, by omega, by go_num, by rw [Q.out], K58.out.drewN _⟩
                          case measure => simp [intOf]; omega
                    · obtain rfl : i = row.length := by omega
                      rw [List.take_length]
                      generalize mxo (valG ps at_ n Tj ⟨(t : Int), (k : Int)⟩) (baseS ps n ⟨(t : Int), (k : Int)⟩) row = sv at *
                      have o0 := HTI.out.outer htl
                      have o1 := HTI.out.inner htl HKL.out
                      have o2 := (HTI.out.r t htl).frozen k
                      have hog := (HTI.out.r t htl).lt
                      unfold slT at o0
                      have u0 := BUI.out.cell 0
                      have u1 := BUI.out.cell 1
                      simp at u0 u1
                      have hzu8 := BUI.out.lt
                      have hN8 := HTI.out.nlt
                      have hkl2 : k < lenAt ps t + 1 := by have := HKL.out; omega
                      have HTN : Hid (Tb ps w2 (wr.drew.setCell ⟨gs t, k, none⟩ (.int .i64 sv)) N ps.length gs (upd Tj ⟨(t : Int), (k : Int)⟩ sv)) := (HTI.out.keep ((Keeps.refl _ _).drew)).set htl sv
                      have hdi : decide ((row.length : Int) < (row.length : Int)) = false := by simp
                      go_wp2
                      refine wp_region_lex (fun w' => ∃ x : Ext wr, w' = x.val) [0, 1, 2, 3, 4, 5, 6, 7, 8, 9] (by kernel_rfl) (by kernel_rfl) ⟨⟨_, (Keeps.refl _ _).drew⟩, rfl⟩ ?_
                      have x0 := Ext.cell o0
                      have x1 := Ext.cell u0
                      have x2 := Ext.cell u1
                      iterate 9 (refine lex_q _ rfl rfl rfl ?_; go_big_quiet_step (fail); refine wpQuiet_nil ?_)
                      refine lex_a _ rfl rfl false (by kernel_rfl) ?_
                      go_wp2
                      refine ⟨fun h => (by cases h), ?_⟩
                      refine (by assumption : ∀ (a : Act) (w : World), Code.wp Try.prog (Code.region 31 _ _) _ a w → _) _ _ ?_
                      clear x0 x1 x2
                      go_wp2
                      go_roundw
                      case rel => exact ⟨j + 1, by omega, by go_num, by rw [HSN.out]; exact HTN.out⟩
                      case measure => simp [intOf]; omega)
              · obtain rfl : j = L.length := by omega
                rw [List.take_length] at HTJ
                have HRD := Lib.hid (HTJ.out.read (c := ps.length) (Nat.le_refl _) (by omega) (fun t => by have := HLEN.out t; omega))
                have hdj : decide ((L.length : Int) < (L.length : Int)) = false := by simp
                go_wp2
                go_ret2
                rw [Q.out]
                exact ⟨_, rfl, HRD.out, K2.out.tr KJ.out, fun _ => ⟨_, _, rfl, by rw [HTG.out]; exact Tb.base HTJ.out K2.out⟩⟩
      · have g3' : okP ps os at_ = false := by simpa using g3
        have Q : Hid (timesP ps os at_ n = ([], 13)) := by show _ = _; unfold timesP; rw [g1, g4, g3']; rfl
        clear h h2 h3 hgd hG hv hck g1
        go_enter Try.func38, Try.ntmps38
        go_wp2_with fail
        refine HN.out.mono ?_
        rintro e w1 ⟨g, rfl, hgr, k1⟩
        have K1 := Lib.hid k1
        have HGR := Lib.hid hgr
        clear k1 hgr HN
        go_wp2_with (go_at_call 81; refine (isClock_any _ _).mono ?_; rintro e w' ⟨rfl, rfl⟩; rw [g4])
        refine (HCP.out w1 g HGR.out).mono ?_
        rintro e w2 ⟨vl, rfl, rl, k2⟩
        rw [g3']
        have K2 := Lib.hid (K1.out.tr k2)
        clear rl k2 g3 g3'
        go_wp2
        go_ret2
        rw [Q.out]
        exact ⟨_, rfl, RSlice.mkNil, K2.out, fun h => by simp at h⟩
    · have g4' : isClk n = false := by simpa using g4
      have Q : Hid (timesP ps os at_ n = ([], 1)) := by show _ = _; unfold timesP; rw [g1, g4']; rfl
      clear h h2 h3 hgd hG hv hck g1
      go_enter Try.func38, Try.ntmps38
      go_wp2_with fail
      refine HN.out.mono ?_
      rintro e w1 ⟨g, rfl, hgr, k1⟩
      have K1 := Lib.hid k1
      clear k1 hgr HN
      go_wp2_with (go_at_call 81; refine (isClock_any _ _).mono ?_; rintro e w' ⟨rfl, rfl⟩; rw [g4'])
      go_ret2
      rw [Q.out]
      exact ⟨_, rfl, RSlice.mkNil, K1.out, fun h => by simp at h⟩
  · have g1' : (checkO ps os && good ps at_) = false := by simpa using g1
    have Q : Hid (timesP ps os at_ n = ([], 1)) := by show _ = _; unfold timesP; rw [g1']; rfl
    have HN := Lib.hid (newGraph_no ps os at_ A A2 A3 c c2 c3 w h h2 h3 g1')
    clear h h2 h3 g1 g1'
    go_enter Try.func38, Try.ntmps38
    go_wp2_with fail
    refine HN.out.mono ?_
    rintro e w1 ⟨rfl, k1⟩
    have K1 := Lib.hid k1; clear k1
    go_wp2
    go_ret2
    rw [Q.out]
    exact ⟨_, rfl, RSlice.mkNil, K1.out, fun h => by simp at h⟩

theorem Times_any (ps : List (List Stage)) (os : List Order) (at_ : List Int) (n : Int) (A A2 A3 : Option Addr) (c c2 c3 : Nat) (w : World) (h : RPaths w (Old w) [.slice A ps.length c] ps) (h2 : ROrders w (Old w) [.slice A2 os.length c2] os) (h3 : RInts w (Old w) [.slice A3 at_.length c3] at_) :
    Calls Try.prog 38 #[.slice A ps.length c, .slice A2 os.length c2, .slice A3 at_.length c3, .int .i64 n] w fun e w' => ∃ v, e = .returned (.tuple #[v, .int .i64 (timesP ps os at_ n).2]) ∧ RIntss w' (Old w') [v] (timesP ps os at_ n).1 ∧ KeepsAll w w' := by
  refine (Times_tb ps os at_ n A A2 A3 c c2 c3 w h h2 h3).mono ?_
  rintro e w' ⟨v, h1, h2, h3, _⟩
  exact ⟨v, h1, h2, h3⟩

end Go.Proofs.Ytigmldildefdgaa
