/- The statement PrecedenceUsed: its function returns true. No condition beyond the arguments' reading. -/
import Derived.Test.YtigmldildefdgaaUsedP
import Derived.Test.YtigmldildefdgaaChg
namespace Go.Proofs.Ytigmldildefdgaa
open Go.RowKit

theorem OwnL.setI {t : Nat} {w : World} {base lo : Nat} {g n c : Nat} {l : List Int} (h : OwnL t 1 RInt w base lo (.slice (some ⟨g, 0, none⟩) n c) l) (i : Nat) (x : Int) : OwnL t 1 RInt (w.setCell ⟨g, i, none⟩ (.int .i64 x)) base lo (.slice (some ⟨g, 0, none⟩) n c) (l.set i x) := by
  obtain ⟨ess, h1, h2, h3⟩ := h
  have hess : ess = l.map fun y => [Value.int .i64 y] := by
    apply List.ext_getElem?
    intro j
    rw [List.getElem?_map]
    cases e : l[j]? with
    | none =>
      have : ess[j]? = none := List.getElem?_eq_none (by have := List.getElem?_eq_none_iff.1 e; omega)
      rw [this]; rfl
    | some y =>
      obtain ⟨es, e1, _, e3⟩ := h3 j y e
      rw [e1]; cases e3; rfl
  subst hess
  refine ⟨(l.set i x).map fun y => [Value.int .i64 y], by simp, ?_, fun j y hy => ⟨[.int .i64 y], by rw [List.getElem?_map, hy]; rfl, rfl, rfl⟩⟩
  have hfl : ∀ m : List Int, (m.map fun y => [Value.int .i64 y]).flatten = m.map (Value.int .i64) := by
    intro m
    induction m with
    | nil => rfl
    | cons a m ih => simp only [List.map_cons, List.flatten_cons, List.singleton_append]; rw [ih]
  rw [hfl] at h2 ⊢
  rcases h2.2 with ⟨e, _⟩ | ⟨g', cap, cur, e, hb, hh, hnc, hcm, hcs, htk⟩
  · cases e
  · injection e with e1 e2 e3
    injection e1 with e1; injection e1 with e1
    subst e1
    refine ⟨by simp, .inr ⟨g, cap, cur.setIfInBounds i (.int .i64 x), by rw [e2, e3, List.length_set], hb, ?_, by rw [List.length_set]; exact hnc, hcm, by simpa using hcs, ?_⟩⟩
    · have hB : Blk w g t cur := hh
      exact hB.set_ i _
    · rw [Array.toList_setIfInBounds, List.map_set, ← htk, List.length_set]
      rw [List.take_set]
theorem OwnL.frz {α : Type} {t size : Nat} {E : Rd α} {w : World} {base lo : Nat} {g o n c : Nat} {l : List α} (h : OwnL t size E w base lo (.slice (some ⟨g, o, none⟩) n c) l) (i : Nat) : w.frozen? ⟨g, i, none⟩ = false := by
  obtain ⟨ess, h1, h2, h3⟩ := h
  rcases h2.2 with ⟨e, _⟩ | ⟨g', cap, cur, e, hb, hh, _⟩
  · cases e
  · injection e with e1; injection e1 with e1; injection e1 with e1; subst e1
    exact Blk.frozen (t := t) (cs := cur) hh i
theorem OwnL.some_ {α : Type} {t size : Nat} {E : Rd α} {w : World} {base lo : Nat} {A : Option Addr} {n c : Nat} {l : List α} (h : OwnL t size E w base lo (.slice A n c) l) (hl : 0 < l.length) : ∃ g, A = some ⟨g, 0, none⟩ ∧ base ≤ g := by
  obtain ⟨ess, h1, h2, h3⟩ := h
  rcases h2.2 with ⟨_, hn⟩ | ⟨g', cap, cur, e, hb, _⟩
  · omega
  · injection e with e1; exact ⟨g', e1, hb⟩
theorem play_len (l : List Ref) : ∀ now : List Int, (play now l).length = now.length := by
  induction l with
  | nil => intro now; rfl
  | cons a l ih => intro now; unfold play at *; rw [List.foldl_cons, ih]; simp

set_option maxRecDepth 100000 in
set_option maxHeartbeats 4000000 in
theorem PrecedenceUsed_any (lp le la : List Int) (A A2 A3 : Option Addr) (c c2 c3 : Nat) (w : World) (h : RInts w (Old w) [.slice A lp.length c] lp) (h2 : RInts w (Old w) [.slice A2 le.length c2] le) (h3 : RInts w (Old w) [.slice A3 la.length c3] la) :
    Calls Try.prog 7 #[.slice A lp.length c, .slice A2 le.length c2, .slice A3 la.length c3] w fun e w' => e = .returned (.bool true) ∧ KeepsAll w w' := by
  have HM := Lib.hid (made_any lp le la A A2 A3 c c2 c3 w h h2 h3)
  clear h h2 h3
  go_enter Try.func7, Try.ntmps7
  go_wp2_with fail
  refine HM.out.mono ?_
  rintro e w1 ⟨ps, os, at_, v0, v1, v2, rfl, rp, ro, ra, hm, hck, hgd, _, k1⟩
  obtain ⟨B, d, rfl, hd1, hd2⟩ := rp.val
  obtain ⟨B2, d2, rfl, hd3, hd4⟩ := ro.val
  obtain ⟨B3, d3, rfl, hd5, hd6⟩ := ra.val
  have HLN := Lib.hid (Line_any ps os at_ B B2 B3 d d2 d3 w1 rp ro ra)
  have P1 := Lib.hid rp; have O1 := Lib.hid ro; have A1 := Lib.hid ra; have K1 := Lib.hid k1
  have hG := good_Gd.1 hgd
  have hv := hm.valid
  have hps1 := hm.1
  have hps3 := hm.2.1
  have hpl : ∀ p ∈ ps, p.length ≤ 4 := fun p hp => (hm.2.2 p hp).2.1
  have HPL := Lib.hid hpl
  have hal : at_.length = ps.length := hG.1
  have HST := Lib.hid (line_steps hck 1000 at_ hG)
  have hrl := runP_len (os := os) hv hG
  have HGD := Lib.hid hG
  have HCK := Lib.hid hck
  by_cases g1 : okP ps os at_ = true
  · have Q1 : Hid (lineP ps os at_ = ((runP ps os at_).1, true)) := by show _ = _; unfold lineP; rw [hck, hgd, g1]; rfl
    have HLF := Lib.hid (okP_left hv hG g1)
    have al1 : at_.length ≤ ps.length := by omega
    have al2 : ps.length ≤ at_.length := by omega
    clear rp ro ra k1 hm hck hgd hG hv hpl hal g1 HM
    go_wp2_with fail
    refine HLN.out.mono ?_
    rintro e w4 ⟨vl, rfl, rl, k4⟩
    rw [Q1.out] at rl ⊢
    simp only [] at rl ⊢
    have HST' : Hid ((∀ (j : Nat) u, (runP ps os at_).1[j]? = some u → StepOk ps os (play at_ ((runP ps os at_).1.take j)) u) ∧ play at_ (runP ps os at_).1 = (runP ps os at_).2) := HST.out
    generalize (runP ps os at_).1 = L at *
    generalize (runP ps os at_).2 = FN at *
    obtain ⟨Bl, dl, rfl, hdl1, hdl2⟩ := rl.val
    have K4 := Lib.hid (K1.out.tr k4)
    have P4 := Lib.hid (k4.rdo' RPaths.ok P1.out)
    have O4 := Lib.hid (k4.rdo' ROrders.ok O1.out)
    have A4 := Lib.hid (k4.rdo' RInts.ok A1.out)
    have L4 := Lib.hid rl
    clear rl k4 P1 O1 A1 K1 HLN Q1 HST
    go_wp2_with (at_builtin; refine wpList_append_M tyInt RInt.ok RInt.one rfl (.const (.slice none 0 0)) (.tmp 44) rfl (OwnL.nil (base := w4.heap.size) (lo := w4.heap.size)) rfl rfl (S := Old w4) (S2 := fun _ => False) A4.out (fun _ _ h => h) (fun _ h => h.elim) (by simp; omega) (by simp; omega) (Nat.le_refl _) ?_; intro v5 w5 HO5 HK5 HA5; rw [List.nil_append] at HO5; have K5 : KeepsAll w4 w5 := HK5.mono (fun _ _ h => (by simp [Value.ownBlock] at h)); obtain ⟨A5, c5, hv5, hc5, hc55⟩ := HO5.form; subst hv5; have HO5' := Lib.hid HO5; have K5' := Lib.hid K5; clear HO5 HK5 HA5 K5)
    obtain ⟨g, hg, hgb⟩ := HO5'.out.some_ (by omega)
    subst hg
    go_loopw [48] (fun v wr => ∃ j : Nat, j ≤ L.length ∧ v = .int .i64 j ∧ OwnL 3 1 RInt wr w4.heap.size w4.heap.size (.slice (some ⟨g, 0, none⟩) at_.length c5) (play at_ (L.take j)) ∧ KeepsAll w4 wr) (fun v _ => L.length - (intOf v).toNat)
    case atStart => exact ⟨0, Nat.zero_le _, rfl, HO5'.out, K5'.out⟩
    case round =>
      obtain ⟨j, hj, rfl, hon, hkr⟩ := hrel
      have KR := Lib.hid hkr
      have HON := Lib.hid hon
      have hgz : g < wr.heap.size := (hon.lt rfl).2
      clear hon hkr
      have hnl := play_len (L.take j) at_
      by_cases hlt : j < L.length
      · obtain ⟨bu, ou, u, hbo, hbu, hu, n0, n1⟩ := RRefs.atK KR.out L4.out hlt
        subst hbo
        obtain ⟨t, k, p, x, hue, hp, hkp, hx, hkx, hover⟩ := HST'.out.1 j u hu
        subst hue
        simp only [] at n0 n1
        have HNX : Hid (play at_ (L.take (j + 1)) = (play at_ (L.take j)).set t (k : Int)) := by
          show _ = _
          have e : L.take (j + 1) = L.take j ++ [⟨(t : Int), (k : Int)⟩] := by rw [List.take_add_one, hu]; rfl
          rw [e, play_snoc]; simp
        have HOV := Lib.hid hover
        have htl := getElem?_lt hp
        have hpl4 := HPL.out p (List.mem_of_getElem? hp)
        generalize play at_ (L.take j) = now at *
        have HX := Lib.hid hx
        have hnl1 : now.length ≤ ps.length := by omega
        have hnl2 : ps.length ≤ now.length := by omega
        obtain ⟨bp, op, p', Ap, cp, hbo, hbp, hp', p0, hpr⟩ := RSS.atK KR.out P4.out htl
        subst hbo
        obtain rfl := same_of hp' hp
        have hcpp := hpr.caps
        have HKX := Lib.hid hkx
        have hkx1 : (k : Int) ≤ x + 1 := by omega
        have hkx2 : x + 1 ≤ (k : Int) := by omega
        clear hp hp' hpr hx hu hover hnl hkx
        go_wp2
        generalize hW2 : World.alloc wr _ = W2
        have KW2 : KeepsAll wr W2 := by subst hW2; exact (Keeps.refl _ _).alloc _
        have BU : Blk W2 wr.heap.size 48 #[.int .i64 (t : Int), .int .i64 (k : Int)] := by subst hW2; exact Blk.new _ _ _
        have e0 := BU.cell 0
        have e1 := BU.cell 1
        simp at e0 e1
        have hzu := BU.lt
        have HON2 := Lib.hid (HON.out.keeps RInt.ok KW2 (fun _ _ h => h.elim))
        replace p0 := KW2.cellK (p := ⟨bp, op + t, none⟩) hbp p0
        have hrn : RInts W2 (Old W2) [.slice (some ⟨g, 0, none⟩) at_.length c5] now := HON2.out.read RInt.ok (by omega) (S := Old W2) (fun _ _ h => h) (fun _ _ h => h)
        obtain ⟨b', o', x', hb', _, hx', q0⟩ := hrn.at_ (k := t) (by omega)
        clear hrn
        injection hb' with hb'; injection hb' with hb1' hb2'
        subst hb1' hb2'
        obtain rfl := same_of HX.out hx'
        have q0' : W2.cell? ⟨g, t, none⟩ = some (.int .i64 x) := by rw [Nat.zero_add] at q0; exact q0
        have q1 := HON2.out.frz t
        have K2A := Lib.hid (KR.out.tr KW2)
        have HBU := Lib.hid BU
        have hgu : g ≠ wr.heap.size := by omega
        have hgW : g < W2.heap.size := by omega
        have hbpW : bp < W2.heap.size := Nat.lt_of_lt_of_le hbp KW2.size
        clear hW2 KW2 BU n0 n1 q0 hx' HON KR hbu hbp
        generalize wr.heap.size = zb at *
        have g1a : decide ((t : Int) < 0) = false := by simp
        have g2n : decide (ps.length ≤ t) = false := by simp; omega
        have g3 : ((k : Int) != x + 1) = false := by rw [HKX.out]; simp
        have g4 : decide (p'.length < k) = false := by simp; omega
        have hs1 : IntKind.i64.wrap (x + 1) = x + 1 := IntWalk.i64_in _ (by omega)
        go_quiet (fail)
        clear hs1 p0
        go_wp2
        generalize hWa : World.setCell (World.drewN W2 _) _ _ = Wa
        have HNA : Hid (OwnL 3 1 RInt Wa w4.heap.size w4.heap.size (.slice (some ⟨g, 0, none⟩) at_.length c5) (now.set t (k : Int))) := by
          subst hWa; exact (HON2.out.drewN RInt.ok _).setI t _
        have HBA : Hid (Blk Wa zb 48 #[.int .i64 (t : Int), .int .i64 (k : Int)]) := by
          subst hWa; exact Blk.far (w := W2.drewN _) HBU.out (fun e => hgu e.symm) _
        have KA : Hid (KeepsAll w4 Wa) := by subst hWa; exact (K2A.out.drewN _).setCell (fun h => (by have h : g < w4.heap.size := h; omega)) _
        have HNL : Hid ((now.set t (k : Int)).length = at_.length) := by show _ = _; rw [List.length_set]; omega
        have HOC : Hid (∀ W, KeepsAll Wa W → ∀ (tw kw : Nat) (pw : List Stage) (sw : Stage) (r : Int), ps[tw]? = some pw → pw[kw]? = some sw → Calls Try.prog 32 #[.slice (some ⟨bp, op, none⟩) ps.length d, .slice (some ⟨g, 0, none⟩) at_.length c5, .agg #[.int .i64 (tw : Int), .int .i64 (kw : Int)], .int .i64 r] W fun e w' => e = .returned (.bool (overB ps (now.set t (k : Int)) ⟨(tw : Int), (kw : Int)⟩ r)) ∧ KeepsAll W w') := fun W hW tw kw pw sw r hpw hsw => by
          have hr := hW.rdo' RInts.ok (HNA.out.read RInt.ok (by omega) (S := Old Wa) (fun _ _ h => h) (fun _ _ h => h))
          rw [← HNL.out] at hr ⊢
          have htw := getElem?_lt hpw
          exact Over_any ps _ r _ _ d c5 W ((KA.out.tr hW).rdo' RPaths.ok P4.out) hr tw kw pw sw _ hpw hsw (List.getElem?_eq_getElem (by rw [HNL.out]; omega))
        clear hWa HON2 HBU K2A q0' q1 e0 e1 g1a g2n g3 g4
        go_loopw [92] (fun v wr => ∃ a : Nat, a ≤ os.length ∧ v = .int .i64 a ∧ KeepsAll Wa wr) (fun v _ => os.length - (intOf v).toNat)
        case atStart => exact ⟨0, Nat.zero_le _, rfl, Keeps.refl _ _⟩
        case round =>
          obtain ⟨a, ha, rfl, hka⟩ := hrel
          by_cases hlta : a < os.length
          · obtain ⟨bo, oo, o, Au, cu, hbo, hbol, hoo, m0, m1, hus⟩ := ROrders.atK (KA.out.tr hka) O4.out hlta
            subst hbo
            have hcu := hus.caps
            have HUS := Lib.hid hus
            have HOM : Hid (o ∈ os) := List.mem_of_getElem? hoo
            have HIN := Lib.hid ((checkO_facts HCK.out).2.2 o HOM.out).1
            have hdao : decide ((a : Int) < (os.length : Int)) = true := by simp; omega
            clear hoo hus
            have KA0 := Lib.hid hka; clear hka
            go_wp2
            generalize hW3 : World.alloc wr _ = W3
            have KW3 : Hid (KeepsAll Wa W3) := by subst hW3; exact KA0.out.alloc _
            have BO : Hid (Blk W3 wr.heap.size 45 #[.int .i64 o.res, .slice Au o.uses.length cu]) := by subst hW3; exact Blk.new _ _ _
            clear hW3 m0 m1 hbol
            generalize wr.heap.size = zo at *
            go_loopw [99] (fun v wr => ∃ b : Nat, b ≤ o.uses.length ∧ v = .int .i64 b ∧ KeepsAll W3 wr) (fun v _ => o.uses.length - (intOf v).toNat)
            case atStart => exact ⟨0, Nat.zero_le _, rfl, Keeps.refl _ _⟩
            case round =>
              obtain ⟨b, hb, rfl, hkb⟩ := hrel
              by_cases hltb : b < o.uses.length
              · obtain ⟨bx, ox, v, hbo, hbxl, hv, m0, m1⟩ := RRefs.atK ((KA.out.tr KW3.out).tr hkb) HUS.out hltb
                subst hbo
                have BUb := (HBA.out.kept (KW3.out.tr hkb) (by simp))
                have e0 := BUb.cell 0
                have e1 := BUb.cell 1
                simp at e0 e1
                have hzb := BUb.lt
                have KB0 := Lib.hid hkb
                have hdbo : decide ((b : Int) < (o.uses.length : Int)) = true := by simp; omega
                clear BUb hkb
                by_cases hveq : v = ⟨(t : Int), (k : Int)⟩
                · subst hveq
                  simp only [] at m0 m1
                  have HOB : Hid (∀ w ∈ o.uses.take b, w.tr ≠ (t : Int) → overB ps (now.set t (k : Int)) w o.res = true) := fun w hw hne => HOV.out o HOM.out b hv w hw hne
                  clear hv
                  have BO1 := BO.out.kept KB0.out (by simp)
                  have f1 := BO1.cell 1
                  have f0 := BO1.cell 0
                  simp at f0 f1
                  have hzo := BO1.lt
                  clear BO1
                  go_wp2
                  generalize hW4 : World.alloc wr _ = W4
                  have KW4 : KeepsAll wr W4 := by subst hW4; exact (Keeps.refl _ _).alloc _
                  have K34 := Lib.hid (KB0.out.tr KW4)
                  clear hW4 m0 m1 e0 e1 f0 f1 KW4 hbxl hzb hzo
                  go_loopw [112] (fun v wr => ∃ cc : Nat, cc ≤ b ∧ v = .int .i64 cc ∧ KeepsAll W4 wr) (fun v _ => b - (intOf v).toNat)
                  case atStart => exact ⟨0, Nat.zero_le _, rfl, Keeps.refl _ _⟩
                  case round =>
                    obtain ⟨cc, hcc, rfl, hkc⟩ := hrel
                    by_cases hltc : cc < b
                    · obtain ⟨by_, oy, w_, hbo, hbyl, hw, m0, m1⟩ := RRefs.atK ((KA.out.tr (KW3.out.tr K34.out)).tr hkc) HUS.out (k := cc) (by omega)
                      injection hbo with hbo; injection hbo with hy1 hy2; subst hy1 hy2
                      have hwm : w_ ∈ o.uses.take b := List.mem_of_getElem? (i := cc) (by rw [List.getElem?_take_of_lt hltc]; exact hw)
                      obtain ⟨tw, kw, pw, sw, hpw, hsw, _, hwe⟩ := mem_allU.1 (HIN.out w_ (List.mem_of_mem_take hwm))
                      subst hwe
                      simp only [] at m0 m1
                      have BUc := (HBA.out.kept ((KW3.out.tr K34.out).tr hkc) (by simp))
                      have BOc := (BO.out.kept (K34.out.tr hkc) (by simp))
                      have e0 := BUc.cell 0
                      have f0 := BOc.cell 0
                      simp at e0 f0
                      have hzb := BUc.lt
                      have hzo := BOc.lt
                      have KC0 := Lib.hid hkc
                      have HC := Lib.hid (fun o' => HOC.out (wr.alloc o') (((KW3.out.tr K34.out).tr hkc).alloc _) tw kw pw sw o.res hpw hsw)
                      have HOB1 := Lib.hid (HOB.out _ hwm)
                      clear hw hwm hpw hsw BUc BOc hkc
                      by_cases hne : (tw : Int) = (t : Int)
                      · have hne' : ((tw : Int) != (t : Int)) = false := by simpa using hne
                        clear hne
                        go_wp2
                        go_roundw
                        case rel => exact ⟨cc + 1, by omega, by go_num, KC0.out.alloc _⟩
                        case measure => simp [intOf]; omega
                      · have hne' : ((tw : Int) != (t : Int)) = true := by simpa using hne
                        have HOB2 := Lib.hid (HOB1.out hne)
                        clear hne
                        go_wp2_with fail
                        refine (HC.out _).mono ?_
                        rintro e w6 ⟨rfl, hk6⟩
                        rw [HOB2.out]
                        have K6 := Lib.hid ((KC0.out.alloc _).tr hk6)
                        clear hk6
                        go_wp2
                        go_roundw
                        case rel => exact ⟨cc + 1, by omega, by go_num, K6.out⟩
                        case measure => simp [intOf]; omega
                    · have KC0 := Lib.hid hkc; clear hkc
                      go_wp2
                      go_roundw
                      case rel => exact ⟨b + 1, by omega, by go_num, K34.out.tr KC0.out⟩
                      case measure => simp [intOf]; omega
                · have hv2 : ¬ (v.tr = (t : Int) ∧ v.st = (k : Int)) := fun h => hveq (Ref.eq_of h.1 h.2)
                  clear hv hveq
                  by_cases g5 : v.tr = (t : Int)
                  · have g6 : ¬ (v.st = (k : Int)) := fun h => hv2 ⟨g5, h⟩
                    clear hv2
                    go_wp2
                    go_roundw
                    case rel => exact ⟨b + 1, by omega, by go_num, KB0.out.alloc _⟩
                    case measure => simp [intOf]; omega
                  · clear hv2
                    go_wp2
                    go_roundw
                    case rel => exact ⟨b + 1, by omega, by go_num, KB0.out.alloc _⟩
                    case measure => simp [intOf]; omega
              · have KB0 := Lib.hid hkb; clear hkb
                go_wp2
                go_roundw
                case rel => exact ⟨a + 1, by omega, by go_num, KW3.out.tr KB0.out⟩
                case measure => simp [intOf]; omega
          · have KA0 := Lib.hid hka; clear hka
            have HF := Lib.hid (HNA.out.keeps RInt.ok KA0.out (fun _ _ h => h.elim))
            go_wp2
            go_roundw
            case rel => exact ⟨j + 1, by omega, by go_num, by rw [HNX.out]; exact HF.out, KA.out.tr KA0.out⟩
            case measure => simp [intOf]; omega
      · obtain rfl : j = L.length := by omega
        rw [List.take_length, HST'.out.2] at HON
        rw [List.take_length, HST'.out.2] at hnl
        have hnl2 : FN.length = ps.length := by omega
        have HNL : Hid (FN.length = at_.length) := hnl
        clear hnl
        go_wp2_with fail
        refine (awake35_any wr).mono ?_
        rintro e w6 ⟨rfl, k6⟩
        have K6 := Lib.hid (K4.out.tr (KR.out.tr k6))
        have HFC : Hid (Calls Try.prog 33 #[.slice B ps.length d, .slice (some ⟨g, 0, none⟩) at_.length c5] w6 fun e w' => e = .returned (.bool (leftB ps FN)) ∧ ∃ n, w' = w6.drewN n) := by
          show Calls _ _ _ _ _
          have hr := (HON.out.keeps RInt.ok k6 (fun _ _ h => h.elim)).read RInt.ok (by omega) (S := Old w6) (fun _ _ h => h) (fun _ _ h => h)
          rw [← HNL.out] at hr ⊢
          exact Left_any ps FN B _ d c5 w6 ((KR.out.tr k6).rdo' RPaths.ok P4.out) hr hnl2
        clear k6 hnl2
        go_wp2_with fail
        refine HFC.out.mono ?_
        rintro e w7 ⟨rfl, n7, rfl⟩
        rw [HLF.out]
        go_wp2
        go_ret
        exact ⟨rfl, K6.out.drewN _⟩
  · have g1' : okP ps os at_ = false := by simpa using g1
    have Q1 : Hid (lineP ps os at_ = ([], false)) := by show _ = _; unfold lineP; rw [hck, hgd, g1']; rfl
    clear rp ro ra k1 hm hck hgd hG hv hpl hal g1 g1' HM HST
    go_wp2_with fail
    refine HLN.out.mono ?_
    rintro e w4 ⟨vl, rfl, rl, k4⟩
    rw [Q1.out] at rl ⊢
    simp only [] at rl ⊢
    obtain ⟨Bl, dl, hvl, hdl1, hdl2⟩ := rl.val
    simp only [List.length_nil] at hvl
    subst hvl
    have K4 := Lib.hid (K1.out.tr k4)
    clear rl k4 HLN Q1
    go_wp2_with fail
    refine (awake35_any w4).mono ?_
    rintro e w5 ⟨rfl, k5⟩
    have K5 := Lib.hid (K4.out.tr k5); clear k5
    go_wp2
    go_ret
    exact ⟨rfl, K5.out⟩

end Go.Proofs.Ytigmldildefdgaa
