/- Contracts of the reference's LineOf and Line. Conditions: as each theorem says. -/
import Derived.Test.YtbfgmbakeofcbaaGreatK35
namespace Go.Proofs.YtbfgmbakeofcbaaGreat
open Go.RowKit

def totTo (ps : List (List Stage)) (now : List Int) (n : Nat) : Nat := ((List.range n).map fun t => ((lenAt ps t : Int) - nowAt now t).toNat).sum
theorem totTo_succ (ps : List (List Stage)) (now : List Int) (n : Nat) : totTo ps now (n + 1) = totTo ps now n + ((lenAt ps n : Int) - nowAt now n).toNat := by
  unfold totTo; rw [List.range_succ, List.map_append, List.sum_append]; simp
theorem totTo_le {ps : List (List Stage)} (hv : valid ps = true) {now : List Int} (h : Gd ps now) : ∀ n, n ≤ ps.length → totTo ps now n ≤ n * 65
  | 0, _ => by simp [totTo]
  | n + 1, hn => by
    have h1 := totTo_le hv h n (by omega)
    have h2 := h.2 n (by omega)
    have h3 := lenAt_le hv n
    rw [totTo_succ]; omega
/-- the first train that can go, so far -/
def FindInv (ps : List (List Stage)) (arcs : List RArc) (now : List Int) (t : Nat) (x : Int) : Prop :=
  (x = -1 ∧ ∀ u, u < t → goC ps arcs now u = false) ∨ ∃ f : Nat, t = f + 1 ∧ x = (f : Int) ∧ goC ps arcs now f = true ∧ ∀ u, u < f → goC ps arcs now u = false
theorem find_range {f : Nat → Bool} {n t : Nat} (ht : t < n) (h1 : f t = true) (h2 : ∀ u, u < t → f u = false) : (List.range n).find? f = some t := by
  rw [List.find?_eq_some_iff_getElem]
  refine ⟨h1, t, by simpa using ht, by simp, fun j hj => ?_⟩
  simp [h2 j hj]
theorem FindInv.none_ {ps : List (List Stage)} {arcs : List RArc} {now : List Int} (h : ∀ u, u < ps.length → goC ps arcs now u = false) : goR ps arcs now = none := by
  unfold goR
  rw [List.find?_eq_none]
  intro x hx
  simp [h x (List.mem_range.1 hx)]

set_option maxRecDepth 100000 in
set_option maxHeartbeats 4000000 in
theorem LineOf_fresh (ps : List (List Stage)) (arcs : List RArc) (at_ : List Int) (A A2 A3 : Option Addr) (c c2 c3 : Nat) (w : World) (h : RPaths w (Old w) [.slice A ps.length c] ps) (h2 : RRArcs w (Old w) [.slice A2 arcs.length c2] arcs) (h3 : RInts w (Old w) [.slice A3 at_.length c3] at_)
    (hv : valid ps = true) (h1 : 1 ≤ ps.length) (hg : Gd ps at_) (hin : ∀ a ∈ arcs, (0 ≤ a.frm.tr ∧ a.frm.tr < ps.length) ∧ 0 ≤ a.to.tr ∧ a.to.tr < ps.length) :
    Calls Tryz.prog 43 #[.slice A ps.length c, .slice A2 arcs.length c2, .slice A3 at_.length c3] w fun e w' => ∃ v, e = .returned (.tuple #[v, .bool (lineR ps arcs at_).2]) ∧ RRefs w' (Fresh w w') [v] (lineR ps arcs at_).1 ∧ KeepsAll w w' := by
  have hc := h.caps
  have hc2 := h2.caps
  have hc3 := h3.caps
  have hps10 := (valid_lens hv).1
  have al1 : at_.length ≤ ps.length := by have := hg.1; omega
  have al2 : ps.length ≤ at_.length := by have := hg.1; omega
  have hF := total_le hv hg
  have HTL : Hid (∀ n, n ≤ ps.length → totTo ps at_ n ≤ n * 65) := totTo_le hv hg
  have HLEN := Lib.hid (fun t => lenAt_le hv t)
  have HG := Lib.hid hg
  have H := Lib.hid h; clear h
  have H2 := Lib.hid h2; clear h2
  have H3 := Lib.hid h3; clear h3
  have HIN := Lib.hid hin; clear hin
  clear hv hg
  go_enter Tryz.func43, Tryz.ntmps43
  go_wp2
  go_loopw [8, 19] (fun v i wr => ∃ t : Nat, t ≤ ps.length ∧ i = .int .i64 t ∧ v = .int .i64 (totTo ps at_ t : Int) ∧ w = wr) (fun _ i _ => ps.length - (intOf i).toNat)
  case atStart => exact ⟨0, Nat.zero_le _, rfl, rfl, rfl⟩
  case round =>
    obtain ⟨t, ht, rfl, rfl, rfl⟩ := hrel
    have hTl := HTL.out t ht
    by_cases hlt : t < ps.length
    · obtain ⟨b, o, p, A', c', hbo, hb, hp, k1, hr⟩ := RSS.at_ H.out hlt
      subst hbo
      have hcp := hr.caps
      obtain ⟨b3, o3, x, hbo, hb3, hx, q0⟩ := H3.out.at_ (k := t) (by omega)
      subst hbo
      have en := nowAt_of hx
      have el := lenAt_of hp
      have hGt := HG.out.2 t hlt
      have hlt64 := HLEN.out t
      rw [en, el] at hGt
      rw [el] at hlt64
      have HQ : Hid ((totTo ps at_ (t + 1) : Int) = (totTo ps at_ t : Int) + ((p.length : Int) - x)) := by
        show _ = _
        rw [totTo_succ, en, el]; omega
      clear hr hx hp en el
      generalize totTo ps at_ t = T0 at *
      have hdt : decide ((t : Int) < (ps.length : Int)) = true := by simp; omega
      have hs1 : IntKind.i64.wrap ((p.length : Int) - x) = (p.length : Int) - x := IntWalk.i64_in _ (by omega)
      have hs2 : IntKind.i64.wrap ((T0 : Int) + ((p.length : Int) - x)) = (T0 : Int) + ((p.length : Int) - x) := IntWalk.i64_in _ (by omega)
      go_wp2
      go_roundw
      case rel => exact ⟨t + 1, by omega, by go_num, by rw [HQ.out], trivial⟩
      case measure => simp [intOf]; omega
    · obtain rfl : t = ps.length := by omega
      have HTT : Hid (totTo ps at_ ps.length = total ps at_) := rfl
      rw [HTT.out] at hTl ⊢
      have HLR : Hid (lineR ps arcs at_ = if arcs.any (badArc at_) = true then ([], false) else if total ps (lineFrom (goR ps arcs) (total ps at_) at_).2 = 0 then ((lineFrom (goR ps arcs) (total ps at_) at_).1, true) else ([], false)) := rfl
      have HL0 : Hid (LR (goR ps arcs) (total ps at_) at_ 0 [] at_) := LR.start _ _ _
      have HT0 : Hid (∃ F, F = total ps at_) := ⟨_, rfl⟩
      clear HTT HTL
      have hdt : decide ((ps.length : Int) < (ps.length : Int)) = false := by simp
      go_wp2
      go_loopw [36] (fun i wr => ∃ k : Nat, k ≤ arcs.length ∧ i = .int .i64 k ∧ KeepsAll w wr ∧ (arcs.take k).any (badArc at_) = false) (fun i _ => arcs.length - (intOf i).toNat)
      case atStart => exact ⟨0, Nat.zero_le _, rfl, Keeps.refl _ _, by simp⟩
      case round =>
        obtain ⟨k, hk, rfl, hkr, hno⟩ := hrel
        have KR := Lib.hid hkr; clear hkr
        have HNO := Lib.hid hno; clear hno
        by_cases hlt : k < arcs.length
        · obtain ⟨b, o, a, hbo, hb, ha, m0, m1, m2, m3, m4⟩ := RRArcs.atK KR.out H2.out hlt
          subst hbo
          have hai := HIN.out a (List.mem_of_getElem? ha)
          obtain ⟨tf, htf⟩ := Int.eq_ofNat_of_zero_le hai.1.1
          obtain ⟨tt, htt⟩ := Int.eq_ofNat_of_zero_le hai.2.1
          have htl : tf < at_.length := by omega
          have htl2 : tt < at_.length := by omega
          obtain ⟨b3, o3, x, hbo, hb3, hx, q0⟩ := RInts.atK KR.out H3.out htl
          subst hbo
          obtain ⟨b4, o4, y, hbo, hb4, hy, q1⟩ := RInts.atK KR.out H3.out htl2
          injection hbo with hbo; injection hbo with hbo1 hbo2; subst hbo1 hbo2
          have HD : Hid (badArc at_ a = (decide (a.to.st ≤ y) && !decide (a.frm.st ≤ x))) := by
            show badArc _ _ = _
            unfold badArc doneR
            rw [htf, htt, Int.toNat_natCast, Int.toNat_natCast, nowAt_of hx, nowAt_of hy]
          have HQ : Hid (badArc at_ a = false → (arcs.take (k + 1)).any (badArc at_) = false) := fun hb => by
            rw [List.take_add_one, ha, Option.toList_some, List.any_append, HNO.out]; simp [hb]
          have HBAD : Hid (badArc at_ a = true → lineR ps arcs at_ = ([], false)) := fun hb => by
            rw [HLR.out, if_pos (List.any_eq_true.2 ⟨a, List.mem_of_getElem? ha, hb⟩)]
          clear ha hx hy hai
          have hdk : decide ((k : Int) < (arcs.length : Int)) = true := by simp; omega
          rw [htf] at m0
          rw [htt] at m2
          go_wp2
          generalize hW2 : World.alloc wr _ = W2
          have KW2 : KeepsAll wr W2 := by subst hW2; exact (Keeps.refl _ _).alloc _
          have BA : Blk W2 wr.heap.size 113 #[.int .i64 (tf : Int), .int .i64 a.frm.st, .int .i64 (tt : Int), .int .i64 a.to.st, .int .i64 a.wt] := by subst hW2; exact Blk.new _ _ _
          have a0 := BA.cell 0
          have a1 := BA.cell 1
          have a2 := BA.cell 2
          have a3 := BA.cell 3
          simp at a0 a1 a2 a3
          have hza := BA.lt
          replace q0 := KW2.cellK (p := ⟨b3, o3 + tf, none⟩) hb3 q0
          replace q1 := KW2.cellK (p := ⟨b3, o3 + tt, none⟩) hb4 q1
          have K2 := Lib.hid (KR.out.tr KW2)
          clear hW2 KW2 BA m0 m1 m2 m3 m4 hb hb3 hb4
          generalize wr.heap.size = za at *
          by_cases g1 : a.to.st ≤ y
          · have g1' : decide (y ≥ a.to.st) = true := by simpa using g1
            by_cases g2 : a.frm.st ≤ x
            · have Q := Lib.hid (HQ.out (by rw [HD.out]; simp [g2]))
              have g2' : decide (x < a.frm.st) = false := by simp; omega
              clear g2 HQ HD HBAD
              go_quiet (fail)
              go_wp2
              go_roundw
              case rel => exact ⟨k + 1, by omega, by go_num, K2.out.drewN _, Q.out⟩
              case measure => simp [intOf]; omega
            · have Q := Lib.hid (HBAD.out (by rw [HD.out]; simp [g1]; omega))
              have g2' : decide (x < a.frm.st) = true := by simp; omega
              clear HQ HD HBAD
              go_quiet (fail)
              go_wp2
              go_ret2
              rw [Q.out]
              exact ⟨_, rfl, RSlice.mkNil, K2.out.drewN _⟩
          · have g1' : decide (y ≥ a.to.st) = false := by simp; omega
            have Q := Lib.hid (HQ.out (by rw [HD.out]; simp; omega))
            clear g1 HQ HD HBAD
            go_quiet (fail)
            go_wp2
            go_roundw
            case rel => exact ⟨k + 1, by omega, by go_num, K2.out.drewN _, Q.out⟩
            case measure => simp [intOf]; omega
        · obtain rfl : k = arcs.length := by omega
          rw [List.take_length] at HNO
          have HLR2 : Hid (lineR ps arcs at_ = if total ps (lineFrom (goR ps arcs) (total ps at_) at_).2 = 0 then ((lineFrom (goR ps arcs) (total ps at_) at_).1, true) else ([], false)) := by
            show _ = _
            rw [HLR.out, HNO.out]; rfl
          clear HLR HNO
          obtain ⟨F, hFF⟩ := HT0.out
          rw [← hFF] at HLR2 HL0 hF hTl ⊢
          have HT1 : Hid (F = total ps at_ + 0) := hFF
          clear hFF HT0
          have A4 := Lib.hid (KR.out.rdo' RInts.ok H3.out)
          have hzr := KR.out.size
          go_wp2_with (at_builtin; refine wpList_append_M tyInt RInt.ok RInt.one rfl (.const (.slice none 0 0)) (.tmp 63) rfl (OwnL.nil (base := wr.heap.size) (lo := wr.heap.size)) rfl rfl (S := Old wr) (S2 := fun _ => False) A4.out (fun _ _ h => h) (fun _ h => h.elim) (by simp; omega) (by simp; omega) (Nat.le_refl _) ?_; intro v5 w5 HO5 HK5 HA5; rw [List.nil_append] at HO5; have K5 : KeepsAll wr w5 := HK5.mono (fun _ _ h => (by simp [Value.ownBlock] at h)); obtain ⟨A5, c5, hv5, hc5, hc55⟩ := HO5.form; subst hv5; have HO5' := Lib.hid HO5; have K5' := Lib.hid (KR.out.tr K5); clear HO5 HK5 HA5 K5)
          obtain ⟨g, hg, hgb⟩ := HO5'.out.some_ (by omega)
          subst hg
          have HO6 : Hid (OwnL 3 1 RInt w5 w.heap.size w.heap.size (.slice (some ⟨g, 0, none⟩) at_.length c5) at_) := OwnL.base_mono (OwnL.lo_mono RInt.ok HO5'.out hzr) hzr
          clear HO5' A4 KR
          go_loopw [14] (fun v wr => ∃ (j : Nat) (acc : List Ref) (now : List Int), v.ownBlock ≠ some g ∧ OwnL 69 2 RRef wr w.heap.size w.heap.size v acc ∧ OwnL 3 1 RInt wr w.heap.size w.heap.size (.slice (some ⟨g, 0, none⟩) at_.length c5) now ∧ LR (goR ps arcs) F at_ j acc now ∧ Gd ps now ∧ F = total ps now + j ∧ KeepsAll w wr) (fun v _ => F - slLen v)
          case atStart => exact ⟨0, [], at_, by simp [Value.ownBlock], OwnL.nil, HO6.out, HL0.out, HG.out, HT1.out, K5'.out⟩
          case round =>
            obtain ⟨j, acc, now, hvg, hac, hno, hlr, hgd, htt, hkr⟩ := hrel
            obtain ⟨Ac, cc, rfl, hcc, hcc2⟩ := hac.form
            have HJL := Lib.hid hlr.1
            have hjF := hlr.2.1
            have haF : acc.length ≤ 650 := by have := HJL.out; omega
            have HAC := Lib.hid hac; have HNW := Lib.hid hno; have HLR := Lib.hid hlr; have HGN := Lib.hid hgd; have KR := Lib.hid hkr; have HVG := Lib.hid hvg
            have hgl := (hno.lt (b := g) (by simp [Value.ownBlock]))
            have hnl := hgd.1
            have nl1 : now.length ≤ ps.length := by omega
            have nl2 : ps.length ≤ now.length := by omega
            have nl3 : now.length = at_.length := by omega
            have HTT := Lib.hid htt
            clear hac hno hlr hgd hkr hvg hnl htt
            by_cases hlt : j < F
            · have hacF : acc.length < F := by have := HJL.out; omega
              have HRD : Hid (∀ W, KeepsAll wr W → ∀ u : Ref, Calls Tryz.prog 67 #[.slice A2 arcs.length c2, .slice (some ⟨g, 0, none⟩) at_.length c5, .agg #[.int .i64 u.tr, .int .i64 u.st]] W fun e w' => e = .returned (.bool (rdyR arcs now u)) ∧ KeepsAll W w') := fun W hW u => by
                have hr := (HNW.out.keeps RInt.ok hW (fun _ _ h => h.elim)).read RInt.ok (by omega) (S := Old W) (fun _ _ h => h) (fun _ _ h => h)
                rw [← nl3] at hr ⊢
                exact RefReady_any arcs now A2 _ c2 c5 u W ((KR.out.tr hW).rdo' RRArcs.ok H2.out) hr (fun a ha => by have := (HIN.out a ha).1; omega)
              obtain ⟨wo, rfl⟩ : ∃ wo : World, wo = wr := ⟨_, rfl⟩
              go_wp2
              go_loopw [15, 16] (fun vf vt wr => ∃ (t : Nat) (x : Int), t ≤ ps.length ∧ vt = .int .i64 t ∧ vf = .int .i64 x ∧ FindInv ps arcs now t x ∧ KeepsAll wo wr) (fun _ vt _ => ps.length - (intOf vt).toNat)
              case atStart => exact ⟨0, -1, Nat.zero_le _, rfl, rfl, .inl ⟨rfl, fun u hu => by omega⟩, Keeps.refl _ _⟩
              case round =>
                obtain ⟨t, x, ht, rfl, rfl, hinv, hki⟩ := hrel
                rcases hinv with ⟨rfl, hun⟩ | ⟨f, hinv, rfl, hgf, hun⟩
                · by_cases hlt2 : t < ps.length
                  · have hd1 : decide ((t : Int) < (ps.length : Int)) = true := by simp; omega
                    obtain ⟨b, o, p, A', c', hbo, hb, hp, k1, hr⟩ := RSS.atK (KR.out.tr hki) H.out hlt2
                    subst hbo
                    have hcp := hr.caps
                    have hrn : RInts wr (Old wr) [.slice (some ⟨g, 0, none⟩) at_.length c5] now := (HNW.out.keeps RInt.ok hki (fun _ _ h => h.elim)).read RInt.ok (by omega) (S := Old wr) (fun _ _ h => h) (fun _ _ h => h)
                    obtain ⟨b', o', xt, hb', _, hx', q0⟩ := hrn.at_ (k := t) (by omega)
                    clear hrn
                    injection hb' with hb'; injection hb' with hb1' hb2'
                    subst hb1' hb2'
                    rw [Nat.zero_add] at q0
                    have en := nowAt_of hx'
                    have el := lenAt_of hp
                    have hGt := HGN.out.2 t hlt2
                    rw [en, el] at hGt
                    have hl64 := HLEN.out t
                    rw [el] at hl64
                    have HGC : Hid (goC ps arcs now t = (decide (xt < (p.length : Int)) && rdyR arcs now ⟨(t : Int), xt + 1⟩)) := by
                      show goC _ _ _ _ = _
                      unfold goC
                      rw [en, el]
                    have HUN := Lib.hid hun
                    have KI := Lib.hid hki
                    have HCL : Hid (∀ xx : Ext wr, Calls Tryz.prog 67 #[.slice A2 arcs.length c2, .slice (some ⟨g, 0, none⟩) at_.length c5, .agg #[.int .i64 (t : Int), .int .i64 (xt + 1)]] xx.val fun e w'' => e = .returned (.bool (rdyR arcs now ⟨(t : Int), xt + 1⟩)) ∧ ∃ y : Ext wr, w'' = y.val) := fun xx => ext_call xx (HRD.out xx.val (KI.out.tr xx.keeps) ⟨(t : Int), xt + 1⟩)
                    have hgi : g < wr.heap.size := Nat.lt_of_lt_of_le hgl.2 KI.out.size
                    clear hr hp hx' en el hun hki
                    by_cases g1 : xt < p.length
                    · have g1' : decide (xt < (p.length : Int)) = true := by simpa using g1
                      have hs1 : IntKind.i64.wrap (xt + 1) = xt + 1 := IntWalk.i64_in _ (by omega)
                      rw [g1', Bool.true_and] at HGC
                      generalize rdyR arcs now ⟨(t : Int), xt + 1⟩ = rb at HCL HGC
                      go_wp2_with fail
                      refine wp_region_ext (by kernel_rfl) (by kernel_rfl) ?_
                      have y1 := Ext.cell q0
                      have y2 := Ext.cell k1
                      repeat (go_big_quiet_step ((go_at_call 67; exact HCL.out _)))
                      refine wpQuiet_nil ?_
                      rintro _ ⟨X, rfl⟩
                      have KX := Lib.hid (KI.out.tr X.keeps)
                      clear y1 y2 q0 k1
                      generalize X.val = WX at *
                      cases rb with
                      | true =>
                        have Q : Hid (FindInv ps arcs now (t + 1) (t : Int)) := .inr ⟨t, rfl, rfl, HGC.out, HUN.out⟩
                        clear HCL HGC g1 g1'
                        go_wp2
                        go_roundw
                        case rel => exact ⟨t + 1, (t : Int), by omega, by go_num, rfl, Q.out, KX.out⟩
                        case measure => simp [intOf]; omega
                      | false =>
                        have Q : Hid (FindInv ps arcs now (t + 1) (-1)) := .inl ⟨rfl, fun u hu => by
                          by_cases e : u = t
                          · rw [e]; exact HGC.out
                          · exact HUN.out u (by omega)⟩
                        clear HCL HGC g1 g1'
                        go_wp2
                        go_roundw
                        case rel => exact ⟨t + 1, -1, by omega, by go_num, rfl, Q.out, KX.out⟩
                        case measure => simp [intOf]; omega
                    · have g1' : decide (xt < (p.length : Int)) = false := by simpa using g1
                      have Q : Hid (FindInv ps arcs now (t + 1) (-1)) := .inl ⟨rfl, fun u hu => by
                        by_cases e : u = t
                        · rw [e, HGC.out, g1']; rfl
                        · exact HUN.out u (by omega)⟩
                      clear g1 HCL HGC
                      go_wp2_with fail
                      go_quiet (fail)
                      go_wp2
                      go_roundw
                      case rel => exact ⟨t + 1, -1, by omega, by go_num, rfl, Q.out, KI.out.drewN _⟩
                      case measure => simp [intOf]; omega
                  · obtain rfl : t = ps.length := by omega
                    have HN0 := Lib.hid (FindInv.none_ hun)
                    have HE := Lib.hid (HLR.out.stuck hlt HN0.out)
                    have HLR3 : Hid (lineR ps arcs at_ = ([], false)) := by
                      show _ = _
                      have := HTT.out
                      rw [HLR2.out, HE.out, if_neg (by simp; omega)]
                    have KI := Lib.hid (KR.out.tr hki)
                    have hd1 : decide ((ps.length : Int) < (ps.length : Int)) = false := by simp
                    clear hki hun HLR2 HN0 HE
                    go_wp2
                    go_ret2
                    rw [HLR3.out]
                    exact ⟨_, rfl, RSlice.mkNil, KI.out⟩
                · obtain ⟨bb, hbb⟩ : ∃ bb, decide ((t : Int) < (ps.length : Int)) = bb := ⟨_, rfl⟩
                  have hf0 : decide ((f : Int) < 0) = false := by simp
                  have hfl : f < ps.length := by omega
                  have HGO := Lib.hid (find_range hfl hgf hun)
                  have HSND := Lib.hid (goR_sound ps arcs now f HGO.out)
                  have hrn : RInts wr (Old wr) [.slice (some ⟨g, 0, none⟩) at_.length c5] now := (HNW.out.keeps RInt.ok hki (fun _ _ h => h.elim)).read RInt.ok (by omega) (S := Old wr) (fun _ _ h => h) (fun _ _ h => h)
                  obtain ⟨b', o', xf, hb', _, hx', q0⟩ := hrn.at_ (k := f) (by omega)
                  clear hrn
                  injection hb' with hb'; injection hb' with hb1' hb2'
                  subst hb1' hb2'
                  rw [Nat.zero_add] at q0
                  have q1 := (HNW.out.keeps RInt.ok hki (fun _ _ h => h.elim)).frz f
                  have HNF := Lib.hid (nowAt_of hx')
                  have hGf := HGN.out.2 f hfl
                  rw [HNF.out] at hGf
                  have hl64 := HLEN.out f
                  have KI := Lib.hid hki
                  have HNWi := Lib.hid (HNW.out.keeps RInt.ok hki (fun _ _ h => h.elim))
                  have HACi := Lib.hid (HAC.out.keeps RRef.ok hki (fun _ _ h => h.elim))
                  have hs1 : IntKind.i64.wrap (xf + 1) = xf + 1 := IntWalk.i64_in _ (by omega)
                  have hgi : g < wr.heap.size := Nat.lt_of_lt_of_le hgl.2 KI.out.size
                  clear hki hgf hun hx' hinv
                  have HACs : Hid (OwnL 69 2 RRef (wr.setCell ⟨g, f, none⟩ (.int .i64 (xf + 1))) w.heap.size w.heap.size (.slice Ac acc.length cc) acc) := HACi.out.keepsF RRef.flat (C := fun b => b = g) ((Keeps.refl (fun b => b = g) wr).setCell (p := ⟨g, f, none⟩) (fun _ => rfl) _) (fun b hb e => HVG.out (by rw [← e]; exact hb))
                  have HNWs : Hid (OwnL 3 1 RInt (wr.setCell ⟨g, f, none⟩ (.int .i64 (xf + 1))) w.heap.size w.heap.size (.slice (some ⟨g, 0, none⟩) at_.length c5) (now.set f (nowAt now f + 1))) := by
                    show OwnL _ _ _ _ _ _ _ _
                    rw [HNF.out]; exact HNWi.out.setI f _
                  have KS : Hid (KeepsAll w (wr.setCell ⟨g, f, none⟩ (.int .i64 (xf + 1)))) := (KR.out.tr KI.out).setCell (fun h => absurd h (by simp; omega)) _
                  have QLR : Hid (LR (goR ps arcs) F at_ (j + 1) (acc ++ [⟨(f : Int), xf + 1⟩]) (now.set f (nowAt now f + 1))) := by
                    have q := HLR.out.step hlt HGO.out
                    rw [HNF.out] at q ⊢; exact q
                  have QGD := Lib.hid (HGN.out.step hfl HSND.out.2)
                  have QT : Hid (F = total ps (now.set f (nowAt now f + 1)) + (j + 1)) := by
                    show _ = _
                    have q1 := total_step HGN.out hfl HSND.out.2
                    have q2 := HTT.out
                    omega
                  have hszs : (wr.setCell ⟨g, f, none⟩ (.int .i64 (xf + 1))).heap.size = wr.heap.size := by simp [World.setCell]
                  have HSZS := Lib.hid hszs
                  clear hszs HLR HGN HTT HNWi HACi
                  have HFIN : Hid (∀ w9 v9, OwnL 69 2 RRef w9 w.heap.size w.heap.size v9 (acc ++ [⟨(f : Int), xf + 1⟩]) → Keeps (fun b => (Value.slice Ac acc.length cc).ownBlock = some b) ((wr.setCell ⟨g, f, none⟩ (.int .i64 (xf + 1))).alloc (.cells #[.int .i64 (f : Int), .int .i64 (xf + 1)] 69)) w9 → (v9.ownBlock = (Value.slice Ac acc.length cc).ownBlock ∨ v9.ownBlock = some ((wr.setCell ⟨g, f, none⟩ (.int .i64 (xf + 1))).alloc (.cells #[.int .i64 (f : Int), .int .i64 (xf + 1)] 69)).heap.size) → v9.ownBlock ≠ some g ∧ OwnL 3 1 RInt w9 w.heap.size w.heap.size (.slice (some ⟨g, 0, none⟩) at_.length c5) (now.set f (nowAt now f + 1)) ∧ KeepsAll w w9) := fun w9 v9 ho hk ha => by
                    refine ⟨?_, (HNWs.out.alloc RInt.ok _).keepsF RInt.flat hk (fun b hb e => HVG.out (by rw [e, ← hb]; rfl)), (KS.out.alloc _).trans hk (fun x hx e => by have := HACs.out.lt e; omega)⟩
                    rcases ha with ha | ha
                    · rw [ha]; exact HVG.out
                    · rw [ha]; intro e; injection e with e; simp at e; have := HSZS.out; omega
                  clear KS HNWs HSND
                  cases bb
                  all_goals (go_wp2_with (at_builtin; refine wpList_append_L tyRef RRef.ok rfl (.tmp 110) (.tmp 117) rfl (HACs.out.alloc RRef.ok _) rfl _ [.int .i64 (f : Int), .int .i64 (xf + 1)] rfl (Blk.new' _ _ _ (by simp)) rfl ⟨(f : Int), xf + 1⟩ (S := fun _ => False) rfl (fun _ h => h.elim) (by simp [Value.oneCell']) (by omega) (by omega) (by simp; omega) ?_; intro v9 w9 HO9 HK9 HA9; have HF9 := Lib.hid (HFIN.out w9 v9 HO9 HK9 HA9); obtain ⟨A9, c9, hv9, _, _⟩ := HO9.form; rw [List.length_append, List.length_singleton] at hv9; subst hv9))
                  all_goals (
                    go_roundw
                    case rel => exact ⟨j + 1, _, _, HF9.out.1, HO9, HF9.out.2.1, QLR.out, QGD.out, QT.out, HF9.out.2.2⟩
                    case measure => simp [slLen]; omega)
            · have hjF2 : j = F := by omega
              have hacF : decide (acc.length < F) = false := by have := HJL.out; simp; omega
              have HE := Lib.hid ((show LR (goR ps arcs) F at_ F acc now by have q := HLR.out; rw [hjF2] at q; exact q).full)
              have hT0 : total ps now = 0 := by have := HTT.out; omega
              have HLR3 : Hid (lineR ps arcs at_ = (acc, true)) := by show _ = _; rw [HLR2.out, HE.out, if_pos hT0]
              have HRA := Lib.hid (HAC.out.read RRef.ok (by omega) (S := Fresh w wr) (fun _ h h' => ⟨h, h'⟩) (fun _ h h' => ⟨h, h'⟩))
              clear HE HLR2 hT0 hjF2 HTT
              go_wp2
              go_ret2
              rw [HLR3.out]
              exact ⟨_, rfl, HRA.out, KR.out⟩

theorem refArcs_in {ps : List (List Stage)} {os : List Order} (hck : checkO ps os = true) : ∀ a ∈ refArcs ps os, (0 ≤ a.frm.tr ∧ a.frm.tr < ps.length) ∧ 0 ≤ a.to.tr ∧ a.to.tr < ps.length := by
  intro a ha
  obtain ⟨⟨t, k, p, hp, _, h1⟩, ⟨t', k', p', hp', _, h2⟩⟩ := refArcs_ends hck ha
  have := getElem?_lt hp
  have := getElem?_lt hp'
  rw [h1, h2]
  simp only
  omega

set_option maxRecDepth 100000 in
set_option maxHeartbeats 1000000 in
theorem RefLine_fresh (ps : List (List Stage)) (os : List Order) (at_ : List Int) (A A2 A3 : Option Addr) (c c2 c3 : Nat) (w : World) (h1 : 1 ≤ ps.length) (h : RPaths w (Old w) [.slice A ps.length c] ps) (h2 : ROrders w (Old w) [.slice A2 os.length c2] os) (h3 : RInts w (Old w) [.slice A3 at_.length c3] at_) :
    Calls Tryz.prog 17 #[.slice A ps.length c, .slice A2 os.length c2, .slice A3 at_.length c3] w fun e w' => ∃ v, e = .returned (.tuple #[v, .bool (lineP ps os at_).2]) ∧ RRefs w' (Fresh w w') [v] (lineP ps os at_).1 ∧ KeepsAll w w' := by
  have H := Lib.hid h; clear h
  have H2 := Lib.hid h2; clear h2
  have H3 := Lib.hid h3; clear h3
  by_cases g1 : checkO ps os = true
  · have HCK := Lib.hid g1
    have HV := Lib.hid (checkO_facts g1).1
    by_cases g2 : good ps at_ = true
    · have HGD := Lib.hid (good_Gd.1 g2)
      have HLR := Lib.hid (lineP_ref g1 g2)
      have HIN := Lib.hid (refArcs_in g1)
      go_enter Tryz.func17, Tryz.ntmps17
      go_wp2_with fail
      refine (RefCheck_any ps os A A2 c c2 w H.out H2.out).mono ?_
      rintro e w1 ⟨rfl, k1⟩
      rw [g1]
      have K1 := Lib.hid k1; clear k1
      go_wp2_with fail
      refine (rGood_any ps at_ A A3 c c3 w1 (Old w1) (Old w1) (K1.out.rdo' RPaths.ok H.out) (K1.out.rdo' RInts.ok H3.out)).mono ?_
      rintro e w2 ⟨rfl, rfl⟩
      rw [g2]
      have K2 := K1; clear K1
      go_wp2_with fail
      refine (Arcs_any ps os A A2 c c2 w1 HCK.out (K2.out.rdo' RPaths.ok H.out) (K2.out.rdo' ROrders.ok H2.out)).mono ?_
      rintro e w3 ⟨v, rfl, ho, hal, k3⟩
      have HRA := Lib.hid (ho.read RRArc.ok (by omega) (S := Old w3) (fun _ _ h => h) (fun _ _ h => h))
      obtain ⟨Aa, ca, rfl, _, _⟩ := ho.form
      have K3 := Lib.hid (K2.out.tr k3)
      clear ho k3 K2
      go_wp2_with fail
      refine (LineOf_fresh ps (refArcs ps os) at_ A Aa A3 c ca c3 w3 (K3.out.rdo' RPaths.ok H.out) HRA.out (K3.out.rdo' RInts.ok H3.out) HV.out h1 HGD.out HIN.out).mono ?_
      rintro e w4 ⟨v, rfl, rv, k4⟩
      rw [← HLR.out] at rv ⊢
      have RV := Lib.hid (RRefs.ok.mono rv (S' := Fresh w w4) (fun b hb => ⟨Nat.le_trans K3.out.size hb.1, hb.2⟩) (fun _ _ => rfl))
      have K4 := Lib.hid (K3.out.tr k4)
      clear rv k4
      go_wp2
      go_ret2
      exact ⟨_, rfl, RV.out, K4.out⟩
    · have g2' : good ps at_ = false := by simpa using g2
      have Q : Hid (lineP ps os at_ = ([], false)) := by show _ = _; unfold lineP; rw [g1, g2']; rfl
      go_enter Tryz.func17, Tryz.ntmps17
      go_wp2_with fail
      refine (RefCheck_any ps os A A2 c c2 w H.out H2.out).mono ?_
      rintro e w1 ⟨rfl, k1⟩
      rw [g1]
      have K1 := Lib.hid k1; clear k1
      go_wp2_with fail
      refine (rGood_any ps at_ A A3 c c3 w1 (Old w1) (Old w1) (K1.out.rdo' RPaths.ok H.out) (K1.out.rdo' RInts.ok H3.out)).mono ?_
      rintro e w2 ⟨rfl, rfl⟩
      rw [g2']
      have K2 := K1; clear K1
      go_wp2
      go_ret2
      rw [Q.out]
      exact ⟨_, rfl, RSlice.mkNil, K2.out⟩
  · have g1' : checkO ps os = false := by simpa using g1
    have Q : Hid (lineP ps os at_ = ([], false)) := by show _ = _; unfold lineP; rw [g1']; rfl
    go_enter Tryz.func17, Tryz.ntmps17
    go_wp2_with fail
    refine (RefCheck_any ps os A A2 c c2 w H.out H2.out).mono ?_
    rintro e w1 ⟨rfl, k1⟩
    rw [g1']
    have K1 := Lib.hid k1; clear k1
    go_wp2
    go_ret2
    rw [Q.out]
    exact ⟨_, rfl, RSlice.mkNil, K1.out⟩

theorem RefLine_any (ps : List (List Stage)) (os : List Order) (at_ : List Int) (A A2 A3 : Option Addr) (c c2 c3 : Nat) (w : World) (h1 : 1 ≤ ps.length) (h : RPaths w (Old w) [.slice A ps.length c] ps) (h2 : ROrders w (Old w) [.slice A2 os.length c2] os) (h3 : RInts w (Old w) [.slice A3 at_.length c3] at_) :
    Calls Tryz.prog 17 #[.slice A ps.length c, .slice A2 os.length c2, .slice A3 at_.length c3] w fun e w' => ∃ v, e = .returned (.tuple #[v, .bool (lineP ps os at_).2]) ∧ RRefs w' (Old w') [v] (lineP ps os at_).1 ∧ KeepsAll w w' := by
  refine (RefLine_fresh ps os at_ A A2 A3 c c2 c3 w h1 h h2 h3).mono ?_
  rintro e w' ⟨v, q1, q2, q3⟩
  exact ⟨v, q1, RRefs.ok.mono q2 (S' := Old w') (fun b hb => hb.2) (fun _ _ => rfl), q3⟩

end Go.Proofs.YtbfgmbakeofcbaaGreat
