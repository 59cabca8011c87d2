/- Contracts of the reference's LineOf and Line. Conditions: as each theorem says. Contracts of math/bits.Mul64, math/bits.Mul and slices.Repeat at one element. Conditions: as each theorem says. Tables of seconds in memory: a row of rows of integers, each in a block of its own. Conditions: as each theorem says. The seconds of Times satisfy the equation that the statement PrecedenceTimes checks. No program in sight. -/
import Derived.Test.YtilbbpbjhoidhaaE10
import Derived.Laws.CopyRow
import Derived.Laws.Bits64b
import Derived.Test.YtilbbpbjhoidhaaE09
namespace Go.Proofs.Ytilbbpbjhoidhaa
open Go.RowKit

def totTo (ps : List (List Stage)) (now : List Int) (n : Nat) : Nat := ((List.range n).map fun t => ((lenAt ps t : Int) - nowAt now t).toNat).sum
theorem totTo_succ (ps : List (List Stage)) (now : List Int) (n : Nat) : totTo ps now (n + 1) = totTo ps now n + ((lenAt ps n : Int) - nowAt now n).toNat := by
 unfold totTo; rw [List.range_succ, List.map_append, List.sum_append]; simp
theorem totTo_le {ps : List (List Stage)} (hv : valid ps = true) {now : List Int} (h : Gd ps now) : ∀ n, n ≤ ps.length → totTo ps now n ≤ n * 65
 | 0, _ => by simp [totTo]
 | n + 1, hn => by
  have h1 := totTo_le hv h n (by omega)
  have h2 := h.2 n (by omega)
  have h3 := lenAt_le hv n
  rw [totTo_succ]; omega
def FindInv (ps : List (List Stage)) (arcs : List RArc) (now : List Int) (t : Nat) (x : Int) : Prop :=
 (x = -1 ∧ ∀ u, u < t → goC ps arcs now u = false) ∨ ∃ f : Nat, t = f + 1 ∧ x = (f : Int) ∧ goC ps arcs now f = true ∧ ∀ u, u < f → goC ps arcs now u = false
theorem find_range {f : Nat → Bool} {n t : Nat} (ht : t < n) (h1 : f t = true) (h2 : ∀ u, u < t → f u = false) : (List.range n).find? f = some t := by
 rw [List.find?_eq_some_iff_getElem]
 refine ⟨h1, t, by simpa using ht, by simp, fun j hj => ?_⟩
 simp [h2 j hj]
theorem FindInv.none_ {ps : List (List Stage)} {arcs : List RArc} {now : List Int} (h : ∀ u, u < ps.length → goC ps arcs now u = false) : goR ps arcs now = none := by
 unfold goR
 rw [List.find?_eq_none]
 intro x hx
 simp [h x (List.mem_range.1 hx)]

set_option maxRecDepth 100000 in
set_option maxHeartbeats 4000000 in
theorem LineOf_fresh (ps : List (List Stage)) (arcs : List RArc) (at_ : List Int) (A A2 A3 : Option Addr) (c c2 c3 : Nat) (w : World) (h : RPaths w (Old w) [.slice A ps.length c] ps) (h2 : RRArcs w (Old w) [.slice A2 arcs.length c2] arcs) (h3 : RInts w (Old w) [.slice A3 at_.length c3] at_)
  (hv : valid ps = true) (h1 : 1 ≤ ps.length) (hg : Gd ps at_) (hin : ∀ a ∈ arcs, (0 ≤ a.frm.tr ∧ a.frm.tr < ps.length) ∧ 0 ≤ a.to.tr ∧ a.to.tr < ps.length) :
  Calls Try.prog 25 #[.slice A ps.length c, .slice A2 arcs.length c2, .slice A3 at_.length c3] w fun e w' => ∃ v, e = .returned (.tuple #[v, .bool (lineR ps arcs at_).2]) ∧ RRefs w' (Fresh w w') [v] (lineR ps arcs at_).1 ∧ KeepsAll w w' := by
 have hc := h.caps
 have hc2 := h2.caps
 have hc3 := h3.caps
 have hps10 := (valid_lens hv).1
 have al1 : at_.length ≤ ps.length := by have := hg.1; omega
 have al2 : ps.length ≤ at_.length := by have := hg.1; omega
 have hF := total_le hv hg
 have HTL : Hid (∀ n, n ≤ ps.length → totTo ps at_ n ≤ n * 65) := totTo_le hv hg
 have HLEN := Lib.hid (fun t => lenAt_le hv t)
 have HG := Lib.hid hg
 have H := Lib.hid h; clear h
 have H2 := Lib.hid h2; clear h2
 have H3 := Lib.hid h3; clear h3
 have HIN := Lib.hid hin; clear hin
 clear hv hg
 go_enter Try.func25, Try.ntmps25
 go_wp2
 go_loopw [8, 19] (fun v i wr => ∃ t : Nat, t ≤ ps.length ∧ i = .int .i64 t ∧ v = .int .i64 (totTo ps at_ t : Int) ∧ w = wr) (fun _ i _ => ps.length - (intOf i).toNat)
 case atStart => exact ⟨0, Nat.zero_le _, rfl, rfl, rfl⟩
 case round =>
  obtain ⟨t, ht, rfl, rfl, rfl⟩ := hrel
  have hTl := HTL.out t ht
  by_cases hlt : t < ps.length
  ·obtain ⟨b, o, p, A', c', hbo, hb, hp, k1, hr⟩ := RSS.at_ H.out hlt
   subst hbo
   have hcp := hr.caps
   obtain ⟨b3, o3, x, hbo, hb3, hx, q0⟩ := H3.out.at_ (k := t) (by omega)
   subst hbo
   have en := nowAt_of hx
   have el := lenAt_of hp
   have hGt := HG.out.2 t hlt
   have hlt64 := HLEN.out t
   rw [en, el] at hGt
   rw [el] at hlt64
   have HQ : Hid ((totTo ps at_ (t + 1) : Int) = (totTo ps at_ t : Int) + ((p.length : Int) - x)) := by
    show _ = _
    rw [totTo_succ, en, el]; omega
   clear hr hx hp en el
   generalize totTo ps at_ t = T0 at *
   have hdt : decide ((t : Int) < (ps.length : Int)) = true := by simp; omega
   have hs1 : IntKind.i64.wrap ((p.length : Int) - x) = (p.length : Int) - x := IntWalk.i64_in _ (by omega)
   have hs2 : IntKind.i64.wrap ((T0 : Int) + ((p.length : Int) - x)) = (T0 : Int) + ((p.length : Int) - x) := IntWalk.i64_in _ (by omega)
   go_wp2
   go_roundw
   case rel => exact ⟨t + 1, by omega, by go_num, by rw [HQ.out], trivial⟩
   case measure => simp [intOf]; omega
  ·obtain rfl : t = ps.length := by omega
   have HTT : Hid (totTo ps at_ ps.length = total ps at_) := rfl
   rw [HTT.out] at hTl ⊢
   have HLR : Hid (lineR ps arcs at_ = if arcs.any (badArc at_) = true then ([], false) else if total ps (lineFrom (goR ps arcs) (total ps at_) at_).2 = 0 then ((lineFrom (goR ps arcs) (total ps at_) at_).1, true) else ([], false)) := rfl
   have HL0 : Hid (LR (goR ps arcs) (total ps at_) at_ 0 [] at_) := LR.start _ _ _
   have HT0 : Hid (∃ F, F = total ps at_) := ⟨_, rfl⟩
   clear HTT HTL
   have hdt : decide ((ps.length : Int) < (ps.length : Int)) = false := by simp
   go_wp2
   go_loopw [36] (fun i wr => ∃ k : Nat, k ≤ arcs.length ∧ i = .int .i64 k ∧ KeepsAll w wr ∧ (arcs.take k).any (badArc at_) = false) (fun i _ => arcs.length - (intOf i).toNat)
   case atStart => exact ⟨0, Nat.zero_le _, rfl, Keeps.refl _ _, by simp⟩
   case round =>
    obtain ⟨k, hk, rfl, hkr, hno⟩ := hrel
    have KR := Lib.hid hkr; clear hkr
    have HNO := Lib.hid hno; clear hno
    by_cases hlt : k < arcs.length
    ·obtain ⟨b, o, a, hbo, hb, ha, m0, m1, m2, m3, m4⟩ := RRArcs.atK KR.out H2.out hlt
     subst hbo
     have hai := HIN.out a (List.mem_of_getElem? ha)
     obtain ⟨tf, htf⟩ := Int.eq_ofNat_of_zero_le hai.1.1
     obtain ⟨tt, htt⟩ := Int.eq_ofNat_of_zero_le hai.2.1
     have htl : tf < at_.length := by omega
     have htl2 : tt < at_.length := by omega
     obtain ⟨b3, o3, x, hbo, hb3, hx, q0⟩ := RInts.atK KR.out H3.out htl
     subst hbo
     obtain ⟨b4, o4, y, hbo, hb4, hy, q1⟩ := RInts.atK KR.out H3.out htl2
     injection hbo with hbo; injection hbo with hbo1 hbo2; subst hbo1 hbo2
     have HD : Hid (badArc at_ a = (decide (a.to.st ≤ y) && !decide (a.frm.st ≤ x))) := by
      show badArc _ _ = _
      unfold badArc doneR
      rw [htf, htt, Int.toNat_natCast, Int.toNat_natCast, nowAt_of hx, nowAt_of hy]
     have HQ : Hid (badArc at_ a = false → (arcs.take (k + 1)).any (badArc at_) = false) := fun hb => by
      rw [List.take_add_one, ha, Option.toList_some, List.any_append, HNO.out]; simp [hb]
     have HBAD : Hid (badArc at_ a = true → lineR ps arcs at_ = ([], false)) := fun hb => by
      rw [HLR.out, if_pos (List.any_eq_true.2 ⟨a, List.mem_of_getElem? ha, hb⟩)]
     clear ha hx hy hai
     have hdk : decide ((k : Int) < (arcs.length : Int)) = true := by simp; omega
     rw [htf] at m0
     rw [htt] at m2
     go_wp2
     generalize hW2 : World.alloc wr _ = W2
     have KW2 : KeepsAll wr W2 := by subst hW2; exact (Keeps.refl _ _).alloc _
     have BA : Blk W2 wr.heap.size 57 #[.int .i64 (tf : Int), .int .i64 a.frm.st, .int .i64 (tt : Int), .int .i64 a.to.st, .int .i64 a.wt] := by subst hW2; exact Blk.new _ _ _
     have a0 := BA.cell 0
     have a1 := BA.cell 1
     have a2 := BA.cell 2
     have a3 := BA.cell 3
     simp at a0 a1 a2 a3
     have hza := BA.lt
     replace q0 := KW2.cellK (p := ⟨b3, o3 + tf, none⟩) hb3 q0
     replace q1 := KW2.cellK (p := ⟨b3, o3 + tt, none⟩) hb4 q1
     have K2 := Lib.hid (KR.out.tr KW2)
     clear hW2 KW2 BA m0 m1 m2 m3 m4 hb hb3 hb4
     generalize wr.heap.size = za at *
     by_cases g1 : a.to.st ≤ y
     ·have g1' : decide (y ≥ a.to.st) = true := by simpa using g1
      by_cases g2 : a.frm.st ≤ x
      ·have Q := Lib.hid (HQ.out (by rw [HD.out]; simp [g2]))
       have g2' : decide (x < a.frm.st) = false := by simp; omega
       clear g2 HQ HD HBAD
       go_quiet (fail)
       go_wp2
       go_roundw
       case rel => exact ⟨k + 1, by omega, by go_num, K2.out.drewN _, Q.out⟩
       case measure => simp [intOf]; omega
      ·have Q := Lib.hid (HBAD.out (by rw [HD.out]; simp [g1]; omega))
       have g2' : decide (x < a.frm.st) = true := by simp; omega
       clear HQ HD HBAD
       go_quiet (fail)
       go_wp2
       go_ret2
       rw [Q.out]
       exact ⟨_, rfl, RSlice.mkNil, K2.out.drewN _⟩
     ·have g1' : decide (y ≥ a.to.st) = false := by simp; omega
      have Q := Lib.hid (HQ.out (by rw [HD.out]; simp; omega))
      clear g1 HQ HD HBAD
      go_quiet (fail)
      go_wp2
      go_roundw
      case rel => exact ⟨k + 1, by omega, by go_num, K2.out.drewN _, Q.out⟩
      case measure => simp [intOf]; omega
    ·obtain rfl : k = arcs.length := by omega
     rw [List.take_length] at HNO
     have HLR2 : Hid (lineR ps arcs at_ = if total ps (lineFrom (goR ps arcs) (total ps at_) at_).2 = 0 then ((lineFrom (goR ps arcs) (total ps at_) at_).1, true) else ([], false)) := by
      show _ = _
      rw [HLR.out, HNO.out]; rfl
     clear HLR HNO
     obtain ⟨F, hFF⟩ := HT0.out
     rw [← hFF] at HLR2 HL0 hF hTl ⊢
     have HT1 : Hid (F = total ps at_ + 0) := hFF
     clear hFF HT0
     have A4 := Lib.hid (KR.out.rdo' RInts.ok H3.out)
     have hzr := KR.out.size
     go_wp2_with (at_builtin; refine wpList_append_M tyInt RInt.ok RInt.one rfl (.const (.slice none 0 0)) (.tmp 63) rfl (OwnL.nil (base := wr.heap.size) (lo := wr.heap.size)) rfl rfl (S := Old wr) (S2 := fun _ => False) A4.out (fun _ _ h => h) (fun _ h => h.elim) (by simp; omega) (by simp; omega) (Nat.le_refl _) ?_; intro v5 w5 HO5 HK5 HA5; rw [List.nil_append] at HO5; have K5 : KeepsAll wr w5 := HK5.mono (fun _ _ h => (by simp [Value.ownBlock] at h)); obtain ⟨A5, c5, hv5, hc5, hc55⟩ := HO5.form; subst hv5; have HO5' := Lib.hid HO5; have K5' := Lib.hid (KR.out.tr K5); clear HO5 HK5 HA5 K5)
     obtain ⟨g, hg, hgb⟩ := HO5'.out.some_ (by omega)
     subst hg
     have HO6 : Hid (OwnL 3 1 RInt w5 w.heap.size w.heap.size (.slice (some ⟨g, 0, none⟩) at_.length c5) at_) := OwnL.base_mono (OwnL.lo_mono RInt.ok HO5'.out hzr) hzr
     clear HO5' A4 KR
     go_loopw [14] (fun v wr => ∃ (j : Nat) (acc : List Ref) (now : List Int), v.ownBlock ≠ some g ∧ OwnL 46 2 RRef wr w.heap.size w.heap.size v acc ∧ OwnL 3 1 RInt wr w.heap.size w.heap.size (.slice (some ⟨g, 0, none⟩) at_.length c5) now ∧ LR (goR ps arcs) F at_ j acc now ∧ Gd ps now ∧ F = total ps now + j ∧ KeepsAll w wr) (fun v _ => F - slLen v)
     case atStart => exact ⟨0, [], at_, by simp [Value.ownBlock], OwnL.nil, HO6.out, HL0.out, HG.out, HT1.out, K5'.out⟩
     case round =>
      obtain ⟨j, acc, now, hvg, hac, hno, hlr, hgd, htt, hkr⟩ := hrel
      obtain ⟨Ac, cc, rfl, hcc, hcc2⟩ := hac.form
      have HJL := Lib.hid hlr.1
      have hjF := hlr.2.1
      have haF : acc.length ≤ 650 := by have := HJL.out; omega
      have HAC := Lib.hid hac; have HNW := Lib.hid hno; have HLR := Lib.hid hlr; have HGN := Lib.hid hgd; have KR := Lib.hid hkr; have HVG := Lib.hid hvg
      have hgl := (hno.lt (b := g) (by simp [Value.ownBlock]))
      have hnl := hgd.1
      have nl1 : now.length ≤ ps.length := by omega
      have nl2 : ps.length ≤ now.length := by omega
      have nl3 : now.length = at_.length := by omega
      have HTT := Lib.hid htt
      clear hac hno hlr hgd hkr hvg hnl htt
      by_cases hlt : j < F
      ·have hacF : acc.length < F := by have := HJL.out; omega
       have HRD : Hid (∀ W, KeepsAll wr W → ∀ u : Ref, Calls Try.prog 62 #[.slice A2 arcs.length c2, .slice (some ⟨g, 0, none⟩) at_.length c5, .agg #[.int .i64 u.tr, .int .i64 u.st]] W fun e w' => e = .returned (.bool (rdyR arcs now u)) ∧ KeepsAll W w') := fun W hW u => by
        have hr := (HNW.out.keeps RInt.ok hW (fun _ _ h => h.elim)).read RInt.ok (by omega) (S := Old W) (fun _ _ h => h) (fun _ _ h => h)
        rw [← nl3] at hr ⊢
        exact RefReady_any arcs now A2 _ c2 c5 u W ((KR.out.tr hW).rdo' RRArcs.ok H2.out) hr (fun a ha => by have := (HIN.out a ha).1; omega)
       obtain ⟨wo, rfl⟩ : ∃ wo : World, wo = wr := ⟨_, rfl⟩
       go_wp2
       go_loopw [15, 16] (fun vf vt wr => ∃ (t : Nat) (x : Int), t ≤ ps.length ∧ vt = .int .i64 t ∧ vf = .int .i64 x ∧ FindInv ps arcs now t x ∧ KeepsAll wo wr) (fun _ vt _ => ps.length - (intOf vt).toNat)
       case atStart => exact ⟨0, -1, Nat.zero_le _, rfl, rfl, .inl ⟨rfl, fun u hu => by omega⟩, Keeps.refl _ _⟩
       case round =>
        obtain ⟨t, x, ht, rfl, rfl, hinv, hki⟩ := hrel
        rcases hinv with ⟨rfl, hun⟩ | ⟨f, hinv, rfl, hgf, hun⟩
        ·by_cases hlt2 : t < ps.length
         ·have hd1 : decide ((t : Int) < (ps.length : Int)) = true := by simp; omega
          obtain ⟨b, o, p, A', c', hbo, hb, hp, k1, hr⟩ := RSS.atK (KR.out.tr hki) H.out hlt2
          subst hbo
          have hcp := hr.caps
          have hrn : RInts wr (Old wr) [.slice (some ⟨g, 0, none⟩) at_.length c5] now := (HNW.out.keeps RInt.ok hki (fun _ _ h => h.elim)).read RInt.ok (by omega) (S := Old wr) (fun _ _ h => h) (fun _ _ h => h)
          obtain ⟨b', o', xt, hb', _, hx', q0⟩ := hrn.at_ (k := t) (by omega)
          clear hrn
          injection hb' with hb'; injection hb' with hb1' hb2'
          subst hb1' hb2'
          rw [Nat.zero_add] at q0
          have en := nowAt_of hx'
          have el := lenAt_of hp
          have hGt := HGN.out.2 t hlt2
          rw [en, el] at hGt
          have hl64 := HLEN.out t
          rw [el] at hl64
          have HGC : Hid (goC ps arcs now t = (decide (xt < (p.length : Int)) && rdyR arcs now ⟨(t : Int), xt + 1⟩)) := by
           show goC _ _ _ _ = _
           unfold goC
           rw [en, el]
          have HUN := Lib.hid hun
          have KI := Lib.hid hki
          have HCL : Hid (∀ xx : Ext wr, Calls Try.prog 62 #[.slice A2 arcs.length c2, .slice (some ⟨g, 0, none⟩) at_.length c5, .agg #[.int .i64 (t : Int), .int .i64 (xt + 1)]] xx.val fun e w'' => e = .returned (.bool (rdyR arcs now ⟨(t : Int), xt + 1⟩)) ∧ ∃ y : Ext wr, w'' = y.val) := fun xx => ext_call xx (HRD.out xx.val (KI.out.tr xx.keeps) ⟨(t : Int), xt + 1⟩)
          have hgi : g < wr.heap.size := Nat.lt_of_lt_of_le hgl.2 KI.out.size
          clear hr hp hx' en el hun hki
          by_cases g1 : xt < p.length
          ·have g1' : decide (xt < (p.length : Int)) = true := by simpa using g1
           have hs1 : IntKind.i64.wrap (xt + 1) = xt + 1 := IntWalk.i64_in _ (by omega)
           rw [g1', Bool.true_and] at HGC
           generalize rdyR arcs now ⟨(t : Int), xt + 1⟩ = rb at HCL HGC
           go_wp2_with fail
           refine wp_region_ext (by kernel_rfl) (by kernel_rfl) ?_
           have y1 := Ext.cell q0
           have y2 := Ext.cell k1
           repeat (go_big_quiet_step ((go_at_call 62; exact HCL.out _)))
           refine wpQuiet_nil ?_
           rintro _ ⟨X, rfl⟩
           have KX := Lib.hid (KI.out.tr X.keeps)
           clear y1 y2 q0 k1
           generalize X.val = WX at *
           cases rb with
           | true =>
            have Q : Hid (FindInv ps arcs now (t + 1) (t : Int)) := .inr ⟨t, rfl, rfl, HGC.out, HUN.out⟩
            clear HCL HGC g1 g1'
            go_wp2
            go_roundw
            case rel => exact ⟨t + 1, (t : Int), by omega, by go_num, rfl, Q.out, KX.out⟩
            case measure => simp [intOf]; omega
           | false =>
            have Q : Hid (FindInv ps arcs now (t + 1) (-1)) := .inl ⟨rfl, fun u hu => by
             by_cases e : u = t
             ·rw [e]; exact HGC.out
             ·exact HUN.out u (by omega)⟩
            clear HCL HGC g1 g1'
            go_wp2
            go_roundw
            case rel => exact ⟨t + 1, -1, by omega, by go_num, rfl, Q.out, KX.out⟩
            case measure => simp [intOf]; omega
          ·have g1' : decide (xt < (p.length : Int)) = false := by simpa using g1
           have Q : Hid (FindInv ps arcs now (t + 1) (-1)) := .inl ⟨rfl, fun u hu => by
            by_cases e : u = t
            ·rw [e, HGC.out, g1']; rfl
            ·exact HUN.out u (by omega)⟩
           clear g1 HCL HGC
           go_wp2_with fail
           go_quiet (fail)
           go_wp2
           go_roundw
           case rel => exact ⟨t + 1, -1, by omega, by go_num, rfl, Q.out, KI.out.drewN _⟩
           case measure => simp [intOf]; omega
         ·obtain rfl : t = ps.length := by omega
          have HN0 := Lib.hid (FindInv.none_ hun)
          have HE := Lib.hid (HLR.out.stuck hlt HN0.out)
          have HLR3 : Hid (lineR ps arcs at_ = ([], false)) := by
           show _ = _
           have := HTT.out
           rw [HLR2.out, HE.out, if_neg (by simp; omega)]
          have KI := Lib.hid (KR.out.tr hki)
          have hd1 : decide ((ps.length : Int) < (ps.length : Int)) = false := by simp
          clear hki hun HLR2 HN0 HE
          go_wp2
          go_ret2
          rw [HLR3.out]
          exact ⟨_, rfl, RSlice.mkNil, KI.out⟩
        ·obtain ⟨bb, hbb⟩ : ∃ bb, decide ((t : Int) < (ps.length : Int)) = bb := ⟨_, rfl⟩
         have hf0 : decide ((f : Int) < 0) = false := by simp
         have hfl : f < ps.length := by omega
         have HGO := Lib.hid (find_range hfl hgf hun)
         have HSND := Lib.hid (goR_sound ps arcs now f HGO.out)
         have hrn : RInts wr (Old wr) [.slice (some ⟨g, 0, none⟩) at_.length c5] now := (HNW.out.keeps RInt.ok hki (fun _ _ h => h.elim)).read RInt.ok (by omega) (S := Old wr) (fun _ _ h => h) (fun _ _ h => h)
         obtain ⟨b', o', xf, hb', _, hx', q0⟩ := hrn.at_ (k := f) (by omega)
         clear hrn
         injection hb' with hb'; injection hb' with hb1' hb2'
         subst hb1' hb2'
         rw [Nat.zero_add] at q0
         have q1 := (HNW.out.keeps RInt.ok hki (fun _ _ h => h.elim)).frz f
         have HNF := Lib.hid (nowAt_of hx')
         have hGf := HGN.out.2 f hfl
         rw [HNF.out] at hGf
         have hl64 := HLEN.out f
         have KI := Lib.hid hki
         have HNWi := Lib.hid (HNW.out.keeps RInt.ok hki (fun _ _ h => h.elim))
         have HACi := Lib.hid (HAC.out.keeps RRef.ok hki (fun _ _ h => h.elim))
         have hs1 : IntKind.i64.wrap (xf + 1) = xf + 1 := IntWalk.i64_in _ (by omega)
         have hgi : g < wr.heap.size := Nat.lt_of_lt_of_le hgl.2 KI.out.size
         clear hki hgf hun hx' hinv
         have HACs : Hid (OwnL 46 2 RRef (wr.setCell ⟨g, f, none⟩ (.int .i64 (xf + 1))) w.heap.size w.heap.size (.slice Ac acc.length cc) acc) := HACi.out.keepsF RRef.flat (C := fun b => b = g) ((Keeps.refl (fun b => b = g) wr).setCell (p := ⟨g, f, none⟩) (fun _ => rfl) _) (fun b hb e => HVG.out (by rw [← e]; exact hb))
         have HNWs : Hid (OwnL 3 1 RInt (wr.setCell ⟨g, f, none⟩ (.int .i64 (xf + 1))) w.heap.size w.heap.size (.slice (some ⟨g, 0, none⟩) at_.length c5) (now.set f (nowAt now f + 1))) := by
          show OwnL _ _ _ _ _ _ _ _
          rw [HNF.out]; exact HNWi.out.setI f _
         have KS : Hid (KeepsAll w (wr.setCell ⟨g, f, none⟩ (.int .i64 (xf + 1)))) := (KR.out.tr KI.out).setCell (fun h => absurd h (by simp; omega)) _
         have QLR : Hid (LR (goR ps arcs) F at_ (j + 1) (acc ++ [⟨(f : Int), xf + 1⟩]) (now.set f (nowAt now f + 1))) := by
          have q := HLR.out.step hlt HGO.out
          rw [HNF.out] at q ⊢; exact q
         have QGD := Lib.hid (HGN.out.step hfl HSND.out.2)
         have QT : Hid (F = total ps (now.set f (nowAt now f + 1)) + (j + 1)) := by
          show _ = _
          have q1 := total_step HGN.out hfl HSND.out.2
          have q2 := HTT.out
          omega
         have hszs : (wr.setCell ⟨g, f, none⟩ (.int .i64 (xf + 1))).heap.size = wr.heap.size := by simp [World.setCell]
         have HSZS := Lib.hid hszs
         clear hszs HLR HGN HTT HNWi HACi
         have HFIN : Hid (∀ w9 v9, OwnL 46 2 RRef w9 w.heap.size w.heap.size v9 (acc ++ [⟨(f : Int), xf + 1⟩]) → Keeps (fun b => (Value.slice Ac acc.length cc).ownBlock = some b) ((wr.setCell ⟨g, f, none⟩ (.int .i64 (xf + 1))).alloc (.cells #[.int .i64 (f : Int), .int .i64 (xf + 1)] 46)) w9 → (v9.ownBlock = (Value.slice Ac acc.length cc).ownBlock ∨ v9.ownBlock = some ((wr.setCell ⟨g, f, none⟩ (.int .i64 (xf + 1))).alloc (.cells #[.int .i64 (f : Int), .int .i64 (xf + 1)] 46)).heap.size) → v9.ownBlock ≠ some g ∧ OwnL 3 1 RInt w9 w.heap.size w.heap.size (.slice (some ⟨g, 0, none⟩) at_.length c5) (now.set f (nowAt now f + 1)) ∧ KeepsAll w w9) := fun w9 v9 ho hk ha => by
          refine ⟨?_, (HNWs.out.alloc RInt.ok _).keepsF RInt.flat hk (fun b hb e => HVG.out (by rw [e, ← hb]; rfl)), (KS.out.alloc _).trans hk (fun x hx e => by have := HACs.out.lt e; omega)⟩
          rcases ha with ha | ha
          ·rw [ha]; exact HVG.out
          ·rw [ha]; intro e; injection e with e; simp at e; have := HSZS.out; omega
         clear KS HNWs HSND
         cases bb
         all_goals (go_wp2_with (at_builtin; refine wpList_append_L tyRef RRef.ok rfl (.tmp 110) (.tmp 117) rfl (HACs.out.alloc RRef.ok _) rfl _ [.int .i64 (f : Int), .int .i64 (xf + 1)] rfl (Blk.new' _ _ _ (by simp)) rfl ⟨(f : Int), xf + 1⟩ (S := fun _ => False) rfl (fun _ h => h.elim) (by simp [Value.oneCell']) (by omega) (by omega) (by simp; omega) ?_; intro v9 w9 HO9 HK9 HA9; have HF9 := Lib.hid (HFIN.out w9 v9 HO9 HK9 HA9); obtain ⟨A9, c9, hv9, _, _⟩ := HO9.form; rw [List.length_append, List.length_singleton] at hv9; subst hv9))
         all_goals (
          go_roundw
          case rel => exact ⟨j + 1, _, _, HF9.out.1, HO9, HF9.out.2.1, QLR.out, QGD.out, QT.out, HF9.out.2.2⟩
          case measure => simp [slLen]; omega)
      ·have hjF2 : j = F := by omega
       have hacF : decide (acc.length < F) = false := by have := HJL.out; simp; omega
       have HE := Lib.hid ((show LR (goR ps arcs) F at_ F acc now by have q := HLR.out; rw [hjF2] at q; exact q).full)
       have hT0 : total ps now = 0 := by have := HTT.out; omega
       have HLR3 : Hid (lineR ps arcs at_ = (acc, true)) := by show _ = _; rw [HLR2.out, HE.out, if_pos hT0]
       have HRA := Lib.hid (HAC.out.read RRef.ok (by omega) (S := Fresh w wr) (fun _ h h' => ⟨h, h'⟩) (fun _ h h' => ⟨h, h'⟩))
       clear HE HLR2 hT0 hjF2 HTT
       go_wp2
       go_ret2
       rw [HLR3.out]
       exact ⟨_, rfl, HRA.out, KR.out⟩

theorem LineOf_any (ps : List (List Stage)) (arcs : List RArc) (at_ : List Int) (A A2 A3 : Option Addr) (c c2 c3 : Nat) (w : World) (h : RPaths w (Old w) [.slice A ps.length c] ps) (h2 : RRArcs w (Old w) [.slice A2 arcs.length c2] arcs) (h3 : RInts w (Old w) [.slice A3 at_.length c3] at_)
  (hv : valid ps = true) (h1 : 1 ≤ ps.length) (hg : Gd ps at_) (hin : ∀ a ∈ arcs, (0 ≤ a.frm.tr ∧ a.frm.tr < ps.length) ∧ 0 ≤ a.to.tr ∧ a.to.tr < ps.length) :
  Calls Try.prog 25 #[.slice A ps.length c, .slice A2 arcs.length c2, .slice A3 at_.length c3] w fun e w' => ∃ v, e = .returned (.tuple #[v, .bool (lineR ps arcs at_).2]) ∧ RRefs w' (Old w') [v] (lineR ps arcs at_).1 ∧ KeepsAll w w' := by
 refine (LineOf_fresh ps arcs at_ A A2 A3 c c2 c3 w h h2 h3 hv h1 hg hin).mono ?_
 rintro e w' ⟨v, q1, q2, q3⟩
 exact ⟨v, q1, RRefs.ok.mono q2 (S' := Old w') (fun b hb => hb.2) (fun _ _ => rfl), q3⟩

theorem Keeps.setRow (w : World) (g : Nat) (arr : Array Value) : Keeps (fun b => b = g) w (w.setRow g arr) := by
 refine ⟨rfl, rfl, rfl, by simp [World.setRow], fun k _ hn => ?_⟩
 unfold World.setRow
 simp only [Array.getElem?_modify]
 rw [if_neg (fun e => hn e.symm)]
theorem Blk.setRow {w : World} {g : Nat} {t : TypeId} {cs : Array Value} (h : Blk w g t cs) (arr : Array Value) : Blk (w.setRow g arr) g t arr := setRow_heap w g cs arr t (0, 0) h
theorem Blk.drew_ {w : World} {g : Nat} {t : TypeId} {cs : Array Value} (h : Blk w g t cs) : Blk w.drew g t cs := h

def rowOf (ps : List (List Stage)) (T : Tab) (t : Nat) : List Int := (List.range (lenAt ps t + 1)).map fun k : Nat => T ⟨(t : Int), (k : Int)⟩
def tabOf (ps : List (List Stage)) (T : Tab) : List (List Int) := (List.range ps.length).map fun t => rowOf ps T t
theorem rowOf_len (ps : List (List Stage)) (T : Tab) (t : Nat) : (rowOf ps T t).length = lenAt ps t + 1 := by simp [rowOf]
theorem rowOf_at {ps : List (List Stage)} (T : Tab) {t k : Nat} (hk : k ≤ lenAt ps t) : (rowOf ps T t)[k]? = some (T ⟨(t : Int), (k : Int)⟩) := by
 unfold rowOf
 rw [List.getElem?_map, List.getElem?_range (by omega)]; rfl
theorem tabOf_len (ps : List (List Stage)) (T : Tab) : (tabOf ps T).length = ps.length := by simp [tabOf]
theorem tabOf_at {ps : List (List Stage)} (T : Tab) {t : Nat} (ht : t < ps.length) : (tabOf ps T)[t]? = some (rowOf ps T t) := by
 unfold tabOf
 rw [List.getElem?_map, List.getElem?_range ht]; rfl
theorem rowOf_upd_other {ps : List (List Stage)} {T : Tab} {t u k : Nat} {x : Int} (h : u ≠ t) : rowOf ps (upd T ⟨(t : Int), (k : Int)⟩ x) u = rowOf ps T u := by
 unfold rowOf
 apply List.map_congr_left
 intro j _
 unfold upd
 rw [if_neg]
 intro e; injection e with e1 e2; omega
theorem rowOf_upd {ps : List (List Stage)} {T : Tab} {t k : Nat} {x : Int} : rowOf ps (upd T ⟨(t : Int), (k : Int)⟩ x) t = (rowOf ps T t).set k x := by
 apply List.ext_getElem?
 intro j
 rw [List.getElem?_set]
 by_cases hj : j < lenAt ps t + 1
 ·rw [rowOf_at _ (by omega)]
  by_cases e : k = j
  ·subst e
   rw [if_pos rfl, if_pos (by rw [rowOf_len]; exact hj)]
   unfold upd; rw [if_pos rfl]
  ·rw [if_neg e, rowOf_at _ (by omega)]
   unfold upd
   rw [if_neg]
   intro e'; injection e' with e1 e2; omega
 ·have h1 : (rowOf ps (upd T ⟨(t : Int), (k : Int)⟩ x) t)[j]? = none := List.getElem?_eq_none (by rw [rowOf_len]; omega)
  have h2 : (rowOf ps T t)[j]? = none := List.getElem?_eq_none (by rw [rowOf_len]; omega)
  rw [h1, h2]
  by_cases e : k = j
  ·rw [if_pos e, if_neg (by rw [rowOf_len]; omega)]
  ·rw [if_neg e]
theorem rowOf_const (ps : List (List Stage)) (x : Int) (t : Nat) : rowOf ps (fun _ => x) t = List.replicate (lenAt ps t + 1) x := by
 unfold rowOf
 rw [List.map_const']; simp

def slT (ps : List (List Stage)) (gs : Nat → Nat) (t : Nat) : Value := .slice (some ⟨gs t, 0, none⟩) (lenAt ps t + 1) (lenAt ps t + 1)
structure Tb (ps : List (List Stage)) (w wr : World) (N m : Nat) (gs : Nat → Nat) (T : Tab) : Prop where
 n : ∃ cur, Blk wr N 22 cur ∧ ∀ t, t < m → cur[t]? = some (slT ps gs t)
 r : ∀ t, t < m → Blk wr (gs t) 3 (cellsI (rowOf ps T t))
 inj : ∀ t u, t < m → u < m → gs t = gs u → t = u
 lo : ∀ t, t < m → w.heap.size ≤ gs t
 nlo : w.heap.size ≤ N
 k : KeepsAll w wr
section
variable {ps : List (List Stage)} {w wr w' : World} {N m : Nat} {gs : Nat → Nat} {T : Tab}
theorem Tb.keep (h : Tb ps w wr N m gs T) (k : KeepsAll wr w') : Tb ps w w' N m gs T := by
 obtain ⟨cur, h1, h2⟩ := h.n
 exact ⟨⟨cur, h1.kept k (by simp), h2⟩, fun t ht => (h.r t ht).kept k (by simp), h.inj, h.lo, h.nlo, h.k.tr k⟩
theorem Tb.ne (h : Tb ps w wr N m gs T) {t : Nat} (ht : t < m) : N ≠ gs t := by
 obtain ⟨cur, h1, h2⟩ := h.n
 exact Blk.ne_ h1 (h.r t ht) (by decide)
theorem Tb.outer (h : Tb ps w wr N m gs T) {t : Nat} (ht : t < m) : wr.cell? ⟨N, t, none⟩ = some (slT ps gs t) := by
 obtain ⟨cur, h1, h2⟩ := h.n
 rw [h1.cell, h2 t ht]
theorem Tb.inner (h : Tb ps w wr N m gs T) {t k : Nat} (ht : t < m) (hk : k ≤ lenAt ps t) : wr.cell? ⟨gs t, k, none⟩ = some (.int .i64 (T ⟨(t : Int), (k : Int)⟩)) := by
 rw [(h.r t ht).cell, cellsI_at (rowOf_at T hk)]
theorem Tb.nlt (h : Tb ps w wr N m gs T) : N < wr.heap.size := by obtain ⟨cur, h1, _⟩ := h.n; exact h1.lt
theorem Tb.set (h : Tb ps w wr N m gs T) {t k : Nat} (ht : t < m) (x : Int) : Tb ps w (wr.setCell ⟨gs t, k, none⟩ (.int .i64 x)) N m gs (upd T ⟨(t : Int), (k : Int)⟩ x) := by
 obtain ⟨cur, h1, h2⟩ := h.n
 refine ⟨⟨cur, h1.far (h.ne ht) _, h2⟩, fun u hu => ?_, h.inj, h.lo, h.nlo, h.k.setCell (fun hh => absurd hh (by have := h.lo t ht; simp; omega)) _⟩
 by_cases e : u = t
 ·subst e
  rw [rowOf_upd, ← cellsI_set]
  exact (h.r u hu).set_ k _
 ·rw [rowOf_upd_other e]
  exact (h.r u hu).far (fun e' => e (h.inj u t hu ht e')) _
theorem Tb.congr {T' : Tab} (h : Tb ps w wr N m gs T) (he : ∀ t, t < m → rowOf ps T t = rowOf ps T' t) : Tb ps w wr N m gs T' :=
 ⟨h.n, fun t ht => by rw [← he t ht]; exact h.r t ht, h.inj, h.lo, h.nlo, h.k⟩
theorem Tb.read (h : Tb ps w wr N ps.length gs T) {c : Nat} (hc : ps.length ≤ c) (hc2 : c ≤ 9223372036854775807) (hl : ∀ t, lenAt ps t ≤ 1000000) : RIntss wr (Old wr) [.slice (some ⟨N, 0, none⟩) ps.length c] (tabOf ps T) := by
 refine ⟨_, _, by rw [tabOf_len], by rw [tabOf_len]; exact hc, hc2, fun _ => ⟨N, 0, rfl, h.nlt, fun j x hx => ?_⟩⟩
 have hj : j < ps.length := by have := getElem?_lt hx; rwa [tabOf_len] at this
 rw [tabOf_at T hj] at hx
 injection hx with hx
 subst hx
 refine ⟨[slT ps gs j], rfl, ?_, fun i u hu => ?_⟩
 ·have := RInts.ofBlk (S := Old wr) (rowOf ps T j) (h.r j hj) (h.r j hj).lt (by rw [rowOf_len]; have := hl j; omega)
  rw [rowOf_len] at this
  exact this
 ·have : i = 0 := by have := getElem?_lt hu; simp at this; omega
  subst this
  simp at hu; subst hu
  simpa using h.outer hj
def gsAdd (gs : Nat → Nat) (m g : Nat) : Nat → Nat := fun u => if u = m then g else gs u
theorem Tb.add {x : Int} (h : Tb ps w wr N m gs (fun _ => x)) (k : KeepsAll wr w') {g : Nat} (hg : wr.heap.size ≤ g) (hb : Blk w' g 3 (cellsI (List.replicate (lenAt ps m + 1) x))) {cur : Array Value} (hn : Blk w' N 22 cur) (hcur : ∀ t, t < m → cur[t]? = some (slT ps gs t)) (hm : m < cur.size) :
  Tb ps w (w'.setCell ⟨N, m, none⟩ (.slice (some ⟨g, 0, none⟩) (lenAt ps m + 1) (lenAt ps m + 1))) N (m + 1) (gsAdd gs m g) (fun _ => x) := by
 have hgs : ∀ t, t < m → gs t < wr.heap.size := fun t ht => (h.r t ht).lt
 have hw := h.k.size
 have hNg : N ≠ g := by have := h.nlt; omega
 refine ⟨⟨_, hn.set_ m _, fun t ht => ?_⟩, fun t ht => ?_, fun t u ht hu he => ?_, fun t ht => ?_, h.nlo, (h.k.tr k).setCell (fun hh => absurd hh (by have := h.nlo; simp; omega)) _⟩
 ·rw [Array.getElem?_setIfInBounds]
  unfold slT gsAdd
  by_cases e : t = m
  ·subst e; simp [hm]
  ·rw [if_neg (fun e' => e e'.symm), hcur t (by omega)]
   unfold slT
   rw [if_neg e]
 ·unfold gsAdd
  by_cases e : t = m
  ·subst e; rw [if_pos rfl, rowOf_const]; exact hb.far (fun e => hNg e.symm) _
  ·rw [if_neg e]
   exact ((h.r t (by omega)).kept k (by simp)).far (fun e' => h.ne (by omega) e'.symm) _
 ·unfold gsAdd at he
  by_cases e1 : t = m
  ·by_cases e2 : u = m
   ·omega
   ·rw [if_pos e1, if_neg e2] at he
    have := hgs u (by omega); omega
  ·by_cases e2 : u = m
   ·rw [if_neg e1, if_pos e2] at he
    have := hgs t (by omega); omega
   ·rw [if_neg e1, if_neg e2] at he
    exact h.inj t u (by omega) (by omega) he
 ·unfold gsAdd
  by_cases e1 : t = m
  ·rw [if_pos e1]; omega
  ·rw [if_neg e1]; exact h.lo t (by omega)
end

def Bd (T : Tab) (B : Int) : Prop := ∀ x, -1 ≤ T x ∧ T x ≤ B
theorem secs_bd {step : Tab → Ref → Int} {M : Int} (hM : 0 ≤ M) (hs : ∀ (T : Tab) (B : Int) (u : Ref), M ≤ B → Bd T B → -1 ≤ step T u ∧ step T u ≤ B + M) : ∀ (L : List Ref) (T : Tab) (B : Int), M ≤ B → Bd T B → Bd (secs step T L) (B + M * (L.length : Int))
 | [], T, B, _, h => by simpa [secs] using h
 | u :: L, T, B, hB, h => by
  have e : secs step T (u :: L) = secs step (upd T u (step T u)) L := rfl
  have h1 := hs T B u hB h
  have h2 : Bd (upd T u (step T u)) (B + M) := fun x => by
   unfold upd
   split
   ·exact h1
   ·have := h x; omega
  have := secs_bd hM hs L _ (B + M) (by omega) h2
  rw [e]
  rw [List.length_cons, show B + M * ((L.length + 1 : Nat) : Int) = B + M + M * (L.length : Int) from by rw [Int.natCast_add, Int.mul_add]; simp; omega]
  exact this
theorem baseS_bd {ps : List (List Stage)} (hv : valid ps = true) {n : Int} (hn : 0 ≤ n ∧ n ≤ 4194304) (u : Ref) : 0 ≤ baseS ps n u ∧ baseS ps n u ≤ 4194304 := by
 unfold baseS
 cases e1 : ps[u.tr.toNat]? with
 | none => simp; exact hn
 | some p =>
  simp only [Option.getD_some]
  cases e2 : p[u.st.toNat]? with
  | none => simp; exact hn
  | some s =>
   have := (valid_clk hv e1 e2).2
   simp only [Option.elim_some]
   omega

def mnAt (ps : List (List Stage)) (t k : Nat) : Int := (((ps[t]?).getD [])[k]?).elim 0 (·.mn)
def base2 (ps : List (List Stage)) (at_ : List Int) (n : Int) (t k : Nat) : Int := if 0 < k ∧ (k : Int) - 1 = nowAt at_ t then max (baseS ps n ⟨(t : Int), (k : Int)⟩) (n + mnAt ps t (k - 1)) else baseS ps n ⟨(t : Int), (k : Int)⟩

end Go.Proofs.Ytilbbpbjhoidhaa
