/- Contract of the reference's Cost of chapter 37. Conditions: as the theorem says. Contract of the reference's Open of chapter 37. Conditions: as the theorem says. Contract of the reference's Pairs of chapter 37. Conditions: as the theorem says. -/
import Derived.Test.YtilbbpbjhoidhaaE34
import Derived.Test.YtilbbpbjhoidhaaE33
import Derived.Test.YtilbbpbjhoidhaaE12
namespace Go.Proofs.Ytilbbpbjhoidhaa
open Go.RowKit

set_option maxRecDepth 100000 in
set_option maxHeartbeats 1000000 in
theorem RDspCost_any (p : Pb) (v : PV) (w : World) (h : RPb w (Old w) v p) (en : List (List Int)) (A : Option Addr) (c : Nat) (hE : RIntss w (Old w) [.slice A en.length c] en) :
  Calls Try.prog 26 #[.agg (v.cs p), .slice A en.length c] w fun e w' => e = .returned (.int .i64 (costE p en)) ∧ KeepsAll w w' := by
 have KB : KeepsAll w (w.alloc (.cells #[.slice v.A p.ps.length v.c, .slice v.A2 p.at_.length v.c2, .slice v.A3 p.due.length v.c3, .slice v.A4 p.wgt.length v.c4, .int .i64 p.now] 25)) := (Keeps.refl _ _).alloc _
 have BB : Hid (Blk (w.alloc (.cells #[.slice v.A p.ps.length v.c, .slice v.A2 p.at_.length v.c2, .slice v.A3 p.due.length v.c3, .slice v.A4 p.wgt.length v.c4, .int .i64 p.now] 25)) w.heap.size 25 (v.cs p)) := Blk.new _ _ _
 have CALL : Hid (∀ Q : Ending → World → Prop, (∀ w1, KeepsAll w w1 → Blk w1 w.heap.size 25 (v.cs p) → Q (.returned (.bool (checkP p))) w1) → Calls Try.prog 21 #[.agg #[.slice v.A p.ps.length v.c, .slice v.A2 p.at_.length v.c2, .slice v.A3 p.due.length v.c3, .slice v.A4 p.wgt.length v.c4, .int .i64 p.now]] (w.alloc (.cells #[.slice v.A p.ps.length v.c, .slice v.A2 p.at_.length v.c2, .slice v.A3 p.due.length v.c3, .slice v.A4 p.wgt.length v.c4, .int .i64 p.now] 25)) Q) := Lib.hid fun Q hQ => (RDspCheck_any p v _ (h.kept KB)).mono (by rintro e w1 ⟨rfl, k1⟩; exact hQ w1 (KB.tr k1) (BB.out.kept k1 (by simp)))
 have H := Lib.hid h
 have HE := Lib.hid hE
 clear h hE KB BB
 have hcs : Hid (v.cs p = #[.slice v.A p.ps.length v.c, .slice v.A2 p.at_.length v.c2, .slice v.A3 p.due.length v.c3, .slice v.A4 p.wgt.length v.c4, .int .i64 p.now]) := Lib.hid rfl
 rw [hcs.out]
 cases g0 : checkP p with
 | false =>
  have QQ := Lib.hid (costE_no (en := en) (.inl g0))
  go_enter Try.func26, Try.ntmps26
  go_wp2_with fail
  refine CALL.out _ fun w1 k1 hb => ?_
  rw [g0]
  have K1 := Lib.hid k1
  clear k1 hb g0
  go_wp2
  go_ret
  exact ⟨by rw [QQ.out]; rfl, K1.out⟩
 | true =>
  have HO := Lib.hid (checkP_ok g0)
  have hps10 := (valid_lens HO.out.v).1
  by_cases g1 : en.length = p.ps.length
  ·have g1' : ((en.length : Int) != (p.ps.length : Int)) = false := by rw [g1]; simp
   have G1 := Lib.hid g1
   have G0 := Lib.hid g0
   go_enter Try.func26, Try.ntmps26
   go_wp2_with fail
   refine CALL.out _ fun w1 k1 hb => ?_
   rw [g0]
   have K1 := Lib.hid k1
   have H1 := Lib.hid (H.out.kept k1)
   have HE1 := Lib.hid (k1.rdo' (RSlice.ok RInts.ok) HE.out)
   have HB := Lib.hid hb
   rw [hcs.out] at hb
   have c0 := hb.cell 0
   simp at c0
   have hz := hb.lt
   clear k1 hb g0 g1
   generalize w.heap.size = z at *
   go_wp2
   go_loopw [24, 5] (fun i sm wr => ∃ k : Nat, k ≤ en.length ∧ i = .int .i64 (k : Int) ∧ sm = .int .i64 (costEn p en k) ∧ KeepsAll w1 wr ∧ (∀ t, t < k → enOk p en t = true)) (fun i _ _ => en.length - (intOf i).toNat)
   case atStart => exact ⟨0, by omega, rfl, rfl, Keeps.refl _ _, fun t ht => by omega⟩
   case round =>
    obtain ⟨k, hk, rfl, rfl, kr, hall⟩ := hrel
    have KR := Lib.hid kr
    have HALL := Lib.hid hall
    have hbd := costEn_bd HO.out k (by rw [← G1.out]; exact hk) (fun t ht => (enOk_last (hall t ht)).2)
    clear hall
    by_cases hlt0 : k < en.length
    ·have hlt : k < p.ps.length := by rw [← G1.out]; exact hlt0
     have hlt' : decide (k < en.length) = true := decide_eq_true hlt0
     obtain ⟨bp, op, l, Al, cl, hAp, hbp, hpl, p0, _⟩ := RSS.atK kr H1.out.P hlt
     obtain ⟨be, oe, r, Ar, cr, hAe, hbe, her, e0, hrr⟩ := RSS.atK kr HE1.out (show k < en.length by rw [G1.out]; exact hlt)
     have hll : lenAt p.ps k = l.length := by unfold lenAt; rw [hpl]; rfl
     have hvc : v.A = some ⟨bp, op, none⟩ := hAp
     have HLL := Lib.hid hll
     have HER := Lib.hid her
     have HRR := Lib.hid (kr.rdo' RInts.ok hrr)
     have hl64 := ((valid_lens HO.out.v).2 l (List.mem_of_getElem? hpl)).2
     have hke : k < en.length := by rw [G1.out]; exact hlt
     have HBR := Lib.hid (HB.out.kept kr (by simp))
     have H1R := Lib.hid (H1.out.kept kr)
     subst hAe
     have hbr := HBR.out
     rw [hcs.out] at hbr
     have b0 := hbr.cell 0
     have b1 := hbr.cell 1
     have b2 := hbr.cell 2
     have b3 := hbr.cell 3
     have b5 := hbr.cell 4
     simp at b0 b1 b2 b3 b5
     rw [hvc] at b0
     have hbz := hbr.lt
     clear hpl hll her hrr c0 hAp hvc hbr
     have EN : Hid (enOk p en k = (decide (r.length = l.length + 1) && r.all secOk)) := by
      show _ = _
      unfold enOk
      rw [HER.out, ← HLL.out]
     by_cases g3 : r.length = l.length + 1
     ·have g3' : ((r.length : Int) != (l.length : Int) + 1) = false := by rw [g3]; simp
      have G3 := Lib.hid g3
      clear g3
      go_wp2
      go_loop [41] (fun i => ∃ m : Nat, m ≤ r.length ∧ i = .int .i64 (m : Int) ∧ (∀ x ∈ r.take m, secOk x = true)) (fun i => r.length - (intOf i).toNat)
      case atStart => exact ⟨0, by omega, rfl, by simp⟩
      case round =>
       obtain ⟨m, hm, rfl, hsec⟩ := hrel
       have HSEC := Lib.hid hsec
       clear hsec
       by_cases hlt2 : m < r.length
       ·have hlt2' : decide (m < r.length) = true := decide_eq_true hlt2
        obtain ⟨b4, o4, x, hA4, _, hx, x0⟩ := HRR.out.at_ hlt2
        subst hA4
        have HX := Lib.hid hx
        clear hx
        have hbad : Hid (secOk x = false → costE p en = 0) := Lib.hid fun hs => costE_no (.inr (.inr ⟨k, hlt, by
         rw [EN.out]
         rw [Bool.and_eq_false_iff]
         right
         rw [List.all_eq_false]
         exact ⟨x, List.mem_of_getElem? HX.out, by rw [hs]; simp⟩⟩))
        by_cases q1 : x < -1
        ·have q1' : decide (x < -1) = true := decide_eq_true q1
         have QQ := Lib.hid (hbad.out (by unfold secOk; rw [decide_eq_false (show ¬ -1 ≤ x by omega)]; rfl))
         go_wp2
         go_ret
         exact ⟨by rw [QQ.out]; rfl, K1.out.tr KR.out⟩
        ·have q1' : decide (x < -1) = false := decide_eq_false q1
         by_cases q2 : x > 4294967296
         ·have q2' : decide (x > 4294967296) = true := decide_eq_true q2
          have QQ := Lib.hid (hbad.out (by unfold secOk; rw [decide_eq_false (show ¬ x ≤ 4294967296 by omega)]; simp))
          go_wp2
          go_ret
          exact ⟨by rw [QQ.out]; rfl, K1.out.tr KR.out⟩
         ·have q2' : decide (x > 4294967296) = false := decide_eq_false q2
          have HS2 : Hid (∀ y ∈ r.take (m + 1), secOk y = true) := Lib.hid fun y hy => by
           rw [List.take_add_one, HX.out] at hy
           rcases List.mem_append.1 hy with hy | hy
           ·exact HSEC.out y hy
           ·simp at hy
            subst hy
            unfold secOk
            rw [decide_eq_true (show -1 ≤ y by omega), decide_eq_true (show y ≤ 4294967296 by omega)]; rfl
          have hr65 : r.length ≤ 65 := by rw [G3.out]; omega
          go_wp2
          go_round
          case rel => exact ⟨m + 1, by omega, by go_num, HS2.out⟩
          case measure => simp [intOf]; omega
       ·have hlt2' : decide (m < r.length) = false := decide_eq_false hlt2
        obtain rfl : m = r.length := by omega
        have hok : enOk p en k = true := by
         rw [EN.out, decide_eq_true G3.out, Bool.true_and, List.all_eq_true]
         have := HSEC.out
         rwa [List.take_length] at this
        have HOK := Lib.hid hok
        have hlast := enOk_last hok
        have hlx : lastOf p en k = (r[l.length]?).getD 0 := by unfold lastOf; rw [HER.out, HLL.out]; rfl
        obtain ⟨b4, o4, x, hA4, hb4, hx, x0⟩ := HRR.out.at_ (k := r.length - 1) (by rw [G3.out]; omega)
        subst hA4
        have hx1 : r[l.length]? = some x := by have := hx; rw [G3.out] at this; exact this
        rw [hx1] at hlx
        have hlx : lastOf p en k = x := hlx
        rw [hlx] at hlast
        have HLX := Lib.hid hlx
        have hb4' : b4 < wr.heap.size := hb4
        have hrl : 1 ≤ r.length := by rw [G3.out]; omega
        have hrl2 : r.length ≤ 65 := by rw [G3.out]; omega
        have hd1 := HO.out.d k hlt
        have hd2 := HO.out.w k hlt
        have hlb := lateP_bd HO.out hlt hlast.2
        have hkd : k < p.due.length := by rw [HO.out.l.1]; exact hlt
        have hkw : k < p.wgt.length := by rw [HO.out.l.2]; exact hlt
        obtain ⟨b6, o6, dd, hA6, hb6, hdx, d0⟩ := H1R.out.D.at_ hkd
        obtain ⟨b7, o7, gg, hA7, hb7, hgx, g0⟩ := H1R.out.W.at_ hkw
        have hb6' : b6 < wr.heap.size := hb6
        have hb7' : b7 < wr.heap.size := hb7
        rw [hA6] at b2
        rw [hA7] at b3
        have hnd : nowAt p.due k = dd := by unfold nowAt; rw [hdx]; rfl
        have hng : nowAt p.wgt k = gg := by unfold nowAt; rw [hgx]; rfl
        rw [hnd] at hd1
        rw [hng] at hd2
        have HLT : Hid (lateP p k x = if x < dd then 0 else gg * (x - dd)) := by show _ = _; unfold lateP; rw [hnd, hng]
        have HSUM : Hid (costEn p en (k + 1) = costEn p en k + lateP p k x) := by show _ = _; rw [← HLX.out]; rfl
        have HALL2 : Hid (∀ t, t < k + 1 → enOk p en t = true) := Lib.hid fun t ht => by
         by_cases e : t = k
         ·subst e; exact HOK.out
         ·exact HALL.out t (by omega)
        have hke2 : k < en.length := hlt0
        clear hok hx hx1 hlx hA6 hA7 hdx hgx hnd hng
        by_cases hgt : x > dd
        ·have hgt' : decide (x > dd) = true := decide_eq_true hgt
         have hlv : lateP p k x = gg * (x - dd) := by rw [HLT.out, if_neg (by omega)]
         rw [hlv] at hlb
         have hws : IntKind.i64.wrap (x - dd) = x - dd := IntWalk.i64_in _ (by omega)
         have hwm : IntKind.i64.wrap (gg * (x - dd)) = gg * (x - dd) := IntWalk.i64_in _ (by omega)
         have hwa : IntKind.i64.wrap (costEn p en k + gg * (x - dd)) = costEn p en k + gg * (x - dd) := IntWalk.i64_in _ (by omega)
         have HV := Lib.hid hlv
         clear hlv
         go_wp2
         go_quiet (fail)
         go_wp2
         go_roundw
         case rel => exact ⟨k + 1, by omega, by go_num, by rw [HSUM.out, HV.out], by first | exact KR.out | exact KR.out.drewN _, HALL2.out⟩
         case measure => simp [intOf]; omega
        ·have hgt' : decide (x > dd) = false := decide_eq_false hgt
         have HV : Hid (lateP p k x = 0) := by
          show _ = _
          rw [HLT.out]
          split
          ·rfl
          ·rw [show x - dd = 0 by omega, Int.mul_zero]
         go_wp2
         go_roundw
         case rel => exact ⟨k + 1, by omega, by go_num, by rw [HSUM.out, HV.out, Int.add_zero], KR.out, HALL2.out⟩
         case measure => simp [intOf]; omega
     ·have g3' : ((r.length : Int) != (l.length : Int) + 1) = true := by simp; omega
      have QQ := Lib.hid (costE_no (.inr (.inr ⟨k, hlt, by rw [EN.out, decide_eq_false g3]; rfl⟩)))
      clear g3
      go_wp2
      go_ret
      exact ⟨by rw [QQ.out]; rfl, K1.out.tr KR.out⟩
    ·have hlt' : decide (k < en.length) = false := decide_eq_false hlt0
     obtain rfl : k = p.ps.length := by have := G1.out; omega
     have QQ := Lib.hid (costE_yes G0.out G1.out HALL.out)
     clear kr
     go_wp2
     go_ret
     exact ⟨by rw [QQ.out]; rfl, K1.out.tr KR.out⟩
  ·have g1' : ((en.length : Int) != (p.ps.length : Int)) = true := by simp; omega
   have QQ := Lib.hid (costE_no (p := p) (en := en) (.inr (.inl g1)))
   go_enter Try.func26, Try.ntmps26
   go_wp2_with fail
   refine CALL.out _ fun w1 k1 hb => ?_
   rw [g0]
   have K1 := Lib.hid k1
   rw [hcs.out] at hb
   have c0 := hb.cell 0
   simp at c0
   clear k1 hb g0 g1
   go_wp2
   go_ret
   exact ⟨by rw [QQ.out]; rfl, K1.out⟩

set_option maxRecDepth 100000 in
set_option maxHeartbeats 1000000 in
theorem ROpen_any (p : Pb) (v : PV) (w : World) (r : Int) (h : RPb w (Old w) v p) (hv : valid p.ps = true) (hal : p.at_.length = p.ps.length) :
  Calls Try.prog 56 #[.agg (v.cs p), .int .i64 r] w fun e w' => ∃ A c, e = .returned (.slice A (openA p.ps p.at_ r).length c) ∧ RRefs w' (Fresh w w') [.slice A (openA p.ps p.at_ r).length c] (openA p.ps p.at_ r) ∧ KeepsAll w w' := by
 have H := Lib.hid h
 have HV := Lib.hid hv
 have HAL := Lib.hid hal
 clear h hal
 unfold PV.cs
 go_enter Try.func56, Try.ntmps56
 go_wp2_with fail
 generalize hW1 : World.alloc w _ = W1
 have k1 : KeepsAll w W1 := by subst hW1; exact (Keeps.refl _ _).alloc _
 have hb1 : Blk W1 w.heap.size 25 #[.slice v.A p.ps.length v.c, .slice v.A2 p.at_.length v.c2, .slice v.A3 p.due.length v.c3, .slice v.A4 p.wgt.length v.c4, .int .i64 p.now] := by subst hW1; exact Blk.new _ _ _
 have HB1 := Lib.hid hb1
 have K1 := Lib.hid k1
 clear hW1 k1 hb1
 refine (All_any p.ps r v.A v.c W1 hv (H.out.kept K1.out).P).mono ?_
 rintro e w2 ⟨v2, rfl, hall, k2⟩
 obtain ⟨Ax, cx, hv2, hcx, hcx2⟩ := hall.form
 subst hv2
 have hlen := allU_640 HV.out r
 have HL : Hid (RRefs w2 (Old w2) [.slice Ax (allU p.ps r).length cx] (allU p.ps r)) := hall.readF RRef.ok RRef.flat (fun b hb => (hall.lt hb).2)
 have K2 := Lib.hid (K1.out.tr k2)
 have HB2 := Lib.hid (HB1.out.kept k2 (by simp))
 have HR2 := Lib.hid (H.out.kept K2.out)
 have hsz := K2.out.size
 have HSZ := Lib.hid hsz
 clear hall k2 HB1 K1 hv hsz
 generalize w.heap.size = zp at *
 go_wp2
 go_loopw [5, 15] (fun vv i wr => ∃ b : Nat, b ≤ (allU p.ps r).length ∧ i = .int .i64 (b : Int) ∧ OwnL 46 2 RRef wr w2.heap.size w2.heap.size vv (openU p.ps p.at_ r ((allU p.ps r).take b)) ∧ KeepsAll w2 wr) (fun _ i _ => (allU p.ps r).length - (intOf i).toNat)
 case atStart => exact ⟨0, Nat.zero_le _, rfl, OwnL.nil, Keeps.refl _ _⟩
 case round =>
  obtain ⟨b, hb, rfl, ho, hkr⟩ := hrel
  obtain ⟨Ab, cb, rfl, hcb, hcb2⟩ := ho.form
  have HO4 := Lib.hid ho; clear ho
  have KB := Lib.hid hkr; clear hkr
  have hszb := KB.out.size
  have hEl : (openU p.ps p.at_ r ((allU p.ps r).take b)).length ≤ 640 := by
   have h1 := openU_len p.ps p.at_ r ((allU p.ps r).take b)
   have h2 : ((allU p.ps r).take b).length ≤ (allU p.ps r).length := by simp; omega
   omega
  have hbp := HB2.out.kept KB.out (by simp)
  have f0 := hbp.cell 0
  have f1 := hbp.cell 1
  simp at f0 f1
  have hzo := hbp.lt
  have HBP := Lib.hid hbp
  clear hbp
  by_cases hltb : b < (allU p.ps r).length
  ·obtain ⟨bx, ox, u, hbo, hbxl, hu, m0, m1⟩ := RRefs.atK KB.out HL.out hltb
   subst hbo
   obtain ⟨tw, kw, pw, sw, hpw, hsw, _, hwe⟩ := mem_allU.1 (List.mem_of_getElem? hu)
   subst hwe
   simp only [] at m0 m1
   have HQ2 : Hid (openU p.ps p.at_ r ((allU p.ps r).take (b + 1)) = openU p.ps p.at_ r ((allU p.ps r).take b) ++ (if overB p.ps p.at_ ⟨(tw : Int), (kw : Int)⟩ r = true then [] else [⟨(tw : Int), (kw : Int)⟩])) := by
    show _ = _
    rw [List.take_add_one, hu, Option.toList_some, openU_snoc]
   have htw := getElem?_lt hpw
   obtain ⟨xw, hxw⟩ : ∃ x, p.at_[tw]? = some x := ⟨_, List.getElem?_eq_getElem (by rw [HAL.out]; exact htw)⟩
   have HCL : Hid (∀ W, KeepsAll w2 W → Calls Try.prog 78 #[.slice v.A p.ps.length v.c, .slice v.A2 p.at_.length v.c2, .agg #[.int .i64 (tw : Int), .int .i64 (kw : Int)], .int .i64 r] W fun e w' => e = .returned (.bool (overB p.ps p.at_ ⟨(tw : Int), (kw : Int)⟩ r)) ∧ KeepsAll W w') := fun W hW =>
    Over_any p.ps p.at_ r v.A v.A2 v.c v.c2 W (HR2.out.kept hW).P (HR2.out.kept hW).A tw kw pw sw xw hpw hsw hxw
   clear hu hpw hsw hxw
   generalize openU p.ps p.at_ r ((allU p.ps r).take b) = E at HO4 HQ2 hEl hcb ⊢
   go_wp2_with fail
   generalize hW4 : World.alloc wr _ = W4
   have KW4 : KeepsAll wr W4 := by subst hW4; exact (Keeps.refl _ _).alloc _
   have BV : Hid (Blk W4 wr.heap.size 46 #[.int .i64 (tw : Int), .int .i64 (kw : Int)]) := by subst hW4; exact Blk.new _ _ _
   have KB4 := Lib.hid (KB.out.tr KW4)
   have HO5 := Lib.hid (HO4.out.keeps RRef.ok KW4 (fun _ _ h => h.elim))
   clear hW4 KW4 m0 m1 f0 f1 hbxl hzo HO4
   generalize wr.heap.size = zv at *
   refine (HCL.out W4 KB4.out).mono ?_
   rintro e w6 ⟨rfl, k6⟩
   have K6 := Lib.hid (KB4.out.tr k6)
   have HO6 := Lib.hid (HO5.out.keeps RRef.ok k6 (fun _ _ h => h.elim))
   have bv := BV.out.kept k6 (by simp)
   have e0 := bv.cell 0
   have e1 := bv.cell 1
   simp at e0 e1
   have hzv := bv.lt
   have hz6 := K6.out.size
   clear k6 bv BV HO5 KB4 HCL
   by_cases gov : overB p.ps p.at_ ⟨(tw : Int), (kw : Int)⟩ r = true
   ·rw [gov]
    have Q2 : Hid (openU p.ps p.at_ r ((allU p.ps r).take (b + 1)) = E) := by show _ = _; rw [HQ2.out, if_pos gov, List.append_nil]
    clear gov HQ2
    go_wp2
    go_roundw
    case rel => exact ⟨b + 1, by omega, by go_num, by rw [Q2.out]; exact HO6.out, K6.out⟩
    case measure => simp [intOf]; omega
   ·have gov' : overB p.ps p.at_ ⟨(tw : Int), (kw : Int)⟩ r = false := by simpa using gov
    rw [gov']
    have Q2 : Hid (openU p.ps p.at_ r ((allU p.ps r).take (b + 1)) = E ++ [⟨(tw : Int), (kw : Int)⟩]) := by show _ = _; rw [HQ2.out, if_neg gov]
    clear gov gov' HQ2
    go_wp2_with (at_builtin; refine wpList_append_L tyRef RRef.ok rfl (.tmp 27) (.tmp 29) rfl (HO6.out.alloc RRef.ok _) rfl _ [.int .i64 (tw : Int), .int .i64 (kw : Int)] rfl (Blk.new' _ _ _ (by simp)) rfl ⟨(tw : Int), (kw : Int)⟩ (S := fun _ => False) rfl (fun _ h => h.elim) (by simp [Value.oneCell']) (by omega) (by omega) (by simp; omega) ?_; intro v9 w9 HO9 HK9 HA9; obtain ⟨A9, c9, hv9, _, _⟩ := HO9.form; rw [List.length_append, List.length_singleton] at hv9; subst hv9)
    go_roundw
    case rel => exact ⟨b + 1, by omega, by go_num, by rw [Q2.out]; exact HO9, ((K6.out.alloc _).trans HK9 (fun x hx e => (by have := HO6.out.lt e; omega)))⟩
    case measure => simp [intOf]; omega
  ·obtain rfl : b = (allU p.ps r).length := by omega
   rw [List.take_length] at HO4 hEl hcb ⊢
   have HE : Hid (openU p.ps p.at_ r (allU p.ps r) = openA p.ps p.at_ r) := rfl
   rw [HE.out] at HO4 ⊢
   go_wp2
   go_ret
   exact ⟨_, _, rfl, HO4.out.readF RRef.ok RRef.flat (fun b hb => ⟨by have := (HO4.out.lt hb).1; have := K2.out.size; omega, (HO4.out.lt hb).2⟩), K2.out.tr KB.out⟩

def RPr : Rd Pr := fun _ _ cs x => cs = [.int .i64 x.res, .int .i64 x.u.tr, .int .i64 x.u.st, .int .i64 x.v.tr, .int .i64 x.v.st]
theorem RPr.ok : Rd.Ok RPr := ⟨fun h _ _ => h⟩
theorem RPr.flat : Rd.Flat RPr := fun _ _ _ _ _ _ h => h
theorem tyPr : ElemTy Try.prog 50 55 5 40 := .mk' Try.underlying50 (z := .agg #[.int .i64 0, .int .i64 0, .int .i64 0, .int .i64 0, .int .i64 0]) (by kernel_rfl) rfl (by omega)
def prU (r : Int) (_l : List Ref) (u : Ref) (m : List Ref) : List Pr := (m.filter fun v => decide (u.tr < v.tr)).map fun v => ⟨r, u, v⟩
def prL (r : Int) (l m : List Ref) : List Pr := m.flatMap fun u => prU r l u l
theorem prL_all (r : Int) (l : List Ref) : prL r l l = pairsL r l := rfl
theorem prL_snoc (r : Int) (l m : List Ref) (u : Ref) : prL r l (m ++ [u]) = prL r l m ++ prU r l u l := by unfold prL; rw [List.flatMap_append]; simp
theorem prU_snoc (r : Int) (l : List Ref) (u : Ref) (m : List Ref) (v : Ref) : prU r l u (m ++ [v]) = prU r l u m ++ (if u.tr < v.tr then [⟨r, u, v⟩] else []) := by
 unfold prU
 rw [List.filter_append, List.map_append]
 by_cases h : u.tr < v.tr
 ·simp [h]
 ·simp [h]
theorem prU_len (r : Int) (l : List Ref) (u : Ref) (m : List Ref) : (prU r l u m).length ≤ m.length := by
 unfold prU; rw [List.length_map]; exact List.length_filter_le _ _
theorem prL_len (r : Int) (l : List Ref) (B : Nat) (hB : l.length ≤ B) : ∀ m : List Ref, (prL r l m).length ≤ m.length * B
 | [] => by simp [prL]
 | a :: m => by
  have h1 := prL_len r l B hB m
  have h2 := prU_len r l a l
  have e : prL r l (a :: m) = prU r l a l ++ prL r l m := rfl
  rw [e, List.length_append, List.length_cons, Nat.add_mul]
  omega
theorem pairsTo_succ (ps : List (List Stage)) (at_ : List Int) (n : Nat) : pairsTo ps at_ (n + 1) = pairsTo ps at_ n ++ pairsL (n : Int) (openA ps at_ (n : Int)) := by
 unfold pairsTo
 rw [List.range_succ, List.flatMap_append]
 simp
theorem pairsTo_big {ps : List (List Stage)} (hv : valid ps = true) (at_ : List Int) : ∀ n, (pairsTo ps at_ n).length ≤ n * 409600
 | 0 => by simp [pairsTo]
 | n + 1 => by
  have h1 := pairsTo_big hv at_ n
  have h2 := Nat.le_trans (openA_len ps at_ (n : Int)) (allU_640 hv (n : Int))
  have h3 := prL_len (n : Int) (openA ps at_ (n : Int)) 640 h2 (openA ps at_ (n : Int))
  rw [prL_all] at h3
  have h4 : (openA ps at_ (n : Int)).length * 640 ≤ 640 * 640 := Nat.mul_le_mul_right _ h2
  rw [pairsTo_succ, List.length_append, Nat.add_mul]
  omega

structure PrI (wo w2 wr : World) (vv : Value) : Prop where
 k : Keeps (fun b => b < wo.heap.size) w2 wr
 ow : ∀ b, vv.ownBlock = some b → b < wo.heap.size ∨ w2.heap.size ≤ b
theorem PrI.keep {wo w2 wr w' : World} {vv : Value} (h : PrI wo w2 wr vv) (k : KeepsAll wr w') : PrI wo w2 w' vv := ⟨h.k.trans k (fun _ _ e => e.elim), h.ow⟩
theorem PrI.push {wo w2 wr w9 : World} {vv v9 : Value} (h : PrI wo w2 wr vv) (k : Keeps (fun b => vv.ownBlock = some b) wr w9) (hn : v9.ownBlock = vv.ownBlock ∨ v9.ownBlock = some wr.heap.size) : PrI wo w2 w9 v9 := by
 refine ⟨h.k.trans k (fun b hb e => ?_), fun b hb => ?_⟩
 ·rcases h.ow b e with h1 | h1
  ·exact h1
  ·omega
 ·rcases hn with hn | hn
  ·exact h.ow b (by rw [← hn]; exact hb)
  ·rw [hn] at hb
   injection hb with hb
   have := h.k.size
   exact .inr (by omega)
theorem PrI.rd {wo w2 wr : World} {vv : Value} (h : PrI wo w2 wr vv) {α : Type} {E : Rd α} (hE : Rd.Ok E) {cs : List Value} {x : α} (hr : E w2 (Fresh wo w2) cs x) : E wr (Old wr) cs x :=
 hE.mono hr (fun b hb => Nat.lt_of_lt_of_le hb.2 h.k.size) (fun b hb => h.k.block b hb.2 (by have := hb.1; show ¬ b < _; omega))

set_option maxRecDepth 100000 in
set_option maxHeartbeats 1000000 in
theorem RPairs_any (p : Pb) (v : PV) (w : World) (h : RPb w (Old w) v p) (hv : valid p.ps = true) (hal : p.at_.length = p.ps.length) :
  Calls Try.prog 22 #[.agg (v.cs p)] w fun e w' => ∃ A c, e = .returned (.slice A (xs p).length c) ∧ RSlice 5 RPr w' (Fresh w w') [.slice A (xs p).length c] (xs p) ∧ KeepsAll w w' := by
 have H := Lib.hid h
 have HV := Lib.hid hv
 have HOP : Hid (∀ W, KeepsAll w W → ∀ r : Int, Calls Try.prog 56 #[.agg #[.slice v.A p.ps.length v.c, .slice v.A2 p.at_.length v.c2, .slice v.A3 p.due.length v.c3, .slice v.A4 p.wgt.length v.c4, .int .i64 p.now], .int .i64 r] W fun e w' => ∃ A c, e = .returned (.slice A (openA p.ps p.at_ r).length c) ∧ RRefs w' (Fresh W w') [.slice A (openA p.ps p.at_ r).length c] (openA p.ps p.at_ r) ∧ KeepsAll W w') := fun W hW r => ROpen_any p v W r (H.out.kept hW) hv hal
 clear h hal hv
 unfold PV.cs
 go_enter Try.func22, Try.ntmps22
 go_wp2
 generalize hW1 : World.alloc w _ = W1
 have k1 : KeepsAll w W1 := by subst hW1; exact (Keeps.refl _ _).alloc _
 have hb1 : Blk W1 w.heap.size 25 #[.slice v.A p.ps.length v.c, .slice v.A2 p.at_.length v.c2, .slice v.A3 p.due.length v.c3, .slice v.A4 p.wgt.length v.c4, .int .i64 p.now] := by subst hW1; exact Blk.new _ _ _
 have HB1 := Lib.hid hb1
 have K1 := Lib.hid k1
 clear hW1 k1 hb1
 obtain ⟨zp, hzp⟩ : ∃ z, z = w.heap.size := ⟨_, rfl⟩
 rw [← hzp] at HB1 ⊢
 clear hzp
 go_loopw [3, 4] (fun vv i wr => ∃ n : Nat, n ≤ 144 ∧ i = .int .i64 (n : Int) ∧ OwnL 55 5 RPr wr W1.heap.size W1.heap.size vv (pairsTo p.ps p.at_ n) ∧ KeepsAll W1 wr) (fun _ i _ => 144 - (intOf i).toNat)
 case atStart => exact ⟨0, Nat.zero_le _, rfl, OwnL.nil, Keeps.refl _ _⟩
 case round =>
  obtain ⟨n, hn, rfl, ho, hkr⟩ := hrel
  obtain ⟨Ab, cb, rfl, hcb, hcb2⟩ := ho.form
  have HO := Lib.hid ho
  have KR := Lib.hid hkr
  have hDl := pairsTo_big HV.out p.at_ n
  have hbp := HB1.out.kept hkr (by simp)
  have f0 := hbp.cell 0
  have f1 := hbp.cell 1
  have f2 := hbp.cell 2
  have f3 := hbp.cell 3
  have f4 := hbp.cell 4
  simp at f0 f1 f2 f3 f4
  have HBP := Lib.hid hbp
  clear ho hkr hbp
  by_cases hlt : n < 144
  ·have hHQ := Lib.hid (pairsTo_succ p.ps p.at_ n)
   generalize pairsTo p.ps p.at_ n = D at HO hHQ hDl hcb ⊢
   go_wp2_with fail
   refine (HOP.out wr (K1.out.tr KR.out) (n : Int)).mono ?_
   rintro e w2 ⟨Al, cl, rfl, hl, k2⟩
   have hll := Nat.le_trans (openA_len p.ps p.at_ (n : Int)) (allU_640 HV.out (n : Int))
   have HL : Hid (RRefs w2 (Old w2) [.slice Al (openA p.ps p.at_ (n : Int)).length cl] (openA p.ps p.at_ (n : Int))) := RRefs.ok.mono hl (fun _ hb => hb.2) (fun _ _ => rfl)
   have HO2 := Lib.hid (HO.out.keeps RPr.ok k2 (fun _ _ h => h.elim))
   have K2 := Lib.hid (KR.out.tr k2)
   have HLF := Lib.hid hl
   have hPI : PrI wr w2 w2 (.slice Ab D.length cb) := ⟨Keeps.refl _ _, fun b hb => .inl (HO.out.lt hb).2⟩
   have HPI := Lib.hid hPI
   clear hl k2 f0 f1 f2 f3 f4 HBP HO hPI HL
   obtain ⟨wo, rfl⟩ : ∃ wo : World, wo = wr := ⟨_, rfl⟩
   generalize openA p.ps p.at_ (n : Int) = l at *
   go_wp2
   go_loopw [3, 19] (fun vv i wr => ∃ a : Nat, a ≤ l.length ∧ i = .int .i64 (a : Int) ∧ OwnL 55 5 RPr wr W1.heap.size W1.heap.size vv (D ++ prL (n : Int) l (l.take a)) ∧ PrI wo w2 wr vv ∧ KeepsAll W1 wr) (fun _ i _ => l.length - (intOf i).toNat)
   case atStart => exact ⟨0, Nat.zero_le _, rfl, by simpa [prL] using HO2.out, HPI.out, K2.out⟩
   case round =>
    obtain ⟨a, ha, rfl, ho, hpi, hkr⟩ := hrel
    obtain ⟨Ac, cc, rfl, hcc, hcc2⟩ := ho.form
    clear HO2 HPI K2 hcb hcb2
    have HO3 := Lib.hid ho
    have HPI := Lib.hid hpi
    have KR3 := Lib.hid hkr
    have hEl : (D ++ prL (n : Int) l (l.take a)).length ≤ n * 409600 + 640 * 640 := by
     have h3 := prL_len (n : Int) l 640 hll (l.take a)
     have h4 : (l.take a).length * 640 ≤ 640 * 640 := Nat.mul_le_mul_right _ (by rw [List.length_take]; omega)
     rw [List.length_append]; omega
    clear ho hpi hkr
    by_cases hlta : a < l.length
    ·obtain ⟨bx, ox, u, hAx, hbx, hu, m0, m1⟩ := RRefs.atK (Keeps.refl _ _) (HPI.out.rd RRefs.ok HLF.out) hlta
     subst hAx
     have HQ2 : Hid (D ++ prL (n : Int) l (l.take (a + 1)) = D ++ prL (n : Int) l (l.take a) ++ prU (n : Int) l u l) := by
      show _ = _
      rw [List.take_add_one, hu, Option.toList_some, prL_snoc, List.append_assoc]
     clear hu
     generalize D ++ prL (n : Int) l (l.take a) = E at HO3 HPI HQ2 hEl hcc ⊢
     go_wp2
     generalize hW4 : World.alloc wr _ = W4
     have KW4 : KeepsAll wr W4 := by subst hW4; exact (Keeps.refl _ _).alloc _
     have BU : Hid (Blk W4 wr.heap.size 46 #[.int .i64 u.tr, .int .i64 u.st]) := by subst hW4; exact Blk.new _ _ _
     have HO4 := Lib.hid (HO3.out.keeps RPr.ok KW4 (fun _ _ h => h.elim))
     have HPI4 := Lib.hid (HPI.out.keep KW4)
     have KR4 := Lib.hid (KR3.out.tr KW4)
     clear hW4 KW4 m0 m1 HO3 HPI KR3 hbx
     generalize wr.heap.size = zu at *
     go_loopw [3, 25] (fun vv i wr => ∃ b : Nat, b ≤ l.length ∧ i = .int .i64 (b : Int) ∧ OwnL 55 5 RPr wr W1.heap.size W1.heap.size vv (E ++ prU (n : Int) l u (l.take b)) ∧ PrI wo w2 wr vv ∧ KeepsAll W1 wr ∧ Blk wr zu 46 #[.int .i64 u.tr, .int .i64 u.st]) (fun _ i _ => l.length - (intOf i).toNat)
     case atStart => exact ⟨0, Nat.zero_le _, rfl, by simpa [prU] using HO4.out, HPI4.out, KR4.out, BU.out⟩
     case round =>
      obtain ⟨b, hb, rfl, ho, hpi, hkr, hbu⟩ := hrel
      obtain ⟨Ad, cd, rfl, hcd, hcd2⟩ := ho.form
      clear HO4 HPI4 KR4 BU hcc hcc2
      have HO5 := Lib.hid ho
      have HPI5 := Lib.hid hpi
      have KR5 := Lib.hid hkr
      have BU := Lib.hid hbu
      have hFl : (E ++ prU (n : Int) l u (l.take b)).length ≤ n * 409600 + 640 * 640 + 640 := by
       have h3 := prU_len (n : Int) l u (l.take b)
       rw [List.length_take] at h3
       rw [List.length_append]; omega
      have e0 := hbu.cell 0
      have e1 := hbu.cell 1
      simp at e0 e1
      have hzu := hbu.lt
      clear ho hpi hkr hbu
      by_cases hltb : b < l.length
      ·obtain ⟨by', oy, y, hAy, hby, hy, q0, q1⟩ := RRefs.atK (Keeps.refl _ _) (HPI5.out.rd RRefs.ok HLF.out) hltb
       injection hAy with hAy
       injection hAy with ey1 ey2 _
       subst ey1 ey2
       have HQ3 : Hid (E ++ prU (n : Int) l u (l.take (b + 1)) = E ++ prU (n : Int) l u (l.take b) ++ (if u.tr < y.tr then [⟨(n : Int), u, y⟩] else [])) := by
        show _ = _
        rw [List.take_add_one, hy, Option.toList_some, prU_snoc, List.append_assoc]
       clear hy
       generalize E ++ prU (n : Int) l u (l.take b) = F at HO5 HPI5 HQ3 hFl hcd ⊢
       have hszr := KR5.out.size
       by_cases glt : u.tr < y.tr
       ·have glt' : decide (u.tr < y.tr) = true := decide_eq_true glt
        have Q3 : Hid (E ++ prU (n : Int) l u (l.take (b + 1)) = F ++ [⟨(n : Int), u, y⟩]) := by show _ = _; rw [HQ3.out, if_pos glt]
        clear glt HQ3
        have KY : Hid (KeepsAll wr (wr.alloc (.cells #[.int .i64 y.tr, .int .i64 y.st] 46))) := (Keeps.refl _ _).alloc _
        go_wp2_with (at_builtin; refine wpList_append_L tyPr RPr.ok rfl (.tmp 34) (.tmp 39) rfl ((HO5.out.alloc RPr.ok _).alloc RPr.ok _) rfl _ [.int .i64 (n : Int), .int .i64 u.tr, .int .i64 u.st, .int .i64 y.tr, .int .i64 y.st] rfl (Blk.new' _ _ _ (by simp)) rfl ⟨(n : Int), u, y⟩ (S := fun _ => False) rfl (fun _ h => h.elim) (by simp [Value.oneCell']) (by omega) (by omega) (by simp; omega) ?_; intro v9 w9 HO9 HK9 HA9; obtain ⟨A9, c9, hv9, _, _⟩ := HO9.form; rw [List.length_append, List.length_singleton] at hv9; subst hv9)
        have kk : KeepsAll wr ((wr.alloc (.cells #[.int .i64 y.tr, .int .i64 y.st] 46)).alloc (.cells #[.int .i64 (n : Int), .int .i64 u.tr, .int .i64 u.st, .int .i64 y.tr, .int .i64 y.st] 55)) := ((Keeps.refl _ _).alloc _).alloc _
        go_roundw
        case rel => exact ⟨b + 1, by omega, by go_num, by rw [Q3.out]; exact HO9, (HPI5.out.keep kk).push HK9 HA9, (KR5.out.tr kk).trans HK9 (fun x hx e => (by have := (HO5.out.lt e).1; omega)), (BU.out.kept kk (by simp)).kept HK9 (fun e => (HO5.out.ne_blk BU.out (by decide)) e)⟩
        case measure => simp [intOf]; omega
       ·have glt' : decide (u.tr < y.tr) = false := decide_eq_false glt
        have Q3 : Hid (E ++ prU (n : Int) l u (l.take (b + 1)) = F) := by show _ = _; rw [HQ3.out, if_neg glt, List.append_nil]
        clear glt HQ3
        have kk : KeepsAll wr (wr.alloc (.cells #[.int .i64 y.tr, .int .i64 y.st] 46)) := (Keeps.refl _ _).alloc _
        have KK := Lib.hid kk
        clear kk
        go_wp2
        go_roundw
        case rel => exact ⟨b + 1, by omega, by go_num, by rw [Q3.out]; exact HO5.out.alloc RPr.ok _, HPI5.out.keep KK.out, KR5.out.tr KK.out, BU.out.kept KK.out (by simp)⟩
        case measure => simp [intOf]; omega
      ·obtain rfl : b = l.length := by omega
       have Q3 : Hid (D ++ prL (n : Int) l (l.take (a + 1)) = E ++ prU (n : Int) l u (l.take l.length)) := by show _ = _; rw [HQ2.out, List.take_length]
       go_wp2
       go_roundw
       case rel => exact ⟨a + 1, by omega, by go_num, by rw [Q3.out]; exact HO5.out, HPI5.out, KR5.out⟩
       case measure => simp [intOf]; omega
    ·obtain rfl : a = l.length := by omega
     rw [List.take_length, prL_all] at HO3 hcc ⊢
     go_wp2
     go_roundw
     case rel => exact ⟨n + 1, by omega, by go_num, by rw [hHQ.out]; exact HO3.out, KR3.out⟩
     case measure => simp [intOf]; omega
  ·obtain rfl : n = 144 := by omega
   go_wp2
   go_ret
   exact ⟨_, _, rfl, HO.out.readF RPr.ok RPr.flat (fun b hb => ⟨by have := (HO.out.lt hb).1; have := K1.out.size; omega, (HO.out.lt hb).2⟩), K1.out.tr KR.out⟩

end Go.Proofs.Ytilbbpbjhoidhaa
