/- Contract of the reference's look of chapter 37. Conditions: as each theorem says. The statement DispatchLeast: its function returns true. No condition beyond the arguments' reading. -/
import Derived.Test.YtilbbpbjhoidhaaL49
import Derived.Test.YtilbbpbjhoidhaaL14
import Derived.Test.YtilbbpbjhoidhaaL50
import Derived.Test.YtilbbpbjhoidhaaL46
namespace Go.Proofs.Ytilbbpbjhoidhaa
open Go.RowKit

/-- the cost of a whole table -/
theorem costE_tab {p : Pb} (hc : checkP p = true) {T : Tab} (hT : ∀ u, -1 ≤ T u ∧ T u ≤ 4294967296) : costE p (tabOf p.ps T) = costT p T p.ps.length := by
 have hok : ∀ t, t < p.ps.length → enOk p (tabOf p.ps T) t = true := fun t ht => by
  unfold enOk
  rw [tabOf_at T ht]
  simp only [Bool.and_eq_true, decide_eq_true_eq, List.all_eq_true]
  refine ⟨rowOf_len p.ps T t, fun x hx => ?_⟩
  unfold rowOf at hx
  obtain ⟨k, _, rfl⟩ := List.mem_map.1 hx
  unfold secOk
  rw [Bool.and_eq_true, decide_eq_true_eq, decide_eq_true_eq]
  exact hT _
 rw [costE_yes hc (tabOf_len _ _) hok]
 have key : ∀ n, n ≤ p.ps.length → costEn p (tabOf p.ps T) n = costT p T n := by
  intro n
  induction n with
  | zero => intro _; rfl
  | succ n ih =>
   intro hn
   unfold costEn costT
   rw [ih (by omega)]
   have : lastOf p (tabOf p.ps T) n = T ⟨(n : Int), (lenAt p.ps n : Int)⟩ := by
    unfold lastOf
    rw [tabOf_at T (by omega)]
    show ((rowOf p.ps T n)[lenAt p.ps n]?).getD 0 = _
    rw [rowOf_at T (Nat.le_refl _)]
    rfl
   rw [this]
 exact key _ (Nat.le_refl _)
/-- what a consistent choice gives -/
theorem choice_facts {p : Pb} (hc : checkP p = true) {D : List RArc} (hD : DOk p.ps p.at_ D) (hk : okD p.ps p.at_ D = true) :
  tabOf p.ps (secs (stepR p.ps (arcsD p.ps D) p.at_ p.now) (initR p.at_ p.now) (lineR p.ps (arcsD p.ps D) p.at_).1) = tabOf p.ps (secD p D) ∧ costE p (tabOf p.ps (secD p D)) = costD p D ∧ (lineR p.ps (arcsD p.ps D) p.at_).1.length ≤ 650 ∧ ∀ u ∈ (lineR p.ps (arcsD p.ps D) p.at_).1, ∃ (t k : Nat) (q : List Stage), p.ps[t]? = some q ∧ k ≤ q.length ∧ u = ⟨(t : Int), (k : Int)⟩ := by
 have hg := checkP_Gd hc
 have ho := checkP_ok hc
 obtain ⟨_, ht⟩ := topo_of_ok hg hD hk
 have hl := topo_len ho.v ht
 have hs := secS_ref (n := p.now) hD ht
 refine ⟨by rw [hs]; rfl, costE_tab hc (fun u => ?_), hl, fun u hu => ?_⟩
 ·have := secS_bd (L := (lineR p.ps (arcsD p.ps D) p.at_).1) ho.v hD ho.n u
  refine ⟨this.1, Int.le_trans this.2 ?_⟩
  omega
 ·obtain ⟨⟨t, k, q, h1, h2, h3⟩, _⟩ := (ht.mem u).1 hu
  exact ⟨t, k, q, h1, h2, h3⟩

section
variable {P : Program} {l : List Oper} {Q : Exit → Act → World → Prop} {C : World → Prop} {need : Nat → Bool}
end

theorem cho_in {p : Pb} (bs : List Bool) : ∀ a ∈ arcsD p.ps (decs p.ps (xs p) bs), (0 ≤ a.frm.tr ∧ a.frm.tr < p.ps.length) ∧ 0 ≤ a.to.tr ∧ a.to.tr < p.ps.length := fun a ha => by
 have hD : DOk p.ps p.at_ (decs p.ps (xs p) bs) := decs_ok bs
 obtain ⟨⟨t, k, q, q1, _, q3⟩, ⟨t', k', q', q1', _, q3'⟩⟩ := arcsD_ends hD ha
 have := getElem?_lt q1
 have := getElem?_lt q1'
 rw [q3, q3']
 exact ⟨⟨by show (0 : Int) ≤ (t : Int); omega, by show (t : Int) < _; omega⟩, by show (0 : Int) ≤ (t' : Int); omega, by show (t' : Int) < _; omega⟩
theorem cho_line {p : Pb} (hc : checkP p = true) (h1 : 1 ≤ p.ps.length) (v : PV) (bs : List Bool) (W : World) (A : Option Addr) (c : Nat) (hW : RPb W (Old W) v p) (hA : RRArcs W (Old W) [.slice A (arcsD p.ps (decs p.ps (xs p) bs)).length c] (arcsD p.ps (decs p.ps (xs p) bs))) : Calls Try.prog 25 #[.slice v.A p.ps.length v.c, .slice A (arcsD p.ps (decs p.ps (xs p) bs)).length c, .slice v.A2 p.at_.length v.c2] W fun e w' => ∃ v2, e = .returned (.tuple #[v2, .bool (okB p bs)]) ∧ RRefs w' (Old w') [v2] (lineR p.ps (arcsD p.ps (decs p.ps (xs p) bs)) p.at_).1 ∧ KeepsAll W w' :=
 LineOf_any p.ps (arcsD p.ps (decs p.ps (xs p) bs)) p.at_ v.A A v.A2 v.c c v.c2 W hW.P hA hW.A (checkP_ok hc).v h1 (checkP_Gd hc) (cho_in bs)
theorem cho_secs {p : Pb} (hc : checkP p = true) (h1 : 1 ≤ p.ps.length) (v : PV) (bs : List Bool) (hk : okB p bs = true) (W : World) (A A3 : Option Addr) (c c3 : Nat) (hW : RPb W (Old W) v p) (hA : RRArcs W (Old W) [.slice A (arcsD p.ps (decs p.ps (xs p) bs)).length c] (arcsD p.ps (decs p.ps (xs p) bs))) (hL : RRefs W (Old W) [.slice A3 (lineR p.ps (arcsD p.ps (decs p.ps (xs p) bs)) p.at_).1.length c3] (lineR p.ps (arcsD p.ps (decs p.ps (xs p) bs)) p.at_).1) :
  Calls Try.prog 27 #[.slice v.A p.ps.length v.c, .slice A (arcsD p.ps (decs p.ps (xs p) bs)).length c, .slice A3 (lineR p.ps (arcsD p.ps (decs p.ps (xs p) bs)) p.at_).1.length c3, .slice v.A2 p.at_.length v.c2, .int .i64 p.now] W fun e w' => ∃ v3, e = .returned v3 ∧ RIntss w' (Fresh W w') [v3] (entB p bs) ∧ KeepsAll W w' := by
 have hD : DOk p.ps p.at_ (decs p.ps (xs p) bs) := decs_ok bs
 obtain ⟨f1, _, f3, f4⟩ := choice_facts hc hD hk
 have := Seconds_fresh p.ps (arcsD p.ps (decs p.ps (xs p) bs)) (lineR p.ps (arcsD p.ps (decs p.ps (xs p) bs)) p.at_).1 p.at_ p.now v.A A A3 v.A2 v.c c c3 v.c2 W hW.P hA hL hW.A (checkP_ok hc).v h1 (checkP_Gd hc) (checkP_ok hc).n f3 f4 (fun a ha => arcsD_wt (checkP_ok hc).v hD ha) (fun a ha => (arcsD_ends hD ha).1)
 rw [f1] at this
 exact this
theorem cho_cost {p : Pb} (hc : checkP p = true) (v : PV) (bs : List Bool) (hk : okB p bs = true) (W : World) (A : Option Addr) (c : Nat) (hW : RPb W (Old W) v p) (hE : RIntss W (Old W) [.slice A (entB p bs).length c] (entB p bs)) : Calls Try.prog 26 #[.agg #[.slice v.A p.ps.length v.c, .slice v.A2 p.at_.length v.c2, .slice v.A3 p.due.length v.c3, .slice v.A4 p.wgt.length v.c4, .int .i64 p.now], .slice A (entB p bs).length c] W fun e w' => e = .returned (.int .i64 (costB p bs)) ∧ KeepsAll W w' := by
 have := RDspCost_any p v W hW (entB p bs) A c hE
 have e : costE p (entB p bs) = costB p bs := (choice_facts hc (decs_ok bs) hk).2.1
 rw [e] at this
 exact this
theorem bits_and1 : ∀ m : Nat, m < 257 → bits .and .i64 (m : Int) 1 = ((m % 2 : Nat) : Int) := by decide +kernel
theorem bits_test {s : Nat} (hs : s < 257) (a : Nat) : (bits .and .i64 ((s : Int) / 2 ^ a) 1 == 0) = decide (s / 2 ^ a % 2 = 0) := by
 have e : (s : Int) / 2 ^ a = ((s / 2 ^ a : Nat) : Int) := by simp
 have h1 : s / 2 ^ a ≤ s := Nat.div_le_self _ _
 rw [e, bits_and1 _ (by omega)]
 by_cases h : s / 2 ^ a % 2 = 0
 ·rw [h, decide_eq_true rfl]; rfl
 ·rw [decide_eq_false h]
  have : s / 2 ^ a % 2 = 1 := by omega
  rw [this]; rfl

set_option maxRecDepth 100000 in
set_option maxHeartbeats 4000000 in
theorem DispatchLeast_any (lp la ld : List Int) (Ap Aa Ad : Option Addr) (cp ca cd : Nat) (now : Int) (w : World) (h : RInts w (Old w) [.slice Ap lp.length cp] lp) (h2 : RInts w (Old w) [.slice Aa la.length ca] la) (h3 : RInts w (Old w) [.slice Ad ld.length cd] ld) :
  Calls Try.prog 7 #[.slice Ap lp.length cp, .slice Aa la.length ca, .slice Ad ld.length cd, .int .i64 now] w fun e w' => e = .returned (.bool true) ∧ KeepsAll w w' := by
 have H := Lib.hid h
 have H2 := Lib.hid h2
 have H3 := Lib.hid h3
 clear h h2 h3
 go_enter Try.func7, Try.ntmps7
 go_wp2_with fail
 refine (small37_any lp la ld Ap Aa Ad cp ca cd now w H.out H2.out H3.out).mono ?_
 rintro e w1 ⟨v, p, rfl, hr, hm, hp2, k1⟩
 have hr1 := hr.old
 have HR := Lib.hid hr1
 have HM := Lib.hid hm
 have K1 := Lib.hid k1
 clear hr hr1 hm k1 H H2 H3 hp2
 unfold PV.cs
 go_wp2_with fail
 generalize hW2 : World.alloc w1 _ = W2
 have k2 : KeepsAll w1 W2 := by subst hW2; exact (Keeps.refl _ _).alloc _
 have hbx : Blk W2 w1.heap.size 25 #[.slice v.A p.ps.length v.c, .slice v.A2 p.at_.length v.c2, .slice v.A3 p.due.length v.c3, .slice v.A4 p.wgt.length v.c4, .int .i64 p.now] := by subst hW2; exact Blk.new _ _ _
 have HR2 := Lib.hid (HR.out.kept k2)
 have HBX2 := Lib.hid hbx
 have K2 := Lib.hid (K1.out.tr k2)
 clear hW2 k2 hbx HR K1
 generalize w1.heap.size = zx at *
 have HC : Hid (∀ W, RPb W (Old W) v p → Calls Try.prog 21 #[.agg #[.slice v.A p.ps.length v.c, .slice v.A2 p.at_.length v.c2, .slice v.A3 p.due.length v.c3, .slice v.A4 p.wgt.length v.c4, .int .i64 p.now]] W fun e w' => e = .returned (.bool (checkP p)) ∧ KeepsAll W w') := fun W hW => RDspCheck_any p v W hW
 have HS : Hid (∀ W, RPb W (Old W) v p → Calls Try.prog 13 #[.agg #[.slice v.A p.ps.length v.c, .slice v.A2 p.at_.length v.c2, .slice v.A3 p.due.length v.c3, .slice v.A4 p.wgt.length v.c4, .int .i64 p.now], .int .i64 5000] W (SolvePost 5000 p W)) := fun W hW => DspSolve_any p v W 5000 hW (fun _ => made_open HM.out.ps)
 have HP : Hid (∀ W, RPb W (Old W) v p → Calls Try.prog 22 #[.agg #[.slice v.A p.ps.length v.c, .slice v.A2 p.at_.length v.c2, .slice v.A3 p.due.length v.c3, .slice v.A4 p.wgt.length v.c4, .int .i64 p.now]] W fun e w' => ∃ A c, e = .returned (.slice A (xs p).length c) ∧ RSlice 5 RPr w' (Fresh W w') [.slice A (xs p).length c] (xs p) ∧ KeepsAll W w') := fun W hW => RPairs_any p v W hW (psMade.valid HM.out.ps) (good_Gd.1 HM.out.at_).1
 have HL : Hid (∀ best found, checkP p = true → (xs p).length ≤ 8 → LstI p (2 ^ (xs p).length) best found → (found = true ∧ (solveP 5000 p).2.2 = 0 ∧ (solveP 5000 p).1.cost = best) ∨ (found = false ∧ (solveP 5000 p).2.2 = 19)) := fun best found hc hn hl => hl.done hc hn
 have HPS : Hid (1 ≤ p.ps.length) := Lib.hid HM.out.ps.1
 have hv := psMade.valid HM.out.ps
 have hcl : (chainR p.ps).length ≤ 640 := by
  have h1 := chainR_len (ps := p.ps) (fun q hq => ((valid_lens hv).2 q hq).2) p.ps.length
  rw [List.take_length] at h1
  have hps := (valid_lens hv).1
  omega
 have HCL := Lib.hid hcl
 have HV := Lib.hid hv
 clear HM hv hcl
 have x0 := HBX2.out.cell 0
 have x1 := HBX2.out.cell 1
 have x2 := HBX2.out.cell 2
 have x3 := HBX2.out.cell 3
 have x4 := HBX2.out.cell 4
 simp at x0 x1 x2 x3 x4
 go_wp2_with fail
 refine (HC.out _ HR2.out).mono ?_
 rintro e w4 ⟨rfl, k4⟩
 have K4 := Lib.hid (K2.out.tr k4)
 have HR4 := Lib.hid (HR2.out.kept k4)
 have HBX4 := Lib.hid (HBX2.out.kept k4 (by simp))
 clear k4 HR2 HBX2 K2 HC x0 x1 x2 x3 x4
 cases hc : checkP p with
 | false =>
  clear hc HL
  go_wp2_with fail
  refine (awake37_any w4).mono ?_
  rintro e w5 ⟨rfl, k5⟩
  have K5 := Lib.hid (K4.out.tr k5)
  clear k5
  go_wp2
  go_ret
  exact ⟨rfl, K5.out⟩
 | true =>
  have HCK := Lib.hid hc
  clear hc
  have x0 := HBX4.out.cell 0
  have x1 := HBX4.out.cell 1
  have x2 := HBX4.out.cell 2
  have x3 := HBX4.out.cell 3
  have x4 := HBX4.out.cell 4
  simp at x0 x1 x2 x3 x4
  go_wp2_with fail
  refine (HP.out _ HR4.out).mono ?_
  rintro e w5 ⟨Aq, cq, rfl, hpr, k5⟩
  have K5 := Lib.hid (K4.out.tr k5)
  have HR5 := Lib.hid (HR4.out.kept k5)
  have HBX5 := Lib.hid (HBX4.out.kept k5 (by simp))
  have HPR : Hid (RSlice 5 RPr w5 (Old w5) [.slice Aq (xs p).length cq] (xs p)) := RSlice.ok RPr.ok |>.mono hpr (fun _ hb => hb.2) (fun _ _ => rfl)
  clear k5 hpr HR4 HBX4 K4 HP x0 x1 x2 x3 x4
  obtain ⟨n, hn⟩ : ∃ n, n = (xs p).length := ⟨_, rfl⟩
  have HN := Lib.hid hn
  rw [← hn] at HL
  have hsl : ∀ W, (RSlice 5 RPr W (Old W) [.slice Aq (xs p).length cq] (xs p)) = (RSlice 5 RPr W (Old W) [.slice Aq n cq] (xs p)) := fun W => by rw [hn]
  rw [← hn]
  clear hn hsl
  by_cases h8 : n ≤ 8
  ·have hM2 : (2 : Nat) ^ n ≤ 256 := by
    have := Nat.pow_le_pow_right (n := 2) (by omega) h8
    omega
   obtain ⟨M, hM⟩ : ∃ M, M = 2 ^ n := ⟨_, rfl⟩
   rw [← hM] at hM2
   have HMM := Lib.hid hM
   have hMw : IntKind.i64.wrap (2 ^ n) = (M : Int) := by
    rw [hM]
    refine (IntWalk.i64_in _ ?_).trans (by simp)
    have e : ((2 ^ n : Nat) : Int) = (2 : Int) ^ n := by simp
    rw [← e, ← hM]
    omega
   clear hM
   go_wp2_with fail
   go_loopw [11, 12, 13] (fun b f i wr => ∃ (s : Nat) (best : Int) (found : Bool), s ≤ M ∧ b = .int .i64 best ∧ f = .bool found ∧ i = .int .i64 (s : Int) ∧ LstI p s best found ∧ KeepsAll w5 wr) (fun _ _ i _ => M - (intOf i).toNat)
   case atStart => exact ⟨0, 0, false, Nat.zero_le _, rfl, rfl, rfl, LstI.start p, Keeps.refl _ _⟩
   case round =>
    obtain ⟨s, best, found, hs, rfl, rfl, rfl, hI, kr⟩ := hrel
    have HI := Lib.hid hI
    have KR := Lib.hid kr
    clear hI kr
    by_cases hlt : s < M
    ·have hlt' : (s : Int) < (M : Int) := by omega
     have HBXr := Lib.hid (HBX5.out.kept KR.out (by simp))
     have HRr := Lib.hid (HR5.out.kept KR.out)
     have HPRr := Lib.hid (KR.out.rdo' (RSlice.ok RPr.ok) HPR.out)
     have HCH : Hid (Calls Try.prog 23 #[.slice v.A p.ps.length v.c] wr fun e w' => ∃ v, e = .returned v ∧ OwnL 57 5 RRArc w' wr.heap.size wr.heap.size v (chainR p.ps) ∧ KeepsAll wr w') := Chain_any p.ps v.A v.c wr HV.out HRr.out.P
     obtain ⟨wo, hwo⟩ : ∃ wo : World, wo = wr := ⟨_, rfl⟩
     rw [← hwo] at HBXr HRr HPRr HCH KR ⊢
     clear hwo
     have x0 := HBXr.out.cell 0
     simp at x0
     go_upto_region 11 with (fail)
     go_wp2_with fail
     refine HCH.out.mono ?_
     rintro e w6 ⟨v6, rfl, hch, k6⟩
     have HO6 := Lib.hid hch
     have K6 := Lib.hid k6
     clear hch k6 HCH x0
     go_wp2_with fail
     have hcsl : (csOf s n).length = n := csOf_len s n
     go_loopw [14, 50] (fun vv i wr => ∃ a : Nat, a ≤ n ∧ i = .int .i64 (a : Int) ∧ OwnL 57 5 RRArc wr wo.heap.size wo.heap.size vv (arcsD p.ps (decs p.ps (xs p) ((csOf s n).take a))) ∧ KeepsAll wo wr) (fun _ i _ => n - (intOf i).toNat)
     case atStart => exact ⟨0, Nat.zero_le _, rfl, by (have e : arcsD p.ps (decs p.ps (xs p) ((csOf s n).take 0)) = chainR p.ps := by unfold arcsD decs; simp); rw [e]; exact HO6.out, K6.out⟩
     case round =>
      obtain ⟨a, ha, rfl, ho, hkr⟩ := hrel
      obtain ⟨Ac, cc, rfl, hcc, hcc2⟩ := ho.form
      have HO := Lib.hid ho
      have KS := Lib.hid hkr
      clear ho hkr
      by_cases hla : a < n
      ·have hax : a < (xs p).length := by rw [← HN.out]; exact hla
       obtain ⟨bp, op, x, hAp, hbp, hx, n0, n1, n2, n3, n4⟩ := RPrs.at_ HPRr.out hax
       subst hAp
       have hbb := csOf_at s hla
       have HQ : Hid (arcsD p.ps (decs p.ps (xs p) ((csOf s n).take (a + 1))) = arcsD p.ps (decs p.ps (xs p) ((csOf s n).take a)) ++ [dArc p.ps x (decide (s / 2 ^ a % 2 = 0))]) := by
        show _ = _
        rw [decs_take p.ps hx hbb]
        unfold arcsD
        rw [List.append_assoc]
       obtain ⟨mu, mv, _⟩ := mem_pairs (List.mem_of_getElem? hx)
       have HMU := Lib.hid mu
       have HMV := Lib.hid mv
       have hbpw : bp < wo.heap.size := hbp
       replace n0 := KS.out.cellK hbpw n0
       replace n1 := KS.out.cellK hbpw n1
       replace n2 := KS.out.cellK hbpw n2
       replace n3 := KS.out.cellK hbpw n3
       replace n4 := KS.out.cellK hbpw n4
       have hbr := HBXr.out.kept KS.out (by simp)
       have r0 := hbr.cell 0
       simp at r0
       have hEl : (arcsD p.ps (decs p.ps (xs p) ((csOf s n).take a))).length ≤ 640 + a := by
        have h1 : (decs p.ps (xs p) ((csOf s n).take a)).length ≤ a := by
         unfold decs
         rw [List.length_zipWith]
         have : ((csOf s n).take a).length ≤ a := by rw [List.length_take]; omega
         omega
        unfold arcsD
        rw [List.length_append]
        have := HCL.out
        omega
       have hrr := hbr.lt
       clear mu mv hx hbb hbp hbr
       generalize arcsD p.ps (decs p.ps (xs p) ((csOf s n).take a)) = E at HO HQ hEl hcc ⊢
       go_upto_region 15 with (fail)
       generalize hW4 : World.alloc wr _ = W4
       have k4 : KeepsAll wr W4 := by subst hW4; exact (Keeps.refl _ _).alloc _
       have hbx : Blk W4 wr.heap.size 55 #[.int .i64 x.res, .int .i64 x.u.tr, .int .i64 x.u.st, .int .i64 x.v.tr, .int .i64 x.v.st] := by subst hW4; exact Blk.new _ _ _
       have KW4 := Lib.hid (KS.out.tr k4)
       have HO4 := Lib.hid (HO.out.keeps RRArc.ok k4 (fun _ _ h => h.elim))
       have r04 := k4.cellK (p := ⟨zx, 0, none⟩) hrr r0
       have x0 := hbx.cell 0
       have x1 := hbx.cell 1
       have x2 := hbx.cell 2
       have x3 := hbx.cell 3
       have x4 := hbx.cell 4
       simp at x0 x1 x2 x3 x4
       have hbxl := hbx.lt
       clear hW4 k4 hbx HO r0 n0 n1 n2 n3 n4
       generalize wr.heap.size = zz at *
       by_cases hb : s / 2 ^ a % 2 = 0
       ·have hbt : (bits .and .i64 ((s : Int) / 2 ^ a) 1 == 0) = true := by rw [bits_test (by omega) a]; simpa using hb
        have HBW : Hid (∀ W, KeepsAll wo W → Calls Try.prog 24 #[.slice v.A p.ps.length v.c, .int .i64 x.res, .agg #[.int .i64 x.u.tr, .int .i64 x.u.st], .agg #[.int .i64 x.v.tr, .int .i64 x.v.st]] W fun e w' => e = .returned (.agg #[.int .i64 (betw p.ps x.res x.u x.v).frm.tr, .int .i64 (betw p.ps x.res x.u x.v).frm.st, .int .i64 x.v.tr, .int .i64 x.v.st, .int .i64 0]) ∧ KeepsAll W w') := fun W hW =>
         betw_pr HV.out (HRr.out.kept hW) HMU.out
        have HD : Hid (dArc p.ps x true = ⟨⟨(betw p.ps x.res x.u x.v).frm.tr, (betw p.ps x.res x.u x.v).frm.st⟩, ⟨x.v.tr, x.v.st⟩, 0⟩) := rfl
        have hde : decide (s / 2 ^ a % 2 = 0) = true := by simpa using hb
        rw [hde] at HQ
        generalize (betw p.ps x.res x.u x.v).frm.tr = ft at *
        generalize (betw p.ps x.res x.u x.v).frm.st = fs at *
        clear hde
        go_wp2_with fail
        refine (HBW.out _ KW4.out).mono ?_
        rintro e w6 ⟨rfl, k6⟩
        have K6' := Lib.hid (KW4.out.tr k6)
        have HO7 := Lib.hid (HO4.out.keeps RRArc.ok k6 (fun _ _ h => h.elim))
        have hz6 := (KW4.out.tr k6).size
        clear k6 HBW r04 x0 x1 x2 x3 x4 KW4 HO4 hbt
        go_wp2_with (at_builtin; go_loud (refine wpList_append_L tyRArc RRArc.ok rfl (.tmp 60) (.tmp 70) rfl (HO7.out.alloc RRArc.ok _) rfl _ [.int .i64 ft, .int .i64 fs, .int .i64 x.v.tr, .int .i64 x.v.st, .int .i64 0] rfl (Blk.new' _ _ _ (by simp)) rfl ⟨⟨ft, fs⟩, ⟨x.v.tr, x.v.st⟩, 0⟩ (S := fun _ => False) rfl (fun _ h => h.elim) (by simp [Value.oneCell']) (by omega) (by omega) (by simp; omega) ?_; intro v9 w9 HO9 HK9 HA9; obtain ⟨A9, c9, hv9, _, _⟩ := HO9.form; rw [List.length_append, List.length_singleton] at hv9; subst hv9))
        have KF : Hid (KeepsAll wo w9) := (K6'.out.alloc _).trans HK9 (fun y hy e => (by have := (HO7.out.lt e).1; omega))
        have HOF := Lib.hid HO9
        clear HO9 HK9 HA9 HO7
        go_wp2
        go_roundw
        case rel => exact ⟨a + 1, by omega, by go_num, by rw [HQ.out, HD.out]; first | exact HOF.out | exact HOF.out.drew RRArc.ok, by first | exact KF.out | exact KF.out.drew⟩
        case measure => simp [intOf]; omega
       ·have hbt : (bits .and .i64 ((s : Int) / 2 ^ a) 1 == 0) = false := by rw [bits_test (by omega) a]; simpa using hb
        have HBW : Hid (∀ W, KeepsAll wo W → Calls Try.prog 24 #[.slice v.A p.ps.length v.c, .int .i64 x.res, .agg #[.int .i64 x.v.tr, .int .i64 x.v.st], .agg #[.int .i64 x.u.tr, .int .i64 x.u.st]] W fun e w' => e = .returned (.agg #[.int .i64 (betw p.ps x.res x.v x.u).frm.tr, .int .i64 (betw p.ps x.res x.v x.u).frm.st, .int .i64 x.u.tr, .int .i64 x.u.st, .int .i64 0]) ∧ KeepsAll W w') := fun W hW =>
         betw_pr HV.out (HRr.out.kept hW) HMV.out
        have HD : Hid (dArc p.ps x false = ⟨⟨(betw p.ps x.res x.v x.u).frm.tr, (betw p.ps x.res x.v x.u).frm.st⟩, ⟨x.u.tr, x.u.st⟩, 0⟩) := rfl
        have hde : decide (s / 2 ^ a % 2 = 0) = false := by simpa using hb
        rw [hde] at HQ
        generalize (betw p.ps x.res x.v x.u).frm.tr = ft at *
        generalize (betw p.ps x.res x.v x.u).frm.st = fs at *
        clear hde
        go_wp2_with fail
        refine (HBW.out _ KW4.out).mono ?_
        rintro e w6 ⟨rfl, k6⟩
        have K6' := Lib.hid (KW4.out.tr k6)
        have HO7 := Lib.hid (HO4.out.keeps RRArc.ok k6 (fun _ _ h => h.elim))
        have hz6 := (KW4.out.tr k6).size
        clear k6 HBW r04 x0 x1 x2 x3 x4 KW4 HO4 hbt
        go_wp2_with (at_builtin; go_loud (refine wpList_append_L tyRArc RRArc.ok rfl (.tmp 72) (.tmp 82) rfl (HO7.out.alloc RRArc.ok _) rfl _ [.int .i64 ft, .int .i64 fs, .int .i64 x.u.tr, .int .i64 x.u.st, .int .i64 0] rfl (Blk.new' _ _ _ (by simp)) rfl ⟨⟨ft, fs⟩, ⟨x.u.tr, x.u.st⟩, 0⟩ (S := fun _ => False) rfl (fun _ h => h.elim) (by simp [Value.oneCell']) (by omega) (by omega) (by simp; omega) ?_; intro v9 w9 HO9 HK9 HA9; obtain ⟨A9, c9, hv9, _, _⟩ := HO9.form; rw [List.length_append, List.length_singleton] at hv9; subst hv9))
        have KF : Hid (KeepsAll wo w9) := (K6'.out.alloc _).trans HK9 (fun y hy e => (by have := (HO7.out.lt e).1; omega))
        have HOF := Lib.hid HO9
        clear HO9 HK9 HA9 HO7
        go_wp2
        go_roundw
        case rel => exact ⟨a + 1, by omega, by go_num, by rw [HQ.out, HD.out]; first | exact HOF.out | exact HOF.out.drew RRArc.ok, by first | exact KF.out | exact KF.out.drew⟩
        case measure => simp [intOf]; omega
      ·obtain rfl : a = n := by omega
       have htk : (csOf s a).take a = csOf s a := by
        have := List.take_length (l := csOf s a)
        rwa [hcsl] at this
       rw [htk] at HO hcc ⊢
       have hbs : (csOf s a).length = (xs p).length := by rw [hcsl]; exact HN.out
       have HBAD : Hid (okB p (csOf s a) = false → LstI p (s + 1) best found) := fun hk => HI.out.bad (by rw [← HN.out]; exact hk)
       have HTAKE : Hid (okB p (csOf s a) = true → (found = false ∨ costB p (csOf s a) < best) → LstI p (s + 1) (costB p (csOf s a)) true) := fun hk hb => by
        have := HI.out.take (by rw [← HN.out]; exact hk) (by rw [← HN.out]; exact hb)
        rw [← HN.out] at this
        exact this
       have HLEAVE : Hid (found = true → ¬ costB p (csOf s a) < best → LstI p (s + 1) best found) := fun hf hb => HI.out.leave hf (by rw [← HN.out]; exact hb)
       clear hcsl htk hbs HI
       generalize csOf s a = bs at *
       have HRs := Lib.hid (HRr.out.kept KS.out)
       have HBXs := Lib.hid (HBXr.out.kept KS.out (by simp))
       have HAs : Hid (RRArcs wr (Old wr) [.slice Ac (arcsD p.ps (decs p.ps (xs p) bs)).length cc] (arcsD p.ps (decs p.ps (xs p) bs))) := RRArcs.ok.mono (HO.out.readF RRArc.ok RRArc.flat (fun b hb => HO.out.lt hb)) (fun _ hb => hb.2) (fun _ _ => rfl)
       have HLO := Lib.hid (cho_line HCK.out HPS.out v bs wr Ac cc HRs.out HAs.out)
       have x0 := HBXs.out.cell 0
       have x1 := HBXs.out.cell 1
       simp at x0 x1
       clear HO
       go_upto_region 19 with (fail)
       go_wp2_with fail
       refine HLO.out.mono ?_
       rintro e w7 ⟨v7, rfl, hl7, k7⟩
       obtain ⟨A7, c7, rfl⟩ := RSlice.form hl7
       have HL7 := Lib.hid hl7
       have HR7 := Lib.hid (HRs.out.kept k7)
       have HBX7 := Lib.hid (HBXs.out.kept k7 (by simp))
       have HA7 := Lib.hid (k7.rdo' RRArcs.ok HAs.out)
       have K7 := Lib.hid (KS.out.tr k7)
       clear hl7 k7 HLO HRs HBXs HAs x0 x1
       cases hok : okB p bs with
       | false =>
        have HI1 := Lib.hid (HBAD.out hok)
        clear hok HBAD HTAKE HLEAVE
        go_wp2_with fail
        go_roundw
        case rel => exact ⟨s + 1, best, found, by omega, rfl, rfl, by go_num, HI1.out, KR.out.tr K7.out⟩
        case measure => simp [intOf]; omega
       | true =>
        have HSE := Lib.hid (cho_secs HCK.out HPS.out v bs hok)
        have HCO := Lib.hid (cho_cost HCK.out v bs hok)
        have HTK := Lib.hid (HTAKE.out hok)
        clear hok HBAD HTAKE
        have x0 := HBX7.out.cell 0
        have x1 := HBX7.out.cell 1
        have x2 := HBX7.out.cell 2
        have x3 := HBX7.out.cell 3
        have x4 := HBX7.out.cell 4
        simp at x0 x1 x2 x3 x4
        go_wp2_with fail
        refine wp_region_lex (fun w' => ∃ y : Ext w7, w' = y.val) [0, 1, 2, 3, 4, 5, 6, 7, 8, 9, 10, 11] (by kernel_rfl) (by kernel_rfl) ⟨⟨_, (Keeps.refl _ _).drew⟩, rfl⟩ ?_
        have y0 := Ext.cell x0
        have y1 := Ext.cell x1
        have y2 := Ext.cell x2
        have y3 := Ext.cell x3
        have y4 := Ext.cell x4
        iterate 9 (first | (refine lex_q _ rfl rfl rfl ?_; go_big_quiet_step (fail); refine wpQuiet_nil ?_) | (refine lex_nil _ rfl _ rfl rfl _ rfl ?_; go_simp))
        clear y0 y1 y2 y3 y4
        refine lex_a _ rfl rfl true (by kernel_rfl) ?_
        go_wp2_with fail
        have kd : KeepsAll w7 w7.drew := (Keeps.refl _ _).drew
        refine (HSE.out w7.drew Ac A7 cc c7 (HR7.out.kept kd) (kd.rdo' RRArcs.ok HA7.out) (kd.rdo' RRefs.ok HL7.out)).mono ?_
        rintro e w8 ⟨v8, rfl, hE, k8⟩
        obtain ⟨A8, c8, rfl⟩ := RSlice.form hE
        have K8 := Lib.hid (kd.tr k8)
        have HR8 := Lib.hid (HR7.out.kept (kd.tr k8))
        have HBX8 := Lib.hid (HBX7.out.kept (kd.tr k8) (by simp))
        have HC8 := Lib.hid (HCO.out w8 A8 c8 HR8.out (RIntss.ok.mono hE (fun _ hb => hb.2) (fun _ _ => rfl)))
        clear k8 kd HSE HCO hE
        go_wp2
        refine ⟨fun _ => ⟨⟨_, K8.out⟩, rfl⟩, ?_⟩
        refine lex_a _ rfl rfl true (by kernel_rfl) ?_
        go_wp2_with fail
        refine HC8.out.mono ?_
        rintro e w9 ⟨rfl, k9⟩
        have K9 := Lib.hid (K8.out.tr k9)
        clear HC8 k9
        go_wp2
        refine ⟨fun _ => ⟨⟨_, K9.out⟩, rfl⟩, ?_⟩
        refine lex_q _ rfl rfl rfl ?_; go_big_quiet_step (fail); refine wpQuiet_nil ?_
        simp only [wpLex]
        refine NoPanic.normal ?_
        have KF : Hid (KeepsAll w5 w9) := KR.out.tr (K7.out.tr K9.out)
        clear K7 K8 K9 HR7 HR8 HBX7 HBX8 HA7 HL7 x0 x1 x2 x3 x4
        generalize costB p bs = cst at *
        cases found with
        | false =>
         have HI1 := Lib.hid (HTK.out (.inl rfl))
         clear HTK HLEAVE
         go_wp2_with fail
         go_roundw
         case rel => exact ⟨s + 1, cst, true, by omega, rfl, rfl, by go_num, HI1.out, KF.out⟩
         case measure => simp [intOf]; omega
        | true =>
         by_cases hcb : cst < best
         ·have HI1 := Lib.hid (HTK.out (.inr hcb))
          have hcb' : decide (cst < best) = true := decide_eq_true hcb
          clear HTK HLEAVE
          go_wp2_with fail
          go_roundw
          case rel => exact ⟨s + 1, cst, true, by omega, rfl, rfl, by go_num, HI1.out, KF.out⟩
          case measure => simp [intOf]; omega
         ·have HI1 := Lib.hid (HLEAVE.out rfl (by omega))
          have hcb' : decide (cst < best) = false := decide_eq_false hcb
          clear HTK HLEAVE
          go_wp2_with fail
          go_roundw
          case rel => exact ⟨s + 1, best, true, by omega, rfl, rfl, by go_num, HI1.out, KF.out⟩
          case measure => simp [intOf]; omega
    ·obtain rfl : s = M := by omega
     have hDN : (found = true ∧ (solveP 5000 p).2.2 = 0 ∧ (solveP 5000 p).1.cost = best) ∨ (found = false ∧ (solveP 5000 p).2.2 = 19) := HL.out best found HCK.out h8 (by rw [← HMM.out]; exact HI.out)
     have HDN := Lib.hid hDN
     have HBXs := Lib.hid (HBX5.out.kept KR.out (by simp))
     have HSs := Lib.hid (HS.out wr (HR5.out.kept KR.out))
     have KS := Lib.hid (K5.out.tr KR.out)
     clear hDN HL HI HBX5 HR5 HS KR K5 HMM
     have x0 := HBXs.out.cell 0
     have x1 := HBXs.out.cell 1
     have x2 := HBXs.out.cell 2
     have x3 := HBXs.out.cell 3
     have x4 := HBXs.out.cell 4
     simp at x0 x1 x2 x3 x4
     go_wp2_with fail
     refine HSs.out.mono ?_
     rintro e w10 ⟨a2, b2, c2, rfl, rs, k10⟩
     obtain ⟨Ao, co, Ae, ce, rfl, rfl, rfl, ro, re⟩ := rs.form
     have K10 := Lib.hid (KS.out.tr k10)
     clear k10 HSs KS HBXs rs ro re x0 x1 x2 x3 x4
     simp only []
     generalize (solveP 5000 p).2.2 = er at *
     generalize (solveP 5000 p).1.cost = cost1 at *
     generalize (solveP 5000 p).1.os.length = ol1 at *
     generalize (solveP 5000 p).1.en.length = el1 at *
     generalize (solveP 5000 p).2.1 = st1 at *
     go_upto_region 25 with (fail)
     generalize hW6 : World.alloc w10 _ = W6
     have k6 : KeepsAll w10 W6 := by subst hW6; exact (Keeps.refl _ _).alloc _
     have hbs : Blk W6 w10.heap.size 31 #[.slice Ao ol1 co, .slice Ae el1 ce, .int .i64 cost1] := by subst hW6; exact Blk.new _ _ _
     have HBS6 := Lib.hid hbs
     have K6 := Lib.hid (K10.out.tr k6)
     clear hW6 k6 hbs K10
     generalize w10.heap.size = zs at *
     go_wp2_with fail
     refine (awake37_any W6).mono ?_
     rintro e w7 ⟨rfl, k7⟩
     have s2 := (HBS6.out.kept k7 (by simp)).cell 2
     simp at s2
     have K7 := Lib.hid (K6.out.tr k7)
     clear k7
     rcases HDN.out with ⟨rfl, rfl, rfl⟩ | ⟨rfl, rfl⟩
     ·clear HDN
      go_wp2
      go_ret
      exact ⟨rfl, K7.out⟩
     ·clear HDN
      go_wp2
      go_ret
      exact ⟨rfl, K7.out⟩
  ·have h8' : (n : Int) > 8 := by omega
   go_wp2_with fail
   refine (awake37_any _).mono ?_
   rintro e w6 ⟨rfl, k6⟩
   have K6 := Lib.hid (K5.out.tr k6)
   clear k6
   go_wp2
   go_ret
   exact ⟨rfl, K6.out⟩

end Go.Proofs.Ytilbbpbjhoidhaa
