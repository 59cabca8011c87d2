/- Contract of the reference's arranged of chapter 37. Conditions: as the theorem says. -/
import Derived.Test.YtilbbpbjhoidhaaE39
import Derived.Deep.Cut
namespace Go.Proofs.Ytilbbpbjhoidhaa
open Go.RowKit

set_option maxRecDepth 100000 in
set_option maxHeartbeats 2000000 in
theorem arranged_any (w0 : World) (rb : Nat) (v : PV) (p : Pb) (Ap : Option Addr) (cp budget : Nat) (w : World) (bs : List Bool) (st : SSt) (bb : List Bool) (cc : Int) (h : RDs w0 rb v p Ap cp budget w bs st) (hst : st.best = some (bb, cc)) (hv : valid p.ps = true) (hal : p.at_.length = p.ps.length) (hbl : bb.length = (xs p).length) (hbef : ∀ r : Nat, r < 144 → ∀ u ∈ openA p.ps p.at_ (r : Int), befB p bb (r : Int) u < (openA p.ps p.at_ (r : Int)).length) :
  Calls Try.prog 45 #[.pointer (some ⟨rb, 0, none⟩)] w fun e w' => ∃ A c, e = .returned (.slice A (arrL p bb 144).length c) ∧ ROrders w' (Fresh w w') [.slice A (arrL p bb 144).length c] (arrL p bb 144) ∧ KeepsAll w w' := by
 obtain ⟨vf, fd, vb, vc, ve, hb, ho, hbest⟩ := h.b
 unfold RBest at hbest
 rw [hst] at hbest
 obtain ⟨_, _, hrb, _⟩ := hbest
 obtain ⟨Ab, cb, rfl⟩ := RSlice.form hrb
 have HPB := Lib.hid h.rpb
 have HPR := Lib.hid h.pr
 have HLT := Lib.hid h.rlt
 have HRB : Hid (RBools w (Old w) [.slice Ab bb.length cb] bb) := RBools.ok.mono hrb (fun b hb => hb.2.1) (fun _ _ => rfl)
 have HB := Lib.hid hb
 have HV := Lib.hid hv
 have HBF := Lib.hid hbef
 have HBL := Lib.hid hbl
 have HAL := Lib.hid hal
 have HPRw : Hid (RPrs w (Old w) [.slice Ap (xs p).length cp] (xs p)) := RPrs.ok.mono h.pr (fun b hb => by have : b < rb := hb; have := h.rlt; show b < _; omega) (fun _ _ => rfl)
 have hxl := pairsTo_big hv p.at_ 144
 have hxl : (xs p).length ≤ 144 * 409600 := hxl
 have hal144 : ∀ n, (arrL p bb n).length ≤ n := by
  intro n
  induction n with
  | zero => simp [arrL]
  | succ n ih => rw [arrL, List.length_append]; split <;> simp <;> omega
 have HAL144 := Lib.hid hal144
 clear h hb ho hrb hv hal hbef hbl hal144
 go_enter Try.func45, Try.ntmps45
 go_wp2
 go_loopw [3, 4] (fun vv i wr => ∃ n : Nat, n ≤ 144 ∧ i = .int .i64 (n : Int) ∧ OwnL 44 2 ROrder wr w.heap.size w.heap.size vv (arrL p bb n) ∧ KeepsAll w wr) (fun _ i _ => 144 - (intOf i).toNat)
 case atStart => exact ⟨0, Nat.zero_le _, rfl, OwnL.nil, Keeps.refl _ _⟩
 case round =>
  obtain ⟨n, hn, rfl, ho, hkr⟩ := hrel
  obtain ⟨Ac, cc2, rfl, hcc, hcc2⟩ := ho.form
  have HO := Lib.hid ho
  have KR := Lib.hid hkr
  have hDl := HAL144.out n
  have hszr := hkr.size
  clear ho hkr
  by_cases hlt : n < 144
  ·have hbr := HB.out.kept KR.out (by simp)
   have r0 := hbr.cell 0
   have r1 := hbr.cell 1
   have r2 := hbr.cell 2
   have r3 := hbr.cell 3
   have r4 := hbr.cell 4
   simp [rdC] at r0 r1 r2 r3 r4
   have hrr := hbr.lt
   have HOP : Hid (Calls Try.prog 56 #[.agg #[.slice v.A p.ps.length v.c, .slice v.A2 p.at_.length v.c2, .slice v.A3 p.due.length v.c3, .slice v.A4 p.wgt.length v.c4, .int .i64 p.now], .int .i64 (n : Int)] wr fun e w' => ∃ A c, e = .returned (.slice A (openA p.ps p.at_ (n : Int)).length c) ∧ RRefs w' (Fresh wr w') [.slice A (openA p.ps p.at_ (n : Int)).length c] (openA p.ps p.at_ (n : Int)) ∧ KeepsAll wr w') := ROpen_any p v wr (n : Int) (HPB.out.kept KR.out) HV.out HAL.out
   have HBN := Lib.hid (HBF.out n hlt)
   have hll := Nat.le_trans (openA_len p.ps p.at_ (n : Int)) (allU_640 HV.out (n : Int))
   have HQ : Hid (arrL p bb (n + 1) = arrL p bb n ++ (if (openA p.ps p.at_ (n : Int)).length = 0 then [] else [⟨(n : Int), placeL (befB p bb (n : Int)) (openA p.ps p.at_ (n : Int))⟩])) := rfl
   have HBFE : Hid (∀ u, befB p bb (n : Int) u = earlier (openA p.ps p.at_ (n : Int)) u + lostB (xs p) bb (n : Int) u) := fun u => rfl
   clear hbr
   generalize arrL p bb n = D at HO HQ hDl hcc ⊢
   generalize befB p bb (n : Int) = f at *
   generalize openA p.ps p.at_ (n : Int) = l at *
   go_wp2_with fail
   refine HOP.out.mono ?_
   rintro e w2 ⟨Al, cl, rfl, hl, k2⟩
   have HL := Lib.hid hl
   have K2 := Lib.hid k2
   have hcl := hl.caps
   have HO2 := Lib.hid (HO.out.keeps ROrder.ok k2 (fun _ _ h => h.elim))
   clear hl k2 HOP r0 r1 r2 r3 r4 HO
   by_cases hl0 : l.length = 0
   ·have Q2 : Hid (arrL p bb (n + 1) = D) := by show _ = _; rw [HQ.out, if_pos hl0, List.append_nil]
    have hl0b : ((l.length : Int) == 0) = true := by simp [hl0]
    clear HQ
    have KF := Lib.hid (KR.out.tr K2.out)
    rw [hl0]
    clear hl0b hl0
    go_wp2
    go_roundw
    case rel => exact ⟨n + 1, by omega, by go_num, by rw [Q2.out]; exact HO2.out, KF.out⟩
    case measure => simp [intOf]; omega
   ·have Q2 : Hid (arrL p bb (n + 1) = D ++ [⟨(n : Int), placeL f l⟩]) := by show _ = _; rw [HQ.out, if_neg hl0]
    have hl0b : ((l.length : Int) == 0) = false := by simp; intro e; exact hl0 (by rw [e]; rfl)
    have hmk := mkRefs l.length (by omega)
    clear HQ
    go_wp2
    generalize hW3 : World.alloc (World.alloc w2 _) _ = W3
    have hK3 : KeepsAll w2 W3 := by subst hW3; exact ((Keeps.refl _ _).alloc _).alloc _
    have hBG : Blk W3 w2.heap.size 46 (cellsR (placeTo f l 0)) := by subst hW3; exact (Blk.new _ _ _).alloc _
    have hBO : Blk W3 (w2.heap.size + 1) 44 #[.int .i64 (n : Int), .slice (some ⟨w2.heap.size, 0, none⟩) l.length l.length] := by subst hW3; exact Blk.new' _ _ _ (by simp)
    have HK3 := Lib.hid hK3
    have HBG := Lib.hid hBG
    have HBO := Lib.hid hBO
    have HLF : Hid (RRefs W3 (fun b => b < w2.heap.size) [.slice Al l.length cl] l) := RRefs.ok.mono HL.out (fun b hb => hb.2) (fun b hb => hK3.block b hb.2 (by simp))
    have hg3 : w2.heap.size < W3.heap.size ∧ w2.heap.size + 1 < W3.heap.size := ⟨hBG.lt, hBO.lt⟩
    have hszw : w.heap.size ≤ w2.heap.size := by have := K2.out.size; omega
    clear hW3 hK3 hBG hBO hmk hl0b hl0 HL
    obtain ⟨g, hg⟩ : ∃ g, g = w2.heap.size := ⟨_, rfl⟩
    obtain ⟨zo, hzo⟩ : ∃ z, z = w2.heap.size + 1 := ⟨_, rfl⟩
    have HGZ : Hid (w.heap.size ≤ g ∧ wr.heap.size ≤ g ∧ g < zo ∧ w2.heap.size ≤ g ∧ g ≤ w2.heap.size) := ⟨by omega, by have := K2.out.size; omega, by omega, by omega, by omega⟩
    rw [← hg] at HBG HLF HBO
    rw [← hg] at hzo ⊢
    rw [← hzo] at HBO ⊢
    clear hg hzo hszw
    have KWr : Hid (∀ W, Keeps (fun b => b = g) W3 W → KeepsAll wr W) := fun W hW => ((K2.out.tr HK3.out).mono (C := fun _ => False) (fun _ _ e => e)).trans hW (fun b hb e => by have e : b = g := e; have := HGZ.out; omega)
    go_loopw [34] (fun iv wx => ∃ a : Nat, a ≤ l.length ∧ iv = .int .i64 (a : Int) ∧ Keeps (fun b => b = g) W3 wx ∧ Blk wx g 46 (cellsR (placeTo f l a))) (fun iv _ => l.length - (intOf iv).toNat)
    case atStart => exact ⟨0, Nat.zero_le _, rfl, Keeps.refl _ _, HBG.out⟩
    case round =>
     obtain ⟨a, ha, rfl, hkx, hbg⟩ := hrel
     clear HBG
     have HKX := Lib.hid hkx
     have HBG := Lib.hid hbg
     clear hkx hbg
     by_cases hlta : a < l.length
     ·have hlx : RRefs wr (Old wr) [.slice Al l.length cl] l := RRefs.ok.mono HLF.out (fun b hb => by have h1 : b < g := hb; have := HKX.out.size; have := HBG.out.lt; show b < _; omega) (fun b hb => HKX.out.block b (by have h1 : b < g := hb; have := hg3.1; have := HGZ.out; omega) (by have h1 : b < g := hb; show ¬ b = g; omega))
      obtain ⟨bx, ox, u, hAx, hbx, hu, m0, m1⟩ := RRefs.atK (Keeps.refl _ _) hlx hlta
      subst hAx
      have HLX := Lib.hid hlx
      have hmem := List.mem_of_getElem? hu
      have HU := Lib.hid hu
      have hfu := HBN.out u hmem
      have HFU := Lib.hid (HBFE.out u)
      clear hlx hu hmem
      go_upto_region 11 with (fail)
      generalize hW4 : World.alloc wr _ = W4
      have k4 : KeepsAll wr W4 := by subst hW4; exact (Keeps.refl _ _).alloc _
      have hbu : Blk W4 wr.heap.size 46 #[.int .i64 u.tr, .int .i64 u.st] := by subst hW4; exact Blk.new _ _ _
      have HBU := Lib.hid hbu
      have HK4 := Lib.hid (HKX.out.trans k4 (fun _ _ e => e.elim))
      have HBG4 := Lib.hid (HBG.out.kept k4 (by simp))
      have hlx4 : RRefs W4 (Old W4) [.slice (some ⟨bx, ox, none⟩) l.length cl] l := k4.rdo' RRefs.ok HLX.out
      have HLX4 := Lib.hid hlx4
      clear hW4 k4 hbu HKX HBG HLX hlx4 m0 m1 hbx
      generalize wr.heap.size = zu at *
      go_wp2
      go_loopw [9, 40] (fun xv iv wy => ∃ b : Nat, b ≤ l.length ∧ iv = .int .i64 (b : Int) ∧ xv = .int .i64 (earlTo (l.take b) u : Int) ∧ KeepsAll W4 wy) (fun _ iv _ => l.length - (intOf iv).toNat)
      case atStart => exact ⟨0, Nat.zero_le _, rfl, rfl, Keeps.refl _ _⟩
      case round =>
       obtain ⟨b, hb, rfl, rfl, hky⟩ := hrel
       have HKY := Lib.hid hky
       have hbu := HBU.out.kept hky (by simp)
       have e0 := hbu.cell 0
       have e1 := hbu.cell 1
       simp at e0 e1
       have hzu := hbu.lt
       clear hbu
       have hel : earlTo (l.take b) u ≤ 640 := by have := earlTo_le (l.take b) u; rw [List.length_take] at this; omega
       by_cases hltb : b < l.length
       ·obtain ⟨by', oy, y, hAy, hby, hy, q0, q1⟩ := RRefs.atK hky HLX4.out hltb
        injection hAy with hAy
        injection hAy with ey1 ey2 _
        subst ey1 ey2
        have HN : Hid (earlTo (l.take (b + 1)) u = earlTo (l.take b) u + (if y.tr = u.tr ∧ y.st < u.st then 1 else 0)) := by
         show _ = _
         rw [List.take_add_one, hy, Option.toList_some, earlTo_snoc]
        clear hy hky
        generalize earlTo (l.take b) u = ev at *
        have KA : Hid (KeepsAll W4 (wr.alloc (.cells #[.int .i64 y.tr, .int .i64 y.st] 46))) := HKY.out.alloc _
        by_cases ht : y.tr = u.tr
        ·have ht' : (y.tr == u.tr) = true := by simpa using ht
         by_cases hs : y.st < u.st
         ·have hs' : decide (y.st < u.st) = true := decide_eq_true hs
          have HN2 : Hid (earlTo (l.take (b + 1)) u = ev + 1) := by show _ = _; rw [HN.out, if_pos ⟨ht, hs⟩]
          rw [ht] at q0 KA
          clear HN ht ht' hs
          go_wp2
          go_roundw
          case rel => exact ⟨b + 1, by omega, by go_num, by rw [HN2.out]; go_num, KA.out⟩
          case measure => simp [intOf]; omega
         ·have hs' : decide (y.st < u.st) = false := decide_eq_false hs
          have HN2 : Hid (earlTo (l.take (b + 1)) u = ev) := by show _ = _; rw [HN.out, if_neg (fun h => hs h.2)]; rfl
          rw [ht] at q0 KA
          clear HN ht ht' hs
          go_wp2
          go_roundw
          case rel => exact ⟨b + 1, by omega, by go_num, by rw [HN2.out], KA.out⟩
          case measure => simp [intOf]; omega
        ·have ht' : (y.tr == u.tr) = false := by simpa using ht
         have HN2 : Hid (earlTo (l.take (b + 1)) u = ev) := by show _ = _; rw [HN.out, if_neg (fun h => ht h.1)]; rfl
         clear HN
         go_wp2
         go_roundw
         case rel => exact ⟨b + 1, by omega, by go_num, by rw [HN2.out], KA.out⟩
         case measure => simp [intOf]; omega
       ·obtain rfl : b = l.length := by omega
        rw [List.take_length] at hel ⊢
        clear hky
        have hkw : Keeps (fun b => b = g) w wr := ((((KR.out.tr K2.out).tr HK3.out).mono (C := fun b => b = g) (fun _ _ e => e.elim)).trans HK4.out (fun _ _ e => e)).trans HKY.out (fun _ _ e => e.elim)
        have hgw := HGZ.out.1
        have hbr := HB.out.kept hkw (by have := HLT.out; show ¬ rb = g; omega)
        have r5 := hbr.cell 5
        have r10 := hbr.cell 10
        simp [rdC] at r5 r10
        have hrr := hbr.lt
        have hpr : RPrs wr (Old wr) [.slice Ap (xs p).length cp] (xs p) := RPrs.ok.mono HPRw.out (fun b hb => Nat.lt_of_lt_of_le hb hkw.size) (fun b hb => hkw.block b hb (by have : b < w.heap.size := hb; show ¬ b = g; omega))
        have hrb : RBools wr (Old wr) [.slice Ab bb.length cb] bb := RBools.ok.mono HRB.out (fun b hb => Nat.lt_of_lt_of_le hb hkw.size) (fun b hb => hkw.block b hb (by have : b < w.heap.size := hb; show ¬ b = g; omega))
        have HPX := Lib.hid hpr
        have HBX := Lib.hid hrb
        have HBU5 := Lib.hid (HBU.out.kept HKY.out (by simp))
        have HK5 := Lib.hid (HK4.out.trans HKY.out (fun _ _ e => e.elim))
        have HBG5 := Lib.hid (HBG4.out.kept HKY.out (by simp))
        clear hkw hbr hpr hrb HBU HK4 HBG4 HLX4 HKY
        obtain ⟨w5, rfl⟩ : ∃ wo : World, wo = wr := ⟨_, rfl⟩
        obtain ⟨ev, hev⟩ : ∃ ev, ev = earlTo l u := ⟨_, rfl⟩
        have HEVE := Lib.hid hev
        rw [← hev] at hel ⊢
        clear hev
        go_wp2
        go_loopw [9, 64] (fun xv iv wy => ∃ m : Nat, m ≤ (xs p).length ∧ iv = .int .i64 (m : Int) ∧ xv = .int .i64 ((ev + lostTo (xs p) bb (n : Int) u m : Nat) : Int) ∧ KeepsAll w5 wy) (fun _ iv _ => (xs p).length - (intOf iv).toNat)
        case atStart => exact ⟨0, Nat.zero_le _, rfl, rfl, Keeps.refl _ _⟩
        case round =>
         obtain ⟨m, hm, rfl, rfl, hky⟩ := hrel
         have HKY := Lib.hid hky
         have hlo := lostTo_le (xs p) bb (n : Int) u m
         have hbu := HBU5.out.kept hky (by simp)
         have e0 := hbu.cell 0
         have e1 := hbu.cell 1
         simp at e0 e1
         have hzu := hbu.lt
         have r10' := hky.cellK (p := ⟨rb, 10, none⟩) hrr r10
         have hrr' := Nat.lt_of_lt_of_le hrr hky.size
         clear hbu
         by_cases hltm : m < (xs p).length
         ·obtain ⟨bp, op, x, hAp, hbp, hx, n0, n1, n2, n3, n4⟩ := RPrs.at_ HPX.out hltm
          subst hAp
          obtain ⟨bq, oq, b, hAq, hbq, hbb, b0⟩ := RBools.at_ HBX.out (k := m) (by rw [HBL.out]; exact hltm)
          subst hAq
          have hmb : m < bb.length := by rw [HBL.out]; exact hltm
          have hbpz : bp < w5.heap.size := hbp
          have hbqz : bq < w5.heap.size := hbq
          replace n0 := hky.cellK hbpz n0
          replace n1 := hky.cellK hbpz n1
          replace n2 := hky.cellK hbpz n2
          replace n3 := hky.cellK hbpz n3
          replace n4 := hky.cellK hbpz n4
          replace b0 := hky.cellK hbqz b0
          have hbpy := Nat.lt_of_lt_of_le hbpz hky.size
          have hbqy := Nat.lt_of_lt_of_le hbqz hky.size
          have HN : Hid (lostTo (xs p) bb (n : Int) u (m + 1) = lostTo (xs p) bb (n : Int) u m + (if hitB (n : Int) u (x, b) = true then 1 else 0)) := lostTo_succ (n : Int) u hx hbb
          have HIT : Hid (hitB (n : Int) u (x, b) = (decide (x.res = (n : Int)) && ((decide (x.v.tr = u.tr ∧ x.v.st = u.st) && b) || (decide (x.u.tr = u.tr ∧ x.u.st = u.st) && !b)))) := by
           show _ = _; unfold hitB; simp only [refEq]
          have q1 := eqlRef x.v.tr x.v.st u.tr u.st
          have q2 := eqlRef x.u.tr x.u.st u.tr u.st
          clear hx hbb hbp hbq hky
          have KA : Hid (KeepsAll w5 (wr.alloc (.cells #[.int .i64 x.res, .int .i64 x.u.tr, .int .i64 x.u.st, .int .i64 x.v.tr, .int .i64 x.v.st] 55))) := HKY.out.alloc _
          generalize decide (x.v.tr = u.tr ∧ x.v.st = u.st) = b1 at *
          generalize decide (x.u.tr = u.tr ∧ x.u.st = u.st) = b2 at *
          generalize lostTo (xs p) bb (n : Int) u m = lo at *
          go_upto_region 21 with (fail)
          generalize hW6 : World.alloc wr _ = W6
          have k6 : KeepsAll wr W6 := by subst hW6; exact (Keeps.refl _ _).alloc _
          have hbx : Blk W6 wr.heap.size 55 #[.int .i64 x.res, .int .i64 x.u.tr, .int .i64 x.u.st, .int .i64 x.v.tr, .int .i64 x.v.st] := by subst hW6; exact Blk.new _ _ _
          have KA := Lib.hid (HKY.out.tr k6)
          have x0 := hbx.cell 0
          have x1 := hbx.cell 1
          have x2 := hbx.cell 2
          have x3 := hbx.cell 3
          have x4 := hbx.cell 4
          simp at x0 x1 x2 x3 x4
          have hz6 := hbx.lt
          replace e0 := k6.cellK (p := ⟨zu, 0, none⟩) hzu e0
          replace e1 := k6.cellK (p := ⟨zu, 1, none⟩) hzu e1
          replace r10' := k6.cellK (p := ⟨rb, 10, none⟩) hrr' r10'
          replace b0 := k6.cellK hbqy b0
          clear hW6 k6 hbx HKY n0 n1 n2 n3 n4 r5 r10
          generalize wr.heap.size = zx at *
          by_cases hres : x.res = (n : Int)
          ·have hres' : (x.res == (n : Int)) = true := by simpa using hres
           have HIT2 : Hid (hitB (n : Int) u (x, b) = ((b1 && b) || (b2 && !b))) := by show _ = _; rw [HIT.out, decide_eq_true hres, Bool.true_and]
           clear HIT hres
           cases b1 with
           | false =>
            cases b2 with
            | false =>
             cases b with
             | false =>
              have HN2 : Hid (lostTo (xs p) bb (n : Int) u (m + 1) = lo + 0) := by show _ = _; rw [HN.out, HIT2.out]; rfl
              clear HN HIT2
              go_wp2
              go_roundw
              case rel => exact ⟨m + 1, by omega, by go_num, by rw [HN2.out]; rfl, KA.out⟩
              case measure => simp [intOf]; omega
             | true =>
              have HN2 : Hid (lostTo (xs p) bb (n : Int) u (m + 1) = lo + 0) := by show _ = _; rw [HN.out, HIT2.out]; rfl
              clear HN HIT2
              go_wp2
              go_roundw
              case rel => exact ⟨m + 1, by omega, by go_num, by rw [HN2.out]; rfl, KA.out⟩
              case measure => simp [intOf]; omega
            | true =>
             cases b with
             | false =>
              have HN2 : Hid (lostTo (xs p) bb (n : Int) u (m + 1) = lo + 1) := by show _ = _; rw [HN.out, HIT2.out]; rfl
              clear HN HIT2
              go_wp2
              go_roundw
              case rel => exact ⟨m + 1, by omega, by go_num, by rw [HN2.out]; go_num, KA.out⟩
              case measure => simp [intOf]; omega
             | true =>
              have HN2 : Hid (lostTo (xs p) bb (n : Int) u (m + 1) = lo + 0) := by show _ = _; rw [HN.out, HIT2.out]; rfl
              clear HN HIT2
              go_wp2
              go_roundw
              case rel => exact ⟨m + 1, by omega, by go_num, by rw [HN2.out]; rfl, KA.out⟩
              case measure => simp [intOf]; omega
           | true =>
            cases b2 with
            | false =>
             cases b with
             | false =>
              have HN2 : Hid (lostTo (xs p) bb (n : Int) u (m + 1) = lo + 0) := by show _ = _; rw [HN.out, HIT2.out]; rfl
              clear HN HIT2
              go_wp2
              go_roundw
              case rel => exact ⟨m + 1, by omega, by go_num, by rw [HN2.out]; rfl, KA.out⟩
              case measure => simp [intOf]; omega
             | true =>
              have HN2 : Hid (lostTo (xs p) bb (n : Int) u (m + 1) = lo + 1) := by show _ = _; rw [HN.out, HIT2.out]; rfl
              clear HN HIT2
              go_wp2
              go_roundw
              case rel => exact ⟨m + 1, by omega, by go_num, by rw [HN2.out]; go_num, KA.out⟩
              case measure => simp [intOf]; omega
            | true =>
             cases b with
             | false =>
              have HN2 : Hid (lostTo (xs p) bb (n : Int) u (m + 1) = lo + 1) := by show _ = _; rw [HN.out, HIT2.out]; rfl
              clear HN HIT2
              go_wp2
              go_roundw
              case rel => exact ⟨m + 1, by omega, by go_num, by rw [HN2.out]; go_num, KA.out⟩
              case measure => simp [intOf]; omega
             | true =>
              have HN2 : Hid (lostTo (xs p) bb (n : Int) u (m + 1) = lo + 1) := by show _ = _; rw [HN.out, HIT2.out]; rfl
              clear HN HIT2
              go_wp2
              go_roundw
              case rel => exact ⟨m + 1, by omega, by go_num, by rw [HN2.out]; go_num, KA.out⟩
              case measure => simp [intOf]; omega
          ·have hres' : (x.res == (n : Int)) = false := by simpa using hres
           have HN2 : Hid (lostTo (xs p) bb (n : Int) u (m + 1) = lo) := by show _ = _; rw [HN.out, HIT.out, decide_eq_false hres, Bool.false_and, if_neg (by simp)]; rfl
           clear HN HIT hres
           go_wp2
           go_roundw
           case rel => exact ⟨m + 1, by omega, by go_num, by rw [HN2.out], KA.out⟩
           case measure => simp [intOf]; omega
         ·obtain rfl : m = (xs p).length := by omega
          have hlob : lostTo (xs p) bb (n : Int) u (xs p).length = lostB (xs p) bb (n : Int) u := lostTo_all (n : Int) u HBL.out
          have HEV : Hid (ev + lostTo (xs p) bb (n : Int) u (xs p).length = f u) := by show _ = _; rw [hlob, HFU.out, HEVE.out, earlTo_all]
          rw [HEV.out]
          have hbg := HBG5.out.kept hky (by simp)
          have hkz : Keeps (fun b => b = g) W3 wr := HK5.out.trans hky (fun _ _ e => e.elim)
          have hbo := HBO.out.kept hkz (by have := HGZ.out; show ¬ zo = g; omega)
          have o1 := hbo.cell 1
          simp at o1
          have hzo := hbo.lt
          have hgz := hbg.lt
          have hpl := placeTo_len f l a
          have hfa : f u < (placeTo f l a).length := by rw [hpl]; exact hfu
          obtain ⟨y0, hy0⟩ : ∃ y, (placeTo f l a)[f u]? = some y := ⟨_, List.getElem?_eq_getElem hfa⟩
          obtain ⟨g0, g1⟩ := cellsR_at hy0
          have t0 := hbg.cell (f u * 2)
          have t1 := hbg.cell (f u * 2 + 1)
          rw [g0] at t0
          rw [g1] at t1
          have f0 := hbg.frozen (f u * 2)
          have f1 := hbg.frozen (f u * 2 + 1)
          have HNX : Hid (∀ W, W = (wr.setCell ⟨g, f u * 2, none⟩ (.int .i64 u.tr)).setCell ⟨g, f u * 2 + 1, none⟩ (.int .i64 u.st) → Keeps (fun b => b = g) W3 W ∧ Blk W g 46 (cellsR (placeTo f l (a + 1)))) := by
           rintro W rfl
           refine ⟨(hkz.setCell (p := ⟨g, f u * 2, none⟩) (fun _ => rfl) _).setCell (p := ⟨g, f u * 2 + 1, none⟩) (fun _ => rfl) _, ?_⟩
           rw [placeTo_succ f HU.out, ← cellsR_set]
           exact (hbg.set_ _ _).set_ _ _
          clear hbg hkz hbo hlob hy0 g0 g1 HEV HBG5 HK5 hky HKY hlo r10' hrr'
          generalize f u = fu at *
          go_wp2
          generalize hW7 : World.setCell (World.setCell wr _ _) _ _ = W7
          have hx7 := HNX.out W7 hW7.symm
          have HX7 := Lib.hid hx7
          clear hW7 hx7 HNX t0 t1 f0 f1 o1
          go_roundw
          case rel => exact ⟨a + 1, by omega, by go_num, HX7.out.1, HX7.out.2⟩
          case measure => simp [intOf]; omega
     ·obtain rfl : a = l.length := by omega
      have hbg := HBG.out
      rw [placeTo_all] at hbg
      have hbo := HBO.out.kept HKX.out (by have := HGZ.out; show ¬ zo = g; omega)
      have o0 := hbo.cell 0
      have o1 := hbo.cell 1
      simp at o0 o1
      have hzo := hbo.lt
      have kwr := KWr.out _ HKX.out
      have HKF := Lib.hid (KR.out.tr kwr)
      have KW2 : KeepsAll w2 wr := HK3.out.trans HKX.out (fun b hb e => by have e : b = g := e; have := HGZ.out; omega)
      have HOF := Lib.hid (HO2.out.keeps ROrder.ok KW2 (fun _ _ h => h.elim))
      have hpl : (placeL f l).length = l.length := by rw [← placeTo_all, placeTo_len]
      have hgz := hbg.lt
      have hgw := HGZ.out
      have hszf := HKF.out.size
      have HRE : Hid (RRefs (wr.alloc (.cells #[.int .i64 (n : Int), .slice (some ⟨g, 0, none⟩) l.length l.length] 44)) (fun b => w.heap.size ≤ b ∧ b < (wr.alloc (.cells #[.int .i64 (n : Int), .slice (some ⟨g, 0, none⟩) l.length l.length] 44)).heap.size ∧ ¬ (Value.slice Ac D.length cc2).ownBlock = some b) [.slice (some ⟨g, 0, none⟩) l.length l.length] (placeL f l)) := by
       have h1 : RRefs (wr.alloc (.cells #[.int .i64 (n : Int), .slice (some ⟨g, 0, none⟩) l.length l.length] 44)) (fun b => w.heap.size ≤ b ∧ b < (wr.alloc (.cells #[.int .i64 (n : Int), .slice (some ⟨g, 0, none⟩) l.length l.length] 44)).heap.size ∧ ¬ (Value.slice Ac D.length cc2).ownBlock = some b) [.slice (some ⟨g, 0, none⟩) (placeL f l).length (placeL f l).length] (placeL f l) := Blk.refs (hbg.alloc _) ⟨hgw.1, by simp; omega, fun e => by have := (HO2.out.lt e).2; omega⟩ (by rw [hpl]; omega)
       rw [hpl] at h1
       exact h1
      clear hbg hbo KW2 HO2 HBG HKX HBO KWr HK3 HLF kwr
      go_wp2_with (at_builtin; refine wpList_append_L tyOrder ROrder.ok rfl (.tmp 113) (.tmp 115) rfl (HOF.out.alloc ROrder.ok _) rfl _ [.int .i64 (n : Int), .slice (some ⟨g, 0, none⟩) l.length l.length] rfl (Blk.new' _ _ _ (by simp)) rfl ⟨(n : Int), placeL f l⟩ (S := fun b => w.heap.size ≤ b ∧ b < (wr.alloc (.cells #[.int .i64 (n : Int), .slice (some ⟨g, 0, none⟩) l.length l.length] 44)).heap.size ∧ ¬ (Value.slice Ac D.length cc2).ownBlock = some b) ⟨_, rfl, HRE.out⟩ (fun b hb => hb) (by simp [Value.oneCell']) (by omega) (by omega) (by simp; omega) ?_; intro v9 w9 HO9 HK9 HA9; obtain ⟨A9, c9, hv9, _, _⟩ := HO9.form; rw [List.length_append, List.length_singleton] at hv9; subst hv9)
      go_roundw
      case rel => exact ⟨n + 1, by omega, by go_num, by rw [Q2.out]; exact HO9, ((HKF.out.alloc _).trans HK9 (fun x hx e => (by have := (HOF.out.lt e).1; omega)))⟩
      case measure => simp [intOf]; omega
  ·obtain rfl : n = 144 := by omega
   go_wp2
   go_ret
   exact ⟨_, _, rfl, HO.out.read ROrder.ok (by omega) (fun b h1 h2 => ⟨h1, h2⟩) (fun b h1 h2 => ⟨h1, h2⟩), KR.out⟩

end Go.Proofs.Ytilbbpbjhoidhaa
