/- Contract of the reference's Valid: it returns what precedence.Valid returns. Conditions: as each theorem says. Contract of the reference's Check. Conditions: as the theorem says. Contract of precedence.proper. Conditions: as the theorem says. Maps whose keys are of Go's type int: what a lookup, a store and len do, in terms of the function that the map is. Conditions: as each theorem says. Contract of precedence.Check: it returns what the reference's Check returns. Conditions: as the theorem says. Contract of newGraph. Conditions: as each theorem says. Contracts of the graph's ready and of what it calls. Conditions: as each theorem says. Contract of the graph's ready. Conditions: as the theorem says. Contract of the graph's line. Conditions: as the theorem says. Contracts of the graph's agrees, refs and complete. Conditions: as each theorem says. -/
import Derived.Test.YtilbbpbjhoidhaaE02
import Derived.Test.YtilbbpbjhoidhaaE06
import Derived.Test.YtilbbpbjhoidhaaE05
import Derived.Test.YtilbbpbjhoidhaaE04
import Derived.Test.YtilbbpbjhoidhaaE01
namespace Go.Proofs.Ytilbbpbjhoidhaa
open Go.RowKit

theorem validStage_ext {W : World} (x : Ext W) (s : Stage) (Ap : Option Addr) (cp : Nat) (S : Foot) (h : RInts W S [.slice Ap s.pts.length cp] s.pts) (hS : ∀ b, S b → b < W.heap.size) :
  Calls Try.prog 92 #[.agg #[.int .i64 s.sec, .slice Ap s.pts.length cp, .int .i64 s.mn, .int .i64 s.nt]] x.val fun e w'' => e = .returned (.bool (stageOk s)) ∧ ∃ y : Ext W, w'' = y.val :=
 ext_call x ((validStage_any s Ap cp x.val S (Ext.rd RInts.ok h x hS) (x.old hS)).mono fun _ _ ⟨he, hw⟩ => ⟨he, by rw [hw]; exact (Keeps.refl _ _).alloc _⟩)

set_option maxRecDepth 100000 in
set_option maxHeartbeats 1000000 in
theorem RefValid_any (ps : List (List Stage)) (A : Option Addr) (c : Nat) (w : World) (h : RPaths w (Old w) [.slice A ps.length c] ps) :
  Calls Try.prog 80 #[.slice A ps.length c] w fun e w' => e = .returned (.bool (valid ps)) ∧ KeepsAll w w' := by
 have hc := h.caps
 have H := Lib.hid h; clear h
 by_cases g1 : ps.length ≤ 10
 ·have g1' : decide ((10 : Int) < (ps.length : Int)) = false := by simp; omega
  go_enter Try.func80, Try.ntmps80
  go_wp2
  generalize hw1 : (World.alloc (World.alloc w _) _) = w1
  have hv : VInv w w1 [] [] := by
   subst hw1
   exact ⟨by rw [marks_nil]; exact (Blk.new _ _ _).alloc _, by rw [marks_nil]; exact Blk.new' _ _ _ (by simp), ((Keeps.refl _ _).alloc _).alloc _⟩
  clear hw1
  go_loopw [17] (fun i wr => ∃ k : Nat, k ≤ ps.length ∧ i = .int .i64 k ∧ VInv w wr ((ps.take k).flatten.map (·.sec)) ((ps.take k).flatten.flatMap (·.pts)) ∧ (ps.take k).all pathOk = true) (fun i _ => ps.length - (intOf i).toNat)
  case atStart => exact ⟨0, Nat.zero_le _, rfl, hv, rfl⟩
  case round =>
   obtain ⟨k, hk, rfl, hv1, hall⟩ := hrel
   clear hv
   have HA := Lib.hid hall; clear hall
   by_cases hlt : k < ps.length
   ·obtain ⟨b, o, p, A', c', rfl, hb, hx, hcell, hp⟩ := RSS.at_ H.out hlt
    have hcell' := (hv1.k.cell (p := ⟨b, o + k, none⟩) hb (by simp)).trans hcell
    have hpc := hp.caps
    have HX := Lib.hid hx; clear hx hcell
    have HP := Lib.hid hp; clear hp
    have V : Hid (pathOk p = false → valid ps = false) := fun q => valid_bad HX.out q
    by_cases g2 : 1 ≤ p.length
    rotate_left
    ·have Q := Lib.hid (V.out (by simp [pathOk, g2]))
     have g2' : decide ((p.length : Int) < 1) = true := by simp; omega
     go_wp2
     go_ret
     exact ⟨by rw [Q.out]; rfl, hv1.k⟩
    have g2' : decide ((p.length : Int) < 1) = false := by simp; omega
    by_cases g3 : p.length ≤ 64
    rotate_left
    ·have Q := Lib.hid (V.out (by simp [pathOk, g3]))
     have g3' : decide ((64 : Int) < (p.length : Int)) = true := by simp; omega
     go_wp2
     go_ret
     exact ⟨by rw [Q.out]; rfl, hv1.k⟩
    have g3' : decide ((64 : Int) < (p.length : Int)) = false := by simp; omega
    go_wp2
    obtain ⟨wo, rfl⟩ : ∃ wo : World, wo = wr := ⟨_, rfl⟩
    generalize hD1 : (ps.take k).flatten.map (·.sec) = D1 at hv1
    generalize hD2 : (ps.take k).flatten.flatMap (·.pts) = D2 at hv1
    have HD1 := Lib.hid hD1; clear hD1
    have HD2 := Lib.hid hD2; clear hD2
    go_loopw [31] (fun i wr => ∃ j : Nat, j ≤ p.length ∧ i = .int .i64 j ∧ VInv w wr (D1 ++ (p.take j).map (·.sec)) (D2 ++ (p.take j).flatMap (·.pts)) ∧ StepsInv p j) (fun i _ => p.length - (intOf i).toNat)
    case atStart => exact ⟨0, Nat.zero_le _, rfl, by simpa using hv1, rfl⟩
    case round =>
     obtain ⟨j, hj, rfl, hv2, hst⟩ := hrel
     clear hv1 hcell'
     by_cases hjlt : j < p.length
     ·obtain ⟨b2, o2, s, A2, c2, rfl, hb2, hx2, k0, k1, k2, k3, hpts⟩ := RPath.at_ HP.out hjlt
      have HX2 := Lib.hid hx2; clear hx2
      have hpts' := hv2.k.rd RInts.ok hpts (fun _ h => ⟨h, by simp⟩) (fun _ h => h)
      have k0' := (hv2.k.cell (p := ⟨b2, o2 + j * 4, none⟩) hb2 (by simp)).trans k0
      have k1' := (hv2.k.cell (p := ⟨b2, o2 + j * 4 + 1, none⟩) hb2 (by simp)).trans k1
      have k2' := (hv2.k.cell (p := ⟨b2, o2 + j * 4 + 2, none⟩) hb2 (by simp)).trans k2
      have k3' := (hv2.k.cell (p := ⟨b2, o2 + j * 4 + 3, none⟩) hb2 (by simp)).trans k3
      clear k0 k1 k2 k3
      have HPT := Lib.hid hpts; clear hpts
      have HPT' := Lib.hid hpts'; clear hpts'
      go_wp2
      generalize hw2 : World.alloc wr _ = W2
      have B2 : Blk W2 wr.heap.size 99 #[.int .i64 s.sec, .slice A2 s.pts.length c2, .int .i64 s.mn, .int .i64 s.nt] := by subst hw2; exact Blk.new _ _ _
      have hv3 : VInv w W2 (D1 ++ (p.take j).map (·.sec)) (D2 ++ (p.take j).flatMap (·.pts)) := by subst hw2; exact hv2.alloc _
      have hz : wr.heap.size < W2.heap.size := B2.lt
      have hz2 := hv2.size
      have HPW := Lib.hid (hv3.k.rd RInts.ok HPT.out (fun _ h => ⟨h, by simp⟩) (fun _ h => h))
      have HB2 := Lib.hid B2
      have hb3 : b2 < W2.heap.size := by have := hv3.size; have : b2 < w.heap.size := hb2; omega
      have e0 := B2.cell 0
      have e1 := B2.cell 1
      have e2 := B2.cell 2
      have e3 := B2.cell 3
      simp at e0 e1 e2 e3
      clear k0' k1' k2' k3' hw2 B2 HPT' hv2
      have HV3 := Lib.hid hv3; clear hv3
      have HQ : Hid (∀ b, Old w b → b < W2.heap.size) := fun b hb => by have := HV3.out.size; have : b < w.heap.size := hb; omega
      by_cases g4 : stageOk s = true
      rotate_left
      ·have g4' : stageOk s = false := by simpa using g4
       have Q := Lib.hid (V.out (hst.stop HX2.out (by simp [stepOk, g4'])))
       refine wp_region_ext (by kernel_rfl) (by kernel_rfl) ?_
       have x0 := Ext.cell e0
       have x1 := Ext.cell e1
       have x2 := Ext.cell e2
       have x3 := Ext.cell e3
       repeat (go_big_quiet_step ((go_at_call 92; exact validStage_ext _ s A2 c2 (Old w) HPW.out HQ.out)))
       refine wpQuiet_nil ?_
       rintro _ ⟨X, rfl⟩
       go_wp2
       go_ret
       exact ⟨by rw [Q.out]; rfl, HV3.out.k.trans X.keeps (fun _ _ h => h)⟩
      have hsec := stageOk_sec g4
      obtain ⟨m, hm, hm144⟩ := isRes_nat hsec
      have HM := Lib.hid hm; clear hm
      have stay : ∀ (hso : stepOk p j s = true) (X : Ext W2), VInv w X.val (D1 ++ (p.take j).map (·.sec)) (D2 ++ (p.take j).flatMap (·.pts)) := fun _ X =>
       ⟨HV3.out.s.kept X.keeps (by simp), HV3.out.p.kept X.keeps (by simp), HV3.out.k.trans X.keeps (fun _ _ h => h)⟩
      have ST := Lib.hid stay; clear stay
      by_cases g5 : 0 < j
      ·obtain ⟨b4, o4, q, A4, c4, he4, _, hxq, kq, _⟩ := RPath.at_ HP.out (k := j - 1) (by omega)
       injection he4 with he4; injection he4 with he5 he6; subst he5 he6
       have kq' := (HV3.out.k.cell (p := ⟨b2, o2 + (j - 1) * 4, none⟩) hb2 (by simp)).trans kq
       clear kq
       by_cases g6 : (q.sec == s.sec) = true
       ·have Q := Lib.hid (V.out (hst.stop HX2.out (by simp [stepOk, g4, g5, hxq]; simpa using g6)))
        clear hxq
        refine wp_region_ext (by kernel_rfl) (by kernel_rfl) ?_
        have x0 := Ext.cell e0
        have x1 := Ext.cell e1
        have x2 := Ext.cell e2
        have x3 := Ext.cell e3
        have x4 := Ext.cell kq'
        repeat (go_big_quiet_step ((go_at_call 92; exact validStage_ext _ s A2 c2 (Old w) HPW.out HQ.out)))
        refine wpQuiet_nil ?_
        rintro _ ⟨X, rfl⟩
        go_wp2
        go_ret
        exact ⟨by rw [Q.out]; rfl, HV3.out.k.trans X.keeps (fun _ _ h => h)⟩
       ·have g6' : (q.sec == s.sec) = false := by simpa using g6
        have SO : Hid (stepOk p j s = true) := by show stepOk p j s = true; simp [stepOk, g4, g5, hxq]; simpa using g6'
        clear hxq
        refine wp_region_ext (by kernel_rfl) (by kernel_rfl) ?_
        have x0 := Ext.cell e0
        have x1 := Ext.cell e1
        have x2 := Ext.cell e2
        have x3 := Ext.cell e3
        have x4 := Ext.cell kq'
        repeat (go_big_quiet_step ((go_at_call 92; exact validStage_ext _ s A2 c2 (Old w) HPW.out HQ.out)))
        refine wpQuiet_nil ?_
        rintro _ ⟨X, rfl⟩
        have hv4 := ST.out SO.out X
        have BX := HB2.out.kept X.keeps (by simp)
        clear x4 kq'
        generalize X.val = W3 at hv4 BX
        have B3 : Blk W3 wr.heap.size 99 #[.int .i64 s.sec, .slice A2 s.pts.length c2, .int .i64 s.mn, .int .i64 s.nt] := BX
        clear BX x0 x1 x2 x3 e0 e1 e2 e3 X
        have e0 := B3.cell 0
        have e1 := B3.cell 1
        have hs1 := hv4.s.cell m
        rw [cellsB_get _ hm144] at hs1
        have hs2 := hv4.s.frozen m
        simp at e0 e1
        rw [HM.out] at e0
        have HV4 := Lib.hid hv4; clear hv4
        have HB3 := Lib.hid B3; clear B3
        have hzz := HV4.out.size
        go_wp2
        generalize hw5 : World.setCell W3 _ _ = W5
        have hv5 : VInv w W5 (D1 ++ (p.take (j + 1)).map (·.sec)) (D2 ++ (p.take j).flatMap (·.pts)) := by
         subst hw5
         have := HV4.out.sec m
         rw [List.take_add_one, HX2.out]
         simpa [HM.out] using this
        clear hw5 e0 e1 hs1 hs2 HB3 HV4
        obtain ⟨w6, rfl⟩ : ∃ w6 : World, w6 = W5 := ⟨_, rfl⟩
        have HPA := Lib.hid (stageOk_pts g4)
        have hpc2 := HPT.out.caps
        clear hsec
        go_loopw [60] (fun i wr => ∃ t : Nat, t ≤ s.pts.length ∧ i = .int .i64 t ∧ VInv w wr (D1 ++ (p.take (j + 1)).map (·.sec)) (D2 ++ (p.take j).flatMap (·.pts) ++ s.pts.take t)) (fun i _ => s.pts.length - (intOf i).toNat)
        case atStart => exact ⟨0, Nat.zero_le _, rfl, by simpa using hv5⟩
        case round =>
         obtain ⟨t, ht, rfl, hv6⟩ := hrel
         clear hv5
         by_cases htl : t < s.pts.length
         ·obtain ⟨b7, o7, x, rfl, hb7, hx7, k7⟩ := HPT.out.at_ htl
          obtain ⟨n, hn, hn144⟩ := isRes_nat (HPA.out x (List.mem_of_getElem? hx7))
          subst hn
          have k7' := (hv6.k.cell (p := ⟨b7, o7 + t, none⟩) hb7 (by simp)).trans k7
          have q1 := hv6.p.cell n
          rw [cellsB_get _ hn144] at q1
          have q2 := hv6.p.frozen n
          have HV6 : Hid (∀ W, W = wr.setCell ⟨w.heap.size + 1, n, none⟩ (.bool true) → VInv w W (D1 ++ (p.take (j + 1)).map (·.sec)) (D2 ++ (p.take j).flatMap (·.pts) ++ s.pts.take (t + 1))) := by
           intro W hW
           subst hW
           have e : s.pts.take (t + 1) = s.pts.take t ++ [(n : Int)] := by rw [List.take_add_one, hx7]; rfl
           rw [e, ← List.append_assoc]; exact hv6.pt n
          have hz6 := hv6.size
          clear hv6 k7 hx7
          go_wp2
          go_roundw
          case rel => exact ⟨t + 1, by omega, by go_num, HV6.out _ rfl⟩
          case measure => simp [intOf]; omega
         ·obtain rfl : t = s.pts.length := by omega
          have HV7 : Hid (VInv w wr (D1 ++ (p.take (j + 1)).map (·.sec)) (D2 ++ (p.take (j + 1)).flatMap (·.pts))) := by
           have h := hv6
           rw [List.take_length] at h
           show VInv w wr (D1 ++ (p.take (j + 1)).map (·.sec)) (D2 ++ (p.take (j + 1)).flatMap (·.pts))
           have e : (p.take (j + 1)).flatMap (·.pts) = (p.take j).flatMap (·.pts) ++ s.pts := by rw [List.take_add_one, HX2.out]; simp
           rw [e, ← List.append_assoc]; exact h
          clear hv6
          go_wp2
          go_roundw
          case rel => exact ⟨j + 1, by omega, by go_num, HV7.out, hst.step HX2.out SO.out⟩
          case measure => simp [intOf]; omega
      ·have SO : Hid (stepOk p j s = true) := by show stepOk p j s = true; simp [stepOk, g4, g5]
       refine wp_region_ext (by kernel_rfl) (by kernel_rfl) ?_
       have x0 := Ext.cell e0
       have x1 := Ext.cell e1
       have x2 := Ext.cell e2
       have x3 := Ext.cell e3
       have g5' : decide (0 < j) = false := by simpa using g5
       repeat (go_big_quiet_step ((go_at_call 92; exact validStage_ext _ s A2 c2 (Old w) HPW.out HQ.out)))
       refine wpQuiet_nil ?_
       rintro _ ⟨X, rfl⟩
       have hv4 := ST.out SO.out X
       have BX := HB2.out.kept X.keeps (by simp)
       generalize X.val = W3 at hv4 BX
       have B3 : Blk W3 wr.heap.size 99 #[.int .i64 s.sec, .slice A2 s.pts.length c2, .int .i64 s.mn, .int .i64 s.nt] := BX
       clear BX x0 x1 x2 x3 e0 e1 e2 e3 X
       have e0 := B3.cell 0
       have e1 := B3.cell 1
       have hs1 := hv4.s.cell m
       rw [cellsB_get _ hm144] at hs1
       have hs2 := hv4.s.frozen m
       simp at e0 e1
       rw [HM.out] at e0
       have HV4 := Lib.hid hv4; clear hv4
       have HB3 := Lib.hid B3; clear B3
       have hzz := HV4.out.size
       go_wp2
       generalize hw5 : World.setCell W3 _ _ = W5
       have hv5 : VInv w W5 (D1 ++ (p.take (j + 1)).map (·.sec)) (D2 ++ (p.take j).flatMap (·.pts)) := by
        subst hw5
        have := HV4.out.sec m
        rw [List.take_add_one, HX2.out]
        simpa [HM.out] using this
       clear hw5 e0 e1 hs1 hs2 HB3 HV4
       obtain ⟨w6, rfl⟩ : ∃ w6 : World, w6 = W5 := ⟨_, rfl⟩
       have HPA := Lib.hid (stageOk_pts g4)
       have hpc2 := HPT.out.caps
       clear hsec
       go_loopw [60] (fun i wr => ∃ t : Nat, t ≤ s.pts.length ∧ i = .int .i64 t ∧ VInv w wr (D1 ++ (p.take (j + 1)).map (·.sec)) (D2 ++ (p.take j).flatMap (·.pts) ++ s.pts.take t)) (fun i _ => s.pts.length - (intOf i).toNat)
       case atStart => exact ⟨0, Nat.zero_le _, rfl, by simpa using hv5⟩
       case round =>
        obtain ⟨t, ht, rfl, hv6⟩ := hrel
        clear hv5
        by_cases htl : t < s.pts.length
        ·obtain ⟨b7, o7, x, rfl, hb7, hx7, k7⟩ := HPT.out.at_ htl
         obtain ⟨n, hn, hn144⟩ := isRes_nat (HPA.out x (List.mem_of_getElem? hx7))
         subst hn
         have k7' := (hv6.k.cell (p := ⟨b7, o7 + t, none⟩) hb7 (by simp)).trans k7
         have q1 := hv6.p.cell n
         rw [cellsB_get _ hn144] at q1
         have q2 := hv6.p.frozen n
         have HV6 : Hid (∀ W, W = wr.setCell ⟨w.heap.size + 1, n, none⟩ (.bool true) → VInv w W (D1 ++ (p.take (j + 1)).map (·.sec)) (D2 ++ (p.take j).flatMap (·.pts) ++ s.pts.take (t + 1))) := by
          intro W hW
          subst hW
          have e : s.pts.take (t + 1) = s.pts.take t ++ [(n : Int)] := by rw [List.take_add_one, hx7]; rfl
          rw [e, ← List.append_assoc]; exact hv6.pt n
         have hz6 := hv6.size
         clear hv6 k7 hx7
         go_wp2
         go_roundw
         case rel => exact ⟨t + 1, by omega, by go_num, HV6.out _ rfl⟩
         case measure => simp [intOf]; omega
        ·obtain rfl : t = s.pts.length := by omega
         have HV7 : Hid (VInv w wr (D1 ++ (p.take (j + 1)).map (·.sec)) (D2 ++ (p.take (j + 1)).flatMap (·.pts))) := by
          have h := hv6
          rw [List.take_length] at h
          show VInv w wr (D1 ++ (p.take (j + 1)).map (·.sec)) (D2 ++ (p.take (j + 1)).flatMap (·.pts))
          have e : (p.take (j + 1)).flatMap (·.pts) = (p.take j).flatMap (·.pts) ++ s.pts := by rw [List.take_add_one, HX2.out]; simp
          rw [e, ← List.append_assoc]; exact h
         clear hv6
         go_wp2
         go_roundw
         case rel => exact ⟨j + 1, by omega, by go_num, HV7.out, hst.step HX2.out SO.out⟩
         case measure => simp [intOf]; omega
     ·obtain rfl : j = p.length := by omega
      have HV8 : Hid (VInv w wr ((ps.take (k + 1)).flatten.map (·.sec)) ((ps.take (k + 1)).flatten.flatMap (·.pts))) := by
       have h := hv2
       rw [List.take_length, ← HD1.out, ← HD2.out] at h
       show VInv w wr _ _
       have e : (ps.take (k + 1)).flatten = (ps.take k).flatten ++ p := by rw [List.take_add_one, HX.out]; simp
       rw [e, List.map_append, List.flatMap_append]; exact h
      have HA2 : Hid ((ps.take (k + 1)).all pathOk = true) := by
       show (ps.take (k + 1)).all pathOk = true
       rw [List.take_add_one, HX.out]
       simp only [Option.toList_some, List.all_append, HA.out, Bool.true_and, List.all_cons, List.all_nil, Bool.and_true]
       simp [pathOk, g2, g3, hst.done]
      clear hv2
      go_wp2
      go_roundw
      case rel => exact ⟨k + 1, by omega, by go_num, HV8.out, HA2.out⟩
      case measure => simp [intOf]; omega
   ·obtain rfl : k = ps.length := by omega
    have HV9 : Hid (VInv w wr (ps.flatten.map (·.sec)) (ps.flatten.flatMap (·.pts))) := by
     have h := hv1
     rw [List.take_length] at h; exact h
    have HA9 : Hid (valid ps = noClash ps.flatten) := by
     have h := HA.out
     rw [List.take_length] at h
     show valid ps = noClash ps.flatten
     simp [valid, g1, h]
    clear hv1 HA
    go_wp2
    go_loop [69] (fun i => ∃ r : Nat, r ≤ 144 ∧ i = .int .i64 r ∧ NcInv ps.flatten r) (fun i => 144 - (intOf i).toNat)
    case atStart => exact ⟨0, Nat.zero_le _, rfl, fun i hi => absurd hi (by omega)⟩
    case round =>
     obtain ⟨r, hr, rfl, hnc⟩ := hrel
     by_cases hrl : r < 144
     ·have q1 := HV9.out.s.cell r
      rw [cellsB_get _ hrl] at q1
      have q2 := HV9.out.p.cell r
      rw [cellsB_get _ hrl] at q2
      by_cases g7 : (r : Int) ∈ ps.flatten.map (·.sec)
      ·by_cases g8 : (r : Int) ∈ ps.flatten.flatMap (·.pts)
       ·have Q : Hid (valid ps = false) := by
         show valid ps = false
         rw [HA9.out]; exact noClash_bad hrl g7 g8
        rw [decide_eq_true g7] at q1
        rw [decide_eq_true g8] at q2
        clear g7 g8
        go_wp2
        go_ret
        exact ⟨by rw [Q.out]; rfl, HV9.out.k⟩
       ·have Q := Lib.hid (hnc.step (.inr g8))
        rw [decide_eq_true g7] at q1
        rw [decide_eq_false g8] at q2
        clear g7 g8
        go_wp2
        go_round
        case rel => exact ⟨r + 1, by omega, by go_num, Q.out⟩
        case measure => simp [intOf]; omega
      ·have Q := Lib.hid (hnc.step (.inl g7))
       rw [decide_eq_false g7] at q1
       clear g7 q2
       go_wp2
       go_round
       case rel => exact ⟨r + 1, by omega, by go_num, Q.out⟩
       case measure => simp [intOf]; omega
     ·obtain rfl : r = 144 := by omega
      have Q : Hid (valid ps = true) := by
       show valid ps = true
       rw [HA9.out]; exact hnc.done
      go_wp2
      go_ret
      exact ⟨by rw [Q.out]; rfl, HV9.out.k⟩
 ·have g1' : decide ((10 : Int) < (ps.length : Int)) = true := by simp; omega
  have Q : Hid (valid ps = false) := by show valid ps = false; simp [valid, g1]
  go_enter Try.func80, Try.ntmps80
  go_wp2
  go_ret
  exact ⟨by rw [Q.out]; rfl, Keeps.refl _ _⟩

theorem next_res {ps : List (List Stage)} {os : List Order} {k r : Nat} (hk : k ≤ os.length) (h : (os.take k).map (·.res) = resTo ps r) (hr : r < 144) (hu : (r : Int) ∈ usesAll ps) (he : os.map (·.res) = resTo ps 144) : ∃ o, os[k]? = some o ∧ o.res = r := by
 have hs : resTo ps (r + 1) = resTo ps r ++ [(r : Int)] := by rw [resTo, if_pos hu]
 obtain ⟨l, hl⟩ := resTo_le ps (r + 1) 144 (by omega)
 rw [hs] at hl
 have hlen : (resTo ps r).length = k := by rw [← h]; simp; omega
 have h1 : (os.map (·.res))[k]? = some (r : Int) := by
  rw [he, hl, List.getElem?_append_left (by simp; omega), List.getElem?_append_right (by omega), hlen]
  simp
 rw [List.getElem?_map] at h1
 cases e : os[k]? with
 | none => rw [e] at h1; simp at h1
 | some o => rw [e] at h1; simp at h1; exact ⟨o, rfl, h1⟩
def CkInv (ps : List (List Stage)) (os : List Order) (k r : Nat) : Prop := (os.take k).map (·.res) = resTo ps r ∧ (os.take k).all (fun o => exactlyB o.uses (allU ps o.res)) = true
theorem CkInv.skip {ps : List (List Stage)} {os : List Order} {k r : Nat} (h : CkInv ps os k r) (hn : (allU ps r).length = 0) : CkInv ps os k (r + 1) := by
 refine ⟨?_, h.2⟩
 rw [resTo, if_neg (allU_nil_iff.1 (List.eq_nil_of_length_eq_zero hn)), List.append_nil]; exact h.1
theorem allU_pos {ps : List (List Stage)} {r : Int} (h : (allU ps r).length ≠ 0) : r ∈ usesAll ps := by
 rcases Classical.em (r ∈ usesAll ps) with h' | h'
 ·exact h'
 ·exact absurd (by rw [allU_nil_iff.2 h']; rfl) h
theorem CkInv.step {ps : List (List Stage)} {os : List Order} {k r : Nat} {o : Order} (h : CkInv ps os k r) (hn : (allU ps r).length ≠ 0) (ho : os[k]? = some o) (hr : o.res = r) (hx : exactlyB o.uses (allU ps r) = true) : CkInv ps os (k + 1) (r + 1) := by
 refine ⟨?_, ?_⟩
 ·rw [resTo, if_pos (allU_pos hn), List.take_add_one, ho, Option.toList_some, List.map_append, h.1]; simp [hr]
 ·rw [List.take_add_one, ho, Option.toList_some, List.all_append, h.2]; simp [hr, hx]
theorem CkInv.other {ps : List (List Stage)} {os : List Order} {k r : Nat} {o : Order} (h : CkInv ps os k r) (hr : r < 144) (hn : (allU ps r).length ≠ 0) (ho : os[k]? = some o) (hne : o.res ≠ r) : checkO ps os = false := by
 rcases Bool.eq_false_or_eq_true (checkO ps os) with e | e
 ·simp only [checkO, Bool.and_eq_true, decide_eq_true_eq] at e
  obtain ⟨o', ho', h2⟩ := next_res (Nat.le_of_lt (getElem?_lt ho)) h.1 hr (allU_pos hn) e.1.2
  rw [ho] at ho'; injection ho' with ho'; subst ho'; exact absurd h2 hne
 ·exact e
theorem CkInv.done {ps : List (List Stage)} {os : List Order} {k : Nat} (hv : valid ps = true) (hk : k ≤ os.length) (h : CkInv ps os k 144) : checkO ps os = ((k : Int) == (os.length : Int)) := by
 by_cases e : k = os.length
 ·subst e
  have h1 := h.1; have h2 := h.2
  rw [List.take_length] at h1 h2
  simp [checkO, hv, h1, h2]
 ·have h3 : ((k : Int) == (os.length : Int)) = false := by simp; omega
  rw [h3]
  have : os.map (·.res) ≠ resTo ps 144 := by
   rw [← h.1]; intro he
   have := congrArg List.length he
   simp at this; omega
  simp [checkO, this]

structure PrInv (w wr : World) (o : Order) (Au : Option Addr) (cu : Nat) (last : List Int) : Prop where
 b0 : Blk wr w.heap.size 44 #[.int .i64 o.res, .slice Au o.uses.length cu]
 b1 : Blk wr (w.heap.size + 1) 3 (cellsI last)
 k : KeepsAll w wr
theorem PrInv.keep {w wr w' : World} {o : Order} {Au : Option Addr} {cu : Nat} {last : List Int} (h : PrInv w wr o Au cu last) (k : KeepsAll wr w') : PrInv w w' o Au cu last :=
 ⟨h.b0.kept k (by simp), h.b1.kept k (by simp), h.k.tr k⟩
theorem PrInv.set_ {w wr : World} {o : Order} {Au : Option Addr} {cu : Nat} {last : List Int} (h : PrInv w wr o Au cu last) (n : Nat) (x : Int) : PrInv w (wr.setCell ⟨w.heap.size + 1, n, none⟩ (.int .i64 x)) o Au cu (last.set n x) :=
 ⟨h.b0.far (by simp) _, by rw [← cellsI_set]; exact h.b1.set_ n _, h.k.setCell (by simp) _⟩
def PrSt (ps : List (List Stage)) (o : Order) (j : Nat) (last : List Int) : Prop := last.length = ps.length ∧ (∀ x ∈ last, -1 ≤ x) ∧ properB ps o = properFrom ps o.res (o.uses.drop j) last
theorem PrSt.bad {ps : List (List Stage)} {o : Order} {j : Nat} {last : List Int} {u : Ref} (h : PrSt ps o j last) (hu : o.uses[j]? = some u) (hf : useFits ps o.res last u = false) : properB ps o = false := by
 rw [h.2.2, drop_cons' hu, properFrom, hf]; rfl
theorem PrSt.step {ps : List (List Stage)} {o : Order} {j : Nat} {last : List Int} {u : Ref} (h : PrSt ps o j last) (hu : o.uses[j]? = some u) (hf : useFits ps o.res last u = true) : PrSt ps o (j + 1) (last.set u.tr.toNat u.st) := by
 have hs := ((useFits_iff h.1 h.2.1 u).1 hf).1
 obtain ⟨t, k, _, _, _, _, _, rfl⟩ := mem_allU.1 hs
 refine ⟨by simpa using h.1, fun x hx => ?_, ?_⟩
 ·rcases List.mem_or_eq_of_mem_set hx with h' | rfl
  ·exact h.2.1 x h'
  ·show (-1 : Int) ≤ (k : Int); omega
 ·rw [h.2.2, drop_cons' hu, properFrom, hf]; rfl

def keysOf (es : List MapEntry) (ks : List Int) : Prop := es.map (·.key) = ks.map fun k => Value.int .i64 k
def look : List MapEntry → Int → Option Value
 | [], _ => none
 | e :: es, k => match e.key with | .int .i64 x => if k = x then some e.val else look es k | _ => look es k
structure MapIs (w : World) (r : Nat) (ks : List Int) (f : Int → Option Value) : Prop where
 ex : ∃ es clock, w.heap[r]? = some (.map es clock) ∧ keysOf es.toList ks ∧ ks.Nodup ∧ ∀ k, look es.toList k = f k

theorem findNow_int (k : Int) : ∀ (es : List MapEntry) (ks : List Int) (i : Nat), keysOf es ks → ∃ j, Instr.findNow (.int .i64) (.int .i64 k) es i = some ((look es k).map fun v => (j, v)) ∧ ((look es k).isSome = true → i ≤ j ∧ j < i + es.length ∧ ∃ e, es[j - i]? = some e ∧ e.key = .int .i64 k)
 | [], ks, i, _ => ⟨0, rfl, fun h => by simp [look] at h⟩
 | e :: es, [], i, h => by simp [keysOf] at h
 | e :: es, x :: ks, i, h => by
  simp only [keysOf, List.map_cons, List.cons.injEq] at h
  obtain ⟨hk, hr⟩ := h
  by_cases hkx : k = x
  ·subst hkx
   refine ⟨i, ?_, fun _ => ⟨Nat.le_refl _, by simp, e, by simp, hk⟩⟩
   simp [Instr.findNow, Instr.sameNow, look, hk]
  ·obtain ⟨j, h1, h2⟩ := findNow_int k es ks (i + 1) hr
   have hl : look (e :: es) k = look es k := by simp [look, hk, hkx]
   refine ⟨j, ?_, fun hs => ?_⟩
   ·rw [hl]
    simp only [Instr.findNow, Instr.sameNow, hk]
    have : (k == x) = false := by simpa using hkx
    simp only [if_true, this]
    exact h1
   ·rw [hl] at hs
    obtain ⟨a, b, e', c, d⟩ := h2 hs
    refine ⟨by omega, by simp; omega, e', ?_, d⟩
    have : j - i = (j - (i + 1)) + 1 := by omega
    rw [this]; simpa using c

section
variable {P : Program} {t K E : TypeId} {w : World} {r : Nat} {ks : List Int} {f : Int → Option Value}

theorem MapIs.lt (h : MapIs w r ks f) : r < w.heap.size := by
 obtain ⟨es, clock, h1, _⟩ := h.ex; exact (Array.getElem?_eq_some_iff.1 h1).1
theorem MapIs.kept {C : Foot} {w' : World} (h : MapIs w r ks f) (k : Keeps C w w') (hn : ¬ C r) : MapIs w' r ks f := by
 obtain ⟨es, clock, h1, h2⟩ := h.ex; exact ⟨es, clock, (k.block r h.lt hn).trans h1, h2⟩
theorem MapIs.new (w : World) : MapIs (w.alloc (.map #[] 0)) w.heap.size [] (fun _ => none) :=
 ⟨#[], 0, heap_alloc_new w _, rfl, List.nodup_nil, fun _ => rfl⟩

theorem run_checkKey_int (hK : P.underlying K = some (.int .i64)) (b : Bool) (n : Nat) (k : Int) : (Instr.checkKey b (n + 1) K (.int .i64 k)).run P w = .ok () w := by
 simp [Instr.checkKey, run_underlying hK]

theorem MapIs.lookup (h : MapIs w r ks f) (ht : P.underlying t = some (.map K E)) (hK : P.underlying K = some (.int .i64)) {z : Value} (hz : (zeroValue E).run P w = .ok z w) (k : Int) :
  (Instr.lookup t (.map (some r)) (.int .i64 k) false).run P w = .ok ((f k).getD z) w ∧ (Instr.lookup t (.map (some r)) (.int .i64 k) true).run P w = .ok (.tuple #[(f k).getD z, .bool (f k).isSome]) w := by
 obtain ⟨es, clock, h1, h2, h3, h4⟩ := h.ex
 obtain ⟨j, hj, _⟩ := findNow_int k es.toList ks 0 h2
 rw [h4 k] at hj
 have hc : ∀ b, (Instr.checkKey b 10000 K (.int .i64 k)).run P w = .ok () w := fun b => run_checkKey_int hK b 9999 k
 have hg : (getObj r).run P w = .ok (.map es clock) w := by simp [getObj, Sem.run, h1]
 cases hf : f k with
 | none =>
  rw [hf] at hj
  simp only [Option.map_none] at hj
  constructor <;> simp [Instr.lookup, run_underlying ht, hg, hc, Instr.findKey, run_underlying hK, hj, hz]
 | some v =>
  rw [hf] at hj
  simp only [Option.map_some] at hj
  constructor <;> simp [Instr.lookup, run_underlying ht, hg, hc, Instr.findKey, run_underlying hK, hj]

theorem MapIs.len (h : MapIs w r ks f) (ht : P.underlying t = some (.map K E)) (ty : TypeId) : (Builtin.len_ #[t] ty #[.map (some r)]).run P w = .ok (.int .i64 ks.length) w := by
 obtain ⟨es, clock, h1, h2, _⟩ := h.ex
 have hg : (getObj r).run P w = .ok (.map es clock) w := by simp [getObj, Sem.run, h1]
 have hl : es.size = ks.length := by
  have := congrArg List.length h2; simpa using this
 simp [Builtin.len_, run_underlying ht, hg, hl, goInt]
end

def cntF (U : List Int) : Int → Option Value := fun r => if r ∈ U then some (.int .i64 (U.count r : Int)) else none
def keysU (U : List Int) : List Int := U.foldl (fun ks x => if x ∈ ks then ks else ks ++ [x]) []
theorem mem_keysU_aux (x : Int) : ∀ (U ks : List Int), x ∈ U.foldl (fun ks x => if x ∈ ks then ks else ks ++ [x]) ks ↔ x ∈ ks ∨ x ∈ U
 | [], ks => by simp
 | a :: U, ks => by
  simp only [List.foldl_cons, mem_keysU_aux x U]
  by_cases h : a ∈ ks
  ·simp only [h, if_true, List.mem_cons]
   constructor
   ·rintro (h1 | h1)
    ·exact .inl h1
    ·exact .inr (.inr h1)
   ·rintro (h1 | rfl | h1)
    ·exact .inl h1
    ·exact .inl h
    ·exact .inr h1
  ·simp only [h, if_false, List.mem_append, List.mem_cons, List.not_mem_nil, or_false, or_assoc]
theorem mem_keysU (x : Int) (U : List Int) : x ∈ keysU U ↔ x ∈ U := by unfold keysU; rw [mem_keysU_aux]; simp
theorem keysU_nodup (U : List Int) : (keysU U).Nodup := by
 have : ∀ (U ks : List Int), ks.Nodup → (U.foldl (fun ks x => if x ∈ ks then ks else ks ++ [x]) ks).Nodup := by
  intro U
  induction U with
  | nil => intro ks h; exact h
  | cons a U ih =>
   intro ks h
   simp only [List.foldl_cons]
   apply ih
   split
   ·exact h
   ·rename_i hn
    exact List.nodup_append.2 ⟨h, by simp, fun y hy z hz => by simp at hz; subst hz; rintro rfl; exact hn hy⟩
 exact this U [] List.nodup_nil
theorem resTo_nodup (ps : List (List Stage)) (n : Nat) : (resTo ps n).Nodup := (resTo_pw ps n).imp (fun h => by omega)
theorem keysU_len {ps : List (List Stage)} (hv : valid ps = true) : (keysU (usesAll ps)).length = (resTo ps 144).length := by
 have hm : ∀ x, x ∈ keysU (usesAll ps) ↔ x ∈ resTo ps 144 := fun x => by
  rw [mem_keysU, mem_resTo]
  constructor
  ·intro h; have := valid_use hv h; exact ⟨h, this.1, by omega⟩
  ·exact fun h => h.1
 have h1 := nodup_le (keysU_nodup (usesAll ps)) (fun x hx => (hm x).1 hx)
 have h2 := nodup_le (resTo_nodup ps 144) (fun x hx => (hm x).2 hx)
 omega

def CpInv (ps : List (List Stage)) (os : List Order) (i : Nat) : Prop :=
 ((os.take i).map (·.res)).Pairwise (· < ·) ∧ ∀ o ∈ os.take i, o.res ∈ usesAll ps ∧ exactlyB o.uses (allU ps o.res) = true
theorem CpInv.step {ps : List (List Stage)} {os : List Order} {i : Nat} {o : Order} (h : CpInv ps os i) (ho : os[i]? = some o) (hl : ∀ q, 0 < i → os[i - 1]? = some q → q.res < o.res) (hu : o.res ∈ usesAll ps) (hx : exactlyB o.uses (allU ps o.res) = true) : CpInv ps os (i + 1) := by
 have e : os.take (i + 1) = os.take i ++ [o] := by rw [List.take_add_one, ho]; rfl
 refine ⟨?_, fun x hx' => ?_⟩
 ·rw [e, List.map_append, List.pairwise_append]
  refine ⟨h.1, by simp, fun a ha b hb => ?_⟩
  simp at hb; subst hb
  by_cases hi : i = 0
  ·subst hi; simp at ha
  ·have hi1 : i - 1 < os.length := by have := getElem?_lt ho; omega
   have hq := hl _ (by omega) (List.getElem?_eq_getElem hi1)
   have e2 : os.take i = os.take (i - 1) ++ [os[i - 1]] := by
    conv => lhs; rw [show i = (i - 1) + 1 from by omega]
    rw [List.take_add_one, List.getElem?_eq_getElem hi1]; rfl
   have h1 := h.1
   rw [e2, List.map_append] at h1 ha
   rcases List.mem_append.1 ha with ha | ha
   ·have := (List.pairwise_append.1 h1).2.2 a ha os[i - 1].res (by simp)
    omega
   ·simp at ha; subst ha; exact hq
 ·rw [e] at hx'
  rcases List.mem_append.1 hx' with h' | h'
  ·exact h.2 x h'
  ·simp at h'; subst h'; exact ⟨hu, hx⟩
theorem CpInv.done {ps : List (List Stage)} {os : List Order} (hv : valid ps = true) (hl : os.length = (keysU (usesAll ps)).length) (h : CpInv ps os os.length) : checkO ps os = true := by
 have h1 := h.1; have h2 := h.2
 rw [List.take_length] at h1 h2
 have hnd : (os.map (·.res)).Nodup := h1.imp (fun h => by omega)
 have hsub : ∀ x ∈ os.map (·.res), x ∈ resTo ps 144 := fun x hx => by
  obtain ⟨o, ho, rfl⟩ := List.mem_map.1 hx
  have hu := (h2 o ho).1
  have := valid_use hv hu
  exact (mem_resTo 144).2 ⟨hu, this.1, by omega⟩
 have hle : (resTo ps 144).length ≤ (os.map (·.res)).length := by rw [← keysU_len hv, List.length_map]; omega
 have e := pw_ext _ _ h1 (resTo_pw ps 144) (fun x => ⟨hsub x, nodup_full hnd hsub hle (resTo_nodup ps 144) x⟩)
 have h3 : os.all (fun o => exactlyB o.uses (allU ps o.res)) = true := List.all_eq_true.2 fun o ho => (h2 o ho).2
 simp [checkO, hv, e, h3]

structure CMap (w1 wr : World) (U : List Int) : Prop where
 m : MapIs wr w1.heap.size (keysU U) (cntF U)
 k : KeepsAll w1 wr
theorem CMap.keep {w1 wr w' : World} {U : List Int} (h : CMap w1 wr U) (k : KeepsAll wr w') : CMap w1 w' U := ⟨h.m.kept k (by simp), h.k.tr k⟩

section
variable {w1 wr w' : World} {v0 v1 v2 v3 v : Value} {fs : List Int} {es : List Ref}

end

theorem resTo_len (ps : List (List Stage)) : ∀ n, (resTo ps n).length ≤ n
 | 0 => by simp [resTo]
 | n + 1 => by have := resTo_len ps n; simp only [resTo, List.length_append]; split <;> simp <;> omega
theorem checkO_facts {ps : List (List Stage)} {os : List Order} (h : checkO ps os = true) : valid ps = true ∧ os.length ≤ 144 ∧ ∀ o ∈ os, (∀ u ∈ o.uses, u ∈ allU ps o.res) ∧ o.uses.length ≤ 640 ∧ o.uses.Pairwise Before := by
 simp only [checkO, Bool.and_eq_true, decide_eq_true_eq, List.all_eq_true] at h
 obtain ⟨⟨hv, hr⟩, ha⟩ := h
 refine ⟨hv, ?_, fun o ho => ?_⟩
 ·have := congrArg List.length hr
  rw [List.length_map] at this
  have := resTo_len ps 144; omega
 ·have := ha o ho
  rw [exactly_proper, Bool.and_eq_true, decide_eq_true_eq, properB_iff] at this
  refine ⟨this.2.1, ?_, this.2.2⟩
  rw [this.1]
  have h1 := allU_le (fun p hp => ((valid_lens hv).2 p hp).2) o.res ps.length (Nat.le_refl _)
  rw [List.take_length] at h1
  have := (valid_lens hv).1; omega

abbrev RBools := RSlice 1 RBool
theorem RBools.ok : Rd.Ok RBools := RSlice.ok RBool.ok
theorem RBools.at_ {w : World} {S : Foot} {A : Option Addr} {n c : Nat} {l : List Bool} (h : RBools w S [.slice A n c] l) {k : Nat} (hk : k < l.length) :
  ∃ b o x, A = some ⟨b, o, none⟩ ∧ S b ∧ l[k]? = some x ∧ w.cell? ⟨b, o + k, none⟩ = some (.bool x) := by
 obtain ⟨b, o, x, es, rfl, hb, hx, h1, h2, h3⟩ := h.get hk
 refine ⟨b, o, x, rfl, hb, hx, ?_⟩
 cases h2
 simpa using h3 0 _ rfl
theorem Blk.bools {w : World} {S : Foot} {b : Nat} {t : TypeId} {l : List Bool} (hb : Blk w b t (cellsB' l)) (hS : S b) (hl : l.length ≤ 9223372036854775807) : RBools w S [.slice (some ⟨b, 0, none⟩) l.length l.length] l := by
 refine RSlice.ofBlk hb hS (l.map fun x => [.bool x]) l ?_ ?_ hl
 ·clear hb hl hS
  unfold cellsB'
  induction l with
  | nil => rfl
  | cons a l ih => simp only [List.map_cons, List.flatten_cons, List.singleton_append] at ih ⊢; rw [← ih]
 ·clear hb hl hS
  induction l with
  | nil => trivial
  | cons a l ih => exact ⟨⟨rfl, rfl⟩, ih⟩

def idxF {α : Type} (pr : α → Bool) (l : List α) : Int := match l.findIdx? pr with | some i => (i : Int) | none => -1
theorem idxF_stop {α : Type} {pr : α → Bool} {l : List α} {k : Nat} {x : α} (hx : l[k]? = some x) (h1 : pr x = true) (hn : ∀ y ∈ l.take k, pr y = false) : idxF pr l = k := by
 have hk := getElem?_lt hx
 have : l.findIdx? pr = some k := by
  rw [List.findIdx?_eq_some_iff_getElem]
  refine ⟨hk, ?_, fun j hj => ?_⟩
  ·rw [List.getElem?_eq_getElem hk] at hx; injection hx with hx; rw [hx]; exact h1
  ·have : l[j] ∈ l.take k := List.mem_take_iff_getElem.2 ⟨j, by omega, rfl⟩
   simp [hn _ this]
 simp [idxF, this]
theorem idxF_none {α : Type} {pr : α → Bool} {l : List α} (hn : ∀ y ∈ l, pr y = false) : idxF pr l = -1 := by
 have : l.findIdx? pr = none := by rw [List.findIdx?_eq_none_iff]; exact hn
 simp [idxF, this]
def Enters (F : Nat) : Prop := ∀ (args : Array Value) (w : World), (callFunc F args).run Try.prog w = .ok (.enter F args) w

theorem fst_inj {ps : List (List Stage)} {t u k m : Nat} {p q : List Stage} (hp : ps[t]? = some p) (hq : ps[u]? = some q) (hk : k ≤ p.length) (hm : m ≤ q.length) (h : fst ps t + k = fst ps u + m) : t = u ∧ k = m := by
 have h1 := evs_at hp hk
 have h2 := evs_at hq hm
 rw [h, h2] at h1
 injection h1 with h1; injection h1 with h1 h3
 omega
def numI (ps : List (List Stage)) (u : Ref) : Int := (num ps u : Nat)
def slLen : Value → Nat | .slice _ n _ => n | _ => 0
theorem fill_at {α : Type} (l : List α) (z : α) {k : Nat} (hk : k < l.length) : (l.take k ++ List.replicate (l.length - k) z)[k]? = some z := by
 rw [List.getElem?_append_right (by simp; omega), List.length_take, Nat.min_eq_left (by omega), Nat.sub_self, List.getElem?_replicate, if_pos (by omega)]
theorem fill_set {α : Type} (l : List α) (z x : α) {k : Nat} (hx : l[k]? = some x) : (l.take k ++ List.replicate (l.length - k) z).set k x = l.take (k + 1) ++ List.replicate (l.length - (k + 1)) z := by
 have hk := getElem?_lt hx
 have hl : (l.take k).length = k := by rw [List.length_take]; omega
 rw [List.set_append_right _ _ (by omega), hl, Nat.sub_self, show l.length - k = (l.length - (k + 1)) + 1 from by omega, List.replicate_succ, List.set_cons_zero, List.take_add_one, hx, Option.toList_some, List.append_assoc]; rfl
theorem fill_done {α : Type} (l : List α) (z : α) : l.take l.length ++ List.replicate (l.length - l.length) z = l := by simp

structure LInv (w wr : World) (D N : Nat) (dl : List Bool) (nl : List Int) : Prop where
 d : Blk wr D 4 (cellsB' dl)
 n : Blk wr N 3 (cellsI nl)
 ne : D ≠ N
 hd : w.heap.size ≤ D
 hn : w.heap.size ≤ N
 k : KeepsAll w wr
section
variable {w wr w' : World} {D N : Nat} {dl : List Bool} {nl : List Int}
theorem LInv.keep {C : Foot} (h : LInv w wr D N dl nl) (k : Keeps C wr w') (h1 : ¬ C D) (h2 : ¬ C N) (hC : ∀ b, b < w.heap.size → ¬ C b) : LInv w w' D N dl nl :=
 ⟨h.d.kept k h1, h.n.kept k h2, h.ne, h.hd, h.hn, h.k.trans k (fun x hx e => hC x hx e)⟩
end

def LRest (ps : List (List Stage)) (go : List Int → Option Nat) (at_ : List Int) (acc : List Ref) (now : List Int) : Prop :=
 Gd ps now ∧ acc.length + total ps now = total ps at_ ∧ lineFrom go 1000 at_ = (acc ++ (lineFrom go (1000 - acc.length) now).1, (lineFrom go (1000 - acc.length) now).2)
theorem LRest.stop {ps : List (List Stage)} {go : List Int → Option Nat} {at_ : List Int} {acc : List Ref} {now : List Int} (h : LRest ps go at_ acc now) (hl : acc.length ≤ 650) (hn : go now = none) : lineFrom go 1000 at_ = (acc, now) := by
 rw [h.2.2, show 1000 - acc.length = (999 - acc.length) + 1 from by omega]
 simp [lineFrom, hn]
theorem LRest.step {ps : List (List Stage)} {go : List Int → Option Nat} {at_ : List Int} {acc : List Ref} {now : List Int} {t : Nat} (hs : Sound ps go) (h : LRest ps go at_ acc now) (hl : acc.length ≤ 650) (hn : go now = some t) : LRest ps go at_ (acc ++ [⟨(t : Int), nowAt now t + 1⟩]) (now.set t (nowAt now t + 1)) := by
 obtain ⟨h1, h2⟩ := hs now t hn
 have h3 := total_step h.1 h1 h2
 refine ⟨h.1.step h1 h2, by have := h.2.1; simp; omega, ?_⟩
 rw [h.2.2, show 1000 - acc.length = (999 - acc.length) + 1 from by omega]
 have e : 1000 - (acc ++ [(⟨(t : Int), nowAt now t + 1⟩ : Ref)]).length = 999 - acc.length := by simp; try omega
 rw [e]
 simp [lineFrom, hn]

end Go.Proofs.Ytilbbpbjhoidhaa
