/- Contracts of precedence.Valid and the reference's Valid. Conditions: as each theorem says. -/
import Derived.Test.YtilbbpbjhoidhaaE01
import Derived.Deep.RegionWith
namespace Go.Proofs.Ytilbbpbjhoidhaa
open Go.RowKit

def stepOk (p : List Stage) (j : Nat) (s : Stage) : Bool := stageOk s && !(decide (0 < j) && (p[j - 1]?.map (·.sec)) == some s.sec)
def stepsFrom (p : List Stage) : Nat → List Stage → Bool
 | _, [] => true
 | j, s :: r => stepOk p j s && stepsFrom p (j + 1) r
def pathOk (p : List Stage) : Bool := decide (1 ≤ p.length) && decide (p.length ≤ 64) && stepsFrom p 0 p
def noClash (l : List Stage) : Bool := (List.range 144).all fun r : Nat => !(decide ((r : Int) ∈ l.map (·.sec)) && decide ((r : Int) ∈ l.flatMap (·.pts)))
def valid (ps : List (List Stage)) : Bool := decide (ps.length ≤ 10) && ps.all pathOk && noClash ps.flatten

def marks (xs : List Int) : List Bool := (List.range 144).map fun r : Nat => decide ((r : Int) ∈ xs)
def cellsB (l : List Bool) : Array Value := (l.map Value.bool).toArray

theorem cellsB_get (xs : List Int) {n : Nat} (hn : n < 144) : (cellsB (marks xs))[n]? = some (.bool (decide ((n : Int) ∈ xs))) := by
 simp [cellsB, marks, hn]
theorem cellsB_set (xs : List Int) (n : Nat) : (cellsB (marks xs)).setIfInBounds n (.bool true) = cellsB (marks (xs ++ [(n : Int)])) := by
 apply Array.ext_getElem?
 intro i
 simp only [cellsB, marks, List.map_map, Array.getElem?_setIfInBounds, List.getElem?_toArray, List.getElem?_map, List.size_toArray, List.length_map, List.length_range, List.mem_append, List.mem_singleton]
 by_cases hi : i < 144
 ·rw [List.getElem?_range hi]
  by_cases e : n = i
  ·subst e; simp [hi]
  ·simp [e]; intro h; omega
 ·have : (List.range 144)[i]? = none := by simp; omega
  rw [this]
  by_cases e : n = i
  ·subst e; simp [hi]
  ·simp [e]
theorem marks_nil : cellsB (marks []) = Try.zeroCells148 := by rfl

structure VInv (w wr : World) (secs ptl : List Int) : Prop where
 s : Blk wr w.heap.size 148 (cellsB (marks secs))
 p : Blk wr (w.heap.size + 1) 148 (cellsB (marks ptl))
 k : KeepsAll w wr
theorem VInv.size {w wr : World} {a b : List Int} (h : VInv w wr a b) : w.heap.size + 1 < wr.heap.size := h.p.lt
theorem VInv.alloc {w wr : World} {a b : List Int} (h : VInv w wr a b) (o : Obj) : VInv w (wr.alloc o) a b := ⟨h.s.alloc o, h.p.alloc o, h.k.alloc o⟩
theorem VInv.drew {w wr : World} {a b : List Int} (h : VInv w wr a b) : VInv w wr.drew a b := ⟨h.s, h.p, h.k.drew⟩
theorem VInv.sec {w wr : World} {a b : List Int} (h : VInv w wr a b) (n : Nat) : VInv w (wr.setCell ⟨w.heap.size, n, none⟩ (.bool true)) (a ++ [(n : Int)]) b :=
 ⟨by rw [← cellsB_set]; exact h.s.set_ n _, h.p.far (by simp) _, h.k.setCell (by simp) _⟩
theorem VInv.pt {w wr : World} {a b : List Int} (h : VInv w wr a b) (n : Nat) : VInv w (wr.setCell ⟨w.heap.size + 1, n, none⟩ (.bool true)) a (b ++ [(n : Int)]) :=
 ⟨h.s.far (by simp) _, by rw [← cellsB_set]; exact h.p.set_ n _, h.k.setCell (by simp) _⟩

def StepsInv (p : List Stage) (j : Nat) : Prop := stepsFrom p 0 p = stepsFrom p j (p.drop j)
theorem StepsInv.step {p : List Stage} {j : Nat} {s : Stage} (h : StepsInv p j) (hx : p[j]? = some s) (ho : stepOk p j s = true) : StepsInv p (j + 1) := by
 unfold StepsInv at *; rw [h, drop_cons hx, stepsFrom, ho]; rfl
theorem StepsInv.stop {p : List Stage} {j : Nat} {s : Stage} (h : StepsInv p j) (hx : p[j]? = some s) (ho : stepOk p j s = false) : pathOk p = false := by
 unfold StepsInv at h; simp [pathOk, h, drop_cons hx, stepsFrom, ho]
theorem StepsInv.done {p : List Stage} (h : StepsInv p p.length) : stepsFrom p 0 p = true := by
 unfold StepsInv at h; rw [h, List.drop_length]; rfl
theorem valid_bad {ps : List (List Stage)} {k : Nat} {p : List Stage} (hx : ps[k]? = some p) (ho : pathOk p = false) : valid ps = false := by
 have : ps.all pathOk = false := by
  rw [List.all_eq_false]; exact ⟨p, List.mem_of_getElem? hx, by simp [ho]⟩
 simp [valid, this]
theorem ptsFrom_res {sec : Int} {pts : List Int} : ∀ (r : List Int) (i : Nat), ptsFrom sec pts i r = true → ∀ x ∈ r, isRes x = true
 | [], _, _, x, hx => by simp at hx
 | y :: r, i, h, x, hx => by
  simp only [ptsFrom, Bool.and_eq_true] at h
  rcases List.mem_cons.1 hx with rfl | hx
  ·have := h.1; simp [ptOk] at this; exact this.1.1
  ·exact ptsFrom_res r (i + 1) h.2 x hx
theorem stageOk_pts {s : Stage} (h : stageOk s = true) : ∀ x ∈ s.pts, isRes x = true := by
 simp only [stageOk, Bool.and_eq_true] at h; exact ptsFrom_res _ _ h.1.2
theorem stageOk_sec {s : Stage} (h : stageOk s = true) : isRes s.sec = true := by
 simp only [stageOk, Bool.and_eq_true] at h; exact h.1.1.1
theorem isRes_nat {x : Int} (h : isRes x = true) : ∃ n : Nat, x = n ∧ n < 144 := by
 simp [isRes] at h; exact ⟨x.toNat, by omega, by omega⟩

theorem isStage_ext {W : World} (x : Ext W) (s : Stage) (Ap : Option Addr) (cp : Nat) (S : Foot) (h : RInts W S [.slice Ap s.pts.length cp] s.pts) (hS : ∀ b, S b → b < W.heap.size) :
  Calls Try.prog 93 #[.agg #[.int .i64 s.sec, .slice Ap s.pts.length cp, .int .i64 s.mn, .int .i64 s.nt]] x.val fun e w'' => e = .returned (.bool (stageOk s)) ∧ ∃ y : Ext W, w'' = y.val :=
 ext_call x ((isStage_any s Ap cp x.val S (Ext.rd RInts.ok h x hS) (x.old hS)).mono fun _ _ ⟨he, hw⟩ => ⟨he, by rw [hw]; exact (Keeps.refl _ _).alloc _⟩)

def NcInv (l : List Stage) (r : Nat) : Prop := ∀ i : Nat, i < r → ¬ ((i : Int) ∈ l.map (·.sec) ∧ (i : Int) ∈ l.flatMap (·.pts))
theorem NcInv.step {l : List Stage} {r : Nat} (h : NcInv l r) (hn : (r : Int) ∉ l.map (·.sec) ∨ (r : Int) ∉ l.flatMap (·.pts)) : NcInv l (r + 1) := by
 intro i hi
 rcases Nat.lt_succ_iff_lt_or_eq.1 hi with h1 | rfl
 ·exact h i h1
 ·rintro ⟨h1, h2⟩; rcases hn with hn | hn <;> exact hn (by assumption)
theorem NcInv.done {l : List Stage} (h : NcInv l 144) : noClash l = true := by
 unfold noClash
 rw [List.all_eq_true]
 intro r hr
 have := h r (List.mem_range.1 hr)
 by_cases h1 : (r : Int) ∈ l.map (·.sec)
 ·have h2 : (r : Int) ∉ l.flatMap (·.pts) := fun h2 => this ⟨h1, h2⟩
  rw [decide_eq_false h2]; simp
 ·rw [decide_eq_false h1]; simp
theorem noClash_bad {l : List Stage} {r : Nat} (hr : r < 144) (h1 : (r : Int) ∈ l.map (·.sec)) (h2 : (r : Int) ∈ l.flatMap (·.pts)) : noClash l = false := by
 unfold noClash
 rw [List.all_eq_false]
 exact ⟨r, List.mem_range.2 hr, by rw [decide_eq_true h1, decide_eq_true h2]; simp⟩

set_option maxRecDepth 100000 in
set_option maxHeartbeats 1000000 in
theorem Valid_any (ps : List (List Stage)) (A : Option Addr) (c : Nat) (w : World) (h : RPaths w (Old w) [.slice A ps.length c] ps) :
  Calls Try.prog 85 #[.slice A ps.length c] w fun e w' => e = .returned (.bool (valid ps)) ∧ KeepsAll w w' := by
 have hc := h.caps
 have H := Lib.hid h; clear h
 by_cases g1 : ps.length ≤ 10
 ·have g1' : decide ((10 : Int) < (ps.length : Int)) = false := by simp; omega
  go_enter Try.func85, Try.ntmps85
  go_wp2
  generalize hw1 : (World.alloc (World.alloc w _) _) = w1
  have hv : VInv w w1 [] [] := by
   subst hw1
   exact ⟨by rw [marks_nil]; exact (Blk.new _ _ _).alloc _, by rw [marks_nil]; exact Blk.new' _ _ _ (by simp), ((Keeps.refl _ _).alloc _).alloc _⟩
  clear hw1
  go_loopw [17] (fun i wr => ∃ k : Nat, k ≤ ps.length ∧ i = .int .i64 k ∧ VInv w wr ((ps.take k).flatten.map (·.sec)) ((ps.take k).flatten.flatMap (·.pts)) ∧ (ps.take k).all pathOk = true) (fun i _ => ps.length - (intOf i).toNat)
  case atStart => exact ⟨0, Nat.zero_le _, rfl, hv, rfl⟩
  case round =>
   obtain ⟨k, hk, rfl, hv1, hall⟩ := hrel
   clear hv
   have HA := Lib.hid hall; clear hall
   by_cases hlt : k < ps.length
   ·obtain ⟨b, o, p, A', c', rfl, hb, hx, hcell, hp⟩ := RSS.at_ H.out hlt
    have hcell' := (hv1.k.cell (p := ⟨b, o + k, none⟩) hb (by simp)).trans hcell
    have hpc := hp.caps
    have HX := Lib.hid hx; clear hx hcell
    have HP := Lib.hid hp; clear hp
    have V : Hid (pathOk p = false → valid ps = false) := fun q => valid_bad HX.out q
    by_cases g2 : 1 ≤ p.length
    rotate_left
    ·have Q := Lib.hid (V.out (by simp [pathOk, g2]))
     have g2' : decide ((p.length : Int) < 1) = true := by simp; omega
     go_wp2
     go_ret
     exact ⟨by rw [Q.out]; rfl, hv1.k⟩
    have g2' : decide ((p.length : Int) < 1) = false := by simp; omega
    by_cases g3 : p.length ≤ 64
    rotate_left
    ·have Q := Lib.hid (V.out (by simp [pathOk, g3]))
     have g3' : decide ((64 : Int) < (p.length : Int)) = true := by simp; omega
     go_wp2
     go_ret
     exact ⟨by rw [Q.out]; rfl, hv1.k⟩
    have g3' : decide ((64 : Int) < (p.length : Int)) = false := by simp; omega
    go_wp2
    obtain ⟨wo, rfl⟩ : ∃ wo : World, wo = wr := ⟨_, rfl⟩
    generalize hD1 : (ps.take k).flatten.map (·.sec) = D1 at hv1
    generalize hD2 : (ps.take k).flatten.flatMap (·.pts) = D2 at hv1
    have HD1 := Lib.hid hD1; clear hD1
    have HD2 := Lib.hid hD2; clear hD2
    go_loopw [31] (fun i wr => ∃ j : Nat, j ≤ p.length ∧ i = .int .i64 j ∧ VInv w wr (D1 ++ (p.take j).map (·.sec)) (D2 ++ (p.take j).flatMap (·.pts)) ∧ StepsInv p j) (fun i _ => p.length - (intOf i).toNat)
    case atStart => exact ⟨0, Nat.zero_le _, rfl, by simpa using hv1, rfl⟩
    case round =>
     obtain ⟨j, hj, rfl, hv2, hst⟩ := hrel
     clear hv1 hcell'
     by_cases hjlt : j < p.length
     ·obtain ⟨b2, o2, s, A2, c2, rfl, hb2, hx2, k0, k1, k2, k3, hpts⟩ := RPath.at_ HP.out hjlt
      have HX2 := Lib.hid hx2; clear hx2
      have hpts' := hv2.k.rd RInts.ok hpts (fun _ h => ⟨h, by simp⟩) (fun _ h => h)
      have k0' := (hv2.k.cell (p := ⟨b2, o2 + j * 4, none⟩) hb2 (by simp)).trans k0
      have k1' := (hv2.k.cell (p := ⟨b2, o2 + j * 4 + 1, none⟩) hb2 (by simp)).trans k1
      have k2' := (hv2.k.cell (p := ⟨b2, o2 + j * 4 + 2, none⟩) hb2 (by simp)).trans k2
      have k3' := (hv2.k.cell (p := ⟨b2, o2 + j * 4 + 3, none⟩) hb2 (by simp)).trans k3
      clear k0 k1 k2 k3
      have HPT := Lib.hid hpts; clear hpts
      have HPT' := Lib.hid hpts'; clear hpts'
      go_wp2
      generalize hw2 : World.alloc wr _ = W2
      have B2 : Blk W2 wr.heap.size 99 #[.int .i64 s.sec, .slice A2 s.pts.length c2, .int .i64 s.mn, .int .i64 s.nt] := by subst hw2; exact Blk.new _ _ _
      have hv3 : VInv w W2 (D1 ++ (p.take j).map (·.sec)) (D2 ++ (p.take j).flatMap (·.pts)) := by subst hw2; exact hv2.alloc _
      have hz : wr.heap.size < W2.heap.size := B2.lt
      have hz2 := hv2.size
      have HPW := Lib.hid (hv3.k.rd RInts.ok HPT.out (fun _ h => ⟨h, by simp⟩) (fun _ h => h))
      have HB2 := Lib.hid B2
      have hb3 : b2 < W2.heap.size := by have := hv3.size; have : b2 < w.heap.size := hb2; omega
      have e0 := B2.cell 0
      have e1 := B2.cell 1
      have e2 := B2.cell 2
      have e3 := B2.cell 3
      simp at e0 e1 e2 e3
      clear k0' k1' k2' k3' hw2 B2 HPT' hv2
      have HV3 := Lib.hid hv3; clear hv3
      have HQ : Hid (∀ b, Old w b → b < W2.heap.size) := fun b hb => by have := HV3.out.size; have : b < w.heap.size := hb; omega
      by_cases g4 : stageOk s = true
      rotate_left
      ·have g4' : stageOk s = false := by simpa using g4
       have Q := Lib.hid (V.out (hst.stop HX2.out (by simp [stepOk, g4'])))
       refine wp_region_ext (by kernel_rfl) (by kernel_rfl) ?_
       have x0 := Ext.cell e0
       have x1 := Ext.cell e1
       have x2 := Ext.cell e2
       have x3 := Ext.cell e3
       repeat (go_big_quiet_step ((go_at_call 93; exact isStage_ext _ s A2 c2 (Old w) HPW.out HQ.out)))
       refine wpQuiet_nil ?_
       rintro _ ⟨X, rfl⟩
       go_wp2
       go_ret
       exact ⟨by rw [Q.out]; rfl, HV3.out.k.trans X.keeps (fun _ _ h => h)⟩
      have hsec := stageOk_sec g4
      obtain ⟨m, hm, hm144⟩ := isRes_nat hsec
      have HM := Lib.hid hm; clear hm
      have stay : ∀ (hso : stepOk p j s = true) (X : Ext W2), VInv w X.val (D1 ++ (p.take j).map (·.sec)) (D2 ++ (p.take j).flatMap (·.pts)) := fun _ X =>
       ⟨HV3.out.s.kept X.keeps (by simp), HV3.out.p.kept X.keeps (by simp), HV3.out.k.trans X.keeps (fun _ _ h => h)⟩
      have ST := Lib.hid stay; clear stay
      by_cases g5 : 0 < j
      ·obtain ⟨b4, o4, q, A4, c4, he4, _, hxq, kq, _⟩ := RPath.at_ HP.out (k := j - 1) (by omega)
       injection he4 with he4; injection he4 with he5 he6; subst he5 he6
       have kq' := (HV3.out.k.cell (p := ⟨b2, o2 + (j - 1) * 4, none⟩) hb2 (by simp)).trans kq
       clear kq
       by_cases g6 : (q.sec == s.sec) = true
       ·have Q := Lib.hid (V.out (hst.stop HX2.out (by simp [stepOk, g4, g5, hxq]; simpa using g6)))
        clear hxq
        refine wp_region_ext (by kernel_rfl) (by kernel_rfl) ?_
        have x0 := Ext.cell e0
        have x1 := Ext.cell e1
        have x2 := Ext.cell e2
        have x3 := Ext.cell e3
        have x4 := Ext.cell kq'
        repeat (go_big_quiet_step ((go_at_call 93; exact isStage_ext _ s A2 c2 (Old w) HPW.out HQ.out)))
        refine wpQuiet_nil ?_
        rintro _ ⟨X, rfl⟩
        go_wp2
        go_ret
        exact ⟨by rw [Q.out]; rfl, HV3.out.k.trans X.keeps (fun _ _ h => h)⟩
       ·have g6' : (q.sec == s.sec) = false := by simpa using g6
        have SO : Hid (stepOk p j s = true) := by show stepOk p j s = true; simp [stepOk, g4, g5, hxq]; simpa using g6'
        clear hxq
        refine wp_region_ext (by kernel_rfl) (by kernel_rfl) ?_
        have x0 := Ext.cell e0
        have x1 := Ext.cell e1
        have x2 := Ext.cell e2
        have x3 := Ext.cell e3
        have x4 := Ext.cell kq'
        repeat (go_big_quiet_step ((go_at_call 93; exact isStage_ext _ s A2 c2 (Old w) HPW.out HQ.out)))
        refine wpQuiet_nil ?_
        rintro _ ⟨X, rfl⟩
        have hv4 := ST.out SO.out X
        have BX := HB2.out.kept X.keeps (by simp)
        clear x4 kq'
        generalize X.val = W3 at hv4 BX
        have B3 : Blk W3 wr.heap.size 99 #[.int .i64 s.sec, .slice A2 s.pts.length c2, .int .i64 s.mn, .int .i64 s.nt] := BX
        clear BX x0 x1 x2 x3 e0 e1 e2 e3 X
        have e0 := B3.cell 0
        have e1 := B3.cell 1
        have hs1 := hv4.s.cell m
        rw [cellsB_get _ hm144] at hs1
        have hs2 := hv4.s.frozen m
        simp at e0 e1
        rw [HM.out] at e0
        have HV4 := Lib.hid hv4; clear hv4
        have HB3 := Lib.hid B3; clear B3
        have hzz := HV4.out.size
        go_wp2
        generalize hw5 : World.setCell W3 _ _ = W5
        have hv5 : VInv w W5 (D1 ++ (p.take (j + 1)).map (·.sec)) (D2 ++ (p.take j).flatMap (·.pts)) := by
         subst hw5
         have := HV4.out.sec m
         rw [List.take_add_one, HX2.out]
         simpa [HM.out] using this
        clear hw5 e0 e1 hs1 hs2 HB3 HV4
        obtain ⟨w6, rfl⟩ : ∃ w6 : World, w6 = W5 := ⟨_, rfl⟩
        have HPA := Lib.hid (stageOk_pts g4)
        have hpc2 := HPT.out.caps
        clear hsec
        go_loopw [60] (fun i wr => ∃ t : Nat, t ≤ s.pts.length ∧ i = .int .i64 t ∧ VInv w wr (D1 ++ (p.take (j + 1)).map (·.sec)) (D2 ++ (p.take j).flatMap (·.pts) ++ s.pts.take t)) (fun i _ => s.pts.length - (intOf i).toNat)
        case atStart => exact ⟨0, Nat.zero_le _, rfl, by simpa using hv5⟩
        case round =>
         obtain ⟨t, ht, rfl, hv6⟩ := hrel
         clear hv5
         by_cases htl : t < s.pts.length
         ·obtain ⟨b7, o7, x, rfl, hb7, hx7, k7⟩ := HPT.out.at_ htl
          obtain ⟨n, hn, hn144⟩ := isRes_nat (HPA.out x (List.mem_of_getElem? hx7))
          subst hn
          have k7' := (hv6.k.cell (p := ⟨b7, o7 + t, none⟩) hb7 (by simp)).trans k7
          have q1 := hv6.p.cell n
          rw [cellsB_get _ hn144] at q1
          have q2 := hv6.p.frozen n
          have HV6 : Hid (∀ W, W = wr.setCell ⟨w.heap.size + 1, n, none⟩ (.bool true) → VInv w W (D1 ++ (p.take (j + 1)).map (·.sec)) (D2 ++ (p.take j).flatMap (·.pts) ++ s.pts.take (t + 1))) := by
           intro W hW
           subst hW
           have e : s.pts.take (t + 1) = s.pts.take t ++ [(n : Int)] := by rw [List.take_add_one, hx7]; rfl
           rw [e, ← List.append_assoc]; exact hv6.pt n
          have hz6 := hv6.size
          clear hv6 k7 hx7
          go_wp2
          go_roundw
          case rel => exact ⟨t + 1, by omega, by go_num, HV6.out _ rfl⟩
          case measure => simp [intOf]; omega
         ·obtain rfl : t = s.pts.length := by omega
          have HV7 : Hid (VInv w wr (D1 ++ (p.take (j + 1)).map (·.sec)) (D2 ++ (p.take (j + 1)).flatMap (·.pts))) := by
           have h := hv6
           rw [List.take_length] at h
           show VInv w wr (D1 ++ (p.take (j + 1)).map (·.sec)) (D2 ++ (p.take (j + 1)).flatMap (·.pts))
           have e : (p.take (j + 1)).flatMap (·.pts) = (p.take j).flatMap (·.pts) ++ s.pts := by rw [List.take_add_one, HX2.out]; simp
           rw [e, ← List.append_assoc]; exact h
          clear hv6
          go_wp2
          go_roundw
          case rel => exact ⟨j + 1, by omega, by go_num, HV7.out, hst.step HX2.out SO.out⟩
          case measure => simp [intOf]; omega
      ·have SO : Hid (stepOk p j s = true) := by show stepOk p j s = true; simp [stepOk, g4, g5]
       refine wp_region_ext (by kernel_rfl) (by kernel_rfl) ?_
       have x0 := Ext.cell e0
       have x1 := Ext.cell e1
       have x2 := Ext.cell e2
       have x3 := Ext.cell e3
       have g5' : decide (0 < j) = false := by simpa using g5
       repeat (go_big_quiet_step ((go_at_call 93; exact isStage_ext _ s A2 c2 (Old w) HPW.out HQ.out)))
       refine wpQuiet_nil ?_
       rintro _ ⟨X, rfl⟩
       have hv4 := ST.out SO.out X
       have BX := HB2.out.kept X.keeps (by simp)
       generalize X.val = W3 at hv4 BX
       have B3 : Blk W3 wr.heap.size 99 #[.int .i64 s.sec, .slice A2 s.pts.length c2, .int .i64 s.mn, .int .i64 s.nt] := BX
       clear BX x0 x1 x2 x3 e0 e1 e2 e3 X
       have e0 := B3.cell 0
       have e1 := B3.cell 1
       have hs1 := hv4.s.cell m
       rw [cellsB_get _ hm144] at hs1
       have hs2 := hv4.s.frozen m
       simp at e0 e1
       rw [HM.out] at e0
       have HV4 := Lib.hid hv4; clear hv4
       have HB3 := Lib.hid B3; clear B3
       have hzz := HV4.out.size
       go_wp2
       generalize hw5 : World.setCell W3 _ _ = W5
       have hv5 : VInv w W5 (D1 ++ (p.take (j + 1)).map (·.sec)) (D2 ++ (p.take j).flatMap (·.pts)) := by
        subst hw5
        have := HV4.out.sec m
        rw [List.take_add_one, HX2.out]
        simpa [HM.out] using this
       clear hw5 e0 e1 hs1 hs2 HB3 HV4
       obtain ⟨w6, rfl⟩ : ∃ w6 : World, w6 = W5 := ⟨_, rfl⟩
       have HPA := Lib.hid (stageOk_pts g4)
       have hpc2 := HPT.out.caps
       clear hsec
       go_loopw [60] (fun i wr => ∃ t : Nat, t ≤ s.pts.length ∧ i = .int .i64 t ∧ VInv w wr (D1 ++ (p.take (j + 1)).map (·.sec)) (D2 ++ (p.take j).flatMap (·.pts) ++ s.pts.take t)) (fun i _ => s.pts.length - (intOf i).toNat)
       case atStart => exact ⟨0, Nat.zero_le _, rfl, by simpa using hv5⟩
       case round =>
        obtain ⟨t, ht, rfl, hv6⟩ := hrel
        clear hv5
        by_cases htl : t < s.pts.length
        ·obtain ⟨b7, o7, x, rfl, hb7, hx7, k7⟩ := HPT.out.at_ htl
         obtain ⟨n, hn, hn144⟩ := isRes_nat (HPA.out x (List.mem_of_getElem? hx7))
         subst hn
         have k7' := (hv6.k.cell (p := ⟨b7, o7 + t, none⟩) hb7 (by simp)).trans k7
         have q1 := hv6.p.cell n
         rw [cellsB_get _ hn144] at q1
         have q2 := hv6.p.frozen n
         have HV6 : Hid (∀ W, W = wr.setCell ⟨w.heap.size + 1, n, none⟩ (.bool true) → VInv w W (D1 ++ (p.take (j + 1)).map (·.sec)) (D2 ++ (p.take j).flatMap (·.pts) ++ s.pts.take (t + 1))) := by
          intro W hW
          subst hW
          have e : s.pts.take (t + 1) = s.pts.take t ++ [(n : Int)] := by rw [List.take_add_one, hx7]; rfl
          rw [e, ← List.append_assoc]; exact hv6.pt n
         have hz6 := hv6.size
         clear hv6 k7 hx7
         go_wp2
         go_roundw
         case rel => exact ⟨t + 1, by omega, by go_num, HV6.out _ rfl⟩
         case measure => simp [intOf]; omega
        ·obtain rfl : t = s.pts.length := by omega
         have HV7 : Hid (VInv w wr (D1 ++ (p.take (j + 1)).map (·.sec)) (D2 ++ (p.take (j + 1)).flatMap (·.pts))) := by
          have h := hv6
          rw [List.take_length] at h
          show VInv w wr (D1 ++ (p.take (j + 1)).map (·.sec)) (D2 ++ (p.take (j + 1)).flatMap (·.pts))
          have e : (p.take (j + 1)).flatMap (·.pts) = (p.take j).flatMap (·.pts) ++ s.pts := by rw [List.take_add_one, HX2.out]; simp
          rw [e, ← List.append_assoc]; exact h
         clear hv6
         go_wp2
         go_roundw
         case rel => exact ⟨j + 1, by omega, by go_num, HV7.out, hst.step HX2.out SO.out⟩
         case measure => simp [intOf]; omega
     ·obtain rfl : j = p.length := by omega
      have HV8 : Hid (VInv w wr ((ps.take (k + 1)).flatten.map (·.sec)) ((ps.take (k + 1)).flatten.flatMap (·.pts))) := by
       have h := hv2
       rw [List.take_length, ← HD1.out, ← HD2.out] at h
       show VInv w wr _ _
       have e : (ps.take (k + 1)).flatten = (ps.take k).flatten ++ p := by rw [List.take_add_one, HX.out]; simp
       rw [e, List.map_append, List.flatMap_append]; exact h
      have HA2 : Hid ((ps.take (k + 1)).all pathOk = true) := by
       show (ps.take (k + 1)).all pathOk = true
       rw [List.take_add_one, HX.out]
       simp only [Option.toList_some, List.all_append, HA.out, Bool.true_and, List.all_cons, List.all_nil, Bool.and_true]
       simp [pathOk, g2, g3, hst.done]
      clear hv2
      go_wp2
      go_roundw
      case rel => exact ⟨k + 1, by omega, by go_num, HV8.out, HA2.out⟩
      case measure => simp [intOf]; omega
   ·obtain rfl : k = ps.length := by omega
    have HV9 : Hid (VInv w wr (ps.flatten.map (·.sec)) (ps.flatten.flatMap (·.pts))) := by
     have h := hv1
     rw [List.take_length] at h; exact h
    have HA9 : Hid (valid ps = noClash ps.flatten) := by
     have h := HA.out
     rw [List.take_length] at h
     show valid ps = noClash ps.flatten
     simp [valid, g1, h]
    clear hv1 HA
    go_wp2
    go_loop [69] (fun i => ∃ r : Nat, r ≤ 144 ∧ i = .int .i64 r ∧ NcInv ps.flatten r) (fun i => 144 - (intOf i).toNat)
    case atStart => exact ⟨0, Nat.zero_le _, rfl, fun i hi => absurd hi (by omega)⟩
    case round =>
     obtain ⟨r, hr, rfl, hnc⟩ := hrel
     by_cases hrl : r < 144
     ·have q1 := HV9.out.s.cell r
      rw [cellsB_get _ hrl] at q1
      have q2 := HV9.out.p.cell r
      rw [cellsB_get _ hrl] at q2
      by_cases g7 : (r : Int) ∈ ps.flatten.map (·.sec)
      ·by_cases g8 : (r : Int) ∈ ps.flatten.flatMap (·.pts)
       ·have Q : Hid (valid ps = false) := by
         show valid ps = false
         rw [HA9.out]; exact noClash_bad hrl g7 g8
        rw [decide_eq_true g7] at q1
        rw [decide_eq_true g8] at q2
        clear g7 g8
        go_wp2
        go_ret
        exact ⟨by rw [Q.out]; rfl, HV9.out.k⟩
       ·have Q := Lib.hid (hnc.step (.inr g8))
        rw [decide_eq_true g7] at q1
        rw [decide_eq_false g8] at q2
        clear g7 g8
        go_wp2
        go_round
        case rel => exact ⟨r + 1, by omega, by go_num, Q.out⟩
        case measure => simp [intOf]; omega
      ·have Q := Lib.hid (hnc.step (.inl g7))
       rw [decide_eq_false g7] at q1
       clear g7 q2
       go_wp2
       go_round
       case rel => exact ⟨r + 1, by omega, by go_num, Q.out⟩
       case measure => simp [intOf]; omega
     ·obtain rfl : r = 144 := by omega
      have Q : Hid (valid ps = true) := by
       show valid ps = true
       rw [HA9.out]; exact hnc.done
      go_wp2
      go_ret
      exact ⟨by rw [Q.out]; rfl, HV9.out.k⟩
 ·have g1' : decide ((10 : Int) < (ps.length : Int)) = true := by simp; omega
  have Q : Hid (valid ps = false) := by show valid ps = false; simp [valid, g1]
  go_enter Try.func85, Try.ntmps85
  go_wp2
  go_ret
  exact ⟨by rw [Q.out]; rfl, Keeps.refl _ _⟩

end Go.Proofs.Ytilbbpbjhoidhaa
