/- Contracts of precedes and of the comparison of orders in the graph of chapter 37. Conditions: as each theorem says. The kit's structure for slices.SortFunc laid at a slice of uses. No condition. slices.SortFunc over uses of chapter 37, of any number. Conditions: as each theorem says. Contract of orders of the graph of chapter 37 (rows of 12 uses or fewer). Conditions: as the theorem says. Contract of orders of the graph of chapter 37. Conditions: as the theorem says (the comparison orders the uses of each resource). -/
import Derived.Test.YtilbbpbjhoidhaaE24
import Derived.Test.YtilbbpbjhoidhaaE13
import Derived.Test.YtilbbpbjhoidhaaE26
import Derived.Test.YtilbbpbjhoidhaaProg
import Derived.Shelf.SlLaysF0
import Derived.Test.YtilbbpbjhoidhaaE16
import Derived.Shelf.SlSortCmp.WholeK
import Derived.Test.YtilbbpbjhoidhaaE21
namespace Go.Proofs.Ytilbbpbjhoidhaa
open Go.RowKit

def precL (ps : List (List Stage)) (at_ : List Int) (T : LTab) (r : Int) (u v : Ref) : Bool := if u.tr = v.tr then decide (u.st < v.st) else !doneR at_ v && leadsL T (relOf ps r u) v
def cmpL (ps : List (List Stage)) (at_ : List Int) (T : LTab) (r : Int) (u v : Ref) : Int := if u = v then 0 else if precL ps at_ T r u v = true then -1 else 1
def evF (ps : List (List Stage)) (r : Int) (u : Ref) : Int × Int := ((num ps u : Int), (num ps (relOf ps r u) : Int))

set_option maxRecDepth 100000 in
set_option maxHeartbeats 1000000 in
theorem precedes_any (s : GS) (w0 w : World) (d : GD) (h : Gm s w0 w d) (r : Int) (u v : Ref) (hur : InR s.ps (relOf s.ps r u)) (hv : InR s.ps v) (hal : s.at_.length = s.ps.length) (hn : s.ps.length ≤ 10) (hb : ∀ v t, t < 10 → -1 ≤ (d.T v).bf t ∧ (d.T v).bf t ≤ 64) :
  Calls Try.prog 89 #[.pointer (some ⟨s.gb, 0, none⟩), .agg (u4 (evF s.ps r) u).toArray, .agg (u4 (evF s.ps r) v).toArray] w fun e w' => e = .returned (.bool (precL s.ps s.at_ d.T r u v)) ∧ Gr w w' := by
 obtain ⟨tv, kv, pv, hpv, hkv, rfl⟩ := hv
 have hjv : (evs s.ps)[fst s.ps tv + kv]? = some ⟨(tv : Int), (kv : Int)⟩ := evs_at hpv hkv
 have hnv : num s.ps ⟨(tv : Int), (kv : Int)⟩ = fst s.ps tv + kv := by unfold num; simp
 have HH : Hid (∀ W, Gr w W → Calls Try.prog 67 #[.pointer (some ⟨s.gb, 0, none⟩), .int .i64 ((fst s.ps tv + kv : Nat) : Int)] W fun e w' => e = .returned (.bool (doneR s.at_ ⟨(tv : Int), (kv : Int)⟩)) ∧ ∃ n, w' = W.drewN n) := fun W hW => (dhappened_any s w0 W d (h.keep hW.1) (fst s.ps tv + kv) tv kv pv hpv hkv rfl hal)
 obtain ⟨tu, ku, pu, hpu, hku, hue⟩ := hur
 have htu : tu < 10 := by have := getElem?_lt hpu; omega
 have hiu : (evs s.ps)[fst s.ps tu + ku]? = some (relOf s.ps r u) := by rw [hue]; exact evs_at hpu hku
 have hnu : num s.ps (relOf s.ps r u) = fst s.ps tu + ku := by rw [hue]; unfold num; simp
 have HL : Hid (∀ W, Gr w W → Calls Try.prog 90 #[.pointer (some ⟨s.gb, 0, none⟩), .int .i64 ((fst s.ps tu + ku : Nat) : Int), .int .i64 ((fst s.ps tv + kv : Nat) : Int)] W fun e w' => e = .returned (.bool (leadsL d.T (relOf s.ps r u) ⟨(tv : Int), (kv : Int)⟩)) ∧ Gr w w') := fun W hW => by
  have := dleadsG s w0 W d (h.keep hW.1) (fst s.ps tu + ku) (fst s.ps tv + kv) tu ku ⟨(tv : Int), (kv : Int)⟩ (by rw [← hue]; exact hiu) hjv htu (hb _ _ htu)
  rw [← hue] at this
  exact this.mono (by rintro e w' ⟨h1, h2⟩; exact ⟨h1, hW.trans h2⟩)
 have Q : Hid (precL s.ps s.at_ d.T r u ⟨(tv : Int), (kv : Int)⟩ = if u.tr = (tv : Int) then decide (u.st < (kv : Int)) else !doneR s.at_ ⟨(tv : Int), (kv : Int)⟩ && leadsL d.T (relOf s.ps r u) ⟨(tv : Int), (kv : Int)⟩) := rfl
 simp only [u4, evF, hnv, hnu]
 generalize hres : precL s.ps s.at_ d.T r u ⟨(tv : Int), (kv : Int)⟩ = res at *
 have HR := Lib.hid hres; clear hres
 generalize ((num s.ps u : Nat) : Int) = n1
 generalize ((num s.ps (relOf s.ps r ⟨(tv : Int), (kv : Int)⟩) : Nat) : Int) = n2
 have hgz := h.b.lt
 clear h hpv hkv hjv hnv hpu hku hue hiu hnu hb hal hn
 generalize doneR s.at_ ⟨(tv : Int), (kv : Int)⟩ = dn at *
 generalize leadsL d.T (relOf s.ps r u) ⟨(tv : Int), (kv : Int)⟩ = ld at *
 generalize fst s.ps tu + ku = iu at *
 generalize fst s.ps tv + kv = jv at *
 by_cases he : u.tr = (tv : Int)
 ·have QQ : Hid (res = decide (u.st < (kv : Int))) := by show _ = _; rw [Q.out, if_pos he]
  clear Q HR HL HH
  go_enter Try.func89, Try.ntmps89
  go_wp2
  go_ret
  exact ⟨by rw [QQ.out]; rfl, by first | exact ((Gr.refl _).alloc _).alloc _ | exact (((Gr.refl _).alloc _).alloc _).drewN _⟩
 ·have QQ : Hid (res = (!dn && ld)) := by show _ = _; rw [Q.out, if_neg he]
  clear Q HR
  go_enter Try.func89, Try.ntmps89
  go_wp2_with fail
  have hK0 : Gr w ((w.alloc (.cells #[.int .i64 u.tr, .int .i64 u.st, .int .i64 n1, .int .i64 (iu : Int)] 133)).alloc (.cells #[.int .i64 (tv : Int), .int .i64 (kv : Int), .int .i64 (jv : Int), .int .i64 n2] 133)) := ((Gr.refl _).alloc _).alloc _
  refine (HH.out _ (by first | exact hK0 | exact hK0.drewN _)).mono ?_
  rintro e w1 ⟨rfl, n0, rfl⟩
  have HK1 := Lib.hid (hK0.drewN n0); clear hK0
  cases dn with
  | true =>
   go_wp2
   go_ret
   exact ⟨by rw [QQ.out]; rfl, by first | exact HK1.out | exact HK1.out.drewN _ | exact (HK1.out.drewN _).drewN _⟩
  | false =>
   go_wp2_with fail
   refine (HL.out _ (by first | exact HK1.out | exact HK1.out.drewN _ | exact (HK1.out.drewN _).drewN _)).mono ?_
   rintro e w2 ⟨rfl, hk2⟩
   have HK2 := Lib.hid hk2; clear hk2
   go_wp2
   go_ret
   exact ⟨by rw [QQ.out]; rfl, by first | exact HK2.out | exact HK2.out.drewN _⟩

set_option maxRecDepth 100000 in
set_option maxHeartbeats 1000000 in
theorem ordersCmp_any (s : GS) (w0 w : World) (d : GD) (h : Gm s w0 w d) (cb : Nat) (hcb : Blk w cb 78 #[.pointer (some ⟨s.gb, 0, none⟩)]) (r : Int) (u v : Ref) (hur : InR s.ps (relOf s.ps r u)) (hv : InR s.ps v) (hal : s.at_.length = s.ps.length) (hn : s.ps.length ≤ 10) (hb : ∀ v t, t < 10 → -1 ≤ (d.T v).bf t ∧ (d.T v).bf t ≤ 64) :
  Calls Try.prog 88 #[.agg (u4 (evF s.ps r) u).toArray, .agg (u4 (evF s.ps r) v).toArray, .pointer (some ⟨cb, 0, none⟩)] w fun e w' => e = .returned (.int .i64 (cmpL s.ps s.at_ d.T r u v)) ∧ Gr w w' := by
 have HP : Hid (∀ W, Gr w W → Calls Try.prog 89 #[.pointer (some ⟨s.gb, 0, none⟩), .agg #[.int .i64 u.tr, .int .i64 u.st, .int .i64 (evF s.ps r u).1, .int .i64 (evF s.ps r u).2], .agg #[.int .i64 v.tr, .int .i64 v.st, .int .i64 (evF s.ps r v).1, .int .i64 (evF s.ps r v).2]] W fun e w' => e = .returned (.bool (precL s.ps s.at_ d.T r u v)) ∧ Gr w w') := fun W hW =>
  (precedes_any s w0 W d (h.keep hW.1) r u v hur hv hal hn hb).mono (by rintro e w' ⟨h1, h2⟩; exact ⟨h1, hW.trans h2⟩)
 have c0 := hcb.cell 0
 simp at c0
 have hcz := hcb.lt
 clear h hcb hur hv hal hn hb
 have Q1 : Hid (u = v → cmpL s.ps s.at_ d.T r u v = 0) := fun e => by unfold cmpL; rw [if_pos e]
 have Q2 : Hid (u ≠ v → cmpL s.ps s.at_ d.T r u v = if precL s.ps s.at_ d.T r u v = true then -1 else 1) := fun e => by unfold cmpL; rw [if_neg e]
 generalize cmpL s.ps s.at_ d.T r u v = res at *
 simp only [u4]
 generalize (evF s.ps r u).1 = n1 at *
 generalize (evF s.ps r u).2 = n2 at *
 generalize (evF s.ps r v).1 = m1 at *
 generalize (evF s.ps r v).2 = m2 at *
 generalize precL s.ps s.at_ d.T r u v = pr at *
 have hK0 : Gr w ((w.alloc (.cells #[.int .i64 u.tr, .int .i64 u.st, .int .i64 n1, .int .i64 n2] 133)).alloc (.cells #[.int .i64 v.tr, .int .i64 v.st, .int .i64 m1, .int .i64 m2] 133)) := ((Gr.refl _).alloc _).alloc _
 have HK := Lib.hid hK0; clear hK0
 by_cases he : u = v
 ·have Q := Lib.hid (Q1.out he)
  subst he
  clear Q1 Q2 HP
  go_enter Try.func88, Try.ntmps88
  go_wp2
  go_ret
  exact ⟨by rw [Q.out]; rfl, by first | exact HK.out | exact HK.out.drewN _⟩
 ·have Q := Lib.hid (Q2.out he)
  clear Q1 Q2
  by_cases ht : u.tr = v.tr
  ·have hs : ¬ u.st = v.st := fun hs => he (by cases u; cases v; simp_all)
   rw [← ht] at HP HK ⊢
   clear ht he
   go_enter Try.func88, Try.ntmps88
   go_wp2_with fail
   refine (HP.out _ (by first | exact HK.out | exact HK.out.drewN _)).mono ?_
   rintro e w1 ⟨rfl, hk1⟩
   have HK1 := Lib.hid hk1; clear hk1
   cases pr with
   | true =>
    go_wp2
    go_ret
    exact ⟨by rw [Q.out]; rfl, by first | exact HK1.out | exact HK1.out.drewN _⟩
   | false =>
    go_wp2
    go_ret
    exact ⟨by rw [Q.out]; rfl, by first | exact HK1.out | exact HK1.out.drewN _⟩
  ·clear he
   go_enter Try.func88, Try.ntmps88
   go_wp2_with fail
   refine (HP.out _ (by first | exact HK.out | exact HK.out.drewN _)).mono ?_
   rintro e w1 ⟨rfl, hk1⟩
   have HK1 := Lib.hid hk1; clear hk1
   cases pr with
   | true =>
    go_wp2
    go_ret
    exact ⟨by rw [Q.out]; rfl, by first | exact HK1.out | exact HK1.out.drewN _⟩
   | false =>
    go_wp2
    go_ret
    exact ⟨by rw [Q.out]; rfl, by first | exact HK1.out | exact HK1.out.drewN _⟩

open Go.Shelf

def sortUren : Ren := ⟨fun | 6 => 87 | 14 => 94 | 15 => 95 | 20 => 99 | 21 => 100 | 22 => 101 | 23 => 102 | 24 => 103 | 25 => 104 | 26 => 105 | 27 => 106 | 28 => 107 | 29 => 108 | 46 => 109 | 47 => 110 | 48 => 111 | 49 => 112 | 50 => 113 | 57 => 114 | n => n, fun | 0 => 0 | 3 => 3 | 4 => 4 | 5 => 5 | 9 => 9 | 22 => 101 | 25 => 151 | 39 => 76 | 45 => 160 | 46 => 161 | 50 => 165 | 53 => 168 | 55 => 170 | 66 => 171 | 70 => 175 | 76 => 177 | 77 => 178 | 24 => 133 | n => n, fun n => n⟩
set_option maxRecDepth 100000 in
theorem sortUlay : SlLaysF0.n6 Try.prog sortUren where
 mixed := by kernel_rfl
 f6 := ⟨"slices.SortFunc[[]railplan/dispatch.use,railplan/dispatch.use]", by decide, Try.func87.trans (congrArg some (by kernel_rfl))⟩
 f14 := ⟨"slices.pdqsortCmpFunc[railplan/dispatch.use]", by decide, Try.func94.trans (congrArg some (by kernel_rfl))⟩
 f15 := Try.func95.trans (congrArg some (by kernel_rfl))
 f20 := ⟨"slices.insertionSortCmpFunc[railplan/dispatch.use]", by decide, Try.func99.trans (congrArg some (by kernel_rfl))⟩
 f21 := ⟨"slices.heapSortCmpFunc[railplan/dispatch.use]", by decide, Try.func100.trans (congrArg some (by kernel_rfl))⟩
 f22 := ⟨"slices.breakPatternsCmpFunc[railplan/dispatch.use]", by decide, Try.func101.trans (congrArg some (by kernel_rfl))⟩
 f23 := ⟨"slices.choosePivotCmpFunc[railplan/dispatch.use]", by decide, Try.func102.trans (congrArg some (by kernel_rfl))⟩
 f24 := ⟨"slices.reverseRangeCmpFunc[railplan/dispatch.use]", by decide, Try.func103.trans (congrArg some (by kernel_rfl))⟩
 f25 := ⟨"slices.partialInsertionSortCmpFunc[railplan/dispatch.use]", by decide, Try.func104.trans (congrArg some (by kernel_rfl))⟩
 f26 := ⟨"slices.partitionEqualCmpFunc[railplan/dispatch.use]", by decide, Try.func105.trans (congrArg some (by kernel_rfl))⟩
 f27 := ⟨"slices.partitionCmpFunc[railplan/dispatch.use]", by decide, Try.func106.trans (congrArg some (by kernel_rfl))⟩
 f28 := Try.func107.trans (congrArg some (by kernel_rfl))
 f29 := Try.func108.trans (congrArg some (by kernel_rfl))
 f46 := ⟨"slices.siftDownCmpFunc[railplan/dispatch.use]", by decide, Try.func109.trans (congrArg some (by kernel_rfl))⟩
 f47 := Try.func110.trans (congrArg some (by kernel_rfl))
 f48 := Try.func111.trans (congrArg some (by kernel_rfl))
 f49 := ⟨"slices.medianAdjacentCmpFunc[railplan/dispatch.use]", by decide, Try.func112.trans (congrArg some (by kernel_rfl))⟩
 f50 := ⟨"slices.medianCmpFunc[railplan/dispatch.use]", by decide, Try.func113.trans (congrArg some (by kernel_rfl))⟩
 f57 := ⟨"slices.order2CmpFunc[railplan/dispatch.use]", by decide, Try.func114.trans (congrArg some (by kernel_rfl))⟩
 t0 := Try.underlying0
 a0 := Try.isAgg0
 z0 := Try.sizeOf0
 v0 := Try.zeroValue0
 t3 := Try.underlying3
 a3 := Try.isAgg3
 z3 := Try.sizeOf3
 v3 := Try.zeroValue3
 t4 := Try.underlying4
 a4 := Try.isAgg4
 z4 := Try.sizeOf4
 v4 := Try.zeroValue4
 t5 := Try.underlying5
 a5 := Try.isAgg5
 z5 := Try.sizeOf5
 v5 := Try.zeroValue5
 t9 := Try.underlying9
 a9 := Try.isAgg9
 z9 := Try.sizeOf9
 v9 := Try.zeroValue9
 t22 := Try.underlying101
 a22 := Try.isAgg101
 z22 := Try.sizeOf101
 v22 := Try.zeroValue101
 t25 := Try.underlying151
 a25 := Try.isAgg151
 z25 := Try.sizeOf151
 v25 := Try.zeroValue151
 t39 := Try.underlying76
 a39 := Try.isAgg76
 z39 := Try.sizeOf76
 v39 := Try.zeroValue76
 t45 := Try.underlying160
 a45 := Try.isAgg160
 z45 := Try.sizeOf160
 v45 := Try.zeroValue160
 t46 := Try.underlying161
 a46 := Try.isAgg161
 z46 := Try.sizeOf161
 v46 := Try.zeroValue161
 t50 := Try.underlying165
 a50 := Try.isAgg165
 z50 := Try.sizeOf165
 v50 := Try.zeroValue165
 t53 := Try.underlying168
 a53 := Try.isAgg168
 z53 := Try.sizeOf168
 v53 := Try.zeroValue168
 t55 := Try.underlying170
 a55 := Try.isAgg170
 z55 := Try.sizeOf170
 v55 := Try.zeroValue170
 t66 := Try.underlying171
 a66 := Try.isAgg171
 z66 := Try.sizeOf171
 v66 := Try.zeroValue171
 t70 := Try.underlying175
 a70 := Try.isAgg175
 z70 := Try.sizeOf175
 v70 := Try.zeroValue175
 t76 := Try.underlying177
 a76 := Try.isAgg177
 z76 := Try.sizeOf177
 v76 := Try.zeroValue177
 t77 := Try.underlying178
 a77 := Try.isAgg178
 z77 := Try.sizeOf178
 v77 := Try.zeroValue178

open Go.RowKit Go.Shelf Go.Sort

theorem gr_grow {w w' : World} (h : Gr w w') : ∃ q os, w' = Go.Sort.grow (w.drewN q) os := by
 obtain ⟨k, hd⟩ := h
 refine ⟨w'.drawn - w.drawn, w'.heap.extract w.heap.size w'.heap.size, ?_⟩
 have hh : w.heap ++ w'.heap.extract w.heap.size w'.heap.size = w'.heap := by
  apply Array.ext_getElem?
  intro i
  have hs := k.size
  rw [Array.getElem?_append]
  by_cases hi : i < w.heap.size
  ·rw [if_pos hi]; exact (k.block i hi (fun h => h)).symm
  ·rw [if_neg hi, Array.getElem?_extract]
   by_cases hj : i < w'.heap.size
   ·rw [if_pos (by omega), show w.heap.size + (i - w.heap.size) = i from by omega]
   ·rw [if_neg (by omega), Array.getElem?_eq_none (by omega)]
 obtain ⟨heap, tape, drawn, os, output⟩ := w
 obtain ⟨heap', tape', drawn', os', output'⟩ := w'
 have h1 := k.os
 have h2 := k.tape
 have h3 := k.output
 simp only at h1 h2 h3 hd hh
 subst h1 h2 h3
 simp only [Go.Sort.grow, World.drewN, hh]
 congr 1
 omega
theorem blk_putRow {w : World} {g t : Nat} {cs : Array Value} (h : Blk w g t cs) (F : Array Value) : Blk (putRow id w g 0 F) g t (putCells id 0 F cs) := by
 unfold Blk at h ⊢
 unfold putRow mapBlock
 simp only [Array.getElem?_modify, if_true, h, Option.map_some, onCells]
theorem keeps_putRow (w : World) (g : Nat) (F : Array Value) : Keeps (fun b => b = g) w (putRow id w g 0 F) := by
 refine ⟨rfl, rfl, rfl, by unfold putRow mapBlock; simp, fun x _ hn => ?_⟩
 unfold putRow mapBlock
 simp only [Array.getElem?_modify]
 rw [if_neg (fun e => hn e.symm)]
theorem blk_grow {w : World} {g t : Nat} {cs : Array Value} (h : Blk w g t cs) (os : Array Obj) : Blk (Go.Sort.grow w os) g t cs := by
 have hl := h.lt
 unfold Blk at h ⊢
 unfold Go.Sort.grow
 simp only [Array.getElem?_append, if_pos hl, h]
theorem keeps_grow {C : Foot} {w w' : World} (h : Keeps C w w') (os : Array Obj) : Keeps C w (Go.Sort.grow w' os) := by
 refine ⟨h.os, h.tape, h.output, by have := h.size; unfold Go.Sort.grow; simp; omega, fun x hx hn => ?_⟩
 have := h.size
 unfold Go.Sort.grow
 simp only [Array.getElem?_append]
 rw [if_pos (by omega)]
 exact h.block x hx hn
abbrev Mem (l : List Ref) : Type := {u : Ref // u ∈ l}
def encM (f : Ref → Int × Int) (l : List Ref) (u : Mem l) : List Value := u4 f u.1
def arrM (l : List Ref) : Array (Mem l) := l.attach.toArray
theorem arrM_size (l : List Ref) : (arrM l).size = l.length := by unfold arrM; simp
theorem u4_at (f : Ref → Int × Int) (cs : Array Value) (o k : Nat) {m : List Ref} {u : Ref} (h : UfC f cs o m) (hk : m[k]? = some u) {c : Nat} (hc : c < 4) : cs[o + k * 4 + c]? = some (u4 f u)[c]! := by
 obtain ⟨h0, h1, h2, h3⟩ := h k u hk
 match c, hc with
 | 0, _ => exact h0
 | 1, _ => exact h1
 | 2, _ => exact h2
 | 3, _ => exact h3
theorem swo_of {l : List Ref} {cm : Ref → Ref → Int} (hT : Tot (fun u v => decide (cm u v < 0)) l) : SWO (ltOf fun x y : Mem l => cm x.1 y.1) where
 irrefl x := by
  unfold ltOf
  cases h : decide (cm x.1 x.1 < 0) with
  | false => rfl
  | true =>
   have h1 : decide (cm x.1 x.1 < 0) = false := hT.asym x.1 x.2 x.1 x.2 h
   exact absurd (h.symm.trans h1) (by decide)
 trans x y z h1 h2 := hT.trans x.1 x.2 y.1 y.2 z.1 z.2 h1 h2
 ntrans x y z h1 h2 := by
  unfold ltOf at h1 h2 ⊢
  cases h : decide (cm x.1 z.1 < 0) with
  | false => rfl
  | true =>
   by_cases e : x.1 = y.1
   ·have h3 : decide (cm y.1 z.1 < 0) = false := h2
    rw [← e] at h3
    exact absurd (h.symm.trans h3) (by decide)
   ·rcases hT.tot x.1 x.2 y.1 y.2 e with h3 | h3
    ·have h4 : decide (cm x.1 y.1 < 0) = false := h1
     have h5 : decide (cm x.1 y.1 < 0) = true := h3
     exact absurd (h5.symm.trans h4) (by decide)
    ·have h4 : decide (cm y.1 z.1 < 0) = false := h2
     have h5 : decide (cm y.1 z.1 < 0) = true := hT.trans y.1 y.2 x.1 x.2 z.1 z.2 h3 h
     exact absurd (h5.symm.trans h4) (by decide)
theorem sorted_list {l : List Ref} [Inhabited (Mem l)] {cm : Ref → Ref → Int} (hT : Tot (fun u v => decide (cm u v < 0)) l) (hn : l.Nodup) {d' : Array (Mem l)} (hp : PermIn 0 (arrM l).size (arrM l) d') (hs : SortedIn (ltOf fun x y : Mem l => cm x.1 y.1) 0 (arrM l).size d') : d'.toList.map Subtype.val = sortB (fun u v => decide (cm u v < 0)) l := by
 obtain ⟨h1, _, h3⟩ := hp
 have hsz : d'.size = l.length := by rw [h1, arrM_size]
 have hperm : d'.toList.Perm l.attach := by
  have e1 : d'.extract 0 (arrM l).size = d' := by rw [← h1]; simp
  have e2 : (arrM l).extract 0 (arrM l).size = arrM l := by simp
  rw [e1, e2] at h3
  simpa [arrM] using h3
 have hp2 : (d'.toList.map Subtype.val).Perm l := by
  have := hperm.map Subtype.val
  rwa [List.attach_map_subtype_val] at this
 have hnd2 : (d'.toList.map Subtype.val).Nodup := hp2.nodup_iff.2 hn
 obtain ⟨s1, s2⟩ := sortB_sorted hT hn
 refine sorted_eq hT ?_ s1 hp2 s2
 rw [List.pairwise_iff_getElem]
 intro i j hi hj hij
 rw [List.length_map] at hi hj
 have hi' : i < d'.size := by simpa using hi
 have hj' : j < d'.size := by simpa using hj
 have q := hs i j (Nat.zero_le _) hij (by rw [← h1]; exact hj')
 rw [getElem!_pos d' i hi', getElem!_pos d' j hj'] at q
 simp only [List.getElem_map, Array.getElem_toList]
 have hne : d'[i].1 ≠ d'[j].1 := fun e => by
  have := List.pairwise_iff_getElem.1 hnd2 i j (by simpa using hi') (by simpa using hj') hij
  simp only [List.getElem_map, Array.getElem_toList] at this
  exact this e
 rcases hT.tot d'[i].1 d'[i].2 d'[j].1 d'[j].2 hne with h | h
 ·exact h
 ·unfold ltOf at q; rw [h] at q; cases q

set_option maxHeartbeats 1000000 in
theorem SortV_any (f : Ref → Int × Int) (F cb : Nat) (cm : Ref → Ref → Int) (g : Nat) (l : List Ref) (c : Nat) (cs : Array Value) (w : World) (hl1 : 1 ≤ l.length) (hl2 : l.length ≤ 100000) (hb : Blk w g 133 cs) (hcl : UfC f cs 0 l)
  (hT : Tot (fun u v => decide (cm u v < 0)) l) (hn : l.Nodup)
  (hE : Enters F) (hF : ∀ W, Keeps (fun b => b = g) w W → ∀ u ∈ l, ∀ v ∈ l, Calls Try.prog F #[.agg (u4 f u).toArray, .agg (u4 f v).toArray, .pointer (some ⟨cb, 0, none⟩)] W fun e w' => e = .returned (.int .i64 (cm u v)) ∧ Gr W w') :
  Calls Try.prog 87 #[.slice (some ⟨g, 0, none⟩) l.length c, .func (.func F) #[] #[.pointer (some ⟨cb, 0, none⟩)]] w fun e w' => e = .returned (.tuple #[]) ∧ (∃ cs', Blk w' g 133 cs' ∧ UfC f cs' 0 (sortB (fun u v => decide (cm u v < 0)) l)) ∧ Keeps (fun b => b = g) w w' := by
 haveI : Inhabited (Mem l) := ⟨⟨l[0]'(by omega), List.getElem_mem _⟩⟩
 have hk4 : ∀ x : Mem l, (encM f l x).length = 4 := fun _ => rfl
 have hone : ∀ x : Mem l, ∀ v ∈ encM f l x, v.oneCell' = true := fun x v hv => by
  unfold encM u4 at hv
  simp at hv
  rcases hv with rfl | rfl | rfl | rfl <;> rfl
 have hsz := arrM_size l
 have hH : HoldsK (encM f l) 4 w g 0 (arrM l) := by
  intro j hj
  rw [size_flatK, hsz] at hj
  rw [get_flatK _ _ _ _ (by rw [hsz]; exact hj)]
  refine ⟨?_, hb.frozen _⟩
  rw [hb.cell]
  have hq : j / 4 < l.length := by omega
  have hm : l[j / 4]? = some l[j / 4] := List.getElem?_eq_getElem hq
  have := u4_at f cs 0 (j / 4) hcl hm (c := j % 4) (by omega)
  rw [show 0 + j / 4 * 4 + j % 4 = 0 + j from by omega] at this
  rw [this]
  have e : ((arrM l)[j / 4]!).1 = l[j / 4] := by
   rw [getElem!_pos (arrM l) (j / 4) (by rw [hsz]; exact hq)]
   unfold arrM
   simp
  show some _ = some (id (u4 f ((arrM l)[j / 4]!).1)[j % 4]!)
  rw [e]; rfl
 have hcmp : CmpLays Try.prog F #[.pointer (some ⟨cb, 0, none⟩)] (encM f l) 4 (fun x y : Mem l => cm x.1 y.1) g 0 (arrM l).size w := fun m os dk hdk x y => by
  have hk : Keeps (fun b => b = g) w (sortWorldK (encM f l) 4 w g 0 m dk os) := by
   unfold sortWorldK putRowK
   refine keeps_grow ?_ os
   have h1 : Keeps (fun b => b = g) w (Go.Sort.ahead w m) := (Keeps.refl _ w).drewN m
   exact h1.trans (keeps_putRow _ g _) (fun _ _ h => h)
  refine (hF _ hk x.1 x.2 y.1 y.2).mono ?_
  rintro e w' ⟨rfl, hg⟩
  exact ⟨rfl, gr_grow hg⟩
 have hcon := AnyQ.slices_SortFunc sortUlay 4 Try.isAgg133 Try.sizeOf133 (encM f l) hk4 hone (fun x y : Mem l => cm x.1 y.1) (swo_of hT) F #[.pointer (some ⟨cb, 0, none⟩)] g 0 c (arrM l) w hE hcmp hH hb.lt (by rw [hsz]; omega)
 rw [hsz] at hcon
 change Calls Try.prog 87 _ _ _ at hcon
 refine hcon.mono ?_
 rintro e w' ⟨rfl, d', n, os, hp, hs, rfl⟩
 rw [← hsz] at hp hs
 have hsl := sorted_list hT hn hp hs
 have hds : d'.size = l.length := by rw [hp.1, hsz]
 refine ⟨rfl, ⟨_, blk_grow (blk_putRow (w := Go.Sort.ahead w n) hb _) os, ?_⟩, ?_⟩
 ·intro k u hu
  rw [← hsl, List.getElem?_map] at hu
  obtain ⟨x, hx, rfl⟩ := Option.map_eq_some_iff.1 hu
  have hkl : k < d'.size := by simpa using getElem?_lt hx
  have hxk : d'[k]! = x := by
   rw [getElem!_pos d' k hkl]
   have : d'[k]? = some x := by rw [← Array.getElem?_toList]; exact hx
   rw [Array.getElem?_eq_getElem hkl] at this
   exact Option.some.inj this
  have hcs : ∀ i, i < l.length * 4 → i < cs.size := fun i hi => by
   have hq : i / 4 < l.length := by omega
   have := u4_at f cs 0 (i / 4) hcl (List.getElem?_eq_getElem hq) (c := i % 4) (by omega)
   have := (Array.getElem?_eq_some_iff.1 this).1
   omega
  have key : ∀ c, c < 4 → (putCells id 0 (flatK (encM f l) 4 d') cs)[0 + k * 4 + c]? = some (u4 f x.1)[c]! := fun c hc => by
   have hlt : 0 + k * 4 + c < l.length * 4 := by omega
   unfold putCells
   rw [Array.getElem?_mapIdx, Array.getElem?_eq_getElem (hcs _ hlt), Option.map_some, if_pos ⟨Nat.zero_le _, by rw [size_flatK, hds]; omega⟩, get_flatK _ _ _ _ (by rw [hds]; omega)]
   rw [show (0 + k * 4 + c - 0) / 4 = k from by omega, show (0 + k * 4 + c - 0) % 4 = c from by omega, hxk]
   rfl
  exact ⟨key 0 (by omega), key 1 (by omega), key 2 (by omega), key 3 (by omega)⟩
 ·unfold sortWorldK putRowK
  refine keeps_grow ?_ os
  have h1 : Keeps (fun b => b = g) w (Go.Sort.ahead w n) := (Keeps.refl _ w).drewN n
  exact h1.trans (keeps_putRow _ g _) (fun _ _ h => h)

theorem OwnL.blkU {α : Type} {t size : Nat} {E : Rd α} {w : World} {base lo : Nat} {A : Option Addr} {n c : Nat} {l : List α} (h : OwnL t size E w base lo (.slice A n c) l) (hl : 1 ≤ l.length) : ∃ g cur, A = some ⟨g, 0, none⟩ ∧ base ≤ g ∧ Blk w g t cur := by
 obtain ⟨ess, _, h2, _⟩ := h
 rcases h2.2 with ⟨e, hn⟩ | ⟨g, cap, cur, e, hb, hh, _⟩
 ·omega
 ·injection e with e; subst e; exact ⟨g, cur, rfl, hb, hh⟩
theorem RUse.one : Rd.One RUse := fun _ _ es x h u hu => by
 rw [h] at hu
 simp at hu
 rcases hu with rfl | rfl | rfl | rfl <;> rfl
set_option maxHeartbeats 400000 in
theorem CloneU_any (f : Ref → Int × Int) (m : List Ref) (A : Option Addr) (c : Nat) (w : World) (h : RUses w (Old w) [.slice A m.length c] (m.map fun u => ⟨u, (f u).1, (f u).2⟩)) (hm : 1 ≤ m.length) (hl : m.length ≤ 100000) :
  Calls Try.prog 86 #[.slice A m.length c] w fun e w' => ∃ g c', e = .returned (.slice (some ⟨g, 0, none⟩) m.length c') ∧ w.heap.size ≤ g ∧ m.length ≤ c' ∧ c' ≤ 9223372036854775807 ∧ (∃ cs, Blk w' g 133 cs ∧ UfC f cs 0 m) ∧ KeepsAll w w' := by
 have hnil : ∀ W, (binOp .eql 101 (.slice A m.length c) (.slice none 0 0)).run Try.prog W = .ok (.bool A.isNone) W := fun W => Lib.run_eql_slice_nil W 101 133 A m.length c 0 0 Try.underlying101
 have hll : (m.map fun u => (⟨u, (f u).1, (f u).2⟩ : Use)).length = m.length := by rw [List.length_map]
 have HUC : Hid (∀ u, (⟨u, (f u).1, (f u).2⟩ : Use).u = u ∧ (⟨u, (f u).1, (f u).2⟩ : Use).en = (f u).1 ∧ (⟨u, (f u).1, (f u).2⟩ : Use).rl = (f u).2) := fun u => ⟨rfl, rfl, rfl⟩
 have HG : Hid (∀ (k : Nat) (x : Use), (m.map fun u => (⟨u, (f u).1, (f u).2⟩ : Use))[k]? = some x → ∀ u, m[k]? = some u → x = ⟨u, (f u).1, (f u).2⟩) := fun k x hx u hu => by
  rw [List.getElem?_map, hu] at hx
  exact (Option.some.inj hx).symm
 rw [← hll] at h hm hl hnil ⊢
 generalize (m.map fun u => (⟨u, (f u).1, (f u).2⟩ : Use)) = l at *
 have HLL := Lib.hid hll; clear hll
 have H := Lib.hid h; clear h
 cases A with
 | none =>
  obtain ⟨_, _, he, _, _, h3⟩ := H.out
  injection he with he _; injection he with ha _ _
  obtain ⟨b, o, hb, _⟩ := h3 (by intro e; rw [e] at hm; simp at hm)
  rw [hb] at ha; cases ha
 | some ad =>
  simp only [Option.isNone_some] at hnil
  go_enter Try.func86, Try.ntmps86
  go_wp2_with (at_builtin; refine wpList_append_M tyUse RUse.ok RUse.one rfl (.tmp 5) (.tmp 6) rfl (OwnL.empty (base := w.heap.size) (lo := w.heap.size) (Blk.new w _ _) (Nat.le_refl _)) rfl rfl (S := Old w) (S2 := fun _ => False) (RUses.ok.mono H.out (fun _ h => h) (fun b hb => Below.heap_alloc w _ b hb)) (fun _ _ h => h) (fun _ h => h.elim) (by simp; omega) (by simp; omega) (by simp) ?_; intro v' w1 ho1 hk1 ha1; rw [List.nil_append] at ho1; obtain ⟨A1, c1, hv1, hc1, hc11⟩ := ho1.form; subst hv1)
  go_ret
  obtain ⟨g, cur, rfl, hg, hbk⟩ := ho1.blkU hm
  refine ⟨g, c1, rfl, hg, hc1, hc11, ⟨cur, hbk, fun k u hu => ?_⟩, ((Keeps.refl _ _).alloc _).trans hk1 (fun x hx e => by simp [Value.ownBlock] at e; omega)⟩
  have hr := ho1.readF RUse.ok RUse.flat (S := fun _ => True) (fun _ _ => trivial)
  have hk : k < l.length := by rw [HLL.out]; exact getElem?_lt hu
  obtain ⟨b, o, x, he, _, hx, e0, e1, e2, e3⟩ := RUses.at_ hr hk
  injection he with he; injection he with he1 he2
  subst he1 he2
  have := HG.out k x hx u hu
  subst this
  rw [hbk.cell] at e0 e1 e2 e3
  exact ⟨e0, e1, e2, e3⟩

def ordL (ps : List (List Stage)) (at_ : List Int) (T : LTab) : Nat → List Order
 | 0 => []
 | r + 1 => ordL ps at_ T r ++ (if (openA ps at_ (r : Int)).length = 0 then [] else [⟨(r : Int), sortB (fun u v => decide (cmpL ps at_ T (r : Int) u v < 0)) (openA ps at_ (r : Int))⟩])
theorem ordL_len (ps : List (List Stage)) (at_ : List Int) (T : LTab) : ∀ n, (ordL ps at_ T n).length ≤ n
 | 0 => by simp [ordL]
 | n + 1 => by
  have := ordL_len ps at_ T n
  rw [ordL, List.length_append]
  split <;> simp <;> omega
def ROV2 : Rd (Order × Value) := fun _ _ cs x => cs = [.int .i64 x.1.res, x.2]
theorem ROV2.ok : Rd.Ok ROV2 := ⟨fun h _ _ => h⟩
theorem ROV2.flat : Rd.Flat ROV2 := fun _ _ _ _ _ _ h => h
structure OrS (w wr : World) (N : Nat) (v : Value) (I : List (Order × Value)) : Prop where
 own : OwnL 44 2 ROV2 wr w.heap.size w.heap.size v I
 ownN : ∀ b, v.ownBlock = some b → b < N
 rows : ∀ x ∈ I, OwnL 46 2 RRef wr w.heap.size w.heap.size x.2 x.1.uses ∧ ∀ b, x.2.ownBlock = some b → b < N
 k : KeepsAll w wr
 hN : w.heap.size ≤ N ∧ N ≤ wr.heap.size
section
variable {w wr w' : World} {N : Nat} {v v' vq : Value} {I : List (Order × Value)}
theorem OrS.keep (h : OrS w wr N v I) (k : Keeps (fun b => N ≤ b) wr w') : OrS w w' N v I :=
 ⟨h.own.keepsF ROV2.flat k (fun b hb hc => by have := h.ownN b hb; omega), h.ownN, fun x hx => ⟨(h.rows x hx).1.keepsF RRef.flat k (fun b hb hc => by have := (h.rows x hx).2 b hb; omega), (h.rows x hx).2⟩,
  h.k.trans k (fun b hb hc => by have := h.hN.1; omega), h.hN.1, Nat.le_trans h.hN.2 k.size⟩
theorem OrS.more (h : OrS w wr N v I) {M : Nat} (hM : N ≤ M) (hM2 : M ≤ wr.heap.size) : OrS w wr M v I :=
 ⟨h.own, fun b hb => Nat.lt_of_lt_of_le (h.ownN b hb) hM, fun x hx => ⟨(h.rows x hx).1, fun b hb => Nat.lt_of_lt_of_le ((h.rows x hx).2 b hb) hM⟩, h.k, by have := h.hN.1; omega, hM2⟩
theorem OrS.push (h : OrS w wr N v I) {o : Order} (hq : OwnL 46 2 RRef wr N N vq o.uses) (ho : OwnL 44 2 ROV2 w' w.heap.size w.heap.size v' (I ++ [(o, vq)])) (hk : Keeps (fun b => v.ownBlock = some b) wr w') : OrS w w' w'.heap.size v' (I ++ [(o, vq)]) := by
 have hz := hk.size
 have hkA : ∀ (vx : Value) (l : List Ref) (B : Nat), OwnL 46 2 RRef wr B B vx l → OwnL 46 2 RRef w' B B vx l := fun vx l B hx => hx.keepsF RRef.flat hk (fun b hb hc => hx.ne_own h.own (by decide) hb hc)
 refine ⟨ho, fun b hb => (ho.lt hb).2, fun x hx => ?_, h.k.trans hk (fun b hb hc => by have := h.own.lt hc; omega), by have := h.hN; omega, Nat.le_refl _⟩
 rcases List.mem_append.1 hx with hx | hx
 ·exact ⟨hkA _ _ _ (h.rows x hx).1, fun b hb => by have := (h.rows x hx).2 b hb; have := h.hN.2; omega⟩
 ·simp at hx
  subst hx
  have h1 := hkA _ _ _ hq
  exact ⟨h1.base_lo RRef.ok h.hN.1 h.hN.1, fun b hb => (h1.lt hb).2⟩
theorem OrS.done (h : OrS w wr N v I) : ROrders wr (Fresh w wr) [v] (I.map Prod.fst) := by
 obtain ⟨A, c, he, h1, h2, h3⟩ := h.own.readF ROV2.ok ROV2.flat (S := Fresh w wr) (fun b hb => h.own.lt hb)
 refine ⟨A, c, by rw [List.length_map]; exact he, by rw [List.length_map]; exact h1, h2, fun hp => ?_⟩
 obtain ⟨b, o, hA, hb, hx⟩ := h3 (by intro e; exact hp (by rw [e]; rfl))
 refine ⟨b, o, hA, hb, fun j y hj => ?_⟩
 rw [List.getElem?_map] at hj
 obtain ⟨x, hxj, rfl⟩ := Option.map_eq_some_iff.1 hj
 obtain ⟨es, e1, e2, e3⟩ := hx j x hxj
 have hm := List.mem_of_getElem? hxj
 obtain ⟨r1, _⟩ := h.rows x hm
 refine ⟨es, e1, ?_, e3⟩
 cases e2
 exact ⟨_, rfl, r1.readF RRef.ok RRef.flat (S := Fresh w wr) (fun b hb => r1.lt hb)⟩
end

set_option maxRecDepth 100000 in
set_option maxHeartbeats 4000000 in
theorem gorders_any (s : GS) (w0 w : World) (d : GD) (h : Gm s w0 w d) (A : Option Addr) (c : Nat) (hu : RUsess w (Old w) [.slice A 144 c] (usesP s.ps s.at_)) (hal : s.at_.length = s.ps.length) (hn : s.ps.length ≤ 10) (hb : ∀ v t, t < 10 → -1 ≤ (d.T v).bf t ∧ (d.T v).bf t ≤ 64) (h12 : ∀ r : Nat, r < 144 → (openA s.ps s.at_ (r : Int)).length ≤ 640 ∧ (openA s.ps s.at_ (r : Int)).Nodup ∧ Tot (fun u v => decide (cmpL s.ps s.at_ d.T (r : Int) u v < 0)) (openA s.ps s.at_ (r : Int))) :
  Calls Try.prog 69 #[.pointer (some ⟨s.gb, 0, none⟩), .slice A 144 c] w fun e w' => ∃ v, e = .returned v ∧ ROrders w' (Fresh w w') [v] (ordL s.ps s.at_ d.T 144) ∧ KeepsAll w w' := by
 have H := Lib.hid h; clear h
 have HU := Lib.hid hu; clear hu
 have HC : Hid (∀ (cb : Nat) (r : Nat) W, KeepsAll w W → Blk W cb 78 #[.pointer (some ⟨s.gb, 0, none⟩)] → ∀ u ∈ openA s.ps s.at_ (r : Int), ∀ v ∈ openA s.ps s.at_ (r : Int), Calls Try.prog 88 #[.agg (u4 (evF s.ps (r : Int)) u).toArray, .agg (u4 (evF s.ps (r : Int)) v).toArray, .pointer (some ⟨cb, 0, none⟩)] W fun e w' => e = .returned (.int .i64 (cmpL s.ps s.at_ d.T (r : Int) u v)) ∧ Gr W w') := fun cb r W hW hcb u hu v hv =>
  ordersCmp_any s w0 W d (H.out.keep hW) cb hcb (r : Int) u v (open_use hu).2.1 (open_use hv).1 hal hn hb
 have H12 := Lib.hid h12; clear h12 hal hn hb
 have HSUCC : Hid (∀ r : Nat, ordL s.ps s.at_ d.T (r + 1) = ordL s.ps s.at_ d.T r ++ (if (openA s.ps s.at_ (r : Int)).length = 0 then [] else [⟨(r : Int), sortB (fun u v => decide (cmpL s.ps s.at_ d.T (r : Int) u v < 0)) (openA s.ps s.at_ (r : Int))⟩])) := fun r => rfl
 have HZ : Hid (ordL s.ps s.at_ d.T 0 = []) := rfl
 have HLE : Hid (∀ n, (ordL s.ps s.at_ d.T n).length ≤ n) := ordL_len s.ps s.at_ d.T
 have HUL : Hid ((usesP s.ps s.at_).length = 144) := usesP_len s.ps s.at_
 have HUA : Hid (∀ r : Nat, r < 144 → (usesP s.ps s.at_)[r]? = some ((openA s.ps s.at_ (r : Int)).map fun u => ⟨u, (evF s.ps (r : Int) u).1, (evF s.ps (r : Int) u).2⟩)) := fun r hr => usesP_at s.ps s.at_ hr
 have hgz := H.out.b.lt
 clear H
 generalize ordL s.ps s.at_ d.T = OL at *
 generalize usesP s.ps s.at_ = UP at *
 generalize hCM : cmpL s.ps s.at_ d.T = cm at *
 generalize hEV : evF s.ps = ef at *
 generalize hOA : openA s.ps s.at_ = oa at *
 generalize s.gb = gb at *
 clear hCM hEV hOA
 go_enter Try.func69, Try.ntmps69
 go_wp2
 generalize hW1 : World.alloc w _ = w1
 have KW1 : Hid (KeepsAll w w1) := by subst hW1; exact (Keeps.refl _ _).alloc _
 have HBX : Hid (Blk w1 w.heap.size 78 #[.pointer (some ⟨gb, 0, none⟩)]) := by subst hW1; exact Blk.new _ _ _
 have HO0 : Hid (OrS w1 w1 w1.heap.size (.slice none 0 0) []) := ⟨OwnL.nil, fun b hb => by simp [Value.ownBlock] at hb, fun x hx => by simp at hx, Keeps.refl _ _, Nat.le_refl _, Nat.le_refl _⟩
 clear hW1
 have hcbz : w.heap.size < w1.heap.size := HBX.out.lt
 have HWZ : Hid (w.heap.size ≤ w1.heap.size) := KW1.out.size
 generalize hCB : w.heap.size = cb at *
 go_loopw [5, 14] (fun v i wr => ∃ (r : Nat) (I : List (Order × Value)), r ≤ 144 ∧ i = .int .i64 (r : Int) ∧ OrS w1 wr wr.heap.size v I ∧ I.map Prod.fst = OL r) (fun _ i _ => 144 - (intOf i).toNat)
 case atStart => exact ⟨0, [], by omega, rfl, HO0.out, HZ.out.symm⟩
 case round =>
  obtain ⟨r, I, hr, rfl, ho, hI⟩ := hrel
  have hk := ho.k
  clear HO0
  have HK := Lib.hid hk
  have HI := Lib.hid hI
  have HO := Lib.hid ho
  have KR := Lib.hid (KW1.out.tr hk)
  have hIl : I.length ≤ 144 := by
   have h1 := congrArg List.length hI
   rw [List.length_map] at h1
   have := HLE.out r; omega
  obtain ⟨Ao, co, rfl, hco, hco2⟩ := ho.own.form
  clear hk hI ho
  by_cases hlt : r < 144
  ·have hdr : decide ((r : Int) < 144) = true := by simp; omega
   obtain ⟨b, o, x, A', c', rfl, hbz, hx, hc0, hrow⟩ := RSS.atK KR.out HU.out (k := r) (by rw [HUL.out]; exact hlt)
   have hx' := hx
   rw [HUA.out r hlt] at hx'
   injection hx' with hx'
   subst hx'
   rw [List.length_map] at hc0 hrow
   have hsl := (H12.out r hlt).1
   have HTOT := Lib.hid (H12.out r hlt).2
   clear hx
   have HROW := Lib.hid hrow; clear hrow
   have HSU := Lib.hid (HSUCC.out r)
   generalize hS : oa (r : Int) = S at *
   have HS := Lib.hid hS; clear hS
   by_cases he : S.length = 0
   ·have he' : ((S.length : Int) == 0) = true := by simp; exact List.eq_nil_of_length_eq_zero he
    have HS2 : Hid (OL (r + 1) = OL r) := by show _ = _; rw [HSU.out, if_pos he, List.append_nil]
    rw [he] at hc0
    go_wp2
    go_roundw
    case rel => exact ⟨r + 1, I, by omega, by go_num, HO.out, by rw [HS2.out]; exact HI.out⟩
    case measure => simp [intOf]; omega
   ·have HS2 : Hid (OL (r + 1) = OL r ++ [⟨(r : Int), sortB (fun u v => decide (cm (r : Int) u v < 0)) S⟩]) := by show _ = _; rw [HSU.out, if_neg he]
    have hpos : 1 ≤ S.length := by omega
    have he' : ((S.length : Int) == 0) = false := by simp; intro e; rw [e] at hpos; simp at hpos
    have HCL := Lib.hid (CloneU_any (ef (r : Int)) S A' c' wr (KR.out.rdo' RUses.ok HROW.out) hpos (by omega))
    clear he
    go_wp2_with fail
    refine HCL.out.mono ?_
    rintro e w2 ⟨g, cg, rfl, hgl, hcg, hcg2, ⟨cs, hgb, huf⟩, hk2⟩
    clear HCL HROW hc0
    have KN2 : Hid (Keeps (fun b => wr.heap.size ≤ b) wr w2) := hk2.mono (fun _ _ h => h.elim)
    have hg2 := hgb.lt
    have HSF := Lib.hid (SortV_any (ef (r : Int)) 88 cb (cm (r : Int)) g S cg cs w2 hpos (by omega) hgb huf HTOT.out.2 HTOT.out.1 (fun _ _ => by kernel_rfl) (fun W hW u hu v hv => HC.out cb r W ((KR.out.tr hk2).trans hW (fun x hx e => by have := KR.out.size; omega)) ((HBX.out.kept (HK.out.tr hk2) (by simp)).kept hW (by have := HK.out.size; omega)) u (by rw [HS.out]; exact hu) v (by rw [HS.out]; exact hv)))
    clear hk2 hgb huf HTOT
    go_wp2_with fail
    refine HSF.out.mono ?_
    rintro e w3 ⟨rfl, ⟨cs3, hgb3, huf3⟩, hk3⟩
    clear HSF
    have KN3 : Hid (Keeps (fun b => wr.heap.size ≤ b) wr w3) := KN2.out.trans (hk3.mono (fun b _ e => by omega)) (fun _ _ h => h)
    have hg3 := hgb3.lt
    have hz3 := hk3.size
    have HGB := Lib.hid hgb3; have HUF := Lib.hid huf3
    have hSL : (sortB (fun u v => decide (cm (r : Int) u v < 0)) S).length = S.length := sortB_len _ _
    clear hk3 hgb3 huf3 KN2
    generalize sortB (fun u v => decide (cm (r : Int) u v < 0)) S = SS at *
    rw [← hSL] at hcg hpos hsl
    rw [← hSL]
    have HSL := Lib.hid hSL; clear hSL
    go_wp2
    generalize hW4 : World.alloc w3 _ = w4
    have KN4 : Hid (Keeps (fun b => wr.heap.size ≤ b) wr w4) := by subst hW4; exact KN3.out.alloc _
    have HB4 : Hid (Blk w4 w3.heap.size 44 #[.int .i64 (r : Int), .slice none 0 0]) := by subst hW4; exact Blk.new _ _ _
    have HG4 : Hid (Blk w4 g 133 cs3) := by subst hW4; exact HGB.out.alloc _
    have hzz : wr.heap.size ≤ w3.heap.size := KN3.out.size
    have hzg : g ≠ w3.heap.size := by omega
    clear hW4 HGB KN3 hg3 hg2 hz3
    generalize w3.heap.size = z at *
    have HZN : Hid (wr.heap.size ≤ z) := hzz
    generalize hNN : wr.heap.size = N at *
    go_loopw [31] (fun i wx => ∃ (j : Nat) (vq : Value), j ≤ SS.length ∧ i = .int .i64 (j : Int) ∧ Keeps (fun b => N ≤ b) wr wx ∧ Blk wx z 44 #[.int .i64 (r : Int), vq] ∧ OwnL 46 2 RRef wx N N vq (SS.take j) ∧ Blk wx g 133 cs3) (fun i _ => SS.length - (intOf i).toNat)
    case atStart => exact ⟨0, _, Nat.zero_le _, rfl, KN4.out, HB4.out, OwnL.nil, HG4.out⟩
    case round =>
     clear KN4 HB4 HG4
     obtain ⟨j, vq, hj, rfl, hkn, hbo, hoq, hbg⟩ := hrel
     have HKN := Lib.hid hkn; have HBO := Lib.hid hbo; have HOQ := Lib.hid hoq; have HBG := Lib.hid hbg
     clear hkn
     obtain ⟨Aq, cq, hvq, hcq, hcq2⟩ := hoq.form
     have htl : (SS.take j).length = j := by rw [List.length_take]; omega
     rw [htl] at hvq hcq
     subst hvq
     have o0 := hbo.cell 0
     have o1 := hbo.cell 1
     have of := hbo.frozen 1
     simp at o0 o1
     have hzlt := hbo.lt
     have hglt := hbg.lt
     clear hbo hoq
     by_cases hlt2 : j < SS.length
     ·have hx : SS[j]? = some SS[j] := List.getElem?_eq_getElem hlt2
      generalize SS[j] = u at hx
      obtain ⟨d0, d1, d2, d3⟩ := HUF.out j u hx
      rw [← hbg.cell] at d0 d1 d2 d3
      simp only [Nat.zero_add] at d0 d1 d2 d3
      have HTS : Hid (SS.take (j + 1) = SS.take j ++ [u]) := by show _ = _; rw [List.take_add_one, hx]; rfl
      have hdj : decide ((j : Int) < (SS.length : Int)) = true := by simp; omega
      clear hx hbg
      have HZR : Hid (∀ b, (Value.slice Aq j cq).ownBlock = some b → N ≤ b ∧ b ≠ z ∧ b ≠ g ∧ b < wr.heap.size) := fun b hb => ⟨(HOQ.out.lt hb).1, fun e => HOQ.out.ne_blk HBO.out (by decide) (e ▸ hb), fun e => HOQ.out.ne_blk HBG.out (by decide) (e ▸ hb), (HOQ.out.lt hb).2⟩
      have hNz : N ≤ wr.heap.size := by have := HZN.out; omega
      generalize SS.take j = TJ at *
      go_wp2_with (at_builtin; refine wpList_append_L tyRef RRef.ok rfl (.tmp 36) (.tmp 39) rfl ((HOQ.out.alloc RRef.ok _).alloc RRef.ok _) rfl _ [.int .i64 u.tr, .int .i64 u.st] rfl (Blk.new' _ _ _ (by simp)) rfl u (S := fun _ => False) rfl (fun _ h => h.elim) (by simp [Value.oneCell']) (by omega) (by omega) (by simp; omega) ?_; intro v7 w7 HO7 HK7 HA7; obtain ⟨A7, c7, hv7, hv71, hv72⟩ := HO7.form; rw [List.length_append, List.length_singleton, htl] at hv7; subst hv7; have K7 : ¬ ((Value.slice Aq j cq).ownBlock = some z) := (fun e => (HZR.out z e).2.1 rfl); have G7 : ¬ ((Value.slice Aq j cq).ownBlock = some g) := (fun e => (HZR.out g e).2.2.1 rfl); have HB7 := (((HBO.out.alloc _).alloc _).kept HK7 K7); have HG7 := Lib.hid (((HBG.out.alloc _).alloc _).kept HK7 G7); have hc7 := HB7.cell 1; simp at hc7; have hf7 := HB7.frozen 1; have HB7' := Lib.hid HB7; have HKN7 := Lib.hid (((HKN.out.alloc _).alloc _).trans HK7 (fun b hb e => (HZR.out b e).1)); have HO7' := Lib.hid HO7; clear HB7 HO7 HK7 HA7 K7 G7)
      go_roundw
      case rel => exact ⟨j + 1, _, by omega, by go_num, HKN7.out.setCell (fun _ => HZN.out) _, HB7'.out.set_ 1 _, by rw [HTS.out]; exact HO7'.out.keepsF RRef.flat ((Keeps.refl (fun b => b = z) _).setCell (fun _ => rfl) _) (fun b hb e => HO7'.out.ne_blk HB7'.out (by decide) (e ▸ hb)), HG7.out.far hzg _⟩
      case measure => simp [intOf]; omega
     ·obtain rfl : j = SS.length := by omega
      rw [List.take_length] at HOQ
      clear hbg
      have hdj : decide ((SS.length : Int) < (SS.length : Int)) = false := by simp
      have HS5 := Lib.hid (HO.out.keep HKN.out)
      have hbw : w1.heap.size ≤ wr.heap.size := by have := HS5.out.hN; omega
      go_wp2_with (at_builtin; refine wpList_append_L tyOrder ROV2.ok rfl (.tmp 43) (.tmp 45) rfl (HS5.out.own.alloc ROV2.ok _) rfl _ [.int .i64 (r : Int), .slice Aq SS.length cq] rfl (Blk.new' _ _ _ (by simp)) rfl (⟨(r : Int), SS⟩, .slice Aq SS.length cq) (S := fun _ => False) rfl (fun _ h => h.elim) (by simp [Value.oneCell']) (by omega) (by omega) (by simp; omega) ?_; intro v7 w7 HO7 HK7 HA7; have HP7 := Lib.hid ((HS5.out.keep ((Keeps.refl _ _).alloc _)).push (o := ⟨(r : Int), SS⟩) (HOQ.out.alloc RRef.ok _) HO7 HK7); obtain ⟨A7, c7, hv7, hv71, hv72⟩ := HO7.form; rw [List.length_append, List.length_singleton] at hv7; subst hv7; clear HO7 HK7 HA7)
      go_roundw
      case rel => exact ⟨r + 1, _, by omega, by go_num, HP7.out, by rw [HS2.out, List.map_append, HI.out]; rfl⟩
      case measure => simp [intOf]; omega
  ·obtain rfl : r = 144 := by omega
   have hdr : decide ((144 : Int) < 144) = false := by decide
   go_wp2
   go_ret
   exact ⟨_, rfl, by rw [← HI.out]; exact ROrders.ok.mono HO.out.done (fun b hb => ⟨Nat.le_trans (by rw [hCB]; exact HWZ.out) hb.1, hb.2⟩) (fun _ _ => rfl), KR.out⟩

end Go.Proofs.Ytilbbpbjhoidhaa
