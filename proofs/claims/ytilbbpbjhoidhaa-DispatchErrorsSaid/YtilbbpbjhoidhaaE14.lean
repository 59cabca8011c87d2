/- Labels in memory: contract of merged. Conditions: as each theorem says. -/
import Derived.Test.YtilbbpbjhoidhaaE13
import Derived.Test.YtilbbpbjhoidhaaE06
import Derived.Test.YtilbbpbjhoidhaaE10
import Derived.Lib.MinMax
namespace Go.Proofs.Ytilbbpbjhoidhaa
open Go.RowKit

def b8 (l : Lab) (t : Nat) : Value := .int .i8 (l.bf t)
def labC (l : Lab) : Array Value := #[.int .i64 l.sec, b8 l 0, b8 l 1, b8 l 2, b8 l 3, b8 l 4, b8 l 5, b8 l 6, b8 l 7, b8 l 8, b8 l 9]
def labV (l : Lab) : Value := .agg (labC l)
theorem labC_at (l : Lab) {t : Nat} (ht : t < 10) : (labC l)[1 + t]? = some (.int .i8 (l.bf t)) := by
 rcases t with _ | _ | _ | _ | _ | _ | _ | _ | _ | _ | t
 all_goals first | rfl | omega
theorem labC_size (l : Lab) : (labC l).size = 11 := rfl
def setSec (l : Lab) (x : Int) : Lab := ⟨x, l.bef⟩
def setBf (l : Lab) (t : Nat) (x : Int) : Lab := ⟨l.sec, l.bef.set t x⟩
theorem setBf_bf {l : Lab} (h : l.bef.length = 10) {t u : Nat} (ht : t < 10) (x : Int) : (setBf l t x).bf u = if t = u then x else l.bf u := by
 unfold setBf Lab.bf
 simp only
 rw [List.getElem?_set]
 by_cases e : t = u
 ·subst e; rw [if_pos rfl, if_pos (by omega), if_pos rfl]; rfl
 ·rw [if_neg e, if_neg e]
theorem labC_setS (l : Lab) (x : Int) : (labC l).setIfInBounds 0 (.int .i64 x) = labC (setSec l x) := rfl
theorem labC_setB {l : Lab} (h : l.bef.length = 10) {t : Nat} (ht : t < 10) (x : Int) : (labC l).setIfInBounds (1 + t) (.int .i8 x) = labC (setBf l t x) := by
 apply Array.ext
 ·simp [labC_size]
 ·intro i hi hi2
  have e : ((labC l).setIfInBounds (1 + t) (.int .i8 x))[i]? = (labC (setBf l t x))[i]? := by
   rw [Array.getElem?_setIfInBounds]
   by_cases g0 : i = 0
   ·subst g0; rw [if_neg (by omega)]; rfl
   ·obtain ⟨u, rfl⟩ : ∃ u, i = 1 + u := ⟨i - 1, by omega⟩
    have hu : u < 10 := by rw [labC_size] at hi2; omega
    rw [labC_at l hu, labC_at (setBf l t x) hu, setBf_bf h ht]
    by_cases e : t = u
    ·subst e; rw [if_pos rfl, if_pos (by rw [labC_size]; omega), if_pos rfl]
    ·rw [if_neg (by omega), if_neg e]
  rw [Array.getElem?_eq_getElem hi, Array.getElem?_eq_getElem hi2] at e
  injection e
def mrgTo (l o : Lab) (m : Nat) : Lab := ⟨l.sec, (List.range 10).map fun t => if t < m then max (l.bf t) (o.bf t) else l.bf t⟩
theorem mrgTo_bf (l o : Lab) (m : Nat) {t : Nat} (ht : t < 10) : (mrgTo l o m).bf t = if t < m then max (l.bf t) (o.bf t) else l.bf t := bf_map _ _ ht
theorem mrgTo_len (l o : Lab) (m : Nat) : (mrgTo l o m).bef.length = 10 := by simp [mrgTo]
theorem mrgTo_zero {l : Lab} (h : l.bef.length = 10) (o : Lab) : mrgTo l o 0 = l := Lab.ext10 (mrgTo_len _ _ _) h rfl fun t ht => by rw [mrgTo_bf _ _ _ ht, if_neg (by omega)]
theorem mrgTo_succ (l o : Lab) {m : Nat} (hm : m < 10) : setBf (mrgTo l o m) m (max (l.bf m) (o.bf m)) = mrgTo l o (m + 1) := by
 refine Lab.ext10 (by unfold setBf; simp [mrgTo]) (mrgTo_len _ _ _) rfl fun t ht => ?_
 rw [setBf_bf (mrgTo_len _ _ _) hm, mrgTo_bf _ _ _ ht, mrgTo_bf _ _ _ ht]
 by_cases e : m = t
 ·subst e; rw [if_pos rfl, if_pos (by omega)]
 ·rw [if_neg e]
  by_cases g : t < m
  ·rw [if_pos g, if_pos (by omega)]
  ·rw [if_neg g, if_neg (by omega)]
theorem mrg_done {l o : Lab} {fr : Ref} {w : Int} {tf : Nat} (hf : fr.tr = (tf : Int)) (htf : tf < 10) (hl : ∀ t, t < 10 → -1 ≤ l.bf t) : setBf (mrgTo (setSec l (max l.sec (o.sec + w))) o 10) tf (max (max (l.bf tf) (o.bf tf)) fr.st) = mergeL l o fr w := by
 refine Lab.ext10 (by unfold setBf; simp [mrgTo]) (mergeL_len _ _ _ _) rfl fun t ht => ?_
 rw [setBf_bf (mrgTo_len _ _ _) htf, mrgTo_bf _ _ _ ht]
 have e1 : (setSec l (max l.sec (o.sec + w))).bf t = l.bf t := rfl
 have e2 : (mergeL l o fr w).bf t = max (max (l.bf t) (o.bf t)) (if fr.tr = (t : Int) then fr.st else -1) := by unfold mergeL; rw [bf_map _ _ ht]
 rw [e1, e2, if_pos ht, hf]
 have := hl t ht
 by_cases e : tf = t
 ·subst e; rw [if_pos rfl, if_pos rfl]
 ·rw [if_neg e, if_neg (by omega)]
  omega
def storeLab (w : World) (b i : Nat) (l : Lab) : World := ((((((((((w.setCell ⟨b, i, none⟩ (.int .i64 l.sec)).setCell ⟨b, i + 1, none⟩ (.int .i8 (l.bf 0))).setCell ⟨b, i + 2, none⟩ (.int .i8 (l.bf 1))).setCell ⟨b, i + 3, none⟩ (.int .i8 (l.bf 2))).setCell ⟨b, i + 4, none⟩ (.int .i8 (l.bf 3))).setCell ⟨b, i + 5, none⟩ (.int .i8 (l.bf 4))).setCell ⟨b, i + 6, none⟩ (.int .i8 (l.bf 5))).setCell ⟨b, i + 7, none⟩ (.int .i8 (l.bf 6))).setCell ⟨b, i + 8, none⟩ (.int .i8 (l.bf 7))).setCell ⟨b, i + 9, none⟩ (.int .i8 (l.bf 8))).setCell ⟨b, i + 10, none⟩ (.int .i8 (l.bf 9))
def setLabC (cs : Array Value) (i : Nat) (l : Lab) : Array Value := ((((((((((cs.setIfInBounds i (.int .i64 l.sec)).setIfInBounds (i + 1) (.int .i8 (l.bf 0))).setIfInBounds (i + 2) (.int .i8 (l.bf 1))).setIfInBounds (i + 3) (.int .i8 (l.bf 2))).setIfInBounds (i + 4) (.int .i8 (l.bf 3))).setIfInBounds (i + 5) (.int .i8 (l.bf 4))).setIfInBounds (i + 6) (.int .i8 (l.bf 5))).setIfInBounds (i + 7) (.int .i8 (l.bf 6))).setIfInBounds (i + 8) (.int .i8 (l.bf 7))).setIfInBounds (i + 9) (.int .i8 (l.bf 8))).setIfInBounds (i + 10) (.int .i8 (l.bf 9))
theorem storeLab_blk {w : World} {b t i : Nat} {cs : Array Value} (h : Blk w b t cs) (l : Lab) : Blk (storeLab w b i l) b t (setLabC cs i l) :=
 ((((((((((h.set_ _ _).set_ _ _).set_ _ _).set_ _ _).set_ _ _).set_ _ _).set_ _ _).set_ _ _).set_ _ _).set_ _ _).set_ _ _
theorem storeLab_keeps {C : Foot} {a w : World} {b i : Nat} (h : Keeps C a w) (hb : b < a.heap.size → C b) (l : Lab) : Keeps C a (storeLab w b i l) :=
 ((((((((((h.setCell hb _).setCell hb _).setCell hb _).setCell hb _).setCell hb _).setCell hb _).setCell hb _).setCell hb _).setCell hb _).setCell hb _).setCell hb _
theorem setLabC_zero (l m : Lab) : setLabC (labC l) 0 m = labC m := by simp [setLabC, labC, b8]
def labZ : Lab := ⟨0, List.replicate 10 0⟩
def LabAt (w : World) (lb i : Nat) (l : Lab) : Prop := ∀ (j : Nat) v, (labC l)[j]? = some v → w.cell? ⟨lb, i * 11 + j, none⟩ = some v

set_option maxRecDepth 100000 in
set_option maxHeartbeats 1000000 in
theorem merged_any (w : World) (gb lb eb ce n f tf kf : Nat) (l o : Lab) (wt : Int) (g7 : w.cell? ⟨gb, 7, none⟩ = some (.slice (some ⟨lb, 0, none⟩) n n)) (g6 : w.cell? ⟨gb, 6, none⟩ = some (.slice (some ⟨eb, 0, none⟩) n ce)) (ho : LabAt w lb f o)
  (e0 : w.cell? ⟨eb, f * 2, none⟩ = some (.int .i64 (tf : Int))) (e1 : w.cell? ⟨eb, f * 2 + 1, none⟩ = some (.int .i64 (kf : Int))) (hf : f < n) (_hn : n ≤ 650) (htf : tf < 10) (hkf : kf ≤ 64) (hl : l.bef.length = 10) (hlb : ∀ t, t < 10 → -1 ≤ l.bf t) (hos : -1 ≤ o.sec ∧ o.sec ≤ 3000000000) (hw : 0 ≤ wt ∧ wt ≤ 4194304) :
  Calls Try.prog 68 #[.pointer (some ⟨gb, 0, none⟩), labV l, .int .i64 (f : Int), .int .i64 wt] w fun e w' => e = .returned (labV (mergeL l o ⟨(tf : Int), (kf : Int)⟩ wt)) ∧ KeepsAll w w' := by
 have hgz : gb < w.heap.size := World.block_lt_of_cell? w ⟨gb, 7, none⟩ g7
 have hez : eb < w.heap.size := World.block_lt_of_cell? w ⟨eb, f * 2, none⟩ e0
 have o0 := ho 0 _ rfl
 have hlz : lb < w.heap.size := World.block_lt_of_cell? w ⟨lb, f * 11 + 0, none⟩ o0
 have HO := Lib.hid ho
 have HL := Lib.hid hl
 have HLB := Lib.hid hlb
 have hs1 : IntKind.i64.wrap (o.sec + wt) = o.sec + wt := IntWalk.i64_in _ (by omega)
 clear ho hl hlb
 show Calls Try.prog 68 #[.pointer (some ⟨gb, 0, none⟩), .agg #[.int .i64 l.sec, .int .i8 (l.bf 0), .int .i8 (l.bf 1), .int .i8 (l.bf 2), .int .i8 (l.bf 3), .int .i8 (l.bf 4), .int .i8 (l.bf 5), .int .i8 (l.bf 6), .int .i8 (l.bf 7), .int .i8 (l.bf 8), .int .i8 (l.bf 9)], .int .i64 (f : Int), .int .i64 wt] w _
 go_enter Try.func68, Try.ntmps68
 go_wp2_with fail
 generalize hW0 : World.alloc (World.alloc w _) _ = W0
 have BL : Hid (Blk W0 w.heap.size 130 (labC l)) := by subst hW0; exact (Blk.new w _ _).alloc _
 have BR : Hid (Blk W0 (w.heap.size + 1) 130 (labC labZ)) := by subst hW0; exact Blk.new' _ _ _ (by simp)
 have KW : Hid (KeepsAll w W0) := by subst hW0; exact ((Keeps.refl _ _).alloc _).alloc _
 clear hW0
 have c0 := BL.out.cell 0
 simp [labC] at c0
 replace o0 := KW.out.cellK (p := ⟨lb, f * 11 + 0, none⟩) hlz o0
 simp [labC] at o0
 have q0 := BL.out.frozen 0
 have hz0 := BL.out.lt
 have hlz' : lb < W0.heap.size := Nat.lt_of_lt_of_le hlz KW.out.size
 refine wp_region_lex (fun w' => ∃ x : Ext W0, w' = x.val) [0, 1, 2, 3, 4, 5, 6, 7, 8, 9, 10] (by kernel_rfl) (by kernel_rfl) ⟨⟨_, (Keeps.refl _ _).drew⟩, rfl⟩ ?_
 have x0 := Ext.cell c0
 have x1 := Ext.cell o0
 iterate 3 (refine lex_q _ rfl rfl rfl ?_; go_big_quiet_step (fail); refine wpQuiet_nil ?_)
 refine lex_nil _ rfl _ rfl rfl _ rfl ?_; go_simp
 iterate 6 (refine lex_q _ rfl rfl rfl ?_; go_big_quiet_step (fail); refine wpQuiet_nil ?_)
 refine lex_a _ rfl rfl false (by kernel_rfl) ?_
 obtain ⟨wd, hwd⟩ : ∃ wd : World, wd = W0.drew := ⟨_, rfl⟩
 have KD : KeepsAll W0 wd := by subst hwd; exact (Keeps.refl _ _).drew
 have BD := BL.out.kept KD (by simp)
 have d0 := BD.cell 0
 simp [labC] at d0
 have d1 := BD.frozen 0
 have d2 := BD.lt
 have B1 : Hid (Blk (wd.setCell ⟨w.heap.size, 0, none⟩ (.int .i64 (max l.sec (o.sec + wt)))) w.heap.size 130 (labC (setSec l (max l.sec (o.sec + wt))))) := by
  have := BD.set_ 0 (.int .i64 (max l.sec (o.sec + wt)))
  rw [labC_setS] at this; exact this
 have R1 : Hid (Blk (wd.setCell ⟨w.heap.size, 0, none⟩ (.int .i64 (max l.sec (o.sec + wt)))) (w.heap.size + 1) 130 (labC labZ)) := (BR.out.kept KD (by simp)).far (by simp) _
 have K1 : Hid (KeepsAll w (wd.setCell ⟨w.heap.size, 0, none⟩ (.int .i64 (max l.sec (o.sec + wt))))) := (KW.out.tr KD).setCell (fun h => absurd h (by simp)) _
 rw [← hwd]
 clear hwd x0 x1 c0 o0 q0 hz0 KD BD BL BR KW hlz'
 go_wp2
 (try refine ⟨fun h => (by cases h), ?_⟩)
 simp only [wpLex]
 refine NoPanic.normal ?_
 generalize hW1 : World.setCell wd _ _ = W1
 rw [hW1] at B1 R1 K1
 clear hW1 d0 d1 d2
 go_wp2
 generalize hl1 : setSec l (max l.sec (o.sec + wt)) = l1 at *
 have hl1b : ∀ t, l1.bf t = l.bf t := fun t => by rw [← hl1]; rfl
 have hl1l : l1.bef.length = 10 := by rw [← hl1]; exact HL.out
 have HD := Lib.hid (mrg_done (l := l) (o := o) (fr := ⟨(tf : Int), (kf : Int)⟩) (w := wt) (tf := tf) rfl htf HLB.out)
 rw [hl1] at HD
 have HB := Lib.hid hl1b
 have HL1 := Lib.hid hl1l
 clear hl1 hl1b hl1l HL HLB
 generalize hz : w.heap.size = z at *
 have HZ : Hid (w.heap.size ≤ z) := by show _ ≤ _; omega
 have HLZ : Hid (lb < w.heap.size) := by show _ < _; omega
 have HEZ : Hid (eb < w.heap.size) := by show _ < _; omega
 have HGZ : Hid (gb < w.heap.size) := by show _ < _; omega
 clear hz hlz hez hgz
 have B1' : Hid (Blk W1 z 130 (labC (mrgTo l1 o 0))) := by show Blk _ _ _ _; rw [mrgTo_zero HL1.out]; exact B1.out
 clear B1
 go_loopw [28] (fun v wr => ∃ t : Nat, t ≤ 10 ∧ v = .int .i64 (t : Int) ∧ Blk wr z 130 (labC (mrgTo l1 o t)) ∧ Blk wr (z + 1) 130 (labC labZ) ∧ KeepsAll w wr) (fun v _ => 10 - (intOf v).toNat)
 case atStart => exact ⟨0, by omega, rfl, B1'.out, R1.out, K1.out⟩
 case round =>
  clear B1' R1 K1
  obtain ⟨t, ht, rfl, hb, hr, hk⟩ := hrel
  have B2 := Lib.hid hb
  have R2 := Lib.hid hr
  have K2 := Lib.hid hk
  clear hb hr hk
  by_cases hlt : t < 10
  ·have hdt : decide ((t : Int) < 10) = true := by simp; omega
   have c0 := B2.out.cell (1 + t)
   rw [labC_at _ hlt, mrgTo_bf _ _ _ hlt, if_neg (by omega), HB.out] at c0
   have o0 := HO.out (1 + t) _ (labC_at o hlt)
   replace o0 := K2.out.cellK (p := ⟨lb, f * 11 + (1 + t), none⟩) HLZ.out o0
   rw [← Nat.add_assoc] at o0
   have hz0 := B2.out.lt
   have hlz' : lb < wr.heap.size := Nat.lt_of_lt_of_le HLZ.out K2.out.size
   go_wp2
   refine wp_region_lex (fun w' => ∃ x : Ext wr, w' = x.val) [0, 1, 2, 3, 4, 5, 6, 7, 8, 9, 10, 11, 12, 13, 14] (by kernel_rfl) (by kernel_rfl) ⟨⟨_, (Keeps.refl _ _).drew⟩, rfl⟩ ?_
   have x0 := Ext.cell c0
   have x1 := Ext.cell o0
   iterate 7 (refine lex_q _ rfl rfl rfl ?_; go_big_quiet_step (fail); refine wpQuiet_nil ?_)
   refine lex_nil _ rfl _ rfl rfl _ rfl ?_; go_simp
   iterate 6 (refine lex_q _ rfl rfl rfl ?_; go_big_quiet_step (fail); refine wpQuiet_nil ?_)
   refine lex_a _ rfl rfl false (by kernel_rfl) ?_
   obtain ⟨wd, hwd⟩ : ∃ wd : World, wd = wr.drew := ⟨_, rfl⟩
   have KD : KeepsAll wr wd := by subst hwd; exact (Keeps.refl _ _).drew
   have BD := B2.out.kept KD (by simp)
   have d0 := BD.cell (1 + t)
   rw [labC_at _ hlt] at d0
   have d1 := BD.frozen (1 + t)
   have d2 := BD.lt
   have HN : Hid (Blk (wd.setCell ⟨z, 1 + t, none⟩ (.int .i8 (max (l.bf t) (o.bf t)))) z 130 (labC (mrgTo l1 o (t + 1))) ∧ Blk (wd.setCell ⟨z, 1 + t, none⟩ (.int .i8 (max (l.bf t) (o.bf t)))) (z + 1) 130 (labC labZ) ∧ KeepsAll w (wd.setCell ⟨z, 1 + t, none⟩ (.int .i8 (max (l.bf t) (o.bf t))))) := by
    refine ⟨?_, ?_, (K2.out.tr KD).setCell (fun h => absurd h (by have := HZ.out; simp; omega)) _⟩
    ·have := BD.set_ (1 + t) (.int .i8 (max (l.bf t) (o.bf t)))
     rw [labC_setB (mrgTo_len _ _ _) hlt, ← HB.out t, mrgTo_succ _ _ hlt, HB.out t] at this
     exact this
    ·exact (R2.out.kept KD (by simp)).far (by simp) _
   rw [← hwd]
   clear hwd x0 x1 c0 o0 hz0 KD BD B2 R2 K2 hlz'
   go_wp2
   (try refine ⟨fun h => (by cases h), ?_⟩)
   simp only [wpLex]
   refine NoPanic.normal ?_
   go_wp2
   go_roundw
   case rel => exact ⟨t + 1, by omega, by go_num, HN.out.1, HN.out.2.1, HN.out.2.2⟩
   case measure => simp [intOf]; omega
  ·obtain rfl : t = 10 := by omega
   rw [show ((10 : Nat) : Int) = 10 from rfl]
   have f0 := K2.out.cellK (p := ⟨eb, f * 2, none⟩) HEZ.out e0
   have f1 := K2.out.cellK (p := ⟨eb, f * 2 + 1, none⟩) HEZ.out e1
   have f6 := K2.out.cellK (p := ⟨gb, 6, none⟩) HGZ.out g6
   have hez' : eb < wr.heap.size := Nat.lt_of_lt_of_le HEZ.out K2.out.size
   have hgz' : gb < wr.heap.size := Nat.lt_of_lt_of_le HGZ.out K2.out.size
   have hs2 : IntKind.i8.wrap (kf : Int) = (kf : Int) := IntWalk.i8_in _ (by omega)
   go_wp2
   generalize hW3 : World.alloc wr _ = W3
   have KW3 : KeepsAll wr W3 := by subst hW3; exact (Keeps.refl _ _).alloc _
   have BU : Hid (Blk W3 wr.heap.size 46 #[.int .i64 (tf : Int), .int .i64 (kf : Int)]) := by subst hW3; exact Blk.new _ _ _
   have B3 := Lib.hid (B2.out.kept KW3 (by simp))
   have R3 := Lib.hid (R2.out.kept KW3 (by simp))
   have K3 := Lib.hid (K2.out.tr KW3)
   clear hW3 KW3 B2 R2 K2 f0 f1 f6 hez' hgz'
   have u0 := BU.out.cell 0
   have u1 := BU.out.cell 1
   simp at u0 u1
   have c0 := B3.out.cell (1 + tf)
   rw [labC_at _ htf, mrgTo_bf _ _ _ htf, if_pos htf, HB.out] at c0
   have hzu := BU.out.lt
   have hz3 := B3.out.lt
   refine wp_region_lex (fun w' => ∃ x : Ext W3, w' = x.val) [0, 1, 2, 3, 4, 5, 6, 7, 8, 9, 10, 11, 12, 13] (by kernel_rfl) (by kernel_rfl) ⟨⟨_, (Keeps.refl _ _).drew⟩, rfl⟩ ?_
   have x0 := Ext.cell c0
   have x1 := Ext.cell u0
   have x2 := Ext.cell u1
   iterate 13 (refine lex_q _ rfl rfl rfl ?_; go_big_quiet_step (fail); refine wpQuiet_nil ?_)
   refine lex_a _ rfl rfl false (by kernel_rfl) ?_
   obtain ⟨wd, hwd⟩ : ∃ wd : World, wd = W3.drew := ⟨_, rfl⟩
   have KD : KeepsAll W3 wd := by subst hwd; exact (Keeps.refl _ _).drew
   have BD := B3.out.kept KD (by simp)
   have d0 := BD.cell (1 + tf)
   rw [labC_at _ htf] at d0
   have d1 := BD.frozen (1 + tf)
   have d2 := BD.lt
   have HN : Hid (Blk (wd.setCell ⟨z, 1 + tf, none⟩ (.int .i8 (max (max (l.bf tf) (o.bf tf)) (kf : Int)))) z 130 (labC (mergeL l o ⟨(tf : Int), (kf : Int)⟩ wt)) ∧ Blk (wd.setCell ⟨z, 1 + tf, none⟩ (.int .i8 (max (max (l.bf tf) (o.bf tf)) (kf : Int)))) (z + 1) 130 (labC labZ) ∧ KeepsAll w (wd.setCell ⟨z, 1 + tf, none⟩ (.int .i8 (max (max (l.bf tf) (o.bf tf)) (kf : Int))))) := by
    refine ⟨?_, ?_, (K3.out.tr KD).setCell (fun h => absurd h (by have := HZ.out; simp; omega)) _⟩
    ·have := BD.set_ (1 + tf) (.int .i8 (max (max (l.bf tf) (o.bf tf)) (kf : Int)))
     rw [labC_setB (mrgTo_len _ _ _) htf, HD.out] at this
     exact this
    ·exact (R3.out.kept KD (by simp)).far (by simp) _
   rw [← hwd]
   clear hwd x0 x1 x2 c0 u0 u1 hzu hz3 KD BD B3 R3 K3 BU HD
   go_wp2
   (try refine ⟨fun h => (by cases h), ?_⟩)
   simp only [wpLex]
   refine NoPanic.normal ?_
   generalize hW4 : World.setCell wd _ _ = W4
   rw [Int.max_assoc (l.bf tf) (o.bf tf) (kf : Int), hW4] at HN
   clear hW4 d0 d1 d2
   generalize hm : mergeL l o ⟨(tf : Int), (kf : Int)⟩ wt = m at HN
   have HM := Lib.hid hm
   clear hm
   have B4 := Lib.hid HN.out.1
   have R4 := Lib.hid HN.out.2.1
   have K4 := Lib.hid HN.out.2.2
   clear HN
   have fz := B4.out.lt
   have rz := R4.out.lt
   have f0 := B4.out.cell 0
   have f1 := B4.out.cell 1
   have f2 := B4.out.cell 2
   have f3 := B4.out.cell 3
   have f4 := B4.out.cell 4
   have f5 := B4.out.cell 5
   have f6 := B4.out.cell 6
   have f7 := B4.out.cell 7
   have f8 := B4.out.cell 8
   have f9 := B4.out.cell 9
   have f10 := B4.out.cell 10
   simp [labC, b8] at f0 f1 f2 f3 f4 f5 f6 f7 f8 f9 f10
   have r0 := R4.out.cell 0
   have r1 := R4.out.cell 1
   have r2 := R4.out.cell 2
   have r3 := R4.out.cell 3
   have r4 := R4.out.cell 4
   have r5 := R4.out.cell 5
   have r6 := R4.out.cell 6
   have r7 := R4.out.cell 7
   have r8 := R4.out.cell 8
   have r9 := R4.out.cell 9
   have r10 := R4.out.cell 10
   simp [labC, b8, labZ, Lab.bf] at r0 r1 r2 r3 r4 r5 r6 r7 r8 r9 r10
   have s0 := R4.out.frozen 0
   have s1 := R4.out.frozen 1
   have s2 := R4.out.frozen 2
   have s3 := R4.out.frozen 3
   have s4 := R4.out.frozen 4
   have s5 := R4.out.frozen 5
   have s6 := R4.out.frozen 6
   have s7 := R4.out.frozen 7
   have s8 := R4.out.frozen 8
   have s9 := R4.out.frozen 9
   have s10 := R4.out.frozen 10
   go_wp2
   generalize hW5 : World.setCell (World.setCell (World.setCell (World.setCell (World.setCell (World.setCell (World.setCell (World.setCell (World.setCell (World.setCell (World.setCell W4 _ _) _ _) _ _) _ _) _ _) _ _) _ _) _ _) _ _) _ _) _ _ = W5
   have B5 : Blk W5 (z + 1) 130 (labC m) := by
    have := storeLab_blk (i := 0) R4.out m
    rw [setLabC_zero] at this
    simp only [storeLab, Nat.zero_add] at this
    rw [hW5] at this
    exact this
   have K5 : KeepsAll w W5 := by
    have := storeLab_keeps (b := z + 1) (i := 0) K4.out (fun h => absurd h (by have := HZ.out; omega)) m
    simp only [storeLab, Nat.zero_add] at this
    rw [hW5] at this
    exact this
   clear hW5 r0 r1 r2 r3 r4 r5 r6 r7 r8 r9 r10 s0 s1 s2 s3 s4 s5 s6 s7 s8 s9 s10 f0 f1 f2 f3 f4 f5 f6 f7 f8 f9 f10
   have f0 := B5.cell 0
   have f1 := B5.cell 1
   have f2 := B5.cell 2
   have f3 := B5.cell 3
   have f4 := B5.cell 4
   have f5 := B5.cell 5
   have f6 := B5.cell 6
   have f7 := B5.cell 7
   have f8 := B5.cell 8
   have f9 := B5.cell 9
   have f10 := B5.cell 10
   simp [labC, b8] at f0 f1 f2 f3 f4 f5 f6 f7 f8 f9 f10
   exact bodyPost_ret (v := labV m) (by simp [results, Try.results68, go_sem, f0, f1, f2, f3, f4, f5, f6, f7, f8, f9, f10, labV, labC, b8]) rfl ⟨by rw [HM.out], K5⟩

end Go.Proofs.Ytilbbpbjhoidhaa
