/- The graph of chapter 37 while it is made: lemmas. Conditions: as each theorem says. -/
import Derived.Test.YtilbbpbjhoidhaaE21
namespace Go.Proofs.Ytilbbpbjhoidhaa
open Go.RowKit

theorem labZ_cells : (Value.agg #[.int .i64 0, .int .i8 0, .int .i8 0, .int .i8 0, .int .i8 0, .int .i8 0, .int .i8 0, .int .i8 0, .int .i8 0, .int .i8 0, .int .i8 0]).cells = labC labZ := rfl
theorem labsC_zero (E : List Ref) : madeCells (labC labZ) (E.length * 11) = labsC E (fun _ => labZ) := by
 apply Array.ext
 ·rw [size_madeCells, labsC_size]
 ·intro k hk hk2
  rw [size_madeCells] at hk
  have hq : k / 11 < E.length := (Nat.div_lt_iff_lt_mul (by omega)).2 hk
  have hr : k % 11 < 11 := Nat.mod_lt _ (by omega)
  have e1 := labsC_at (fun _ : Ref => labZ) (List.getElem?_eq_getElem hq) hr
  have hkk : k / 11 * 11 + k % 11 = k := by omega
  rw [hkk, Array.getElem?_eq_getElem hk2] at e1
  have e2 : (labC labZ)[k % 11]? = some ((labC labZ)[k % 11]'(by rw [labC_size]; exact hr)) := Array.getElem?_eq_getElem _
  rw [e2] at e1
  injection e1 with e1
  rw [e1]
  unfold madeCells
  simp only [Array.getElem_map, Array.getElem_range, labC_size]
  rw [getElem!_pos (labC labZ) (k % 11) (by rw [labC_size]; exact hr)]
theorem mkLabs (E : List Ref) (n : Nat) (hE : E.length = n) (hn : n ≤ 1000000) (W : World) : (Instr.makeSlice 122 (.int .i64 (n : Int)) (.int .i64 (n : Int))).run Try.prog W = .ok (.slice (some ⟨W.heap.size, 0, none⟩) n n) (W.alloc (.cells (labsC E (fun _ => labZ)) 130)) := by
 have hk : (Try.prog.info? 130).map (fun i => (i.zero, i.size, i.bytes)) = some (some (.agg #[.int .i64 0, .int .i8 0, .int .i8 0, .int .i8 0, .int .i8 0, .int .i8 0, .int .i8 0, .int .i8 0, .int .i8 0, .int .i8 0, .int .i8 0]), 11, 24) := by kernel_rfl
 obtain ⟨i, h1, h2, h3, h4⟩ := info_parts hk
 have h := run_make (P := Try.prog) W 122 130 i _ Try.underlying122 h1 h2 .i64 .i64 (n : Int) (n : Int) (by omega) (by omega) (by rw [h4]; omega) (by omega)
 rw [Int.toNat_natCast, h3, labZ_cells] at h
 rw [h, ← hE, labsC_zero]
theorem mkBoolsG (n : Nat) (hn : n ≤ 1000000) (W : World) : (Instr.makeSlice 88 (.int .i64 (n : Int)) (.int .i64 (n : Int))).run Try.prog W = .ok (.slice (some ⟨W.heap.size, 0, none⟩) n n) (W.alloc (.cells (boolsC (List.replicate n false)) 4)) := by
 have h := run_make_row' (P := Try.prog) 88 4 (.bool false) 1 Try.underlying88 (by kernel_rfl) rfl .i64 .i64 n (by omega) (by omega) W
 rw [madeCells_one] at h
 rw [h]; simp [boolsC]
theorem labsC_one {E : List Ref} (hn : E.Nodup) (T : LTab) {i j : Nat} {u : Ref} (h : E[i]? = some u) (hj : j < 11) (l : Lab) (x : Value) (hx : (labC (T u)).setIfInBounds j x = labC l) : (labsC E T).setIfInBounds (i * 11 + j) x = labsC E (updL T u l) := by
 have hil : i < E.length := getElem?_lt h
 apply Array.ext
 ·rw [Array.size_setIfInBounds, labsC_size, labsC_size]
 ·intro k hk hk2
  rw [Array.size_setIfInBounds, labsC_size] at hk
  have e : ((labsC E T).setIfInBounds (i * 11 + j) x)[k]? = (labsC E (updL T u l))[k]? := by
   rw [Array.getElem?_setIfInBounds]
   have hq : k / 11 < E.length := (Nat.div_lt_iff_lt_mul (by omega)).2 hk
   have hkk : k = k / 11 * 11 + k % 11 := by omega
   have hr : k % 11 < 11 := Nat.mod_lt _ (by omega)
   have hE : E[k / 11]? = some E[k / 11] := List.getElem?_eq_getElem hq
   rw [labsC_size]
   generalize k / 11 = q at *
   generalize k % 11 = r at *
   subst hkk
   rw [labsC_at _ hE hr, labsC_at _ hE hr]
   by_cases g : q = i
   ·subst g
    rw [h] at hE
    injection hE with hE
    rw [← hE, updL_at, ← hx, Array.getElem?_setIfInBounds, labC_size]
    by_cases g2 : j = r
    ·subst g2; rw [if_pos rfl, if_pos (by omega), if_pos rfl, if_pos hj]
    ·rw [if_neg (by omega), if_neg g2]
   ·have hne : E[q] ≠ u := fun e => by
     rw [e] at hE
     exact g (nd_at hn hE h)
    rw [updL_ne _ _ hne, if_neg (by omega)]
  rw [Array.getElem?_eq_getElem (by rw [Array.size_setIfInBounds, labsC_size]; exact hk), Array.getElem?_eq_getElem hk2] at e
  injection e
section
variable {s : GS} {w0 wr w' : World} {d : GD}
theorem Gm.setCell1 (h : Gm s w0 wr d) {i j : Nat} {u : Ref} (hu : (evs s.ps)[i]? = some u) (hj : j < 11) (l : Lab) (x : Value) (hx : (labC (d.T u)).setIfInBounds j x = labC l) : Gm s w0 (wr.setCell ⟨s.lb, i * 11 + j, none⟩ x) { d with T := updL d.T u l } := by
 obtain ⟨n1, n2, n3, n4, n5, n6⟩ := h.nes
 have hlo := h.lo
 have hhi := h.hi
 have hw0 := h.k.size
 have hk : Keeps (fun b => b = s.lb) wr (wr.setCell ⟨s.lb, i * 11 + j, none⟩ x) := (Keeps.refl (fun b => b = s.lb) wr).setCell (p := ⟨s.lb, i * 11 + j, none⟩) (fun _ => rfl) _
 refine ⟨h.b.kept hk n1, hk.rd RPaths.ok h.P (fun b hb => ⟨Nat.lt_of_lt_of_le hb hw0, fun e => by have hb : b < w0.heap.size := hb; have e : b = s.lb := e; omega⟩) (fun _ h => h), hk.rd RInts.ok h.A (fun b hb => ⟨Nat.lt_of_lt_of_le hb hw0, fun e => by have hb : b < w0.heap.size := hb; have e : b = s.lb := e; omega⟩) (fun _ h => h), h.f.keepsF RInt.flat hk (fun b hb e => by have e : b = s.lb := e; subst e; exact h.f.ne_blk h.l (by decide) hb), h.fl, h.e.keepsF RRef.flat hk (fun b hb e => by have e : b = s.lb := e; subst e; exact h.e.ne_blk h.l (by decide) hb), h.el, ?_, h.nr.keeps RInt.flat hk (fun e => n4 e.symm) (fun b hb _ e => by have e : b = s.lb := e; omega), h.nl, h.lg.keepsF RChg.flat hk (fun b hb e => by have := h.lg.lt hb; have e : b = s.lb := e; omega), h.q.keepsF RInt.flat hk (fun b hb e => by have := h.q.lt hb; have e : b = s.lb := e; omega), h.qd.kept hk (fun e => n5 e.symm), h.ql, h.ne, hlo, hhi, Nat.le_trans h.bsz hk.size, h.k.trans hk (fun b hb e => by have e : b = s.lb := e; omega), (h.zk hk fun _ _ e => .inr (.inl e)).1, (h.zk hk fun _ _ e => .inr (.inl e)).2, h.zn⟩
 have := h.l.set_ (i * 11 + j) x
 rw [labsC_one (evs_nd s.ps) d.T hu hj l x hx] at this
 exact this
theorem Gm.stSec (h : Gm s w0 wr d) {i : Nat} {u : Ref} (hu : (evs s.ps)[i]? = some u) (x : Int) : Gm s w0 (wr.setCell ⟨s.lb, i * 11, none⟩ (.int .i64 x)) { d with T := updL d.T u (setSec (d.T u) x) } :=
 h.setCell1 (j := 0) hu (by omega) (setSec (d.T u) x) (.int .i64 x) (labC_setS _ _)
theorem Gm.stBf (h : Gm s w0 wr d) {i t : Nat} {u : Ref} (hu : (evs s.ps)[i]? = some u) (ht : t < 10) (hl : (d.T u).bef.length = 10) (x : Int) : Gm s w0 (wr.setCell ⟨s.lb, i * 11 + (1 + t), none⟩ (.int .i8 x)) { d with T := updL d.T u (setBf (d.T u) t x) } :=
 h.setCell1 (j := 1 + t) hu (by omega) (setBf (d.T u) t x) (.int .i8 x) (labC_setB hl ht x)
theorem Gm.congrT (h : Gm s w0 wr d) {T : LTab} (hT : ∀ u ∈ evs s.ps, T u = d.T u) : Gm s w0 wr { d with T := T } := by
 have e : labsC (evs s.ps) T = labsC (evs s.ps) d.T := by
  unfold labsC
  congr 2
  exact List.map_congr_left fun u hu => by rw [hT u hu]
 exact ⟨h.b, h.P, h.A, h.f, h.fl, h.e, h.el, by rw [e]; exact h.l, h.nr, h.nl, h.lg, h.q, h.qd, h.ql, h.ne, h.lo, h.hi, h.bsz, h.k, h.z, h.zs, h.zn⟩
end

theorem OwnL.base_lo {α : Type} {t size : Nat} {E : Rd α} {w : World} {base base' lo lo' : Nat} {v : Value} {l : List α} (hE : Rd.Ok E) (h : OwnL t size E w base lo v l) (hb : base' ≤ base) (hl : lo' ≤ lo) : OwnL t size E w base' lo' v l := by
 obtain ⟨ess, h1, h2, h3⟩ := h
 refine ⟨ess, h1, ⟨h2.1, ?_⟩, fun j x hx => ?_⟩
 ·rcases h2.2 with hn | ⟨g, cap, cur, e, hg, rest⟩
  ·exact .inl hn
  ·exact .inr ⟨g, cap, cur, e, Nat.le_trans hb hg, rest⟩
 ·obtain ⟨es, e1, e2, e3⟩ := h3 j x hx
  exact ⟨es, e1, e2, hE.mono e3 (fun b hb => ⟨Nat.le_trans hl hb.1, hb.2⟩) (fun _ _ => rfl)⟩
theorem baseN_eq (ps : List (List Stage)) (at_ : List Int) (n : Int) (t k : Nat) : baseN ps at_ n ⟨(t : Int), (k : Int)⟩ = if 0 < k ∧ (k : Int) - 1 = nowAt at_ t then max (baseS ps n ⟨(t : Int), (k : Int)⟩) (n + mnAt ps t (k - 1)) else baseS ps n ⟨(t : Int), (k : Int)⟩ := by
 unfold baseN base2
 simp only [Int.toNat_natCast]
theorem updL_twice (T : LTab) (u : Ref) (x y : Lab) : updL (updL T u x) u y = updL T u y := by
 funext v
 by_cases e : v = u
 ·subst e; rw [updL_at, updL_at]
 ·rw [updL_ne _ _ e, updL_ne _ _ e, updL_ne _ _ e]
def gd0 (n : Nat) (T : LTab) : GD := ⟨T, List.replicate n (.slice none 0 0), List.replicate n [], .slice none 0 0, [], .slice none 0 0, [], List.replicate n false⟩
theorem Gm.zblk {s : GS} {w0 wr : World} {d : GD} (h : Gm s w0 wr d) {b t : Nat} {cs : Array Value} (hz : s.Z b) (hb : Blk s.wz b t cs) : Blk wr b t cs := (h.z b hz).2.trans hb
theorem Gm.rezone {s : GS} {w0 wr : World} {d : GD} (h : Gm s w0 wr d) (Z : Foot) (hZ : ∀ b, Z b → b < wr.heap.size ∧ ¬ GOwn s d b) : Gm { s with Z := Z, wz := wr } w0 wr d :=
 ⟨h.b, h.P, h.A, h.f, h.fl, h.e, h.el, h.l, h.nr, h.nl, h.lg, h.q, h.qd, h.ql, h.ne, h.lo, h.hi, h.bsz, h.k, fun b hb => ⟨(hZ b hb).1, rfl⟩, Nat.le_refl _, fun b hb hz => (hZ b hz).2 hb⟩
structure Pd1 (w1 wr : World) (a b c d e v2 v3 : Value) (fs : List Int) (es : List Ref) : Prop where
 b : Blk wr w1.heap.size 125 #[a, b, c, d, e, v2, v3, .slice none 0 0, .slice none 0 0, .slice none 0 0, .slice none 0 0, .slice none 0 0]
 f : OwnL 3 1 RInt wr (w1.heap.size + 1) (w1.heap.size + 1) v2 fs
 e : OwnL 46 2 RRef wr (w1.heap.size + 1) (w1.heap.size + 1) v3 es
 k : KeepsAll w1 wr
section
variable {w1 wr w' : World} {a b c d e v2 v3 v : Value} {fs : List Int} {es : List Ref}
theorem Pd1.keep (h : Pd1 w1 wr a b c d e v2 v3 fs es) (k : KeepsAll wr w') : Pd1 w1 w' a b c d e v2 v3 fs es :=
 ⟨h.b.kept k (by simp), h.f.keeps RInt.ok k (by simp), h.e.keeps RRef.ok k (by simp), h.k.tr k⟩
theorem Pd1.pushF {x : Int} (h : Pd1 w1 wr a b c d e v2 v3 fs es) (ho : OwnL 3 1 RInt w' (w1.heap.size + 1) (w1.heap.size + 1) v (fs ++ [x])) (hk : Keeps (fun b => v2.ownBlock = some b) wr w') :
  Pd1 w1 (w'.setCell ⟨w1.heap.size, 5, none⟩ v) a b c d e v v3 (fs ++ [x]) es := by
 have hg : ¬ (v2.ownBlock = some w1.heap.size) := fun e => by have := h.f.lt e; omega
 have k2 : Keeps (fun b => b = w1.heap.size) w' (w'.setCell ⟨w1.heap.size, 5, none⟩ v) := (Keeps.refl (fun b => b = w1.heap.size) w').setCell (p := ⟨w1.heap.size, 5, none⟩) (fun _ => rfl) _
 refine ⟨(h.b.kept hk hg).set_ 5 v, ho.keepsF RInt.flat k2 (fun b hb e => by have := ho.lt hb; omega), ?_, ?_⟩
 ·have h1 := h.e.keepsF RRef.flat hk (fun b hb e => h.f.ne_own h.e (by decide) e hb)
  exact h1.keepsF RRef.flat k2 (fun b hb e => by have := h1.lt hb; omega)
 ·exact ((h.k.trans hk (fun x hx e => by have := h.f.lt e; omega)).setCell (fun h => by simp at h) _)
theorem Pd1.pushE {u : Ref} (h : Pd1 w1 wr a b c d e v2 v3 fs es) (ho : OwnL 46 2 RRef w' (w1.heap.size + 1) (w1.heap.size + 1) v (es ++ [u])) (hk : Keeps (fun b => v3.ownBlock = some b) wr w') :
  Pd1 w1 (w'.setCell ⟨w1.heap.size, 6, none⟩ v) a b c d e v2 v fs (es ++ [u]) := by
 have hg : ¬ (v3.ownBlock = some w1.heap.size) := fun e => by have := h.e.lt e; omega
 have k2 : Keeps (fun b => b = w1.heap.size) w' (w'.setCell ⟨w1.heap.size, 6, none⟩ v) := (Keeps.refl (fun b => b = w1.heap.size) w').setCell (p := ⟨w1.heap.size, 6, none⟩) (fun _ => rfl) _
 refine ⟨(h.b.kept hk hg).set_ 6 v, ?_, ho.keepsF RRef.flat k2 (fun b hb e => by have := ho.lt hb; omega), ?_⟩
 ·have h1 := h.f.keepsF RInt.flat hk (fun b hb e => h.e.ne_own h.f (by decide) e hb)
  exact h1.keepsF RInt.flat k2 (fun b hb e => by have := h1.lt hb; omega)
 ·exact ((h.k.trans hk (fun x hx e => by have := h.e.lt e; omega)).setCell (fun h => by simp at h) _)
end
structure Pd2 (w1 wr : World) (cs : Array Value) (v2 v3 : Value) (fs : List Int) (es : List Ref) : Prop where
 b : Blk wr w1.heap.size 125 cs
 f : OwnL 3 1 RInt wr (w1.heap.size + 1) (w1.heap.size + 1) v2 fs
 e : OwnL 46 2 RRef wr (w1.heap.size + 1) (w1.heap.size + 1) v3 es
 k : KeepsAll w1 wr
section
variable {w1 wr w' : World} {cs : Array Value} {v2 v3 : Value} {fs : List Int} {es : List Ref}
theorem Pd2.keep (h : Pd2 w1 wr cs v2 v3 fs es) (k : KeepsAll wr w') : Pd2 w1 w' cs v2 v3 fs es := ⟨h.b.kept k (by simp), h.f.keeps RInt.ok k (by simp), h.e.keeps RRef.ok k (by simp), h.k.tr k⟩
theorem Pd2.set_ (h : Pd2 w1 wr cs v2 v3 fs es) (i : Nat) (x : Value) : Pd2 w1 (wr.setCell ⟨w1.heap.size, i, none⟩ x) (cs.setIfInBounds i x) v2 v3 fs es := by
 have k2 : Keeps (fun b => b = w1.heap.size) wr (wr.setCell ⟨w1.heap.size, i, none⟩ x) := (Keeps.refl (fun b => b = w1.heap.size) wr).setCell (p := ⟨w1.heap.size, i, none⟩) (fun _ => rfl) _
 exact ⟨h.b.set_ i x, h.f.keepsF RInt.flat k2 (fun b hb e => by have := h.f.lt hb; omega), h.e.keepsF RRef.flat k2 (fun b hb e => by have := h.e.lt hb; omega), h.k.setCell (fun h => by simp at h) _⟩
end
theorem firsts_takeD {ps : List (List Stage)} {t : Nat} (h : t < ps.length) : (firsts ps).take (t + 1) = (firsts ps).take t ++ [(fst ps t : Int)] := by
 rw [List.take_add_one, firsts_at h]; rfl

end Go.Proofs.Ytilbbpbjhoidhaa
