/- The graph of chapter 37 in memory. Conditions: as each theorem says. Contracts of happened and leads of the graph of chapter 37. Conditions: as each theorem says. The graph of chapter 37 in memory: what one store of its code does. Conditions: as each theorem says. -/
import Derived.Test.YtilbbpbjhoidhaaK18
import Derived.Test.YtilbbpbjhoidhaaK19
import Derived.Test.YtilbbpbjhoidhaaK13
namespace Go.Proofs.Ytilbbpbjhoidhaa
open Go.RowKit

/-- a row of labels -/
def labsC (E : List Ref) (T : LTab) : Array Value := (E.map fun u => (labC (T u)).toList).flatten.toArray
theorem labsC_at {E : List Ref} (T : LTab) {i j : Nat} {u : Ref} (h : E[i]? = some u) (hj : j < 11) : (labsC E T)[i * 11 + j]? = (labC (T u))[j]? := by
 unfold labsC
 rw [List.getElem?_toArray, flatten_at (size := 11) (es := (labC (T u)).toList) (fun es hes => ?_) (by rw [List.getElem?_map, h]; rfl) hj]
 ·simp
 ·obtain ⟨v, _, rfl⟩ := List.mem_map.1 hes
  rfl
theorem labsC_size (E : List Ref) (T : LTab) : (labsC E T).size = E.length * 11 := by
 unfold labsC
 simp only [List.size_toArray]
 induction E with
 | nil => rfl
 | cons a E ih =>
  simp only [List.map_cons, List.flatten_cons, List.length_append, List.length_cons, ih]
  have : (labC (T a)).toList.length = 11 := rfl
  omega
theorem setLabC_at (cs : Array Value) {i k : Nat} (l : Lab) (hk : k < cs.size) : (setLabC cs i l)[k]? = if i ≤ k ∧ k < i + 11 then (labC l)[k - i]? else cs[k]? := by
 unfold setLabC
 simp only [Array.getElem?_setIfInBounds, Array.size_setIfInBounds]
 by_cases g : i ≤ k ∧ k < i + 11
 ·rw [if_pos g]
  obtain ⟨j, rfl⟩ : ∃ j, k = i + j := ⟨k - i, by omega⟩
  have hj : j < 11 := by omega
  rw [Nat.add_sub_cancel_left]
  rcases j with _ | _ | _ | _ | _ | _ | _ | _ | _ | _ | _ | j
  all_goals first | omega | (simp [labC, b8]; try omega)
 ·rw [if_neg g]
  have h0 : ∀ d, d < 11 → ¬ i + d = k := fun d hd e => g ⟨by omega, by omega⟩
  rw [if_neg (h0 10 (by omega)), if_neg (h0 9 (by omega)), if_neg (h0 8 (by omega)), if_neg (h0 7 (by omega)), if_neg (h0 6 (by omega)), if_neg (h0 5 (by omega)), if_neg (h0 4 (by omega)), if_neg (h0 3 (by omega)), if_neg (h0 2 (by omega)), if_neg (h0 1 (by omega)), if_neg (by have := h0 0 (by omega); simpa using this)]
theorem setLabC_size (cs : Array Value) (i : Nat) (l : Lab) : (setLabC cs i l).size = cs.size := by simp [setLabC]
theorem labsC_set {E : List Ref} (hn : E.Nodup) (T : LTab) {i : Nat} {u : Ref} (h : E[i]? = some u) (l : Lab) : setLabC (labsC E T) (i * 11) l = labsC E (updL T u l) := by
 apply Array.ext
 ·rw [setLabC_size, labsC_size, labsC_size]
 ·intro k hk hk2
  rw [setLabC_size] at hk
  have e : (setLabC (labsC E T) (i * 11) l)[k]? = (labsC E (updL T u l))[k]? := by
   rw [setLabC_at _ _ hk]
   rw [labsC_size] at hk
   have hq : k / 11 < E.length := (Nat.div_lt_iff_lt_mul (by omega)).2 hk
   have hkk : k = k / 11 * 11 + k % 11 := by omega
   have hr : k % 11 < 11 := Nat.mod_lt _ (by omega)
   have hE : E[k / 11]? = some E[k / 11] := List.getElem?_eq_getElem hq
   generalize k / 11 = q at *
   generalize k % 11 = r at *
   subst hkk
   rw [labsC_at _ hE hr, labsC_at _ hE hr]
   by_cases g : q = i
   ·subst g
    rw [h] at hE
    injection hE with hE
    rw [← hE, updL_at, if_pos (by omega), Nat.add_sub_cancel_left]
   ·have hne : E[q] ≠ u := fun e => by
     rw [e] at hE
     exact g (nd_at hn hE h)
    rw [updL_ne _ _ hne, if_neg (by omega)]
  rw [Array.getElem?_eq_getElem (by rw [setLabC_size]; exact hk), Array.getElem?_eq_getElem hk2] at e
  injection e

def RChg : Rd Chg := fun _ _ cs x => cs = [.int .i64 x.ev, .bool x.added] ++ (labC x.old).toList
theorem RChg.ok : Rd.Ok RChg := ⟨fun h _ _ => h⟩
theorem RChg.flat : Rd.Flat RChg := fun _ _ _ _ _ _ h => h
def boolsC (l : List Bool) : Array Value := (l.map Value.bool).toArray
theorem boolsC_at {l : List Bool} {i : Nat} {b : Bool} (h : l[i]? = some b) : (boolsC l)[i]? = some (.bool b) := by unfold boolsC; simp [h]
theorem boolsC_set (l : List Bool) (i : Nat) (b : Bool) : (boolsC l).setIfInBounds i (.bool b) = boolsC (l.set i b) := by unfold boolsC; simp [List.map_set]
/-- the graph's places that stay -/
structure GS where
 ps : List (List Stage)
 at_ : List Int
 now : Int
 vp : Value
 va : Value
 vd : Value
 vw : Value
 fv : Value
 ev : Value
 gb : Nat
 lb : Nat
 nb : Nat
 qb : Nat
 bs : Nat
 Z : Foot
 wz : World
/-- the graph's state -/
structure GD where
 T : LTab
 vs : List Value
 N : List (List Int)
 lgv : Value
 lg : List Chg
 qv : Value
 que : List Int
 qd : List Bool
def GS.n (s : GS) : Nat := (evs s.ps).length
/-- the blocks that the graph may write to -/
def GOwn (s : GS) (d : GD) (b : Nat) : Prop := b = s.gb ∨ b = s.lb ∨ b = s.nb ∨ b = s.qb ∨ d.lgv.ownBlock = some b ∨ d.qv.ownBlock = some b ∨ ∃ (i : Nat) (v : Value), d.vs[i]? = some v ∧ v.ownBlock = some b
structure Gm (s : GS) (w0 wr : World) (d : GD) : Prop where
 b : Blk wr s.gb 125 #[s.vp, s.va, s.vd, s.vw, .int .i64 s.now, s.fv, s.ev, .slice (some ⟨s.lb, 0, none⟩) s.n s.n, .slice (some ⟨s.nb, 0, none⟩) s.n s.n, d.lgv, d.qv, .slice (some ⟨s.qb, 0, none⟩) s.n s.n]
 P : RPaths wr (Old w0) [s.vp] s.ps
 A : RInts wr (Old w0) [s.va] s.at_
 f : OwnL 3 1 RInt wr w0.heap.size w0.heap.size s.fv (firsts s.ps)
 fl : ∀ b, s.fv.ownBlock = some b → b < s.bs
 e : OwnL 46 2 RRef wr w0.heap.size w0.heap.size s.ev (evs s.ps)
 el : ∀ b, s.ev.ownBlock = some b → b < s.bs
 l : Blk wr s.lb 130 (labsC (evs s.ps) d.T)
 nr : Rows 22 3 1 RInt wr s.bs s.nb d.vs d.N
 nl : d.N.length = s.n
 lg : OwnL 154 13 RChg wr s.bs s.bs d.lgv d.lg
 q : OwnL 3 1 RInt wr s.bs s.bs d.qv d.que
 qd : Blk wr s.qb 4 (boolsC d.qd)
 ql : d.qd.length = s.n
 ne : ∀ (i : Nat) v b, d.vs[i]? = some v → v.ownBlock = some b → d.qv.ownBlock ≠ some b
 lo : w0.heap.size ≤ s.gb ∧ w0.heap.size ≤ s.lb ∧ w0.heap.size ≤ s.nb ∧ w0.heap.size ≤ s.qb
 hi : s.gb < s.bs ∧ s.lb < s.bs ∧ s.qb < s.bs
 bsz : s.bs ≤ wr.heap.size
 k : KeepsAll w0 wr
 z : ∀ b, s.Z b → b < s.wz.heap.size ∧ wr.heap[b]? = s.wz.heap[b]?
 zs : s.wz.heap.size ≤ wr.heap.size
 zn : ∀ b, GOwn s d b → ¬ s.Z b
section
variable {s : GS} {w0 wr w' : World} {d : GD}
theorem Gm.keep (h : Gm s w0 wr d) (k : KeepsAll wr w') : Gm s w0 w' d :=
 ⟨h.b.kept k (by simp), k.rd RPaths.ok h.P (fun b hb => ⟨Nat.lt_of_lt_of_le hb h.k.size, by simp⟩) (fun _ h => h), k.rd RInts.ok h.A (fun b hb => ⟨Nat.lt_of_lt_of_le hb h.k.size, by simp⟩) (fun _ h => h), h.f.keeps RInt.ok k (fun _ _ h => h.elim), h.fl, h.e.keeps RRef.ok k (fun _ _ h => h.elim), h.el, h.l.kept k (by simp), h.nr.keeps RInt.flat k (by simp) (by simp), h.nl, h.lg.keeps RChg.ok k (fun _ _ h => h.elim), h.q.keeps RInt.ok k (fun _ _ h => h.elim), h.qd.kept k (by simp), h.ql, h.ne, h.lo, h.hi, Nat.le_trans h.bsz k.size, h.k.tr k, fun b hb => ⟨(h.z b hb).1, (k.block b (Nat.lt_of_lt_of_le (h.z b hb).1 h.zs) (by simp)).trans (h.z b hb).2⟩, Nat.le_trans h.zs k.size, h.zn⟩
/-- the blocks of Z stay -/
theorem Gm.zk (h : Gm s w0 wr d) {C : Foot} (k : Keeps C wr w') (hC : ∀ b, b < wr.heap.size → C b → GOwn s d b) : (∀ b, s.Z b → b < s.wz.heap.size ∧ w'.heap[b]? = s.wz.heap[b]?) ∧ s.wz.heap.size ≤ w'.heap.size :=
 ⟨fun b hb => ⟨(h.z b hb).1, (k.block b (Nat.lt_of_lt_of_le (h.z b hb).1 h.zs) (fun e => h.zn b (hC b (Nat.lt_of_lt_of_le (h.z b hb).1 h.zs) e) hb)).trans (h.z b hb).2⟩, Nat.le_trans h.zs k.size⟩
theorem Gm.znew (h : Gm s w0 wr d) {b : Nat} (hb : wr.heap.size ≤ b) : ¬ s.Z b := fun hz => by have := (h.z b hz).1; have := h.zs; omega
theorem Gm.lab (h : Gm s w0 wr d) {i : Nat} {u : Ref} (hu : (evs s.ps)[i]? = some u) : LabAt wr s.lb i (d.T u) := fun j v hv => by
 have hj : j < 11 := (Array.getElem?_eq_some_iff.1 hv).1
 rw [h.l.cell, labsC_at _ hu hj, hv]
theorem Gm.evc (h : Gm s w0 wr d) {i : Nat} {u : Ref} (hu : (evs s.ps)[i]? = some u) : ∃ eb ce, s.ev = .slice (some ⟨eb, 0, none⟩) s.n ce ∧ wr.cell? ⟨eb, i * 2, none⟩ = some (.int .i64 u.tr) ∧ wr.cell? ⟨eb, i * 2 + 1, none⟩ = some (.int .i64 u.st) := by
 have hil := getElem?_lt hu
 obtain ⟨A, c, he, _, _⟩ := h.e.form
 obtain ⟨eb, hA, _⟩ := (he ▸ h.e).some_ (by omega)
 subst hA
 have hr := (he ▸ h.e).readF RRef.ok RRef.flat (S := fun _ => True) (fun _ _ => trivial)
 obtain ⟨b, o, u', hbo, _, hu', m0, m1⟩ := RRefs.at_ hr hil
 injection hbo with hbo
 injection hbo with e1 e2
 subst e1 e2
 rw [hu] at hu'; injection hu' with hu'; subst hu'
 exact ⟨eb, c, he, by simpa using m0, by simpa using m1⟩
theorem Gm.c6 (h : Gm s w0 wr d) : wr.cell? ⟨s.gb, 6, none⟩ = some s.ev := by have := h.b.cell 6; simpa using this
theorem Gm.c7 (h : Gm s w0 wr d) : wr.cell? ⟨s.gb, 7, none⟩ = some (.slice (some ⟨s.lb, 0, none⟩) s.n s.n) := by have := h.b.cell 7; simpa using this
end

set_option maxRecDepth 100000 in
set_option maxHeartbeats 1000000 in
theorem dhappened_any (s : GS) (w0 w : World) (d : GD) (h : Gm s w0 w d) (i t k : Nat) (p : List Stage) (hp : s.ps[t]? = some p) (hk : k ≤ p.length) (hi : i = fst s.ps t + k) (hal : s.at_.length = s.ps.length) :
  Calls Try.prog 67 #[.pointer (some ⟨s.gb, 0, none⟩), .int .i64 (i : Int)] w fun e w' => e = .returned (.bool (doneR s.at_ ⟨(t : Int), (k : Int)⟩)) ∧ ∃ n, w' = w.drewN n := by
 have hev : (evs s.ps)[i]? = some ⟨(t : Int), (k : Int)⟩ := by rw [hi]; exact evs_at hp hk
 have hil := getElem?_lt hev
 obtain ⟨eb, ce, he, e0, e1⟩ := h.evc hev
 simp only at e0 e1
 have c6 := h.c6
 rw [he] at c6
 have c1 := h.b.cell 1
 simp at c1
 obtain ⟨Aa, ca, hva, hca1, hca2⟩ := h.A.val
 have htl := getElem?_lt hp
 obtain ⟨ba, oa, xa, hAa, hba, hxa, a0⟩ := (hva ▸ h.A).at_ (k := t) (by omega)
 subst hAa
 rw [hva] at c1
 have hgz := h.b.lt
 have hez : eb < w.heap.size := World.block_lt_of_cell? w ⟨eb, i * 2, none⟩ e0
 have haz : ba < w.heap.size := World.block_lt_of_cell? w ⟨ba, oa + t, none⟩ a0
 have Q : Hid (doneR s.at_ ⟨(t : Int), (k : Int)⟩ = decide ((k : Int) ≤ xa)) := by
  show _ = _
  unfold doneR
  simp only [Int.toNat_natCast, nowAt_of hxa]
 have hin : i < s.n := hil
 have htn : t < s.at_.length := by omega
 clear h hp hk hi hal hev hil he hxa hva htl
 generalize s.n = n at *
 go_enter Try.func67, Try.ntmps67
 go_wp2
 go_quiet (fail)
 go_wp2
 go_ret
 exact ⟨by rw [Q.out]; rfl, _, rfl⟩

set_option maxRecDepth 100000 in
set_option maxHeartbeats 1000000 in
theorem dleads_any (s : GS) (w0 w : World) (d : GD) (h : Gm s w0 w d) (i j t k : Nat) (v : Ref) (hi : (evs s.ps)[i]? = some ⟨(t : Int), (k : Int)⟩) (hj : (evs s.ps)[j]? = some v) (ht : t < 10) (hb : -1 ≤ (d.T v).bf t ∧ (d.T v).bf t ≤ 64) :
  Calls Try.prog 90 #[.pointer (some ⟨s.gb, 0, none⟩), .int .i64 (i : Int), .int .i64 (j : Int)] w fun e w' => e = .returned (.bool (leadsL d.T ⟨(t : Int), (k : Int)⟩ v)) ∧ KeepsAll w w' := by
 have hil := getElem?_lt hi
 have hjl := getElem?_lt hj
 obtain ⟨eb, ce, he, e0, e1⟩ := h.evc hi
 simp only at e0 e1
 have c6 := h.c6
 have c7 := h.c7
 rw [he] at c6
 have l0 := h.lab hj (1 + t) _ (labC_at _ ht)
 rw [← Nat.add_assoc] at l0
 have hgz := h.b.lt
 have hlz := h.l.lt
 have hez : eb < w.heap.size := World.block_lt_of_cell? w ⟨eb, i * 2, none⟩ e0
 have Q : Hid (leadsL d.T ⟨(t : Int), (k : Int)⟩ v = decide ((k : Int) ≤ (d.T v).bf t)) := by show _ = _; unfold leadsL; simp
 generalize (d.T v).bf t = x at *
 have hs1 : IntKind.i64.wrap x = x := IntWalk.i64_in _ (by omega)
 have hin : i < s.n := hil
 have hjn : j < s.n := hjl
 clear h hi hj hil hjl he
 generalize s.n = n at *
 go_enter Try.func90, Try.ntmps90
 go_wp2
 generalize hW : World.alloc w _ = W
 have KW : KeepsAll w W := by subst hW; exact (Keeps.refl _ _).alloc _
 have BU : Hid (Blk W w.heap.size 46 #[.int .i64 (t : Int), .int .i64 (k : Int)]) := by subst hW; exact Blk.new _ _ _
 have u0 := BU.out.cell 0
 have u1 := BU.out.cell 1
 simp at u0 u1
 have hzu := BU.out.lt
 replace c7 := KW.cellK (p := ⟨s.gb, 7, none⟩) hgz c7
 replace l0 := KW.cellK (p := ⟨s.lb, j * 11 + 1 + t, none⟩) hlz l0
 have hgz' : s.gb < W.heap.size := Nat.lt_of_lt_of_le hgz KW.size
 have hlz' : s.lb < W.heap.size := Nat.lt_of_lt_of_le hlz KW.size
 have HK := Lib.hid KW
 clear hW KW c6 e0 e1 hez hgz hlz
 go_quiet (fail)
 go_wp2
 go_ret
 exact ⟨by rw [Q.out]; rfl, HK.out.drewN _⟩

theorem OwnL.ne_own {α β : Type} {t t' size size' : Nat} {E : Rd α} {E' : Rd β} {w : World} {base lo base' lo' : Nat} {v v' : Value} {l : List α} {l' : List β} (h : OwnL t size E w base lo v l) (h' : OwnL t' size' E' w base' lo' v' l') (hne : t ≠ t') {b : Nat} (hb : v.ownBlock = some b) : v'.ownBlock ≠ some b := by
 obtain ⟨ess, _, h2, _⟩ := h
 rcases h2.2 with ⟨rfl, _⟩ | ⟨g, cap, cur, rfl, _, hh, _⟩
 ·simp [Value.ownBlock] at hb
 ·have e : g = b := by simpa [Value.ownBlock] using hb
  subst e
  exact h'.ne_blk (t' := t) (cs := cur) hh (fun e => hne e.symm)
section
variable {s : GS} {w0 wr w' : World} {d : GD}
theorem Gm.nes (h : Gm s w0 wr d) : s.gb ≠ s.lb ∧ s.gb ≠ s.nb ∧ s.gb ≠ s.qb ∧ s.lb ≠ s.nb ∧ s.lb ≠ s.qb ∧ s.nb ≠ s.qb :=
 ⟨Blk.ne_ h.b h.l (by decide), Blk.ne_ h.b h.nr.blk (by decide), Blk.ne_ h.b h.qd (by decide), Blk.ne_ h.l h.nr.blk (by decide), Blk.ne_ h.l h.qd (by decide), Blk.ne_ h.nr.blk h.qd (by decide)⟩
/-- a longer or a shorter log -/
theorem Gm.log (h : Gm s w0 wr d) {v : Value} {l : List Chg} (ho : OwnL 154 13 RChg w' s.bs s.bs v l) (hk : Keeps (fun b => d.lgv.ownBlock = some b) wr w') (ha : v.ownBlock = none ∨ v.ownBlock = d.lgv.ownBlock ∨ v.ownBlock = some wr.heap.size) : Gm s w0 (w'.setCell ⟨s.gb, 9, none⟩ v) { d with lgv := v, lg := l } := by
 obtain ⟨n1, n2, n3, n4, n5, n6⟩ := h.nes
 have hlo := h.lo
 have hhi := h.hi
 have hnb := h.nr.nb
 have hbs := h.bsz
 have hw0 := h.k.size
 have hL : ∀ b, d.lgv.ownBlock = some b → s.bs ≤ b := fun b hb => (h.lg.lt hb).1
 have hk2 : Keeps (fun b => b = s.gb) w' (w'.setCell ⟨s.gb, 9, none⟩ v) := (Keeps.refl (fun b => b = s.gb) w').setCell (p := ⟨s.gb, 9, none⟩) (fun _ => rfl) v
 have far : ∀ {g t : Nat} {cs : Array Value}, Blk wr g t cs → g < s.bs → g ≠ s.gb → Blk (w'.setCell ⟨s.gb, 9, none⟩ v) g t cs := fun hb hg hne => (hb.kept hk (fun e => by have := hL _ e; omega)).kept hk2 hne
 have hK : Keeps (fun b => w0.heap.size ≤ b) wr (w'.setCell ⟨s.gb, 9, none⟩ v) := (hk.mono (fun b _ e => by have := hL b e; show w0.heap.size ≤ b; omega)).trans hk2 (fun b _ e => by have e : b = s.gb := e; show w0.heap.size ≤ b; omega)
 have hZ := h.zk (C := GOwn s d) (w' := w'.setCell ⟨s.gb, 9, none⟩ v) ((hk.mono (fun b _ e => .inr (.inr (.inr (.inr (.inl e)))))).trans hk2 (fun b _ e => .inl e)) (fun _ _ h => h)
 refine ⟨?_, hK.rd RPaths.ok h.P (fun b hb => ⟨Nat.lt_of_lt_of_le hb hw0, fun e => by have hb : b < w0.heap.size := hb; omega⟩) (fun _ h => h), hK.rd RInts.ok h.A (fun b hb => ⟨Nat.lt_of_lt_of_le hb hw0, fun e => by have hb : b < w0.heap.size := hb; omega⟩) (fun _ h => h), ?_, h.fl, ?_, h.el, far h.l (by omega) (fun e => n1 e.symm), ?_, h.nl, ho.keepsF RChg.flat hk2 (fun b hb e => by have := ho.lt hb; have e : b = s.gb := e; omega), ?_, far h.qd (by omega) (fun e => n3 e.symm), h.ql, h.ne, hlo, hhi, ?_, ?_, hZ.1, hZ.2, fun b e => ?_⟩
 ·have := (h.b.kept hk (fun e => by have := hL _ e; omega)).set_ 9 v
  exact this
 ·have h1 := h.f.keepsF RInt.flat hk (fun b hb e => by have := hL b e; have := h.fl b hb; omega)
  exact h1.keepsF RInt.flat hk2 (fun b hb e => by have e : b = s.gb := e; subst e; exact h.f.ne_blk h.b (by decide) hb)
 ·have h1 := h.e.keepsF RRef.flat hk (fun b hb e => by have := hL b e; have := h.el b hb; omega)
  exact h1.keepsF RRef.flat hk2 (fun b hb e => by have e : b = s.gb := e; subst e; exact h.e.ne_blk h.b (by decide) hb)
 ·refine ⟨far h.nr.blk hnb (fun e => n2 e.symm), h.nr.len, fun i u m hu hm => ?_, h.nr.ne, hnb⟩
  have h1 := h.nr.own i u m hu hm
  exact (h1.keepsF RInt.flat hk (fun b hb e => h.lg.ne_own h1 (by decide) e hb)).keepsF RInt.flat hk2 (fun b hb e => by have := h1.lt hb; have e : b = s.gb := e; omega)
 ·exact (h.q.keepsF RInt.flat hk (fun b hb e => h.lg.ne_own h.q (by decide) e hb)).keepsF RInt.flat hk2 (fun b hb e => by have := h.q.lt hb; have e : b = s.gb := e; omega)
 ·exact Nat.le_trans hbs hK.size
 ·exact h.k.trans hK (fun b hb e => by have e : w0.heap.size ≤ b := e; omega)
 ·rcases e with e | e | e | e | e | e | e
  ·exact h.zn b (.inl e)
  ·exact h.zn b (.inr (.inl e))
  ·exact h.zn b (.inr (.inr (.inl e)))
  ·exact h.zn b (.inr (.inr (.inr (.inl e))))
  ·have e : v.ownBlock = some b := e
   rcases ha with ha | ha | ha
   ·rw [ha] at e; cases e
   ·rw [ha] at e; exact h.zn b (.inr (.inr (.inr (.inr (.inl e)))))
   ·rw [ha] at e; injection e with e; exact h.znew (by omega)
  ·exact h.zn b (.inr (.inr (.inr (.inr (.inr (.inl e))))))
  ·exact h.zn b (.inr (.inr (.inr (.inr (.inr (.inr e))))))
/-- a label is stored -/
theorem Gm.setLab (h : Gm s w0 wr d) {i : Nat} {u : Ref} (hu : (evs s.ps)[i]? = some u) (l : Lab) : Gm s w0 (storeLab wr s.lb (i * 11) l) { d with T := updL d.T u l } := by
 obtain ⟨n1, n2, n3, n4, n5, n6⟩ := h.nes
 have hlo := h.lo
 have hhi := h.hi
 have hw0 := h.k.size
 have hk : Keeps (fun b => b = s.lb) wr (storeLab wr s.lb (i * 11) l) := storeLab_keeps (C := fun b => b = s.lb) (Keeps.refl _ _) (fun _ => rfl) l
 refine ⟨h.b.kept hk n1, hk.rd RPaths.ok h.P (fun b hb => ⟨Nat.lt_of_lt_of_le hb hw0, fun e => by have hb : b < w0.heap.size := hb; have e : b = s.lb := e; omega⟩) (fun _ h => h), hk.rd RInts.ok h.A (fun b hb => ⟨Nat.lt_of_lt_of_le hb hw0, fun e => by have hb : b < w0.heap.size := hb; have e : b = s.lb := e; omega⟩) (fun _ h => h), h.f.keepsF RInt.flat hk (fun b hb e => by have e : b = s.lb := e; subst e; exact h.f.ne_blk h.l (by decide) hb), h.fl, h.e.keepsF RRef.flat hk (fun b hb e => by have e : b = s.lb := e; subst e; exact h.e.ne_blk h.l (by decide) hb), h.el, ?_, h.nr.keeps RInt.flat hk (fun e => n4 e.symm) (fun b hb _ e => by have e : b = s.lb := e; omega), h.nl, h.lg.keepsF RChg.flat hk (fun b hb e => by have := h.lg.lt hb; have e : b = s.lb := e; omega), h.q.keepsF RInt.flat hk (fun b hb e => by have := h.q.lt hb; have e : b = s.lb := e; omega), h.qd.kept hk (fun e => n5 e.symm), h.ql, h.ne, hlo, hhi, Nat.le_trans h.bsz hk.size, h.k.trans hk (fun b hb e => by have e : b = s.lb := e; omega), (h.zk hk fun _ _ e => .inr (.inl e)).1, (h.zk hk fun _ _ e => .inr (.inl e)).2, h.zn⟩
 have := storeLab_blk (i := i * 11) h.l l
 rw [labsC_set (evs_nd s.ps) d.T hu l] at this
 exact this
/-- a mark of the queue -/
theorem Gm.setQd (h : Gm s w0 wr d) (i : Nat) (x : Bool) : Gm s w0 (wr.setCell ⟨s.qb, i, none⟩ (.bool x)) { d with qd := d.qd.set i x } := by
 obtain ⟨n1, n2, n3, n4, n5, n6⟩ := h.nes
 have hlo := h.lo
 have hhi := h.hi
 have hw0 := h.k.size
 have hk : Keeps (fun b => b = s.qb) wr (wr.setCell ⟨s.qb, i, none⟩ (.bool x)) := (Keeps.refl (fun b => b = s.qb) wr).setCell (p := ⟨s.qb, i, none⟩) (fun _ => rfl) _
 refine ⟨h.b.kept hk n3, hk.rd RPaths.ok h.P (fun b hb => ⟨Nat.lt_of_lt_of_le hb hw0, fun e => by have hb : b < w0.heap.size := hb; have e : b = s.qb := e; omega⟩) (fun _ h => h), hk.rd RInts.ok h.A (fun b hb => ⟨Nat.lt_of_lt_of_le hb hw0, fun e => by have hb : b < w0.heap.size := hb; have e : b = s.qb := e; omega⟩) (fun _ h => h), h.f.keepsF RInt.flat hk (fun b hb e => by have e : b = s.qb := e; subst e; exact h.f.ne_blk h.qd (by decide) hb), h.fl, h.e.keepsF RRef.flat hk (fun b hb e => by have e : b = s.qb := e; subst e; exact h.e.ne_blk h.qd (by decide) hb), h.el, h.l.kept hk n5, h.nr.keeps RInt.flat hk n6 (fun b hb _ e => by have e : b = s.qb := e; omega), h.nl, h.lg.keepsF RChg.flat hk (fun b hb e => by have := h.lg.lt hb; have e : b = s.qb := e; omega), h.q.keepsF RInt.flat hk (fun b hb e => by have := h.q.lt hb; have e : b = s.qb := e; omega), ?_, ?_, h.ne, hlo, hhi, Nat.le_trans h.bsz hk.size, h.k.trans hk (fun b hb e => by have e : b = s.qb := e; omega), (h.zk hk fun _ _ e => .inr (.inr (.inr (.inl e)))).1, (h.zk hk fun _ _ e => .inr (.inr (.inr (.inl e)))).2, h.zn⟩
 ·have := h.qd.set_ i (.bool x)
  rw [boolsC_set] at this
  exact this
 ·show (d.qd.set i x).length = s.n
  rw [List.length_set]; exact h.ql
/-- a longer or a shorter queue -/
theorem Gm.setQ (h : Gm s w0 wr d) {v : Value} {l : List Int} (ho : OwnL 3 1 RInt w' s.bs s.bs v l) (hk : Keeps (fun b => d.qv.ownBlock = some b) wr w') (ha : v.ownBlock = none ∨ v.ownBlock = d.qv.ownBlock ∨ v.ownBlock = some wr.heap.size) : Gm s w0 (w'.setCell ⟨s.gb, 10, none⟩ v) { d with qv := v, que := l } := by
 obtain ⟨n1, n2, n3, n4, n5, n6⟩ := h.nes
 have hlo := h.lo
 have hhi := h.hi
 have hnb := h.nr.nb
 have hbs := h.bsz
 have hw0 := h.k.size
 have hL : ∀ b, d.qv.ownBlock = some b → s.bs ≤ b := fun b hb => (h.q.lt hb).1
 have hk2 : Keeps (fun b => b = s.gb) w' (w'.setCell ⟨s.gb, 10, none⟩ v) := (Keeps.refl (fun b => b = s.gb) w').setCell (p := ⟨s.gb, 10, none⟩) (fun _ => rfl) v
 have far : ∀ {g t : Nat} {cs : Array Value}, Blk wr g t cs → g < s.bs → g ≠ s.gb → Blk (w'.setCell ⟨s.gb, 10, none⟩ v) g t cs := fun hb hg hne => (hb.kept hk (fun e => by have := hL _ e; omega)).kept hk2 hne
 have hK : Keeps (fun b => w0.heap.size ≤ b) wr (w'.setCell ⟨s.gb, 10, none⟩ v) := (hk.mono (fun b _ e => by have := hL b e; show w0.heap.size ≤ b; omega)).trans hk2 (fun b _ e => by have e : b = s.gb := e; show w0.heap.size ≤ b; omega)
 have hZ := h.zk (C := GOwn s d) (w' := w'.setCell ⟨s.gb, 10, none⟩ v) ((hk.mono (fun b _ e => .inr (.inr (.inr (.inr (.inr (.inl e))))))).trans hk2 (fun b _ e => .inl e)) (fun _ _ h => h)
 refine ⟨?_, hK.rd RPaths.ok h.P (fun b hb => ⟨Nat.lt_of_lt_of_le hb hw0, fun e => by have hb : b < w0.heap.size := hb; omega⟩) (fun _ h => h), hK.rd RInts.ok h.A (fun b hb => ⟨Nat.lt_of_lt_of_le hb hw0, fun e => by have hb : b < w0.heap.size := hb; omega⟩) (fun _ h => h), ?_, h.fl, ?_, h.el, far h.l (by omega) (fun e => n1 e.symm), ?_, h.nl, ?_, ho.keepsF RInt.flat hk2 (fun b hb e => by have := ho.lt hb; have e : b = s.gb := e; omega), far h.qd (by omega) (fun e => n3 e.symm), h.ql, fun i u b hu hb e => ?_, hlo, hhi, ?_, ?_, hZ.1, hZ.2, fun b e => ?_⟩
 ·have := (h.b.kept hk (fun e => by have := hL _ e; omega)).set_ 10 v
  exact this
 ·have h1 := h.f.keepsF RInt.flat hk (fun b hb e => by have := hL b e; have := h.fl b hb; omega)
  exact h1.keepsF RInt.flat hk2 (fun b hb e => by have e : b = s.gb := e; subst e; exact h.f.ne_blk h.b (by decide) hb)
 ·have h1 := h.e.keepsF RRef.flat hk (fun b hb e => by have := hL b e; have := h.el b hb; omega)
  exact h1.keepsF RRef.flat hk2 (fun b hb e => by have e : b = s.gb := e; subst e; exact h.e.ne_blk h.b (by decide) hb)
 ·refine ⟨far h.nr.blk hnb (fun e => n2 e.symm), h.nr.len, fun i u m hu hm => ?_, h.nr.ne, hnb⟩
  have h1 := h.nr.own i u m hu hm
  exact (h1.keepsF RInt.flat hk (fun b hb e => h.ne i u b hu hb e)).keepsF RInt.flat hk2 (fun b hb e => by have := h1.lt hb; have e : b = s.gb := e; omega)
 ·exact (h.lg.keepsF RChg.flat hk (fun b hb e => h.lg.ne_own h.q (by decide) hb e)).keepsF RChg.flat hk2 (fun b hb e => by have := h.lg.lt hb; have e : b = s.gb := e; omega)
 ·have e : v.ownBlock = some b := e
  rcases ha with ha | ha | ha
  ·rw [ha] at e; cases e
  ·rw [ha] at e; exact h.ne i u b hu hb e
  ·rw [ha] at e; injection e with e
   have hil : i < d.N.length := by rw [← h.nr.len]; exact getElem?_lt hu
   have := (h.nr.own i u _ hu (List.getElem?_eq_getElem hil)).lt hb
   omega
 ·exact Nat.le_trans hbs hK.size
 ·exact h.k.trans hK (fun b hb e => by have e : w0.heap.size ≤ b := e; omega)
 ·rcases e with e | e | e | e | e | e | e
  ·exact h.zn b (.inl e)
  ·exact h.zn b (.inr (.inl e))
  ·exact h.zn b (.inr (.inr (.inl e)))
  ·exact h.zn b (.inr (.inr (.inr (.inl e))))
  ·exact h.zn b (.inr (.inr (.inr (.inr (.inl e)))))
  ·have e : v.ownBlock = some b := e
   rcases ha with ha | ha | ha
   ·rw [ha] at e; cases e
   ·rw [ha] at e; exact h.zn b (.inr (.inr (.inr (.inr (.inr (.inl e))))))
   ·rw [ha] at e; injection e with e; exact h.znew (by omega)
  ·exact h.zn b (.inr (.inr (.inr (.inr (.inr (.inr e))))))
/-- a row of chosen arcs that has grown -/
theorem Gm.setRow (h : Gm s w0 wr d) {i : Nat} {v v' : Value} {l l' : List Int} (hv : d.vs[i]? = some v) (hl : d.N[i]? = some l) (ho : OwnL 3 1 RInt w' s.bs s.bs v' l') (hk : Keeps (fun b => v.ownBlock = some b) wr w') (ha : v'.ownBlock = v.ownBlock ∨ v'.ownBlock = some wr.heap.size) : Gm s w0 (w'.setCell ⟨s.nb, i, none⟩ v') { d with vs := d.vs.set i v', N := d.N.set i l' } := by
 obtain ⟨n1, n2, n3, n4, n5, n6⟩ := h.nes
 have hlo := h.lo
 have hhi := h.hi
 have hnb := h.nr.nb
 have hbs := h.bsz
 have hw0 := h.k.size
 have hrow := h.nr.own i v l hv hl
 have hL : ∀ b, v.ownBlock = some b → s.bs ≤ b := fun b hb => (hrow.lt hb).1
 have hk2 : Keeps (fun b => b = s.nb) w' (w'.setCell ⟨s.nb, i, none⟩ v') := (Keeps.refl (fun b => b = s.nb) w').setCell (p := ⟨s.nb, i, none⟩) (fun _ => rfl) v'
 have far : ∀ {g t : Nat} {cs : Array Value}, Blk wr g t cs → g < s.bs → g ≠ s.nb → Blk (w'.setCell ⟨s.nb, i, none⟩ v') g t cs := fun hb hg hne => (hb.kept hk (fun e => by have := hL _ e; omega)).kept hk2 hne
 have hK : Keeps (fun b => w0.heap.size ≤ b) wr (w'.setCell ⟨s.nb, i, none⟩ v') := (hk.mono (fun b _ e => by have := hL b e; show w0.heap.size ≤ b; omega)).trans hk2 (fun b _ e => by have e : b = s.nb := e; show w0.heap.size ≤ b; omega)
 have hZ := h.zk (C := GOwn s d) (w' := w'.setCell ⟨s.nb, i, none⟩ v') ((hk.mono (fun b _ e => .inr (.inr (.inr (.inr (.inr (.inr ⟨i, v, hv, e⟩))))))).trans hk2 (fun b _ e => .inr (.inr (.inl e)))) (fun _ _ h => h)
 refine ⟨far h.b hhi.1 n2, hK.rd RPaths.ok h.P (fun b hb => ⟨Nat.lt_of_lt_of_le hb hw0, fun e => by have hb : b < w0.heap.size := hb; omega⟩) (fun _ h => h), hK.rd RInts.ok h.A (fun b hb => ⟨Nat.lt_of_lt_of_le hb hw0, fun e => by have hb : b < w0.heap.size := hb; omega⟩) (fun _ h => h), ?_, h.fl, ?_, h.el, far h.l (by omega) n4, h.nr.push RInt.flat hv hl hbs ho hk ha, ?_, ?_, ?_, far h.qd (by omega) (fun e => n6 e.symm), h.ql, fun j u b hu hb e => ?_, hlo, hhi, ?_, ?_, hZ.1, hZ.2, fun b e => ?_⟩
 ·have h1 := h.f.keepsF RInt.flat hk (fun b hb e => by have := hL b e; have := h.fl b hb; omega)
  exact h1.keepsF RInt.flat hk2 (fun b hb e => by have e : b = s.nb := e; subst e; exact h.f.ne_blk h.nr.blk (by decide) hb)
 ·have h1 := h.e.keepsF RRef.flat hk (fun b hb e => by have := hL b e; have := h.el b hb; omega)
  exact h1.keepsF RRef.flat hk2 (fun b hb e => by have e : b = s.nb := e; subst e; exact h.e.ne_blk h.nr.blk (by decide) hb)
 ·show (d.N.set i l').length = s.n
  rw [List.length_set]; exact h.nl
 ·exact (h.lg.keepsF RChg.flat hk (fun b hb e => h.lg.ne_own hrow (by decide) hb e)).keepsF RChg.flat hk2 (fun b hb e => by have := h.lg.lt hb; have e : b = s.nb := e; omega)
 ·exact (h.q.keepsF RInt.flat hk (fun b hb e => h.ne i v b hv e hb)).keepsF RInt.flat hk2 (fun b hb e => by have := h.q.lt hb; have e : b = s.nb := e; omega)
 ·have hu : (d.vs.set i v')[j]? = some u := hu
  by_cases q : i = j
  ·subst q
   rw [List.getElem?_set_self (getElem?_lt hv)] at hu
   injection hu with hu
   subst hu
   rcases ha with ha | ha
   ·rw [ha] at hb; exact h.ne i v b hv hb e
   ·rw [ha] at hb; injection hb with hb
    have := (h.q.lt e).2
    omega
  ·rw [List.getElem?_set_ne q] at hu
   exact h.ne j u b hu hb e
 ·exact Nat.le_trans hbs hK.size
 ·exact h.k.trans hK (fun b hb e => by have e : w0.heap.size ≤ b := e; omega)
 ·rcases e with e | e | e | e | e | e | e
  ·exact h.zn b (.inl e)
  ·exact h.zn b (.inr (.inl e))
  ·exact h.zn b (.inr (.inr (.inl e)))
  ·exact h.zn b (.inr (.inr (.inr (.inl e))))
  ·exact h.zn b (.inr (.inr (.inr (.inr (.inl e)))))
  ·exact h.zn b (.inr (.inr (.inr (.inr (.inr (.inl e))))))
  ·obtain ⟨j, u, hu, e⟩ := e
   have hu : (d.vs.set i v')[j]? = some u := hu
   by_cases q : i = j
   ·subst q
    rw [List.getElem?_set_self (getElem?_lt hv)] at hu
    injection hu with hu
    subst hu
    rcases ha with ha | ha
    ·rw [ha] at e; exact h.zn b (.inr (.inr (.inr (.inr (.inr (.inr ⟨i, v, hv, e⟩))))))
    ·rw [ha] at e; injection e with e; exact h.znew (by omega)
   ·rw [List.getElem?_set_ne q] at hu
    exact h.zn b (.inr (.inr (.inr (.inr (.inr (.inr ⟨j, u, hu, e⟩))))))
theorem OwnL.nilC {α : Type} {t size : Nat} {E : Rd α} {w : World} {base lo n c : Nat} {l : List α} (h : OwnL t size E w base lo (.slice none n c) l) : n = 0 ∧ c = 0 ∧ l = [] := by
 obtain ⟨ess, h1, h2, h3⟩ := h
 rcases h2.2 with ⟨e, hn⟩ | ⟨g, cap, cur, e, _⟩
 ·injection e with _ e1 e2
  exact ⟨e1, e2, List.eq_nil_of_length_eq_zero hn⟩
 ·injection e with e; cases e
theorem Gm.row (h : Gm s w0 wr d) {i : Nat} (hi : i < s.n) : ∃ A c l, d.vs[i]? = some (.slice A l.length c) ∧ d.N[i]? = some l ∧ OwnL 3 1 RInt wr s.bs s.bs (.slice A l.length c) l ∧ wr.cell? ⟨s.nb, i, none⟩ = some (.slice A l.length c) ∧ wr.frozen? ⟨s.nb, i, none⟩ = false ∧ l.length ≤ c ∧ c ≤ 9223372036854775807 := by
 obtain ⟨v, l, hv, hl, ho, hc, hf⟩ := h.nr.get (i := i) (by rw [h.nl]; exact hi)
 obtain ⟨A, c, rfl, h1, h2⟩ := ho.form
 exact ⟨A, c, l, hv, hl, ho, hc, hf, h1, h2⟩
theorem Gm.c8 (h : Gm s w0 wr d) : wr.cell? ⟨s.gb, 8, none⟩ = some (.slice (some ⟨s.nb, 0, none⟩) s.n s.n) := by have := h.b.cell 8; simpa using this
theorem Gm.c9 (h : Gm s w0 wr d) : wr.cell? ⟨s.gb, 9, none⟩ = some d.lgv := by have := h.b.cell 9; simpa using this
theorem Gm.c10 (h : Gm s w0 wr d) : wr.cell? ⟨s.gb, 10, none⟩ = some d.qv := by have := h.b.cell 10; simpa using this
theorem Gm.c11 (h : Gm s w0 wr d) : wr.cell? ⟨s.gb, 11, none⟩ = some (.slice (some ⟨s.qb, 0, none⟩) s.n s.n) := by have := h.b.cell 11; simpa using this
theorem Gm.c5 (h : Gm s w0 wr d) : wr.cell? ⟨s.gb, 5, none⟩ = some s.fv := by have := h.b.cell 5; simpa using this
theorem Gm.c0 (h : Gm s w0 wr d) : wr.cell? ⟨s.gb, 0, none⟩ = some s.vp := by have := h.b.cell 0; simpa using this
end

end Go.Proofs.Ytilbbpbjhoidhaa
