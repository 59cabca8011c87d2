/- Contracts of happened and leads of the graph of chapter 37. Conditions: as each theorem says. The graph of chapter 37 in memory: what one store of its code does. Conditions: as each theorem says. Labels compared: equal exactly if they are the same. Conditions: as each theorem says. -/
import Derived.Test.YtilbbpbjhoidhaaE15
import Derived.Test.YtilbbpbjhoidhaaE10
import Derived.Test.YtilbbpbjhoidhaaE14
import Derived.DeepKeys3
import Derived.Laws.StructEq
namespace Go.Proofs.Ytilbbpbjhoidhaa
open Go.RowKit

set_option maxRecDepth 100000 in
set_option maxHeartbeats 1000000 in
theorem dhappened_any (s : GS) (w0 w : World) (d : GD) (h : Gm s w0 w d) (i t k : Nat) (p : List Stage) (hp : s.ps[t]? = some p) (hk : k ≤ p.length) (hi : i = fst s.ps t + k) (hal : s.at_.length = s.ps.length) :
  Calls Try.prog 67 #[.pointer (some ⟨s.gb, 0, none⟩), .int .i64 (i : Int)] w fun e w' => e = .returned (.bool (doneR s.at_ ⟨(t : Int), (k : Int)⟩)) ∧ ∃ n, w' = w.drewN n := by
 have hev : (evs s.ps)[i]? = some ⟨(t : Int), (k : Int)⟩ := by rw [hi]; exact evs_at hp hk
 have hil := getElem?_lt hev
 obtain ⟨eb, ce, he, e0, e1⟩ := h.evc hev
 simp only at e0 e1
 have c6 := h.c6
 rw [he] at c6
 have c1 := h.b.cell 1
 simp at c1
 obtain ⟨Aa, ca, hva, hca1, hca2⟩ := h.A.val
 have htl := getElem?_lt hp
 obtain ⟨ba, oa, xa, hAa, hba, hxa, a0⟩ := (hva ▸ h.A).at_ (k := t) (by omega)
 subst hAa
 rw [hva] at c1
 have hgz := h.b.lt
 have hez : eb < w.heap.size := World.block_lt_of_cell? w ⟨eb, i * 2, none⟩ e0
 have haz : ba < w.heap.size := World.block_lt_of_cell? w ⟨ba, oa + t, none⟩ a0
 have Q : Hid (doneR s.at_ ⟨(t : Int), (k : Int)⟩ = decide ((k : Int) ≤ xa)) := by
  show _ = _
  unfold doneR
  simp only [Int.toNat_natCast, nowAt_of hxa]
 have hin : i < s.n := hil
 have htn : t < s.at_.length := by omega
 clear h hp hk hi hal hev hil he hxa hva htl
 generalize s.n = n at *
 go_enter Try.func67, Try.ntmps67
 go_wp2
 go_quiet (fail)
 go_wp2
 go_ret
 exact ⟨by rw [Q.out]; rfl, _, rfl⟩

def Gr (w w' : World) : Prop := KeepsAll w w' ∧ w.drawn ≤ w'.drawn
theorem Gr.refl (w : World) : Gr w w := ⟨Keeps.refl _ _, Nat.le_refl _⟩
theorem Gr.alloc {w w' : World} (h : Gr w w') (o : Obj) : Gr w (w'.alloc o) := ⟨h.1.alloc o, h.2⟩
theorem Gr.drew {w w' : World} (h : Gr w w') : Gr w w'.drew := ⟨h.1.drew, Nat.le_succ_of_le h.2⟩
theorem Gr.drewN {w w' : World} (h : Gr w w') (n : Nat) : Gr w (w'.drewN n) := ⟨h.1.drewN n, Nat.le_trans h.2 (Nat.le_add_right _ _)⟩
theorem Gr.trans {a b c : World} (h : Gr a b) (k : Gr b c) : Gr a c := ⟨h.1.tr k.1, Nat.le_trans h.2 k.2⟩

set_option maxRecDepth 100000 in
set_option maxHeartbeats 1000000 in
theorem dleadsG (s : GS) (w0 w : World) (d : GD) (h : Gm s w0 w d) (i j t k : Nat) (v : Ref) (hi : (evs s.ps)[i]? = some ⟨(t : Int), (k : Int)⟩) (hj : (evs s.ps)[j]? = some v) (ht : t < 10) (hb : -1 ≤ (d.T v).bf t ∧ (d.T v).bf t ≤ 64) :
  Calls Try.prog 90 #[.pointer (some ⟨s.gb, 0, none⟩), .int .i64 (i : Int), .int .i64 (j : Int)] w fun e w' => e = .returned (.bool (leadsL d.T ⟨(t : Int), (k : Int)⟩ v)) ∧ Gr w w' := by
 have hil := getElem?_lt hi
 have hjl := getElem?_lt hj
 obtain ⟨eb, ce, he, e0, e1⟩ := h.evc hi
 simp only at e0 e1
 have c6 := h.c6
 have c7 := h.c7
 rw [he] at c6
 have l0 := h.lab hj (1 + t) _ (labC_at _ ht)
 rw [← Nat.add_assoc] at l0
 have hgz := h.b.lt
 have hlz := h.l.lt
 have hez : eb < w.heap.size := World.block_lt_of_cell? w ⟨eb, i * 2, none⟩ e0
 have Q : Hid (leadsL d.T ⟨(t : Int), (k : Int)⟩ v = decide ((k : Int) ≤ (d.T v).bf t)) := by show _ = _; unfold leadsL; simp
 generalize (d.T v).bf t = x at *
 have hs1 : IntKind.i64.wrap x = x := IntWalk.i64_in _ (by omega)
 have hin : i < s.n := hil
 have hjn : j < s.n := hjl
 clear h hi hj hil hjl he
 generalize s.n = n at *
 go_enter Try.func90, Try.ntmps90
 go_wp2
 generalize hW : World.alloc w _ = W
 have KG : Hid (Gr w W) := by subst hW; exact (Gr.refl _).alloc _
 have KW : KeepsAll w W := KG.out.1
 have BU : Hid (Blk W w.heap.size 46 #[.int .i64 (t : Int), .int .i64 (k : Int)]) := by subst hW; exact Blk.new _ _ _
 have u0 := BU.out.cell 0
 have u1 := BU.out.cell 1
 simp at u0 u1
 have hzu := BU.out.lt
 replace c7 := KW.cellK (p := ⟨s.gb, 7, none⟩) hgz c7
 replace l0 := KW.cellK (p := ⟨s.lb, j * 11 + 1 + t, none⟩) hlz l0
 have hgz' : s.gb < W.heap.size := Nat.lt_of_lt_of_le hgz KW.size
 have hlz' : s.lb < W.heap.size := Nat.lt_of_lt_of_le hlz KW.size
 clear hW KW c6 e0 e1 hez hgz hlz
 go_quiet (fail)
 go_wp2
 go_ret
 exact ⟨by rw [Q.out]; rfl, KG.out.drewN _⟩

theorem dleads_any (s : GS) (w0 w : World) (d : GD) (h : Gm s w0 w d) (i j t k : Nat) (v : Ref) (hi : (evs s.ps)[i]? = some ⟨(t : Int), (k : Int)⟩) (hj : (evs s.ps)[j]? = some v) (ht : t < 10) (hb : -1 ≤ (d.T v).bf t ∧ (d.T v).bf t ≤ 64) :
  Calls Try.prog 90 #[.pointer (some ⟨s.gb, 0, none⟩), .int .i64 (i : Int), .int .i64 (j : Int)] w fun e w' => e = .returned (.bool (leadsL d.T ⟨(t : Int), (k : Int)⟩ v)) ∧ KeepsAll w w' :=
 (dleadsG s w0 w d h i j t k v hi hj ht hb).mono (by rintro e w' ⟨h1, h2⟩; exact ⟨h1, h2.1⟩)

theorem OwnL.ne_own {α β : Type} {t t' size size' : Nat} {E : Rd α} {E' : Rd β} {w : World} {base lo base' lo' : Nat} {v v' : Value} {l : List α} {l' : List β} (h : OwnL t size E w base lo v l) (h' : OwnL t' size' E' w base' lo' v' l') (hne : t ≠ t') {b : Nat} (hb : v.ownBlock = some b) : v'.ownBlock ≠ some b := by
 obtain ⟨ess, _, h2, _⟩ := h
 rcases h2.2 with ⟨rfl, _⟩ | ⟨g, cap, cur, rfl, _, hh, _⟩
 ·simp [Value.ownBlock] at hb
 ·have e : g = b := by simpa [Value.ownBlock] using hb
  subst e
  exact h'.ne_blk (t' := t) (cs := cur) hh (fun e => hne e.symm)
section
variable {s : GS} {w0 wr w' : World} {d : GD}
theorem Gm.nes (h : Gm s w0 wr d) : s.gb ≠ s.lb ∧ s.gb ≠ s.nb ∧ s.gb ≠ s.qb ∧ s.lb ≠ s.nb ∧ s.lb ≠ s.qb ∧ s.nb ≠ s.qb :=
 ⟨Blk.ne_ h.b h.l (by decide), Blk.ne_ h.b h.nr.blk (by decide), Blk.ne_ h.b h.qd (by decide), Blk.ne_ h.l h.nr.blk (by decide), Blk.ne_ h.l h.qd (by decide), Blk.ne_ h.nr.blk h.qd (by decide)⟩
theorem Gm.log (h : Gm s w0 wr d) {v : Value} {l : List Chg} (ho : OwnL 154 13 RChg w' s.bs s.bs v l) (hk : Keeps (fun b => d.lgv.ownBlock = some b) wr w') (ha : v.ownBlock = none ∨ v.ownBlock = d.lgv.ownBlock ∨ v.ownBlock = some wr.heap.size) : Gm s w0 (w'.setCell ⟨s.gb, 9, none⟩ v) { d with lgv := v, lg := l } := by
 obtain ⟨n1, n2, n3, n4, n5, n6⟩ := h.nes
 have hlo := h.lo
 have hhi := h.hi
 have hnb := h.nr.nb
 have hbs := h.bsz
 have hw0 := h.k.size
 have hL : ∀ b, d.lgv.ownBlock = some b → s.bs ≤ b := fun b hb => (h.lg.lt hb).1
 have hk2 : Keeps (fun b => b = s.gb) w' (w'.setCell ⟨s.gb, 9, none⟩ v) := (Keeps.refl (fun b => b = s.gb) w').setCell (p := ⟨s.gb, 9, none⟩) (fun _ => rfl) v
 have far : ∀ {g t : Nat} {cs : Array Value}, Blk wr g t cs → g < s.bs → g ≠ s.gb → Blk (w'.setCell ⟨s.gb, 9, none⟩ v) g t cs := fun hb hg hne => (hb.kept hk (fun e => by have := hL _ e; omega)).kept hk2 hne
 have hK : Keeps (fun b => w0.heap.size ≤ b) wr (w'.setCell ⟨s.gb, 9, none⟩ v) := (hk.mono (fun b _ e => by have := hL b e; show w0.heap.size ≤ b; omega)).trans hk2 (fun b _ e => by have e : b = s.gb := e; show w0.heap.size ≤ b; omega)
 have hZ := h.zk (C := GOwn s d) (w' := w'.setCell ⟨s.gb, 9, none⟩ v) ((hk.mono (fun b _ e => .inr (.inr (.inr (.inr (.inl e)))))).trans hk2 (fun b _ e => .inl e)) (fun _ _ h => h)
 refine ⟨?_, hK.rd RPaths.ok h.P (fun b hb => ⟨Nat.lt_of_lt_of_le hb hw0, fun e => by have hb : b < w0.heap.size := hb; omega⟩) (fun _ h => h), hK.rd RInts.ok h.A (fun b hb => ⟨Nat.lt_of_lt_of_le hb hw0, fun e => by have hb : b < w0.heap.size := hb; omega⟩) (fun _ h => h), ?_, h.fl, ?_, h.el, far h.l (by omega) (fun e => n1 e.symm), ?_, h.nl, ho.keepsF RChg.flat hk2 (fun b hb e => by have := ho.lt hb; have e : b = s.gb := e; omega), ?_, far h.qd (by omega) (fun e => n3 e.symm), h.ql, h.ne, hlo, hhi, ?_, ?_, hZ.1, hZ.2, fun b e => ?_⟩
 ·have := (h.b.kept hk (fun e => by have := hL _ e; omega)).set_ 9 v
  exact this
 ·have h1 := h.f.keepsF RInt.flat hk (fun b hb e => by have := hL b e; have := h.fl b hb; omega)
  exact h1.keepsF RInt.flat hk2 (fun b hb e => by have e : b = s.gb := e; subst e; exact h.f.ne_blk h.b (by decide) hb)
 ·have h1 := h.e.keepsF RRef.flat hk (fun b hb e => by have := hL b e; have := h.el b hb; omega)
  exact h1.keepsF RRef.flat hk2 (fun b hb e => by have e : b = s.gb := e; subst e; exact h.e.ne_blk h.b (by decide) hb)
 ·refine ⟨far h.nr.blk hnb (fun e => n2 e.symm), h.nr.len, fun i u m hu hm => ?_, h.nr.ne, hnb⟩
  have h1 := h.nr.own i u m hu hm
  exact (h1.keepsF RInt.flat hk (fun b hb e => h.lg.ne_own h1 (by decide) e hb)).keepsF RInt.flat hk2 (fun b hb e => by have := h1.lt hb; have e : b = s.gb := e; omega)
 ·exact (h.q.keepsF RInt.flat hk (fun b hb e => h.lg.ne_own h.q (by decide) e hb)).keepsF RInt.flat hk2 (fun b hb e => by have := h.q.lt hb; have e : b = s.gb := e; omega)
 ·exact Nat.le_trans hbs hK.size
 ·exact h.k.trans hK (fun b hb e => by have e : w0.heap.size ≤ b := e; omega)
 ·rcases e with e | e | e | e | e | e | e
  ·exact h.zn b (.inl e)
  ·exact h.zn b (.inr (.inl e))
  ·exact h.zn b (.inr (.inr (.inl e)))
  ·exact h.zn b (.inr (.inr (.inr (.inl e))))
  ·have e : v.ownBlock = some b := e
   rcases ha with ha | ha | ha
   ·rw [ha] at e; cases e
   ·rw [ha] at e; exact h.zn b (.inr (.inr (.inr (.inr (.inl e)))))
   ·rw [ha] at e; injection e with e; exact h.znew (by omega)
  ·exact h.zn b (.inr (.inr (.inr (.inr (.inr (.inl e))))))
  ·exact h.zn b (.inr (.inr (.inr (.inr (.inr (.inr e))))))
theorem Gm.setLab (h : Gm s w0 wr d) {i : Nat} {u : Ref} (hu : (evs s.ps)[i]? = some u) (l : Lab) : Gm s w0 (storeLab wr s.lb (i * 11) l) { d with T := updL d.T u l } := by
 obtain ⟨n1, n2, n3, n4, n5, n6⟩ := h.nes
 have hlo := h.lo
 have hhi := h.hi
 have hw0 := h.k.size
 have hk : Keeps (fun b => b = s.lb) wr (storeLab wr s.lb (i * 11) l) := storeLab_keeps (C := fun b => b = s.lb) (Keeps.refl _ _) (fun _ => rfl) l
 refine ⟨h.b.kept hk n1, hk.rd RPaths.ok h.P (fun b hb => ⟨Nat.lt_of_lt_of_le hb hw0, fun e => by have hb : b < w0.heap.size := hb; have e : b = s.lb := e; omega⟩) (fun _ h => h), hk.rd RInts.ok h.A (fun b hb => ⟨Nat.lt_of_lt_of_le hb hw0, fun e => by have hb : b < w0.heap.size := hb; have e : b = s.lb := e; omega⟩) (fun _ h => h), h.f.keepsF RInt.flat hk (fun b hb e => by have e : b = s.lb := e; subst e; exact h.f.ne_blk h.l (by decide) hb), h.fl, h.e.keepsF RRef.flat hk (fun b hb e => by have e : b = s.lb := e; subst e; exact h.e.ne_blk h.l (by decide) hb), h.el, ?_, h.nr.keeps RInt.flat hk (fun e => n4 e.symm) (fun b hb _ e => by have e : b = s.lb := e; omega), h.nl, h.lg.keepsF RChg.flat hk (fun b hb e => by have := h.lg.lt hb; have e : b = s.lb := e; omega), h.q.keepsF RInt.flat hk (fun b hb e => by have := h.q.lt hb; have e : b = s.lb := e; omega), h.qd.kept hk (fun e => n5 e.symm), h.ql, h.ne, hlo, hhi, Nat.le_trans h.bsz hk.size, h.k.trans hk (fun b hb e => by have e : b = s.lb := e; omega), (h.zk hk fun _ _ e => .inr (.inl e)).1, (h.zk hk fun _ _ e => .inr (.inl e)).2, h.zn⟩
 have := storeLab_blk (i := i * 11) h.l l
 rw [labsC_set (evs_nd s.ps) d.T hu l] at this
 exact this
theorem Gm.setQd (h : Gm s w0 wr d) (i : Nat) (x : Bool) : Gm s w0 (wr.setCell ⟨s.qb, i, none⟩ (.bool x)) { d with qd := d.qd.set i x } := by
 obtain ⟨n1, n2, n3, n4, n5, n6⟩ := h.nes
 have hlo := h.lo
 have hhi := h.hi
 have hw0 := h.k.size
 have hk : Keeps (fun b => b = s.qb) wr (wr.setCell ⟨s.qb, i, none⟩ (.bool x)) := (Keeps.refl (fun b => b = s.qb) wr).setCell (p := ⟨s.qb, i, none⟩) (fun _ => rfl) _
 refine ⟨h.b.kept hk n3, hk.rd RPaths.ok h.P (fun b hb => ⟨Nat.lt_of_lt_of_le hb hw0, fun e => by have hb : b < w0.heap.size := hb; have e : b = s.qb := e; omega⟩) (fun _ h => h), hk.rd RInts.ok h.A (fun b hb => ⟨Nat.lt_of_lt_of_le hb hw0, fun e => by have hb : b < w0.heap.size := hb; have e : b = s.qb := e; omega⟩) (fun _ h => h), h.f.keepsF RInt.flat hk (fun b hb e => by have e : b = s.qb := e; subst e; exact h.f.ne_blk h.qd (by decide) hb), h.fl, h.e.keepsF RRef.flat hk (fun b hb e => by have e : b = s.qb := e; subst e; exact h.e.ne_blk h.qd (by decide) hb), h.el, h.l.kept hk n5, h.nr.keeps RInt.flat hk n6 (fun b hb _ e => by have e : b = s.qb := e; omega), h.nl, h.lg.keepsF RChg.flat hk (fun b hb e => by have := h.lg.lt hb; have e : b = s.qb := e; omega), h.q.keepsF RInt.flat hk (fun b hb e => by have := h.q.lt hb; have e : b = s.qb := e; omega), ?_, ?_, h.ne, hlo, hhi, Nat.le_trans h.bsz hk.size, h.k.trans hk (fun b hb e => by have e : b = s.qb := e; omega), (h.zk hk fun _ _ e => .inr (.inr (.inr (.inl e)))).1, (h.zk hk fun _ _ e => .inr (.inr (.inr (.inl e)))).2, h.zn⟩
 ·have := h.qd.set_ i (.bool x)
  rw [boolsC_set] at this
  exact this
 ·show (d.qd.set i x).length = s.n
  rw [List.length_set]; exact h.ql
theorem Gm.setQ (h : Gm s w0 wr d) {v : Value} {l : List Int} (ho : OwnL 3 1 RInt w' s.bs s.bs v l) (hk : Keeps (fun b => d.qv.ownBlock = some b) wr w') (ha : v.ownBlock = none ∨ v.ownBlock = d.qv.ownBlock ∨ v.ownBlock = some wr.heap.size) : Gm s w0 (w'.setCell ⟨s.gb, 10, none⟩ v) { d with qv := v, que := l } := by
 obtain ⟨n1, n2, n3, n4, n5, n6⟩ := h.nes
 have hlo := h.lo
 have hhi := h.hi
 have hnb := h.nr.nb
 have hbs := h.bsz
 have hw0 := h.k.size
 have hL : ∀ b, d.qv.ownBlock = some b → s.bs ≤ b := fun b hb => (h.q.lt hb).1
 have hk2 : Keeps (fun b => b = s.gb) w' (w'.setCell ⟨s.gb, 10, none⟩ v) := (Keeps.refl (fun b => b = s.gb) w').setCell (p := ⟨s.gb, 10, none⟩) (fun _ => rfl) v
 have far : ∀ {g t : Nat} {cs : Array Value}, Blk wr g t cs → g < s.bs → g ≠ s.gb → Blk (w'.setCell ⟨s.gb, 10, none⟩ v) g t cs := fun hb hg hne => (hb.kept hk (fun e => by have := hL _ e; omega)).kept hk2 hne
 have hK : Keeps (fun b => w0.heap.size ≤ b) wr (w'.setCell ⟨s.gb, 10, none⟩ v) := (hk.mono (fun b _ e => by have := hL b e; show w0.heap.size ≤ b; omega)).trans hk2 (fun b _ e => by have e : b = s.gb := e; show w0.heap.size ≤ b; omega)
 have hZ := h.zk (C := GOwn s d) (w' := w'.setCell ⟨s.gb, 10, none⟩ v) ((hk.mono (fun b _ e => .inr (.inr (.inr (.inr (.inr (.inl e))))))).trans hk2 (fun b _ e => .inl e)) (fun _ _ h => h)
 refine ⟨?_, hK.rd RPaths.ok h.P (fun b hb => ⟨Nat.lt_of_lt_of_le hb hw0, fun e => by have hb : b < w0.heap.size := hb; omega⟩) (fun _ h => h), hK.rd RInts.ok h.A (fun b hb => ⟨Nat.lt_of_lt_of_le hb hw0, fun e => by have hb : b < w0.heap.size := hb; omega⟩) (fun _ h => h), ?_, h.fl, ?_, h.el, far h.l (by omega) (fun e => n1 e.symm), ?_, h.nl, ?_, ho.keepsF RInt.flat hk2 (fun b hb e => by have := ho.lt hb; have e : b = s.gb := e; omega), far h.qd (by omega) (fun e => n3 e.symm), h.ql, fun i u b hu hb e => ?_, hlo, hhi, ?_, ?_, hZ.1, hZ.2, fun b e => ?_⟩
 ·have := (h.b.kept hk (fun e => by have := hL _ e; omega)).set_ 10 v
  exact this
 ·have h1 := h.f.keepsF RInt.flat hk (fun b hb e => by have := hL b e; have := h.fl b hb; omega)
  exact h1.keepsF RInt.flat hk2 (fun b hb e => by have e : b = s.gb := e; subst e; exact h.f.ne_blk h.b (by decide) hb)
 ·have h1 := h.e.keepsF RRef.flat hk (fun b hb e => by have := hL b e; have := h.el b hb; omega)
  exact h1.keepsF RRef.flat hk2 (fun b hb e => by have e : b = s.gb := e; subst e; exact h.e.ne_blk h.b (by decide) hb)
 ·refine ⟨far h.nr.blk hnb (fun e => n2 e.symm), h.nr.len, fun i u m hu hm => ?_, h.nr.ne, hnb⟩
  have h1 := h.nr.own i u m hu hm
  exact (h1.keepsF RInt.flat hk (fun b hb e => h.ne i u b hu hb e)).keepsF RInt.flat hk2 (fun b hb e => by have := h1.lt hb; have e : b = s.gb := e; omega)
 ·exact (h.lg.keepsF RChg.flat hk (fun b hb e => h.lg.ne_own h.q (by decide) hb e)).keepsF RChg.flat hk2 (fun b hb e => by have := h.lg.lt hb; have e : b = s.gb := e; omega)
 ·have e : v.ownBlock = some b := e
  rcases ha with ha | ha | ha
  ·rw [ha] at e; cases e
  ·rw [ha] at e; exact h.ne i u b hu hb e
  ·rw [ha] at e; injection e with e
   have hil : i < d.N.length := by rw [← h.nr.len]; exact getElem?_lt hu
   have := (h.nr.own i u _ hu (List.getElem?_eq_getElem hil)).lt hb
   omega
 ·exact Nat.le_trans hbs hK.size
 ·exact h.k.trans hK (fun b hb e => by have e : w0.heap.size ≤ b := e; omega)
 ·rcases e with e | e | e | e | e | e | e
  ·exact h.zn b (.inl e)
  ·exact h.zn b (.inr (.inl e))
  ·exact h.zn b (.inr (.inr (.inl e)))
  ·exact h.zn b (.inr (.inr (.inr (.inl e))))
  ·exact h.zn b (.inr (.inr (.inr (.inr (.inl e)))))
  ·have e : v.ownBlock = some b := e
   rcases ha with ha | ha | ha
   ·rw [ha] at e; cases e
   ·rw [ha] at e; exact h.zn b (.inr (.inr (.inr (.inr (.inr (.inl e))))))
   ·rw [ha] at e; injection e with e; exact h.znew (by omega)
  ·exact h.zn b (.inr (.inr (.inr (.inr (.inr (.inr e))))))
theorem Gm.setRow (h : Gm s w0 wr d) {i : Nat} {v v' : Value} {l l' : List Int} (hv : d.vs[i]? = some v) (hl : d.N[i]? = some l) (ho : OwnL 3 1 RInt w' s.bs s.bs v' l') (hk : Keeps (fun b => v.ownBlock = some b) wr w') (ha : v'.ownBlock = v.ownBlock ∨ v'.ownBlock = some wr.heap.size) : Gm s w0 (w'.setCell ⟨s.nb, i, none⟩ v') { d with vs := d.vs.set i v', N := d.N.set i l' } := by
 obtain ⟨n1, n2, n3, n4, n5, n6⟩ := h.nes
 have hlo := h.lo
 have hhi := h.hi
 have hnb := h.nr.nb
 have hbs := h.bsz
 have hw0 := h.k.size
 have hrow := h.nr.own i v l hv hl
 have hL : ∀ b, v.ownBlock = some b → s.bs ≤ b := fun b hb => (hrow.lt hb).1
 have hk2 : Keeps (fun b => b = s.nb) w' (w'.setCell ⟨s.nb, i, none⟩ v') := (Keeps.refl (fun b => b = s.nb) w').setCell (p := ⟨s.nb, i, none⟩) (fun _ => rfl) v'
 have far : ∀ {g t : Nat} {cs : Array Value}, Blk wr g t cs → g < s.bs → g ≠ s.nb → Blk (w'.setCell ⟨s.nb, i, none⟩ v') g t cs := fun hb hg hne => (hb.kept hk (fun e => by have := hL _ e; omega)).kept hk2 hne
 have hK : Keeps (fun b => w0.heap.size ≤ b) wr (w'.setCell ⟨s.nb, i, none⟩ v') := (hk.mono (fun b _ e => by have := hL b e; show w0.heap.size ≤ b; omega)).trans hk2 (fun b _ e => by have e : b = s.nb := e; show w0.heap.size ≤ b; omega)
 have hZ := h.zk (C := GOwn s d) (w' := w'.setCell ⟨s.nb, i, none⟩ v') ((hk.mono (fun b _ e => .inr (.inr (.inr (.inr (.inr (.inr ⟨i, v, hv, e⟩))))))).trans hk2 (fun b _ e => .inr (.inr (.inl e)))) (fun _ _ h => h)
 refine ⟨far h.b hhi.1 n2, hK.rd RPaths.ok h.P (fun b hb => ⟨Nat.lt_of_lt_of_le hb hw0, fun e => by have hb : b < w0.heap.size := hb; omega⟩) (fun _ h => h), hK.rd RInts.ok h.A (fun b hb => ⟨Nat.lt_of_lt_of_le hb hw0, fun e => by have hb : b < w0.heap.size := hb; omega⟩) (fun _ h => h), ?_, h.fl, ?_, h.el, far h.l (by omega) n4, h.nr.push RInt.flat hv hl hbs ho hk ha, ?_, ?_, ?_, far h.qd (by omega) (fun e => n6 e.symm), h.ql, fun j u b hu hb e => ?_, hlo, hhi, ?_, ?_, hZ.1, hZ.2, fun b e => ?_⟩
 ·have h1 := h.f.keepsF RInt.flat hk (fun b hb e => by have := hL b e; have := h.fl b hb; omega)
  exact h1.keepsF RInt.flat hk2 (fun b hb e => by have e : b = s.nb := e; subst e; exact h.f.ne_blk h.nr.blk (by decide) hb)
 ·have h1 := h.e.keepsF RRef.flat hk (fun b hb e => by have := hL b e; have := h.el b hb; omega)
  exact h1.keepsF RRef.flat hk2 (fun b hb e => by have e : b = s.nb := e; subst e; exact h.e.ne_blk h.nr.blk (by decide) hb)
 ·show (d.N.set i l').length = s.n
  rw [List.length_set]; exact h.nl
 ·exact (h.lg.keepsF RChg.flat hk (fun b hb e => h.lg.ne_own hrow (by decide) hb e)).keepsF RChg.flat hk2 (fun b hb e => by have := h.lg.lt hb; have e : b = s.nb := e; omega)
 ·exact (h.q.keepsF RInt.flat hk (fun b hb e => h.ne i v b hv e hb)).keepsF RInt.flat hk2 (fun b hb e => by have := h.q.lt hb; have e : b = s.nb := e; omega)
 ·have hu : (d.vs.set i v')[j]? = some u := hu
  by_cases q : i = j
  ·subst q
   rw [List.getElem?_set_self (getElem?_lt hv)] at hu
   injection hu with hu
   subst hu
   rcases ha with ha | ha
   ·rw [ha] at hb; exact h.ne i v b hv hb e
   ·rw [ha] at hb; injection hb with hb
    have := (h.q.lt e).2
    omega
  ·rw [List.getElem?_set_ne q] at hu
   exact h.ne j u b hu hb e
 ·exact Nat.le_trans hbs hK.size
 ·exact h.k.trans hK (fun b hb e => by have e : w0.heap.size ≤ b := e; omega)
 ·rcases e with e | e | e | e | e | e | e
  ·exact h.zn b (.inl e)
  ·exact h.zn b (.inr (.inl e))
  ·exact h.zn b (.inr (.inr (.inl e)))
  ·exact h.zn b (.inr (.inr (.inr (.inl e))))
  ·exact h.zn b (.inr (.inr (.inr (.inr (.inl e)))))
  ·exact h.zn b (.inr (.inr (.inr (.inr (.inr (.inl e))))))
  ·obtain ⟨j, u, hu, e⟩ := e
   have hu : (d.vs.set i v')[j]? = some u := hu
   by_cases q : i = j
   ·subst q
    rw [List.getElem?_set_self (getElem?_lt hv)] at hu
    injection hu with hu
    subst hu
    rcases ha with ha | ha
    ·rw [ha] at e; exact h.zn b (.inr (.inr (.inr (.inr (.inr (.inr ⟨i, v, hv, e⟩))))))
    ·rw [ha] at e; injection e with e; exact h.znew (by omega)
   ·rw [List.getElem?_set_ne q] at hu
    exact h.zn b (.inr (.inr (.inr (.inr (.inr (.inr ⟨j, u, hu, e⟩))))))
theorem OwnL.nilC {α : Type} {t size : Nat} {E : Rd α} {w : World} {base lo n c : Nat} {l : List α} (h : OwnL t size E w base lo (.slice none n c) l) : n = 0 ∧ c = 0 ∧ l = [] := by
 obtain ⟨ess, h1, h2, h3⟩ := h
 rcases h2.2 with ⟨e, hn⟩ | ⟨g, cap, cur, e, _⟩
 ·injection e with _ e1 e2
  exact ⟨e1, e2, List.eq_nil_of_length_eq_zero hn⟩
 ·injection e with e; cases e
theorem Gm.row (h : Gm s w0 wr d) {i : Nat} (hi : i < s.n) : ∃ A c l, d.vs[i]? = some (.slice A l.length c) ∧ d.N[i]? = some l ∧ OwnL 3 1 RInt wr s.bs s.bs (.slice A l.length c) l ∧ wr.cell? ⟨s.nb, i, none⟩ = some (.slice A l.length c) ∧ wr.frozen? ⟨s.nb, i, none⟩ = false ∧ l.length ≤ c ∧ c ≤ 9223372036854775807 := by
 obtain ⟨v, l, hv, hl, ho, hc, hf⟩ := h.nr.get (i := i) (by rw [h.nl]; exact hi)
 obtain ⟨A, c, rfl, h1, h2⟩ := ho.form
 exact ⟨A, c, l, hv, hl, ho, hc, hf, h1, h2⟩
theorem Gm.c8 (h : Gm s w0 wr d) : wr.cell? ⟨s.gb, 8, none⟩ = some (.slice (some ⟨s.nb, 0, none⟩) s.n s.n) := by have := h.b.cell 8; simpa using this
theorem Gm.c9 (h : Gm s w0 wr d) : wr.cell? ⟨s.gb, 9, none⟩ = some d.lgv := by have := h.b.cell 9; simpa using this
theorem Gm.c10 (h : Gm s w0 wr d) : wr.cell? ⟨s.gb, 10, none⟩ = some d.qv := by have := h.b.cell 10; simpa using this
theorem Gm.c11 (h : Gm s w0 wr d) : wr.cell? ⟨s.gb, 11, none⟩ = some (.slice (some ⟨s.qb, 0, none⟩) s.n s.n) := by have := h.b.cell 11; simpa using this
theorem Gm.c5 (h : Gm s w0 wr d) : wr.cell? ⟨s.gb, 5, none⟩ = some s.fv := by have := h.b.cell 5; simpa using this
theorem Gm.c0 (h : Gm s w0 wr d) : wr.cell? ⟨s.gb, 0, none⟩ = some s.vp := by have := h.b.cell 0; simpa using this
end

theorem wf8L {x : Int} (h : -128 ≤ x ∧ x ≤ 127) : (Lit.int .i8 x).wf = true := by
 have e1 : IntKind.i8.min = -128 := by decide
 have e2 : IntKind.i8.max = 127 := by decide
 simp only [Lit.wf, e1, e2, Bool.and_eq_true, decide_eq_true_eq]
 exact h
theorem wf64L {x : Int} (h : -9223372036854775808 ≤ x ∧ x ≤ 9223372036854775807) : (Lit.int .i64 x).wf = true := by
 have e1 : IntKind.i64.min = -9223372036854775808 := by decide
 have e2 : IntKind.i64.max = 9223372036854775807 := by decide
 simp only [Lit.wf, e1, e2, Bool.and_eq_true, decide_eq_true_eq]
 exact h
theorem lits8L {d : Nat} (hd : 0 < d) {x : Int} (h : -128 ≤ x ∧ x ≤ 127) : Try.prog.keyLits d 127 [.int .i8 x] = some [.int .i8 x] := by
 obtain ⟨d, rfl⟩ : ∃ e, d = e + 1 := ⟨d - 1, by omega⟩
 simp only [Program.keyLits, Try.underlying127]
 simp [wf8L h]
theorem lits64L {d : Nat} (hd : 0 < d) {x : Int} (h : -9223372036854775808 ≤ x ∧ x ≤ 9223372036854775807) : Try.prog.keyLits d 3 [.int .i64 x] = some [.int .i64 x] := by
 obtain ⟨d, rfl⟩ : ∃ e, d = e + 1 := ⟨d - 1, by omega⟩
 simp only [Program.keyLits, Try.underlying3]
 simp [wf64L h]
def bfL (l : Lab) : List Value := [b8 l 0, b8 l 1, b8 l 2, b8 l 3, b8 l 4, b8 l 5, b8 l 6, b8 l 7, b8 l 8, b8 l 9]
theorem litsA {d : Nat} (hd : 1 < d) {l : Lab} (h : ∀ t, t < 10 → -128 ≤ l.bf t ∧ l.bf t ≤ 127) : ∃ ls, Try.prog.keyLits d 128 (bfL l) = some ls := by
 have hc : Try.prog.cellsOf 128 = 10 := by kernel_rfl
 have hc1 : Try.prog.cellsOf 127 = 1 := by kernel_rfl
 obtain ⟨d, rfl⟩ : ∃ e, d = e + 1 := ⟨d - 1, by omega⟩
 simp only [Program.keyLits, Try.underlying128]
 have hlen : (bfL l).length = Try.prog.cellsOf 128 := by rw [hc]; rfl
 rw [if_pos hlen, hc1]
 have e : ∀ i, i < 10 → Try.prog.keyLits d 127 (((bfL l).drop (i * 1)).take 1) = some [.int .i8 (l.bf i)] := by
  intro i hi
  have : ((bfL l).drop (i * 1)).take 1 = [.int .i8 (l.bf i)] := by
   rcases i with _ | _ | _ | _ | _ | _ | _ | _ | _ | _ | i
   all_goals first | rfl | omega
  rw [this]
  exact lits8L (by omega) (h i hi)
 have hm : (List.range 10).mapM (fun i => Try.prog.keyLits d 127 (((bfL l).drop (i * 1)).take 1)) = some ((List.range 10).map fun i => [Lit.int .i8 (l.bf i)]) := by
  have : ∀ m : List Nat, (∀ i ∈ m, i < 10) → m.mapM (fun i => Try.prog.keyLits d 127 (((bfL l).drop (i * 1)).take 1)) = some (m.map fun i => [Lit.int .i8 (l.bf i)]) := by
   intro m
   induction m with
   | nil => intro _; rfl
   | cons a m ih =>
    intro hl
    rw [List.mapM_cons, e a (hl a (by simp)), ih (fun i hi => hl i (by simp [hi]))]
    rfl
  exact this _ (fun i hi => List.mem_range.1 hi)
 exact ⟨_, by rw [hm]; rfl⟩
theorem keyOf_labV {l : Lab} (hs : -9223372036854775808 ≤ l.sec ∧ l.sec ≤ 9223372036854775807) (h : ∀ t, t < 10 → -128 ≤ l.bf t ∧ l.bf t ≤ 127) : ∃ x, keyOf Try.prog 130 (labV l) = some x := by
 have hk : Try.prog.keyType 130 = true := by kernel_rfl
 have hc : Try.prog.cellsOf 130 = 11 := by kernel_rfl
 have hc1 : Try.prog.cellsOf 3 = 1 := by kernel_rfl
 have hc2 : Try.prog.cellsOf 128 = 10 := by kernel_rfl
 have hd : 3 < Try.prog.types.size := of_decide_eq_true (by kernel_rfl)
 have hf : (labV l).formed Try.prog 130 = true := by
  unfold labV Value.formed
  simp only [Try.underlying130, hc]
  rfl
 have hl : ∃ ls, Try.prog.keyLits (Try.prog.types.size + 1) 130 (labC l).toList = some ls := by
  generalize Try.prog.types.size = d at hd
  simp only [Program.keyLits, Try.underlying130]
  have hlen : (labC l).toList.length = Try.prog.cellsOf 130 := by rw [hc]; rfl
  obtain ⟨ls, hls⟩ := litsA (d := d) (by omega) h
  have h64 := lits64L (d := d) (by omega) hs
  rw [if_pos ⟨hlen, by decide +kernel⟩]
  simp only [List.mapM_cons, List.mapM_nil, hc1, hc2]
  have e1 : ((labC l).toList.drop 0).take 1 = [.int .i64 l.sec] := rfl
  have e2 : ((labC l).toList.drop 1).take 10 = bfL l := rfl
  rw [e1, e2, h64, hls]
  exact ⟨_, rfl⟩
 obtain ⟨ls, hls⟩ := hl
 unfold keyOf
 simp only [Try.underlying130, hk, hf, Bool.and_self, if_true]
 exact ⟨_, by rw [show (labV l).cells = labC l from rfl, hls]; rfl⟩
theorem labLaw : WideMaps.KeyLaw Try.prog 130 := deep_law (m := 3) (by omega) (by kernel_rfl) (by kernel_rfl) (by simp only [Try.underlying130])
theorem labV_inj {a b : Lab} (ha : a.bef.length = 10) (hb : b.bef.length = 10) (h : labV a = labV b) : a = b := by
 unfold labV labC b8 at h
 injection h with h
 simp only [Array.mk.injEq, List.cons.injEq, Value.int.injEq, true_and, and_true] at h
 refine Lab.ext10 ha hb h.1 fun t ht => ?_
 rcases t with _ | _ | _ | _ | _ | _ | _ | _ | _ | _ | t
 all_goals first | omega | simp_all
theorem eqL_run {a b : Lab} (ha : a.bef.length = 10) (hb : b.bef.length = 10) (ha1 : -9223372036854775808 ≤ a.sec ∧ a.sec ≤ 9223372036854775807) (hb1 : -9223372036854775808 ≤ b.sec ∧ b.sec ≤ 9223372036854775807) (ha2 : ∀ t, t < 10 → -128 ≤ a.bf t ∧ a.bf t ≤ 127) (hb2 : ∀ t, t < 10 → -128 ≤ b.bf t ∧ b.bf t ≤ 127) (w : World) :
  (binOp .eql 130 (.agg (labC a)) (.agg (labC b))).run Try.prog w = .ok (.bool (decide (a = b))) w := by
 obtain ⟨x, hx⟩ := keyOf_labV ha1 ha2
 obtain ⟨y, hy⟩ := keyOf_labV hb1 hb2
 obtain ⟨r, hr, hiff⟩ := run_equal_deep (m := 3) w (by omega) (k := 130) (by kernel_rfl) (by simp only [Try.underlying130]) hx hy
 have e : r = decide (a = b) := by
  rw [Bool.eq_iff_iff, hiff, decide_eq_true_eq]
  constructor
  ·intro h
   subst h
   exact labV_inj ha hb (labLaw.inj hx hy)
  ·intro h
   subst h
   rw [hx] at hy; injection hy
 rw [run_eql_struct]
 have hr2 : (Op.equalIn 10000 130 (.agg (labC a)) (.agg (labC b))).run Try.prog w = .ok r w := hr
 rw [hr2, e]
 rfl

end Go.Proofs.Ytilbbpbjhoidhaa
