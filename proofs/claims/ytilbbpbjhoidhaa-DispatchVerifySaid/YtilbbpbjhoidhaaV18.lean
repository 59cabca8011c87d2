/- The graph of chapter 37 in memory: what one store of its code does. Conditions: as each theorem says. Labels compared: equal exactly if they are the same. Conditions: as each theorem says. Contract of update of the graph of chapter 37. Conditions: as each theorem says. -/
import Derived.Test.YtilbbpbjhoidhaaV17
import Derived.Test.YtilbbpbjhoidhaaV12
import Derived.Test.YtilbbpbjhoidhaaV16
import Derived.DeepKeys3
import Derived.Laws.StructEq
namespace Go.Proofs.Ytilbbpbjhoidhaa
open Go.RowKit

theorem OwnL.ne_own {α β : Type} {t t' size size' : Nat} {E : Rd α} {E' : Rd β} {w : World} {base lo base' lo' : Nat} {v v' : Value} {l : List α} {l' : List β} (h : OwnL t size E w base lo v l) (h' : OwnL t' size' E' w base' lo' v' l') (hne : t ≠ t') {b : Nat} (hb : v.ownBlock = some b) : v'.ownBlock ≠ some b := by
 obtain ⟨ess, _, h2, _⟩ := h
 rcases h2.2 with ⟨rfl, _⟩ | ⟨g, cap, cur, rfl, _, hh, _⟩
 ·simp [Value.ownBlock] at hb
 ·have e : g = b := by simpa [Value.ownBlock] using hb
  subst e
  exact h'.ne_blk (t' := t) (cs := cur) hh (fun e => hne e.symm)
section
variable {s : GS} {w0 wr w' : World} {d : GD}
theorem Gm.nes (h : Gm s w0 wr d) : s.gb ≠ s.lb ∧ s.gb ≠ s.nb ∧ s.gb ≠ s.qb ∧ s.lb ≠ s.nb ∧ s.lb ≠ s.qb ∧ s.nb ≠ s.qb :=
 ⟨Blk.ne_ h.b h.l (by decide), Blk.ne_ h.b h.nr.blk (by decide), Blk.ne_ h.b h.qd (by decide), Blk.ne_ h.l h.nr.blk (by decide), Blk.ne_ h.l h.qd (by decide), Blk.ne_ h.nr.blk h.qd (by decide)⟩
theorem Gm.log (h : Gm s w0 wr d) {v : Value} {l : List Chg} (ho : OwnL 154 13 RChg w' s.bs s.bs v l) (hk : Keeps (fun b => d.lgv.ownBlock = some b) wr w') (ha : v.ownBlock = none ∨ v.ownBlock = d.lgv.ownBlock ∨ v.ownBlock = some wr.heap.size) : Gm s w0 (w'.setCell ⟨s.gb, 9, none⟩ v) { d with lgv := v, lg := l } := by
 obtain ⟨n1, n2, n3, n4, n5, n6⟩ := h.nes
 have hlo := h.lo
 have hhi := h.hi
 have hnb := h.nr.nb
 have hbs := h.bsz
 have hw0 := h.k.size
 have hL : ∀ b, d.lgv.ownBlock = some b → s.bs ≤ b := fun b hb => (h.lg.lt hb).1
 have hk2 : Keeps (fun b => b = s.gb) w' (w'.setCell ⟨s.gb, 9, none⟩ v) := (Keeps.refl (fun b => b = s.gb) w').setCell (p := ⟨s.gb, 9, none⟩) (fun _ => rfl) v
 have far : ∀ {g t : Nat} {cs : Array Value}, Blk wr g t cs → g < s.bs → g ≠ s.gb → Blk (w'.setCell ⟨s.gb, 9, none⟩ v) g t cs := fun hb hg hne => (hb.kept hk (fun e => by have := hL _ e; omega)).kept hk2 hne
 have hK : Keeps (fun b => w0.heap.size ≤ b) wr (w'.setCell ⟨s.gb, 9, none⟩ v) := (hk.mono (fun b _ e => by have := hL b e; show w0.heap.size ≤ b; omega)).trans hk2 (fun b _ e => by have e : b = s.gb := e; show w0.heap.size ≤ b; omega)
 have hZ := h.zk (C := GOwn s d) (w' := w'.setCell ⟨s.gb, 9, none⟩ v) ((hk.mono (fun b _ e => .inr (.inr (.inr (.inr (.inl e)))))).trans hk2 (fun b _ e => .inl e)) (fun _ _ h => h)
 refine ⟨?_, hK.rd RPaths.ok h.P (fun b hb => ⟨Nat.lt_of_lt_of_le hb hw0, fun e => by have hb : b < w0.heap.size := hb; omega⟩) (fun _ h => h), hK.rd RInts.ok h.A (fun b hb => ⟨Nat.lt_of_lt_of_le hb hw0, fun e => by have hb : b < w0.heap.size := hb; omega⟩) (fun _ h => h), ?_, h.fl, ?_, h.el, far h.l (by omega) (fun e => n1 e.symm), ?_, h.nl, ho.keepsF RChg.flat hk2 (fun b hb e => by have := ho.lt hb; have e : b = s.gb := e; omega), ?_, far h.qd (by omega) (fun e => n3 e.symm), h.ql, h.ne, hlo, hhi, ?_, ?_, hZ.1, hZ.2, fun b e => ?_⟩
 ·have := (h.b.kept hk (fun e => by have := hL _ e; omega)).set_ 9 v
  exact this
 ·have h1 := h.f.keepsF RInt.flat hk (fun b hb e => by have := hL b e; have := h.fl b hb; omega)
  exact h1.keepsF RInt.flat hk2 (fun b hb e => by have e : b = s.gb := e; subst e; exact h.f.ne_blk h.b (by decide) hb)
 ·have h1 := h.e.keepsF RRef.flat hk (fun b hb e => by have := hL b e; have := h.el b hb; omega)
  exact h1.keepsF RRef.flat hk2 (fun b hb e => by have e : b = s.gb := e; subst e; exact h.e.ne_blk h.b (by decide) hb)
 ·refine ⟨far h.nr.blk hnb (fun e => n2 e.symm), h.nr.len, fun i u m hu hm => ?_, h.nr.ne, hnb⟩
  have h1 := h.nr.own i u m hu hm
  exact (h1.keepsF RInt.flat hk (fun b hb e => h.lg.ne_own h1 (by decide) e hb)).keepsF RInt.flat hk2 (fun b hb e => by have := h1.lt hb; have e : b = s.gb := e; omega)
 ·exact (h.q.keepsF RInt.flat hk (fun b hb e => h.lg.ne_own h.q (by decide) e hb)).keepsF RInt.flat hk2 (fun b hb e => by have := h.q.lt hb; have e : b = s.gb := e; omega)
 ·exact Nat.le_trans hbs hK.size
 ·exact h.k.trans hK (fun b hb e => by have e : w0.heap.size ≤ b := e; omega)
 ·rcases e with e | e | e | e | e | e | e
  ·exact h.zn b (.inl e)
  ·exact h.zn b (.inr (.inl e))
  ·exact h.zn b (.inr (.inr (.inl e)))
  ·exact h.zn b (.inr (.inr (.inr (.inl e))))
  ·have e : v.ownBlock = some b := e
   rcases ha with ha | ha | ha
   ·rw [ha] at e; cases e
   ·rw [ha] at e; exact h.zn b (.inr (.inr (.inr (.inr (.inl e)))))
   ·rw [ha] at e; injection e with e; exact h.znew (by omega)
  ·exact h.zn b (.inr (.inr (.inr (.inr (.inr (.inl e))))))
  ·exact h.zn b (.inr (.inr (.inr (.inr (.inr (.inr e))))))
theorem Gm.setLab (h : Gm s w0 wr d) {i : Nat} {u : Ref} (hu : (evs s.ps)[i]? = some u) (l : Lab) : Gm s w0 (storeLab wr s.lb (i * 11) l) { d with T := updL d.T u l } := by
 obtain ⟨n1, n2, n3, n4, n5, n6⟩ := h.nes
 have hlo := h.lo
 have hhi := h.hi
 have hw0 := h.k.size
 have hk : Keeps (fun b => b = s.lb) wr (storeLab wr s.lb (i * 11) l) := storeLab_keeps (C := fun b => b = s.lb) (Keeps.refl _ _) (fun _ => rfl) l
 refine ⟨h.b.kept hk n1, hk.rd RPaths.ok h.P (fun b hb => ⟨Nat.lt_of_lt_of_le hb hw0, fun e => by have hb : b < w0.heap.size := hb; have e : b = s.lb := e; omega⟩) (fun _ h => h), hk.rd RInts.ok h.A (fun b hb => ⟨Nat.lt_of_lt_of_le hb hw0, fun e => by have hb : b < w0.heap.size := hb; have e : b = s.lb := e; omega⟩) (fun _ h => h), h.f.keepsF RInt.flat hk (fun b hb e => by have e : b = s.lb := e; subst e; exact h.f.ne_blk h.l (by decide) hb), h.fl, h.e.keepsF RRef.flat hk (fun b hb e => by have e : b = s.lb := e; subst e; exact h.e.ne_blk h.l (by decide) hb), h.el, ?_, h.nr.keeps RInt.flat hk (fun e => n4 e.symm) (fun b hb _ e => by have e : b = s.lb := e; omega), h.nl, h.lg.keepsF RChg.flat hk (fun b hb e => by have := h.lg.lt hb; have e : b = s.lb := e; omega), h.q.keepsF RInt.flat hk (fun b hb e => by have := h.q.lt hb; have e : b = s.lb := e; omega), h.qd.kept hk (fun e => n5 e.symm), h.ql, h.ne, hlo, hhi, Nat.le_trans h.bsz hk.size, h.k.trans hk (fun b hb e => by have e : b = s.lb := e; omega), (h.zk hk fun _ _ e => .inr (.inl e)).1, (h.zk hk fun _ _ e => .inr (.inl e)).2, h.zn⟩
 have := storeLab_blk (i := i * 11) h.l l
 rw [labsC_set (evs_nd s.ps) d.T hu l] at this
 exact this
theorem Gm.setQd (h : Gm s w0 wr d) (i : Nat) (x : Bool) : Gm s w0 (wr.setCell ⟨s.qb, i, none⟩ (.bool x)) { d with qd := d.qd.set i x } := by
 obtain ⟨n1, n2, n3, n4, n5, n6⟩ := h.nes
 have hlo := h.lo
 have hhi := h.hi
 have hw0 := h.k.size
 have hk : Keeps (fun b => b = s.qb) wr (wr.setCell ⟨s.qb, i, none⟩ (.bool x)) := (Keeps.refl (fun b => b = s.qb) wr).setCell (p := ⟨s.qb, i, none⟩) (fun _ => rfl) _
 refine ⟨h.b.kept hk n3, hk.rd RPaths.ok h.P (fun b hb => ⟨Nat.lt_of_lt_of_le hb hw0, fun e => by have hb : b < w0.heap.size := hb; have e : b = s.qb := e; omega⟩) (fun _ h => h), hk.rd RInts.ok h.A (fun b hb => ⟨Nat.lt_of_lt_of_le hb hw0, fun e => by have hb : b < w0.heap.size := hb; have e : b = s.qb := e; omega⟩) (fun _ h => h), h.f.keepsF RInt.flat hk (fun b hb e => by have e : b = s.qb := e; subst e; exact h.f.ne_blk h.qd (by decide) hb), h.fl, h.e.keepsF RRef.flat hk (fun b hb e => by have e : b = s.qb := e; subst e; exact h.e.ne_blk h.qd (by decide) hb), h.el, h.l.kept hk n5, h.nr.keeps RInt.flat hk n6 (fun b hb _ e => by have e : b = s.qb := e; omega), h.nl, h.lg.keepsF RChg.flat hk (fun b hb e => by have := h.lg.lt hb; have e : b = s.qb := e; omega), h.q.keepsF RInt.flat hk (fun b hb e => by have := h.q.lt hb; have e : b = s.qb := e; omega), ?_, ?_, h.ne, hlo, hhi, Nat.le_trans h.bsz hk.size, h.k.trans hk (fun b hb e => by have e : b = s.qb := e; omega), (h.zk hk fun _ _ e => .inr (.inr (.inr (.inl e)))).1, (h.zk hk fun _ _ e => .inr (.inr (.inr (.inl e)))).2, h.zn⟩
 ·have := h.qd.set_ i (.bool x)
  rw [boolsC_set] at this
  exact this
 ·show (d.qd.set i x).length = s.n
  rw [List.length_set]; exact h.ql
theorem Gm.setQ (h : Gm s w0 wr d) {v : Value} {l : List Int} (ho : OwnL 3 1 RInt w' s.bs s.bs v l) (hk : Keeps (fun b => d.qv.ownBlock = some b) wr w') (ha : v.ownBlock = none ∨ v.ownBlock = d.qv.ownBlock ∨ v.ownBlock = some wr.heap.size) : Gm s w0 (w'.setCell ⟨s.gb, 10, none⟩ v) { d with qv := v, que := l } := by
 obtain ⟨n1, n2, n3, n4, n5, n6⟩ := h.nes
 have hlo := h.lo
 have hhi := h.hi
 have hnb := h.nr.nb
 have hbs := h.bsz
 have hw0 := h.k.size
 have hL : ∀ b, d.qv.ownBlock = some b → s.bs ≤ b := fun b hb => (h.q.lt hb).1
 have hk2 : Keeps (fun b => b = s.gb) w' (w'.setCell ⟨s.gb, 10, none⟩ v) := (Keeps.refl (fun b => b = s.gb) w').setCell (p := ⟨s.gb, 10, none⟩) (fun _ => rfl) v
 have far : ∀ {g t : Nat} {cs : Array Value}, Blk wr g t cs → g < s.bs → g ≠ s.gb → Blk (w'.setCell ⟨s.gb, 10, none⟩ v) g t cs := fun hb hg hne => (hb.kept hk (fun e => by have := hL _ e; omega)).kept hk2 hne
 have hK : Keeps (fun b => w0.heap.size ≤ b) wr (w'.setCell ⟨s.gb, 10, none⟩ v) := (hk.mono (fun b _ e => by have := hL b e; show w0.heap.size ≤ b; omega)).trans hk2 (fun b _ e => by have e : b = s.gb := e; show w0.heap.size ≤ b; omega)
 have hZ := h.zk (C := GOwn s d) (w' := w'.setCell ⟨s.gb, 10, none⟩ v) ((hk.mono (fun b _ e => .inr (.inr (.inr (.inr (.inr (.inl e))))))).trans hk2 (fun b _ e => .inl e)) (fun _ _ h => h)
 refine ⟨?_, hK.rd RPaths.ok h.P (fun b hb => ⟨Nat.lt_of_lt_of_le hb hw0, fun e => by have hb : b < w0.heap.size := hb; omega⟩) (fun _ h => h), hK.rd RInts.ok h.A (fun b hb => ⟨Nat.lt_of_lt_of_le hb hw0, fun e => by have hb : b < w0.heap.size := hb; omega⟩) (fun _ h => h), ?_, h.fl, ?_, h.el, far h.l (by omega) (fun e => n1 e.symm), ?_, h.nl, ?_, ho.keepsF RInt.flat hk2 (fun b hb e => by have := ho.lt hb; have e : b = s.gb := e; omega), far h.qd (by omega) (fun e => n3 e.symm), h.ql, fun i u b hu hb e => ?_, hlo, hhi, ?_, ?_, hZ.1, hZ.2, fun b e => ?_⟩
 ·have := (h.b.kept hk (fun e => by have := hL _ e; omega)).set_ 10 v
  exact this
 ·have h1 := h.f.keepsF RInt.flat hk (fun b hb e => by have := hL b e; have := h.fl b hb; omega)
  exact h1.keepsF RInt.flat hk2 (fun b hb e => by have e : b = s.gb := e; subst e; exact h.f.ne_blk h.b (by decide) hb)
 ·have h1 := h.e.keepsF RRef.flat hk (fun b hb e => by have := hL b e; have := h.el b hb; omega)
  exact h1.keepsF RRef.flat hk2 (fun b hb e => by have e : b = s.gb := e; subst e; exact h.e.ne_blk h.b (by decide) hb)
 ·refine ⟨far h.nr.blk hnb (fun e => n2 e.symm), h.nr.len, fun i u m hu hm => ?_, h.nr.ne, hnb⟩
  have h1 := h.nr.own i u m hu hm
  exact (h1.keepsF RInt.flat hk (fun b hb e => h.ne i u b hu hb e)).keepsF RInt.flat hk2 (fun b hb e => by have := h1.lt hb; have e : b = s.gb := e; omega)
 ·exact (h.lg.keepsF RChg.flat hk (fun b hb e => h.lg.ne_own h.q (by decide) hb e)).keepsF RChg.flat hk2 (fun b hb e => by have := h.lg.lt hb; have e : b = s.gb := e; omega)
 ·have e : v.ownBlock = some b := e
  rcases ha with ha | ha | ha
  ·rw [ha] at e; cases e
  ·rw [ha] at e; exact h.ne i u b hu hb e
  ·rw [ha] at e; injection e with e
   have hil : i < d.N.length := by rw [← h.nr.len]; exact getElem?_lt hu
   have := (h.nr.own i u _ hu (List.getElem?_eq_getElem hil)).lt hb
   omega
 ·exact Nat.le_trans hbs hK.size
 ·exact h.k.trans hK (fun b hb e => by have e : w0.heap.size ≤ b := e; omega)
 ·rcases e with e | e | e | e | e | e | e
  ·exact h.zn b (.inl e)
  ·exact h.zn b (.inr (.inl e))
  ·exact h.zn b (.inr (.inr (.inl e)))
  ·exact h.zn b (.inr (.inr (.inr (.inl e))))
  ·exact h.zn b (.inr (.inr (.inr (.inr (.inl e)))))
  ·have e : v.ownBlock = some b := e
   rcases ha with ha | ha | ha
   ·rw [ha] at e; cases e
   ·rw [ha] at e; exact h.zn b (.inr (.inr (.inr (.inr (.inr (.inl e))))))
   ·rw [ha] at e; injection e with e; exact h.znew (by omega)
  ·exact h.zn b (.inr (.inr (.inr (.inr (.inr (.inr e))))))
theorem Gm.setRow (h : Gm s w0 wr d) {i : Nat} {v v' : Value} {l l' : List Int} (hv : d.vs[i]? = some v) (hl : d.N[i]? = some l) (ho : OwnL 3 1 RInt w' s.bs s.bs v' l') (hk : Keeps (fun b => v.ownBlock = some b) wr w') (ha : v'.ownBlock = v.ownBlock ∨ v'.ownBlock = some wr.heap.size) : Gm s w0 (w'.setCell ⟨s.nb, i, none⟩ v') { d with vs := d.vs.set i v', N := d.N.set i l' } := by
 obtain ⟨n1, n2, n3, n4, n5, n6⟩ := h.nes
 have hlo := h.lo
 have hhi := h.hi
 have hnb := h.nr.nb
 have hbs := h.bsz
 have hw0 := h.k.size
 have hrow := h.nr.own i v l hv hl
 have hL : ∀ b, v.ownBlock = some b → s.bs ≤ b := fun b hb => (hrow.lt hb).1
 have hk2 : Keeps (fun b => b = s.nb) w' (w'.setCell ⟨s.nb, i, none⟩ v') := (Keeps.refl (fun b => b = s.nb) w').setCell (p := ⟨s.nb, i, none⟩) (fun _ => rfl) v'
 have far : ∀ {g t : Nat} {cs : Array Value}, Blk wr g t cs → g < s.bs → g ≠ s.nb → Blk (w'.setCell ⟨s.nb, i, none⟩ v') g t cs := fun hb hg hne => (hb.kept hk (fun e => by have := hL _ e; omega)).kept hk2 hne
 have hK : Keeps (fun b => w0.heap.size ≤ b) wr (w'.setCell ⟨s.nb, i, none⟩ v') := (hk.mono (fun b _ e => by have := hL b e; show w0.heap.size ≤ b; omega)).trans hk2 (fun b _ e => by have e : b = s.nb := e; show w0.heap.size ≤ b; omega)
 have hZ := h.zk (C := GOwn s d) (w' := w'.setCell ⟨s.nb, i, none⟩ v') ((hk.mono (fun b _ e => .inr (.inr (.inr (.inr (.inr (.inr ⟨i, v, hv, e⟩))))))).trans hk2 (fun b _ e => .inr (.inr (.inl e)))) (fun _ _ h => h)
 refine ⟨far h.b hhi.1 n2, hK.rd RPaths.ok h.P (fun b hb => ⟨Nat.lt_of_lt_of_le hb hw0, fun e => by have hb : b < w0.heap.size := hb; omega⟩) (fun _ h => h), hK.rd RInts.ok h.A (fun b hb => ⟨Nat.lt_of_lt_of_le hb hw0, fun e => by have hb : b < w0.heap.size := hb; omega⟩) (fun _ h => h), ?_, h.fl, ?_, h.el, far h.l (by omega) n4, h.nr.push RInt.flat hv hl hbs ho hk ha, ?_, ?_, ?_, far h.qd (by omega) (fun e => n6 e.symm), h.ql, fun j u b hu hb e => ?_, hlo, hhi, ?_, ?_, hZ.1, hZ.2, fun b e => ?_⟩
 ·have h1 := h.f.keepsF RInt.flat hk (fun b hb e => by have := hL b e; have := h.fl b hb; omega)
  exact h1.keepsF RInt.flat hk2 (fun b hb e => by have e : b = s.nb := e; subst e; exact h.f.ne_blk h.nr.blk (by decide) hb)
 ·have h1 := h.e.keepsF RRef.flat hk (fun b hb e => by have := hL b e; have := h.el b hb; omega)
  exact h1.keepsF RRef.flat hk2 (fun b hb e => by have e : b = s.nb := e; subst e; exact h.e.ne_blk h.nr.blk (by decide) hb)
 ·show (d.N.set i l').length = s.n
  rw [List.length_set]; exact h.nl
 ·exact (h.lg.keepsF RChg.flat hk (fun b hb e => h.lg.ne_own hrow (by decide) hb e)).keepsF RChg.flat hk2 (fun b hb e => by have := h.lg.lt hb; have e : b = s.nb := e; omega)
 ·exact (h.q.keepsF RInt.flat hk (fun b hb e => h.ne i v b hv e hb)).keepsF RInt.flat hk2 (fun b hb e => by have := h.q.lt hb; have e : b = s.nb := e; omega)
 ·have hu : (d.vs.set i v')[j]? = some u := hu
  by_cases q : i = j
  ·subst q
   rw [List.getElem?_set_self (getElem?_lt hv)] at hu
   injection hu with hu
   subst hu
   rcases ha with ha | ha
   ·rw [ha] at hb; exact h.ne i v b hv hb e
   ·rw [ha] at hb; injection hb with hb
    have := (h.q.lt e).2
    omega
  ·rw [List.getElem?_set_ne q] at hu
   exact h.ne j u b hu hb e
 ·exact Nat.le_trans hbs hK.size
 ·exact h.k.trans hK (fun b hb e => by have e : w0.heap.size ≤ b := e; omega)
 ·rcases e with e | e | e | e | e | e | e
  ·exact h.zn b (.inl e)
  ·exact h.zn b (.inr (.inl e))
  ·exact h.zn b (.inr (.inr (.inl e)))
  ·exact h.zn b (.inr (.inr (.inr (.inl e))))
  ·exact h.zn b (.inr (.inr (.inr (.inr (.inl e)))))
  ·exact h.zn b (.inr (.inr (.inr (.inr (.inr (.inl e))))))
  ·obtain ⟨j, u, hu, e⟩ := e
   have hu : (d.vs.set i v')[j]? = some u := hu
   by_cases q : i = j
   ·subst q
    rw [List.getElem?_set_self (getElem?_lt hv)] at hu
    injection hu with hu
    subst hu
    rcases ha with ha | ha
    ·rw [ha] at e; exact h.zn b (.inr (.inr (.inr (.inr (.inr (.inr ⟨i, v, hv, e⟩))))))
    ·rw [ha] at e; injection e with e; exact h.znew (by omega)
   ·rw [List.getElem?_set_ne q] at hu
    exact h.zn b (.inr (.inr (.inr (.inr (.inr (.inr ⟨j, u, hu, e⟩))))))
theorem OwnL.nilC {α : Type} {t size : Nat} {E : Rd α} {w : World} {base lo n c : Nat} {l : List α} (h : OwnL t size E w base lo (.slice none n c) l) : n = 0 ∧ c = 0 ∧ l = [] := by
 obtain ⟨ess, h1, h2, h3⟩ := h
 rcases h2.2 with ⟨e, hn⟩ | ⟨g, cap, cur, e, _⟩
 ·injection e with _ e1 e2
  exact ⟨e1, e2, List.eq_nil_of_length_eq_zero hn⟩
 ·injection e with e; cases e
theorem Gm.row (h : Gm s w0 wr d) {i : Nat} (hi : i < s.n) : ∃ A c l, d.vs[i]? = some (.slice A l.length c) ∧ d.N[i]? = some l ∧ OwnL 3 1 RInt wr s.bs s.bs (.slice A l.length c) l ∧ wr.cell? ⟨s.nb, i, none⟩ = some (.slice A l.length c) ∧ wr.frozen? ⟨s.nb, i, none⟩ = false ∧ l.length ≤ c ∧ c ≤ 9223372036854775807 := by
 obtain ⟨v, l, hv, hl, ho, hc, hf⟩ := h.nr.get (i := i) (by rw [h.nl]; exact hi)
 obtain ⟨A, c, rfl, h1, h2⟩ := ho.form
 exact ⟨A, c, l, hv, hl, ho, hc, hf, h1, h2⟩
theorem Gm.c8 (h : Gm s w0 wr d) : wr.cell? ⟨s.gb, 8, none⟩ = some (.slice (some ⟨s.nb, 0, none⟩) s.n s.n) := by have := h.b.cell 8; simpa using this
theorem Gm.c9 (h : Gm s w0 wr d) : wr.cell? ⟨s.gb, 9, none⟩ = some d.lgv := by have := h.b.cell 9; simpa using this
theorem Gm.c10 (h : Gm s w0 wr d) : wr.cell? ⟨s.gb, 10, none⟩ = some d.qv := by have := h.b.cell 10; simpa using this
theorem Gm.c11 (h : Gm s w0 wr d) : wr.cell? ⟨s.gb, 11, none⟩ = some (.slice (some ⟨s.qb, 0, none⟩) s.n s.n) := by have := h.b.cell 11; simpa using this
theorem Gm.c5 (h : Gm s w0 wr d) : wr.cell? ⟨s.gb, 5, none⟩ = some s.fv := by have := h.b.cell 5; simpa using this
theorem Gm.c0 (h : Gm s w0 wr d) : wr.cell? ⟨s.gb, 0, none⟩ = some s.vp := by have := h.b.cell 0; simpa using this
end

theorem wf8L {x : Int} (h : -128 ≤ x ∧ x ≤ 127) : (Lit.int .i8 x).wf = true := by
 have e1 : IntKind.i8.min = -128 := by decide
 have e2 : IntKind.i8.max = 127 := by decide
 simp only [Lit.wf, e1, e2, Bool.and_eq_true, decide_eq_true_eq]
 exact h
theorem wf64L {x : Int} (h : -9223372036854775808 ≤ x ∧ x ≤ 9223372036854775807) : (Lit.int .i64 x).wf = true := by
 have e1 : IntKind.i64.min = -9223372036854775808 := by decide
 have e2 : IntKind.i64.max = 9223372036854775807 := by decide
 simp only [Lit.wf, e1, e2, Bool.and_eq_true, decide_eq_true_eq]
 exact h
theorem lits8L {d : Nat} (hd : 0 < d) {x : Int} (h : -128 ≤ x ∧ x ≤ 127) : Try.prog.keyLits d 127 [.int .i8 x] = some [.int .i8 x] := by
 obtain ⟨d, rfl⟩ : ∃ e, d = e + 1 := ⟨d - 1, by omega⟩
 simp only [Program.keyLits, Try.underlying127]
 simp [wf8L h]
theorem lits64L {d : Nat} (hd : 0 < d) {x : Int} (h : -9223372036854775808 ≤ x ∧ x ≤ 9223372036854775807) : Try.prog.keyLits d 3 [.int .i64 x] = some [.int .i64 x] := by
 obtain ⟨d, rfl⟩ : ∃ e, d = e + 1 := ⟨d - 1, by omega⟩
 simp only [Program.keyLits, Try.underlying3]
 simp [wf64L h]
def bfL (l : Lab) : List Value := [b8 l 0, b8 l 1, b8 l 2, b8 l 3, b8 l 4, b8 l 5, b8 l 6, b8 l 7, b8 l 8, b8 l 9]
theorem litsA {d : Nat} (hd : 1 < d) {l : Lab} (h : ∀ t, t < 10 → -128 ≤ l.bf t ∧ l.bf t ≤ 127) : ∃ ls, Try.prog.keyLits d 128 (bfL l) = some ls := by
 have hc : Try.prog.cellsOf 128 = 10 := by kernel_rfl
 have hc1 : Try.prog.cellsOf 127 = 1 := by kernel_rfl
 obtain ⟨d, rfl⟩ : ∃ e, d = e + 1 := ⟨d - 1, by omega⟩
 simp only [Program.keyLits, Try.underlying128]
 have hlen : (bfL l).length = Try.prog.cellsOf 128 := by rw [hc]; rfl
 rw [if_pos hlen, hc1]
 have e : ∀ i, i < 10 → Try.prog.keyLits d 127 (((bfL l).drop (i * 1)).take 1) = some [.int .i8 (l.bf i)] := by
  intro i hi
  have : ((bfL l).drop (i * 1)).take 1 = [.int .i8 (l.bf i)] := by
   rcases i with _ | _ | _ | _ | _ | _ | _ | _ | _ | _ | i
   all_goals first | rfl | omega
  rw [this]
  exact lits8L (by omega) (h i hi)
 have hm : (List.range 10).mapM (fun i => Try.prog.keyLits d 127 (((bfL l).drop (i * 1)).take 1)) = some ((List.range 10).map fun i => [Lit.int .i8 (l.bf i)]) := by
  have : ∀ m : List Nat, (∀ i ∈ m, i < 10) → m.mapM (fun i => Try.prog.keyLits d 127 (((bfL l).drop (i * 1)).take 1)) = some (m.map fun i => [Lit.int .i8 (l.bf i)]) := by
   intro m
   induction m with
   | nil => intro _; rfl
   | cons a m ih =>
    intro hl
    rw [List.mapM_cons, e a (hl a (by simp)), ih (fun i hi => hl i (by simp [hi]))]
    rfl
  exact this _ (fun i hi => List.mem_range.1 hi)
 exact ⟨_, by rw [hm]; rfl⟩
theorem keyOf_labV {l : Lab} (hs : -9223372036854775808 ≤ l.sec ∧ l.sec ≤ 9223372036854775807) (h : ∀ t, t < 10 → -128 ≤ l.bf t ∧ l.bf t ≤ 127) : ∃ x, keyOf Try.prog 130 (labV l) = some x := by
 have hk : Try.prog.keyType 130 = true := by kernel_rfl
 have hc : Try.prog.cellsOf 130 = 11 := by kernel_rfl
 have hc1 : Try.prog.cellsOf 3 = 1 := by kernel_rfl
 have hc2 : Try.prog.cellsOf 128 = 10 := by kernel_rfl
 have hd : 3 < Try.prog.types.size := of_decide_eq_true (by kernel_rfl)
 have hf : (labV l).formed Try.prog 130 = true := by
  unfold labV Value.formed
  simp only [Try.underlying130, hc]
  rfl
 have hl : ∃ ls, Try.prog.keyLits (Try.prog.types.size + 1) 130 (labC l).toList = some ls := by
  generalize Try.prog.types.size = d at hd
  simp only [Program.keyLits, Try.underlying130]
  have hlen : (labC l).toList.length = Try.prog.cellsOf 130 := by rw [hc]; rfl
  obtain ⟨ls, hls⟩ := litsA (d := d) (by omega) h
  have h64 := lits64L (d := d) (by omega) hs
  rw [if_pos ⟨hlen, by decide +kernel⟩]
  simp only [List.mapM_cons, List.mapM_nil, hc1, hc2]
  have e1 : ((labC l).toList.drop 0).take 1 = [.int .i64 l.sec] := rfl
  have e2 : ((labC l).toList.drop 1).take 10 = bfL l := rfl
  rw [e1, e2, h64, hls]
  exact ⟨_, rfl⟩
 obtain ⟨ls, hls⟩ := hl
 unfold keyOf
 simp only [Try.underlying130, hk, hf, Bool.and_self, if_true]
 exact ⟨_, by rw [show (labV l).cells = labC l from rfl, hls]; rfl⟩
theorem labLaw : WideMaps.KeyLaw Try.prog 130 := deep_law (m := 3) (by omega) (by kernel_rfl) (by kernel_rfl) (by simp only [Try.underlying130])
theorem labV_inj {a b : Lab} (ha : a.bef.length = 10) (hb : b.bef.length = 10) (h : labV a = labV b) : a = b := by
 unfold labV labC b8 at h
 injection h with h
 simp only [Array.mk.injEq, List.cons.injEq, Value.int.injEq, true_and, and_true] at h
 refine Lab.ext10 ha hb h.1 fun t ht => ?_
 rcases t with _ | _ | _ | _ | _ | _ | _ | _ | _ | _ | t
 all_goals first | omega | simp_all
theorem eqL_run {a b : Lab} (ha : a.bef.length = 10) (hb : b.bef.length = 10) (ha1 : -9223372036854775808 ≤ a.sec ∧ a.sec ≤ 9223372036854775807) (hb1 : -9223372036854775808 ≤ b.sec ∧ b.sec ≤ 9223372036854775807) (ha2 : ∀ t, t < 10 → -128 ≤ a.bf t ∧ a.bf t ≤ 127) (hb2 : ∀ t, t < 10 → -128 ≤ b.bf t ∧ b.bf t ≤ 127) (w : World) :
  (binOp .eql 130 (.agg (labC a)) (.agg (labC b))).run Try.prog w = .ok (.bool (decide (a = b))) w := by
 obtain ⟨x, hx⟩ := keyOf_labV ha1 ha2
 obtain ⟨y, hy⟩ := keyOf_labV hb1 hb2
 obtain ⟨r, hr, hiff⟩ := run_equal_deep (m := 3) w (by omega) (k := 130) (by kernel_rfl) (by simp only [Try.underlying130]) hx hy
 have e : r = decide (a = b) := by
  rw [Bool.eq_iff_iff, hiff, decide_eq_true_eq]
  constructor
  ·intro h
   subst h
   exact labV_inj ha hb (labLaw.inj hx hy)
  ·intro h
   subst h
   rw [hx] at hy; injection hy
 rw [run_eql_struct]
 have hr2 : (Op.equalIn 10000 130 (.agg (labC a)) (.agg (labC b))).run Try.prog w = .ok r w := hr
 rw [hr2, e]
 rfl

theorem tyChg : ElemTy Try.prog 123 154 13 40 := .mk' Try.underlying123 (z := .agg #[.int .i64 0, .bool false, .int .i64 0, .int .i8 0, .int .i8 0, .int .i8 0, .int .i8 0, .int .i8 0, .int .i8 0, .int .i8 0, .int .i8 0, .int .i8 0, .int .i8 0]) (by kernel_rfl) rfl (by omega)
structure Upd (d d' : GD) (e : Nat) (u : Ref) (m : Lab) : Prop where
 T : d'.T = if m = d.T u then d.T else updL d.T u m
 vs : d'.vs = d.vs
 N : d'.N = d.N
 lg : d'.lg = if m = d.T u then d.lg else d.lg ++ [⟨(e : Int), false, d.T u⟩]
 que : d'.que = if m = d.T u ∨ d.qd[e]? = some true then d.que else d.que ++ [(e : Int)]
 qd : d'.qd = if m = d.T u then d.qd else d.qd.set e true

set_option maxRecDepth 100000 in
set_option maxHeartbeats 2000000 in
theorem dupdate_any (s : GS) (w0 w : World) (d : GD) (h : Gm s w0 w d) (e f tf kf : Nat) (u : Ref) (wt : Int) (he : (evs s.ps)[e]? = some u) (hf : (evs s.ps)[f]? = some ⟨(tf : Int), (kf : Int)⟩) (htf : tf < 10) (hkf : kf ≤ 64) (hn : s.n ≤ 650)
  (hl : ∀ v, (d.T v).bef.length = 10 ∧ (∀ t, t < 10 → -1 ≤ (d.T v).bf t ∧ (d.T v).bf t ≤ 64) ∧ -1 ≤ (d.T v).sec ∧ (d.T v).sec ≤ 3000000000) (hw : 0 ≤ wt ∧ wt ≤ 4194304) (hlg : d.lg.length ≤ 3000000000000) (hql : d.que.length ≤ 3000000000000) :
  Calls Try.prog 91 #[.pointer (some ⟨s.gb, 0, none⟩), .int .i64 (e : Int), .int .i64 (f : Int), .int .i64 wt] w fun r w' => r = .returned (.tuple #[]) ∧ ∃ d', Gm s w0 w' d' ∧ Upd d d' e u (mergeL (d.T u) (d.T ⟨(tf : Int), (kf : Int)⟩) ⟨(tf : Int), (kf : Int)⟩ wt) := by
 have hel := getElem?_lt he
 have hfl := getElem?_lt hf
 obtain ⟨eb, ce, hev, e0, e1⟩ := h.evc hf
 simp only at e0 e1
 have c6 := h.c6
 have c7 := h.c7
 rw [hev] at c6
 have HM := Lib.hid (fun W (hW : KeepsAll w W) => merged_any W s.gb s.lb eb ce s.n f tf kf (d.T u) (d.T ⟨(tf : Int), (kf : Int)⟩) wt (h.keep hW).c7 (by rw [(h.keep hW).c6, hev]) ((h.keep hW).lab hf) (by obtain ⟨eb', ce', h1, h2, h3⟩ := (h.keep hW).evc hf; rw [hev] at h1; injection h1 with h1; injection h1 with h1; injection h1 with h1; subst h1; exact h2) (by obtain ⟨eb', ce', h1, h2, h3⟩ := (h.keep hW).evc hf; rw [hev] at h1; injection h1 with h1; injection h1 with h1; injection h1 with h1; subst h1; exact h3) hfl hn htf hkf (hl u).1 (fun t ht => ((hl u).2.1 t ht).1) ⟨(hl _).2.2.1, (hl _).2.2.2⟩ hw)
 have HU := Lib.hid (h.lab he)
 have l0 := HU.out 0 _ rfl
 have l1 := HU.out 1 _ rfl
 have l2 := HU.out 2 _ rfl
 have l3 := HU.out 3 _ rfl
 have l4 := HU.out 4 _ rfl
 have l5 := HU.out 5 _ rfl
 have l6 := HU.out 6 _ rfl
 have l7 := HU.out 7 _ rfl
 have l8 := HU.out 8 _ rfl
 have l9 := HU.out 9 _ rfl
 have l10 := HU.out 10 _ rfl
 simp [labC, b8] at l0 l1 l2 l3 l4 l5 l6 l7 l8 l9 l10
 have hgz := h.b.lt
 have hlz := h.l.lt
 have hez : eb < w.heap.size := World.block_lt_of_cell? w ⟨eb, f * 2, none⟩ e0
 have hen : e < s.n := hel
 have H := Lib.hid h
 clear h hel hfl hev e0 e1 hez
 generalize hnn : s.n = n at *
 have HN := Lib.hid hnn; clear hnn
 go_enter Try.func91, Try.ntmps91
 go_wp2_with fail
 refine (HM.out w (Keeps.refl _ _)).mono ?_
 rintro r w1 ⟨rfl, k1⟩
 generalize hm : mergeL (d.T u) (d.T ⟨(tf : Int), (kf : Int)⟩) ⟨(tf : Int), (kf : Int)⟩ wt = m
 have HMM := Lib.hid hm
 have hmb : m.bef.length = 10 ∧ (-1 ≤ m.sec ∧ m.sec ≤ 4000000000) ∧ ∀ t, t < 10 → -1 ≤ m.bf t ∧ m.bf t ≤ 64 := by
  have h1 := (hl u).2.2
  have h2 := (hl ⟨(tf : Int), (kf : Int)⟩).2.2
  rw [← hm]
  refine ⟨mergeL_len _ _ _ _, ?_, fun t ht => ?_⟩
  ·unfold mergeL; simp only; omega
  ·have h3 := (hl u).2.1 t ht
   have h4 := (hl ⟨(tf : Int), (kf : Int)⟩).2.1 t ht
   unfold mergeL
   rw [bf_map _ _ ht]
   simp only
   split <;> omega
 have hq := fun W => eqL_run (a := m) (b := d.T u) hmb.1 (hl u).1 ⟨by omega, by omega⟩ ⟨by have := (hl u).2.2; omega, by have := (hl u).2.2; omega⟩ (fun t ht => by have := hmb.2.2 t ht; omega) (fun t ht => by have := (hl u).2.1 t ht; omega) W
 have HMB := Lib.hid hmb
 clear hm hmb
 simp only [labC, b8] at hq
 simp only [labV, labC, b8]
 go_wp2_with fail
 generalize hW2 : World.alloc w1 _ = W2
 have KW2 : KeepsAll w W2 := by subst hW2; exact k1.alloc _
 have B8 : Hid (Blk W2 w1.heap.size 130 (labC m)) := by subst hW2; exact Blk.new _ _ _
 clear hW2 k1 c6
 replace c7 := KW2.cellK (p := ⟨s.gb, 7, none⟩) hgz c7
 replace l0 := KW2.cellK (p := ⟨s.lb, e * 11, none⟩) hlz l0
 replace l1 := KW2.cellK (p := ⟨s.lb, e * 11 + 1, none⟩) hlz l1
 replace l2 := KW2.cellK (p := ⟨s.lb, e * 11 + 2, none⟩) hlz l2
 replace l3 := KW2.cellK (p := ⟨s.lb, e * 11 + 3, none⟩) hlz l3
 replace l4 := KW2.cellK (p := ⟨s.lb, e * 11 + 4, none⟩) hlz l4
 replace l5 := KW2.cellK (p := ⟨s.lb, e * 11 + 5, none⟩) hlz l5
 replace l6 := KW2.cellK (p := ⟨s.lb, e * 11 + 6, none⟩) hlz l6
 replace l7 := KW2.cellK (p := ⟨s.lb, e * 11 + 7, none⟩) hlz l7
 replace l8 := KW2.cellK (p := ⟨s.lb, e * 11 + 8, none⟩) hlz l8
 replace l9 := KW2.cellK (p := ⟨s.lb, e * 11 + 9, none⟩) hlz l9
 replace l10 := KW2.cellK (p := ⟨s.lb, e * 11 + 10, none⟩) hlz l10
 have hgz' : s.gb < W2.heap.size := Nat.lt_of_lt_of_le hgz KW2.size
 have hlz' : s.lb < W2.heap.size := Nat.lt_of_lt_of_le hlz KW2.size
 have hz8 := B8.out.lt
 have m0 := B8.out.cell 0
 have m1 := B8.out.cell 1
 have m2 := B8.out.cell 2
 have m3 := B8.out.cell 3
 have m4 := B8.out.cell 4
 have m5 := B8.out.cell 5
 have m6 := B8.out.cell 6
 have m7 := B8.out.cell 7
 have m8 := B8.out.cell 8
 have m9 := B8.out.cell 9
 have m10 := B8.out.cell 10
 simp [labC, b8] at m0 m1 m2 m3 m4 m5 m6 m7 m8 m9 m10
 generalize w1.heap.size = z8 at *
 clear hgz hlz
 refine wp_region_lex (fun w' => ∃ x : Ext W2, w' = x.val) [0, 1, 2, 3, 4, 5, 6, 7, 8] (by kernel_rfl) (by kernel_rfl) ⟨⟨_, (Keeps.refl _ _).drew⟩, rfl⟩ ?_
 have y7 := Ext.cell c7
 have x0 := Ext.cell m0
 have y10 := Ext.cell l0
 have x1 := Ext.cell m1
 have y11 := Ext.cell l1
 have x2 := Ext.cell m2
 have y12 := Ext.cell l2
 have x3 := Ext.cell m3
 have y13 := Ext.cell l3
 have x4 := Ext.cell m4
 have y14 := Ext.cell l4
 have x5 := Ext.cell m5
 have y15 := Ext.cell l5
 have x6 := Ext.cell m6
 have y16 := Ext.cell l6
 have x7 := Ext.cell m7
 have y17 := Ext.cell l7
 have x8 := Ext.cell m8
 have y18 := Ext.cell l8
 have x9 := Ext.cell m9
 have y19 := Ext.cell l9
 have x10 := Ext.cell m10
 have y110 := Ext.cell l10
 refine lex_q _ rfl rfl rfl ?_; go_big_quiet_step (fail); refine wpQuiet_nil ?_
 refine lex_q _ rfl rfl rfl ?_; go_big_quiet_step (fail); refine wpQuiet_nil ?_
 refine lex_nil _ rfl _ rfl rfl _ rfl ?_; go_simp
 iterate 6 (refine lex_q _ rfl rfl rfl ?_; go_big_quiet_step (fail); refine wpQuiet_nil ?_)
 simp only [wpLex]
 refine NoPanic.normal ?_
 have KD : KeepsAll W2 W2.drew := (Keeps.refl _ _).drew
 generalize W2.drew = wd at *
 have HD := Lib.hid (H.out.keep (KW2.tr KD))
 have BD := Lib.hid (B8.out.kept KD (by simp))
 clear H y7 x0 y10 x1 y11 x2 y12 x3 y13 x4 y14 x5 y15 x6 y16 x7 y17 x8 y18 x9 y19 x10 y110 c7 l0 l1 l2 l3 l4 l5 l6 l7 l8 l9 l10 m0 m1 m2 m3 m4 m5 m6 m7 m8 m9 m10 hq hgz' hlz' hz8 B8 KW2 KD HM HU
 clear W2
 by_cases hmu : m = d.T u
 ·have e1 : decide (m = d.T u) = true := decide_eq_true hmu
  rw [e1]
  go_wp2
  refine bodyPost_ret (results_none rfl _ _ _) rfl ?_
  exact ⟨rfl, d, HD.out, by rw [HMM.out]; exact ⟨by simp [hmu], rfl, rfl, by simp [hmu], by simp [hmu], by simp [hmu]⟩⟩
 ·have e1 : decide (m = d.T u) = false := decide_eq_false hmu
  rw [e1]
  obtain ⟨AL, cL, hlv, _, _⟩ := HD.out.lg.form
  have HLG := Lib.hid (hlv ▸ HD.out.lg)
  have HLV := Lib.hid hlv
  have FAR : Hid (∀ b, b < s.bs → ¬ ((Value.slice AL d.lg.length cL).ownBlock = some b)) := fun b hb e => by have := HLG.out.lt e; omega
  have hgb := HD.out.hi.1
  have hlb := HD.out.hi.2.1
  have c7 := HD.out.c7
  rw [HN.out] at c7
  have c9 := HD.out.b.cell 9
  simp at c9
  rw [hlv] at c9
  clear hlv
  have HU := HD.out.lab he
  have l0 := HU 0 _ rfl
  have l1 := HU 1 _ rfl
  have l2 := HU 2 _ rfl
  have l3 := HU 3 _ rfl
  have l4 := HU 4 _ rfl
  have l5 := HU 5 _ rfl
  have l6 := HU 6 _ rfl
  have l7 := HU 7 _ rfl
  have l8 := HU 8 _ rfl
  have l9 := HU 9 _ rfl
  have l10 := HU 10 _ rfl
  clear HU
  simp [labC, b8] at l0 l1 l2 l3 l4 l5 l6 l7 l8 l9 l10
  go_wp2_with fail
  refine wp_region_lex (fun w' => ∃ x : ExtC (fun b => (Value.slice AL d.lg.length cL).ownBlock = some b) wd, w' = x.val) [0, 1, 2, 3, 4, 5, 6, 7, 8, 9, 10, 11, 12, 13, 14, 15, 16, 17, 18] (by kernel_rfl) (by kernel_rfl) (ExtC.start _ _) ?_
  have y7 := ExtC.cell (C := fun b => (Value.slice AL d.lg.length cL).ownBlock = some b) c7 (FAR.out _ hgb)
  have y9 := ExtC.cell (C := fun b => (Value.slice AL d.lg.length cL).ownBlock = some b) c9 (FAR.out _ hgb)
  have x0 := ExtC.cell (C := fun b => (Value.slice AL d.lg.length cL).ownBlock = some b) l0 (FAR.out _ hlb)
  have x1 := ExtC.cell (C := fun b => (Value.slice AL d.lg.length cL).ownBlock = some b) l1 (FAR.out _ hlb)
  have x2 := ExtC.cell (C := fun b => (Value.slice AL d.lg.length cL).ownBlock = some b) l2 (FAR.out _ hlb)
  have x3 := ExtC.cell (C := fun b => (Value.slice AL d.lg.length cL).ownBlock = some b) l3 (FAR.out _ hlb)
  have x4 := ExtC.cell (C := fun b => (Value.slice AL d.lg.length cL).ownBlock = some b) l4 (FAR.out _ hlb)
  have x5 := ExtC.cell (C := fun b => (Value.slice AL d.lg.length cL).ownBlock = some b) l5 (FAR.out _ hlb)
  have x6 := ExtC.cell (C := fun b => (Value.slice AL d.lg.length cL).ownBlock = some b) l6 (FAR.out _ hlb)
  have x7 := ExtC.cell (C := fun b => (Value.slice AL d.lg.length cL).ownBlock = some b) l7 (FAR.out _ hlb)
  have x8 := ExtC.cell (C := fun b => (Value.slice AL d.lg.length cL).ownBlock = some b) l8 (FAR.out _ hlb)
  have x9 := ExtC.cell (C := fun b => (Value.slice AL d.lg.length cL).ownBlock = some b) l9 (FAR.out _ hlb)
  have x10 := ExtC.cell (C := fun b => (Value.slice AL d.lg.length cL).ownBlock = some b) l10 (FAR.out _ hlb)
  iterate 2 (refine lex_q _ rfl rfl rfl ?_; go_big_quiet_step (fail); refine wpQuiet_nil ?_)
  refine lex_nil _ rfl _ rfl rfl _ rfl ?_; go_simp
  iterate 4 (refine lex_q _ rfl rfl rfl ?_; go_big_quiet_step (fail); refine wpQuiet_nil ?_)
  refine lex_nil _ rfl _ rfl rfl _ rfl ?_; go_simp
  iterate 6 (refine lex_q _ rfl rfl rfl ?_; go_big_quiet_step (fail); refine wpQuiet_nil ?_)
  refine lex_a _ rfl rfl true (by kernel_rfl) ?_
  go_wp2
  refine ⟨fun _ => ⟨⟨_, ((Keeps.refl _ _).alloc _).drew⟩, rfl⟩, ?_⟩
  generalize hWb : World.drew (World.alloc wd _) = Wb
  have KB : KeepsAll wd Wb := by subst hWb; exact ((Keeps.refl _ _).alloc _).drew
  have HBX : Hid (Blk Wb wd.heap.size 154 ([Value.int .i64 (e : Int), .bool false] ++ (labC (d.T u)).toList).toArray) := by subst hWb; exact Blk.new wd _ _
  have HDB := Lib.hid (HD.out.keep KB)
  have HLG2 := Lib.hid (HLG.out.keeps RChg.ok KB (fun _ _ h => h.elim))
  have BDB := Lib.hid (BD.out.kept KB (by simp))
  have KB2 := Lib.hid KB
  have hbz := HD.out.bsz
  have hbz2 := HDB.out.bsz
  clear hWb KB BD
  refine lex_a _ rfl rfl true (by kernel_rfl) ?_
  go_wp2_with (at_builtin; refine wpList_append_L tyChg RChg.ok rfl (.tmp 33) (.tmp 43) rfl HLG2.out rfl _ ([Value.int .i64 (e : Int), .bool false] ++ (labC (d.T u)).toList) rfl HBX.out rfl ⟨(e : Int), false, d.T u⟩ (S := fun _ => False) rfl (fun _ h => h.elim) (by simp [Value.oneCell', labC, b8]) (by omega) (by omega) (by omega) ?_; intro v5 w5 HO5 HK5 HA5; obtain ⟨A5, c5, hv5, hv51, hv52⟩ := HO5.form; rw [List.length_append, List.length_singleton] at hv5; subst hv5)
  have K5 : Keeps (fun b => (Value.slice AL d.lg.length cL).ownBlock = some b) wd w5 := (KB2.out.mono (fun _ _ h => h.elim)).trans HK5 (fun _ _ h => h)
  have HG5 := Lib.hid (HDB.out.log HO5 (by rw [HLV.out]; exact HK5) (.inr (by rw [HLV.out]; exact HA5)))
  have hc9 : w5.cell? ⟨s.gb, 9, none⟩ = some (.slice AL d.lg.length cL) := (K5.cell (p := ⟨s.gb, 9, none⟩) HD.out.b.lt (FAR.out _ hgb)).trans c9
  have hf9 : w5.frozen? ⟨s.gb, 9, none⟩ = false := (HD.out.b.kept K5 (FAR.out _ hgb)).frozen 9
  have B5 := Lib.hid (((BDB.out.kept HK5 (fun e => HLG2.out.ne_blk BDB.out (by decide) e))).far (p := ⟨s.gb, 9, none⟩) (Blk.ne_ BDB.out HDB.out.b (by decide)) (Value.slice A5 (d.lg.length + 1) c5))
  refine ⟨fun _ => ⟨⟨_, K5⟩, rfl⟩, ?_⟩
  clear K5 HO5 HK5 HA5
  refine lex_nil _ rfl _ rfl rfl _ rfl ?_; go_simp
  refine lex_q _ rfl rfl rfl ?_; go_big_quiet_step (fail); refine wpQuiet_nil ?_
  refine lex_a _ rfl rfl false (by kernel_rfl) ?_
  go_wp2
  refine ⟨fun h => (by cases h), ?_⟩
  simp only [wpLex]
  refine NoPanic.normal ?_
  generalize hWc : World.setCell w5 _ _ = Wc
  rw [hWc] at HG5 B5
  clear hWc hc9 hf9 HDB HLG2 BDB KB2 hbz hbz2 HD HLG HLV FAR HBX c7 c9 l0 l1 l2 l3 l4 l5 l6 l7 l8 l9 l10 y7 y9 x0 x1 x2 x3 x4 x5 x6 x7 x8 x9 x10
  have HGc := HG5.out.c7
  rw [HN.out] at HGc
  have m0 := B5.out.cell 0
  have m1 := B5.out.cell 1
  have m2 := B5.out.cell 2
  have m3 := B5.out.cell 3
  have m4 := B5.out.cell 4
  have m5 := B5.out.cell 5
  have m6 := B5.out.cell 6
  have m7 := B5.out.cell 7
  have m8 := B5.out.cell 8
  have m9 := B5.out.cell 9
  have m10 := B5.out.cell 10
  simp [labC, b8] at m0 m1 m2 m3 m4 m5 m6 m7 m8 m9 m10
  go_wp2_with fail
  refine wp_region_lex (fun w' => ∃ x : Ext Wc, w' = x.val) [0, 1, 2, 3, 4, 5, 6, 7] (by kernel_rfl) (by kernel_rfl) ⟨⟨_, (Keeps.refl _ _).drew⟩, rfl⟩ ?_
  have y7 := Ext.cell HGc
  have x0 := Ext.cell m0
  have x1 := Ext.cell m1
  have x2 := Ext.cell m2
  have x3 := Ext.cell m3
  have x4 := Ext.cell m4
  have x5 := Ext.cell m5
  have x6 := Ext.cell m6
  have x7 := Ext.cell m7
  have x8 := Ext.cell m8
  have x9 := Ext.cell m9
  have x10 := Ext.cell m10
  refine lex_q _ rfl rfl rfl ?_; go_big_quiet_step (fail); refine wpQuiet_nil ?_
  refine lex_nil _ rfl _ rfl rfl _ rfl ?_; go_simp
  iterate 5 (refine lex_q _ rfl rfl rfl ?_; go_big_quiet_step (fail); refine wpQuiet_nil ?_)
  refine lex_a _ rfl rfl false (by kernel_rfl) ?_
  have HG6 := Lib.hid (HG5.out.keep ((Keeps.refl _ _).drew))
  clear HG5 B5 HGc m0 m1 m2 m3 m4 m5 m6 m7 m8 m9 m10 y7 x0 x1 x2 x3 x4 x5 x6 x7 x8 x9 x10
  generalize Wc.drew = Wd at *
  have HU := HG6.out.lab he
  have l0 := HU 0 _ rfl
  have l1 := HU 1 _ rfl
  have l2 := HU 2 _ rfl
  have l3 := HU 3 _ rfl
  have l4 := HU 4 _ rfl
  have l5 := HU 5 _ rfl
  have l6 := HU 6 _ rfl
  have l7 := HU 7 _ rfl
  have l8 := HU 8 _ rfl
  have l9 := HU 9 _ rfl
  have l10 := HU 10 _ rfl
  clear HU
  simp [labC, b8] at l0 l1 l2 l3 l4 l5 l6 l7 l8 l9 l10
  have f0 := HG6.out.l.frozen (e * 11)
  have f1 := HG6.out.l.frozen (e * 11 + 1)
  have f2 := HG6.out.l.frozen (e * 11 + 2)
  have f3 := HG6.out.l.frozen (e * 11 + 3)
  have f4 := HG6.out.l.frozen (e * 11 + 4)
  have f5 := HG6.out.l.frozen (e * 11 + 5)
  have f6 := HG6.out.l.frozen (e * 11 + 6)
  have f7 := HG6.out.l.frozen (e * 11 + 7)
  have f8 := HG6.out.l.frozen (e * 11 + 8)
  have f9 := HG6.out.l.frozen (e * 11 + 9)
  have f10 := HG6.out.l.frozen (e * 11 + 10)
  go_wp2
  refine ⟨fun h => (by cases h), ?_⟩
  simp only [wpLex]
  refine NoPanic.normal ?_
  have HG7 := Lib.hid (HG6.out.setLab he m)
  simp only [storeLab] at HG7
  clear HG6 l0 l1 l2 l3 l4 l5 l6 l7 l8 l9 l10 f0 f1 f2 f3 f4 f5 f6 f7 f8 f9 f10
  generalize hWe : World.setCell _ _ _ = We
  rw [hWe] at HG7
  clear hWe
  clear Wd
  have g11 := HG7.out.b.cell 11
  simp at g11
  rw [HN.out] at g11
  have hqe : e < d.qd.length := by have := HG7.out.ql; simp only at this; rw [HN.out] at this; omega
  have hqx : d.qd[e]? = some d.qd[e] := List.getElem?_eq_getElem hqe
  generalize d.qd[e] = qb at *
  have qx := (HG7.out.qd.cell e).trans (boolsC_at hqx)
  rcases qb with _ | _
  ·have fx := HG7.out.qd.frozen e
   have HG8 := Lib.hid (HG7.out.setQd e true)
   obtain ⟨Aq, cq, hqv, _, _⟩ := HG8.out.q.form
   simp only at hqv
   have HQO : Hid (OwnL 3 1 RInt (We.setCell ⟨s.qb, e, none⟩ (.bool true)) s.bs s.bs (.slice Aq d.que.length cq) d.que) := Lib.hid (hqv ▸ HG8.out.q)
   have HQV := Lib.hid hqv
   have FARQ : Hid (∀ b, b < s.bs → ¬ ((Value.slice Aq d.que.length cq).ownBlock = some b)) := fun b hb e => by have := HQO.out.lt e; omega
   have g10 := HG8.out.b.cell 10
   simp at g10
   rw [hqv] at g10
   have hbz := HG8.out.bsz
   have hgl := HG8.out.b.lt
   clear hqv
   have n3 := HG7.out.nes.2.2.1
   have g10b : We.cell? ⟨s.gb, 10, none⟩ = some (.slice Aq d.que.length cq) := by
    have := HG7.out.b.cell 10
    simp at this
    rw [HQV.out] at this
    exact this
   have hn3 : s.n = d.qd.length := by have := HG7.out.ql; simpa using this.symm
   have hbz7 := HG7.out.bsz
   have hgl7 := HG7.out.b.lt
   go_wp2_with (at_builtin; refine wpList_append_L tyInt RInt.ok rfl (.tmp 72) (.tmp 74) rfl (HQO.out.alloc RInt.ok _) rfl _ [.int .i64 (e : Int)] rfl (Blk.new' _ _ _ (by simp)) rfl (e : Int) (S := fun _ => False) rfl (fun _ h => h.elim) (by simp [Value.oneCell']) (by omega) (by omega) (by simp; omega) ?_; intro v9 w9 HO9 HK9 HA9; have HG9 := Lib.hid ((HG8.out.keep ((Keeps.refl _ _).alloc _)).setQ HO9 (by show Keeps (fun b => d.qv.ownBlock = some b) _ _; rw [HQV.out]; exact HK9) (.inr (by show _ = d.qv.ownBlock ∨ _; rw [HQV.out]; exact HA9))); have hc10 := (HK9.cell (p := ⟨s.gb, 10, none⟩) (by simp; omega) (FARQ.out _ hgb)).trans (((Keeps.refl (fun _ => False) _).alloc _).cellK (p := ⟨s.gb, 10, none⟩) hgl g10); have hf10 := ((HG8.out.keep ((Keeps.refl _ _).alloc _)).b.kept HK9 (FARQ.out _ hgb)).frozen 10; obtain ⟨A9, c9, hv9, _, _⟩ := HO9.form; rw [List.length_append, List.length_singleton] at hv9; subst hv9; clear HO9 HK9 HA9)
   refine bodyPost_end (results_none rfl _ _ _) rfl ?_
   exact ⟨rfl, _, HG9.out, by rw [HMM.out]; exact ⟨by simp [hmu], rfl, rfl, by simp [hmu], by simp [hmu, hqx], by simp [hmu]⟩⟩
  ·go_wp2
   refine bodyPost_end (results_none rfl _ _ _) rfl ?_
   exact ⟨rfl, _, HG7.out, by rw [HMM.out]; exact ⟨by simp [hmu], rfl, rfl, by simp [hmu], by simp [hmu, hqx], by
    simp only [if_neg hmu]
    apply List.ext_getElem?
    intro j
    rw [List.getElem?_set]
    by_cases hj : e = j
    ·subst hj; rw [if_pos rfl, if_pos hqe]; exact hqx
    ·rw [if_neg hj]⟩⟩

end Go.Proofs.Ytilbbpbjhoidhaa
