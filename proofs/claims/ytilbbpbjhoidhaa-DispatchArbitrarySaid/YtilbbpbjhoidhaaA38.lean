/- The state of decide's loop of chapter 37 within a round. No program in sight but the state in memory. -/
import Derived.Test.YtilbbpbjhoidhaaA37
import Derived.Deep.CutRange
namespace Go.Proofs.Ytilbbpbjhoidhaa
open Go.RowKit

/-- decide's loop behind the count of a step -/
structure DcM (X : Foot) (s : GS) (w0 : World) (p : Pb) (budget zb : Nat) (au ap : Option Addr) (cu cp : Nat) (w : World) (d : GD) (D : List RArc) (bs : List Bool) (k : Nat) (st : SSt) (z5 z6 : Nat) (i : Nat) (wr : World) (d' : GD) (st' : SSt) : Prop where
 sr : Srch X s w0 p budget zb au ap cu cp wr d' ⟨st'.steps + 1, st'.best⟩
 le : st'.steps < budget
 gp : GP s D d'
 eq : d'.T = d.T ∧ d'.N = d.N ∧ d'.lg = d.lg ∧ d'.qd = d.qd
 fr : Frm s zb w d wr d'
 n5 : ¬ GOwn s d' z5 ∧ z5 ≠ zb
 n6 : ¬ GOwn s d' z6 ∧ z6 ≠ zb
 res : decF budget p (k + 1) bs st = decT budget p (decF budget p k) bs ([true, false].drop i) st'
/-- what stands behind a step: given up (true), or to be taken back -/
def DcT (X : Foot) (s : GS) (w0 : World) (p : Pb) (budget zb : Nat) (au ap : Option Addr) (cu cp : Nat) (w : World) (d : GD) (bs : List Bool) (k : Nat) (st : SSt) (z5 z6 : Nat) (i : Nat) (c5 c6 : Array Value) (b : Bool) (wx : World) : Prop :=
 (b = true → DecPost X s w0 p budget zb au ap cu cp w d (decF budget p (k + 1) bs st) (.returned (.bool false)) wx ∧ (decF budget p (k + 1) bs st).2.steps ≤ budget) ∧
 (b = false → ∃ d' st', Srch X s w0 p budget zb au ap cu cp wx d' st' ∧ st'.steps ≤ budget ∧ Frm s zb w d wx d' ∧ UnS s d.lg (d.T, d.N) d.qd d' ∧ d'.lg.length ≤ 3000000000000 ∧ (¬ GOwn s d' z5 ∧ z5 ≠ zb) ∧ (¬ GOwn s d' z6 ∧ z6 ≠ zb) ∧ Blk wx z5 133 c5 ∧ Blk wx z6 133 c6 ∧
  decF budget p (k + 1) bs st = decT budget p (decF budget p k) bs ([true, false].drop (i + 1)) st')
section
variable {X : Foot} {s : GS} {w0 : World} {p : Pb} {budget zb : Nat} {au ap : Option Addr} {cu cp : Nat} {w wr wq w1 w2 w3 w' : World} {d d' d1 d'' : GD} {D : List RArc} {bs : List Bool} {k : Nat} {st st' : SSt} {z5 z6 i : Nat} {c5 c6 : Array Value}
theorem DcL.step (h : DcL X s w0 p budget zb au ap cu cp w d D bs k st z5 z6 i wr d' st') (hlt : st'.steps ≠ budget) (K : KeepsAll wr wq) :
  DcM X s w0 p budget zb au ap cu cp w d D bs k st z5 z6 i (wq.setCell ⟨zb, 4, none⟩ (.int .i64 ((st'.steps : Int) + 1))) d' st' :=
 ⟨(h.sr.keep K).step, by have := h.le; omega, h.gp, h.eq, h.fr.trans ((Frm.keep (s := s) (zb := zb) (d := d') K).trans (Frm.own (d := d') ((Keeps.refl (fun b => b = zb) wq).setCell (p := ⟨zb, 4, none⟩) (fun _ => rfl) (.int .i64 ((st'.steps : Int) + 1))))), h.n5, h.n6, h.res⟩
theorem DcM.keep (h : DcM X s w0 p budget zb au ap cu cp w d D bs k st z5 z6 i wq d' st') (K : KeepsAll wq w') : DcM X s w0 p budget zb au ap cu cp w d D bs k st z5 z6 i w' d' st' :=
 ⟨h.sr.keep K, h.le, h.gp, h.eq, h.fr.trans (Frm.keep K), h.n5, h.n6, h.res⟩
/-- choose in a round -/
theorem DcM.choose (hs : SOk s) (h : DcM X s w0 p budget zb au ap cu cp w d D bs k st z5 z6 i wq d' st') {a : RArc} (hc : ChPost (s.fr wq d') w0 D a d' w1) (hl : D.length + 1 ≤ 90000000) :
  ∃ d1, Srch X s w0 p budget zb au ap cu cp w1 d1 ⟨st'.steps + 1, st'.best⟩ ∧ Frm s zb wq d' w1 d1 ∧ Keeps (GOwn s d') wq w1 ∧ UnS s d.lg (d.T, d.N) d.qd d1 ∧ d1.lg.length ≤ 3000000000000 ∧ (okD s.ps s.at_ (D ++ [a]) = true → GP s (D ++ [a]) d1) := by
 obtain ⟨d1, hg, hy, hn⟩ := hc
 have hfr : Frm s zb wq d' w1 d1 := Frm.move hg
 have hk : Keeps (GOwn s d') wq w1 := by
  have k1 := h.sr.g.k
  have k2 := hg.k
  exact ⟨k2.os.trans k1.os.symm, k2.tape.trans k1.tape.symm, k2.output.trans k1.output.symm, hg.zs, fun b hb hn => (hg.frk hb hn).1⟩
 refine ⟨d1, h.sr.move hg, hfr, hk, ?_, ?_, fun e => (hy e).1.unfr⟩
 ·cases e : okD s.ps s.at_ (D ++ [a]) with
  | false =>
   obtain rfl := hn e
   exact ⟨⟨[], by simp [h.eq.2.2.1], by show _ = _; rw [h.eq.1, h.eq.2.1]⟩, h.eq.2.2.2⟩
  | true =>
   obtain ⟨hp, es, h1, h2⟩ := hy e
   refine ⟨⟨es, by rw [h1, h.eq.2.2.1], by rw [← h.eq.1, ← h.eq.2.1]; exact h2⟩, ?_⟩
   rw [← h.eq.2.2.2]
   have l1 : d1.qd.length = s.n := hg.ql
   have l2 := h.sr.g.ql
   refine List.ext_getElem? fun j => ?_
   have g1 := hp.fl j
   have g2 := h.gp.fl j
   by_cases hj : j < s.n
   ·rw [List.getElem?_eq_getElem (by omega)] at g1 ⊢
    rw [List.getElem?_eq_getElem (by omega)] at g2 ⊢
    generalize d1.qd[j]'_ = x at *
    generalize d'.qd[j]'_ = y at *
    cases x <;> cases y <;> simp_all
   ·rw [List.getElem?_eq_none (by omega), List.getElem?_eq_none (by omega)]
 ·cases e : okD s.ps s.at_ (D ++ [a]) with
  | false =>
   obtain rfl := hn e
   have := h.gp.lg_len hs
   omega
  | true =>
   have := (hy e).1.unfr.lg_len hs
   rw [List.length_append] at this
   simp at this
   omega
/-- a choice that is given up -/
theorem DcM.no (h : DcM X s w0 p budget zb au ap cu cp w d D bs k st z5 z6 i wq d' st') {b : Bool} (hb : [true, false].drop i = b :: [true, false].drop (i + 1)) (hgo : goOn p (bs ++ [b]) st' = false)
  (hs1 : Srch X s w0 p budget zb au ap cu cp w1 d1 ⟨st'.steps + 1, st'.best⟩) (hf1 : Frm s zb wq d' w1 d1) (hu : UnS s d.lg (d.T, d.N) d.qd d1) (hl : d1.lg.length ≤ 3000000000000) (h5 : Blk wq z5 133 c5) (h6 : Blk wq z6 133 c6) (K : KeepsAll w1 w2) :
  DcT X s w0 p budget zb au ap cu cp w d bs k st z5 z6 i c5 c6 false w2 := by
 refine ⟨fun e => (by cases e), fun _ => ⟨d1, _, hs1.keep K, h.le, h.fr.trans (hf1.trans (Frm.keep K)), hu, hl, ⟨(hf1.blk h5 h.n5.1 h.n5.2).2, h.n5.2⟩, ⟨(hf1.blk h6 h.n6.1 h.n6.2).2, h.n6.2⟩, (hf1.blk h5 h.n5.1 h.n5.2).1.kept K (by simp), (hf1.blk h6 h.n6.1 h.n6.2).1.kept K (by simp), ?_⟩⟩
 have := h.le
 rw [h.res, hb, decT, if_neg (by omega), hgo, if_neg (by simp)]
/-- a choice that is gone on with -/
theorem DcM.yes (h : DcM X s w0 p budget zb au ap cu cp w d D bs k st z5 z6 i wq d' st') {b : Bool} (hb : [true, false].drop i = b :: [true, false].drop (i + 1)) (hgo : goOn p (bs ++ [b]) st' = true)
  (hf1 : Frm s zb wq d' w1 d1) (hu : UnS s d.lg (d.T, d.N) d.qd d1) (hl : d1.lg.length ≤ 3000000000000) (h5 : Blk wq z5 133 c5) (h6 : Blk wq z6 133 c6) (K : KeepsAll w1 w2) {e : Ending}
  (hp : DecPost X s w0 p budget zb au ap cu cp w2 d1 (decF budget p k (bs ++ [b]) ⟨st'.steps + 1, st'.best⟩) e w3 ∧ (decF budget p k (bs ++ [b]) ⟨st'.steps + 1, st'.best⟩).2.steps ≤ budget) :
  ∃ r : Bool, e = .returned (.bool r) ∧ DcT X s w0 p budget zb au ap cu cp w d bs k st z5 z6 i c5 c6 (!r) w3 := by
 obtain ⟨⟨he, d2, hs2, hf2, hq⟩, hle⟩ := hp
 have hlt := h.le
 have hres := h.res
 rw [hb, decT, if_neg (by omega), if_pos hgo] at hres
 have hf := h.fr.trans (hf1.trans ((Frm.keep K).trans hf2))
 refine ⟨_, he, fun e1 => ?_, fun e1 => ?_⟩
 ·have e1 : (decF budget p k (bs ++ [b]) ⟨st'.steps + 1, st'.best⟩).1 = false := by simpa using e1
  rw [e1, if_neg (by simp)] at hres
  rw [hres]
  exact ⟨⟨rfl, d2, hs2, hf, fun e => (by cases e)⟩, hle⟩
 ·have e1 : (decF budget p k (bs ++ [b]) ⟨st'.steps + 1, st'.best⟩).1 = true := by simpa using e1
  rw [e1, if_pos rfl] at hres
  obtain ⟨q1, q2, q3, q4⟩ := hq e1
  have m5 := (hf1.blk h5 h.n5.1 h.n5.2)
  have m6 := (hf1.blk h6 h.n6.1 h.n6.2)
  have p5 := hf2.blk (m5.1.kept K (by simp)) m5.2 h.n5.2
  have p6 := hf2.blk (m6.1.kept K (by simp)) m6.2 h.n6.2
  refine ⟨d2, _, hs2, hle, hf, ⟨?_, q4.trans hu.qd⟩, by rw [q3]; exact hl, ⟨p5.2, h.n5.2⟩, ⟨p6.2, h.n6.2⟩, p5.1, p6.1, hres⟩
  obtain ⟨es, u1, u2⟩ := hu.ex
  exact ⟨es, q3.trans u1, by rw [q1, q2]; exact u2⟩
/-- taken back -/
theorem DcL.undone {w4 : World} {d4 : GD} (hsr : Srch X s w0 p budget zb au ap cu cp wr d' st') (hle : st'.steps ≤ budget) (hf : Frm s zb w d wr d') (n5 : ¬ GOwn s d' z5 ∧ z5 ≠ zb) (n6 : ¬ GOwn s d' z6 ∧ z6 ≠ zb) (b5 : Blk wr z5 133 c5) (b6 : Blk wr z6 133 c6)
  (hres : decF budget p (k + 1) bs st = decT budget p (decF budget p k) bs ([true, false].drop i) st') (hgp : GP s D d) (hg : Gm (s.fr wr d') w0 w4 d4) (e : d4.lg = d.lg ∧ d4.T = d.T ∧ d4.N = d.N ∧ d4.qd = d.qd) :
  DcL X s w0 p budget zb au ap cu cp w d D bs k st z5 z6 i w4 d4 st' ∧ Blk w4 z5 133 c5 ∧ Blk w4 z6 133 c6 := by
 have m : Frm s zb wr d' w4 d4 := Frm.move hg
 have p5 := m.blk b5 n5.1 n5.2
 have p6 := m.blk b6 n6.1 n6.2
 exact ⟨⟨hsr.move hg, hle, hgp.congr e.2.1 e.2.2.1 e.1 e.2.2.2, ⟨e.2.1, e.2.2.1, e.1, e.2.2.2⟩, hf.trans m, ⟨p5.2, n5.2⟩, ⟨p6.2, n6.2⟩, hres⟩, p5.1, p6.1⟩
/-- the two uses change places -/
theorem DcL.swap {w4 : World} {d4 : GD} {f : Ref → Int × Int} {ua ub : Ref} (h : DcL X s w0 p budget zb au ap cu cp w d D bs k st z5 z6 i w4 d4 st') (b5 : Blk w4 z5 133 (u4 f ua).toArray) (b6 : Blk w4 z6 133 (u4 f ub).toArray) (h5 : X z5) (h6 : X z6) (hs : s.bs ≤ w.heap.size) (g5 : w.heap.size ≤ z5) (g6 : w.heap.size ≤ z6) (hne : z5 ≠ z6) {W : World}
  (hW : W = ((((((((w4.setCell ⟨z5, 0, none⟩ (.int .i64 ub.tr)).setCell ⟨z5, 1, none⟩ (.int .i64 ub.st)).setCell ⟨z5, 2, none⟩ (.int .i64 (f ub).1)).setCell ⟨z5, 3, none⟩ (.int .i64 (f ub).2)).setCell ⟨z6, 0, none⟩ (.int .i64 ua.tr)).setCell ⟨z6, 1, none⟩ (.int .i64 ua.st)).setCell ⟨z6, 2, none⟩ (.int .i64 (f ua).1)).setCell ⟨z6, 3, none⟩ (.int .i64 (f ua).2))) :
  DcL X s w0 p budget zb au ap cu cp w d D bs k st z5 z6 i W d4 st' ∧ Blk W z5 133 (u4 f ub).toArray ∧ Blk W z6 133 (u4 f ua).toArray := by
 subst hW
 have k5 : Keeps (fun b => b = z5) w4 ((((w4.setCell ⟨z5, 0, none⟩ (.int .i64 ub.tr)).setCell ⟨z5, 1, none⟩ (.int .i64 ub.st)).setCell ⟨z5, 2, none⟩ (.int .i64 (f ub).1)).setCell ⟨z5, 3, none⟩ (.int .i64 (f ub).2)) :=
  ((((Keeps.refl (fun b => b = z5) w4).setCell (p := ⟨z5, 0, none⟩) (fun _ => rfl) _).setCell (p := ⟨z5, 1, none⟩) (fun _ => rfl) _).setCell (p := ⟨z5, 2, none⟩) (fun _ => rfl) _).setCell (p := ⟨z5, 3, none⟩) (fun _ => rfl) _
 have q5 : Blk ((((w4.setCell ⟨z5, 0, none⟩ (.int .i64 ub.tr)).setCell ⟨z5, 1, none⟩ (.int .i64 ub.st)).setCell ⟨z5, 2, none⟩ (.int .i64 (f ub).1)).setCell ⟨z5, 3, none⟩ (.int .i64 (f ub).2)) z5 133 (u4 f ub).toArray := (((b5.set_ 0 _).set_ 1 _).set_ 2 _).set_ 3 _
 have h1 := h.far k5 h5 h.n5 (Nat.le_trans hs g5) g5
 have b6' := b6.kept k5 (fun e => hne e.symm)
 generalize ((((w4.setCell ⟨z5, 0, none⟩ (.int .i64 ub.tr)).setCell ⟨z5, 1, none⟩ (.int .i64 ub.st)).setCell ⟨z5, 2, none⟩ (.int .i64 (f ub).1)).setCell ⟨z5, 3, none⟩ (.int .i64 (f ub).2)) = w5 at *
 have k6 : Keeps (fun b => b = z6) w5 ((((w5.setCell ⟨z6, 0, none⟩ (.int .i64 ua.tr)).setCell ⟨z6, 1, none⟩ (.int .i64 ua.st)).setCell ⟨z6, 2, none⟩ (.int .i64 (f ua).1)).setCell ⟨z6, 3, none⟩ (.int .i64 (f ua).2)) :=
  ((((Keeps.refl (fun b => b = z6) w5).setCell (p := ⟨z6, 0, none⟩) (fun _ => rfl) _).setCell (p := ⟨z6, 1, none⟩) (fun _ => rfl) _).setCell (p := ⟨z6, 2, none⟩) (fun _ => rfl) _).setCell (p := ⟨z6, 3, none⟩) (fun _ => rfl) _
 exact ⟨h1.far k6 h6 h1.n6 (Nat.le_trans hs g6) g6, q5.kept k6 hne, (((b6'.set_ 0 _).set_ 1 _).set_ 2 _).set_ 3 _⟩
end

end Go.Proofs.Ytilbbpbjhoidhaa
