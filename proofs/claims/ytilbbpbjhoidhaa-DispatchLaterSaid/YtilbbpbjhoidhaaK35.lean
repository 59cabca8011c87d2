/- The state of the search of chapter 37 in memory. Conditions: as each theorem says. The program's pairs are the reference's. No condition. Contract of decide of chapter 37: a complete choice. Conditions: as the theorem says. -/
import Derived.Test.YtilbbpbjhoidhaaK33
import Derived.Test.YtilbbpbjhoidhaaK17
import Derived.Test.YtilbbpbjhoidhaaK34
import Derived.Test.YtilbbpbjhoidhaaK27
import Derived.Test.YtilbbpbjhoidhaaK14
namespace Go.Proofs.Ytilbbpbjhoidhaa
open Go.RowKit

section
variable {s : GS} {w0 wr w' : World} {d d' : GD} {D : List RArc}
/-- a block that is not the graph's turns -/
theorem Gm.keepZ (h : Gm s w0 wr d) {z : Nat} (k : Keeps (fun b => b = z) wr w') (hz : ¬ GOwn s d z) (hs : s.bs ≤ z) (hZ : ∀ b, ¬ s.Z b) : Gm s w0 w' d := by
  have h0 : w0.heap.size ≤ z := by have := h.lo.1; have := h.hi.1; omega
  have hk : ∀ b, b < w0.heap.size → b ≠ z := fun b hb e => by omega
  exact ⟨h.b.kept k (fun e => hz (.inl e.symm)), k.rd RPaths.ok h.P (fun b hb => ⟨Nat.lt_of_lt_of_le hb h.k.size, hk b hb⟩) (fun _ h => h), k.rd RInts.ok h.A (fun b hb => ⟨Nat.lt_of_lt_of_le hb h.k.size, hk b hb⟩) (fun _ h => h),
    h.f.keepsF RInt.flat k (fun b hb e => by have := h.fl b hb; omega), h.fl, h.e.keepsF RRef.flat k (fun b hb e => by have := h.el b hb; omega), h.el, h.l.kept k (fun e => hz (.inr (.inl e.symm))),
    ⟨h.nr.blk.kept k (fun e => hz (.inr (.inr (.inl e.symm)))), h.nr.len, fun i v l hv hl => (h.nr.own i v l hv hl).keepsF RInt.flat k (fun b hb e => hz (.inr (.inr (.inr (.inr (.inr (.inr ⟨i, v, hv, e ▸ hb⟩))))))), h.nr.ne, h.nr.nb⟩,
    h.nl, h.lg.keepsF RChg.flat k (fun b hb e => hz (.inr (.inr (.inr (.inr (.inl (e ▸ hb)))))) ), h.q.keepsF RInt.flat k (fun b hb e => hz (.inr (.inr (.inr (.inr (.inr (.inl (e ▸ hb))))))) ), h.qd.kept k (fun e => hz (.inr (.inr (.inr (.inl e.symm))))), h.ql, h.ne, h.lo, h.hi, Nat.le_trans h.bsz k.size, h.k.trans k (fun b hb e => by omega),
    fun b hb => absurd hb (hZ b), Nat.le_trans h.zs k.size, h.zn⟩
/-- all blocks but the graph's own are kept apart -/
def GS.fr (s : GS) (w : World) (d : GD) : GS := { s with Z := fun b => b < w.heap.size ∧ ¬ GOwn s d b, wz := w }
theorem Gm.toFr (h : Gm s w0 wr d) : Gm (s.fr wr d) w0 wr d := h.rezone _ (fun _ hb => hb)
theorem GP.fr (h : GP s D d') (w : World) : GP (s.fr w d) D d' := ⟨h.dok, h.ho, h.fl, h.ex⟩
theorem GP.unfr {w : World} (h : GP (s.fr w d) D d') : GP s D d' := ⟨h.dok, h.ho, h.fl, h.ex⟩
theorem SOk.fr (h : SOk s) (w : World) : SOk (s.fr w d) := ⟨h.v, h.g, h.n⟩
theorem Gm.unfr (h : Gm (s.fr wr d) w0 w' d') (hZ : ∀ b, ¬ s.Z b) (hz : s.wz.heap.size ≤ wr.heap.size) : Gm s w0 w' d' :=
  ⟨h.b, h.P, h.A, h.f, h.fl, h.e, h.el, h.l, h.nr, h.nl, h.lg, h.q, h.qd, h.ql, h.ne, h.lo, h.hi, h.bsz, h.k, fun b hb => absurd hb (hZ b), Nat.le_trans hz h.zs, fun b _ => hZ b⟩
theorem Gm.frk (h : Gm (s.fr wr d) w0 w' d') {b : Nat} (hb : b < wr.heap.size) (hn : ¬ GOwn s d b) : w'.heap[b]? = wr.heap[b]? ∧ ¬ GOwn s d' b :=
  ⟨(h.z b ⟨hb, hn⟩).2, fun e => h.zn b e ⟨hb, hn⟩⟩
theorem GP.T_eq (hs : SOk s) (h : GP s D d) : d.T = labD s.ps s.at_ s.now D := by
  obtain ⟨D', L, ht, _, hT, _⟩ := h.ex
  funext u
  rw [hT, labD_eq hs.g h.dok (ok_of_topo hs.g h.dok h.ho ht) ht u]
end

/-- orders and times of a complete choice -/
def ordB (p : Pb) (bs : List Bool) : List Order := ordL p.ps p.at_ (labD p.ps p.at_ p.now (decs p.ps (xs p) bs)) 144
def entB (p : Pb) (bs : List Bool) : List (List Int) := tabOf p.ps (secD p (decs p.ps (xs p) bs))
/-- the best solution so far -/
def BestV (w : World) (S : Foot) (p : Pb) (best : Option (List Bool × Int)) (vo ve : Value) (vc : Int) (fd : Bool) : Prop :=
  match best with
  | none => fd = false
  | some b => fd = true ∧ vc = b.2 ∧ ROrders w S [vo] (ordB p b.1) ∧ RIntss w S [ve] (entB p b.1)
theorem BestV.mono {w w' : World} {S S' : Foot} {p : Pb} {best : Option (List Bool × Int)} {vo ve : Value} {vc : Int} {fd : Bool} (h : BestV w S p best vo ve vc fd) (hS : ∀ b, S b → S' b) (hw : ∀ b, S b → w'.heap[b]? = w.heap[b]?) : BestV w' S' p best vo ve vc fd := by
  cases best with
  | none => exact h
  | some b => exact ⟨h.1, h.2.1, ROrders.ok.mono h.2.2.1 hS hw, RIntss.ok.mono h.2.2.2 hS hw⟩
def srC (s : GS) (au ap : Option Addr) (cu cp np budget steps : Nat) (vo ve : Value) (vc : Int) (fd : Bool) : Array Value := #[.pointer (some ⟨s.gb, 0, none⟩), .slice au 144 cu, .slice ap np cp, .int .i64 (budget : Int), .int .i64 (steps : Int), vo, ve, .int .i64 vc, .bool fd]
/-- blocks that are neither the graph's nor the search's -/
def SFt (s : GS) (w : World) (d : GD) (zb : Nat) : Foot := fun b => b < w.heap.size ∧ ¬ GOwn s d b ∧ b ≠ zb
/-- .. and not of X -/
def SFX (X : Foot) (s : GS) (w : World) (d : GD) (zb : Nat) : Foot := fun b => SFt s w d zb b ∧ ¬ X b
/-- the search in memory; its own data do not rest on blocks of X -/
structure Srch (X : Foot) (s : GS) (w0 : World) (p : Pb) (budget zb : Nat) (au ap : Option Addr) (cu cp : Nat) (w : World) (d : GD) (st : SSt) : Prop where
  g : Gm s w0 w d
  sz : ∀ b, ¬ s.Z b
  bs : s.bs ≤ zb
  xo : ∀ b, X b → b < w.heap.size
  zn : ¬ GOwn s d zb
  b : ∃ vo ve vc fd, Blk w zb 83 (srC s au ap cu cp (prLs (usesP s.ps s.at_) 144).length budget st.steps vo ve vc fd) ∧ BestV w (SFX X s w d zb) p st.best vo ve vc fd
  u : RUsess w (SFX X s w d zb) [.slice au 144 cu] (usesP s.ps s.at_)
  pr : RPUs w (SFX X s w d zb) [.slice ap (prLs (usesP s.ps s.at_) 144).length cp] (prLs (usesP s.ps s.at_) 144)
section
variable {X : Foot} {s : GS} {w0 w w' : World} {p : Pb} {budget zb : Nat} {au ap : Option Addr} {cu cp : Nat} {d d' : GD} {st : SSt}
theorem Srch.zlt (h : Srch X s w0 p budget zb au ap cu cp w d st) : zb < w.heap.size := by
  obtain ⟨vo, ve, vc, fd, hb, _⟩ := h.b
  exact hb.lt
theorem Srch.keep (h : Srch X s w0 p budget zb au ap cu cp w d st) (k : KeepsAll w w') : Srch X s w0 p budget zb au ap cu cp w' d st := by
  have h1 : ∀ b, SFX X s w d zb b → SFX X s w' d zb b := fun b hb => ⟨⟨Nat.lt_of_lt_of_le hb.1.1 k.size, hb.1.2⟩, hb.2⟩
  have h2 : ∀ b, SFX X s w d zb b → w'.heap[b]? = w.heap[b]? := fun b hb => k.block b hb.1.1 (by simp)
  obtain ⟨vo, ve, vc, fd, hb, hbest⟩ := h.b
  exact ⟨h.g.keep k, h.sz, h.bs, fun b hb => Nat.lt_of_lt_of_le (h.xo b hb) k.size, h.zn, ⟨vo, ve, vc, fd, hb.kept k (by simp), hbest.mono h1 h2⟩, RUsess.ok.mono h.u h1 h2, (RSlice.ok RPU.ok).mono h.pr h1 h2⟩
/-- the graph moves -/
theorem Srch.move (h : Srch X s w0 p budget zb au ap cu cp w d st) (hg : Gm (s.fr w d) w0 w' d') : Srch X s w0 p budget zb au ap cu cp w' d' st := by
  have hz : w.heap.size ≤ w'.heap.size := hg.zs
  have h1 : ∀ b, SFX X s w d zb b → SFX X s w' d' zb b := fun b hb => ⟨⟨Nat.lt_of_lt_of_le hb.1.1 hz, (hg.frk hb.1.1 hb.1.2.1).2, hb.1.2.2⟩, hb.2⟩
  have h2 : ∀ b, SFX X s w d zb b → w'.heap[b]? = w.heap[b]? := fun b hb => (hg.frk hb.1.1 hb.1.2.1).1
  have hzl := h.zlt
  obtain ⟨vo, ve, vc, fd, hb, hbest⟩ := h.b
  exact ⟨hg.unfr h.sz h.g.zs, h.sz, h.bs, fun b hb => Nat.lt_of_lt_of_le (h.xo b hb) hz, (hg.frk hzl h.zn).2, ⟨vo, ve, vc, fd, ((hg.frk hzl h.zn).1).trans hb, hbest.mono h1 h2⟩, RUsess.ok.mono h.u h1 h2, (RSlice.ok RPU.ok).mono h.pr h1 h2⟩
/-- only the search's own block turns -/
theorem Srch.own (h : Srch X s w0 p budget zb au ap cu cp w d st) (k : Keeps (fun b => b = zb) w w') {st' : SSt}
    (hb : ∃ vo ve vc fd, Blk w' zb 83 (srC s au ap cu cp (prLs (usesP s.ps s.at_) 144).length budget st'.steps vo ve vc fd) ∧ BestV w' (SFX X s w' d zb) p st'.best vo ve vc fd) : Srch X s w0 p budget zb au ap cu cp w' d st' := by
  have h1 : ∀ b, SFX X s w d zb b → SFX X s w' d zb b := fun b hb => ⟨⟨Nat.lt_of_lt_of_le hb.1.1 k.size, hb.1.2⟩, hb.2⟩
  have h2 : ∀ b, SFX X s w d zb b → w'.heap[b]? = w.heap[b]? := fun b hb => k.block b hb.1.1 hb.1.2.2
  exact ⟨h.g.keepZ k h.zn h.bs h.sz, h.sz, h.bs, fun b hb => Nat.lt_of_lt_of_le (h.xo b hb) k.size, h.zn, hb, RUsess.ok.mono h.u h1 h2, (RSlice.ok RPU.ok).mono h.pr h1 h2⟩
theorem Srch.step (h : Srch X s w0 p budget zb au ap cu cp w d st) : Srch X s w0 p budget zb au ap cu cp (w.setCell ⟨zb, 4, none⟩ (.int .i64 ((st.steps : Int) + 1))) d ⟨st.steps + 1, st.best⟩ := by
  obtain ⟨vo, ve, vc, fd, hb, hbest⟩ := h.b
  have k : Keeps (fun b => b = zb) w (w.setCell ⟨zb, 4, none⟩ (.int .i64 ((st.steps : Int) + 1))) := (Keeps.refl (fun b => b = zb) w).setCell (p := ⟨zb, 4, none⟩) (fun _ => rfl) _
  exact h.own k ⟨vo, ve, vc, fd, hb.set_ 4 _, hbest.mono (fun b hb => ⟨⟨Nat.lt_of_lt_of_le hb.1.1 k.size, hb.1.2⟩, hb.2⟩) (fun b hb => k.block b hb.1.1 hb.1.2.2)⟩
/-- a block of X turns -/
theorem Srch.farX (h : Srch X s w0 p budget zb au ap cu cp w d st) {z : Nat} (k : Keeps (fun b => b = z) w w') (hX : X z) (hn : ¬ GOwn s d z) (hz : z ≠ zb) (hs : s.bs ≤ z) : Srch X s w0 p budget zb au ap cu cp w' d st := by
  have h1 : ∀ b, SFX X s w d zb b → SFX X s w' d zb b := fun b hb => ⟨⟨Nat.lt_of_lt_of_le hb.1.1 k.size, hb.1.2⟩, hb.2⟩
  have h2 : ∀ b, SFX X s w d zb b → w'.heap[b]? = w.heap[b]? := fun b hb => k.block b hb.1.1 (fun e => hb.2 (e ▸ hX))
  obtain ⟨vo, ve, vc, fd, hb, hbest⟩ := h.b
  exact ⟨h.g.keepZ k hn hs h.sz, h.sz, h.bs, fun b hb => Nat.lt_of_lt_of_le (h.xo b hb) k.size, h.zn, ⟨vo, ve, vc, fd, hb.kept k (fun e => hz e.symm), hbest.mono h1 h2⟩, RUsess.ok.mono h.u h1 h2, (RSlice.ok RPU.ok).mono h.pr h1 h2⟩
/-- more blocks, fewer blocks -/
theorem Srch.more (h : Srch X s w0 p budget zb au ap cu cp w d st) {Y : Foot} (k : KeepsAll w w') (hY : ∀ b, Y b → X b ∨ w.heap.size ≤ b ∧ b < w'.heap.size) : Srch Y s w0 p budget zb au ap cu cp w' d st := by
  have h1 : ∀ b, SFX X s w d zb b → SFX Y s w' d zb b := fun b hb => ⟨⟨Nat.lt_of_lt_of_le hb.1.1 k.size, hb.1.2⟩, fun e => (hY b e).elim hb.2 (fun e => by have := hb.1.1; omega)⟩
  have h2 : ∀ b, SFX X s w d zb b → w'.heap[b]? = w.heap[b]? := fun b hb => k.block b hb.1.1 (by simp)
  obtain ⟨vo, ve, vc, fd, hb, hbest⟩ := h.b
  exact ⟨h.g.keep k, h.sz, h.bs, fun b hb => (hY b hb).elim (fun e => Nat.lt_of_lt_of_le (h.xo b e) k.size) (fun e => e.2), h.zn, ⟨vo, ve, vc, fd, hb.kept k (by simp), hbest.mono h1 h2⟩, RUsess.ok.mono h.u h1 h2, (RSlice.ok RPU.ok).mono h.pr h1 h2⟩
theorem Srch.less (h : Srch X s w0 p budget zb au ap cu cp w d st) {Y : Foot} (hY : ∀ b, Y b → X b) : Srch Y s w0 p budget zb au ap cu cp w d st := h.more (Keeps.refl _ _) (fun b hb => .inl (hY b hb))
/-- what is neither the graph's nor the search's stays -/
structure Frm (s : GS) (zb : Nat) (w : World) (d : GD) (w' : World) (d' : GD) : Prop where
  sz : w.heap.size ≤ w'.heap.size
  bl : ∀ b, SFt s w d zb b → w'.heap[b]? = w.heap[b]? ∧ ¬ GOwn s d' b
theorem Frm.trans {w'' : World} {d'' : GD} (h : Frm s zb w d w' d') (h' : Frm s zb w' d' w'' d'') : Frm s zb w d w'' d'' :=
  ⟨Nat.le_trans h.sz h'.sz, fun b hb => by
    have h1 := h.bl b hb
    have h2 := h'.bl b ⟨Nat.lt_of_lt_of_le hb.1 h.sz, h1.2, hb.2.2⟩
    exact ⟨h2.1.trans h1.1, h2.2⟩⟩
theorem Frm.keep (k : KeepsAll w w') : Frm s zb w d w' d := ⟨k.size, fun b hb => ⟨k.block b hb.1 (by simp), hb.2.1⟩⟩
theorem Frm.own (k : Keeps (fun b => b = zb) w w') : Frm s zb w d w' d := ⟨k.size, fun b hb => ⟨k.block b hb.1 hb.2.2, hb.2.1⟩⟩
/-- a block that is newer turns -/
theorem Frm.new {w'' : World} {z : Nat} (h : Frm s zb w d w' d') (k : Keeps (fun b => b = z) w' w'') (hz : w.heap.size ≤ z) : Frm s zb w d w'' d' :=
  ⟨Nat.le_trans h.sz k.size, fun b hb => ⟨(k.block b (Nat.lt_of_lt_of_le hb.1 h.sz) (fun e => by have := hb.1; omega)).trans (h.bl b hb).1, (h.bl b hb).2⟩⟩
theorem Frm.move (h : Gm (s.fr w d) w0 w' d') : Frm s zb w d w' d' := ⟨h.zs, fun _ hb => h.frk hb.1 hb.2.1⟩
theorem Frm.blk (h : Frm s zb w d w' d') {g : Nat} {t : TypeId} {cs : Array Value} (hb : Blk w g t cs) (hn : ¬ GOwn s d g) (hz : g ≠ zb) : Blk w' g t cs ∧ ¬ GOwn s d' g :=
  ⟨(h.bl g ⟨hb.lt, hn, hz⟩).1.trans hb, (h.bl g ⟨hb.lt, hn, hz⟩).2⟩
end

/-- a pair of the program -/
def prOf (ps : List (List Stage)) (x : Pr) : Use × Use := (useOf ps x.res x.u, useOf ps x.res x.v)
theorem filter_none_ {α : Type} {q : α → Bool} : ∀ {l : List α}, (∀ x ∈ l, q x = false) → l.filter q = []
  | [], _ => rfl
  | a :: l, h => by rw [List.filter_cons_of_neg (by simp [h a (by simp)]), filter_none_ (fun x hx => h x (by simp [hx]))]
theorem pfx_pairs (ps : List (List Stage)) (r : Int) (u : Ref) : ∀ (l : List Ref), pfx (useOf ps r u) (l.map (useOf ps r)) = ((l.filter fun v => decide (u.tr < v.tr)).map fun v => (⟨r, u, v⟩ : Pr)).map (prOf ps)
  | [] => rfl
  | v :: l => by
    have ih := pfx_pairs ps r u l
    unfold pfx at ih ⊢
    rw [List.map_cons]
    by_cases h : u.tr < v.tr
    · have g1 : (fun v : Use => decide ((useOf ps r u).u.tr < v.u.tr)) (useOf ps r v) = true := decide_eq_true h
      have g2 : (fun v : Ref => decide (u.tr < v.tr)) v = true := decide_eq_true h
      rw [List.filter_cons_of_pos (p := fun v : Use => decide ((useOf ps r u).u.tr < v.u.tr)) g1, List.filter_cons_of_pos (p := fun v : Ref => decide (u.tr < v.tr)) g2, List.map_cons, List.map_cons, List.map_cons, ih]
      rfl
    · have g1 : ¬ (fun v : Use => decide ((useOf ps r u).u.tr < v.u.tr)) (useOf ps r v) = true := fun e => h (of_decide_eq_true e)
      have g2 : ¬ (fun v : Ref => decide (u.tr < v.tr)) v = true := fun e => h (of_decide_eq_true e)
      rw [List.filter_cons_of_neg (p := fun v : Use => decide ((useOf ps r u).u.tr < v.u.tr)) g1, List.filter_cons_of_neg (p := fun v : Ref => decide (u.tr < v.tr)) g2, ih]
/-- the pairs of the first n uses -/
theorem prN_pairs (ps : List (List Stage)) (r : Int) {l : List Ref} (hl : l.Pairwise fun a b => a.tr ≤ b.tr) : ∀ n, n ≤ l.length → prN (l.map (useOf ps r)) n = ((l.take n).flatMap fun u => (l.filter fun v => decide (u.tr < v.tr)).map fun v => (⟨r, u, v⟩ : Pr)).map (prOf ps)
  | 0, _ => by simp [prN]
  | n + 1, hn => by
    have hx : l[n]? = some l[n] := List.getElem?_eq_getElem (by omega)
    have hd : l.filter (fun v => decide (l[n].tr < v.tr)) = (l.drop (n + 1)).filter (fun v => decide (l[n].tr < v.tr)) := by
      have e : l = l.take (n + 1) ++ l.drop (n + 1) := (List.take_append_drop (n + 1) l).symm
      have h0 : (l.take (n + 1)).filter (fun v => decide (l[n].tr < v.tr)) = [] := by
        refine filter_none_ fun v hv => ?_
        obtain ⟨i, hi, rfl⟩ := List.getElem_of_mem hv
        rw [List.length_take] at hi
        rw [List.getElem_take]
        have : l[i].tr ≤ l[n].tr := by
          by_cases he : i = n
          · subst he; exact Int.le_refl _
          · exact (List.pairwise_iff_getElem.1 hl) i n (by omega) (by omega) (by omega)
        simp; omega
      have h1 := congrArg (fun m => m.filter fun v => decide (l[n].tr < v.tr)) e
      simp only [List.filter_append, h0, List.nil_append] at h1
      exact h1
    rw [prN, prN_pairs ps r hl n (by omega), List.getElem?_map, hx, List.take_add_one, hx]
    simp only [Option.map_some, Option.toList_some, List.flatMap_append, List.flatMap_cons, List.flatMap_nil, List.append_nil, List.map_append]
    rw [← List.map_drop, pfx_pairs, hd]
theorem openA_asc (ps : List (List Stage)) (at_ : List Int) (r : Int) : (openA ps at_ r).Pairwise fun a b => a.tr ≤ b.tr := by
  have h : (allU ps r).Pairwise fun a b => a.tr ≤ b.tr := (allU_lex ps r).imp (fun h => by
    unfold Lex at h
    omega)
  exact h.sublist List.filter_sublist
theorem prLs_pairs (ps : List (List Stage)) (at_ : List Int) : ∀ n, n ≤ 144 → prLs (usesP ps at_) n = (pairsTo ps at_ n).map (prOf ps)
  | 0, _ => rfl
  | n + 1, hn => by
    rw [prLs, prLs_pairs ps at_ n (by omega), usesP_at ps at_ (show n < 144 by omega)]
    have e : pairsTo ps at_ (n + 1) = pairsTo ps at_ n ++ pairsL (n : Int) (openA ps at_ (n : Int)) := by
      unfold pairsTo
      rw [List.range_succ, List.flatMap_append]
      simp
    rw [e, List.map_append]
    congr 1
    show prN _ _ = _
    rw [List.length_map, prN_pairs ps (n : Int) (openA_asc ps at_ _) _ (Nat.le_refl _), List.take_length]
    rfl

theorem Gm.own_lt {s : GS} {w0 w : World} {d : GD} (h : Gm s w0 w d) {b : Nat} (hb : GOwn s d b) : b < w.heap.size := by
  rcases hb with rfl | rfl | rfl | rfl | hb | hb | ⟨i, v, hv, hb⟩
  · exact h.b.lt
  · exact h.l.lt
  · exact h.nr.blk.lt
  · exact h.qd.lt
  · exact (h.lg.lt hb).2
  · exact (h.q.lt hb).2
  · have hl : i < d.N.length := by rw [← h.nr.len]; exact getElem?_lt hv
    exact ((h.nr.own i v _ hv (List.getElem?_eq_getElem hl)).lt hb).2
theorem GP.bd {s : GS} {D : List RArc} {d : GD} (hs : SOk s) (h : GP s D d) (v : Ref) : (∀ t, t < 10 → -1 ≤ (d.T v).bf t ∧ (d.T v).bf t ≤ 64) ∧ -1 ≤ (d.T v).sec ∧ (d.T v).sec ≤ 3000000000 := by
  obtain ⟨D', L, ht, _, hT, _⟩ := h.ex
  have := labS_bounds hs h.dok ht v
  rw [← hT] at this
  exact this.2
/-- what does not change in a search -/
structure SrOk (s : GS) (w0 : World) (v : PV) (due wgt : List Int) (budget : Nat) : Prop where
  so : SOk s
  sp : GSP s w0 v due wgt
  p : PbOk (s.pb due wgt)
  u : ∀ r : Nat, r < 144 → (openA s.ps s.at_ (r : Int)).length ≤ 12
  b : budget ≤ 1048576
  al : s.at_.length = s.ps.length
  n : s.ps.length ≤ 10
def DecPost (X : Foot) (s : GS) (w0 : World) (p : Pb) (budget zb : Nat) (au ap : Option Addr) (cu cp : Nat) (w : World) (d : GD) (r : Bool × SSt) (e : Ending) (w' : World) : Prop :=
  e = .returned (.bool r.1) ∧ ∃ d', Srch X s w0 p budget zb au ap cu cp w' d' r.2 ∧ Frm s zb w d w' d' ∧ (r.1 = true → d'.T = d.T ∧ d'.N = d.N ∧ d'.lg = d.lg ∧ d'.qd = d.qd)

set_option maxRecDepth 100000 in
set_option maxHeartbeats 4000000 in
theorem decide_leaf (X : Foot) (s : GS) (w0 w : World) (v : PV) (due wgt : List Int) (budget zb : Nat) (au ap : Option Addr) (cu cp : Nat) (d : GD) (bs : List Bool) (st : SSt) (hk : SrOk s w0 v due wgt budget) (hl : bs.length = (xs (s.pb due wgt)).length)
    (h : Srch X s w0 (s.pb due wgt) budget zb au ap cu cp w d st) (hg : GP s (decs s.ps (xs (s.pb due wgt)) bs) d) :
    Calls Try.prog 41 #[.pointer (some ⟨zb, 0, none⟩), .int .i64 (bs.length : Int)] w (DecPost X s w0 (s.pb due wgt) budget zb au ap cu cp w d (decF budget (s.pb due wgt) 0 bs st)) := by
  have hnp : (prLs (usesP s.ps s.at_) 144).length = bs.length := by rw [hl, prLs_pairs s.ps s.at_ 144 (Nat.le_refl _), List.length_map]; rfl
  have HF : Hid (∀ w' d', Srch X s w0 (s.pb due wgt) budget zb au ap cu cp w' d' ⟨st.steps, some (bs, costD (s.pb due wgt) (decs s.ps (xs (s.pb due wgt)) bs))⟩ → d' = d → Frm s zb w d w' d' → DecPost X s w0 (s.pb due wgt) budget zb au ap cu cp w d (decF budget (s.pb due wgt) 0 bs st) (.returned (.bool true)) w') := fun w' d' h1 h2 h3 => ⟨rfl, d', h1, h3, fun _ => by subst h2; exact ⟨rfl, rfl, rfl, rfl⟩⟩
  have hT := hg.T_eq hk.so
  have hOU : ∀ W, KeepsAll w W → RUsess W (Old W) [.slice au 144 cu] (usesP s.ps s.at_) := fun W hW => RUsess.ok.mono h.u (fun b hb => Nat.lt_of_lt_of_le hb.1.1 hW.size) (fun b hb => hW.block b hb.1.1 (by simp))
  have HO : Hid (∀ W, KeepsAll w W → Calls Try.prog 69 #[.pointer (some ⟨s.gb, 0, none⟩), .slice au 144 cu] W fun e w' => ∃ v, e = .returned v ∧ ROrders w' (Fresh W w') [v] (ordB (s.pb due wgt) bs) ∧ KeepsAll W w') := fun W hW => by
    have := gorders_any s w0 W d (h.g.keep hW) au cu (hOU W hW) hk.al hk.n (fun v => (hg.bd hk.so v).1) hk.u
    rw [hT] at this
    exact this
  have HE : Hid (∀ W, KeepsAll w W → Calls Try.prog 53 #[.pointer (some ⟨s.gb, 0, none⟩)] W fun e w' => ∃ v, e = .returned v ∧ RIntss w' (Fresh W w') [v] (entB (s.pb due wgt) bs) ∧ KeepsAll W w') := fun W hW => by
    have := genter_any s w0 W d v due wgt hk.sp hk.p (h.g.keep hW)
    rw [hT] at this
    exact this.mono (by rintro e w' ⟨A, h1, h2, h3⟩; exact ⟨_, h1, h2, h3⟩)
  have HC : Hid (∀ W, KeepsAll w W → Calls Try.prog 63 #[.pointer (some ⟨s.gb, 0, none⟩)] W fun e w' => e = .returned (.int .i64 (costD (s.pb due wgt) (decs s.ps (xs (s.pb due wgt)) bs))) ∧ KeepsAll W w') := fun W hW => by
    have := gcost_any s w0 W d v due wgt hk.sp hk.p (h.g.keep hW) (fun u => by have := (hg.bd hk.so u).2; omega)
    rw [hT] at this
    exact this
  have HOL : Hid (∀ b, GOwn s d b → b < w.heap.size) := fun b hb => h.g.own_lt hb
  obtain ⟨vo, ve, vc, fd, hb, hbest⟩ := h.b
  have HS := Lib.hid h
  have HB := Lib.hid hb
  have hzl := hb.lt
  rw [hnp] at HB
  clear h hb hbest hT hOU hg hl hk
  have HST : Hid (Srch X s w0 (s.pb due wgt) budget zb au ap cu cp w d st) := HS.out
  have HBV : Hid (∀ w3 vo' ve', KeepsAll w w3 → ROrders w3 (Fresh w w3) [vo'] (ordB (s.pb due wgt) bs) → RIntss w3 (Fresh w w3) [ve'] (entB (s.pb due wgt) bs) → ∀ w4, Keeps (fun b => b = zb) w3 w4 → Blk w4 zb 83 (srC s au ap cu cp bs.length budget st.steps vo' ve' (costD (s.pb due wgt) (decs s.ps (xs (s.pb due wgt)) bs)) true) → DecPost X s w0 (s.pb due wgt) budget zb au ap cu cp w d (decF budget (s.pb due wgt) 0 bs st) (.returned (.bool true)) w4) := by
    intro w3 vo' ve' k3 hr1 hr2 w4 k4 hb4
    have hS : ∀ b, Fresh w w3 b → SFX X s w4 d zb b := fun b hb => ⟨⟨Nat.lt_of_lt_of_le hb.2 k4.size, fun e => by have := HOL.out b e; have := hb.1; omega, fun e => by have := hb.1; omega⟩, fun e => by have := HST.out.xo b e; have := hb.1; omega⟩
    have hW : ∀ b, Fresh w w3 b → w4.heap[b]? = w3.heap[b]? := fun b hb => k4.block b hb.2 (fun e => by have := hb.1; omega)
    refine HF.out w4 d ((HST.out.keep k3).own k4 ⟨vo', ve', _, true, by rw [hnp]; exact hb4, rfl, rfl, ROrders.ok.mono hr1 hS hW, RIntss.ok.mono hr2 hS hW⟩) rfl ((Frm.keep k3).trans (Frm.own k4))
  clear HF HST HS HOL hnp
  generalize ordB (s.pb due wgt) bs = OB at *
  generalize entB (s.pb due wgt) bs = EB at *
  generalize costD (s.pb due wgt) (decs s.ps (xs (s.pb due wgt)) bs) = cd at *
  generalize DecPost X s w0 (s.pb due wgt) budget zb au ap cu cp w d (decF budget (s.pb due wgt) 0 bs st) = PP at *
  unfold srC at HB HBV
  have f0 := HB.out.cell 0
  have f1 := HB.out.cell 1
  have f2 := HB.out.cell 2
  simp at f0 f1 f2
  generalize s.gb = gb at *
  generalize bs.length = nb at *
  generalize st.steps = ns at *
  go_enter Try.func41, Try.ntmps41
  go_wp2_with fail
  refine wp_region_lex (fun w' => ∃ x : Ext w, w' = x.val) [0, 1, 2, 3, 4, 5, 6, 7, 8, 10, 11, 12, 13, 15, 16, 17, 18, 9, 14, 19, 20, 21, 22, 23] (by kernel_rfl) (by kernel_rfl) ⟨⟨_, (Keeps.refl _ _).drew⟩, rfl⟩ ?_
  have y0 := Ext.cell f0
  have y1 := Ext.cell f1
  iterate 17 (first | (refine lex_q _ rfl rfl rfl ?_; go_big_quiet_step (fail); refine wpQuiet_nil ?_) | (refine lex_nil _ rfl _ rfl rfl _ rfl ?_; go_simp))
  refine lex_a _ rfl rfl true (by kernel_rfl) ?_
  go_wp2_with fail
  have K0 : KeepsAll w w.drew := (Keeps.refl _ _).drew
  refine (HO.out _ K0).mono ?_
  rintro e w1 ⟨v1, rfl, r1, k1⟩
  have K1 := Lib.hid (K0.tr k1)
  obtain ⟨A1, c1, hv1, -⟩ := id r1
  injection hv1 with hv1
  subst hv1
  have R1 := Lib.hid r1
  clear k1 r1 K0
  go_wp2
  refine ⟨fun _ => ⟨⟨_, K1.out⟩, rfl⟩, ?_⟩
  refine lex_a _ rfl rfl true (by kernel_rfl) ?_
  go_wp2_with fail
  refine (HE.out _ K1.out).mono ?_
  rintro e w2 ⟨v2, rfl, r2, k2⟩
  have K2 := Lib.hid (K1.out.tr k2)
  have K12 := Lib.hid k2
  obtain ⟨A2, c2, hv2, -⟩ := id r2
  injection hv2 with hv2
  subst hv2
  have R2 := Lib.hid r2
  clear k2 r2
  go_wp2
  refine ⟨fun _ => ⟨⟨_, K2.out⟩, rfl⟩, ?_⟩
  refine lex_a _ rfl rfl true (by kernel_rfl) ?_
  go_wp2_with fail
  refine (HC.out _ K2.out).mono ?_
  rintro e w3 ⟨rfl, k3⟩
  have K3 := Lib.hid (K2.out.tr k3)
  have K23 := Lib.hid k3
  clear k3
  go_wp2
  refine ⟨fun _ => ⟨⟨_, K3.out⟩, rfl⟩, ?_⟩
  refine lex_q _ rfl rfl rfl ?_; go_big_quiet_step (fail); refine wpQuiet_nil ?_
  refine lex_nil _ rfl _ rfl rfl _ rfl ?_; go_simp
  refine lex_q _ rfl rfl rfl ?_; go_big_quiet_step (fail); refine wpQuiet_nil ?_
  refine lex_a _ rfl rfl false (by kernel_rfl) ?_
  have HB3 := Lib.hid (HB.out.kept K3.out (by simp))
  have z5 := HB3.out.cell 5
  have z6 := HB3.out.cell 6
  have z7 := HB3.out.cell 7
  have e5 := HB3.out.frozen 5
  have e6 := HB3.out.frozen 6
  have e7 := HB3.out.frozen 7
  simp at z5 z6 z7
  clear y0 y1 f0 f1 f2
  go_wp2
  (try refine ⟨fun h => (by cases h), ?_⟩)
  simp only [wpLex]
  refine NoPanic.normal ?_
  generalize hW4 : World.setCell (World.setCell (World.setCell w3 _ _) _ _) _ _ = W4
  have HB4 : Hid (Blk W4 zb 83 #[.pointer (some ⟨gb, 0, none⟩), .slice au 144 cu, .slice ap nb cp, .int .i64 (budget : Int), .int .i64 (ns : Int), .slice A1 OB.length c1, .slice A2 EB.length c2, .int .i64 cd, .bool fd]) := by subst hW4; exact ((HB3.out.set_ 5 _).set_ 6 _).set_ 7 _
  have K4 : Hid (Keeps (fun b => b = zb) w3 W4) := by subst hW4; exact (((Keeps.refl (fun b => b = zb) w3).setCell (p := ⟨zb, 5, none⟩) (fun _ => rfl) _).setCell (p := ⟨zb, 6, none⟩) (fun _ => rfl) _).setCell (p := ⟨zb, 7, none⟩) (fun _ => rfl) _
  clear hW4 z5 z6 z7 e5 e6 e7 HB3
  have z8 := HB4.out.cell 8
  have e8 := HB4.out.frozen 8
  simp at z8
  have hz4 := HB4.out.lt
  go_wp2
  have hr1 : ROrders w3 (Fresh w w3) [.slice A1 OB.length c1] OB := ROrders.ok.mono R1.out (fun b hb => ⟨hb.1, Nat.lt_of_lt_of_le hb.2 (Nat.le_trans K12.out.size K23.out.size)⟩) (fun b hb => (K12.out.tr K23.out).block b hb.2 (by simp))
  have hr2 : RIntss w3 (Fresh w w3) [.slice A2 EB.length c2] EB := RIntss.ok.mono R2.out (fun b hb => ⟨Nat.le_trans K1.out.size hb.1, Nat.lt_of_lt_of_le hb.2 K23.out.size⟩) (fun b hb => K23.out.block b hb.2 (by simp))
  exact HBV.out w3 _ _ K3.out hr1 hr2 _ (K4.out.setCell (p := ⟨zb, 8, none⟩) (fun _ => rfl) _) (HB4.out.set_ 8 _)

end Go.Proofs.Ytilbbpbjhoidhaa
