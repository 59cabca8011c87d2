/- What a step of decide of chapter 37 needs: a pair in memory, choose at a pair, bounds. Conditions: as each theorem says. More moves for a region that draws its order: operations behind a guard, other operations in the first phase. No condition. The state of decide's loop of chapter 37 within a round. No program in sight but the state in memory. -/
import Derived.Test.YtilbbpbjhoidhaaK35
import Derived.Test.YtilbbpbjhoidhaaK34
import Derived.Deep.CutRange
namespace Go.Proofs.Ytilbbpbjhoidhaa
open Go.RowKit

theorem RPUs.at_ {w : World} {S : Foot} {A : Option Addr} {n c : Nat} {l : List (Use × Use)} (h : RPUs w S [.slice A n c] l) {k : Nat} (hk : k < l.length) : ∃ b o x, A = some ⟨b, o, none⟩ ∧ S b ∧ l[k]? = some x ∧
    w.cell? ⟨b, o + k * 8, none⟩ = some (.int .i64 x.1.u.tr) ∧ w.cell? ⟨b, o + k * 8 + 1, none⟩ = some (.int .i64 x.1.u.st) ∧ w.cell? ⟨b, o + k * 8 + 2, none⟩ = some (.int .i64 x.1.en) ∧ w.cell? ⟨b, o + k * 8 + 3, none⟩ = some (.int .i64 x.1.rl) ∧
    w.cell? ⟨b, o + k * 8 + 4, none⟩ = some (.int .i64 x.2.u.tr) ∧ w.cell? ⟨b, o + k * 8 + 5, none⟩ = some (.int .i64 x.2.u.st) ∧ w.cell? ⟨b, o + k * 8 + 6, none⟩ = some (.int .i64 x.2.en) ∧ w.cell? ⟨b, o + k * 8 + 7, none⟩ = some (.int .i64 x.2.rl) := by
  obtain ⟨b, o, x, es, hb, hS, hx, h1, h2, h3⟩ := h.get hk
  cases h2
  exact ⟨b, o, x, hb, hS, hx, by simpa using h3 0 _ rfl, by simpa [Nat.add_assoc] using h3 1 _ rfl, by simpa [Nat.add_assoc] using h3 2 _ rfl, by simpa [Nat.add_assoc] using h3 3 _ rfl, by simpa [Nat.add_assoc] using h3 4 _ rfl, by simpa [Nat.add_assoc] using h3 5 _ rfl, by simpa [Nat.add_assoc] using h3 6 _ rfl, by simpa [Nat.add_assoc] using h3 7 _ rfl⟩
theorem choose_pr (s : GS) (w0 w : World) (D : List RArc) (d : GD) (hs : SOk s) (h : Gm s w0 w d) (hp : GP s D d) (hDl : D.length ≤ 90000000) (r : Int) (u v : Ref) (hu : InR s.ps (relOf s.ps r u)) (hd : doneR s.at_ (relOf s.ps r u) = false) (hv : InR s.ps v) (hne : u.tr ≠ v.tr) :
    Calls Try.prog 70 #[.pointer (some ⟨s.gb, 0, none⟩), .agg (u4 (evF s.ps r) u).toArray, .agg (u4 (evF s.ps r) v).toArray] w fun e w' => e = .returned (.bool (okD s.ps s.at_ (D ++ [arc0 (relOf s.ps r u) v]))) ∧ ChPost s w0 D (arc0 (relOf s.ps r u) v) d w' := by
  have htr := relOf_tr s.ps r u
  obtain ⟨tx, kx, px, hpx, hkx, e1⟩ := hu
  obtain ⟨ty, ky, py, hpy, hky, rfl⟩ := hv
  have n1 : num s.ps (relOf s.ps r u) = fst s.ps tx + kx := by rw [e1]; unfold num; simp
  have n2 : num s.ps ⟨(ty : Int), (ky : Int)⟩ = fst s.ps ty + ky := by unfold num; simp
  have hn : tx ≠ ty := fun e => hne (by rw [← htr, e1, e])
  have := choose_any s w0 w D d hs h hp hDl tx kx ty ky px py hpx hkx hpy hky (by rw [← e1]; exact hd) hn u.tr u.st (num s.ps u : Int) (ty : Int) (ky : Int) (num s.ps (relOf s.ps r ⟨(ty : Int), (ky : Int)⟩) : Int) _ _ n1 n2
  rw [← e1] at this
  exact this
theorem filter_len_ {α : Type} (q : α → Bool) (l : List α) : (l.filter q).length ≤ l.length := List.length_filter_le q l
theorem pairsL_len (r : Int) {l : List Ref} (hl : l.length ≤ 12) : (pairsL r l).length ≤ 144 := by
  have h : ∀ m : List Ref, (m.flatMap fun u => (l.filter fun v => decide (u.tr < v.tr)).map fun v => (⟨r, u, v⟩ : Pr)).length ≤ m.length * 12 := by
    intro m
    induction m with
    | nil => simp
    | cons a m ih =>
      have := filter_len_ (fun v : Ref => decide (a.tr < v.tr)) l
      simp only [List.flatMap_cons, List.length_append, List.length_map, List.length_cons] at ih ⊢
      omega
  have := h l
  unfold pairsL
  omega
theorem pairsTo_len (ps : List (List Stage)) (at_ : List Int) (h : ∀ r : Nat, r < 144 → (openA ps at_ (r : Int)).length ≤ 12) : ∀ n, n ≤ 144 → (pairsTo ps at_ n).length ≤ n * 144
  | 0, _ => by simp [pairsTo]
  | n + 1, hn => by
    have e : pairsTo ps at_ (n + 1) = pairsTo ps at_ n ++ pairsL (n : Int) (openA ps at_ (n : Int)) := by
      unfold pairsTo
      rw [List.range_succ, List.flatMap_append]
      simp
    have h1 := pairsTo_len ps at_ h n (by omega)
    have h2 := pairsL_len (n : Int) (h n (by omega))
    rw [e, List.length_append]
    omega
theorem SrOk.xs_len {s : GS} {w0 : World} {v : PV} {due wgt : List Int} {budget : Nat} (h : SrOk s w0 v due wgt budget) : (xs (s.pb due wgt)).length ≤ 20736 := pairsTo_len s.ps s.at_ h.u 144 (Nat.le_refl _)
theorem decs_len (ps : List (List Stage)) (xs : List Pr) (bs : List Bool) : (decs ps xs bs).length ≤ bs.length := by
  unfold decs
  rw [List.length_zipWith]
  exact Nat.min_le_right _ _

theorem GP.congr {s : GS} {D : List RArc} {d d' : GD} (h : GP s D d) (hT : d'.T = d.T) (hN : d'.N = d.N) (hl : d'.lg = d.lg) (hq : d'.qd = d.qd) : GP s D d' :=
  ⟨h.dok, h.ho, by rw [hq]; exact h.fl, by rw [hT, hN, hl]; exact h.ex⟩
theorem GP.lg_len {s : GS} {D : List RArc} {d : GD} (hs : SOk s) (h : GP s D d) : d.lg.length ≤ 1780000000000 + D.length := by
  obtain ⟨D', L, ht, _, hT, _, hl, hb⟩ := h.ex
  have := labS_abs hs h.dok ht
  rw [← hT] at this
  omega
def XX (X : Foot) (z5 z6 : Nat) : Foot := fun b => X b ∨ b = z5 ∨ b = z6
/-- the search at the head of decide's loop, i of the two choices tried -/
structure DcL (X : Foot) (s : GS) (w0 : World) (p : Pb) (budget zb : Nat) (au ap : Option Addr) (cu cp : Nat) (w : World) (d : GD) (D : List RArc) (bs : List Bool) (k : Nat) (st : SSt) (z5 z6 : Nat) (i : Nat) (wr : World) (d' : GD) (st' : SSt) : Prop where
  sr : Srch X s w0 p budget zb au ap cu cp wr d' st'
  le : st'.steps ≤ budget
  gp : GP s D d'
  eq : d'.T = d.T ∧ d'.N = d.N ∧ d'.lg = d.lg ∧ d'.qd = d.qd
  fr : Frm s zb w d wr d'
  n5 : ¬ GOwn s d' z5 ∧ z5 ≠ zb
  n6 : ¬ GOwn s d' z6 ∧ z6 ≠ zb
  res : decF budget p (k + 1) bs st = decT budget p (decF budget p k) bs ([true, false].drop i) st'
section
variable {X : Foot} {s : GS} {w0 : World} {p : Pb} {budget zb : Nat} {au ap : Option Addr} {cu cp : Nat} {w wr w' : World} {d d' d'' : GD} {D : List RArc} {bs : List Bool} {k : Nat} {st st' : SSt} {z5 z6 i : Nat}
theorem DcL.start (h : Srch X s w0 p budget zb au ap cu cp w d st) (hl : st.steps ≤ budget) (hg : GP s D d) (hk : KeepsAll w wr) (h5 : w.heap.size ≤ z5) (h6 : w.heap.size ≤ z6) (g5 : z5 < wr.heap.size) (g6 : z6 < wr.heap.size) : DcL (XX X z5 z6) s w0 p budget zb au ap cu cp w d D bs k st z5 z6 0 wr d st :=
  ⟨h.more hk (fun b hb => hb.elim .inl (fun e => .inr (by omega))), hl, hg, ⟨rfl, rfl, rfl, rfl⟩, Frm.keep hk, ⟨fun e => by have := h.g.own_lt e; omega, by have := h.zlt; omega⟩, ⟨fun e => by have := h.g.own_lt e; omega, by have := h.zlt; omega⟩, rfl⟩
/-- a newer block of X turns -/
theorem DcL.far (h : DcL X s w0 p budget zb au ap cu cp w d D bs k st z5 z6 i wr d' st') {z : Nat} (kk : Keeps (fun b => b = z) wr w') (hX : X z) (hn : ¬ GOwn s d' z ∧ z ≠ zb) (hs : s.bs ≤ z) (hw : w.heap.size ≤ z) : DcL X s w0 p budget zb au ap cu cp w d D bs k st z5 z6 i w' d' st' :=
  ⟨h.sr.farX kk hX hn.1 hn.2 hs, h.le, h.gp, h.eq, h.fr.new kk hw, h.n5, h.n6, h.res⟩
theorem DcL.keep (h : DcL X s w0 p budget zb au ap cu cp w d D bs k st z5 z6 i wr d' st') (K : KeepsAll wr w') : DcL X s w0 p budget zb au ap cu cp w d D bs k st z5 z6 i w' d' st' :=
  ⟨h.sr.keep K, h.le, h.gp, h.eq, h.fr.trans (Frm.keep K), h.n5, h.n6, h.res⟩
theorem DecPost.less {Y : Foot} {r : Bool × SSt} {e : Ending} (h : DecPost Y s w0 p budget zb au ap cu cp w d r e w') (hY : ∀ b, X b → Y b) : DecPost X s w0 p budget zb au ap cu cp w d r e w' := by
  obtain ⟨h1, d', h2, h3, h4⟩ := h
  exact ⟨h1, d', h2.less hY, h3, h4⟩
/-- the budget is used up -/
theorem DcL.out (h : DcL X s w0 p budget zb au ap cu cp w d D bs k st z5 z6 i wr d' st') (hi : i < 2) (hs : st'.steps = budget) : DecPost X s w0 p budget zb au ap cu cp w d (decF budget p (k + 1) bs st) (.returned (.bool false)) wr ∧ (decF budget p (k + 1) bs st).2.steps ≤ budget := by
  have e : decF budget p (k + 1) bs st = (false, st') := by
    rw [h.res]
    have : ∃ b l, [true, false].drop i = b :: l := by
      rcases (show i = 0 ∨ i = 1 by omega) with rfl | rfl
      · exact ⟨true, [false], rfl⟩
      · exact ⟨false, [], rfl⟩
    obtain ⟨b, l, e⟩ := this
    rw [e, decT, if_pos hs]
  rw [e]
  exact ⟨⟨rfl, d', h.sr, h.fr, fun e => by cases e⟩, h.le⟩
/-- both choices tried -/
theorem DcL.all (h : DcL X s w0 p budget zb au ap cu cp w d D bs k st z5 z6 2 wr d' st') : DecPost X s w0 p budget zb au ap cu cp w d (decF budget p (k + 1) bs st) (.returned (.bool true)) wr ∧ (decF budget p (k + 1) bs st).2.steps ≤ budget := by
  have e : decF budget p (k + 1) bs st = (true, st') := h.res
  rw [e]
  exact ⟨⟨rfl, d', h.sr, h.fr, fun _ => h.eq⟩, h.le⟩
/-- a choice has been tried and taken back -/
theorem DcL.next (h : DcL X s w0 p budget zb au ap cu cp w d D bs k st z5 z6 i wr d' st') {st'' : SSt} (hsr : Srch X s w0 p budget zb au ap cu cp w' d'' st'') (hle : st''.steps ≤ budget) (heq : d''.T = d'.T ∧ d''.N = d'.N ∧ d''.lg = d'.lg ∧ d''.qd = d'.qd) (hfr : Frm s zb wr d' w' d'') (h5 : z5 < wr.heap.size) (h6 : z6 < wr.heap.size)
    (hres : decT budget p (decF budget p k) bs ([true, false].drop i) st' = decT budget p (decF budget p k) bs ([true, false].drop (i + 1)) st'') : DcL X s w0 p budget zb au ap cu cp w d D bs k st z5 z6 (i + 1) w' d'' st'' :=
  ⟨hsr, hle, h.gp.congr heq.1 heq.2.1 heq.2.2.1 heq.2.2.2, ⟨heq.1.trans h.eq.1, heq.2.1.trans h.eq.2.1, heq.2.2.1.trans h.eq.2.2.1, heq.2.2.2.trans h.eq.2.2.2⟩, h.fr.trans hfr,
    ⟨(hfr.bl z5 ⟨h5, h.n5.1, h.n5.2⟩).2, h.n5.2⟩, ⟨(hfr.bl z6 ⟨h6, h.n6.1, h.n6.2⟩).2, h.n6.2⟩, h.res.trans hres⟩
end

section
variable {P : Program} {l : List Oper} {Q : Exit → Act → World → Prop} {K : Act → World → Prop} {C : World → Prop} {need : Nat → Bool}
/-- a nil check behind a guard that holds -/
theorem lexK_nilg {i : Nat} {r : List Nat} {a : Act} {w : World} (o : Oper) (ho : l[i]? = some o) (x : Operand) (hx : o.op = .nilCheck x) (hg : Region.wanted o (yielded l.toArray a.tmps) = true) (ad : Addr) (he : a.eval x = .pointer (some ad))
    (h : wpLexK P l.toArray Q K C (actAt l) need r (a.put o.dst (.pointer (some ad))) w) : wpLexK P l.toArray Q K C (actAt l) need (i :: r) a w := by
  have haf : actAt l i = false := by simp [actAt, ho, hx, actOp]
  simp only [wpLexK, haf]
  rw [if_neg (by simp)]
  exact ⟨o, _, by simpa using ho, .inl ⟨hg, fun w' _ => exec_nil hx he w'⟩, h⟩
/-- a reading operation behind a guard that does not hold -/
theorem lexK_skip {i : Nat} {r : List Nat} {a : Act} {w : World} (o : Oper) (ho : l[i]? = some o) (ha : actOp o.op = false) (hg : Region.wanted o (yielded l.toArray a.tmps) = false)
    (h : wpLexK P l.toArray Q K C (actAt l) need r (a.put o.dst undef) w) : wpLexK P l.toArray Q K C (actAt l) need (i :: r) a w := by
  have haf : actAt l i = false := by simp [actAt, ho, ha]
  simp only [wpLexK, haf]
  rw [if_neg (by simp)]
  exact ⟨o, _, by simpa using ho, .inr ⟨hg, rfl⟩, h⟩
theorem lex_skip {i : Nat} {r : List Nat} {a : Act} {w : World} (o : Oper) (ho : l[i]? = some o) (ha : actOp o.op = false) (hg : Region.wanted o (yielded l.toArray a.tmps) = false)
    (h : wpLex P l.toArray Q C (actAt l) need r (a.put o.dst undef) w) : wpLex P l.toArray Q C (actAt l) need (i :: r) a w := by
  have haf : actAt l i = false := by simp [actAt, ho, ha]
  simp only [wpLex, haf]
  rw [if_neg (by simp)]
  exact ⟨o, _, by simpa using ho, .inr ⟨hg, rfl⟩, h⟩
/-- another operation, in the first phase -/
theorem lexK_a {i : Nat} {r : List Nat} {a : Act} {w : World} (o : Oper) (ho : l[i]? = some o) (ha : actOp o.op = true) (b : Bool) (hb : need i = b)
    (h : wpList P l.toArray (lexPost b C (wpLexK P l.toArray Q K C (actAt l) need r)) [o] a w) : wpLexK P l.toArray Q K C (actAt l) need (i :: r) a w := by
  subst hb
  have hQ : LetsOut (lexPost (need i) C (wpLexK P l.toArray Q K C (actAt l) need r)) → LetsOut Q := fun ⟨_, _, h⟩ => h.elim
  have haf : actAt l i = true := by simp [actAt, ho, ha]
  simp only [wpLexK, haf, if_true]
  unfold wpOp
  simp only [List.getElem?_toArray, ho]
  simp only [wpList] at h
  by_cases hw : Region.wanted o (yielded l.toArray a.tmps) = true
  · rw [if_pos hw] at h ⊢
    rcases h with h | ⟨h1, h2⟩
    · refine .inl ?_
      unfold Oper.wp at h ⊢
      generalize (execOp a.eval o).run P w = res at h ⊢
      cases res with
      | ok n w' =>
        cases n <;> simp only [Oper.upon] at h ⊢
        case value u => exact h
        case skip => exact h
        case defer d => exact h
        case enter f args =>
          refine Calls.mono h fun e w'' he => ?_
          cases e with
          | returned u => exact he
          | panicked c => exact he.elim
          | outgrown => exact hQ he
        case row row args => exact h
      | halt x w' =>
        cases x <;> simp only [Oper.upon] at h ⊢
        case panic u => exact h.elim
    · exact .inr ⟨h1, hQ h2⟩
  · rw [if_neg hw] at h ⊢
    exact h
/-- another operation behind a guard that does not hold, in the first phase -/
theorem lexK_skipa {i : Nat} {r : List Nat} {a : Act} {w : World} (o : Oper) (ho : l[i]? = some o) (ha : actOp o.op = true) (hg : Region.wanted o (yielded l.toArray a.tmps) = false) (hC : C w)
    (h : wpLexK P l.toArray Q K C (actAt l) need r (a.put o.dst undef) w) : wpLexK P l.toArray Q K C (actAt l) need (i :: r) a w := by
  have haf : actAt l i = true := by simp [actAt, ho, ha]
  simp only [wpLexK, haf, if_true]
  unfold wpOp
  simp only [List.getElem?_toArray, ho]
  rw [if_neg (by rw [hg]; simp)]
  exact ⟨fun _ => hC, h⟩
theorem lex_skipa {i : Nat} {r : List Nat} {a : Act} {w : World} (o : Oper) (ho : l[i]? = some o) (ha : actOp o.op = true) (hg : Region.wanted o (yielded l.toArray a.tmps) = false) (hC : C w)
    (h : wpLex P l.toArray Q C (actAt l) need r (a.put o.dst undef) w) : wpLex P l.toArray Q C (actAt l) need (i :: r) a w := by
  have haf : actAt l i = true := by simp [actAt, ho, ha]
  simp only [wpLex, haf, if_true]
  unfold wpOp
  simp only [List.getElem?_toArray, ho]
  rw [if_neg (by rw [hg]; simp)]
  exact ⟨fun _ => hC, h⟩
end

/-- decide's loop behind the count of a step -/
structure DcM (X : Foot) (s : GS) (w0 : World) (p : Pb) (budget zb : Nat) (au ap : Option Addr) (cu cp : Nat) (w : World) (d : GD) (D : List RArc) (bs : List Bool) (k : Nat) (st : SSt) (z5 z6 : Nat) (i : Nat) (wr : World) (d' : GD) (st' : SSt) : Prop where
  sr : Srch X s w0 p budget zb au ap cu cp wr d' ⟨st'.steps + 1, st'.best⟩
  le : st'.steps < budget
  gp : GP s D d'
  eq : d'.T = d.T ∧ d'.N = d.N ∧ d'.lg = d.lg ∧ d'.qd = d.qd
  fr : Frm s zb w d wr d'
  n5 : ¬ GOwn s d' z5 ∧ z5 ≠ zb
  n6 : ¬ GOwn s d' z6 ∧ z6 ≠ zb
  res : decF budget p (k + 1) bs st = decT budget p (decF budget p k) bs ([true, false].drop i) st'
/-- what stands behind a step: given up (true), or to be taken back -/
def DcT (X : Foot) (s : GS) (w0 : World) (p : Pb) (budget zb : Nat) (au ap : Option Addr) (cu cp : Nat) (w : World) (d : GD) (bs : List Bool) (k : Nat) (st : SSt) (z5 z6 : Nat) (i : Nat) (c5 c6 : Array Value) (b : Bool) (wx : World) : Prop :=
  (b = true → DecPost X s w0 p budget zb au ap cu cp w d (decF budget p (k + 1) bs st) (.returned (.bool false)) wx ∧ (decF budget p (k + 1) bs st).2.steps ≤ budget) ∧
  (b = false → ∃ d' st', Srch X s w0 p budget zb au ap cu cp wx d' st' ∧ st'.steps ≤ budget ∧ Frm s zb w d wx d' ∧ UnS s d.lg (d.T, d.N) d.qd d' ∧ d'.lg.length ≤ 3000000000000 ∧ (¬ GOwn s d' z5 ∧ z5 ≠ zb) ∧ (¬ GOwn s d' z6 ∧ z6 ≠ zb) ∧ Blk wx z5 133 c5 ∧ Blk wx z6 133 c6 ∧
    decF budget p (k + 1) bs st = decT budget p (decF budget p k) bs ([true, false].drop (i + 1)) st')
section
variable {X : Foot} {s : GS} {w0 : World} {p : Pb} {budget zb : Nat} {au ap : Option Addr} {cu cp : Nat} {w wr wq w1 w2 w3 w' : World} {d d' d1 d'' : GD} {D : List RArc} {bs : List Bool} {k : Nat} {st st' : SSt} {z5 z6 i : Nat} {c5 c6 : Array Value}
theorem DcL.step (h : DcL X s w0 p budget zb au ap cu cp w d D bs k st z5 z6 i wr d' st') (hlt : st'.steps ≠ budget) (K : KeepsAll wr wq) :
    DcM X s w0 p budget zb au ap cu cp w d D bs k st z5 z6 i (wq.setCell ⟨zb, 4, none⟩ (.int .i64 ((st'.steps : Int) + 1))) d' st' :=
  ⟨(h.sr.keep K).step, by have := h.le; omega, h.gp, h.eq, h.fr.trans ((Frm.keep (s := s) (zb := zb) (d := d') K).trans (Frm.own (d := d') ((Keeps.refl (fun b => b = zb) wq).setCell (p := ⟨zb, 4, none⟩) (fun _ => rfl) (.int .i64 ((st'.steps : Int) + 1))))), h.n5, h.n6, h.res⟩
theorem DcM.keep (h : DcM X s w0 p budget zb au ap cu cp w d D bs k st z5 z6 i wq d' st') (K : KeepsAll wq w') : DcM X s w0 p budget zb au ap cu cp w d D bs k st z5 z6 i w' d' st' :=
  ⟨h.sr.keep K, h.le, h.gp, h.eq, h.fr.trans (Frm.keep K), h.n5, h.n6, h.res⟩
/-- choose in a round -/
theorem DcM.choose (hs : SOk s) (h : DcM X s w0 p budget zb au ap cu cp w d D bs k st z5 z6 i wq d' st') {a : RArc} (hc : ChPost (s.fr wq d') w0 D a d' w1) (hl : D.length + 1 ≤ 90000000) :
    ∃ d1, Srch X s w0 p budget zb au ap cu cp w1 d1 ⟨st'.steps + 1, st'.best⟩ ∧ Frm s zb wq d' w1 d1 ∧ Keeps (GOwn s d') wq w1 ∧ UnS s d.lg (d.T, d.N) d.qd d1 ∧ d1.lg.length ≤ 3000000000000 ∧ (okD s.ps s.at_ (D ++ [a]) = true → GP s (D ++ [a]) d1) := by
  obtain ⟨d1, hg, hy, hn⟩ := hc
  have hfr : Frm s zb wq d' w1 d1 := Frm.move hg
  have hk : Keeps (GOwn s d') wq w1 := by
    have k1 := h.sr.g.k
    have k2 := hg.k
    exact ⟨k2.os.trans k1.os.symm, k2.tape.trans k1.tape.symm, k2.output.trans k1.output.symm, hg.zs, fun b hb hn => (hg.frk hb hn).1⟩
  refine ⟨d1, h.sr.move hg, hfr, hk, ?_, ?_, fun e => (hy e).1.unfr⟩
  · cases e : okD s.ps s.at_ (D ++ [a]) with
    | false =>
      obtain rfl := hn e
      exact ⟨⟨[], by simp [h.eq.2.2.1], by show _ = _; rw [h.eq.1, h.eq.2.1]⟩, h.eq.2.2.2⟩
    | true =>
      obtain ⟨hp, es, h1, h2⟩ := hy e
      refine ⟨⟨es, by rw [h1, h.eq.2.2.1], by rw [← h.eq.1, ← h.eq.2.1]; exact h2⟩, ?_⟩
      rw [← h.eq.2.2.2]
      have l1 : d1.qd.length = s.n := hg.ql
      have l2 := h.sr.g.ql
      refine List.ext_getElem? fun j => ?_
      have g1 := hp.fl j
      have g2 := h.gp.fl j
      by_cases hj : j < s.n
      · rw [List.getElem?_eq_getElem (by omega)] at g1 ⊢
        rw [List.getElem?_eq_getElem (by omega)] at g2 ⊢
        generalize d1.qd[j]'_ = x at *
        generalize d'.qd[j]'_ = y at *
        cases x <;> cases y <;> simp_all
      · rw [List.getElem?_eq_none (by omega), List.getElem?_eq_none (by omega)]
  · cases e : okD s.ps s.at_ (D ++ [a]) with
    | false =>
      obtain rfl := hn e
      have := h.gp.lg_len hs
      omega
    | true =>
      have := (hy e).1.unfr.lg_len hs
      rw [List.length_append] at this
      simp at this
      omega
/-- a choice that is given up -/
theorem DcM.no (h : DcM X s w0 p budget zb au ap cu cp w d D bs k st z5 z6 i wq d' st') {b : Bool} (hb : [true, false].drop i = b :: [true, false].drop (i + 1)) (hgo : goOn p (bs ++ [b]) st' = false)
    (hs1 : Srch X s w0 p budget zb au ap cu cp w1 d1 ⟨st'.steps + 1, st'.best⟩) (hf1 : Frm s zb wq d' w1 d1) (hu : UnS s d.lg (d.T, d.N) d.qd d1) (hl : d1.lg.length ≤ 3000000000000) (h5 : Blk wq z5 133 c5) (h6 : Blk wq z6 133 c6) (K : KeepsAll w1 w2) :
    DcT X s w0 p budget zb au ap cu cp w d bs k st z5 z6 i c5 c6 false w2 := by
  refine ⟨fun e => (by cases e), fun _ => ⟨d1, _, hs1.keep K, h.le, h.fr.trans (hf1.trans (Frm.keep K)), hu, hl, ⟨(hf1.blk h5 h.n5.1 h.n5.2).2, h.n5.2⟩, ⟨(hf1.blk h6 h.n6.1 h.n6.2).2, h.n6.2⟩, (hf1.blk h5 h.n5.1 h.n5.2).1.kept K (by simp), (hf1.blk h6 h.n6.1 h.n6.2).1.kept K (by simp), ?_⟩⟩
  have := h.le
  rw [h.res, hb, decT, if_neg (by omega), hgo, if_neg (by simp)]
/-- a choice that is gone on with -/
theorem DcM.yes (h : DcM X s w0 p budget zb au ap cu cp w d D bs k st z5 z6 i wq d' st') {b : Bool} (hb : [true, false].drop i = b :: [true, false].drop (i + 1)) (hgo : goOn p (bs ++ [b]) st' = true)
    (hf1 : Frm s zb wq d' w1 d1) (hu : UnS s d.lg (d.T, d.N) d.qd d1) (hl : d1.lg.length ≤ 3000000000000) (h5 : Blk wq z5 133 c5) (h6 : Blk wq z6 133 c6) (K : KeepsAll w1 w2) {e : Ending}
    (hp : DecPost X s w0 p budget zb au ap cu cp w2 d1 (decF budget p k (bs ++ [b]) ⟨st'.steps + 1, st'.best⟩) e w3 ∧ (decF budget p k (bs ++ [b]) ⟨st'.steps + 1, st'.best⟩).2.steps ≤ budget) :
    ∃ r : Bool, e = .returned (.bool r) ∧ DcT X s w0 p budget zb au ap cu cp w d bs k st z5 z6 i c5 c6 (!r) w3 := by
  obtain ⟨⟨he, d2, hs2, hf2, hq⟩, hle⟩ := hp
  have hlt := h.le
  have hres := h.res
  rw [hb, decT, if_neg (by omega), if_pos hgo] at hres
  have hf := h.fr.trans (hf1.trans ((Frm.keep K).trans hf2))
  refine ⟨_, he, fun e1 => ?_, fun e1 => ?_⟩
  · have e1 : (decF budget p k (bs ++ [b]) ⟨st'.steps + 1, st'.best⟩).1 = false := by simpa using e1
    rw [e1, if_neg (by simp)] at hres
    rw [hres]
    exact ⟨⟨rfl, d2, hs2, hf, fun e => (by cases e)⟩, hle⟩
  · have e1 : (decF budget p k (bs ++ [b]) ⟨st'.steps + 1, st'.best⟩).1 = true := by simpa using e1
    rw [e1, if_pos rfl] at hres
    obtain ⟨q1, q2, q3, q4⟩ := hq e1
    have m5 := (hf1.blk h5 h.n5.1 h.n5.2)
    have m6 := (hf1.blk h6 h.n6.1 h.n6.2)
    have p5 := hf2.blk (m5.1.kept K (by simp)) m5.2 h.n5.2
    have p6 := hf2.blk (m6.1.kept K (by simp)) m6.2 h.n6.2
    refine ⟨d2, _, hs2, hle, hf, ⟨?_, q4.trans hu.qd⟩, by rw [q3]; exact hl, ⟨p5.2, h.n5.2⟩, ⟨p6.2, h.n6.2⟩, p5.1, p6.1, hres⟩
    obtain ⟨es, u1, u2⟩ := hu.ex
    exact ⟨es, q3.trans u1, by rw [q1, q2]; exact u2⟩
/-- taken back -/
theorem DcL.undone {w4 : World} {d4 : GD} (hsr : Srch X s w0 p budget zb au ap cu cp wr d' st') (hle : st'.steps ≤ budget) (hf : Frm s zb w d wr d') (n5 : ¬ GOwn s d' z5 ∧ z5 ≠ zb) (n6 : ¬ GOwn s d' z6 ∧ z6 ≠ zb) (b5 : Blk wr z5 133 c5) (b6 : Blk wr z6 133 c6)
    (hres : decF budget p (k + 1) bs st = decT budget p (decF budget p k) bs ([true, false].drop i) st') (hgp : GP s D d) (hg : Gm (s.fr wr d') w0 w4 d4) (e : d4.lg = d.lg ∧ d4.T = d.T ∧ d4.N = d.N ∧ d4.qd = d.qd) :
    DcL X s w0 p budget zb au ap cu cp w d D bs k st z5 z6 i w4 d4 st' ∧ Blk w4 z5 133 c5 ∧ Blk w4 z6 133 c6 := by
  have m : Frm s zb wr d' w4 d4 := Frm.move hg
  have p5 := m.blk b5 n5.1 n5.2
  have p6 := m.blk b6 n6.1 n6.2
  exact ⟨⟨hsr.move hg, hle, hgp.congr e.2.1 e.2.2.1 e.1 e.2.2.2, ⟨e.2.1, e.2.2.1, e.1, e.2.2.2⟩, hf.trans m, ⟨p5.2, n5.2⟩, ⟨p6.2, n6.2⟩, hres⟩, p5.1, p6.1⟩
/-- the two uses change places -/
theorem DcL.swap {w4 : World} {d4 : GD} {f : Ref → Int × Int} {ua ub : Ref} (h : DcL X s w0 p budget zb au ap cu cp w d D bs k st z5 z6 i w4 d4 st') (b5 : Blk w4 z5 133 (u4 f ua).toArray) (b6 : Blk w4 z6 133 (u4 f ub).toArray) (h5 : X z5) (h6 : X z6) (hs : s.bs ≤ w.heap.size) (g5 : w.heap.size ≤ z5) (g6 : w.heap.size ≤ z6) (hne : z5 ≠ z6) {W : World}
    (hW : W = ((((((((w4.setCell ⟨z5, 0, none⟩ (.int .i64 ub.tr)).setCell ⟨z5, 1, none⟩ (.int .i64 ub.st)).setCell ⟨z5, 2, none⟩ (.int .i64 (f ub).1)).setCell ⟨z5, 3, none⟩ (.int .i64 (f ub).2)).setCell ⟨z6, 0, none⟩ (.int .i64 ua.tr)).setCell ⟨z6, 1, none⟩ (.int .i64 ua.st)).setCell ⟨z6, 2, none⟩ (.int .i64 (f ua).1)).setCell ⟨z6, 3, none⟩ (.int .i64 (f ua).2))) :
    DcL X s w0 p budget zb au ap cu cp w d D bs k st z5 z6 i W d4 st' ∧ Blk W z5 133 (u4 f ub).toArray ∧ Blk W z6 133 (u4 f ua).toArray := by
  subst hW
  have k5 : Keeps (fun b => b = z5) w4 ((((w4.setCell ⟨z5, 0, none⟩ (.int .i64 ub.tr)).setCell ⟨z5, 1, none⟩ (.int .i64 ub.st)).setCell ⟨z5, 2, none⟩ (.int .i64 (f ub).1)).setCell ⟨z5, 3, none⟩ (.int .i64 (f ub).2)) :=
    ((((Keeps.refl (fun b => b = z5) w4).setCell (p := ⟨z5, 0, none⟩) (fun _ => rfl) _).setCell (p := ⟨z5, 1, none⟩) (fun _ => rfl) _).setCell (p := ⟨z5, 2, none⟩) (fun _ => rfl) _).setCell (p := ⟨z5, 3, none⟩) (fun _ => rfl) _
  have q5 : Blk ((((w4.setCell ⟨z5, 0, none⟩ (.int .i64 ub.tr)).setCell ⟨z5, 1, none⟩ (.int .i64 ub.st)).setCell ⟨z5, 2, none⟩ (.int .i64 (f ub).1)).setCell ⟨z5, 3, none⟩ (.int .i64 (f ub).2)) z5 133 (u4 f ub).toArray := (((b5.set_ 0 _).set_ 1 _).set_ 2 _).set_ 3 _
  have h1 := h.far k5 h5 h.n5 (Nat.le_trans hs g5) g5
  have b6' := b6.kept k5 (fun e => hne e.symm)
  generalize ((((w4.setCell ⟨z5, 0, none⟩ (.int .i64 ub.tr)).setCell ⟨z5, 1, none⟩ (.int .i64 ub.st)).setCell ⟨z5, 2, none⟩ (.int .i64 (f ub).1)).setCell ⟨z5, 3, none⟩ (.int .i64 (f ub).2)) = w5 at *
  have k6 : Keeps (fun b => b = z6) w5 ((((w5.setCell ⟨z6, 0, none⟩ (.int .i64 ua.tr)).setCell ⟨z6, 1, none⟩ (.int .i64 ua.st)).setCell ⟨z6, 2, none⟩ (.int .i64 (f ua).1)).setCell ⟨z6, 3, none⟩ (.int .i64 (f ua).2)) :=
    ((((Keeps.refl (fun b => b = z6) w5).setCell (p := ⟨z6, 0, none⟩) (fun _ => rfl) _).setCell (p := ⟨z6, 1, none⟩) (fun _ => rfl) _).setCell (p := ⟨z6, 2, none⟩) (fun _ => rfl) _).setCell (p := ⟨z6, 3, none⟩) (fun _ => rfl) _
  exact ⟨h1.far k6 h6 h1.n6 (Nat.le_trans hs g6) g6, q5.kept k6 hne, (((b6'.set_ 0 _).set_ 1 _).set_ 2 _).set_ 3 _⟩
end

end Go.Proofs.Ytilbbpbjhoidhaa
