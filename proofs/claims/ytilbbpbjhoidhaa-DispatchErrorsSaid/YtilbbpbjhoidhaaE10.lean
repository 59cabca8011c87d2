/- A list of paths in memory of which one cell is written again: it still reads as a list of paths. Conditions: as each theorem says. Owned slices: stores, and more. Conditions: as each theorem says. Contracts of the reference's Between, Chain and Arcs. Conditions: as each theorem says. Contracts of the reference's ready, LineOf and Line. Conditions: as each theorem says. -/
import Derived.Test.YtilbbpbjhoidhaaE05
import Derived.Test.YtilbbpbjhoidhaaE08
namespace Go.Proofs.Ytilbbpbjhoidhaa
open Go.RowKit

theorem list_choose {α : Type} {P : Nat → α → Prop} : ∀ n : Nat, (∀ j, j < n → ∃ x, P j x) → ∃ l : List α, l.length = n ∧ ∀ (j : Nat) x, l[j]? = some x → P j x
 | 0, _ => ⟨[], rfl, fun j x h => by simp at h⟩
 | n + 1, h => by
  obtain ⟨l, hl, h1⟩ := list_choose (P := P) n (fun j hj => h j (by omega))
  obtain ⟨x, hx⟩ := h n (by omega)
  refine ⟨l ++ [x], by simp [hl], fun j y hy => ?_⟩
  rcases Nat.lt_or_ge j n with hj | hj
  ·rw [List.getElem?_append_left (by omega)] at hy; exact h1 j y hy
  ·rw [List.getElem?_append_right (by omega)] at hy
   have hj0 : j = n := by have := getElem?_lt hy; simp at this; omega
   subst hj0
   rw [hl, Nat.sub_self] at hy; simp at hy; subst hy; exact hx

def Fit (w : World) (S : Foot) (p : Addr) (u : Value) : Prop := (∃ a b, w.cell? p = some (.int .i64 a) ∧ u = .int .i64 b) ∨ ∃ A n c, w.cell? p = some (.slice A n c) ∧ ∃ l, RInts (w.setCell p u) S [u] l
theorem Fit.int {w : World} {S : Foot} {p q : Addr} {u : Value} {x : Int} (h : Fit w S p u) (hq : w.cell? q = some (.int .i64 x)) : ∃ y, (w.setCell p u).cell? q = some (.int .i64 y) := by
 by_cases e : p = q
 ·subst e
  rcases h with ⟨a, b, h1, rfl⟩ | ⟨A, n, c, h1, _⟩
  ·exact ⟨b, World.cell?_setCell_same _ _ _ h1⟩
  ·rw [h1] at hq; cases hq
 ·exact ⟨x, (World.cell?_setCell_other _ _ _ _ e).trans hq⟩
theorem RInts.write {w : World} {S : Foot} {p : Addr} {u v : Value} {l : List Int} (hf : Fit w S p u) (h : RInts w S [v] l) : ∃ l', l'.length = l.length ∧ RInts (w.setCell p u) S [v] l' := by
 obtain ⟨A, c, he, h1, h2, h3⟩ := h
 injection he with he _; subst he
 by_cases hl : l = []
 ·subst hl; exact ⟨[], rfl, A, c, rfl, h1, h2, fun h => absurd rfl h⟩
 ·obtain ⟨b, o, rfl, hb, hj⟩ := h3 hl
  obtain ⟨l', hl', h5⟩ := list_choose (P := fun j y => (w.setCell p u).cell? ⟨b, o + j, none⟩ = some (.int .i64 y)) l.length (fun j hj' => by
   obtain ⟨es, e1, e2, e3⟩ := hj j l[j] (List.getElem?_eq_getElem hj')
   cases e2
   exact hf.int (by simpa using e3 0 _ rfl))
  refine ⟨l', hl', some ⟨b, o, none⟩, c, by rw [hl'], by omega, h2, fun _ => ⟨b, o, rfl, hb, fun j x hx => ⟨[.int .i64 x], rfl, rfl, fun i y hy => ?_⟩⟩⟩
  have hi : i = 0 := by
   rcases i with _ | i
   ·rfl
   ·simp at hy
  subst hi
  simp at hy; subst hy
  simpa using h5 j x hx
theorem RPath.write {w : World} {S : Foot} {p : Addr} {u v : Value} {l : List Stage} (hf : Fit w S p u) (h : RPath w S [v] l) : ∃ l', l'.length = l.length ∧ RPath (w.setCell p u) S [v] l' := by
 obtain ⟨A, c, he, h1, h2, h3⟩ := h
 injection he with he _; subst he
 by_cases hl : l = []
 ·subst hl; exact ⟨[], rfl, A, c, rfl, h1, h2, fun h => absurd rfl h⟩
 ·obtain ⟨b, o, rfl, hb, hj⟩ := h3 hl
  obtain ⟨l', hl', h5⟩ := list_choose (P := fun j s => ∃ es, es.length = 4 ∧ RStage (w.setCell p u) S es s ∧ ∀ i u', es[i]? = some u' → (w.setCell p u).cell? ⟨b, o + (j * 4 + i), none⟩ = some u') l.length (fun j hj' => by
   obtain ⟨es, e1, ⟨pv, rfl, hpv⟩, e3⟩ := hj j l[j] (List.getElem?_eq_getElem hj')
   obtain ⟨y0, z0⟩ := hf.int (e3 0 _ rfl)
   obtain ⟨y2, z2⟩ := hf.int (e3 2 _ rfl)
   obtain ⟨y3, z3⟩ := hf.int (e3 3 _ rfl)
   have q1 := e3 1 _ rfl
   obtain ⟨pv', l1, w1, r1⟩ : ∃ pv' l1, (w.setCell p u).cell? ⟨b, o + (j * 4 + 1), none⟩ = some pv' ∧ RInts (w.setCell p u) S [pv'] l1 := by
    by_cases e : p = ⟨b, o + (j * 4 + 1), none⟩
    ·subst e
     rcases hf with ⟨a, b', h1', rfl⟩ | ⟨A', n', c', h1', l2, hl2⟩
     ·rw [h1'] at q1
      obtain ⟨A', c', he', _⟩ := hpv
      injection he' with he' _; subst he'
      cases q1
     ·exact ⟨u, l2, World.cell?_setCell_same _ _ _ h1', hl2⟩
    ·obtain ⟨l2, _, hl2⟩ := RInts.write hf hpv
     exact ⟨pv, l2, (World.cell?_setCell_other _ _ _ _ e).trans q1, hl2⟩
   refine ⟨⟨y0, l1, y2, y3⟩, [.int .i64 y0, pv', .int .i64 y2, .int .i64 y3], rfl, ⟨pv', rfl, r1⟩, fun i u' hu => ?_⟩
   match i, hu with
   | 0, hu => simp at hu; subst hu; exact z0
   | 1, hu => simp at hu; subst hu; exact w1
   | 2, hu => simp at hu; subst hu; exact z2
   | 3, hu => simp at hu; subst hu; exact z3
   | i + 4, hu => simp at hu)
  exact ⟨l', hl', some ⟨b, o, none⟩, c, by rw [hl'], by omega, h2, fun _ => ⟨b, o, rfl, hb, h5⟩⟩

def Soft (w : World) (b : Nat) : Prop := ∃ cur t, Blk w b t cur
theorem Soft.set_ {w : World} {b : Nat} (h : Soft w b) (p : Addr) (u : Value) : Soft (w.setCell p u) b := by
 obtain ⟨cur, t, hb⟩ := h
 by_cases e : b = p.block
 ·subst e
  unfold Soft Blk World.setCell at *
  simp only [Array.getElem?_modify, hb]
  simp
 ·exact ⟨cur, t, hb.far e u⟩
def RPathN (B : Nat) : Rd (List Stage) := fun w S cs l => RPath w S cs l ∧ ∀ b o s n c, cs = [.slice (some ⟨b, o, s⟩) n c] → B ≤ b ∧ S b ∧ Soft w b
theorem RPathN.ok (B : Nat) : Rd.Ok (RPathN B) := ⟨fun h hS hw => ⟨RPath.ok.mono h.1 hS hw, fun b o s n c hc => by
 obtain ⟨h1, h2, cur, t, h3⟩ := h.2 b o s n c hc
 exact ⟨h1, hS b h2, cur, t, (hw b h2).trans h3⟩⟩⟩
def RStageB (B : Nat) : Rd Stage := fun w S cs s => RStage w (fun b => S b ∧ b < B) cs s
theorem RStageB.ok (B : Nat) : Rd.Ok (RStageB B) := ⟨fun h hS hw => RStage.ok.mono h (fun b hb => ⟨hS b hb.1, hb.2⟩) (fun b hb => hw b hb.1)⟩
theorem RStageB.one (B : Nat) : Rd.One (RStageB B) := fun w _ es x h u hu => RStage.one w _ es x h u hu

section
variable {α : Type} {t size : Nat} {E : Rd α} {w w' : World} {base lo : Nat} {v : Value} {l : List α}
end
section
variable {t : Nat} {w w' : World} {base : Nat} {v : Value} {ps : List (List Stage)} {B : Nat}
theorem OwnL.row (h : OwnL t 1 (RPathN B) w base 0 v ps) {j : Nat} {x : List Stage} (hx : ps[j]? = some x) : ∃ g cap A c, v = .slice (some ⟨g, 0, none⟩) ps.length cap ∧ base ≤ g ∧ g < w.heap.size ∧ w.cell? ⟨g, j, none⟩ = some (.slice A x.length c) ∧ w.frozen? ⟨g, j, none⟩ = false ∧
  RPath w (fun b => b < w.heap.size ∧ b ≠ g) [.slice A x.length c] x ∧ (∀ b o s, A = some ⟨b, o, s⟩ → B ≤ b ∧ Soft w b) := by
 have hj := getElem?_lt hx
 obtain ⟨ess, h1, h2, h3⟩ := h
 have hall : ∀ es ∈ ess, es.length = 1 := by
  intro es hes
  obtain ⟨j, hj, e⟩ := List.getElem_of_mem hes
  have hl : j < ps.length := by omega
  obtain ⟨es', e1, e2, _⟩ := h3 j ps[j] (List.getElem?_eq_getElem hl)
  rw [List.getElem?_eq_getElem hj, e] at e1
  injection e1 with e1; subst e1; exact e2
 rcases h2.2 with ⟨rfl, hn⟩ | ⟨g, cap, cur, rfl, hb, hh, hnc, hcm, hcs, htk⟩
 ·omega
 ·obtain ⟨es, e1, e2, e3, e4⟩ := h3 j x hx
  have hlt := (Array.getElem?_eq_some_iff.1 hh).1
  obtain ⟨A, c, rfl, q⟩ := e3
  have hf := flatten_at hall e1 (i := 0) (by omega)
  rw [← htk, List.getElem?_take_of_lt (by omega)] at hf
  refine ⟨g, cap, A, c, rfl, hb, hlt, ?_, ?_, ?_, fun b o s hA => by have := e4 b o s _ _ (by rw [hA]); exact ⟨this.1, this.2.2⟩⟩
  ·simp only [World.cell?, hh, Option.isSome_none]
   simpa using hf
  ·simp [World.frozen?, hh]
  ·refine RPath.ok.mono ⟨A, c, rfl, q⟩ (fun b hb => ⟨hb.2.1, fun e => hb.2.2 ?_⟩) (fun _ _ => rfl)
   subst e; rfl
theorem OwnL.write (h : OwnL t 1 (RPathN B) w base 0 v ps) {p : Addr} {u : Value} (hp : v.ownBlock ≠ some p.block) (hf : Fit w (fun b => b < w.heap.size ∧ v.ownBlock ≠ some b) p u) : ∃ ps', ps'.length = ps.length ∧ OwnL t 1 (RPathN B) (w.setCell p u) base 0 v ps' := by
 obtain ⟨ess, h1, h2, h3⟩ := h
 have hsz : (w.setCell p u).heap.size = w.heap.size := by simp [World.setCell]
 obtain ⟨ps', hl', h5⟩ := list_choose (P := fun j x => ∃ es, ess[j]? = some es ∧ es.length = 1 ∧ RPathN B (w.setCell p u) (fun b => 0 ≤ b ∧ b < (w.setCell p u).heap.size ∧ v.ownBlock ≠ some b) es x) ps.length (fun j hj => by
  obtain ⟨es, e1, e2, e3, e4⟩ := h3 j ps[j] (List.getElem?_eq_getElem hj)
  have e3' := e3
  obtain ⟨A, c, rfl, q⟩ := e3
  have e5 := RPath.ok.mono e3' (S' := fun b => b < w.heap.size ∧ v.ownBlock ≠ some b) (fun b hb => hb.2) (fun _ _ => rfl)
  obtain ⟨l', hl', h6⟩ := RPath.write hf e5
  exact ⟨l', _, e1, rfl, RPath.ok.mono h6 (fun b hb => ⟨Nat.zero_le _, by rw [hsz]; exact hb.1, hb.2⟩) (fun _ _ => rfl), fun b o s n c hc => by
   obtain ⟨a1, a2, a3⟩ := e4 b o s n c hc
   exact ⟨a1, ⟨Nat.zero_le _, by rw [hsz]; exact a2.2.1, a2.2.2⟩, a3.set_ p u⟩⟩)
 refine ⟨ps', hl', ess, by omega, ?_, h5⟩
 rw [hl']
 refine ⟨h2.1, ?_⟩
 rcases h2.2 with hn | ⟨g, cap, cur, e, hb, hh, rest⟩
 ·exact .inl hn
 ·have hg : g ≠ p.block := fun e' => hp (by rw [e, ← e']; rfl)
  exact .inr ⟨g, cap, cur, e, hb, (Below.heap_setCell w p u g hg).trans hh, rest⟩
end

theorem OwnL.setI {t : Nat} {w : World} {base lo : Nat} {g n c : Nat} {l : List Int} (h : OwnL t 1 RInt w base lo (.slice (some ⟨g, 0, none⟩) n c) l) (i : Nat) (x : Int) : OwnL t 1 RInt (w.setCell ⟨g, i, none⟩ (.int .i64 x)) base lo (.slice (some ⟨g, 0, none⟩) n c) (l.set i x) := by
 obtain ⟨ess, h1, h2, h3⟩ := h
 have hess : ess = l.map fun y => [Value.int .i64 y] := by
  apply List.ext_getElem?
  intro j
  rw [List.getElem?_map]
  cases e : l[j]? with
  | none =>
   have : ess[j]? = none := List.getElem?_eq_none (by have := List.getElem?_eq_none_iff.1 e; omega)
   rw [this]; rfl
  | some y =>
   obtain ⟨es, e1, _, e3⟩ := h3 j y e
   rw [e1]; cases e3; rfl
 subst hess
 refine ⟨(l.set i x).map fun y => [Value.int .i64 y], by simp, ?_, fun j y hy => ⟨[.int .i64 y], by rw [List.getElem?_map, hy]; rfl, rfl, rfl⟩⟩
 have hfl : ∀ m : List Int, (m.map fun y => [Value.int .i64 y]).flatten = m.map (Value.int .i64) := by
  intro m
  induction m with
  | nil => rfl
  | cons a m ih => simp only [List.map_cons, List.flatten_cons, List.singleton_append]; rw [ih]
 rw [hfl] at h2 ⊢
 rcases h2.2 with ⟨e, _⟩ | ⟨g', cap, cur, e, hb, hh, hnc, hcm, hcs, htk⟩
 ·cases e
 ·injection e with e1 e2 e3
  injection e1 with e1; injection e1 with e1
  subst e1
  refine ⟨by simp, .inr ⟨g, cap, cur.setIfInBounds i (.int .i64 x), by rw [e2, e3, List.length_set], hb, ?_, by rw [List.length_set]; exact hnc, hcm, by simpa using hcs, ?_⟩⟩
  ·have hB : Blk w g t cur := hh
   exact hB.set_ i _
  ·rw [Array.toList_setIfInBounds, List.map_set, ← htk, List.length_set]
   rw [List.take_set]
theorem OwnL.frz {α : Type} {t size : Nat} {E : Rd α} {w : World} {base lo : Nat} {g o n c : Nat} {l : List α} (h : OwnL t size E w base lo (.slice (some ⟨g, o, none⟩) n c) l) (i : Nat) : w.frozen? ⟨g, i, none⟩ = false := by
 obtain ⟨ess, h1, h2, h3⟩ := h
 rcases h2.2 with ⟨e, _⟩ | ⟨g', cap, cur, e, hb, hh, _⟩
 ·cases e
 ·injection e with e1; injection e1 with e1; injection e1 with e1; subst e1
  exact Blk.frozen (t := t) (cs := cur) hh i
theorem OwnL.some_ {α : Type} {t size : Nat} {E : Rd α} {w : World} {base lo : Nat} {A : Option Addr} {n c : Nat} {l : List α} (h : OwnL t size E w base lo (.slice A n c) l) (hl : 0 < l.length) : ∃ g, A = some ⟨g, 0, none⟩ ∧ base ≤ g := by
 obtain ⟨ess, h1, h2, h3⟩ := h
 rcases h2.2 with ⟨_, hn⟩ | ⟨g', cap, cur, e, hb, _⟩
 ·omega
 ·injection e with e1; exact ⟨g', e1, hb⟩

def RRArc : Rd RArc := fun _ _ cs a => cs = [.int .i64 a.frm.tr, .int .i64 a.frm.st, .int .i64 a.to.tr, .int .i64 a.to.st, .int .i64 a.wt]
theorem RRArc.ok : Rd.Ok RRArc := ⟨fun h _ _ => h⟩
theorem RRArc.flat : Rd.Flat RRArc := fun _ _ _ _ _ _ h => h
theorem RRArc.one : Rd.One RRArc := fun _ _ es x h u hu => by rw [h] at hu; simp at hu; rcases hu with rfl | rfl | rfl | rfl | rfl <;> rfl
abbrev RRArcs := RSlice 5 RRArc
theorem RRArcs.ok : Rd.Ok RRArcs := RSlice.ok RRArc.ok
theorem tyRArc : ElemTy Try.prog 52 57 5 40 := .mk' Try.underlying52 (z := .agg #[.int .i64 0, .int .i64 0, .int .i64 0, .int .i64 0, .int .i64 0]) (by kernel_rfl) rfl (by omega)
theorem RRArcs.atK {w wr : World} {A : Option Addr} {n c : Nat} {l : List RArc} (K : KeepsAll w wr) (h : RRArcs w (Old w) [.slice A n c] l) {k : Nat} (hk : k < l.length) :
  ∃ b o a, A = some ⟨b, o, none⟩ ∧ b < wr.heap.size ∧ l[k]? = some a ∧ wr.cell? ⟨b, o + k * 5, none⟩ = some (.int .i64 a.frm.tr) ∧ wr.cell? ⟨b, o + k * 5 + 1, none⟩ = some (.int .i64 a.frm.st) ∧ wr.cell? ⟨b, o + k * 5 + 2, none⟩ = some (.int .i64 a.to.tr) ∧ wr.cell? ⟨b, o + k * 5 + 3, none⟩ = some (.int .i64 a.to.st) ∧ wr.cell? ⟨b, o + k * 5 + 4, none⟩ = some (.int .i64 a.wt) := by
 obtain ⟨b, o, u, es, rfl, hb, hx, h1, h2, h3⟩ := h.get hk
 cases h2
 exact ⟨b, o, u, rfl, Nat.lt_of_lt_of_le hb K.size, hx, K.cellK hb (by simpa using h3 0 _ rfl), K.cellK hb (by simpa [Nat.add_assoc] using h3 1 _ rfl), K.cellK hb (by simpa [Nat.add_assoc] using h3 2 _ rfl), K.cellK hb (by simpa [Nat.add_assoc] using h3 3 _ rfl), K.cellK hb (by simpa [Nat.add_assoc] using h3 4 _ rfl)⟩

set_option maxRecDepth 100000 in
set_option maxHeartbeats 1000000 in
theorem Between_any (ps : List (List Stage)) (r : Int) (A : Option Addr) (c : Nat) (w : World) (h : RPaths w (Old w) [.slice A ps.length c] ps) (t k : Nat) (p : List Stage) (s : Stage) (v : Ref) (hp : ps[t]? = some p) (hs : p[k]? = some s) (hk : k ≤ 1000000) :
  Calls Try.prog 24 #[.slice A ps.length c, .int .i64 r, .agg #[.int .i64 (t : Int), .int .i64 (k : Int)], .agg #[.int .i64 v.tr, .int .i64 v.st]] w fun e w' => e = .returned (.agg #[.int .i64 (t : Int), .int .i64 (relOf ps r ⟨(t : Int), (k : Int)⟩).st, .int .i64 v.tr, .int .i64 v.st, .int .i64 0]) ∧ KeepsAll w w' := by
 have hc := h.caps
 have HR : Hid (relOf ps r ⟨(t : Int), (k : Int)⟩ = if s.sec = r then ⟨(t : Int), (k : Int) + 1⟩ else ⟨(t : Int), (k : Int)⟩) := by
  show relOf ps r _ = _
  simp [relOf, secOf, hp, hs]
 have ht := getElem?_lt hp
 have hkl := getElem?_lt hs
 obtain ⟨b, o, p', A', c', hbo, hb, hp', k1, hr⟩ := RSS.at_ h ht
 subst hbo
 obtain rfl := same_of hp' hp
 have hcp := hr.caps
 obtain ⟨b2, o2, s', As, cs, hbo, hb2, hs', m0, m1, m2, m3, hpts⟩ := RPath.at_ hr hkl
 subst hbo
 obtain rfl := same_of hs' hs
 have HPTS := Lib.hid hpts
 clear h hr hp hp' hs hs' hpts
 go_enter Try.func24, Try.ntmps24
 go_wp2
 generalize hW : World.alloc (World.alloc (World.alloc w _) _) _ = W
 have KW : KeepsAll w W := by subst hW; exact (((Keeps.refl _ _).alloc _).alloc _).alloc _
 have B0 : Blk W w.heap.size 46 #[.int .i64 (t : Int), .int .i64 (k : Int)] := by subst hW; exact ((Blk.new _ _ _).alloc _).alloc _
 have B1 : Blk W (w.heap.size + 1) 46 #[.int .i64 v.tr, .int .i64 v.st] := by subst hW; exact (Blk.new' _ _ _ (by simp)).alloc _
 have B2 : Blk W (w.heap.size + 1 + 1) 57 #[.int .i64 0, .int .i64 0, .int .i64 0, .int .i64 0, .int .i64 0] := by subst hW; exact Blk.new' _ _ _ (by simp)
 have e0 := B0.cell 0
 have e1 := B0.cell 1
 simp at e0 e1
 have hz := B2.lt
 replace k1 := KW.cellK (p := ⟨b, o + t, none⟩) hb k1
 replace m0 := KW.cellK (p := ⟨b2, o2 + k * 4, none⟩) hb2 m0
 replace m1 := KW.cellK (p := ⟨b2, o2 + k * 4 + 1, none⟩) hb2 m1
 replace m2 := KW.cellK (p := ⟨b2, o2 + k * 4 + 2, none⟩) hb2 m2
 replace m3 := KW.cellK (p := ⟨b2, o2 + k * 4 + 3, none⟩) hb2 m3
 have HP2 := Lib.hid (KW.rdo' RInts.ok HPTS.out)
 have KW' := Lib.hid KW
 have HB0 := Lib.hid B0; have HB1 := Lib.hid B1; have HB2 := Lib.hid B2
 clear hW KW HPTS B0 B1 B2
 refine wp_region_ext (by kernel_rfl) (by kernel_rfl) ?_
 have y0 := Ext.cell e0
 have y1 := Ext.cell e1
 have y2 := Ext.cell k1
 have z0 := Ext.cell m0
 have z1 := Ext.cell m1
 have z2 := Ext.cell m2
 have z3 := Ext.cell m3
 repeat (go_big_quiet_step ((go_at_call 61; exact Uses_ext _ s' r As cs HP2.out)))
 refine wpQuiet_nil ?_
 rintro _ ⟨X, rfl⟩
 have KX := Lib.hid (KW'.out.tr X.keeps)
 have C0 := HB0.out.kept X.keeps (by simp)
 have C1 := HB1.out.kept X.keeps (by simp)
 have C2 := HB2.out.kept X.keeps (by simp)
 clear y0 y1 y2 z0 z1 z2 z3 e0 e1 k1 m0 m1 m2 m3
 generalize X.val = WX at *
 have a0 := C0.cell 0
 have a1 := C0.cell 1
 have a2 := C1.cell 0
 have a3 := C1.cell 1
 have d0 := C2.cell 0
 have d1 := C2.cell 1
 have d2 := C2.cell 2
 have d3 := C2.cell 3
 have d4 := C2.cell 4
 have f0 := C2.frozen 0
 have f1 := C2.frozen 1
 have f2 := C2.frozen 2
 have f3 := C2.frozen 3
 have f4 := C2.frozen 4
 simp at a0 a1 a2 a3 d0 d1 d2 d3 d4
 have hzx := C2.lt
 have HC2 := Lib.hid C2
 clear C0 C1 C2 HB0 HB1 HB2
 by_cases g : s'.sec = r
 ·have g' : (s'.sec == r) = true := by simpa using g
  have Q : Hid ((relOf ps r ⟨(t : Int), (k : Int)⟩).st = (k : Int) + 1) := by show _ = _; rw [HR.out, if_pos g]
  rw [g']
  clear g g' HR
  go_wp2
  generalize hWF : World.setCell _ _ _ = WF
  have CF : Blk WF (w.heap.size + 1 + 1) 57 #[.int .i64 (t : Int), .int .i64 ((k : Int) + 1), .int .i64 v.tr, .int .i64 v.st, .int .i64 0] := by
   subst hWF
   simpa using ((((HC2.out.set_ 0 (.int .i64 (t : Int))).set_ 1 (.int .i64 ((k : Int) + 1))).set_ 2 (.int .i64 v.tr)).set_ 3 (.int .i64 v.st)).set_ 4 (.int .i64 0)
  have KF : KeepsAll w WF := by
   subst hWF
   repeat first | exact KX.out | refine Keeps.setCell ?_ (fun h => absurd h (by simp; omega)) _
  have q0 := CF.cell 0
  have q1 := CF.cell 1
  have q2 := CF.cell 2
  have q3 := CF.cell 3
  have q4 := CF.cell 4
  simp at q0 q1 q2 q3 q4
  refine bodyPost_ret (v := .agg #[.int .i64 (t : Int), .int .i64 ((k : Int) + 1), .int .i64 v.tr, .int .i64 v.st, .int .i64 0]) (by simp [results, Try.results24, go_sem, q0, q1, q2, q3, q4]) rfl ⟨by rw [Q.out], KF⟩
 ·have g' : (s'.sec == r) = false := by simpa using g
  have Q : Hid ((relOf ps r ⟨(t : Int), (k : Int)⟩).st = (k : Int)) := by show _ = _; rw [HR.out, if_neg g]
  rw [g']
  clear g g' HR
  go_wp2
  generalize hWF : World.setCell _ _ _ = WF
  have CF : Blk WF (w.heap.size + 1 + 1) 57 #[.int .i64 (t : Int), .int .i64 ((k : Int)), .int .i64 v.tr, .int .i64 v.st, .int .i64 0] := by
   subst hWF
   simpa using ((((HC2.out.set_ 0 (.int .i64 (t : Int))).set_ 1 (.int .i64 ((k : Int)))).set_ 2 (.int .i64 v.tr)).set_ 3 (.int .i64 v.st)).set_ 4 (.int .i64 0)
  have KF : KeepsAll w WF := by
   subst hWF
   repeat first | exact KX.out | refine Keeps.setCell ?_ (fun h => absurd h (by simp; omega)) _
  have q0 := CF.cell 0
  have q1 := CF.cell 1
  have q2 := CF.cell 2
  have q3 := CF.cell 3
  have q4 := CF.cell 4
  simp at q0 q1 q2 q3 q4
  refine bodyPost_ret (v := .agg #[.int .i64 (t : Int), .int .i64 ((k : Int)), .int .i64 v.tr, .int .i64 v.st, .int .i64 0]) (by simp [results, Try.results24, go_sem, q0, q1, q2, q3, q4]) rfl ⟨by rw [Q.out], KF⟩

theorem OwnL.ne_blk {α : Type} {t size : Nat} {E : Rd α} {w : World} {base lo : Nat} {v : Value} {l : List α} (h : OwnL t size E w base lo v l) {g : Nat} {t' : TypeId} {cs : Array Value} (hb : Blk w g t' cs) (hne : t ≠ t') : ¬ v.ownBlock = some g := by
 obtain ⟨ess, _, h2, _⟩ := h
 rcases h2.2 with ⟨rfl, _⟩ | ⟨g', cap, cur, rfl, _, hh, _⟩
 ·simp [Value.ownBlock]
 ·intro e
  have e : g' = g := by simpa [Value.ownBlock] using e
  subst e
  exact Blk.ne_ (t := t) (cs := cur) hh hb hne rfl
theorem flatMap_len_le {α β : Type} (f : α → List β) (B : Nat) : ∀ (l : List α), (∀ x ∈ l, (f x).length ≤ B) → (l.flatMap f).length ≤ l.length * B
 | [], _ => by simp
 | a :: l, h => by
  rw [List.flatMap_cons, List.length_append, List.length_cons, Nat.succ_mul]
  have h1 := flatMap_len_le f B l (fun x hx => h x (by simp [hx]))
  have h2 := h a (by simp)
  omega
theorem chainRP_len (t : Nat) (p : List Stage) : (chainRP t p).length = p.length := by simp [chainRP]
theorem chainR_len {ps : List (List Stage)} (hl : ∀ p ∈ ps, p.length ≤ 64) (t : Nat) : (chainR (ps.take t)).length ≤ t * 64 := by
 have h := flatMap_len_le (fun q : List Stage × Nat => chainRP q.2 q.1) 64 (ps.take t).zipIdx (fun x hx => by
  rw [chainRP_len]
  obtain ⟨p, i⟩ := x
  exact hl p (List.mem_of_mem_take (List.mem_of_getElem? (List.mem_zipIdx_iff_getElem?.1 hx))))
 have h2 : (ps.take t).zipIdx.length ≤ t := by simp; omega
 have h3 : (ps.take t).zipIdx.length * 64 ≤ t * 64 := Nat.mul_le_mul_right _ h2
 unfold chainR; omega

set_option maxRecDepth 100000 in
set_option maxHeartbeats 1000000 in
theorem Chain_any (ps : List (List Stage)) (A : Option Addr) (c : Nat) (w : World) (hv : valid ps = true) (h : RPaths w (Old w) [.slice A ps.length c] ps) :
  Calls Try.prog 23 #[.slice A ps.length c] w fun e w' => ∃ v, e = .returned v ∧ OwnL 57 5 RRArc w' w.heap.size w.heap.size v (chainR ps) ∧ KeepsAll w w' := by
 have hc := h.caps
 have H := Lib.hid h; clear h
 have hlen := valid_lens hv
 have hl10 := hlen.1
 have HLEN := Lib.hid (fun p hp => (hlen.2 p hp).2); clear hlen
 have HV := Lib.hid hv; clear hv
 go_enter Try.func23, Try.ntmps23
 go_wp2
 go_loopw [3, 10] (fun v i wr => ∃ t : Nat, t ≤ ps.length ∧ i = .int .i64 t ∧ OwnL 57 5 RRArc wr w.heap.size w.heap.size v (chainR (ps.take t)) ∧ KeepsAll w wr) (fun _ i _ => ps.length - (intOf i).toNat)
 case atStart => exact ⟨0, Nat.zero_le _, rfl, OwnL.nil, Keeps.refl _ _⟩
 case round =>
  obtain ⟨t, ht, rfl, ho, hkr⟩ := hrel
  obtain ⟨Aa, ca, rfl, hca, hca2⟩ := ho.form
  have HO := Lib.hid ho; clear ho
  have KR := Lib.hid hkr; clear hkr
  have hsz := KR.out.size
  by_cases hlt : t < ps.length
  ·obtain ⟨b, o, p, A', c', rfl, hb, hp, k1, hr⟩ := RSS.atK KR.out H.out hlt
   have hcp := hr.caps
   have HPR := Lib.hid hr; clear hr
   have hpl := HLEN.out p (List.mem_of_getElem? hp)
   have hDl := chainR_len HLEN.out t
   have HQ : Hid (chainR (ps.take (t + 1)) = chainR (ps.take t) ++ chainRP t p) := chainR_succ hp
   clear hp
   generalize chainR (ps.take t) = D at HO HQ hDl hca ⊢
   have hdt : decide ((t : Int) < (ps.length : Int)) = true := by simp; omega
   go_wp2
   go_loopw [3, 17] (fun v i wr => ∃ k : Nat, k ≤ p.length ∧ i = .int .i64 k ∧ OwnL 57 5 RRArc wr w.heap.size w.heap.size v (D ++ chainRP t (p.take k)) ∧ KeepsAll w wr) (fun _ i _ => p.length - (intOf i).toNat)
   case atStart => exact ⟨0, Nat.zero_le _, rfl, by simpa [chainRP] using HO.out, KR.out⟩
   case round =>
    obtain ⟨k, hk, rfl, ho2, hk2⟩ := hrel
    obtain ⟨Ab, cb, rfl, hcb, hcb2⟩ := ho2.form
    have HO2 := Lib.hid ho2; clear ho2
    have K2 := Lib.hid hk2; clear hk2
    have hsz2 := K2.out.size
    have hEl : (D ++ chainRP t (p.take k)).length ≤ 640 + k := by
     have h2 : (p.take k).length ≤ k := by simp; omega
     rw [List.length_append, chainRP_len]; omega
    by_cases hlt2 : k < p.length
    ·obtain ⟨b2, o2, s, A2, c2, rfl, hb2, hs, m0, m1, m2, m3, hpts⟩ := RPath.atK K2.out HPR.out hlt2
     have HQ2 : Hid (D ++ chainRP t (p.take (k + 1)) = (D ++ chainRP t (p.take k)) ++ [⟨⟨(t : Int), (k : Int)⟩, ⟨(t : Int), (k : Int) + 1⟩, s.mn⟩]) := by
      show _ = _
      rw [chainRP_succ t hs, List.append_assoc]
     clear hpts hs
     generalize D ++ chainRP t (p.take k) = L at HO2 HQ2 hEl hcb ⊢
     go_wp2_with (at_builtin; refine wpList_append_L tyRArc RRArc.ok rfl (.tmp 22) (.tmp 33) rfl ((HO2.out.alloc RRArc.ok _).alloc RRArc.ok _) rfl _ [.int .i64 (t : Int), .int .i64 (k : Int), .int .i64 (t : Int), .int .i64 ((k : Int) + 1), .int .i64 s.mn] rfl (Blk.new' _ _ _ (by simp)) rfl ⟨⟨(t : Int), (k : Int)⟩, ⟨(t : Int), (k : Int) + 1⟩, s.mn⟩ (S := fun _ => False) rfl (fun _ h => h.elim) (by simp [Value.oneCell']) (by omega) (by omega) (by simp; omega) ?_; intro v4 w4 HO4 HK4 HA4; obtain ⟨A6, c6x, hv6, _, _⟩ := HO4.form; rw [List.length_append, List.length_singleton] at hv6; subst hv6)
     go_roundw
     case rel => exact ⟨k + 1, by omega, by go_num, by rw [HQ2.out]; exact HO4, (((K2.out.alloc _).alloc _).trans HK4 (fun x hx e => (by have := HO2.out.lt e; omega)))⟩
     case measure => simp [intOf]; omega
    ·obtain rfl : k = p.length := by omega
     have e : p.take p.length = p := List.take_length
     rw [e] at HO2 ⊢
     clear e
     go_wp2
     go_roundw
     case rel => exact ⟨t + 1, by omega, by go_num, by rw [HQ.out]; exact HO2.out, K2.out⟩
     case measure => simp [intOf]; omega
  ·obtain rfl : t = ps.length := by omega
   have e : ps.take ps.length = ps := List.take_length
   rw [e] at HO ⊢
   clear e
   go_wp2
   go_ret
   exact ⟨_, rfl, HO.out, KR.out⟩

set_option maxRecDepth 100000 in
set_option maxHeartbeats 1000000 in
theorem RefReady_any (arcs : List RArc) (now : List Int) (A A2 : Option Addr) (c c2 : Nat) (u : Ref) (w : World) (h : RRArcs w (Old w) [.slice A arcs.length c] arcs) (h2 : RInts w (Old w) [.slice A2 now.length c2] now) (hin : ∀ a ∈ arcs, 0 ≤ a.frm.tr ∧ a.frm.tr < now.length) :
  Calls Try.prog 62 #[.slice A arcs.length c, .slice A2 now.length c2, .agg #[.int .i64 u.tr, .int .i64 u.st]] w fun e w' => e = .returned (.bool (rdyR arcs now u)) ∧ KeepsAll w w' := by
 have hc := h.caps
 have hc2 := h2.caps
 have H := Lib.hid h; clear h
 have H2 := Lib.hid h2; clear h2
 have HIN := Lib.hid hin; clear hin
 go_enter Try.func62, Try.ntmps62
 go_wp2
 generalize hW : World.alloc w _ = W
 have KW : Hid (KeepsAll w W) := by subst hW; exact (Keeps.refl _ _).alloc _
 have BU : Hid (Blk W w.heap.size 46 #[.int .i64 u.tr, .int .i64 u.st]) := by subst hW; exact Blk.new _ _ _
 clear hW
 generalize w.heap.size = zu at *
 go_loopw [11] (fun i wr => ∃ k : Nat, k ≤ arcs.length ∧ i = .int .i64 k ∧ KeepsAll W wr ∧ rdyR (arcs.take k) now u = true) (fun i _ => arcs.length - (intOf i).toNat)
 case atStart => exact ⟨0, Nat.zero_le _, rfl, Keeps.refl _ _, by simp [rdyR]⟩
 case round =>
  obtain ⟨k, hk, rfl, hkr, hall⟩ := hrel
  have KR := Lib.hid hkr; clear hkr
  have HALL := Lib.hid hall; clear hall
  by_cases hlt : k < arcs.length
  ·obtain ⟨b, o, a, hbo, hb, ha, m0, m1, m2, m3, m4⟩ := RRArcs.atK (KW.out.tr KR.out) H.out hlt
   subst hbo
   have hai := HIN.out a (List.mem_of_getElem? ha)
   obtain ⟨tf, htf⟩ := Int.eq_ofNat_of_zero_le hai.1
   have htl : tf < now.length := by omega
   obtain ⟨b3, o3, x, hbo, hb3, hx, q0⟩ := RInts.atK (KW.out.tr KR.out) H2.out htl
   subst hbo
   have BUr := BU.out.kept KR.out (by simp)
   have e0 := BUr.cell 0
   have e1 := BUr.cell 1
   simp at e0 e1
   have hzu := BUr.lt
   have HD : Hid (doneR now a.frm = decide (a.frm.st ≤ x)) := by
    show doneR _ _ = _
    unfold doneR
    rw [htf, Int.toNat_natCast, nowAt_of hx]
   have HQ : Hid (rdyR (arcs.take (k + 1)) now u = (rdyR (arcs.take k) now u && !(decide (a.to = u) && !doneR now a.frm))) := by
    show _ = _
    unfold rdyR
    rw [List.take_add_one, ha]
    simp
   have HBAD : Hid ((decide (a.to = u) && !doneR now a.frm) = true → rdyR arcs now u = false) := fun hb => by
    unfold rdyR
    rw [List.all_eq_false]
    exact ⟨a, List.mem_of_getElem? ha, by rw [hb]; simp⟩
   clear ha hx hai BUr
   have hdk : decide ((k : Int) < (arcs.length : Int)) = true := by simp; omega
   rw [htf] at m0
   go_wp2
   generalize hW2 : World.alloc wr _ = W2
   have KW2 : KeepsAll wr W2 := by subst hW2; exact (Keeps.refl _ _).alloc _
   have BA : Blk W2 wr.heap.size 57 #[.int .i64 (tf : Int), .int .i64 a.frm.st, .int .i64 a.to.tr, .int .i64 a.to.st, .int .i64 a.wt] := by subst hW2; exact Blk.new _ _ _
   have a0 := BA.cell 0
   have a1 := BA.cell 1
   have a2 := BA.cell 2
   have a3 := BA.cell 3
   simp at a0 a1 a2 a3
   have hza := BA.lt
   replace e0 := KW2.cellK (p := ⟨zu, 0, none⟩) hzu e0
   replace e1 := KW2.cellK (p := ⟨zu, 1, none⟩) hzu e1
   replace q0 := KW2.cellK (p := ⟨b3, o3 + tf, none⟩) hb3 q0
   have K2 := Lib.hid (KR.out.tr KW2)
   clear hW2 KW2 BA m0 m1 m2 m3 m4 hb hb3 hzu
   generalize wr.heap.size = za at *
   by_cases g1 : a.to = u
   ·have g1' : a.to.tr = u.tr := by rw [g1]
    have g1'' : a.to.st = u.st := by rw [g1]
    rw [g1'] at a2
    rw [g1''] at a3
    by_cases g2 : a.frm.st ≤ x
    ·have Q : Hid (rdyR (arcs.take (k + 1)) now u = true) := by show _ = _; rw [HQ.out, HALL.out, HD.out, decide_eq_true g2]; simp
     have g2' : decide (x < a.frm.st) = false := by simp; omega
     clear g1 g1' g1'' g2 HQ HD HBAD
     go_quiet (fail)
     go_wp2
     go_roundw
     case rel => exact ⟨k + 1, by omega, by go_num, K2.out.drewN _, Q.out⟩
     case measure => simp [intOf]; omega
    ·have Q : Hid (rdyR arcs now u = false) := HBAD.out (by rw [HD.out]; simp [g1]; omega)
     have g2' : decide (x < a.frm.st) = true := by simp; omega
     clear g1 g1' g1'' g2 HQ HD HBAD
     go_quiet (fail)
     go_wp2
     go_ret
     exact ⟨by rw [Q.out]; rfl, (KW.out.tr K2.out).drewN _⟩
   ·have Q : Hid (rdyR (arcs.take (k + 1)) now u = true) := by show _ = _; rw [HQ.out, HALL.out]; simp [g1]
    have g1n : ¬ (a.to.tr = u.tr ∧ a.to.st = u.st) := fun h => g1 (Ref.eq_of h.1 h.2)
    clear g1 HQ HD HBAD
    by_cases g3 : a.to.tr = u.tr
    ·have g4 : ¬ a.to.st = u.st := fun h => g1n ⟨g3, h⟩
     have g4' : (a.to.st == u.st) = false := by simpa using g4
     rw [g3] at a2
     clear g1n g3
     go_quiet (fail)
     go_wp2
     go_roundw
     case rel => exact ⟨k + 1, by omega, by go_num, K2.out.drewN _, Q.out⟩
     case measure => simp [intOf]; omega
    ·have g3' : (a.to.tr == u.tr) = false := by simpa using g3
     clear g1n
     go_quiet (fail)
     go_wp2
     go_roundw
     case rel => exact ⟨k + 1, by omega, by go_num, K2.out.drewN _, Q.out⟩
     case measure => simp [intOf]; omega
  ·obtain rfl : k = arcs.length := by omega
   rw [List.take_length] at HALL
   go_wp2
   go_ret
   exact ⟨by rw [HALL.out]; rfl, KW.out.tr KR.out⟩

end Go.Proofs.Ytilbbpbjhoidhaa
