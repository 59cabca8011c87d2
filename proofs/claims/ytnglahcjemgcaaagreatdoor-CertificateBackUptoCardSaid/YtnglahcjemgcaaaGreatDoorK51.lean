/- Contracts of precedence.isStage and Valid and of the reference's validStage and Valid, and that the two agree. Conditions: as each theorem says. Contracts of precedence.Valid and the reference's Valid. Conditions: as each theorem says. Contracts of the readers of positions: Section, good, Good, Same, Left. Conditions: as each theorem says. The orders of chapter 35 as plain lists: which uses a resource has, and when orders are valid. No program in sight. The graph of chapter 35 as plain lists: events, their numbers, the arcs that lead to each. No program in sight. Contracts of the makers of positions and paths: what they return fits. Conditions: as each theorem says. A slice that fills a block of its own reads as its list; rows that make lays. Conditions: as each theorem says. Contracts of the readers of stages and uses: Contains, uses, Uses, holds. Conditions: as each theorem says. Reading in a world that keeps all of an earlier one. Conditions: as each theorem says. A slice of slices under construction: each row grows by append on its own. Conditions: as each theorem says. A list of paths in memory of which one cell is written again: it still reads as a list of paths. Conditions: as each theorem says. -/
import Derived.Test.YtnglahcjemgcaaaGreatDoorK06
import Derived.Deep.RegionWith
import Derived.Test.YtnglahcjemgcaaaGreatDoorK01
import Derived.Deep.OwnRows
namespace Go.Proofs.YtnglahcjemgcaaaGreatDoor
section
open Go.RowKit

def ptOk (sec : Int) (pts : List Int) (i : Nat) (p : Int) : Bool := isRes p && !(p == sec) && !(decide (0 < i) && p == pts.headD 0)
def ptsFrom (sec : Int) (pts : List Int) : Nat → List Int → Bool
  | _, [] => true
  | i, p :: r => ptOk sec pts i p && ptsFrom sec pts (i + 1) r
def stageOk (s : Stage) : Bool := isRes s.sec && decide (s.pts.length ≤ 2) && ptsFrom s.sec s.pts 0 s.pts && (isClk s.mn && isClk s.nt)

theorem drop_cons {α : Type} {l : List α} {k : Nat} {x : α} (h : l[k]? = some x) : l.drop k = x :: l.drop (k + 1) := by
  obtain ⟨hk, e⟩ := List.getElem?_eq_some_iff.1 h
  rw [← e, List.getElem_cons_drop hk]

def PtsInv (s : Stage) (k : Nat) : Prop := ptsFrom s.sec s.pts 0 s.pts = ptsFrom s.sec s.pts k (s.pts.drop k)
theorem PtsInv.step {s : Stage} {k : Nat} {x : Int} (h : PtsInv s k) (hx : s.pts[k]? = some x) (ho : ptOk s.sec s.pts k x = true) : PtsInv s (k + 1) := by
  unfold PtsInv at *; rw [h, drop_cons hx, ptsFrom, ho]; rfl
theorem PtsInv.stop {s : Stage} {k : Nat} {x : Int} (h : PtsInv s k) (hx : s.pts[k]? = some x) (ho : ptOk s.sec s.pts k x = false) : stageOk s = false := by
  unfold PtsInv at h; simp [stageOk, h, drop_cons hx, ptsFrom, ho]
theorem PtsInv.done {s : Stage} (h : PtsInv s s.pts.length) : ptsFrom s.sec s.pts 0 s.pts = true := by
  unfold PtsInv at h; rw [h, List.drop_length]; rfl

end

section
open Go.RowKit

def stepOk (p : List Stage) (j : Nat) (s : Stage) : Bool := stageOk s && !(decide (0 < j) && (p[j - 1]?.map (·.sec)) == some s.sec)
def stepsFrom (p : List Stage) : Nat → List Stage → Bool
  | _, [] => true
  | j, s :: r => stepOk p j s && stepsFrom p (j + 1) r
def pathOk (p : List Stage) : Bool := decide (1 ≤ p.length) && decide (p.length ≤ 64) && stepsFrom p 0 p
def noClash (l : List Stage) : Bool := (List.range 144).all fun r : Nat => !(decide ((r : Int) ∈ l.map (·.sec)) && decide ((r : Int) ∈ l.flatMap (·.pts)))
def valid (ps : List (List Stage)) : Bool := decide (ps.length ≤ 10) && ps.all pathOk && noClash ps.flatten

def marks (xs : List Int) : List Bool := (List.range 144).map fun r : Nat => decide ((r : Int) ∈ xs)
def cellsB (l : List Bool) : Array Value := (l.map Value.bool).toArray

theorem cellsB_set (xs : List Int) (n : Nat) : (cellsB (marks xs)).setIfInBounds n (.bool true) = cellsB (marks (xs ++ [(n : Int)])) := by
  apply Array.ext_getElem?
  intro i
  simp only [cellsB, marks, List.map_map, Array.getElem?_setIfInBounds, List.getElem?_toArray, List.getElem?_map, List.size_toArray, List.length_map, List.length_range, List.mem_append, List.mem_singleton]
  by_cases hi : i < 144
  · rw [List.getElem?_range hi]
    by_cases e : n = i
    · subst e; simp [hi]
    · simp [e]; intro h; omega
  · have : (List.range 144)[i]? = none := by simp; omega
    rw [this]
    by_cases e : n = i
    · subst e; simp [hi]
    · simp [e]

structure VInv (w wr : World) (secs ptl : List Int) : Prop where
  s : Blk wr w.heap.size 330 (cellsB (marks secs))
  p : Blk wr (w.heap.size + 1) 330 (cellsB (marks ptl))
  k : KeepsAll w wr
theorem VInv.size {w wr : World} {a b : List Int} (h : VInv w wr a b) : w.heap.size + 1 < wr.heap.size := h.p.lt
theorem VInv.alloc {w wr : World} {a b : List Int} (h : VInv w wr a b) (o : Obj) : VInv w (wr.alloc o) a b := ⟨h.s.alloc o, h.p.alloc o, h.k.alloc o⟩
theorem VInv.drew {w wr : World} {a b : List Int} (h : VInv w wr a b) : VInv w wr.drew a b := ⟨h.s, h.p, h.k.drew⟩
theorem VInv.sec {w wr : World} {a b : List Int} (h : VInv w wr a b) (n : Nat) : VInv w (wr.setCell ⟨w.heap.size, n, none⟩ (.bool true)) (a ++ [(n : Int)]) b :=
  ⟨by rw [← cellsB_set]; exact h.s.set_ n _, h.p.far (by simp) _, h.k.setCell (by simp) _⟩

def StepsInv (p : List Stage) (j : Nat) : Prop := stepsFrom p 0 p = stepsFrom p j (p.drop j)
theorem StepsInv.step {p : List Stage} {j : Nat} {s : Stage} (h : StepsInv p j) (hx : p[j]? = some s) (ho : stepOk p j s = true) : StepsInv p (j + 1) := by
  unfold StepsInv at *; rw [h, drop_cons hx, stepsFrom, ho]; rfl
theorem StepsInv.stop {p : List Stage} {j : Nat} {s : Stage} (h : StepsInv p j) (hx : p[j]? = some s) (ho : stepOk p j s = false) : pathOk p = false := by
  unfold StepsInv at h; simp [pathOk, h, drop_cons hx, stepsFrom, ho]
theorem StepsInv.done {p : List Stage} (h : StepsInv p p.length) : stepsFrom p 0 p = true := by
  unfold StepsInv at h; rw [h, List.drop_length]; rfl

def NcInv (l : List Stage) (r : Nat) : Prop := ∀ i : Nat, i < r → ¬ ((i : Int) ∈ l.map (·.sec) ∧ (i : Int) ∈ l.flatMap (·.pts))
theorem NcInv.step {l : List Stage} {r : Nat} (h : NcInv l r) (hn : (r : Int) ∉ l.map (·.sec) ∨ (r : Int) ∉ l.flatMap (·.pts)) : NcInv l (r + 1) := by
  intro i hi
  rcases Nat.lt_succ_iff_lt_or_eq.1 hi with h1 | rfl
  · exact h i h1
  · rintro ⟨h1, h2⟩; rcases hn with hn | hn <;> exact hn (by assumption)
theorem NcInv.done {l : List Stage} (h : NcInv l 144) : noClash l = true := by
  unfold noClash
  rw [List.all_eq_true]
  intro r hr
  have := h r (List.mem_range.1 hr)
  by_cases h1 : (r : Int) ∈ l.map (·.sec)
  · have h2 : (r : Int) ∉ l.flatMap (·.pts) := fun h2 => this ⟨h1, h2⟩
    rw [decide_eq_false h2]; simp
  · rw [decide_eq_false h1]; simp

end

section
open Go.RowKit

theorem getElem?_lt {α : Type} {l : List α} {k : Nat} {x : α} (h : l[k]? = some x) : k < l.length := (List.getElem?_eq_some_iff.1 h).1
theorem same_of {α : Type} {l : List α} {k : Nat} {x y : α} (h : l[k]? = some x) (h' : l[k]? = some y) : x = y := by rw [h] at h'; injection h'

/-- good positions -/
def okPos (p : List Stage) (a : Int) : Bool := decide (-1 ≤ a) && decide (a ≤ p.length)
def goodFrom : List (List Stage) → List Int → Bool
  | p :: ps, a :: l => okPos p a && goodFrom ps l
  | _, _ => true
def good (ps : List (List Stage)) (at_ : List Int) : Bool := decide (at_.length = ps.length) && goodFrom ps at_
def GoodInv (ps : List (List Stage)) (at_ : List Int) (k : Nat) : Prop := goodFrom ps at_ = goodFrom (ps.drop k) (at_.drop k)
theorem drop_cons' {α : Type} {l : List α} {k : Nat} {x : α} (h : l[k]? = some x) : l.drop k = x :: l.drop (k + 1) := by
  obtain ⟨hk, e⟩ := List.getElem?_eq_some_iff.1 h
  rw [← e, List.getElem_cons_drop hk]
theorem GoodInv.step {ps : List (List Stage)} {at_ : List Int} {k : Nat} {p : List Stage} {a : Int} (h : GoodInv ps at_ k) (hp : ps[k]? = some p) (ha : at_[k]? = some a) (ho : okPos p a = true) : GoodInv ps at_ (k + 1) := by
  unfold GoodInv at *; rw [h, drop_cons' hp, drop_cons' ha, goodFrom, ho]; rfl
theorem GoodInv.stop {ps : List (List Stage)} {at_ : List Int} {k : Nat} {p : List Stage} {a : Int} (h : GoodInv ps at_ k) (hp : ps[k]? = some p) (ha : at_[k]? = some a) (ho : okPos p a = false) : good ps at_ = false := by
  unfold GoodInv at h; simp [good, h, drop_cons' hp, drop_cons' ha, goodFrom, ho]
theorem GoodInv.done {ps : List (List Stage)} {at_ : List Int} (h : GoodInv ps at_ ps.length) : goodFrom ps at_ = true := by
  unfold GoodInv at h; rw [h, List.drop_length]; unfold goodFrom; cases at_.drop ps.length <;> rfl

end

section
open Go.RowKit

/-- valid orders -/
def PairOk (v u : Ref) : Prop := v ≠ u ∧ ¬ (v.tr = u.tr ∧ u.st < v.st)
instance (v u : Ref) : Decidable (PairOk v u) := by unfold PairOk; infer_instance
def exactlyB (l want : List Ref) : Bool := decide (l.length = want.length) && l.all (fun u => decide (u ∈ want)) && decide (l.Pairwise PairOk)

end

section
open Go.RowKit

structure GArc where
  frm : Int
  wt : Int
  deriving DecidableEq, Inhabited, Repr

end

section
open Go.RowKit

end

section
open Go.RowKit

end

section
open Go.RowKit

theorem RRefs.at_ {w : World} {S : Foot} {A : Option Addr} {n c : Nat} {l : List Ref} (h : RRefs w S [.slice A n c] l) {k : Nat} (hk : k < l.length) :
    ∃ b o u, A = some ⟨b, o, none⟩ ∧ S b ∧ l[k]? = some u ∧ w.cell? ⟨b, o + k * 2, none⟩ = some (.int .i64 u.tr) ∧ w.cell? ⟨b, o + k * 2 + 1, none⟩ = some (.int .i64 u.st) := by
  obtain ⟨b, o, u, es, rfl, hb, hx, h1, h2, h3⟩ := h.get hk
  cases h2
  exact ⟨b, o, u, rfl, hb, hx, by simpa using h3 0 _ rfl, by simpa [Nat.add_assoc] using h3 1 _ rfl⟩
theorem ROrders.at_ {w : World} {S : Foot} {A : Option Addr} {n c : Nat} {l : List Order} (h : ROrders w S [.slice A n c] l) {k : Nat} (hk : k < l.length) :
    ∃ b o x A' c', A = some ⟨b, o, none⟩ ∧ S b ∧ l[k]? = some x ∧ w.cell? ⟨b, o + k * 2, none⟩ = some (.int .i64 x.res) ∧ w.cell? ⟨b, o + k * 2 + 1, none⟩ = some (.slice A' x.uses.length c') ∧ RRefs w S [.slice A' x.uses.length c'] x.uses := by
  obtain ⟨b, o, x, es, rfl, hb, hx, h1, ⟨v, rfl, hv⟩, h3⟩ := h.get hk
  have hv' := hv
  obtain ⟨A', c', he, _⟩ := hv'
  injection he with he _; subst he
  exact ⟨b, o, x, A', c', rfl, hb, hx, by simpa using h3 0 _ rfl, by simpa [Nat.add_assoc] using h3 1 _ rfl, hv⟩

end

section
open Go.RowKit

theorem Keeps.tr {a b c : World} (k : KeepsAll a b) (k' : KeepsAll b c) : KeepsAll a c := k.trans k' (fun _ _ h => h)
theorem Keeps.cellK {a b : World} (k : KeepsAll a b) {p : Addr} {v : Value} (hp : p.block < a.heap.size) (h : a.cell? p = some v) : b.cell? p = some v := (k.cell hp (by simp)).trans h
section
variable {w wr : World} {A : Option Addr} {n c : Nat}
theorem RInts.atK {l : List Int} (K : KeepsAll w wr) (h : RInts w (Old w) [.slice A n c] l) {k : Nat} (hk : k < l.length) :
    ∃ b o x, A = some ⟨b, o, none⟩ ∧ b < wr.heap.size ∧ l[k]? = some x ∧ wr.cell? ⟨b, o + k, none⟩ = some (.int .i64 x) := by
  obtain ⟨b, o, x, rfl, hb, hx, h1⟩ := h.at_ hk
  exact ⟨b, o, x, rfl, Nat.lt_of_lt_of_le hb K.size, hx, K.cellK hb h1⟩
theorem RSS.atK {α : Type} {size : Nat} {E : Rd α} {l : List (List α)} (K : KeepsAll w wr) (h : RSlice 1 (RSlice size E) w (Old w) [.slice A n c] l) {k : Nat} (hk : k < l.length) :
    ∃ b o x A' c', A = some ⟨b, o, none⟩ ∧ b < wr.heap.size ∧ l[k]? = some x ∧ wr.cell? ⟨b, o + k, none⟩ = some (.slice A' x.length c') ∧ RSlice size E w (Old w) [.slice A' x.length c'] x := by
  obtain ⟨b, o, x, A', c', rfl, hb, hx, h1, h2⟩ := RSS.at_ h hk
  exact ⟨b, o, x, A', c', rfl, Nat.lt_of_lt_of_le hb K.size, hx, K.cellK hb h1, h2⟩
theorem RPath.atK {l : List Stage} (K : KeepsAll w wr) (h : RPath w (Old w) [.slice A n c] l) {k : Nat} (hk : k < l.length) :
    ∃ b o s A' c', A = some ⟨b, o, none⟩ ∧ b < wr.heap.size ∧ l[k]? = some s ∧ wr.cell? ⟨b, o + k * 4, none⟩ = some (.int .i64 s.sec) ∧ wr.cell? ⟨b, o + k * 4 + 1, none⟩ = some (.slice A' s.pts.length c') ∧
      wr.cell? ⟨b, o + k * 4 + 2, none⟩ = some (.int .i64 s.mn) ∧ wr.cell? ⟨b, o + k * 4 + 3, none⟩ = some (.int .i64 s.nt) ∧ RInts w (Old w) [.slice A' s.pts.length c'] s.pts := by
  obtain ⟨b, o, s, A', c', rfl, hb, hx, h0, h1, h2, h3, h4⟩ := RPath.at_ h hk
  exact ⟨b, o, s, A', c', rfl, Nat.lt_of_lt_of_le hb K.size, hx, K.cellK hb h0, K.cellK hb h1, K.cellK hb h2, K.cellK hb h3, h4⟩
theorem RRefs.atK {l : List Ref} (K : KeepsAll w wr) (h : RRefs w (Old w) [.slice A n c] l) {k : Nat} (hk : k < l.length) :
    ∃ b o u, A = some ⟨b, o, none⟩ ∧ b < wr.heap.size ∧ l[k]? = some u ∧ wr.cell? ⟨b, o + k * 2, none⟩ = some (.int .i64 u.tr) ∧ wr.cell? ⟨b, o + k * 2 + 1, none⟩ = some (.int .i64 u.st) := by
  obtain ⟨b, o, u, rfl, hb, hx, h0, h1⟩ := RRefs.at_ h hk
  exact ⟨b, o, u, rfl, Nat.lt_of_lt_of_le hb K.size, hx, K.cellK hb h0, K.cellK hb h1⟩
theorem ROrders.atK {l : List Order} (K : KeepsAll w wr) (h : ROrders w (Old w) [.slice A n c] l) {k : Nat} (hk : k < l.length) :
    ∃ b o x A' c', A = some ⟨b, o, none⟩ ∧ b < wr.heap.size ∧ l[k]? = some x ∧ wr.cell? ⟨b, o + k * 2, none⟩ = some (.int .i64 x.res) ∧ wr.cell? ⟨b, o + k * 2 + 1, none⟩ = some (.slice A' x.uses.length c') ∧ RRefs w (Old w) [.slice A' x.uses.length c'] x.uses := by
  obtain ⟨b, o, x, A', c', rfl, hb, hx, h0, h1, h2⟩ := ROrders.at_ h hk
  exact ⟨b, o, x, A', c', rfl, Nat.lt_of_lt_of_le hb K.size, hx, K.cellK hb h0, K.cellK hb h1, h2⟩
end

end

section
open Go.RowKit

/-- a reading that rests on no memory -/
def Rd.Flat {α : Type} (E : Rd α) : Prop := ∀ w S w' S' cs x, E w S cs x → E w' S' cs x
def RGArc : Rd GArc := fun _ _ cs a => cs = [.int .i64 a.frm, .int .i64 a.wt]
theorem RGArc.ok : Rd.Ok RGArc := ⟨fun h _ _ => h⟩
abbrev RArcs := RSlice 2 RGArc
abbrev RArcss := RSlice 1 RArcs
theorem RArcs.ok : Rd.Ok RArcs := RSlice.ok RGArc.ok
theorem RArcss.ok : Rd.Ok RArcss := RSlice.ok RArcs.ok
theorem RArcs.atK {w wr : World} {A : Option Addr} {n c : Nat} {l : List GArc} (K : KeepsAll w wr) (h : RArcs w (Old w) [.slice A n c] l) {k : Nat} (hk : k < l.length) :
    ∃ b o u, A = some ⟨b, o, none⟩ ∧ b < wr.heap.size ∧ l[k]? = some u ∧ wr.cell? ⟨b, o + k * 2, none⟩ = some (.int .i64 u.frm) ∧ wr.cell? ⟨b, o + k * 2 + 1, none⟩ = some (.int .i64 u.wt) := by
  obtain ⟨b, o, u, es, rfl, hb, hx, h1, h2, h3⟩ := h.get hk
  cases h2
  exact ⟨b, o, u, rfl, Nat.lt_of_lt_of_le hb K.size, hx, K.cellK hb (by simpa using h3 0 _ rfl), K.cellK hb (by simpa [Nat.add_assoc] using h3 1 _ rfl)⟩

theorem OwnL.keepsF {α : Type} {t size : Nat} {E : Rd α} {w w' : World} {base lo : Nat} {v : Value} {l : List α} (hF : Rd.Flat E) {C : Foot} (h : OwnL t size E w base lo v l) (k : Keeps C w w') (hC : ∀ b, v.ownBlock = some b → ¬ C b) : OwnL t size E w' base lo v l := by
  obtain ⟨ess, h1, h2, h3⟩ := h
  refine ⟨ess, h1, ?_, fun j x hx => ?_⟩
  · refine ⟨h2.1, ?_⟩
    rcases h2.2 with hn | ⟨g, cap, cur, e, hb, hh, rest⟩
    · exact .inl hn
    · have hlt := (Array.getElem?_eq_some_iff.1 hh).1
      exact .inr ⟨g, cap, cur, e, hb, (k.block g hlt (hC g (by rw [e]; rfl))).trans hh, rest⟩
  · obtain ⟨es, e1, e2, e3⟩ := h3 j x hx
    exact ⟨es, e1, e2, hF _ _ _ _ _ _ e3⟩
theorem OwnL.readF {α : Type} {t size : Nat} {E : Rd α} {w : World} {base lo : Nat} {v : Value} {l : List α} (_hE : Rd.Ok E) (hF : Rd.Flat E) (h : OwnL t size E w base lo v l) {S : Foot} (hS : ∀ b, v.ownBlock = some b → S b) : RSlice size E w S [v] l := by
  obtain ⟨ess, h1, h2, h3⟩ := h
  have hall : ∀ es ∈ ess, es.length = size := by
    intro es hes
    obtain ⟨j, hj, e⟩ := List.getElem_of_mem hes
    have hl : j < l.length := by omega
    obtain ⟨es', e1, e2, _⟩ := h3 j l[j] (List.getElem?_eq_getElem hl)
    rw [List.getElem?_eq_getElem hj, e] at e1
    injection e1 with e1; subst e1; exact e2
  rcases h2.2 with ⟨rfl, hn⟩ | ⟨g, cap, cur, rfl, hb, hh, hnc, hcm, hcs, htk⟩
  · have : l = [] := List.eq_nil_of_length_eq_zero hn
    subst this
    exact RSlice.mkNil
  · refine ⟨_, cap, rfl, hnc, hcm, fun _ => ⟨g, 0, rfl, hS g rfl, fun j x hx => ?_⟩⟩
    obtain ⟨es, e1, e2, e3⟩ := h3 j x hx
    refine ⟨es, e2, hF _ _ _ _ _ _ e3, fun i u hu => ?_⟩
    have hi : i < size := by rw [← e2]; exact (List.getElem?_eq_some_iff.1 hu).1
    have hj : j < l.length := (List.getElem?_eq_some_iff.1 hx).1
    have hf := flatten_at hall e1 hi
    rw [hu, ← htk] at hf
    have hk : j * size + i < l.length * size := by
      have : (j + 1) * size ≤ l.length * size := Nat.mul_le_mul_right _ hj
      rw [Nat.succ_mul] at this; omega
    rw [List.getElem?_take_of_lt hk] at hf
    simp only [World.cell?, hh, Option.isSome_none, Nat.zero_add]
    simpa using hf

structure Rows {α : Type} (tr te size : Nat) (E : Rd α) (w : World) (base B : Nat) (vs : List Value) (ll : List (List α)) : Prop where
  blk : Blk w B tr vs.toArray
  len : vs.length = ll.length
  own : ∀ (i : Nat) v l, vs[i]? = some v → ll[i]? = some l → OwnL te size E w base base v l
  ne : ∀ (i j : Nat) u v b, i ≠ j → vs[i]? = some u → vs[j]? = some v → u.ownBlock = some b → v.ownBlock ≠ some b
  nb : B < base
section
variable {α : Type} {tr te size : Nat} {E : Rd α} {w w' : World} {base B : Nat} {vs : List Value} {ll : List (List α)}
theorem Rows.keeps (hF : Rd.Flat E) {C : Foot} (h : Rows tr te size E w base B vs ll) (k : Keeps C w w') (hB : ¬ C B) (hC : ∀ b, base ≤ b → b < w.heap.size → ¬ C b) : Rows tr te size E w' base B vs ll :=
  ⟨h.blk.kept k hB, h.len, fun i v l hv hl => (h.own i v l hv hl).keepsF hF k (fun b hb => by have := (h.own i v l hv hl).lt hb; exact hC b this.1 this.2), h.ne, h.nb⟩
theorem Rows.get (h : Rows tr te size E w base B vs ll) {i : Nat} (hi : i < ll.length) : ∃ v l, vs[i]? = some v ∧ ll[i]? = some l ∧ OwnL te size E w base base v l ∧ w.cell? ⟨B, i, none⟩ = some v ∧ w.frozen? ⟨B, i, none⟩ = false := by
  have hv : vs[i]? = some (vs[i]'(by rw [h.len]; exact hi)) := List.getElem?_eq_getElem _
  have hl : ll[i]? = some ll[i] := List.getElem?_eq_getElem hi
  exact ⟨_, _, hv, hl, h.own i _ _ hv hl, by rw [h.blk.cell]; simp, h.blk.frozen i⟩
/-- row i has grown to v', in its own block or in a new one -/
theorem Rows.push (hF : Rd.Flat E) (h : Rows tr te size E w base B vs ll) {i : Nat} {v v' : Value} {l l' : List α} (hv : vs[i]? = some v) (hl : ll[i]? = some l) (_hbase : base ≤ w.heap.size) (ho : OwnL te size E w' base base v' l') (hk : Keeps (fun b => v.ownBlock = some b) w w') (hn : v'.ownBlock = v.ownBlock ∨ v'.ownBlock = some w.heap.size) :
    Rows tr te size E (w'.setCell ⟨B, i, none⟩ v') base B (vs.set i v') (ll.set i l') := by
  have hBv : ¬ (v.ownBlock = some B) := fun e => by have := (h.own i v l hv hl).lt e; have := h.nb; omega
  have hlt := h.blk.lt
  have hi := getElem?_lt hv
  have k2 : Keeps (fun b => b = B) w' (w'.setCell ⟨B, i, none⟩ v') := (Keeps.refl (fun b => b = B) w').setCell (p := ⟨B, i, none⟩) (fun _ => rfl) _
  have key : ∀ (j : Nat) u m, j ≠ i → vs[j]? = some u → ll[j]? = some m → OwnL te size E (w'.setCell ⟨B, i, none⟩ v') base base u m := fun j u m hj hu hm => by
    have h1 := (h.own j u m hu hm).keepsF hF hk (fun b hb e => h.ne j i u v b hj hu hv hb e)
    exact h1.keepsF hF k2 (fun b hb e => by have := h1.lt hb; have := h.nb; omega)
  refine ⟨?_, by simp [h.len], fun j u m hu hm => ?_, fun a b u u' x hab hu hu' hx => ?_, h.nb⟩
  · have := (h.blk.kept hk hBv).set_ i v'
    have e : vs.toArray.setIfInBounds i v' = (vs.set i v').toArray := by simp
    rw [e] at this; exact this
  · by_cases e : i = j
    · subst e
      rw [List.getElem?_set_self hi] at hu
      rw [List.getElem?_set_self (by rw [← h.len]; exact hi)] at hm
      injection hu with hu; injection hm with hm; subst hu hm
      exact ho.keepsF hF k2 (fun b hb e => by have := ho.lt hb; have := h.nb; omega)
    · rw [List.getElem?_set_ne e] at hu hm
      exact key j u m (fun h => e h.symm) hu hm
  · by_cases e1 : i = a
    · subst e1
      rw [List.getElem?_set_self hi] at hu
      injection hu with hu; subst hu
      rw [List.getElem?_set_ne hab] at hu'
      intro e2
      obtain ⟨m, hm⟩ : ∃ m, ll[b]? = some m := ⟨_, List.getElem?_eq_getElem (by rw [← h.len]; exact getElem?_lt hu')⟩
      rcases hn with hn | hn
      · exact h.ne i b v u' x hab hv hu' (by rw [← hn]; exact hx) e2
      · rw [hn] at hx; injection hx with hx; subst hx
        have := (h.own b u' m hu' hm).lt e2; omega
    · rw [List.getElem?_set_ne e1] at hu
      by_cases e2 : i = b
      · subst e2
        rw [List.getElem?_set_self hi] at hu'
        injection hu' with hu'; subst hu'
        obtain ⟨m, hm⟩ : ∃ m, ll[a]? = some m := ⟨_, List.getElem?_eq_getElem (by rw [← h.len]; exact getElem?_lt hu)⟩
        intro e3
        rcases hn with hn | hn
        · exact h.ne a i u v x hab hu hv hx (by rw [← hn]; exact e3)
        · rw [hn] at e3; injection e3 with e3; subst e3
          have := (h.own a u m hu hm).lt hx; omega
      · rw [List.getElem?_set_ne e2] at hu'
        exact h.ne a b u u' x hab hu hu' hx
theorem Rows.new (n : Nat) {B : Nat} (hb : Blk w B tr (List.replicate n (Value.slice none 0 0)).toArray) (hB : B < base) : Rows tr te size E w base B (List.replicate n (.slice none 0 0)) (List.replicate n ([] : List α)) := by
  refine ⟨hb, by simp, fun i v l hv hl => ?_, fun i j u v b _ hu _ hx => ?_, hB⟩
  · simp [List.getElem?_replicate] at hv hl
    obtain ⟨_, rfl⟩ := hv
    obtain ⟨_, rfl⟩ := hl
    exact OwnL.nil
  · simp [List.getElem?_replicate] at hu
    obtain ⟨_, rfl⟩ := hu
    simp [Value.ownBlock] at hx
theorem Rows.read (hE : Rd.Ok E) (hF : Rd.Flat E) (h : Rows tr te size E w base B vs ll) (hl : ll.length ≤ 9223372036854775807) {S : Foot} (hB : S B) (hS : ∀ b, base ≤ b → b < w.heap.size → S b) : RSlice 1 (RSlice size E) w S [.slice (some ⟨B, 0, none⟩) ll.length ll.length] ll := by
  refine ⟨_, _, rfl, Nat.le_refl _, hl, fun _ => ⟨B, 0, rfl, hB, fun j x hx => ?_⟩⟩
  obtain ⟨v, l, hv, hl', ho, hc, _⟩ := h.get (getElem?_lt hx)
  obtain rfl := same_of hl' hx
  refine ⟨[v], rfl, ho.readF hE hF (fun b hb => by have := ho.lt hb; exact hS b this.1 this.2), fun i u hu => ?_⟩
  have hi : i = 0 := by
    rcases i with _ | i
    · rfl
    · simp at hu
  subst hi
  simp at hu; subst hu
  simpa using hc
end

end

section
open Go.RowKit

theorem list_choose {α : Type} {P : Nat → α → Prop} : ∀ n : Nat, (∀ j, j < n → ∃ x, P j x) → ∃ l : List α, l.length = n ∧ ∀ (j : Nat) x, l[j]? = some x → P j x
  | 0, _ => ⟨[], rfl, fun j x h => by simp at h⟩
  | n + 1, h => by
    obtain ⟨l, hl, h1⟩ := list_choose (P := P) n (fun j hj => h j (by omega))
    obtain ⟨x, hx⟩ := h n (by omega)
    refine ⟨l ++ [x], by simp [hl], fun j y hy => ?_⟩
    rcases Nat.lt_or_ge j n with hj | hj
    · rw [List.getElem?_append_left (by omega)] at hy; exact h1 j y hy
    · rw [List.getElem?_append_right (by omega)] at hy
      have hj0 : j = n := by have := getElem?_lt hy; simp at this; omega
      subst hj0
      rw [hl, Nat.sub_self] at hy; simp at hy; subst hy; exact hx

/-- u may stand at p: an integer for an integer, a slice of integers for a slice -/
def Fit (w : World) (S : Foot) (p : Addr) (u : Value) : Prop := (∃ a b, w.cell? p = some (.int .i64 a) ∧ u = .int .i64 b) ∨ ∃ A n c, w.cell? p = some (.slice A n c) ∧ ∃ l, RInts (w.setCell p u) S [u] l
theorem Fit.int {w : World} {S : Foot} {p q : Addr} {u : Value} {x : Int} (h : Fit w S p u) (hq : w.cell? q = some (.int .i64 x)) : ∃ y, (w.setCell p u).cell? q = some (.int .i64 y) := by
  by_cases e : p = q
  · subst e
    rcases h with ⟨a, b, h1, rfl⟩ | ⟨A, n, c, h1, _⟩
    · exact ⟨b, World.cell?_setCell_same _ _ _ h1⟩
    · rw [h1] at hq; cases hq
  · exact ⟨x, (World.cell?_setCell_other _ _ _ _ e).trans hq⟩

/-- a path whose stages lie in memory from B on -/
def Soft (w : World) (b : Nat) : Prop := ∃ cur t, Blk w b t cur
theorem Soft.set_ {w : World} {b : Nat} (h : Soft w b) (p : Addr) (u : Value) : Soft (w.setCell p u) b := by
  obtain ⟨cur, t, hb⟩ := h
  by_cases e : b = p.block
  · subst e
    unfold Soft Blk World.setCell at *
    simp only [Array.getElem?_modify, hb]
    simp
  · exact ⟨cur, t, hb.far e u⟩
def RPathN (B : Nat) : Rd (List Stage) := fun w S cs l => RPath w S cs l ∧ ∀ b o s n c, cs = [.slice (some ⟨b, o, s⟩) n c] → B ≤ b ∧ S b ∧ Soft w b
theorem RPathN.ok (B : Nat) : Rd.Ok (RPathN B) := ⟨fun h hS hw => ⟨RPath.ok.mono h.1 hS hw, fun b o s n c hc => by
  obtain ⟨h1, h2, cur, t, h3⟩ := h.2 b o s n c hc
  exact ⟨h1, hS b h2, cur, t, (hw b h2).trans h3⟩⟩⟩
/-- a stage whose points lie below B -/
def RStageB (B : Nat) : Rd Stage := fun w S cs s => RStage w (fun b => S b ∧ b < B) cs s
theorem RStageB.ok (B : Nat) : Rd.Ok (RStageB B) := ⟨fun h hS hw => RStage.ok.mono h (fun b hb => ⟨hS b hb.1, hb.2⟩) (fun b hb => hw b hb.1)⟩
theorem RStageB.one (B : Nat) : Rd.One (RStageB B) := fun w _ es x h u hu => RStage.one w _ es x h u hu

section
variable {t : Nat} {w w' : World} {base : Nat} {v : Value} {ps : List (List Stage)} {B : Nat}
/-- a row of a list of paths that was built by append -/
theorem OwnL.row (h : OwnL t 1 (RPathN B) w base 0 v ps) {j : Nat} {x : List Stage} (hx : ps[j]? = some x) : ∃ g cap A c, v = .slice (some ⟨g, 0, none⟩) ps.length cap ∧ base ≤ g ∧ g < w.heap.size ∧ w.cell? ⟨g, j, none⟩ = some (.slice A x.length c) ∧ w.frozen? ⟨g, j, none⟩ = false ∧
    RPath w (fun b => b < w.heap.size ∧ b ≠ g) [.slice A x.length c] x ∧ (∀ b o s, A = some ⟨b, o, s⟩ → B ≤ b ∧ Soft w b) := by
  have hj := getElem?_lt hx
  obtain ⟨ess, h1, h2, h3⟩ := h
  have hall : ∀ es ∈ ess, es.length = 1 := by
    intro es hes
    obtain ⟨j, hj, e⟩ := List.getElem_of_mem hes
    have hl : j < ps.length := by omega
    obtain ⟨es', e1, e2, _⟩ := h3 j ps[j] (List.getElem?_eq_getElem hl)
    rw [List.getElem?_eq_getElem hj, e] at e1
    injection e1 with e1; subst e1; exact e2
  rcases h2.2 with ⟨rfl, hn⟩ | ⟨g, cap, cur, rfl, hb, hh, hnc, hcm, hcs, htk⟩
  · omega
  · obtain ⟨es, e1, e2, e3, e4⟩ := h3 j x hx
    have hlt := (Array.getElem?_eq_some_iff.1 hh).1
    obtain ⟨A, c, rfl, q⟩ := e3
    have hf := flatten_at hall e1 (i := 0) (by omega)
    rw [← htk, List.getElem?_take_of_lt (by omega)] at hf
    refine ⟨g, cap, A, c, rfl, hb, hlt, ?_, ?_, ?_, fun b o s hA => by have := e4 b o s _ _ (by rw [hA]); exact ⟨this.1, this.2.2⟩⟩
    · simp only [World.cell?, hh, Option.isSome_none]
      simpa using hf
    · simp [World.frozen?, hh]
    · refine RPath.ok.mono ⟨A, c, rfl, q⟩ (fun b hb => ⟨hb.2.1, fun e => hb.2.2 ?_⟩) (fun _ _ => rfl)
      subst e; rfl
end

end
end Go.Proofs.YtnglahcjemgcaaaGreatDoor
