/- The graph of chapter 35 as plain lists: events, their numbers, the arcs that lead to each. No program in sight. The orders that the reference sorts, as plain lists, and that they are valid. No program in sight. Insertion by the order (second, train, stage) gives what the reference sorts. No program in sight. Contracts of the readers of stages and uses: Contains, uses, Uses, holds. Conditions: as each theorem says. Contracts of the makers of positions and paths: what they return fits. Conditions: as each theorem says. Reading in a world that keeps all of an earlier one. Conditions: as each theorem says. Contracts of the reference's holds, exactly, All. Conditions: as each theorem says. Contract of the reference's Valid: it returns what precedence.Valid returns. Conditions: as each theorem says. A slice that fills a block of its own reads as its list; rows that make lays. Conditions: as each theorem says. A slice of slices under construction: each row grows by append on its own. Conditions: as each theorem says. Contract of the reference's Sort. Conditions: as the theorem says. Contracts of Go's cmp.Less, cmp.Compare, cmp.Or at integers, of slices.IsSorted and of math/bits.Len at small numbers. Conditions: as each theorem says. The order of events of chapter 35 as plain lists: the program's and the reference's are the same. No program in sight. Which arcs the graph has, in terms of the orders. No program in sight. Contracts of the small readers of the graph: number, release, happened. Conditions: as each theorem says. -/
import Derived.Test.YtcbcegdidlefiaaGreatK02
import Derived.Test.YtcbcegdidlefiaaGreatK01
import Derived.Deep.OwnRows
namespace Go.Proofs.YtcbcegdidlefiaaGreat
open Go.RowKit

structure GArc where
  frm : Int
  wt : Int
  deriving DecidableEq, Inhabited, Repr

def evs (ps : List (List Stage)) : List Ref := ps.zipIdx.flatMap fun q => (List.range (q.1.length + 1)).map fun k : Nat => ⟨(q.2 : Int), (k : Int)⟩
def fst (ps : List (List Stage)) (t : Nat) : Nat := (evs (ps.take t)).length
def firsts (ps : List (List Stage)) : List Int := (List.range ps.length).map fun t : Nat => (fst ps t : Int)

/-- the arcs, by a list of additions -/
def arcsOf (n : Nat) (adds : List (Nat × GArc)) : List (List GArc) := (List.range n).map fun i => (adds.filter fun q => q.1 == i).map (·.2)
theorem arcsOf_len (n : Nat) (adds : List (Nat × GArc)) : (arcsOf n adds).length = n := by simp [arcsOf]
theorem arcsOf_at (n : Nat) (adds : List (Nat × GArc)) {i : Nat} (hi : i < n) : (arcsOf n adds)[i]? = some ((adds.filter fun q => q.1 == i).map (·.2)) := by simp [arcsOf, hi]
theorem arcsOf_push (n : Nat) (adds : List (Nat × GArc)) {i : Nat} (a : GArc) {l : List GArc} (hl : (arcsOf n adds)[i]? = some l) : arcsOf n (adds ++ [(i, a)]) = (arcsOf n adds).set i (l ++ [a]) := by
  have hi : i < n := by have := getElem?_lt hl; rwa [arcsOf_len] at this
  rw [arcsOf_at n adds hi] at hl
  injection hl with hl
  apply List.ext_getElem?
  intro j
  rw [List.getElem?_set]
  by_cases hj : j < n
  · rw [arcsOf_at n _ hj]
    by_cases e : i = j
    · subst e
      rw [if_pos rfl, if_pos (by rw [arcsOf_len]; exact hi), List.filter_append, List.map_append, hl]
      simp
    · rw [if_neg e, arcsOf_at n adds hj, List.filter_append, List.map_append]
      have : (i == j) = false := by simpa using e
      simp [this]
  · have h1 : (arcsOf n (adds ++ [(i, a)]))[j]? = none := List.getElem?_eq_none (by rw [arcsOf_len]; omega)
    have h2 : (arcsOf n adds)[j]? = none := List.getElem?_eq_none (by rw [arcsOf_len]; omega)
    rw [h1, h2]
    by_cases e : i = j
    · omega
    · rw [if_neg e]

/-- the number of an event; the event after which a use is over -/
def num (ps : List (List Stage)) (u : Ref) : Nat := fst ps u.tr.toNat + u.st.toNat
def secOf (ps : List (List Stage)) (u : Ref) : Int := (((ps[u.tr.toNat]?).getD [])[u.st.toNat]?).elim (-1) (·.sec)
def relOf (ps : List (List Stage)) (r : Int) (u : Ref) : Ref := if secOf ps u = r then ⟨u.tr, u.st + 1⟩ else u
def relArcs (to : Nat) (tr : Int) (rel : List Int) : List (Nat × GArc) := rel.zipIdx.flatMap fun q => if (q.2 : Int) ≠ tr ∧ 0 ≤ q.1 then [(to, ⟨q.1, 0⟩)] else []
def useAdds (ps : List (List Stage)) (r : Int) : List Ref → List Int → List (Nat × GArc)
  | [], _ => []
  | v :: l, rel => relArcs (num ps v) v.tr rel ++ useAdds ps r l (rel.set v.tr.toNat (num ps (relOf ps r v)))
def orderAdds (ps : List (List Stage)) (o : Order) : List (Nat × GArc) := useAdds ps o.res o.uses (List.replicate ps.length (-1))

def cmpI (a b : Int) : Int := if a < b then -1 else if a > b then 1 else 0

theorem RRefs.at_ {w : World} {S : Foot} {A : Option Addr} {n c : Nat} {l : List Ref} (h : RRefs w S [.slice A n c] l) {k : Nat} (hk : k < l.length) :
    ∃ b o u, A = some ⟨b, o, none⟩ ∧ S b ∧ l[k]? = some u ∧ w.cell? ⟨b, o + k * 2, none⟩ = some (.int .i64 u.tr) ∧ w.cell? ⟨b, o + k * 2 + 1, none⟩ = some (.int .i64 u.st) := by
  obtain ⟨b, o, u, es, rfl, hb, hx, h1, h2, h3⟩ := h.get hk
  cases h2
  exact ⟨b, o, u, rfl, hb, hx, by simpa using h3 0 _ rfl, by simpa [Nat.add_assoc] using h3 1 _ rfl⟩
theorem ROrders.at_ {w : World} {S : Foot} {A : Option Addr} {n c : Nat} {l : List Order} (h : ROrders w S [.slice A n c] l) {k : Nat} (hk : k < l.length) :
    ∃ b o x A' c', A = some ⟨b, o, none⟩ ∧ S b ∧ l[k]? = some x ∧ w.cell? ⟨b, o + k * 2, none⟩ = some (.int .i64 x.res) ∧ w.cell? ⟨b, o + k * 2 + 1, none⟩ = some (.slice A' x.uses.length c') ∧ RRefs w S [.slice A' x.uses.length c'] x.uses := by
  obtain ⟨b, o, x, es, rfl, hb, hx, h1, ⟨v, rfl, hv⟩, h3⟩ := h.get hk
  have hv' := hv
  obtain ⟨A', c', he, _⟩ := hv'
  injection he with he _; subst he
  exact ⟨b, o, x, A', c', rfl, hb, hx, by simpa using h3 0 _ rfl, by simpa [Nat.add_assoc] using h3 1 _ rfl, hv⟩

def cellsB' (l : List Bool) : Array Value := (l.map Value.bool).toArray

theorem Keeps.rdo' {α : Type} {E : Rd α} (hE : Rd.Ok E) {a b : World} (k : KeepsAll a b) {cs : List Value} {x : α} (h : E a (Old a) cs x) : E b (Old b) cs x :=
  k.rd hE h (fun b hb => ⟨hb, by simp⟩) (fun b hb => Nat.lt_of_lt_of_le hb k.size)
theorem Keeps.tr {a b c : World} (k : KeepsAll a b) (k' : KeepsAll b c) : KeepsAll a c := k.trans k' (fun _ _ h => h)

def AllRd {α : Type} (size : Nat) (E : Rd α) (w : World) (S : Foot) : List (List Value) → List α → Prop
  | [], [] => True
  | es :: r, x :: l => (es.length = size ∧ E w S es x) ∧ AllRd size E w S r l
  | _, _ => False
theorem AllRd.spec {α : Type} {size : Nat} {E : Rd α} {w : World} {S : Foot} : ∀ {ess : List (List Value)} {l : List α}, AllRd size E w S ess l → ess.length = l.length ∧ (∀ es ∈ ess, es.length = size) ∧ ∀ (j : Nat) es x, ess[j]? = some es → l[j]? = some x → E w S es x
  | [], [], _ => by simp
  | es :: r, x :: l, h => by
    obtain ⟨h1, h2, h3⟩ := AllRd.spec h.2
    refine ⟨by simp [h1], fun es' hes => ?_, fun j es' x' he hx => ?_⟩
    · rcases List.mem_cons.1 hes with rfl | hes
      · exact h.1.1
      · exact h2 es' hes
    · cases j with
      | zero => simp at he hx; subst he hx; exact h.1.2
      | succ j => exact h3 j es' x' (by simpa using he) (by simpa using hx)
  | [], _ :: _, h => h.elim
  | _ :: _, [], h => h.elim
/-- a slice that fills a block -/
theorem RSlice.ofBlk {α : Type} {size : Nat} {E : Rd α} {w : World} {S : Foot} {b : Nat} {t : TypeId} {cs : Array Value} (hb : Blk w b t cs) (hS : S b) (ess : List (List Value)) (l : List α) (hc : cs.toList = ess.flatten) (h : AllRd size E w S ess l) (hl : l.length ≤ 9223372036854775807) :
    RSlice size E w S [.slice (some ⟨b, 0, none⟩) l.length l.length] l := by
  obtain ⟨h1, h2, h3⟩ := h.spec
  refine ⟨_, _, rfl, Nat.le_refl _, hl, fun _ => ⟨b, 0, rfl, hS, fun j x hx => ?_⟩⟩
  have hj : j < ess.length := by rw [h1]; exact getElem?_lt hx
  have he : ess[j]? = some ess[j] := List.getElem?_eq_getElem hj
  have hsz := h2 ess[j] (List.getElem_mem hj)
  refine ⟨ess[j], hsz, h3 j _ x he hx, fun i u hu => ?_⟩
  have hi : i < size := by rw [← hsz]; exact getElem?_lt hu
  rw [Nat.zero_add, hb.cell, ← Array.getElem?_toList, hc, flatten_at h2 he hi]
  exact hu
theorem RInts.ofBlk {w : World} {S : Foot} {b : Nat} {t : TypeId} (l : List Int) (hb : Blk w b t (l.map (Value.int .i64)).toArray) (hS : S b) (hl : l.length ≤ 9223372036854775807) : RInts w S [.slice (some ⟨b, 0, none⟩) l.length l.length] l := by
  refine RSlice.ofBlk hb hS (l.map fun x => [.int .i64 x]) l ?_ ?_ hl
  · clear hb hl hS
    induction l with
    | nil => rfl
    | cons a l ih => simp only [List.map_cons, List.flatten_cons, List.singleton_append] at ih ⊢; rw [← ih]
  · clear hb hl hS
    induction l with
    | nil => trivial
    | cons a l ih => exact ⟨⟨rfl, rfl⟩, ih⟩

/-- blocks of integers and of bools -/
def cellsI (l : List Int) : Array Value := (l.map (Value.int .i64)).toArray
theorem cellsI_set (l : List Int) (n : Nat) (x : Int) : (cellsI l).setIfInBounds n (.int .i64 x) = cellsI (l.set n x) := by simp [cellsI, List.map_set]

/-- a reading that rests on no memory -/
def Rd.Flat {α : Type} (E : Rd α) : Prop := ∀ w S w' S' cs x, E w S cs x → E w' S' cs x
theorem RInt.flat : Rd.Flat RInt := fun _ _ _ _ _ _ h => h
theorem RBool.flat : Rd.Flat RBool := fun _ _ _ _ _ _ h => h
theorem RRef.flat : Rd.Flat RRef := fun _ _ _ _ _ _ h => h
def RGArc : Rd GArc := fun _ _ cs a => cs = [.int .i64 a.frm, .int .i64 a.wt]
theorem RGArc.ok : Rd.Ok RGArc := ⟨fun h _ _ => h⟩
theorem RGArc.flat : Rd.Flat RGArc := fun _ _ _ _ _ _ h => h
abbrev RArcs := RSlice 2 RGArc
abbrev RArcss := RSlice 1 RArcs
theorem RArcs.ok : Rd.Ok RArcs := RSlice.ok RGArc.ok
theorem RArcss.ok : Rd.Ok RArcss := RSlice.ok RArcs.ok

theorem OwnL.keepsF {α : Type} {t size : Nat} {E : Rd α} {w w' : World} {base lo : Nat} {v : Value} {l : List α} (hF : Rd.Flat E) {C : Foot} (h : OwnL t size E w base lo v l) (k : Keeps C w w') (hC : ∀ b, v.ownBlock = some b → ¬ C b) : OwnL t size E w' base lo v l := by
  obtain ⟨ess, h1, h2, h3⟩ := h
  refine ⟨ess, h1, ?_, fun j x hx => ?_⟩
  · refine ⟨h2.1, ?_⟩
    rcases h2.2 with hn | ⟨g, cap, cur, e, hb, hh, rest⟩
    · exact .inl hn
    · have hlt := (Array.getElem?_eq_some_iff.1 hh).1
      exact .inr ⟨g, cap, cur, e, hb, (k.block g hlt (hC g (by rw [e]; rfl))).trans hh, rest⟩
  · obtain ⟨es, e1, e2, e3⟩ := h3 j x hx
    exact ⟨es, e1, e2, hF _ _ _ _ _ _ e3⟩
theorem OwnL.readF {α : Type} {t size : Nat} {E : Rd α} {w : World} {base lo : Nat} {v : Value} {l : List α} (_hE : Rd.Ok E) (hF : Rd.Flat E) (h : OwnL t size E w base lo v l) {S : Foot} (hS : ∀ b, v.ownBlock = some b → S b) : RSlice size E w S [v] l := by
  obtain ⟨ess, h1, h2, h3⟩ := h
  have hall : ∀ es ∈ ess, es.length = size := by
    intro es hes
    obtain ⟨j, hj, e⟩ := List.getElem_of_mem hes
    have hl : j < l.length := by omega
    obtain ⟨es', e1, e2, _⟩ := h3 j l[j] (List.getElem?_eq_getElem hl)
    rw [List.getElem?_eq_getElem hj, e] at e1
    injection e1 with e1; subst e1; exact e2
  rcases h2.2 with ⟨rfl, hn⟩ | ⟨g, cap, cur, rfl, hb, hh, hnc, hcm, hcs, htk⟩
  · have : l = [] := List.eq_nil_of_length_eq_zero hn
    subst this
    exact RSlice.mkNil
  · refine ⟨_, cap, rfl, hnc, hcm, fun _ => ⟨g, 0, rfl, hS g rfl, fun j x hx => ?_⟩⟩
    obtain ⟨es, e1, e2, e3⟩ := h3 j x hx
    refine ⟨es, e2, hF _ _ _ _ _ _ e3, fun i u hu => ?_⟩
    have hi : i < size := by rw [← e2]; exact (List.getElem?_eq_some_iff.1 hu).1
    have hj : j < l.length := (List.getElem?_eq_some_iff.1 hx).1
    have hf := flatten_at hall e1 hi
    rw [hu, ← htk] at hf
    have hk : j * size + i < l.length * size := by
      have : (j + 1) * size ≤ l.length * size := Nat.mul_le_mul_right _ hj
      rw [Nat.succ_mul] at this; omega
    rw [List.getElem?_take_of_lt hk] at hf
    simp only [World.cell?, hh, Option.isSome_none, Nat.zero_add]
    simpa using hf

structure Rows {α : Type} (tr te size : Nat) (E : Rd α) (w : World) (base B : Nat) (vs : List Value) (ll : List (List α)) : Prop where
  blk : Blk w B tr vs.toArray
  len : vs.length = ll.length
  own : ∀ (i : Nat) v l, vs[i]? = some v → ll[i]? = some l → OwnL te size E w base base v l
  ne : ∀ (i j : Nat) u v b, i ≠ j → vs[i]? = some u → vs[j]? = some v → u.ownBlock = some b → v.ownBlock ≠ some b
  nb : B < base
section
variable {α : Type} {tr te size : Nat} {E : Rd α} {w w' : World} {base B : Nat} {vs : List Value} {ll : List (List α)}
theorem Rows.keeps (hF : Rd.Flat E) {C : Foot} (h : Rows tr te size E w base B vs ll) (k : Keeps C w w') (hB : ¬ C B) (hC : ∀ b, base ≤ b → b < w.heap.size → ¬ C b) : Rows tr te size E w' base B vs ll :=
  ⟨h.blk.kept k hB, h.len, fun i v l hv hl => (h.own i v l hv hl).keepsF hF k (fun b hb => by have := (h.own i v l hv hl).lt hb; exact hC b this.1 this.2), h.ne, h.nb⟩
theorem Rows.get (h : Rows tr te size E w base B vs ll) {i : Nat} (hi : i < ll.length) : ∃ v l, vs[i]? = some v ∧ ll[i]? = some l ∧ OwnL te size E w base base v l ∧ w.cell? ⟨B, i, none⟩ = some v ∧ w.frozen? ⟨B, i, none⟩ = false := by
  have hv : vs[i]? = some (vs[i]'(by rw [h.len]; exact hi)) := List.getElem?_eq_getElem _
  have hl : ll[i]? = some ll[i] := List.getElem?_eq_getElem hi
  exact ⟨_, _, hv, hl, h.own i _ _ hv hl, by rw [h.blk.cell]; simp, h.blk.frozen i⟩
/-- row i has grown to v', in its own block or in a new one -/
theorem Rows.push (hF : Rd.Flat E) (h : Rows tr te size E w base B vs ll) {i : Nat} {v v' : Value} {l l' : List α} (hv : vs[i]? = some v) (hl : ll[i]? = some l) (_hbase : base ≤ w.heap.size) (ho : OwnL te size E w' base base v' l') (hk : Keeps (fun b => v.ownBlock = some b) w w') (hn : v'.ownBlock = v.ownBlock ∨ v'.ownBlock = some w.heap.size) :
    Rows tr te size E (w'.setCell ⟨B, i, none⟩ v') base B (vs.set i v') (ll.set i l') := by
  have hBv : ¬ (v.ownBlock = some B) := fun e => by have := (h.own i v l hv hl).lt e; have := h.nb; omega
  have hlt := h.blk.lt
  have hi := getElem?_lt hv
  have k2 : Keeps (fun b => b = B) w' (w'.setCell ⟨B, i, none⟩ v') := (Keeps.refl (fun b => b = B) w').setCell (p := ⟨B, i, none⟩) (fun _ => rfl) _
  have key : ∀ (j : Nat) u m, j ≠ i → vs[j]? = some u → ll[j]? = some m → OwnL te size E (w'.setCell ⟨B, i, none⟩ v') base base u m := fun j u m hj hu hm => by
    have h1 := (h.own j u m hu hm).keepsF hF hk (fun b hb e => h.ne j i u v b hj hu hv hb e)
    exact h1.keepsF hF k2 (fun b hb e => by have := h1.lt hb; have := h.nb; omega)
  refine ⟨?_, by simp [h.len], fun j u m hu hm => ?_, fun a b u u' x hab hu hu' hx => ?_, h.nb⟩
  · have := (h.blk.kept hk hBv).set_ i v'
    have e : vs.toArray.setIfInBounds i v' = (vs.set i v').toArray := by simp
    rw [e] at this; exact this
  · by_cases e : i = j
    · subst e
      rw [List.getElem?_set_self hi] at hu
      rw [List.getElem?_set_self (by rw [← h.len]; exact hi)] at hm
      injection hu with hu; injection hm with hm; subst hu hm
      exact ho.keepsF hF k2 (fun b hb e => by have := ho.lt hb; have := h.nb; omega)
    · rw [List.getElem?_set_ne e] at hu hm
      exact key j u m (fun h => e h.symm) hu hm
  · by_cases e1 : i = a
    · subst e1
      rw [List.getElem?_set_self hi] at hu
      injection hu with hu; subst hu
      rw [List.getElem?_set_ne hab] at hu'
      intro e2
      obtain ⟨m, hm⟩ : ∃ m, ll[b]? = some m := ⟨_, List.getElem?_eq_getElem (by rw [← h.len]; exact getElem?_lt hu')⟩
      rcases hn with hn | hn
      · exact h.ne i b v u' x hab hv hu' (by rw [← hn]; exact hx) e2
      · rw [hn] at hx; injection hx with hx; subst hx
        have := (h.own b u' m hu' hm).lt e2; omega
    · rw [List.getElem?_set_ne e1] at hu
      by_cases e2 : i = b
      · subst e2
        rw [List.getElem?_set_self hi] at hu'
        injection hu' with hu'; subst hu'
        obtain ⟨m, hm⟩ : ∃ m, ll[a]? = some m := ⟨_, List.getElem?_eq_getElem (by rw [← h.len]; exact getElem?_lt hu)⟩
        intro e3
        rcases hn with hn | hn
        · exact h.ne a i u v x hab hu hv hx (by rw [← hn]; exact e3)
        · rw [hn] at e3; injection e3 with e3; subst e3
          have := (h.own a u m hu hm).lt hx; omega
      · rw [List.getElem?_set_ne e2] at hu'
        exact h.ne a b u u' x hab hu hu' hx
theorem Rows.new (n : Nat) {B : Nat} (hb : Blk w B tr (List.replicate n (Value.slice none 0 0)).toArray) (hB : B < base) : Rows tr te size E w base B (List.replicate n (.slice none 0 0)) (List.replicate n ([] : List α)) := by
  refine ⟨hb, by simp, fun i v l hv hl => ?_, fun i j u v b _ hu _ hx => ?_, hB⟩
  · simp [List.getElem?_replicate] at hv hl
    obtain ⟨_, rfl⟩ := hv
    obtain ⟨_, rfl⟩ := hl
    exact OwnL.nil
  · simp [List.getElem?_replicate] at hu
    obtain ⟨_, rfl⟩ := hu
    simp [Value.ownBlock] at hx
theorem Rows.read (hE : Rd.Ok E) (hF : Rd.Flat E) (h : Rows tr te size E w base B vs ll) (hl : ll.length ≤ 9223372036854775807) {S : Foot} (hB : S B) (hS : ∀ b, base ≤ b → b < w.heap.size → S b) : RSlice 1 (RSlice size E) w S [.slice (some ⟨B, 0, none⟩) ll.length ll.length] ll := by
  refine ⟨_, _, rfl, Nat.le_refl _, hl, fun _ => ⟨B, 0, rfl, hB, fun j x hx => ?_⟩⟩
  obtain ⟨v, l, hv, hl', ho, hc, _⟩ := h.get (getElem?_lt hx)
  obtain rfl := same_of hl' hx
  refine ⟨[v], rfl, ho.readF hE hF (fun b hb => by have := ho.lt hb; exact hS b this.1 this.2), fun i u hu => ?_⟩
  have hi : i = 0 := by
    rcases i with _ | i
    · rfl
    · simp at hu
  subst hi
  simp at hu; subst hu
  simpa using hc
end

theorem RSlice.tail {α : Type} {size : Nat} {E : Rd α} {w : World} {S : Foot} {b o n c : Nat} {l : List α} (h : RSlice size E w S [.slice (some ⟨b, o, none⟩) n c] l) {k : Nat} (hk : k ≤ l.length) : RSlice size E w S [.slice (some ⟨b, o + k * size, none⟩) (l.length - k) (c - k)] (l.drop k) := by
  obtain ⟨A', c', he, h1, h2, h3⟩ := h
  injection he with he _; injection he with ha hn hc; subst ha hc
  refine ⟨_, c - k, by rw [List.length_drop], by rw [List.length_drop]; omega, by omega, fun hne => ?_⟩
  obtain ⟨b', o', hA, hb, hj⟩ := h3 (by rintro rfl; simp at hne)
  injection hA with hA; injection hA with hA1 hA2; subst hA1 hA2
  refine ⟨b, o + k * size, rfl, hb, fun j x hx => ?_⟩
  rw [List.getElem?_drop] at hx
  obtain ⟨es, e1, e2, e3⟩ := hj (k + j) x hx
  refine ⟨es, e1, e2, fun i u hu => ?_⟩
  have := e3 i u hu
  rw [Nat.add_mul] at this
  rw [show o + k * size + (j * size + i) = o + (k * size + j * size + i) from by omega]
  exact this
theorem RSlice.head {α : Type} {size : Nat} {E : Rd α} {w : World} {S : Foot} {A : Option Addr} {n c : Nat} {l : List α} (h : RSlice size E w S [.slice A n c] l) {k : Nat} (hk : k ≤ l.length) : RSlice size E w S [.slice A k c] (l.take k) := by
  obtain ⟨A', c', he, h1, h2, h3⟩ := h
  injection he with he _; injection he with ha hn hc; subst ha hc
  have hlt : (l.take k).length = k := by rw [List.length_take]; omega
  refine ⟨A, c, by rw [hlt], by omega, h2, fun hne => ?_⟩
  obtain ⟨b, o, hA, hb, hj⟩ := h3 (by rintro rfl; simp at hne)
  refine ⟨b, o, hA, hb, fun j x hx => ?_⟩
  have hjk : j < k := by have := getElem?_lt hx; omega
  rw [List.getElem?_take_of_lt hjk] at hx
  exact hj j x hx

theorem isNaN_any (a : Int) (w : World) : Calls Tryz.prog 145 #[.int .i64 a] w fun e w' => e = .returned (.bool false) ∧ w = w' := by
  go_enter Tryz.func145, Tryz.ntmps145
  go_wp2
  go_ret
  exact ⟨by simp, rfl⟩
theorem Compare_any (a b : Int) (w : World) : Calls Tryz.prog 63 #[.int .i64 a, .int .i64 b] w fun e w' => e = .returned (.int .i64 (cmpI a b)) ∧ w = w' := by
  by_cases h1 : a < b
  · have Q : Hid (cmpI a b = -1) := by show _ = _; unfold cmpI; rw [if_pos h1]
    go_enter Tryz.func63, Tryz.ntmps63
    go_wp2_with (go_at_call 145; refine (isNaN_any _ _).mono ?_; rintro e w' ⟨rfl, rfl⟩)
    go_ret
    exact ⟨by rw [Q.out]; rfl, rfl⟩
  · by_cases h2 : a > b
    · have Q : Hid (cmpI a b = 1) := by show _ = _; unfold cmpI; rw [if_neg h1, if_pos h2]
      go_enter Tryz.func63, Tryz.ntmps63
      go_wp2_with (go_at_call 145; refine (isNaN_any _ _).mono ?_; rintro e w' ⟨rfl, rfl⟩)
      go_ret
      exact ⟨by rw [Q.out]; rfl, rfl⟩
    · have Q : Hid (cmpI a b = 0) := by show _ = _; unfold cmpI; rw [if_neg h1, if_neg h2]
      go_enter Tryz.func63, Tryz.ntmps63
      go_wp2_with (go_at_call 145; refine (isNaN_any _ _).mono ?_; rintro e w' ⟨rfl, rfl⟩)
      go_ret
      exact ⟨by rw [Q.out]; rfl, rfl⟩
set_option maxRecDepth 100000 in
set_option maxHeartbeats 2000000 in
theorem Len64_any (n : Nat) (hn : n ≤ 12) (w : World) : Calls Tryz.prog 262 #[.int .u64 (n : Int)] w fun e w' => ∃ m : Int, e = .returned (.int .i64 m) ∧ w = w' := by
  have hn13 : n = 0 ∨ n = 1 ∨ n = 2 ∨ n = 3 ∨ n = 4 ∨ n = 5 ∨ n = 6 ∨ n = 7 ∨ n = 8 ∨ n = 9 ∨ n = 10 ∨ n = 11 ∨ n = 12 := by omega
  rcases hn13 with rfl | rfl | rfl | rfl | rfl | rfl | rfl | rfl | rfl | rfl | rfl | rfl | rfl
  all_goals
    go_enter Tryz.func262, Tryz.ntmps262
    go_wp2
    go_ret
    exact ⟨_, rfl, rfl⟩
theorem Len_any (n : Nat) (hn : n ≤ 12) (w : World) : Calls Tryz.prog 144 #[.int .u64 (n : Int)] w fun e w' => ∃ m : Int, e = .returned (.int .i64 m) ∧ w = w' := by
  have HL := Lib.hid (Len64_any n hn w)
  go_enter Tryz.func144, Tryz.ntmps144
  go_wp2_with fail
  refine HL.out.mono ?_
  rintro e w' ⟨m, rfl, rfl⟩
  go_wp2
  go_ret
  exact ⟨m, rfl, rfl⟩

def nowAt (now : List Int) (t : Nat) : Int := (now[t]?).getD 0
def lenAt (ps : List (List Stage)) (t : Nat) : Nat := ((ps[t]?).getD []).length
def lineFrom (go : List Int → Option Nat) : Nat → List Int → List Ref × List Int
  | 0, now => ([], now)
  | f + 1, now => match go now with
    | none => ([], now)
    | some t => (⟨(t : Int), nowAt now t + 1⟩ :: (lineFrom go f (now.set t (nowAt now t + 1))).1, (lineFrom go f (now.set t (nowAt now t + 1))).2)
def total (ps : List (List Stage)) (now : List Int) : Nat := ((List.range ps.length).map fun t => ((lenAt ps t : Int) - nowAt now t).toNat).sum

/-- good positions, as facts -/
def Gd (ps : List (List Stage)) (now : List Int) : Prop := now.length = ps.length ∧ ∀ t, t < ps.length → -1 ≤ nowAt now t ∧ nowAt now t ≤ lenAt ps t
theorem nowAt_set {now : List Int} {t u : Nat} {x : Int} (ht : t < now.length) : nowAt (now.set t x) u = if t = u then x else nowAt now u := by
  unfold nowAt
  rw [List.getElem?_set]
  by_cases e : t = u
  · subst e; simp [ht]
  · simp [e]
theorem Gd.step {ps : List (List Stage)} {now : List Int} {t : Nat} (h : Gd ps now) (ht : t < ps.length) (hl : nowAt now t < lenAt ps t) : Gd ps (now.set t (nowAt now t + 1)) := by
  refine ⟨by simpa using h.1, fun u hu => ?_⟩
  rw [nowAt_set (by rw [h.1]; exact ht)]
  have h1 := h.2 u hu
  have h2 := h.2 t ht
  by_cases e : t = u
  · subst e; simp; omega
  · simp [e]; exact h1
theorem sum_range_upd {n t : Nat} (ht : t < n) (f g : Nat → Nat) (h1 : ∀ u, u ≠ t → f u = g u) (h2 : f t = g t + 1) : ((List.range n).map f).sum = ((List.range n).map g).sum + 1 := by
  induction n with
  | zero => omega
  | succ n ih =>
    rw [List.range_succ, List.map_append, List.sum_append, List.map_append, List.sum_append]
    simp only [List.map_cons, List.map_nil, List.sum_cons, List.sum_nil]
    by_cases e : t = n
    · subst e
      have : (List.range t).map f = (List.range t).map g := List.map_congr_left fun u hu => h1 u (by have := List.mem_range.1 hu; omega)
      rw [this, h2]; omega
    · rw [ih (by omega), h1 n (fun e' => e e'.symm)]; omega
theorem total_step {ps : List (List Stage)} {now : List Int} {t : Nat} (h : Gd ps now) (ht : t < ps.length) (hl : nowAt now t < lenAt ps t) : total ps now = total ps (now.set t (nowAt now t + 1)) + 1 := by
  unfold total
  refine sum_range_upd ht _ _ (fun u hu => ?_) ?_
  · rw [nowAt_set (by rw [h.1]; exact ht), if_neg (fun e => hu e.symm)]
  · rw [nowAt_set (by rw [h.1]; exact ht), if_pos rfl]
    omega
/-- a chooser that chooses trains with a next event -/
def Sound (ps : List (List Stage)) (go : List Int → Option Nat) : Prop := ∀ now t, go now = some t → t < ps.length ∧ nowAt now t < lenAt ps t

/-- w' is the last use of its train in l -/
def Last (l : List Ref) (w : Ref) : Prop := w ∈ l ∧ ∀ x ∈ l, x.tr = w.tr → x.st ≤ w.st
/-- the releases so far -/
def RelOf (ps : List (List Stage)) (r : Int) (past : List Ref) (rel : List Int) : Prop :=
  rel.length = ps.length ∧ ∀ t, t < ps.length → (rel[t]? = some (-1) ∧ ∀ w ∈ past, w.tr ≠ (t : Int)) ∨ ∃ w, Last past w ∧ w.tr = (t : Int) ∧ rel[t]? = some ((num ps (relOf ps r w) : Nat) : Int)
theorem RelOf.nil (ps : List (List Stage)) (r : Int) : RelOf ps r [] (List.replicate ps.length (-1)) := ⟨by simp, fun t ht => .inl ⟨by simp [ht], by simp⟩⟩
theorem RelOf.step {ps : List (List Stage)} {r : Int} {past : List Ref} {rel : List Int} {v : Ref} (h : RelOf ps r past rel) (hv : v ∈ allU ps r) (hp : ∀ w ∈ past, Before w v) : RelOf ps r (past ++ [v]) (rel.set v.tr.toNat (num ps (relOf ps r v) : Nat)) := by
  obtain ⟨tv, kv, p, s, hpp, _, _, rfl⟩ := mem_allU.1 hv
  have htv := getElem?_lt hpp
  refine ⟨by simpa using h.1, fun t ht => ?_⟩
  simp only [Int.toNat_natCast]
  rw [List.getElem?_set]
  by_cases e : tv = t
  · subst e
    right
    refine ⟨⟨(tv : Int), (kv : Int)⟩, ⟨by simp, fun x hx he => ?_⟩, rfl, by rw [if_pos rfl, if_pos (by rw [h.1]; exact htv)]⟩
    rcases List.mem_append.1 hx with hx | hx
    · have := hp x hx he; omega
    · simp at hx; subst hx; exact Int.le_refl _
  · rw [if_neg e]
    rcases h.2 t ht with ⟨h1, h2⟩ | ⟨w, hw, h1, h2⟩
    · left
      refine ⟨h1, fun w hw => ?_⟩
      rcases List.mem_append.1 hw with hw | hw
      · exact h2 w hw
      · simp at hw; subst hw; show (tv : Int) ≠ (t : Int); omega
    · right
      refine ⟨w, ⟨by simp [hw.1], fun x hx he => ?_⟩, h1, h2⟩
      rcases List.mem_append.1 hx with hx | hx
      · exact hw.2 x hx he
      · simp at hx; subst hx
        rw [h1] at he
        have he : (tv : Int) = (t : Int) := he
        omega

/-- the graph's fixed parts in block g -/
structure GrB (w : World) (S : Foot) (g : Nat) (ps : List (List Stage)) (at_ : List Int) (v0 v1 v2 v3 v4 : Value) : Prop where
  b : Blk w g 436 #[v0, v1, v2, v3, v4]
  rp : RPaths w S [v0] ps
  ra : RInts w S [v1] at_
  rf : RInts w S [v2] (firsts ps)
  re : RRefs w S [v3] (evs ps)
theorem GrB.keeps {w w' : World} {S S' C : Foot} {g : Nat} {ps : List (List Stage)} {at_ : List Int} {v0 v1 v2 v3 v4 : Value} (h : GrB w S g ps at_ v0 v1 v2 v3 v4) (k : Keeps C w w') (hg : ¬ C g) (hS : ∀ b, S b → b < w.heap.size ∧ ¬ C b) (hS' : ∀ b, S b → S' b) : GrB w' S' g ps at_ v0 v1 v2 v3 v4 :=
  ⟨h.b.kept k hg, k.rd RPaths.ok h.rp hS hS', k.rd RInts.ok h.ra hS hS', k.rd RInts.ok h.rf hS hS', k.rd RRefs.ok h.re hS hS'⟩
theorem GrB.all {w w' : World} {g : Nat} {ps : List (List Stage)} {at_ : List Int} {v0 v1 v2 v3 v4 : Value} (h : GrB w (Old w) g ps at_ v0 v1 v2 v3 v4) (k : KeepsAll w w') : GrB w' (Old w') g ps at_ v0 v1 v2 v3 v4 :=
  h.keeps k (by simp) (fun _ hb => ⟨hb, by simp⟩) (fun _ hb => Nat.lt_of_lt_of_le hb k.size)
theorem RSlice.val {α : Type} {size : Nat} {E : Rd α} {w : World} {S : Foot} {v : Value} {l : List α} (h : RSlice size E w S [v] l) : ∃ A c, v = .slice A l.length c ∧ l.length ≤ c ∧ c ≤ 9223372036854775807 := by
  obtain ⟨A, c, he, h1, h2, _⟩ := h; injection he with he _; exact ⟨A, c, he, h1, h2⟩

end Go.Proofs.YtcbcegdidlefiaaGreat
