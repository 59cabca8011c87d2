/- Contracts of the graph's ready and of what it calls. Conditions: as each theorem says. Contract of the graph's ready. Conditions: as the theorem says. Contract of the graph's line. Conditions: as the theorem says. Contracts of the graph's agrees, refs and complete. Conditions: as each theorem says. Contracts of the graph's refs and complete, and of precedence.Line. Conditions: as each theorem says. Contracts of the graph's complete and of precedence.Line. Conditions: as each theorem says. Contract of keep.Same at references. Conditions: as the theorem says. Contract of the maker of entries: what it returns fits the paths and ascends. Conditions: as the theorem says. Contract of the maker of paths: what it returns is valid and small. Conditions: as the theorem says. What the maker of paths makes is valid. No program in sight. Contracts of the reference's Over and Left. Conditions: as each theorem says. Trains that enter the stages in the order of a line use each resource in its order. No program in sight. The reference's arcs and its order of events as plain lists, and that they agree with the program's. No program in sight. The reference's order of events agrees with the program's. No program in sight. A list of paths in memory of which one cell is written again: it still reads as a list of paths. Conditions: as each theorem says. Owned slices: stores, and more. Conditions: as each theorem says. Contracts of the reference's Between, Chain and Arcs. Conditions: as each theorem says. Contracts of the reference's ready, LineOf and Line. Conditions: as each theorem says. Contracts of the reference's LineOf and Line. Conditions: as each theorem says. Contracts of math/bits.Mul64, math/bits.Mul and slices.Repeat at one element. Conditions: as each theorem says. Contracts of Sort's comparison and of Go's insertion sort, at most 12 elements. Conditions: as each theorem says. Strings as lists of bytes. No program in sight. Words and lines of a text: strings.FieldsFunc at blanks is a split of the bytes. No program in sight. Strings in memory: lists of strings read, built by append, and as the library hands them over. Conditions: as each theorem says. Layouts: the errors of a layout, as a plain function that both the program and the reference answer. No program in sight. Contracts of the names of words and of the reference: isLetter, isDigit, Name. Conditions: as each theorem says. -/
import Derived.Test.YtcbcegdidlefiaaGreatK05
import Derived.Test.YtcbcegdidlefiaaGreatK03
import Derived.Test.YtcbcegdidlefiaaGreatK04
import Derived.Deep.AppendLies
import Derived.Laws.CopyRow
import Derived.Laws.Bits64b
import Derived.BigRegion
import GoSem.Core.Value
import Derived.Lib.FieldsP
import Derived.Lib.FieldsLaws
import Derived.Test.YtcbcegdidlefiaaGreatK02
import Derived.Test.YtcbcegdidlefiaaGreatProg
namespace Go.Proofs.YtcbcegdidlefiaaGreat
open Go.RowKit

abbrev RBools := RSlice 1 RBool
theorem RBools.ok : Rd.Ok RBools := RSlice.ok RBool.ok
theorem RBools.at_ {w : World} {S : Foot} {A : Option Addr} {n c : Nat} {l : List Bool} (h : RBools w S [.slice A n c] l) {k : Nat} (hk : k < l.length) :
    ∃ b o x, A = some ⟨b, o, none⟩ ∧ S b ∧ l[k]? = some x ∧ w.cell? ⟨b, o + k, none⟩ = some (.bool x) := by
  obtain ⟨b, o, x, es, rfl, hb, hx, h1, h2, h3⟩ := h.get hk
  refine ⟨b, o, x, rfl, hb, hx, ?_⟩
  cases h2
  simpa using h3 0 _ rfl
theorem Blk.bools {w : World} {S : Foot} {b : Nat} {t : TypeId} {l : List Bool} (hb : Blk w b t (cellsB' l)) (hS : S b) (hl : l.length ≤ 9223372036854775807) : RBools w S [.slice (some ⟨b, 0, none⟩) l.length l.length] l := by
  refine RSlice.ofBlk hb hS (l.map fun x => [.bool x]) l ?_ ?_ hl
  · clear hb hl hS
    unfold cellsB'
    induction l with
    | nil => rfl
    | cons a l ih => simp only [List.map_cons, List.flatten_cons, List.singleton_append] at ih ⊢; rw [← ih]
  · clear hb hl hS
    induction l with
    | nil => trivial
    | cons a l ih => exact ⟨⟨rfl, rfl⟩, ih⟩

/-- a call of F enters F -/
def Enters (F : Nat) : Prop := ∀ (args : Array Value) (w : World), (callFunc F args).run Tryz.prog w = .ok (.enter F args) w

/-- the state of the search: done in block D, next in block N -/
structure LInv (w wr : World) (D N : Nat) (dl : List Bool) (nl : List Int) : Prop where
  d : Blk wr D 4 (cellsB' dl)
  n : Blk wr N 3 (cellsI nl)
  ne : D ≠ N
  hd : w.heap.size ≤ D
  hn : w.heap.size ≤ N
  k : KeepsAll w wr
section
variable {w wr w' : World} {D N : Nat} {dl : List Bool} {nl : List Int}
theorem LInv.keep {C : Foot} (h : LInv w wr D N dl nl) (k : Keeps C wr w') (h1 : ¬ C D) (h2 : ¬ C N) (hC : ∀ b, b < w.heap.size → ¬ C b) : LInv w w' D N dl nl :=
  ⟨h.d.kept k h1, h.n.kept k h2, h.ne, h.hd, h.hn, h.k.trans k (fun x hx e => hC x hx e)⟩
end

/-- what the search has still to do -/
def LRest (ps : List (List Stage)) (go : List Int → Option Nat) (at_ : List Int) (acc : List Ref) (now : List Int) : Prop :=
  Gd ps now ∧ acc.length + total ps now = total ps at_ ∧ lineFrom go 1000 at_ = (acc ++ (lineFrom go (1000 - acc.length) now).1, (lineFrom go (1000 - acc.length) now).2)
theorem LRest.step {ps : List (List Stage)} {go : List Int → Option Nat} {at_ : List Int} {acc : List Ref} {now : List Int} {t : Nat} (hs : Sound ps go) (h : LRest ps go at_ acc now) (hl : acc.length ≤ 650) (hn : go now = some t) : LRest ps go at_ (acc ++ [⟨(t : Int), nowAt now t + 1⟩]) (now.set t (nowAt now t + 1)) := by
  obtain ⟨h1, h2⟩ := hs now t hn
  have h3 := total_step h.1 h1 h2
  refine ⟨h.1.step h1 h2, by have := h.2.1; simp; omega, ?_⟩
  rw [h.2.2, show 1000 - acc.length = (999 - acc.length) + 1 from by omega]
  have e : 1000 - (acc ++ [(⟨(t : Int), nowAt now t + 1⟩ : Ref)]).length = 999 - acc.length := by simp; try omega
  rw [e]
  simp [lineFrom, hn]

/-- a row of integers that may be written -/
def RIntsU : Rd (List Int) := fun w S cs l => RInts w S cs l ∧ (l ≠ [] → ∀ b o n c, cs = [.slice (some ⟨b, o, none⟩) n c] → ∀ k, w.frozen? ⟨b, k, none⟩ = false)
abbrev RIntssU := RSlice 1 RIntsU
theorem RIntsU.ok : Rd.Ok RIntsU := by
  refine ⟨?_⟩
  intro w w' S S' cs l h hS hw
  refine ⟨RInts.ok.mono h.1 hS hw, fun hn b o n c hc k => ?_⟩
  obtain ⟨A, c', hc', _, _, h3⟩ := h.1
  obtain ⟨b', o', hA, hb, _⟩ := h3 hn
  subst hA
  rw [hc] at hc'
  injection hc' with hc' _
  injection hc' with hc' _ _
  injection hc' with hc'
  injection hc' with hc' _
  subst hc'
  have := h.2 hn b o n c hc k
  unfold World.frozen? at this ⊢
  rw [hw b hb]; exact this
theorem RIntssU.ok : Rd.Ok RIntssU := RSlice.ok RIntsU.ok
theorem RIntssU.plain {w : World} {S : Foot} {cs : List Value} {l : List (List Int)} (h : RIntssU w S cs l) : RIntss w S cs l := by
  obtain ⟨A, c, e, h1, h2, h3⟩ := h
  refine ⟨A, c, e, h1, h2, fun hn => ?_⟩
  obtain ⟨b, o, hA, hb, hx⟩ := h3 hn
  refine ⟨b, o, hA, hb, fun j x hj => ?_⟩
  obtain ⟨es, e1, e2, e3⟩ := hx j x hj
  exact ⟨es, e1, e2.1, e3⟩

/-- a stage as the maker makes it -/
def stMade (s : Stage) : Prop := 0 ≤ s.sec ∧ s.sec < 5 ∧ (s.pts = [] ∨ s.pts = [5] ∨ s.pts = [6]) ∧ 0 ≤ s.mn ∧ s.mn < 20 ∧ 0 ≤ s.nt ∧ s.nt < 60
def apart : List Stage → Prop
  | s :: s' :: r => s.sec ≠ s'.sec ∧ apart (s' :: r)
  | _ => True
def pMade (p : List Stage) : Prop := 1 ≤ p.length ∧ p.length ≤ 4 ∧ (∀ s ∈ p, stMade s) ∧ apart p
def psMade (ps : List (List Stage)) : Prop := 1 ≤ ps.length ∧ ps.length ≤ 3 ∧ ∀ p ∈ ps, pMade p

/-- the outer loop's state, n trains to come -/
structure PInv (w wr : World) (v : Value) (n : Nat) : Prop where
  k : KeepsAll w wr
  src : ∃ rest, Src wr (Old w) w.heap.size rest
  out : ∃ ps : List (List Stage), n ≤ 3 ∧ ps.length + n ≤ 3 ∧ 1 ≤ ps.length + n ∧ (∀ p ∈ ps, pMade p) ∧ OwnL 242 1 RPath wr (w.heap.size + 1) (w.heap.size + 1) v ps
/-- the inner loop's state, n stages to come; B: the heap's size at its beginning -/
structure SInv (w w0 wr : World) (v : Value) (p : List Stage) (n : Nat) : Prop where
  k : Keeps (fun b => b = w.heap.size) w0 wr
  src : ∃ rest, Src wr (Old w) w.heap.size rest
  out : n ≤ 4 ∧ p.length + n ≤ 4 ∧ 1 ≤ p.length + n ∧ (∀ s ∈ p, stMade s) ∧ apart p ∧ OwnL 241 4 RStage wr w0.heap.size w0.heap.size v p

theorem SInv.lt {w w0 wr : World} {v : Value} {p : List Stage} {n : Nat} (h : SInv w w0 wr v p n) : w.heap.size < wr.heap.size := by obtain ⟨r, hr⟩ := h.src; exact hr.lt
theorem SInv.keep {w w0 wr w' : World} {v : Value} {p : List Stage} {n : Nat} {C : Foot} (h : SInv w w0 wr v p n) (hw0 : w.heap.size < w0.heap.size) (k : Keeps C wr w') (hC : ∀ b, b < wr.heap.size → C b → b = w.heap.size) (hs : ∃ rest, Src w' (Old w) w.heap.size rest) : SInv w w0 w' v p n := by
  refine ⟨h.k.trans k (fun x hx hc => hC x (Nat.lt_of_lt_of_le hx h.k.size) hc), hs, ?_⟩
  obtain ⟨h1, h2, h3, h4, h5, h6⟩ := h.out
  exact ⟨h1, h2, h3, h4, h5, h6.keeps RStage.ok k (fun b hb hc => by have := hC b hb hc; omega)⟩
theorem SInv.alloc {w w0 wr : World} {v : Value} {p : List Stage} {n : Nat} (h : SInv w w0 wr v p n) (hw0 : w.heap.size < w0.heap.size) (o : Obj) : SInv w w0 (wr.alloc o) v p n := by
  have hz := h.lt
  refine h.keep hw0 ((Keeps.refl (fun _ => False) wr).alloc o) (fun _ _ h => h.elim) ?_
  obtain ⟨r, hr⟩ := h.src
  exact ⟨r, hr.keeps ((Keeps.refl (fun _ => False) wr).alloc o) (fun b hb => ⟨by have : b < w.heap.size := hb; omega, by simp⟩) (by simp)⟩
theorem SInv.drew {w w0 wr : World} {v : Value} {p : List Stage} {n : Nat} (h : SInv w w0 wr v p n) (hw0 : w.heap.size < w0.heap.size) : SInv w w0 wr.drew v p n :=
  h.keep hw0 ((Keeps.refl (fun _ => False) wr).drew) (fun _ _ h => h.elim) h.src

theorem apart_snoc : ∀ (p : List Stage) (s : Stage), apart p → (∀ q, p.getLast? = some q → q.sec ≠ s.sec) → apart (p ++ [s])
  | [], s, _, _ => by simp [apart]
  | [q], s, _, h => by simp [apart]; exact h q rfl
  | q :: q' :: r, s, h, hl => by
    simp only [apart, List.cons_append] at h ⊢
    exact ⟨h.1, apart_snoc (q' :: r) s h.2 (fun x hx => hl x (by rw [List.getLast?_cons_cons]; exact hx))⟩
theorem SInv.grow {w w0 wr w13 : World} {v v' : Value} {p : List Stage} {m : Nat} {o : Obj} {s : Stage} (h : SInv w w0 wr v p m) (hw0 : w.heap.size < w0.heap.size) (hm : 0 < m) (ho : OwnL 241 4 RStage w13 w0.heap.size w0.heap.size v' (p ++ [s]))
    (hk : Keeps (fun b => v.ownBlock = some b) (wr.alloc o) w13) (hs : stMade s) (hl : ∀ q, p.getLast? = some q → q.sec ≠ s.sec) : SInv w w0 w13 v' (p ++ [s]) (m - 1) := by
  obtain ⟨h1, h2, h3, h4, h5, h6⟩ := h.out
  have k2 : Keeps (fun b => v.ownBlock = some b) wr w13 := ((Keeps.refl _ wr).alloc o).trans hk (fun _ _ h => h)
  have far : ∀ b, b < w0.heap.size → ¬ (v.ownBlock = some b) := fun b hb e => by have := h6.lt e; omega
  refine ⟨h.k.trans k2 (fun x hx e => absurd e (far x hx)), ?_, ⟨by omega, by simp; omega, by simp; omega, ?_, apart_snoc p s h5 hl, ho⟩⟩
  · obtain ⟨r, hr⟩ := h.src
    have := hr.lt
    exact ⟨r, hr.keeps k2 (fun b hb => by have hb' : b < w.heap.size := hb; exact ⟨by omega, far b (by omega)⟩) (far _ hw0)⟩
  · intro x hx
    rcases List.mem_append.1 hx with hx | hx
    · exact h4 x hx
    · simp at hx; subst hx; exact hs
theorem PInv.grow {w w3 wr w13 : World} {v v' vp : Value} {ps : List (List Stage)} {p : List Stage} {n : Nat} {o : Obj} (hk3 : KeepsAll w w3) (hin : SInv w w3 wr vp p 0) (_hw3 : w.heap.size < w3.heap.size)
    (hop : OwnL 242 1 RPath w3 (w.heap.size + 1) (w.heap.size + 1) v ps) (hpm : ∀ p ∈ ps, pMade p) (hn3 : n ≤ 3) (hnl : ps.length + n ≤ 3) (hlt : 0 < n) (hp : pMade p)
    (ho : OwnL 242 1 RPath w13 (w.heap.size + 1) (w.heap.size + 1) v' (ps ++ [p])) (hk : Keeps (fun b => v.ownBlock = some b) (wr.alloc o) w13) : PInv w w13 v' (n - 1) := by
  have k2 : Keeps (fun b => v.ownBlock = some b) wr w13 := ((Keeps.refl _ wr).alloc o).trans hk (fun _ _ h => h)
  have far : ∀ b, b < w.heap.size + 1 → ¬ (v.ownBlock = some b) := fun b hb e => by have := hop.lt e; omega
  refine ⟨(hk3.trans hin.k (fun x hx e => by omega)).trans k2 (fun x hx e => absurd e (far x (by omega))), ?_, ⟨ps ++ [p], by omega, by simp; omega, by simp; omega, ?_, ho⟩⟩
  · obtain ⟨r, hr⟩ := hin.src
    have := hr.lt
    exact ⟨r, hr.keeps k2 (fun b hb => by have hb' : b < w.heap.size := hb; exact ⟨by omega, far b (by omega)⟩) (far _ (by omega))⟩
  · intro x hx
    rcases List.mem_append.1 hx with hx | hx
    · exact hpm x hx
    · simp at hx; subst hx; exact hp
/-- behind the making of the round's stage x: it lies in block w7.heap.size -/
structure XInv (w w0 w7 wr : World) (v : Value) (p : List Stage) (m : Nat) (vp : Value) (a b c : Int) : Prop where
  i : SInv w w0 w7 v p m
  k : Keeps (fun b => b = w.heap.size) w7 wr
  src : ∃ rest, Src wr (Old w) w.heap.size rest
  x : Blk wr w7.heap.size 241 #[.int .i64 a, vp, .int .i64 b, .int .i64 c]
theorem XInv.s {w w0 w7 wr : World} {v vp : Value} {p : List Stage} {m : Nat} {a b c : Int} (h : XInv w w0 w7 wr v p m vp a b c) (hw0 : w.heap.size < w0.heap.size) : SInv w w0 wr v p m :=
  h.i.keep hw0 h.k (fun _ _ e => e) h.src
theorem XInv.step {w w0 w7 wr w' : World} {v vp vp' : Value} {p : List Stage} {m : Nat} {a b c a' : Int} {C : Foot} (h : XInv w w0 w7 wr v p m vp a b c) (k : Keeps C wr w') (hC : ∀ b, b < w7.heap.size → C b → b = w.heap.size)
    (hs : ∃ rest, Src w' (Old w) w.heap.size rest) (hx : Blk w' w7.heap.size 241 #[.int .i64 a', vp', .int .i64 b, .int .i64 c]) : XInv w w0 w7 w' v p m vp' a' b c :=
  ⟨h.i, h.k.trans k (fun x hx hc => hC x hx hc), hs, hx⟩

theorem apart_at : ∀ (p : List Stage), apart p → ∀ (j : Nat) (a b : Stage), p[j]? = some a → p[j + 1]? = some b → a.sec ≠ b.sec
  | [], _, j, a, b, h, _ => by simp at h
  | [x], _, j, a, b, _, h => by simp at h
  | x :: y :: r, h, 0, a, b, ha, hb => by simp at ha hb; subst ha hb; exact h.1
  | x :: y :: r, h, j + 1, a, b, ha, hb => apart_at (y :: r) h.2 j a b (by simpa using ha) (by simpa using hb)
theorem stMade.ok {s : Stage} (h : stMade s) : stageOk s = true := by
  obtain ⟨h1, h2, h3, h4, h5, h6, h7⟩ := h
  rcases h3 with h3 | h3 | h3 <;> simp [stageOk, isRes, isClk, h3, ptsFrom, ptOk] <;> omega
theorem steps_made {p : List Stage} (h1 : ∀ s ∈ p, stMade s) (h2 : apart p) : ∀ (l : List Stage) (j : Nat), p.drop j = l → stepsFrom p j l = true
  | [], j, _ => rfl
  | s :: l, j, h => by
    have hs : p[j]? = some s := by have := congrArg (·[0]?) h; simpa using this
    have hd := drop_cons' hs
    rw [h] at hd; injection hd with _ hd
    simp only [stepsFrom, Bool.and_eq_true, stepOk]
    refine ⟨⟨(h1 s (List.mem_of_getElem? hs)).ok, ?_⟩, steps_made h1 h2 l (j + 1) hd.symm⟩
    by_cases hj : 0 < j
    · have hj1 : p[j - 1]? = some (p[j - 1]'(by have := getElem?_lt hs; omega)) := List.getElem?_eq_getElem _
      have := apart_at p h2 (j - 1) _ s hj1 (by rw [show j - 1 + 1 = j from by omega]; exact hs)
      rw [hj1]; simp; exact .inr this
    · simp [hj]
theorem psMade.valid {ps : List (List Stage)} (h : psMade ps) : valid ps = true := by
  simp only [Go.Proofs.YtcbcegdidlefiaaGreat.valid, Bool.and_eq_true, decide_eq_true_eq, List.all_eq_true]
  refine ⟨⟨by have := h.2.1; omega, fun p hp => ?_⟩, ?_⟩
  · have hp := h.2.2 p hp
    simp only [pathOk, Bool.and_eq_true, decide_eq_true_eq]
    exact ⟨⟨hp.1, by have := hp.2.1; omega⟩, steps_made hp.2.2.1 hp.2.2.2 p 0 rfl⟩
  · simp only [noClash, List.all_eq_true]
    intro r _
    simp only [Bool.not_eq_true', Bool.and_eq_false_iff, decide_eq_false_iff_not]
    by_cases hr : (r : Int) < 5
    · right
      intro hm
      simp only [List.mem_flatMap, List.mem_flatten] at hm
      obtain ⟨s, ⟨p, hp, hs⟩, hm⟩ := hm
      rcases ((h.2.2 p hp).2.2.1 s hs).2.2.1 with e | e | e <;> rw [e] at hm <;> simp at hm <;> omega
    · left
      intro hm
      simp only [List.mem_map, List.mem_flatten] at hm
      obtain ⟨s, ⟨p, hp, hs⟩, hm⟩ := hm
      have := ((h.2.2 p hp).2.2.1 s hs).2.1
      omega

theorem psMade.l {ps : List (List Stage)} (h : psMade ps) : ps.length ≤ 1000 := by have := h.2.1; omega
theorem psMade.pl {ps : List (List Stage)} (h : psMade ps) : ∀ p ∈ ps, p.length ≤ 1000 := fun p hp => by have := (h.2.2 p hp).2.1; omega
theorem RSlice.form {α : Type} {size : Nat} {E : Rd α} {w : World} {S : Foot} {v : Value} {l : List α} (h : RSlice size E w S [v] l) : ∃ A c, v = .slice A l.length c := by
  obtain ⟨A, c, he, _⟩ := h; injection he with he _; exact ⟨A, c, he⟩

structure RArc where
  frm : Ref
  to : Ref
  wt : Int
  deriving DecidableEq, Inhabited, Repr

/-- the loop of LineOf: so far -/
def LR (go : List Int → Option Nat) (F : Nat) (at_ : List Int) (j : Nat) (acc : List Ref) (now : List Int) : Prop :=
  acc.length = j ∧ j ≤ F ∧ lineFrom go F at_ = (acc ++ (lineFrom go (F - j) now).1, (lineFrom go (F - j) now).2)
theorem LR.start (go : List Int → Option Nat) (F : Nat) (at_ : List Int) : LR go F at_ 0 [] at_ := ⟨rfl, Nat.zero_le _, by simp⟩
theorem LR.step {go : List Int → Option Nat} {F : Nat} {at_ : List Int} {j : Nat} {acc : List Ref} {now : List Int} {t : Nat} (h : LR go F at_ j acc now) (hj : j < F) (hn : go now = some t) : LR go F at_ (j + 1) (acc ++ [⟨(t : Int), nowAt now t + 1⟩]) (now.set t (nowAt now t + 1)) := by
  obtain ⟨h1, h2, h3⟩ := h
  refine ⟨by simp [h1], by omega, ?_⟩
  rw [h3, show F - j = (F - (j + 1)) + 1 from by omega]
  simp [lineFrom, hn]
theorem LR.full {go : List Int → Option Nat} {F : Nat} {at_ : List Int} {acc : List Ref} {now : List Int} (h : LR go F at_ F acc now) : lineFrom go F at_ = (acc, now) := by
  obtain ⟨h1, h2, h3⟩ := h
  rw [h3]; simp [lineFrom]

theorem list_choose {α : Type} {P : Nat → α → Prop} : ∀ n : Nat, (∀ j, j < n → ∃ x, P j x) → ∃ l : List α, l.length = n ∧ ∀ (j : Nat) x, l[j]? = some x → P j x
  | 0, _ => ⟨[], rfl, fun j x h => by simp at h⟩
  | n + 1, h => by
    obtain ⟨l, hl, h1⟩ := list_choose (P := P) n (fun j hj => h j (by omega))
    obtain ⟨x, hx⟩ := h n (by omega)
    refine ⟨l ++ [x], by simp [hl], fun j y hy => ?_⟩
    rcases Nat.lt_or_ge j n with hj | hj
    · rw [List.getElem?_append_left (by omega)] at hy; exact h1 j y hy
    · rw [List.getElem?_append_right (by omega)] at hy
      have hj0 : j = n := by have := getElem?_lt hy; simp at this; omega
      subst hj0
      rw [hl, Nat.sub_self] at hy; simp at hy; subst hy; exact hx

/-- u may stand at p: an integer for an integer, a slice of integers for a slice -/
def Fit (w : World) (S : Foot) (p : Addr) (u : Value) : Prop := (∃ a b, w.cell? p = some (.int .i64 a) ∧ u = .int .i64 b) ∨ ∃ A n c, w.cell? p = some (.slice A n c) ∧ ∃ l, RInts (w.setCell p u) S [u] l
theorem Fit.int {w : World} {S : Foot} {p q : Addr} {u : Value} {x : Int} (h : Fit w S p u) (hq : w.cell? q = some (.int .i64 x)) : ∃ y, (w.setCell p u).cell? q = some (.int .i64 y) := by
  by_cases e : p = q
  · subst e
    rcases h with ⟨a, b, h1, rfl⟩ | ⟨A, n, c, h1, _⟩
    · exact ⟨b, World.cell?_setCell_same _ _ _ h1⟩
    · rw [h1] at hq; cases hq
  · exact ⟨x, (World.cell?_setCell_other _ _ _ _ e).trans hq⟩

/-- a path whose stages lie in memory from B on -/
def Soft (w : World) (b : Nat) : Prop := ∃ cur t, Blk w b t cur
theorem Soft.set_ {w : World} {b : Nat} (h : Soft w b) (p : Addr) (u : Value) : Soft (w.setCell p u) b := by
  obtain ⟨cur, t, hb⟩ := h
  by_cases e : b = p.block
  · subst e
    unfold Soft Blk World.setCell at *
    simp only [Array.getElem?_modify, hb]
    simp
  · exact ⟨cur, t, hb.far e u⟩
def RPathN (B : Nat) : Rd (List Stage) := fun w S cs l => RPath w S cs l ∧ ∀ b o s n c, cs = [.slice (some ⟨b, o, s⟩) n c] → B ≤ b ∧ S b ∧ Soft w b
theorem RPathN.ok (B : Nat) : Rd.Ok (RPathN B) := ⟨fun h hS hw => ⟨RPath.ok.mono h.1 hS hw, fun b o s n c hc => by
  obtain ⟨h1, h2, cur, t, h3⟩ := h.2 b o s n c hc
  exact ⟨h1, hS b h2, cur, t, (hw b h2).trans h3⟩⟩⟩
/-- a stage whose points lie below B -/
def RStageB (B : Nat) : Rd Stage := fun w S cs s => RStage w (fun b => S b ∧ b < B) cs s
theorem RStageB.ok (B : Nat) : Rd.Ok (RStageB B) := ⟨fun h hS hw => RStage.ok.mono h (fun b hb => ⟨hS b hb.1, hb.2⟩) (fun b hb => hw b hb.1)⟩
theorem RStageB.one (B : Nat) : Rd.One (RStageB B) := fun w _ es x h u hu => RStage.one w _ es x h u hu

section
variable {t : Nat} {w w' : World} {base : Nat} {v : Value} {ps : List (List Stage)} {B : Nat}
/-- a row of a list of paths that was built by append -/
theorem OwnL.row (h : OwnL t 1 (RPathN B) w base 0 v ps) {j : Nat} {x : List Stage} (hx : ps[j]? = some x) : ∃ g cap A c, v = .slice (some ⟨g, 0, none⟩) ps.length cap ∧ base ≤ g ∧ g < w.heap.size ∧ w.cell? ⟨g, j, none⟩ = some (.slice A x.length c) ∧ w.frozen? ⟨g, j, none⟩ = false ∧
    RPath w (fun b => b < w.heap.size ∧ b ≠ g) [.slice A x.length c] x ∧ (∀ b o s, A = some ⟨b, o, s⟩ → B ≤ b ∧ Soft w b) := by
  have hj := getElem?_lt hx
  obtain ⟨ess, h1, h2, h3⟩ := h
  have hall : ∀ es ∈ ess, es.length = 1 := by
    intro es hes
    obtain ⟨j, hj, e⟩ := List.getElem_of_mem hes
    have hl : j < ps.length := by omega
    obtain ⟨es', e1, e2, _⟩ := h3 j ps[j] (List.getElem?_eq_getElem hl)
    rw [List.getElem?_eq_getElem hj, e] at e1
    injection e1 with e1; subst e1; exact e2
  rcases h2.2 with ⟨rfl, hn⟩ | ⟨g, cap, cur, rfl, hb, hh, hnc, hcm, hcs, htk⟩
  · omega
  · obtain ⟨es, e1, e2, e3, e4⟩ := h3 j x hx
    have hlt := (Array.getElem?_eq_some_iff.1 hh).1
    obtain ⟨A, c, rfl, q⟩ := e3
    have hf := flatten_at hall e1 (i := 0) (by omega)
    rw [← htk, List.getElem?_take_of_lt (by omega)] at hf
    refine ⟨g, cap, A, c, rfl, hb, hlt, ?_, ?_, ?_, fun b o s hA => by have := e4 b o s _ _ (by rw [hA]); exact ⟨this.1, this.2.2⟩⟩
    · simp only [World.cell?, hh, Option.isSome_none]
      simpa using hf
    · simp [World.frozen?, hh]
    · refine RPath.ok.mono ⟨A, c, rfl, q⟩ (fun b hb => ⟨hb.2.1, fun e => hb.2.2 ?_⟩) (fun _ _ => rfl)
      subst e; rfl
end

theorem OwnL.some_ {α : Type} {t size : Nat} {E : Rd α} {w : World} {base lo : Nat} {A : Option Addr} {n c : Nat} {l : List α} (h : OwnL t size E w base lo (.slice A n c) l) (hl : 0 < l.length) : ∃ g, A = some ⟨g, 0, none⟩ ∧ base ≤ g := by
  obtain ⟨ess, h1, h2, h3⟩ := h
  rcases h2.2 with ⟨_, hn⟩ | ⟨g', cap, cur, e, hb, _⟩
  · omega
  · injection e with e1; exact ⟨g', e1, hb⟩

def RRArc : Rd RArc := fun _ _ cs a => cs = [.int .i64 a.frm.tr, .int .i64 a.frm.st, .int .i64 a.to.tr, .int .i64 a.to.st, .int .i64 a.wt]
theorem RRArc.ok : Rd.Ok RRArc := ⟨fun h _ _ => h⟩
theorem RRArc.flat : Rd.Flat RRArc := fun _ _ _ _ _ _ h => h
theorem RRArc.one : Rd.One RRArc := fun _ _ es x h u hu => by rw [h] at hu; simp at hu; rcases hu with rfl | rfl | rfl | rfl | rfl <;> rfl
abbrev RRArcs := RSlice 5 RRArc
theorem RRArcs.ok : Rd.Ok RRArcs := RSlice.ok RRArc.ok

theorem Keeps.setRow (w : World) (g : Nat) (arr : Array Value) : Keeps (fun b => b = g) w (w.setRow g arr) := by
  refine ⟨rfl, rfl, rfl, by simp [World.setRow], fun k _ hn => ?_⟩
  unfold World.setRow
  simp only [Array.getElem?_modify]
  rw [if_neg (fun e => hn e.symm)]
theorem Blk.setRow {w : World} {g : Nat} {t : TypeId} {cs : Array Value} (h : Blk w g t cs) (arr : Array Value) : Blk (w.setRow g arr) g t arr := setRow_heap w g cs arr t (0, 0) h

abbrev Bs := List UInt8
def mkS (l : Bs) : ByteArray := ⟨l.toArray⟩
theorem mkS_list (l : Bs) : (mkS l).data.toList = l := by simp [mkS]
theorem mkS_inj {a b : Bs} (h : mkS a = mkS b) : a = b := by rw [← mkS_list a, h, mkS_list]

open Go.Lib

theorem Keeps.trA {a b c : World} (k : KeepsAll a b) (k' : KeepsAll b c) : KeepsAll a c := k.trans k' (fun _ _ h => h)
theorem Keeps.cellA {a b : World} (k : KeepsAll a b) {p : Addr} {v : Value} (hp : p.block < a.heap.size) (h : a.cell? p = some v) : b.cell? p = some v := (k.cell hp (by simp)).trans h
def RStr : Rd Bs := fun _ _ cs x => cs = [.string (mkS x)]
theorem RStr.ok : Rd.Ok RStr := ⟨fun h _ _ => h⟩
abbrev RStrs := RSlice 1 RStr
theorem RStrs.ok : Rd.Ok RStrs := RSlice.ok RStr.ok
section
variable {w wr : World} {S : Foot} {A : Option Addr} {n c : Nat} {l : List Bs}
theorem RStrs.at_ (h : RStrs w S [.slice A n c] l) {k : Nat} (hk : k < l.length) :
    ∃ b o x, A = some ⟨b, o, none⟩ ∧ S b ∧ l[k]? = some x ∧ w.cell? ⟨b, o + k, none⟩ = some (.string (mkS x)) := by
  obtain ⟨b, o, x, es, rfl, hb, hx, h1, h2, h3⟩ := h.get hk
  cases h2
  exact ⟨b, o, x, rfl, hb, hx, by simpa using h3 0 _ rfl⟩
theorem RStrs.head {x : Bs} {l : List Bs} (h : RStrs w S [.slice A n c] (x :: l)) : ∃ b o, A = some ⟨b, o, none⟩ ∧ S b ∧ w.cell? ⟨b, o, none⟩ = some (.string (mkS x)) := by
  obtain ⟨b, o, y, rfl, hb, hy, h1⟩ := h.at_ (k := 0) (by simp)
  simp at hy
  subst hy
  exact ⟨b, o, rfl, hb, h1⟩
theorem RStrs.tail {b o : Nat} {x : Bs} {l : List Bs} (h : RStrs w S [.slice (some ⟨b, o, none⟩) n c] (x :: l)) : RStrs w S [.slice (some ⟨b, o + 1, none⟩) l.length (c - 1)] l := by
  obtain ⟨hc1, hc2⟩ := h.caps
  obtain ⟨A', c', he, h1, h2, h3⟩ := h
  injection he with he _
  injection he with ha hn hc
  obtain ⟨b', o', ha', hb', hj⟩ := h3 (by simp)
  rw [← ha] at ha'
  injection ha' with ha'
  injection ha' with e1 e2
  subst e1 e2
  simp at hc1
  refine ⟨_, _, rfl, by omega, by omega, fun _ => ⟨b, o + 1, rfl, hb', fun j y hy => ?_⟩⟩
  obtain ⟨es, s1, s2, s3⟩ := hj (j + 1) y (by simpa using hy)
  refine ⟨es, s1, s2, fun i u hu => ?_⟩
  rw [← s3 i u hu]
  congr 2
  omega
theorem RStrs.ofBlk {b t : Nat} {l : List Bs} (hb : Blk w b t ((l.map mkS).map Value.string).toArray) (hS : S b) (hl : l.length ≤ 9223372036854775807) : RStrs w S [.slice (some ⟨b, 0, none⟩) l.length l.length] l := by
  refine ⟨_, _, rfl, Nat.le_refl _, hl, fun _ => ⟨b, 0, rfl, hS, fun j y hy => ⟨[.string (mkS y)], rfl, rfl, fun i u hu => ?_⟩⟩⟩
  have hi : i = 0 := by
    rcases i with _ | i
    · rfl
    · simp at hu
  subst hi
  simp at hu
  subst hu
  rw [hb.cell]
  simp [hy]
end
/-- a reading that rests on no memory -/
def Rd.Flt {α : Type} (E : Rd α) : Prop := ∀ w S w' S' cs x, E w S cs x → E w' S' cs x
theorem RStr.flt : Rd.Flt RStr := fun _ _ _ _ _ _ h => h
theorem RInt.flt : Rd.Flt RInt := fun _ _ _ _ _ _ h => h

structure Sec where
  name : Bs
  len : Int
  lim : Int
  grd : Int
  sta : Int
  deriving DecidableEq, Inhabited
structure Lnk where
  a : Int
  ae : Int
  b : Int
  be : Int
  pt : Int
  ps : Int
  deriving DecidableEq, Inhabited
structure Lay where
  sts : List Bs
  pts : List Bs
  secs : List Sec
  lks : List Lnk
  deriving DecidableEq, Inhabited
def isLet (c : UInt8) : Bool := decide (65 ≤ c ∧ c ≤ 90) || decide (97 ≤ c ∧ c ≤ 122)
def isDig (c : UInt8) : Bool := decide (48 ≤ c ∧ c ≤ 57)
def nameCh (c : UInt8) : Bool := isLet c || isDig c || decide (c = 95)
def nameOk (l : Bs) : Bool := decide (1 ≤ l.length ∧ l.length ≤ 12) && (l.head?.map isLet).getD false && l.all nameCh
def secOk (n : Nat) (s : Sec) : Bool := decide (1 ≤ s.len ∧ s.len ≤ 400 ∧ 1000 ≤ s.lim ∧ s.lim ≤ 100000 ∧ -40 ≤ s.grd ∧ s.grd ≤ 40 ∧ -1 ≤ s.sta ∧ s.sta < n)
/-- a link has an end -/
def hasE (k : Lnk) (x : Int × Int) : Bool := decide (k.a = x.1 ∧ k.ae = x.2) || decide (k.b = x.1 ∧ k.be = x.2)
def lnkOk (L : Lay) (k : Lnk) : Bool := decide (0 ≤ k.a ∧ k.a < L.secs.length ∧ 0 ≤ k.b ∧ k.b < L.secs.length ∧ (k.ae = 0 ∨ k.ae = 1) ∧ (k.be = 0 ∨ k.be = 1) ∧ -1 ≤ k.pt ∧ k.pt < L.pts.length ∧ (k.ps = 0 ∨ k.ps = 1 ∧ k.pt ≠ -1))
/-- the earlier links that have an end -/
def atE (pre : List Lnk) (x : Int × Int) : List Lnk := pre.filter fun k => hasE k x
def fitsE (k : Lnk) (l : List Lnk) : Bool := match l with | [] => true | [o] => decide (k.pt ≠ -1 ∧ k.pt = o.pt ∧ k.ps ≠ o.ps) | _ => false
def lnkErr (L : Lay) (pre : List Lnk) (k : Lnk) : Int :=
  if lnkOk L k = false then 4
  else if (k.a, k.ae) = (k.b, k.be) then 1
  else if (pre.any fun j => hasE j (k.a, k.ae) && hasE j (k.b, k.be)) = true then 5
  else if fitsE k (atE pre (k.a, k.ae)) = false ∨ fitsE k (atE pre (k.b, k.be)) = false then 11
  else 0

end Go.Proofs.YtcbcegdidlefiaaGreat
