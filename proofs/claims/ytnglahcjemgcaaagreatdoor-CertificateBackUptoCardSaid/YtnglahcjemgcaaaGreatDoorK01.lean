/- Strings as lists of bytes. No program in sight. Words and lines of a text: strings.FieldsFunc at blanks is a split of the bytes. No program in sight. Words for memory that all walks of this claim share: reading relations for slices, structs and nested lists, with the set of blocks that they rest on. No condition. A slice under construction by append, its elements read by a relation; the law of one append. Conditions: as each theorem says. Strings in memory: lists of strings read, built by append, and as the library hands them over. Conditions: as each theorem says. Layouts: the errors of a layout, as a plain function that both the program and the reference answer. No program in sight. Contracts of the names of words and of the reference: isLetter, isDigit, Name. Conditions: as each theorem says. Lines and words of a text as plain functions. No program in sight. Contracts of the library's IndexByte, Index and Cut at a separator of one byte. Conditions: as each theorem says. Contracts of the program's class, appendWord and split: the words of a line. Conditions: as each theorem says. -/
import GoSem.Core.Value
import Derived.Lib.FieldsP
import Derived.Lib.FieldsLaws
import Derived.WalkKit
import Derived.WalkSpells
import Derived.WalkLawsBesides
import Derived.Lib.Hide
import Derived.Outline
import Derived.Deep.QuietTactic
import Derived.BigQuiet
import Derived.Maps.AppendAt
import Derived.Test.YtnglahcjemgcaaaGreatDoorProg
import Derived.Lib.Bytealg
import Derived.Lib.Strings
import Derived.Lib.Slices
import Derived.Lib.Walk
namespace Go.Proofs.YtnglahcjemgcaaaGreatDoor
section

abbrev Bs := List UInt8
def mkS (l : Bs) : ByteArray := ⟨l.toArray⟩
theorem mkS_list (l : Bs) : (mkS l).data.toList = l := by simp [mkS]
theorem mkS_data (s : ByteArray) : mkS s.data.toList = s := by cases s; simp [mkS]
theorem mkS_size (l : Bs) : (mkS l).size = l.length := by simp [mkS, ByteArray.size]

end

section
open Go.Lib

end

section
open Go.RowKit

abbrev Foot := Nat → Prop
abbrev Rd (α : Type) := World → Foot → List Value → α → Prop

/-- a reading rests on the blocks of its footprint alone -/
structure Rd.Ok {α : Type} (E : Rd α) : Prop where
  mono : ∀ {w w' : World} {S S' : Foot} {cs : List Value} {x : α}, E w S cs x → (∀ b, S b → S' b) → (∀ b, S b → w'.heap[b]? = w.heap[b]?) → E w' S' cs x

def RInt : Rd Int := fun _ _ cs x => cs = [.int .i64 x]
def RBool : Rd Bool := fun _ _ cs x => cs = [.bool x]
theorem RInt.ok : Rd.Ok RInt := ⟨fun h _ _ => h⟩
theorem RBool.ok : Rd.Ok RBool := ⟨fun h _ _ => h⟩

/-- a slice of elements of 'size' cells, each read by E -/
def RSlice {α : Type} (size : Nat) (E : Rd α) : Rd (List α) := fun w S cs l =>
  ∃ A c, cs = [.slice A l.length c] ∧ l.length ≤ c ∧ c ≤ 9223372036854775807 ∧
    (l ≠ [] → ∃ b o, A = some ⟨b, o, none⟩ ∧ S b ∧ ∀ j x, l[j]? = some x →
      ∃ es, es.length = size ∧ E w S es x ∧ ∀ i u, es[i]? = some u → w.cell? ⟨b, o + (j * size + i), none⟩ = some u)

theorem RSlice.ok {α : Type} {size : Nat} {E : Rd α} (hE : Rd.Ok E) : Rd.Ok (RSlice size E) := by
  refine ⟨?_⟩
  intro w w' S S' cs l h hS hw
  obtain ⟨A, c, rfl, h1, h2, h3⟩ := h
  refine ⟨A, c, rfl, h1, h2, fun hl => ?_⟩
  obtain ⟨b, o, rfl, hb, hj⟩ := h3 hl
  refine ⟨b, o, rfl, hS b hb, fun j x hx => ?_⟩
  obtain ⟨es, e1, e2, e3⟩ := hj j x hx
  exact ⟨es, e1, hE.mono e2 hS hw, fun i u hu => (World.cell?_of_block (hw b hb)).trans (e3 i u hu)⟩

section
variable {α : Type} {size : Nat} {E : Rd α} {w : World} {S : Foot} {A : Option Addr} {n c : Nat} {l : List α}
theorem RSlice.len (h : RSlice size E w S [.slice A n c] l) : n = l.length := by
  obtain ⟨A', c', he, _⟩ := h; injection he with he _; injection he
theorem RSlice.caps (h : RSlice size E w S [.slice A n c] l) : l.length ≤ c ∧ c ≤ 9223372036854775807 := by
  obtain ⟨A', c', he, h1, h2, _⟩ := h; injection he with he _; injection he with _ _ he; subst he; exact ⟨h1, h2⟩
theorem RSlice.get (h : RSlice size E w S [.slice A n c] l) {k : Nat} (hk : k < l.length) :
    ∃ b o x es, A = some ⟨b, o, none⟩ ∧ S b ∧ l[k]? = some x ∧ es.length = size ∧ E w S es x ∧ ∀ i u, es[i]? = some u → w.cell? ⟨b, o + (k * size + i), none⟩ = some u := by
  obtain ⟨A', c', he, h1, h2, h3⟩ := h
  injection he with he _; injection he with ha hn hc; subst ha
  obtain ⟨b, o, rfl, hb, hj⟩ := h3 (by intro e; subst e; simp at hk)
  obtain ⟨es, e1, e2, e3⟩ := hj k l[k] (List.getElem?_eq_getElem hk)
  exact ⟨b, o, l[k], es, rfl, hb, List.getElem?_eq_getElem hk, e1, e2, e3⟩
theorem RSlice.nil (h : RSlice size E w S [.slice A n c] l) (hn : n = 0) : l = [] := by
  have := h.len; subst hn; exact List.eq_nil_of_length_eq_zero this.symm
theorem RSlice.mkNil : RSlice size E w S [.slice none 0 0] [] := ⟨none, 0, rfl, Nat.le_refl _, by omega, fun h => absurd rfl h⟩
end

abbrev RInts := RSlice 1 RInt
abbrev RIntss := RSlice 1 RInts
theorem RInts.ok : Rd.Ok RInts := RSlice.ok RInt.ok
theorem RIntss.ok : Rd.Ok RIntss := RSlice.ok RInts.ok

theorem RInts.at_ {w : World} {S : Foot} {A : Option Addr} {n c : Nat} {l : List Int} (h : RInts w S [.slice A n c] l) {k : Nat} (hk : k < l.length) :
    ∃ b o x, A = some ⟨b, o, none⟩ ∧ S b ∧ l[k]? = some x ∧ w.cell? ⟨b, o + k, none⟩ = some (.int .i64 x) := by
  obtain ⟨b, o, x, es, rfl, hb, hx, h1, h2, h3⟩ := h.get hk
  refine ⟨b, o, x, rfl, hb, hx, ?_⟩
  cases h2
  simpa using h3 0 _ rfl

theorem RSS.at_ {α : Type} {size : Nat} {E : Rd α} {w : World} {S : Foot} {A : Option Addr} {n c : Nat} {l : List (List α)} (h : RSlice 1 (RSlice size E) w S [.slice A n c] l) {k : Nat} (hk : k < l.length) :
    ∃ b o x A' c', A = some ⟨b, o, none⟩ ∧ S b ∧ l[k]? = some x ∧ w.cell? ⟨b, o + k, none⟩ = some (.slice A' x.length c') ∧ RSlice size E w S [.slice A' x.length c'] x := by
  obtain ⟨b, o, x, es, rfl, hb, hx, h1, h2, h3⟩ := h.get hk
  have h2' := h2
  obtain ⟨A', c', rfl, _⟩ := h2
  exact ⟨b, o, x, A', c', rfl, hb, hx, by simpa using h3 0 _ rfl, h2'⟩

/-- api.Stage -/
structure Stage where
  sec : Int
  pts : List Int
  mn : Int
  nt : Int
  deriving DecidableEq, Inhabited, Repr
def RStage : Rd Stage := fun w S cs s => ∃ v, cs = [.int .i64 s.sec, v, .int .i64 s.mn, .int .i64 s.nt] ∧ RInts w S [v] s.pts
theorem RStage.ok : Rd.Ok RStage := by
  refine ⟨?_⟩
  intro w w' S S' cs x h hS hw
  obtain ⟨v, rfl, hv⟩ := h
  exact ⟨v, rfl, RInts.ok.mono hv hS hw⟩
abbrev RPath := RSlice 4 RStage
abbrev RPaths := RSlice 1 RPath
theorem RPath.ok : Rd.Ok RPath := RSlice.ok RStage.ok
theorem RPaths.ok : Rd.Ok RPaths := RSlice.ok RPath.ok
theorem RPath.at_ {w : World} {S : Foot} {A : Option Addr} {n c : Nat} {l : List Stage} (h : RPath w S [.slice A n c] l) {k : Nat} (hk : k < l.length) :
    ∃ b o s A' c', A = some ⟨b, o, none⟩ ∧ S b ∧ l[k]? = some s ∧ w.cell? ⟨b, o + k * 4, none⟩ = some (.int .i64 s.sec) ∧ w.cell? ⟨b, o + k * 4 + 1, none⟩ = some (.slice A' s.pts.length c') ∧
      w.cell? ⟨b, o + k * 4 + 2, none⟩ = some (.int .i64 s.mn) ∧ w.cell? ⟨b, o + k * 4 + 3, none⟩ = some (.int .i64 s.nt) ∧ RInts w S [.slice A' s.pts.length c'] s.pts := by
  obtain ⟨b, o, s, es, rfl, hb, hx, h1, ⟨v, rfl, hv⟩, h3⟩ := h.get hk
  have hv' := hv
  obtain ⟨A', c', he, _⟩ := hv'
  injection he with he _; subst he
  exact ⟨b, o, s, A', c', rfl, hb, hx, by simpa using h3 0 _ rfl, by simpa [Nat.add_assoc] using h3 1 _ rfl, by simpa [Nat.add_assoc] using h3 2 _ rfl, by simpa [Nat.add_assoc] using h3 3 _ rfl, hv⟩

/-- api.Ref and api.Order -/
structure Ref where
  tr : Int
  st : Int
  deriving DecidableEq, Inhabited, Repr
structure Order where
  res : Int
  uses : List Ref
  deriving DecidableEq, Inhabited, Repr
def RRef : Rd Ref := fun _ _ cs r => cs = [.int .i64 r.tr, .int .i64 r.st]
theorem RRef.ok : Rd.Ok RRef := ⟨fun h _ _ => h⟩
abbrev RRefs := RSlice 2 RRef
theorem RRefs.ok : Rd.Ok RRefs := RSlice.ok RRef.ok
def ROrder : Rd Order := fun w S cs r => ∃ v, cs = [.int .i64 r.res, v] ∧ RRefs w S [v] r.uses
theorem ROrder.ok : Rd.Ok ROrder := by
  refine ⟨?_⟩
  intro w w' S S' cs x h hS hw
  obtain ⟨v, rfl, hv⟩ := h
  exact ⟨v, rfl, RRefs.ok.mono hv hS hw⟩
abbrev ROrders := RSlice 2 ROrder
theorem ROrders.ok : Rd.Ok ROrders := RSlice.ok ROrder.ok

/-- below the heap's size; new since w -/
def Old (w : World) : Foot := fun b => b < w.heap.size
def Fresh (w w' : World) : Foot := fun b => w.heap.size ≤ b ∧ b < w'.heap.size

/-- w' is w with new blocks, and of the old blocks only those of C may have turned -/
structure Keeps (C : Foot) (w w' : World) : Prop where
  os : w'.os = w.os
  tape : w'.tape = w.tape
  output : w'.output = w.output
  size : w.heap.size ≤ w'.heap.size
  block : ∀ k, k < w.heap.size → ¬ C k → w'.heap[k]? = w.heap[k]?

theorem Keeps.refl (C : Foot) (w : World) : Keeps C w w := ⟨rfl, rfl, rfl, Nat.le_refl _, fun _ _ _ => rfl⟩
theorem Keeps.trans {C C1 : Foot} {a b c : World} (h : Keeps C a b) (k : Keeps C1 b c) (hc : ∀ x, x < a.heap.size → C1 x → C x) : Keeps C a c :=
  ⟨k.os.trans h.os, k.tape.trans h.tape, k.output.trans h.output, Nat.le_trans h.size k.size,
    fun x hx hn => (k.block x (Nat.lt_of_lt_of_le hx h.size) (fun e => hn (hc x hx e))).trans (h.block x hx hn)⟩
theorem Keeps.mono {C C1 : Foot} {a b : World} (h : Keeps C1 a b) (hc : ∀ x, x < a.heap.size → C1 x → C x) : Keeps C a b :=
  (Keeps.refl C a).trans h hc
theorem Keeps.drew {C : Foot} {a b : World} (h : Keeps C a b) : Keeps C a b.drew := ⟨h.os, h.tape, h.output, h.size, h.block⟩
theorem Keeps.drewN {C : Foot} {a b : World} (h : Keeps C a b) (n : Nat) : Keeps C a (b.drewN n) := ⟨h.os, h.tape, h.output, h.size, h.block⟩
theorem Keeps.alloc {C : Foot} {a b : World} (h : Keeps C a b) (o : Obj) : Keeps C a (b.alloc o) :=
  ⟨h.os, h.tape, h.output, Nat.le_trans h.size (by simp), fun i hi hn => (Below.heap_alloc b o i (Nat.lt_of_lt_of_le hi h.size)).trans (h.block i hi hn)⟩
theorem Keeps.setCell {C : Foot} {a b : World} (h : Keeps C a b) {p : Addr} (hp : p.block < a.heap.size → C p.block) (u : Value) : Keeps C a (b.setCell p u) :=
  ⟨h.os, h.tape, h.output, by simpa [World.setCell] using h.size, fun i hi hn => (Below.heap_setCell b p u i (by rintro rfl; exact hn (hp hi))).trans (h.block i hi hn)⟩
theorem Keeps.grown {C : Foot} {a b c : World} {row : Option Nat} (h : Keeps C a b) (k : b.grownBy c row) (hr : ∀ g, row = some g → g < a.heap.size → C g) : Keeps C a c :=
  h.trans (C1 := fun x => row = some x) ⟨k.os, k.tape, k.output, k.size, fun x hx hn => k.block x hx (fun e => hn e.symm)⟩ (fun x hx e => hr x e hx)
theorem Keeps.below {C : Foot} {B : Nat} {a b c : World} (h : Keeps C a b) (k : Below B b c) (hr : a.heap.size ≤ B) : Keeps C a c :=
  h.trans (C1 := fun x => B ≤ x) ⟨k.os, k.tape, k.output, k.size, fun x _ hn => k.block x (Nat.lt_of_not_le hn)⟩ (fun x hx e => absurd hr (by omega))
theorem Keeps.toBelow {C : Foot} {B : Nat} {a b : World} (h : Keeps C a b) (hB : B ≤ a.heap.size) (hc : ∀ x, x < B → ¬ C x) : Below B a b :=
  ⟨h.os, h.tape, h.output, h.size, fun x hx => h.block x (Nat.lt_of_lt_of_le hx hB) (hc x hx)⟩
theorem Keeps.cell {C : Foot} {a b : World} (h : Keeps C a b) {p : Addr} (hp : p.block < a.heap.size) (hn : ¬ C p.block) : b.cell? p = a.cell? p := World.cell?_of_block (h.block _ hp hn)
abbrev KeepsAll := Keeps (fun _ => False)
theorem Keeps.rd {α : Type} {E : Rd α} (hE : Rd.Ok E) {C : Foot} {a b : World} (h : Keeps C a b) {S S' : Foot} {cs : List Value} {x : α} (hr : E a S cs x) (hS : ∀ k, S k → k < a.heap.size ∧ ¬ C k) (hS' : ∀ k, S k → S' k) : E b S' cs x :=
  hE.mono hr hS' fun k hk => h.block k (hS k hk).1 (hS k hk).2

/-- the worlds that keep all that w holds, as a type: the class of a region that only reads and whose callees only make memory -/
structure Ext (w : World) where
  val : World
  keeps : KeepsAll w val
instance Ext.some_ (w : World) : Nonempty (Ext w) := ⟨⟨w, Keeps.refl _ w⟩⟩
theorem Ext.cell {w : World} {p : Addr} {v : Value} (h : w.cell? p = some v) (x : Ext w) : x.val.cell? p = some v := (x.keeps.cell (World.block_lt_of_cell? w p h) (by simp)).trans h
/-- the same, but for the blocks of C -/
structure ExtC (C : Foot) (w : World) where
  val : World
  keeps : Keeps C w val
instance ExtC.some_ (C : Foot) (w : World) : Nonempty (ExtC C w) := ⟨⟨w, Keeps.refl _ w⟩⟩
theorem ExtC.cell {C : Foot} {w : World} {p : Addr} {v : Value} (h : w.cell? p = some v) (hn : ¬ C p.block) (x : ExtC C w) : x.val.cell? p = some v := (x.keeps.cell (World.block_lt_of_cell? w p h) hn).trans h
theorem ExtC.start (C : Foot) (w : World) : ∃ x : ExtC C w, w.drew = x.val := ⟨⟨_, (Keeps.refl _ w).drew⟩, rfl⟩
theorem Ext.rd {α : Type} {E : Rd α} (hE : Rd.Ok E) {w : World} {S : Foot} {cs : List Value} {l : α} (h : E w S cs l) (x : Ext w) (hS : ∀ b, S b → b < w.heap.size) : E x.val S cs l :=
  x.keeps.rd hE h (fun k hk => ⟨hS k hk, by simp⟩) (fun _ h => h)
theorem Ext.old {w : World} {S : Foot} (x : Ext w) (hS : ∀ b, S b → b < w.heap.size) : ∀ b, S b → b < x.val.heap.size := fun b hb => Nat.lt_of_lt_of_le (hS b hb) x.keeps.size

/-- block g is just the cells cs, of element type t, none frozen -/
def Blk (w : World) (g : Nat) (t : TypeId) (cs : Array Value) : Prop := w.heap[g]? = some (.cells cs t (0, 0))
section
variable {w w' : World} {g : Nat} {t : TypeId} {cs : Array Value}
theorem Blk.lt (h : Blk w g t cs) : g < w.heap.size := by
  unfold Blk at h
  exact (Array.getElem?_eq_some_iff.1 h).1
theorem Blk.cell (h : Blk w g t cs) (i : Nat) : w.cell? ⟨g, i, none⟩ = cs[i]? := by
  unfold Blk at h
  simp [World.cell?, h]
theorem Blk.frozen (h : Blk w g t cs) (i : Nat) : w.frozen? ⟨g, i, none⟩ = false := by
  unfold Blk at h
  simp [World.frozen?, h]
theorem Blk.set_ (h : Blk w g t cs) (i : Nat) (u : Value) : Blk (w.setCell ⟨g, i, none⟩ u) g t (cs.setIfInBounds i u) := by
  unfold Blk at h ⊢
  simp [World.setCell, Array.getElem?_modify, h]
theorem Blk.far (h : Blk w g t cs) {p : Addr} (hp : g ≠ p.block) (u : Value) : Blk (w.setCell p u) g t cs := (Below.heap_setCell w p u g hp).trans h
theorem Blk.new (w : World) (t : TypeId) (cs : Array Value) : Blk (w.alloc (.cells cs t)) w.heap.size t cs := heap_alloc_new w _
theorem Blk.new' (w : World) (t : TypeId) (cs : Array Value) {g : Nat} (hg : g = w.heap.size) : Blk (w.alloc (.cells cs t)) g t cs := by subst hg; exact Blk.new w t cs
theorem Blk.alloc (h : Blk w g t cs) (o : Obj) : Blk (w.alloc o) g t cs := (Below.heap_alloc w o g h.lt).trans h
theorem Blk.kept {C : Foot} (h : Blk w g t cs) (k : Keeps C w w') (hn : ¬ C g) : Blk w' g t cs := (k.block g h.lt hn).trans h
end

/-- a callee that leaves the world alone, inside a region that only reads -/
theorem quiet_left {P : Program} {f : FuncId} {args : Array Value} {w : World} {n : Nat} {v : Value}
    (h : Calls P f args (w.drewN n) fun e w' => e = .returned v ∧ w.drewN n = w') : Calls P f args (w.drewN n) fun e w'' => e = .returned v ∧ ∃ m, w'' = w.drewN m :=
  h.mono fun _ _ ⟨he, hm⟩ => ⟨he, n, hm.symm⟩

end

section
open Go.RowKit

/-- v is nil or a row of the call's own (block from base on, element type t); its elements read as l; what they rest on lies from lo on and not in v's own block -/
def OwnL {α : Type} (t size : Nat) (E : Rd α) (w : World) (base lo : Nat) (v : Value) (l : List α) : Prop :=
  ∃ ess : List (List Value), ess.length = l.length ∧ w.ownsRow base t size v l.length ess.flatten ∧
    ∀ (j : Nat) x, l[j]? = some x → ∃ es, ess[j]? = some es ∧ es.length = size ∧ E w (fun b => lo ≤ b ∧ b < w.heap.size ∧ v.ownBlock ≠ some b) es x

section
variable {α : Type} {t size : Nat} {E : Rd α} {w w' : World} {base lo : Nat} {v : Value} {l : List α}
theorem OwnL.nil : OwnL t size E w base lo (.slice none 0 0) ([] : List α) := ⟨[], rfl, World.ownsRow_nil _ _ _ _, fun j x h => by simp at h⟩
theorem OwnL.own (h : OwnL t size E w base lo v l) : ∃ g : Option Nat, v.ownBlock = g ∧ ∀ b, g = some b → base ≤ b ∧ b < w.heap.size := by
  obtain ⟨ess, _, h2, _⟩ := h; exact ⟨_, rfl, fun b hb => h2.lt b hb⟩
theorem OwnL.lt (h : OwnL t size E w base lo v l) {b : Nat} (hb : v.ownBlock = some b) : base ≤ b ∧ b < w.heap.size := by
  obtain ⟨ess, _, h2, _⟩ := h; exact h2.lt b hb
theorem OwnL.form (h : OwnL t size E w base lo v l) : ∃ A c, v = .slice A l.length c ∧ l.length ≤ c ∧ c ≤ 9223372036854775807 := by
  obtain ⟨ess, _, h2, _⟩ := h
  rcases h2.2 with ⟨e, hn⟩ | ⟨g, cap, cur, e, _, _, h5, h6, _⟩
  · exact ⟨none, 0, by rw [e, hn], by omega, by omega⟩
  · exact ⟨_, cap, e, h5, h6⟩
theorem OwnL.keeps (hE : Rd.Ok E) {C : Foot} (h : OwnL t size E w base lo v l) (k : Keeps C w w') (hC : ∀ b, b < w.heap.size → C b → b < lo ∧ b < base) : OwnL t size E w' base lo v l := by
  obtain ⟨ess, h1, h2, h3⟩ := h
  refine ⟨ess, h1, ?_, fun j x hx => ?_⟩
  · refine ⟨h2.1, ?_⟩
    rcases h2.2 with hn | ⟨g, cap, cur, e, hb, hh, rest⟩
    · exact .inl hn
    · have hlt := (Array.getElem?_eq_some_iff.1 hh).1
      exact .inr ⟨g, cap, cur, e, hb, (k.block g hlt (fun hc => by have := hC g hlt hc; omega)).trans hh, rest⟩
  · obtain ⟨es, e1, e2, e3⟩ := h3 j x hx
    exact ⟨es, e1, e2, hE.mono e3 (fun b hb => ⟨hb.1, Nat.lt_of_lt_of_le hb.2.1 k.size, hb.2.2⟩) (fun b hb => k.block b hb.2.1 (fun hc => by have := hC b hb.2.1 hc; omega))⟩
theorem OwnL.alloc (hE : Rd.Ok E) (h : OwnL t size E w base lo v l) (o : Obj) : OwnL t size E (w.alloc o) base lo v l :=
  h.keeps hE ((Keeps.refl (fun _ => False) w).alloc o) (fun _ _ h => h.elim)
theorem OwnL.drew (hE : Rd.Ok E) (h : OwnL t size E w base lo v l) : OwnL t size E w.drew base lo v l :=
  h.keeps hE ((Keeps.refl (fun _ => False) w).drew) (fun _ _ h => h.elim)
theorem OwnL.drewN (hE : Rd.Ok E) (h : OwnL t size E w base lo v l) (n : Nat) : OwnL t size E (w.drewN n) base lo v l :=
  h.keeps hE ((Keeps.refl (fun _ => False) w).drewN n) (fun _ _ h => h.elim)

theorem flatten_at {ess : List (List Value)} (hsz : ∀ es ∈ ess, es.length = size) {j : Nat} {es : List Value} (h : ess[j]? = some es) {i : Nat} (hi : i < size) : ess.flatten[j * size + i]? = es[i]? := by
  induction ess generalizing j with
  | nil => simp at h
  | cons e r ih =>
    have he := hsz e (by simp)
    cases j with
    | zero =>
      have e0 : e = es := by simpa using h
      subst e0
      simp only [List.flatten_cons, Nat.zero_mul, Nat.zero_add]
      rw [List.getElem?_append_left (by omega)]
    | succ j =>
      have h' : r[j]? = some es := by simpa using h
      simp only [List.flatten_cons]
      rw [List.getElem?_append_right (by rw [he, Nat.succ_mul]; omega), he, ← ih (fun x hx => hsz x (by simp [hx])) h']
      congr 1
      rw [Nat.succ_mul]; omega

/-- what was built reads as a slice -/
theorem OwnL.read (hE : Rd.Ok E) (h : OwnL t size E w base lo v l) (_hsz : 0 < size) {S : Foot} (hS : ∀ b, lo ≤ b → b < w.heap.size → S b) (hS2 : ∀ b, base ≤ b → b < w.heap.size → S b) : RSlice size E w S [v] l := by
  obtain ⟨ess, h1, h2, h3⟩ := h
  have hall : ∀ es ∈ ess, es.length = size := by
    intro es hes
    obtain ⟨j, hj, e⟩ := List.getElem_of_mem hes
    have hl : j < l.length := by omega
    obtain ⟨es', e1, e2, _⟩ := h3 j l[j] (List.getElem?_eq_getElem hl)
    rw [List.getElem?_eq_getElem hj, e] at e1
    injection e1 with e1; subst e1; exact e2
  rcases h2.2 with ⟨rfl, hn⟩ | ⟨g, cap, cur, rfl, hb, hh, hnc, hcm, hcs, htk⟩
  · have : l = [] := List.eq_nil_of_length_eq_zero hn
    subst this
    exact RSlice.mkNil
  · have hlt := (Array.getElem?_eq_some_iff.1 hh).1
    refine ⟨_, cap, rfl, hnc, hcm, fun _ => ⟨g, 0, rfl, hS2 g hb hlt, fun j x hx => ?_⟩⟩
    obtain ⟨es, e1, e2, e3⟩ := h3 j x hx
    refine ⟨es, e2, hE.mono e3 (fun b hb => hS b hb.1 hb.2.1) (fun _ _ => rfl), fun i u hu => ?_⟩
    have hi : i < size := by rw [← e2]; exact (List.getElem?_eq_some_iff.1 hu).1
    have hj : j < l.length := (List.getElem?_eq_some_iff.1 hx).1
    have hf := flatten_at hall e1 hi
    rw [hu, ← htk] at hf
    have hk : j * size + i < l.length * size := by
      have : (j + 1) * size ≤ l.length * size := Nat.mul_le_mul_right _ hj
      rw [Nat.succ_mul] at this; omega
    rw [List.getElem?_take_of_lt hk] at hf
    simp only [World.cell?, hh, Option.isSome_none, Nat.zero_add]
    simpa using hf

/-- the element type's row of the table -/
structure ElemTy (P : Program) (T t size bytes : Nat) : Prop where
  ht : P.underlying T = some (.slice t)
  info : ∃ i z, P.info? t = some i ∧ i.zero = some z ∧ i.size = size ∧ i.bytes = bytes ∧ z.cells.size = size
  pos : 0 < size
theorem ElemTy.mk' {P : Program} {T t size bytes : Nat} {z : Value} (ht : P.underlying T = some (.slice t)) (h : (P.info? t).map (fun i => (i.zero, i.size, i.bytes)) = some (some z, size, bytes)) (hz : z.cells.size = size) (hp : 0 < size) : ElemTy P T t size bytes := by
  obtain ⟨i, h1, h2, h3, h4⟩ := info_parts h
  exact ⟨ht, ⟨i, z, h1, h2, h3, h4, hz⟩, hp⟩

theorem run_append_L {P : Program} {T bytes : Nat} (ty : ElemTy P T t size bytes) (hE : Rd.Ok E) (ty' : TypeId)
    (hown : OwnL t size E w base lo v l) (h : Nat) (es : List Value) (hblk : Blk w h t es.toArray) (hl : es.length = size)
    (y : α) {S : Foot} (hr : E w S es y) (hS : ∀ b, S b → lo ≤ b ∧ b < w.heap.size ∧ v.ownBlock ≠ some b) (h1 : ∀ u ∈ es, u.oneCell' = true) (hbytes : (l.length + 1) * bytes ≤ 140737488355328) (hlen : l.length + 1 ≤ 9223372036854775807) (hbase : base ≤ w.heap.size) :
    ∃ v' w', (Builtin.append_ #[T, T] ty' #[v, .slice (some ⟨h, 0, none⟩) 1 1]).run P w = .ok v' w' ∧ OwnL t size E w' base lo v' (l ++ [y]) ∧ Keeps (fun b => v.ownBlock = some b) w w' ∧ (v'.ownBlock = v.ownBlock ∨ v'.ownBlock = some w.heap.size) := by
  obtain ⟨i, z, i1, i2, i3, i4, i5⟩ := ty.info
  obtain ⟨ess, h2, h3, h4⟩ := hown
  obtain ⟨v', w', hrun, g1, g2, _, g4⟩ := run_append_own_at (P := P) w base T ty' t i z size bytes ty.ht i1 i2 i3 i4 i5 ty.pos v l.length ess.flatten h3 ⟨h, 0, none⟩ 1 1 es (by omega) (fun j u hu => by
    have hc := hblk.cell j
    have : (Addr.mk h 0 none).add j = ⟨h, j, none⟩ := by
      unfold Addr.add; split
      · subst_vars; rfl
      · simp
    rw [this, hc]; simpa using hu) h1 hlen hbytes hbase
  have kk : Keeps (fun b => v.ownBlock = some b) w w' := ⟨g2.os, g2.tape, g2.output, g2.size, fun b hb hn => g2.block b hb (fun e => hn e.symm)⟩
  have far : ∀ b, lo ≤ b ∧ b < w.heap.size ∧ v.ownBlock ≠ some b → lo ≤ b ∧ b < w'.heap.size ∧ v'.ownBlock ≠ some b := by
    intro b ⟨q1, q2, q3⟩
    refine ⟨q1, Nat.lt_of_lt_of_le q2 g2.size, fun e => ?_⟩
    rcases g4 with g4 | g4
    · exact q3 (by rw [← g4]; exact e)
    · rw [g4] at e; injection e with e; omega
  refine ⟨v', w', hrun, ⟨ess ++ [es], by simp [h2], by simpa using g1, fun j y' hy => ?_⟩, kk, g4⟩
  rcases Nat.lt_or_ge j l.length with hj | hj
  · rw [List.getElem?_append_left hj] at hy
    obtain ⟨es', e1, e2, e3⟩ := h4 j y' hy
    exact ⟨es', by rw [List.getElem?_append_left (by omega)]; exact e1, e2, hE.mono e3 far (fun b hb => kk.block b hb.2.1 hb.2.2)⟩
  · rw [List.getElem?_append_right hj] at hy
    have hj0 : j = l.length := by
      have := (List.getElem?_eq_some_iff.1 hy).1; simp at this; omega
    subst hj0
    simp at hy; subst hy
    exact ⟨es, by rw [← h2]; simp, hl, hE.mono hr (fun b hb => far b (hS b hb)) (fun b hb => kk.block b (hS b hb).2.1 (hS b hb).2.2)⟩

/-- 'out = append(out, x)': x lies in a new block h -/
theorem wp_append_L {P : Program} {T bytes : Nat} (ty : ElemTy P T t size bytes) (hE : Rd.Ok E) {o : Oper} {a : Act} {K : Act → World → Prop} {Q : Exit → Act → World → Prop} (s x : Operand)
    (ho : o.op = .call { callee := .builtin .append, args := #[s, x], argTypes := #[T, T] })
    (hown : OwnL t size E w base lo v l) (hs : a.eval s = v) (h : Nat) (es : List Value) (hx : a.eval x = .slice (some ⟨h, 0, none⟩) 1 1) (hblk : Blk w h t es.toArray) (hl : es.length = size)
    (y : α) {S : Foot} (hr : E w S es y) (hS : ∀ b, S b → lo ≤ b ∧ b < w.heap.size ∧ v.ownBlock ≠ some b) (h1 : ∀ u ∈ es, u.oneCell' = true) (hbytes : (l.length + 1) * bytes ≤ 140737488355328) (hlen : l.length + 1 ≤ 9223372036854775807) (hbase : base ≤ w.heap.size)
    (k : ∀ v' w', OwnL t size E w' base lo v' (l ++ [y]) → Keeps (fun b => v.ownBlock = some b) w w' → (v'.ownBlock = v.ownBlock ∨ v'.ownBlock = some w.heap.size) → K (a.put o.dst v') w') : o.wp P a w K Q := by
  obtain ⟨v', w', hrun, h2, h3, h4⟩ := run_append_L ty hE o.type hown h es hblk hl y hr hS h1 hbytes hlen hbase
  unfold Oper.wp execOp
  simp only [ho, resolve, invoke, builtin, Sem.run_bind, Sem.run_pure, Result.andThen_ok, List.map_toArray, List.map_cons, List.map_nil, hs, hx, hrun]
  exact k v' w' h2 h3 h4
theorem wpList_append_L {P : Program} {T bytes : Nat} (ty : ElemTy P T t size bytes) (hE : Rd.Ok E) {ops : Array Oper} {rest : List Oper} {o : Oper} {a : Act} {Q : Exit → Act → World → Prop} (hgd : o.guard = none) (s x : Operand)
    (ho : o.op = .call { callee := .builtin .append, args := #[s, x], argTypes := #[T, T] })
    (hown : OwnL t size E w base lo v l) (hs : a.eval s = v) (h : Nat) (es : List Value) (hx : a.eval x = .slice (some ⟨h, 0, none⟩) 1 1) (hblk : Blk w h t es.toArray) (hl : es.length = size)
    (y : α) {S : Foot} (hr : E w S es y) (hS : ∀ b, S b → lo ≤ b ∧ b < w.heap.size ∧ v.ownBlock ≠ some b) (h1 : ∀ u ∈ es, u.oneCell' = true) (hbytes : (l.length + 1) * bytes ≤ 140737488355328) (hlen : l.length + 1 ≤ 9223372036854775807) (hbase : base ≤ w.heap.size)
    (k : ∀ v' w', OwnL t size E w' base lo v' (l ++ [y]) → Keeps (fun b => v.ownBlock = some b) w w' → (v'.ownBlock = v.ownBlock ∨ v'.ownBlock = some w.heap.size) → wpList P ops Q rest (a.put o.dst v') w') :
    wpList P ops Q (o :: rest) a w :=
  wpList_plain hgd fun _ hK => wp_append_L ty hE s x ho hown hs h es hx hblk hl y hr hS h1 hbytes hlen hbase fun v' w' h2 h3 h4 => hK _ _ (k v' w' h2 h3 h4)

/-- every cell of such an element is one cell -/
def Rd.One {α : Type} (E : Rd α) : Prop := ∀ w S es x, E w S es x → ∀ u ∈ es, u.oneCell' = true
theorem RInt.one : Rd.One RInt := fun _ _ es x h u hu => by rw [h] at hu; simp at hu; subst hu; rfl
theorem RBool.one : Rd.One RBool := fun _ _ es x h u hu => by rw [h] at hu; simp at hu; subst hu; rfl
theorem RSlice.one {α : Type} {size : Nat} {E : Rd α} : Rd.One (RSlice size E) := fun _ _ es x h u hu => by
  obtain ⟨A, c, rfl, _⟩ := h; simp at hu; subst hu; rfl
theorem RRef.one : Rd.One RRef := fun _ _ es x h u hu => by rw [h] at hu; simp at hu; rcases hu with rfl | rfl <;> rfl
theorem RStage.one : Rd.One RStage := fun w S es x h u hu => by
  obtain ⟨v, rfl, hv⟩ := h
  have h1 := RSlice.one w S [v] x.pts hv v (by simp)
  simp at hu; rcases hu with rfl | rfl | rfl | rfl <;> first | rfl | exact h1
theorem ROrder.one : Rd.One ROrder := fun w S es x h u hu => by
  obtain ⟨v, rfl, hv⟩ := h
  have h1 := RSlice.one w S [v] x.uses hv v (by simp)
  simp at hu; rcases hu with rfl | rfl <;> first | rfl | exact h1

theorem flatten_inv {size : Nat} (hp : 0 < size) : ∀ (ess : List (List Value)), (∀ es ∈ ess, es.length = size) → ∀ (j : Nat) u, ess.flatten[j]? = some u → ∃ q i es, j = q * size + i ∧ i < size ∧ ess[q]? = some es ∧ es[i]? = some u
  | [], _, j, u, h => by simp at h
  | e :: r, hs, j, u, h => by
    have he := hs e (by simp)
    simp only [List.flatten_cons] at h
    by_cases hj : j < size
    · rw [List.getElem?_append_left (by omega)] at h
      exact ⟨0, j, e, by omega, hj, rfl, h⟩
    · rw [List.getElem?_append_right (by omega), he] at h
      obtain ⟨q, i, es, h1, h2, h3, h4⟩ := flatten_inv hp r (fun x hx => hs x (by simp [hx])) (j - size) u h
      exact ⟨q + 1, i, es, by rw [Nat.succ_mul]; omega, h2, by simpa using h3, h4⟩

/-- the cells of a slice that reads as a list -/
theorem RSlice.cells {w : World} {S : Foot} {A : Option Addr} {n c : Nat} (h : RSlice size E w S [.slice A n c] l) (hp : 0 < size) : ∃ ess : List (List Value), ess.length = l.length ∧ (∀ es ∈ ess, es.length = size) ∧
    (∀ (j : Nat) x, l[j]? = some x → ∃ es, ess[j]? = some es ∧ es.length = size ∧ E w S es x) ∧ (l ≠ [] → ∃ b o, A = some ⟨b, o, none⟩ ∧ ∀ j u, ess.flatten[j]? = some u → w.cell? ⟨b, o + j, none⟩ = some u) := by
  obtain ⟨A', c', he, h1, h2, h3⟩ := h
  injection he with he _; injection he with ha hn hc; subst ha
  by_cases hl : l = []
  · subst hl; exact ⟨[], rfl, by simp, fun j x hx => by simp at hx, fun h => absurd rfl h⟩
  · obtain ⟨b, o, rfl, hb, hj⟩ := h3 hl
    have hch : ∀ j : Fin l.length, ∃ es, es.length = size ∧ E w S es l[j] ∧ ∀ i u, es[i]? = some u → w.cell? ⟨b, o + (j.1 * size + i), none⟩ = some u := fun j => hj j.1 l[j] (List.getElem?_eq_getElem j.2)
    have hall := fun j => (Classical.choose_spec (hch j)).1
    refine ⟨List.ofFn fun j => Classical.choose (hch j), by simp, ?_, ?_, fun _ => ⟨b, o, rfl, ?_⟩⟩
    · intro es hes
      obtain ⟨j, rfl⟩ := List.mem_ofFn.1 hes
      exact hall j
    · intro j x hx
      obtain ⟨hlt, rfl⟩ := List.getElem?_eq_some_iff.1 hx
      refine ⟨Classical.choose (hch ⟨j, hlt⟩), by simp [hlt], hall ⟨j, hlt⟩, (Classical.choose_spec (hch ⟨j, hlt⟩)).2.1⟩
    · intro j u hu
      obtain ⟨q, i, es, e1, e2, e3, e4⟩ := flatten_inv hp _ (fun es hes => by obtain ⟨j, rfl⟩ := List.mem_ofFn.1 hes; exact hall j) j u hu
      obtain ⟨hq, rfl⟩ := List.getElem?_eq_some_iff.1 e3
      simp only [List.getElem_ofFn] at e4
      subst e1
      exact (Classical.choose_spec (hch _)).2.2 i u e4

/-- an empty slice that is not nil, in a new block -/
theorem OwnL.empty {g : Nat} (hb : Blk w g t #[]) (hg : base ≤ g) : OwnL t size E w base lo (.slice (some ⟨g, 0, none⟩) 0 0) ([] : List α) :=
  ⟨[], rfl, ⟨by simp, .inr ⟨g, 0, #[], rfl, hg, hb, Nat.le_refl _, by simp [maxLen], by simp, by simp⟩⟩, fun j x h => by simp at h⟩
end

end

section
open Go.RowKit

theorem Keeps.trA {a b c : World} (k : KeepsAll a b) (k' : KeepsAll b c) : KeepsAll a c := k.trans k' (fun _ _ h => h)
theorem Keeps.cellA {a b : World} (k : KeepsAll a b) {p : Addr} {v : Value} (hp : p.block < a.heap.size) (h : a.cell? p = some v) : b.cell? p = some v := (k.cell hp (by simp)).trans h
def RStr : Rd Bs := fun _ _ cs x => cs = [.string (mkS x)]
theorem RStr.ok : Rd.Ok RStr := ⟨fun h _ _ => h⟩
abbrev RStrs := RSlice 1 RStr
theorem RStrs.ok : Rd.Ok RStrs := RSlice.ok RStr.ok
section
variable {w wr : World} {S : Foot} {A : Option Addr} {n c : Nat} {l : List Bs}
theorem RStrs.at_ (h : RStrs w S [.slice A n c] l) {k : Nat} (hk : k < l.length) :
    ∃ b o x, A = some ⟨b, o, none⟩ ∧ S b ∧ l[k]? = some x ∧ w.cell? ⟨b, o + k, none⟩ = some (.string (mkS x)) := by
  obtain ⟨b, o, x, es, rfl, hb, hx, h1, h2, h3⟩ := h.get hk
  cases h2
  exact ⟨b, o, x, rfl, hb, hx, by simpa using h3 0 _ rfl⟩
theorem RStrs.head {x : Bs} {l : List Bs} (h : RStrs w S [.slice A n c] (x :: l)) : ∃ b o, A = some ⟨b, o, none⟩ ∧ S b ∧ w.cell? ⟨b, o, none⟩ = some (.string (mkS x)) := by
  obtain ⟨b, o, y, rfl, hb, hy, h1⟩ := h.at_ (k := 0) (by simp)
  simp at hy
  subst hy
  exact ⟨b, o, rfl, hb, h1⟩
theorem RStrs.tail {b o : Nat} {x : Bs} {l : List Bs} (h : RStrs w S [.slice (some ⟨b, o, none⟩) n c] (x :: l)) : RStrs w S [.slice (some ⟨b, o + 1, none⟩) l.length (c - 1)] l := by
  obtain ⟨hc1, hc2⟩ := h.caps
  obtain ⟨A', c', he, h1, h2, h3⟩ := h
  injection he with he _
  injection he with ha hn hc
  obtain ⟨b', o', ha', hb', hj⟩ := h3 (by simp)
  rw [← ha] at ha'
  injection ha' with ha'
  injection ha' with e1 e2
  subst e1 e2
  simp at hc1
  refine ⟨_, _, rfl, by omega, by omega, fun _ => ⟨b, o + 1, rfl, hb', fun j y hy => ?_⟩⟩
  obtain ⟨es, s1, s2, s3⟩ := hj (j + 1) y (by simpa using hy)
  refine ⟨es, s1, s2, fun i u hu => ?_⟩
  rw [← s3 i u hu]
  congr 2
  omega
end
/-- a reading that rests on no memory -/
def Rd.Flt {α : Type} (E : Rd α) : Prop := ∀ w S w' S' cs x, E w S cs x → E w' S' cs x
theorem RStr.flt : Rd.Flt RStr := fun _ _ _ _ _ _ h => h
theorem RInt.flt : Rd.Flt RInt := fun _ _ _ _ _ _ h => h
section
variable {α : Type} {t size : Nat} {E : Rd α} {w w' : World} {base lo : Nat} {v : Value} {l : List α}
theorem OwnL.keepsT (hF : Rd.Flt E) {C : Foot} (h : OwnL t size E w base lo v l) (k : Keeps C w w') (hC : ∀ b, v.ownBlock = some b → ¬ C b) : OwnL t size E w' base lo v l := by
  obtain ⟨ess, h1, h2, h3⟩ := h
  refine ⟨ess, h1, ?_, fun j x hx => ?_⟩
  · refine ⟨h2.1, ?_⟩
    rcases h2.2 with hn | ⟨g, cap, cur, e, hb, hh, rest⟩
    · exact .inl hn
    · have hlt := (Array.getElem?_eq_some_iff.1 hh).1
      exact .inr ⟨g, cap, cur, e, hb, (k.block g hlt (hC g (by rw [e]; rfl))).trans hh, rest⟩
  · obtain ⟨es, e1, e2, e3⟩ := h3 j x hx
    exact ⟨es, e1, e2, hF _ _ _ _ _ _ e3⟩
theorem OwnL.readT (hF : Rd.Flt E) (h : OwnL t size E w base lo v l) {S : Foot} (hS : ∀ b, v.ownBlock = some b → S b) : RSlice size E w S [v] l := by
  obtain ⟨ess, h1, h2, h3⟩ := h
  have hall : ∀ es ∈ ess, es.length = size := by
    intro es hes
    obtain ⟨j, hj, e⟩ := List.getElem_of_mem hes
    have hl : j < l.length := by omega
    obtain ⟨es', e1, e2, _⟩ := h3 j l[j] (List.getElem?_eq_getElem hl)
    rw [List.getElem?_eq_getElem hj, e] at e1
    injection e1 with e1
    subst e1
    exact e2
  rcases h2.2 with ⟨rfl, hn⟩ | ⟨g, cap, cur, rfl, hb, hh, hnc, hcm, hcs, htk⟩
  · have : l = [] := List.eq_nil_of_length_eq_zero hn
    subst this
    exact RSlice.mkNil
  · refine ⟨_, cap, rfl, hnc, hcm, fun _ => ⟨g, 0, rfl, hS g rfl, fun j x hx => ?_⟩⟩
    obtain ⟨es, e1, e2, e3⟩ := h3 j x hx
    refine ⟨es, e2, hF _ _ _ _ _ _ e3, fun i u hu => ?_⟩
    have hi : i < size := by rw [← e2]; exact (List.getElem?_eq_some_iff.1 hu).1
    have hj : j < l.length := (List.getElem?_eq_some_iff.1 hx).1
    have hf := flatten_at hall e1 hi
    rw [hu, ← htk] at hf
    have hk : j * size + i < l.length * size := by
      have : (j + 1) * size ≤ l.length * size := Nat.mul_le_mul_right _ hj
      rw [Nat.succ_mul] at this
      omega
    rw [List.getElem?_take_of_lt hk] at hf
    simp only [World.cell?, hh, Option.isSome_none, Nat.zero_add]
    simpa using hf
end

end

section

end

section
open Go.RowKit

theorem mkS_at (l : Bs) (b : Nat) (x : UInt8) (h : l[b]? = some x) (hb : b < (mkS l).size) : (mkS l)[b] = x := by
  have e : (mkS l)[b] = l[b]'(by rw [mkS_size] at hb; exact hb) := by simp [mkS, ByteArray.getElem_eq_getElem_data]
  rw [e]
  exact Option.some.inj ((List.getElem?_eq_getElem _).symm.trans h)

end

section
open Go.Lib

/-- a byte of a word (where it is not the mark of a remark) -/
def isP (c : UInt8) : Bool := decide (33 ≤ c) && decide (c ≤ 126)
def isBl (c : UInt8) : Bool := c == 32 || c == 9
abbrev Wd := Bs × Int
def flushW (a : List Wd) (c : Bs) (i : Nat) : List Wd := if c = [] then a else a ++ [(c, (i : Int) - c.length + 1)]
/-- the words of what is left of a line; none: a byte that is not permitted -/
def scanW : Bs → List Wd → Bs → Nat → Option (List Wd)
  | [], a, c, i => some (flushW a c i)
  | b :: r, a, c, i => if b = 35 then some (flushW a c i) else if isBl b = true then scanW r (flushW a c i) [] (i + 1) else if isP b = true then scanW r a (c ++ [b]) (i + 1) else none
def wordsL (s : Bs) : Option (List Wd) := scanW s [] [] 0
def cutB (l : Bs) : Bs := l.takeWhile (fun c => c != 35)
theorem scan_cut (l : Bs) : ∀ a c i, scanW (cutB l) a c i = scanW l a c i := by
  induction l with
  | nil => intro a c i; rfl
  | cons b r ih =>
    intro a c i
    by_cases h : b = 35
    · subst h
      simp [cutB, scanW]
    · have e : cutB (b :: r) = b :: cutB r := by simp [cutB, h]
      rw [e, scanW, scanW, if_neg h, if_neg h, ih, ih]
theorem words_cut (l : Bs) : wordsL (cutB l) = wordsL l := scan_cut l _ _ _
theorem cut_no (l : Bs) : ∀ c ∈ cutB l, c ≠ 35 := by
  intro c hc
  have := List.all_takeWhile (p := fun c : UInt8 => c != 35) (l := l)
  rw [List.all_eq_true] at this
  simpa using this c hc
theorem cut_len (l : Bs) : (cutB l).length ≤ l.length := (List.takeWhile_prefix _).length_le
/-- the line without its remark, by the place of the mark -/
theorem cut_idx (l : Bs) : cutB l = if indexByte l 35 < 0 then l else l.take (indexByte l 35).toNat := by
  induction l with
  | nil => rfl
  | cons b r ih =>
    by_cases h : b = 35
    · subst h
      simp [cutB, indexByte]
    · have hb : (b == 35) = false := by simpa using h
      have e : cutB (b :: r) = b :: cutB r := by simp [cutB, h]
      have hg := indexByte_ge r 35
      have hi : indexByte (b :: r) 35 = if indexByte r 35 == -1 then -1 else indexByte r 35 + 1 := by rw [indexByte, hb]; rfl
      generalize indexByte r 35 = j at *
      rw [e, ih, hi]
      by_cases hm : j = -1
      · subst hm; rfl
      · have hm2 : (j == -1) = false := by simpa using hm
        have this : (j + 1).toNat = j.toNat + 1 := by omega
        rw [hm2]
        simp only [Bool.false_eq_true, if_false]
        rw [if_neg (by omega), if_neg (by omega), this, List.take_succ_cons]
/-- the pieces between line feeds -/
def piecesL : Bs → List Bs
  | [] => [[]]
  | c :: r => if c = 10 then [] :: piecesL r else match piecesL r with
    | [] => [[c]]
    | p :: q => (c :: p) :: q
theorem piecesL_none (l : Bs) (h : ∀ c ∈ l, c ≠ 10) : piecesL l = [l] := by
  induction l with
  | nil => rfl
  | cons c r ih => rw [piecesL, if_neg (h c (by simp)), ih (fun d hd => h d (by simp [hd]))]
theorem piecesL_hit (a r : Bs) (h : ∀ c ∈ a, c ≠ 10) : piecesL (a ++ 10 :: r) = a :: piecesL r := by
  induction a with
  | nil => simp [piecesL]
  | cons c a ih => rw [List.cons_append, piecesL, if_neg (h c (by simp)), ih (fun d hd => h d (by simp [hd]))]
theorem idx_hit (l : Bs) (c : UInt8) : (indexByte l c = -1 ∧ ∀ d ∈ l, d ≠ c) ∨ ∃ a r, l = a ++ c :: r ∧ (∀ d ∈ a, d ≠ c) ∧ indexByte l c = (a.length : Int) := by
  induction l with
  | nil => exact .inl ⟨rfl, fun c h => by cases h⟩
  | cons b l ih =>
    by_cases e : b = c
    · subst e
      exact .inr ⟨[], l, rfl, (fun d hd => by cases hd), by simp [indexByte]⟩
    · have hb : (b == c) = false := by simpa using e
      rw [indexByte, hb]
      rcases ih with ⟨i1, i2⟩ | ⟨a, r, rfl, i2, i3⟩
      · refine .inl ⟨by simp [i1], fun d hd => ?_⟩
        rcases List.mem_cons.1 hd with rfl | hd
        · exact e
        · exact i2 d hd
      · refine .inr ⟨b :: a, r, rfl, fun d hd => ?_, ?_⟩
        · rcases List.mem_cons.1 hd with rfl | hd
          · exact e
          · exact i2 d hd
        · rw [i3]
          have : ((a.length : Int) == -1) = false := by rw [beq_eq_false_iff_ne]; omega
          simp [this]
abbrev Ln := Nat × List Wd
/-- the lines of words; else the line and the code of the first error -/
def goLines : List Bs → Nat → List Ln → List Ln ⊕ (Nat × Int)
  | [], _, acc => .inl acc
  | p :: r, k, acc => match wordsL p with
    | none => .inr (k, 2)
    | some ws => if 64 < ws.length then .inr (k, 7) else goLines r (k + 1) (if ws = [] then acc else acc ++ [(k, ws)])
def linesT (s : Bs) : List Ln ⊕ (Nat × Int) := if 65536 < s.length then .inr (0, 7) else goLines (piecesL s) 1 []
theorem goLines_end (k : Nat) (acc : List Ln) : goLines [[]] k acc = .inl acc := by
  simp [goLines, wordsL, scanW, flushW]
end

section
open Go.RowKit

theorem mkS_ext (l : Bs) (a b : Nat) : (mkS l).extract a b = mkS ((l.take b).drop a) := by
  apply ByteArray.ext
  apply Array.ext'
  simp [mkS, ByteArray.data_extract]
  rw [List.drop_take]
theorem mkS_beq (a b : Bs) : ((mkS a).toList == (mkS b).toList) = (a == b) := by
  rw [ByteArray.toList_eq, ByteArray.toList_eq, mkS_list, mkS_list]
set_option maxHeartbeats 1000000 in
set_option maxRecDepth 100000 in
theorem indexByte_any (s : Bs) (c : Int) (w : World) :
    Calls Tryz.prog 230 #[.string (mkS s), .int .u8 c] w fun e w' => e = .returned (.int .i64 (Lib.indexByte s c.toNat.toUInt8)) ∧ w' = w := by
  have hs := mkS_list s
  generalize mkS s = t at *
  subst hs
  go_enter Tryz.func230, Tryz.ntmps230
  go_wp2
  rw [run_callFunc_extern Tryz.func291 (by kernel_rfl) (by kernel_rfl) (by kernel_rfl) (e := Extern.BytealgIndexByte.indexByte) (by kernel_rfl), Lib.run_indexByteString]
  simp only [Result.andThen]
  rw [Oper.upon_value]
  go_wp2
  go_ret
  exact ⟨rfl, rfl⟩
theorem idx_self (c : UInt8) : Lib.indexByte [c] c = 0 := by simp [Lib.indexByte]
set_option maxHeartbeats 1000000 in
set_option maxRecDepth 100000 in
/-- the first place of a byte -/
theorem slIndex_any (s : Bs) (c : UInt8) (w : World) :
    Calls Tryz.prog 154 #[.string (mkS s), .string (mkS [c])] w fun e w' => e = .returned (.int .i64 (Lib.indexByte s c)) ∧ w' = w := by
  have hI := indexByte_any s c.toNat w
  have hc : ((c.toNat : Int).toNat.toUInt8) = c := by simp
  rw [hc] at hI
  have HI := Lib.hid hI
  clear hI hc
  have hn : (mkS [c]).size = 1 := mkS_size _
  have h0 : ∀ h : 0 < (mkS [c]).size, (mkS [c])[0] = c := fun h => mkS_at [c] 0 c rfl h
  have hb := mkS_beq [c] s
  have hq : Hid (([c] == s) = true → Lib.indexByte s c = 0) := fun h => by
    have : s = [c] := by simpa using (beq_iff_eq.1 h).symm
    rw [this]; exact idx_self c
  generalize hs : mkS s = t at *
  generalize hx : mkS [c] = x at *
  clear hs hx
  generalize ([c] == s) = bb at *
  go_enter Tryz.func154, Tryz.ntmps154
  cases bb
  · go_wp2_with (go_at_call 230; refine (HI.out).mono ?_; rintro e w' ⟨rfl, rfl⟩)
    go_ret
    exact ⟨rfl, rfl⟩
  · have h2 := hq.out rfl
    go_wp2
    go_ret
    exact ⟨rfl, rfl⟩
theorem sIndex_any (s : Bs) (c : UInt8) (w : World) :
    Calls Tryz.prog 88 #[.string (mkS s), .string (mkS [c])] w fun e w' => e = .returned (.int .i64 (Lib.indexByte s c)) ∧ w' = w := by
  have HI := slIndex_any s c
  generalize mkS s = t at *
  generalize mkS [c] = x at *
  go_enter Tryz.func88, Tryz.ntmps88
  go_wp2_with (go_at_call 154; refine (HI _).mono ?_; rintro e w' ⟨rfl, rfl⟩)
  go_ret
  exact ⟨rfl, rfl⟩
def CutE (u : ByteArray) (e : Ending) : Prop := ∃ x : ByteArray × Bool, e = .returned (.tuple #[.string u, .string x.1, .bool x.2])
set_option maxHeartbeats 1000000 in
set_option maxRecDepth 100000 in
theorem slCut_any (s : Bs) (c : UInt8) (hl : s.length ≤ 9223372036854775807) (w : World) :
    Calls Tryz.prog 89 #[.string (mkS s), .string (mkS [c])] w fun e w' => CutE (mkS (if Lib.indexByte s c < 0 then s else s.take (Lib.indexByte s c).toNat)) e ∧ KeepsAll w w' := by
  have HI := Lib.hid (slIndex_any s c w)
  have hn : (mkS [c]).size = 1 := mkS_size _
  have hts : (mkS s).size = s.length := mkS_size s
  have hg := Lib.indexByte_ge s c
  have hlt : Lib.indexByte s c < s.length ∨ Lib.indexByte s c = -1 := by
    rcases idx_hit s c with ⟨h, -⟩ | ⟨a, r, h, -, h2⟩
    · omega
    · left; rw [h2, h]; simp; omega
  have HX : Hid (∀ a : Nat, (mkS s).extract 0 a = mkS (s.take a)) := fun a => by rw [mkS_ext]; simp
  generalize hi : Lib.indexByte s c = i at *
  clear hi
  generalize hx : mkS [c] = x at *
  clear hx
  have HS : Hid (mkS s = mkS s) := rfl
  generalize hs : mkS s = t at HI hts HX ⊢
  rw [show mkS (if i < 0 then s else s.take i.toNat) = if i < 0 then t else mkS (s.take i.toNat) by split <;> simp [hs]]
  clear hs HS
  go_enter Tryz.func89, Tryz.ntmps89
  by_cases h : i < 0
  · go_wp2_with (go_at_call 154; refine (HI.out).mono ?_; rintro e w' ⟨rfl, rfl⟩)
    refine bodyPost_ret (v := .tuple #[.string t, .string ⟨#[]⟩, .bool false]) (by simp [results, Tryz.results89, go_sem]) rfl ?_
    exact ⟨⟨(⟨#[]⟩, false), rfl⟩, Keeps.refl _ _⟩
  · obtain ⟨n, rfl⟩ := Int.eq_ofNat_of_zero_le (by omega : 0 ≤ i)
    have hn2 : n < s.length := by omega
    have hx := HX.out n
    go_wp2_with (go_at_call 154; refine (HI.out).mono ?_; rintro e w' ⟨rfl, rfl⟩)
    go_quiet (fail)
    go_wp2
    refine bodyPost_ret (v := .tuple #[.string (mkS (s.take n)), .string (t.extract (n + 1) s.length), .bool true]) (by simp [results, Tryz.results89, go_sem]) rfl ?_
    exact ⟨⟨(t.extract (n + 1) s.length, true), rfl⟩, (Keeps.refl _ _).drewN _⟩
theorem sCut_any (s : Bs) (c : UInt8) (hl : s.length ≤ 9223372036854775807) (w : World) :
    Calls Tryz.prog 53 #[.string (mkS s), .string (mkS [c])] w fun e w' => CutE (mkS (if Lib.indexByte s c < 0 then s else s.take (Lib.indexByte s c).toNat)) e ∧ KeepsAll w w' := by
  have HI := slCut_any s c hl
  generalize mkS (if Lib.indexByte s c < 0 then s else s.take (Lib.indexByte s c).toNat) = u at *
  generalize mkS s = t at *
  generalize mkS [c] = x at *
  go_enter Tryz.func53, Tryz.ntmps53
  go_wp2_with (go_at_call 89; refine (HI _).mono ?_; rintro e w' ⟨⟨⟨r, f⟩, rfl⟩, hk⟩)
  refine bodyPost_ret (v := .tuple #[.string u, .string r, .bool f]) (by simp [results, Tryz.results53, go_sem]) rfl ?_
  exact ⟨⟨(r, f), rfl⟩, hk⟩
/-- the line without its remark -/
theorem cutRem_any (s : Bs) (hl : s.length ≤ 9223372036854775807) (w : World) :
    Calls Tryz.prog 53 #[.string (mkS s), .string (mkS [35])] w fun e w' => CutE (mkS (cutB s)) e ∧ KeepsAll w w' := by
  have := sCut_any s 35 hl w
  rw [← cut_idx] at this
  exact this
end

section
open Go.RowKit

/-- a word of line k in memory -/
def RWd (k : Int) : Rd Wd := fun _ _ cs x => cs = [.string (mkS x.1), .int .i64 k, .int .i64 x.2]
theorem RWd.ok {k : Int} : Rd.Ok (RWd k) := ⟨fun h _ _ => h⟩
theorem RWd.flt {k : Int} : Rd.Flt (RWd k) := fun _ _ _ _ _ _ h => h
abbrev RWds (k : Int) := RSlice 3 (RWd k)
theorem tyWd : ElemTy Tryz.prog 42 46 3 32 := ElemTy.mk' (z := .agg #[.string ⟨#[]⟩, .int .i64 0, .int .i64 0]) Tryz.underlying42 (by kernel_rfl) rfl (by decide)
def clsB (c : UInt8) : Int := if isBl c = true then 1 else if c = 10 then 2 else if c = 35 then 3 else if isP c = true then 4 else 0
theorem u8_int (a b : UInt8) : (a = b) = ((a.toNat : Int) = (b.toNat : Int)) := propext ⟨fun h => by rw [h], fun h => UInt8.toNat_inj.1 (by exact_mod_cast h)⟩
theorem class_any (c : UInt8) (w : World) : Calls Tryz.prog 54 #[.int .u8 c.toNat] w fun e w' => e = .returned (.int .i64 (clsB c)) ∧ w = w' := by
  have h9 := u8_int c 9
  have h32 := u8_int c 32
  have h10 := u8_int c 10
  have h35 := u8_int c 35
  have e1 : (9 : UInt8).toNat = 9 := rfl
  have e2 : (32 : UInt8).toNat = 32 := rfl
  have e3 : (10 : UInt8).toNat = 10 := rfl
  have e4 : (35 : UInt8).toNat = 35 := rfl
  rw [e1] at h9
  rw [e2] at h32
  rw [e3] at h10
  rw [e4] at h35
  clear e1 e2 e3 e4
  have HC : Hid (clsB c = if (c.toNat : Int) = 32 ∨ (c.toNat : Int) = 9 then 1 else if (c.toNat : Int) = 10 then 2 else if (c.toNat : Int) = 35 then 3 else if 33 ≤ (c.toNat : Int) ∧ (c.toNat : Int) ≤ 126 then 4 else 0) := by
    show _ = _
    unfold clsB isBl isP
    simp only [Bool.or_eq_true, beq_iff_eq, Bool.and_eq_true, decide_eq_true_eq, UInt8.le_iff_toNat_le, h9, h32, h10, h35]
    have e1 : (33 : UInt8).toNat = 33 := rfl
    have e2 : (126 : UInt8).toNat = 126 := rfl
    rw [e1, e2]
    norm_cast
  clear h9 h32 h10 h35
  have hr : 0 ≤ (c.toNat : Int) := by omega
  rw [HC.out]
  clear HC
  generalize (c.toNat : Int) = x at *
  go_enter Tryz.func54, Tryz.ntmps54
  go_wp2
  all_goals (go_ret; refine ⟨congrArg (fun b => Ending.returned (Value.int .i64 b)) ?_, rfl⟩; simp_all)
set_option maxRecDepth 100000 in
theorem appN_any (v x : Value) (k e : Int) (w : World) : Calls Tryz.prog 55 #[v, x, .int .i64 (-1), .int .i64 e, .int .i64 k] w fun r w' => r = .returned v ∧ w' = w := by
  go_enter Tryz.func55, Tryz.ntmps55
  go_wp2
  go_ret
  exact ⟨rfl, rfl⟩
set_option maxHeartbeats 1000000 in
set_option maxRecDepth 100000 in
theorem appW_any (k : Int) (t : Bs) (a : List Wd) (v : Value) (s e : Nat) (hs : s ≤ e) (he : e ≤ t.length) (htl : t.length ≤ 70000) (w : World) (base lo : Nat) (ho : OwnL 46 3 (RWd k) w base lo v a) (hb : base ≤ w.heap.size) (hal : a.length ≤ 70000) :
    Calls Tryz.prog 55 #[v, .string (mkS t), .int .i64 (s : Int), .int .i64 (e : Int), .int .i64 k] w fun r w' => ∃ v', r = .returned v' ∧ OwnL 46 3 (RWd k) w' base lo v' (a ++ [((t.take e).drop s, (s : Int) + 1)]) ∧ Keeps (fun b => v.ownBlock = some b) w w' ∧ (v'.ownBlock = v.ownBlock ∨ v'.ownBlock = some (w.heap.size + 1)) := by
  have hts : (mkS t).size = t.length := mkS_size t
  have hx : (mkS t).extract s e = mkS ((t.take e).drop s) := mkS_ext t s e
  obtain ⟨A, c, rfl, hc1, hc2⟩ := ho.form
  have HO := Lib.hid ho
  clear ho
  generalize hy : (t.take e).drop s = y at *
  generalize mkS t = tb at *
  go_enter Tryz.func55, Tryz.ntmps55
  go_wp2_with (at_builtin; go_loud (have KB : KeepsAll w (w.alloc (.cells #[.string (mkS y), .int .i64 k, .int .i64 ((s : Int) + 1)] 46)) := (Keeps.refl _ _).alloc _; refine wpList_append_L tyWd RWd.ok rfl (.tmp 14) (.tmp 23) rfl (HO.out.keepsT RWd.flt KB (by simp)) rfl _ [.string (mkS y), .int .i64 k, .int .i64 ((s : Int) + 1)] rfl (Blk.new w 46 #[.string (mkS y), .int .i64 k, .int .i64 ((s : Int) + 1)]) rfl ((y, (s : Int) + 1) : Wd) (S := fun _ => False) rfl (fun _ h => h.elim) (by simp [Value.oneCell']) (by omega) (by omega) (by simp; omega) ?_; intro v8 w8 HO8 HK8 HA8))
  go_ret
  refine ⟨v8, rfl, HO8, ((Keeps.refl _ w).alloc _).trans HK8 (fun _ _ h => h), ?_⟩
  rcases HA8 with h8 | h8
  · exact .inl h8
  · exact .inr (by rw [h8]; simp)
def SplitE (k : Int) (w w' : World) (e : Ending) : Option (List Wd) → Prop
  | none => e = .returned (.tuple #[.slice none 0 0, .bool false])
  | some ws => ∃ A c, e = .returned (.tuple #[.slice A ws.length c, .bool true]) ∧ RWds k w' (Fresh w w') [.slice A ws.length c] ws
set_option maxHeartbeats 4000000 in
set_option maxRecDepth 100000 in
theorem split_any (s : Bs) (hl : s.length ≤ 65536) (k : Int) (w : World) : Calls Tryz.prog 31 #[.string (mkS s), .int .i64 k] w fun e w' => SplitE k w w' e (wordsL s) ∧ KeepsAll w w' := by
  rw [← words_cut]
  have HCUT := Lib.hid (cutRem_any s (by omega) w)
  have hcl := cut_len s
  have hno := Lib.hid (cut_no s)
  generalize cutB s = t at *
  have htl : t.length ≤ 65536 := by omega
  generalize mkS s = sb at *
  have hts : (mkS t).size = t.length := mkS_size t
  have key : ∀ (i : Nat) (h : i < (mkS t).size), t[i]? = some ((mkS t)[i]) := fun i h => by
    have hi : i < t.length := by rw [← hts]; exact h
    rw [mkS_at t i t[i] (List.getElem?_eq_getElem hi) h, List.getElem?_eq_getElem hi]
  have KEY := Lib.hid key
  clear key
  have HAPG := Lib.hid (fun (a : List Wd) (v : Value) (q e : Nat) h1 h2 (wr : World) h3 h4 h5 => appW_any k t a v q e h1 h2 (by omega) wr w.heap.size w.heap.size h3 h4 h5)
  generalize mkS t = tb at *
  go_enter Tryz.func31, Tryz.ntmps31
  go_wp2_with (go_at_call 53; refine (HCUT.out).mono ?_; rintro e w1 ⟨⟨⟨r, f⟩, rfl⟩, hk1⟩)
  have HK1 := Lib.hid hk1
  clear hk1 HCUT
  go_loopw [4, 5, 6, 7, 17] (fun v4 v5 v6 v7 i wr => ∃ (n : Nat) (a : List Wd) (c : Bs), n ≤ t.length ∧ i = .int .i64 (n : Int) ∧ v4 = .slice none 0 0 ∧ v5 = .bool false ∧ OwnL 46 3 (RWd k) wr w.heap.size w.heap.size v6 a ∧ KeepsAll w wr ∧ scanW (t.drop n) a c n = wordsL t ∧ ((c = [] ∧ v7 = .int .i64 (-1)) ∨ (c ≠ [] ∧ ∃ q : Nat, q + c.length = n ∧ v7 = .int .i64 (q : Int) ∧ c = (t.take n).drop q)) ∧ a.length ≤ n) (fun _ _ _ _ i _ => t.length - (intOf i).toNat)
  case atStart => exact ⟨0, [], [], Nat.zero_le _, rfl, rfl, rfl, OwnL.nil, HK1.out, rfl, .inl ⟨rfl, rfl⟩, Nat.le_refl _⟩
  case round =>
    obtain ⟨n, a, c, hn, rfl, rfl, rfl, ho, hk, hsc, hst, ha⟩ := hrel
    obtain ⟨A, cp, rfl, hcp1, hcp2⟩ := ho.form
    have HO := Lib.hid ho
    have HK := Lib.hid hk
    have HSC := Lib.hid hsc
    have hsz := hk.size
    clear ho hk hsc
    by_cases hlt : n < t.length
    · obtain ⟨x, hx⟩ : ∃ x, t[n]? = some x := ⟨t[n], List.getElem?_eq_getElem hlt⟩
      have hxe : ∀ h : n < tb.size, tb[n] = x := fun h => by have := KEY.out n h; rw [hx] at this; exact (Option.some.inj this).symm
      have hdr : t.drop n = x :: t.drop (n + 1) := by
        rw [List.drop_eq_getElem_cons hlt]
        congr 1
        rw [List.getElem?_eq_getElem hlt] at hx
        exact Option.some.inj hx
      have hx35 : x ≠ 35 := hno.out x (List.mem_of_getElem? hx)
      have hsc := HSC.out
      rw [hdr, scanW, if_neg hx35] at hsc
      have htk : t.take (n + 1) = t.take n ++ [x] := by rw [List.take_add_one, hx, Option.toList_some]
      have HTK := Lib.hid htk
      clear htk hdr HSC
      by_cases hbl : isBl x = true
      · have hc1 : clsB x = 1 := by unfold clsB; rw [if_pos hbl]
        rw [if_pos hbl] at hsc
        have HSC := Lib.hid hsc
        have HCL : Hid (∀ h : n < tb.size, Calls Tryz.prog 54 #[.int .u8 ((tb[n]).toNat : Int)] wr fun e w' => e = .returned (.int .i64 1) ∧ w' = wr) := fun h => by
          have := class_any x wr
          rw [hc1] at this
          rw [hxe h]
          exact this.mono fun e w' ⟨h1, h2⟩ => ⟨h1, h2.symm⟩
        clear hsc hc1 hbl hxe hx hx35
        rcases hst with ⟨rfl, rfl⟩ | ⟨hcn, q, hq, rfl, hcq⟩
        · have HF : Hid (flushW a [] n = a) := rfl
          go_wp2_with (first | (go_at_call 54; refine (HCL.out _).mono ?_; rintro e w' ⟨rfl, rfl⟩) | (go_at_call 55; refine (appN_any _ _ _ _ _).mono ?_; rintro e w' ⟨rfl, rfl⟩))
          go_roundw
          case rel => exact ⟨n + 1, a, [], by omega, by go_num, rfl, rfl, HO.out, HK.out, by rw [← HF.out]; exact HSC.out, .inl ⟨rfl, rfl⟩, by omega⟩
          case measure => simp [intOf]; omega
        · have HF : Hid (flushW a c n = a ++ [(c, (q : Int) + 1)]) := by
            show _ = _
            unfold flushW
            rw [if_neg hcn]
            have : (n : Int) - c.length + 1 = (q : Int) + 1 := by omega
            rw [this]
          have HAP := Lib.hid (HAPG.out a (.slice A a.length cp) q n (by omega) (by omega) wr HO.out hsz (by omega))
          rw [← hcq] at HAP
          go_wp2_with (first | (go_at_call 54; refine (HCL.out _).mono ?_; rintro e w' ⟨rfl, rfl⟩) | (go_at_call 55; refine (HAP.out).mono ?_; rintro e w2 ⟨v2, rfl, HO2, HK2, HA2⟩))
          go_roundw
          case rel => exact ⟨n + 1, flushW a c n, [], by omega, by go_num, rfl, rfl, by rw [HF.out]; exact HO2, HK.out.trans HK2 (fun y hy e => by have := (HO.out.lt e).1; omega), HSC.out, .inl ⟨rfl, rfl⟩, by rw [HF.out]; simp; omega⟩
          case measure => simp [intOf]; omega
      · rw [if_neg hbl] at hsc
        by_cases hp : isP x = true
        · have hc1 : clsB x = 4 := by
            unfold clsB
            rw [if_neg hbl, if_neg (by rintro rfl; cases hp), if_neg hx35, if_pos hp]
          rw [if_pos hp] at hsc
          have HSC := Lib.hid hsc
          have HCL : Hid (∀ h : n < tb.size, Calls Tryz.prog 54 #[.int .u8 ((tb[n]).toNat : Int)] wr fun e w' => e = .returned (.int .i64 4) ∧ w' = wr) := fun h => by
            have := class_any x wr
            rw [hc1] at this
            rw [hxe h]
            exact this.mono fun e w' ⟨h1, h2⟩ => ⟨h1, h2.symm⟩
          clear hsc hc1 hbl hxe hx hx35 hp
          have hlt2 : (t.take n).length = n := by simp; omega
          rcases hst with ⟨rfl, rfl⟩ | ⟨hcn, q, hq, rfl, hcq⟩
          · go_wp2_with (go_at_call 54; refine (HCL.out _).mono ?_; rintro e w' ⟨rfl, rfl⟩)
            go_roundw
            case rel => exact ⟨n + 1, a, [x], by omega, by go_num, rfl, rfl, HO.out, HK.out, HSC.out, .inr ⟨by simp, n, rfl, rfl, by rw [HTK.out, List.drop_append_of_le_length (by omega), List.drop_eq_nil_of_le (by omega), List.nil_append]⟩, by omega⟩
            case measure => simp [intOf]; omega
          · go_wp2_with (go_at_call 54; refine (HCL.out _).mono ?_; rintro e w' ⟨rfl, rfl⟩)
            go_roundw
            case rel => exact ⟨n + 1, a, c ++ [x], by omega, by go_num, rfl, rfl, HO.out, HK.out, HSC.out, .inr ⟨by simp, q, by simp; omega, rfl, by rw [HTK.out, List.drop_append_of_le_length (by omega), ← hcq]⟩, by omega⟩
            case measure => simp [intOf]; omega
        · rw [if_neg hp] at hsc
          have HN : Hid (wordsL t = none) := hsc.symm
          obtain ⟨z, hz1, hz2, hz⟩ : ∃ z : Int, decide (z = 4) = false ∧ decide (z = 1) = false ∧ clsB x = z := by
            unfold clsB
            rw [if_neg hbl, if_neg hx35, if_neg hp]
            by_cases h10 : x = 10
            · exact ⟨2, by decide, by decide, by rw [if_pos h10]⟩
            · exact ⟨0, by decide, by decide, by rw [if_neg h10]⟩
          have HCL : Hid (∀ h : n < tb.size, Calls Tryz.prog 54 #[.int .u8 ((tb[n]).toNat : Int)] wr fun e w' => e = .returned (.int .i64 z) ∧ w' = wr) := fun h => by
            have := class_any x wr
            rw [hz] at this
            rw [hxe h]
            exact this.mono fun e w' ⟨h1, h2⟩ => ⟨h1, h2.symm⟩
          have hz3 : ¬ z = 4 := by simpa using hz1
          have hz4 : ¬ z = 1 := by simpa using hz2
          have hz5 : (z == 4) = false := by simpa using hz1
          have hz6 : (z == 1) = false := by simpa using hz2
          clear hsc hbl hxe hx hx35 hp hz1 hz2 hz hst
          go_wp2_with (go_at_call 54; refine (HCL.out _).mono ?_; rintro e w' ⟨rfl, rfl⟩)
          refine bodyPost_ret (v := .tuple #[.slice none 0 0, .bool false]) (by simp [results, Tryz.results31, go_sem]) rfl ?_
          exact ⟨by rw [HN.out]; rfl, HK.out⟩
    · obtain rfl : n = t.length := by omega
      have hsc := HSC.out
      rw [List.drop_length, scanW] at hsc
      rcases hst with ⟨rfl, rfl⟩ | ⟨hcn, q, hq, rfl, hcq⟩
      · have HW : Hid (wordsL t = some a) := hsc.symm
        clear hsc
        go_wp2_with (go_at_call 55; refine (appN_any _ _ _ _ _).mono ?_; rintro e w' ⟨rfl, rfl⟩)
        refine bodyPost_ret (v := .tuple #[.slice A a.length cp, .bool true]) (by simp [results, Tryz.results31, go_sem]) rfl ?_
        exact ⟨by rw [HW.out]; exact ⟨A, cp, rfl, HO.out.readT RWd.flt (fun b hb => HO.out.lt hb)⟩, HK.out⟩
      · have HF : Hid (wordsL t = some (a ++ [(c, (q : Int) + 1)])) := by
          show _ = _
          rw [← hsc]
          unfold flushW
          rw [if_neg hcn]
          have : (t.length : Int) - c.length + 1 = (q : Int) + 1 := by omega
          rw [this]
        have HAP := Lib.hid (HAPG.out a (.slice A a.length cp) q t.length (by omega) (by omega) wr HO.out hsz (by omega))
        rw [← hcq] at HAP
        clear hsc
        go_wp2_with (go_at_call 55; refine (HAP.out).mono ?_; rintro e w2 ⟨v2, rfl, HO2, HK2, HA2⟩)
        obtain ⟨A2, cp2, rfl, hcp3, hcp4⟩ := HO2.form
        refine bodyPost_ret (v := .tuple #[.slice A2 (a ++ [(c, (q : Int) + 1)]).length cp2, .bool true]) (by simp [results, Tryz.results31, go_sem]) rfl ?_
        exact ⟨by rw [HF.out]; exact ⟨A2, cp2, rfl, HO2.readT RWd.flt (fun b hb => HO2.lt hb)⟩, HK.out.trans HK2 (fun y hy e => by have := (HO.out.lt e).1; omega)⟩
end
end Go.Proofs.YtnglahcjemgcaaaGreatDoor
