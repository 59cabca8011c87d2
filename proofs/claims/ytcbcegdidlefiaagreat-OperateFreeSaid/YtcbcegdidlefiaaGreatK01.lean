/- Words for memory that all walks of this claim share: reading relations for slices, structs and nested lists, with the set of blocks that they rest on. No condition. Contracts of the small helpers: range tests, Pick, the source of choices. Conditions: as each theorem says. Contracts of precedence.isStage and Valid and of the reference's validStage and Valid, and that the two agree. Conditions: as each theorem says. Contracts of precedence.Valid and the reference's Valid. Conditions: as each theorem says. -/
import Derived.WalkKit
import Derived.WalkSpells
import Derived.WalkLawsBesides
import Derived.Lib.Hide
import Derived.Outline
import Derived.Deep.QuietTactic
import Derived.BigQuiet
import Derived.Test.YtcbcegdidlefiaaGreatProg
import Derived.Deep.RegionWith
namespace Go.Proofs.YtcbcegdidlefiaaGreat
open Go.RowKit

abbrev Foot := Nat → Prop
abbrev Rd (α : Type) := World → Foot → List Value → α → Prop

/-- a reading rests on the blocks of its footprint alone -/
structure Rd.Ok {α : Type} (E : Rd α) : Prop where
  mono : ∀ {w w' : World} {S S' : Foot} {cs : List Value} {x : α}, E w S cs x → (∀ b, S b → S' b) → (∀ b, S b → w'.heap[b]? = w.heap[b]?) → E w' S' cs x

def RInt : Rd Int := fun _ _ cs x => cs = [.int .i64 x]
def RBool : Rd Bool := fun _ _ cs x => cs = [.bool x]
theorem RInt.ok : Rd.Ok RInt := ⟨fun h _ _ => h⟩
theorem RBool.ok : Rd.Ok RBool := ⟨fun h _ _ => h⟩

/-- a slice of elements of 'size' cells, each read by E -/
def RSlice {α : Type} (size : Nat) (E : Rd α) : Rd (List α) := fun w S cs l =>
  ∃ A c, cs = [.slice A l.length c] ∧ l.length ≤ c ∧ c ≤ 9223372036854775807 ∧
    (l ≠ [] → ∃ b o, A = some ⟨b, o, none⟩ ∧ S b ∧ ∀ j x, l[j]? = some x →
      ∃ es, es.length = size ∧ E w S es x ∧ ∀ i u, es[i]? = some u → w.cell? ⟨b, o + (j * size + i), none⟩ = some u)

theorem RSlice.ok {α : Type} {size : Nat} {E : Rd α} (hE : Rd.Ok E) : Rd.Ok (RSlice size E) := by
  refine ⟨?_⟩
  intro w w' S S' cs l h hS hw
  obtain ⟨A, c, rfl, h1, h2, h3⟩ := h
  refine ⟨A, c, rfl, h1, h2, fun hl => ?_⟩
  obtain ⟨b, o, rfl, hb, hj⟩ := h3 hl
  refine ⟨b, o, rfl, hS b hb, fun j x hx => ?_⟩
  obtain ⟨es, e1, e2, e3⟩ := hj j x hx
  exact ⟨es, e1, hE.mono e2 hS hw, fun i u hu => (World.cell?_of_block (hw b hb)).trans (e3 i u hu)⟩

section
variable {α : Type} {size : Nat} {E : Rd α} {w : World} {S : Foot} {A : Option Addr} {n c : Nat} {l : List α}
theorem RSlice.len (h : RSlice size E w S [.slice A n c] l) : n = l.length := by
  obtain ⟨A', c', he, _⟩ := h; injection he with he _; injection he
theorem RSlice.caps (h : RSlice size E w S [.slice A n c] l) : l.length ≤ c ∧ c ≤ 9223372036854775807 := by
  obtain ⟨A', c', he, h1, h2, _⟩ := h; injection he with he _; injection he with _ _ he; subst he; exact ⟨h1, h2⟩
theorem RSlice.get (h : RSlice size E w S [.slice A n c] l) {k : Nat} (hk : k < l.length) :
    ∃ b o x es, A = some ⟨b, o, none⟩ ∧ S b ∧ l[k]? = some x ∧ es.length = size ∧ E w S es x ∧ ∀ i u, es[i]? = some u → w.cell? ⟨b, o + (k * size + i), none⟩ = some u := by
  obtain ⟨A', c', he, h1, h2, h3⟩ := h
  injection he with he _; injection he with ha hn hc; subst ha
  obtain ⟨b, o, rfl, hb, hj⟩ := h3 (by intro e; subst e; simp at hk)
  obtain ⟨es, e1, e2, e3⟩ := hj k l[k] (List.getElem?_eq_getElem hk)
  exact ⟨b, o, l[k], es, rfl, hb, List.getElem?_eq_getElem hk, e1, e2, e3⟩
theorem RSlice.nil (h : RSlice size E w S [.slice A n c] l) (hn : n = 0) : l = [] := by
  have := h.len; subst hn; exact List.eq_nil_of_length_eq_zero this.symm
theorem RSlice.mkNil : RSlice size E w S [.slice none 0 0] [] := ⟨none, 0, rfl, Nat.le_refl _, by omega, fun h => absurd rfl h⟩
end

abbrev RInts := RSlice 1 RInt
abbrev RIntss := RSlice 1 RInts
theorem RInts.ok : Rd.Ok RInts := RSlice.ok RInt.ok
theorem RIntss.ok : Rd.Ok RIntss := RSlice.ok RInts.ok

theorem RInts.at_ {w : World} {S : Foot} {A : Option Addr} {n c : Nat} {l : List Int} (h : RInts w S [.slice A n c] l) {k : Nat} (hk : k < l.length) :
    ∃ b o x, A = some ⟨b, o, none⟩ ∧ S b ∧ l[k]? = some x ∧ w.cell? ⟨b, o + k, none⟩ = some (.int .i64 x) := by
  obtain ⟨b, o, x, es, rfl, hb, hx, h1, h2, h3⟩ := h.get hk
  refine ⟨b, o, x, rfl, hb, hx, ?_⟩
  cases h2
  simpa using h3 0 _ rfl

theorem RSS.at_ {α : Type} {size : Nat} {E : Rd α} {w : World} {S : Foot} {A : Option Addr} {n c : Nat} {l : List (List α)} (h : RSlice 1 (RSlice size E) w S [.slice A n c] l) {k : Nat} (hk : k < l.length) :
    ∃ b o x A' c', A = some ⟨b, o, none⟩ ∧ S b ∧ l[k]? = some x ∧ w.cell? ⟨b, o + k, none⟩ = some (.slice A' x.length c') ∧ RSlice size E w S [.slice A' x.length c'] x := by
  obtain ⟨b, o, x, es, rfl, hb, hx, h1, h2, h3⟩ := h.get hk
  have h2' := h2
  obtain ⟨A', c', rfl, _⟩ := h2
  exact ⟨b, o, x, A', c', rfl, hb, hx, by simpa using h3 0 _ rfl, h2'⟩

/-- api.Stage -/
structure Stage where
  sec : Int
  pts : List Int
  mn : Int
  nt : Int
  deriving DecidableEq, Inhabited, Repr
def RStage : Rd Stage := fun w S cs s => ∃ v, cs = [.int .i64 s.sec, v, .int .i64 s.mn, .int .i64 s.nt] ∧ RInts w S [v] s.pts
theorem RStage.ok : Rd.Ok RStage := by
  refine ⟨?_⟩
  intro w w' S S' cs x h hS hw
  obtain ⟨v, rfl, hv⟩ := h
  exact ⟨v, rfl, RInts.ok.mono hv hS hw⟩
abbrev RPath := RSlice 4 RStage
abbrev RPaths := RSlice 1 RPath
theorem RPath.ok : Rd.Ok RPath := RSlice.ok RStage.ok
theorem RPaths.ok : Rd.Ok RPaths := RSlice.ok RPath.ok
theorem RPath.at_ {w : World} {S : Foot} {A : Option Addr} {n c : Nat} {l : List Stage} (h : RPath w S [.slice A n c] l) {k : Nat} (hk : k < l.length) :
    ∃ b o s A' c', A = some ⟨b, o, none⟩ ∧ S b ∧ l[k]? = some s ∧ w.cell? ⟨b, o + k * 4, none⟩ = some (.int .i64 s.sec) ∧ w.cell? ⟨b, o + k * 4 + 1, none⟩ = some (.slice A' s.pts.length c') ∧
      w.cell? ⟨b, o + k * 4 + 2, none⟩ = some (.int .i64 s.mn) ∧ w.cell? ⟨b, o + k * 4 + 3, none⟩ = some (.int .i64 s.nt) ∧ RInts w S [.slice A' s.pts.length c'] s.pts := by
  obtain ⟨b, o, s, es, rfl, hb, hx, h1, ⟨v, rfl, hv⟩, h3⟩ := h.get hk
  have hv' := hv
  obtain ⟨A', c', he, _⟩ := hv'
  injection he with he _; subst he
  exact ⟨b, o, s, A', c', rfl, hb, hx, by simpa using h3 0 _ rfl, by simpa [Nat.add_assoc] using h3 1 _ rfl, by simpa [Nat.add_assoc] using h3 2 _ rfl, by simpa [Nat.add_assoc] using h3 3 _ rfl, hv⟩

/-- api.Ref and api.Order -/
structure Ref where
  tr : Int
  st : Int
  deriving DecidableEq, Inhabited, Repr
structure Order where
  res : Int
  uses : List Ref
  deriving DecidableEq, Inhabited, Repr
def RRef : Rd Ref := fun _ _ cs r => cs = [.int .i64 r.tr, .int .i64 r.st]
theorem RRef.ok : Rd.Ok RRef := ⟨fun h _ _ => h⟩
abbrev RRefs := RSlice 2 RRef
theorem RRefs.ok : Rd.Ok RRefs := RSlice.ok RRef.ok
def ROrder : Rd Order := fun w S cs r => ∃ v, cs = [.int .i64 r.res, v] ∧ RRefs w S [v] r.uses
theorem ROrder.ok : Rd.Ok ROrder := by
  refine ⟨?_⟩
  intro w w' S S' cs x h hS hw
  obtain ⟨v, rfl, hv⟩ := h
  exact ⟨v, rfl, RRefs.ok.mono hv hS hw⟩
abbrev ROrders := RSlice 2 ROrder
theorem ROrders.ok : Rd.Ok ROrders := RSlice.ok ROrder.ok

/-- below the heap's size; new since w -/
def Old (w : World) : Foot := fun b => b < w.heap.size

/-- w' is w with new blocks, and of the old blocks only those of C may have turned -/
structure Keeps (C : Foot) (w w' : World) : Prop where
  os : w'.os = w.os
  tape : w'.tape = w.tape
  output : w'.output = w.output
  size : w.heap.size ≤ w'.heap.size
  block : ∀ k, k < w.heap.size → ¬ C k → w'.heap[k]? = w.heap[k]?

theorem Keeps.refl (C : Foot) (w : World) : Keeps C w w := ⟨rfl, rfl, rfl, Nat.le_refl _, fun _ _ _ => rfl⟩
theorem Keeps.trans {C C1 : Foot} {a b c : World} (h : Keeps C a b) (k : Keeps C1 b c) (hc : ∀ x, x < a.heap.size → C1 x → C x) : Keeps C a c :=
  ⟨k.os.trans h.os, k.tape.trans h.tape, k.output.trans h.output, Nat.le_trans h.size k.size,
    fun x hx hn => (k.block x (Nat.lt_of_lt_of_le hx h.size) (fun e => hn (hc x hx e))).trans (h.block x hx hn)⟩
theorem Keeps.mono {C C1 : Foot} {a b : World} (h : Keeps C1 a b) (hc : ∀ x, x < a.heap.size → C1 x → C x) : Keeps C a b :=
  (Keeps.refl C a).trans h hc
theorem Keeps.drew {C : Foot} {a b : World} (h : Keeps C a b) : Keeps C a b.drew := ⟨h.os, h.tape, h.output, h.size, h.block⟩
theorem Keeps.drewN {C : Foot} {a b : World} (h : Keeps C a b) (n : Nat) : Keeps C a (b.drewN n) := ⟨h.os, h.tape, h.output, h.size, h.block⟩
theorem Keeps.alloc {C : Foot} {a b : World} (h : Keeps C a b) (o : Obj) : Keeps C a (b.alloc o) :=
  ⟨h.os, h.tape, h.output, Nat.le_trans h.size (by simp), fun i hi hn => (Below.heap_alloc b o i (Nat.lt_of_lt_of_le hi h.size)).trans (h.block i hi hn)⟩
theorem Keeps.setCell {C : Foot} {a b : World} (h : Keeps C a b) {p : Addr} (hp : p.block < a.heap.size → C p.block) (u : Value) : Keeps C a (b.setCell p u) :=
  ⟨h.os, h.tape, h.output, by simpa [World.setCell] using h.size, fun i hi hn => (Below.heap_setCell b p u i (by rintro rfl; exact hn (hp hi))).trans (h.block i hi hn)⟩
theorem Keeps.grown {C : Foot} {a b c : World} {row : Option Nat} (h : Keeps C a b) (k : b.grownBy c row) (hr : ∀ g, row = some g → g < a.heap.size → C g) : Keeps C a c :=
  h.trans (C1 := fun x => row = some x) ⟨k.os, k.tape, k.output, k.size, fun x hx hn => k.block x hx (fun e => hn e.symm)⟩ (fun x hx e => hr x e hx)
theorem Keeps.below {C : Foot} {B : Nat} {a b c : World} (h : Keeps C a b) (k : Below B b c) (hr : a.heap.size ≤ B) : Keeps C a c :=
  h.trans (C1 := fun x => B ≤ x) ⟨k.os, k.tape, k.output, k.size, fun x _ hn => k.block x (Nat.lt_of_not_le hn)⟩ (fun x hx e => absurd hr (by omega))
theorem Keeps.toBelow {C : Foot} {B : Nat} {a b : World} (h : Keeps C a b) (hB : B ≤ a.heap.size) (hc : ∀ x, x < B → ¬ C x) : Below B a b :=
  ⟨h.os, h.tape, h.output, h.size, fun x hx => h.block x (Nat.lt_of_lt_of_le hx hB) (hc x hx)⟩
theorem Keeps.cell {C : Foot} {a b : World} (h : Keeps C a b) {p : Addr} (hp : p.block < a.heap.size) (hn : ¬ C p.block) : b.cell? p = a.cell? p := World.cell?_of_block (h.block _ hp hn)
abbrev KeepsAll := Keeps (fun _ => False)
theorem Keeps.rd {α : Type} {E : Rd α} (hE : Rd.Ok E) {C : Foot} {a b : World} (h : Keeps C a b) {S S' : Foot} {cs : List Value} {x : α} (hr : E a S cs x) (hS : ∀ k, S k → k < a.heap.size ∧ ¬ C k) (hS' : ∀ k, S k → S' k) : E b S' cs x :=
  hE.mono hr hS' fun k hk => h.block k (hS k hk).1 (hS k hk).2

/-- the worlds that keep all that w holds, as a type: the class of a region that only reads and whose callees only make memory -/
structure Ext (w : World) where
  val : World
  keeps : KeepsAll w val
instance Ext.some_ (w : World) : Nonempty (Ext w) := ⟨⟨w, Keeps.refl _ w⟩⟩
theorem Ext.cell {w : World} {p : Addr} {v : Value} (h : w.cell? p = some v) (x : Ext w) : x.val.cell? p = some v := (x.keeps.cell (World.block_lt_of_cell? w p h) (by simp)).trans h
/-- the same, but for the blocks of C -/
structure ExtC (C : Foot) (w : World) where
  val : World
  keeps : Keeps C w val
instance ExtC.some_ (C : Foot) (w : World) : Nonempty (ExtC C w) := ⟨⟨w, Keeps.refl _ w⟩⟩
theorem ExtC.cell {C : Foot} {w : World} {p : Addr} {v : Value} (h : w.cell? p = some v) (hn : ¬ C p.block) (x : ExtC C w) : x.val.cell? p = some v := (x.keeps.cell (World.block_lt_of_cell? w p h) hn).trans h
theorem ExtC.start (C : Foot) (w : World) : ∃ x : ExtC C w, w.drew = x.val := ⟨⟨_, (Keeps.refl _ w).drew⟩, rfl⟩
theorem Ext.rd {α : Type} {E : Rd α} (hE : Rd.Ok E) {w : World} {S : Foot} {cs : List Value} {l : α} (h : E w S cs l) (x : Ext w) (hS : ∀ b, S b → b < w.heap.size) : E x.val S cs l :=
  x.keeps.rd hE h (fun k hk => ⟨hS k hk, by simp⟩) (fun _ h => h)
theorem Ext.old {w : World} {S : Foot} (x : Ext w) (hS : ∀ b, S b → b < w.heap.size) : ∀ b, S b → b < x.val.heap.size := fun b hb => Nat.lt_of_lt_of_le (hS b hb) x.keeps.size

/-- block g is just the cells cs, of element type t, none frozen -/
def Blk (w : World) (g : Nat) (t : TypeId) (cs : Array Value) : Prop := w.heap[g]? = some (.cells cs t (0, 0))
section
variable {w w' : World} {g : Nat} {t : TypeId} {cs : Array Value}
theorem Blk.lt (h : Blk w g t cs) : g < w.heap.size := by
  unfold Blk at h
  exact (Array.getElem?_eq_some_iff.1 h).1
theorem Blk.cell (h : Blk w g t cs) (i : Nat) : w.cell? ⟨g, i, none⟩ = cs[i]? := by
  unfold Blk at h
  simp [World.cell?, h]
theorem Blk.frozen (h : Blk w g t cs) (i : Nat) : w.frozen? ⟨g, i, none⟩ = false := by
  unfold Blk at h
  simp [World.frozen?, h]
theorem Blk.set_ (h : Blk w g t cs) (i : Nat) (u : Value) : Blk (w.setCell ⟨g, i, none⟩ u) g t (cs.setIfInBounds i u) := by
  unfold Blk at h ⊢
  simp [World.setCell, Array.getElem?_modify, h]
theorem Blk.far (h : Blk w g t cs) {p : Addr} (hp : g ≠ p.block) (u : Value) : Blk (w.setCell p u) g t cs := (Below.heap_setCell w p u g hp).trans h
theorem Blk.new (w : World) (t : TypeId) (cs : Array Value) : Blk (w.alloc (.cells cs t)) w.heap.size t cs := heap_alloc_new w _
theorem Blk.new' (w : World) (t : TypeId) (cs : Array Value) {g : Nat} (hg : g = w.heap.size) : Blk (w.alloc (.cells cs t)) g t cs := by subst hg; exact Blk.new w t cs
theorem Blk.alloc (h : Blk w g t cs) (o : Obj) : Blk (w.alloc o) g t cs := (Below.heap_alloc w o g h.lt).trans h
theorem Blk.kept {C : Foot} (h : Blk w g t cs) (k : Keeps C w w') (hn : ¬ C g) : Blk w' g t cs := (k.block g h.lt hn).trans h
end

/-- a callee that leaves the world alone, inside a region that only reads -/
theorem quiet_left {P : Program} {f : FuncId} {args : Array Value} {w : World} {n : Nat} {v : Value}
    (h : Calls P f args (w.drewN n) fun e w' => e = .returned v ∧ w.drewN n = w') : Calls P f args (w.drewN n) fun e w'' => e = .returned v ∧ ∃ m, w'' = w.drewN m :=
  h.mono fun _ _ ⟨he, hm⟩ => ⟨he, n, hm.symm⟩

def isRes (r : Int) : Bool := decide (0 ≤ r) && decide (r < 144)
def isClk (r : Int) : Bool := decide (0 ≤ r) && decide (r ≤ 4194304)

/-- keep.Pick -/
def pick (v n : Int) : Int := (v % 18446744073709551616) % n
theorem pick_range (v n : Int) (hn : 0 < n) : 0 ≤ pick v n ∧ pick v n < n := ⟨Int.emod_nonneg _ (by omega), Int.emod_lt_of_pos _ hn⟩
theorem pick_walk (v n : Int) (hn : 0 < n) (hn2 : n ≤ 9223372036854775807) : wrap64 ((IntKind.u64.wrap v).tmod n) = pick v n := by
  have h1 : IntKind.u64.wrap v = v % 18446744073709551616 := by simp [IntKind.wrap, IntKind.signed, IntKind.bits]
  rw [h1, Int.tmod_eq_emod_of_nonneg (by omega)]
  have := pick_range v n hn
  exact IntWalk.wrap64_in _ ⟨by unfold pick at this; omega, by unfold pick at this; omega⟩
theorem Pick_any (v n : Int) (w : World) (hn : 0 < n) (hn2 : n ≤ 9223372036854775807) :
    Calls Tryz.prog 12 #[.int .i64 v, .int .i64 n] w fun e w' => e = .returned (.int .i64 (pick v n)) ∧ w = w' := by
  go_enter Tryz.func12, Tryz.ntmps12
  go_wp2
  go_ret
  refine ⟨?_, rfl⟩
  show Ending.returned (Value.int .i64 (wrap64 ((IntKind.u64.wrap v).tmod n))) = _
  rw [pick_walk v n hn hn2]

/-- keep.Source: a struct behind a pointer, in block g; rest: what is left of its list -/
def Src (w : World) (S : Foot) (g : Nat) (rest : List Int) : Prop :=
  ∃ A c l, ∃ i : Nat, Blk w g 159 #[.slice A l.length c, .int .i64 i] ∧ RInts w S [.slice A l.length c] l ∧ i ≤ l.length ∧ rest = l.drop i
theorem From_any (w : World) (A : Option Addr) (c : Nat) (l : List Int) (h : RInts w (Old w) [.slice A l.length c] l) :
    Calls Tryz.prog 19 #[.slice A l.length c] w fun e w' => e = .returned (.pointer (some ⟨w.heap.size, 0, none⟩)) ∧ Src w' (Old w) w.heap.size l ∧ KeepsAll w w' ∧ w'.heap.size = w.heap.size + 1 := by
  have H := Lib.hid h; clear h
  go_enter Tryz.func19, Tryz.ntmps19
  go_wp2
  go_ret
  refine ⟨rfl, ⟨A, c, l, 0, ?_, ?_, Nat.zero_le _, by simp⟩, (Keeps.refl _ _).alloc _, by simp⟩
  · exact Blk.new w _ _
  · exact RInts.ok.mono H.out (fun _ h => h) (fun b hb => Below.heap_alloc w _ b hb)

def nextV (rest : List Int) (n : Int) : Int := match rest with | [] => 0 | x :: _ => pick x n
theorem nextV_range (rest : List Int) (n : Int) (hn : 0 < n) : 0 ≤ nextV rest n ∧ nextV rest n < n := by
  cases rest with
  | nil => exact ⟨Int.le_refl _, hn⟩
  | cons x r => exact pick_range x n hn
theorem Src.keep {w w' : World} {S S' : Foot} {g : Nat} {rest : List Int} (h : Src w S g rest) (hS : ∀ b, S b → S' b) (hw : ∀ b, S b → w'.heap[b]? = w.heap[b]?) (hg : w'.heap[g]? = w.heap[g]?) : Src w' S' g rest := by
  obtain ⟨A, c, l, i, h1, h2, h3, h4⟩ := h
  exact ⟨A, c, l, i, hg.trans h1, RInts.ok.mono h2 hS hw, h3, h4⟩
theorem Src.lt {w : World} {S : Foot} {g : Nat} {rest : List Int} (h : Src w S g rest) : g < w.heap.size := by
  obtain ⟨A, c, l, i, h1, _⟩ := h; exact h1.lt
theorem Src.keeps {C : Foot} {w w' : World} {S : Foot} {g : Nat} {rest : List Int} (h : Src w S g rest) (k : Keeps C w w') (hS : ∀ b, S b → b < w.heap.size ∧ ¬ C b) (hg : ¬ C g) : Src w' S g rest :=
  h.keep (fun _ h => h) (fun b hb => k.block b (hS b hb).1 (hS b hb).2) (k.block g h.lt hg)

set_option maxHeartbeats 400000 in
/-- (*Source).Next: S does not hold g -/
theorem Next_any (w : World) (S : Foot) (g : Nat) (rest : List Int) (n : Int) (hn : 0 < n) (hn2 : n ≤ 9223372036854775807) (h : Src w S g rest) (hS : ∀ b, S b → b < w.heap.size ∧ b ≠ g) :
    Calls Tryz.prog 20 #[.pointer (some ⟨g, 0, none⟩), .int .i64 n] w fun e w' => e = .returned (.int .i64 (nextV rest n)) ∧ Src w' S g rest.tail ∧ Keeps (· = g) w w' ∧ w'.heap.size = w.heap.size := by
  obtain ⟨A, c, l, i, h1, h2, h3, h4⟩ := h
  have hc := h2.caps
  have c0 : w.cell? ⟨g, 0, none⟩ = some (.slice A l.length c) := h1.cell 0
  have c1 : w.cell? ⟨g, 1, none⟩ = some (.int .i64 i) := h1.cell 1
  have f1 : w.frozen? ⟨g, 1, none⟩ = false := h1.frozen 1
  have H1 := Lib.hid h1; clear h1
  have HS := Lib.hid hS; clear hS
  by_cases hi : i < l.length
  · obtain ⟨b, o, x, rfl, hb, hx, hx2⟩ := h2.at_ hi
    have hne : b ≠ g := (HS.out b hb).2
    have H2 := Lib.hid h2; clear h2
    have HX := Lib.hid hx; clear hx
    have H4 := Lib.hid h4; clear h4
    go_enter Tryz.func20, Tryz.ntmps20
    go_wp2
    go_quiet (fail)
    go_wp2
    go_quiet ((go_at_call 12; exact quiet_left (Pick_any x n _ hn hn2)))
    go_wp2
    go_ret
    have K := fun a k => (((Keeps.refl (· = g) w).drewN a).setCell (p := ⟨g, 1, none⟩) (fun _ => rfl) (.int .i64 (↑i + 1))).drewN k
    refine ⟨?_, ⟨some ⟨b, o, none⟩, c, l, i + 1, ?_, ?_, hi, by rw [H4.out, List.tail_drop]⟩, K _ _, by simp [World.setCell]⟩
    · rw [H4.out, ← List.getElem_cons_drop hi]
      rw [List.getElem?_eq_getElem hi] at HX
      have := HX.out; injection this with this; rw [this]; rfl
    · exact H1.out.set_ 1 _
    · exact (K _ _).rd RInts.ok H2.out HS.out (fun _ h => h)
  · have H2 := Lib.hid h2; clear h2
    have H4 := Lib.hid h4; clear h4
    go_enter Tryz.func20, Tryz.ntmps20
    go_wp2
    go_quiet (fail)
    go_wp2
    go_ret
    have e : rest = [] := by rw [H4.out, List.drop_of_length_le (by omega)]
    subst e
    exact ⟨rfl, ⟨A, c, l, i, H1.out, H2.out, h3, by rw [← H4.out]; rfl⟩, (Keeps.refl _ _).drewN _, rfl⟩

def ptOk (sec : Int) (pts : List Int) (i : Nat) (p : Int) : Bool := isRes p && !(p == sec) && !(decide (0 < i) && p == pts.headD 0)
def ptsFrom (sec : Int) (pts : List Int) : Nat → List Int → Bool
  | _, [] => true
  | i, p :: r => ptOk sec pts i p && ptsFrom sec pts (i + 1) r
def stageOk (s : Stage) : Bool := isRes s.sec && decide (s.pts.length ≤ 2) && ptsFrom s.sec s.pts 0 s.pts && (isClk s.mn && isClk s.nt)

theorem drop_cons {α : Type} {l : List α} {k : Nat} {x : α} (h : l[k]? = some x) : l.drop k = x :: l.drop (k + 1) := by
  obtain ⟨hk, e⟩ := List.getElem?_eq_some_iff.1 h
  rw [← e, List.getElem_cons_drop hk]

def PtsInv (s : Stage) (k : Nat) : Prop := ptsFrom s.sec s.pts 0 s.pts = ptsFrom s.sec s.pts k (s.pts.drop k)
theorem PtsInv.step {s : Stage} {k : Nat} {x : Int} (h : PtsInv s k) (hx : s.pts[k]? = some x) (ho : ptOk s.sec s.pts k x = true) : PtsInv s (k + 1) := by
  unfold PtsInv at *; rw [h, drop_cons hx, ptsFrom, ho]; rfl
theorem PtsInv.done {s : Stage} (h : PtsInv s s.pts.length) : ptsFrom s.sec s.pts 0 s.pts = true := by
  unfold PtsInv at h; rw [h, List.drop_length]; rfl

def stepOk (p : List Stage) (j : Nat) (s : Stage) : Bool := stageOk s && !(decide (0 < j) && (p[j - 1]?.map (·.sec)) == some s.sec)
def stepsFrom (p : List Stage) : Nat → List Stage → Bool
  | _, [] => true
  | j, s :: r => stepOk p j s && stepsFrom p (j + 1) r
def pathOk (p : List Stage) : Bool := decide (1 ≤ p.length) && decide (p.length ≤ 64) && stepsFrom p 0 p
def noClash (l : List Stage) : Bool := (List.range 144).all fun r : Nat => !(decide ((r : Int) ∈ l.map (·.sec)) && decide ((r : Int) ∈ l.flatMap (·.pts)))
def valid (ps : List (List Stage)) : Bool := decide (ps.length ≤ 10) && ps.all pathOk && noClash ps.flatten

def marks (xs : List Int) : List Bool := (List.range 144).map fun r : Nat => decide ((r : Int) ∈ xs)
def cellsB (l : List Bool) : Array Value := (l.map Value.bool).toArray

theorem cellsB_set (xs : List Int) (n : Nat) : (cellsB (marks xs)).setIfInBounds n (.bool true) = cellsB (marks (xs ++ [(n : Int)])) := by
  apply Array.ext_getElem?
  intro i
  simp only [cellsB, marks, List.map_map, Array.getElem?_setIfInBounds, List.getElem?_toArray, List.getElem?_map, List.size_toArray, List.length_map, List.length_range, List.mem_append, List.mem_singleton]
  by_cases hi : i < 144
  · rw [List.getElem?_range hi]
    by_cases e : n = i
    · subst e; simp [hi]
    · simp [e]; intro h; omega
  · have : (List.range 144)[i]? = none := by simp; omega
    rw [this]
    by_cases e : n = i
    · subst e; simp [hi]
    · simp [e]

structure VInv (w wr : World) (secs ptl : List Int) : Prop where
  s : Blk wr w.heap.size 309 (cellsB (marks secs))
  p : Blk wr (w.heap.size + 1) 309 (cellsB (marks ptl))
  k : KeepsAll w wr
theorem VInv.size {w wr : World} {a b : List Int} (h : VInv w wr a b) : w.heap.size + 1 < wr.heap.size := h.p.lt
theorem VInv.alloc {w wr : World} {a b : List Int} (h : VInv w wr a b) (o : Obj) : VInv w (wr.alloc o) a b := ⟨h.s.alloc o, h.p.alloc o, h.k.alloc o⟩
theorem VInv.drew {w wr : World} {a b : List Int} (h : VInv w wr a b) : VInv w wr.drew a b := ⟨h.s, h.p, h.k.drew⟩
theorem VInv.sec {w wr : World} {a b : List Int} (h : VInv w wr a b) (n : Nat) : VInv w (wr.setCell ⟨w.heap.size, n, none⟩ (.bool true)) (a ++ [(n : Int)]) b :=
  ⟨by rw [← cellsB_set]; exact h.s.set_ n _, h.p.far (by simp) _, h.k.setCell (by simp) _⟩
theorem VInv.pt {w wr : World} {a b : List Int} (h : VInv w wr a b) (n : Nat) : VInv w (wr.setCell ⟨w.heap.size + 1, n, none⟩ (.bool true)) a (b ++ [(n : Int)]) :=
  ⟨h.s.far (by simp) _, by rw [← cellsB_set]; exact h.p.set_ n _, h.k.setCell (by simp) _⟩

def StepsInv (p : List Stage) (j : Nat) : Prop := stepsFrom p 0 p = stepsFrom p j (p.drop j)
theorem StepsInv.step {p : List Stage} {j : Nat} {s : Stage} (h : StepsInv p j) (hx : p[j]? = some s) (ho : stepOk p j s = true) : StepsInv p (j + 1) := by
  unfold StepsInv at *; rw [h, drop_cons hx, stepsFrom, ho]; rfl
theorem StepsInv.done {p : List Stage} (h : StepsInv p p.length) : stepsFrom p 0 p = true := by
  unfold StepsInv at h; rw [h, List.drop_length]; rfl
theorem ptsFrom_res {sec : Int} {pts : List Int} : ∀ (r : List Int) (i : Nat), ptsFrom sec pts i r = true → ∀ x ∈ r, isRes x = true
  | [], _, _, x, hx => by simp at hx
  | y :: r, i, h, x, hx => by
    simp only [ptsFrom, Bool.and_eq_true] at h
    rcases List.mem_cons.1 hx with rfl | hx
    · have := h.1; simp [ptOk] at this; exact this.1.1
    · exact ptsFrom_res r (i + 1) h.2 x hx
theorem stageOk_pts {s : Stage} (h : stageOk s = true) : ∀ x ∈ s.pts, isRes x = true := by
  simp only [stageOk, Bool.and_eq_true] at h; exact ptsFrom_res _ _ h.1.2
theorem stageOk_sec {s : Stage} (h : stageOk s = true) : isRes s.sec = true := by
  simp only [stageOk, Bool.and_eq_true] at h; exact h.1.1.1

def NcInv (l : List Stage) (r : Nat) : Prop := ∀ i : Nat, i < r → ¬ ((i : Int) ∈ l.map (·.sec) ∧ (i : Int) ∈ l.flatMap (·.pts))
theorem NcInv.step {l : List Stage} {r : Nat} (h : NcInv l r) (hn : (r : Int) ∉ l.map (·.sec) ∨ (r : Int) ∉ l.flatMap (·.pts)) : NcInv l (r + 1) := by
  intro i hi
  rcases Nat.lt_succ_iff_lt_or_eq.1 hi with h1 | rfl
  · exact h i h1
  · rintro ⟨h1, h2⟩; rcases hn with hn | hn <;> exact hn (by assumption)
theorem NcInv.done {l : List Stage} (h : NcInv l 144) : noClash l = true := by
  unfold noClash
  rw [List.all_eq_true]
  intro r hr
  have := h r (List.mem_range.1 hr)
  by_cases h1 : (r : Int) ∈ l.map (·.sec)
  · have h2 : (r : Int) ∉ l.flatMap (·.pts) := fun h2 => this ⟨h1, h2⟩
    rw [decide_eq_false h2]; simp
  · rw [decide_eq_false h1]; simp

end Go.Proofs.YtcbcegdidlefiaaGreat
