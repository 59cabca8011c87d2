/- Words for memory that all walks of this claim share: reading relations for slices, structs and nested lists, with the set of blocks that they rest on. No condition. Contracts of the small helpers: range tests, Pick, the source of choices. Conditions: as each theorem says. Contracts of precedence.isStage and Valid and of the reference's validStage and Valid, and that the two agree. Conditions: as each theorem says. -/
import Derived.WalkKit
import Derived.WalkSpells
import Derived.WalkLawsBesides
import Derived.Lib.Hide
import Derived.Outline
import Derived.Deep.QuietTactic
import Derived.BigQuiet
import Derived.Test.YtilbbpbjhoidhaaProg
namespace Go.Proofs.Ytilbbpbjhoidhaa
open Go.RowKit

abbrev Foot := Nat → Prop
abbrev Rd (α : Type) := World → Foot → List Value → α → Prop

structure Rd.Ok {α : Type} (E : Rd α) : Prop where
 mono : ∀ {w w' : World} {S S' : Foot} {cs : List Value} {x : α}, E w S cs x → (∀ b, S b → S' b) → (∀ b, S b → w'.heap[b]? = w.heap[b]?) → E w' S' cs x

def RInt : Rd Int := fun _ _ cs x => cs = [.int .i64 x]
def RBool : Rd Bool := fun _ _ cs x => cs = [.bool x]
theorem RInt.ok : Rd.Ok RInt := ⟨fun h _ _ => h⟩
theorem RBool.ok : Rd.Ok RBool := ⟨fun h _ _ => h⟩

def RSlice {α : Type} (size : Nat) (E : Rd α) : Rd (List α) := fun w S cs l =>
 ∃ A c, cs = [.slice A l.length c] ∧ l.length ≤ c ∧ c ≤ 9223372036854775807 ∧
  (l ≠ [] → ∃ b o, A = some ⟨b, o, none⟩ ∧ S b ∧ ∀ j x, l[j]? = some x →
   ∃ es, es.length = size ∧ E w S es x ∧ ∀ i u, es[i]? = some u → w.cell? ⟨b, o + (j * size + i), none⟩ = some u)

theorem RSlice.ok {α : Type} {size : Nat} {E : Rd α} (hE : Rd.Ok E) : Rd.Ok (RSlice size E) := by
 refine ⟨?_⟩
 intro w w' S S' cs l h hS hw
 obtain ⟨A, c, rfl, h1, h2, h3⟩ := h
 refine ⟨A, c, rfl, h1, h2, fun hl => ?_⟩
 obtain ⟨b, o, rfl, hb, hj⟩ := h3 hl
 refine ⟨b, o, rfl, hS b hb, fun j x hx => ?_⟩
 obtain ⟨es, e1, e2, e3⟩ := hj j x hx
 exact ⟨es, e1, hE.mono e2 hS hw, fun i u hu => (World.cell?_of_block (hw b hb)).trans (e3 i u hu)⟩

section
variable {α : Type} {size : Nat} {E : Rd α} {w : World} {S : Foot} {A : Option Addr} {n c : Nat} {l : List α}
theorem RSlice.len (h : RSlice size E w S [.slice A n c] l) : n = l.length := by
 obtain ⟨A', c', he, _⟩ := h; injection he with he _; injection he
theorem RSlice.caps (h : RSlice size E w S [.slice A n c] l) : l.length ≤ c ∧ c ≤ 9223372036854775807 := by
 obtain ⟨A', c', he, h1, h2, _⟩ := h; injection he with he _; injection he with _ _ he; subst he; exact ⟨h1, h2⟩
theorem RSlice.get (h : RSlice size E w S [.slice A n c] l) {k : Nat} (hk : k < l.length) :
  ∃ b o x es, A = some ⟨b, o, none⟩ ∧ S b ∧ l[k]? = some x ∧ es.length = size ∧ E w S es x ∧ ∀ i u, es[i]? = some u → w.cell? ⟨b, o + (k * size + i), none⟩ = some u := by
 obtain ⟨A', c', he, h1, h2, h3⟩ := h
 injection he with he _; injection he with ha hn hc; subst ha
 obtain ⟨b, o, rfl, hb, hj⟩ := h3 (by intro e; subst e; simp at hk)
 obtain ⟨es, e1, e2, e3⟩ := hj k l[k] (List.getElem?_eq_getElem hk)
 exact ⟨b, o, l[k], es, rfl, hb, List.getElem?_eq_getElem hk, e1, e2, e3⟩
theorem RSlice.nil (h : RSlice size E w S [.slice A n c] l) (hn : n = 0) : l = [] := by
 have := h.len; subst hn; exact List.eq_nil_of_length_eq_zero this.symm
theorem RSlice.mkNil : RSlice size E w S [.slice none 0 0] [] := ⟨none, 0, rfl, Nat.le_refl _, by omega, fun h => absurd rfl h⟩
end

abbrev RInts := RSlice 1 RInt
abbrev RIntss := RSlice 1 RInts
theorem RInts.ok : Rd.Ok RInts := RSlice.ok RInt.ok
theorem RIntss.ok : Rd.Ok RIntss := RSlice.ok RInts.ok

theorem RInts.at_ {w : World} {S : Foot} {A : Option Addr} {n c : Nat} {l : List Int} (h : RInts w S [.slice A n c] l) {k : Nat} (hk : k < l.length) :
  ∃ b o x, A = some ⟨b, o, none⟩ ∧ S b ∧ l[k]? = some x ∧ w.cell? ⟨b, o + k, none⟩ = some (.int .i64 x) := by
 obtain ⟨b, o, x, es, rfl, hb, hx, h1, h2, h3⟩ := h.get hk
 refine ⟨b, o, x, rfl, hb, hx, ?_⟩
 cases h2
 simpa using h3 0 _ rfl

theorem RSS.at_ {α : Type} {size : Nat} {E : Rd α} {w : World} {S : Foot} {A : Option Addr} {n c : Nat} {l : List (List α)} (h : RSlice 1 (RSlice size E) w S [.slice A n c] l) {k : Nat} (hk : k < l.length) :
  ∃ b o x A' c', A = some ⟨b, o, none⟩ ∧ S b ∧ l[k]? = some x ∧ w.cell? ⟨b, o + k, none⟩ = some (.slice A' x.length c') ∧ RSlice size E w S [.slice A' x.length c'] x := by
 obtain ⟨b, o, x, es, rfl, hb, hx, h1, h2, h3⟩ := h.get hk
 have h2' := h2
 obtain ⟨A', c', rfl, _⟩ := h2
 exact ⟨b, o, x, A', c', rfl, hb, hx, by simpa using h3 0 _ rfl, h2'⟩

structure Stage where
 sec : Int
 pts : List Int
 mn : Int
 nt : Int
 deriving DecidableEq, Inhabited, Repr
def RStage : Rd Stage := fun w S cs s => ∃ v, cs = [.int .i64 s.sec, v, .int .i64 s.mn, .int .i64 s.nt] ∧ RInts w S [v] s.pts
theorem RStage.ok : Rd.Ok RStage := by
 refine ⟨?_⟩
 intro w w' S S' cs x h hS hw
 obtain ⟨v, rfl, hv⟩ := h
 exact ⟨v, rfl, RInts.ok.mono hv hS hw⟩
abbrev RPath := RSlice 4 RStage
abbrev RPaths := RSlice 1 RPath
theorem RPath.ok : Rd.Ok RPath := RSlice.ok RStage.ok
theorem RPaths.ok : Rd.Ok RPaths := RSlice.ok RPath.ok
theorem RPath.at_ {w : World} {S : Foot} {A : Option Addr} {n c : Nat} {l : List Stage} (h : RPath w S [.slice A n c] l) {k : Nat} (hk : k < l.length) :
  ∃ b o s A' c', A = some ⟨b, o, none⟩ ∧ S b ∧ l[k]? = some s ∧ w.cell? ⟨b, o + k * 4, none⟩ = some (.int .i64 s.sec) ∧ w.cell? ⟨b, o + k * 4 + 1, none⟩ = some (.slice A' s.pts.length c') ∧
   w.cell? ⟨b, o + k * 4 + 2, none⟩ = some (.int .i64 s.mn) ∧ w.cell? ⟨b, o + k * 4 + 3, none⟩ = some (.int .i64 s.nt) ∧ RInts w S [.slice A' s.pts.length c'] s.pts := by
 obtain ⟨b, o, s, es, rfl, hb, hx, h1, ⟨v, rfl, hv⟩, h3⟩ := h.get hk
 have hv' := hv
 obtain ⟨A', c', he, _⟩ := hv'
 injection he with he _; subst he
 exact ⟨b, o, s, A', c', rfl, hb, hx, by simpa using h3 0 _ rfl, by simpa [Nat.add_assoc] using h3 1 _ rfl, by simpa [Nat.add_assoc] using h3 2 _ rfl, by simpa [Nat.add_assoc] using h3 3 _ rfl, hv⟩

structure Ref where
 tr : Int
 st : Int
 deriving DecidableEq, Inhabited, Repr
structure Order where
 res : Int
 uses : List Ref
 deriving DecidableEq, Inhabited, Repr
def RRef : Rd Ref := fun _ _ cs r => cs = [.int .i64 r.tr, .int .i64 r.st]
theorem RRef.ok : Rd.Ok RRef := ⟨fun h _ _ => h⟩
abbrev RRefs := RSlice 2 RRef
theorem RRefs.ok : Rd.Ok RRefs := RSlice.ok RRef.ok
def ROrder : Rd Order := fun w S cs r => ∃ v, cs = [.int .i64 r.res, v] ∧ RRefs w S [v] r.uses
theorem ROrder.ok : Rd.Ok ROrder := by
 refine ⟨?_⟩
 intro w w' S S' cs x h hS hw
 obtain ⟨v, rfl, hv⟩ := h
 exact ⟨v, rfl, RRefs.ok.mono hv hS hw⟩
abbrev ROrders := RSlice 2 ROrder
theorem ROrders.ok : Rd.Ok ROrders := RSlice.ok ROrder.ok

def Old (w : World) : Foot := fun b => b < w.heap.size
def Fresh (w w' : World) : Foot := fun b => w.heap.size ≤ b ∧ b < w'.heap.size

structure Keeps (C : Foot) (w w' : World) : Prop where
 os : w'.os = w.os
 tape : w'.tape = w.tape
 output : w'.output = w.output
 size : w.heap.size ≤ w'.heap.size
 block : ∀ k, k < w.heap.size → ¬ C k → w'.heap[k]? = w.heap[k]?

theorem Keeps.refl (C : Foot) (w : World) : Keeps C w w := ⟨rfl, rfl, rfl, Nat.le_refl _, fun _ _ _ => rfl⟩
theorem Keeps.trans {C C1 : Foot} {a b c : World} (h : Keeps C a b) (k : Keeps C1 b c) (hc : ∀ x, x < a.heap.size → C1 x → C x) : Keeps C a c :=
 ⟨k.os.trans h.os, k.tape.trans h.tape, k.output.trans h.output, Nat.le_trans h.size k.size,
  fun x hx hn => (k.block x (Nat.lt_of_lt_of_le hx h.size) (fun e => hn (hc x hx e))).trans (h.block x hx hn)⟩
theorem Keeps.mono {C C1 : Foot} {a b : World} (h : Keeps C1 a b) (hc : ∀ x, x < a.heap.size → C1 x → C x) : Keeps C a b :=
 (Keeps.refl C a).trans h hc
theorem Keeps.drew {C : Foot} {a b : World} (h : Keeps C a b) : Keeps C a b.drew := ⟨h.os, h.tape, h.output, h.size, h.block⟩
theorem Keeps.drewN {C : Foot} {a b : World} (h : Keeps C a b) (n : Nat) : Keeps C a (b.drewN n) := ⟨h.os, h.tape, h.output, h.size, h.block⟩
theorem Keeps.alloc {C : Foot} {a b : World} (h : Keeps C a b) (o : Obj) : Keeps C a (b.alloc o) :=
 ⟨h.os, h.tape, h.output, Nat.le_trans h.size (by simp), fun i hi hn => (Below.heap_alloc b o i (Nat.lt_of_lt_of_le hi h.size)).trans (h.block i hi hn)⟩
theorem Keeps.setCell {C : Foot} {a b : World} (h : Keeps C a b) {p : Addr} (hp : p.block < a.heap.size → C p.block) (u : Value) : Keeps C a (b.setCell p u) :=
 ⟨h.os, h.tape, h.output, by simpa [World.setCell] using h.size, fun i hi hn => (Below.heap_setCell b p u i (by rintro rfl; exact hn (hp hi))).trans (h.block i hi hn)⟩
theorem Keeps.grown {C : Foot} {a b c : World} {row : Option Nat} (h : Keeps C a b) (k : b.grownBy c row) (hr : ∀ g, row = some g → g < a.heap.size → C g) : Keeps C a c :=
 h.trans (C1 := fun x => row = some x) ⟨k.os, k.tape, k.output, k.size, fun x hx hn => k.block x hx (fun e => hn e.symm)⟩ (fun x hx e => hr x e hx)
theorem Keeps.below {C : Foot} {B : Nat} {a b c : World} (h : Keeps C a b) (k : Below B b c) (hr : a.heap.size ≤ B) : Keeps C a c :=
 h.trans (C1 := fun x => B ≤ x) ⟨k.os, k.tape, k.output, k.size, fun x _ hn => k.block x (Nat.lt_of_not_le hn)⟩ (fun x hx e => absurd hr (by omega))
theorem Keeps.toBelow {C : Foot} {B : Nat} {a b : World} (h : Keeps C a b) (hB : B ≤ a.heap.size) (hc : ∀ x, x < B → ¬ C x) : Below B a b :=
 ⟨h.os, h.tape, h.output, h.size, fun x hx => h.block x (Nat.lt_of_lt_of_le hx hB) (hc x hx)⟩
theorem Keeps.cell {C : Foot} {a b : World} (h : Keeps C a b) {p : Addr} (hp : p.block < a.heap.size) (hn : ¬ C p.block) : b.cell? p = a.cell? p := World.cell?_of_block (h.block _ hp hn)
abbrev KeepsAll := Keeps (fun _ => False)
theorem Keeps.rd {α : Type} {E : Rd α} (hE : Rd.Ok E) {C : Foot} {a b : World} (h : Keeps C a b) {S S' : Foot} {cs : List Value} {x : α} (hr : E a S cs x) (hS : ∀ k, S k → k < a.heap.size ∧ ¬ C k) (hS' : ∀ k, S k → S' k) : E b S' cs x :=
 hE.mono hr hS' fun k hk => h.block k (hS k hk).1 (hS k hk).2

structure Ext (w : World) where
 val : World
 keeps : KeepsAll w val
instance Ext.some_ (w : World) : Nonempty (Ext w) := ⟨⟨w, Keeps.refl _ w⟩⟩
theorem Ext.cell {w : World} {p : Addr} {v : Value} (h : w.cell? p = some v) (x : Ext w) : x.val.cell? p = some v := (x.keeps.cell (World.block_lt_of_cell? w p h) (by simp)).trans h
theorem ext_call {P : Program} {f : FuncId} {args : Array Value} {w : World} {v : Value} (x : Ext w)
  (h : Calls P f args x.val fun e w' => e = .returned v ∧ KeepsAll x.val w') : Calls P f args x.val fun e w'' => e = .returned v ∧ ∃ y : Ext w, w'' = y.val :=
 h.mono fun _ w' ⟨he, hk⟩ => ⟨he, ⟨w', x.keeps.trans hk (fun _ _ h => h)⟩, rfl⟩
structure ExtC (C : Foot) (w : World) where
 val : World
 keeps : Keeps C w val
instance ExtC.some_ (C : Foot) (w : World) : Nonempty (ExtC C w) := ⟨⟨w, Keeps.refl _ w⟩⟩
theorem ExtC.cell {C : Foot} {w : World} {p : Addr} {v : Value} (h : w.cell? p = some v) (hn : ¬ C p.block) (x : ExtC C w) : x.val.cell? p = some v := (x.keeps.cell (World.block_lt_of_cell? w p h) hn).trans h
theorem ExtC.start (C : Foot) (w : World) : ∃ x : ExtC C w, w.drew = x.val := ⟨⟨_, (Keeps.refl _ w).drew⟩, rfl⟩
theorem Ext.rd {α : Type} {E : Rd α} (hE : Rd.Ok E) {w : World} {S : Foot} {cs : List Value} {l : α} (h : E w S cs l) (x : Ext w) (hS : ∀ b, S b → b < w.heap.size) : E x.val S cs l :=
 x.keeps.rd hE h (fun k hk => ⟨hS k hk, by simp⟩) (fun _ h => h)
theorem Ext.old {w : World} {S : Foot} (x : Ext w) (hS : ∀ b, S b → b < w.heap.size) : ∀ b, S b → b < x.val.heap.size := fun b hb => Nat.lt_of_lt_of_le (hS b hb) x.keeps.size
theorem wp_region_ext {P : Program} {id : Nat} {Q : Exit → Act → World → Prop} {a : Act} {w : World} {l : List Oper} (hm : P.follows .mixedOrders = true) (hB : Region.lexB .any l.toArray = true)
  (h : wpQuiet P l.toArray (fun w' => ∃ x : Ext w, w' = x.val) (fun a' => ∀ w', (∃ x : Ext w, w' = x.val) → Q .normal a' w') l a) : (Code.region id l.toArray true).wp P Q a w :=
 wp_region_quiet (C := fun w' => ∃ x : Ext w, w' = x.val) hm hB ⟨⟨_, (Keeps.refl _ w).drew⟩, rfl⟩ (by simpa using h)

def Blk (w : World) (g : Nat) (t : TypeId) (cs : Array Value) : Prop := w.heap[g]? = some (.cells cs t (0, 0))
section
variable {w w' : World} {g : Nat} {t : TypeId} {cs : Array Value}
theorem Blk.lt (h : Blk w g t cs) : g < w.heap.size := by
 unfold Blk at h
 exact (Array.getElem?_eq_some_iff.1 h).1
theorem Blk.cell (h : Blk w g t cs) (i : Nat) : w.cell? ⟨g, i, none⟩ = cs[i]? := by
 unfold Blk at h
 simp [World.cell?, h]
theorem Blk.frozen (h : Blk w g t cs) (i : Nat) : w.frozen? ⟨g, i, none⟩ = false := by
 unfold Blk at h
 simp [World.frozen?, h]
theorem Blk.set_ (h : Blk w g t cs) (i : Nat) (u : Value) : Blk (w.setCell ⟨g, i, none⟩ u) g t (cs.setIfInBounds i u) := by
 unfold Blk at h ⊢
 simp [World.setCell, Array.getElem?_modify, h]
theorem Blk.far (h : Blk w g t cs) {p : Addr} (hp : g ≠ p.block) (u : Value) : Blk (w.setCell p u) g t cs := (Below.heap_setCell w p u g hp).trans h
theorem Blk.new (w : World) (t : TypeId) (cs : Array Value) : Blk (w.alloc (.cells cs t)) w.heap.size t cs := heap_alloc_new w _
theorem Blk.new' (w : World) (t : TypeId) (cs : Array Value) {g : Nat} (hg : g = w.heap.size) : Blk (w.alloc (.cells cs t)) g t cs := by subst hg; exact Blk.new w t cs
theorem Blk.alloc (h : Blk w g t cs) (o : Obj) : Blk (w.alloc o) g t cs := (Below.heap_alloc w o g h.lt).trans h
theorem Blk.kept {C : Foot} (h : Blk w g t cs) (k : Keeps C w w') (hn : ¬ C g) : Blk w' g t cs := (k.block g h.lt hn).trans h
theorem Blk.ne_ {g' : Nat} {t' : TypeId} {cs' : Array Value} (h : Blk w g t cs) (h' : Blk w g' t' cs') (hne : t ≠ t') : g ≠ g' := by
 rintro rfl
 unfold Blk at h h'
 rw [h] at h'
 injection h' with h'
 injection h' with _ ht
 exact hne ht
end

def isRes (r : Int) : Bool := decide (0 ≤ r) && decide (r < 144)
def isClk (r : Int) : Bool := decide (0 ≤ r) && decide (r ≤ 4194304)

theorem isResource_any (r : Int) (w : World) : Calls Try.prog 97 #[.int .i64 r] w fun e w' => e = .returned (.bool (isRes r)) ∧ w = w' := by
 go_enter Try.func97, Try.ntmps97
 go_wp2
 all_goals (go_ret; simp_all [isRes]; try omega)
theorem resource_any (r : Int) (w : World) : Calls Try.prog 96 #[.int .i64 r] w fun e w' => e = .returned (.bool (isRes r)) ∧ w = w' := by
 go_enter Try.func96, Try.ntmps96
 go_wp2
 all_goals (go_ret; simp_all [isRes]; try omega)
theorem isClock_any (r : Int) (w : World) : Calls Try.prog 98 #[.int .i64 r] w fun e w' => e = .returned (.bool (isClk r)) ∧ w = w' := by
 go_enter Try.func98, Try.ntmps98
 go_wp2
 all_goals (go_ret; simp_all [isClk]; try omega)
theorem seconds_any (r : Int) (w : World) : Calls Try.prog 60 #[.int .i64 r] w fun e w' => e = .returned (.bool (isClk r)) ∧ w = w' := by
 go_enter Try.func60, Try.ntmps60
 go_wp2
 all_goals (go_ret; simp_all [isClk]; try omega)

def pick (v n : Int) : Int := (v % 18446744073709551616) % n

def Src (w : World) (S : Foot) (g : Nat) (rest : List Int) : Prop :=
 ∃ A c l, ∃ i : Nat, Blk w g 121 #[.slice A l.length c, .int .i64 i] ∧ RInts w S [.slice A l.length c] l ∧ i ≤ l.length ∧ rest = l.drop i

theorem Src.keep {w w' : World} {S S' : Foot} {g : Nat} {rest : List Int} (h : Src w S g rest) (hS : ∀ b, S b → S' b) (hw : ∀ b, S b → w'.heap[b]? = w.heap[b]?) (hg : w'.heap[g]? = w.heap[g]?) : Src w' S' g rest := by
 obtain ⟨A, c, l, i, h1, h2, h3, h4⟩ := h
 exact ⟨A, c, l, i, hg.trans h1, RInts.ok.mono h2 hS hw, h3, h4⟩
theorem Src.lt {w : World} {S : Foot} {g : Nat} {rest : List Int} (h : Src w S g rest) : g < w.heap.size := by
 obtain ⟨A, c, l, i, h1, _⟩ := h; exact h1.lt
theorem Src.keeps {C : Foot} {w w' : World} {S : Foot} {g : Nat} {rest : List Int} (h : Src w S g rest) (k : Keeps C w w') (hS : ∀ b, S b → b < w.heap.size ∧ ¬ C b) (hg : ¬ C g) : Src w' S g rest :=
 h.keep (fun _ h => h) (fun b hb => k.block b (hS b hb).1 (hS b hb).2) (k.block g h.lt hg)

def ptOk (sec : Int) (pts : List Int) (i : Nat) (p : Int) : Bool := isRes p && !(p == sec) && !(decide (0 < i) && p == pts.headD 0)
def ptsFrom (sec : Int) (pts : List Int) : Nat → List Int → Bool
 | _, [] => true
 | i, p :: r => ptOk sec pts i p && ptsFrom sec pts (i + 1) r
def stageOk (s : Stage) : Bool := isRes s.sec && decide (s.pts.length ≤ 2) && ptsFrom s.sec s.pts 0 s.pts && (isClk s.mn && isClk s.nt)

theorem drop_cons {α : Type} {l : List α} {k : Nat} {x : α} (h : l[k]? = some x) : l.drop k = x :: l.drop (k + 1) := by
 obtain ⟨hk, e⟩ := List.getElem?_eq_some_iff.1 h
 rw [← e, List.getElem_cons_drop hk]

def PtsInv (s : Stage) (k : Nat) : Prop := ptsFrom s.sec s.pts 0 s.pts = ptsFrom s.sec s.pts k (s.pts.drop k)
theorem PtsInv.step {s : Stage} {k : Nat} {x : Int} (h : PtsInv s k) (hx : s.pts[k]? = some x) (ho : ptOk s.sec s.pts k x = true) : PtsInv s (k + 1) := by
 unfold PtsInv at *; rw [h, drop_cons hx, ptsFrom, ho]; rfl
theorem PtsInv.stop {s : Stage} {k : Nat} {x : Int} (h : PtsInv s k) (hx : s.pts[k]? = some x) (ho : ptOk s.sec s.pts k x = false) : stageOk s = false := by
 unfold PtsInv at h; simp [stageOk, h, drop_cons hx, ptsFrom, ho]
theorem PtsInv.done {s : Stage} (h : PtsInv s s.pts.length) : ptsFrom s.sec s.pts 0 s.pts = true := by
 unfold PtsInv at h; rw [h, List.drop_length]; rfl
theorem pts_cases (s : Stage) (k : Nat) (x : Int) : (isRes x = false ∧ ptOk s.sec s.pts k x = false) ∨ (isRes x = true ∧ (x == s.sec) = true ∧ ptOk s.sec s.pts k x = false) ∨
  (isRes x = true ∧ (x == s.sec) = false ∧ k = 0 ∧ ptOk s.sec s.pts k x = true) ∨
  (isRes x = true ∧ (x == s.sec) = false ∧ 0 < k ∧ (x == s.pts.headD 0) = true ∧ ptOk s.sec s.pts k x = false) ∨
  (isRes x = true ∧ (x == s.sec) = false ∧ 0 < k ∧ (x == s.pts.headD 0) = false ∧ ptOk s.sec s.pts k x = true) := by
 unfold ptOk
 cases isRes x <;> cases (x == s.sec) <;> cases (x == s.pts.headD 0) <;> rcases Nat.eq_zero_or_pos k with hk | hk <;> simp [hk] <;> omega

set_option maxHeartbeats 1000000 in
theorem isStage_any (s : Stage) (Ap : Option Addr) (cp : Nat) (w : World) (S : Foot) (h : RInts w S [.slice Ap s.pts.length cp] s.pts) (hS : ∀ b, S b → b < w.heap.size) :
  Calls Try.prog 93 #[.agg #[.int .i64 s.sec, .slice Ap s.pts.length cp, .int .i64 s.mn, .int .i64 s.nt]] w fun e w' => e = .returned (.bool (stageOk s)) ∧ w' = w.alloc (.cells #[.int .i64 s.sec, .slice Ap s.pts.length cp, .int .i64 s.mn, .int .i64 s.nt] 99) := by
 have hc := h.caps
 have HS := Lib.hid hS; clear hS
 have H := Lib.hid h; clear h
 by_cases g1 : isRes s.sec = true
 ·by_cases g2 : s.pts.length ≤ 2
  ·have g2' : decide ((2 : Int) < (s.pts.length : Int)) = false := by simp; omega
   go_enter Try.func93, Try.ntmps93
   go_wp2_with (go_at_call 97; refine (isResource_any _ _).mono ?_; rintro e w' ⟨rfl, rfl⟩)
   go_loop [18] (fun i => ∃ k : Nat, k ≤ s.pts.length ∧ i = .int .i64 k ∧ PtsInv s k) (fun i => s.pts.length - (intOf i).toNat)
   case atStart => exact ⟨0, Nat.zero_le _, rfl, rfl⟩
   case round =>
    obtain ⟨k, hk, rfl, hinv⟩ := hrel
    by_cases hlt : k < s.pts.length
    ·obtain ⟨b, o, x, rfl, hb, hx, hcell⟩ := H.out.at_ hlt
     have hb' := HS.out b hb
     have hcell0 : (w.alloc (.cells #[.int .i64 s.sec, .slice (some ⟨b, o, none⟩) s.pts.length cp, .int .i64 s.mn, .int .i64 s.nt] 99)).cell? ⟨b, o + k, none⟩ = some (.int .i64 x) := (World.cell?_alloc_lt w _ ⟨b, o + k, none⟩ hb').trans hcell
     have HX := Lib.hid hx; clear hx hcell
     have hp0 : 0 < s.pts.length := by omega
     obtain ⟨b', o', y, he, _, hy, hcelly⟩ := H.out.at_ hp0
     injection he with he; injection he with he1 he2; subst he1 he2
     have hcell1 : (w.alloc (.cells #[.int .i64 s.sec, .slice (some ⟨b, o, none⟩) s.pts.length cp, .int .i64 s.mn, .int .i64 s.nt] 99)).cell? ⟨b, o, none⟩ = some (.int .i64 y) := (World.cell?_alloc_lt w _ ⟨b, o, none⟩ hb').trans hcelly
     have hyh : s.pts.headD 0 = y := by rw [List.headD_eq_head?_getD, List.head?_eq_getElem?, hy]; rfl
     have R := Lib.hid (pts_cases s k x); rw [hyh] at R; clear hyh hy hcelly
     rcases R.out with ⟨q1, q⟩ | ⟨q1, q2, q⟩ | ⟨q1, q2, q3, q⟩ | ⟨q1, q2, q3, q4, q⟩ | ⟨q1, q2, q3, q4, q⟩
     ·have Q := Lib.hid (hinv.stop HX.out q); clear q R
      go_wp2_with (go_at_call 97; refine (isResource_any _ _).mono ?_; rintro e w' ⟨rfl, rfl⟩)
      go_ret
      exact ⟨by rw [Q.out]; rfl, rfl⟩
     ·have Q := Lib.hid (hinv.stop HX.out q); clear q R
      go_wp2_with (go_at_call 97; refine (isResource_any _ _).mono ?_; rintro e w' ⟨rfl, rfl⟩)
      go_ret
      exact ⟨by rw [Q.out]; rfl, rfl⟩
     ·have Q := Lib.hid (hinv.step HX.out q); clear q R
      have q3' : k < 1 := by omega
      clear q3 hcell1
      go_wp2_with (go_at_call 97; refine (isResource_any _ _).mono ?_; rintro e w' ⟨rfl, rfl⟩)
      go_round
      case rel => exact ⟨k + 1, hlt, by go_num, Q.out⟩
      case measure => simp [intOf]; omega
     ·have Q := Lib.hid (hinv.stop HX.out q); clear q R
      go_wp2_with (go_at_call 97; refine (isResource_any _ _).mono ?_; rintro e w' ⟨rfl, rfl⟩)
      go_ret
      exact ⟨by rw [Q.out]; rfl, rfl⟩
     ·have Q := Lib.hid (hinv.step HX.out q); clear q R
      go_wp2_with (go_at_call 97; refine (isResource_any _ _).mono ?_; rintro e w' ⟨rfl, rfl⟩)
      go_round
      case rel => exact ⟨k + 1, hlt, by go_num, Q.out⟩
      case measure => simp [intOf]; omega
    ·obtain rfl : k = s.pts.length := by omega
     have Q : Hid (stageOk s = (isClk s.mn && isClk s.nt)) := by show stageOk s = (isClk s.mn && isClk s.nt); simp [stageOk, hinv.done, g1, g2]
     by_cases g3 : isClk s.mn = true
     ·go_wp2_with (go_at_call 98; refine (isClock_any _ _).mono ?_; rintro e w' ⟨rfl, rfl⟩)
      go_ret
      exact ⟨by rw [Q.out, g3]; rfl, rfl⟩
     ·have g3' : isClk s.mn = false := by simpa using g3
      go_wp2_with (go_at_call 98; refine (isClock_any _ _).mono ?_; rintro e w' ⟨rfl, rfl⟩)
      go_ret
      exact ⟨by rw [Q.out, g3']; rfl, rfl⟩
  ·have g2' : decide ((2 : Int) < (s.pts.length : Int)) = true := by simp; omega
   have Q : Hid (stageOk s = false) := by show stageOk s = false; simp [stageOk, g2]
   go_enter Try.func93, Try.ntmps93
   go_wp2_with (go_at_call 97; refine (isResource_any _ _).mono ?_; rintro e w' ⟨rfl, rfl⟩)
   go_ret
   exact ⟨by rw [Q.out]; rfl, rfl⟩
 ·have g1' : isRes s.sec = false := by simpa using g1
  have Q : Hid (stageOk s = false) := by show stageOk s = false; simp [stageOk, g1']
  go_enter Try.func93, Try.ntmps93
  go_wp2_with (go_at_call 97; refine (isResource_any _ _).mono ?_; rintro e w' ⟨rfl, rfl⟩)
  go_ret
  exact ⟨by rw [Q.out]; rfl, rfl⟩

set_option maxHeartbeats 1000000 in
theorem validStage_any (s : Stage) (Ap : Option Addr) (cp : Nat) (w : World) (S : Foot) (h : RInts w S [.slice Ap s.pts.length cp] s.pts) (hS : ∀ b, S b → b < w.heap.size) :
  Calls Try.prog 92 #[.agg #[.int .i64 s.sec, .slice Ap s.pts.length cp, .int .i64 s.mn, .int .i64 s.nt]] w fun e w' => e = .returned (.bool (stageOk s)) ∧ w' = w.alloc (.cells #[.int .i64 s.sec, .slice Ap s.pts.length cp, .int .i64 s.mn, .int .i64 s.nt] 99) := by
 have hc := h.caps
 have HS := Lib.hid hS; clear hS
 have H := Lib.hid h; clear h
 by_cases g1 : isRes s.sec = true
 ·by_cases g2 : s.pts.length ≤ 2
  ·have g2' : decide ((2 : Int) < (s.pts.length : Int)) = false := by simp; omega
   by_cases g3 : isClk s.mn = true
   rotate_left
   ·have g3' : isClk s.mn = false := by simpa using g3
    have Q : Hid (stageOk s = false) := by show stageOk s = false; simp [stageOk, g3']
    go_enter Try.func92, Try.ntmps92
    go_wp2_with (first | (go_at_call 96; refine (resource_any _ _).mono ?_; rintro e w' ⟨rfl, rfl⟩) | (go_at_call 60; refine (seconds_any _ _).mono ?_; rintro e w' ⟨rfl, rfl⟩))
    go_ret
    exact ⟨by rw [Q.out]; rfl, rfl⟩
   by_cases g4 : isClk s.nt = true
   rotate_left
   ·have g4' : isClk s.nt = false := by simpa using g4
    have Q : Hid (stageOk s = false) := by show stageOk s = false; simp [stageOk, g4']
    go_enter Try.func92, Try.ntmps92
    go_wp2_with (first | (go_at_call 96; refine (resource_any _ _).mono ?_; rintro e w' ⟨rfl, rfl⟩) | (go_at_call 60; refine (seconds_any _ _).mono ?_; rintro e w' ⟨rfl, rfl⟩))
    go_ret
    exact ⟨by rw [Q.out]; rfl, rfl⟩
   go_enter Try.func92, Try.ntmps92
   go_wp2_with (first | (go_at_call 96; refine (resource_any _ _).mono ?_; rintro e w' ⟨rfl, rfl⟩) | (go_at_call 60; refine (seconds_any _ _).mono ?_; rintro e w' ⟨rfl, rfl⟩))
   go_loop [30] (fun i => ∃ k : Nat, k ≤ s.pts.length ∧ i = .int .i64 k ∧ PtsInv s k) (fun i => s.pts.length - (intOf i).toNat)
   case atStart => exact ⟨0, Nat.zero_le _, rfl, rfl⟩
   case round =>
    obtain ⟨k, hk, rfl, hinv⟩ := hrel
    by_cases hlt : k < s.pts.length
    ·obtain ⟨b, o, x, rfl, hb, hx, hcell⟩ := H.out.at_ hlt
     have hb' := HS.out b hb
     have hcell0 : (w.alloc (.cells #[.int .i64 s.sec, .slice (some ⟨b, o, none⟩) s.pts.length cp, .int .i64 s.mn, .int .i64 s.nt] 99)).cell? ⟨b, o + k, none⟩ = some (.int .i64 x) := (World.cell?_alloc_lt w _ ⟨b, o + k, none⟩ hb').trans hcell
     have HX := Lib.hid hx; clear hx hcell
     have hp0 : 0 < s.pts.length := by omega
     obtain ⟨b', o', y, he, _, hy, hcelly⟩ := H.out.at_ hp0
     injection he with he; injection he with he1 he2; subst he1 he2
     have hcell1 : (w.alloc (.cells #[.int .i64 s.sec, .slice (some ⟨b, o, none⟩) s.pts.length cp, .int .i64 s.mn, .int .i64 s.nt] 99)).cell? ⟨b, o, none⟩ = some (.int .i64 y) := (World.cell?_alloc_lt w _ ⟨b, o, none⟩ hb').trans hcelly
     have hyh : s.pts.headD 0 = y := by rw [List.headD_eq_head?_getD, List.head?_eq_getElem?, hy]; rfl
     have R := Lib.hid (pts_cases s k x); rw [hyh] at R; clear hyh hy hcelly
     rcases R.out with ⟨q1, q⟩ | ⟨q1, q2, q⟩ | ⟨q1, q2, q3, q⟩ | ⟨q1, q2, q3, q4, q⟩ | ⟨q1, q2, q3, q4, q⟩
     ·have Q := Lib.hid (hinv.stop HX.out q); clear q R
      go_wp2_with (go_at_call 96; refine (resource_any _ _).mono ?_; rintro e w' ⟨rfl, rfl⟩)
      go_ret
      exact ⟨by rw [Q.out]; rfl, rfl⟩
     ·have Q := Lib.hid (hinv.stop HX.out q); clear q R
      go_wp2_with (go_at_call 96; refine (resource_any _ _).mono ?_; rintro e w' ⟨rfl, rfl⟩)
      go_ret
      exact ⟨by rw [Q.out]; rfl, rfl⟩
     ·have Q := Lib.hid (hinv.step HX.out q); clear q R
      have q3' : k < 1 := by omega
      clear q3 hcell1
      go_wp2_with (go_at_call 96; refine (resource_any _ _).mono ?_; rintro e w' ⟨rfl, rfl⟩)
      go_round
      case rel => exact ⟨k + 1, hlt, by go_num, Q.out⟩
      case measure => simp [intOf]; omega
     ·have Q := Lib.hid (hinv.stop HX.out q); clear q R
      go_wp2_with (go_at_call 96; refine (resource_any _ _).mono ?_; rintro e w' ⟨rfl, rfl⟩)
      go_ret
      exact ⟨by rw [Q.out]; rfl, rfl⟩
     ·have Q := Lib.hid (hinv.step HX.out q); clear q R
      go_wp2_with (go_at_call 96; refine (resource_any _ _).mono ?_; rintro e w' ⟨rfl, rfl⟩)
      go_round
      case rel => exact ⟨k + 1, hlt, by go_num, Q.out⟩
      case measure => simp [intOf]; omega
    ·obtain rfl : k = s.pts.length := by omega
     have Q : Hid (stageOk s = true) := by show stageOk s = true; simp [stageOk, hinv.done, g1, g2, g3, g4]
     go_wp2
     go_ret
     exact ⟨by rw [Q.out]; rfl, rfl⟩
  ·have g2' : decide ((2 : Int) < (s.pts.length : Int)) = true := by simp; omega
   have Q : Hid (stageOk s = false) := by show stageOk s = false; simp [stageOk, g2]
   go_enter Try.func92, Try.ntmps92
   go_wp2_with (go_at_call 96; refine (resource_any _ _).mono ?_; rintro e w' ⟨rfl, rfl⟩)
   go_ret
   exact ⟨by rw [Q.out]; rfl, rfl⟩
 ·have g1' : isRes s.sec = false := by simpa using g1
  have Q : Hid (stageOk s = false) := by show stageOk s = false; simp [stageOk, g1']
  go_enter Try.func92, Try.ntmps92
  go_wp2_with (go_at_call 96; refine (resource_any _ _).mono ?_; rintro e w' ⟨rfl, rfl⟩)
  go_ret
  exact ⟨by rw [Q.out]; rfl, rfl⟩

end Go.Proofs.Ytilbbpbjhoidhaa
