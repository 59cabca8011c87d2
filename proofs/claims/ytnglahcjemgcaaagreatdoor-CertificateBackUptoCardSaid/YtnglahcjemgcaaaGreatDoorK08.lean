/- A run with known data: what one operation does to labels. No condition. A region that draws its order, in two phases: all operations of the second wait for all of the first. No condition. A run with known data: regions, code and calls. No condition. A run with known data: what is followed is what the machine does: operations that read nothing, that read, that make blocks. No condition. -/
import Derived.Test.YtnglahcjemgcaaaGreatDoorK07
import Derived.Test.YtnglahcjemgcaaaGreatDoorK03
import Derived.Laws.Tables
import Derived.Laws.CopyRow
import Derived.Laws.AppendOwn
import Derived.Deep.MidRow
import Derived.Great.FillDense
namespace Go.Proofs.YtnglahcjemgcaaaGreatDoor
section
open Go.RowKit

structure TI where
  d : TypeDesc
  size : Nat
  bytes : Nat
  zero : List Value
  agg : Bool
  zv : Value
def isRowB : TypeDesc → Bool
  | .struct _ | .array _ _ => true
  | _ => false
def mkTI (P : Program) (t : Nat) : Option TI :=
  match P.underlying t, P.info? t with
  | some d, some i => match i.zero with
    | some z => some ⟨d, i.size, i.bytes, z.cells.toList, isRowB d, z⟩
    | none => none
  | _, _ => none
abbrev TyT := Nat → Option TI

/-- a computation that asks nothing of memory -/
def qv {α : Type} (P : Program) : Sem α → Option α
  | .pure a => some a
  | .program k => qv P (k P)
  | .mark _ k => qv P k
  | _ => none

inductive AR where
  | val (v : Value) (H : Hp)
  | skip (H : Hp)
  | call (f : Nat) (args : List Value)
/-- what a new block's value is -/
inductive MK where
  | p
  | s (n c : Nat)
  | mp
def MK.at : MK → Nat → Value
  | .p, L => .pointer (some ⟨L, 0, none⟩)
  | .s n c, L => .slice (some ⟨L, 0, none⟩) n c
  | .mp, L => .map (some L)

/-- views of values -/
structure PA where
  L : Nat
  o : Nat
structure SA where
  L : Nat
  o : Nat
  n : Nat
  c : Nat
def asPtr : Value → Option PA
  | .pointer (some ⟨L, o, none⟩) => some ⟨L, o⟩
  | _ => none
def asSlc : Value → Option SA
  | .slice (some ⟨L, o, none⟩) n c => some ⟨L, o, n, c⟩
  | _ => none
def asI64 : Value → Option Int
  | .int .i64 n => some n
  | _ => none
def asU8 : Value → Option Int
  | .int .u8 n => some n
  | _ => none
def asStr : Value → Option ByteArray
  | .string s => some s
  | _ => none
def asAggL : Value → Option (List Value)
  | .agg c => some c.toList
  | _ => none
def asTupL : Value → Option (List Value)
  | .tuple c => some c.toList
  | _ => none
/-- lists by number -/
def nthO {α : Type} : List α → Nat → Option α
  | [], _ => none
  | a :: l, n => match n with
    | 0 => some a
    | n + 1 => nthO l n
def nthV : List Value → Nat → Value
  | [], _ => undef
  | a :: l, n => match n with
    | 0 => a
    | n + 1 => nthV l n
def takeL : Nat → List Value → List Value
  | 0, _ => []
  | n + 1, l => match l with
    | [] => []
    | a :: r => a :: takeL n r
def dropL : Nat → List Value → List Value
  | 0, l => l
  | n + 1, l => match l with
    | [] => []
    | _ :: r => dropL n r
def lenL : List Value → Nat
  | [] => 0
  | _ :: r => Nat.succ (lenL r)
def setL : List Value → Nat → Value → List Value
  | [], _, _ => []
  | a :: l, n, v => match n with
    | 0 => v :: l
    | n + 1 => a :: setL l n v
def appL : List Value → List Value → List Value
  | [], b => b
  | a :: l, b => a :: appL l b
/-- vs in the place of as many values from o on -/
def over : List Value → List Value → List Value
  | c, [] => c
  | [], _ => []
  | _ :: c, v :: vs => v :: over c vs
def spl : Nat → List Value → List Value → List Value
  | 0, c, vs => over c vs
  | o + 1, c, vs => match c with
    | [] => []
    | a :: r => a :: spl o r vs

/-- kinds of operations: 0 reads nothing, 1 reads memory, 2 makes a block, 3 does more -/
def kindOf : Op → Nat
  | .move _ | .assign _ | .pick .. | .build .. | .nilCheck _ | .unOp .. | .slice .. | .fieldAddr .. | .field .. | .indexAddr .. | .index .. | .extract .. | .makeFunc .. => 0
  | .binOp .. | .convert .. | .load .. | .lookup .. => 1
  | .alloc _ | .box .. | .buildSlice .. | .makeSlice .. | .makeMap .. | .range .. => 2
  | .call c => match c.callee with | .builtin .len | .builtin .cap | .builtin .min | .builtin .max => 1 | _ => 3
  | _ => 3

/-- what is known of types -/
def fldI (T : TyT) (t f : Nat) : Option (Nat × TI) :=
  match T t with
  | some ti => match ti.d with
    | .struct fields => match nthO fields.toList f with
      | some fd => match T fd.type with
        | some tf => some (fd.offset, tf)
        | none => none
      | none => none
    | _ => none
  | none => none
def slcI (T : TyT) (t : Nat) : Option (Nat × TI) :=
  match T t with
  | some ti => match ti.d with
    | .slice e => match T e with
      | some te => some (e, te)
      | none => none
    | _ => none
  | none => none
def arrI (T : TyT) (t : Nat) : Option (Nat × Nat × TI) :=
  match T t with
  | some ti => match ti.d with
    | .array n e => match T e with
      | some te => some (n, e, te)
      | none => none
    | _ => none
  | none => none
def zeroA (ti : TI) : Option Value :=
  match closedV ti.zv with
  | true => some ti.zv
  | false => none
def mapI (T : TyT) (t : Nat) : Option (Nat × TypeDesc × Nat × Value) :=
  match T t with
  | some ti => match ti.d with
    | .map k e => match T k, T e with
      | some tk, some te => match zeroA te with
        | some z => some (k, tk.d, e, z)
        | none => none
      | _, _ => none
    | _ => none
  | none => none
def placesA (T : TyT) : List Field → Option (List (Nat × Nat))
  | [] => some []
  | f :: r => match T f.type, placesA T r with
    | some tf, some l => some ((f.offset, tf.size) :: l)
    | _, _ => none
inductive BP where
  | str (pl : List (Nat × Nat))
  | arr (size : Nat)
def BP.at : BP → Nat → Option (Nat × Nat)
  | .str pl, i => nthO pl i
  | .arr n, i => some (i * n, n)
def bldI (T : TyT) (t : Nat) : Option (List Value × BP) :=
  match T t with
  | some ti => match ti.zero.all closedS with
    | false => none
    | true => match ti.d with
      | .struct fields => match placesA T fields.toList with
        | some pl => some (ti.zero, .str pl)
        | none => none
      | .array _ e => match T e with
        | some te => some (ti.zero, .arr te.size)
        | none => none
      | _ => none
  | none => none
/-- an element's type for a row of zeros -/
def zelI (T : TyT) (t : Nat) : Option (Nat × TI) :=
  match slcI T t with
  | some (e, te) => match te.zero.all closedS && Nat.beq te.zero.length te.size && Nat.blt 0 te.size with
    | true => some (e, te)
    | false => none
  | none => none

def fillL (place : BP) : List Value → List (Nat × Value) → Option (List Value)
  | c, [] => some c
  | c, (i, v) :: r => match place.at i with
    | none => none
    | some (off, size) =>
      match Nat.beq v.cells.toList.length size && Nat.ble (off + v.cells.toList.length) c.length with
      | true => fillL place (spl off c v.cells.toList) r
      | false => none
def zerosL (z : List Value) (n : Nat) : List Value := (List.range n).map fun i => z.getD (i % z.length) undef
def partL (ti : TI) (c : List Value) (o : Nat) : Option Value :=
  match ti.agg with
  | true => match Nat.beq (lenL (takeL ti.size (dropL o c))) ti.size with
    | true => some (.agg ⟨takeL ti.size (dropL o c)⟩)
    | false => none
  | false => nthO c o
def scal : Value → Bool
  | .agg _ | .tuple _ => false
  | _ => true
/-- a number in its shortest form -/
def nseq {α : Type} (n : Nat) (f : Nat → α) : α := match n with
  | 0 => f 0
  | m + 1 => f (Nat.succ m)
def natV (n : Nat) : Value := nseq n fun m => .int .i64 (.ofNat m)
def negV (n : Nat) : Value := nseq n fun m => .int .i64 (.negSucc m)
def one (t : Value) (H : Hp) : Option AR := some (.val t H)
def lim63 (n : Nat) : Bool := Nat.blt n 9223372036854775808
/-- 64-bit arithmetic where nothing wraps round -/
def addA (a b : Int) : Option Value := match a, b with
  | .ofNat m, .ofNat n => match lim63 (Nat.add m n) with
    | true => some (natV (Nat.add m n))
    | false => none
  | .ofNat m, .negSucc n => match Nat.blt n m with
    | true => match lim63 m with
      | true => some (natV (Nat.sub m (Nat.succ n)))
      | false => none
    | false => match lim63 n with
      | true => some (negV (Nat.sub n m))
      | false => none
  | .negSucc m, .ofNat n => match Nat.blt m n with
    | true => match lim63 n with
      | true => some (natV (Nat.sub n (Nat.succ m)))
      | false => none
    | false => match lim63 m with
      | true => some (negV (Nat.sub m n))
      | false => none
  | _, _ => none
def subA (a b : Int) : Option Value := match b with
  | .ofNat 0 => addA a (.ofNat 0)
  | .ofNat (n + 1) => addA a (.negSucc n)
  | .negSucc n => addA a (.ofNat (Nat.succ n))
def mulA (a b : Int) : Option Value := match a, b with
  | .ofNat m, .ofNat n => match lim63 (Nat.mul m n) with
    | true => some (natV (Nat.mul m n))
    | false => none
  | _, _ => none
def ltA (a b : Int) : Bool := match a, b with
  | .ofNat m, .ofNat n => Nat.blt m n
  | .ofNat _, .negSucc _ => false
  | .negSucc _, .ofNat _ => true
  | .negSucc m, .negSucc n => Nat.blt n m
def eqI (a b : Int) : Bool := match a, b with
  | .ofNat m, .ofNat n => Nat.beq m n
  | .negSucc m, .negSucc n => Nat.beq m n
  | _, _ => false
def divA (a b : Int) : Option Value := match a, b with
  | .ofNat m, .ofNat (n + 1) => match lim63 m with
    | true => some (natV (Nat.div m (Nat.succ n)))
    | false => none
  | _, _ => none
def remA (a b : Int) : Option Value := match a, b with
  | .ofNat m, .ofNat (n + 1) => match lim63 m with
    | true => some (natV (Nat.mod m (Nat.succ n)))
    | false => none
  | _, _ => none
def int64 (op : BinOp) (a b : Int) : Option Value :=
  match op with
  | .add => addA a b
  | .sub => subA a b
  | .mul => mulA a b
  | .quo => divA a b
  | .rem => remA a b
  | .eql => some (.bool (eqI a b))
  | .neq => some (.bool (!(eqI a b)))
  | .lss => some (.bool (ltA a b))
  | .leq => some (.bool (!(ltA b a)))
  | .gtr => some (.bool (ltA b a))
  | .geq => some (.bool (!(ltA a b)))
  | _ => none
def cmpA (op : BinOp) (a b : Int) : Option Value :=
  match op with
  | .eql => some (.bool (eqI a b))
  | .neq => some (.bool (!(eqI a b)))
  | .lss => some (.bool (ltA a b))
  | .leq => some (.bool (!(ltA b a)))
  | .gtr => some (.bool (ltA b a))
  | .geq => some (.bool (!(ltA a b)))
  | _ => none
/-- are two values with addresses the same? -/
def ptrEq (T : TyT) (H : Hp) (t : Nat) (a b : Addr) : Option Bool :=
  match T t with
  | none => none
  | some ti => match ti.d with
    | .pointer e => match T e with
      | none => none
      | some te => match Nat.beq te.size 0, a, b with
        | false, ⟨L, o, none⟩, ⟨M, p, none⟩ => match Nat.beq L M with
          | true => some (Nat.beq o p)
          | false => match H.at L, H.at M with
            | some (.cells (_ :: _) _ _), some (.cells (_ :: _) _ _) => some false
            | _, _ => none
        | _, _, _ => none
    | _ => none
inductive TK where
  | ptr
  | slc
  | mp
  | fn
def tkI (T : TyT) (t : Nat) : Option TK :=
  match T t with
  | none => none
  | some ti => match ti.d with
    | .pointer _ => some .ptr
    | .slice _ => some .slc
    | .map _ _ => some .mp
    | .func _ _ _ => some .fn
    | _ => none
def eqA (T : TyT) (H : Hp) (t : Nat) (x y : Value) : Option Bool :=
  match tkI T t with
  | some .ptr => match x, y with
    | .pointer none, .pointer b => some b.isNone
    | .pointer (some _), .pointer none => some false
    | .pointer (some a), .pointer (some b) => ptrEq T H t a b
    | _, _ => none
  | some .slc => match x, y with
    | .slice none _ _, .slice b _ _ => some b.isNone
    | .slice (some _) _ _, .slice none _ _ => some false
    | _, _ => none
  | some .mp => match x, y with
    | .map none, .map b => some b.isNone
    | .map (some _), .map none => some false
    | _, _ => none
  | some .fn => match x, y with
    | .nilFunc, .nilFunc => some true
    | .nilFunc, .func _ _ _ => some false
    | .func _ _ _, .nilFunc => some false
    | _, _ => none
  | none => none
def natOf : Value → Option Nat
  | .int .i64 (.ofNat n) => some n
  | _ => none
def natOr (d : Nat) : Option Value → Option Nat
  | none => some d
  | some v => natOf v
def sliceN (size : Nat) (L o n c l h : Nat) : Option Value :=
  match Nat.beq c FULL with
  | true => match Nat.ble l h && Nat.ble h n && Nat.blt 0 size with
    | true => match Nat.blt l h || Nat.beq l 0 with
      | true => some (.slice (some ⟨L, o + l * size, none⟩) (h - l) FULL)
      | false => some (.slice (some ⟨L, o, some 0⟩) 0 FULL)
    | false => none
  | false => match Nat.ble l h && Nat.ble h c && Nat.blt c FULL with
    | true => some (.slice (some ⟨L, if c = l then o else o + l * size, none⟩) (h - l) (c - l))
    | false => none
def sliceM (size : Nat) (L o n c l h m : Nat) : Option Value :=
  match Nat.ble l h && Nat.ble h m && (bif Nat.beq c FULL then Nat.ble m n else Nat.ble m c && Nat.blt c FULL) && Nat.blt m FULL with
  | true => some (.slice (some ⟨L, if m = l then o else o + l * size, none⟩) (h - l) (m - l))
  | false => none
def sliceA (size : Nat) (b : Option Addr) (n c : Nat) (lo hi mx : Option Value) : Option Value :=
  match natOr 0 lo, natOr n hi with
  | some l, some h => match b with
    | none => match Nat.beq l 0 && Nat.beq h 0 && mx.isNone && Nat.beq n 0 && Nat.beq c 0 with
      | true => some (.slice none 0 0)
      | false => none
    | some ⟨L, o, none⟩ => match mx with
      | none => sliceN size L o n c l h
      | some m => match natOf m with
        | none => none
        | some m => match hi.isSome with
          | true => sliceM size L o n c l h m
          | false => none
    | _ => none
  | _, _ => none
def lenA : Value → Option Nat
  | .slice _ n _ => some n
  | _ => none
/-- the first cells of a slice or a string -/
def firstA (H : Hp) (k : Nat) : Value → Option (List Value)
  | .slice (some ⟨L, o, none⟩) _ _ => match H.at L with
    | some (.cells c _ _) => match Nat.beq (lenL (takeL k (dropL o c))) k with
      | true => some (takeL k (dropL o c))
      | false => none
    | _ => none
  | .slice none _ _ => match k with | 0 => some [] | _ => none
  | .slice (some ⟨_, _, some _⟩) _ _ => match k with | 0 => some [] | _ => none
  | _ => none
def storeA (H : Hp) (L o : Nat) (vs : List Value) : Option Hp :=
  match H.at L with
  | some (.cells c e es) => match Nat.ble (o + lenL vs) (lenL c) && vs.all scal && labOk L with
    | true => some (H.add L (.cells (spl o c vs) e es))
    | false => none
  | _ => none
def sliceOrStr (T : TyT) (t : Nat) : Bool :=
  match T t with
  | some ti => match ti.d with | .slice _ => true | _ => false
  | none => false
/-- a row that grows: the new label stands for all of it -/
def growA (H : Hp) (lab : Nat) (e es L o n k : Nat) (cur news : List Value) : Option AR :=
  match Nat.beq o 0 && Nat.beq (n * es) (lenL cur) with
  | true => one (.slice (some ⟨lab, 0, none⟩) (n + k) FULL) ((H.del L).add lab (.cells (appL cur news) e es))
  | false => none
def appendB (H : Hp) (lab : Nat) (e size : Nat) (s : Value) (L o n c k : Nat) (news : List Value) : Option AR :=
  match H.at L with
  | some (.cells cur e' es) => match Nat.beq e e' && Nat.ble (o + n * size) (lenL cur) && labOk L with
    | false => none
    | true => match Nat.beq c FULL with
      | true => match Nat.beq es size with
        | true => match k with
          | 0 => one s H
          | _ => growA H lab e es L o n k cur news
        | false => none
      | false => match Nat.blt c FULL with
        | false => none
        | true => match Nat.ble (n + k) c with
          | true => match storeA H L (o + n * size) news with
            | some H' => one (.slice (some ⟨L, o, none⟩) (n + k) c) H'
            | none => none
          | false => one (.slice (some ⟨lab, 0, none⟩) (n + k) FULL) (H.add lab (.cells (appL (takeL (n * size) (dropL o cur)) news) e size))
  | _ => none
def appendA (T : TyT) (H : Hp) (lab : Nat) (t1 t2 : Nat) (s x : Value) : Option AR :=
  match slcI T t1, sliceOrStr T t2 with
  | some (e, te), true => match s, lenA x with
    | .slice b n c, some k => match firstA H (k * te.size) x with
      | none => none
      | some news => match Nat.blt 0 te.size && Nat.beq te.zero.length te.size && news.all scal && Nat.blt ((n + k + 1) * (te.bytes + 1)) 1000000000 && labOk lab with
        | false => none
        | true => match b with
          | none => match n, c with
            | 0, 0 => match k with
              | 0 => one (.slice none 0 0) H
              | _ => one (.slice (some ⟨lab, 0, none⟩) k FULL) (H.add lab (.cells news e te.size))
            | _, _ => none
          | some ⟨L, o, none⟩ => appendB H lab e te.size s L o n c k news
          | _ => none
    | _, _ => none
  | _, _ => none
def strEq (a b : ByteArray) : Bool := decide (a.data.toList.map (·.toNat) = b.data.toList.map (·.toNat))
/-- where a key stands -/
def isIntD : TypeDesc → Bool
  | .int _ => true
  | _ => false
def keyEq (P : Program) (d : TypeDesc) (t : Nat) (k k' : Value) : Option Bool :=
  match isIntD d with
  | true => match asI64 k with
    | some a => match asI64 k' with
      | some b => some (eqI a b)
      | none => qv P (Op.equal t k k')
    | none => qv P (Op.equal t k k')
  | false => qv P (Op.equal t k k')
def keyAt (P : Program) (d : TypeDesc) (t : Nat) (k : Value) : List (Value × Value × Nat) → Nat → Option (Option (Nat × Value × Value × Nat))
  | [], _ => some none
  | e :: r, i => match keyEq P d t k e.1 with
    | some true => some (some (i, e))
    | some false => keyAt P d t k r (i + 1)
    | none => none
def mapA (H : Hp) : Value → Option (List (Value × Value × Nat))
  | .map none => some []
  | .map (some L) => match H.at L with
    | some (.map m _) => some m
    | _ => none
  | _ => none
/-- an operation on values without addresses that asks nothing of memory -/
def quietA (P : Program) (ρ : Operand → Value) (o : Oper) : Option Value :=
  match o.op.operands.toList.all (fun x => closedV (ρ x)) with
  | true => match qv P (execOp ρ o) with
    | some (.value v) => match closedV v with | true => some v | false => none
    | _ => none
  | false => none
def oPick (c a b : Value) : Option Value := match c with
  | .bool true => some a
  | .bool false => some b
  | _ => none
def oBuild (T : TyT) (ρ : Operand → Value) (t : Nat) (parts : Array (Nat × Operand)) : Option Value :=
  match bldI T t with
  | some (z, bp) => match fillL bp z (parts.toList.map fun p => (p.1, ρ p.2)) with
    | some c => some (.agg ⟨c⟩)
    | none => none
  | none => none
def oNil : Value → Option Value
  | .pointer (some a) => some (.pointer (some a))
  | .func (.func f) a b => some (.func (.func f) a b)
  | _ => none
def oUn (P : Program) (ρ : Operand → Value) (o : Oper) (op : UnOp) (x : Value) : Option Value :=
  match op, x with
  | .not, .bool b => some (.bool (!b))
  | _, _ => quietA P ρ o
def oSliceP (T : TyT) (ρ : Operand → Value) (t L o : Nat) (lo hi mx : Option Operand) : Option Value :=
  match arrI T t with
  | some (n, _, te) => match natOr 0 (lo.map ρ), natOr n (hi.map ρ), natOr n (mx.map ρ) with
    | some l, some h, some m => match Nat.ble l h && Nat.ble h m && Nat.ble m n && Nat.blt n FULL && (hi.isSome || mx.isNone) with
      | true => some (.slice (some ⟨L, if m = l then o else o + l * te.size, none⟩) (h - l) (m - l))
      | false => none
    | _, _, _ => none
  | none => none
def oSliceS (T : TyT) (ρ : Operand → Value) (t : Nat) (b : Option Addr) (n c : Nat) (lo hi mx : Option Operand) : Option Value :=
  match slcI T t with
  | some (_, te) => sliceA te.size b n c (lo.map ρ) (hi.map ρ) (mx.map ρ)
  | none => none
def oSlice (P : Program) (T : TyT) (ρ : Operand → Value) (o : Oper) (t : Nat) (x : Value) (lo hi mx : Option Operand) : Option Value :=
  match x with
  | .pointer (some ⟨L, off, none⟩) => oSliceP T ρ t L off lo hi mx
  | .slice b n c => oSliceS T ρ t b n c lo hi mx
  | _ => quietA P ρ o
def oFieldAddr (T : TyT) (t f : Nat) (x : Value) : Option Value :=
  match asPtr x with
  | some p => match fldI T t f with
    | some (off, tf) => match Nat.beq tf.size 0 with
      | true => none
      | false => some (.pointer (some ⟨p.L, Nat.add p.o off, none⟩))
    | none => none
  | none => none
def oField (T : TyT) (t f : Nat) (x : Value) : Option Value :=
  match asAggL x with
  | some cs => match fldI T t f with
    | some (off, tf) => partL tf cs off
    | none => none
  | none => none
def oIndexS (T : TyT) (t i : Nat) (p : SA) : Option Value :=
  match slcI T t with
  | some (_, te) => match Nat.blt i p.n with
    | true => some (.pointer (some ⟨p.L, Nat.add p.o (Nat.mul i te.size), none⟩))
    | false => none
  | none => none
def oIndexP (T : TyT) (t i : Nat) (x : Value) : Option Value :=
  match asPtr x with
  | some p => match arrI T t with
    | some (n, _, te) => match Nat.blt i n with
      | true => some (.pointer (some ⟨p.L, Nat.add p.o (Nat.mul i te.size), none⟩))
      | false => none
    | none => none
  | none => none
def oIndexAddr (T : TyT) (t : Nat) (x ix : Value) : Option Value :=
  match natOf ix with
  | some i => match asSlc x with
    | some p => oIndexS T t i p
    | none => oIndexP T t i x
  | none => none
def strTy (T : TyT) (t : Nat) : Bool := match T t with
  | some ti => match ti.d with | .string => true | _ => false
  | none => false
def oIndexStr (P : Program) (T : TyT) (ρ : Operand → Value) (o : Oper) (t : Nat) (x ix : Value) : Option Value :=
  match asStr x with
  | some s => match natOf ix with
    | some i => match strTy T t with
      | true => match nthO s.data.toList i with
        | some b => nseq b.toNat fun m => some (.int .u8 (.ofNat m))
        | none => none
      | false => none
    | none => quietA P ρ o
  | none => quietA P ρ o
def oIndex (P : Program) (T : TyT) (ρ : Operand → Value) (o : Oper) (t : Nat) (x ix : Value) : Option Value :=
  match asAggL x with
  | some cs => match natOf ix with
    | some i => match arrI T t with
      | some (n, _, te) => match Nat.blt i n with
        | true => partL te cs (Nat.mul i te.size)
        | false => none
      | none => none
    | none => none
  | none => oIndexStr P T ρ o t x ix
def oExtract (x : Value) (i : Nat) : Option Value := match asTupL x with
  | some vs => nthO vs i
  | none => none
def aop0 (P : Program) (T : TyT) (ρ : Operand → Value) (o : Oper) : Option Value :=
  match o.op with
  | .move x => some (ρ x)
  | .assign x => some (ρ x)
  | .pick c a b => oPick (ρ c) (ρ a) (ρ b)
  | .build t parts => oBuild T ρ t parts
  | .nilCheck x => oNil (ρ x)
  | .unOp op _ x => oUn P ρ o op (ρ x)
  | .makeFunc fn a b => some (.func fn ⟨a.toList.map ρ⟩ ⟨b.toList.map ρ⟩)
  | .slice t x lo hi mx => oSlice P T ρ o t (ρ x) lo hi mx
  | .fieldAddr t x f => oFieldAddr T t f (ρ x)
  | .field t x f => oField T t f (ρ x)
  | .indexAddr t x ix => oIndexAddr T t (ρ x) (ρ ix)
  | .index t x ix => oIndex P T ρ o t (ρ x) (ρ ix)
  | .extract t i => oExtract (ρ t) i
  | _ => none
def oBin3 (P : Program) (T : TyT) (H : Hp) (ρ : Operand → Value) (o : Oper) (op : BinOp) (t : Nat) (u v : Value) : Option Value :=
  match closedV u && closedV v with
  | true => quietA P ρ o
  | false => match op with
    | .eql => match eqA T H t u v with | some b => some (.bool b) | none => none
    | .neq => match eqA T H t u v with | some b => some (.bool (!b)) | none => none
    | _ => none
def orQ (P : Program) (ρ : Operand → Value) (o : Oper) : Option Value → Option Value
  | some v => some v
  | none => quietA P ρ o
def eqS (op : BinOp) (a b : ByteArray) : Option Value := match op with
  | .eql => some (.bool (strEq a b))
  | .neq => some (.bool (!(strEq a b)))
  | _ => none
def oBin2 (P : Program) (T : TyT) (H : Hp) (ρ : Operand → Value) (o : Oper) (op : BinOp) (t : Nat) (u v : Value) : Option Value :=
  match asStr u with
  | some a => match asStr v with
    | some b => orQ P ρ o (eqS op a b)
    | none => none
  | none => match asU8 u with
    | some a => match asU8 v with
      | some b => orQ P ρ o (cmpA op a b)
      | none => quietA P ρ o
    | none => oBin3 P T H ρ o op t u v
def oBin (P : Program) (T : TyT) (H : Hp) (ρ : Operand → Value) (o : Oper) (op : BinOp) (t : Nat) (u v : Value) : Option Value :=
  match asI64 u with
  | some a => match asI64 v with
    | some b => orQ P ρ o (int64 op a b)
    | none => quietA P ρ o
  | none => oBin2 P T H ρ o op t u v
def oLoad (T : TyT) (H : Hp) (t : Nat) (a : Value) : Option Value :=
  match asPtr a with
  | some p => match H.at p.L with
    | some (.cells c _ _) => match T t with
      | some ti => partL ti c p.o
      | none => none
    | _ => none
  | none => none
def lookV (ok : Bool) (z : Value) (r : Option (Nat × Value × Value × Nat)) : Value :=
  match ok, r with
  | true, some (_, x) => .tuple ⟨[x.2.1, .bool true]⟩
  | true, none => .tuple ⟨[z, .bool false]⟩
  | false, some (_, x) => x.2.1
  | false, none => z
def oLookup (P : Program) (T : TyT) (H : Hp) (t : Nat) (m k : Value) (ok : Bool) : Option Value :=
  match mapI T t, mapA H m, closedV k with
  | some (kt, kd, _, z), some l, true => match qv P (Instr.checkKey l.isEmpty 10000 kt k), keyAt P kd kt k l 0 with
    | some _, some r => some (lookV ok z r)
    | _, _ => none
  | _, _, _ => none
def oLen (P : Program) (T : TyT) (H : Hp) (ρ : Operand → Value) (o : Oper) (ts : List Nat) (args : List Value) : Option Value :=
  match ts, args with
  | [t], [.slice _ n _] => match slcI T t with | some _ => some (natV n) | none => none
  | [t], [.map m] => match mapA H (.map m), mapI T t with
    | some l, some _ => some (.int .i64 l.length)
    | _, _ => none
  | [t], [.string s] => match strTy T t with
    | true => some (natV s.data.toList.length)
    | false => none
  | _, _ => quietA P ρ o
def mmA (mx : Bool) : List Value → Option Value
  | [x, y] => match asI64 x with
    | some a => match asI64 y with
      | some b => match mx, ltA a b with
        | true, true => some (.int .i64 b)
        | true, false => some (.int .i64 a)
        | false, true => some (.int .i64 a)
        | false, false => some (.int .i64 b)
      | none => none
    | none => none
  | _ => none
def oCall1 (P : Program) (T : TyT) (H : Hp) (ρ : Operand → Value) (o : Oper) (c : Call) : Option Value :=
  match c.callee with
  | .builtin .len => oLen P T H ρ o c.argTypes.toList (c.args.toList.map ρ)
  | .builtin .min => orQ P ρ o (mmA false (c.args.toList.map ρ))
  | .builtin .max => orQ P ρ o (mmA true (c.args.toList.map ρ))
  | _ => quietA P ρ o
def aop1 (P : Program) (T : TyT) (H : Hp) (ρ : Operand → Value) (o : Oper) : Option Value :=
  match o.op with
  | .binOp op t x y _ => oBin P T H ρ o op t (ρ x) (ρ y)
  | .load t a => oLoad T H t (ρ a)
  | .lookup t m k ok => oLookup P T H t (ρ m) (ρ k) ok
  | .call c => oCall1 P T H ρ o c
  | .convert .. => quietA P ρ o
  | _ => none
def oBuildSlice (T : TyT) (ρ : Operand → Value) (t n : Nat) (parts : Array (Nat × Operand)) : Option (EBlk × MK) :=
  match zelI T t with
  | some (e, te) => match Nat.blt (n * te.size) 16777216 with
    | true => match fillL (.arr te.size) (zerosL te.zero (n * te.size)) (parts.toList.map fun p => (p.1, ρ p.2)) with
      | some c => some (.cells c e 1, .s n n)
      | none => none
    | false => none
  | none => none
def oMakeSlice (T : TyT) (t : Nat) (l c : Value) : Option (EBlk × MK) :=
  match zelI T t, natOf l, natOf c with
  | some (e, te), some l, some c => match Nat.ble l c && Nat.blt (c * (te.bytes + 1)) 1000000000 with
    | true => some (.cells (zerosL te.zero (c * te.size)) e 1, .s l c)
    | false => none
  | _, _, _ => none
def oAlloc (T : TyT) (t : Nat) : Option (EBlk × MK) :=
  match T t with
  | some ti => match ti.zero.all closedS with
    | true => some (.cells ti.zero t 1, .p)
    | false => none
  | none => none
def oMakeMap (T : TyT) (ρ : Operand → Value) (t : Nat) (r : Option Operand) : Option (EBlk × MK) :=
  match r with
  | none => some (.map [] 0, .mp)
  | some x => match mapI T t, ρ x with
    | some _, .int _ _ => some (.map [] 0, .mp)
    | _, _ => none
def oRange (T : TyT) (t : Nat) (x : Value) : Option (EBlk × MK) :=
  match x, strTy T t with
  | .string s, true => some (.sit s 0, .p)
  | _, _ => none
def aop2 (T : TyT) (ρ : Operand → Value) (o : Oper) : Option (EBlk × MK) :=
  match o.op with
  | .alloc t => oAlloc T t
  | .box t x => some (.cells (ρ x).cells.toList t 1, .p)
  | .buildSlice t n parts => oBuildSlice T ρ t n parts
  | .makeMap t r => oMakeMap T ρ t r
  | .makeSlice t l c => oMakeSlice T t (ρ l) (ρ c)
  | .range t x => oRange T t (ρ x)
  | _ => none
def oStore (T : TyT) (H : Hp) (t : Nat) (a x : Value) : Option AR :=
  match asPtr a with
  | some p => match T t with
    | some ti => match Nat.beq (lenL x.cells.toList) ti.size with
      | true => match storeA H p.L p.o x.cells.toList with
        | some H' => some (.skip H')
        | none => none
      | false => none
    | none => none
  | none => none
def oMapUpdate (P : Program) (T : TyT) (H : Hp) (t : Nat) (m k x : Value) : Option AR :=
  match mapI T t, m with
  | some (kt, kd, _, _), .map (some L) => match H.at L, closedV k && labOk L, qv P (Instr.checkKey false 10000 kt k) with
    | some (.map l clk), true, some _ => match keyAt P kd kt k l 0 with
      | some none => some (.skip (H.add L (.map (l ++ [(k, x, clk)]) (clk + 1))))
      | some (some (i, e)) => match Instr.sameBits 10000 e.1 k with
        | true => some (.skip (H.add L (.map (l.set i (k, x, e.2.2)) clk)))
        | false => none
      | none => none
    | _, _, _ => none
  | _, _ => none
def oClear (T : TyT) (H : Hp) (ts : List Nat) (args : List Value) : Option AR :=
  match ts, args with
  | [t1], [.slice b n _] => match zelI T t1 with
    | some (_, te) => match b with
      | none => match n with | 0 => one undef H | _ => none
      | some ⟨L, o, none⟩ => match storeA H L o (zerosL te.zero (n * te.size)) with
        | some H' => one undef H'
        | none => none
      | _ => none
    | none => none
  | _, _ => none
def oCopy (T : TyT) (H : Hp) (ts : List Nat) (args : List Value) : Option AR :=
  match ts, args with
  | [t1, _], [.slice b n _, x] => match slcI T t1, lenA x with
    | some (_, te), some m => match firstA H (Nat.min m n * te.size) x with
      | some vs => match b with
        | none => match Nat.min m n with | 0 => one (.int .i64 (.ofNat 0)) H | _ => none
        | some ⟨L, o, none⟩ => match storeA H L o vs with
          | some H' => one (natV (Nat.min m n)) H'
          | none => none
        | _ => none
      | none => none
    | _, _ => none
  | _, _ => none
def oAppend (T : TyT) (H : Hp) (lab : Nat) (ts : List Nat) (args : List Value) : Option AR :=
  match ts, args with
  | [t1, t2], [s, x] => appendA T H lab t1 t2 s x
  | _, _ => none
def oCallV (f : Value) (args : List Value) : Option AR :=
  match f with
  | .func (.func g) a b => some (.call g (appL a.toList (appL args b.toList)))
  | _ => none
def oCall (T : TyT) (H : Hp) (lab : Nat) (ρ : Operand → Value) (c : Call) : Option AR :=
  match c.callee with
  | .value f => oCallV (ρ f) (c.args.toList.map ρ)
  | .builtin .append => oAppend T H lab c.argTypes.toList (c.args.toList.map ρ)
  | .builtin .clear => oClear T H c.argTypes.toList (c.args.toList.map ρ)
  | .builtin .copy => oCopy T H c.argTypes.toList (c.args.toList.map ρ)
  | _ => none
def aop3 (P : Program) (T : TyT) (H : Hp) (lab : Nat) (ρ : Operand → Value) (o : Oper) : Option AR :=
  match o.op with
  | .store t a x => oStore T H t (ρ a) (ρ x)
  | .mapUpdate t m k x => oMapUpdate P T H t (ρ m) (ρ k) (ρ x)
  | .insert t m k x => oMapUpdate P T H t (ρ m) (ρ k) (ρ x)
  | .call c => oCall T H lab ρ c
  | _ => none
def oneO (v : Option Value) (H : Hp) : Option AR := match v with
  | some v => some (.val v H)
  | none => none
def aopNew (T : TyT) (H : Hp) (lab : Nat) (ρ : Operand → Value) (o : Oper) : Option AR :=
  match aop2 T ρ o, labOk lab with
  | some (b, m), true => one (m.at lab) (H.add lab b)
  | _, _ => none
def aop (P : Program) (T : TyT) (H : Hp) (lab : Nat) (ρ : Operand → Value) (o : Oper) : Option AR :=
  match kindOf o.op with
  | 0 => oneO (aop0 P T ρ o) H
  | 1 => oneO (aop1 P T H ρ o) H
  | 2 => aopNew T H lab ρ o
  | _ => aop3 P T H lab ρ o
end

section
open Go.RowKit

/-- the edges that bind point back -/
def edgesBackB (l : List Oper) : Bool := (List.range l.length).all fun j => match l[j]? with | some o => o.after.toList.all (fun e => !Region.binds .any e || decide (e.on < j)) | none => true
/-- whoever may come up has all come up that he waits for -/
theorem waits_listedB {l : List Oper} (hb : edgesBackB l = true) {L : Nat → Prop} (hL : ∀ (j : Nat) (o : Oper), l[j]? = some o → L j → ∀ e ∈ o.after, Region.binds .any e = true → L e.on) :
    ∀ (n j : Nat) (o : Oper), j < n → l[j]? = some o → (∀ e ∈ o.after, Region.binds .any e = true → L e.on) → ∀ i, waits (masks l []) j i = true → L i
  | 0, j, o, h, _, _, _, _ => by omega
  | n + 1, j, o, hj, ho, he, i, hw => by
    obtain ⟨pre, h1, h2⟩ := masks_at l [] j o ho
    simp only [List.length_nil, Nat.zero_add] at h1 h2
    have hbk : o.after.toList.all (fun e => !Region.binds .any e || decide (e.on < j)) = true := by
      have := List.all_eq_true.1 hb j (List.mem_range.2 (List.getElem?_eq_some_iff.1 ho).1)
      simpa [ho] using this
    unfold waits at hw
    rw [List.getD_eq_getElem?_getD, h1] at hw
    rcases testBit_foldl pre i _ 0 hw with h0 | ⟨e, hem, hbd, hh⟩
    · simp at h0
    · have hej : e.on < j := by
        have h7 := List.all_eq_true.1 hbk e hem
        rw [hbd] at h7
        simpa using h7
      have hLe := he e (by simpa using hem) hbd
      rcases hh with rfl | hh
      · exact hLe
      · rw [h2 e.on hej] at hh
        have hlt : e.on < l.length := by have := (List.getElem?_eq_some_iff.1 ho).1; omega
        exact waits_listedB hb hL n e.on l[e.on] (by omega) (List.getElem?_eq_getElem hlt) (fun e' he' hb' => hL e.on _ (List.getElem?_eq_getElem hlt) hLe e' he' hb') i hh

end

section
open Go.RowKit

def evT (T : List Value) : Operand → Value
  | .tmp t => nthV T t
  | .const v => v
  | .global g => .pointer (some ⟨g, 0, none⟩)
  | .func f => .func (.func f) #[] #[]
def operOk : Operand → Bool
  | .tmp _ => true
  | .const v => closedV v
  | .global _ => false
  | .func _ => true
def putL (T : List Value) (d : Option Nat) (v : Value) : List Value :=
  match d with
  | some d => setL T d v
  | none => T
/-- how a piece of code ends -/
inductive Out where
  | bad
  | nrm (T : List Value) (H : Hp) (n : Nat)
  | ext (id : Nat) (T : List Value) (H : Hp) (n : Nat)
  | ret (T : List Value) (H : Hp) (n : Nat)
/-- how an operation ends -/
inductive Ov where
  | bad
  | ok (v : Value) (H : Hp) (n : Nat)
structure FI where
  nt : Nat
  res : List ResultVar
  body : Code
structure Env where
  P : Program
  T : TyT
  F : Nat → Option FI
  hook : Nat → List Value → Hp → Nat → Option (Value × Hp × Nat)
abbrev Rec := Code → List Value → Hp → Nat → Out

def resA (T : TyT) (H : Hp) (t : List Value) : List ResultVar → Option (List Value)
  | [] => some []
  | .tmp x :: r => match resA T H t r with
    | some l => some (nthV t x :: l)
    | none => none
  | .cell a ty :: r => match oLoad T H ty (nthV t a), resA T H t r with
    | some v, some l => some (v :: l)
    | _, _ => none
def oneOrTuple : List Value → Value
  | [v] => v
  | l => .tuple ⟨l⟩
def retA (T : TyT) (T1 : List Value) (H1 : Hp) (n1 : Nat) (res : List ResultVar) : Ov :=
  match resA T H1 T1 res with
  | some l => .ok (oneOrTuple l) H1 n1
  | none => .bad
def backA (T : TyT) (res : List ResultVar) : Out → Ov
  | .nrm T1 H1 n1 => retA T T1 H1 n1 res
  | .ret T1 H1 n1 => retA T T1 H1 n1 res
  | _ => .bad
def evCall (E : Env) (rec : Rec) (f : Nat) (args : List Value) (H : Hp) (n : Nat) : Ov :=
  match E.hook f args H n with
  | some (v, H', n') => .ok v H' n'
  | none => match E.F f with
    | none => .bad
    | some fi => backA E.T fi.res (rec fi.body (appL args (List.replicate (fi.nt - lenL args) undef)) H n)
def evAR (E : Env) (rec : Rec) (H : Hp) (n : Nat) : Option AR → Ov
  | some (.val v H') => .ok v H' n
  | some (.skip H') => .ok undef H' n
  | some (.call f args) => evCall E rec f args H n
  | none => .bad
def evOp (E : Env) (rec : Rec) (ρ : Operand → Value) (H : Hp) (lab n : Nat) (o : Oper) : Ov := evAR E rec H n (aop E.P E.T H lab ρ o)
def boolEq : Bool → Bool → Bool
  | true, true => true
  | false, false => true
  | _, _ => false
def wantR (l : List Oper) (ρ : Operand → Value) (o : Oper) : Bool :=
  match o.guard with
  | none => true
  | some (j, want) => match nthO l j with
    | none => false
    | some q => match q.dst with
      | none => false
      | some t => match ρ (.tmp t) with
        | .bool b => boolEq b want
        | _ => false
/-- the operations one behind the other: plainly -/
def evSeq (E : Env) (rec : Rec) (l : List Oper) : List Oper → List Value → Hp → Nat → Out
  | [], T, H, n => .nrm T H n
  | o :: r, T, H, n => match o.op.operands.toList.all operOk with
    | false => .bad
    | true => match wantR l (evT T) o with
      | false => evSeq E rec l r (putL T o.dst undef) H (Nat.succ n)
      | true => match evOp E rec (evT T) H n (Nat.succ n) o with
        | .ok v H' n' => evSeq E rec l r (putL T o.dst v) H' n'
        | .bad => .bad
def isTmp (d : Option Nat) (t : Nat) : Bool := match d with | some d => Nat.beq d t | none => false
/-- which of the operations that have come up has written slot t last: counted backwards -/
def srcGo (t : Nat) : List Oper → Nat → Option Nat → Option Nat
  | [], _, acc => acc
  | o :: r, i, acc => match i with
    | 0 => acc
    | i + 1 => srcGo t r i (match isTmp o.dst t with
      | true => some 0
      | false => match acc with | some k => some (Nat.succ k) | none => none)
def srcOf (l : List Oper) (i t : Nat) : Option Nat := srcGo t l i none
def envS (l : List Oper) (i : Nat) (T vals : List Value) : Operand → Value
  | .tmp t => match srcOf l i t with
    | some k => nthV vals k
    | none => nthV T t
  | x => evT T x
def topDst : List Oper → Nat
  | [] => 0
  | o :: r => Nat.max (match o.dst with | some d => Nat.succ d | none => 0) (topDst r)
def wtab (l : List Oper) : List (Option Nat) := (List.range (topDst l)).map (srcOf l l.length)
def zipW (vals : List Value) : List (Option Nat) → List Value → List Value
  | [], T => T
  | w :: ws, T => match T with
    | [] => []
    | a :: T => (match w with | some k => nthV vals k | none => a) :: zipW vals ws T
/-- what is known of an operation -/
inductive OI where
  | bad
  | mv (x : Operand)
  | k0
  | k1
  | k2
  | k3
  | gd
def oiK : Nat → OI
  | 0 => .k0
  | 1 => .k1
  | 2 => .k2
  | _ => .k3
def mvOf (o : Oper) : OI := match o.op with
  | .move x => .mv x
  | .assign x => .mv x
  | op => oiK (kindOf op)
def oi (o : Oper) : OI := match o.op.operands.toList.all operOk with
  | false => .bad
  | true => match o.guard with
    | none => mvOf o
    | some _ => .gd
abbrev SeqF := Nat → List Value → Hp → Nat → Out
def nxtV (ih : SeqF) (i : Nat) (vals : List Value) (H : Hp) (n : Nat) : Option Value → Out
  | some v => ih (Nat.succ i) (v :: vals) H (Nat.succ n)
  | none => .bad
def nextO (ih : SeqF) (i : Nat) (vals : List Value) : Ov → Out
  | .ok v H n => ih (Nat.succ i) (v :: vals) H n
  | .bad => .bad
def stepG (E : Env) (rec : Rec) (l : List Oper) (ρ : Operand → Value) (o : Oper) (ih : SeqF) (i : Nat) (vals : List Value) (H : Hp) (n : Nat) : Out :=
  match wantR l ρ o with
  | false => ih (Nat.succ i) (undef :: vals) H (Nat.succ n)
  | true => nextO ih i vals (evOp E rec ρ H n (Nat.succ n) o)
def stepF (E : Env) (rec : Rec) (l : List Oper) (T : List Value) (o : Oper) (ih : SeqF) (i : Nat) (vals : List Value) (H : Hp) (n : Nat) : Out :=
  match oi o with
  | .bad => .bad
  | .mv x => ih (Nat.succ i) (envS l i T vals x :: vals) H (Nat.succ n)
  | .k0 => nxtV ih i vals H n (aop0 E.P E.T (envS l i T vals) o)
  | .k1 => nxtV ih i vals H n (aop1 E.P E.T H (envS l i T vals) o)
  | .k2 => nextO ih i vals (evAR E rec H (Nat.succ n) (aopNew E.T H n (envS l i T vals) o))
  | .k3 => nextO ih i vals (evAR E rec H (Nat.succ n) (aop3 E.P E.T H n (envS l i T vals) o))
  | .gd => stepG E rec l (envS l i T vals) o ih i vals H n
/-- the operations one behind the other: the slots are written once, at the end -/
def evSeqF (E : Env) (rec : Rec) (l : List Oper) (T : List Value) : List Oper → SeqF
  | [] => fun _ vals H n => .nrm (zipW vals (wtab l) T) H n
  | o :: r => fun i vals H n => stepF E rec l T o (evSeqF E rec l T r) i vals H n

/-- what a region that draws its order looks like -/
structure RI where
  ok : Bool
  l : List Oper
  pm : List Nat
  eff : List Nat
  stg : List Nat
def chainOk (pm : List Nat) : List Nat → Bool
  | i :: j :: r => (pm.getD j 0).testBit i && chainOk pm (j :: r)
  | _ => true
def cntIn (m : Nat) : List Nat → Nat
  | [] => 0
  | e :: r => (bif m.testBit e then 1 else 0) + cntIn m r
def tmpsOf (o : Oper) : List Nat := o.op.operands.toList.filterMap fun | .tmp t => some t | _ => none
/-- who writes a slot -/
def writer (l : List Oper) (t : Nat) : Option Nat := l.findIdx? fun o => isTmp o.dst t
def readsOk (l : List Oper) (pm : List Nat) : Bool :=
  (List.range l.length).all fun i => match l[i]? with
    | none => false
    | some o => (tmpsOf o).all fun t => match writer l t with
      | none => true
      | some j => (pm.getD i 0).testBit j || (pm.getD j 0).testBit i || Nat.beq i j
def dstOk (l : List Oper) : Bool := nodupB (l.filterMap (·.dst))
def guardOk (l : List Oper) (pm : List Nat) : Bool :=
  (List.range l.length).all fun i => match l[i]? with
    | none => false
    | some o => match o.guard with
      | none => true
      | some (j, _) => (pm.getD i 0).testBit j
def rinfo (ops : Array Oper) : RI :=
  let l := ops.toList
  let pm := masks l []
  let eff := (List.range l.length).filter fun i => match l[i]? with | some o => Nat.beq (kindOf o.op) 3 | none => false
  { ok := chainOk pm eff && readsOk l pm && dstOk l && guardOk l pm && l.all (fun o => o.op.operands.toList.all operOk) && edgesBackB l && Nat.blt l.length 100000
    l := l, pm := pm, eff := eff, stg := pm.map fun m => cntIn m eff }
abbrev Vs := List (Nat × Value)
def Vs.get : Vs → Nat → Option Value
  | [], _ => none
  | (i, v) :: r, j => match Nat.beq i j with
    | true => some v
    | false => Vs.get r j
def Vs.put (V : Vs) (i : Nat) (v : Value) : Vs := (i, v) :: V
def getV (V : Vs) (j : Nat) : Value := match Vs.get V j with | some v => v | none => undef
/-- where operation i takes slot t from -/
def frm (ri : RI) (i t : Nat) : Option Nat :=
  match writer ri.l t with
  | some j => match (ri.pm.getD i 0).testBit j with
    | true => some j
    | false => none
  | none => none
/-- the operands of operation i -/
def envI (ri : RI) (T0 : List Value) (V : Vs) (i : Nat) : Operand → Value
  | .tmp t => match frm ri i t with
    | some j => getV V j
    | none => nthV T0 t
  | x => evT T0 x
def wantI (ri : RI) (V : Vs) (o : Oper) : Bool :=
  match o.guard with
  | none => true
  | some (j, want) => match (ri.l[j]?).bind (·.dst) with
    | some _ => match getV V j with
      | .bool b => boolEq b want
      | _ => false
    | none => false
def veq0 : Value → Value → Bool
  | .bool a, .bool b => boolEq a b
  | .int k a, .int j b => decide (k = j) && eqI a b
  | .string a, .string b => strEq a b
  | .pointer a, .pointer b => decide (a = b)
  | .slice a n c, .slice b m d => decide (a = b) && Nat.beq n m && Nat.beq c d
  | .map a, .map b => decide (a = b)
  | .nilFunc, .nilFunc => true
  | .nilIface, .nilIface => true
  | _, _ => false
def veqL (f : Value → Value → Bool) : List Value → List Value → Bool
  | [], [] => true
  | a :: r, b :: q => f a b && veqL f r q
  | _, _ => false
def veqS : Value → Value → Bool
  | .func f a b, .func g c d => decide (f = g) && veqL veq0 a.toList c.toList && veqL veq0 b.toList d.toList
  | a, b => veq0 a b
def veqA : Value → Value → Bool
  | .agg a, .agg b => veqL veqS a.toList b.toList
  | a, b => veqS a b
def veq : Value → Value → Bool
  | .tuple a, .tuple b => veqL veqA a.toList b.toList
  | a, b => veqA a b
def blkEq : EBlk → EBlk → Bool
  | .cells c e n, .cells d f m => veqL veqS c d && Nat.beq e f && Nat.beq n m
  | .map [] a, .map [] b => Nat.beq a b
  | .sit s a, .sit t b => strEq s t && Nat.beq a b
  | _, _ => false
/-- the slots that an operation reads -/
def needs (ri : RI) (i : Nat) (o : Oper) : List Nat := (tmpsOf o).filterMap (frm ri i)
def envOk (ri : RI) (V : Vs) (i : Nat) (o : Oper) : Bool :=
  ((needs ri i o).all fun j => (Vs.get V j).isSome) && (match o.guard with | none => true | some (j, _) => (Vs.get V j).isSome)
def opQ (E : Env) (ri : RI) (T0 : List Value) (base : Nat) (V : Vs) (H : Hp) (i : Nat) (o : Oper) : Option (Value × Hp) :=
  match kindOf o.op with
  | 0 => match aop0 E.P E.T (envI ri T0 V i) o with | some v => some (v, H) | none => none
  | 1 => match aop1 E.P E.T H (envI ri T0 V i) o with | some v => some (v, H) | none => none
  | 2 => match aop2 E.T (envI ri T0 V i) o, labOk (base + i) with
    | some (b, m), true => some (m.at (base + i), H.add (base + i) b)
    | _, _ => none
  | _ => none
/-- a stage: what may come up ahead of the next operation that does more -/
def stageRun (E : Env) (ri : RI) (T0 : List Value) (base st : Nat) : List Nat → Vs → Hp → Option (Vs × Hp)
  | [], V, H => some (V, H)
  | i :: r, V, H => match ri.l[i]? with
    | none => none
    | some o => match Nat.beq (kindOf o.op) 3 || !Nat.beq (ri.stg.getD i 0) st with
      | true => stageRun E ri T0 base st r V H
      | false => match envOk ri V i o && (Vs.get V i).isNone with
        | false => none
        | true => match wantI ri V o with
          | false => stageRun E ri T0 base st r (Vs.put V i undef) H
          | true => match opQ E ri T0 base V H i o with
            | some (v, H') => stageRun E ri T0 base st r (Vs.put V i v) H'
            | none => none
/-- whatever reads memory reads the same here; whatever was made stands -/
def stgOkE (E : Env) (ri : RI) (T0 : List Value) (base st last : Nat) (V : Vs) (H : Hp) : List Nat → Bool
  | [] => true
  | i :: r => (match ri.l[i]? with
    | none => false
    | some o => match kindOf o.op with
      | 1 => match Nat.ble (ri.stg.getD i 0) st && !last.testBit i && wantI ri V o with
        | false => true
        | true => match aop1 E.P E.T H (envI ri T0 V i) o with
          | some v => veq v (getV V i)
          | none => false
      | 2 => match Nat.ble (ri.stg.getD i 0) st && !last.testBit i && wantI ri V o with
        | false => true
        | true => match aop2 E.T (envI ri T0 V i) o, H.at (base + i) with
          | some (b, m), some b' => blkEq b b' && veq (m.at (base + i)) (getV V i) && labOk (base + i)
          | _, _ => false
      | _ => true) && stgOkE E ri T0 base st last V H r
def drawGo (E : Env) (rec : Rec) (ri : RI) (T0 : List Value) (base : Nat) : List Nat → Nat → Nat → Vs → Hp → Nat → Option (Vs × Hp × Nat)
  | effs, st, last, V, H, n => match stageRun E ri T0 base st (List.range ri.l.length) V H with
    | none => none
    | some (V1, H1) => match stgOkE E ri T0 base st last V1 H1 (List.range ri.l.length) with
      | false => none
      | true => match effs with
        | [] => some (V1, H1, n)
        | e :: r => match ri.l[e]? with
          | none => none
          | some o => match envOk ri V1 e o && (Vs.get V1 e).isNone with
           | false => none
           | true => match wantI ri V1 o with
            | false => drawGo E rec ri T0 base r (st + 1) (ri.pm.getD e 0) (Vs.put V1 e undef) H1 n
            | true => match evAR E rec H1 n (aop3 E.P E.T H1 (base + e) (envI ri T0 V1 e) o) with
              | .ok v H' n' => drawGo E rec ri T0 base r (st + 1) (ri.pm.getD e 0) (Vs.put V1 e v) H' n'
              | .bad => none
def writs (l : List Oper) : List (Option Nat) := (List.range (topDst l)).map (writer l)
def zipV (V : Vs) : List (Option Nat) → List Value → List Value
  | [], T => T
  | w :: ws, T => match T with
    | [] => []
    | a :: T => (match w with | some j => getV V j | none => a) :: zipV V ws T
def evDraw (E : Env) (rec : Rec) (ops : Array Oper) (T : List Value) (H : Hp) (n : Nat) : Out :=
  match (rinfo ops).ok && Nat.ble (topDst (rinfo ops).l) (lenL T) with
  | false => .bad
  | true => match drawGo E rec (rinfo ops) T n (rinfo ops).eff 0 0 [] H (n + (rinfo ops).l.length) with
    | some (V, H', n') => .nrm (zipV V (writs (rinfo ops).l) T) H' n'
    | none => .bad
def thenA (rec : Rec) (b : Code) : Out → Out
  | .nrm T H n => rec b T H n
  | r => r
def blkA (id : Nat) : Out → Out
  | .ext j T H n => match Nat.beq j id with
    | true => .nrm T H n
    | false => .ext j T H n
  | r => r
def condA (rec : Rec) (a b : Code) (T : List Value) (H : Hp) (n : Nat) : Value → Out
  | .bool true => rec a T H n
  | .bool false => rec b T H n
  | _ => .bad
def regA (E : Env) (rec : Rec) (ops : Array Oper) (T : List Value) (H : Hp) (n : Nat) : Bool → Out
  | false => evSeqF E rec ops.toList T ops.toList 0 [] H n
  | true => evDraw E rec ops T H n
def evStep (E : Env) (rec : Rec) : Rec := fun c T H n =>
  match c with
  | .skip => .nrm T H n
  | .label _ => .nrm T H n
  | .seq a b => thenA rec b (rec a T H n)
  | .cond x a b => condA rec a b T H n (evT T x)
  | .block id b => blkA id (rec b T H n)
  | .loop b => thenA rec (.loop b) (rec b T H n)
  | .exit id => .ext id T H n
  | .ret => .ret T H n
  | .region _ ops d => regA E rec ops T H n d
  | _ => .bad
def ev (E : Env) (f : Nat) : Rec := Nat.rec (fun _ _ _ _ => .bad) (fun _ r => evStep E r) f
def run (E : Env) (fuel : Nat) (f : Nat) (args : List Value) (H : Hp) (n : Nat) : Ov := evCall E (ev E fuel) f args H n
def Ov.good : Ov → Bool
  | .ok _ _ _ => true
  | .bad => false
def Ov.yes : Ov → Bool
  | .ok (.bool true) _ _ => true
  | _ => false
end

section
open Go.RowKit

theorem qv_run {α : Type} {P : Program} {x : Sem α} {a : α} (h : qv P x = some a) (w : World) : x.run P w = .ok a w := by
  induction x with
  | pure b => simp [qv] at h; subst h; rfl
  | program k ih => simp only [qv] at h; exact ih P h
  | mark m k ih => simp only [qv] at h; exact ih h
  | _ => simp [qv] at h
def TOk (P : Program) (T : TyT) : Prop := ∀ t ti, T t = some ti → mkTI P t = some ti
section
variable {P : Program} {T : TyT} {t : Nat} {ti : TI} {w : World}
theorem TOk.und (hT : TOk P T) (h : T t = some ti) : P.underlying t = some ti.d := by
  have := hT t ti h
  unfold mkTI at this
  split at this
  · split at this
    · cases this; assumption
    · cases this
  · cases this
theorem TOk.info (hT : TOk P T) (h : T t = some ti) : ∃ i z, P.info? t = some i ∧ i.size = ti.size ∧ i.bytes = ti.bytes ∧ i.zero = some z ∧ z.cells.toList = ti.zero ∧ ti.agg = isRowB ti.d := by
  have := hT t ti h
  unfold mkTI at this
  split at this
  · rename_i d i hd hi
    split at this
    · rename_i z hz
      cases this
      exact ⟨i, z, hi, rfl, rfl, hz, rfl, rfl⟩
    · cases this
  · cases this
theorem TOk.rund (hT : TOk P T) (h : T t = some ti) (w : World) : (underlying t).run P w = .ok ti.d w := run_underlying (hT.und h) w
theorem TOk.rsize (hT : TOk P T) (h : T t = some ti) (w : World) : (sizeOf t).run P w = .ok ti.size w := by
  obtain ⟨i, z, h1, h2, _⟩ := hT.info h
  simp [sizeOf, typeInfo, h1, h2]
theorem TOk.ragg (hT : TOk P T) (h : T t = some ti) (w : World) : (isAgg t).run P w = .ok ti.agg w := by
  obtain ⟨i, z, _, _, _, _, _, h6⟩ := hT.info h
  unfold isAgg
  rw [Sem.run_bind, hT.rund h, Result.andThen_ok, h6]
  cases ti.d <;> simp [isRowB]
theorem TOk.rzv (hT : TOk P T) (h : T t = some ti) (w : World) : (zeroValue t).run P w = .ok ti.zv w := by
  have := hT t ti h
  unfold mkTI at this
  split at this
  · rename_i d i hd hi
    split at this
    · rename_i z hz
      cases this
      simp [zeroValue, typeInfo, hi, hz]
    · cases this
  · cases this
theorem TOk.rinfo (hT : TOk P T) (h : T t = some ti) (w : World) : ∃ i, (typeInfo t).run P w = .ok i w ∧ i.bytes = ti.bytes ∧ i.size = ti.size := by
  obtain ⟨i, z, h1, h2, h3, _⟩ := hT.info h
  exact ⟨i, by simp [typeInfo, h1], h3, h2⟩
end
theorem nthO_eq {α : Type} : ∀ (l : List α) (n : Nat), nthO l n = l[n]?
  | [], n => by simp [nthO]
  | a :: l, 0 => by simp [nthO]
  | a :: l, n + 1 => by simp [nthO, nthO_eq l n]
theorem nthV_eq : ∀ (l : List Value) (n : Nat), nthV l n = l.getD n undef
  | [], n => by simp [nthV]
  | a :: l, 0 => by simp [nthV]
  | a :: l, n + 1 => by simp [nthV, nthV_eq l n]
theorem takeL_eq : ∀ (n : Nat) (l : List Value), takeL n l = l.take n
  | 0, l => by simp [takeL]
  | n + 1, [] => by simp [takeL]
  | n + 1, a :: l => by simp [takeL, takeL_eq n l]
theorem dropL_eq : ∀ (n : Nat) (l : List Value), dropL n l = l.drop n
  | 0, l => by simp [dropL]
  | n + 1, [] => by simp [dropL]
  | n + 1, a :: l => by simp [dropL, dropL_eq n l]
theorem lenL_eq : ∀ (l : List Value), lenL l = l.length
  | [] => rfl
  | a :: l => by simp [lenL, lenL_eq l]
theorem setL_eq : ∀ (l : List Value) (n : Nat) (v : Value), setL l n v = l.set n v
  | [], n, v => by simp [setL]
  | a :: l, 0, v => by simp [setL]
  | a :: l, n + 1, v => by simp [setL, setL_eq l n v]
theorem appL_eq : ∀ (a b : List Value), appL a b = a ++ b
  | [], b => rfl
  | a :: l, b => by simp [appL, appL_eq l b]
theorem over_eq : ∀ (c vs : List Value), vs.length ≤ c.length → over c vs = vs ++ c.drop vs.length
  | c, [], _ => by simp [over]
  | [], v :: vs, h => by simp at h
  | a :: c, v :: vs, h => by simp [over, over_eq c vs (by simpa using h)]
theorem spl_eq : ∀ (o : Nat) (c vs : List Value), o + vs.length ≤ c.length → spl o c vs = c.take o ++ vs ++ c.drop (o + vs.length)
  | 0, c, vs, h => by simp [spl, over_eq c vs (by omega)]
  | o + 1, [], vs, h => by simp at h
  | o + 1, a :: c, vs, h => by
    have : o + 1 + vs.length = (o + vs.length) + 1 := by omega
    rw [this]
    simp [spl, spl_eq o c vs (by simp at h; omega)]
theorem VL.nthV {s : Sg} {c c' : List Value} (r : VL s c c') (n : Nat) : VR s (nthV c n) (c'.getD n undef) := by
  rw [nthV_eq]
  by_cases h : n < c.length
  · have h' : n < c'.length := r.1 ▸ h
    simp only [List.getD_eq_getElem?_getD, List.getElem?_eq_getElem h, List.getElem?_eq_getElem h', Option.getD_some]
    exact r.2 n _ _ (List.getElem?_eq_getElem h) (List.getElem?_eq_getElem h')
  · have h' : ¬ n < c'.length := r.1 ▸ h
    simp only [List.getD_eq_getElem?_getD, List.getElem?_eq_none (Nat.le_of_not_lt h), List.getElem?_eq_none (Nat.le_of_not_lt h'), Option.getD_none]
    exact .tuple _ _ rfl (by simp)

section
variable {P : Program} {T : TyT} {s : Sg}
/-- a part of a value -/
theorem part_ok (hT : TOk P T) {t : Nat} {ti : TI} (h : T t = some ti) {c : List Value} {c' : Array Value} (hc : VL s c c'.toList) {o : Nat} {v : Value} (hp : partL ti c o = some v) :
    ∃ v', (∀ w, (part t c' o).run P w = .ok v' w) ∧ VR s v v' := by
  unfold partL at hp
  rw [takeL_eq, dropL_eq, nthO_eq, lenL_eq] at hp
  cases ha : ti.agg with
  | true =>
    rw [ha] at hp
    simp only at hp
    split at hp
    · cases hp
      refine ⟨.agg (c'.extract o (o + ti.size)), fun w => ?_, ?_⟩
      · unfold part
        rw [Sem.run_bind, hT.ragg h, Result.andThen_ok, ha]
        simp [hT.rsize h]
      · have := VR.aggL ((hc.drop o).take ti.size)
        have e : (c'.extract o (o + ti.size)) = ⟨(c'.toList.drop o).take ti.size⟩ := by
          apply Array.ext'
          simp [List.extract_eq_take_drop]
        rw [e]
        exact this
    · cases hp
  | false =>
    rw [ha] at hp
    simp only at hp
    obtain ⟨v', h1, h2⟩ := hc.get hp
    refine ⟨v', fun w => ?_, h2⟩
    unfold part
    rw [Sem.run_bind, hT.ragg h, Result.andThen_ok, ha]
    have h1' : c'[o]? = some v' := by simpa using h1
    simp [h1']
theorem placesA_ok (hT : TOk P T) : ∀ (fs : List Field) (pl : List (Nat × Nat)), placesA T fs = some pl → fs.mapM (fun f => (P.info? f.type).map fun i => (f.offset, i.size)) = some pl
  | [], pl, h => by simp [placesA] at h; subst h; rfl
  | f :: r, pl, h => by
    simp only [placesA] at h
    split at h
    · rename_i tf l h1 h2
      cases h
      obtain ⟨i, z, h3, h4, _⟩ := hT.info h1
      simp [List.mapM_cons, h3, h4, placesA_ok hT r l h2]
    · cases h
/-- parts put into cells -/
theorem fold_spl (off : Nat) (vs : List Value) (cs : Array Value) (h : off + vs.length ≤ cs.size) :
    ((vs.zipIdx 0).foldl (fun cs (x : Value × Nat) => cs.setIfInBounds (off + x.2) x.1) cs).toList = spl off cs.toList vs := by
  obtain ⟨h1, h2⟩ := Great.foldl_set off vs 0 cs
  rw [spl_eq _ _ _ (by simpa using h)]
  apply List.ext_getElem?
  intro k
  have := h2 k
  rw [← Array.getElem?_toList] at this
  rw [this]
  simp only [Nat.add_zero]
  by_cases a : k < off
  · rw [if_neg (by omega), List.getElem?_append_left (by simp; omega), List.getElem?_append_left (by simp; omega), List.getElem?_take, if_pos a]
    simp
  · by_cases b : k < off + vs.length
    · rw [if_pos (by omega), List.getElem?_append_left (by simp; omega), List.getElem?_append_right (by simp; omega)]
      congr 1
      simp; omega
    · rw [if_neg (by omega), List.getElem?_append_right (by simp; omega), List.getElem?_drop]
      simp
      congr 1
      omega
theorem VL.over : ∀ {c c' vs vs' : List Value}, VL s c c' → VL s vs vs' → VL s (over c vs) (over c' vs')
  | c, c', [], [], h, _ => by unfold Go.Proofs.YtnglahcjemgcaaaGreatDoor.over; exact h
  | _, _, [], _ :: _, _, g => by have := g.1; simp at this
  | _, _, _ :: _, [], _, g => by have := g.1; simp at this
  | [], [], _ :: _, _ :: _, _, _ => by unfold Go.Proofs.YtnglahcjemgcaaaGreatDoor.over; exact VL.nil
  | [], _ :: _, _ :: _, _ :: _, h, _ => by have := h.1; simp at this
  | _ :: _, [], _ :: _, _ :: _, h, _ => by have := h.1; simp at this
  | _ :: _, _ :: _, _ :: _, _ :: _, h, g => by unfold Go.Proofs.YtnglahcjemgcaaaGreatDoor.over; exact VL.cons g.head (VL.over h.tail g.tail)
theorem VL.spl {vs vs' : List Value} (hv : VL s vs vs') : ∀ (o : Nat) {c c' : List Value}, VL s c c' → VL s (spl o c vs) (spl o c' vs')
  | 0, _, _, h => by unfold Go.Proofs.YtnglahcjemgcaaaGreatDoor.spl; exact h.over hv
  | o + 1, [], [], _ => by unfold Go.Proofs.YtnglahcjemgcaaaGreatDoor.spl; exact VL.nil
  | o + 1, [], _ :: _, h => by have := h.1; simp at this
  | o + 1, _ :: _, [], h => by have := h.1; simp at this
  | o + 1, _ :: _, _ :: _, h => by unfold Go.Proofs.YtnglahcjemgcaaaGreatDoor.spl; exact VL.cons h.head (VL.spl hv o h.tail)
theorem fill_ok (place : BP) (pl : Nat → Option (Nat × Nat)) (hpp : ∀ i, pl i = place.at i) : ∀ (parts parts' : List (Nat × Value)) (c : List Value) (c' : Array Value) (r : List Value), parts.length = parts'.length →
    (∀ (i : Nat) x x', parts[i]? = some x → parts'[i]? = some x' → x.1 = x'.1 ∧ VR s x.2 x'.2) → VL s c c'.toList → fillL place c parts = some r →
    ∃ r', Instr.fill pl c' parts' = some r' ∧ VL s r r'.toList
  | [], [], c, c', r, _, _, hc, h => by simp [fillL] at h; subst h; exact ⟨c', rfl, hc⟩
  | [], _ :: _, _, _, _, h, _, _, _ => by simp at h
  | _ :: _, [], _, _, _, h, _, _, _ => by simp at h
  | (i, v) :: p, (i', v') :: p', c, c', r, hl, hp, hc, h => by
    obtain ⟨h1, h2⟩ := hp 0 _ _ rfl rfl
    simp only at h1 h2
    subst h1
    simp only [fillL] at h
    unfold Instr.fill
    rw [hpp i]
    cases hpl : place.at i with
    | none => rw [hpl] at h; cases h
    | some os =>
      obtain ⟨off, size⟩ := os
      rw [hpl] at h
      simp only at h ⊢
      split at h
      · rename_i hb
        simp only [Bool.and_eq_true, Nat.beq_eq, Nat.ble_eq] at hb
        obtain ⟨hb1, hb2⟩ := hb
        have hvc := h2.cells
        have hl3 : v.cells.toList.length = v'.cells.size := by have := hvc.1; simpa using this
        have hl1 : v'.cells.size = size := by omega
        have hl2 : c.length = c'.size := by have := hc.1; simpa using this
        rw [if_neg (by simp only [Bool.or_eq_true, decide_eq_true_eq, ne_eq]; omega)]
        refine fill_ok place pl hpp p p' _ _ r (by simpa using hl) (fun j x x' a b => hp (j + 1) x x' (by simpa using a) (by simpa using b)) ?_ h
        have e : (Array.foldl (fun cs x => cs.setIfInBounds (off + x.2) x.1) c' v'.cells.zipIdx) = ((v'.cells.toList.zipIdx 0).foldl (fun cs (x : Value × Nat) => cs.setIfInBounds (off + x.2) x.1) c') := by
          rw [← Array.foldl_toList]; simp
        rw [e, fold_spl off v'.cells.toList c' (by rw [Array.length_toList]; omega)]
        exact hvc.spl off hc
      · cases h
end
end
end Go.Proofs.YtnglahcjemgcaaaGreatDoor
