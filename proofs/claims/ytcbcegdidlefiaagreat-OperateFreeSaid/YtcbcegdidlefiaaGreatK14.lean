/- A run with known data: what one operation does to labels. No condition. -/
import Derived.Test.YtcbcegdidlefiaaGreatK13
namespace Go.Proofs.YtcbcegdidlefiaaGreat
open Go.RowKit

structure TI where
  d : TypeDesc
  size : Nat
  bytes : Nat
  zero : List Value
  agg : Bool
  zv : Value
def isRowB : TypeDesc → Bool
  | .struct _ | .array _ _ => true
  | _ => false
def mkTI (P : Program) (t : Nat) : Option TI :=
  match P.underlying t, P.info? t with
  | some d, some i => match i.zero with
    | some z => some ⟨d, i.size, i.bytes, z.cells.toList, isRowB d, z⟩
    | none => none
  | _, _ => none
abbrev TyT := Nat → Option TI

/-- a computation that asks nothing of memory -/
def qv {α : Type} (P : Program) : Sem α → Option α
  | .pure a => some a
  | .program k => qv P (k P)
  | .mark _ k => qv P k
  | _ => none

inductive AR where
  | val (v : Value) (H : Hp)
  | skip (H : Hp)
  | call (f : Nat) (args : List Value)
/-- what a new block's value is -/
inductive MK where
  | p
  | s (n c : Nat)
  | mp
def MK.at : MK → Nat → Value
  | .p, L => .pointer (some ⟨L, 0, none⟩)
  | .s n c, L => .slice (some ⟨L, 0, none⟩) n c
  | .mp, L => .map (some L)

/-- views of values -/
structure PA where
  L : Nat
  o : Nat
structure SA where
  L : Nat
  o : Nat
  n : Nat
  c : Nat
def asPtr : Value → Option PA
  | .pointer (some ⟨L, o, none⟩) => some ⟨L, o⟩
  | _ => none
def asSlc : Value → Option SA
  | .slice (some ⟨L, o, none⟩) n c => some ⟨L, o, n, c⟩
  | _ => none
def asI64 : Value → Option Int
  | .int .i64 n => some n
  | _ => none
def asU8 : Value → Option Int
  | .int .u8 n => some n
  | _ => none
def asStr : Value → Option ByteArray
  | .string s => some s
  | _ => none
def asAggL : Value → Option (List Value)
  | .agg c => some c.toList
  | _ => none
def asTupL : Value → Option (List Value)
  | .tuple c => some c.toList
  | _ => none
/-- lists by number -/
def nthO {α : Type} : List α → Nat → Option α
  | [], _ => none
  | a :: l, n => match n with
    | 0 => some a
    | n + 1 => nthO l n
def nthV : List Value → Nat → Value
  | [], _ => undef
  | a :: l, n => match n with
    | 0 => a
    | n + 1 => nthV l n
def takeL : Nat → List Value → List Value
  | 0, _ => []
  | n + 1, l => match l with
    | [] => []
    | a :: r => a :: takeL n r
def dropL : Nat → List Value → List Value
  | 0, l => l
  | n + 1, l => match l with
    | [] => []
    | _ :: r => dropL n r
def lenL : List Value → Nat
  | [] => 0
  | _ :: r => Nat.succ (lenL r)
def setL : List Value → Nat → Value → List Value
  | [], _, _ => []
  | a :: l, n, v => match n with
    | 0 => v :: l
    | n + 1 => a :: setL l n v
def appL : List Value → List Value → List Value
  | [], b => b
  | a :: l, b => a :: appL l b
/-- vs in the place of as many values from o on -/
def over : List Value → List Value → List Value
  | c, [] => c
  | [], _ => []
  | _ :: c, v :: vs => v :: over c vs
def spl : Nat → List Value → List Value → List Value
  | 0, c, vs => over c vs
  | o + 1, c, vs => match c with
    | [] => []
    | a :: r => a :: spl o r vs

/-- kinds of operations: 0 reads nothing, 1 reads memory, 2 makes a block, 3 does more -/
def kindOf : Op → Nat
  | .move _ | .assign _ | .pick .. | .build .. | .nilCheck _ | .unOp .. | .slice .. | .fieldAddr .. | .field .. | .indexAddr .. | .index .. | .extract .. | .makeFunc .. => 0
  | .binOp .. | .convert .. | .load .. | .lookup .. => 1
  | .alloc _ | .box .. | .buildSlice .. | .makeSlice .. | .makeMap .. | .range .. => 2
  | .call c => match c.callee with | .builtin .len | .builtin .cap | .builtin .min | .builtin .max => 1 | _ => 3
  | _ => 3

/-- what is known of types -/
def fldI (T : TyT) (t f : Nat) : Option (Nat × TI) :=
  match T t with
  | some ti => match ti.d with
    | .struct fields => match nthO fields.toList f with
      | some fd => match T fd.type with
        | some tf => some (fd.offset, tf)
        | none => none
      | none => none
    | _ => none
  | none => none
def slcI (T : TyT) (t : Nat) : Option (Nat × TI) :=
  match T t with
  | some ti => match ti.d with
    | .slice e => match T e with
      | some te => some (e, te)
      | none => none
    | _ => none
  | none => none
def arrI (T : TyT) (t : Nat) : Option (Nat × Nat × TI) :=
  match T t with
  | some ti => match ti.d with
    | .array n e => match T e with
      | some te => some (n, e, te)
      | none => none
    | _ => none
  | none => none
def zeroA (ti : TI) : Option Value :=
  match closedV ti.zv with
  | true => some ti.zv
  | false => none
def mapI (T : TyT) (t : Nat) : Option (Nat × TypeDesc × Nat × Value) :=
  match T t with
  | some ti => match ti.d with
    | .map k e => match T k, T e with
      | some tk, some te => match zeroA te with
        | some z => some (k, tk.d, e, z)
        | none => none
      | _, _ => none
    | _ => none
  | none => none
def placesA (T : TyT) : List Field → Option (List (Nat × Nat))
  | [] => some []
  | f :: r => match T f.type, placesA T r with
    | some tf, some l => some ((f.offset, tf.size) :: l)
    | _, _ => none
inductive BP where
  | str (pl : List (Nat × Nat))
  | arr (size : Nat)
def BP.at : BP → Nat → Option (Nat × Nat)
  | .str pl, i => nthO pl i
  | .arr n, i => some (i * n, n)
def bldI (T : TyT) (t : Nat) : Option (List Value × BP) :=
  match T t with
  | some ti => match ti.zero.all closedS with
    | false => none
    | true => match ti.d with
      | .struct fields => match placesA T fields.toList with
        | some pl => some (ti.zero, .str pl)
        | none => none
      | .array _ e => match T e with
        | some te => some (ti.zero, .arr te.size)
        | none => none
      | _ => none
  | none => none
/-- an element's type for a row of zeros -/
def zelI (T : TyT) (t : Nat) : Option (Nat × TI) :=
  match slcI T t with
  | some (e, te) => match te.zero.all closedS && Nat.beq te.zero.length te.size && Nat.blt 0 te.size with
    | true => some (e, te)
    | false => none
  | none => none

def fillL (place : BP) : List Value → List (Nat × Value) → Option (List Value)
  | c, [] => some c
  | c, (i, v) :: r => match place.at i with
    | none => none
    | some (off, size) =>
      match Nat.beq v.cells.toList.length size && Nat.ble (off + v.cells.toList.length) c.length with
      | true => fillL place (spl off c v.cells.toList) r
      | false => none
def zerosL (z : List Value) (n : Nat) : List Value := (List.range n).map fun i => z.getD (i % z.length) undef
def partL (ti : TI) (c : List Value) (o : Nat) : Option Value :=
  match ti.agg with
  | true => match Nat.beq (lenL (takeL ti.size (dropL o c))) ti.size with
    | true => some (.agg ⟨takeL ti.size (dropL o c)⟩)
    | false => none
  | false => nthO c o
def scal : Value → Bool
  | .agg _ | .tuple _ => false
  | _ => true
/-- a number in its shortest form -/
def nseq {α : Type} (n : Nat) (f : Nat → α) : α := match n with
  | 0 => f 0
  | m + 1 => f (Nat.succ m)
def natV (n : Nat) : Value := nseq n fun m => .int .i64 (.ofNat m)
def negV (n : Nat) : Value := nseq n fun m => .int .i64 (.negSucc m)
def one (t : Value) (H : Hp) : Option AR := some (.val t H)
def lim63 (n : Nat) : Bool := Nat.blt n 9223372036854775808
/-- 64-bit arithmetic where nothing wraps round -/
def addA (a b : Int) : Option Value := match a, b with
  | .ofNat m, .ofNat n => match lim63 (Nat.add m n) with
    | true => some (natV (Nat.add m n))
    | false => none
  | .ofNat m, .negSucc n => match Nat.blt n m with
    | true => match lim63 m with
      | true => some (natV (Nat.sub m (Nat.succ n)))
      | false => none
    | false => match lim63 n with
      | true => some (negV (Nat.sub n m))
      | false => none
  | .negSucc m, .ofNat n => match Nat.blt m n with
    | true => match lim63 n with
      | true => some (natV (Nat.sub n (Nat.succ m)))
      | false => none
    | false => match lim63 m with
      | true => some (negV (Nat.sub m n))
      | false => none
  | _, _ => none
def subA (a b : Int) : Option Value := match b with
  | .ofNat 0 => addA a (.ofNat 0)
  | .ofNat (n + 1) => addA a (.negSucc n)
  | .negSucc n => addA a (.ofNat (Nat.succ n))
def mulA (a b : Int) : Option Value := match a, b with
  | .ofNat m, .ofNat n => match lim63 (Nat.mul m n) with
    | true => some (natV (Nat.mul m n))
    | false => none
  | _, _ => none
def ltA (a b : Int) : Bool := match a, b with
  | .ofNat m, .ofNat n => Nat.blt m n
  | .ofNat _, .negSucc _ => false
  | .negSucc _, .ofNat _ => true
  | .negSucc m, .negSucc n => Nat.blt n m
def eqI (a b : Int) : Bool := match a, b with
  | .ofNat m, .ofNat n => Nat.beq m n
  | .negSucc m, .negSucc n => Nat.beq m n
  | _, _ => false
def divA (a b : Int) : Option Value := match a, b with
  | .ofNat m, .ofNat (n + 1) => match lim63 m with
    | true => some (natV (Nat.div m (Nat.succ n)))
    | false => none
  | _, _ => none
def remA (a b : Int) : Option Value := match a, b with
  | .ofNat m, .ofNat (n + 1) => match lim63 m with
    | true => some (natV (Nat.mod m (Nat.succ n)))
    | false => none
  | _, _ => none
def int64 (op : BinOp) (a b : Int) : Option Value :=
  match op with
  | .add => addA a b
  | .sub => subA a b
  | .mul => mulA a b
  | .quo => divA a b
  | .rem => remA a b
  | .eql => some (.bool (eqI a b))
  | .neq => some (.bool (!(eqI a b)))
  | .lss => some (.bool (ltA a b))
  | .leq => some (.bool (!(ltA b a)))
  | .gtr => some (.bool (ltA b a))
  | .geq => some (.bool (!(ltA a b)))
  | _ => none
def cmpA (op : BinOp) (a b : Int) : Option Value :=
  match op with
  | .eql => some (.bool (eqI a b))
  | .neq => some (.bool (!(eqI a b)))
  | .lss => some (.bool (ltA a b))
  | .leq => some (.bool (!(ltA b a)))
  | .gtr => some (.bool (ltA b a))
  | .geq => some (.bool (!(ltA a b)))
  | _ => none
/-- are two values with addresses the same? -/
def ptrEq (T : TyT) (H : Hp) (t : Nat) (a b : Addr) : Option Bool :=
  match T t with
  | none => none
  | some ti => match ti.d with
    | .pointer e => match T e with
      | none => none
      | some te => match Nat.beq te.size 0, a, b with
        | false, ⟨L, o, none⟩, ⟨M, p, none⟩ => match Nat.beq L M with
          | true => some (Nat.beq o p)
          | false => match H.at L, H.at M with
            | some (.cells (_ :: _) _ _), some (.cells (_ :: _) _ _) => some false
            | _, _ => none
        | _, _, _ => none
    | _ => none
inductive TK where
  | ptr
  | slc
  | mp
  | fn
def tkI (T : TyT) (t : Nat) : Option TK :=
  match T t with
  | none => none
  | some ti => match ti.d with
    | .pointer _ => some .ptr
    | .slice _ => some .slc
    | .map _ _ => some .mp
    | .func _ _ _ => some .fn
    | _ => none
def eqA (T : TyT) (H : Hp) (t : Nat) (x y : Value) : Option Bool :=
  match tkI T t with
  | some .ptr => match x, y with
    | .pointer none, .pointer b => some b.isNone
    | .pointer (some _), .pointer none => some false
    | .pointer (some a), .pointer (some b) => ptrEq T H t a b
    | _, _ => none
  | some .slc => match x, y with
    | .slice none _ _, .slice b _ _ => some b.isNone
    | .slice (some _) _ _, .slice none _ _ => some false
    | _, _ => none
  | some .mp => match x, y with
    | .map none, .map b => some b.isNone
    | .map (some _), .map none => some false
    | _, _ => none
  | some .fn => match x, y with
    | .nilFunc, .nilFunc => some true
    | .nilFunc, .func _ _ _ => some false
    | .func _ _ _, .nilFunc => some false
    | _, _ => none
  | none => none
def natOf : Value → Option Nat
  | .int .i64 (.ofNat n) => some n
  | _ => none
def natOr (d : Nat) : Option Value → Option Nat
  | none => some d
  | some v => natOf v
def sliceN (size : Nat) (L o n c l h : Nat) : Option Value :=
  match Nat.beq c FULL with
  | true => match Nat.ble l h && Nat.ble h n && Nat.blt 0 size with
    | true => match Nat.blt l h || Nat.beq l 0 with
      | true => some (.slice (some ⟨L, o + l * size, none⟩) (h - l) FULL)
      | false => some (.slice (some ⟨L, o, some 0⟩) 0 FULL)
    | false => none
  | false => match Nat.ble l h && Nat.ble h c && Nat.blt c FULL with
    | true => some (.slice (some ⟨L, if c = l then o else o + l * size, none⟩) (h - l) (c - l))
    | false => none
def sliceM (size : Nat) (L o n c l h m : Nat) : Option Value :=
  match Nat.ble l h && Nat.ble h m && (bif Nat.beq c FULL then Nat.ble m n else Nat.ble m c && Nat.blt c FULL) && Nat.blt m FULL with
  | true => some (.slice (some ⟨L, if m = l then o else o + l * size, none⟩) (h - l) (m - l))
  | false => none
def sliceA (size : Nat) (b : Option Addr) (n c : Nat) (lo hi mx : Option Value) : Option Value :=
  match natOr 0 lo, natOr n hi with
  | some l, some h => match b with
    | none => match Nat.beq l 0 && Nat.beq h 0 && mx.isNone && Nat.beq n 0 && Nat.beq c 0 with
      | true => some (.slice none 0 0)
      | false => none
    | some ⟨L, o, none⟩ => match mx with
      | none => sliceN size L o n c l h
      | some m => match natOf m with
        | none => none
        | some m => match hi.isSome with
          | true => sliceM size L o n c l h m
          | false => none
    | _ => none
  | _, _ => none
def lenA : Value → Option Nat
  | .slice _ n _ => some n
  | _ => none
/-- the first cells of a slice or a string -/
def firstA (H : Hp) (k : Nat) : Value → Option (List Value)
  | .slice (some ⟨L, o, none⟩) _ _ => match H.at L with
    | some (.cells c _ _) => match Nat.beq (lenL (takeL k (dropL o c))) k with
      | true => some (takeL k (dropL o c))
      | false => none
    | _ => none
  | .slice none _ _ => match k with | 0 => some [] | _ => none
  | _ => none
def storeA (H : Hp) (L o : Nat) (vs : List Value) : Option Hp :=
  match H.at L with
  | some (.cells c e es) => match Nat.ble (o + lenL vs) (lenL c) && vs.all scal && labOk L with
    | true => some (H.add L (.cells (spl o c vs) e es))
    | false => none
  | _ => none
def sliceOrStr (T : TyT) (t : Nat) : Bool :=
  match T t with
  | some ti => match ti.d with | .slice _ => true | _ => false
  | none => false
/-- a row that grows: the new label stands for all of it -/
def growA (H : Hp) (lab : Nat) (e es L o n k : Nat) (cur news : List Value) : Option AR :=
  match Nat.beq o 0 && Nat.beq (n * es) (lenL cur) with
  | true => one (.slice (some ⟨lab, 0, none⟩) (n + k) FULL) ((H.del L).add lab (.cells (appL cur news) e es))
  | false => none
def appendB (H : Hp) (lab : Nat) (e size : Nat) (s : Value) (L o n c k : Nat) (news : List Value) : Option AR :=
  match H.at L with
  | some (.cells cur e' es) => match Nat.beq e e' && Nat.ble (o + n * size) (lenL cur) && labOk L with
    | false => none
    | true => match Nat.beq c FULL with
      | true => match Nat.beq es size with
        | true => match k with
          | 0 => one s H
          | _ => growA H lab e es L o n k cur news
        | false => none
      | false => match Nat.blt c FULL with
        | false => none
        | true => match Nat.ble (n + k) c with
          | true => match storeA H L (o + n * size) news with
            | some H' => one (.slice (some ⟨L, o, none⟩) (n + k) c) H'
            | none => none
          | false => one (.slice (some ⟨lab, 0, none⟩) (n + k) FULL) (H.add lab (.cells (appL (takeL (n * size) (dropL o cur)) news) e size))
  | _ => none
def appendA (T : TyT) (H : Hp) (lab : Nat) (t1 t2 : Nat) (s x : Value) : Option AR :=
  match slcI T t1, sliceOrStr T t2 with
  | some (e, te), true => match s, lenA x with
    | .slice b n c, some k => match firstA H (k * te.size) x with
      | none => none
      | some news => match Nat.blt 0 te.size && Nat.beq te.zero.length te.size && news.all scal && Nat.blt ((n + k + 1) * (te.bytes + 1)) 1000000000 && labOk lab with
        | false => none
        | true => match b with
          | none => match n, c with
            | 0, 0 => match k with
              | 0 => one (.slice none 0 0) H
              | _ => one (.slice (some ⟨lab, 0, none⟩) k FULL) (H.add lab (.cells news e te.size))
            | _, _ => none
          | some ⟨L, o, none⟩ => appendB H lab e te.size s L o n c k news
          | _ => none
    | _, _ => none
  | _, _ => none
def strEq (a b : ByteArray) : Bool := decide (a.data.toList.map (·.toNat) = b.data.toList.map (·.toNat))
/-- where a key stands -/
def isIntD : TypeDesc → Bool
  | .int _ => true
  | _ => false
def keyEq (P : Program) (d : TypeDesc) (t : Nat) (k k' : Value) : Option Bool :=
  match isIntD d with
  | true => match asI64 k with
    | some a => match asI64 k' with
      | some b => some (eqI a b)
      | none => qv P (Op.equal t k k')
    | none => qv P (Op.equal t k k')
  | false => qv P (Op.equal t k k')
def keyAt (P : Program) (d : TypeDesc) (t : Nat) (k : Value) : List (Value × Value × Nat) → Nat → Option (Option (Nat × Value × Value × Nat))
  | [], _ => some none
  | e :: r, i => match keyEq P d t k e.1 with
    | some true => some (some (i, e))
    | some false => keyAt P d t k r (i + 1)
    | none => none
def mapA (H : Hp) : Value → Option (List (Value × Value × Nat))
  | .map none => some []
  | .map (some L) => match H.at L with
    | some (.map m _) => some m
    | _ => none
  | _ => none
/-- an operation on values without addresses that asks nothing of memory -/
def quietA (P : Program) (ρ : Operand → Value) (o : Oper) : Option Value :=
  match o.op.operands.toList.all (fun x => closedV (ρ x)) with
  | true => match qv P (execOp ρ o) with
    | some (.value v) => match closedV v with | true => some v | false => none
    | _ => none
  | false => none
def oPick (c a b : Value) : Option Value := match c with
  | .bool true => some a
  | .bool false => some b
  | _ => none
def oBuild (T : TyT) (ρ : Operand → Value) (t : Nat) (parts : Array (Nat × Operand)) : Option Value :=
  match bldI T t with
  | some (z, bp) => match fillL bp z (parts.toList.map fun p => (p.1, ρ p.2)) with
    | some c => some (.agg ⟨c⟩)
    | none => none
  | none => none
def oNil : Value → Option Value
  | .pointer (some a) => some (.pointer (some a))
  | .func (.func f) a b => some (.func (.func f) a b)
  | _ => none
def oUn (P : Program) (ρ : Operand → Value) (o : Oper) (op : UnOp) (x : Value) : Option Value :=
  match op, x with
  | .not, .bool b => some (.bool (!b))
  | _, _ => quietA P ρ o
def oSliceP (T : TyT) (ρ : Operand → Value) (t L o : Nat) (lo hi mx : Option Operand) : Option Value :=
  match arrI T t with
  | some (n, _, te) => match natOr 0 (lo.map ρ), natOr n (hi.map ρ), natOr n (mx.map ρ) with
    | some l, some h, some m => match Nat.ble l h && Nat.ble h m && Nat.ble m n && Nat.blt n FULL && (hi.isSome || mx.isNone) with
      | true => some (.slice (some ⟨L, if m = l then o else o + l * te.size, none⟩) (h - l) (m - l))
      | false => none
    | _, _, _ => none
  | none => none
def oSliceS (T : TyT) (ρ : Operand → Value) (t : Nat) (b : Option Addr) (n c : Nat) (lo hi mx : Option Operand) : Option Value :=
  match slcI T t with
  | some (_, te) => sliceA te.size b n c (lo.map ρ) (hi.map ρ) (mx.map ρ)
  | none => none
def oSlice (P : Program) (T : TyT) (ρ : Operand → Value) (o : Oper) (t : Nat) (x : Value) (lo hi mx : Option Operand) : Option Value :=
  match x with
  | .pointer (some ⟨L, off, none⟩) => oSliceP T ρ t L off lo hi mx
  | .slice b n c => oSliceS T ρ t b n c lo hi mx
  | _ => quietA P ρ o
def oFieldAddr (T : TyT) (t f : Nat) (x : Value) : Option Value :=
  match asPtr x with
  | some p => match fldI T t f with
    | some (off, tf) => match Nat.beq tf.size 0 with
      | true => none
      | false => some (.pointer (some ⟨p.L, Nat.add p.o off, none⟩))
    | none => none
  | none => none
def oField (T : TyT) (t f : Nat) (x : Value) : Option Value :=
  match asAggL x with
  | some cs => match fldI T t f with
    | some (off, tf) => partL tf cs off
    | none => none
  | none => none
def oIndexS (T : TyT) (t i : Nat) (p : SA) : Option Value :=
  match slcI T t with
  | some (_, te) => match Nat.blt i p.n with
    | true => some (.pointer (some ⟨p.L, Nat.add p.o (Nat.mul i te.size), none⟩))
    | false => none
  | none => none
def oIndexP (T : TyT) (t i : Nat) (x : Value) : Option Value :=
  match asPtr x with
  | some p => match arrI T t with
    | some (n, _, te) => match Nat.blt i n with
      | true => some (.pointer (some ⟨p.L, Nat.add p.o (Nat.mul i te.size), none⟩))
      | false => none
    | none => none
  | none => none
def oIndexAddr (T : TyT) (t : Nat) (x ix : Value) : Option Value :=
  match natOf ix with
  | some i => match asSlc x with
    | some p => oIndexS T t i p
    | none => oIndexP T t i x
  | none => none
def strTy (T : TyT) (t : Nat) : Bool := match T t with
  | some ti => match ti.d with | .string => true | _ => false
  | none => false
def oIndexStr (P : Program) (T : TyT) (ρ : Operand → Value) (o : Oper) (t : Nat) (x ix : Value) : Option Value :=
  match asStr x with
  | some s => match natOf ix with
    | some i => match strTy T t with
      | true => match nthO s.data.toList i with
        | some b => nseq b.toNat fun m => some (.int .u8 (.ofNat m))
        | none => none
      | false => none
    | none => quietA P ρ o
  | none => quietA P ρ o
def oIndex (P : Program) (T : TyT) (ρ : Operand → Value) (o : Oper) (t : Nat) (x ix : Value) : Option Value :=
  match asAggL x with
  | some cs => match natOf ix with
    | some i => match arrI T t with
      | some (n, _, te) => match Nat.blt i n with
        | true => partL te cs (Nat.mul i te.size)
        | false => none
      | none => none
    | none => none
  | none => oIndexStr P T ρ o t x ix
def oExtract (x : Value) (i : Nat) : Option Value := match asTupL x with
  | some vs => nthO vs i
  | none => none
def aop0 (P : Program) (T : TyT) (ρ : Operand → Value) (o : Oper) : Option Value :=
  match o.op with
  | .move x => some (ρ x)
  | .assign x => some (ρ x)
  | .pick c a b => oPick (ρ c) (ρ a) (ρ b)
  | .build t parts => oBuild T ρ t parts
  | .nilCheck x => oNil (ρ x)
  | .unOp op _ x => oUn P ρ o op (ρ x)
  | .makeFunc fn a b => some (.func fn ⟨a.toList.map ρ⟩ ⟨b.toList.map ρ⟩)
  | .slice t x lo hi mx => oSlice P T ρ o t (ρ x) lo hi mx
  | .fieldAddr t x f => oFieldAddr T t f (ρ x)
  | .field t x f => oField T t f (ρ x)
  | .indexAddr t x ix => oIndexAddr T t (ρ x) (ρ ix)
  | .index t x ix => oIndex P T ρ o t (ρ x) (ρ ix)
  | .extract t i => oExtract (ρ t) i
  | _ => none
def oBin3 (P : Program) (T : TyT) (H : Hp) (ρ : Operand → Value) (o : Oper) (op : BinOp) (t : Nat) (u v : Value) : Option Value :=
  match closedV u && closedV v with
  | true => quietA P ρ o
  | false => match op with
    | .eql => match eqA T H t u v with | some b => some (.bool b) | none => none
    | .neq => match eqA T H t u v with | some b => some (.bool (!b)) | none => none
    | _ => none
def orQ (P : Program) (ρ : Operand → Value) (o : Oper) : Option Value → Option Value
  | some v => some v
  | none => quietA P ρ o
def eqS (op : BinOp) (a b : ByteArray) : Option Value := match op with
  | .eql => some (.bool (strEq a b))
  | .neq => some (.bool (!(strEq a b)))
  | _ => none
def oBin2 (P : Program) (T : TyT) (H : Hp) (ρ : Operand → Value) (o : Oper) (op : BinOp) (t : Nat) (u v : Value) : Option Value :=
  match asStr u with
  | some a => match asStr v with
    | some b => orQ P ρ o (eqS op a b)
    | none => none
  | none => match asU8 u with
    | some a => match asU8 v with
      | some b => orQ P ρ o (cmpA op a b)
      | none => quietA P ρ o
    | none => oBin3 P T H ρ o op t u v
def oBin (P : Program) (T : TyT) (H : Hp) (ρ : Operand → Value) (o : Oper) (op : BinOp) (t : Nat) (u v : Value) : Option Value :=
  match asI64 u with
  | some a => match asI64 v with
    | some b => orQ P ρ o (int64 op a b)
    | none => quietA P ρ o
  | none => oBin2 P T H ρ o op t u v
def oLoad (T : TyT) (H : Hp) (t : Nat) (a : Value) : Option Value :=
  match asPtr a with
  | some p => match H.at p.L with
    | some (.cells c _ _) => match T t with
      | some ti => partL ti c p.o
      | none => none
    | _ => none
  | none => none
def lookV (ok : Bool) (z : Value) (r : Option (Nat × Value × Value × Nat)) : Value :=
  match ok, r with
  | true, some (_, x) => .tuple ⟨[x.2.1, .bool true]⟩
  | true, none => .tuple ⟨[z, .bool false]⟩
  | false, some (_, x) => x.2.1
  | false, none => z
def oLookup (P : Program) (T : TyT) (H : Hp) (t : Nat) (m k : Value) (ok : Bool) : Option Value :=
  match mapI T t, mapA H m, closedV k with
  | some (kt, kd, _, z), some l, true => match qv P (Instr.checkKey l.isEmpty 10000 kt k), keyAt P kd kt k l 0 with
    | some _, some r => some (lookV ok z r)
    | _, _ => none
  | _, _, _ => none
def oLen (P : Program) (T : TyT) (H : Hp) (ρ : Operand → Value) (o : Oper) (ts : List Nat) (args : List Value) : Option Value :=
  match ts, args with
  | [t], [.slice _ n _] => match slcI T t with | some _ => some (natV n) | none => none
  | [t], [.map m] => match mapA H (.map m), mapI T t with
    | some l, some _ => some (.int .i64 l.length)
    | _, _ => none
  | [t], [.string s] => match strTy T t with
    | true => some (natV s.data.toList.length)
    | false => none
  | _, _ => quietA P ρ o
def mmA (mx : Bool) : List Value → Option Value
  | [x, y] => match asI64 x with
    | some a => match asI64 y with
      | some b => match mx, ltA a b with
        | true, true => some (.int .i64 b)
        | true, false => some (.int .i64 a)
        | false, true => some (.int .i64 a)
        | false, false => some (.int .i64 b)
      | none => none
    | none => none
  | _ => none
def oCall1 (P : Program) (T : TyT) (H : Hp) (ρ : Operand → Value) (o : Oper) (c : Call) : Option Value :=
  match c.callee with
  | .builtin .len => oLen P T H ρ o c.argTypes.toList (c.args.toList.map ρ)
  | .builtin .min => orQ P ρ o (mmA false (c.args.toList.map ρ))
  | .builtin .max => orQ P ρ o (mmA true (c.args.toList.map ρ))
  | _ => quietA P ρ o
def aop1 (P : Program) (T : TyT) (H : Hp) (ρ : Operand → Value) (o : Oper) : Option Value :=
  match o.op with
  | .binOp op t x y _ => oBin P T H ρ o op t (ρ x) (ρ y)
  | .load t a => oLoad T H t (ρ a)
  | .lookup t m k ok => oLookup P T H t (ρ m) (ρ k) ok
  | .call c => oCall1 P T H ρ o c
  | .convert .. => quietA P ρ o
  | _ => none
def oBuildSlice (T : TyT) (ρ : Operand → Value) (t n : Nat) (parts : Array (Nat × Operand)) : Option (EBlk × MK) :=
  match zelI T t with
  | some (e, te) => match Nat.blt (n * te.size) 16777216 with
    | true => match fillL (.arr te.size) (zerosL te.zero (n * te.size)) (parts.toList.map fun p => (p.1, ρ p.2)) with
      | some c => some (.cells c e 1, .s n n)
      | none => none
    | false => none
  | none => none
def oMakeSlice (T : TyT) (t : Nat) (l c : Value) : Option (EBlk × MK) :=
  match zelI T t, natOf l, natOf c with
  | some (e, te), some l, some c => match Nat.ble l c && Nat.blt (c * (te.bytes + 1)) 1000000000 with
    | true => some (.cells (zerosL te.zero (c * te.size)) e 1, .s l c)
    | false => none
  | _, _, _ => none
def oAlloc (T : TyT) (t : Nat) : Option (EBlk × MK) :=
  match T t with
  | some ti => match ti.zero.all closedS with
    | true => some (.cells ti.zero t 1, .p)
    | false => none
  | none => none
def oMakeMap (T : TyT) (ρ : Operand → Value) (t : Nat) (r : Option Operand) : Option (EBlk × MK) :=
  match r with
  | none => some (.map [] 0, .mp)
  | some x => match mapI T t, ρ x with
    | some _, .int _ _ => some (.map [] 0, .mp)
    | _, _ => none
def oRange (T : TyT) (t : Nat) (x : Value) : Option (EBlk × MK) :=
  match x, strTy T t with
  | .string s, true => some (.sit s 0, .p)
  | _, _ => none
def aop2 (T : TyT) (ρ : Operand → Value) (o : Oper) : Option (EBlk × MK) :=
  match o.op with
  | .alloc t => oAlloc T t
  | .box t x => some (.cells (ρ x).cells.toList t 1, .p)
  | .buildSlice t n parts => oBuildSlice T ρ t n parts
  | .makeMap t r => oMakeMap T ρ t r
  | .makeSlice t l c => oMakeSlice T t (ρ l) (ρ c)
  | .range t x => oRange T t (ρ x)
  | _ => none
def oStore (T : TyT) (H : Hp) (t : Nat) (a x : Value) : Option AR :=
  match asPtr a with
  | some p => match T t with
    | some ti => match Nat.beq (lenL x.cells.toList) ti.size with
      | true => match storeA H p.L p.o x.cells.toList with
        | some H' => some (.skip H')
        | none => none
      | false => none
    | none => none
  | none => none
def oMapUpdate (P : Program) (T : TyT) (H : Hp) (t : Nat) (m k x : Value) : Option AR :=
  match mapI T t, m with
  | some (kt, kd, _, _), .map (some L) => match H.at L, closedV k && labOk L, qv P (Instr.checkKey false 10000 kt k) with
    | some (.map l clk), true, some _ => match keyAt P kd kt k l 0 with
      | some none => some (.skip (H.add L (.map (l ++ [(k, x, clk)]) (clk + 1))))
      | some (some (i, e)) => match Instr.sameBits 10000 e.1 k with
        | true => some (.skip (H.add L (.map (l.set i (k, x, e.2.2)) clk)))
        | false => none
      | none => none
    | _, _, _ => none
  | _, _ => none
def oClear (T : TyT) (H : Hp) (ts : List Nat) (args : List Value) : Option AR :=
  match ts, args with
  | [t1], [.slice b n _] => match zelI T t1 with
    | some (_, te) => match b with
      | none => match n with | 0 => one undef H | _ => none
      | some ⟨L, o, none⟩ => match storeA H L o (zerosL te.zero (n * te.size)) with
        | some H' => one undef H'
        | none => none
      | _ => none
    | none => none
  | _, _ => none
def oCopy (T : TyT) (H : Hp) (ts : List Nat) (args : List Value) : Option AR :=
  match ts, args with
  | [t1, _], [.slice b n _, x] => match slcI T t1, lenA x with
    | some (_, te), some m => match firstA H (Nat.min m n * te.size) x with
      | some vs => match b with
        | none => match Nat.min m n with | 0 => one (.int .i64 (.ofNat 0)) H | _ => none
        | some ⟨L, o, none⟩ => match storeA H L o vs with
          | some H' => one (natV (Nat.min m n)) H'
          | none => none
        | _ => none
      | none => none
    | _, _ => none
  | _, _ => none
def oAppend (T : TyT) (H : Hp) (lab : Nat) (ts : List Nat) (args : List Value) : Option AR :=
  match ts, args with
  | [t1, t2], [s, x] => appendA T H lab t1 t2 s x
  | _, _ => none
def oCallV (f : Value) (args : List Value) : Option AR :=
  match f with
  | .func (.func g) a b => some (.call g (appL a.toList (appL args b.toList)))
  | _ => none
def oCall (T : TyT) (H : Hp) (lab : Nat) (ρ : Operand → Value) (c : Call) : Option AR :=
  match c.callee with
  | .value f => oCallV (ρ f) (c.args.toList.map ρ)
  | .builtin .append => oAppend T H lab c.argTypes.toList (c.args.toList.map ρ)
  | .builtin .clear => oClear T H c.argTypes.toList (c.args.toList.map ρ)
  | .builtin .copy => oCopy T H c.argTypes.toList (c.args.toList.map ρ)
  | _ => none
def aop3 (P : Program) (T : TyT) (H : Hp) (lab : Nat) (ρ : Operand → Value) (o : Oper) : Option AR :=
  match o.op with
  | .store t a x => oStore T H t (ρ a) (ρ x)
  | .mapUpdate t m k x => oMapUpdate P T H t (ρ m) (ρ k) (ρ x)
  | .insert t m k x => oMapUpdate P T H t (ρ m) (ρ k) (ρ x)
  | .call c => oCall T H lab ρ c
  | _ => none
def oneO (v : Option Value) (H : Hp) : Option AR := match v with
  | some v => some (.val v H)
  | none => none
def aopNew (T : TyT) (H : Hp) (lab : Nat) (ρ : Operand → Value) (o : Oper) : Option AR :=
  match aop2 T ρ o, labOk lab with
  | some (b, m), true => one (m.at lab) (H.add lab b)
  | _, _ => none
def aop (P : Program) (T : TyT) (H : Hp) (lab : Nat) (ρ : Operand → Value) (o : Oper) : Option AR :=
  match kindOf o.op with
  | 0 => oneO (aop0 P T ρ o) H
  | 1 => oneO (aop1 P T H ρ o) H
  | 2 => aopNew T H lab ρ o
  | _ => aop3 P T H lab ρ o
end Go.Proofs.YtcbcegdidlefiaaGreat
