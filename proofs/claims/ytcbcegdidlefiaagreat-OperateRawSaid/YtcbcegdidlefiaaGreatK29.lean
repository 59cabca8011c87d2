/- A run with known data: regions, code and calls. No condition. A run with known data: what is followed is what the machine does: operations that read nothing, that read, that make blocks. No condition. A run with known data: operations that read nothing, and that read. No condition. -/
import Derived.Test.YtcbcegdidlefiaaGreatK28
import Derived.Test.YtcbcegdidlefiaaGreatK01
import Derived.Laws.Tables
import Derived.Laws.CopyRow
import Derived.Laws.AppendOwn
import Derived.Deep.MidRow
import Derived.Great.FillDense
namespace Go.Proofs.YtcbcegdidlefiaaGreat
section
open Go.RowKit
def evT (T:List Value):Operand→Value
 | .tmp t=>nthV T t
 | .const v=>v
 | .global g=> .pointer (some ⟨g,0,none⟩)
 | .func f=> .func (.func f) #[] #[]
def operOk:Operand→Bool
 | .tmp _=>true
 | .const v=>closedV v
 | .global _=>false
 | .func _=>true
def putL (T:List Value) (d:Option Nat) (v:Value):List Value:=
 match d with
 |some d=>setL T d v
 |none=>T
inductive Out where
 |bad
 |nrm (T:List Value) (H:Hp) (n:Nat)
 |ext (id:Nat) (T:List Value) (H:Hp) (n:Nat)
 |ret (T:List Value) (H:Hp) (n:Nat)
inductive Ov where
 |bad
 |ok (v:Value) (H:Hp) (n:Nat)
structure FI where
 nt:Nat
 res:List ResultVar
 body:Code
structure Env where
 P:Program
 T:TyT
 F:Nat→Option FI
 hook:Nat→List Value→Hp→Nat→Option (Value×Hp×Nat)
abbrev Rec:=Code→List Value→Hp→Nat→Out
def resA (T:TyT) (H:Hp) (t:List Value):List ResultVar→Option (List Value)
 | []=>some []
 | .tmp x::r=>match resA T H t r with
  |some l=>some (nthV t x::l)
  |none=>none
 | .cell a ty::r=>match oLoad T H ty (nthV t a),resA T H t r with
  |some v,some l=>some (v::l)
  |_,_=>none
def oneOrTuple:List Value→Value
 | [v]=>v
 |l=> .tuple ⟨l⟩
def retA (T:TyT) (T1:List Value) (H1:Hp) (n1:Nat) (res:List ResultVar):Ov:=
 match resA T H1 T1 res with
 |some l=> .ok (oneOrTuple l) H1 n1
 |none=> .bad
def backA (T:TyT) (res:List ResultVar):Out→Ov
 | .nrm T1 H1 n1=>retA T T1 H1 n1 res
 | .ret T1 H1 n1=>retA T T1 H1 n1 res
 |_=> .bad
def evCall (E:Env) (rec:Rec) (f:Nat) (args:List Value) (H:Hp) (n:Nat):Ov:=
 match E.hook f args H n with
 |some (v,H',n')=> .ok v H' n'
 |none=>match E.F f with
  |none=> .bad
  |some fi=>backA E.T fi.res (rec fi.body (appL args (List.replicate (fi.nt-lenL args) undef)) H n)
def evAR (E:Env) (rec:Rec) (H:Hp) (n:Nat):Option AR→Ov
 |some (.val v H')=> .ok v H' n
 |some (.skip H')=> .ok undef H' n
 |some (.call f args)=>evCall E rec f args H n
 |none=> .bad
def evOp (E:Env) (rec:Rec) (ρ:Operand→Value) (H:Hp) (lab n:Nat) (o:Oper):Ov:=evAR E rec H n (aop E.P E.T H lab ρ o)
def boolEq:Bool→Bool→Bool
 |true,true=>true
 |false,false=>true
 |_,_=>false
def wantR (l:List Oper) (ρ:Operand→Value) (o:Oper):Bool:=
 match o.guard with
 |none=>true
 |some (j,want)=>match nthO l j with
  |none=>false
  |some q=>match q.dst with
   |none=>false
   |some t=>match ρ (.tmp t)with
    | .bool b=>boolEq b want
    |_=>false
def evSeq (E:Env) (rec:Rec) (l:List Oper):List Oper→List Value→Hp→Nat→Out
 | [],T,H,n=> .nrm T H n
 |o::r,T,H,n=>match o.op.operands.toList.all operOk with
  |false=> .bad
  |true=>match wantR l (evT T) o with
   |false=>evSeq E rec l r (putL T o.dst undef) H (Nat.succ n)
   |true=>match evOp E rec (evT T) H n (Nat.succ n) o with
    | .ok v H' n'=>evSeq E rec l r (putL T o.dst v) H' n'
    | .bad=> .bad
def isTmp (d:Option Nat) (t:Nat):Bool:=match d with|some d=>Nat.beq d t|none=>false
def srcGo (t:Nat):List Oper→Nat→Option Nat→Option Nat
 | [],_,acc=>acc
 |o::r,i,acc=>match i with
  |0=>acc
  |i+1=>srcGo t r i (match isTmp o.dst t with
   |true=>some 0
   |false=>match acc with|some k=>some (Nat.succ k)|none=>none)
def srcOf (l:List Oper) (i t:Nat):Option Nat:=srcGo t l i none
def envS (l:List Oper) (i:Nat) (T vals:List Value):Operand→Value
 | .tmp t=>match srcOf l i t with
  |some k=>nthV vals k
  |none=>nthV T t
 |x=>evT T x
def topDst:List Oper→Nat
 | []=>0
 |o::r=>Nat.max (match o.dst with|some d=>Nat.succ d|none=>0) (topDst r)
def wtab (l:List Oper):List (Option Nat):=(List.range (topDst l)).map (srcOf l l.length)
def zipW (vals:List Value):List (Option Nat)→List Value→List Value
 | [],T=>T
 |w::ws,T=>match T with
  | []=> []
  |a::T=>(match w with|some k=>nthV vals k|none=>a)::zipW vals ws T
inductive OI where
 |bad
 |mv (x:Operand)
 |k0
 |k1
 |k2
 |k3
 |gd
def oiK:Nat→OI
 |0=> .k0
 |1=> .k1
 |2=> .k2
 |_=> .k3
def mvOf (o:Oper):OI:=match o.op with
 | .move x=> .mv x
 | .assign x=> .mv x
 |op=>oiK (kindOf op)
def oi (o:Oper):OI:=match o.op.operands.toList.all operOk with
 |false=> .bad
 |true=>match o.guard with
  |none=>mvOf o
  |some _=> .gd
abbrev SeqF:=Nat→List Value→Hp→Nat→Out
def nxtV (ih:SeqF) (i:Nat) (vals:List Value) (H:Hp) (n:Nat):Option Value→Out
 |some v=>ih (Nat.succ i) (v::vals) H (Nat.succ n)
 |none=> .bad
def nextO (ih:SeqF) (i:Nat) (vals:List Value):Ov→Out
 | .ok v H n=>ih (Nat.succ i) (v::vals) H n
 | .bad=> .bad
def stepG (E:Env) (rec:Rec) (l:List Oper) (ρ:Operand→Value) (o:Oper) (ih:SeqF) (i:Nat) (vals:List Value) (H:Hp) (n:Nat):Out:=
 match wantR l ρ o with
 |false=>ih (Nat.succ i) (undef::vals) H (Nat.succ n)
 |true=>nextO ih i vals (evOp E rec ρ H n (Nat.succ n) o)
def stepF (E:Env) (rec:Rec) (l:List Oper) (T:List Value) (o:Oper) (ih:SeqF) (i:Nat) (vals:List Value) (H:Hp) (n:Nat):Out:=
 match oi o with
 | .bad=> .bad
 | .mv x=>ih (Nat.succ i) (envS l i T vals x::vals) H (Nat.succ n)
 | .k0=>nxtV ih i vals H n (aop0 E.P E.T (envS l i T vals) o)
 | .k1=>nxtV ih i vals H n (aop1 E.P E.T H (envS l i T vals) o)
 | .k2=>nextO ih i vals (evAR E rec H (Nat.succ n) (aopNew E.T H n (envS l i T vals) o))
 | .k3=>nextO ih i vals (evAR E rec H (Nat.succ n) (aop3 E.P E.T H n (envS l i T vals) o))
 | .gd=>stepG E rec l (envS l i T vals) o ih i vals H n
def evSeqF (E:Env) (rec:Rec) (l:List Oper) (T:List Value):List Oper→SeqF
 | []=>fun _ vals H n=> .nrm (zipW vals (wtab l) T) H n
 |o::r=>fun i vals H n=>stepF E rec l T o (evSeqF E rec l T r) i vals H n
structure RI where
 ok:Bool
 l:List Oper
 pm:List Nat
 eff:List Nat
 stg:List Nat
def chainOk (pm:List Nat):List Nat→Bool
 |i::j::r=>(pm.getD j 0).testBit i&&chainOk pm (j::r)
 |_=>true
def cntIn (m:Nat):List Nat→Nat
 | []=>0
 |e::r=>(bif m.testBit e then 1 else 0)+cntIn m r
def tmpsOf (o:Oper):List Nat:=o.op.operands.toList.filterMap fun| .tmp t=>some t|_=>none
def writer (l:List Oper) (t:Nat):Option Nat:=l.findIdx? fun o=>isTmp o.dst t
def readsOk (l:List Oper) (pm:List Nat):Bool:=
 (List.range l.length).all fun i=>match l[i]? with
  |none=>false
  |some o=>(tmpsOf o).all fun t=>match writer l t with
   |none=>true
   |some j=>(pm.getD i 0).testBit j||(pm.getD j 0).testBit i||Nat.beq i j
def dstOk (l:List Oper):Bool:=nodupB (l.filterMap (·.dst))
def guardOk (l:List Oper) (pm:List Nat):Bool:=
 (List.range l.length).all fun i=>match l[i]? with
  |none=>false
  |some o=>match o.guard with
   |none=>true
   |some (j,_)=>(pm.getD i 0).testBit j
def rinfo (ops:Array Oper):RI:=
 let l:=ops.toList
 let pm:=masks l []
 let eff:=(List.range l.length).filter fun i=>match l[i]? with|some o=>Nat.beq (kindOf o.op) 3|none=>false
 {ok:=chainOk pm eff&&readsOk l pm&&dstOk l&&guardOk l pm&&l.all (fun o=>o.op.operands.toList.all operOk)&&edgesBackB l&&Nat.blt l.length 100000
  l:=l,pm:=pm,eff:=eff,stg:=pm.map fun m=>cntIn m eff}
abbrev Vs:=List (Nat×Value)
def Vs.get:Vs→Nat→Option Value
 | [],_=>none
 |(i,v)::r,j=>match Nat.beq i j with
  |true=>some v
  |false=>Vs.get r j
def Vs.put (V:Vs) (i:Nat) (v:Value):Vs:=(i,v)::V
def getV (V:Vs) (j:Nat):Value:=match Vs.get V j with|some v=>v|none=>undef
def frm (ri:RI) (i t:Nat):Option Nat:=
 match writer ri.l t with
 |some j=>match (ri.pm.getD i 0).testBit j with
  |true=>some j
  |false=>none
 |none=>none
def envI (ri:RI) (T0:List Value) (V:Vs) (i:Nat):Operand→Value
 | .tmp t=>match frm ri i t with
  |some j=>getV V j
  |none=>nthV T0 t
 |x=>evT T0 x
def wantI (ri:RI) (V:Vs) (o:Oper):Bool:=
 match o.guard with
 |none=>true
 |some (j,want)=>match (ri.l[j]?).bind (·.dst)with
  |some _=>match getV V j with
   | .bool b=>boolEq b want
   |_=>false
  |none=>false
def veq0:Value→Value→Bool
 | .bool a,.bool b=>boolEq a b
 | .int k a,.int j b=>decide (k=j)&&eqI a b
 | .string a,.string b=>strEq a b
 | .pointer a,.pointer b=>decide (a=b)
 | .slice a n c,.slice b m d=>decide (a=b)&&Nat.beq n m&&Nat.beq c d
 | .map a,.map b=>decide (a=b)
 | .nilFunc,.nilFunc=>true
 | .nilIface,.nilIface=>true
 |_,_=>false
def veqL (f:Value→Value→Bool):List Value→List Value→Bool
 | [],[]=>true
 |a::r,b::q=>f a b&&veqL f r q
 |_,_=>false
def veqS:Value→Value→Bool
 | .func f a b,.func g c d=>decide (f=g)&&veqL veq0 a.toList c.toList&&veqL veq0 b.toList d.toList
 |a,b=>veq0 a b
def veqA:Value→Value→Bool
 | .agg a,.agg b=>veqL veqS a.toList b.toList
 |a,b=>veqS a b
def veq:Value→Value→Bool
 | .tuple a,.tuple b=>veqL veqA a.toList b.toList
 |a,b=>veqA a b
def blkEq:EBlk→EBlk→Bool
 | .cells c e n,.cells d f m=>veqL veqS c d&&Nat.beq e f&&Nat.beq n m
 | .map [] a,.map [] b=>Nat.beq a b
 | .sit s a,.sit t b=>strEq s t&&Nat.beq a b
 |_,_=>false
def needs (ri:RI) (i:Nat) (o:Oper):List Nat:=(tmpsOf o).filterMap (frm ri i)
def envOk (ri:RI) (V:Vs) (i:Nat) (o:Oper):Bool:=
 ((needs ri i o).all fun j=>(Vs.get V j).isSome)&&(match o.guard with|none=>true|some (j,_)=>(Vs.get V j).isSome)
def opQ (E:Env) (ri:RI) (T0:List Value) (base:Nat) (V:Vs) (H:Hp) (i:Nat) (o:Oper):Option (Value×Hp):=
 match kindOf o.op with
 |0=>match aop0 E.P E.T (envI ri T0 V i) o with|some v=>some (v,H)|none=>none
 |1=>match aop1 E.P E.T H (envI ri T0 V i) o with|some v=>some (v,H)|none=>none
 |2=>match aop2 E.T (envI ri T0 V i) o,labOk (base+i)with
  |some (b,m),true=>some (m.at (base+i),H.add (base+i) b)
  |_,_=>none
 |_=>none
def stageRun (E:Env) (ri:RI) (T0:List Value) (base st:Nat):List Nat→Vs→Hp→Option (Vs×Hp)
 | [],V,H=>some (V,H)
 |i::r,V,H=>match ri.l[i]? with
  |none=>none
  |some o=>match Nat.beq (kindOf o.op) 3|| !Nat.beq (ri.stg.getD i 0) st with
   |true=>stageRun E ri T0 base st r V H
   |false=>match envOk ri V i o&&(Vs.get V i).isNone with
    |false=>none
    |true=>match wantI ri V o with
     |false=>stageRun E ri T0 base st r (Vs.put V i undef) H
     |true=>match opQ E ri T0 base V H i o with
      |some (v,H')=>stageRun E ri T0 base st r (Vs.put V i v) H'
      |none=>none
def stgOkE (E:Env) (ri:RI) (T0:List Value) (base st last:Nat) (V:Vs) (H:Hp):List Nat→Bool
 | []=>true
 |i::r=>(match ri.l[i]? with
  |none=>false
  |some o=>match kindOf o.op with
   |1=>match Nat.ble (ri.stg.getD i 0) st&& !last.testBit i&&wantI ri V o with
    |false=>true
    |true=>match aop1 E.P E.T H (envI ri T0 V i) o with
     |some v=>veq v (getV V i)
     |none=>false
   |2=>match Nat.ble (ri.stg.getD i 0) st&& !last.testBit i&&wantI ri V o with
    |false=>true
    |true=>match aop2 E.T (envI ri T0 V i) o,H.at (base+i)with
     |some (b,m),some b'=>blkEq b b'&&veq (m.at (base+i)) (getV V i)&&labOk (base+i)
     |_,_=>false
   |_=>true)&&stgOkE E ri T0 base st last V H r
def drawGo (E:Env) (rec:Rec) (ri:RI) (T0:List Value) (base:Nat):List Nat→Nat→Nat→Vs→Hp→Nat→Option (Vs×Hp×Nat)
 |effs,st,last,V,H,n=>match stageRun E ri T0 base st (List.range ri.l.length) V H with
  |none=>none
  |some (V1,H1)=>match stgOkE E ri T0 base st last V1 H1 (List.range ri.l.length)with
   |false=>none
   |true=>match effs with
    | []=>some (V1,H1,n)
    |e::r=>match ri.l[e]? with
     |none=>none
     |some o=>match envOk ri V1 e o&&(Vs.get V1 e).isNone with
      |false=>none
      |true=>match wantI ri V1 o with
       |false=>drawGo E rec ri T0 base r (st+1) (ri.pm.getD e 0) (Vs.put V1 e undef) H1 n
       |true=>match evAR E rec H1 n (aop3 E.P E.T H1 (base+e) (envI ri T0 V1 e) o)with
        | .ok v H' n'=>drawGo E rec ri T0 base r (st+1) (ri.pm.getD e 0) (Vs.put V1 e v) H' n'
        | .bad=>none
def writs (l:List Oper):List (Option Nat):=(List.range (topDst l)).map (writer l)
def zipV (V:Vs):List (Option Nat)→List Value→List Value
 | [],T=>T
 |w::ws,T=>match T with
  | []=> []
  |a::T=>(match w with|some j=>getV V j|none=>a)::zipV V ws T
def evDraw (E:Env) (rec:Rec) (ops:Array Oper) (T:List Value) (H:Hp) (n:Nat):Out:=
 match (rinfo ops).ok&&Nat.ble (topDst (rinfo ops).l) (lenL T)with
 |false=> .bad
 |true=>match drawGo E rec (rinfo ops) T n (rinfo ops).eff 0 0 [] H (n+(rinfo ops).l.length)with
  |some (V,H',n')=> .nrm (zipV V (writs (rinfo ops).l) T) H' n'
  |none=> .bad
def thenA (rec:Rec) (b:Code):Out→Out
 | .nrm T H n=>rec b T H n
 |r=>r
def blkA (id:Nat):Out→Out
 | .ext j T H n=>match Nat.beq j id with
  |true=> .nrm T H n
  |false=> .ext j T H n
 |r=>r
def condA (rec:Rec) (a b:Code) (T:List Value) (H:Hp) (n:Nat):Value→Out
 | .bool true=>rec a T H n
 | .bool false=>rec b T H n
 |_=> .bad
def regA (E:Env) (rec:Rec) (ops:Array Oper) (T:List Value) (H:Hp) (n:Nat):Bool→Out
 |false=>evSeqF E rec ops.toList T ops.toList 0 [] H n
 |true=>evDraw E rec ops T H n
def evStep (E:Env) (rec:Rec):Rec:=fun c T H n=>
 match c with
 | .skip=> .nrm T H n
 | .label _=> .nrm T H n
 | .seq a b=>thenA rec b (rec a T H n)
 | .cond x a b=>condA rec a b T H n (evT T x)
 | .block id b=>blkA id (rec b T H n)
 | .loop b=>thenA rec (.loop b) (rec b T H n)
 | .exit id=> .ext id T H n
 | .ret=> .ret T H n
 | .region _ ops d=>regA E rec ops T H n d
 |_=> .bad
def ev (E:Env) (f:Nat):Rec:=Nat.rec (fun _ _ _ _=> .bad) (fun _ r=>evStep E r) f
def run (E:Env) (fuel:Nat) (f:Nat) (args:List Value) (H:Hp) (n:Nat):Ov:=evCall E (ev E fuel) f args H n
def Ov.yes:Ov→Bool
 | .ok (.bool true) _ _=>true
 |_=>false
end
section
open Go.RowKit
theorem qv_run {α:Type} {P:Program} {x:Sem α} {a:α} (h:qv P x=some a) (w:World):x.run P w= .ok a w:=by
 induction x with
 |pure b=>simp[qv]at h;subst h;rfl
 |program k ih=>simp only[qv]at h;exact ih P h
 |mark m k ih=>simp only[qv]at h;exact ih h
 |_=>simp[qv]at h
def TOk (P:Program) (T:TyT):Prop:=∀t ti,T t=some ti→mkTI P t=some ti
section
variable {P:Program} {T:TyT} {t:Nat} {ti:TI} {w:World}
theorem TOk.und (hT:TOk P T) (h:T t=some ti):P.underlying t=some ti.d:=by
 have:=hT t ti h
 unfold mkTI at this
 split at this
 ·split at this
  ·cases this;assumption
  ·cases this
 ·cases this
theorem TOk.info (hT:TOk P T) (h:T t=some ti):∃i z,P.info? t=some i∧i.size=ti.size∧i.bytes=ti.bytes∧i.zero=some z∧z.cells.toList=ti.zero∧ti.agg=isRowB ti.d:=by
 have:=hT t ti h
 unfold mkTI at this
 split at this
 ·rename_i d i hd hi
  split at this
  ·rename_i z hz
   cases this
   exact⟨i,z,hi,rfl,rfl,hz,rfl,rfl⟩
  ·cases this
 ·cases this
theorem TOk.rund (hT:TOk P T) (h:T t=some ti) (w:World):(underlying t).run P w= .ok ti.d w:=run_underlying (hT.und h) w
theorem TOk.rsize (hT:TOk P T) (h:T t=some ti) (w:World):(sizeOf t).run P w= .ok ti.size w:=by
 obtain⟨i,z,h1,h2,_⟩:=hT.info h
 simp[sizeOf,typeInfo,h1,h2]
theorem TOk.ragg (hT:TOk P T) (h:T t=some ti) (w:World):(isAgg t).run P w= .ok ti.agg w:=by
 obtain⟨i,z,_,_,_,_,_,h6⟩:=hT.info h
 unfold isAgg
 rw[Sem.run_bind,hT.rund h,Result.andThen_ok,h6]
 cases ti.d<;>simp[isRowB]
theorem TOk.rzv (hT:TOk P T) (h:T t=some ti) (w:World):(zeroValue t).run P w= .ok ti.zv w:=by
 have:=hT t ti h
 unfold mkTI at this
 split at this
 ·rename_i d i hd hi
  split at this
  ·rename_i z hz
   cases this
   simp[zeroValue,typeInfo,hi,hz]
  ·cases this
 ·cases this
end
theorem nthO_eq {α:Type}:∀(l:List α) (n:Nat),nthO l n=l[n]?
 | [],n=>by simp[nthO]
 |a::l,0=>by simp[nthO]
 |a::l,n+1=>by simp[nthO,nthO_eq l n]
theorem nthV_eq:∀(l:List Value) (n:Nat),nthV l n=l.getD n undef
 | [],n=>by simp[nthV]
 |a::l,0=>by simp[nthV]
 |a::l,n+1=>by simp[nthV,nthV_eq l n]
theorem takeL_eq:∀(n:Nat) (l:List Value),takeL n l=l.take n
 |0,l=>by simp[takeL]
 |n+1,[]=>by simp[takeL]
 |n+1,a::l=>by simp[takeL,takeL_eq n l]
theorem dropL_eq:∀(n:Nat) (l:List Value),dropL n l=l.drop n
 |0,l=>by simp[dropL]
 |n+1,[]=>by simp[dropL]
 |n+1,a::l=>by simp[dropL,dropL_eq n l]
theorem lenL_eq:∀(l:List Value),lenL l=l.length
 | []=>rfl
 |a::l=>by simp[lenL,lenL_eq l]
theorem setL_eq:∀(l:List Value) (n:Nat) (v:Value),setL l n v=l.set n v
 | [],n,v=>by simp[setL]
 |a::l,0,v=>by simp[setL]
 |a::l,n+1,v=>by simp[setL,setL_eq l n v]
theorem appL_eq:∀(a b:List Value),appL a b=a++b
 | [],b=>rfl
 |a::l,b=>by simp[appL,appL_eq l b]
theorem over_eq:∀(c vs:List Value),vs.length≤c.length→over c vs=vs++c.drop vs.length
 |c,[],_=>by simp[over]
 | [],v::vs,h=>by simp at h
 |a::c,v::vs,h=>by simp[over,over_eq c vs (by simpa using h)]
theorem spl_eq:∀(o:Nat) (c vs:List Value),o+vs.length≤c.length→spl o c vs=c.take o++vs++c.drop (o+vs.length)
 |0,c,vs,h=>by simp[spl,over_eq c vs (by omega)]
 |o+1,[],vs,h=>by simp at h
 |o+1,a::c,vs,h=>by
  have:o+1+vs.length=(o+vs.length)+1:=by omega
  rw[this]
  simp[spl,spl_eq o c vs (by simp at h;omega)]
theorem VL.nthV {s:Sg} {c c':List Value} (r:VL s c c') (n:Nat):VR s (nthV c n) (c'.getD n undef):=by
 rw[nthV_eq]
 by_cases h:n<c.length
 ·have h':n<c'.length:=r.1▸h
  simp only[List.getD_eq_getElem?_getD,List.getElem?_eq_getElem h,List.getElem?_eq_getElem h',Option.getD_some]
  exact r.2 n _ _ (List.getElem?_eq_getElem h) (List.getElem?_eq_getElem h')
 ·have h':¬n<c'.length:=r.1▸h
  simp only[List.getD_eq_getElem?_getD,List.getElem?_eq_none (Nat.le_of_not_lt h),List.getElem?_eq_none (Nat.le_of_not_lt h'),Option.getD_none]
  exact .tuple _ _ rfl (by simp)
section
variable {P:Program} {T:TyT} {s:Sg}
theorem part_ok (hT:TOk P T) {t:Nat} {ti:TI} (h:T t=some ti) {c:List Value} {c':Array Value} (hc:VL s c c'.toList) {o:Nat} {v:Value} (hp:partL ti c o=some v):
  ∃v',(∀w,(part t c' o).run P w= .ok v' w)∧VR s v v':=by
 unfold partL at hp
 rw[takeL_eq,dropL_eq,nthO_eq,lenL_eq]at hp
 cases ha:ti.agg with
 |true=>
  rw[ha]at hp
  simp only at hp
  split at hp
  ·cases hp
   refine⟨.agg (c'.extract o (o+ti.size)),fun w=> ?_,?_⟩
   ·unfold part
    rw[Sem.run_bind,hT.ragg h,Result.andThen_ok,ha]
    simp[hT.rsize h]
   ·have:=VR.aggL ((hc.drop o).take ti.size)
    have e:(c'.extract o (o+ti.size))=⟨(c'.toList.drop o).take ti.size⟩:=by
     apply Array.ext'
     simp[List.extract_eq_take_drop]
    rw[e]
    exact this
  ·cases hp
 |false=>
  rw[ha]at hp
  simp only at hp
  obtain⟨v',h1,h2⟩:=hc.get hp
  refine⟨v',fun w=> ?_,h2⟩
  unfold part
  rw[Sem.run_bind,hT.ragg h,Result.andThen_ok,ha]
  have h1':c'[o]? =some v':=by simpa using h1
  simp[h1']
theorem placesA_ok (hT:TOk P T):∀(fs:List Field) (pl:List (Nat×Nat)),placesA T fs=some pl→fs.mapM (fun f=>(P.info? f.type).map fun i=>(f.offset,i.size))=some pl
 | [],pl,h=>by simp[placesA]at h;subst h;rfl
 |f::r,pl,h=>by
  simp only[placesA]at h
  split at h
  ·rename_i tf l h1 h2
   cases h
   obtain⟨i,z,h3,h4,_⟩:=hT.info h1
   simp[List.mapM_cons,h3,h4,placesA_ok hT r l h2]
  ·cases h
theorem fold_spl (off:Nat) (vs:List Value) (cs:Array Value) (h:off+vs.length≤cs.size):
  ((vs.zipIdx 0).foldl (fun cs (x:Value×Nat)=>cs.setIfInBounds (off+x.2) x.1) cs).toList=spl off cs.toList vs:=by
 obtain⟨h1,h2⟩:=Great.foldl_set off vs 0 cs
 rw[spl_eq _ _ _ (by simpa using h)]
 apply List.ext_getElem?
 intro k
 have:=h2 k
 rw[←Array.getElem?_toList]at this
 rw[this]
 simp only[Nat.add_zero]
 by_cases a:k<off
 ·rw[if_neg (by omega),List.getElem?_append_left (by simp;omega),List.getElem?_append_left (by simp;omega),List.getElem?_take,if_pos a]
  simp
 ·by_cases b:k<off+vs.length
  ·rw[if_pos (by omega),List.getElem?_append_left (by simp;omega),List.getElem?_append_right (by simp;omega)]
   congr 1
   simp;omega
  ·rw[if_neg (by omega),List.getElem?_append_right (by simp;omega),List.getElem?_drop]
   simp
   congr 1
   omega
theorem VL.over:∀ {c c' vs vs':List Value},VL s c c'→VL s vs vs'→VL s (over c vs) (over c' vs')
 |c,c',[],[],h,_=>by unfold Go.Proofs.YtcbcegdidlefiaaGreat.over;exact h
 |_,_,[],_::_,_,g=>by have:=g.1;simp at this
 |_,_,_::_,[],_,g=>by have:=g.1;simp at this
 | [],[],_::_,_::_,_,_=>by unfold Go.Proofs.YtcbcegdidlefiaaGreat.over;exact VL.nil
 | [],_::_,_::_,_::_,h,_=>by have:=h.1;simp at this
 |_::_,[],_::_,_::_,h,_=>by have:=h.1;simp at this
 |_::_,_::_,_::_,_::_,h,g=>by unfold Go.Proofs.YtcbcegdidlefiaaGreat.over;exact VL.cons g.head (VL.over h.tail g.tail)
theorem VL.spl {vs vs':List Value} (hv:VL s vs vs'):∀(o:Nat) {c c':List Value},VL s c c'→VL s (spl o c vs) (spl o c' vs')
 |0,_,_,h=>by unfold Go.Proofs.YtcbcegdidlefiaaGreat.spl;exact h.over hv
 |o+1,[],[],_=>by unfold Go.Proofs.YtcbcegdidlefiaaGreat.spl;exact VL.nil
 |o+1,[],_::_,h=>by have:=h.1;simp at this
 |o+1,_::_,[],h=>by have:=h.1;simp at this
 |o+1,_::_,_::_,h=>by unfold Go.Proofs.YtcbcegdidlefiaaGreat.spl;exact VL.cons h.head (VL.spl hv o h.tail)
theorem fill_ok (place:BP) (pl:Nat→Option (Nat×Nat)) (hpp:∀i,pl i=place.at i):∀(parts parts':List (Nat×Value)) (c:List Value) (c':Array Value) (r:List Value),parts.length=parts'.length→
  (∀(i:Nat) x x',parts[i]? =some x→parts'[i]? =some x'→x.1=x'.1∧VR s x.2 x'.2)→VL s c c'.toList→fillL place c parts=some r→
  ∃r',Instr.fill pl c' parts'=some r'∧VL s r r'.toList
 | [],[],c,c',r,_,_,hc,h=>by simp[fillL]at h;subst h;exact⟨c',rfl,hc⟩
 | [],_::_,_,_,_,h,_,_,_=>by simp at h
 |_::_,[],_,_,_,h,_,_,_=>by simp at h
 |(i,v)::p,(i',v')::p',c,c',r,hl,hp,hc,h=>by
  obtain⟨h1,h2⟩:=hp 0 _ _ rfl rfl
  simp only at h1 h2
  subst h1
  simp only[fillL]at h
  unfold Instr.fill
  rw[hpp i]
  cases hpl:place.at i with
  |none=>rw[hpl]at h;cases h
  |some os=>
   obtain⟨off,size⟩:=os
   rw[hpl]at h
   simp only at h⊢
   split at h
   ·rename_i hb
    simp only[Bool.and_eq_true,Nat.beq_eq,Nat.ble_eq]at hb
    obtain⟨hb1,hb2⟩:=hb
    have hvc:=h2.cells
    have hl3:v.cells.toList.length=v'.cells.size:=by have:=hvc.1;simpa using this
    have hl1:v'.cells.size=size:=by omega
    have hl2:c.length=c'.size:=by have:=hc.1;simpa using this
    rw[if_neg (by simp only[Bool.or_eq_true,decide_eq_true_eq,ne_eq];omega)]
    refine fill_ok place pl hpp p p' _ _ r (by simpa using hl) (fun j x x' a b=>hp (j+1) x x' (by simpa using a) (by simpa using b)) ?_ h
    have e:(Array.foldl (fun cs x=>cs.setIfInBounds (off+x.2) x.1) c' v'.cells.zipIdx)=((v'.cells.toList.zipIdx 0).foldl (fun cs (x:Value×Nat)=>cs.setIfInBounds (off+x.2) x.1) c'):=by
     rw[←Array.foldl_toList];simp
    rw[e,fold_spl off v'.cells.toList c' (by rw[Array.length_toList];omega)]
    exact hvc.spl off hc
   ·cases h
end
end
section
open Go.RowKit
section
variable {P:Program} {T:TyT} {s:Sg} {ρ ρ':Operand→Value} {o:Oper}
theorem quietA_ok (hs:∀cs b,o.op≠ .select cs b) (hρ:∀x∈o.op.operands,VR s (ρ x) (ρ' x)) {v:Value} (h:quietA P ρ o=some v):
  (∀w,(execOp ρ' o).run P w= .ok (.value v) w)∧VR s v v:=by
 unfold quietA at h
 split at h
 ·rename_i hc
  split at h
  ·rename_i u hq
   split at h
   ·rename_i hv
    cases h
    have e:execOp ρ' o=execOp ρ o:=execOp_congr o hs fun x hx=>VR.eqV (List.all_eq_true.1 hc x (by simpa using hx)) (hρ x hx)
    exact⟨fun w=>by rw[e];exact qv_run hq w,VR.closedV hv⟩
   ·cases h
  ·cases h
 ·cases h
theorem asPtr_eq {v:Value} {p:PA} (h:asPtr v=some p):v= .pointer (some ⟨p.L,p.o,none⟩):=by
 unfold asPtr at h;split at h
 ·cases h;rfl
 ·cases h
theorem asSlc_eq {v:Value} {p:SA} (h:asSlc v=some p):v= .slice (some ⟨p.L,p.o,none⟩) p.n p.c:=by
 unfold asSlc at h;split at h
 ·cases h;rfl
 ·cases h
theorem asI64_eq {v:Value} {n:Int} (h:asI64 v=some n):v= .int .i64 n:=by
 unfold asI64 at h;split at h
 ·cases h;rfl
 ·cases h
theorem asU8_eq {v:Value} {n:Int} (h:asU8 v=some n):v= .int .u8 n:=by
 unfold asU8 at h;split at h
 ·cases h;rfl
 ·cases h
theorem asStr_eq {v:Value} {n:ByteArray} (h:asStr v=some n):v= .string n:=by
 unfold asStr at h;split at h
 ·cases h;rfl
 ·cases h
theorem asAggL_rel {v v':Value} {l:List Value} (h:asAggL v=some l) (r:VR s v v'):∃a',v'= .agg a'∧VL s l a'.toList:=by
 unfold asAggL at h;split at h
 ·cases h
  cases r with
  |agg _ a' ha h1=>exact⟨a',rfl,VL.ofArr ha h1⟩
 ·cases h
theorem asTupL_rel {v v':Value} {l:List Value} (h:asTupL v=some l) (r:VR s v v'):∃a',v'= .tuple a'∧VL s l a'.toList:=by
 unfold asTupL at h;split at h
 ·cases h
  cases r with
  |tuple _ a' ha h1=>exact⟨a',rfl,VL.ofArr ha h1⟩
 ·cases h
theorem asPtr_rel {v v':Value} {p:PA} (h:asPtr v=some p) (r:VR s v v'):∃i,s p.L=some i∧v'= .pointer (some ⟨i.bl,p.o,none⟩):=by
 rw[asPtr_eq h]at r
 cases r with
 |ptr _ _ i hi=>exact⟨i,hi,rfl⟩
theorem asSlc_rel {v v':Value} {p:SA} (h:asSlc v=some p) (r:VR s v v'):∃i c',s p.L=some i∧v'= .slice (some ⟨i.bl,p.o,none⟩) p.n c'∧((p.c<FULL∧c'=p.c)∨(p.c=FULL∧p.n≤c'∧(p.o=0→c'*i.es=i.sz∧c'≤maxLen))):=by
 rw[asSlc_eq h]at r
 obtain⟨L,o,n,c⟩:=p
 simp only at r⊢
 exact match c,v',r with
  |_,_,.slc _ _ _ _ i hi hc=>⟨i,_,hi,rfl,.inl ⟨hc,rfl⟩⟩
  |_,_,.full _ _ _ c' i hi hn h0=>⟨i,_,hi,rfl,.inr ⟨rfl,hn,h0⟩⟩
theorem asI64_rel {v v':Value} {n:Int} (h:asI64 v=some n) (r:VR s v v'):v'= .int .i64 n:=by rw[asI64_eq h]at r;cases r;rfl
theorem asU8_rel {v v':Value} {n:Int} (h:asU8 v=some n) (r:VR s v v'):v'= .int .u8 n:=by rw[asU8_eq h]at r;cases r;rfl
theorem asStr_rel {v v':Value} {n:ByteArray} (h:asStr v=some n) (r:VR s v v'):v'= .string n:=by rw[asStr_eq h]at r;cases r;rfl
theorem fldI_ok (hT:TOk P T) {t f off:Nat} {tf:TI} (h:fldI T t f=some (off,tf)):∃(fields:Array Field) (fd:Field),P.underlying t=some (.struct fields)∧fields[f]? =some fd∧T fd.type=some tf∧fd.offset=off:=by
 unfold fldI at h
 split at h
 ·rename_i ti hti
  split at h
  ·rename_i fields hd
   split at h
   ·rename_i fd hfd
    split at h
    ·rename_i tf' htf
     cases h
     have:=hT.und hti
     rw[hd]at this
     exact⟨fields,fd,this,by rw[nthO_eq]at hfd;simpa using hfd,htf,rfl⟩
    ·cases h
   ·cases h
  ·cases h
 ·cases h
theorem slcI_ok (hT:TOk P T) {t e:Nat} {te:TI} (h:slcI T t=some (e,te)):P.underlying t=some (.slice e)∧T e=some te:=by
 unfold slcI at h
 split at h
 ·rename_i ti hti
  split at h
  ·rename_i e' hd
   split at h
   ·rename_i te' hte
    cases h
    have:=hT.und hti
    rw[hd]at this
    exact⟨this,hte⟩
   ·cases h
  ·cases h
 ·cases h
theorem arrI_ok (hT:TOk P T) {t n e:Nat} {te:TI} (h:arrI T t=some (n,e,te)):P.underlying t=some (.array n e)∧T e=some te:=by
 unfold arrI at h
 split at h
 ·rename_i ti hti
  split at h
  ·rename_i n' e' hd
   split at h
   ·rename_i te' hte
    cases h
    have:=hT.und hti
    rw[hd]at this
    exact⟨this,hte⟩
   ·cases h
  ·cases h
 ·cases h
theorem bldI_ok (hT:TOk P T) {t:Nat} {z:List Value} {bp:BP} (h:bldI T t=some (z,bp)) {parts parts':List (Nat×Value)} (h1:parts.length=parts'.length)
  (h2:∀(i:Nat) x x',parts[i]? =some x→parts'[i]? =some x'→x.1=x'.1∧VR s x.2 x'.2) {c:List Value} (hc:fillL bp z parts=some c):∃r,P.built t parts'=some r∧VL s c r.toList:=by
 unfold bldI at h
 split at h
 ·rename_i ti hti
  split at h
  ·cases h
  ·rename_i hz
   obtain⟨i,zv,i1,i2,i3,i4,i5,i6⟩:=hT.info hti
   have hzz:VL s ti.zero zv.cells.toList:=by rw[i5];exact VL.closed hz
   have hu:=hT.und hti
   split at h
   ·rename_i fields hd
    split at h
    ·rename_i pl hpl
     cases h
     have hpl':=placesA_ok hT _ _ hpl
     obtain⟨r',q1,q2⟩:=fill_ok (.str pl) (pl.toArray[·]?) (fun i=>by simp[BP.at,nthO_eq]) _ _ _ _ _ h1 h2 hzz hc
     refine⟨r',?_,q2⟩
     unfold Program.built
     rw[i1,hu,hd]
     simp only[i4,hpl',q1]
    ·cases h
   ·rename_i n e hd
    split at h
    ·rename_i te hte
     cases h
     obtain⟨j,z2,j1,j2,_⟩:=hT.info hte
     obtain⟨r',q1,q2⟩:=fill_ok (.arr te.size) (fun i=>some (i*te.size,te.size)) (fun i=>rfl) _ _ _ _ _ h1 h2 hzz hc
     refine⟨r',?_,q2⟩
     unfold Program.built
     rw[i1,hu,hd]
     simp only[i4,j1,j2,q1]
    ·cases h
   ·cases h
 ·cases h
theorem natOf_eq {v:Value} {n:Nat} (h:natOf v=some n):v= .int .i64 n:=by
 unfold natOf at h
 split at h
 ·cases h;rfl
 ·cases h
theorem natOf_rel {v v':Value} {n:Nat} (h:natOf v=some n) (r:VR s v v'):v'= .int .i64 n:=by
 rw[natOf_eq h]at r
 cases r
 rfl
theorem natOr_rel {x:Option Operand} {d n:Nat} (h:natOr d (x.map ρ)=some n) (r:∀y,x=some y→VR s (ρ y) (ρ' y)):(x=none∧n=d)∨(∃y,x=some y∧ρ' y= .int .i64 n):=by
 cases x with
 |none=>simp[natOr]at h;exact .inl ⟨rfl,h.symm⟩
 |some y=>exact .inr ⟨y,rfl,natOf_rel (by simpa[natOr]using h) (r y rfl)⟩
theorem run_bound (n y:Nat) (code:BoundsCode) (w:World) (h:n≤y):(Instr.sliceBound (.int .i64 n) y code).run P w= .ok n w:=by
 simp[Instr.sliceBound,asIntOf,h]
theorem run_bounds (isS:Bool) (len cap:Nat) (lo hi mx:Option Operand) (l h m:Nat) (w:World)
  (hl:(lo=none∧l=0)∨(∃y,lo=some y∧ρ' y= .int .i64 l)) (hh:(hi=none∧h=len)∨(∃y,hi=some y∧ρ' y= .int .i64 h)) (hm:(mx=none∧m=cap)∨(∃y,mx=some y∧ρ' y= .int .i64 m))
  (hx:hi≠none∨mx=none) (h1:l≤h) (h2:h≤m) (h3:m≤cap):(Instr.sliceBounds isS len cap (lo.map ρ') (hi.map ρ') (mx.map ρ')).run P w= .ok (l,h,m) w:=by
 unfold Instr.sliceBounds
 rcases hm with⟨rfl,rfl⟩|⟨y,rfl,hy⟩<;>rcases hh with⟨rfl,rfl⟩|⟨z,rfl,hz⟩<;>rcases hl with⟨rfl,rfl⟩|⟨q,rfl,hq⟩<;>
  simp_all[run_bound]
theorem fieldPlace_run {f:Field} (b o:Nat) (w:World) (hT:TOk P T) {tf:TI} (h:T f.type=some tf) (h0:tf.size≠0):(fieldPlace ⟨b,o,none⟩ f).run P w= .ok ⟨b,o+f.offset,none⟩ w:=by
 unfold fieldPlace
 rw[Sem.run_bind,hT.rsize h,Result.andThen_ok]
 simp[h0,Addr.add_mid]
theorem parts_rel {parts:Array (Nat×Operand)} (r:∀x∈(parts.toList.map (·.2)).toArray,VR s (ρ x) (ρ' x)):
  (parts.toList.map fun p=>(p.1,ρ p.2)).length=(parts.map fun(i,x)=>(i,ρ' x)).toList.length∧
  ∀(i:Nat) x x',(parts.toList.map fun p=>(p.1,ρ p.2))[i]? =some x→(parts.map fun(i,x)=>(i,ρ' x)).toList[i]? =some x'→x.1=x'.1∧VR s x.2 x'.2:=by
 refine⟨by simp,fun i x x' h h'=> ?_⟩
 simp only[List.getElem?_map,Array.toList_map]at h h'
 cases e:parts.toList[i]? with
 |none=>rw[e]at h;cases h
 |some p=>
  rw[e]at h h'
  simp at h h'
  subst h;subst h'
  exact⟨rfl,r _ (by simp only[List.mem_toArray,List.mem_map];exact⟨p,List.mem_of_getElem? e,rfl⟩)⟩
theorem vlmap {l:List Operand} (r:∀x∈l,VR s (ρ x) (ρ' x)):VL s (l.map ρ) (l.map ρ'):=by
 refine⟨by simp,fun i x x' h h'=> ?_⟩
 simp only[List.getElem?_map]at h h'
 cases e:l[i]? with
 |none=>rw[e]at h;cases h
 |some p=>
  rw[e]at h h'
  simp at h h'
  subst h;subst h'
  exact r _ (List.mem_of_getElem? e)
theorem run_slice {t e:Nat} {te:TI} (hT:TOk P T) (hu:P.underlying t=some (.slice e)) (hte:T e=some te) {lo hi mx:Option Operand} {n c l h m:Nat} (b o:Nat) (w:World)
  (hl:(lo=none∧l=0)∨(∃y,lo=some y∧ρ' y= .int .i64 l)) (hh:(hi=none∧h=n)∨(∃y,hi=some y∧ρ' y= .int .i64 h)) (hm:(mx=none∧m=c)∨(∃y,mx=some y∧ρ' y= .int .i64 m))
  (hx:hi≠none∨mx=none) (h1:l≤h) (h2:h≤m) (h3:m≤c):(Instr.sliceAt t (.slice (some ⟨b,o,none⟩) n c) (lo.map ρ') (hi.map ρ') (mx.map ρ')).run P w=
   .ok (.slice (some (if m=l then⟨b,o,none⟩else⟨b,o+l*te.size,none⟩)) (h-l) (m-l)) w:=by
 have hbd:=run_bounds (P:=P) (ρ':=ρ') true n c lo hi mx l h m w hl hh hm hx h1 h2 h3
 by_cases e:m=l<;>simp[Instr.sliceAt,Instr.slice,run_underlying hu,hbd,hT.rsize hte,e,Addr.add_mid]
theorem aop0_ok (hT:TOk P T) (hρ:∀x∈o.op.operands,VR s (ρ x) (ρ' x)) {v:Value} (h:aop0 P T ρ o=some v):
  ∃v',(∀w,(execOp ρ' o).run P w= .ok (.value v') w)∧VR s v v':=by
 have quiet:(∀cs b,o.op≠ .select cs b)→quietA P ρ o=some v→∃v',(∀w,(execOp ρ' o).run P w= .ok (.value v') w)∧VR s v v':=fun hs hq=>⟨v,(quietA_ok hs hρ hq).1,(quietA_ok hs hρ hq).2⟩
 unfold aop0 at h
 cases ho:o.op<;>rw[ho]at h<;>simp only at h<;>first|(cases h;done)|skip
 case move x=>
  cases h
  exact⟨ρ' x,fun w=>by unfold execOp;rw[ho];rfl,hρ x (by rw[ho];simp[Op.operands])⟩
 case assign x=>
  cases h
  exact⟨ρ' x,fun w=>by unfold execOp;rw[ho];rfl,hρ x (by rw[ho];simp[Op.operands])⟩
 case pick c a b=>
  have hc:=hρ c (by rw[ho];simp[Op.operands])
  unfold oPick at h
  split at h
  ·rename_i e
   rw[e]at hc
   generalize hc':ρ' c=u at hc
   cases hc
   cases h
   exact⟨ρ' a,fun w=>by unfold execOp;rw[ho];simp[hc',asBool],hρ a (by rw[ho];simp[Op.operands])⟩
  ·rename_i e
   rw[e]at hc
   generalize hc':ρ' c=u at hc
   cases hc
   cases h
   exact⟨ρ' b,fun w=>by unfold execOp;rw[ho];simp[hc',asBool],hρ b (by rw[ho];simp[Op.operands])⟩
  ·cases h
 case build t parts=>
  have hp:=parts_rel (parts:=parts) (s:=s) (ρ:=ρ) (ρ':=ρ') (fun x hx=>hρ x (by rw[ho];exact hx))
  unfold oBuild at h
  split at h
  ·rename_i z bp hb
   split at h
   ·rename_i c hc
    cases h
    obtain⟨r',q1,q2⟩:=bldI_ok hT hb hp.1 hp.2 hc
    refine⟨.agg r',fun w=> ?_,VR.aggL (l':=r'.toList) q2⟩
    unfold execOp
    rw[ho]
    simp only[Sem.run_bind]
    rw[run_build w t _ r' q1]
    rfl
   ·cases h
  ·cases h
 case nilCheck x=>
  have hc:=hρ x (by rw[ho];simp[Op.operands])
  unfold oNil at h
  split at h
  ·rename_i a e
   rw[e]at hc
   cases h
   generalize hc':ρ' x=u at hc
   refine⟨u,fun w=> ?_,hc⟩
   unfold execOp;rw[ho];simp only[hc']
   cases hc
   rfl
  ·rename_i f a b e
   rw[e]at hc
   cases h
   generalize hc':ρ' x=u at hc
   refine⟨u,fun w=> ?_,hc⟩
   unfold execOp;rw[ho];simp only[hc']
   cases hc
   rfl
  ·cases h
 case unOp op t x=>
  have hc:=hρ x (by rw[ho];simp[Op.operands])
  unfold oUn at h
  split at h
  ·rename_i b e2
   rw[e2]at hc
   cases h
   generalize hc':ρ' x=u at hc
   cases hc
   exact⟨_,fun w=>by unfold execOp;rw[ho];simp[hc',Op.unary],.bool _⟩
  ·exact quiet (by rw[ho];simp) h
 case makeFunc fn a b=>
  cases h
  refine⟨_,fun w=>by unfold execOp;rw[ho];rfl,?_⟩
  have ha:=VR.arr (s:=s) (a:=⟨a.toList.map ρ⟩) (a':=a.map ρ') (by simpa using vlmap (l:=a.toList) fun x hx=>hρ x (by rw[ho];simp[Op.operands];exact .inl (by simpa using hx)))
  have hb:=VR.arr (s:=s) (a:=⟨b.toList.map ρ⟩) (a':=b.map ρ') (by simpa using vlmap (l:=b.toList) fun x hx=>hρ x (by rw[ho];simp[Op.operands];exact .inr (by simpa using hx)))
  exact .fn fn _ _ _ _ ha.1 hb.1 ha.2 hb.2
 case slice t x lo hi mx=>
  have hx:=hρ x (by rw[ho];simp[Op.operands])
  have hlo:∀y,lo=some y→VR s (ρ y) (ρ' y):=fun y e=>hρ y (by rw[ho,e];simp[Op.operands])
  have hhi:∀y,hi=some y→VR s (ρ y) (ρ' y):=fun y e=>hρ y (by rw[ho,e];simp[Op.operands])
  have hmx:∀y,mx=some y→VR s (ρ y) (ρ' y):=fun y e=>hρ y (by rw[ho,e];simp[Op.operands])
  unfold oSlice at h
  split at h
  ·rename_i L off e1
   rw[e1]at hx
   generalize hx':ρ' x=x' at hx
   unfold oSliceP at h
   split at h
   ·rename_i n e te ha
    obtain⟨hu,hte⟩:=arrI_ok hT ha
    split at h
    ·rename_i l hh m q1 q2 q3
     split at h
     ·rename_i hb
      simp only[Bool.and_eq_true,Nat.ble_eq,Bool.or_eq_true]at hb
      obtain⟨⟨⟨⟨b1,b2⟩,b3⟩,b4⟩,b5⟩:=hb
      have b4':n<FULL:=by simpa using b4
      cases h
      cases hx with
      |ptr _ _ i hi2=>
       refine⟨.slice (some (if m=l then⟨i.bl,off,none⟩else(⟨i.bl,off,none⟩:Addr).add (l*te.size))) (hh-l) (m-l),fun w=> ?_,?_⟩
       ·unfold execOp
        rw[ho]
        have hbd:=run_bounds (P:=P) (ρ':=ρ') false n n lo hi mx l hh m w (natOr_rel q1 hlo) (natOr_rel q2 hhi) (natOr_rel q3 hmx) (by
         rcases b5 with b5|b5
         ·exact .inl (by intro e;rw[e]at b5;simp at b5)
         ·exact .inr (by simpa using b5)) b1 b2 b3
        simp[hx',Instr.sliceAt,run_underlying hu,Instr.sureAddr,hbd,hT.rsize hte]
       ·by_cases e2:m=l
        ·rw[if_pos e2,if_pos e2];exact .slc L off _ _ i hi2 (by omega)
        ·rw[if_neg e2,if_neg e2,Addr.add_mid];exact .slc L _ _ _ i hi2 (by omega)
     ·cases h
    ·cases h
   ·cases h
  ·rename_i b n c e1
   rw[e1]at hx
   unfold oSliceS at h
   split at h
   ·rename_i e te ha
    obtain⟨hu,hte⟩:=slcI_ok hT ha
    unfold sliceA at h
    split at h
    ·rename_i l hh q1 q2
     have r1:=natOr_rel q1 hlo
     have r2:=natOr_rel q2 hhi
     split at h
     ·split at h
      ·rename_i hb
       simp only[Bool.and_eq_true,Nat.beq_eq,Option.isNone_iff_eq_none,Option.map_eq_none_iff]at hb
       obtain⟨⟨⟨⟨rfl,rfl⟩,b3⟩,rfl⟩,rfl⟩:=hb
       subst b3
       cases h
       generalize hx':ρ' x=x' at hx
       cases hx
       refine⟨.slice none 0 0,fun w=> ?_,.nils⟩
       have hbd:=run_bounds (P:=P) (ρ':=ρ') true 0 0 lo hi none 0 0 0 w r1 r2 (.inl ⟨rfl,rfl⟩) (.inr rfl) (Nat.le_refl _) (Nat.le_refl _) (Nat.le_refl _)
       simp only[Option.map_none]at hbd
       unfold execOp
       rw[ho]
       simp[hx',Instr.sliceAt,Instr.slice,run_underlying hu,hbd,hT.rsize hte]
      ·cases h
     ·rename_i L off
      have hsl:asSlc (Value.slice (some ⟨L,off,none⟩) n c)=some ⟨L,off,n,c⟩:=rfl
      obtain⟨i,c',hi2,hx',hcc⟩:=asSlc_rel hsl hx
      simp only at hi2 hx' hcc
      split at h
      ·rename_i hmx0
       have hmx1:mx=none:=by simpa using hmx0
       subst hmx1
       unfold sliceN at h
       split at h
       ·rename_i hf
        have hf':c=FULL:=by simpa using hf
        subst hf'
        rcases hcc with⟨hcc,_⟩|⟨_,hcn,hc0⟩
        ·exact absurd hcc (Nat.lt_irrefl _)
        split at h
        ·rename_i hb
         simp only[Bool.and_eq_true,Nat.ble_eq]at hb
         obtain⟨⟨b1,b2⟩,b3⟩:=hb
         have b3':0<te.size:=by simpa using b3
         have hrun:=fun w=>run_slice (P:=P) hT hu hte i.bl off w r1 r2 (.inl ⟨rfl,rfl⟩:((none:Option Operand)=none∧c'=c')∨_) (.inr rfl) b1 (Nat.le_trans b2 hcn) (Nat.le_refl _)
         split at h
         ·rename_i hz
          cases h
          refine⟨_,fun w=> ?_,.full L (off+l*te.size) (hh-l) (c'-l) i hi2 (by omega) ?_⟩
          ·unfold execOp
           rw[ho]
           have:=hrun w
           try simp only[Option.map_none]at this
           simp only[hx',Option.map_none,Sem.run_bind,this]
           by_cases e2:c'=l
           ·have hz':l<hh∨l=0:=by simpa using hz
            have:l=0:=by omega
            subst this
            simp[e2]
           ·simp[e2]
          ·intro e3
           have h1:off=0:=by omega
           have h2:l*te.size=0:=by omega
           have h3:l=0:=by
            rcases Nat.mul_eq_zero.1 h2 with h|h
            ·exact h
            ·omega
           subst h3
           exact hc0 h1
         ·cases h
          refine⟨.slice (some (if c'=l then⟨i.bl,off,none⟩else⟨i.bl,off+l*te.size,none⟩)) 0 (c'-l),fun w=> ?_,.emp L off (c'-l) _⟩
          ·unfold execOp
           rw[ho]
           have:=hrun w
           try simp only[Option.map_none]at this
           simp only[hx',Option.map_none,Sem.run_bind,this]
           have hz':hh=l:=by
            rename_i hz
            have:¬l<hh:=by
             intro h9
             have:Nat.blt l hh=true:=by simpa using h9
             rw[this]at hz;simp at hz
            omega
           rw[hz',Nat.sub_self]
           rfl
        ·cases h
       ·rename_i hf
        split at h
        ·rename_i hb
         simp only[Bool.and_eq_true,Nat.ble_eq]at hb
         obtain⟨⟨b1,b2⟩,b3⟩:=hb
         have b3':c<FULL:=by simpa using b3
         rcases hcc with⟨_,rfl⟩|⟨hcc,_⟩
         ·cases h
          refine⟨.slice (some (if c'=l then⟨i.bl,off,none⟩else⟨i.bl,off+l*te.size,none⟩)) (hh-l) (c'-l),fun w=> ?_,?_⟩
          ·unfold execOp
           rw[ho]
           have:=run_slice (P:=P) hT hu hte i.bl off w r1 r2 (.inl ⟨rfl,rfl⟩:((none:Option Operand)=none∧c'=c')∨_) (.inr rfl) b1 b2 (Nat.le_refl _)
           try simp only[Option.map_none]at this
           simp only[hx',Option.map_none,Sem.run_bind,this]
           rfl
          ·by_cases e2:c'=l
           ·rw[if_pos e2,if_pos e2];exact .slc L off _ _ i hi2 (by omega)
           ·rw[if_neg e2,if_neg e2];exact .slc L _ _ _ i hi2 (by omega)
         ·omega
        ·cases h
      ·rename_i mv hmx0
       split at h
       ·cases h
       ·rename_i m hm
        obtain⟨y,hy,hyv⟩:∃y,mx=some y∧mv=ρ y:=by
         cases mx with
         |none=>simp at hmx0
         |some y=>exact⟨y,rfl,by simpa using hmx0.symm⟩
        subst hy
        have r3:(some y=none∧m=c')∨(∃z,some y=some z∧ρ' z= .int .i64 m):= .inr ⟨y,rfl,natOf_rel (by rw[←hyv];exact hm) (hmx y rfl)⟩
        split at h
        case h_2=>cases h
        rename_i hsome
        have hsome':hi≠none:=by rintro rfl;simp at hsome
        unfold sliceM at h
        split at h
        ·rename_i hb
         simp only[Bool.and_eq_true,Nat.ble_eq]at hb
         obtain⟨⟨⟨b1,b2⟩,b3⟩,b4⟩:=hb
         have b4':m<FULL:=by simpa using b4
         have hmc:m≤c':=by
          rcases hcc with⟨hc1,rfl⟩|⟨rfl,hcn,_⟩
          ·have e5:Nat.beq c' FULL=false:=by
            apply Bool.eq_false_iff.2
            intro h9
            have:=Nat.eq_of_beq_eq_true h9
            omega
           rw[e5]at b3
           simp only[cond_false,Bool.and_eq_true,Nat.ble_eq]at b3
           exact b3.1
          ·simp only[Nat.beq_refl,cond_true,Nat.ble_eq]at b3
           omega
         cases h
         refine⟨.slice (some (if m=l then⟨i.bl,off,none⟩else⟨i.bl,off+l*te.size,none⟩)) (hh-l) (m-l),fun w=> ?_,?_⟩
         ·unfold execOp
          rw[ho]
          have hhi3:hi≠none∨(some y:Option Operand)=none:=by
           exact .inl hsome'
          have:=run_slice (P:=P) hT hu hte i.bl off w r1 r2 r3 hhi3 b1 b2 hmc
          simp only[hx',Sem.run_bind,this]
          rfl
         ·by_cases e2:m=l
          ·rw[if_pos e2,if_pos e2];exact .slc L off _ _ i hi2 (by omega)
          ·rw[if_neg e2,if_neg e2];exact .slc L _ _ _ i hi2 (by omega)
        ·cases h
     ·cases h
    ·cases h
   ·cases h
  ·exact quiet (by rw[ho];simp) h
 case fieldAddr t x f=>
  have hx:=hρ x (by rw[ho];simp[Op.operands])
  unfold oFieldAddr at h
  split at h
  ·rename_i p hp
   obtain⟨i,hi,hx'⟩:=asPtr_rel hp hx
   split at h
   ·rename_i off tf hf
    obtain⟨fields,fd,f1,f2,f3,rfl⟩:=fldI_ok hT hf
    split at h
    ·cases h
    ·rename_i h0
     cases h
     refine⟨_,fun w=> ?_,.ptr p.L _ i hi⟩
     have h0':tf.size≠0:=by intro e;rw[e]at h0;simp at h0
     unfold execOp
     rw[ho]
     simp[hx',Instr.fieldAt,run_underlying f1,f2,Instr.sureAddr,fieldPlace_run i.bl p.o _ hT f3 h0']
   ·cases h
  ·cases h
 case field t x f=>
  have hx:=hρ x (by rw[ho];simp[Op.operands])
  unfold oField at h
  split at h
  ·rename_i cs hcs
   obtain⟨a',hx',hvl⟩:=asAggL_rel hcs hx
   split at h
   ·rename_i off tf hf
    obtain⟨fields,fd,f1,f2,f3,rfl⟩:=fldI_ok hT hf
    obtain⟨v',q1,q2⟩:=part_ok hT f3 hvl h
    refine⟨v',fun w=> ?_,q2⟩
    unfold execOp
    rw[ho]
    simp[hx',Instr.field,run_underlying f1,f2,asAgg,q1]
   ·cases h
  ·cases h
 case indexAddr t x ix=>
  have hx:=hρ x (by rw[ho];simp[Op.operands])
  have hix:=hρ ix (by rw[ho];simp[Op.operands])
  unfold oIndexAddr at h
  split at h
  ·rename_i i hi
   have hi':=natOf_rel hi hix
   split at h
   ·rename_i p hp
    unfold oIndexS at h
    split at h
    ·rename_i e te ha
     obtain⟨hu,hte⟩:=slcI_ok hT ha
     split at h
     ·rename_i hlt
      have hlt':i<p.n:=by simpa using hlt
      cases h
      obtain⟨j,c',hj,hx',_⟩:=asSlc_rel hp hx
      refine⟨_,fun w=> ?_,.ptr p.L _ j hj⟩
      unfold execOp
      rw[ho]
      simp[hx',hi',Instr.indexAt,asIntOf,run_underlying hu,hlt',hT.rsize hte,Addr.add_mid]
     ·cases h
    ·cases h
   ·unfold oIndexP at h
    split at h
    ·rename_i p hp
     split at h
     ·rename_i n e te ha
      obtain⟨hu,hte⟩:=arrI_ok hT ha
      split at h
      ·rename_i hlt
       have hlt':i<n:=by simpa using hlt
       cases h
       obtain⟨j,hj,hx'⟩:=asPtr_rel hp hx
       refine⟨_,fun w=> ?_,.ptr p.L _ j hj⟩
       unfold execOp
       rw[ho]
       simp[hx',hi',Instr.indexAt,asIntOf,run_underlying hu,hlt',hT.rsize hte,Addr.add_mid,Instr.sureAddr]
      ·cases h
     ·cases h
    ·cases h
  ·cases h
 case index t x ix=>
  have hx:=hρ x (by rw[ho];simp[Op.operands])
  have hix:=hρ ix (by rw[ho];simp[Op.operands])
  unfold oIndex at h
  split at h
  ·rename_i cs hcs
   obtain⟨a',hx',hvl⟩:=asAggL_rel hcs hx
   split at h
   ·rename_i i hi
    have hi':=natOf_rel hi hix
    split at h
    ·rename_i n e te ha
     obtain⟨hu,hte⟩:=arrI_ok hT ha
     split at h
     ·rename_i hlt
      have hlt':i<n:=by simpa using hlt
      obtain⟨v',q1,q2⟩:=part_ok hT hte hvl h
      have q1':∀w,(part e a' (i*te.size)).run P w= .ok v' w:=q1
      refine⟨v',fun w=> ?_,q2⟩
      unfold execOp
      rw[ho]
      simp[hx',hi',Instr.index,asIntOf,run_underlying hu,hlt',hT.rsize hte,q1']
     ·cases h
    ·cases h
   ·cases h
  ·unfold oIndexStr at h
   split at h
   ·rename_i str hs
    split at h
    ·rename_i i hi
     have hi':=natOf_rel hi hix
     have hx':=asStr_rel hs hx
     split at h
     ·rename_i hst
      unfold strTy at hst
      split at hst
      ·rename_i ti hti
       split at hst
       ·rename_i hd
        split at h
        ·rename_i b hb
         have:v= .int .u8 b.toNat:=by
          unfold nseq at h
          split at h<;>rename_i e3<;>rw[e3]<;>cases h<;>rfl
         subst this
         refine⟨_,fun w=> ?_,.int _ _⟩
         have hb':str[i]? =some b:=by
          rw[nthO_eq]at hb
          have hlt:i<str.size:=by
           have:=(List.getElem?_eq_some_iff.1 hb).1
           simpa using this
          rw[getElem?_pos str i hlt]
          have h2:=(List.getElem?_eq_some_iff.1 hb).2
          rw[←h2]
          rfl
         unfold execOp
         rw[ho]
         simp[hx',hi',Instr.index,asIntOf,hT.rund hti,hd,hb']
        ·cases h
       ·cases hst
      ·cases hst
     ·cases h
    ·exact quiet (by rw[ho];simp) h
   ·exact quiet (by rw[ho];simp) h
 case extract t i=>
  have hx:=hρ t (by rw[ho];simp[Op.operands])
  unfold oExtract at h
  split at h
  ·rename_i vs hvs
   obtain⟨a',hx',hvl⟩:=asTupL_rel hvs hx
   rw[nthO_eq]at h
   obtain⟨v',q1,q2⟩:=hvl.get h
   refine⟨v',fun w=> ?_,q2⟩
   have q1':a'[i]? =some v':=by simpa using q1
   unfold execOp
   rw[ho]
   simp[hx',Instr.extract,q1']
  ·cases h
end
end
end Go.Proofs.YtcbcegdidlefiaaGreat
