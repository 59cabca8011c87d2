/- A run with known data: operations that read memory. No condition. A run with known data: operations that read memory. No condition. A run with known data: operations that read memory, all of them. No condition. A run with known data: operations that read memory, all of them. No condition. A run with known data: operations that read memory, all of them. No condition. A run with known data: operations that make blocks. No condition. A run with known data: operations that turn blocks. No condition. -/
import Derived.Test.YtcbcegdidlefiaaGreatK29
import Derived.Laws.StructEq
namespace Go.Proofs.YtcbcegdidlefiaaGreat
section
open Go.RowKit
section
variable {P:Program} {T:TyT} {s:Sg} {ρ ρ':Operand→Value} {o:Oper} {C:Foot} {w0 w:World} {H:Hp}
theorem Rel.row (r:Rel C w0 s H w) {L:Nat} {i:Info} (hs:s L=some i) {c:List Value} {e es:Nat} (hH:H.at L=some (.cells c e es)):
  ∃c' rest,w.heap[i.bl]? =some (.cells ⟨c'++rest⟩ e (0,0))∧c'.length+rest.length=i.sz∧VL s c c'∧es=i.es∧0<es:=by
 obtain⟨_,h1,h2,c',rest,h3,h4,h5⟩:=r.live L i _ hs hH
 exact⟨c',rest,h3,h4,h5,h1,h2⟩
theorem row_cell {b o:Nat} {c' rest:List Value} {e:Nat} (h:w.heap[b]? =some (.cells ⟨c'++rest⟩ e (0,0))) {v:Value} (hv:c'[o]? =some v):w.cell? ⟨b,o,none⟩=some v:=by
 have hlt:o<c'.length:=(List.getElem?_eq_some_iff.1 hv).1
 simp only[World.cell?,h]
 have:(⟨c'++rest⟩:Array Value)[o]? =(c'++rest)[o]? :=by simp
 rw[this,List.getElem?_append_left hlt]
 simpa using hv
theorem load_ok (hT:TOk P T) (r:Rel C w0 s H w) {t:Nat} {ti:TI} (ht:T t=some ti) {L off:Nat} {i:Info} (hs:s L=some i) {c:List Value} {e es:Nat} (hH:H.at L=some (.cells c e es))
  {v:Value} (hv:partL ti c off=some v):∃v',(loadVar t ⟨i.bl,off,none⟩).run P w= .ok v' w∧VR s v v':=by
 obtain⟨c',rest,h1,h2,h3,_⟩:=r.row hs hH
 unfold partL at hv
 rw[takeL_eq,dropL_eq,nthO_eq,lenL_eq]at hv
 cases ha:ti.agg with
 |true=>
  rw[ha]at hv
  simp only at hv
  split at hv
  ·rename_i hl
   cases hv
   have hl':((c.drop off).take ti.size).length=ti.size:=by simpa using hl
   have hvl:=(h3.drop off).take ti.size
   refine⟨.agg ⟨(c'.drop off).take ti.size⟩,?_,VR.aggL hvl⟩
   have hload:=run_loadCells_list (P:=P) w ⟨i.bl,off,none⟩ ((c'.drop off).take ti.size) (fun j u hu=>by
    rw[Addr.add_mid]
    refine row_cell h1 ?_
    rw[List.getElem?_take]at hu
    split at hu
    ·simpa using hu
    ·cases hu)
   rw[←hvl.1,hl']at hload
   unfold loadVar
   rw[Sem.run_bind,hT.ragg ht,Result.andThen_ok,ha]
   simp[hT.rsize ht,hload]
  ·cases hv
 |false=>
  rw[ha]at hv
  simp only at hv
  obtain⟨v',q1,q2⟩:=h3.get hv
  refine⟨v',?_,q2⟩
  unfold loadVar
  rw[Sem.run_bind,hT.ragg ht,Result.andThen_ok,ha]
  simp[row_cell h1 q1]
theorem equal_int {t:Nat} {k:IntKind} (hu:P.underlying t=some (.int k)) (i:IntKind) (a b:Int) (w:World):(Op.equal t (.int i a) (.int i b)).run P w= .ok (a==b) w:=by
 have key:∀d,(Op.equalIn (d+1) t (.int i a) (.int i b)).run P w= .ok (a==b) w:=by
  intro d
  simp[Op.equalIn,run_underlying hu]
 exact key 9999
theorem equal_str {t:Nat} (hu:P.underlying t=some .string) (a b:ByteArray) (w:World):(Op.equal t (.string a) (.string b)).run P w= .ok (a==b) w:=by
 have key:∀d,(Op.equalIn (d+1) t (.string a) (.string b)).run P w= .ok (a==b) w:=by
  intro d
  simp[Op.equalIn,run_underlying hu]
 exact key 9999
theorem equal_boo {t:Nat} (hu:P.underlying t=some .bool) (a b:Bool) (w:World):(Op.equal t (.bool a) (.bool b)).run P w= .ok (a==b) w:=by
 have key:∀d,(Op.equalIn (d+1) t (.bool a) (.bool b)).run P w= .ok (a==b) w:=by
  intro d
  simp[Op.equalIn,run_underlying hu]
 exact key 9999
theorem beq_dec (a b:Nat):Nat.beq a b=decide (a=b):=by
 cases h:Nat.beq a b with
 |true=>have:=Nat.eq_of_beq_eq_true h;simp[this]
 |false=>have:=Nat.ne_of_beq_eq_false h;simp[this]
theorem eqI_eq (a b:Int):eqI a b=(a==b):=by
 unfold eqI
 cases a<;>cases b
 ·rename_i x y
  show Nat.beq x y=_
  rw[beq_dec]
  by_cases e:x=y
  ·simp[e]
  ·have:¬((x:Int)=y):=by omega
   simp[e,this]
 ·simp
 ·simp
 ·rename_i x y
  show Nat.beq x y=_
  rw[beq_dec]
  by_cases e:x=y<;>simp[e]
theorem keyEq_run {d:TypeDesc} {t:Nat} {k k':Value} {b:Bool} (hu:P.underlying t=some d) (h:keyEq P d t k k'=some b) (w:World):(Op.equal t k k').run P w= .ok b w:=by
 unfold keyEq at h
 split at h
 ·rename_i hd
  split at h
  ·rename_i x hx
   split at h
   ·rename_i y hy
    cases h
    rw[asI64_eq hx,asI64_eq hy,eqI_eq]
    cases d<;>simp only[isIntD]at hd<;>first|(cases hd;done)|exact equal_int hu _ _ _ w
   ·exact qv_run h w
  ·exact qv_run h w
 ·exact qv_run h w
theorem sameNow_run {d:TypeDesc} {t:Nat} {k k':Value} {b:Bool} (hu:P.underlying t=some d) (h:Instr.sameNow d k k'=some b) (w:World):(Op.equal t k k').run P w= .ok b w:=by
 unfold Instr.sameNow at h
 split at h
 ·split at h
  ·rename_i e;subst e;cases h;exact equal_int hu _ _ _ w
  ·cases h
 ·cases h;exact equal_str hu _ _ w
 ·cases h;exact equal_boo hu _ _ w
 ·cases h
def KR (l:List (Value×Value×Nat)) (es:List MapEntry) (i0:Nat):Option (Nat×Value×Value×Nat)→Option (Nat×Value)→Prop
 |none,none=>True
 |some (j,e),some (j',v)=>j'=j∧i0≤j∧l[j-i0]? =some e∧∃x,es[j-i0]? =some x∧x.val=v
 |_,_=>False
theorem KR.shift {l:List (Value×Value×Nat)} {es:List MapEntry} {i0:Nat} {e x} {r q} (h:KR l es (i0+1) r q):KR (e::l) (x::es) i0 r q:=by
 unfold KR at h⊢
 split at h
 ·trivial
 ·obtain⟨h1,h2,h3,y,h4,h5⟩:=h
  rename_i j _ _ _
  have e2:j-i0=(j-(i0+1))+1:=by omega
  exact⟨h1,by omega,by rw[e2];simpa using h3,y,by rw[e2];simpa using h4,h5⟩
 ·cases h
theorem keyAt_now {d:TypeDesc} {t:Nat} {k:Value} (hu:P.underlying t=some d):∀(l:List (Value×Value×Nat)) (es:List MapEntry) (i:Nat) r q,es.map (·.key)=l.map (·.1)→keyAt P d t k l i=some r→
  Instr.findNow d k es i=some q→KR l es i r q
 | [],[],i,r,q,_,h,hq=>by simp[keyAt]at h;simp[Instr.findNow]at hq;subst h;subst hq;trivial
 | [],_::_,_,_,_,h,_,_=>by simp at h
 |_::_,[],_,_,_,h,_,_=>by simp at h
 |e::l,x::es,i,r,q,hk,h,hq=>by
  simp only[List.map_cons,List.cons.injEq]at hk
  simp only[keyAt]at h
  simp only[Instr.findNow]at hq
  rw[hk.1]at hq
  cases h1:keyEq P d t k e.1 with
  |none=>rw[h1]at h;cases h
  |some b=>
   rw[h1]at h
   cases h2:Instr.sameNow d k e.1 with
   |none=>rw[h2]at hq;cases hq
   |some b'=>
    rw[h2]at hq
    have a1:=keyEq_run hu h1 (default:World)
    have a2:=sameNow_run hu h2 (default:World)
    rw[a1]at a2
    injection a2 with a2 _
    subst a2
    cases b with
    |true=>cases h;cases hq;exact⟨rfl,Nat.le_refl _,by simp,x,by simp,rfl⟩
    |false=>exact(keyAt_now hu l es (i+1) r q hk.2 h hq).shift
theorem keyAt_ask {d:TypeDesc} {t:Nat} {k:Value} (hu:P.underlying t=some d) (w:World):∀(l:List (Value×Value×Nat)) (es:List MapEntry) (i:Nat) r,es.map (·.key)=l.map (·.1)→keyAt P d t k l i=some r→
  ∃q,(Instr.findAsking t k es i).run P w= .ok q w∧KR l es i r q
 | [],[],i,r,_,h=>by simp[keyAt]at h;subst h;exact⟨none,rfl,trivial⟩
 | [],_::_,_,_,h,_=>by simp at h
 |_::_,[],_,_,h,_=>by simp at h
 |e::l,x::es,i,r,hk,h=>by
  simp only[List.map_cons,List.cons.injEq]at hk
  simp only[keyAt]at h
  cases h1:keyEq P d t k e.1 with
  |none=>rw[h1]at h;cases h
  |some b=>
   rw[h1]at h
   have a1:=keyEq_run hu h1 w
   cases b with
   |true=>
    cases h
    refine⟨some (i,x.val),?_,rfl,Nat.le_refl _,by simp,x,by simp,rfl⟩
    simp[Instr.findAsking,hk.1,a1]
   |false=>
    obtain⟨q,q1,q2⟩:=keyAt_ask hu w l es (i+1) r hk.2 h
    refine⟨q,?_,q2.shift⟩
    simp[Instr.findAsking,hk.1,a1,q1]
theorem keyAt_ok {d:TypeDesc} {t:Nat} {k:Value} (hu:P.underlying t=some d) (w:World) {l:List (Value×Value×Nat)} {es:List MapEntry} {r} (hk:es.map (·.key)=l.map (·.1)) (h:keyAt P d t k l 0=some r):
  ∃q,(Instr.findKey t k es).run P w= .ok q w∧KR l es 0 r q:=by
 unfold Instr.findKey
 simp only[Sem.run_bind,run_underlying hu,Result.andThen_ok]
 cases e:Instr.findNow d k es 0 with
 |none=>exact keyAt_ask hu w l es 0 r hk h
 |some q=>exact⟨q,rfl,keyAt_now hu l es 0 r q hk h e⟩
theorem map_row (r:Rel C w0 s H w) {L:Nat} {i:Info} (hs:s L=some i) {m:List (Value×Value×Nat)} {clk:Nat} (hH:H.at L=some (.map m clk)):
  ∃es',w.heap[i.bl]? =some (.map es' clk)∧es'.size=m.length∧es'.toList.map (·.key)=m.map (·.1)∧∀(k:Nat) kv e,m[k]? =some kv→es'[k]? =some e→e.key=kv.1∧closedV kv.1=true∧e.born=kv.2.2∧VR s kv.2.1 e.val:=by
 obtain⟨_,es',h1,h2,h3⟩:=r.live L i _ hs hH
 refine⟨es',h1,h2,?_,h3⟩
 apply List.ext_getElem?
 intro k
 simp only[List.getElem?_map]
 cases e1:es'[k]? with
 |none=>
  have:es'.size≤k:=by simpa using e1
  have e2:es'.toList[k]? =none:=by simpa using this
  have e3:m[k]? =none:=by simp;omega
  rw[e2,e3];rfl
 |some x=>
  have hlt:k<es'.size:=(Array.getElem?_eq_some_iff.1 e1).1
  have e2:es'.toList[k]? =some x:=by simpa using e1
  have e3:m[k]? =some m[k]:=List.getElem?_eq_getElem (by omega)
  rw[e2,e3]
  simp[(h3 k _ x e3 e1).1]
end
end
section
open Go.RowKit
theorem natV_eq (n:Nat):natV n= .int .i64 (n:Int):=by unfold natV nseq;cases n<;>rfl
theorem negV_eq (n:Nat):negV n= .int .i64 (Int.negSucc n):=by unfold negV nseq;cases n<;>rfl
theorem lim63_lt {n:Nat} (h:lim63 n=true):n<9223372036854775808:=by simpa[lim63]using h
theorem wrap_i64 (x:Int) (h1: -9223372036854775808≤x) (h2:x<9223372036854775808):IntKind.i64.wrap x=x:=by
 show(if(true&&decide (x%18446744073709551616≥9223372036854775808))=true then x%18446744073709551616-18446744073709551616 else x%18446744073709551616)=x
 by_cases h:0≤x
 ·have e:x%18446744073709551616=x:=Int.emod_eq_of_lt h (by omega)
  rw[e,if_neg (by simp;omega)]
 ·have e:x%18446744073709551616=x+18446744073709551616:=by omega
  rw[e,if_pos (by simp;omega)]
  omega
theorem blt_no {m n:Nat} (h:Nat.blt m n=false):¬m<n:=by
 intro h9
 have:Nat.blt m n=true:=by simpa using h9
 rw[this]at h;cases h
theorem addA_ok {a b:Int} {v:Value} (h:addA a b=some v):v= .int .i64 (a+b)∧-9223372036854775808≤a+b∧a+b<9223372036854775808:=by
 unfold addA at h
 split at h
 ·rename_i m n
  split at h
  ·rename_i hl
   have hl':=lim63_lt hl
   cases h
   rw[natV_eq]
   simp only[Int.ofNat_eq_natCast,Nat.add_eq]at hl'⊢
   exact⟨rfl,by omega,by omega⟩
  ·cases h
 ·rename_i m n
  split at h
  ·rename_i hlt
   have hlt':n<m:=by simpa using hlt
   split at h
   ·rename_i hl
    have hl':=lim63_lt hl
    cases h
    rw[natV_eq]
    simp only[Int.ofNat_eq_natCast,Nat.sub_eq]
    exact⟨by congr 1;omega,by omega,by omega⟩
   ·cases h
  ·rename_i hlt
   have hlt':=blt_no hlt
   split at h
   ·rename_i hl
    have hl':=lim63_lt hl
    cases h
    rw[negV_eq]
    simp only[Int.ofNat_eq_natCast,Nat.sub_eq]
    exact⟨by congr 1;omega,by omega,by omega⟩
   ·cases h
 ·rename_i m n
  split at h
  ·rename_i hlt
   have hlt':m<n:=by simpa using hlt
   split at h
   ·rename_i hl
    have hl':=lim63_lt hl
    cases h
    rw[natV_eq]
    simp only[Int.ofNat_eq_natCast,Nat.sub_eq]
    exact⟨by congr 1;omega,by omega,by omega⟩
   ·cases h
  ·rename_i hlt
   have hlt':=blt_no hlt
   split at h
   ·rename_i hl
    have hl':=lim63_lt hl
    cases h
    rw[negV_eq]
    simp only[Int.ofNat_eq_natCast,Nat.sub_eq]
    exact⟨by congr 1;omega,by omega,by omega⟩
   ·cases h
 ·cases h
theorem subA_ok {a b:Int} {v:Value} (h:subA a b=some v):v= .int .i64 (a-b)∧-9223372036854775808≤a-b∧a-b<9223372036854775808:=by
 unfold subA at h
 split at h
 ·have:=addA_ok h
  simpa using this
 ·rename_i n
  have:=addA_ok h
  have e:a+Int.negSucc n=a-(Int.ofNat (n+1)):=by simp only[Int.ofNat_eq_natCast];omega
  rw[e]at this
  exact this
 ·rename_i n
  have:=addA_ok h
  have e:a+Int.ofNat (Nat.succ n)=a-Int.negSucc n:=by simp only[Int.ofNat_eq_natCast];omega
  rw[e]at this
  exact this
theorem ltA_eq (a b:Int):ltA a b=decide (a<b):=by
 unfold ltA
 split
 ·rename_i m n
  have:Nat.blt m n=decide (m<n):=by
   cases h:Nat.blt m n with
   |true=>
    have:m<n:=by simpa using h
    simp[this]
   |false=>simp[blt_no h]
  rw[this]
  by_cases e:m<n
  ·have e2:Int.ofNat m<Int.ofNat n:=by simp only[Int.ofNat_eq_natCast];omega
   simp only[e,e2]
  ·have e2:¬Int.ofNat m<Int.ofNat n:=by simp only[Int.ofNat_eq_natCast];omega
   simp only[e,e2]
 ·rename_i m n
  have e2:¬Int.ofNat m<Int.negSucc n:=by simp only[Int.ofNat_eq_natCast];omega
  simp only[e2,decide_false]
 ·rename_i m n
  have e2:Int.negSucc m<Int.ofNat n:=by simp only[Int.ofNat_eq_natCast];omega
  simp only[e2,decide_true]
 ·rename_i m n
  have:Nat.blt n m=decide (n<m):=by
   cases h:Nat.blt n m with
   |true=>
    have:n<m:=by simpa using h
    simp[this]
   |false=>simp[blt_no h]
  rw[this]
  by_cases e:n<m
  ·have e2:Int.negSucc m<Int.negSucc n:=by omega
   simp only[e,e2]
  ·have e2:¬Int.negSucc m<Int.negSucc n:=by omega
   simp only[e,e2]
theorem le_lt (a b:Int):decide (a≤b)= !decide (b<a):=by
 by_cases h:a≤b
 ·simp[h,Int.not_lt.2 h]
 ·simp[h,Int.not_le.1 h]
section
variable {P:Program}
def binRun (_P:Program) (op:BinOp) (t:Nat) (x y:Operand) (u v:Value):Sem Value:=do eqGuard op t x y u v;binOp op t u v
theorem cmpA_ok {op:BinOp} {k:IntKind} {a b:Int} {v:Value} (h:cmpA op a b=some v) (t:Nat) (x y:Operand) (w:World):(binRun P op t x y (.int k a) (.int k b)).run P w= .ok v w∧∀s,VR s v v:=by
 unfold cmpA at h
 split at h<;>first|(cases h;done)|(cases h;refine⟨?_,fun s=> .bool _⟩;simp[binRun,eqGuard,binOp,Op.intCmp,eqI_eq,ltA_eq,bne,le_lt])
theorem int64_ok {op:BinOp} {a b:Int} {v:Value} (h:int64 op a b=some v) (t:Nat) (x y:Operand) (w:World):(binRun P op t x y (.int .i64 a) (.int .i64 b)).run P w= .ok v w∧∀s,VR s v v:=by
 unfold int64 at h
 split at h
 ·obtain⟨rfl,h1,h2⟩:=addA_ok h
  refine⟨?_,fun s=> .int _ _⟩
  simp[binRun,eqGuard,binOp,Op.intArith,wrap_i64 _ h1 h2]
 ·obtain⟨rfl,h1,h2⟩:=subA_ok h
  refine⟨?_,fun s=> .int _ _⟩
  simp[binRun,eqGuard,binOp,Op.intArith,wrap_i64 _ h1 h2]
 ·unfold mulA at h
  split at h
  ·rename_i m n
   split at h
   ·rename_i hl
    have hl':=lim63_lt hl
    cases h
    rw[natV_eq]
    refine⟨?_,fun s=> .int _ _⟩
    have e:(Int.ofNat m*Int.ofNat n)=((Nat.mul m n:Nat):Int):=by simp
    have:=wrap_i64 ((Nat.mul m n:Nat):Int) (by omega) (by omega)
    simp only[binRun,eqGuard,binOp,Op.intArith,e,this]
    simp
   ·cases h
  ·cases h
 ·unfold divA at h
  split at h
  ·rename_i m n
   split at h
   ·rename_i hl
    have hl':=lim63_lt hl
    cases h
    rw[natV_eq]
    refine⟨?_,fun s=> .int _ _⟩
    obtain⟨q,hq⟩:∃q,q=Nat.div m (Nat.succ n):=⟨_,rfl⟩
    have e:(Int.tdiv (Int.ofNat m) (Int.ofNat (n+1)))=(q:Int):=by rw[hq];rfl
    have hle:q≤m:=by rw[hq];exact Nat.div_le_self _ _
    have hw:=wrap_i64 (q:Int) (by omega) (by omega)
    have hne:¬(Int.ofNat (n+1)=0):=by simp only[Int.ofNat_eq_natCast];omega
    rw[←hq]
    show(Op.intDiv .quo .i64 (Int.ofNat m) (Int.ofNat (n+1))).run P w=_
    unfold Op.intDiv
    rw[if_neg hne]
    simp only[e,hw]
    rfl
   ·cases h
  ·cases h
 ·unfold remA at h
  split at h
  ·rename_i m n
   split at h
   ·rename_i hl
    cases h
    rw[natV_eq]
    refine⟨?_,fun s=> .int _ _⟩
    have hne:¬(Int.ofNat (n+1)=0):=by simp only[Int.ofNat_eq_natCast];omega
    show(Op.intDiv .rem .i64 (Int.ofNat m) (Int.ofNat (n+1))).run P w=_
    unfold Op.intDiv
    rw[if_neg hne]
    rfl
   ·cases h
  ·cases h
 all_goals first|(cases h;done)|skip
 all_goals
  cases h
  refine⟨?_,fun s=> .bool _⟩
  simp[binRun,eqGuard,binOp,Op.intCmp,eqI_eq,ltA_eq,bne,le_lt]
end
end
section
open Go.RowKit
section
variable {P:Program} {T:TyT} {s:Sg} {ρ ρ':Operand→Value} {o:Oper} {C:Foot} {w0 w:World} {H:Hp}
theorem frozen_row {b o:Nat} {c':Array Value} {e:Nat} (h:w.heap[b]? =some (.cells c' e (0,0))):w.frozen? ⟨b,o,none⟩=false:=by simp[World.frozen?,h]
theorem shape_row {b:Nat} {c':Array Value} {e:Nat} (h:w.heap[b]? =some (.cells c' e (0,0))):w.shape? b=some (e,c'.size):=by simp[World.shape?,h]
theorem sameAddr_far {a b p q:Nat} {c' d':Array Value} {e f:Nat} (h1:w.heap[a]? =some (.cells c' e (0,0))) (h2:w.heap[b]? =some (.cells d' f (0,0))) (hn:a≠b) (_h3:c'.size≠0) (_h4:d'.size≠0):
  (sameAddr ⟨a,p,none⟩ ⟨b,q,none⟩).run P w= .ok false w:=by
 have e1:(a==b)=false:=by simpa using hn
 have f1:=frozen_row (o:=p) h1
 have f2:=frozen_row (o:=q) h2
 have g1:w.frozen? {block:=a,off:=c'.size}=false:=frozen_row h1
 have g2:w.frozen? {block:=b,off:=d'.size}=false:=frozen_row h2
 simp[sameAddr,e1,f1,f2,noView,viewAt,shape_row h1,shape_row h2,mayBeOne,stringish,g1,g2]
theorem ptrEq_ok (hT:TOk P T) (r:Rel C w0 s H w) {t:Nat} {a b:Addr} {x' y':Value} (hx:VR s (.pointer (some a)) x') (hy:VR s (.pointer (some b)) y') {c:Bool} (h:ptrEq T H t a b=some c) (d:Nat):
  (Op.equalIn (d+1) t x' y').run P w= .ok c w:=by
 unfold ptrEq at h
 split at h
 ·cases h
 ·rename_i ti hti
  have hu:=hT.und hti
  split at h
  ·rename_i e hd
   rw[hd]at hu
   split at h
   ·cases h
   ·rename_i te hte
    split at h
    ·rename_i L o M p h0
     have h0':te.size≠0:=by intro e;rw[e]at h0;simp at h0
     cases hx with
     |ptr _ _ i hi=>
      cases hy with
      |ptr _ _ j hj=>
       simp only[Op.equalIn,Sem.run_bind,run_underlying hu,Result.andThen_ok,hT.rsize hte]
       simp only[ne_eq,h0',not_false_eq_true,if_true]
       split at h
       ·rename_i hLM
        have:L=M:=by simpa using hLM
        subst this
        rw[hi]at hj;cases hj
        cases h
        simp only[sameAddr,beq_self_eq_true,if_true]
        rw[beq_dec]
        by_cases e2:o=p
        ·subst e2;simp
        ·have:¬(({block:=i.bl,off:=o,spot:=none}:Addr)= {block:=i.bl,off:=p,spot:=none}):=by simp
         simp[e2]
       ·rename_i hLM
        have hne:L≠M:=by intro e;subst e;simp at hLM
        split at h
        ·rename_i q1 q2
         cases h
         obtain⟨a1,a2,a3,a4,a5,_⟩:=r.row hi q1
         obtain⟨b1,b2,b3,b4,b5,_⟩:=r.row hj q2
         refine sameAddr_far a3 b3 (fun e=>hne (r.inj L M i j _ _ hi hj q1 q2 e)) ?_ ?_
         ·have h5:=a5.1;simp only[List.length_cons]at h5;simp only[List.size_toArray,List.length_append,ne_eq];omega
         ·have h5:=b5.1;simp only[List.length_cons]at h5;simp only[List.size_toArray,List.length_append,ne_eq];omega
        ·cases h
    ·cases h
  ·cases h
theorem tkI_ok (hT:TOk P T) {t:Nat} {k:TK} (h:tkI T t=some k):∃d,P.underlying t=some d∧(match k with| .ptr=>∃e,d= .pointer e| .slc=>∃e,d= .slice e| .mp=>∃a b,d= .map a b| .fn=>∃a b c,d= .func a b c):=by
 unfold tkI at h
 split at h
 ·cases h
 ·rename_i ti hti
  refine⟨ti.d,hT.und hti,?_⟩
  split at h<;>cases h<;>rename_i hd<;>simp[hd]
theorem eqA_ok (hT:TOk P T) (r:Rel C w0 s H w) {t:Nat} {x y x' y':Value} (hx:VR s x x') (hy:VR s y y') {b:Bool} (h:eqA T H t x y=some b) (d:Nat):
  (Op.equalIn (d+1) t x' y').run P w= .ok b w:=by
 unfold eqA at h
 split at h
 ·rename_i hk
  obtain⟨dd,hu,e,rfl⟩:=tkI_ok hT hk
  split at h
  ·cases h
   cases hx
   cases hy<;>simp[Op.equalIn,run_underlying hu]
  ·cases h
   cases hy
   cases hx
   simp[Op.equalIn,run_underlying hu]
  ·exact ptrEq_ok hT r hx hy h d
  ·cases h
 ·rename_i hk
  obtain⟨dd,hu,e,rfl⟩:=tkI_ok hT hk
  split at h
  ·cases h
   cases hx
   cases hy<;>simp[Op.equalIn,run_underlying hu]
  ·cases h
   cases hy
   cases hx<;>simp[Op.equalIn,run_underlying hu]
  ·cases h
 ·rename_i hk
  obtain⟨dd,hu,e,e2,rfl⟩:=tkI_ok hT hk
  split at h
  ·cases h
   cases hx
   cases hy<;>simp[Op.equalIn,run_underlying hu]
  ·cases h
   cases hy
   cases hx
   simp[Op.equalIn,run_underlying hu]
  ·cases h
 ·rename_i hk
  obtain⟨dd,hu,e,e2,e3,rfl⟩:=tkI_ok hT hk
  split at h
  ·cases h
   cases hx;cases hy
   simp[Op.equalIn,run_underlying hu]
  ·cases h
   cases hx;cases hy
   simp[Op.equalIn,run_underlying hu]
  ·cases h
   cases hx;cases hy
   simp[Op.equalIn,run_underlying hu]
  ·cases h
 ·cases h
theorem strEq_eq (a b:ByteArray):strEq a b=(a==b):=by
 unfold strEq
 have key:(a.data.toList.map (·.toNat)=b.data.toList.map (·.toNat))↔a=b:=by
  constructor
  ·intro h
   have:a.data.toList=b.data.toList:=by
    apply List.map_inj_right (f:=UInt8.toNat) (fun x y e=>UInt8.toNat_inj.1 e)|>.1 h
   cases a;cases b;simp at this;rw[this]
  ·rintro rfl;rfl
 have hb:(a==b)=(a.data==b.data):=by cases a;cases b;rfl
 rw[hb]
 by_cases e:a=b
 ·subst e;simp
 ·have:¬(a.data.toList.map (·.toNat)=b.data.toList.map (·.toNat)):=fun h=>e (key.1 h)
  have e2:¬a.data=b.data:=fun h=>e (by cases a;cases b;simpa using h)
  simp[e2,this]
end
end
section
open Go.RowKit
section
variable {P:Program} {T:TyT} {s:Sg} {ρ ρ':Operand→Value} {o:Oper} {C:Foot} {w0 w:World} {H:Hp}
def isAddrV:Value→Bool
 | .pointer _| .slice .. | .map _| .func .. | .nilFunc=>true
 |_=>false
theorem eqA_form {t:Nat} {x y x' y':Value} (hx:VR s x x') (hy:VR s y y') {b:Bool} (h:eqA T H t x y=some b):isAddrV x'=true∧isAddrV y'=true:=by
 unfold eqA at h
 split at h<;>first|(cases h;done)|skip
 all_goals
  split at h<;>first|(cases h;done)|skip
  all_goals (cases hx<;>cases hy<;>simp[isAddrV])
theorem binRun_eql {t:Nat} {x y:Operand} {x' y':Value} (hx:isAddrV x'=true) (hy:isAddrV y'=true) {b:Bool} (h:(Op.equal t x' y').run P w= .ok b w):
  (binRun P .eql t x y x' y').run P w= .ok (.bool b) w∧(binRun P .neq t x y x' y').run P w= .ok (.bool (!b)) w:=by
 cases x'<;>simp only[isAddrV]at hx<;>first|(cases hx;done)|skip
 all_goals (cases y'<;>simp only[isAddrV]at hy<;>first|(cases hy;done)|(constructor<;>simp[binRun,eqGuard,binOp,h]))
theorem bin_run {op:BinOp} {t yt:Nat} {x y:Operand} (ho:o.op= .binOp op t x y yt) {v:Value} (h:(binRun P op t x y (ρ' x) (ρ' y)).run P w= .ok v w):(execOp ρ' o).run P w= .ok (.value v) w:=by
 unfold execOp
 rw[ho]
 show((binRun P op t x y (ρ' x) (ρ' y))>>=fun a=>pure (Next.value a)).run P w=_
 rw[Sem.run_bind,h]
 rfl
theorem oBin_ok (hT:TOk P T) (r:Rel C w0 s H w) (hρ:∀x∈o.op.operands,VR s (ρ x) (ρ' x)) {op:BinOp} {t yt:Nat} {x y:Operand} (ho:o.op= .binOp op t x y yt) {v:Value} (h:oBin P T H ρ o op t (ρ x) (ρ y)=some v):
  ∃v',(execOp ρ' o).run P w= .ok (.value v') w∧VR s v v':=by
 have quiet:quietA P ρ o=some v→∃v',(execOp ρ' o).run P w= .ok (.value v') w∧VR s v v':=fun hq=>⟨v,(quietA_ok (by rw[ho];simp) hρ hq).1 w,(quietA_ok (by rw[ho];simp) hρ hq).2⟩
 have hx:=hρ x (by rw[ho];simp[Op.operands])
 have hy:=hρ y (by rw[ho];simp[Op.operands])
 have orq:∀z:Option Value,orQ P ρ o z=some v→(z=some v→∃v',(execOp ρ' o).run P w= .ok (.value v') w∧VR s v v')→∃v',(execOp ρ' o).run P w= .ok (.value v') w∧VR s v v':=by
  intro z hz k
  cases z with
  |none=>exact quiet hz
  |some u=>exact k hz
 unfold oBin at h
 split at h
 ·rename_i a ha
  split at h
  ·rename_i b hb
   refine orq _ h fun e=> ?_
   have h1:=asI64_rel ha hx
   have h2:=asI64_rel hb hy
   have:=int64_ok (P:=P) e t x y w
   exact⟨v,bin_run ho (by rw[h1,h2];exact this.1),this.2 s⟩
  ·exact quiet h
 ·unfold oBin2 at h
  split at h
  ·rename_i a ha
   split at h
   ·rename_i b hb
    refine orq _ h fun e=> ?_
    have h1:=asStr_rel ha hx
    have h2:=asStr_rel hb hy
    unfold eqS at e
    split at e
    ·cases e
     refine⟨_,bin_run ho (v:= .bool (strEq a b)) ?_,.bool _⟩
     rw[h1,h2,strEq_eq,beq_toListBytes]
     simp[binRun,eqGuard,binOp,Op.stringOp]
    ·cases e
     refine⟨_,bin_run ho (v:= .bool (!strEq a b)) ?_,.bool _⟩
     rw[h1,h2,strEq_eq,beq_toListBytes]
     simp[binRun,eqGuard,binOp,Op.stringOp]
    ·cases e
   ·cases h
  ·split at h
   ·rename_i a ha
    split at h
    ·rename_i b hb
     refine orq _ h fun e=> ?_
     have h1:=asU8_rel ha hx
     have h2:=asU8_rel hb hy
     have:=cmpA_ok (P:=P) (k:= .u8) e t x y w
     exact⟨v,bin_run ho (by rw[h1,h2];exact this.1),this.2 s⟩
    ·exact quiet h
   ·unfold oBin3 at h
    split at h
    ·exact quiet h
    ·split at h
     ·split at h
      ·rename_i b hb
       cases h
       have hf:=eqA_form hx hy hb
       have he:(Op.equal t (ρ' x) (ρ' y)).run P w= .ok b w:=eqA_ok hT r hx hy hb 9999
       exact⟨_,bin_run ho (binRun_eql hf.1 hf.2 he).1,.bool _⟩
      ·cases h
     ·split at h
      ·rename_i b hb
       cases h
       have hf:=eqA_form hx hy hb
       have he:(Op.equal t (ρ' x) (ρ' y)).run P w= .ok b w:=eqA_ok hT r hx hy hb 9999
       exact⟨_,bin_run ho (binRun_eql hf.1 hf.2 he).2,.bool _⟩
      ·cases h
     ·cases h
end
end
section
open Go.RowKit
section
variable {P:Program} {T:TyT} {s:Sg} {ρ ρ':Operand→Value} {o:Oper} {C:Foot} {w0 w:World} {H:Hp}
theorem mapI_ok (hT:TOk P T) {t kt e:Nat} {kd:TypeDesc} {z:Value} (h:mapI T t=some (kt,kd,e,z)):P.underlying t=some (.map kt e)∧P.underlying kt=some kd∧(∀w,(zeroValue e).run P w= .ok z w)∧closedV z=true:=by
 unfold mapI at h
 split at h
 ·rename_i ti hti
  split at h
  ·rename_i k e' hd
   split at h
   ·rename_i tk te hk he
    split at h
    ·rename_i z' hz
     cases h
     have hu:=hT.und hti
     rw[hd]at hu
     unfold zeroA at hz
     split at hz
     ·rename_i hc
      cases hz
      exact⟨hu,hT.und hk,fun w=>hT.rzv he w,hc⟩
     ·cases hz
    ·cases h
   ·cases h
  ·cases h
 ·cases h
theorem mapA_rel (r:Rel C w0 s H w) {m m':Value} (hm:VR s m m') {l:List (Value×Value×Nat)} (h:mapA H m=some l):
  ∃es:Array MapEntry,((m'= .map none∧es= #[])∨∃b clk,m'= .map (some b)∧w.heap[b]? =some (.map es clk))∧es.size=l.length∧es.toList.map (·.key)=l.map (·.1)∧
   ∀(k:Nat) kv e,l[k]? =some kv→es[k]? =some e→VR s kv.2.1 e.val:=by
 unfold mapA at h
 split at h
 ·cases h
  cases hm
  exact⟨#[],.inl ⟨rfl,rfl⟩,rfl,rfl,by simp⟩
 ·rename_i L
  split at h
  ·rename_i m2 clk hH
   cases h
   cases hm with
   |map _ i hi=>
    obtain⟨es',h1,h2,h3,h4⟩:=map_row r hi hH
    exact⟨es',.inr ⟨i.bl,clk,rfl,h1⟩,h2,h3,fun k kv e a b=>(h4 k kv e a b).2.2.2⟩
  ·cases h
 ·cases h
theorem oLookup_ok (hT:TOk P T) (r:Rel C w0 s H w) {t:Nat} {m k m' k':Value} {ok:Bool} (hm:VR s m m') (hk:VR s k k') {v:Value} (h:oLookup P T H t m k ok=some v):
  ∃v',(Instr.lookup t m' k' ok).run P w= .ok v' w∧VR s v v':=by
 unfold oLookup at h
 split at h
 ·rename_i kt kd e z l h1 h2 h3
  obtain⟨u1,u2,u3,u4⟩:=mapI_ok hT h1
  have hkk:=VR.eqV h3 hk
  subst hkk
  obtain⟨es,e1,e2,e3,e4⟩:=mapA_rel r hm h2
  split at h
  ·rename_i c res q1 q2
   cases h
   have hemp:l.isEmpty=es.isEmpty:=by
    cases l with
    |nil=>
        have:es= #[]:=Array.eq_empty_of_size_eq_zero (by simpa using e2)
        subst this;rfl
    |cons a b=>
         cases h9:es.isEmpty
         ·rfl
         ·have:es= #[]:=by simpa using h9
          subst this;simp at e2
   rw[hemp]at q1
   have hck:=qv_run q1 w
   obtain⟨q,hq,hkr⟩:=keyAt_ok u2 w e3 q2
   have key:∃v',(do
     let(v,ok2)←match q with
      |some (_,v)=>(pure (v,true):Sem (Value×Bool))
      |none=>do pure (←zeroValue e,false)
     pure (if ok=true then Value.tuple #[v,.bool ok2]else v):Sem Value).run P w= .ok v' w∧VR s (lookV ok z res) v':=by
    unfold KR at hkr
    split at hkr
    ·refine⟨lookV ok z none,?_,?_⟩
     ·cases ok<;>simp[u3 w,lookV]
     ·have hz:=VR.closedV (s:=s) u4
      cases ok
      ·exact hz
      ·exact VR.tupL (VL.cons hz (VL.cons (.bool _) VL.nil))
    ·rename_i j en j' val
     obtain⟨rfl,_,g2,x,g3,rfl⟩:=hkr
     have hv:=e4 _ en x g2 (by simpa using g3)
     refine⟨lookV ok z (some (j',en.1,x.val,0)),?_,?_⟩
     ·cases ok<;>simp[lookV]
     ·cases ok
      ·exact hv
      ·exact VR.tupL (VL.cons hv (VL.cons (.bool _) VL.nil))
    ·cases hkr
   obtain⟨v',k1,k2⟩:=key
   refine⟨v',?_,k2⟩
   unfold Instr.lookup
   rw[Sem.run_bind,run_underlying u1]
   rcases e1 with⟨rfl,rfl⟩|⟨b,clk,rfl,hb⟩
   ·simp only[Result.andThen_ok,Sem.run_bind,Sem.run_pure,hck,hq]
    exact k1
   ·have hg:(getObj b).run P w= .ok (.map es clk) w:=by simp[getObj,Sem.run,hb]
    simp only[Result.andThen_ok,Sem.run_bind,Sem.run_pure,hg,hck,hq]
    exact k1
  ·cases h
 ·cases h
theorem builtin_run {c:Call} {b:Builtin} (ho:o.op= .call c) (hc:c.callee= .builtin b):∃consts,execOp ρ' o=builtin b c.argTypes o.type consts (c.args.map ρ'):=by
 refine⟨c.args.map fun| .const _=>true|_=>false,?_⟩
 unfold execOp resolve
 rw[ho]
 simp only[hc]
 rfl
theorem args_rel {c:Call} {b:Builtin} (ho:o.op= .call c) (hc:c.callee= .builtin b) (hρ:∀x∈o.op.operands,VR s (ρ x) (ρ' x)):VL s (c.args.toList.map ρ) (c.args.map ρ').toList:=by
 have:=vlmap (s:=s) (ρ:=ρ) (ρ':=ρ') (l:=c.args.toList) (fun x hx=>hρ x (by rw[ho];simp[Op.operands,Call.operands,hc];simpa using hx))
 simpa using this
theorem arr1 {a:Array Value} {l:List Value} (h:VL s l a.toList) {x:Value} (e:l=[x]):∃x',a= #[x']∧VR s x x':=by
 subst e
 have h1:=h.1
 obtain⟨l'⟩:=a
 cases l' with
 |nil=>simp at h1
 |cons y r=>cases r with
  |nil=>exact⟨y,rfl,h.head⟩
  |cons _ _=>simp at h1
theorem arr2 {a:Array Value} {l:List Value} (h:VL s l a.toList) {x y:Value} (e:l=[x,y]):∃x' y',a= #[x',y']∧VR s x x'∧VR s y y':=by
 subst e
 have h1:=h.1
 obtain⟨l'⟩:=a
 cases l' with
 |nil=>simp at h1
 |cons u r=>cases r with
  |nil=>simp at h1
  |cons v q=>cases q with
   |nil=>exact⟨u,v,rfl,h.head,h.tail.head⟩
   |cons _ _=>simp at h1
theorem oLen_ok (hT:TOk P T) (r:Rel C w0 s H w) (hρ:∀x∈o.op.operands,VR s (ρ x) (ρ' x)) {c:Call} (ho:o.op= .call c) (hc:c.callee= .builtin .len) {v:Value} (h:oLen P T H ρ o c.argTypes.toList (c.args.toList.map ρ)=some v):
  ∃v',(execOp ρ' o).run P w= .ok (.value v') w∧VR s v v':=by
 have quiet:quietA P ρ o=some v→∃v',(execOp ρ' o).run P w= .ok (.value v') w∧VR s v v':=fun hq=>⟨v,(quietA_ok (by rw[ho];simp) hρ hq).1 w,(quietA_ok (by rw[ho];simp) hρ hq).2⟩
 obtain⟨cs,hb⟩:=builtin_run (o:=o) (ρ':=ρ') ho hc
 have ha:=args_rel ho hc hρ
 have hat:∀t,c.argTypes.toList=[t]→c.argTypes= #[t]:=fun t e=>by apply Array.ext';simpa using e
 have fin:∀(t:Nat) (x':Value),c.argTypes= #[t]→c.args.map ρ'= #[x']→∀u,(Builtin.len_ #[t] o.type #[x']).run P w= .ok u w→(execOp ρ' o).run P w= .ok (.value u) w:=by
  intro t x' e1 e2 u hu
  rw[hb,e1,e2]
  simp only[builtin,Sem.run_bind,hu]
  rfl
 unfold oLen at h
 split at h
 ·rename_i t a n cc e1 e2
  obtain⟨x',q1,q2⟩:=arr1 ha e2
  split at h
  ·rename_i z hz
   obtain⟨u1,_⟩:=slcI_ok hT (e:=z.1) (te:=z.2) hz
   cases h
   have:∃a' c',x'= .slice a' n c':=by cases q2<;>exact⟨_,_,rfl⟩
   obtain⟨a',c',rfl⟩:=this
   refine⟨natV n,fin t _ (hat t e1) q1 _ ?_,by rw[natV_eq];exact .int _ _⟩
   rw[natV_eq]
   simp[Builtin.len_,run_underlying u1,goInt]
  ·cases h
 ·rename_i t m e1 e2
  obtain⟨x',q1,q2⟩:=arr1 ha e2
  split at h
  ·rename_i l z hl hz
   obtain⟨u1,_⟩:=mapI_ok hT (kt:=z.1) (kd:=z.2.1) (e:=z.2.2.1) (z:=z.2.2.2) hz
   cases h
   obtain⟨es,g1,g2,_⟩:=mapA_rel r q2 hl
   refine⟨_,fin t _ (hat t e1) q1 _ ?_,.int _ _⟩
   rcases g1 with⟨rfl,rfl⟩|⟨b,clk,rfl,hbk⟩
   ·simp at g2
    have hl0:l=[]:=List.eq_nil_of_length_eq_zero g2.symm
    subst hl0
    simp[Builtin.len_,run_underlying u1,goInt]
   ·simp[Builtin.len_,run_underlying u1,goInt,getObj,Sem.run,hbk,g2]
  ·cases h
 ·rename_i t str e1 e2
  obtain⟨x',q1,q2⟩:=arr1 ha e2
  split at h
  ·rename_i hst
   cases h
   unfold strTy at hst
   split at hst
   ·rename_i ti hti
    split at hst
    ·rename_i hd
     cases q2
     refine⟨_,fin t _ (hat t e1) q1 _ ?_,by rw[natV_eq];exact .int _ _⟩
     simp[Builtin.len_,hT.rund hti,hd,goInt]
     try rfl
    ·cases hst
   ·cases hst
  ·cases h
 ·exact quiet h
theorem mmA_ok {mx:Bool} {l:List Value} {v:Value} (h:mmA mx l=some v):∃a b:Int,l=[.int .i64 a,.int .i64 b]∧v= .int .i64 (bif mx then(if b>a then b else a)else(if b<a then b else a)):=by
 unfold mmA at h
 split at h
 ·rename_i x y
  split at h
  ·rename_i a ha
   split at h
   ·rename_i b hb
    rw[asI64_eq ha,asI64_eq hb]
    refine⟨a,b,rfl,?_⟩
    split at h<;>rename_i e<;>rw[ltA_eq]at e<;>cases h<;>simp at e<;>simp only[cond_true,cond_false]<;>congr 1
    ·rw[if_pos (by omega)]
    ·by_cases g:b>a
     ·omega
     ·rw[if_neg g]
    ·by_cases g:b<a
     ·omega
     ·rw[if_neg g]
    ·by_cases g:b<a
     ·rw[if_pos g]
     ·rw[if_neg g];omega
   ·cases h
  ·cases h
 ·cases h
theorem aop1_ok (hT:TOk P T) (r:Rel C w0 s H w) (hρ:∀x∈o.op.operands,VR s (ρ x) (ρ' x)) {v:Value} (h:aop1 P T H ρ o=some v):
  ∃v',(execOp ρ' o).run P w= .ok (.value v') w∧VR s v v':=by
 have quiet:(∀cs b,o.op≠ .select cs b)→quietA P ρ o=some v→∃v',(execOp ρ' o).run P w= .ok (.value v') w∧VR s v v':=fun hs hq=>⟨v,(quietA_ok hs hρ hq).1 w,(quietA_ok hs hρ hq).2⟩
 unfold aop1 at h
 cases ho:o.op<;>rw[ho]at h<;>simp only at h<;>first|(cases h;done)|skip
 case binOp op t x y yt=>exact oBin_ok hT r hρ ho h
 case load t a=>
  have ha:=hρ a (by rw[ho];simp[Op.operands])
  unfold oLoad at h
  split at h
  ·rename_i p hp
   obtain⟨i,hi,ha'⟩:=asPtr_rel hp ha
   split at h
   ·rename_i cc e2 es hH
    split at h
    ·rename_i ti hti
     obtain⟨v',q1,q2⟩:=load_ok hT r hti hi hH h
     refine⟨v',?_,q2⟩
     unfold execOp
     rw[ho]
     simp[ha',Instr.loadAt,Instr.sureAddr,q1]
    ·cases h
   ·cases h
  ·cases h
 case lookup t m k ok=>
  obtain⟨v',q1,q2⟩:=oLookup_ok hT r (hρ m (by rw[ho];simp[Op.operands])) (hρ k (by rw[ho];simp[Op.operands])) h
  refine⟨v',?_,q2⟩
  unfold execOp
  rw[ho]
  simp[q1]
 case call c=>
  unfold oCall1 at h
  have mm:∀(mx:Bool) (b:Builtin),c.callee= .builtin b→(∀consts a b',builtin b c.argTypes o.type consts #[.int .i64 a,.int .i64 b']=(do pure (Next.value (←(if mx then Builtin.max_ else Builtin.min_) c.argTypes o.type #[.int .i64 a,.int .i64 b']))))→
    orQ P ρ o (mmA mx (c.args.toList.map ρ))=some v→∃v',(execOp ρ' o).run P w= .ok (.value v') w∧VR s v v':=by
   intro mx b hc hbb hq
   cases e:mmA mx (c.args.toList.map ρ)with
   |none=>rw[e]at hq;exact quiet (by rw[ho];simp) hq
   |some u=>
    rw[e]at hq
    cases hq
    obtain⟨x,y,e1,rfl⟩:=mmA_ok e
    obtain⟨cs,hb⟩:=builtin_run (o:=o) (ρ':=ρ') ho hc
    obtain⟨x',y',q1,q2,q3⟩:=arr2 (args_rel ho hc hρ) e1
    cases q2;cases q3
    refine⟨_,?_,.int _ _⟩
    rw[hb,q1,hbb]
    cases mx<;>simp[Builtin.min_,Builtin.max_,Builtin.min2,Builtin.max2]
  split at h
  ·rename_i hc;exact oLen_ok hT r hρ ho hc h
  ·rename_i hc;exact mm false .min hc (fun _ _ _=>rfl) h
  ·rename_i hc;exact mm true .max hc (fun _ _ _=>rfl) h
  ·exact quiet (by rw[ho];simp) h
 case convert a b x=>exact quiet (by rw[ho];simp) h
end
end
section
open Go.RowKit
section
variable {P:Program} {T:TyT} {s:Sg} {ρ ρ':Operand→Value} {o:Oper} {C:Foot} {w0 w:World} {H:Hp}
theorem BR.fresh {s':Sg} {i:Info} {w':World} {c:List Value} {c':Array Value} {e es:Nat} (hc:VL s' c c'.toList) (h:w'.heap[i.bl]? =some (.cells c' e)) (hs:i.sz=c'.size) (he:es=i.es) (h0:0<es):BR s' i w' (.cells c e es):=
 ⟨he,h0,c'.toList,[],by simpa using h,by simp[hs],hc⟩
theorem zeros_eq (z:Array Value) (n:Nat) (h:n=0∨0<z.size):((Array.range n).map (z[·%z.size]!)).toList=zerosL z.toList n:=by
 unfold zerosL
 simp only[Array.toList_map,Array.toList_range]
 apply List.map_congr_left
 intro i hi
 have hi':i<n:=List.mem_range.1 hi
 have hz:0<z.size:=by omega
 have hm:i%z.size<z.size:=Nat.mod_lt _ hz
 simp[getElem!_pos,hm,List.getD_eq_getElem?_getD]
theorem zerosL_closed {z:List Value} (h:z.all closedS=true) (n:Nat):VL s (zerosL z n) (zerosL z n):=by
 refine⟨rfl,fun i x x' p q=> ?_⟩
 rw[p]at q;cases q
 unfold zerosL at p
 rw[List.getElem?_map]at p
 cases e:(List.range n)[i]? with
 |none=>rw[e]at p;cases p
 |some k=>
  rw[e]at p
  simp at p
  subst p
  by_cases hk:k%z.length<z.length
  ·rw[List.getElem?_eq_getElem hk]
   exact VR.closedS (List.all_eq_true.1 h _ (List.getElem_mem hk))
  ·rw[List.getElem?_eq_none (by omega)]
   exact .tuple _ _ rfl (by simp)
theorem zelI_ok (hT:TOk P T) {t e:Nat} {te:TI} (h:zelI T t=some (e,te)):P.underlying t=some (.slice e)∧T e=some te∧te.zero.all closedS=true∧te.zero.length=te.size∧0<te.size:=by
 unfold zelI at h
 split at h
 ·rename_i e' te' hs
  split at h
  ·rename_i hb
   cases h
   obtain⟨h1,h2⟩:=slcI_ok hT hs
   simp only[Bool.and_eq_true,Nat.beq_eq]at hb
   exact⟨h1,h2,hb.1.1,hb.1.2,by simpa using hb.2⟩
  ·cases h
 ·cases h
theorem aop2_ok (hT:TOk P T) (hρ:∀x∈o.op.operands,VR s (ρ x) (ρ' x)) {b:EBlk} {m:MK} (h:aop2 T ρ o=some (b,m)):
  ∃(ob:Obj) (sz es:Nat),(∀w:World,(execOp ρ' o).run P w= .ok (.value (m.at w.heap.size)) (w.alloc ob))∧(∀(s':Sg) (i:Info) (w':World),Sg.le s s'→w'.heap[i.bl]? =some ob→i.sz=sz→i.es=es→BR s' i w' b)∧
   (∀n c,m= .s n c→c<FULL):=by
 unfold aop2 at h
 cases ho:o.op<;>rw[ho]at h<;>simp only at h<;>first|(cases h;done)|skip
 case alloc t=>
  unfold oAlloc at h
  split at h
  ·rename_i ti hti
   split at h
   ·rename_i hz
    cases h
    obtain⟨i,z,i1,i2,i3,i4,i5,i6⟩:=hT.info hti
    refine⟨.cells z.cells t,z.cells.size,1,fun w=> ?_,fun s' i w' hs h1 h2 h3=> ?_,by simp⟩
    ·unfold execOp
     rw[ho]
     simp[Instr.alloc,zeroValue,typeInfo,i1,i4,newVar,newRow,MK.at]
    ·exact BR.fresh (by rw[i5];exact VL.closed hz) h1 h2 h3.symm (by omega)
   ·cases h
  ·cases h
 case box t x=>
  cases h
  have hx:=hρ x (by rw[ho];simp[Op.operands])
  refine⟨.cells (ρ' x).cells t,(ρ' x).cells.size,1,fun w=> ?_,fun s' i w' hs h1 h2 h3=> ?_,by simp⟩
  ·unfold execOp
   rw[ho]
   simp[Instr.box,newVar,newRow,MK.at]
  ·exact BR.fresh (hx.cells.mono hs) h1 h2 h3.symm (by omega)
 case buildSlice t n parts=>
  have hp:=parts_rel (parts:=parts) (s:=s) (ρ:=ρ) (ρ':=ρ') (fun x hx=>hρ x (by rw[ho];exact hx))
  unfold oBuildSlice at h
  split at h
  ·rename_i e te hz
   obtain⟨u1,u2,u3,u4,u5⟩:=zelI_ok hT hz
   split at h
   ·rename_i hb
    have hb':n*te.size<16777216:=by simpa using hb
    split at h
    ·rename_i c hc
     cases h
     obtain⟨i,z,i1,i2,i3,i4,i5,i6⟩:=hT.info u2
     have hzs:z.cells.size=te.size:=by rw[←u4,←i5];simp
     have hzv:VL s (zerosL te.zero (n*te.size)) ((Array.range (n*te.size)).map (z.cells[·%z.cells.size]!)).toList:=by
      rw[zeros_eq _ _ (.inr (by omega)),i5]
      exact zerosL_closed u3 _
     obtain⟨r',q1,q2⟩:=fill_ok (.arr te.size) (fun i=>some (i*te.size,te.size)) (fun i=>rfl) _ _ _ _ _ hp.1 hp.2 hzv hc
     refine⟨.cells r' e,r'.size,1,fun w=> ?_,fun s' i w' hs h1 h2 h3=> ?_,?_⟩
     ·unfold execOp
      rw[ho]
      by_cases h0:n*te.size=0
      ·have hn:n=0:=by
        rcases Nat.mul_eq_zero.1 h0 with h|h
        ·exact h
        ·omega
       subst hn
       have e0:∀f:Nat→Value,(Array.range (0*te.size)).map f= #[]:=fun f=>by
        apply Array.ext'
        simp only[Array.toList_map,Array.toList_range,Nat.zero_mul,List.range_zero,List.map_nil]
       rw[e0]at q1
       have e1:∀f:Nat→Value,(Array.range 0).map f= #[]:=fun f=>by
        apply Array.ext'
        simp only[Array.toList_map,Array.toList_range,List.range_zero,List.map_nil]
       simp only[Instr.buildSlice,Sem.run_bind,run_underlying u1,Result.andThen_ok,hT.rsize u2,Nat.zero_mul]
       rw[if_neg (show¬(0>2^24)by omega)]
       simp only[if_true,Sem.run_bind,Sem.run_pure,Result.andThen_ok,e1,q1]
       rfl
      ·have hle:¬(n*te.size>2^24):=by simp;omega
       have hz1:(zeroValue e).run P w= .ok z w:=by simp[zeroValue,typeInfo,i1,i4]
       simp only[Instr.buildSlice,Sem.run_bind,run_underlying u1,Result.andThen_ok,hT.rsize u2,hle,if_false,h0,Sem.run_pure,hz1,q1,newRow,run_newObj_alloc,MK.at]
     ·exact BR.fresh (q2.mono hs) h1 h2 h3.symm (by omega)
     ·intro a b hab
      cases hab
      have:n≤n*te.size:=Nat.le_mul_of_pos_right _ u5
      unfold FULL
      omega
    ·cases h
   ·cases h
  ·cases h
 case makeMap t r=>
  unfold oMakeMap at h
  split at h
  ·cases h
   refine⟨.map #[] 0,0,0,fun w=> ?_,fun s' i w' hs h1 h2 h3=>⟨#[],h1,rfl,by simp⟩,by simp⟩
   unfold execOp
   rw[ho]
   simp[Instr.makeMap,MK.at]
  ·rename_i x
   have hx:=hρ x (by rw[ho];simp[Op.operands])
   split at h
   ·rename_i z k a hz e1
    rw[e1]at hx
    generalize hx':ρ' x=x' at hx
    cases hx
    obtain⟨u1,_⟩:=mapI_ok hT (kt:=z.1) (kd:=z.2.1) (e:=z.2.2.1) (z:=z.2.2.2) hz
    cases h
    refine⟨.map #[] 0,0,0,fun w=> ?_,fun s' i w' hs h1 h2 h3=>⟨#[],h1,rfl,by simp⟩,by simp⟩
    unfold execOp
    rw[ho]
    simp[Instr.makeMap,MK.at,hx',run_underlying u1,asInt,asIntOf]
   ·cases h
 case makeSlice t l c=>
  have hl:=hρ l (by rw[ho];simp[Op.operands])
  have hc:=hρ c (by rw[ho];simp[Op.operands])
  unfold oMakeSlice at h
  split at h
  ·rename_i e te nl nc hz e1 e2
   have hl':=natOf_rel e1 hl
   have hc':=natOf_rel e2 hc
   obtain⟨u1,u2,u3,u4,u5⟩:=zelI_ok hT hz
   split at h
   ·rename_i hb
    simp only[Bool.and_eq_true,Nat.ble_eq]at hb
    have b5':nc*(te.bytes+1)<1000000000:=by simpa using hb.2
    cases h
    obtain⟨i,z,i1,i2,i3,i4,i5,i6⟩:=hT.info u2
    have hzs:z.cells.size=te.size:=by rw[←u4,←i5];simp
    have hzv:VL s (zerosL te.zero (nc*te.size)) ((Array.range (nc*te.size)).map (z.cells[·%z.cells.size]!)).toList:=by
     rw[zeros_eq _ _ (.inr (by omega)),i5]
     exact zerosL_closed u3 _
    have hexp:nc*(te.bytes+1)=nc*te.bytes+nc:=by rw[Nat.mul_add,Nat.mul_one]
    have hcm:te.bytes*nc=nc*te.bytes:=Nat.mul_comm _ _
    have w1:IntKind.i64.wrap (nl:Int)=nl:=wrap_i64 _ (by omega) (by omega)
    have w2:IntKind.i64.wrap (nc:Int)=nc:=wrap_i64 _ (by omega) (by omega)
    refine⟨.cells ((Array.range (nc*te.size)).map (z.cells[·%z.cells.size]!)) e,((Array.range (nc*te.size)).map (z.cells[·%z.cells.size]!)).size,1,fun w=> ?_,fun s' i w' hs h1 h2 h3=> ?_,?_⟩
    rotate_left
    ·exact BR.fresh (hzv.mono hs) h1 h2 h3.symm (by omega)
    ·intro a b hab
     cases hab
     unfold FULL
     omega
    ·unfold execOp
     rw[ho]
     have hti:(typeInfo e).run P w= .ok i w:=by simp[typeInfo,i1]
     have hz1:(zeroValue e).run P w= .ok z w:=by simp[zeroValue,typeInfo,i1,i4]
     have t1:¬((te.bytes:Int)*(nc:Int)>2^48):=by
      have:((te.bytes:Int)*(nc:Int))=((te.bytes*nc:Nat):Int):=by simp
      rw[this,hcm];simp;omega
     have t2:¬((nl:Int)>(nc:Int)):=by omega
     have t3:¬((nl:Int)<0):=by omega
     have t4:¬((nc:Int)<0):=by omega
     simp only[hl',hc',Instr.makeSlice,Sem.run_bind,run_underlying u1,Result.andThen_ok,asInt,asIntOf,Sem.run_pure,hti,i3,w1,w2]
     simp only[t1,t2,t3,t4,decide_false,Bool.or_self,Bool.false_or,if_false,Bool.false_eq_true,Sem.run_bind,run_askRoom,Result.andThen_ok,hT.rsize u2,Int.toNat_natCast]
     by_cases h0:nc*te.size=0
     ·have e1:∀f:Nat→Value,(Array.range 0).map f= #[]:=fun f=>by
       apply Array.ext'
       simp only[Array.toList_map,Array.toList_range,List.range_zero,List.map_nil]
      simp[h0,newRow,MK.at,e1]
     ·simp[h0,hz1,newRow,MK.at]
   ·cases h
  ·cases h
 case range t x=>
  have hx:=hρ x (by rw[ho];simp[Op.operands])
  unfold oRange at h
  split at h
  ·rename_i str e1 hst
   rw[e1]at hx
   generalize hx':ρ' x=x' at hx
   cases hx
   cases h
   unfold strTy at hst
   split at hst
   ·rename_i ti hti
    split at hst
    ·rename_i hd
     refine⟨.stringIter str 0,0,0,fun w=> ?_,fun s' i w' hs h1 h2 h3=>h1,by simp⟩
     unfold execOp
     rw[ho]
     simp[Instr.range,MK.at,hx',hT.rund hti,hd]
    ·cases hst
   ·cases hst
  ·cases h
end
end
section
open Go.RowKit
section
variable {P:Program} {T:TyT} {s:Sg} {ρ ρ':Operand→Value} {o:Oper} {C:Foot} {w0 w:World} {H:Hp}
theorem scal_one {v v':Value} (h:scal v=true) (r:VR s v v'):v'.oneCell'=true:=by
 cases r<;>first|rfl|(simp[scal]at h)
theorem over_app:∀(c vs r:List Value),vs.length≤c.length→over (c++r) vs=over c vs++r
 |c,[],r,_=>by simp[over]
 | [],v::vs,r,h=>by simp at h
 |a::c,v::vs,r,h=>by simp[over,over_app c vs r (by simpa using h)]
theorem spl_app:∀(o:Nat) (c vs r:List Value),o+vs.length≤c.length→spl o (c++r) vs=spl o c vs++r
 |0,c,vs,r,h=>by unfold spl;exact over_app c vs r (by omega)
 |o+1,[],vs,r,h=>by simp at h
 |o+1,a::c,vs,r,h=>by simp only[List.cons_append,spl];rw[spl_app o c vs r (by simp at h;omega)]
theorem spl_len:∀(o:Nat) (c vs:List Value),o+vs.length≤c.length→(spl o c vs).length=c.length:=by
 intro o c vs h
 rw[spl_eq o c vs h]
 simp;omega
theorem storeA_ok (r:Rel C w0 s H w) {L off:Nat} {i:Info} (hs:s L=some i) {vs vs':List Value} (hv:VL s vs vs') {H':Hp} (h:storeA H L off vs=some H'):
  ∃w',(storeCells ⟨i.bl,off,none⟩ vs').run P w= .ok () w'∧Rel C w0 s H' w':=by
 unfold storeA at h
 split at h
 ·rename_i c e es hH
  split at h
  ·rename_i hb
   cases h
   rw[lenL_eq,lenL_eq]at hb
   simp only[Bool.and_eq_true,Nat.ble_eq]at hb
   obtain⟨⟨b1,b2⟩,b3⟩:=hb
   obtain⟨c',rest,r1,r2,r3,r4,r5⟩:=r.row hs hH
   have hone:∀v∈vs',v.oneCell'=true:=by
    intro v hvm
    obtain⟨k,hk⟩:=List.getElem?_of_mem hvm
    obtain⟨x,hx,hxr⟩:=hv.get' hk
    exact scal_one (List.all_eq_true.1 b2 x (List.mem_of_getElem? hx)) hxr
   have hlen:off+vs'.length≤c'.length:=by rw[←hv.1,←r3.1];exact b1
   have hst:=run_storeCells_at P i.bl off e vs' 0 ⟨c'++rest⟩ w r1 (by simp;omega) hone
   refine⟨_,hst,?_⟩
   have hnew:((⟨c'++rest⟩:Array Value).toList.take (off+0)++vs'++(⟨c'++rest⟩:Array Value).toList.drop (off+0+vs'.length)).toArray=⟨spl off c' vs'++rest⟩:=by
    rw[←spl_app off c' vs' rest hlen,spl_eq off (c'++rest) vs' (by simp;omega)]
    simp
   rw[hnew]
   refine r.turn hs b3 hH _ (keep_setRow r.keep _ _ (r.live L i _ hs hH).1) (fun k hk=>setRow_other w _ k _ hk) ?_
   refine⟨r4,r5,spl off c' vs',rest,setRow_heap w i.bl _ _ e _ r1,?_,hv.spl off r3⟩
   rw[spl_len off c' vs' hlen]
   exact r2
  ·cases h
 ·cases h
theorem firstA_ok (r:Rel C w0 s H w) {x x':Value} (hx:VR s x x') {k m size:Nat} (hk:k=m*size) {vs:List Value} (h:firstA H k x=some vs):
  ∃vs',VL s vs vs'∧vs'.length=k∧∀w2:World,w2.heap=w.heap→(Builtin.firstCells size m x').run P w2= .ok vs'.toArray w2:=by
 unfold firstA at h
 split at h
 ·rename_i L off n c
  split at h
  ·rename_i cc e es hH
   rw[takeL_eq,dropL_eq,lenL_eq]at h
   split at h
   ·rename_i hl
    have hl':((cc.drop off).take k).length=k:=by simpa using hl
    cases h
    obtain⟨i,c',hi,rfl,_⟩:=asSlc_rel (p:=⟨L,off,n,c⟩) rfl hx
    obtain⟨c2,rest,r1,r2,r3,_⟩:=r.row hi hH
    have hvl:=(r3.drop off).take k
    refine⟨_,hvl,by rw[←hvl.1,hl'],fun w2 hw=> ?_⟩
    refine run_firstCells_some (P:=P) w2 size m ⟨i.bl,off,none⟩ n c' _ (by rw[←hvl.1,hl',hk]) (fun j u hu=> ?_)
    rw[Addr.add_mid]
    have r1':w2.heap[i.bl]? =some (.cells ⟨c2++rest⟩ e (0,0)):=by rw[hw];exact r1
    refine row_cell r1' ?_
    rw[List.getElem?_take]at hu
    split at hu
    ·simpa using hu
    ·cases hu
   ·cases h
  ·cases h
 ·rename_i n c
  split at h
  ·cases h
   cases hx
   refine⟨[],VL.nil,rfl,fun w2 _=> ?_⟩
   simp[Builtin.firstCells]
  ·cases h
 ·split at h
  ·cases h
   cases hx
   refine⟨[],VL.nil,rfl,fun w2 _=> ?_⟩
   exact run_firstCells_some (P:=P) w2 size m _ _ _ [] (by simpa using hk) (fun j u hu=>by simp at hu)
  ·cases h
 ·cases h
theorem lenA_ok {x x':Value} (hx:VR s x x') {k:Nat} (h:lenA x=some k):(∃b c,x'= .slice b k c):=by
 unfold lenA at h
 split at h
 ·cases h
  cases hx<;>exact⟨_,_,rfl⟩
 ·cases h
theorem sliceOrStr_ok (hT:TOk P T) {t:Nat} (h:sliceOrStr T t=true):∃e,P.underlying t=some (.slice e):=by
 unfold sliceOrStr at h
 split at h
 ·rename_i ti hti
  split at h
  ·rename_i e hd
   have:=hT.und hti
   rw[hd]at this
   exact⟨e,this⟩
  ·cases h
 ·cases h
theorem run_app_room {t1 t2 ty e:Nat} {i:TypeInfo} (u1:P.underlying t1=some (.slice e)) (u2:∃e2,P.underlying t2=some (.slice e2)) (hi:P.info? e=some i) {g off n c k:Nat} {b2:Option Addr} {c2:Nat} {news:List Value} {w':World}
  (hf:∀w2:World,w2.heap=w.heap→(Builtin.firstCells i.size k (.slice b2 k c2)).run P w2= .ok news.toArray w2) (hroom:n+k≤c)
  (hst:(storeCells ⟨g,off+n*i.size,none⟩ news).run P w= .ok () w'):
  (Builtin.append_ #[t1,t2] ty #[.slice (some ⟨g,off,none⟩) n c,.slice b2 k c2]).run P w= .ok (.slice (some ⟨g,off,none⟩) (n+k) c) w':=by
 obtain⟨e2,u2⟩:=u2
 have hf1:=hf w rfl
 simp[Builtin.append_,run_underlying u1,run_underlying u2,sizeOf,typeInfo,hi,Builtin.lenOf,hroom,hf1,Addr.add_mid,hst]
theorem run_app_nil0 {t1 t2 ty e:Nat} {i:TypeInfo} (u1:P.underlying t1=some (.slice e)) (u2:∃e2,P.underlying t2=some (.slice e2)) (hi:P.info? e=some i) {b2:Option Addr} {c2:Nat} {news:List Value}
  (hf:∀w2:World,w2.heap=w.heap→(Builtin.firstCells i.size 0 (.slice b2 0 c2)).run P w2= .ok news.toArray w2):
  (Builtin.append_ #[t1,t2] ty #[.slice none 0 0,.slice b2 0 c2]).run P w= .ok (.slice none 0 0) w:=by
 obtain⟨e2,u2⟩:=u2
 have hf1:=hf w rfl
 simp[Builtin.append_,run_underlying u1,run_underlying u2,sizeOf,typeInfo,hi,Builtin.lenOf,hf1]
theorem run_app_grow {t1 t2 ty e:Nat} {i:TypeInfo} {z:Value} (u1:P.underlying t1=some (.slice e)) (u2:∃e2,P.underlying t2=some (.slice e2)) (hi:P.info? e=some i) (hz:i.zero=some z) {b:Option Addr} {n c k:Nat} {b2:Option Addr} {c2:Nat} {olds news:List Value}
  (hf:∀w2:World,w2.heap=w.heap→(Builtin.firstCells i.size k (.slice b2 k c2)).run P w2= .ok news.toArray w2)
  (ho:∀w2:World,w2.heap=w.heap→(Builtin.firstCells i.size n (.slice b n c)).run P w2= .ok olds.toArray w2)
  (hg:c<n+k) (h63:n+k≤9223372036854775807) (hb:2*(n+k)*i.bytes≤281474976710656):
  (Builtin.append_ #[t1,t2] ty #[.slice b n c,.slice b2 k c2]).run P w=
   .ok (.slice (some ⟨w.heap.size,0,none⟩) (n+k) (grownCap w (n+k) c e)) (w.drew.alloc (.cells (olds.toArray++news.toArray++Builtin.zeroCells z.cells (grownCap w (n+k) c e-(n+k))) e)):=by
 obtain⟨e2,u2⟩:=u2
 have hn:¬(n+k≤c):=by omega
 have h63':¬(9223372036854775807<((n:Int)+(k:Int))):=by omega
 have hle:=nextslicecap_le hg
 have h48':¬(281474976710656<Builtin.nextslicecap (n+k) c*i.bytes):=by
  have:Builtin.nextslicecap (n+k) c*i.bytes≤2*(n+k)*i.bytes:=Nat.mul_le_mul_right _ hle
  omega
 have hf1:=hf w.drew rfl
 have ho1:=ho w.drew rfl
 simp[Builtin.append_,run_underlying u1,run_underlying u2,sizeOf,typeInfo,zeroValue,hi,hz,Builtin.lenOf,hn,h63',h48',Question.forced,hf1,ho1,newRow,grownCap]
 congr 2
 apply Array.ext'
 simp[List.append_assoc]
end
end
end Go.Proofs.YtcbcegdidlefiaaGreat
