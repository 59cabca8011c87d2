/- A slice under construction by append, its elements read by a relation; the law of one append. Conditions: as each theorem says. Strings in memory: lists of strings read, built by append, and as the library hands them over. Conditions: as each theorem says. Layouts: the errors of a layout, as a plain function that both the program and the reference answer. No program in sight. Contracts of the names of words and of the reference: isLetter, isDigit, Name. Conditions: as each theorem says. Layouts in memory; contracts of the tests of a section, a link and an end (program). Conditions: as each theorem says. Routes: the errors of a route and its points, as plain functions. No program in sight. Layouts without an error: what holds of them, and what shows it. No program in sight. -/
import Derived.Test.YtcbcegdidlefiaaGreatK01
import Derived.Maps.AppendAt
import Derived.Test.YtcbcegdidlefiaaGreatProg
import Derived.Deep.Cut
namespace Go.Proofs.YtcbcegdidlefiaaGreat
section
open Go.RowKit
def OwnL {α:Type} (t size:Nat) (E:Rd α) (w:World) (base lo:Nat) (v:Value) (l:List α):Prop:=
 ∃ess:List (List Value),ess.length=l.length∧w.ownsRow base t size v l.length ess.flatten∧
  ∀(j:Nat) x,l[j]? =some x→∃es,ess[j]? =some es∧es.length=size∧E w (fun b=>lo≤b∧b<w.heap.size∧v.ownBlock≠some b) es x
section
variable {α:Type} {t size:Nat} {E:Rd α} {w w':World} {base lo:Nat} {v:Value} {l:List α}
theorem OwnL.nil:OwnL t size E w base lo (.slice none 0 0) ([]:List α):=⟨[],rfl,World.ownsRow_nil _ _ _ _,fun j x h=>by simp at h⟩
theorem OwnL.lt (h:OwnL t size E w base lo v l) {b:Nat} (hb:v.ownBlock=some b):base≤b∧b<w.heap.size:=by
 obtain⟨ess,_,h2,_⟩:=h;exact h2.lt b hb
theorem OwnL.form (h:OwnL t size E w base lo v l):∃A c,v= .slice A l.length c∧l.length≤c∧c≤9223372036854775807:=by
 obtain⟨ess,_,h2,_⟩:=h
 rcases h2.2 with⟨e,hn⟩|⟨g,cap,cur,e,_,_,h5,h6,_⟩
 ·exact⟨none,0,by rw[e,hn],by omega,by omega⟩
 ·exact⟨_,cap,e,h5,h6⟩
theorem OwnL.keeps (hE:Rd.Ok E) {C:Foot} (h:OwnL t size E w base lo v l) (k:Keeps C w w') (hC:∀b,b<w.heap.size→C b→b<lo∧b<base):OwnL t size E w' base lo v l:=by
 obtain⟨ess,h1,h2,h3⟩:=h
 refine⟨ess,h1,?_,fun j x hx=> ?_⟩
 ·refine⟨h2.1,?_⟩
  rcases h2.2 with hn|⟨g,cap,cur,e,hb,hh,rest⟩
  ·exact .inl hn
  ·have hlt:=(Array.getElem?_eq_some_iff.1 hh).1
   exact .inr ⟨g,cap,cur,e,hb,(k.block g hlt (fun hc=>by have:=hC g hlt hc;omega)).trans hh,rest⟩
 ·obtain⟨es,e1,e2,e3⟩:=h3 j x hx
  exact⟨es,e1,e2,hE.mono e3 (fun b hb=>⟨hb.1,Nat.lt_of_lt_of_le hb.2.1 k.size,hb.2.2⟩) (fun b hb=>k.block b hb.2.1 (fun hc=>by have:=hC b hb.2.1 hc;omega))⟩
theorem OwnL.alloc (hE:Rd.Ok E) (h:OwnL t size E w base lo v l) (o:Obj):OwnL t size E (w.alloc o) base lo v l:=
 h.keeps hE ((Keeps.refl (fun _=>False) w).alloc o) (fun _ _ h=>h.elim)
theorem flatten_at {ess:List (List Value)} (hsz:∀es∈ess,es.length=size) {j:Nat} {es:List Value} (h:ess[j]? =some es) {i:Nat} (hi:i<size):ess.flatten[j*size+i]? =es[i]? :=by
 induction ess generalizing j with
 |nil=>simp at h
 |cons e r ih=>
  have he:=hsz e (by simp)
  cases j with
  |zero=>
   have e0:e=es:=by simpa using h
   subst e0
   simp only[List.flatten_cons,Nat.zero_mul,Nat.zero_add]
   rw[List.getElem?_append_left (by omega)]
  |succ j=>
   have h':r[j]? =some es:=by simpa using h
   simp only[List.flatten_cons]
   rw[List.getElem?_append_right (by rw[he,Nat.succ_mul];omega),he,←ih (fun x hx=>hsz x (by simp[hx])) h']
   congr 1
   rw[Nat.succ_mul];omega
theorem OwnL.read (hE:Rd.Ok E) (h:OwnL t size E w base lo v l) (_hsz:0<size) {S:Foot} (hS:∀b,lo≤b→b<w.heap.size→S b) (hS2:∀b,base≤b→b<w.heap.size→S b):RSlice size E w S [v] l:=by
 obtain⟨ess,h1,h2,h3⟩:=h
 have hall:∀es∈ess,es.length=size:=by
  intro es hes
  obtain⟨j,hj,e⟩:=List.getElem_of_mem hes
  have hl:j<l.length:=by omega
  obtain⟨es',e1,e2,_⟩:=h3 j l[j] (List.getElem?_eq_getElem hl)
  rw[List.getElem?_eq_getElem hj,e]at e1
  injection e1 with e1;subst e1;exact e2
 rcases h2.2 with⟨rfl,hn⟩|⟨g,cap,cur,rfl,hb,hh,hnc,hcm,hcs,htk⟩
 ·have:l=[]:=List.eq_nil_of_length_eq_zero hn
  subst this
  exact RSlice.mkNil
 ·have hlt:=(Array.getElem?_eq_some_iff.1 hh).1
  refine⟨_,cap,rfl,hnc,hcm,fun _=>⟨g,0,rfl,hS2 g hb hlt,fun j x hx=> ?_⟩⟩
  obtain⟨es,e1,e2,e3⟩:=h3 j x hx
  refine⟨es,e2,hE.mono e3 (fun b hb=>hS b hb.1 hb.2.1) (fun _ _=>rfl),fun i u hu=> ?_⟩
  have hi:i<size:=by rw[←e2];exact(List.getElem?_eq_some_iff.1 hu).1
  have hj:j<l.length:=(List.getElem?_eq_some_iff.1 hx).1
  have hf:=flatten_at hall e1 hi
  rw[hu,←htk]at hf
  have hk:j*size+i<l.length*size:=by
   have:(j+1)*size≤l.length*size:=Nat.mul_le_mul_right _ hj
   rw[Nat.succ_mul]at this;omega
  rw[List.getElem?_take_of_lt hk]at hf
  simp only[World.cell?,hh,Option.isSome_none,Nat.zero_add]
  simpa using hf
structure ElemTy (P:Program) (T t size bytes:Nat):Prop where
 ht:P.underlying T=some (.slice t)
 info:∃i z,P.info? t=some i∧i.zero=some z∧i.size=size∧i.bytes=bytes∧z.cells.size=size
 pos:0<size
theorem ElemTy.mk' {P:Program} {T t size bytes:Nat} {z:Value} (ht:P.underlying T=some (.slice t)) (h:(P.info? t).map (fun i=>(i.zero,i.size,i.bytes))=some (some z,size,bytes)) (hz:z.cells.size=size) (hp:0<size):ElemTy P T t size bytes:=by
 obtain⟨i,h1,h2,h3,h4⟩:=info_parts h
 exact⟨ht,⟨i,z,h1,h2,h3,h4,hz⟩,hp⟩
theorem run_append_L {P:Program} {T bytes:Nat} (ty:ElemTy P T t size bytes) (hE:Rd.Ok E) (ty':TypeId)
  (hown:OwnL t size E w base lo v l) (h:Nat) (es:List Value) (hblk:Blk w h t es.toArray) (hl:es.length=size)
  (y:α) {S:Foot} (hr:E w S es y) (hS:∀b,S b→lo≤b∧b<w.heap.size∧v.ownBlock≠some b) (h1:∀u∈es,u.oneCell'=true) (hbytes:(l.length+1)*bytes≤140737488355328) (hlen:l.length+1≤9223372036854775807) (hbase:base≤w.heap.size):
  ∃v' w',(Builtin.append_ #[T,T] ty' #[v,.slice (some ⟨h,0,none⟩) 1 1]).run P w= .ok v' w'∧OwnL t size E w' base lo v' (l++ [y])∧Keeps (fun b=>v.ownBlock=some b) w w'∧(v'.ownBlock=v.ownBlock∨v'.ownBlock=some w.heap.size):=by
 obtain⟨i,z,i1,i2,i3,i4,i5⟩:=ty.info
 obtain⟨ess,h2,h3,h4⟩:=hown
 obtain⟨v',w',hrun,g1,g2,_,g4⟩:=run_append_own_at (P:=P) w base T ty' t i z size bytes ty.ht i1 i2 i3 i4 i5 ty.pos v l.length ess.flatten h3 ⟨h,0,none⟩ 1 1 es (by omega) (fun j u hu=>by
  have hc:=hblk.cell j
  have:(Addr.mk h 0 none).add j=⟨h,j,none⟩:=by
   unfold Addr.add;split
   ·subst_vars;rfl
   ·simp
  rw[this,hc];simpa using hu) h1 hlen hbytes hbase
 have kk:Keeps (fun b=>v.ownBlock=some b) w w':=⟨g2.os,g2.tape,g2.output,g2.size,fun b hb hn=>g2.block b hb (fun e=>hn e.symm)⟩
 have far:∀b,lo≤b∧b<w.heap.size∧v.ownBlock≠some b→lo≤b∧b<w'.heap.size∧v'.ownBlock≠some b:=by
  intro b ⟨q1,q2,q3⟩
  refine⟨q1,Nat.lt_of_lt_of_le q2 g2.size,fun e=> ?_⟩
  rcases g4 with g4|g4
  ·exact q3 (by rw[←g4];exact e)
  ·rw[g4]at e;injection e with e;omega
 refine⟨v',w',hrun,⟨ess++ [es],by simp[h2],by simpa using g1,fun j y' hy=> ?_⟩,kk,g4⟩
 rcases Nat.lt_or_ge j l.length with hj|hj
 ·rw[List.getElem?_append_left hj]at hy
  obtain⟨es',e1,e2,e3⟩:=h4 j y' hy
  exact⟨es',by rw[List.getElem?_append_left (by omega)];exact e1,e2,hE.mono e3 far (fun b hb=>kk.block b hb.2.1 hb.2.2)⟩
 ·rw[List.getElem?_append_right hj]at hy
  have hj0:j=l.length:=by
   have:=(List.getElem?_eq_some_iff.1 hy).1;simp at this;omega
  subst hj0
  simp at hy;subst hy
  exact⟨es,by rw[←h2];simp,hl,hE.mono hr (fun b hb=>far b (hS b hb)) (fun b hb=>kk.block b (hS b hb).2.1 (hS b hb).2.2)⟩
theorem wp_append_L {P:Program} {T bytes:Nat} (ty:ElemTy P T t size bytes) (hE:Rd.Ok E) {o:Oper} {a:Act} {K:Act→World→Prop} {Q:Exit→Act→World→Prop} (s x:Operand)
  (ho:o.op= .call {callee:= .builtin .append,args:= #[s,x],argTypes:= #[T,T]})
  (hown:OwnL t size E w base lo v l) (hs:a.eval s=v) (h:Nat) (es:List Value) (hx:a.eval x= .slice (some ⟨h,0,none⟩) 1 1) (hblk:Blk w h t es.toArray) (hl:es.length=size)
  (y:α) {S:Foot} (hr:E w S es y) (hS:∀b,S b→lo≤b∧b<w.heap.size∧v.ownBlock≠some b) (h1:∀u∈es,u.oneCell'=true) (hbytes:(l.length+1)*bytes≤140737488355328) (hlen:l.length+1≤9223372036854775807) (hbase:base≤w.heap.size)
  (k:∀v' w',OwnL t size E w' base lo v' (l++ [y])→Keeps (fun b=>v.ownBlock=some b) w w'→(v'.ownBlock=v.ownBlock∨v'.ownBlock=some w.heap.size)→K (a.put o.dst v') w'):o.wp P a w K Q:=by
 obtain⟨v',w',hrun,h2,h3,h4⟩:=run_append_L ty hE o.type hown h es hblk hl y hr hS h1 hbytes hlen hbase
 unfold Oper.wp execOp
 simp only[ho,resolve,invoke,builtin,Sem.run_bind,Sem.run_pure,Result.andThen_ok,List.map_toArray,List.map_cons,List.map_nil,hs,hx,hrun]
 exact k v' w' h2 h3 h4
theorem wpList_append_L {P:Program} {T bytes:Nat} (ty:ElemTy P T t size bytes) (hE:Rd.Ok E) {ops:Array Oper} {rest:List Oper} {o:Oper} {a:Act} {Q:Exit→Act→World→Prop} (hgd:o.guard=none) (s x:Operand)
  (ho:o.op= .call {callee:= .builtin .append,args:= #[s,x],argTypes:= #[T,T]})
  (hown:OwnL t size E w base lo v l) (hs:a.eval s=v) (h:Nat) (es:List Value) (hx:a.eval x= .slice (some ⟨h,0,none⟩) 1 1) (hblk:Blk w h t es.toArray) (hl:es.length=size)
  (y:α) {S:Foot} (hr:E w S es y) (hS:∀b,S b→lo≤b∧b<w.heap.size∧v.ownBlock≠some b) (h1:∀u∈es,u.oneCell'=true) (hbytes:(l.length+1)*bytes≤140737488355328) (hlen:l.length+1≤9223372036854775807) (hbase:base≤w.heap.size)
  (k:∀v' w',OwnL t size E w' base lo v' (l++ [y])→Keeps (fun b=>v.ownBlock=some b) w w'→(v'.ownBlock=v.ownBlock∨v'.ownBlock=some w.heap.size)→wpList P ops Q rest (a.put o.dst v') w'):
  wpList P ops Q (o::rest) a w:=
 wpList_plain hgd fun _ hK=>wp_append_L ty hE s x ho hown hs h es hx hblk hl y hr hS h1 hbytes hlen hbase fun v' w' h2 h3 h4=>hK _ _ (k v' w' h2 h3 h4)
def Rd.One {α:Type} (E:Rd α):Prop:=∀w S es x,E w S es x→∀u∈es,u.oneCell'=true
theorem flatten_inv {size:Nat} (hp:0<size):∀(ess:List (List Value)),(∀es∈ess,es.length=size)→∀(j:Nat) u,ess.flatten[j]? =some u→∃q i es,j=q*size+i∧i<size∧ess[q]? =some es∧es[i]? =some u
 | [],_,j,u,h=>by simp at h
 |e::r,hs,j,u,h=>by
  have he:=hs e (by simp)
  simp only[List.flatten_cons]at h
  by_cases hj:j<size
  ·rw[List.getElem?_append_left (by omega)]at h
   exact⟨0,j,e,by omega,hj,rfl,h⟩
  ·rw[List.getElem?_append_right (by omega),he]at h
   obtain⟨q,i,es,h1,h2,h3,h4⟩:=flatten_inv hp r (fun x hx=>hs x (by simp[hx])) (j-size) u h
   exact⟨q+1,i,es,by rw[Nat.succ_mul];omega,h2,by simpa using h3,h4⟩
theorem RSlice.cells {w:World} {S:Foot} {A:Option Addr} {n c:Nat} (h:RSlice size E w S [.slice A n c] l) (hp:0<size):∃ess:List (List Value),ess.length=l.length∧(∀es∈ess,es.length=size)∧
  (∀(j:Nat) x,l[j]? =some x→∃es,ess[j]? =some es∧es.length=size∧E w S es x)∧(l≠ []→∃b o,A=some ⟨b,o,none⟩∧∀j u,ess.flatten[j]? =some u→w.cell? ⟨b,o+j,none⟩=some u):=by
 obtain⟨A',c',he,h1,h2,h3⟩:=h
 injection he with he _;injection he with ha hn hc;subst ha
 by_cases hl:l=[]
 ·subst hl;exact⟨[],rfl,by simp,fun j x hx=>by simp at hx,fun h=>absurd rfl h⟩
 ·obtain⟨b,o,rfl,hb,hj⟩:=h3 hl
  have hch:∀j:Fin l.length,∃es,es.length=size∧E w S es l[j]∧∀i u,es[i]? =some u→w.cell? ⟨b,o+(j.1*size+i),none⟩=some u:=fun j=>hj j.1 l[j] (List.getElem?_eq_getElem j.2)
  have hall:=fun j=>(Classical.choose_spec (hch j)).1
  refine⟨List.ofFn fun j=>Classical.choose (hch j),by simp,?_,?_,fun _=>⟨b,o,rfl,?_⟩⟩
  ·intro es hes
   obtain⟨j,rfl⟩:=List.mem_ofFn.1 hes
   exact hall j
  ·intro j x hx
   obtain⟨hlt,rfl⟩:=List.getElem?_eq_some_iff.1 hx
   refine⟨Classical.choose (hch ⟨j,hlt⟩),by simp[hlt],hall ⟨j,hlt⟩,(Classical.choose_spec (hch ⟨j,hlt⟩)).2.1⟩
  ·intro j u hu
   obtain⟨q,i,es,e1,e2,e3,e4⟩:=flatten_inv hp _ (fun es hes=>by obtain⟨j,rfl⟩:=List.mem_ofFn.1 hes;exact hall j) j u hu
   obtain⟨hq,rfl⟩:=List.getElem?_eq_some_iff.1 e3
   simp only[List.getElem_ofFn]at e4
   subst e1
   exact(Classical.choose_spec (hch _)).2.2 i u e4
theorem run_append_nothing {P:Program} {T:TypeId} {bytes:Nat} (ty:ElemTy P T t size bytes) (ty':TypeId) (hown:OwnL t size E w base lo v l) (c:Nat):(Builtin.append_ #[T,T] ty' #[v,.slice none 0 c]).run P w= .ok v w:=by
 obtain⟨i,z,i1,i2,i3,i4,i5⟩:=ty.info
 obtain⟨ess,_,h2,_⟩:=hown
 rcases h2.2 with⟨rfl,hn⟩|⟨g,cap,cur,rfl,_,_,hnc,_⟩
 ·simp[Builtin.append_,run_underlying ty.ht,sizeOf,typeInfo,i1,Builtin.lenOf,Builtin.firstCells]
 ·simp[Builtin.append_,run_underlying ty.ht,sizeOf,typeInfo,i1,Builtin.lenOf,Builtin.firstCells,hnc,storeCells]
theorem run_append_M {P:Program} {T bytes:Nat} (ty:ElemTy P T t size bytes) (hE:Rd.Ok E) (hO:Rd.One E) (ty':TypeId)
  (hown:OwnL t size E w base lo v l) {A:Option Addr} {c:Nat} {ys:List α} {S S2:Foot} (hr:RSlice size E w S [.slice A ys.length c] ys) (hE2:∀es x,E w S es x→E w S2 es x) (hS:∀b,S2 b→lo≤b∧b<w.heap.size∧v.ownBlock≠some b)
  (hbytes:(l.length+ys.length)*bytes≤140737488355328) (hlen:l.length+ys.length≤9223372036854775807) (hbase:base≤w.heap.size):
  ∃v' w',(Builtin.append_ #[T,T] ty' #[v,.slice A ys.length c]).run P w= .ok v' w'∧OwnL t size E w' base lo v' (l++ys)∧Keeps (fun b=>v.ownBlock=some b) w w'∧(v'.ownBlock=v.ownBlock∨v'.ownBlock=some w.heap.size):=by
 cases A with
 |none=>
  have hys:ys=[]:=by
   rcases Classical.em (ys=[])with h|h
   ·exact h
   ·obtain⟨_,_,he,_,_,h3⟩:=hr
    injection he with he _;injection he with ha _ _
    obtain⟨b,o,hb,_⟩:=h3 h
    rw[hb]at ha;cases ha
  subst hys
  exact⟨v,w,run_append_nothing ty ty' hown c,by simpa using hown,Keeps.refl _ _,.inl rfl⟩
 |some ad=>
  obtain⟨i,z,i1,i2,i3,i4,i5⟩:=ty.info
  obtain⟨ess,h2,h3,h4⟩:=hown
  obtain⟨ns,n1,n2,n3,n4⟩:=hr.cells ty.pos
  have hnl:ns.flatten.length=ys.length*size:=by
   rw[←n1]
   clear n1 n3 n4
   induction ns with
   |nil=>simp
   |cons e r ih=>
    simp only[List.flatten_cons,List.length_append,List.length_cons]
    rw[ih (fun x hx=>n2 x (by simp[hx])),n2 e (by simp),Nat.succ_mul];omega
  obtain⟨v',w',hrun,g1,g2,_,g4⟩:=run_append_own_at (P:=P) w base T ty' t i z size bytes ty.ht i1 i2 i3 i4 i5 ty.pos v l.length ess.flatten h3 ad ys.length c ns.flatten hnl (fun j u hu=>by
   have hne:ys≠ []:=by
    rintro rfl
    have:ns=[]:=List.eq_nil_of_length_eq_zero n1
    subst this;simp at hu
   obtain⟨b,o,hbo,hc⟩:=n4 hne
   injection hbo with hbo;subst hbo
   have:(Addr.mk b o none).add j=⟨b,o+j,none⟩:=by
    unfold Addr.add;split
    ·subst_vars;rfl
    ·simp
   rw[this];exact hc j u hu) (fun u hu=>by
   obtain⟨es,hes,hu⟩:=List.mem_flatten.1 hu
   obtain⟨j,hj,rfl⟩:=List.getElem_of_mem hes
   obtain⟨es',e1,_,e3⟩:=n3 j ys[j] (List.getElem?_eq_getElem (by omega))
   rw[List.getElem?_eq_getElem hj]at e1
   injection e1 with e1;subst e1
   exact hO _ _ _ _ e3 u hu) hlen hbytes hbase
  have kk:Keeps (fun b=>v.ownBlock=some b) w w':=⟨g2.os,g2.tape,g2.output,g2.size,fun b hb hn=>g2.block b hb (fun e=>hn e.symm)⟩
  have far:∀b,lo≤b∧b<w.heap.size∧v.ownBlock≠some b→lo≤b∧b<w'.heap.size∧v'.ownBlock≠some b:=by
   intro b ⟨q1,q2,q3⟩
   refine⟨q1,Nat.lt_of_lt_of_le q2 g2.size,fun e=> ?_⟩
   rcases g4 with g4|g4
   ·exact q3 (by rw[←g4];exact e)
   ·rw[g4]at e;injection e with e;omega
  refine⟨v',w',hrun,⟨ess++ns,by simp[h2,n1],by simpa using g1,fun j y' hy=> ?_⟩,kk,g4⟩
  rcases Nat.lt_or_ge j l.length with hj|hj
  ·rw[List.getElem?_append_left hj]at hy
   obtain⟨es',e1,e2,e3⟩:=h4 j y' hy
   exact⟨es',by rw[List.getElem?_append_left (by omega)];exact e1,e2,hE.mono e3 far (fun b hb=>kk.block b hb.2.1 hb.2.2)⟩
  ·rw[List.getElem?_append_right hj]at hy
   obtain⟨es',e1,e2,e3⟩:=n3 _ y' hy
   exact⟨es',by rw[List.getElem?_append_right (by omega),h2];exact e1,e2,hE.mono (hE2 _ _ e3) (fun b hb=>far b (hS b hb)) (fun b hb=>kk.block b (hS b hb).2.1 (hS b hb).2.2)⟩
theorem wpList_append_M {P:Program} {T bytes:Nat} (ty:ElemTy P T t size bytes) (hE:Rd.Ok E) (hO:Rd.One E) {ops:Array Oper} {rest:List Oper} {o:Oper} {a:Act} {Q:Exit→Act→World→Prop} (hgd:o.guard=none) (s x:Operand)
  (ho:o.op= .call {callee:= .builtin .append,args:= #[s,x],argTypes:= #[T,T]})
  (hown:OwnL t size E w base lo v l) (hs:a.eval s=v) {A:Option Addr} {c:Nat} {ys:List α} {S S2:Foot} (hx:a.eval x= .slice A ys.length c) (hr:RSlice size E w S [.slice A ys.length c] ys) (hE2:∀es x,E w S es x→E w S2 es x) (hS:∀b,S2 b→lo≤b∧b<w.heap.size∧v.ownBlock≠some b)
  (hbytes:(l.length+ys.length)*bytes≤140737488355328) (hlen:l.length+ys.length≤9223372036854775807) (hbase:base≤w.heap.size)
  (k:∀v' w',OwnL t size E w' base lo v' (l++ys)→Keeps (fun b=>v.ownBlock=some b) w w'→(v'.ownBlock=v.ownBlock∨v'.ownBlock=some w.heap.size)→wpList P ops Q rest (a.put o.dst v') w'):
  wpList P ops Q (o::rest) a w:=by
 refine wpList_plain hgd fun _ hK=> ?_
 obtain⟨v',w',hrun,h2,h3,h4⟩:=run_append_M ty hE hO o.type hown hr hE2 hS hbytes hlen hbase
 unfold Oper.wp execOp
 simp only[ho,resolve,invoke,builtin,Sem.run_bind,Sem.run_pure,Result.andThen_ok,List.map_toArray,List.map_cons,List.map_nil,hs,hx,hrun]
 exact hK _ _ (k v' w' h2 h3 h4)
end
end
section
open Go.RowKit
theorem Keeps.trA {a b c:World} (k:KeepsAll a b) (k':KeepsAll b c):KeepsAll a c:=k.trans k' (fun _ _ h=>h)
theorem Keeps.cellA {a b:World} (k:KeepsAll a b) {p:Addr} {v:Value} (hp:p.block<a.heap.size) (h:a.cell? p=some v):b.cell? p=some v:=(k.cell hp (by simp)).trans h
def RStr:Rd Bs:=fun _ _ cs x=>cs=[.string (mkS x)]
theorem RStr.ok:Rd.Ok RStr:=⟨fun h _ _=>h⟩
abbrev RStrs:=RSlice 1 RStr
theorem RStrs.ok:Rd.Ok RStrs:=RSlice.ok RStr.ok
section
variable {w wr:World} {S:Foot} {A:Option Addr} {n c:Nat} {l:List Bs}
theorem RStrs.at_ (h:RStrs w S [.slice A n c] l) {k:Nat} (hk:k<l.length):
  ∃b o x,A=some ⟨b,o,none⟩∧S b∧l[k]? =some x∧w.cell? ⟨b,o+k,none⟩=some (.string (mkS x)):=by
 obtain⟨b,o,x,es,rfl,hb,hx,h1,h2,h3⟩:=h.get hk
 cases h2
 exact⟨b,o,x,rfl,hb,hx,by simpa using h3 0 _ rfl⟩
end
def Rd.Flt {α:Type} (E:Rd α):Prop:=∀w S w' S' cs x,E w S cs x→E w' S' cs x
theorem RStr.flt:Rd.Flt RStr:=fun _ _ _ _ _ _ h=>h
theorem RInt.flt:Rd.Flt RInt:=fun _ _ _ _ _ _ h=>h
section
variable {α:Type} {t size:Nat} {E:Rd α} {w w':World} {base lo:Nat} {v:Value} {l:List α}
theorem OwnL.keepsT (hF:Rd.Flt E) {C:Foot} (h:OwnL t size E w base lo v l) (k:Keeps C w w') (hC:∀b,v.ownBlock=some b→¬C b):OwnL t size E w' base lo v l:=by
 obtain⟨ess,h1,h2,h3⟩:=h
 refine⟨ess,h1,?_,fun j x hx=> ?_⟩
 ·refine⟨h2.1,?_⟩
  rcases h2.2 with hn|⟨g,cap,cur,e,hb,hh,rest⟩
  ·exact .inl hn
  ·have hlt:=(Array.getElem?_eq_some_iff.1 hh).1
   exact .inr ⟨g,cap,cur,e,hb,(k.block g hlt (hC g (by rw[e];rfl))).trans hh,rest⟩
 ·obtain⟨es,e1,e2,e3⟩:=h3 j x hx
  exact⟨es,e1,e2,hF _ _ _ _ _ _ e3⟩
theorem OwnL.readT (hF:Rd.Flt E) (h:OwnL t size E w base lo v l) {S:Foot} (hS:∀b,v.ownBlock=some b→S b):RSlice size E w S [v] l:=by
 obtain⟨ess,h1,h2,h3⟩:=h
 have hall:∀es∈ess,es.length=size:=by
  intro es hes
  obtain⟨j,hj,e⟩:=List.getElem_of_mem hes
  have hl:j<l.length:=by omega
  obtain⟨es',e1,e2,_⟩:=h3 j l[j] (List.getElem?_eq_getElem hl)
  rw[List.getElem?_eq_getElem hj,e]at e1
  injection e1 with e1
  subst e1
  exact e2
 rcases h2.2 with⟨rfl,hn⟩|⟨g,cap,cur,rfl,hb,hh,hnc,hcm,hcs,htk⟩
 ·have:l=[]:=List.eq_nil_of_length_eq_zero hn
  subst this
  exact RSlice.mkNil
 ·refine⟨_,cap,rfl,hnc,hcm,fun _=>⟨g,0,rfl,hS g rfl,fun j x hx=> ?_⟩⟩
  obtain⟨es,e1,e2,e3⟩:=h3 j x hx
  refine⟨es,e2,hF _ _ _ _ _ _ e3,fun i u hu=> ?_⟩
  have hi:i<size:=by rw[←e2];exact(List.getElem?_eq_some_iff.1 hu).1
  have hj:j<l.length:=(List.getElem?_eq_some_iff.1 hx).1
  have hf:=flatten_at hall e1 hi
  rw[hu,←htk]at hf
  have hk:j*size+i<l.length*size:=by
   have:(j+1)*size≤l.length*size:=Nat.mul_le_mul_right _ hj
   rw[Nat.succ_mul]at this
   omega
  rw[List.getElem?_take_of_lt hk]at hf
  simp only[World.cell?,hh,Option.isSome_none,Nat.zero_add]
  simpa using hf
end
end
section
structure Sec where
 name:Bs
 len:Int
 lim:Int
 grd:Int
 sta:Int
 deriving DecidableEq,Inhabited
structure Lnk where
 a:Int
 ae:Int
 b:Int
 be:Int
 pt:Int
 ps:Int
 deriving DecidableEq,Inhabited
structure Lay where
 sts:List Bs
 pts:List Bs
 secs:List Sec
 lks:List Lnk
 deriving DecidableEq,Inhabited
def isLet (c:UInt8):Bool:=decide (65≤c∧c≤90)||decide (97≤c∧c≤122)
def isDig (c:UInt8):Bool:=decide (48≤c∧c≤57)
def nameCh (c:UInt8):Bool:=isLet c||isDig c||decide (c=95)
def nameOk (l:Bs):Bool:=decide (1≤l.length∧l.length≤12)&&(l.head?.map isLet).getD false&&l.all nameCh
def nameErr (seen:List Bs) (n:Bs):Int:=if nameOk n=false then 3 else if n∈seen then 5 else 0
def namesErr:List Bs→List Bs→Int
 |_,[]=>0
 |seen,n::r=>if nameErr seen n≠0 then nameErr seen n else namesErr (seen++ [n]) r
def secOk (n:Nat) (s:Sec):Bool:=decide (1≤s.len∧s.len≤400∧1000≤s.lim∧s.lim≤100000∧-40≤s.grd∧s.grd≤40∧-1≤s.sta∧s.sta<n)
def secsErr (n:Nat):List Bs→List Sec→Int
 |_,[]=>0
 |seen,s::r=>if nameErr seen s.name≠0 then nameErr seen s.name else if secOk n s=false then 4 else secsErr n (seen++ [s.name]) r
def hasE (k:Lnk) (x:Int×Int):Bool:=decide (k.a=x.1∧k.ae=x.2)||decide (k.b=x.1∧k.be=x.2)
def lnkOk (L:Lay) (k:Lnk):Bool:=decide (0≤k.a∧k.a<L.secs.length∧0≤k.b∧k.b<L.secs.length∧(k.ae=0∨k.ae=1)∧(k.be=0∨k.be=1)∧-1≤k.pt∧k.pt<L.pts.length∧(k.ps=0∨k.ps=1∧k.pt≠-1))
def atE (pre:List Lnk) (x:Int×Int):List Lnk:=pre.filter fun k=>hasE k x
def fitsE (k:Lnk) (l:List Lnk):Bool:=match l with| []=>true| [o]=>decide (k.pt≠-1∧k.pt=o.pt∧k.ps≠o.ps)|_=>false
def lnkErr (L:Lay) (pre:List Lnk) (k:Lnk):Int:=
 if lnkOk L k=false then 4
 else if(k.a,k.ae)=(k.b,k.be)then 1
 else if(pre.any fun j=>hasE j (k.a,k.ae)&&hasE j (k.b,k.be))=true then 5
 else if fitsE k (atE pre (k.a,k.ae))=false∨fitsE k (atE pre (k.b,k.be))=false then 11
 else 0
def lnksErr (L:Lay):List Lnk→List Lnk→Int
 |_,[]=>0
 |pre,k::r=>if lnkErr L pre k≠0 then lnkErr L pre k else lnksErr L (pre++ [k]) r
def layErr (L:Lay):Int:=
 if 24<L.sts.length∨48<L.pts.length∨96<L.secs.length∨192<L.lks.length then 7
 else if L.secs=[]then 1
 else if namesErr [] L.sts≠0 then namesErr [] L.sts
 else if namesErr [] L.pts≠0 then namesErr [] L.pts
 else if secsErr L.sts.length [] L.secs≠0 then secsErr L.sts.length [] L.secs
 else lnksErr L [] L.lks
theorem namesErr_at (l:List Bs) (i:Nat) (n:Bs) (h:l[i]? =some n):namesErr (l.take i) (l.drop i)=if nameErr (l.take i) n≠0 then nameErr (l.take i) n else namesErr (l.take (i+1)) (l.drop (i+1)):=by
 have hd:l.drop i=n::l.drop (i+1):=by
  have hlt:=(List.getElem?_eq_some_iff.1 h).1
  rw[←(List.getElem?_eq_some_iff.1 h).2,List.getElem_cons_drop hlt]
 have ht:l.take i++ [n]=l.take (i+1):=by rw[List.take_add_one,h];rfl
 rw[hd,namesErr,ht]
theorem secsErr_at (m:Nat) (l:List Sec) (i:Nat) (s:Sec) (h:l[i]? =some s):secsErr m ((l.take i).map (·.name)) (l.drop i)=if nameErr ((l.take i).map (·.name)) s.name≠0 then nameErr ((l.take i).map (·.name)) s.name else if secOk m s=false then 4 else secsErr m ((l.take (i+1)).map (·.name)) (l.drop (i+1)):=by
 have hd:l.drop i=s::l.drop (i+1):=by
  have hlt:=(List.getElem?_eq_some_iff.1 h).1
  rw[←(List.getElem?_eq_some_iff.1 h).2,List.getElem_cons_drop hlt]
 have ht:(l.take i).map (·.name)++ [s.name]=(l.take (i+1)).map (·.name):=by rw[List.take_add_one,h];simp
 rw[hd,secsErr,ht]
theorem lnksErr_at (L:Lay) (l:List Lnk) (i:Nat) (k:Lnk) (h:l[i]? =some k):lnksErr L (l.take i) (l.drop i)=if lnkErr L (l.take i) k≠0 then lnkErr L (l.take i) k else lnksErr L (l.take (i+1)) (l.drop (i+1)):=by
 have hd:l.drop i=k::l.drop (i+1):=by
  have hlt:=(List.getElem?_eq_some_iff.1 h).1
  rw[←(List.getElem?_eq_some_iff.1 h).2,List.getElem_cons_drop hlt]
 have ht:l.take i++ [k]=l.take (i+1):=by rw[List.take_add_one,h];rfl
 rw[hd,lnksErr,ht]
end
section
open Go.RowKit
theorem mkS_at (l:Bs) (b:Nat) (x:UInt8) (h:l[b]? =some x) (hb:b<(mkS l).size):(mkS l)[b]=x:=by
 have e:(mkS l)[b]=l[b]'(by rw[mkS_size]at hb;exact hb):=by simp[mkS,ByteArray.getElem_eq_getElem_data]
 rw[e]
 exact Option.some.inj ((List.getElem?_eq_getElem _).symm.trans h)
theorem isLetter_any (c:UInt8) (w:World):Calls Tryz.prog 381 #[.int .u8 c.toNat] w fun e w'=>e= .returned (.bool (isLet c))∧w=w':=by
 go_enter Tryz.func381,Tryz.ntmps381
 go_wp2
 all_goals (go_ret;refine⟨congrArg (fun b=>Ending.returned (Value.bool b)) ?_,rfl⟩;rw[Bool.eq_iff_iff];simp[isLet,UInt8.le_iff_toNat_le];omega)
theorem isDigit_any (c:UInt8) (w:World):Calls Tryz.prog 382 #[.int .u8 c.toNat] w fun e w'=>e= .returned (.bool (isDig c))∧w=w':=by
 go_enter Tryz.func382,Tryz.ntmps382
 go_wp2
 all_goals (go_ret;refine⟨congrArg (fun b=>Ending.returned (Value.bool b)) ?_,rfl⟩;rw[Bool.eq_iff_iff];simp[isDig,UInt8.le_iff_toNat_le];omega)
theorem letter_any (c:UInt8) (w:World):Calls Tryz.prog 286 #[.int .u8 c.toNat] w fun e w'=>e= .returned (.bool (isLet c))∧w=w':=by
 go_enter Tryz.func286,Tryz.ntmps286
 go_wp2
 all_goals (go_ret;refine⟨congrArg (fun b=>Ending.returned (Value.bool b)) ?_,rfl⟩;rw[Bool.eq_iff_iff];simp[isLet,UInt8.le_iff_toNat_le];omega)
theorem digit_any (c:UInt8) (w:World):Calls Tryz.prog 287 #[.int .u8 c.toNat] w fun e w'=>e= .returned (.bool (isDig c))∧w=w':=by
 go_enter Tryz.func287,Tryz.ntmps287
 go_wp2
 all_goals (go_ret;refine⟨congrArg (fun b=>Ending.returned (Value.bool b)) ?_,rfl⟩;rw[Bool.eq_iff_iff];simp[isDig,UInt8.le_iff_toNat_le];omega)
theorem nameOk_eq (l:Bs) (c:UInt8) (h0:l[0]? =some c) (h1:l.length≤12) (h2:isLet c=true):nameOk l=l.all nameCh:=by
 cases l with
 |nil=>simp at h0
 |cons x r=>
  simp at h0
  subst h0
  unfold nameOk
  simp[h2]at h1⊢
  omega
theorem all_take (l:Bs) (i:Nat) (c:UInt8) (h:l[i]? =some c):(l.take (i+1)).all nameCh=((l.take i).all nameCh&&nameCh c):=by
 rw[List.take_add_one,h,Option.toList_some,List.all_append]
 simp
theorem nameOk_short (l:Bs) (h:l.length<1∨12<l.length):nameOk l=false:=by
 unfold nameOk
 have:decide (1≤l.length∧l.length≤12)=false:=by simp;omega
 rw[this]
 rfl
theorem nameOk_head (l:Bs) (c:UInt8) (h0:l[0]? =some c) (h2:isLet c=false):nameOk l=false:=by
 cases l with
 |nil=>simp at h0
 |cons x r=>
  simp at h0
  subst h0
  unfold nameOk
  simp[h2]
set_option maxHeartbeats 1000000 in
theorem Name_any (l:Bs) (hl:l.length≤9223372036854775807) (w:World):Calls Tryz.prog 268 #[.string (mkS l)] w fun e w'=>e= .returned (.bool (nameOk l))∧KeepsAll w w':=by
 have hts:(mkS l).size=l.length:=mkS_size l
 have key:∀(i:Nat) (h:i<(mkS l).size),l[i]? =some ((mkS l)[i]):=fun i h=>by
  have hi:i<l.length:=by rw[←hts];exact h
  rw[mkS_at l i l[i] (List.getElem?_eq_getElem hi) h,List.getElem?_eq_getElem hi]
 have KEY:=Lib.hid key
 clear key
 generalize ht:mkS l=t at*
 clear ht
 go_enter Tryz.func268,Tryz.ntmps268
 go_wp2_with(go_at_call 381;refine(isLetter_any _ _).mono ?_;rintro e w' ⟨rfl,rfl⟩)
 ·rename_i h3 h2 h1 hx
  go_ret
  refine⟨congrArg (fun b=>Ending.returned (Value.bool b)) ?_,Keeps.refl _ _⟩
  rcases hx with hx|hx
  ·exact(nameOk_short l (by omega)).symm
  ·exact(nameOk_head l _ (KEY.out 0 (by omega)) (by simpa using hx)).symm
 ·rename_i h1 h3 h2 hx
  have hlet:isLet t[0]=true:=by simpa using h3.2
  have HN:Hid (nameOk l=l.all nameCh):=nameOk_eq l _ (KEY.out 0 (by omega)) (by omega) hlet
  clear h3 hlet
  go_loopw [2,20] (fun r i wr=>∃b:Nat,b≤l.length∧i= .int .i64 (b:Int)∧r= .bool false∧(l.take b).all nameCh=true∧wr=w) (fun _ i _=>l.length-(intOf i).toNat)
  case atStart=>exact⟨0,Nat.zero_le _,rfl,rfl,rfl,rfl⟩
  case round=>
   obtain⟨b,hb,rfl,rfl,hall,rfl⟩:=hrel
   have HALL:=Lib.hid hall
   clear hall
   by_cases hlt:b<l.length
   ·have HNX:Hid (∀x,nameCh t[b]=x→(l.take (b+1)).all nameCh=x):=fun x hx=>by
     rw[all_take l b _ (KEY.out b (by omega)),HALL.out,hx]
     rfl
    have HNO:Hid (nameCh t[b]=false→nameOk l=false):=fun hx=>by
     rw[HN.out,List.all_eq_false]
     exact⟨t[b],List.mem_of_getElem? (KEY.out b (by omega)),by rw[hx];simp⟩
    have H95:Hid ((t[b]=95)=((t[b].toNat:Int)=95)):=propext ⟨fun h=>by rw[h];rfl,fun h=>UInt8.toNat_inj.1 (by exact_mod_cast h)⟩
    go_wp2_with(first|(go_at_call 381;refine(isLetter_any _ _).mono ?_;rintro e w' ⟨rfl,rfl⟩)|(go_at_call 382;refine(isDigit_any _ _).mono ?_;rintro e w' ⟨rfl,rfl⟩))
    all_goals (try(go_ret;exact⟨congrArg (fun b=>Ending.returned (Value.bool b)) (HNO.out (by have h95:=H95.out;clear HNX HNO HALL HN KEY H95;simp_all[nameCh])).symm,Keeps.refl _ _⟩))
    all_goals
     go_roundw
     case rel=>exact⟨b+1,by omega,by go_num,rfl,HNX.out true (by have h95:=H95.out;clear HNX HNO HALL HN KEY;simp_all[nameCh]),trivial⟩
     case measure=>simp[intOf];omega
   ·obtain rfl:b=l.length:=by omega
    go_wp2
    go_ret
    refine⟨congrArg (fun b=>Ending.returned (Value.bool b)) ?_,Keeps.refl _ _⟩
    rw[HN.out,←HALL.out,List.take_length]
 ·go_ret
  exact⟨congrArg (fun b=>Ending.returned (Value.bool b)) (nameOk_short l (by omega)).symm,Keeps.refl _ _⟩
 ·go_ret
  exact⟨congrArg (fun b=>Ending.returned (Value.bool b)) (nameOk_short l (by omega)).symm,Keeps.refl _ _⟩
set_option maxHeartbeats 1000000 in
theorem RName_any (l:Bs) (hl:l.length≤9223372036854775807) (w:World):Calls Tryz.prog 184 #[.string (mkS l)] w fun e w'=>e= .returned (.bool (nameOk l))∧KeepsAll w w':=by
 have hts:(mkS l).size=l.length:=mkS_size l
 have key:∀(i:Nat) (h:i<(mkS l).size),l[i]? =some ((mkS l)[i]):=fun i h=>by
  have hi:i<l.length:=by rw[←hts];exact h
  rw[mkS_at l i l[i] (List.getElem?_eq_getElem hi) h,List.getElem?_eq_getElem hi]
 have KEY:=Lib.hid key
 clear key
 generalize ht:mkS l=t at*
 clear ht
 go_enter Tryz.func184,Tryz.ntmps184
 go_wp2_with(go_at_call 286;refine(letter_any _ _).mono ?_;rintro e w' ⟨rfl,rfl⟩)
 ·rename_i h3 h2 h1 hx
  go_ret
  refine⟨congrArg (fun b=>Ending.returned (Value.bool b)) ?_,Keeps.refl _ _⟩
  rcases hx with hx|hx
  ·exact(nameOk_short l (by omega)).symm
  ·exact(nameOk_head l _ (KEY.out 0 (by omega)) (by simpa using hx)).symm
 ·rename_i h1 h3 h2 hx
  have hlet:isLet t[0]=true:=by simpa using h3.2
  have HN:Hid (nameOk l=l.all nameCh):=nameOk_eq l _ (KEY.out 0 (by omega)) (by omega) hlet
  have HS:Hid ((l.take 1).all nameCh=true):=by
   show _=_
   rw[all_take l 0 _ (KEY.out 0 (by omega))]
   simp[nameCh,hlet]
  clear h3 hlet
  go_loopw [2,3] (fun r i wr=>∃b:Nat,1≤b∧b≤l.length∧i= .int .i64 (b:Int)∧r= .bool false∧(l.take b).all nameCh=true∧wr=w) (fun _ i _=>l.length-(intOf i).toNat)
  case atStart=>exact⟨1,Nat.le_refl _,by omega,rfl,rfl,HS.out,rfl⟩
  case round=>
   obtain⟨b,hb1,hb,rfl,rfl,hall,rfl⟩:=hrel
   have HALL:=Lib.hid hall
   clear hall
   by_cases hlt:b<l.length
   ·have HNX:Hid (∀x,nameCh t[b]=x→(l.take (b+1)).all nameCh=x):=fun x hx=>by
     rw[all_take l b _ (KEY.out b (by omega)),HALL.out,hx]
     rfl
    have HNO:Hid (nameCh t[b]=false→nameOk l=false):=fun hx=>by
     rw[HN.out,List.all_eq_false]
     exact⟨t[b],List.mem_of_getElem? (KEY.out b (by omega)),by rw[hx];simp⟩
    have H95:Hid ((t[b]=95)=((t[b].toNat:Int)=95)):=propext ⟨fun h=>by rw[h];rfl,fun h=>UInt8.toNat_inj.1 (by exact_mod_cast h)⟩
    go_wp2_with(first|(go_at_call 286;refine(letter_any _ _).mono ?_;rintro e w' ⟨rfl,rfl⟩)|(go_at_call 287;refine(digit_any _ _).mono ?_;rintro e w' ⟨rfl,rfl⟩))
    all_goals (try(go_ret;exact⟨congrArg (fun b=>Ending.returned (Value.bool b)) (HNO.out (by have h95:=H95.out;clear HNX HNO HALL HN KEY H95;simp_all[nameCh])).symm,Keeps.refl _ _⟩))
    all_goals
     go_roundw
     case rel=>exact⟨b+1,by omega,by omega,by go_num,rfl,HNX.out true (by have h95:=H95.out;clear HNX HNO HALL HN KEY;simp_all[nameCh]),trivial⟩
     case measure=>simp[intOf];omega
   ·obtain rfl:b=l.length:=by omega
    go_wp2
    go_ret
    refine⟨congrArg (fun b=>Ending.returned (Value.bool b)) ?_,Keeps.refl _ _⟩
    rw[HN.out,←HALL.out,List.take_length]
 ·go_ret
  exact⟨congrArg (fun b=>Ending.returned (Value.bool b)) (nameOk_short l (by omega)).symm,Keeps.refl _ _⟩
 ·go_ret
  exact⟨congrArg (fun b=>Ending.returned (Value.bool b)) (nameOk_short l (by omega)).symm,Keeps.refl _ _⟩
end
section
open Go.RowKit
def secC (s:Sec):Array Value:= #[.string (mkS s.name),.int .i64 s.len,.int .i64 s.lim,.int .i64 s.grd,.int .i64 s.sta]
def lnkC (k:Lnk):Array Value:= #[.int .i64 k.a,.int .i64 k.ae,.int .i64 k.b,.int .i64 k.be,.int .i64 k.pt,.int .i64 k.ps]
def RSec:Rd Sec:=fun _ _ cs s=>cs=(secC s).toList
def RLnk:Rd Lnk:=fun _ _ cs k=>cs=(lnkC k).toList
theorem RSec.ok:Rd.Ok RSec:=⟨fun h _ _=>h⟩
theorem RLnk.ok:Rd.Ok RLnk:=⟨fun h _ _=>h⟩
theorem RSec.flt:Rd.Flt RSec:=fun _ _ _ _ _ _ h=>h
theorem RLnk.flt:Rd.Flt RLnk:=fun _ _ _ _ _ _ h=>h
abbrev RSecs:=RSlice 5 RSec
abbrev RLnks:=RSlice 6 RLnk
section
variable {w:World} {S:Foot} {A:Option Addr} {n c:Nat}
theorem RSecs.at_ {l:List Sec} (h:RSecs w S [.slice A n c] l) {k:Nat} (hk:k<l.length):
  ∃b o s,A=some ⟨b,o,none⟩∧S b∧l[k]? =some s∧w.cell? ⟨b,o+k*5,none⟩=some (.string (mkS s.name))∧w.cell? ⟨b,o+k*5+1,none⟩=some (.int .i64 s.len)∧w.cell? ⟨b,o+k*5+2,none⟩=some (.int .i64 s.lim)∧
   w.cell? ⟨b,o+k*5+3,none⟩=some (.int .i64 s.grd)∧w.cell? ⟨b,o+k*5+4,none⟩=some (.int .i64 s.sta):=by
 obtain⟨b,o,s,es,rfl,hb,hx,h1,h2,h3⟩:=h.get hk
 cases h2
 exact⟨b,o,s,rfl,hb,hx,by simpa using h3 0 _ rfl,by simpa[Nat.add_assoc]using h3 1 _ rfl,by simpa[Nat.add_assoc]using h3 2 _ rfl,by simpa[Nat.add_assoc]using h3 3 _ rfl,by simpa[Nat.add_assoc]using h3 4 _ rfl⟩
theorem RLnks.at_ {l:List Lnk} (h:RLnks w S [.slice A n c] l) {k:Nat} (hk:k<l.length):
  ∃b o s,A=some ⟨b,o,none⟩∧S b∧l[k]? =some s∧w.cell? ⟨b,o+k*6,none⟩=some (.int .i64 s.a)∧w.cell? ⟨b,o+k*6+1,none⟩=some (.int .i64 s.ae)∧w.cell? ⟨b,o+k*6+2,none⟩=some (.int .i64 s.b)∧
   w.cell? ⟨b,o+k*6+3,none⟩=some (.int .i64 s.be)∧w.cell? ⟨b,o+k*6+4,none⟩=some (.int .i64 s.pt)∧w.cell? ⟨b,o+k*6+5,none⟩=some (.int .i64 s.ps):=by
 obtain⟨b,o,s,es,rfl,hb,hx,h1,h2,h3⟩:=h.get hk
 cases h2
 exact⟨b,o,s,rfl,hb,hx,by simpa using h3 0 _ rfl,by simpa[Nat.add_assoc]using h3 1 _ rfl,by simpa[Nat.add_assoc]using h3 2 _ rfl,by simpa[Nat.add_assoc]using h3 3 _ rfl,by simpa[Nat.add_assoc]using h3 4 _ rfl,by simpa[Nat.add_assoc]using h3 5 _ rfl⟩
end
structure LV where
 A1:Option Addr
 A2:Option Addr
 A3:Option Addr
 A4:Option Addr
 c1:Nat
 c2:Nat
 c3:Nat
 c4:Nat
def LV.cs (v:LV) (L:Lay):Array Value:= #[.slice v.A1 L.sts.length v.c1,.slice v.A2 L.pts.length v.c2,.slice v.A3 L.secs.length v.c3,.slice v.A4 L.lks.length v.c4]
structure RLay (w:World) (S:Foot) (v:LV) (L:Lay):Prop where
 sts:RStrs w S [.slice v.A1 L.sts.length v.c1] L.sts
 pts:RStrs w S [.slice v.A2 L.pts.length v.c2] L.pts
 secs:RSecs w S [.slice v.A3 L.secs.length v.c3] L.secs
 lks:RLnks w S [.slice v.A4 L.lks.length v.c4] L.lks
theorem Keeps.rdA {α:Type} {E:Rd α} (hE:Rd.Ok E) {a b:World} (k:KeepsAll a b) {cs:List Value} {x:α} (h:E a (Old a) cs x):E b (Old b) cs x:=
 k.rd hE h (fun b hb=>⟨hb,by simp⟩) (fun b hb=>Nat.lt_of_lt_of_le hb k.size)
theorem RLay.kept {w w':World} {v:LV} {L:Lay} (h:RLay w (Old w) v L) (k:KeepsAll w w'):RLay w' (Old w') v L:=
 ⟨k.rdA RStrs.ok h.sts,k.rdA RStrs.ok h.pts,k.rdA (RSlice.ok RSec.ok) h.secs,k.rdA (RSlice.ok RLnk.ok) h.lks⟩
set_option maxHeartbeats 1000000 in
theorem secIn_any (L:Lay) (v:LV) (s:Sec) (w:World):Calls Tryz.prog 190 #[.agg (v.cs L),.agg (secC s)] w fun e w'=>e= .returned (.bool (secOk L.sts.length s))∧KeepsAll w w':=by
 unfold LV.cs secC
 go_enter Tryz.func190,Tryz.ntmps190
 go_wp2
 all_goals
  go_ret
  refine⟨congrArg (fun b=>Ending.returned (Value.bool b)) ?_,((Keeps.refl _ _).alloc _).alloc _⟩
  rw[Bool.eq_iff_iff]
  simp[secOk]
  omega
set_option maxHeartbeats 4000000 in
theorem lnkIn_any (L:Lay) (v:LV) (k:Lnk) (w:World):Calls Tryz.prog 291 #[.agg (v.cs L),.agg (lnkC k)] w fun e w'=>e= .returned (.bool (lnkOk L k))∧KeepsAll w w':=by
 unfold LV.cs lnkC
 go_enter Tryz.func291,Tryz.ntmps291
 go_upto_region 1 with fail
 simp only[List.append_eq,List.cons_append,List.nil_append]
 go_wp2
 all_goals
  go_ret
  refine⟨congrArg (fun b=>Ending.returned (Value.bool b)) ?_,((Keeps.refl _ _).alloc _).alloc _⟩
  rw[Bool.eq_iff_iff]
  simp[lnkOk]
  omega
end
section
structure Stp where
 sec:Int
 dir:Int
 deriving DecidableEq,Inhabited
structure Rou where
 stps:List Stp
 ov:Int
 deriving DecidableEq,Inhabited
def outE (s:Stp):Int×Int:=(s.sec,if s.dir=0 then 1 else 0)
def inE (s:Stp):Int×Int:=(s.sec,if s.dir=0 then 0 else 1)
def joinsE (k:Lnk) (x y:Int×Int):Bool:=decide ((k.a,k.ae)=x∧(k.b,k.be)=y)||decide ((k.a,k.ae)=y∧(k.b,k.be)=x)
def lnkOf (ks:List Lnk) (s t:Stp):Option Lnk:=ks.find? fun k=>joinsE k (outE s) (inE t)
def stpOk (n:Nat) (s:Stp):Bool:=decide (0≤s.sec∧s.sec<n∧(s.dir=0∨s.dir=1))
def dupS:List Int→List Stp→Bool
 |_,[]=>false
 |seen,s::r=>if s.sec∈seen then true else dupS (seen++ [s.sec]) r
def lnksOf (ks:List Lnk):List Stp→Option (List Lnk)
 |s::t::r=>match lnkOf ks s t with
  |none=>none
  |some k=>(lnksOf ks (t::r)).map (k::·)
 |_=>some []
def rouErr (L:Lay) (r:Rou):Int:=
 if layErr L≠0 then 1
 else if 24<r.stps.length∨2<r.ov then 7
 else if r.ov<0∨(r.stps.length:Int)-r.ov<2 then 4
 else if(r.stps.any fun s=> !stpOk L.secs.length s)=true then 4
 else if dupS [] r.stps=true then 5
 else if lnksOf L.lks r.stps=none then 11
 else 0
end
section
theorem nameErr_zero {seen:List Bs} {n:Bs}:nameErr seen n=0↔nameOk n=true∧n∉seen:=by
 unfold nameErr
 split
 ·rename_i h;simp[h]
 ·rename_i h
  have h':nameOk n=true:=by simpa using h
  split<;>simp_all
theorem namesErr_zero:∀(l seen:List Bs),namesErr seen l=0↔(∀n∈l,nameOk n=true)∧l.Nodup∧∀n∈l,n∉seen:=by
 intro l
 induction l with
 |nil=>intro seen;simp[namesErr]
 |cons n r ih=>
  intro seen
  unfold namesErr
  split
  ·rename_i h
   constructor
   ·intro h';exact absurd h' h
   ·rintro⟨h1,_,h3⟩;exact absurd (nameErr_zero.2 ⟨h1 n (by simp),h3 n (by simp)⟩) h
  ·rename_i h
   have h':nameErr seen n=0:=by simpa using h
   obtain⟨a1,a2⟩:=nameErr_zero.1 h'
   rw[ih]
   constructor
   ·rintro⟨h1,h2,h3⟩
    refine⟨by simpa using ⟨a1,h1⟩,?_,?_⟩
    ·rw[List.nodup_cons];exact⟨fun hm=>h3 n hm (by simp),h2⟩
    ·intro m hm
     rcases List.mem_cons.1 hm with rfl|hm
     ·exact a2
     ·exact fun hs=>h3 m hm (by simp[hs])
   ·rintro⟨h1,h2,h3⟩
    rw[List.nodup_cons]at h2
    refine⟨fun m hm=>h1 m (by simp[hm]),h2.2,fun m hm hs=> ?_⟩
    rcases List.mem_append.1 hs with hs|hs
    ·exact h3 m (by simp[hm]) hs
    ·simp at hs;subst hs;exact h2.1 hm
theorem secsErr_zero (m:Nat):∀(l:List Sec) (seen:List Bs),secsErr m seen l=0↔(∀s∈l,nameOk s.name=true∧secOk m s=true)∧(l.map (·.name)).Nodup∧∀s∈l,s.name∉seen:=by
 intro l
 induction l with
 |nil=>intro seen;simp[secsErr]
 |cons n r ih=>
  intro seen
  unfold secsErr
  split
  ·rename_i h
   constructor
   ·intro h';exact absurd h' h
   ·rintro⟨h1,_,h3⟩;exact absurd (nameErr_zero.2 ⟨(h1 n (by simp)).1,h3 n (by simp)⟩) h
  ·rename_i h
   have h':nameErr seen n.name=0:=by simpa using h
   obtain⟨a1,a2⟩:=nameErr_zero.1 h'
   split
   ·rename_i h2
    constructor
    ·intro h3;simp at h3
    ·rintro⟨h3,_⟩;have:=(h3 n (by simp)).2;rw[h2]at this;cases this
   ·rename_i h2
    have a3:secOk m n=true:=by simpa using h2
    rw[ih]
    constructor
    ·rintro⟨h1,h2,h3⟩
     refine⟨by simpa using ⟨⟨a1,a3⟩,h1⟩,?_,?_⟩
     ·rw[List.map_cons,List.nodup_cons]
      refine⟨fun hm=> ?_,h2⟩
      obtain⟨s,hs,e⟩:=List.mem_map.1 hm
      exact h3 s hs (by simp[e])
     ·intro s hm
      rcases List.mem_cons.1 hm with rfl|hm
      ·exact a2
      ·exact fun hs=>h3 s hm (by simp[hs])
    ·rintro⟨h1,h2,h3⟩
     rw[List.map_cons,List.nodup_cons]at h2
     refine⟨fun s hm=>h1 s (by simp[hm]),h2.2,fun s hm hs=> ?_⟩
     rcases List.mem_append.1 hs with hs|hs
     ·exact h3 s (by simp[hm]) hs
     ·simp at hs;exact h2.1 (List.mem_map.2 ⟨s,hm,hs⟩)
theorem lnksErr_zero (L:Lay):∀(l pre:List Lnk),lnksErr L pre l=0↔∀i k,l[i]? =some k→lnkErr L (pre++l.take i) k=0:=by
 intro l
 induction l with
 |nil=>intro pre;simp[lnksErr]
 |cons n r ih=>
  intro pre
  unfold lnksErr
  split
  ·rename_i h
   constructor
   ·intro h';exact absurd h' h
   ·intro h';have:=h' 0 n rfl;simp at this;exact absurd this h
  ·rename_i h
   have h0:lnkErr L pre n=0:=by simpa using h
   rw[ih]
   constructor
   ·intro h1 i k hk
    cases i with
    |zero=>simp at hk;subst hk;simpa using h0
    |succ i=>have:=h1 i k (by simpa using hk);simpa using this
   ·intro h1 i k hk
    have:=h1 (i+1) k (by simpa using hk)
    simpa using this
structure LayOk (L:Lay):Prop where
 sts:L.sts.length≤24
 pts:L.pts.length≤48
 secs:L.secs.length≤96
 lks:L.lks.length≤192
 ne:L.secs≠ []
 stn:(∀n∈L.sts,nameOk n=true)∧L.sts.Nodup
 ptn:(∀n∈L.pts,nameOk n=true)∧L.pts.Nodup
 sec:∀s∈L.secs,nameOk s.name=true∧secOk L.sts.length s=true
 secn:(L.secs.map (·.name)).Nodup
 lnk:∀(i:Nat) k,L.lks[i]? =some k→lnkErr L (L.lks.take i) k=0
theorem layErr_zero (L:Lay):layErr L=0↔LayOk L:=by
 unfold layErr
 constructor
 ·intro h
  split at h
  ·simp at h
  rename_i h1
  split at h
  ·simp at h
  rename_i h2
  split at h
  ·rename_i h3;exact absurd h h3
  rename_i h3
  split at h
  ·rename_i h4;exact absurd h h4
  rename_i h4
  split at h
  ·rename_i h5;exact absurd h h5
  rename_i h5
  have a:=(namesErr_zero L.sts []).1 (by simpa using h3)
  have b:=(namesErr_zero L.pts []).1 (by simpa using h4)
  have c:=(secsErr_zero L.sts.length L.secs []).1 (by simpa using h5)
  have d:=(lnksErr_zero L L.lks []).1 h
  exact⟨by omega,by omega,by omega,by omega,h2,⟨a.1,a.2.1⟩,⟨b.1,b.2.1⟩,c.1,c.2.1,fun i k hk=>by simpa using d i k hk⟩
 ·intro h
  obtain⟨h1,h2,h3,h4,h5,h6,h7,h8,h9,h10⟩:=h
  rw[if_neg (by omega),if_neg h5,if_neg,if_neg,if_neg]
  ·exact(lnksErr_zero L L.lks []).2 (fun i k hk=>by simpa using h10 i k hk)
  ·intro hn;exact hn ((secsErr_zero L.sts.length L.secs []).2 ⟨h8,h9,by simp⟩)
  ·intro hn;exact hn ((namesErr_zero L.pts []).2 ⟨h7.1,h7.2,by simp⟩)
  ·intro hn;exact hn ((namesErr_zero L.sts []).2 ⟨h6.1,h6.2,by simp⟩)
theorem lnkErr_zero {L:Lay} {pre:List Lnk} {k:Lnk}:lnkErr L pre k=0↔lnkOk L k=true∧(k.a,k.ae)≠(k.b,k.be)∧(∀j∈pre,¬(hasE j (k.a,k.ae)=true∧hasE j (k.b,k.be)=true))∧
  fitsE k (atE pre (k.a,k.ae))=true∧fitsE k (atE pre (k.b,k.be))=true:=by
 unfold lnkErr
 split
 ·rename_i h;simp[h]
 rename_i h
 have h':lnkOk L k=true:=by simpa using h
 split
 ·rename_i h1;simp[h1]
 rename_i h1
 split
 ·rename_i h2
  rw[List.any_eq_true]at h2
  obtain⟨j,hj,h2⟩:=h2
  constructor
  ·intro h;simp at h
  ·rintro⟨_,_,h3,_⟩;exact absurd (by simpa using h2) (h3 j hj)
 rename_i h2
 have h2':∀j∈pre,¬(hasE j (k.a,k.ae)=true∧hasE j (k.b,k.be)=true):=by
  intro j hj hh
  exact h2 (List.any_eq_true.2 ⟨j,hj,by simpa using hh⟩)
 split
 ·rename_i h3
  constructor
  ·intro h;simp at h
  ·rintro⟨_,_,_,h4,h5⟩;rcases h3 with h3|h3
   ·rw[h4]at h3;cases h3
   ·rw[h5]at h3;cases h3
 ·rename_i h3
  have h4:fitsE k (atE pre (k.a,k.ae))=true:=by
   cases h:fitsE k (atE pre (k.a,k.ae))
   ·exact absurd (.inl h) h3
   ·rfl
  have h5:fitsE k (atE pre (k.b,k.be))=true:=by
   cases h:fitsE k (atE pre (k.b,k.be))
   ·exact absurd (.inr h) h3
   ·rfl
  exact⟨fun _=>⟨h',h1,h2',h4,h5⟩,fun _=>rfl⟩
theorem joinsE_has {k:Lnk} {x y:Int×Int} (h:joinsE k x y=true):hasE k x=true∧hasE k y=true:=by
 unfold joinsE at h
 simp only[Bool.or_eq_true,decide_eq_true_eq]at h
 rcases h with⟨rfl,rfl⟩|⟨rfl,rfl⟩<;>simp[hasE]
theorem joinsE_ends {k:Lnk} {x y:Int×Int} (h:joinsE k x y=true):((k.a,k.ae)=x∧(k.b,k.be)=y)∨((k.a,k.ae)=y∧(k.b,k.be)=x):=by
 unfold joinsE at h;simpa only[Bool.or_eq_true,decide_eq_true_eq]using h
theorem LayOk.one {L:Lay} (h:LayOk L) {i j:Nat} {k m:Lnk} {x y:Int×Int} (hk:L.lks[i]? =some k) (hm:L.lks[j]? =some m) (h1:joinsE k x y=true) (h2:joinsE m x y=true):i=j:=by
 have key:∀ {i j:Nat} {k m:Lnk},L.lks[i]? =some k→L.lks[j]? =some m→joinsE k x y=true→joinsE m x y=true→¬i<j:=by
  intro i j k m hk hm h1 h2 hlt
  have hz:=lnkErr_zero.1 (h.lnk j m hm)
  have hmem:k∈L.lks.take j:=List.mem_of_getElem? (by rw[List.getElem?_take_of_lt hlt];exact hk)
  have g1:=joinsE_has h1
  rcases joinsE_ends h2 with⟨e1,e2⟩|⟨e1,e2⟩
  ·exact hz.2.2.1 k hmem (by rw[e1,e2];exact g1)
  ·exact hz.2.2.1 k hmem (by rw[e1,e2];exact⟨g1.2,g1.1⟩)
 have a:=key hk hm h1 h2
 have b:=key hm hk h2 h1
 omega
theorem LayOk.find {L:Lay} (h:LayOk L) {i:Nat} {k:Lnk} {s t:Stp} (hk:L.lks[i]? =some k) (h1:joinsE k (outE s) (inE t)=true):lnkOf L.lks s t=some k:=by
 unfold lnkOf
 cases e:L.lks.find? fun k=>joinsE k (outE s) (inE t)with
 |none=>
  rw[List.find?_eq_none]at e
  exact absurd h1 (by simpa using e k (List.mem_of_getElem? hk))
 |some m=>
  have hm:=List.find?_some e
  obtain⟨j,hj,hjm⟩:=List.getElem_of_mem (List.mem_of_find?_eq_some e)
  have hjm':L.lks[j]? =some m:=by rw[List.getElem?_eq_getElem hj,hjm]
  have:=h.one hk hjm' h1 hm
  subst this
  rw[hk]at hjm'
  exact hjm'.symm
theorem LayOk.sec_at {L:Lay} (h:LayOk L) {i:Nat} {s:Sec} (hs:L.secs[i]? =some s):1≤s.len∧s.len≤400∧1000≤s.lim∧s.lim≤100000∧-40≤s.grd∧s.grd≤40:=by
 have:=(h.sec s (List.mem_of_getElem? hs)).2
 simp[secOk]at this
 exact⟨this.1,this.2.1,this.2.2.1,this.2.2.2.1,this.2.2.2.2.1,this.2.2.2.2.2.1⟩
end
end Go.Proofs.YtcbcegdidlefiaaGreat
