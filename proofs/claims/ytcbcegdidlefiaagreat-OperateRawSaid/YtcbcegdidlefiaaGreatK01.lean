/- Words for memory that all walks of this claim share: reading relations for slices, structs and nested lists, with the set of blocks that they rest on. No condition. A region that draws its order, walked once in an order of our choice: operations that only read are taken as early as they can come up, each other operation is waited for by all that follow it. No condition. A region that draws its order, in two phases: all operations of the second wait for all of the first. No condition. Strings as lists of bytes. No program in sight. Words and lines of a text: strings.FieldsFunc at blanks is a split of the bytes. No program in sight. -/
import Derived.WalkKit
import Derived.WalkSpells
import Derived.WalkLawsBesides
import Derived.Lib.Hide
import Derived.Outline
import Derived.Deep.QuietTactic
import Derived.BigQuiet
import Derived.OrdersHeld
import Derived.Deep.RegionHeld3
import GoSem.Core.Value
import Derived.Lib.FieldsP
import Derived.Lib.FieldsLaws
namespace Go.Proofs.YtcbcegdidlefiaaGreat
section
open Go.RowKit
abbrev Foot:=Nat→Prop
abbrev Rd (α:Type):=World→Foot→List Value→α→Prop
structure Rd.Ok {α:Type} (E:Rd α):Prop where
 mono:∀ {w w':World} {S S':Foot} {cs:List Value} {x:α},E w S cs x→(∀b,S b→S' b)→(∀b,S b→w'.heap[b]? =w.heap[b]?)→E w' S' cs x
def RInt:Rd Int:=fun _ _ cs x=>cs=[.int .i64 x]
theorem RInt.ok:Rd.Ok RInt:=⟨fun h _ _=>h⟩
def RSlice {α:Type} (size:Nat) (E:Rd α):Rd (List α):=fun w S cs l=>
 ∃A c,cs=[.slice A l.length c]∧l.length≤c∧c≤9223372036854775807∧
  (l≠ []→∃b o,A=some ⟨b,o,none⟩∧S b∧∀j x,l[j]? =some x→
   ∃es,es.length=size∧E w S es x∧∀i u,es[i]? =some u→w.cell? ⟨b,o+(j*size+i),none⟩=some u)
theorem RSlice.ok {α:Type} {size:Nat} {E:Rd α} (hE:Rd.Ok E):Rd.Ok (RSlice size E):=by
 refine⟨?_⟩
 intro w w' S S' cs l h hS hw
 obtain⟨A,c,rfl,h1,h2,h3⟩:=h
 refine⟨A,c,rfl,h1,h2,fun hl=> ?_⟩
 obtain⟨b,o,rfl,hb,hj⟩:=h3 hl
 refine⟨b,o,rfl,hS b hb,fun j x hx=> ?_⟩
 obtain⟨es,e1,e2,e3⟩:=hj j x hx
 exact⟨es,e1,hE.mono e2 hS hw,fun i u hu=>(World.cell?_of_block (hw b hb)).trans (e3 i u hu)⟩
section
variable {α:Type} {size:Nat} {E:Rd α} {w:World} {S:Foot} {A:Option Addr} {n c:Nat} {l:List α}
theorem RSlice.len (h:RSlice size E w S [.slice A n c] l):n=l.length:=by
 obtain⟨A',c',he,_⟩:=h;injection he with he _;injection he
theorem RSlice.caps (h:RSlice size E w S [.slice A n c] l):l.length≤c∧c≤9223372036854775807:=by
 obtain⟨A',c',he,h1,h2,_⟩:=h;injection he with he _;injection he with _ _ he;subst he;exact⟨h1,h2⟩
theorem RSlice.get (h:RSlice size E w S [.slice A n c] l) {k:Nat} (hk:k<l.length):
  ∃b o x es,A=some ⟨b,o,none⟩∧S b∧l[k]? =some x∧es.length=size∧E w S es x∧∀i u,es[i]? =some u→w.cell? ⟨b,o+(k*size+i),none⟩=some u:=by
 obtain⟨A',c',he,h1,h2,h3⟩:=h
 injection he with he _;injection he with ha hn hc;subst ha
 obtain⟨b,o,rfl,hb,hj⟩:=h3 (by intro e;subst e;simp at hk)
 obtain⟨es,e1,e2,e3⟩:=hj k l[k] (List.getElem?_eq_getElem hk)
 exact⟨b,o,l[k],es,rfl,hb,List.getElem?_eq_getElem hk,e1,e2,e3⟩
theorem RSlice.mkNil:RSlice size E w S [.slice none 0 0] []:=⟨none,0,rfl,Nat.le_refl _,by omega,fun h=>absurd rfl h⟩
end
abbrev RInts:=RSlice 1 RInt
theorem RInts.ok:Rd.Ok RInts:=RSlice.ok RInt.ok
theorem RInts.at_ {w:World} {S:Foot} {A:Option Addr} {n c:Nat} {l:List Int} (h:RInts w S [.slice A n c] l) {k:Nat} (hk:k<l.length):
  ∃b o x,A=some ⟨b,o,none⟩∧S b∧l[k]? =some x∧w.cell? ⟨b,o+k,none⟩=some (.int .i64 x):=by
 obtain⟨b,o,x,es,rfl,hb,hx,h1,h2,h3⟩:=h.get hk
 refine⟨b,o,x,rfl,hb,hx,?_⟩
 cases h2
 simpa using h3 0 _ rfl
structure Stage where
 sec:Int
 pts:List Int
 mn:Int
 nt:Int
 deriving DecidableEq,Inhabited,Repr
structure Ref where
 tr:Int
 st:Int
 deriving DecidableEq,Inhabited,Repr
def Old (w:World):Foot:=fun b=>b<w.heap.size
def Fresh (w w':World):Foot:=fun b=>w.heap.size≤b∧b<w'.heap.size
structure Keeps (C:Foot) (w w':World):Prop where
 os:w'.os=w.os
 tape:w'.tape=w.tape
 output:w'.output=w.output
 size:w.heap.size≤w'.heap.size
 block:∀k,k<w.heap.size→¬C k→w'.heap[k]? =w.heap[k]?
theorem Keeps.refl (C:Foot) (w:World):Keeps C w w:=⟨rfl,rfl,rfl,Nat.le_refl _,fun _ _ _=>rfl⟩
theorem Keeps.trans {C C1:Foot} {a b c:World} (h:Keeps C a b) (k:Keeps C1 b c) (hc:∀x,x<a.heap.size→C1 x→C x):Keeps C a c:=
 ⟨k.os.trans h.os,k.tape.trans h.tape,k.output.trans h.output,Nat.le_trans h.size k.size,
  fun x hx hn=>(k.block x (Nat.lt_of_lt_of_le hx h.size) (fun e=>hn (hc x hx e))).trans (h.block x hx hn)⟩
theorem Keeps.mono {C C1:Foot} {a b:World} (h:Keeps C1 a b) (hc:∀x,x<a.heap.size→C1 x→C x):Keeps C a b:=
 (Keeps.refl C a).trans h hc
theorem Keeps.drew {C:Foot} {a b:World} (h:Keeps C a b):Keeps C a b.drew:=⟨h.os,h.tape,h.output,h.size,h.block⟩
theorem Keeps.drewN {C:Foot} {a b:World} (h:Keeps C a b) (n:Nat):Keeps C a (b.drewN n):=⟨h.os,h.tape,h.output,h.size,h.block⟩
theorem Keeps.alloc {C:Foot} {a b:World} (h:Keeps C a b) (o:Obj):Keeps C a (b.alloc o):=
 ⟨h.os,h.tape,h.output,Nat.le_trans h.size (by simp),fun i hi hn=>(Below.heap_alloc b o i (Nat.lt_of_lt_of_le hi h.size)).trans (h.block i hi hn)⟩
theorem Keeps.setCell {C:Foot} {a b:World} (h:Keeps C a b) {p:Addr} (hp:p.block<a.heap.size→C p.block) (u:Value):Keeps C a (b.setCell p u):=
 ⟨h.os,h.tape,h.output,by simpa[World.setCell]using h.size,fun i hi hn=>(Below.heap_setCell b p u i (by rintro rfl;exact hn (hp hi))).trans (h.block i hi hn)⟩
theorem Keeps.toBelow {C:Foot} {B:Nat} {a b:World} (h:Keeps C a b) (hB:B≤a.heap.size) (hc:∀x,x<B→¬C x):Below B a b:=
 ⟨h.os,h.tape,h.output,h.size,fun x hx=>h.block x (Nat.lt_of_lt_of_le hx hB) (hc x hx)⟩
theorem Keeps.cell {C:Foot} {a b:World} (h:Keeps C a b) {p:Addr} (hp:p.block<a.heap.size) (hn:¬C p.block):b.cell? p=a.cell? p:=World.cell?_of_block (h.block _ hp hn)
abbrev KeepsAll:=Keeps (fun _=>False)
theorem Keeps.rd {α:Type} {E:Rd α} (hE:Rd.Ok E) {C:Foot} {a b:World} (h:Keeps C a b) {S S':Foot} {cs:List Value} {x:α} (hr:E a S cs x) (hS:∀k,S k→k<a.heap.size∧¬C k) (hS':∀k,S k→S' k):E b S' cs x:=
 hE.mono hr hS' fun k hk=>h.block k (hS k hk).1 (hS k hk).2
structure Ext (w:World) where
 val:World
 keeps:KeepsAll w val
instance Ext.some_ (w:World):Nonempty (Ext w):=⟨⟨w,Keeps.refl _ w⟩⟩
theorem Ext.cell {w:World} {p:Addr} {v:Value} (h:w.cell? p=some v) (x:Ext w):x.val.cell? p=some v:=(x.keeps.cell (World.block_lt_of_cell? w p h) (by simp)).trans h
theorem ext_call {P:Program} {f:FuncId} {args:Array Value} {w:World} {v:Value} (x:Ext w)
  (h:Calls P f args x.val fun e w'=>e= .returned v∧KeepsAll x.val w'):Calls P f args x.val fun e w''=>e= .returned v∧∃y:Ext w,w''=y.val:=
 h.mono fun _ w' ⟨he,hk⟩=>⟨he,⟨w',x.keeps.trans hk (fun _ _ h=>h)⟩,rfl⟩
structure ExtC (C:Foot) (w:World) where
 val:World
 keeps:Keeps C w val
instance ExtC.some_ (C:Foot) (w:World):Nonempty (ExtC C w):=⟨⟨w,Keeps.refl _ w⟩⟩
theorem ExtC.cell {C:Foot} {w:World} {p:Addr} {v:Value} (h:w.cell? p=some v) (hn:¬C p.block) (x:ExtC C w):x.val.cell? p=some v:=(x.keeps.cell (World.block_lt_of_cell? w p h) hn).trans h
theorem ExtC.start (C:Foot) (w:World):∃x:ExtC C w,w.drew=x.val:=⟨⟨_,(Keeps.refl _ w).drew⟩,rfl⟩
theorem wp_region_ext {P:Program} {id:Nat} {Q:Exit→Act→World→Prop} {a:Act} {w:World} {l:List Oper} (hm:P.follows .mixedOrders=true) (hB:Region.lexB .any l.toArray=true)
  (h:wpQuiet P l.toArray (fun w'=>∃x:Ext w,w'=x.val) (fun a'=>∀w',(∃x:Ext w,w'=x.val)→Q .normal a' w') l a):(Code.region id l.toArray true).wp P Q a w:=
 wp_region_quiet (C:=fun w'=>∃x:Ext w,w'=x.val) hm hB ⟨⟨_,(Keeps.refl _ w).drew⟩,rfl⟩ (by simpa using h)
def Blk (w:World) (g:Nat) (t:TypeId) (cs:Array Value):Prop:=w.heap[g]? =some (.cells cs t (0,0))
section
variable {w w':World} {g:Nat} {t:TypeId} {cs:Array Value}
theorem Blk.lt (h:Blk w g t cs):g<w.heap.size:=by
 unfold Blk at h
 exact(Array.getElem?_eq_some_iff.1 h).1
theorem Blk.cell (h:Blk w g t cs) (i:Nat):w.cell? ⟨g,i,none⟩=cs[i]? :=by
 unfold Blk at h
 simp[World.cell?,h]
theorem Blk.frozen (h:Blk w g t cs) (i:Nat):w.frozen? ⟨g,i,none⟩=false:=by
 unfold Blk at h
 simp[World.frozen?,h]
theorem Blk.set_ (h:Blk w g t cs) (i:Nat) (u:Value):Blk (w.setCell ⟨g,i,none⟩ u) g t (cs.setIfInBounds i u):=by
 unfold Blk at h⊢
 simp[World.setCell,Array.getElem?_modify,h]
theorem Blk.far (h:Blk w g t cs) {p:Addr} (hp:g≠p.block) (u:Value):Blk (w.setCell p u) g t cs:=(Below.heap_setCell w p u g hp).trans h
theorem Blk.new (w:World) (t:TypeId) (cs:Array Value):Blk (w.alloc (.cells cs t)) w.heap.size t cs:=heap_alloc_new w _
theorem Blk.new' (w:World) (t:TypeId) (cs:Array Value) {g:Nat} (hg:g=w.heap.size):Blk (w.alloc (.cells cs t)) g t cs:=by subst hg;exact Blk.new w t cs
theorem Blk.alloc (h:Blk w g t cs) (o:Obj):Blk (w.alloc o) g t cs:=(Below.heap_alloc w o g h.lt).trans h
theorem Blk.kept {C:Foot} (h:Blk w g t cs) (k:Keeps C w w') (hn:¬C g):Blk w' g t cs:=(k.block g h.lt hn).trans h
end
theorem quiet_left {P:Program} {f:FuncId} {args:Array Value} {w:World} {n:Nat} {v:Value}
  (h:Calls P f args (w.drewN n) fun e w'=>e= .returned v∧w.drewN n=w'):Calls P f args (w.drewN n) fun e w''=>e= .returned v∧∃m,w''=w.drewN m:=
 h.mono fun _ _ ⟨he,hm⟩=>⟨he,n,hm.symm⟩
end
section
open Go.RowKit
def actOp:Op→Bool
 | .move _| .assign _| .pick .. | .build .. | .load .. | .nilCheck _| .binOp .. | .unOp .. | .convert .. | .slice .. | .fieldAddr .. | .field .. | .indexAddr .. | .index .. | .lookup .. | .extract .. =>false
 | .call c=>match c.callee with| .builtin .len| .builtin .cap| .builtin .min| .builtin .max=>false|_=>true
 |_=>true
def actAt (l:List Oper) (i:Nat):Bool:=match l[i]? with|some o=>actOp o.op|none=>true
def maskOf (ms:List Nat) (o:Oper):Nat:=o.after.toList.foldl (fun m e=>if Region.binds .any e then m|||((1<<<e.on)|||ms.getD e.on 0)else m) 0
def masks:List Oper→List Nat→List Nat
 | [],ms=>ms
 |o::r,ms=>masks r (ms++ [maskOf ms o])
def waits (ms:List Nat) (j i:Nat):Bool:=(ms.getD j 0).testBit i
def pairOk (l:List Oper) (ms:List Nat) (i j:Nat):Bool:=
 !waits ms i j&&(waits ms j i||(!actAt l i&&match l[i]?,l[j]? with|some x,some y=>x.apart l.toArray y|_,_=>false))
def pairsOk (l:List Oper) (ms:List Nat):List Nat→Bool
 | []=>true
 |i::r=>r.all (pairOk l ms i)&&pairsOk l ms r
def nodupB:List Nat→Bool
 | []=>true
 |i::r=> !r.contains i&&nodupB r
def needF (l:List Oper) (ms:List Nat):List Nat→List Nat→Nat→Bool
 |_,[],_=>true
 |bef,i::r,j=>if i==j then bef.any (fun k=> !waits ms j k)||r.any (fun k=> !actAt l k)else needF l ms (i::bef) r j
section
variable {P:Program} {ops:Array Oper} {Q:Exit→Act→World→Prop} {C:World→Prop} {act need:Nat→Bool}
def wpLex (P:Program) (ops:Array Oper) (Q:Exit→Act→World→Prop) (C:World→Prop) (act need:Nat→Bool):List Nat→Act→World→Prop
 | [],a,w=>Q .normal a w
 |i::r,a,w=>if act i=true then wpOp P ops Q i (fun a' w'=>(need i=true→C w')∧wpLex P ops Q C act need r a' w') a w
  else∃oi v,ops[i]? =some oi∧YieldsIf P ops C oi v a∧wpLex P ops Q C act need r (a.put oi.dst v) w
theorem wpLex_pull (hsel:∀(j:Nat) (o:Oper) cs b,ops[j]? =some o→o.op≠ .select cs b) (hQ:∀c a w,¬Q (.panic c) a w) (i:Nat) (post:List Nat):
  ∀(pre:List Nat) (a:Act) (w:World),(∀k∈pre,act k=false∧∀ok oi,ops[k]? =some ok→ops[i]? =some oi→ok.apart ops oi=true)→(pre≠ []→need i=true)→(act i=false∨pre≠ []→C w)→
   (act i=true→∃oi,ops[i]? =some oi)→wpLex P ops Q C act need (pre++i::post) a w→wpOp P ops Q i (fun a' w'=>(act i=true→need i=true→C w')∧(act i=false→w'=w)∧wpLex P ops Q C act need (pre++post) a' w') a w:=by
 intro pre
 induction pre with
 |nil=>
  intro a w _ _ hC _ h
  simp only[List.nil_append,wpLex]at h⊢
  by_cases ha:act i=true
  ·rw[if_pos ha]at h
   exact wpOp_mono (fun a' w' h=>⟨fun _ hn=>h.1 hn,fun hf=>(by rw[ha]at hf;cases hf),h.2⟩) h
  ·rw[if_neg ha]at h
   obtain⟨oi,v,hoi,hy,hr⟩:=h
   have hf:act i=false:=by simpa using ha
   exact hy.wpOp hoi (hC (.inl hf)) ⟨fun e=>(by rw[hf]at e;cases e),fun _=>rfl,hr⟩
 |cons k pre ih=>
  intro a w hpre hneed hC hex h
  obtain⟨hk,hap⟩:=hpre k (by simp)
  have hk':¬act k=true:=by simp[hk]
  simp only[List.cons_append,wpLex]at h⊢
  rw[if_neg hk']at h
  obtain⟨ok,u,hok,hyk,hr⟩:=h
  have hn:need i=true:=hneed (by simp)
  have hCw:C w:=hC (.inr (by simp))
  have h2:=ih (a.put ok.dst u) w (fun x hx=>hpre x (by simp[hx])) (fun _=>hn) (fun _=>hCw) hex hr
  by_cases hoi:∃oi,ops[i]? =some oi
  ·obtain⟨oi,hoi⟩:=hoi
   have h3:=wpOp_putIf (S:=C) hoi (hap ok oi hok hoi) (fun cs b=>hsel k ok cs b hok) (fun cs b=>hsel i oi cs b hoi) (fun c a w hq=>absurd hq (hQ c _ w)) hyk h2
   refine wpOp_mono (fun a' w' h=>⟨h.2.1,h.2.2.1,?_⟩) h3
   rw[if_neg hk']
   exact⟨ok,u,hok,h.1,h.2.2.2⟩
  ·have hnone:ops[i]? =none:=by
    cases e:ops[i]? with
    |none=>rfl
    |some o=>exact absurd ⟨o,e⟩ hoi
   unfold wpOp at h2⊢
   simp only[hnone]at h2⊢
   have haf:act i=false:=by
    cases e:act i with
    |false=>rfl
    |true=>exact absurd (hex e) hoi
   refine⟨h2.1,h2.2.1,?_⟩
   rw[if_neg hk']
   exact⟨ok,u,hok,hyk,h2.2.2⟩
end
theorem testBit_foldl (ms:List Nat) (i:Nat):∀(es:List Edge) (m:Nat),(es.foldl (fun m e=>if Region.binds .any e then m|||((1<<<e.on)|||ms.getD e.on 0)else m) m).testBit i=true→
  m.testBit i=true∨∃e∈es,Region.binds .any e=true∧(e.on=i∨(ms.getD e.on 0).testBit i=true)
 | [],m,h=> .inl h
 |e::es,m,h=>by
  simp only[List.foldl_cons]at h
  rcases testBit_foldl ms i es _ h with h1|⟨e',he',hb,hh⟩
  ·by_cases hb:Region.binds .any e=true
   ·rw[if_pos hb]at h1
    simp only[Nat.testBit_or,Bool.or_eq_true]at h1
    rcases h1 with h1|h1|h1
    ·exact .inl h1
    ·refine .inr ⟨e,by simp,hb,.inl ?_⟩
     rw[Nat.one_shiftLeft,Nat.testBit_two_pow]at h1
     simpa using h1
    ·exact .inr ⟨e,by simp,hb,.inr h1⟩
   ·rw[if_neg hb]at h1;exact .inl h1
  ·exact .inr ⟨e',by simp[he'],hb,hh⟩
theorem masks_take:∀(l:List Oper) (ms:List Nat) (k:Nat),k<ms.length→(masks l ms)[k]? =ms[k]?
 | [],ms,k,_=>rfl
 |o::r,ms,k,h=>by
  rw[masks,masks_take r (ms++ [maskOf ms o]) k (by simp;omega),List.getElem?_append_left h]
theorem masks_at:∀(l:List Oper) (ms:List Nat) (k:Nat) (o:Oper),l[k]? =some o→∃pre,(masks l ms)[ms.length+k]? =some (maskOf pre o)∧∀i,i<ms.length+k→pre.getD i 0=(masks l ms).getD i 0
 | [],ms,k,o,h=>by simp at h
 |x::r,ms,0,o,h=>by
  simp at h;subst h
  refine⟨ms,?_,fun i hi=> ?_⟩
  ·rw[masks,masks_take r _ _ (by simp)];simp
  ·have:=masks_take (x::r) ms i (by simpa using hi)
   rw[List.getD_eq_getElem?_getD,List.getD_eq_getElem?_getD,this]
 |x::r,ms,k+1,o,h=>by
  obtain⟨pre,h1,h2⟩:=masks_at r (ms++ [maskOf ms x]) k o (by simpa using h)
  refine⟨pre,?_,fun i hi=> ?_⟩
  ·rw[masks];rw[←h1];congr 1;simp;omega
  ·rw[masks];exact h2 i (by simp;omega)
theorem pairsOk_sub {l:List Oper} {ms:List Nat}:∀(pi:List Nat) (i j:Nat),pairsOk l ms pi=true→List.Sublist [i,j] pi→pairOk l ms i j=true
 | [],i,j,_,h=>by simp at h
 |k::r,i,j,h,hs=>by
  simp only[pairsOk,Bool.and_eq_true]at h
  cases hs with
  |cons _ hs=>exact pairsOk_sub r i j h.2 hs
  |cons_cons _ hs=>exact List.all_eq_true.1 h.1 j (List.singleton_sublist.1 hs)
theorem nodupB_iff:∀(l:List Nat),nodupB l=true↔l.Nodup
 | []=>by simp[nodupB]
 |i::r=>by simp[nodupB,nodupB_iff r]
theorem needF_ok {l:List Oper} {ms:List Nat}:∀(pi bef:List Nat),(∀x∈bef,x∉pi)→pi.Nodup→∀pre j post,pi=pre++j::post→
  ((∃i,(i∈bef∨i∈pre)∧waits ms j i=false)∨∃i∈post,actAt l i=false)→needF l ms bef pi j=true
 | [],bef,_,_,pre,j,post,h,_=>by simp at h
 |i::r,bef,hb,hn,[],j,post,h,hh=>by
  simp only[List.nil_append,List.cons.injEq]at h
  obtain⟨rfl,rfl⟩:=h
  simp only[needF,beq_self_eq_true,if_true,Bool.or_eq_true,List.any_eq_true]
  rcases hh with⟨k,hk,hw⟩|⟨k,hk,hw⟩
  ·rcases hk with hk|hk
   ·exact .inl ⟨k,hk,by simp[hw]⟩
   ·simp at hk
  ·exact .inr ⟨k,hk,by simp[hw]⟩
 |i::r,bef,hb,hn,k::pre,j,post,h,hh=>by
  simp only[List.cons_append,List.cons.injEq]at h
  obtain⟨rfl,rfl⟩:=h
  have hne:¬i=j:=by
   rintro rfl
   have:=(List.nodup_cons.1 hn).1
   simp at this
  simp only[needF]
  rw[if_neg (by simpa using hne)]
  refine needF_ok (pre++j::post) (i::bef) ?_ (List.nodup_cons.1 hn).2 pre j post rfl ?_
  ·intro x hx
   rcases List.mem_cons.1 hx with rfl|hx
   ·exact(List.nodup_cons.1 hn).1
   ·exact fun h=>hb x hx (by simp[h])
  ·rcases hh with⟨x,hx,hw⟩|hh
   ·refine .inl ⟨x,?_,hw⟩
    rcases hx with hx|hx
    ·exact .inl (by simp[hx])
    ·rcases List.mem_cons.1 hx with rfl|hx
     ·exact .inl (by simp)
     ·exact .inr hx
   ·exact .inr hh
theorem sub_split {i j:Nat}:∀(pi:List Nat),List.Sublist [i,j] pi→∃pre m post,pi=pre++i::m++j::post
 | [],h=>by simp at h
 |k::r,h=>by
  cases h with
  |cons _ h=>obtain⟨pre,m,post,rfl⟩:=sub_split r h;exact⟨k::pre,m,post,rfl⟩
  |cons_cons _ h=>
   obtain⟨m,post,rfl⟩:=List.append_of_mem (List.singleton_sublist.1 h)
   exact⟨[],m,post,rfl⟩
theorem waits_edge {l:List Oper} {j:Nat} {o:Oper} (ho:l[j]? =some o) {e:Edge} (he:e∈o.after) (hb:Region.binds .any e=true):waits (masks l []) j e.on=true:=by
 obtain⟨pre,h1,_⟩:=masks_at l [] j o ho
 simp only[List.length_nil,Nat.zero_add]at h1
 unfold waits
 rw[List.getD_eq_getElem?_getD,h1]
 have mono:∀(es:List Edge) (m:Nat),m.testBit e.on=true→(es.foldl (fun m e=>if Region.binds .any e then m|||((1<<<e.on)|||pre.getD e.on 0)else m) m).testBit e.on=true:=by
  intro es
  induction es with
  |nil=>intro m h;exact h
  |cons x es ih=>
   intro m h
   simp only[List.foldl_cons]
   apply ih
   split
   ·simp[Nat.testBit_or,h]
   ·exact h
 have hit:∀(es:List Edge) (m:Nat),e∈es→(es.foldl (fun m e=>if Region.binds .any e then m|||((1<<<e.on)|||pre.getD e.on 0)else m) m).testBit e.on=true:=by
  intro es
  induction es with
  |nil=>intro m h;simp at h
  |cons x es ih=>
   intro m h
   simp only[List.foldl_cons]
   rcases List.mem_cons.1 h with rfl|h
   ·apply mono
    rw[if_pos hb,Nat.testBit_or,Nat.testBit_or,Nat.one_shiftLeft,Nat.testBit_two_pow]
    simp
   ·exact ih _ h
 exact hit _ 0 (by simpa using he)
section
variable {P:Program} {l:List Oper} {Q:Exit→Act→World→Prop} {C:World→Prop} {need:Nat→Bool}
theorem getD_flip {listed:Array Bool} {j:Nat} (hj:j<listed.size):(listed.getD j true=false)↔¬(listed.getD j false=true):=by
 simp[Array.getD_eq_getD_getElem?,hj]
end
theorem run_v {P:Program} {s:Sem Value} {w w':World} {n:Next} (h:(do pure (Next.value (←s)):Sem Next).run P w= .ok n w'):∃u,n= .value u:=by
 simp only[Sem.run_bind]at h
 cases e:s.run P w with
 |ok u w1=>rw[e]at h;simp at h;exact⟨u,h.1.symm⟩
 |halt x w1=>rw[e]at h;simp[Result.andThen]at h
theorem exec_value {P:Program} {o:Oper} {ρ:Operand→Value} {w w':World} {n:Next} (ha:actOp o.op=false) (hn:∀x,o.op≠ .nilCheck x) (h:(execOp ρ o).run P w= .ok n w'):∃u,n= .value u:=by
 unfold execOp at h
 cases e:o.op<;>rw[e]at h ha<;>first|(simp[actOp]at ha;done)|(exact run_v h)|(simp at h;exact⟨_,h.1.symm⟩)|skip
 case nilCheck x=>exact absurd e (hn x)
 case pick c a b=>
  simp only[Sem.run_bind]at h
  cases e2:(asBool (ρ c)).run P w with
  |ok u w1=>rw[e2]at h;simp at h;exact⟨_,h.1.symm⟩
  |halt x w1=>rw[e2]at h;simp[Result.andThen]at h
 case call c=>
  simp only[actOp]at ha
  cases e2:c.callee with
  |value f=>rw[e2]at ha;simp at ha
  |invoke r m=>rw[e2]at ha;simp at ha
  |builtin b=>
   rw[e2]at ha
   simp only[resolve,e2,Sem.run_bind,Sem.run_pure,Result.andThen_ok,invoke]at h
   cases b<;>simp at ha<;>exact run_v h
theorem exec_nil {P:Program} {o:Oper} {a:Act} {x:Operand} {ad:Addr} (hx:o.op= .nilCheck x) (he:a.eval x= .pointer (some ad)) (w:World):(execOp a.eval o).run P w= .ok (.value (.pointer (some ad))) w:=by
 unfold execOp;rw[hx];simp[he]
section
variable {P:Program} {Q:Exit→Act→World→Prop} {C:World→Prop} {l:List Oper} {need:Nat→Bool}
theorem lex_q {i:Nat} {r:List Nat} {a:Act} {w:World} (o:Oper) (ho:l[i]? =some o) (ha:actOp o.op=false) (hn:(match o.op with| .nilCheck _=>true|_=>false)=false)
  (h:wpQuiet P l.toArray C (fun a'=>wpLex P l.toArray Q C (actAt l) need r a' w) [o] a):wpLex P l.toArray Q C (actAt l) need (i::r) a w:=by
 have haf:actAt l i=false:=by simp[actAt,ho,ha]
 simp only[wpLex,haf]
 rw[if_neg (by simp)]
 simp only[wpQuiet]at h
 by_cases hw:Region.wanted o (yielded l.toArray a.tmps)=true
 ·rw[if_pos hw]at h
  obtain⟨v,h1,h2⟩:=h
  refine⟨o,v,by simpa using ho,.inl ⟨hw,fun w' hw'=> ?_⟩,h2⟩
  have h3:=h1 w' hw'
  unfold Oper.quietAt at h3
  cases e:(execOp a.eval o).run P w' with
  |halt x w1=>rw[e]at h3;simp[Oper.quietUpon]at h3
  |ok n w1=>
   obtain⟨u,rfl⟩:=exec_value ha (fun x hx=>by rw[hx]at hn;simp at hn) e
   rw[e]at h3
   simp only[Oper.quietUpon]at h3
   rw[h3.1,h3.2]
 ·rw[if_neg hw]at h
  exact⟨o,undef,by simpa using ho,.inr ⟨by simpa using hw,rfl⟩,h⟩
theorem lex_nil {i:Nat} {r:List Nat} {a:Act} {w:World} (o:Oper) (ho:l[i]? =some o) (x:Operand) (hx:o.op= .nilCheck x) (hg:o.guard=none) (ad:Addr) (he:a.eval x= .pointer (some ad))
  (h:wpLex P l.toArray Q C (actAt l) need r (a.put o.dst (.pointer (some ad))) w):wpLex P l.toArray Q C (actAt l) need (i::r) a w:=by
 have haf:actAt l i=false:=by simp[actAt,ho,hx,actOp]
 simp only[wpLex,haf]
 rw[if_neg (by simp)]
 exact⟨o,_,by simpa using ho,.inl ⟨by simp[Region.wanted,hg],fun w' _=>exec_nil hx he w'⟩,h⟩
def lexPost (b:Bool) (C:World→Prop) (K:Act→World→Prop):Exit→Act→World→Prop
 | .normal,a,w=>(b=true→C w)∧K a w
 |_,_,_=>False
theorem lex_a {i:Nat} {r:List Nat} {a:Act} {w:World} (o:Oper) (ho:l[i]? =some o) (ha:actOp o.op=true) (b:Bool) (hb:need i=b)
  (h:wpList P l.toArray (lexPost b C (wpLex P l.toArray Q C (actAt l) need r)) [o] a w):wpLex P l.toArray Q C (actAt l) need (i::r) a w:=by
 subst hb
 have hQ:LetsOut (lexPost (need i) C (wpLex P l.toArray Q C (actAt l) need r))→LetsOut Q:=fun⟨_,_,h⟩=>h.elim
 have haf:actAt l i=true:=by simp[actAt,ho,ha]
 simp only[wpLex,haf,if_true]
 unfold wpOp
 simp only[List.getElem?_toArray,ho]
 simp only[wpList]at h
 by_cases hw:Region.wanted o (yielded l.toArray a.tmps)=true
 ·rw[if_pos hw]at h⊢
  rcases h with h|⟨h1,h2⟩
  ·refine .inl ?_
   unfold Oper.wp at h⊢
   generalize (execOp a.eval o).run P w=res at h⊢
   cases res with
   |ok n w'=>
    cases n<;>simp only[Oper.upon]at h⊢
    case value u=>exact h
    case skip=>exact h
    case defer d=>exact h
    case enter f args=>
     refine Calls.mono h fun e w'' he=> ?_
     cases e with
     |returned u=>exact he
     |panicked c=>exact he.elim
     |outgrown=>exact hQ he
    case row row args=>exact h
   |halt x w'=>
    cases x<;>simp only[Oper.upon]at h⊢
    case panic u=>exact h.elim
  ·exact .inr ⟨h1,hQ h2⟩
 ·rw[if_neg hw]at h⊢
  exact h
end
end
section
open Go.RowKit
section
variable {P:Program} {ops:Array Oper} {Q:Exit→Act→World→Prop} {K:Act→World→Prop} {C:World→Prop} {act need:Nat→Bool}
def wpLexK (P:Program) (ops:Array Oper) (Q:Exit→Act→World→Prop) (K:Act→World→Prop) (C:World→Prop) (act need:Nat→Bool):List Nat→Act→World→Prop
 | [],a,w=>K a w
 |i::r,a,w=>if act i=true then wpOp P ops Q i (fun a' w'=>(need i=true→C w')∧wpLexK P ops Q K C act need r a' w') a w
  else∃oi v,ops[i]? =some oi∧YieldsIf P ops C oi v a∧wpLexK P ops Q K C act need r (a.put oi.dst v) w
theorem wpLexK_pull (hsel:∀(j:Nat) (o:Oper) cs b,ops[j]? =some o→o.op≠ .select cs b) (hQ:∀c a w,¬Q (.panic c) a w) (i:Nat) (post:List Nat):
  ∀(pre:List Nat) (a:Act) (w:World),(∀k∈pre,act k=false∧∀ok oi,ops[k]? =some ok→ops[i]? =some oi→ok.apart ops oi=true)→(pre≠ []→need i=true)→(act i=false∨pre≠ []→C w)→
   (act i=true→∃oi,ops[i]? =some oi)→wpLexK P ops Q K C act need (pre++i::post) a w→wpOp P ops Q i (fun a' w'=>(act i=true→need i=true→C w')∧(act i=false→w'=w)∧wpLexK P ops Q K C act need (pre++post) a' w') a w:=by
 intro pre
 induction pre with
 |nil=>
  intro a w _ _ hC _ h
  simp only[List.nil_append,wpLexK]at h⊢
  by_cases ha:act i=true
  ·rw[if_pos ha]at h
   exact wpOp_mono (fun a' w' h=>⟨fun _ hn=>h.1 hn,fun hf=>(by rw[ha]at hf;cases hf),h.2⟩) h
  ·rw[if_neg ha]at h
   obtain⟨oi,v,hoi,hy,hr⟩:=h
   have hf:act i=false:=by simpa using ha
   exact hy.wpOp hoi (hC (.inl hf)) ⟨fun e=>(by rw[hf]at e;cases e),fun _=>rfl,hr⟩
 |cons k pre ih=>
  intro a w hpre hneed hC hex h
  obtain⟨hk,hap⟩:=hpre k (by simp)
  have hk':¬act k=true:=by simp[hk]
  simp only[List.cons_append,wpLexK]at h⊢
  rw[if_neg hk']at h
  obtain⟨ok,u,hok,hyk,hr⟩:=h
  have hn:need i=true:=hneed (by simp)
  have hCw:C w:=hC (.inr (by simp))
  have h2:=ih (a.put ok.dst u) w (fun x hx=>hpre x (by simp[hx])) (fun _=>hn) (fun _=>hCw) hex hr
  by_cases hoi:∃oi,ops[i]? =some oi
  ·obtain⟨oi,hoi⟩:=hoi
   have h3:=wpOp_putIf (S:=C) hoi (hap ok oi hok hoi) (fun cs b=>hsel k ok cs b hok) (fun cs b=>hsel i oi cs b hoi) (fun c a w hq=>absurd hq (hQ c _ w)) hyk h2
   refine wpOp_mono (fun a' w' h=>⟨h.2.1,h.2.2.1,?_⟩) h3
   rw[if_neg hk']
   exact⟨ok,u,hok,h.1,h.2.2.2⟩
  ·have hnone:ops[i]? =none:=by
    cases e:ops[i]? with
    |none=>rfl
    |some o=>exact absurd ⟨o,e⟩ hoi
   unfold wpOp at h2⊢
   simp only[hnone]at h2⊢
   have haf:act i=false:=by
    cases e:act i with
    |false=>rfl
    |true=>exact absurd (hex e) hoi
   refine⟨h2.1,h2.2.1,?_⟩
   rw[if_neg hk']
   exact⟨ok,u,hok,hyk,h2.2.2⟩
end
def edgesBackB (l:List Oper):Bool:=(List.range l.length).all fun j=>match l[j]? with|some o=>o.after.toList.all (fun e=> !Region.binds .any e||decide (e.on<j))|none=>true
def piOkB (l:List Oper) (pi:List Nat):Bool:=
 Region.noSelect l.toArray&&(pi.length==l.length)&&nodupB pi&&pi.all (fun i=>decide (i<l.length))&&(List.range l.length).all (fun i=>pi.contains i)&&pairsOk l (masks l []) pi&&edgesBackB l
theorem waits_listedB {l:List Oper} (hb:edgesBackB l=true) {L:Nat→Prop} (hL:∀(j:Nat) (o:Oper),l[j]? =some o→L j→∀e∈o.after,Region.binds .any e=true→L e.on):
  ∀(n j:Nat) (o:Oper),j<n→l[j]? =some o→(∀e∈o.after,Region.binds .any e=true→L e.on)→∀i,waits (masks l []) j i=true→L i
 |0,j,o,h,_,_,_,_=>by omega
 |n+1,j,o,hj,ho,he,i,hw=>by
  obtain⟨pre,h1,h2⟩:=masks_at l [] j o ho
  simp only[List.length_nil,Nat.zero_add]at h1 h2
  have hbk:o.after.toList.all (fun e=> !Region.binds .any e||decide (e.on<j))=true:=by
   have:=List.all_eq_true.1 hb j (List.mem_range.2 (List.getElem?_eq_some_iff.1 ho).1)
   simpa[ho]using this
  unfold waits at hw
  rw[List.getD_eq_getElem?_getD,h1]at hw
  rcases testBit_foldl pre i _ 0 hw with h0|⟨e,hem,hbd,hh⟩
  ·simp at h0
  ·have hej:e.on<j:=by
    have h7:=List.all_eq_true.1 hbk e hem
    rw[hbd]at h7
    simpa using h7
   have hLe:=he e (by simpa using hem) hbd
   rcases hh with rfl|hh
   ·exact hLe
   ·rw[h2 e.on hej]at hh
    have hlt:e.on<l.length:=by have:=(List.getElem?_eq_some_iff.1 ho).1;omega
    exact waits_listedB hb hL n e.on l[e.on] (by omega) (List.getElem?_eq_getElem hlt) (fun e' he' hb'=>hL e.on _ (List.getElem?_eq_getElem hlt) hLe e' he' hb') i hh
theorem waits_ltB {l:List Oper} (hb:edgesBackB l=true) {j i:Nat} {o:Oper} (ho:l[j]? =some o) (h:waits (masks l []) j i=true):i<j:=by
 have hE:∀(k:Nat) (o:Oper),l[k]? =some o→∀e∈o.after,Region.binds .any e=true→e.on<k:=fun k o hk e he hbd=>by
  have:=List.all_eq_true.1 hb k (List.mem_range.2 (List.getElem?_eq_some_iff.1 hk).1)
  simp only[hk]at this
  have h7:=List.all_eq_true.1 this e (by simpa using he)
  rw[hbd]at h7
  simpa using h7
 exact waits_listedB hb (L:=fun k=>k<j) (fun k o hk hkj e he hbd=>Nat.lt_trans (hE k o hk e he hbd) hkj) (j+1) j o (by omega) ho (fun e he hbd=>hE j o ho e he hbd) i h
section
variable {P:Program} {l:List Oper} {Q:Exit→Act→World→Prop} {C:World→Prop} {need:Nat→Bool}
theorem lex_anyB (hsel:∀(j:Nat) (o:Oper) cs b,l.toArray[j]? =some o→o.op≠ .select cs b) (hQ:∀c a w,¬Q (.panic c) a w) (hb:edgesBackB l=true) (pi:List Nat)
  (hpair:∀i j,List.Sublist [i,j] pi→pairOk l (masks l []) i j=true) (hneed1:∀i j,List.Sublist [i,j] pi→waits (masks l []) j i=false→need j=true)
  (hneed2:∀i j,List.Sublist [j,i] pi→actAt l i=false→need j=true):
  ∀(fuel:Nat) (r:List Nat) (listed:Array Bool) (a:Act) (w:World),r.length=fuel→List.Sublist r pi→r.Nodup→(∀j,j<l.length→(j∈r↔listed.getD j true=false))→(∀j∈r,j<l.length)→listed.size=l.length→
    (∀(j:Nat) (o:Oper),l[j]? =some o→listed.getD j false=true→∀e∈o.after,Region.binds .any e=true→listed.getD e.on false=true)→
    ((∃i∈r,actAt l i=false)→C w)→wpLex P l.toArray Q C (actAt l) need r a w→wpAny P .any l.toArray Q fuel listed a w:=by
 intro fuel
 induction fuel with
 |zero=>
  intro r listed a w hlen _ _ hmem _ _ _ _ h
  have:r=[]:=List.eq_nil_of_length_eq_zero hlen
  subst this
  refine⟨?_,h⟩
  apply List.eq_nil_iff_forall_not_mem.2
  intro j hj
  obtain⟨h0,o,ho,_⟩:=mem_ready.1 hj
  have hjl:j<l.length:=by
    have:=(Array.getElem?_eq_some_iff.1 ho).1;simpa using this
  simpa using (hmem j hjl).2 h0
 |succ fuel ih=>
  intro r listed a w hlen hsub hnd hmem hrl hsz hdown hC h
  refine⟨fun hempty=> ?_,fun j hj=> ?_⟩
  ·
    exfalso
    cases r with
    |nil=>simp at hlen
    |cons i r'=>
     have hil:=hrl i (by simp)
     have hi0:=(hmem i hil).1 (by simp)
     have:i∈Region.ready .any l.toArray listed:=by
      refine mem_ready.2 ⟨hi0,l[i],by simp[hil],fun e he hbd=> ?_⟩
      have hw:=waits_edge (List.getElem?_eq_getElem hil) he hbd
      have hlt:e.on<i:=waits_ltB hb (List.getElem?_eq_getElem hil) hw
      apply Classical.byContradiction
      intro hn
      have hin:e.on∈i::r':=(hmem e.on (by omega)).2 ((getD_flip (by omega)).2 hn)
      have hin':e.on∈r':=by
       rcases List.mem_cons.1 hin with h'|h'
       ·omega
       ·exact h'
      have hp:=hpair i e.on ((List.Sublist.cons_cons i (List.singleton_sublist.2 hin')).trans hsub)
      simp only[pairOk,Bool.and_eq_true]at hp
      simp[hw]at hp
     rw[hempty]at this
     simp at this
  · obtain⟨h0,o,ho,hall⟩:=mem_ready.1 hj
    have hjl:j<l.length:=by
     have:=(Array.getElem?_eq_some_iff.1 ho).1;simpa using this
    have ho':l[j]? =some o:=by simpa using ho
    have hjr:=(hmem j hjl).2 h0
    obtain⟨pre,post,rfl⟩:=List.append_of_mem hjr
    have hwl:=waits_listedB hb (L:=fun k=>listed.getD k false=true) hdown (j+1) j o (by omega) ho' hall
    have hpre:∀k∈pre,waits (masks l []) j k=false∧actAt l k=false∧∀ok oi,l.toArray[k]? =some ok→l.toArray[j]? =some oi→ok.apart l.toArray oi=true:=by
     intro k hk
     have hkl:=hrl k (by simp[hk])
     have hk0:=(hmem k hkl).1 (by simp[hk])
     have hnw:waits (masks l []) j k=false:=by
      cases e:waits (masks l []) j k with
      |false=>rfl
      |true=>exact absurd (hwl k e) ((getD_flip (by omega)).1 hk0)
     have hs2:List.Sublist [k,j] (pre++j::post):=(List.singleton_sublist.2 hk).append (List.singleton_sublist.2 (by simp))
     have hp:=hpair k j (hs2.trans hsub)
     simp only[pairOk,hnw,Bool.and_eq_true,Bool.false_or]at hp
     refine⟨hnw,by simpa using hp.2.1,fun ok oi h1 h2=> ?_⟩
     have h3:=hp.2.2
     simp only[List.getElem?_toArray]at h1 h2
     rw[h1,h2]at h3
     exact h3
    have hn:pre≠ []→need j=true:=by
     intro hne
     obtain⟨k,hk⟩:=List.exists_mem_of_ne_nil _ hne
     have hs2:List.Sublist [k,j] (pre++j::post):=(List.singleton_sublist.2 hk).append (List.singleton_sublist.2 (by simp))
     exact hneed1 k j (hs2.trans hsub) (hpre k hk).1
    have h1:=wpLex_pull (act:=actAt l) hsel hQ j post pre a w (fun k hk=>(hpre k hk).2) hn (fun hor=>hC (by
     rcases hor with h'|h'
     ·exact⟨j,by simp,h'⟩
     ·obtain⟨k,hk⟩:=List.exists_mem_of_ne_nil _ h'
      exact⟨k,by simp[hk],(hpre k hk).2.1⟩)) (fun _=>⟨o,ho⟩) h
    refine wpOp_mono (fun a' w' hh=> ?_) h1
    have hsub':List.Sublist (pre++post) (pre++j::post):=(List.Sublist.refl pre).append (List.sublist_cons_self j post)
    have hjn:j∉pre++post:=by
     have h3:=List.nodup_append.1 hnd
     intro hx
     rcases List.mem_append.1 hx with hx|hx
     ·exact h3.2.2 j hx j (by simp) rfl
     ·exact(List.nodup_cons.1 h3.2.1).1 hx
    refine ih (pre++post) (listed.setIfInBounds j true) a' w' (by simp at hlen⊢;omega) (hsub'.trans hsub) (hnd.sublist hsub') ?_ (fun k hk=>hrl k (hsub'.subset hk)) (by simpa using hsz) ?_ ?_ hh.2.2
    ·intro k hk
     by_cases hjk:j=k
     ·subst hjk
      have:(listed.setIfInBounds j true).getD j true=true:=by simp[Array.getD_eq_getD_getElem?,hsz,hjl]
      rw[this]
      exact⟨fun hx=>absurd hx hjn,fun hx=>by cases hx⟩
     ·rw[getD_set_ne true hjk,←hmem k hk]
      constructor
      ·intro hx;exact hsub'.subset hx
      ·intro hx
       rcases List.mem_append.1 hx with hx|hx
       ·exact List.mem_append_left _ hx
       ·rcases List.mem_cons.1 hx with hx|hx
        ·exact absurd hx.symm hjk
        ·exact List.mem_append_right _ hx
    ·intro k ok hok hlk e he hbd
     by_cases hjk:j=k
     ·subst hjk
      rw[ho']at hok
      injection hok with hok
      subst hok
      exact getD_set_true (hall e he hbd)
     ·rw[getD_set_ne false hjk]at hlk
      exact getD_set_true (hdown k ok hok hlk e he hbd)
    ·rintro⟨i,hi,hia⟩
     by_cases hja:actAt l j=true
     ·refine hh.1 hja ?_
      rcases List.mem_append.1 hi with hi|hi
      ·exact hn (fun e=>by subst e;simp at hi)
      ·have hs2:List.Sublist [j,i] (pre++j::post):=((List.Sublist.cons_cons j (List.singleton_sublist.2 hi))).trans (List.sublist_append_right pre (j::post))
       exact hneed2 i j (hs2.trans hsub) hia
     ·have hjf:actAt l j=false:=by simpa using hja
      rw[hh.2.1 hjf]
      exact hC ⟨j,by simp,hjf⟩
end
section
variable {P:Program} {l:List Oper} {Q:Exit→Act→World→Prop} {K:Act→World→Prop} {C:World→Prop} {need:Nat→Bool}
theorem lex_anyK (hsel:∀(j:Nat) (o:Oper) cs b,l.toArray[j]? =some o→o.op≠ .select cs b) (hQ:∀c a w,¬Q (.panic c) a w) (hb:edgesBackB l=true) (pi1 pi2:List Nat)
  (hpair:∀i j,List.Sublist [i,j] pi1→pairOk l (masks l []) i j=true) (hphase:∀j∈pi2,∀i∈pi1,waits (masks l []) j i=true) (h2l:∀j∈pi2,j<l.length) (hneed1:∀i j,List.Sublist [i,j] pi1→waits (masks l []) j i=false→need j=true)
  (hneed2:∀i j,List.Sublist [j,i] pi1→actAt l i=false→need j=true):
  ∀(r:List Nat) (listed:Array Bool) (a:Act) (w:World),List.Sublist r pi1→(r++pi2).Nodup→(∀j,j<l.length→(j∈r++pi2↔listed.getD j true=false))→(∀j∈r,j<l.length)→listed.size=l.length→
   (∀(j:Nat) (o:Oper),l[j]? =some o→listed.getD j false=true→∀e∈o.after,Region.binds .any e=true→listed.getD e.on false=true)→
   ((∃i∈r,actAt l i=false)→C w)→wpLexK P l.toArray Q K C (actAt l) need r a w→
   (∀(listed':Array Bool) (a':Act) (w':World),(∀j,j<l.length→(j∈pi2↔listed'.getD j true=false))→listed'.size=l.length→(∀(j:Nat) (o:Oper),l[j]? =some o→listed'.getD j false=true→∀e∈o.after,Region.binds .any e=true→listed'.getD e.on false=true)→K a' w'→wpAny P .any l.toArray Q pi2.length listed' a' w')→
   wpAny P .any l.toArray Q (r.length+pi2.length) listed a w:=by
 intro r
 generalize hn:r.length=n
 induction n generalizing r with
 |zero=>
  intro listed a w _ _ hmem _ hsz hdown _ h hK
  have:r=[]:=List.eq_nil_of_length_eq_zero hn
  subst this
  rw[Nat.zero_add]
  exact hK listed a w (by simpa using hmem) hsz hdown h
 |succ n ih=>
  intro listed a w hsub hnd hmem hrl hsz hdown hC h hK
  rw[Nat.succ_add]
  refine⟨fun hempty=> ?_,fun j hj=> ?_⟩
  ·exfalso
   cases r with
   |nil=>simp at hn
   |cons i r'=>
    have hil:=hrl i (by simp)
    have hi0:=(hmem i hil).1 (by simp)
    have:i∈Region.ready .any l.toArray listed:=by
     refine mem_ready.2 ⟨hi0,l[i],by simp[hil],fun e he hbd=> ?_⟩
     have hw:=waits_edge (List.getElem?_eq_getElem hil) he hbd
     have hlt:e.on<i:=waits_ltB hb (List.getElem?_eq_getElem hil) hw
     apply Classical.byContradiction
     intro hn'
     have hin:e.on∈i::r'++pi2:=(hmem e.on (by omega)).2 ((getD_flip (by omega)).2 hn')
     rcases List.mem_append.1 hin with hin|hin
     ·have hin':e.on∈r':=by
       rcases List.mem_cons.1 hin with h'|h'
       ·omega
       ·exact h'
      have hp:=hpair i e.on ((List.Sublist.cons_cons i (List.singleton_sublist.2 hin')).trans hsub)
      simp only[pairOk,Bool.and_eq_true]at hp
      simp[hw]at hp
     ·have h1:=hphase e.on hin i (hsub.subset (by simp))
      have:=waits_ltB hb (List.getElem?_eq_getElem (h2l _ hin)) h1
      omega
    rw[hempty]at this
    simp at this
  ·obtain⟨h0,o,ho,hall⟩:=mem_ready.1 hj
   have hjl:j<l.length:=by
    have:=(Array.getElem?_eq_some_iff.1 ho).1;simpa using this
   have ho':l[j]? =some o:=by simpa using ho
   have hwl:=waits_listedB hb (L:=fun k=>listed.getD k false=true) hdown (j+1) j o (by omega) ho' hall
   have hjr:j∈r:=by
    rcases List.mem_append.1 ((hmem j hjl).2 h0)with h'|h'
    ·exact h'
    ·exfalso
     obtain⟨i,hi⟩:∃i,i∈r:=List.exists_mem_of_ne_nil r (by intro e;rw[e]at hn;simp at hn)
     have h1:=hwl i (hphase j h' i (hsub.subset hi))
     have h2:=(hmem i (hrl i hi)).1 (List.mem_append_left _ hi)
     exact(getD_flip (by rw[hsz];exact hrl i hi)).1 h2 h1
   obtain⟨pre,post,rfl⟩:=List.append_of_mem hjr
   have hpre:∀k∈pre,waits (masks l []) j k=false∧actAt l k=false∧∀ok oi,l.toArray[k]? =some ok→l.toArray[j]? =some oi→ok.apart l.toArray oi=true:=by
    intro k hk
    have hkl:=hrl k (by simp[hk])
    have hk0:=(hmem k hkl).1 (by simp[hk])
    have hnw:waits (masks l []) j k=false:=by
     cases e:waits (masks l []) j k with
     |false=>rfl
     |true=>exact absurd (hwl k e) ((getD_flip (by omega)).1 hk0)
    have hs2:List.Sublist [k,j] (pre++j::post):=(List.singleton_sublist.2 hk).append (List.singleton_sublist.2 (by simp))
    have hp:=hpair k j (hs2.trans hsub)
    simp only[pairOk,hnw,Bool.and_eq_true,Bool.false_or]at hp
    refine⟨hnw,by simpa using hp.2.1,fun ok oi h1 h2=> ?_⟩
    have h3:=hp.2.2
    simp only[List.getElem?_toArray]at h1 h2
    rw[h1,h2]at h3
    exact h3
   have hnn:pre≠ []→need j=true:=by
    intro hne
    obtain⟨k,hk⟩:=List.exists_mem_of_ne_nil _ hne
    have hs2:List.Sublist [k,j] (pre++j::post):=(List.singleton_sublist.2 hk).append (List.singleton_sublist.2 (by simp))
    exact hneed1 k j (hs2.trans hsub) (hpre k hk).1
   have h1:=wpLexK_pull (act:=actAt l) hsel hQ j post pre a w (fun k hk=>(hpre k hk).2) hnn (fun hor=>hC (by
    rcases hor with h'|h'
    ·exact⟨j,by simp,h'⟩
    ·obtain⟨k,hk⟩:=List.exists_mem_of_ne_nil _ h'
     exact⟨k,by simp[hk],(hpre k hk).2.1⟩)) (fun _=>⟨o,ho⟩) h
   refine wpOp_mono (fun a' w' hh=> ?_) h1
   have hsub':List.Sublist (pre++post) (pre++j::post):=(List.Sublist.refl pre).append (List.sublist_cons_self j post)
   have hnd1:(pre++j::post).Nodup:=(List.nodup_append.1 hnd).1
   have hjn:j∉pre++post:=by
    have h3:=List.nodup_append.1 hnd1
    intro hx
    rcases List.mem_append.1 hx with hx|hx
    ·exact h3.2.2 j hx j (by simp) rfl
    ·exact(List.nodup_cons.1 h3.2.1).1 hx
   have hj2:j∉pi2:=fun hx=>(List.nodup_append.1 hnd).2.2 j (by simp) j hx rfl
   refine ih (pre++post) (by simp at hn⊢;omega) (listed.setIfInBounds j true) a' w' (hsub'.trans hsub) (hnd.sublist (hsub'.append (List.Sublist.refl pi2))) ?_ (fun k hk=>hrl k (hsub'.subset hk)) (by simpa using hsz) ?_ ?_ hh.2.2 hK
   ·intro k hk
    by_cases hjk:j=k
    ·subst hjk
     have:(listed.setIfInBounds j true).getD j true=true:=by simp[Array.getD_eq_getD_getElem?,hsz,hjl]
     rw[this]
     exact⟨fun hx=>(List.mem_append.1 hx).elim (fun hx=>absurd hx hjn) (fun hx=>absurd hx hj2),fun hx=>by cases hx⟩
    ·rw[getD_set_ne true hjk,←hmem k hk]
     constructor
     ·intro hx
      rcases List.mem_append.1 hx with hx|hx
      ·exact List.mem_append_left _ (hsub'.subset hx)
      ·exact List.mem_append_right _ hx
     ·intro hx
      rcases List.mem_append.1 hx with hx|hx
      ·rcases List.mem_append.1 hx with hx|hx
       ·exact List.mem_append_left _ (List.mem_append_left _ hx)
       ·rcases List.mem_cons.1 hx with hx|hx
        ·exact absurd hx.symm hjk
        ·exact List.mem_append_left _ (List.mem_append_right _ hx)
      ·exact List.mem_append_right _ hx
   ·intro k ok hok hlk e he hbd
    by_cases hjk:j=k
    ·subst hjk
     rw[ho']at hok
     injection hok with hok
     subst hok
     exact getD_set_true (hall e he hbd)
    ·rw[getD_set_ne false hjk]at hlk
     exact getD_set_true (hdown k ok hok hlk e he hbd)
   ·rintro⟨i,hi,hia⟩
    by_cases hja:actAt l j=true
    ·refine hh.1 hja ?_
     rcases List.mem_append.1 hi with hi|hi
     ·exact hnn (fun e=>by subst e;simp at hi)
     ·have hs2:List.Sublist [j,i] (pre++j::post):=((List.Sublist.cons_cons j (List.singleton_sublist.2 hi))).trans (List.sublist_append_right pre (j::post))
      exact hneed2 i j (hs2.trans hsub) hia
    ·have hjf:actAt l j=false:=by simpa using hja
     rw[hh.2.1 hjf]
     exact hC ⟨j,by simp,hjf⟩
def phaseOk (ms:List Nat) (pi1 pi2:List Nat):Bool:=pi2.all fun j=>pi1.all fun i=>waits ms j i
theorem wp_region_lex2 {id:Nat} {a:Act} {w:World} (C C2:World→Prop) (pi1 pi2:List Nat) (hm:P.follows .mixedOrders=true) (hB:piOkB l (pi1++pi2)=true) (hB2:phaseOk (masks l []) pi1 pi2=true) (hC:C w.drew)
  (h:wpLexK P l.toArray (NoPanic Q) (fun a w=>C2 w∧wpLex P l.toArray (NoPanic Q) C2 (actAt l) (needF l (masks l []) [] pi2) pi2 a w) C (actAt l) (needF l (masks l []) [] pi1) pi1 a w.drew):(Code.region id l.toArray true).wp P Q a w:=by
 simp only[piOkB,Bool.and_eq_true,beq_iff_eq]at hB
 obtain⟨⟨⟨⟨⟨⟨hsel,hlen⟩,hnd⟩,hall⟩,hcv⟩,hpairs⟩,hback⟩:=hB
 have hnd':=(nodupB_iff (pi1++pi2)).1 hnd
 have hrl:∀j∈pi1++pi2,j<l.length:=fun j hj=>by simpa using List.all_eq_true.1 hall j hj
 have hphase:∀j∈pi2,∀i∈pi1,waits (masks l []) j i=true:=fun j hj i hi=>by
  have:=List.all_eq_true.1 hB2 j hj
  exact List.all_eq_true.1 this i hi
 refine Code.wp_mono NoPanic.imp (wp_region_any hm ?_)
 have hcov:∀j,j<l.length→j∈pi1++pi2:=by
  intro j hj
  simpa using List.all_eq_true.1 hcv j (List.mem_range.2 hj)
 have hsz:l.toArray.size=pi1.length+pi2.length:=by simp at hlen⊢;omega
 have hsel':=fun(j:Nat) (o:Oper) cs b (ho:l.toArray[j]? =some o)=>Region.noSelect_spec hsel j o cs b ho
 have hne:∀(pi:List Nat),pi.Nodup→(∀i j,List.Sublist [i,j] pi→waits (masks l []) j i=false→needF l (masks l []) [] pi j=true)∧(∀i j,List.Sublist [j,i] pi→actAt l i=false→needF l (masks l []) [] pi j=true):=by
  intro pi hpn
  refine⟨fun i j hs hw=> ?_,fun i j hs hw=> ?_⟩
  ·obtain⟨pre,m,post,e⟩:=sub_split pi hs
   exact needF_ok pi [] (by simp) hpn (pre++i::m) j post e (.inl ⟨i,.inr (by simp),hw⟩)
  ·obtain⟨pre,m,post,e⟩:=sub_split pi hs
   refine needF_ok pi [] (by simp) hpn pre j (m++i::post) (by rw[e];simp) (.inr ⟨i,by simp,hw⟩)
 have hn1:=(List.nodup_append.1 hnd').1
 have hn2:=(List.nodup_append.1 hnd').2.1
 rw[hsz]
 refine lex_anyK hsel' (fun c a w h=>h) hback pi1 pi2 (fun i j hs=>pairsOk_sub (pi1++pi2) i j hpairs (hs.trans (List.sublist_append_left ..))) hphase (fun j hj=>hrl j (List.mem_append_right _ hj)) (hne pi1 hn1).1 (hne pi1 hn1).2 pi1 (Array.replicate (pi1.length+pi2.length) false) a w.drew (List.Sublist.refl _) hnd' ?_ (fun j hj=>hrl j (List.mem_append_left _ hj)) (by simp at hlen⊢;omega) ?_ (fun _=>hC) h ?_
 ·intro j hj
  have:(Array.replicate (pi1.length+pi2.length) false).getD j true=false:=by
   have h9:j<pi1.length+pi2.length:=by simp at hlen;omega
   simp[Array.getD_eq_getD_getElem?,h9]
  exact⟨fun _=>this,fun _=>hcov j hj⟩
 ·intro j o ho hl
  simp[Array.getD_eq_getD_getElem?,Array.getElem?_replicate]at hl
  split at hl<;>simp at hl
 ·intro listed' a' w' hmem hsz' hdown hK
  exact lex_anyB hsel' (fun c a w h=>h) hback pi2 (fun i j hs=>pairsOk_sub (pi1++pi2) i j hpairs (hs.trans (List.sublist_append_right ..))) (hne pi2 hn2).1 (hne pi2 hn2).2 pi2.length pi2 listed' a' w' rfl (List.Sublist.refl _) hn2 hmem (fun j hj=>hrl j (List.mem_append_right _ hj)) hsz' hdown (fun _=>hK.1) hK.2
theorem wp_region_lexB {id:Nat} {a:Act} {w:World} (C:World→Prop) (pi:List Nat) (hm:P.follows .mixedOrders=true) (hB:piOkB l pi=true) (hC:C w.drew)
  (h:wpLex P l.toArray (NoPanic Q) C (actAt l) (needF l (masks l []) [] pi) pi a w.drew):(Code.region id l.toArray true).wp P Q a w:=
 wp_region_lex2 (fun _=>True) C [] pi hm hB (by simp[phaseOk]) trivial ⟨hC,h⟩
theorem lexK_q {i:Nat} {r:List Nat} {a:Act} {w:World} (o:Oper) (ho:l[i]? =some o) (ha:actOp o.op=false) (hn:(match o.op with| .nilCheck _=>true|_=>false)=false)
  (h:wpQuiet P l.toArray C (fun a'=>wpLexK P l.toArray Q K C (actAt l) need r a' w) [o] a):wpLexK P l.toArray Q K C (actAt l) need (i::r) a w:=by
 have haf:actAt l i=false:=by simp[actAt,ho,ha]
 simp only[wpLexK,haf]
 rw[if_neg (by simp)]
 simp only[wpQuiet]at h
 by_cases hw:Region.wanted o (yielded l.toArray a.tmps)=true
 ·rw[if_pos hw]at h
  obtain⟨v,h1,h2⟩:=h
  refine⟨o,v,by simpa using ho,.inl ⟨hw,fun w' hw'=> ?_⟩,h2⟩
  have h3:=h1 w' hw'
  unfold Oper.quietAt at h3
  cases e:(execOp a.eval o).run P w' with
  |halt x w1=>rw[e]at h3;simp[Oper.quietUpon]at h3
  |ok n w1=>
   obtain⟨u,rfl⟩:=exec_value ha (fun x hx=>by rw[hx]at hn;simp at hn) e
   rw[e]at h3
   simp only[Oper.quietUpon]at h3
   rw[h3.1,h3.2]
 ·rw[if_neg hw]at h
  exact⟨o,undef,by simpa using ho,.inr ⟨by simpa using hw,rfl⟩,h⟩
end
end
section
abbrev Bs:=List UInt8
def mkS (l:Bs):ByteArray:=⟨l.toArray⟩
theorem mkS_list (l:Bs):(mkS l).data.toList=l:=by simp[mkS]
theorem mkS_size (l:Bs):(mkS l).size=l.length:=by simp[mkS,ByteArray.size]
theorem mkS_inj {a b:Bs} (h:mkS a=mkS b):a=b:=by rw[←mkS_list a,h,mkS_list]
end
section
open Go.Lib
end
end Go.Proofs.YtcbcegdidlefiaaGreat
