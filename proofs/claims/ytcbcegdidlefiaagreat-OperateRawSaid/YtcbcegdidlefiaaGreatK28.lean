/- A run with known data, followed without the machine's memory: labels in the place of addresses, and how such a state stands for memory. No condition. A run with known data: what one operation does to labels. No condition. -/
import Derived.Test.YtcbcegdidlefiaaGreatK01
namespace Go.Proofs.YtcbcegdidlefiaaGreat
section
open Go.RowKit
inductive Tr (α:Type) where
 |nil
 |node (l:Tr α) (v:Option α) (r:Tr α)
def Tr.get {α:Type}:Tr α→Nat→Option α
 | .nil,_=>none
 | .node l v r,n=>match n with
  |0=>v
  |n+1=>match Nat.beq (n%2) 0 with
   |true=>l.get (n/2)
   |false=>r.get (n/2)
def Tr.put {α:Type}:Nat→Tr α→Nat→Option α→Tr α
 |0,t,_,_=>t
 |f+1,.nil,n,x=>match n with
  |0=> .node .nil x .nil
  |n+1=>match Nat.beq (n%2) 0 with
   |true=> .node (Tr.put f .nil (n/2) x) none .nil
   |false=> .node .nil none (Tr.put f .nil (n/2) x)
 |f+1,.node l v r,n,x=>match n with
  |0=> .node l x r
  |n+1=>match Nat.beq (n%2) 0 with
   |true=> .node (Tr.put f l (n/2) x) v r
   |false=> .node l v (Tr.put f r (n/2) x)
theorem half_eq {m n:Nat} {b:Bool} (h1:Nat.beq (m%2) 0=b) (h2:Nat.beq (n%2) 0=b):(m/2=n/2)=(m+1=n+1):=by
 apply propext
 cases b with
 |true=>
  have a1:=Nat.eq_of_beq_eq_true h1
  have a2:=Nat.eq_of_beq_eq_true h2
  omega
 |false=>
  have a1:=Nat.ne_of_beq_eq_false h1
  have a2:=Nat.ne_of_beq_eq_false h2
  omega
theorem half_ne {m n:Nat} {b:Bool} (h1:Nat.beq (m%2) 0=b) (h2:Nat.beq (n%2) 0= !b):¬m+1=n+1:=by
 intro e
 have:m=n:=by omega
 subst this
 rw[h1]at h2
 cases b<;>cases h2
theorem Tr.get_put {α:Type}:∀(f:Nat) (t:Tr α) (n:Nat) (x:Option α) (m:Nat),n+1<2^f→(Tr.put f t n x).get m=if m=n then x else t.get m:=by
 intro f
 induction f with
 |zero=>intro t n x m h;simp at h
 |succ f ih=>
  intro t n x m h
  have hn:∀k,n=k+1→k/2+1<2^f:=by intro k hk;rw[Nat.pow_succ]at h;omega
  have hnil:∀m,(Tr.nil:Tr α).get m=none:=fun _=>rfl
  cases t with
  |nil=>
   cases n with
   |zero=>
    cases m with
    |zero=>simp[Tr.put,Tr.get]
    |succ m=>simp only[Tr.put,Tr.get];cases Nat.beq (m%2) 0<;>simp
   |succ n=>
    have h1:=hn n rfl
    cases m with
    |zero=>cases hb:Nat.beq (n%2) 0<;>simp[Tr.put,Tr.get,hb]
    |succ m=>
     cases hb:Nat.beq (n%2) 0<;>cases hc:Nat.beq (m%2) 0<;>simp only[Tr.put,Tr.get,hb,hc,ih _ _ _ _ h1]
     ·simp only[half_eq hc hb]
     ·rw[if_neg (half_ne hc hb)]
     ·rw[if_neg (half_ne hc hb)]
     ·simp only[half_eq hc hb]
  |node l v r=>
   cases n with
   |zero=>
    cases m with
    |zero=>simp[Tr.put,Tr.get]
    |succ m=>simp only[Tr.put,Tr.get];simp
   |succ n=>
    have h1:=hn n rfl
    cases m with
    |zero=>cases hb:Nat.beq (n%2) 0<;>simp[Tr.put,Tr.get,hb]
    |succ m=>
     cases hb:Nat.beq (n%2) 0<;>cases hc:Nat.beq (m%2) 0<;>simp only[Tr.put,Tr.get,hb,hc,ih _ _ _ _ h1]
     ·simp only[half_eq hc hb]
     ·rw[if_neg (half_ne hc hb)]
     ·rw[if_neg (half_ne hc hb)]
     ·simp only[half_eq hc hb]
structure Info where
 bl:Nat
 sz:Nat
 es:Nat
abbrev Sg:=Nat→Option Info
def FULL:Nat:=9223372036854775808
inductive VR (s:Sg):Value→Value→Prop where
 |bool (b:Bool):VR s (.bool b) (.bool b)
 |int (k:IntKind) (n:Int):VR s (.int k n) (.int k n)
 |float (k:FloatKind) (n:Nat):VR s (.float k n) (.float k n)
 |str (b:ByteArray):VR s (.string b) (.string b)
 |nilp:VR s (.pointer none) (.pointer none)
 |ptr (L o:Nat) (i:Info) (h:s L=some i):VR s (.pointer (some ⟨L,o,none⟩)) (.pointer (some ⟨i.bl,o,none⟩))
 |nils:VR s (.slice none 0 0) (.slice none 0 0)
 |slc (L o n c:Nat) (i:Info) (h:s L=some i) (hc:c<FULL):VR s (.slice (some ⟨L,o,none⟩) n c) (.slice (some ⟨i.bl,o,none⟩) n c)
 |full (L o n c:Nat) (i:Info) (h:s L=some i) (hn:n≤c) (h0:o=0→c*i.es=i.sz∧c≤maxLen):VR s (.slice (some ⟨L,o,none⟩) n FULL) (.slice (some ⟨i.bl,o,none⟩) n c)
 |emp (L o c:Nat) (a:Addr):VR s (.slice (some ⟨L,o,some 0⟩) 0 FULL) (.slice (some a) 0 c)
 |nilm:VR s (.map none) (.map none)
 |map (L:Nat) (i:Info) (h:s L=some i):VR s (.map (some L)) (.map (some i.bl))
 |nilf:VR s .nilFunc .nilFunc
 |fn (f:Fn) (a a' b b':Array Value) (ha:a.size=a'.size) (hb:b.size=b'.size) (h1:∀(i:Nat) x x',a[i]? =some x→a'[i]? =some x'→VR s x x') (h2:∀(i:Nat) x x',b[i]? =some x→b'[i]? =some x'→VR s x x'):VR s (.func f a b) (.func f a' b')
 |niface:VR s .nilIface .nilIface
 |agg (a a':Array Value) (ha:a.size=a'.size) (h1:∀(i:Nat) x x',a[i]? =some x→a'[i]? =some x'→VR s x x'):VR s (.agg a) (.agg a')
 |tuple (a a':Array Value) (ha:a.size=a'.size) (h1:∀(i:Nat) x x',a[i]? =some x→a'[i]? =some x'→VR s x x'):VR s (.tuple a) (.tuple a')
def Sg.le (s s':Sg):Prop:=∀L i,s L=some i→s' L=some i
theorem VR.mono {s s':Sg} (h:Sg.le s s') {v v':Value} (r:VR s v v'):VR s' v v':=by
 induction r with
 |bool b=>exact .bool b
 |int k n=>exact .int k n
 |float k n=>exact .float k n
 |str b=>exact .str b
 |nilp=>exact .nilp
 |ptr L o i hi=>exact .ptr L o i (h _ _ hi)
 |nils=>exact .nils
 |slc L o n c i hi hc=>exact .slc L o n c i (h _ _ hi) hc
 |full L o n c i hi hn h0=>exact .full L o n c i (h _ _ hi) hn h0
 |emp L o c a=>exact .emp L o c a
 |nilm=>exact .nilm
 |map L i hi=>exact .map L i (h _ _ hi)
 |nilf=>exact .nilf
 |fn f a a' b b' ha hb _ _ i1 i2=>exact .fn f a a' b b' ha hb i1 i2
 |niface=>exact .niface
 |agg a a' ha _ i1=>exact .agg a a' ha i1
 |tuple a a' ha _ i1=>exact .tuple a a' ha i1
def VL (s:Sg) (c c':List Value):Prop:=c.length=c'.length∧∀(i:Nat) x x',c[i]? =some x→c'[i]? =some x'→VR s x x'
section
variable {s s':Sg} {c c' d d':List Value}
theorem VL.mono (h:Sg.le s s') (r:VL s c c'):VL s' c c':=⟨r.1,fun i x x' a b=>(r.2 i x x' a b).mono h⟩
theorem VL.nil:VL s [] []:=⟨rfl,by simp⟩
theorem VL.get (r:VL s c c') {i:Nat} {x:Value} (h:c[i]? =some x):∃x',c'[i]? =some x'∧VR s x x':=by
 have hi:i<c.length:=(List.getElem?_eq_some_iff.1 h).1
 have hi':i<c'.length:=r.1▸hi
 exact⟨c'[i],List.getElem?_eq_getElem hi',r.2 i x _ h (List.getElem?_eq_getElem hi')⟩
theorem VL.get' (r:VL s c c') {i:Nat} {x':Value} (h:c'[i]? =some x'):∃x,c[i]? =some x∧VR s x x':=by
 have hi':i<c'.length:=(List.getElem?_eq_some_iff.1 h).1
 have hi:i<c.length:=r.1▸hi'
 exact⟨c[i],List.getElem?_eq_getElem hi,r.2 i _ x' (List.getElem?_eq_getElem hi) h⟩
theorem VL.cons {x x':Value} (hx:VR s x x') (r:VL s c c'):VL s (x::c) (x'::c'):=by
 refine⟨by simp[r.1],?_⟩
 intro i y y' h h'
 cases i with
 |zero=>simp at h h';subst h;subst h';exact hx
 |succ i=>exact r.2 i y y' (by simpa using h) (by simpa using h')
theorem VL.head {x x':Value} (r:VL s (x::c) (x'::c')):VR s x x':=r.2 0 x x' rfl rfl
theorem VL.tail {x x':Value} (r:VL s (x::c) (x'::c')):VL s c c':=
 ⟨by have:=r.1;simpa using this,fun i y y' h h'=>r.2 (i+1) y y' (by simpa using h) (by simpa using h')⟩
theorem VL.append (r:VL s c c') (q:VL s d d'):VL s (c++d) (c'++d'):=by
 refine⟨by simp[r.1,q.1],?_⟩
 intro i x x' h h'
 by_cases hi:i<c.length
 ·rw[List.getElem?_append_left hi]at h
  rw[List.getElem?_append_left (by rw[←r.1];exact hi)]at h'
  exact r.2 i x x' h h'
 ·rw[List.getElem?_append_right (by omega)]at h
  rw[List.getElem?_append_right (by rw[←r.1];omega),←r.1]at h'
  exact q.2 _ x x' h h'
theorem VL.take (r:VL s c c') (n:Nat):VL s (c.take n) (c'.take n):=by
 refine⟨by simp[r.1],?_⟩
 intro i x x' h h'
 rw[List.getElem?_take]at h h'
 split at h
 ·rename_i hi;rw[if_pos hi]at h';exact r.2 i x x' h h'
 ·cases h
theorem VL.drop (r:VL s c c') (n:Nat):VL s (c.drop n) (c'.drop n):=
 ⟨by simp[r.1],fun i x x' h h'=>r.2 (n+i) x x' (by simpa using h) (by simpa using h')⟩
theorem VL.set (r:VL s c c') {x x':Value} (hx:VR s x x') (n:Nat):VL s (c.set n x) (c'.set n x'):=by
 refine⟨by simp[r.1],?_⟩
 intro i y y' h h'
 rw[List.getElem?_set]at h h'
 split at h
 ·rename_i hi
  rw[if_pos hi]at h'
  subst hi
  split at h
  ·rename_i hl
   rw[if_pos (r.1▸hl)]at h'
   simp at h h';subst h;subst h';exact hx
  ·cases h
 ·rename_i hi
  rw[if_neg hi]at h'
  exact r.2 i y y' h h'
theorem VR.arr {a a':Array Value} (h:VL s a.toList a'.toList):a.size=a'.size∧∀(i:Nat) x x',a[i]? =some x→a'[i]? =some x'→VR s x x':=
 ⟨by simpa using h.1,fun i x x' p q=>h.2 i x x' (by simpa using p) (by simpa using q)⟩
theorem VL.ofArr {a a':Array Value} (ha:a.size=a'.size) (h:∀(i:Nat) x x',a[i]? =some x→a'[i]? =some x'→VR s x x'):VL s a.toList a'.toList:=
 ⟨by simpa using ha,fun i x x' p q=>h i x x' (by simpa using p) (by simpa using q)⟩
theorem VR.aggL {l l':List Value} (h:VL s l l'):VR s (.agg ⟨l⟩) (.agg ⟨l'⟩):=by
 have:=VR.arr (a:=⟨l⟩) (a':=⟨l'⟩) h
 exact .agg _ _ this.1 this.2
theorem VR.tupL {l l':List Value} (h:VL s l l'):VR s (.tuple ⟨l⟩) (.tuple ⟨l'⟩):=by
 have:=VR.arr (a:=⟨l⟩) (a':=⟨l'⟩) h
 exact .tuple _ _ this.1 this.2
theorem VR.cells {v v':Value} (r:VR s v v'):VL s v.cells.toList v'.cells.toList:=by
 cases r
 case agg a a' ha h1=>exact VL.ofArr ha h1
 all_goals exact VL.cons (by constructor<;>assumption) VL.nil
end
def closedS:Value→Bool
 | .bool _| .int .. | .float .. | .string _| .pointer none| .slice none 0 0| .map none| .nilFunc| .nilIface=>true
 | .func _ a b=>a.size==0&&b.size==0
 |_=>false
def closedA:Value→Bool
 | .agg cs=>cs.toList.all closedS
 |v=>closedS v
def closedV:Value→Bool
 | .tuple cs=>cs.toList.all closedA
 |v=>closedA v
theorem VR.closedS {s:Sg} {v:Value} (h:closedS v=true):VR s v v:=by
 unfold Go.Proofs.YtcbcegdidlefiaaGreat.closedS at h
 split at h
 ·exact .bool _
 ·exact .int _ _
 ·exact .float _ _
 ·exact .str _
 ·exact .nilp
 ·exact .nils
 ·exact .nilm
 ·exact .nilf
 ·exact .niface
 ·rename_i f a b
  simp only[Bool.and_eq_true,beq_iff_eq]at h
  have ha:a= #[]:=Array.eq_empty_of_size_eq_zero h.1
  have hb:b= #[]:=Array.eq_empty_of_size_eq_zero h.2
  subst ha;subst hb
  exact .fn f _ _ _ _ rfl rfl (by simp) (by simp)
 ·cases h
theorem VL.closedF {s:Sg} {f:Value→Bool} (hf:∀v,f v=true→VR s v v) {l:List Value} (h:l.all f=true):VL s l l:=by
 refine⟨rfl,fun i x x' p q=> ?_⟩
 rw[p]at q;cases q
 exact hf x (List.all_eq_true.1 h x (List.mem_of_getElem? p))
theorem VL.closed {s:Sg} {l:List Value} (h:l.all Go.Proofs.YtcbcegdidlefiaaGreat.closedS=true):VL s l l:=VL.closedF (fun _=>VR.closedS) h
theorem VR.closedA {s:Sg} {v:Value} (h:closedA v=true):VR s v v:=by
 unfold Go.Proofs.YtcbcegdidlefiaaGreat.closedA at h
 split at h
 ·have:=VR.arr (s:=s) (VL.closed h);exact .agg _ _ this.1 this.2
 ·exact VR.closedS h
theorem VR.closedV {s:Sg} {v:Value} (h:closedV v=true):VR s v v:=by
 unfold Go.Proofs.YtcbcegdidlefiaaGreat.closedV at h
 split at h
 ·have:=VR.arr (s:=s) (VL.closedF (fun _=>VR.closedA) h);exact .tuple _ _ this.1 this.2
 ·exact VR.closedA h
theorem VR.eqS {s:Sg} {v v':Value} (h:Go.Proofs.YtcbcegdidlefiaaGreat.closedS v=true) (r:VR s v v'):v'=v:=by
 cases r<;>first|rfl|(simp[Go.Proofs.YtcbcegdidlefiaaGreat.closedS]at h;done)|skip
 case fn f a a' b b' ha hb _ _=>
  simp only[Go.Proofs.YtcbcegdidlefiaaGreat.closedS,Bool.and_eq_true,beq_iff_eq]at h
  have e1:a= #[]:=Array.eq_empty_of_size_eq_zero h.1
  have e2:b= #[]:=Array.eq_empty_of_size_eq_zero h.2
  have e3:a'= #[]:=Array.eq_empty_of_size_eq_zero (by omega)
  have e4:b'= #[]:=Array.eq_empty_of_size_eq_zero (by omega)
  rw[e1,e2,e3,e4]
theorem VL.eqF {s:Sg} {f:Value→Bool} (hf:∀v v',f v=true→VR s v v'→v'=v) {l l':List Value} (h:l.all f=true) (r:VL s l l'):l'=l:=by
 apply List.ext_getElem?
 intro i
 cases e:l[i]? with
 |none=>
  have:l.length≤i:=by simpa using e
  rw[r.1]at this
  simpa using this
 |some x=>
  obtain⟨x',hx',hr⟩:=r.get e
  rw[hx',hf x x' (List.all_eq_true.1 h x (List.mem_of_getElem? e)) hr]
theorem VL.eqS {s:Sg} {l l':List Value} (h:l.all Go.Proofs.YtcbcegdidlefiaaGreat.closedS=true) (r:VL s l l'):l'=l:=VL.eqF (fun _ _=>VR.eqS) h r
theorem VR.eqA {s:Sg} {v v':Value} (h:Go.Proofs.YtcbcegdidlefiaaGreat.closedA v=true) (r:VR s v v'):v'=v:=by
 cases r
 case agg a a' ha h1=>
  have:=VL.eqS (s:=s) (l:=a.toList) (l':=a'.toList) (by simpa[Go.Proofs.YtcbcegdidlefiaaGreat.closedA]using h) (VL.ofArr ha h1)
  rw[Array.toList_inj.1 this]
 all_goals exact VR.eqS (s:=s) (by simpa[Go.Proofs.YtcbcegdidlefiaaGreat.closedA]using h) (by constructor<;>assumption)
theorem VR.eqV {s:Sg} {v v':Value} (h:Go.Proofs.YtcbcegdidlefiaaGreat.closedV v=true) (r:VR s v v'):v'=v:=by
 cases r
 case tuple a a' ha h1=>
  have:=VL.eqF (fun _ _=>VR.eqA) (s:=s) (l:=a.toList) (l':=a'.toList) (by simpa[Go.Proofs.YtcbcegdidlefiaaGreat.closedV]using h) (VL.ofArr ha h1)
  rw[Array.toList_inj.1 this]
 all_goals exact VR.eqA (s:=s) (by simpa[Go.Proofs.YtcbcegdidlefiaaGreat.closedV]using h) (by constructor<;>assumption)
inductive EBlk where
 |cells (c:List Value) (e:Nat) (es:Nat)
 |map (m:List (Value×Value×Nat)) (clk:Nat)
 |sit (b:ByteArray) (pos:Nat)
abbrev Hp:=Tr EBlk
def Hp.at (H:Hp) (L:Nat):Option EBlk:=Tr.get H L
def LB:Nat:=60
def Hp.add (H:Hp) (L:Nat) (b:EBlk):Hp:=Tr.put LB H L (some b)
def Hp.del (H:Hp) (L:Nat):Hp:=Tr.put LB H L none
def labOk (L:Nat):Bool:=Nat.blt L 1000000000000000
theorem Hp.at_add {H:Hp} {L:Nat} {b:EBlk} {M:Nat} (h:labOk L=true):(H.add L b).at M=if M=L then some b else H.at M:=by
 unfold Hp.at Hp.add
 refine Tr.get_put _ _ _ _ _ ?_
 have:L<1000000000000000:=by simpa[labOk]using h
 unfold LB;omega
theorem Hp.at_del {H:Hp} {L:Nat} {M:Nat} (h:labOk L=true):(H.del L).at M=if M=L then none else H.at M:=by
 unfold Hp.at Hp.del
 refine Tr.get_put _ _ _ _ _ ?_
 have:L<1000000000000000:=by simpa[labOk]using h
 unfold LB;omega
def BR (s:Sg) (i:Info) (w:World):EBlk→Prop
 | .cells c e es=>es=i.es∧0<es∧∃c' rest,w.heap[i.bl]? =some (.cells ⟨c'++rest⟩ e (0,0))∧c'.length+rest.length=i.sz∧VL s c c'
 | .map m clk=>∃es',w.heap[i.bl]? =some (.map es' clk)∧es'.size=m.length∧∀(k:Nat) kv e,m[k]? =some kv→es'[k]? =some e→e.key=kv.1∧closedV kv.1=true∧e.born=kv.2.2∧VR s kv.2.1 e.val
 | .sit b pos=>w.heap[i.bl]? =some (.stringIter b pos)
structure Rel (C:Foot) (w0:World) (s:Sg) (H:Hp) (w:World):Prop where
 keep:Keeps C w0 w
 live:∀L i b,s L=some i→H.at L=some b→(i.bl<w0.heap.size→C i.bl)∧BR s i w b
 inj:∀L L' i i' b b',s L=some i→s L'=some i'→H.at L=some b→H.at L'=some b'→i.bl=i'.bl→L=L'
theorem BR.mono {s s':Sg} {i:Info} {w w':World} {b:EBlk} (h:Sg.le s s') (hw:w'.heap[i.bl]? =w.heap[i.bl]?) (r:BR s i w b):BR s' i w' b:=by
 cases b with
 |cells c e es=>
  obtain⟨h1,h2,c',rest,h3,h4,h5⟩:=r
  exact⟨h1,h2,c',rest,hw.trans h3,h4,h5.mono h⟩
 |map m clk=>
  obtain⟨es',h1,h2,h3⟩:=r
  exact⟨es',hw.trans h1,h2,fun k kv e a b=>⟨(h3 k kv e a b).1,(h3 k kv e a b).2.1,(h3 k kv e a b).2.2.1,(h3 k kv e a b).2.2.2.mono h⟩⟩
 |sit b pos=>exact hw.trans r
theorem BR.lt {s:Sg} {i:Info} {w:World} {b:EBlk} (r:BR s i w b):i.bl<w.heap.size:=by
 have key:∀o,w.heap[i.bl]? =some o→i.bl<w.heap.size:=fun o h=>(Array.getElem?_eq_some_iff.1 h).1
 cases b with
 |cells c e es=>obtain⟨_,_,_,_,h,_⟩:=r;exact key _ h
 |map m clk=>obtain⟨_,h,_⟩:=r;exact key _ h
 |sit b pos=>exact key _ r
def Sg.put (s:Sg) (L:Nat) (i:Info):Sg:=fun M=>if M=L then some i else s M
theorem Sg.put_same (s:Sg) (L:Nat) (i:Info):s.put L i L=some i:=by simp[Sg.put]
theorem Sg.put_far {s:Sg} {L M:Nat} {i:Info} (h:M≠L):s.put L i M=s M:=by simp[Sg.put,h]
theorem Sg.le_put {s:Sg} {L:Nat} {i:Info} (h:s L=none):Sg.le s (s.put L i):=by
 intro M j hM
 by_cases e:M=L
 ·subst e;rw[h]at hM;cases hM
 ·rw[Sg.put_far e];exact hM
theorem Sg.le_refl (s:Sg):Sg.le s s:=fun _ _ h=>h
theorem Sg.le_trans {a b c:Sg} (h:Sg.le a b) (k:Sg.le b c):Sg.le a c:=fun L i x=>k L i (h L i x)
theorem Rel.new {C:Foot} {w0 w:World} {s:Sg} {H:Hp} (r:Rel C w0 s H w) {L:Nat} (hs:s L=none) (hl:labOk L=true) (b:EBlk) (o:Obj) (sz es:Nat)
  (hb:BR (s.put L ⟨w.heap.size,sz,es⟩) ⟨w.heap.size,sz,es⟩ (w.alloc o) b):Rel C w0 (s.put L ⟨w.heap.size,sz,es⟩) (H.add L b) (w.alloc o):=by
 have hle:Sg.le s (s.put L ⟨w.heap.size,sz,es⟩):=Sg.le_put hs
 refine⟨r.keep.alloc o,?_,?_⟩
 ·intro M i c hM hc
  rw[Hp.at_add hl]at hc
  by_cases e:M=L
  ·subst e
   rw[Sg.put_same]at hM;cases hM
   rw[if_pos rfl]at hc;cases hc
   exact⟨fun h=>absurd r.keep.size (by simp at h;omega),hb⟩
  ·rw[Sg.put_far e]at hM;rw[if_neg e]at hc
   obtain⟨h1,h2⟩:=r.live M i c hM hc
   exact⟨h1,h2.mono hle (heap_alloc_old w o h2.lt)⟩
 ·intro M M' i i' c c' hM hM' hc hc' he
  rw[Hp.at_add hl]at hc hc'
  by_cases e:M=L<;>by_cases e':M'=L
  ·rw[e,e']
  ·subst e
   rw[Sg.put_same]at hM;cases hM
   rw[Sg.put_far e']at hM';rw[if_neg e']at hc'
   have:=(r.live M' i' c' hM' hc').2.lt
   rw[←he]at this;simp at this
  ·subst e'
   rw[Sg.put_same]at hM';cases hM'
   rw[Sg.put_far e]at hM;rw[if_neg e]at hc
   have:=(r.live M i c hM hc).2.lt
   rw[he]at this;simp at this
  ·rw[Sg.put_far e]at hM;rw[Sg.put_far e']at hM';rw[if_neg e]at hc;rw[if_neg e']at hc'
   exact r.inj M M' i i' c c' hM hM' hc hc' he
theorem Rel.turn {C:Foot} {w0 w w':World} {s:Sg} {H:Hp} (r:Rel C w0 s H w) {L:Nat} {i:Info} {b0:EBlk} (hs:s L=some i) (hl:labOk L=true) (h0:H.at L=some b0) (b:EBlk)
  (hk:Keeps C w0 w') (ho:∀k,k≠i.bl→w'.heap[k]? =w.heap[k]?) (hb:BR s i w' b):Rel C w0 s (H.add L b) w':=by
 refine⟨hk,?_,?_⟩
 ·intro M j c hM hc
  rw[Hp.at_add hl]at hc
  by_cases e:M=L
  ·subst e
   rw[hs]at hM;cases hM
   rw[if_pos rfl]at hc;cases hc
   exact⟨(r.live M i b0 hs h0).1,hb⟩
  ·rw[if_neg e]at hc
   obtain⟨h1,h2⟩:=r.live M j c hM hc
   refine⟨h1,h2.mono (Sg.le_refl s) (ho _ fun e2=>e ?_)⟩
   exact r.inj M L j i c b0 hM hs hc h0 e2
 ·intro M M' j j' c c' hM hM' hc hc' he
  rw[Hp.at_add hl]at hc hc'
  have key:∀M c,(if M=L then some b else H.at M)=some c→∃c2,H.at M=some c2:=by
   intro M c h
   split at h
   ·rename_i e;exact⟨b0,e▸h0⟩
   ·exact⟨c,h⟩
  obtain⟨d,hd⟩:=key M c hc
  obtain⟨d',hd'⟩:=key M' c' hc'
  exact r.inj M M' j j' d d' hM hM' hd hd' he
theorem Rel.drew {C:Foot} {w0 w:World} {s:Sg} {H:Hp} (r:Rel C w0 s H w):Rel C w0 s H w.drew:=⟨r.keep.drew,fun L i b h k=>r.live L i b h k,r.inj⟩
theorem keep_setRow {C:Foot} {w0 w:World} (k:Keeps C w0 w) (g:Nat) (cs:Array Value) (hg:g<w0.heap.size→C g):Keeps C w0 (w.setRow g cs):=
 ⟨k.os,k.tape,k.output,by rw[setRow_size];exact k.size,fun x hx hn=>by rw[setRow_other w g x cs (by rintro rfl;exact hn (hg hx))];exact k.block x hx hn⟩
theorem Rel.sub {C:Foot} {w0 w:World} {s:Sg} {H H':Hp} (r:Rel C w0 s H w) (h:∀L b,H'.at L=some b→s L≠none→H.at L=some b):Rel C w0 s H' w:=
 ⟨r.keep,fun L i b hs hb=>r.live L i b hs (h L b hb (by rw[hs];simp)),fun L L' i i' b b' hs hs' hb hb'=>r.inj L L' i i' b b' hs hs' (h L b hb (by rw[hs];simp)) (h L' b' hb' (by rw[hs'];simp))⟩
end
section
open Go.RowKit
structure TI where
 d:TypeDesc
 size:Nat
 bytes:Nat
 zero:List Value
 agg:Bool
 zv:Value
def isRowB:TypeDesc→Bool
 | .struct _| .array _ _=>true
 |_=>false
def mkTI (P:Program) (t:Nat):Option TI:=
 match P.underlying t,P.info? t with
 |some d,some i=>match i.zero with
  |some z=>some ⟨d,i.size,i.bytes,z.cells.toList,isRowB d,z⟩
  |none=>none
 |_,_=>none
abbrev TyT:=Nat→Option TI
def qv {α:Type} (P:Program):Sem α→Option α
 | .pure a=>some a
 | .program k=>qv P (k P)
 | .mark _ k=>qv P k
 |_=>none
inductive AR where
 |val (v:Value) (H:Hp)
 |skip (H:Hp)
 |call (f:Nat) (args:List Value)
inductive MK where
 |p
 |s (n c:Nat)
 |mp
def MK.at:MK→Nat→Value
 | .p,L=> .pointer (some ⟨L,0,none⟩)
 | .s n c,L=> .slice (some ⟨L,0,none⟩) n c
 | .mp,L=> .map (some L)
structure PA where
 L:Nat
 o:Nat
structure SA where
 L:Nat
 o:Nat
 n:Nat
 c:Nat
def asPtr:Value→Option PA
 | .pointer (some ⟨L,o,none⟩)=>some ⟨L,o⟩
 |_=>none
def asSlc:Value→Option SA
 | .slice (some ⟨L,o,none⟩) n c=>some ⟨L,o,n,c⟩
 |_=>none
def asI64:Value→Option Int
 | .int .i64 n=>some n
 |_=>none
def asU8:Value→Option Int
 | .int .u8 n=>some n
 |_=>none
def asStr:Value→Option ByteArray
 | .string s=>some s
 |_=>none
def asAggL:Value→Option (List Value)
 | .agg c=>some c.toList
 |_=>none
def asTupL:Value→Option (List Value)
 | .tuple c=>some c.toList
 |_=>none
def nthO {α:Type}:List α→Nat→Option α
 | [],_=>none
 |a::l,n=>match n with
  |0=>some a
  |n+1=>nthO l n
def nthV:List Value→Nat→Value
 | [],_=>undef
 |a::l,n=>match n with
  |0=>a
  |n+1=>nthV l n
def takeL:Nat→List Value→List Value
 |0,_=> []
 |n+1,l=>match l with
  | []=> []
  |a::r=>a::takeL n r
def dropL:Nat→List Value→List Value
 |0,l=>l
 |n+1,l=>match l with
  | []=> []
  |_::r=>dropL n r
def lenL:List Value→Nat
 | []=>0
 |_::r=>Nat.succ (lenL r)
def setL:List Value→Nat→Value→List Value
 | [],_,_=> []
 |a::l,n,v=>match n with
  |0=>v::l
  |n+1=>a::setL l n v
def appL:List Value→List Value→List Value
 | [],b=>b
 |a::l,b=>a::appL l b
def over:List Value→List Value→List Value
 |c,[]=>c
 | [],_=> []
 |_::c,v::vs=>v::over c vs
def spl:Nat→List Value→List Value→List Value
 |0,c,vs=>over c vs
 |o+1,c,vs=>match c with
  | []=> []
  |a::r=>a::spl o r vs
def kindOf:Op→Nat
 | .move _| .assign _| .pick .. | .build .. | .nilCheck _| .unOp .. | .slice .. | .fieldAddr .. | .field .. | .indexAddr .. | .index .. | .extract .. | .makeFunc .. =>0
 | .binOp .. | .convert .. | .load .. | .lookup .. =>1
 | .alloc _| .box .. | .buildSlice .. | .makeSlice .. | .makeMap .. | .range .. =>2
 | .call c=>match c.callee with| .builtin .len| .builtin .cap| .builtin .min| .builtin .max=>1|_=>3
 |_=>3
def fldI (T:TyT) (t f:Nat):Option (Nat×TI):=
 match T t with
 |some ti=>match ti.d with
  | .struct fields=>match nthO fields.toList f with
   |some fd=>match T fd.type with
    |some tf=>some (fd.offset,tf)
    |none=>none
   |none=>none
  |_=>none
 |none=>none
def slcI (T:TyT) (t:Nat):Option (Nat×TI):=
 match T t with
 |some ti=>match ti.d with
  | .slice e=>match T e with
   |some te=>some (e,te)
   |none=>none
  |_=>none
 |none=>none
def arrI (T:TyT) (t:Nat):Option (Nat×Nat×TI):=
 match T t with
 |some ti=>match ti.d with
  | .array n e=>match T e with
   |some te=>some (n,e,te)
   |none=>none
  |_=>none
 |none=>none
def zeroA (ti:TI):Option Value:=
 match closedV ti.zv with
 |true=>some ti.zv
 |false=>none
def mapI (T:TyT) (t:Nat):Option (Nat×TypeDesc×Nat×Value):=
 match T t with
 |some ti=>match ti.d with
  | .map k e=>match T k,T e with
   |some tk,some te=>match zeroA te with
    |some z=>some (k,tk.d,e,z)
    |none=>none
   |_,_=>none
  |_=>none
 |none=>none
def placesA (T:TyT):List Field→Option (List (Nat×Nat))
 | []=>some []
 |f::r=>match T f.type,placesA T r with
  |some tf,some l=>some ((f.offset,tf.size)::l)
  |_,_=>none
inductive BP where
 |str (pl:List (Nat×Nat))
 |arr (size:Nat)
def BP.at:BP→Nat→Option (Nat×Nat)
 | .str pl,i=>nthO pl i
 | .arr n,i=>some (i*n,n)
def bldI (T:TyT) (t:Nat):Option (List Value×BP):=
 match T t with
 |some ti=>match ti.zero.all closedS with
  |false=>none
  |true=>match ti.d with
   | .struct fields=>match placesA T fields.toList with
    |some pl=>some (ti.zero,.str pl)
    |none=>none
   | .array _ e=>match T e with
    |some te=>some (ti.zero,.arr te.size)
    |none=>none
   |_=>none
 |none=>none
def zelI (T:TyT) (t:Nat):Option (Nat×TI):=
 match slcI T t with
 |some (e,te)=>match te.zero.all closedS&&Nat.beq te.zero.length te.size&&Nat.blt 0 te.size with
  |true=>some (e,te)
  |false=>none
 |none=>none
def fillL (place:BP):List Value→List (Nat×Value)→Option (List Value)
 |c,[]=>some c
 |c,(i,v)::r=>match place.at i with
  |none=>none
  |some (off,size)=>
   match Nat.beq v.cells.toList.length size&&Nat.ble (off+v.cells.toList.length) c.length with
   |true=>fillL place (spl off c v.cells.toList) r
   |false=>none
def zerosL (z:List Value) (n:Nat):List Value:=(List.range n).map fun i=>z.getD (i%z.length) undef
def partL (ti:TI) (c:List Value) (o:Nat):Option Value:=
 match ti.agg with
 |true=>match Nat.beq (lenL (takeL ti.size (dropL o c))) ti.size with
  |true=>some (.agg ⟨takeL ti.size (dropL o c)⟩)
  |false=>none
 |false=>nthO c o
def scal:Value→Bool
 | .agg _| .tuple _=>false
 |_=>true
def nseq {α:Type} (n:Nat) (f:Nat→α):α:=match n with
 |0=>f 0
 |m+1=>f (Nat.succ m)
def natV (n:Nat):Value:=nseq n fun m=> .int .i64 (.ofNat m)
def negV (n:Nat):Value:=nseq n fun m=> .int .i64 (.negSucc m)
def one (t:Value) (H:Hp):Option AR:=some (.val t H)
def lim63 (n:Nat):Bool:=Nat.blt n 9223372036854775808
def addA (a b:Int):Option Value:=match a,b with
 | .ofNat m,.ofNat n=>match lim63 (Nat.add m n)with
  |true=>some (natV (Nat.add m n))
  |false=>none
 | .ofNat m,.negSucc n=>match Nat.blt n m with
  |true=>match lim63 m with
   |true=>some (natV (Nat.sub m (Nat.succ n)))
   |false=>none
  |false=>match lim63 n with
   |true=>some (negV (Nat.sub n m))
   |false=>none
 | .negSucc m,.ofNat n=>match Nat.blt m n with
  |true=>match lim63 n with
   |true=>some (natV (Nat.sub n (Nat.succ m)))
   |false=>none
  |false=>match lim63 m with
   |true=>some (negV (Nat.sub m n))
   |false=>none
 |_,_=>none
def subA (a b:Int):Option Value:=match b with
 | .ofNat 0=>addA a (.ofNat 0)
 | .ofNat (n+1)=>addA a (.negSucc n)
 | .negSucc n=>addA a (.ofNat (Nat.succ n))
def mulA (a b:Int):Option Value:=match a,b with
 | .ofNat m,.ofNat n=>match lim63 (Nat.mul m n)with
  |true=>some (natV (Nat.mul m n))
  |false=>none
 |_,_=>none
def ltA (a b:Int):Bool:=match a,b with
 | .ofNat m,.ofNat n=>Nat.blt m n
 | .ofNat _,.negSucc _=>false
 | .negSucc _,.ofNat _=>true
 | .negSucc m,.negSucc n=>Nat.blt n m
def eqI (a b:Int):Bool:=match a,b with
 | .ofNat m,.ofNat n=>Nat.beq m n
 | .negSucc m,.negSucc n=>Nat.beq m n
 |_,_=>false
def divA (a b:Int):Option Value:=match a,b with
 | .ofNat m,.ofNat (n+1)=>match lim63 m with
  |true=>some (natV (Nat.div m (Nat.succ n)))
  |false=>none
 |_,_=>none
def remA (a b:Int):Option Value:=match a,b with
 | .ofNat m,.ofNat (n+1)=>match lim63 m with
  |true=>some (natV (Nat.mod m (Nat.succ n)))
  |false=>none
 |_,_=>none
def int64 (op:BinOp) (a b:Int):Option Value:=
 match op with
 | .add=>addA a b
 | .sub=>subA a b
 | .mul=>mulA a b
 | .quo=>divA a b
 | .rem=>remA a b
 | .eql=>some (.bool (eqI a b))
 | .neq=>some (.bool (!(eqI a b)))
 | .lss=>some (.bool (ltA a b))
 | .leq=>some (.bool (!(ltA b a)))
 | .gtr=>some (.bool (ltA b a))
 | .geq=>some (.bool (!(ltA a b)))
 |_=>none
def cmpA (op:BinOp) (a b:Int):Option Value:=
 match op with
 | .eql=>some (.bool (eqI a b))
 | .neq=>some (.bool (!(eqI a b)))
 | .lss=>some (.bool (ltA a b))
 | .leq=>some (.bool (!(ltA b a)))
 | .gtr=>some (.bool (ltA b a))
 | .geq=>some (.bool (!(ltA a b)))
 |_=>none
def ptrEq (T:TyT) (H:Hp) (t:Nat) (a b:Addr):Option Bool:=
 match T t with
 |none=>none
 |some ti=>match ti.d with
  | .pointer e=>match T e with
   |none=>none
   |some te=>match Nat.beq te.size 0,a,b with
    |false,⟨L,o,none⟩,⟨M,p,none⟩=>match Nat.beq L M with
     |true=>some (Nat.beq o p)
     |false=>match H.at L,H.at M with
      |some (.cells (_::_) _ _),some (.cells (_::_) _ _)=>some false
      |_,_=>none
    |_,_,_=>none
  |_=>none
inductive TK where
 |ptr
 |slc
 |mp
 |fn
def tkI (T:TyT) (t:Nat):Option TK:=
 match T t with
 |none=>none
 |some ti=>match ti.d with
  | .pointer _=>some .ptr
  | .slice _=>some .slc
  | .map _ _=>some .mp
  | .func _ _ _=>some .fn
  |_=>none
def eqA (T:TyT) (H:Hp) (t:Nat) (x y:Value):Option Bool:=
 match tkI T t with
 |some .ptr=>match x,y with
  | .pointer none,.pointer b=>some b.isNone
  | .pointer (some _),.pointer none=>some false
  | .pointer (some a),.pointer (some b)=>ptrEq T H t a b
  |_,_=>none
 |some .slc=>match x,y with
  | .slice none _ _,.slice b _ _=>some b.isNone
  | .slice (some _) _ _,.slice none _ _=>some false
  |_,_=>none
 |some .mp=>match x,y with
  | .map none,.map b=>some b.isNone
  | .map (some _),.map none=>some false
  |_,_=>none
 |some .fn=>match x,y with
  | .nilFunc,.nilFunc=>some true
  | .nilFunc,.func _ _ _=>some false
  | .func _ _ _,.nilFunc=>some false
  |_,_=>none
 |none=>none
def natOf:Value→Option Nat
 | .int .i64 (.ofNat n)=>some n
 |_=>none
def natOr (d:Nat):Option Value→Option Nat
 |none=>some d
 |some v=>natOf v
def sliceN (size:Nat) (L o n c l h:Nat):Option Value:=
 match Nat.beq c FULL with
 |true=>match Nat.ble l h&&Nat.ble h n&&Nat.blt 0 size with
  |true=>match Nat.blt l h||Nat.beq l 0 with
   |true=>some (.slice (some ⟨L,o+l*size,none⟩) (h-l) FULL)
   |false=>some (.slice (some ⟨L,o,some 0⟩) 0 FULL)
  |false=>none
 |false=>match Nat.ble l h&&Nat.ble h c&&Nat.blt c FULL with
  |true=>some (.slice (some ⟨L,if c=l then o else o+l*size,none⟩) (h-l) (c-l))
  |false=>none
def sliceM (size:Nat) (L o n c l h m:Nat):Option Value:=
 match Nat.ble l h&&Nat.ble h m&&(bif Nat.beq c FULL then Nat.ble m n else Nat.ble m c&&Nat.blt c FULL)&&Nat.blt m FULL with
 |true=>some (.slice (some ⟨L,if m=l then o else o+l*size,none⟩) (h-l) (m-l))
 |false=>none
def sliceA (size:Nat) (b:Option Addr) (n c:Nat) (lo hi mx:Option Value):Option Value:=
 match natOr 0 lo,natOr n hi with
 |some l,some h=>match b with
  |none=>match Nat.beq l 0&&Nat.beq h 0&&mx.isNone&&Nat.beq n 0&&Nat.beq c 0 with
   |true=>some (.slice none 0 0)
   |false=>none
  |some ⟨L,o,none⟩=>match mx with
   |none=>sliceN size L o n c l h
   |some m=>match natOf m with
    |none=>none
    |some m=>match hi.isSome with
     |true=>sliceM size L o n c l h m
     |false=>none
  |_=>none
 |_,_=>none
def lenA:Value→Option Nat
 | .slice _ n _=>some n
 |_=>none
def firstA (H:Hp) (k:Nat):Value→Option (List Value)
 | .slice (some ⟨L,o,none⟩) _ _=>match H.at L with
  |some (.cells c _ _)=>match Nat.beq (lenL (takeL k (dropL o c))) k with
   |true=>some (takeL k (dropL o c))
   |false=>none
  |_=>none
 | .slice none _ _=>match k with|0=>some []|_=>none
 | .slice (some ⟨_,_,some _⟩) _ _=>match k with|0=>some []|_=>none
 |_=>none
def storeA (H:Hp) (L o:Nat) (vs:List Value):Option Hp:=
 match H.at L with
 |some (.cells c e es)=>match Nat.ble (o+lenL vs) (lenL c)&&vs.all scal&&labOk L with
  |true=>some (H.add L (.cells (spl o c vs) e es))
  |false=>none
 |_=>none
def sliceOrStr (T:TyT) (t:Nat):Bool:=
 match T t with
 |some ti=>match ti.d with| .slice _=>true|_=>false
 |none=>false
def growA (H:Hp) (lab:Nat) (e es L o n k:Nat) (cur news:List Value):Option AR:=
 match Nat.beq o 0&&Nat.beq (n*es) (lenL cur)with
 |true=>one (.slice (some ⟨lab,0,none⟩) (n+k) FULL) ((H.del L).add lab (.cells (appL cur news) e es))
 |false=>none
def appendB (H:Hp) (lab:Nat) (e size:Nat) (s:Value) (L o n c k:Nat) (news:List Value):Option AR:=
 match H.at L with
 |some (.cells cur e' es)=>match Nat.beq e e'&&Nat.ble (o+n*size) (lenL cur)&&labOk L with
  |false=>none
  |true=>match Nat.beq c FULL with
   |true=>match Nat.beq es size with
    |true=>match k with
     |0=>one s H
     |_=>growA H lab e es L o n k cur news
    |false=>none
   |false=>match Nat.blt c FULL with
    |false=>none
    |true=>match Nat.ble (n+k) c with
     |true=>match storeA H L (o+n*size) news with
      |some H'=>one (.slice (some ⟨L,o,none⟩) (n+k) c) H'
      |none=>none
     |false=>one (.slice (some ⟨lab,0,none⟩) (n+k) FULL) (H.add lab (.cells (appL (takeL (n*size) (dropL o cur)) news) e size))
 |_=>none
def appendA (T:TyT) (H:Hp) (lab:Nat) (t1 t2:Nat) (s x:Value):Option AR:=
 match slcI T t1,sliceOrStr T t2 with
 |some (e,te),true=>match s,lenA x with
  | .slice b n c,some k=>match firstA H (k*te.size) x with
   |none=>none
   |some news=>match Nat.blt 0 te.size&&Nat.beq te.zero.length te.size&&news.all scal&&Nat.blt ((n+k+1)*(te.bytes+1)) 1000000000&&labOk lab with
    |false=>none
    |true=>match b with
     |none=>match n,c with
      |0,0=>match k with
       |0=>one (.slice none 0 0) H
       |_=>one (.slice (some ⟨lab,0,none⟩) k FULL) (H.add lab (.cells news e te.size))
      |_,_=>none
     |some ⟨L,o,none⟩=>appendB H lab e te.size s L o n c k news
     |_=>none
  |_,_=>none
 |_,_=>none
def strEq (a b:ByteArray):Bool:=decide (a.data.toList.map (·.toNat)=b.data.toList.map (·.toNat))
def isIntD:TypeDesc→Bool
 | .int _=>true
 |_=>false
def keyEq (P:Program) (d:TypeDesc) (t:Nat) (k k':Value):Option Bool:=
 match isIntD d with
 |true=>match asI64 k with
  |some a=>match asI64 k' with
   |some b=>some (eqI a b)
   |none=>qv P (Op.equal t k k')
  |none=>qv P (Op.equal t k k')
 |false=>qv P (Op.equal t k k')
def keyAt (P:Program) (d:TypeDesc) (t:Nat) (k:Value):List (Value×Value×Nat)→Nat→Option (Option (Nat×Value×Value×Nat))
 | [],_=>some none
 |e::r,i=>match keyEq P d t k e.1 with
  |some true=>some (some (i,e))
  |some false=>keyAt P d t k r (i+1)
  |none=>none
def mapA (H:Hp):Value→Option (List (Value×Value×Nat))
 | .map none=>some []
 | .map (some L)=>match H.at L with
  |some (.map m _)=>some m
  |_=>none
 |_=>none
def quietA (P:Program) (ρ:Operand→Value) (o:Oper):Option Value:=
 match o.op.operands.toList.all (fun x=>closedV (ρ x))with
 |true=>match qv P (execOp ρ o)with
  |some (.value v)=>match closedV v with|true=>some v|false=>none
  |_=>none
 |false=>none
def oPick (c a b:Value):Option Value:=match c with
 | .bool true=>some a
 | .bool false=>some b
 |_=>none
def oBuild (T:TyT) (ρ:Operand→Value) (t:Nat) (parts:Array (Nat×Operand)):Option Value:=
 match bldI T t with
 |some (z,bp)=>match fillL bp z (parts.toList.map fun p=>(p.1,ρ p.2))with
  |some c=>some (.agg ⟨c⟩)
  |none=>none
 |none=>none
def oNil:Value→Option Value
 | .pointer (some a)=>some (.pointer (some a))
 | .func (.func f) a b=>some (.func (.func f) a b)
 |_=>none
def oUn (P:Program) (ρ:Operand→Value) (o:Oper) (op:UnOp) (x:Value):Option Value:=
 match op,x with
 | .not,.bool b=>some (.bool (!b))
 |_,_=>quietA P ρ o
def oSliceP (T:TyT) (ρ:Operand→Value) (t L o:Nat) (lo hi mx:Option Operand):Option Value:=
 match arrI T t with
 |some (n,_,te)=>match natOr 0 (lo.map ρ),natOr n (hi.map ρ),natOr n (mx.map ρ)with
  |some l,some h,some m=>match Nat.ble l h&&Nat.ble h m&&Nat.ble m n&&Nat.blt n FULL&&(hi.isSome||mx.isNone)with
   |true=>some (.slice (some ⟨L,if m=l then o else o+l*te.size,none⟩) (h-l) (m-l))
   |false=>none
  |_,_,_=>none
 |none=>none
def oSliceS (T:TyT) (ρ:Operand→Value) (t:Nat) (b:Option Addr) (n c:Nat) (lo hi mx:Option Operand):Option Value:=
 match slcI T t with
 |some (_,te)=>sliceA te.size b n c (lo.map ρ) (hi.map ρ) (mx.map ρ)
 |none=>none
def oSlice (P:Program) (T:TyT) (ρ:Operand→Value) (o:Oper) (t:Nat) (x:Value) (lo hi mx:Option Operand):Option Value:=
 match x with
 | .pointer (some ⟨L,off,none⟩)=>oSliceP T ρ t L off lo hi mx
 | .slice b n c=>oSliceS T ρ t b n c lo hi mx
 |_=>quietA P ρ o
def oFieldAddr (T:TyT) (t f:Nat) (x:Value):Option Value:=
 match asPtr x with
 |some p=>match fldI T t f with
  |some (off,tf)=>match Nat.beq tf.size 0 with
   |true=>none
   |false=>some (.pointer (some ⟨p.L,Nat.add p.o off,none⟩))
  |none=>none
 |none=>none
def oField (T:TyT) (t f:Nat) (x:Value):Option Value:=
 match asAggL x with
 |some cs=>match fldI T t f with
  |some (off,tf)=>partL tf cs off
  |none=>none
 |none=>none
def oIndexS (T:TyT) (t i:Nat) (p:SA):Option Value:=
 match slcI T t with
 |some (_,te)=>match Nat.blt i p.n with
  |true=>some (.pointer (some ⟨p.L,Nat.add p.o (Nat.mul i te.size),none⟩))
  |false=>none
 |none=>none
def oIndexP (T:TyT) (t i:Nat) (x:Value):Option Value:=
 match asPtr x with
 |some p=>match arrI T t with
  |some (n,_,te)=>match Nat.blt i n with
   |true=>some (.pointer (some ⟨p.L,Nat.add p.o (Nat.mul i te.size),none⟩))
   |false=>none
  |none=>none
 |none=>none
def oIndexAddr (T:TyT) (t:Nat) (x ix:Value):Option Value:=
 match natOf ix with
 |some i=>match asSlc x with
  |some p=>oIndexS T t i p
  |none=>oIndexP T t i x
 |none=>none
def strTy (T:TyT) (t:Nat):Bool:=match T t with
 |some ti=>match ti.d with| .string=>true|_=>false
 |none=>false
def oIndexStr (P:Program) (T:TyT) (ρ:Operand→Value) (o:Oper) (t:Nat) (x ix:Value):Option Value:=
 match asStr x with
 |some s=>match natOf ix with
  |some i=>match strTy T t with
   |true=>match nthO s.data.toList i with
    |some b=>nseq b.toNat fun m=>some (.int .u8 (.ofNat m))
    |none=>none
   |false=>none
  |none=>quietA P ρ o
 |none=>quietA P ρ o
def oIndex (P:Program) (T:TyT) (ρ:Operand→Value) (o:Oper) (t:Nat) (x ix:Value):Option Value:=
 match asAggL x with
 |some cs=>match natOf ix with
  |some i=>match arrI T t with
   |some (n,_,te)=>match Nat.blt i n with
    |true=>partL te cs (Nat.mul i te.size)
    |false=>none
   |none=>none
  |none=>none
 |none=>oIndexStr P T ρ o t x ix
def oExtract (x:Value) (i:Nat):Option Value:=match asTupL x with
 |some vs=>nthO vs i
 |none=>none
def aop0 (P:Program) (T:TyT) (ρ:Operand→Value) (o:Oper):Option Value:=
 match o.op with
 | .move x=>some (ρ x)
 | .assign x=>some (ρ x)
 | .pick c a b=>oPick (ρ c) (ρ a) (ρ b)
 | .build t parts=>oBuild T ρ t parts
 | .nilCheck x=>oNil (ρ x)
 | .unOp op _ x=>oUn P ρ o op (ρ x)
 | .makeFunc fn a b=>some (.func fn ⟨a.toList.map ρ⟩ ⟨b.toList.map ρ⟩)
 | .slice t x lo hi mx=>oSlice P T ρ o t (ρ x) lo hi mx
 | .fieldAddr t x f=>oFieldAddr T t f (ρ x)
 | .field t x f=>oField T t f (ρ x)
 | .indexAddr t x ix=>oIndexAddr T t (ρ x) (ρ ix)
 | .index t x ix=>oIndex P T ρ o t (ρ x) (ρ ix)
 | .extract t i=>oExtract (ρ t) i
 |_=>none
def oBin3 (P:Program) (T:TyT) (H:Hp) (ρ:Operand→Value) (o:Oper) (op:BinOp) (t:Nat) (u v:Value):Option Value:=
 match closedV u&&closedV v with
 |true=>quietA P ρ o
 |false=>match op with
  | .eql=>match eqA T H t u v with|some b=>some (.bool b)|none=>none
  | .neq=>match eqA T H t u v with|some b=>some (.bool (!b))|none=>none
  |_=>none
def orQ (P:Program) (ρ:Operand→Value) (o:Oper):Option Value→Option Value
 |some v=>some v
 |none=>quietA P ρ o
def eqS (op:BinOp) (a b:ByteArray):Option Value:=match op with
 | .eql=>some (.bool (strEq a b))
 | .neq=>some (.bool (!(strEq a b)))
 |_=>none
def oBin2 (P:Program) (T:TyT) (H:Hp) (ρ:Operand→Value) (o:Oper) (op:BinOp) (t:Nat) (u v:Value):Option Value:=
 match asStr u with
 |some a=>match asStr v with
  |some b=>orQ P ρ o (eqS op a b)
  |none=>none
 |none=>match asU8 u with
  |some a=>match asU8 v with
   |some b=>orQ P ρ o (cmpA op a b)
   |none=>quietA P ρ o
  |none=>oBin3 P T H ρ o op t u v
def oBin (P:Program) (T:TyT) (H:Hp) (ρ:Operand→Value) (o:Oper) (op:BinOp) (t:Nat) (u v:Value):Option Value:=
 match asI64 u with
 |some a=>match asI64 v with
  |some b=>orQ P ρ o (int64 op a b)
  |none=>quietA P ρ o
 |none=>oBin2 P T H ρ o op t u v
def oLoad (T:TyT) (H:Hp) (t:Nat) (a:Value):Option Value:=
 match asPtr a with
 |some p=>match H.at p.L with
  |some (.cells c _ _)=>match T t with
   |some ti=>partL ti c p.o
   |none=>none
  |_=>none
 |none=>none
def lookV (ok:Bool) (z:Value) (r:Option (Nat×Value×Value×Nat)):Value:=
 match ok,r with
 |true,some (_,x)=> .tuple ⟨[x.2.1,.bool true]⟩
 |true,none=> .tuple ⟨[z,.bool false]⟩
 |false,some (_,x)=>x.2.1
 |false,none=>z
def oLookup (P:Program) (T:TyT) (H:Hp) (t:Nat) (m k:Value) (ok:Bool):Option Value:=
 match mapI T t,mapA H m,closedV k with
 |some (kt,kd,_,z),some l,true=>match qv P (Instr.checkKey l.isEmpty 10000 kt k),keyAt P kd kt k l 0 with
  |some _,some r=>some (lookV ok z r)
  |_,_=>none
 |_,_,_=>none
def oLen (P:Program) (T:TyT) (H:Hp) (ρ:Operand→Value) (o:Oper) (ts:List Nat) (args:List Value):Option Value:=
 match ts,args with
 | [t],[.slice _ n _]=>match slcI T t with|some _=>some (natV n)|none=>none
 | [t],[.map m]=>match mapA H (.map m),mapI T t with
  |some l,some _=>some (.int .i64 l.length)
  |_,_=>none
 | [t],[.string s]=>match strTy T t with
  |true=>some (natV s.data.toList.length)
  |false=>none
 |_,_=>quietA P ρ o
def mmA (mx:Bool):List Value→Option Value
 | [x,y]=>match asI64 x with
  |some a=>match asI64 y with
   |some b=>match mx,ltA a b with
    |true,true=>some (.int .i64 b)
    |true,false=>some (.int .i64 a)
    |false,true=>some (.int .i64 a)
    |false,false=>some (.int .i64 b)
   |none=>none
  |none=>none
 |_=>none
def oCall1 (P:Program) (T:TyT) (H:Hp) (ρ:Operand→Value) (o:Oper) (c:Call):Option Value:=
 match c.callee with
 | .builtin .len=>oLen P T H ρ o c.argTypes.toList (c.args.toList.map ρ)
 | .builtin .min=>orQ P ρ o (mmA false (c.args.toList.map ρ))
 | .builtin .max=>orQ P ρ o (mmA true (c.args.toList.map ρ))
 |_=>quietA P ρ o
def aop1 (P:Program) (T:TyT) (H:Hp) (ρ:Operand→Value) (o:Oper):Option Value:=
 match o.op with
 | .binOp op t x y _=>oBin P T H ρ o op t (ρ x) (ρ y)
 | .load t a=>oLoad T H t (ρ a)
 | .lookup t m k ok=>oLookup P T H t (ρ m) (ρ k) ok
 | .call c=>oCall1 P T H ρ o c
 | .convert .. =>quietA P ρ o
 |_=>none
def oBuildSlice (T:TyT) (ρ:Operand→Value) (t n:Nat) (parts:Array (Nat×Operand)):Option (EBlk×MK):=
 match zelI T t with
 |some (e,te)=>match Nat.blt (n*te.size) 16777216 with
  |true=>match fillL (.arr te.size) (zerosL te.zero (n*te.size)) (parts.toList.map fun p=>(p.1,ρ p.2))with
   |some c=>some (.cells c e 1,.s n n)
   |none=>none
  |false=>none
 |none=>none
def oMakeSlice (T:TyT) (t:Nat) (l c:Value):Option (EBlk×MK):=
 match zelI T t,natOf l,natOf c with
 |some (e,te),some l,some c=>match Nat.ble l c&&Nat.blt (c*(te.bytes+1)) 1000000000 with
  |true=>some (.cells (zerosL te.zero (c*te.size)) e 1,.s l c)
  |false=>none
 |_,_,_=>none
def oAlloc (T:TyT) (t:Nat):Option (EBlk×MK):=
 match T t with
 |some ti=>match ti.zero.all closedS with
  |true=>some (.cells ti.zero t 1,.p)
  |false=>none
 |none=>none
def oMakeMap (T:TyT) (ρ:Operand→Value) (t:Nat) (r:Option Operand):Option (EBlk×MK):=
 match r with
 |none=>some (.map [] 0,.mp)
 |some x=>match mapI T t,ρ x with
  |some _,.int _ _=>some (.map [] 0,.mp)
  |_,_=>none
def oRange (T:TyT) (t:Nat) (x:Value):Option (EBlk×MK):=
 match x,strTy T t with
 | .string s,true=>some (.sit s 0,.p)
 |_,_=>none
def aop2 (T:TyT) (ρ:Operand→Value) (o:Oper):Option (EBlk×MK):=
 match o.op with
 | .alloc t=>oAlloc T t
 | .box t x=>some (.cells (ρ x).cells.toList t 1,.p)
 | .buildSlice t n parts=>oBuildSlice T ρ t n parts
 | .makeMap t r=>oMakeMap T ρ t r
 | .makeSlice t l c=>oMakeSlice T t (ρ l) (ρ c)
 | .range t x=>oRange T t (ρ x)
 |_=>none
def oStore (T:TyT) (H:Hp) (t:Nat) (a x:Value):Option AR:=
 match asPtr a with
 |some p=>match T t with
  |some ti=>match Nat.beq (lenL x.cells.toList) ti.size with
   |true=>match storeA H p.L p.o x.cells.toList with
    |some H'=>some (.skip H')
    |none=>none
   |false=>none
  |none=>none
 |none=>none
def oMapUpdate (P:Program) (T:TyT) (H:Hp) (t:Nat) (m k x:Value):Option AR:=
 match mapI T t,m with
 |some (kt,kd,_,_),.map (some L)=>match H.at L,closedV k&&labOk L,qv P (Instr.checkKey false 10000 kt k)with
  |some (.map l clk),true,some _=>match keyAt P kd kt k l 0 with
   |some none=>some (.skip (H.add L (.map (l++ [(k,x,clk)]) (clk+1))))
   |some (some (i,e))=>match Instr.sameBits 10000 e.1 k with
    |true=>some (.skip (H.add L (.map (l.set i (k,x,e.2.2)) clk)))
    |false=>none
   |none=>none
  |_,_,_=>none
 |_,_=>none
def oClear (T:TyT) (H:Hp) (ts:List Nat) (args:List Value):Option AR:=
 match ts,args with
 | [t1],[.slice b n _]=>match zelI T t1 with
  |some (_,te)=>match b with
   |none=>match n with|0=>one undef H|_=>none
   |some ⟨L,o,none⟩=>match storeA H L o (zerosL te.zero (n*te.size))with
    |some H'=>one undef H'
    |none=>none
   |_=>none
  |none=>none
 |_,_=>none
def oCopy (T:TyT) (H:Hp) (ts:List Nat) (args:List Value):Option AR:=
 match ts,args with
 | [t1,_],[.slice b n _,x]=>match slcI T t1,lenA x with
  |some (_,te),some m=>match firstA H (Nat.min m n*te.size) x with
   |some vs=>match b with
    |none=>match Nat.min m n with|0=>one (.int .i64 (.ofNat 0)) H|_=>none
    |some ⟨L,o,none⟩=>match storeA H L o vs with
     |some H'=>one (natV (Nat.min m n)) H'
     |none=>none
    |_=>none
   |none=>none
  |_,_=>none
 |_,_=>none
def oAppend (T:TyT) (H:Hp) (lab:Nat) (ts:List Nat) (args:List Value):Option AR:=
 match ts,args with
 | [t1,t2],[s,x]=>appendA T H lab t1 t2 s x
 |_,_=>none
def oCallV (f:Value) (args:List Value):Option AR:=
 match f with
 | .func (.func g) a b=>some (.call g (appL a.toList (appL args b.toList)))
 |_=>none
def oCall (T:TyT) (H:Hp) (lab:Nat) (ρ:Operand→Value) (c:Call):Option AR:=
 match c.callee with
 | .value f=>oCallV (ρ f) (c.args.toList.map ρ)
 | .builtin .append=>oAppend T H lab c.argTypes.toList (c.args.toList.map ρ)
 | .builtin .clear=>oClear T H c.argTypes.toList (c.args.toList.map ρ)
 | .builtin .copy=>oCopy T H c.argTypes.toList (c.args.toList.map ρ)
 |_=>none
def aop3 (P:Program) (T:TyT) (H:Hp) (lab:Nat) (ρ:Operand→Value) (o:Oper):Option AR:=
 match o.op with
 | .store t a x=>oStore T H t (ρ a) (ρ x)
 | .mapUpdate t m k x=>oMapUpdate P T H t (ρ m) (ρ k) (ρ x)
 | .insert t m k x=>oMapUpdate P T H t (ρ m) (ρ k) (ρ x)
 | .call c=>oCall T H lab ρ c
 |_=>none
def oneO (v:Option Value) (H:Hp):Option AR:=match v with
 |some v=>some (.val v H)
 |none=>none
def aopNew (T:TyT) (H:Hp) (lab:Nat) (ρ:Operand→Value) (o:Oper):Option AR:=
 match aop2 T ρ o,labOk lab with
 |some (b,m),true=>one (m.at lab) (H.add lab b)
 |_,_=>none
def aop (P:Program) (T:TyT) (H:Hp) (lab:Nat) (ρ:Operand→Value) (o:Oper):Option AR:=
 match kindOf o.op with
 |0=>oneO (aop0 P T ρ o) H
 |1=>oneO (aop1 P T H ρ o) H
 |2=>aopNew T H lab ρ o
 |_=>aop3 P T H lab ρ o
end
end Go.Proofs.YtcbcegdidlefiaaGreat
