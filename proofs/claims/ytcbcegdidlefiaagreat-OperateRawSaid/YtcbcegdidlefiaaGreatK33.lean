/- A run with known data: code and calls, the theorem. Conditions: as each theorem says. A run with known data, in this program. Conditions: as each theorem says. A run with known data, in pieces: a call whose outcome is known is not followed again. Conditions: as each theorem says. The square roots, for the run with known data. Conditions: as each theorem says. -/
import Derived.Test.YtcbcegdidlefiaaGreatK32
import Derived.Test.YtcbcegdidlefiaaGreatProg
import Derived.Test.YtcbcegdidlefiaaGreatK11
namespace Go.Proofs.YtcbcegdidlefiaaGreat
section
open Go.RowKit
def loopW (P:Program) (c:Code) (Q:Exit→Act→World→Prop) (a:Act) (w:World):Prop:=
 ∀(b:Frame) (k:List Item) (cs:List Frame),∃e a' w',Q e a' w'∧Arrives P (lone (b.at a (.code c:: .inLoop c::k)) cs w) b k cs e a' w'
theorem loopW_wp {P:Program} {c:Code} {Q:Exit→Act→World→Prop} {a:Act} {w:World} (h:loopW P c Q a w):(Code.loop c).wp P Q a w:=
 fun b k cs=>let⟨e,a',w',q,r⟩:=h b k cs;⟨e,a',w',q,.of_steps (.one step_loop) r⟩
theorem loopW_step {P:Program} {c:Code} {Q:Exit→Act→World→Prop} {a:Act} {w:World} (h:c.wp P (Exit.then (loopW P c Q) Q) a w):loopW P c Q a w:=by
 intro b k cs
 obtain⟨e,a₁,w₁,hq,harr⟩:=h b (.inLoop c::k) cs
 cases e with
 |normal=>
  obtain⟨e₂,a₂,w₂,hq₂,harr₂⟩:=hq b k cs
  exact⟨e₂,a₂,w₂,hq₂,.of_steps (Steps.trans harr (.one step_inLoop)) harr₂⟩
 |exit id=>exact⟨_,a₁,w₁,hq,.pass (x:= .inLoop c) rfl (fun _ _=> .inl (by simp)) harr⟩
 |goto l=>exact⟨_,a₁,w₁,hq,.pass (x:= .inLoop c) rfl (fun _ _=> .inl (by simp)) harr⟩
 |ret=>exact⟨_,a₁,w₁,hq,.pass (x:= .inLoop c) rfl (fun _ _=> .inl (by simp)) harr⟩
 |panic ch=>exact⟨_,a₁,w₁,hq,.pass (x:= .inLoop c) rfl (fun _ _=> .inl (by simp)) harr⟩
 |outgrown=>exact⟨_,a₁,w₁,hq,.pass (x:= .inLoop c) rfl (fun _ _=> .inl (by simp)) harr⟩
def codeW (P:Program) (c:Code) (Q:Exit→Act→World→Prop) (a:Act) (w:World):Prop:=c.wp P Q a w∧∀b,c= .loop b→loopW P b Q a w
def OutP (C:Foot) (w0:World) (N:Nat) (s:Sg) (n:Nat) (Q:Exit→Act→World→Prop):Out→Prop
 | .bad=>False
 | .nrm T' H' n'=>∀s' a' w',SR C w0 N s' T' H' n' a' w'→Up s s' n n'→Q .normal a' w'
 | .ext id T' H' n'=>∀s' a' w',SR C w0 N s' T' H' n' a' w'→Up s s' n n'→Q (.exit id) a' w'
 | .ret T' H' n'=>∀s' a' w',SR C w0 N s' T' H' n' a' w'→Up s s' n n'→Q .ret a' w'
section
variable {E:Env} {C:Foot} {w0:World}
theorem OutP.up {N:Nat} {s s1:Sg} {n n1:Nat} {Q:Exit→Act→World→Prop} {out:Out} (h:OutP C w0 N s n Q out) (u:Up s s1 n n1):OutP C w0 N s1 n1 Q out:=by
 cases out with
 |bad=>exact h
 |nrm T' H' n'=>exact fun s' a' w' h1 h2=>h s' a' w' h1 (u.trans h2)
 |ext id T' H' n'=>exact fun s' a' w' h1 h2=>h s' a' w' h1 (u.trans h2)
 |ret T' H' n'=>exact fun s' a' w' h1 h2=>h s' a' w' h1 (u.trans h2)
def Good (E:Env) (C:Foot) (w0:World) (rec:Rec):Prop:=
 ∀c T H n N s a w,SR C w0 N s T H n a w→codeTop c≤N→∀Q:Exit→Act→World→Prop,OutP C w0 N s n Q (rec c T H n)→codeW E.P c Q a w
def resSem (tmps:Array Value):ResultVar→Sem Value
 | .tmp t=>pure (tmps.getD t undef)
 | .cell x t=>do loadVar t (←asAddr (tmps.getD x undef))
theorem results_eq (fn:Func) (tmps:Array Value):results fn tmps=(do
  let vs←fn.results.mapM (resSem tmps)
  pure (if h:vs.size=1 then vs[0]else .tuple vs)):=by
 unfold results
 have e:(fun x:ResultVar=>match x with
  | .tmp t=>(pure (tmps.getD t undef):Sem Value)
  | .cell a t=>do loadVar t (←asAddr (tmps.getD a undef)))=resSem tmps:=by
  funext x
  cases x<;>rfl
 rw[←e]
 rfl
theorem resA_ok (hE:EOk E C w0) {s:Sg} {H:Hp} {w:World} (r:Rel C w0 s H w) {T:List Value} {a:Act} (hv:VL s T a.tmps.toList):∀(res:List ResultVar) (l:List Value),resA E.T H T res=some l→
  ∃vs:List Value,(res.mapM (resSem a.tmps)).run E.P w= .ok vs w∧VL s l vs
 | [],l,h=>by
  simp[resA]at h
  subst h
  exact⟨[],rfl,VL.nil⟩
 | .tmp x::res,l,h=>by
  simp only[resA]at h
  split at h
  ·rename_i l' hl
   cases h
   obtain⟨vs,h1,h2⟩:=resA_ok hE r hv res l' hl
   refine⟨a.tmps.getD x undef::vs,?_,VL.cons ?_ h2⟩
   ·simp[List.mapM_cons,h1,resSem]
   ·have:=hv.nthV x
    simpa[Array.getD_eq_getD_getElem?,List.getD_eq_getElem?_getD]using this
  ·cases h
 | .cell x t::res,l,h=>by
  simp only[resA]at h
  split at h
  ·rename_i v l' ho hl
   cases h
   obtain⟨vs,h1,h2⟩:=resA_ok hE r hv res l' hl
   have hx:=hv.nthV x
   unfold oLoad at ho
   split at ho
   ·rename_i p hp
    obtain⟨i,hi,hx'⟩:=asPtr_rel hp hx
    split at ho
    ·rename_i c e es hH
     split at ho
     ·rename_i ti hti
      obtain⟨v',q1,q2⟩:=load_ok hE.T r hti hi hH ho
      refine⟨v'::vs,?_,VL.cons q2 h2⟩
      have hx2:a.tmps.getD x undef= .pointer (some ⟨i.bl,p.o,none⟩):=by
       rw[←hx']
       simp[Array.getD_eq_getD_getElem?,List.getD_eq_getElem?_getD]
      simp only[List.mapM_cons,resSem,Sem.run_bind,hx2,asAddr,Sem.run_pure,Result.andThen_ok,q1,h1]
     ·cases ho
    ·cases ho
   ·cases ho
  ·cases h
theorem results_ok {P:Program} {fn:Func} {tmps:Array Value} {w:World} {l vs:List Value} {s:Sg} (h:(fn.results.toList.mapM (resSem tmps)).run P w= .ok vs w) (hv:VL s l vs):∃v',(results fn tmps).run P w= .ok v' w∧VR s (oneOrTuple l) v':=by
 refine⟨if h:vs.toArray.size=1 then vs.toArray[0]else .tuple vs.toArray,?_,?_⟩
 ·rw[results_eq,Array.mapM_eq_mapM_toList]
  simp only[Sem.run_bind,Sem.run_map,h,Result.andThen_ok,Sem.run_pure]
 ·have hl:=hv.1
  cases l with
  |nil=>
   have:vs=[]:=List.eq_nil_of_length_eq_zero hl.symm
   subst this
   exact VR.tupL hv
  |cons x l'=>cases l' with
   |nil=>
    obtain⟨x',q,_⟩:=arr1 (a:=vs.toArray) (by simpa using hv) rfl
    have:vs=[x']:=by
     have:=congrArg Array.toList q
     simpa using this
    subst this
    exact hv.head
   |cons y l''=>
    have:¬vs.toArray.size=1:=by simp;simp at hl;omega
    rw[dif_neg this]
    exact VR.tupL hv
theorem call_ok (hE:EOk E C w0) {rec:Rec} (hg:Good E C w0 rec):∀f args H n v H' n',evCall E rec f args H n= .ok v H' n'→∀s (args':Array Value) w,Rel C w0 s H w→VL s args args'.toList→(∀L,n≤L→s L=none)→CallOk E C w0 s n f args' w v H' n':=by
 intro f args H n v H' n' h s args' w r hv hl
 unfold evCall at h
 split at h
 ·rename_i v1 H1 n1 hu
  cases h
  exact hE.hook f args H n v H' n' hu s args' w r hv hl
 ·split at h
  ·cases h
  ·rename_i fi hfi
   obtain⟨fn,f1,f2,f3,f4,f5,f6⟩:=hE.F f fi hfi
   refine⟨⟨fi,hfi⟩,?_⟩
   rw[appL_eq,lenL_eq]at h
   have hund:∀k,VL s (List.replicate k undef) (List.replicate k undef):=fun k=>⟨rfl,fun i x x' a b=>by
    rw[a]at b;cases b
    have:=List.eq_of_mem_replicate (List.mem_of_getElem? a)
    subst this
    exact .tuple _ _ rfl (by simp)⟩
   have hlen:args.length=args'.size:=by have:=hv.1;simpa using this
   have hsr:SR C w0 (args++List.replicate (fi.nt-args.length) undef).length s (args++List.replicate (fi.nt-args.length) undef) H n {tmps:=args'++Array.replicate (fn.ntmps-args'.size) undef,defers:=[]} w:=by
    refine⟨r,?_,rfl,rfl,hl⟩
    have:=hv.append (hund (fi.nt-args.length))
    rw[f2,←hlen]
    simpa using this
   have hbody:∀T1 H1 n1,retA E.T T1 H1 n1 fi.res= .ok v H' n'→∀s' (a':Act) w',SR C w0 (args++List.replicate (fi.nt-args.length) undef).length s' T1 H1 n1 a' w'→Up s s' n n1→
     a'.defers=[]∧∃v',(results fn a'.tmps).run E.P w'= .ok v' w'∧∃s'' v'',(Ending.returned v')= .returned v''∧VR s'' v v''∧Rel C w0 s'' H' w'∧Up s s'' n n'∧∀L,n'≤L→s'' L=none:=by
    intro T1 H1 n1 hr s' a' w' hs' hu
    unfold retA at hr
    split at hr
    ·rename_i l hl'
     cases hr
     obtain⟨vs,h1,h2⟩:=resA_ok hE hs'.rel hs'.tmp fi.res l hl'
     rw[←f3]at h1
     obtain⟨v',g1,g2⟩:=results_ok h1 h2
     exact⟨hs'.dfr,v',g1,s',v',rfl,g2,hs'.rel,hu,hs'.lab⟩
    ·cases hr
   refine calls_of_wp f1 f4 (hg fi.body _ H n _ s _ w hsr (by simp;omega) _ ?_).1
   unfold backA at h
   split at h
   ·rename_i T1 H1 n1 ho
    rw[ho]
    exact fun s' a' w' h1 h2=>hbody T1 H1 n1 h s' a' w' h1 h2
   ·rename_i T1 H1 n1 ho
    rw[ho]
    exact fun s' a' w' h1 h2=>hbody T1 H1 n1 h s' a' w' h1 h2
   ·cases h
theorem evSeq_form {rec:Rec} {l:List Oper}:∀(r:List Oper) (T:List Value) (H:Hp) (n:Nat),evSeq E rec l r T H n= .bad∨∃T' H' n',evSeq E rec l r T H n= .nrm T' H' n'
 | [],T,H,n=> .inr ⟨T,H,n,rfl⟩
 |o::r,T,H,n=>by
  simp only[evSeq]
  split
  ·exact .inl rfl
  ·split
   ·exact evSeq_form r _ _ _
   ·split
    ·exact evSeq_form r _ _ _
    ·exact .inl rfl
theorem evDraw_form {rec:Rec} {ops:Array Oper} {T:List Value} {H:Hp} {n:Nat}:evDraw E rec ops T H n= .bad∨∃T' H' n',evDraw E rec ops T H n= .nrm T' H' n':=by
 unfold evDraw
 split
 ·exact .inl rfl
 ·split
  ·exact .inr ⟨_,_,_,rfl⟩
  ·exact .inl rfl
theorem good_step (hE:EOk E C w0) {rec:Rec} (hg:Good E C w0 rec):Good E C w0 (evStep E rec):=by
 intro c T H n N s a w hs hc Q hQ
 cases c with
 |skip=>exact⟨wp_skip (hQ s a w hs (Up.refl s n)),fun b e=>by cases e⟩
 |label l=>exact⟨wp_label (hQ s a w hs (Up.refl s n)),fun b e=>by cases e⟩
 |exit id=>exact⟨wp_exit (hQ s a w hs (Up.refl s n)),fun b e=>by cases e⟩
 |ret=>exact⟨wp_ret (hQ s a w hs (Up.refl s n)),fun b e=>by cases e⟩
 |seq x y=>
  refine⟨wp_seq (hg x T H n N s a w hs (Nat.le_trans (Nat.le_max_left _ _) hc) _ ?_).1,fun b e=>by cases e⟩
  have hQ':OutP C w0 N s n Q (thenA rec y (rec x T H n)):=hQ
  generalize rec x T H n=out at hQ'⊢
  cases out with
  |bad=>exact hQ'
  |nrm T1 H1 n1=>exact fun s1 a1 w1 h1 h2=>(hg y T1 H1 n1 N s1 a1 w1 h1 (Nat.le_trans (Nat.le_max_right _ _) hc) Q (OutP.up (out:=rec y T1 H1 n1) hQ' h2)).1
  |ext id T1 H1 n1=>exact hQ'
  |ret T1 H1 n1=>exact hQ'
 |cond x y z=>
  have hQ':OutP C w0 N s n Q (condA rec y z T H n (evT T x)):=hQ
  have hx:∀b,evT T x= .bool b→a.eval x= .bool b:=by
   intro b hb
   cases x with
   |tmp t=>
    have:=hs.tmp.nthV t
    simp only[evT]at hb
    rw[hb]at this
    have e:a.eval (.tmp t)=a.tmps.toList.getD t undef:=by simp[Act.eval,Array.getD_eq_getD_getElem?,List.getD_eq_getElem?_getD]
    rw[e]
    generalize a.tmps.toList.getD t undef=u at this
    cases this
    rfl
   |const v=>exact hb
   |global g=>cases hb
   |func f=>cases hb
  unfold condA at hQ'
  split at hQ'
  ·rename_i hb
   exact⟨wp_cond_true (hx _ hb) (hg y T H n N s a w hs (Nat.le_trans (Nat.le_max_left _ _) hc) Q hQ').1,fun b e=>by cases e⟩
  ·rename_i hb
   exact⟨wp_cond_false (hx _ hb) (hg z T H n N s a w hs (Nat.le_trans (Nat.le_max_right _ _) hc) Q hQ').1,fun b e=>by cases e⟩
  ·exact hQ'.elim
 |block id x=>
  refine⟨wp_block (hg x T H n N s a w hs hc _ ?_).1,fun b e=>by cases e⟩
  have hQ':OutP C w0 N s n Q (blkA id (rec x T H n)):=hQ
  generalize rec x T H n=out at hQ'⊢
  cases out with
  |bad=>exact hQ'
  |nrm T1 H1 n1=>exact hQ'
  |ret T1 H1 n1=>exact hQ'
  |ext j T1 H1 n1=>
   simp only[blkA]at hQ'
   split at hQ'
   ·rename_i hj
    have hj':j=id:=by simpa using hj
    subst hj'
    intro s' a' w' h1 h2
    simp only[Exit.inBlock,if_true]
    exact hQ' s' a' w' h1 h2
   ·rename_i hj
    have hj':j≠id:=by intro e;subst e;simp at hj
    intro s' a' w' h1 h2
    simp only[Exit.inBlock,hj',if_false]
    exact hQ' s' a' w' h1 h2
 |loop x=>
  have hl:loopW E.P x Q a w:=by
   refine loopW_step (hg x T H n N s a w hs hc _ ?_).1
   have hQ':OutP C w0 N s n Q (thenA rec (.loop x) (rec x T H n)):=hQ
   generalize rec x T H n=out at hQ'⊢
   cases out with
   |bad=>exact hQ'
   |nrm T1 H1 n1=>exact fun s1 a1 w1 h1 h2=>(hg (.loop x) T1 H1 n1 N s1 a1 w1 h1 hc Q (OutP.up (out:=rec (.loop x) T1 H1 n1) hQ' h2)).2 x rfl
   |ext id T1 H1 n1=>exact hQ'
   |ret T1 H1 n1=>exact hQ'
  refine⟨loopW_wp hl,fun b e=> ?_⟩
  cases e
  exact hl
 |region id ops d=>
  refine⟨?_,fun b e=>by cases e⟩
  have hcall:=call_ok hE hg
  have htop:topDst ops.toList≤T.length:=by rw[hs.len];exact hc
  cases d with
  |false=>
   have hQ':OutP C w0 N s n Q (evSeqF E rec ops.toList T ops.toList 0 [] H n):=hQ
   rw[evSeqF_eq htop ops.toList 0 [] T H n (fun k=>by simp) ⟨rfl,fun t=>by rw[srcOf_zero]⟩]at hQ'
   refine wp_region_list ?_
   rcases evSeq_form (E:=E) (rec:=rec) (l:=ops.toList) ops.toList T H n with e|⟨T',H',n',e⟩
   ·rw[e]at hQ';exact hQ'.elim
   ·rw[e]at hQ'
    exact evSeq_ok hE hcall ops ops.toList T H n T' H' n' e s a w hs hQ'
  |true=>
   have hQ':OutP C w0 N s n Q (evDraw E rec ops T H n):=hQ
   rcases evDraw_form (E:=E) (rec:=rec) (ops:=ops) (T:=T) (H:=H) (n:=n)with e|⟨T',H',n',e⟩
   ·rw[e]at hQ';exact hQ'.elim
   ·rw[e]at hQ'
    exact evDraw_ok hE hcall ops e hs hQ'
 |rangeFunc f p x y=>exact hQ.elim
 |scope x=>exact hQ.elim
 |goto l=>exact hQ.elim
 |refuse y=>exact hQ.elim
theorem good_ev (hE:EOk E C w0):∀fuel,Good E C w0 (ev E fuel)
 |0=>fun _ _ _ _ _ _ _ _ _ _ _ hQ=>hQ.elim
 |fuel+1=>good_step hE (good_ev hE fuel)
theorem run_ok (hE:EOk E C w0) {fuel f:Nat} {args:List Value} {H:Hp} {n:Nat} {v:Value} {H':Hp} {n':Nat} (h:run E fuel f args H n= .ok v H' n') {s:Sg} {args':Array Value} {w:World} (r:Rel C w0 s H w) (hv:VL s args args'.toList) (hl:∀L,n≤L→s L=none):
 CallOk E C w0 s n f args' w v H' n':=call_ok hE (good_ev hE fuel) f args H n v H' n' h s args' w r hv hl
end
end
section
open Go.RowKit
def fnOf (P:Program) (f:Nat):Option FI:=
 match P.funcs[f]? with
 |some fn=>match fn.body with
  |some b=>match Nat.ble (codeTop b) fn.ntmps&& !(fn.name== "runtime.NumGoroutine")with
   |true=>some ⟨fn.ntmps,fn.results.toList,b⟩
   |false=>none
  |none=>none
 |none=>none
def envP (P:Program) (hook:Nat→List Value→Hp→Nat→Option (Value×Hp×Nat)):Env where
 P:=P
 T:=mkTI P
 F:=fnOf P
 hook:=hook
theorem fnOf_ok {P:Program} {f:Nat} {fi:FI} (h:fnOf P f=some fi):∃fn,P.funcs[f]? =some fn∧fn.ntmps=fi.nt∧fn.results.toList=fi.res∧fn.body=some fi.body∧(fn.name== "runtime.NumGoroutine")=false∧codeTop fi.body≤fi.nt:=by
 unfold fnOf at h
 split at h
 ·rename_i fn hf
  split at h
  ·rename_i b hb
   split at h
   ·rename_i hc
    cases h
    simp only[Bool.and_eq_true,Nat.ble_eq,Bool.not_eq_true']at hc
    exact⟨fn,hf,rfl,rfl,hb,hc.2,hc.1⟩
   ·cases h
  ·cases h
 ·cases h
structure InvOk (I:Foot→World→Prop):Prop where
 next:∀C C' w0 w,I C w0→Keeps C w0 w→(∀x,x<w0.heap.size→C' x→C x)→I C' w
def allW:Foot→World→Prop:=fun _ _=>True
theorem allW_ok:InvOk allW:=⟨fun _ _ _ _ _ _ _=>trivial⟩
def HookOk (P:Program) (I:Foot→World→Prop) (hook:Nat→List Value→Hp→Nat→Option (Value×Hp×Nat)):Prop:=∀f args H n v H' n',hook f args H n=some (v,H',n')→(∃fi,fnOf P f=some fi)∧∀(C:Foot) (w0:World) (s:Sg) (args':Array Value) (w:World),I C w0→Rel C w0 s H w→VL s args args'.toList→(∀L,n≤L→s L=none)→
 Calls P f args' w fun e w'=>∃s' v',e= .returned v'∧VR s' v v'∧Rel C w0 s' H' w'∧Up s s' n n'∧∀L,n'≤L→s' L=none
theorem envP_ok {P:Program} {I:Foot→World→Prop} {C:Foot} {w0:World} (hm:P.follows .mixedOrders=true) {hook:Nat→List Value→Hp→Nat→Option (Value×Hp×Nat)} (h:HookOk P I hook) (hi:I C w0):EOk (envP P hook) C w0 where
 T:=fun _ _ h=>h
 mixed:=hm
 F:=fun _ _ h=>fnOf_ok h
 hook:=fun f args H n v H' n' hk s args' w r hv hl=>⟨(h f args H n v H' n' hk).1,(h f args H n v H' n' hk).2 C w0 s args' w hi r hv hl⟩
theorem run_true {P:Program} {I:Foot→World→Prop} (hm:P.follows .mixedOrders=true) {hook:Nat→List Value→Hp→Nat→Option (Value×Hp×Nat)} (hh:HookOk P I hook) {fuel f:Nat} (h:(run (envP P hook) fuel f [] .nil 0).yes=true) (w:World) (hi:I (fun _=>False) w):
  Calls P f #[] w fun e w'=>e= .returned (.bool true)∧KeepsAll w w':=by
 generalize hr:run (envP P hook) fuel f [] .nil 0=out at h
 cases out with
 |bad=>cases h
 |ok v H' n'=>
  have hv:v= .bool true:=by
   unfold Ov.yes at h
   split at h
   ·rename_i hq;cases hq;rfl
   ·cases h
  subst hv
  have:=(run_ok (C:=fun _=>False) (w0:=w) (envP_ok hm hh hi) hr (s:=fun _=>none) (args':= #[]) (w:=w) ⟨Keeps.refl _ w,fun L i b h=>(by cases h),fun L L' i i' b b' h=>(by cases h)⟩ VL.nil (fun _ _=>rfl)).2
  refine this.mono ?_
  rintro e w' ⟨s',v',rfl,g1,g2,_⟩
  cases g1
  exact⟨rfl,g2.keep⟩
theorem mixed_ok:Tryz.prog.follows .mixedOrders=true:=by kernel_rfl
end
section
open Go.RowKit
structure Cut where
 f:Nat
 n:Nat
 args:List Value
 pre:List (Nat×EBlk)
 v:Value
 post:List (Nat×EBlk)
 n2:Nat
 frame:List Nat
def entEq:List (Value×Value×Nat)→List (Value×Value×Nat)→Bool
 | [],[]=>true
 |a::r,b::q=>veqA a.1 b.1&&veqA a.2.1 b.2.1&&Nat.beq a.2.2 b.2.2&&entEq r q
 |_,_=>false
def blkEqM:EBlk→EBlk→Bool
 | .map a c,.map b d=>entEq a b&&Nat.beq c d
 |a,b=>blkEq a b
theorem entEq_eq:∀a b,entEq a b=true→a=b
 | [],[],_=>rfl
 | [],_::_,h=>by simp[entEq]at h
 |_::_,[],h=>by simp[entEq]at h
 |(a,b,c)::r,(a',b',c')::q,h=>by
  simp only[entEq,Bool.and_eq_true,Nat.beq_eq]at h
  obtain⟨⟨⟨h1,h2⟩,h3⟩,h4⟩:=h
  rw[veqA_eq h1,veqA_eq h2,h3,entEq_eq r q h4]
theorem blkEqM_eq {a b:EBlk} (h:blkEqM a b=true):a=b:=by
 unfold blkEqM at h
 split at h
 ·simp only[Bool.and_eq_true,Nat.beq_eq]at h
  rw[entEq_eq _ _ h.1,h.2]
 ·exact blkEq_eq h
def addAll (l:List (Nat×EBlk)) (H:Hp):Hp:=l.foldr (fun p H=>H.add p.1 p.2) H
def keepAll (H0:Hp) (l:List Nat) (H:Hp):Hp:=l.foldr (fun L H=>match H0.at L with|some b=>H.add L b|none=>H) H
def labsOk (l:List (Nat×EBlk)):Bool:=l.all fun p=>labOk p.1
def hasAll (H:Hp) (l:List (Nat×EBlk)):Bool:=l.all fun p=>match H.at p.1 with|some b=>blkEqM b p.2|none=>false
def chkOut (c:Cut):Ov→Bool
 | .ok v H n=>veq v c.v&&Nat.beq n c.n2&&hasAll H c.post
 | .bad=>false
def cutOk (c:Cut):Bool:=labsOk c.pre&&labsOk c.post&&c.frame.all (fun L=>labOk L&&Nat.blt L c.n&&c.pre.all fun p=> !Nat.beq p.1 L)
abbrev Hook:=Nat→List Value→Hp→Nat→Option (Value×Hp×Nat)
def cutHit (c:Cut) (f:Nat) (args:List Value) (H:Hp) (n:Nat):Bool:=Nat.beq f c.f&&Nat.beq n c.n&&veqL veqA args c.args&&hasAll H c.pre
def cutHook (c:Cut) (next:Hook):Hook:=fun f args H n=>
 match Nat.beq f c.f&&Nat.beq n c.n with
 |false=>next f args H n
 |true=>match cutHit c f args H n with
  |true=>some (c.v,keepAll H c.frame (addAll c.post .nil),c.n2)
  |false=>next f args H n
theorem addAll_at {H:Hp}:∀(l:List (Nat×EBlk)),labsOk l=true→∀L b,(addAll l H).at L=some b→(L,b)∈l∨((∀x,(L,x)∉l)∧H.at L=some b)
 | [],_,L,b,h=> .inr ⟨by simp,h⟩
 |p::l,hl,L,b,h=>by
  simp only[labsOk,List.all_cons,Bool.and_eq_true]at hl
  have h':((addAll l H).add p.1 p.2).at L=some b:=h
  rw[Hp.at_add hl.1]at h'
  by_cases e:L=p.1
  ·rw[if_pos e]at h'
   cases h'
   exact .inl (by rw[e];simp)
  ·rw[if_neg e]at h'
   rcases addAll_at l hl.2 L b h' with h2|⟨h2,h3⟩
   ·exact .inl (by simp[h2])
   ·refine .inr ⟨fun x hx=> ?_,h3⟩
    rcases List.mem_cons.1 hx with rfl|hx
    ·exact e rfl
    ·exact h2 x hx
theorem keepAll_at {H0 H:Hp}:∀(l:List Nat),(l.all labOk)=true→∀L b,(keepAll H0 l H).at L=some b→(L∈l∧H0.at L=some b)∨H.at L=some b
 | [],_,L,b,h=> .inr h
 |M::l,hl,L,b,h=>by
  simp only[List.all_cons,Bool.and_eq_true]at hl
  have h':(match H0.at M with|some b=>(keepAll H0 l H).add M b|none=>keepAll H0 l H).at L=some b:=h
  cases e:H0.at M with
  |none=>
   rw[e]at h'
   rcases keepAll_at l hl.2 L b h' with⟨h1,h2⟩|h1
   ·exact .inl ⟨by simp[h1],h2⟩
   ·exact .inr h1
  |some x=>
   rw[e]at h'
   simp only at h'
   rw[Hp.at_add hl.1]at h'
   by_cases e2:L=M
   ·rw[if_pos e2]at h'
    cases h'
    exact .inl ⟨by simp[e2],by rw[e2];exact e⟩
   ·rw[if_neg e2]at h'
    rcases keepAll_at l hl.2 L b h' with⟨h1,h2⟩|h1
    ·exact .inl ⟨by simp[h1],h2⟩
    ·exact .inr h1
theorem hasAll_at {H:Hp} {l:List (Nat×EBlk)} (h:hasAll H l=true) {L:Nat} {b:EBlk} (hm:(L,b)∈l):H.at L=some b:=by
 have:=List.all_eq_true.1 h _ hm
 simp only at this
 split at this
 ·rename_i x hx;rw[hx,blkEqM_eq this]
 ·cases this
theorem cut_ok {P:Program} {I:Foot→World→Prop} (hI:InvOk I) (hm:P.follows .mixedOrders=true) {hook next:Hook} (hk:HookOk P I hook) (hn:HookOk P I next) (c:Cut) (fuel:Nat) (hc:cutOk c=true)
  (h:chkOut c (run (envP P hook) fuel c.f c.args (addAll c.pre .nil) c.n)=true):HookOk P I (cutHook c next):=by
 intro f args H n v H' n' hh
 unfold cutHook at hh
 split at hh
 ·exact hn f args H n v H' n' hh
 split at hh
 case h_2=>exact hn f args H n v H' n' hh
 rename_i hhit
 cases hh
 unfold cutHit at hhit
 simp only[Bool.and_eq_true,Nat.beq_eq]at hhit
 obtain⟨⟨⟨rfl,rfl⟩,h3⟩,h4⟩:=hhit
 have hargs:args=c.args:=veqL_eq (fun _ _=>veqA_eq) _ _ h3
 subst hargs
 generalize hr:run (envP P hook) fuel c.f c.args (addAll c.pre .nil) c.n=out at h
 cases out with
 |bad=>cases h
 |ok v1 H1 n1=>
  simp only[chkOut,Bool.and_eq_true,Nat.beq_eq]at h
  obtain⟨⟨g1,g2⟩,g3⟩:=h
  have g1':=veq_eq g1
  subst g1'
  subst g2
  simp only[cutOk,Bool.and_eq_true]at hc
  obtain⟨⟨c1,c2⟩,c3⟩:=hc
  have hfr:∀L∈c.frame,labOk L=true∧L<c.n∧∀x,(L,x)∉c.pre:=by
   intro L hL
   have:=List.all_eq_true.1 c3 L hL
   simp only[Bool.and_eq_true]at this
   refine⟨this.1.1,by simpa using this.1.2,fun x hx=> ?_⟩
   have:=List.all_eq_true.1 this.2 _ hx
   simp at this
  have hpre:∀L b,(addAll c.pre .nil).at L=some b→(L,b)∈c.pre∧H.at L=some b:=by
   intro L b hb
   rcases addAll_at c.pre c1 L b hb with h9|⟨_,h9⟩
   ·exact⟨h9,hasAll_at h4 h9⟩
   ·cases h9
  have key:∀(C:Foot) (w0:World) (s:Sg) (args':Array Value) (w:World),I C w0→Rel C w0 s H w→VL s c.args args'.toList→(∀L,c.n≤L→s L=none)→CallOk (envP P hook) C w0 s c.n c.f args' w c.v (keepAll H c.frame (addAll c.post .nil)) c.n2:=by
   intro C w0 s args' w hi r hv hl
   let C':Foot:=fun b=>∃L i,s L=some i∧(∃x,(addAll c.pre .nil).at L=some x)∧i.bl=b
   have hC:∀x,x<w0.heap.size→C' x→C x:=by
    rintro x hx ⟨L,i,h1,⟨y,h2⟩,rfl⟩
    exact(r.live L i y h1 (hpre L y h2).2).1 hx
   have r0:Rel C' w s (addAll c.pre .nil) w:=⟨Keeps.refl _ w,fun L i b h1 h2=>⟨fun _=>⟨L,i,h1,⟨b,h2⟩,rfl⟩,(r.live L i b h1 (hpre L b h2).2).2⟩,fun L L' i i' b b' h1 h2 h3 h4=>r.inj L L' i i' b b' h1 h2 (hpre L b h3).2 (hpre L' b' h4).2⟩
   obtain⟨hfi,hcalls⟩:=run_ok (envP_ok hm hk (hI.next C C' w0 w hi r.keep hC)) hr r0 hv hl
   refine⟨hfi,hcalls.mono ?_⟩
   rintro e w' ⟨s',v',rfl,q1,q2,q3,q4⟩
   refine⟨s',v',rfl,q1,?_,q3,q4⟩
   have hat:∀L b,(keepAll H c.frame (addAll c.post .nil)).at L=some b→(H1.at L=some b)∨(L∈c.frame∧H.at L=some b):=by
    intro L b hb
    rcases keepAll_at c.frame (List.all_eq_true.2 fun L hL=>(hfr L hL).1) L b hb with h9|h9
    ·exact .inr h9
    ·rcases addAll_at c.post c2 L b h9 with h9|⟨_,h9⟩
     ·exact .inl (hasAll_at g3 h9)
     ·cases h9
   have cross:∀L M i j b x,s' L=some i→H1.at L=some b→M∈c.frame→H.at M=some x→s M=some j→i.bl≠j.bl:=by
    intro L M i j b x h1 h2 h3 h4 h5 he
    have hlt:=(r.live M j x h5 h4).2.lt
    obtain⟨K,kk,k1,⟨y,k2⟩,k3⟩:=(q2.live L i b h1 h2).1 (by rw[he];exact hlt)
    obtain⟨k4,k5⟩:=hpre K y k2
    have:=r.inj K M kk j y x k1 h5 k5 h4 (k3.trans he)
    subst this
    exact(hfr K h3).2.2 y k4
   refine⟨r.keep.trans q2.keep hC,?_,?_⟩
   ·intro L i b h1 h2
    rcases hat L b h2 with h9|⟨h9,h10⟩
    ·obtain⟨l1,l2⟩:=q2.live L i b h1 h9
     exact⟨fun hx=>hC _ hx (l1 (Nat.lt_of_lt_of_le hx r.keep.size)),l2⟩
    ·have hs:s L=some i:=by rw[←q3.low L (hfr L h9).2.1];exact h1
     obtain⟨l1,l2⟩:=r.live L i b hs h10
     refine⟨l1,l2.mono q3.le (q2.keep.block _ l2.lt ?_)⟩
     rintro⟨K,kk,k1,⟨y,k2⟩,k3⟩
     obtain⟨k4,k5⟩:=hpre K y k2
     have:=r.inj K L kk i y b k1 hs k5 h10 k3
     subst this
     exact(hfr K h9).2.2 y k4
   ·intro L M i j b x h1 h2 h3 h4 he
    rcases hat L b h3 with h9|⟨h9,h10⟩<;>rcases hat M x h4 with h11|⟨h11,h12⟩
    ·exact q2.inj L M i j b x h1 h2 h9 h11 he
    ·have hs:s M=some j:=by rw[←q3.low M (hfr M h11).2.1];exact h2
     exact absurd he (cross L M i j b x h1 h9 h11 h12 hs)
    ·have hs:s L=some i:=by rw[←q3.low L (hfr L h9).2.1];exact h1
     exact absurd he.symm (cross M L j i x b h2 h11 h9 h10 hs)
    ·have hs:s L=some i:=by rw[←q3.low L (hfr L h9).2.1];exact h1
     have hs2:s M=some j:=by rw[←q3.low M (hfr M h11).2.1];exact h2
     exact r.inj L M i j b x hs hs2 h10 h12 he
  have hfi:∃fi,fnOf P c.f=some fi:=by
   unfold run evCall at hr
   split at hr
   ·rename_i v2 H2 n2 hh2
    exact(hk _ _ _ _ _ _ _ hh2).1
   ·split at hr
    ·cases hr
    ·rename_i fi hfi
     exact⟨fi,hfi⟩
  exact⟨hfi,fun C w0 s args' w hi r hv hl=>(key C w0 s args' w hi r hv hl).2⟩
abbrev vI (n:Int):Value:= .int .i64 n
abbrev vS (b:Array UInt8):Value:= .string ⟨b⟩
abbrev vL (b o n:Nat):Value:= .slice (some ⟨b,o,none⟩) n FULL
abbrev vP (b o:Nat):Value:= .pointer (some ⟨b,o,none⟩)
def hks (b:Hook) (l:List Cut):Hook:=l.foldr cutHook b
def CutRun (P:Program) (b:Hook) (l:List Cut) (c:Cut):Prop:=cutOk c=true∧chkOut c (run (envP P (hks b l)) 100000 c.f c.args (addAll c.pre .nil) c.n)=true
inductive CutGd (P:Program) (b:Hook):Cut→Prop
 |mk {l:List Cut} {c:Cut}:(∀d,d∈l→CutGd P b d)→CutRun P b l c→CutGd P b c
section
variable {P:Program} (hm:P.follows .mixedOrders=true) {b:Hook} (hb:HookOk P allW b)
include hm hb
theorem hks_ok:∀l:List Cut,(∀d,d∈l→∃l',HookOk P allW (hks b l')∧CutRun P b l' d)→HookOk P allW (hks b l)
 | [],_=>hb
 |c::l,h=>by
  obtain⟨l',h1,h2⟩:=h c (by simp)
  exact cut_ok allW_ok hm h1 (hks_ok l fun d hd=>h d (by simp[hd])) c 100000 h2.1 h2.2
theorem CutGd.hook {c:Cut} (h:CutGd P b c):∃l,HookOk P allW (hks b l)∧CutRun P b l c:=by
 induction h with
 |mk _ r ih=>exact⟨_,hks_ok hm hb _ ih,r⟩
theorem CutGd.yes {c:Cut} (h:CutGd P b c) (e1:c.args=[]) (e2:c.pre=[]) (e3:c.n=0) (e4:c.v= .bool true) (w:World):Calls P c.f #[] w fun e w'=>e= .returned (.bool true)∧KeepsAll w w':=by
 obtain⟨l,h1,-,h⟩:=h.hook hm hb
 rw[e1,e2,e3]at h
 refine run_true hm h1 (fuel:=100000) ?_ w trivial
 have e5:addAll [] .nil= .nil:=rfl
 rw[e5]at h
 revert h
 generalize run (envP P (hks b l)) 100000 c.f [] .nil 0=out
 intro h
 cases out with
 |bad=>cases h
 |ok v H n=>
  simp only[chkOut,Bool.and_eq_true]at h
  have h2:=veq_eq h.1.1
  rw[e4]at h2
  subst h2
  rfl
end
end
section
open Go.RowKit
def sqK:Nat→Nat→Nat→Nat
 |0,_,r=>r
 |k+1,n,r=>match Nat.ble ((r+2^k)*(r+2^k)) n with
  |true=>sqK k n (r+2^k)
  |false=>sqK k n r
theorem sqK_eq:∀(k n r:Nat),sqK k n r=isqGo k n r:=by
 intro k
 induction k with
 |zero=>intro n r;rfl
 |succ k ih=>
  intro n r
  unfold sqK isqGo
  split
  ·rename_i h;rw[if_pos (Nat.le_of_ble_eq_true h),ih]
  ·rename_i h;rw[if_neg (fun e=>by rw[Nat.ble_eq_true_of_le e]at h;cases h),ih]
def sqArg:List Value→Option Nat
 | [.int .i64 (.ofNat x)]=>match Nat.ble x 9223372036854775807 with
  |true=>some x
  |false=>none
 |_=>none
def sqHook:Hook:=fun f args H n=>
 match Nat.beq f 489||Nat.beq f 390 with
 |false=>none
 |true=>match sqArg args with
  |none=>none
  |some x=>some (.int .i64 (.ofNat (sqK 32 x 0)),H,n)
theorem sqArg_eq {args:List Value} {x:Nat} (h:sqArg args=some x):args=[.int .i64 (x:Int)]∧x≤9223372036854775807:=by
 unfold sqArg at h
 split at h
 ·split at h
  ·rename_i q;cases h;exact⟨rfl,Nat.le_of_ble_eq_true q⟩
  ·cases h
 ·cases h
theorem sq_fn:(∃fi,fnOf Tryz.prog 489=some fi)∧∃fi,fnOf Tryz.prog 390=some fi:=⟨Option.isSome_iff_exists.1 (by kernel_rfl),Option.isSome_iff_exists.1 (by kernel_rfl)⟩
theorem sqHook_ok:HookOk Tryz.prog allW sqHook:=by
 intro f args H n v H' n' h
 unfold sqHook at h
 split at h
 ·cases h
 ·rename_i hf
  split at h
  ·cases h
  ·rename_i x hx
   cases h
   obtain⟨rfl,hx9⟩:=sqArg_eq hx
   rw[sqK_eq]
   have key:∀(g:Nat),(∃fi,fnOf Tryz.prog g=some fi)→(∀w,Calls Tryz.prog g #[.int .i64 (x:Int)] w fun e w'=>e= .returned (.int .i64 (isqN x:Int))∧w=w')→f=g→
     (∃fi,fnOf Tryz.prog f=some fi)∧∀(C:Foot) (w0:World) (s:Sg) (args':Array Value) (w:World),allW C w0→Rel C w0 s H w→VL s [.int .i64 (x:Int)] args'.toList→(∀L,n≤L→s L=none)→
     Calls Tryz.prog f args' w fun e w'=>∃s' v',e= .returned v'∧VR s' (.int .i64 (.ofNat (isqGo 32 x 0))) v'∧Rel C w0 s' H w'∧Up s s' n n∧∀L,n≤L→s' L=none:=by
    rintro g hg hc rfl
    refine⟨hg,fun C w0 s args' w _ r hv hl=> ?_⟩
    have:args'= #[.int .i64 (x:Int)]:=by
     obtain⟨l,hl⟩:∃l,args'.toList=l:=⟨_,rfl⟩
     rw[hl]at hv
     match l,hv,hl with
     | [v'],hv,hl=>have:=hv.head;cases this;exact Array.toList_inj.1 hl
     | [],hv,_=>exact absurd hv.1 (by simp)
     |_::_::_,hv,_=>exact absurd hv.1 (by simp)
    subst this
    refine(hc w).mono ?_
    rintro e w' ⟨rfl,rfl⟩
    exact⟨s,_,rfl,VR.int _ _,r,Up.refl _ _,hl⟩
   rw[Bool.or_eq_true]at hf
   rcases hf with hf|hf
   ·exact key _ sq_fn.1 (fun w=>Sqrt_any x hx9 w) (Nat.eq_of_beq_eq_true hf)
   ·exact key _ sq_fn.2 (fun w=>RSqrt_any x (by omega) w) (Nat.eq_of_beq_eq_true hf)
end
end Go.Proofs.YtcbcegdidlefiaaGreat
