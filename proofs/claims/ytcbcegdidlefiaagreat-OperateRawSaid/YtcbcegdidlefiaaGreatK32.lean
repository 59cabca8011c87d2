/- A run with known data: what the run of a region that draws its order has shown. No condition. A run with known data: regions that draw their order. Conditions: as each theorem says. A run with known data: regions that draw their order, the theorem. Conditions: as each theorem says. A run with known data: regions that draw their order, the theorem. Conditions: as each theorem says. -/
import Derived.Test.YtcbcegdidlefiaaGreatK29
import Derived.Test.YtcbcegdidlefiaaGreatK06
import Derived.Test.YtcbcegdidlefiaaGreatK31
namespace Go.Proofs.YtcbcegdidlefiaaGreat
section
open Go.RowKit
theorem eqI_true {a b:Int} (h:eqI a b=true):a=b:=by
 unfold eqI at h
 split at h
 ·rw[Nat.eq_of_beq_eq_true h]
 ·rw[Nat.eq_of_beq_eq_true h]
 ·cases h
theorem strEq_true {a b:ByteArray} (h:strEq a b=true):a=b:=by
 unfold strEq at h
 have h1:a.data.toList.map (·.toNat)=b.data.toList.map (·.toNat):=by simpa using h
 have:a.data.toList=b.data.toList:=List.map_inj_right (f:=UInt8.toNat) (fun x y e=>UInt8.toNat_inj.1 e)|>.1 h1
 cases a;cases b;simp at this;rw[this]
theorem boolEq_true {a b:Bool} (h:boolEq a b=true):a=b:=by cases a<;>cases b<;>first|rfl|cases h
theorem veq0_eq {a b:Value} (h:veq0 a b=true):a=b:=by
 unfold veq0 at h
 split at h<;>first|(cases h;done)|rfl|skip
 ·rw[boolEq_true h]
 ·simp only[Bool.and_eq_true,decide_eq_true_eq]at h
  rw[h.1,eqI_true h.2]
 ·rw[strEq_true h]
 ·simp at h;subst h;rfl
 ·simp at h;obtain⟨⟨rfl,rfl⟩,rfl⟩:=h;rfl
 ·simp at h;subst h;rfl
theorem veqL_eq {f:Value→Value→Bool} (hf:∀a b,f a b=true→a=b):∀a b:List Value,veqL f a b=true→a=b
 | [],[],_=>rfl
 | [],_::_,h=>by simp[veqL]at h
 |_::_,[],h=>by simp[veqL]at h
 |x::a,y::b,h=>by
  simp only[veqL,Bool.and_eq_true]at h
  rw[hf x y h.1,veqL_eq hf a b h.2]
theorem veqS_eq {a b:Value} (h:veqS a b=true):a=b:=by
 unfold veqS at h
 split at h
 ·simp only[Bool.and_eq_true,decide_eq_true_eq]at h
  obtain⟨⟨rfl,h1⟩,h2⟩:=h
  rw[Array.toList_inj.1 (veqL_eq (fun _ _=>veq0_eq) _ _ h1),Array.toList_inj.1 (veqL_eq (fun _ _=>veq0_eq) _ _ h2)]
 ·exact veq0_eq h
theorem veqA_eq {a b:Value} (h:veqA a b=true):a=b:=by
 unfold veqA at h
 split at h
 ·rw[Array.toList_inj.1 (veqL_eq (fun _ _=>veqS_eq) _ _ h)]
 ·exact veqS_eq h
theorem veq_eq {a b:Value} (h:veq a b=true):a=b:=by
 unfold veq at h
 split at h
 ·rw[Array.toList_inj.1 (veqL_eq (fun _ _=>veqA_eq) _ _ h)]
 ·exact veqA_eq h
theorem blkEq_eq {a b:EBlk} (h:blkEq a b=true):a=b:=by
 unfold blkEq at h
 split at h<;>first|(cases h;done)|skip
 ·simp only[Bool.and_eq_true,Nat.beq_eq]at h
  obtain⟨⟨h1,rfl⟩,rfl⟩:=h
  rw[veqL_eq (fun _ _=>veqS_eq) _ _ h1]
 ·simp only[Nat.beq_eq]at h;subst h;rfl
 ·rename_i x p y q
  simp only[Bool.and_eq_true,Nat.beq_eq]at h
  obtain⟨h1,rfl⟩:=h
  rw[strEq_true h1]
def Vs.le (V V':Vs):Prop:=∀i v,Vs.get V i=some v→Vs.get V' i=some v
theorem Vs.le_refl (V:Vs):Vs.le V V:=fun _ _ h=>h
theorem Vs.le_trans {a b c:Vs} (h:Vs.le a b) (g:Vs.le b c):Vs.le a c:=fun i v x=>g i v (h i v x)
theorem Vs.at_put (V:Vs) (i:Nat) (v:Value) (j:Nat):Vs.get (Vs.put V i v) j=if i=j then some v else Vs.get V j:=by
 unfold Vs.put
 by_cases e:i=j
 ·subst e;simp[Vs.get]
 ·rw[if_neg e]
  have:Nat.beq i j=false:=by
   apply Bool.eq_false_iff.2
   intro h9
   exact e (Nat.eq_of_beq_eq_true h9)
  simp[Vs.get,this]
theorem Vs.le_put {V:Vs} {i:Nat} {v:Value} (h:Vs.get V i=none):Vs.le V (Vs.put V i v):=by
 intro j u hj
 rw[Vs.at_put]
 by_cases e:i=j
 ·subst e;rw[h]at hj;cases hj
 ·rw[if_neg e];exact hj
theorem Vs.get_put {V:Vs} {i:Nat} {v:Value}:Vs.get (Vs.put V i v) i=some v:=by rw[Vs.at_put,if_pos rfl]
theorem getV_le {V V':Vs} (h:Vs.le V V') {i:Nat} (hi:(Vs.get V i).isSome=true):getV V i=getV V' i:=by
 obtain⟨v,hv⟩:=Option.isSome_iff_exists.1 hi
 unfold getV
 rw[hv,h i v hv]
theorem getV_of {V:Vs} {i:Nat} {v:Value} (h:Vs.get V i=some v):getV V i=v:=by unfold getV;rw[h]
section
variable (E:Env) (rec:Rec) (ri:RI) (T0:List Value) (base:Nat) (V:Vs)
def Q0 (i:Nat) (o:Oper):Prop:=∃Vi,Vs.le Vi V∧envOk ri Vi i o=true∧match wantI ri Vi o with
 |false=>getV V i=undef
 |true=>aop0 E.P E.T (envI ri T0 Vi i) o=some (getV V i)
def Q1 (H:Hp) (i:Nat) (o:Oper):Prop:=∃Vi,Vs.le Vi V∧envOk ri Vi i o=true∧match wantI ri Vi o with
 |false=>getV V i=undef
 |true=>aop1 E.P E.T H (envI ri T0 Vi i) o=some (getV V i)
def Q2 (H:Hp) (i:Nat) (o:Oper):Prop:=∃Vi,Vs.le Vi V∧envOk ri Vi i o=true∧match wantI ri Vi o with
 |false=>getV V i=undef
 |true=>∃b m,aop2 E.T (envI ri T0 Vi i) o=some (b,m)∧labOk (base+i)=true∧getV V i=m.at (base+i)∧H.at (base+i)=some b
def Q3 (H H':Hp) (n n':Nat) (i:Nat) (o:Oper):Prop:=∃Vi,Vs.le Vi V∧envOk ri Vi i o=true∧match wantI ri Vi o with
 |false=>getV V i=undef∧H'=H∧n'=n
 |true=>evAR E rec H n (aop3 E.P E.T H (base+i) (envI ri T0 Vi i) o)= .ok (getV V i) H' n'
def SameB (st:Nat) (H H':Hp):Prop:=∀L,(∀i o,ri.l[i]? =some o→kindOf o.op=2→ri.stg.getD i 0=st→L≠base+i)→H'.at L=H.at L
def XF (i:Nat) (o:Oper):Prop:=∃Vi,Vs.le Vi V∧envOk ri Vi i o=true∧(Vs.get V i).isSome=true∧match wantI ri Vi o with
 |false=>getV V i=undef
 |true=>(kindOf o.op=0→aop0 E.P E.T (envI ri T0 Vi i) o=some (getV V i))∧(kindOf o.op=2→∃b m,aop2 E.T (envI ri T0 Vi i) o=some (b,m)∧labOk (base+i)=true∧getV V i=m.at (base+i))
def FK (H:Hp) (i:Nat) (o:Oper):Prop:=(kindOf o.op=0→Q0 E ri T0 V i o)∧(kindOf o.op=1→Q1 E ri T0 V H i o)∧(kindOf o.op=2→Q2 E ri T0 base V H i o)
end
section
variable {E:Env} {rec:Rec} {ri:RI} {T0:List Value} {base:Nat} {V V':Vs}
theorem XF.le {i:Nat} {o:Oper} (h:XF E ri T0 base V i o) (hV:Vs.le V V'):XF E ri T0 base V' i o:=by
 obtain⟨Vi,h1,h2,h3,h4⟩:=h
 refine⟨Vi,Vs.le_trans h1 hV,h2,?_,?_⟩
 ·obtain⟨v,hv⟩:=Option.isSome_iff_exists.1 h3
  rw[hV i v hv];rfl
 ·rw[←getV_le hV h3];exact h4
theorem SameB.refl (st:Nat) (H:Hp):SameB ri base st H H:=fun _ _=>rfl
theorem SameB.trans {st:Nat} {H H1 H2:Hp} (h:SameB ri base st H H1) (g:SameB ri base st H1 H2):SameB ri base st H H2:=fun L hL=>(g L hL).trans (h L hL)
theorem Q0.le {i:Nat} {o:Oper} (h:Q0 E ri T0 V i o) (hV:Vs.le V V') (hs:(Vs.get V i).isSome=true):Q0 E ri T0 V' i o:=by
 obtain⟨Vi,h1,h2,h3⟩:=h
 exact⟨Vi,Vs.le_trans h1 hV,h2,by rw[←getV_le hV hs];exact h3⟩
theorem Q1.le {H:Hp} {i:Nat} {o:Oper} (h:Q1 E ri T0 V H i o) (hV:Vs.le V V') (hs:(Vs.get V i).isSome=true):Q1 E ri T0 V' H i o:=by
 obtain⟨Vi,h1,h2,h3⟩:=h
 exact⟨Vi,Vs.le_trans h1 hV,h2,by rw[←getV_le hV hs];exact h3⟩
theorem Q2.le {H:Hp} {i:Nat} {o:Oper} (h:Q2 E ri T0 base V H i o) (hV:Vs.le V V') (hs:(Vs.get V i).isSome=true):Q2 E ri T0 base V' H i o:=by
 obtain⟨Vi,h1,h2,h3⟩:=h
 exact⟨Vi,Vs.le_trans h1 hV,h2,by rw[←getV_le hV hs];exact h3⟩
theorem FK.le {H:Hp} {i:Nat} {o:Oper} (h:FK E ri T0 base V H i o) (hV:Vs.le V V') (hs:(Vs.get V i).isSome=true):FK E ri T0 base V' H i o:=
 ⟨fun k=>(h.1 k).le hV hs,fun k=>(h.2.1 k).le hV hs,fun k=>(h.2.2 k).le hV hs⟩
theorem envOk_le {i:Nat} {o:Oper} (hV:Vs.le V V') (h:envOk ri V i o=true):envOk ri V' i o=true:=by
 have key:∀j,(Vs.get V j).isSome=true→(Vs.get V' j).isSome=true:=by
  intro j hj
  obtain⟨v,hv⟩:=Option.isSome_iff_exists.1 hj
  rw[hV j v hv];rfl
 unfold envOk at h⊢
 simp only[Bool.and_eq_true,List.all_eq_true]at h⊢
 refine⟨fun t ht=>key t (h.1 t ht),?_⟩
 have:=h.2
 split at this
 ·simp
 ·rename_i j x hg;exact key j this
theorem wantI_le {i:Nat} {o:Oper} (hV:Vs.le V V') (h:envOk ri V i o=true):wantI ri V' o=wantI ri V o:=by
 unfold envOk at h
 simp only[Bool.and_eq_true]at h
 unfold wantI
 have:=h.2
 split at this
 ·simp
 ·rename_i j x hg
  simp only[getV_le hV this]
theorem opQ_ok {H H':Hp} {i:Nat} {o:Oper} {v:Value} (h:opQ E ri T0 base V H i o=some (v,H')):
  (kindOf o.op=0→aop0 E.P E.T (envI ri T0 V i) o=some v∧H'=H)∧(kindOf o.op=1→H'=H)∧(kindOf o.op=2→∃b m,aop2 E.T (envI ri T0 V i) o=some (b,m)∧labOk (base+i)=true∧v=m.at (base+i)∧H'=H.add (base+i) b):=by
 unfold opQ at h
 split at h
 ·rename_i hk
  refine⟨fun _=> ?_,fun e=>by omega,fun e=>by omega⟩
  split at h
  ·rename_i u hu;cases h;exact⟨hu,rfl⟩
  ·cases h
 ·rename_i hk
  refine⟨fun e=>by omega,fun _=> ?_,fun e=>by omega⟩
  split at h
  ·cases h;rfl
  ·cases h
 ·rename_i hk
  refine⟨fun e=>by omega,fun e=>by omega,fun _=> ?_⟩
  split at h
  ·rename_i b m h1 h2;cases h;exact⟨b,m,h1,h2,rfl,rfl⟩
  ·cases h
 ·cases h
theorem stageRun_ok (hl:ri.l.length<100000) {st:Nat}:∀(is:List Nat) (V:Vs) (H:Hp) (V':Vs) (H':Hp),stageRun E ri T0 base st is V H=some (V',H')→
  Vs.le V V'∧SameB ri base st H H'∧∀i∈is,∀o,ri.l[i]? =some o→kindOf o.op≠3→ri.stg.getD i 0=st→XF E ri T0 base V' i o
 | [],V,H,V',H',h=>by
  simp[stageRun]at h
  obtain⟨rfl,rfl⟩:=h
  exact⟨Vs.le_refl V,SameB.refl st H,by simp⟩
 |i::is,V,H,V',H',h=>by
  simp only[stageRun]at h
  split at h
  ·cases h
  ·rename_i o ho
   have _hi:i<100000:=by have:=(List.getElem?_eq_some_iff.1 ho).1;omega
   split at h
   ·rename_i hsk
    obtain⟨h1,h2,h3⟩:=stageRun_ok hl is V H V' H' h
    refine⟨h1,h2,fun j hj o' ho' hk hs=> ?_⟩
    rcases List.mem_cons.1 hj with rfl|hj
    ·rw[ho]at ho';cases ho'
     simp only[Bool.or_eq_true,Nat.beq_eq,Bool.not_eq_true']at hsk
     rcases hsk with e|e
     ·exact absurd e hk
     ·rw[hs]at e;simp at e
    ·exact h3 j hj o' ho' hk hs
   ·rename_i hsk
    have hst:ri.stg.getD i 0=st:=by
     simp only[Bool.or_eq_false_iff,Bool.not_eq_false']at hsk
     simpa using hsk.2
    split at h
    ·cases h
    ·rename_i hen
     simp only[Bool.and_eq_true,Option.isNone_iff_eq_none]at hen
     obtain⟨hen,hnone⟩:=hen
     split at h
     ·rename_i hw
      obtain⟨h1,h2,h3⟩:=stageRun_ok hl is _ H V' H' h
      have hle:=Vs.le_trans (Vs.le_put (v:=undef) hnone) h1
      have hget:=h1 i _ (Vs.get_put (V:=V) (v:=undef))
      refine⟨hle,h2,fun j hj o' ho' hk hs=> ?_⟩
      rcases List.mem_cons.1 hj with rfl|hj
      ·rw[ho]at ho';cases ho'
       refine⟨V,hle,hen,by rw[hget];rfl,?_⟩
       rw[hw]
       exact getV_of hget
      ·exact h3 j hj o' ho' hk hs
     ·rename_i hw
      split at h
      ·rename_i v H1 hq
       obtain⟨h1,h2,h3⟩:=stageRun_ok hl is _ H1 V' H' h
       have hle:=Vs.le_trans (Vs.le_put (v:=v) hnone) h1
       have hget:=h1 i _ (Vs.get_put (V:=V) (v:=v))
       have hq':=opQ_ok hq
       refine⟨hle,SameB.trans ?_ h2,fun j hj o' ho' hk hs=> ?_⟩
       ·intro L hL
        have hk3:kindOf o.op=0∨kindOf o.op=1∨kindOf o.op=2∨¬(kindOf o.op=0∨kindOf o.op=1∨kindOf o.op=2):=by omega
        rcases hk3 with e|e|e|e
        ·rw[(hq'.1 e).2]
        ·rw[hq'.2.1 e]
        ·obtain⟨b,m,_,q2,_,q4⟩:=hq'.2.2 e
         rw[q4,Hp.at_add q2,if_neg (hL i o ho e hst)]
        ·unfold opQ at hq
         split at hq<;>first|(cases hq;done)|(rename_i e2;exact absurd (by omega) e)
       ·rcases List.mem_cons.1 hj with rfl|hj
        ·rw[ho]at ho';cases ho'
         refine⟨V,hle,hen,by rw[hget];rfl,?_⟩
         rw[hw,getV_of hget]
         exact⟨fun e=>(hq'.1 e).1,fun e=>by obtain⟨b,m,q1,q2,q3,_⟩:=hq'.2.2 e;exact⟨b,m,q1,q2,q3⟩⟩
        ·exact h3 j hj o' ho' hk hs
      ·cases h
theorem stageOk_ok {st last:Nat} {H:Hp}:∀(is:List Nat),stgOkE E ri T0 base st last V H is=true→∀i∈is,∀o,ri.l[i]? =some o→ri.stg.getD i 0≤st→last.testBit i=false→XF E ri T0 base V i o→FK E ri T0 base V H i o
 | [],_=>by simp
 |i::is,h=>by
  intro j hj o ho hs hb hx
  simp only[stgOkE,Bool.and_eq_true]at h
  rcases List.mem_cons.1 hj with rfl|hj
  ·obtain⟨Vi,x1,x2,x3,x4⟩:=hx
   have h:=h.1
   rw[ho]at h
   simp only at h
   have hen:envOk ri V j o=true:=envOk_le x1 x2
   have hwv:wantI ri V o=wantI ri Vi o:=wantI_le x1 x2
   refine⟨fun hk=>⟨Vi,x1,x2,?_⟩,fun hk=>⟨V,Vs.le_refl V,hen,?_⟩,fun hk=>⟨V,Vs.le_refl V,hen,?_⟩⟩
   ·split at x4
    ·exact x4
    ·exact x4.1 hk
   ·rw[hk]at h
    simp only at h
    cases hw:wantI ri V o with
    |false=>rw[hwv]at hw;rw[hw]at x4;exact x4
    |true=>
     simp only[hw,hb,Bool.and_true,Bool.not_false]at h
     have hs':Nat.ble (ri.stg.getD j 0) st=true:=by simpa using hs
     rw[hs']at h
     simp only at h
     split at h
     ·rename_i v hv;rw[hv,veq_eq h]
     ·cases h
   ·rw[hk]at h
    simp only at h
    cases hw:wantI ri V o with
    |false=>rw[hwv]at hw;rw[hw]at x4;exact x4
    |true=>
     simp only[hw,hb,Bool.and_true,Bool.not_false]at h
     have hs':Nat.ble (ri.stg.getD j 0) st=true:=by simpa using hs
     rw[hs']at h
     simp only at h
     split at h
     ·rename_i b m b' hb1 hb2
      simp only[Bool.and_eq_true]at h
      have:=blkEq_eq h.1.1
      subst this
      exact⟨b,m,hb1,h.2,(veq_eq h.1.2).symm,hb2⟩
     ·cases h
  ·exact stageOk_ok is h.2 j hj o ho hs hb hx
structure Shown (E:Env) (rec:Rec) (ri:RI) (T0:List Value) (base st last:Nat) (effs:List Nat) (V':Vs) (H0 H':Hp) (n0 n':Nat):Prop where
 ex:∃(HS:Nat→Hp) (NS:Nat→Nat),NS 0=n0∧SameB ri base st H0 (HS 0)∧HS effs.length=H'∧NS effs.length=n'∧
  (∀k,k≤effs.length→∀i o,ri.l[i]? =some o→ri.stg.getD i 0≤st+k→kindOf o.op≠3→(match k with|0=>last|k+1=>ri.pm.getD (effs.getD k 0) 0).testBit i=false→FK E ri T0 base V' (HS k) i o)∧
  (∀k e,effs[k]? =some e→∃o H1,ri.l[e]? =some o∧Q3 E rec ri T0 base V' (HS k) H1 (NS k) (NS (k+1)) e o∧SameB ri base (st+k+1) H1 (HS (k+1)))
theorem drawGo_ok (hl:ri.l.length<100000):∀(effs:List Nat) (st last:Nat) (V:Vs) (H:Hp) (n:Nat) (V':Vs) (H':Hp) (n':Nat),drawGo E rec ri T0 base effs st last V H n=some (V',H',n')→
  (∀i o,ri.l[i]? =some o→kindOf o.op≠3→ri.stg.getD i 0<st→XF E ri T0 base V i o)→Vs.le V V'∧Shown E rec ri T0 base st last effs V' H H' n n':=by
 intro effs
 induction effs with
 |nil=>
  intro st last V H n V' H' n' h hx
  unfold drawGo at h
  split at h
  ·cases h
  ·rename_i V1 H1 hr
   obtain⟨r1,r2,r3⟩:=stageRun_ok hl _ _ _ _ _ hr
   split at h
   ·cases h
   ·rename_i hok
    cases h
    have hx1:∀i o,ri.l[i]? =some o→kindOf o.op≠3→ri.stg.getD i 0≤st→XF E ri T0 base V' i o:=by
     intro i o ho hk hs
     by_cases e:ri.stg.getD i 0=st
     ·exact r3 i (List.mem_range.2 (List.getElem?_eq_some_iff.1 ho).1) o ho hk e
     ·exact(hx i o ho hk (by omega)).le r1
    refine⟨r1,⟨fun _=>H',fun _=>n,rfl,r2,rfl,rfl,?_,by simp⟩⟩
    intro k hk i o ho hs hk3 hb
    have:k=0:=by simpa using hk
    subst this
    exact stageOk_ok _ hok i (List.mem_range.2 (List.getElem?_eq_some_iff.1 ho).1) o ho (by omega) hb (hx1 i o ho hk3 (by omega))
 |cons e r ih=>
  intro st last V H n V' H' n' h hx
  unfold drawGo at h
  split at h
  ·cases h
  ·rename_i V1 H1 hr
   obtain⟨r1,r2,r3⟩:=stageRun_ok hl _ _ _ _ _ hr
   split at h
   ·cases h
   ·rename_i hok
    simp only at h
    have hx1:∀i o,ri.l[i]? =some o→kindOf o.op≠3→ri.stg.getD i 0≤st→XF E ri T0 base V1 i o:=by
     intro i o ho hk hs
     by_cases e:ri.stg.getD i 0=st
     ·exact r3 i (List.mem_range.2 (List.getElem?_eq_some_iff.1 ho).1) o ho hk e
     ·exact(hx i o ho hk (by omega)).le r1
    split at h
    ·cases h
    ·rename_i o ho
     have _hi:e<100000:=by have:=(List.getElem?_eq_some_iff.1 ho).1;omega
     split at h
     ·cases h
     ·rename_i hen
      simp only[Bool.and_eq_true,Option.isNone_iff_eq_none]at hen
      obtain⟨hen,hnone⟩:=hen
      have key:∀(v:Value) (H2:Hp) (n2:Nat),drawGo E rec ri T0 base r (st+1) (ri.pm.getD e 0) (Vs.put V1 e v) H2 n2=some (V',H',n')→
        (getV V' e=v→Q3 E rec ri T0 base V' H1 H2 n n2 e o)→Vs.le V V'∧Shown E rec ri T0 base st last (e::r) V' H H' n n':=by
       intro v H2 n2 hg hq
       have hp:=Vs.le_put (v:=v) hnone
       obtain⟨g1,⟨HS,NS,g2,g3,g4,g5,g6,g7⟩⟩:=ih (st+1) _ _ H2 n2 V' H' n' hg (fun i o' ho' hk hs=>(hx1 i o' ho' hk (by omega)).le hp)
       have hle:=Vs.le_trans hp g1
       have hget:=g1 e v Vs.get_put
       refine⟨Vs.le_trans r1 hle,⟨fun k=>match k with|0=>H1|k+1=>HS k,fun k=>match k with|0=>n|k+1=>NS k,rfl,r2,g4,g5,?_,?_⟩⟩
       ·intro k hk i o' ho' hs hk3 hb
        cases k with
        |zero=>
         have hxf:=hx1 i o' ho' hk3 (by omega)
         have hfk:=stageOk_ok _ hok i (List.mem_range.2 (List.getElem?_eq_some_iff.1 ho').1) o' ho' (by omega) hb hxf
         exact hfk.le hle (by obtain⟨_,_,_,h3,_⟩:=hxf;exact h3)
        |succ k=>
         refine g6 k (by simp at hk;omega) i o' ho' (by omega) hk3 ?_
         cases k with
         |zero=>simpa using hb
         |succ k=>simpa using hb
       ·intro k e' he'
        cases k with
        |zero=>
         simp at he'
         subst he'
         refine⟨o,H2,ho,?_,?_⟩
         ·show Q3 E rec ri T0 base V' H1 H2 n (NS 0) e o
          rw[g2];exact hq (getV_of hget)
         ·show SameB ri base (st+0+1) H2 (HS 0)
          exact g3
        |succ k=>
         obtain⟨o',H3,q1,q2,q3⟩:=g7 k e' (by simpa using he')
         refine⟨o',H3,q1,q2,?_⟩
         have e2:st+(k+1)+1=st+1+k+1:=by omega
         rw[e2];exact q3
      have hle1:∀(v:Value) (H2:Hp) (n2:Nat),drawGo E rec ri T0 base r (st+1) (ri.pm.getD e 0) (Vs.put V1 e v) H2 n2=some (V',H',n')→Vs.le V1 V':=by
       intro v H2 n2 hg
       have hp:=Vs.le_put (v:=v) hnone
       exact Vs.le_trans hp (ih (st+1) _ _ H2 n2 V' H' n' hg (fun i o' ho' hk hs=>(hx1 i o' ho' hk (by omega)).le hp)).1
      split at h
      ·rename_i hw
       exact key _ _ _ h fun hv=>⟨V1,hle1 _ _ _ h,hen,by rw[hw];exact⟨hv,rfl,rfl⟩⟩
      ·rename_i hw
       split at h
       ·rename_i v H2 n2 ha
        exact key _ _ _ h fun hv=>⟨V1,hle1 _ _ _ h,hen,by rw[hw,hv];exact ha⟩
       ·cases h
end
end
section
open Go.RowKit
section
variable {l:List Oper}
theorem writer_some {t j:Nat} (h:writer l t=some j):∃o,l[j]? =some o∧o.dst=some t:=by
 unfold writer at h
 obtain⟨h1,h2,_⟩:=List.findIdx?_eq_some_iff_getElem.1 h
 refine⟨l[j],List.getElem?_eq_getElem h1,?_⟩
 rw[isTmp_eq]at h2
 simpa using h2
theorem dst_inj (hd:dstOk l=true) {i j t:Nat} {o q:Oper} (hi:l[i]? =some o) (hj:l[j]? =some q) (ho:o.dst=some t) (hq:q.dst=some t):i=j:=by
 have hn:=(nodupB_iff _).1 hd
 clear hd
 induction l generalizing i j with
 |nil=>simp at hi
 |cons x r ih=>
  simp only[List.filterMap_cons]at hn
  have key:∀(k:Nat) (p:Oper),r[k]? =some p→p.dst=some t→x.dst=some t→False:=by
   intro k p hp h1 h2
   rw[h2]at hn
   exact(List.nodup_cons.1 hn).1 (List.mem_filterMap.2 ⟨p,List.mem_of_getElem? hp,h1⟩)
  have hn':(r.filterMap (·.dst)).Nodup:=by
   split at hn
   ·exact hn
   ·exact(List.nodup_cons.1 hn).2
  cases i with
  |zero=>
   simp at hi;subst hi
   cases j with
   |zero=>rfl
   |succ j=>exact(key j q (by simpa using hj) hq ho).elim
  |succ i=>
   cases j with
   |zero=>simp at hj;subst hj;exact(key i o (by simpa using hi) ho hq).elim
   |succ j=>
    have hi':r[i]? =some o:=by simpa using hi
    have hj':r[j]? =some q:=by simpa using hj
    have:=ih hi' hj' hn'
    omega
theorem writer_of (hd:dstOk l=true) {i t:Nat} {o:Oper} (hi:l[i]? =some o) (ho:o.dst=some t):writer l t=some i:=by
 cases e:writer l t with
 |none=>
  unfold writer at e
  rw[List.findIdx?_eq_none_iff]at e
  have:=e o (List.mem_of_getElem? hi)
  have h9:isTmp o.dst t=true:=by rw[isTmp_eq];simp[ho]
  simp[h9]at this
 |some j=>
  obtain⟨q,hq,hqd⟩:=writer_some e
  rw[dst_inj hd hi hq ho hqd]
theorem cntIn_le (m:Nat):∀(eff:List Nat) (k:Nat),(∀j e,eff[j]? =some e→m.testBit e=true→j<k)→cntIn m eff≤k
 | [],k,_=>by simp[cntIn]
 |e::r,k,h=>by
  simp only[cntIn]
  cases hb:m.testBit e with
  |true=>
   have hk:=h 0 e rfl hb
   have:=cntIn_le m r (k-1) (fun j x hj hx=>by have:=h (j+1) x (by simpa using hj) hx;omega)
   simp only[cond_true];omega
  |false=>
   cases k with
   |zero=>
    have:=cntIn_le m r 0 (fun j x hj hx=>by have:=h (j+1) x (by simpa using hj) hx;omega)
    simp only[cond_false];omega
   |succ k=>
    have:=cntIn_le m r k (fun j x hj hx=>by have:=h (j+1) x (by simpa using hj) hx;omega)
    simp only[cond_false];omega
theorem chain_at (pm:List Nat):∀(eff:List Nat),chainOk pm eff=true→∀(j a b:Nat),eff[j]? =some a→eff[j+1]? =some b→(pm.getD b 0).testBit a=true
 | [],_,j,a,b,h,_=>by simp at h
 | [x],_,j,a,b,_,h=>by simp at h
 |x::y::r,h,j,a,b,ha,hb=>by
  simp only[chainOk,Bool.and_eq_true]at h
  cases j with
  |zero=>simp at ha hb;subst ha;subst hb;exact h.1
  |succ j=>exact chain_at pm (y::r) h.2 j a b (by simpa using ha) (by simpa using hb)
end
def tv (l:List Oper) (V:Vs) (T0:List Value) (d:Nat→Bool) (t:Nat):Value:=
 match writer l t with
 |some j=>match d j with
  |true=>getV V j
  |false=>nthV T0 t
 |none=>nthV T0 t
def tvs (l:List Oper) (V:Vs) (T0:List Value) (d:Nat→Bool):List Value:=(List.range T0.length).map (tv l V T0 d)
theorem tvs_len (l:List Oper) (V:Vs) (T0:List Value) (d:Nat→Bool):(tvs l V T0 d).length=T0.length:=by simp[tvs]
theorem tvs_nth (l:List Oper) (V:Vs) (T0:List Value) (d:Nat→Bool) {t:Nat} (h:t<T0.length):nthV (tvs l V T0 d) t=tv l V T0 d t:=by
 rw[nthV_eq,List.getD_eq_getElem?_getD]
 simp[tvs,h]
theorem tvs_none (l:List Oper) (V:Vs) (T0:List Value):tvs l V T0 (fun _=>false)=T0:=by
 apply nthV_ext (tvs_len _ _ _ _)
 intro t ht
 rw[tvs_len]at ht
 rw[tvs_nth _ _ _ _ ht]
 unfold tv
 split<;>rfl
theorem tvs_put {l:List Oper} (hd:dstOk l=true) {V:Vs} {T0:List Value} {d:Nat→Bool} {i:Nat} {o:Oper} (ho:l[i]? =some o):tvs l V T0 (ups d i)=putL (tvs l V T0 d) o.dst (getV V i):=by
 apply nthV_ext (by rw[tvs_len,putL_len,tvs_len])
 intro t ht
 rw[tvs_len]at ht
 rw[tvs_nth _ _ _ _ ht]
 have far:o.dst≠some t→tv l V T0 (ups d i) t=tv l V T0 d t:=by
  intro hne
  unfold tv
  cases e:writer l t with
  |none=>rfl
  |some j=>
   have hji:j≠i:=by
    rintro rfl
    obtain⟨q,hq,hqd⟩:=writer_some e
    rw[ho]at hq;cases hq
    exact hne hqd
   simp only[ups_far hji]
 cases hdst:o.dst with
 |none=>
  show _=nthV (tvs l V T0 d) t
  rw[tvs_nth _ _ _ _ ht]
  exact far (by rw[hdst];simp)
 |some x=>
  show _=nthV (setL (tvs l V T0 d) x (getV V i)) t
  rw[nthV_set,tvs_len,tvs_nth _ _ _ _ ht]
  by_cases e:x=t
  ·subst e
   rw[if_pos ⟨rfl,ht⟩]
   unfold tv
   rw[writer_of hd ho hdst]
   simp only[ups_same]
  ·rw[if_neg (by simp[e])]
   exact far (by rw[hdst];simpa using e)
theorem zipV_nth (V:Vs):∀(ws:List (Option Nat)) (T:List Value) (t:Nat),nthV (zipV V ws T) t=if t<T.length then(match ws[t]? with|some (some j)=>getV V j|_=>nthV T t)else undef
 | [],T,t=>by
  simp only[zipV,List.getElem?_nil]
  by_cases h:t<T.length
  ·simp[h]
  ·rw[if_neg h,nthV_eq,List.getD_eq_getElem?_getD,List.getElem?_eq_none (by omega)];rfl
 |w::ws,[],t=>by simp[zipV,nthV]
 |w::ws,a::T,0=>by cases w<;>simp[zipV,nthV]
 |w::ws,a::T,t+1=>by
  simp only[zipV,nthV]
  rw[zipV_nth V ws T t]
  simp
theorem zipV_len (V:Vs):∀(ws:List (Option Nat)) (T:List Value),(zipV V ws T).length=T.length
 | [],T=>rfl
 |w::ws,[]=>rfl
 |w::ws,a::T=>by simp[zipV,zipV_len V ws T]
theorem tvs_all {l:List Oper} {V:Vs} {T0:List Value} {d:Nat→Bool} (h:∀j,j<l.length→d j=true):zipV V (writs l) T0=tvs l V T0 d:=by
 apply nthV_ext (by rw[zipV_len,tvs_len])
 intro t ht
 rw[zipV_len]at ht
 rw[zipV_nth,if_pos ht,tvs_nth _ _ _ _ ht]
 unfold tv writs
 rw[List.getElem?_map]
 by_cases hk:t<topDst l
 ·rw[List.getElem?_range hk]
  simp only[Option.map_some]
  cases e:writer l t with
  |none=>rfl
  |some j=>
   obtain⟨q,hq,_⟩:=writer_some e
   simp only[h j (List.getElem?_eq_some_iff.1 hq).1]
 ·rw[List.getElem?_eq_none (by simp;omega)]
  simp only[Option.map_none]
  cases e:writer l t with
  |none=>rfl
  |some j=>
   obtain⟨q,hq,hqd⟩:=writer_some e
   exact absurd (topDst_le l q t (List.mem_of_getElem? hq) hqd) hk
end
section
open Go.RowKit
theorem boolEq_eq (a b:Bool):boolEq a b=(some a==some b):=by cases a<;>cases b<;>rfl
section
variable {E:Env} {C:Foot} {w0:World}
structure DI (C:Foot) (w0:World) (ri:RI) (V:Vs) (T0:List Value) (base:Nat) (s0:Sg) (HS:Nat→Hp) (NS:Nat→Nat) (d:Nat→Bool) (a:Act) (w:World) (s:Sg) (k:Nat):Prop where
 rel:Rel C w0 s (HS k) w
 dfr:a.defers=[]
 tmp:VL s (tvs ri.l V T0 d) a.tmps.toList
 le:Sg.le s0 s
 low:∀L,L<base→s L=s0 L
 high:∀L,NS k≤L→s L=none
 lab:∀i o,ri.l[i]? =some o→(kindOf o.op=2∨kindOf o.op=3)→d i=false→s (base+i)=none
 n:base+ri.l.length≤NS k
 kle:k≤ri.eff.length
 eff:∀j e,ri.eff[j]? =some e→(d e=true↔j<k)
 down:∀j,d j=true→∀p,(ri.pm.getD j 0).testBit p=true→d p=true
 lt:∀j,d j=true→j<ri.l.length
theorem want_eq {ri:RI} {V Vi:Vs} {T0:List Value} {d:Nat→Bool} {a:Act} {s:Sg} (hdo:dstOk ri.l=true) (htmp:VL s (tvs ri.l V T0 d) a.tmps.toList) (hle:Vs.le Vi V) {i:Nat} {o:Oper} (hen:envOk ri Vi i o=true)
  (hg:∀j x,o.guard=some (j,x)→d j=true) (ht:topDst ri.l≤T0.length):Region.wanted o (yielded ri.l.toArray a.tmps)=wantI ri Vi o:=by
 unfold Region.wanted wantI
 unfold envOk at hen
 simp only[Bool.and_eq_true]at hen
 cases e:o.guard with
 |none=>rfl
 |some g=>
  obtain⟨j,want⟩:=g
  have hen2:=hen.2
  rw[e]at hen2
  simp only at hen2⊢
  have hgj:=getV_le hle hen2
  unfold yielded
  have e1:ri.l.toArray[j]? =ri.l[j]? :=by simp
  rw[e1]
  cases hj:ri.l[j]? with
  |none=>simp
  |some q=>
   simp only[Option.bind_some]
   cases hq:q.dst with
   |none=>simp
   |some t=>
    simp only[Option.bind_some]
    have hw:=writer_of hdo hj hq
    have htl:t<T0.length:=Nat.lt_of_lt_of_le (topDst_le _ q t (List.mem_of_getElem? hj) hq) ht
    have hv:nthV (tvs ri.l V T0 d) t=getV V j:=by
     rw[tvs_nth _ _ _ _ htl]
     unfold tv
     rw[hw]
     simp only[hg j want e]
    have htl2:t<a.tmps.size:=by
     have:=htmp.1
     rw[tvs_len]at this
     simpa[this]using htl
    obtain⟨x,hx⟩:∃x,a.tmps[t]? =some x:=⟨_,Array.getElem?_eq_getElem htl2⟩
    rw[hx]
    have hr:=htmp.nthV t
    have h9:a.tmps.toList.getD t undef=x:=by
     rw[List.getD_eq_getElem?_getD]
     have:a.tmps.toList[t]? =some x:=by simpa using hx
     rw[this];rfl
    rw[hv,h9,←hgj]at hr
    generalize getV Vi j=y at hr
    cases hr<;>first|rfl|(simp only;rw[boolEq_eq];done)|(simp;done)|skip
theorem opnd_ok {ri:RI} {V Vi:Vs} {T0:List Value} {d:Nat→Bool} {a:Act} {s:Sg} (htmp:VL s (tvs ri.l V T0 d) a.tmps.toList) (hle:Vs.le Vi V) {i:Nat} {o:Oper} (ho:ri.l[i]? =some o) (hen:envOk ri Vi i o=true)
  (hop:o.op.operands.toList.all operOk=true) (hro:readsOk ri.l ri.pm=true) (hdi:d i=false) (hp:∀p,(ri.pm.getD i 0).testBit p=true→d p=true) (hdown:∀j,d j=true→∀p,(ri.pm.getD j 0).testBit p=true→d p=true)
  (ht:topDst ri.l≤T0.length):∀x∈o.op.operands,VR s (envI ri T0 Vi i x) (a.eval x):=by
 intro x hx
 have hxo:=List.all_eq_true.1 hop x (by simpa using hx)
 cases x with
 |const v=>exact VR.closedV hxo
 |global g=>simp[operOk]at hxo
 |func f=>exact .fn _ _ _ _ _ rfl rfl (by simp) (by simp)
 |tmp t=>
  have htm:t∈tmpsOf o:=by
   unfold tmpsOf
   exact List.mem_filterMap.2 ⟨.tmp t,by simpa using hx,rfl⟩
  have hr:=htmp.nthV t
  have hev:a.eval (.tmp t)=a.tmps.toList.getD t undef:=by
   simp[Act.eval,Array.getD_eq_getD_getElem?,List.getD_eq_getElem?_getD]
  rw[hev]
  have hil:i<ri.l.length:=(List.getElem?_eq_some_iff.1 ho).1
  have hre:=List.all_eq_true.1 hro i (List.mem_range.2 hil)
  rw[ho]at hre
  simp only at hre
  have hre2:=List.all_eq_true.1 hre t htm
  unfold envOk at hen
  simp only[Bool.and_eq_true,List.all_eq_true]at hen
  show VR s (match frm ri i t with|some j=>getV Vi j|none=>nthV T0 t) _
  cases hf:frm ri i t with
  |some j=>
   simp only
   have hne:j∈needs ri i o:=List.mem_filterMap.2 ⟨t,htm,hf⟩
   have hg:=getV_le hle (hen.1 j hne)
   unfold frm at hf
   split at hf
   ·rename_i j' hw
    split at hf
    ·rename_i hb
     cases hf
     obtain⟨q,hq,hqd⟩:=writer_some hw
     have htl:t<T0.length:=Nat.lt_of_lt_of_le (topDst_le _ q t (List.mem_of_getElem? hq) hqd) ht
     have hv:nthV (tvs ri.l V T0 d) t=getV V j:=by
      rw[tvs_nth _ _ _ _ htl]
      unfold tv
      rw[hw]
      simp only[hp j hb]
     rw[hv]at hr
     rw[hg]
     exact hr
    ·cases hf
   ·cases hf
  |none=>
   simp only
   have hv:nthV (tvs ri.l V T0 d) t=nthV T0 t:=by
    by_cases htl:t<T0.length
    ·rw[tvs_nth _ _ _ _ htl]
     unfold tv
     unfold frm at hf
     cases hw:writer ri.l t with
     |none=>rfl
     |some j=>
      rw[hw]at hf hre2
      simp only at hf hre2
      cases hb:(ri.pm.getD i 0).testBit j with
      |true=>rw[hb]at hf;cases hf
      |false=>
       rw[hb]at hre2
       simp only[Bool.false_or,Bool.or_eq_true,Nat.beq_eq]at hre2
       have hdj:d j=false:=by
        cases hdj:d j with
        |false=>rfl
        |true=>
         rcases hre2 with h9|h9
         ·have:=hdown j hdj i h9
          rw[hdi]at this;cases this
         ·subst h9;rw[hdi]at hdj;cases hdj
       simp only[hdj]
    ·have htl':T0.length≤t:=Nat.le_of_not_lt htl
     rw[nthV_eq,nthV_eq,List.getD_eq_getElem?_getD,List.getD_eq_getElem?_getD,List.getElem?_eq_none (by rw[tvs_len];exact htl'),List.getElem?_eq_none htl']
   rw[hv]at hr
   exact hr
theorem ups_true {d:Nat→Bool} {i j:Nat} (h:ups d i j=true):j=i∨d j=true:=by
 by_cases e:j=i
 ·exact .inl e
 ·rw[ups_far e]at h;exact .inr h
theorem ups_of {d:Nat→Bool} {i j:Nat} (h:d j=true):ups d i j=true:=by
 by_cases e:j=i
 ·subst e;exact ups_same d j
 ·rw[ups_far e];exact h
theorem DI.put {ri:RI} {V:Vs} {T0:List Value} {base:Nat} {s0 s s1:Sg} {HS:Nat→Hp} {NS:Nat→Nat} {d:Nat→Bool} {a:Act} {w w1:World} {k:Nat} (h:DI C w0 ri V T0 base s0 HS NS d a w s k) (hdo:dstOk ri.l=true) {i:Nat} {o:Oper} (ho:ri.l[i]? =some o)
  (hp:∀p,(ri.pm.getD i 0).testBit p=true→d p=true) (hle:Sg.le s s1) (hfar:∀L,L≠base+i→s1 L=s L) (hrel:Rel C w0 s1 (HS k) w1) {v':Value} (hv:VR s1 (getV V i) v') (hne:∀j:Nat,ri.eff[j]?≠some i):
  DI C w0 ri V T0 base s0 HS NS (ups d i) (a.put o.dst v') w1 s1 k:=by
 have hil:i<ri.l.length:=(List.getElem?_eq_some_iff.1 ho).1
 refine⟨hrel,by rw[put_dfr];exact h.dfr,?_,Sg.le_trans h.le hle,fun L hL=>(hfar L (by omega)).trans (h.low L hL),fun L hL=>(hfar L (by have:=h.n;omega)).trans (h.high L hL),?_,h.n,h.kle,?_,?_,?_⟩
 ·rw[tvs_put hdo ho]
  exact put_ok (h.tmp.mono hle) hv o.dst
 ·intro j q hq hk hdj
  have hji:j≠i:=by rintro rfl;rw[ups_same]at hdj;cases hdj
  rw[ups_far hji]at hdj
  rw[hfar _ (by omega)]
  exact h.lab j q hq hk hdj
 ·intro j e he
  have hei:e≠i:=by rintro rfl;exact hne j he
  rw[ups_far hei]
  exact h.eff j e he
 ·intro j hj p hpj
  rcases ups_true hj with rfl|hj
  ·exact ups_of (hp p hpj)
  ·exact ups_of (h.down j hj p hpj)
 ·intro j hj
  rcases ups_true hj with rfl|hj
  ·exact hil
  ·exact h.lt j hj
end
end
section
open Go.RowKit
section
variable {E:Env} {C:Foot} {w0:World}
theorem invAll_of {P:Program} {ops:Array Oper} {Inv:(Nat→Bool)→Act→World→Prop}:∀(l:List Oper) (k:Nat),
  (∀i o,l[i]? =some o→∀(d:Nat→Bool) (a:Act) (w:World),d (k+i)=false→(depsOf o).all d=true→Inv d a w→wpList P ops (lexPost false (fun _=>True) (Inv (ups d (k+i)))) [o] a w)→invAll P ops Inv k l
 | [],k,_=>trivial
 |o::r,k,h=>by
  refine⟨fun d a w h1 h2 h3=>by have:=h 0 o rfl d a w (by simpa using h1) h2 h3;simpa using this,invAll_of r (k+1) fun i q hq d a w h1 h2 h3=> ?_⟩
  have:=h (i+1) q (by simpa using hq) d a w (by rw[show k+(i+1)=k+1+i by omega];exact h1) h2 h3
  rw[show k+(i+1)=k+1+i by omega]at this
  exact this
theorem eff_kind {ops:Array Oper} {j e:Nat} (h:(rinfo ops).eff[j]? =some e):∃o,(rinfo ops).l[e]? =some o∧kindOf o.op=3:=by
 have hm:e∈(rinfo ops).eff:=List.mem_of_getElem? h
 unfold rinfo at hm
 simp only[List.mem_filter]at hm
 have h2:=hm.2
 split at h2
 ·rename_i o ho
  exact⟨o,ho,Nat.eq_of_beq_eq_true h2⟩
 ·cases h2
theorem eff_of {ops:Array Oper} {i:Nat} {o:Oper} (ho:(rinfo ops).l[i]? =some o) (hk:kindOf o.op=3):∃j:Nat,(rinfo ops).eff[j]? =some i:=by
 apply List.getElem?_of_mem
 unfold rinfo
 simp only[List.mem_filter,List.mem_range]
 have ho':ops.toList[i]? =some o:=ho
 refine⟨(List.getElem?_eq_some_iff.1 ho').1,?_⟩
 rw[ho']
 simp[hk]
theorem eff_nodup (ops:Array Oper):(rinfo ops).eff.Nodup:=by
 unfold rinfo
 exact List.nodup_range.sublist List.filter_sublist
theorem evDraw_ok (hE:EOk E C w0) {rec:Rec} (hcall:∀f args H n v H' n',evCall E rec f args H n= .ok v H' n'→∀s (args':Array Value) w,Rel C w0 s H w→VL s args args'.toList→(∀L,n≤L→s L=none)→CallOk E C w0 s n f args' w v H' n')
  {N id:Nat} (ops:Array Oper) {T:List Value} {H:Hp} {n:Nat} {T':List Value} {H':Hp} {n':Nat} (h:evDraw E rec ops T H n= .nrm T' H' n') {s:Sg} {a:Act} {w:World} (hs:SR C w0 N s T H n a w)
  {Q:Exit→Act→World→Prop} (hQ:∀s' a' w',SR C w0 N s' T' H' n' a' w'→Up s s' n n'→Q .normal a' w'):(Code.region id ops true).wp E.P Q a w:=by
 unfold evDraw at h
 split at h
 ·cases h
 ·rename_i hok
  simp only[Bool.and_eq_true,Nat.ble_eq]at hok
  obtain⟨hok,htop⟩:=hok
  rw[lenL_eq]at htop
  split at h
  ·rename_i V HH nn hg
   cases h
   have hokd:(rinfo ops).ok=(chainOk (rinfo ops).pm (rinfo ops).eff&&readsOk (rinfo ops).l (rinfo ops).pm&&dstOk (rinfo ops).l&&guardOk (rinfo ops).l (rinfo ops).pm&&(rinfo ops).l.all (fun o=>o.op.operands.toList.all operOk)&&edgesBackB (rinfo ops).l&&Nat.blt (rinfo ops).l.length 100000):=rfl
   rw[hokd]at hok
   simp only[Bool.and_eq_true]at hok
   obtain⟨⟨⟨⟨⟨⟨hch,hro⟩,hdo⟩,hgo⟩,hopr⟩,hback⟩,hlen⟩:=hok
   have hlen':(rinfo ops).l.length<100000:=by simpa using hlen
   have hpm:(rinfo ops).pm=masks (rinfo ops).l []:=rfl
   have hstg:(rinfo ops).stg=(rinfo ops).pm.map fun m=>cntIn m (rinfo ops).eff:=rfl
   have hlo:(rinfo ops).l=ops.toList:=rfl
   obtain⟨_,⟨HS,NS,z1,z2,z3,z4,z5,z6⟩⟩:=drawGo_ok hlen' (rinfo ops).eff 0 0 [] H (n+(rinfo ops).l.length) V H' n' hg (fun i o _ _ h9=>by omega)
   have key:(Code.region id (rinfo ops).l.toArray true).wp E.P Q a w:=by
    generalize hri:rinfo ops=ri at*
    have heff_kind:∀(j e:Nat),ri.eff[j]? =some e→∃o,ri.l[e]? =some o∧kindOf o.op=3:=fun j e h9=>by rw[←hri]at h9⊢;exact eff_kind h9
    have heff_of:∀(i:Nat) (o:Oper),ri.l[i]? =some o→kindOf o.op=3→∃j:Nat,ri.eff[j]? =some i:=fun i o h9 hk=>by rw[←hri]at h9⊢;exact eff_of h9 hk
    have heff_nd:ri.eff.Nodup:=by rw[←hri];exact eff_nodup ops
    refine wp_region_inv (l:=ri.l) (fun d a' w'=>∃s' k,DI C w0 ri V T n s HS NS d a' w' s' k) hE.mixed hback ?_ ?_ ?_
    ·refine⟨s,0,⟨(hs.rel.drew).sub (fun L b hb hne=> ?_),hs.dfr,by rw[tvs_none];exact hs.tmp,Sg.le_refl s,fun _ _=>rfl,fun L hL=>hs.lab L (by rw[z1]at hL;omega),fun i o _ _ _=>hs.lab _ (by omega),by rw[z1];exact Nat.le_refl _,Nat.zero_le _,fun j e _=>by simp,fun j hj=>(by cases hj),fun j hj=>(by cases hj)⟩⟩
     have:(HS 0).at L=H.at L:=z2 L fun i o _ _ _ e=>by
       subst e
       exact hne (hs.lab _ (by omega))
     rw[←this]
     exact hb
    ·refine invAll_of ri.l 0 fun i o ho d a' w' hdi hdeps ⟨s',k,D⟩=> ?_
     rw[Nat.zero_add]at hdi⊢
     have hil:i<ri.l.length:=(List.getElem?_eq_some_iff.1 ho).1
     have hp:∀p,(ri.pm.getD i 0).testBit p=true→d p=true:=by
       intro p hpb
       refine waits_listedB hback (L:=fun j=>d j=true) (fun j q hj hdj e he hb=> ?_) (i+1) i o (by omega) ho (fun e he hb=> ?_) p (by unfold waits;rw[←hpm];exact hpb)
       ·have:=waits_edge hj he hb
        exact D.down j hdj e.on (by rw[hpm];exact this)
       ·refine List.all_eq_true.1 hdeps e.on ?_
        unfold depsOf
        exact List.mem_map.2 ⟨e,List.mem_filter.2 ⟨by simpa using he,hb⟩,rfl⟩
     have hop:o.op.operands.toList.all operOk=true:=List.all_eq_true.1 hopr o (List.mem_of_getElem? ho)
     have hgd:∀j x,o.guard=some (j,x)→d j=true:=by
       intro j x hx
       have:=List.all_eq_true.1 hgo i (List.mem_range.2 hil)
       rw[ho]at this
       simp only[hx]at this
       exact hp j this
     have hund:VR s' undef undef:= .tuple _ _ rfl (by simp)
     have hFK:kindOf o.op≠3→FK E ri T n V (HS k) i o:=by
       intro hk3
       refine z5 k D.kle i o ho ?_ hk3 ?_
       ·rw[hstg,Nat.zero_add]
        have:(ri.pm.map fun m=>cntIn m ri.eff).getD i 0=cntIn (ri.pm.getD i 0) ri.eff∨(ri.pm.map fun m=>cntIn m ri.eff).getD i 0=0:=by
         simp only[List.getD_eq_getElem?_getD,List.getElem?_map]
         cases ri.pm[i]? with
         |none=>exact .inr rfl
         |some m=>exact .inl rfl
        rcases this with e|e
        ·rw[e]
         exact cntIn_le _ _ _ fun j x hj hx=>(D.eff j x hj).1 (hp x hx)
        ·rw[e];exact Nat.zero_le _
       ·cases k with
        |zero=>simp
        |succ k=>
         simp only
         cases hb:(ri.pm.getD (ri.eff.getD k 0) 0).testBit i with
         |false=>rfl
         |true=>
          have hkl:k<ri.eff.length:=by have:=D.kle;omega
          have he:ri.eff[k]? =some ri.eff[k]:=List.getElem?_eq_getElem hkl
          have hge:ri.eff.getD k 0=ri.eff[k]:=by rw[List.getD_eq_getElem?_getD,he];rfl
          rw[hge]at hb
          have:=D.down _ ((D.eff k _ he).2 (by omega)) i hb
          rw[hdi]at this;cases this
     have hnoeff:kindOf o.op≠3→∀j:Nat,ri.eff[j]?≠some i:=by
       intro hk3 j hj
       obtain⟨q,hq,hqk⟩:=heff_kind j i hj
       rw[ho]at hq;cases hq
       exact hk3 hqk
     unfold wpList
     rcases kind_cases o.op with hk|hk|hk|hk
     ·
       obtain⟨Vi,x1,x2,x3⟩:=(hFK (by omega)).1 hk
       rw[want_eq hdo D.tmp x1 x2 hgd htop]
       split at x3
       ·rename_i hw
        rw[hw,if_neg (by simp)]
        exact⟨fun e=>(by cases e),s',k,D.put hdo ho hp (Sg.le_refl s') (fun _ _=>rfl) D.rel (by rw[x3];exact hund) (hnoeff (by omega))⟩
       ·rename_i hw
        rw[hw,if_pos rfl]
        obtain⟨v',q1,q2⟩:=aop0_ok hE.T (opnd_ok D.tmp x1 ho x2 hop hro hdi hp D.down htop) x3
        refine .inl ?_
        unfold Oper.wp
        rw[q1]
        exact⟨fun e=>(by cases e),s',k,D.put hdo ho hp (Sg.le_refl s') (fun _ _=>rfl) D.rel q2 (hnoeff (by omega))⟩
     ·
       obtain⟨Vi,x1,x2,x3⟩:=(hFK (by omega)).2.1 hk
       rw[want_eq hdo D.tmp x1 x2 hgd htop]
       split at x3
       ·rename_i hw
        rw[hw,if_neg (by simp)]
        exact⟨fun e=>(by cases e),s',k,D.put hdo ho hp (Sg.le_refl s') (fun _ _=>rfl) D.rel (by rw[x3];exact hund) (hnoeff (by omega))⟩
       ·rename_i hw
        rw[hw,if_pos rfl]
        obtain⟨v',q1,q2⟩:=aop1_ok hE.T D.rel (opnd_ok D.tmp x1 ho x2 hop hro hdi hp D.down htop) x3
        refine .inl ?_
        unfold Oper.wp
        rw[q1]
        exact⟨fun e=>(by cases e),s',k,D.put hdo ho hp (Sg.le_refl s') (fun _ _=>rfl) D.rel q2 (hnoeff (by omega))⟩
     ·
       obtain⟨Vi,x1,x2,x3⟩:=(hFK (by omega)).2.2 hk
       rw[want_eq hdo D.tmp x1 x2 hgd htop]
       split at x3
       ·rename_i hw
        rw[hw,if_neg (by simp)]
        exact⟨fun e=>(by cases e),s',k,D.put hdo ho hp (Sg.le_refl s') (fun _ _=>rfl) D.rel (by rw[x3];exact hund) (hnoeff (by omega))⟩
       ·rename_i hw
        rw[hw,if_pos rfl]
        obtain⟨b,m,y1,y2,y3,y4⟩:=x3
        obtain⟨ob,sz,es,q1,q2,q3⟩:=aop2_ok hE.T (opnd_ok D.tmp x1 ho x2 hop hro hdi hp D.down htop) y1
        have hnone:=D.lab i o ho (.inl hk) hdi
        obtain⟨g1,g2⟩:=new_ok D.rel hnone y2 q2 q3
        refine .inl ?_
        unfold Oper.wp
        rw[q1]
        refine⟨fun e=>(by cases e),_,k,D.put hdo ho hp (Sg.le_put hnone) (fun L hL=>Sg.put_far hL) (g2.sub fun L b' hb' _=> ?_) (by rw[y3];exact g1) (hnoeff (by omega))⟩
        rw[Hp.at_add y2]
        by_cases e:L=n+i
        ·subst e;rw[if_pos rfl,←y4];exact hb'
        ·rw[if_neg e];exact hb'
     ·
       obtain⟨j,hj⟩:=heff_of i o ho hk
       have hjk:¬j<k:=fun h9=>by have:=(D.eff j i hj).2 h9;rw[hdi]at this;cases this
       have hjk2:j≤k:=by
        cases j with
        |zero=>omega
        |succ j=>
         have hjl:j<ri.eff.length:=by have:=(List.getElem?_eq_some_iff.1 hj).1;omega
         have he:ri.eff[j]? =some ri.eff[j]:=List.getElem?_eq_getElem hjl
         have:=chain_at ri.pm ri.eff hch j _ i he hj
         have:=(D.eff j _ he).1 (hp _ this)
         omega
       have hjk3:j=k:=by omega
       subst hjk3
       obtain⟨o',H1,e1,⟨Vi,x1,x2,x3⟩,e3⟩:=z6 j i hj
       rw[ho]at e1;cases e1
       have hjl:j<ri.eff.length:=(List.getElem?_eq_some_iff.1 hj).1
       rw[want_eq hdo D.tmp x1 x2 hgd htop]
       have fin:∀(s1:Sg) (v':Value) (w1:World),VR s1 (getV V i) v'→Rel C w0 s1 H1 w1→Sg.le s' s1→(∀L,L≠n+i→L<NS j→s1 L=s' L)→(∀L,NS (j+1)≤L→L≠n+i→s1 L=none)→NS j≤NS (j+1)→
         DI C w0 ri V T n s HS NS (ups d i) (a'.put o.dst v') w1 s1 (j+1):=by
        intro s1 v' w1 g1 g2 g3 g4 g5 g6
        have hnn:=D.n
        have hfar:∀p q,ri.l[p]? =some q→p≠i→s1 (n+p)=s' (n+p):=fun p q hq hpi=>g4 _ (by omega) (by have:=(List.getElem?_eq_some_iff.1 hq).1;omega)
        refine⟨g2.sub (fun L b hb hne=> ?_),by rw[put_dfr];exact D.dfr,by rw[tvs_put hdo ho];exact put_ok (D.tmp.mono g3) g1 o.dst,Sg.le_trans D.le g3,fun L hL=>(g4 L (by omega) (by omega)).trans (D.low L hL),fun L hL=>g5 L hL (by omega),?_,by omega,by omega,?_,?_,?_⟩
        ·rw[←hb]
         refine(e3 L fun p q hq hkq hst e=> ?_).symm
         subst e
         have hpi:p≠i:=by rintro rfl;rw[ho]at hq;cases hq;omega
         have hdp:d p=false:=by
          cases hdp:d p with
          |false=>rfl
          |true=>
           exfalso
           have hpl:p<ri.l.length:=(List.getElem?_eq_some_iff.1 hq).1
           rw[hstg]at hst
           have hle:(ri.pm.map fun m=>cntIn m ri.eff).getD p 0≤j:=by
            simp only[List.getD_eq_getElem?_getD,List.getElem?_map]
            cases hpp:ri.pm[p]? with
            |none=>exact Nat.zero_le _
            |some m=>
             simp only[Option.map_some,Option.getD_some]
             refine cntIn_le _ _ _ fun jj x hjj hx=>(D.eff jj x hjj).1 (D.down p hdp x ?_)
             rw[List.getD_eq_getElem?_getD,hpp];exact hx
           omega
         have:=D.lab p q hq (.inl hkq) hdp
         rw[←hfar p q hq hpi]at this
         exact hne this
        ·intro p q hq hkq hdp
         have hpi:p≠i:=by rintro rfl;rw[ups_same]at hdp;cases hdp
         rw[ups_far hpi]at hdp
         rw[hfar p q hq hpi]
         exact D.lab p q hq hkq hdp
        ·intro jj e he
         by_cases hei:e=i
         ·subst hei
          have:jj=j:=by
           have hjjl:jj<ri.eff.length:=(List.getElem?_eq_some_iff.1 he).1
           exact(List.getElem?_inj hjjl heff_nd).1 (he.trans hj.symm)
          subst this
          rw[ups_same]
          simp
         ·rw[ups_far hei,D.eff jj e he]
          have:jj≠j:=by
           rintro rfl
           rw[hj]at he;cases he;exact hei rfl
          omega
        ·intro p hdp q hqb
         rcases ups_true hdp with rfl|hdp
         ·exact ups_of (hp q hqb)
         ·exact ups_of (D.down p hdp q hqb)
        ·intro p hdp
         rcases ups_true hdp with rfl|hdp
         ·exact hil
         ·exact D.lt p hdp
       split at x3
       ·rename_i hw
        obtain⟨x3,rfl,x5⟩:=x3
        rw[hw,if_neg (by simp)]
        refine⟨fun e=>(by cases e),s',j+1,fin s' undef w' (by rw[x3];exact hund) D.rel (Sg.le_refl s') (fun _ _ _=>rfl) (fun L hL _=>D.high L (by omega)) (by omega)⟩
       ·rename_i hw
        rw[hw,if_pos rfl]
        refine .inl (evAR_wp (lab:=n+i) hE hcall D.rel D.high (fun y hy=>aop3_ok hE.T D.rel (opnd_ok D.tmp x1 ho x2 hop hro hdi hp D.down htop) (D.lab i o ho (.inr hk) hdi) hy) x3 ?_)
        intro s1 v1 w1 g1 g2 g3 g4 g5 g6
        exact⟨fun e=>(by cases e),s1,j+1,fin s1 v1 w1 g1 g2 g3 g4 g5 g6⟩
    ·rintro d a' w' hall ⟨s',k,D⟩
     have hk:k=ri.eff.length:=by
       rcases Nat.lt_or_ge k ri.eff.length with h9|h9
       ·have he:ri.eff[k]? =some ri.eff[k]:=List.getElem?_eq_getElem h9
        obtain⟨q,hq,_⟩:=heff_kind k _ he
        have:=(D.eff k _ he).1 (hall _ (List.getElem?_eq_some_iff.1 hq).1)
        omega
       ·have:=D.kle;omega
     subst hk
     have hn:=D.n
     rw[z4]at hn
     refine hQ s' a' w' ⟨by have:=D.rel;rw[z3]at this;exact this,?_,by rw[zipV_len];exact hs.len,D.dfr,fun L hL=>D.high L (by rw[z4];exact hL)⟩ ⟨D.le,D.low,by omega⟩
     rw[tvs_all hall]
     exact D.tmp
   have e:(rinfo ops).l.toArray=ops:=by rw[hlo]
   rw[e]at key
   exact key
  ·cases h
end
end
end Go.Proofs.YtcbcegdidlefiaaGreat
