/- A region that draws its order: every reading operation has a class of its own (C k), two classes for the user. No condition. Contract of checkLinks (program). Conditions: as the theorem says. -/
import Derived.Test.YtcbcegdidlefiaaGreatK01
import Derived.Test.YtcbcegdidlefiaaGreatK03
namespace Go.Proofs.YtcbcegdidlefiaaGreat
section
open Go.RowKit
section
variable {P:Program} {ops:Array Oper} {Q:Exit→Act→World→Prop} {C:Nat→World→Prop} {act:Nat→Bool} {need:Nat→Nat→Bool}
def wpLexI (P:Program) (ops:Array Oper) (Q:Exit→Act→World→Prop) (C:Nat→World→Prop) (act:Nat→Bool) (need:Nat→Nat→Bool):List Nat→Act→World→Prop
 | [],a,w=>Q .normal a w
 |i::r,a,w=>if act i=true then wpOp P ops Q i (fun a' w'=>(∀k,need i k=true→C k w')∧wpLexI P ops Q C act need r a' w') a w
  else∃oi v,ops[i]? =some oi∧YieldsIf P ops (C i) oi v a∧wpLexI P ops Q C act need r (a.put oi.dst v) w
theorem wpLexI_pull (hsel:∀(j:Nat) (o:Oper) cs b,ops[j]? =some o→o.op≠ .select cs b) (hQ:∀c a w,¬Q (.panic c) a w) (i:Nat) (post:List Nat):
  ∀(pre:List Nat) (a:Act) (w:World),(∀k∈pre,act k=false∧∀ok oi,ops[k]? =some ok→ops[i]? =some oi→ok.apart ops oi=true)→(∀k∈pre,act i=true→need i k=true)→(act i=false→C i w)→(∀k∈pre,C k w)→
   (act i=true→∃oi,ops[i]? =some oi)→wpLexI P ops Q C act need (pre++i::post) a w→wpOp P ops Q i (fun a' w'=>(act i=true→∀k,need i k=true→C k w')∧(act i=false→w'=w)∧wpLexI P ops Q C act need (pre++post) a' w') a w:=by
 intro pre
 induction pre with
 |nil=>
  intro a w _ _ hC _ _ h
  simp only[List.nil_append,wpLexI]at h⊢
  by_cases ha:act i=true
  ·rw[if_pos ha]at h
   exact wpOp_mono (fun a' w' h=>⟨fun _=>h.1,fun hf=>(by rw[ha]at hf;cases hf),h.2⟩) h
  ·rw[if_neg ha]at h
   obtain⟨oi,v,hoi,hy,hr⟩:=h
   have hf:act i=false:=by simpa using ha
   exact hy.wpOp hoi (hC hf) ⟨fun e=>(by rw[hf]at e;cases e),fun _=>rfl,hr⟩
 |cons k pre ih=>
  intro a w hpre hneed hC hCp hex h
  obtain⟨hk,hap⟩:=hpre k (by simp)
  have hk':¬act k=true:=by simp[hk]
  simp only[List.cons_append,wpLexI]at h⊢
  rw[if_neg hk']at h
  obtain⟨ok,u,hok,hyk,hr⟩:=h
  have h2:=ih (a.put ok.dst u) w (fun x hx=>hpre x (by simp[hx])) (fun x hx=>hneed x (by simp[hx])) hC (fun x hx=>hCp x (by simp[hx])) hex hr
  by_cases hoi:∃oi,ops[i]? =some oi
  ·obtain⟨oi,hoi⟩:=hoi
   have h3:=wpOp_putIf (S:=C k) hoi (hap ok oi hok hoi) (fun cs b=>hsel k ok cs b hok) (fun cs b=>hsel i oi cs b hoi) (fun c a w hq=>absurd hq (hQ c _ w)) hyk h2
   refine wpOp_mono (fun a' w' h=>⟨h.2.1,h.2.2.1,?_⟩) h3
   rw[if_neg hk']
   exact⟨ok,u,hok,h.1,h.2.2.2⟩
  ·have hnone:ops[i]? =none:=by
    cases e:ops[i]? with
    |none=>rfl
    |some o=>exact absurd ⟨o,e⟩ hoi
   unfold wpOp at h2⊢
   simp only[hnone]at h2⊢
   have haf:act i=false:=by
    cases e:act i with
    |false=>rfl
    |true=>exact absurd (hex e) hoi
   refine⟨h2.1,h2.2.1,?_⟩
   rw[if_neg hk']
   exact⟨ok,u,hok,hyk,h2.2.2⟩
end
section
variable {P:Program} {l:List Oper} {Q:Exit→Act→World→Prop} {C:Nat→World→Prop} {need:Nat→Nat→Bool}
theorem lex_anyI (hsel:∀(j:Nat) (o:Oper) cs b,l.toArray[j]? =some o→o.op≠ .select cs b) (hQ:∀c a w,¬Q (.panic c) a w) (hb:edgesBackB l=true) (pi:List Nat)
  (hpair:∀i j,List.Sublist [i,j] pi→pairOk l (masks l []) i j=true) (hneed1:∀i j,List.Sublist [i,j] pi→waits (masks l []) j i=false→actAt l i=false→need j i=true)
  (hneed2:∀i j,List.Sublist [j,i] pi→actAt l i=false→need j i=true):
  ∀(fuel:Nat) (r:List Nat) (listed:Array Bool) (a:Act) (w:World),r.length=fuel→List.Sublist r pi→r.Nodup→(∀j,j<l.length→(j∈r↔listed.getD j true=false))→(∀j∈r,j<l.length)→listed.size=l.length→
    (∀(j:Nat) (o:Oper),l[j]? =some o→listed.getD j false=true→∀e∈o.after,Region.binds .any e=true→listed.getD e.on false=true)→
    (∀i∈r,actAt l i=false→C i w)→wpLexI P l.toArray Q C (actAt l) need r a w→wpAny P .any l.toArray Q fuel listed a w:=by
 intro fuel
 induction fuel with
 |zero=>
  intro r listed a w hlen _ _ hmem _ _ _ _ h
  have:r=[]:=List.eq_nil_of_length_eq_zero hlen
  subst this
  refine⟨?_,h⟩
  apply List.eq_nil_iff_forall_not_mem.2
  intro j hj
  obtain⟨h0,o,ho,_⟩:=mem_ready.1 hj
  have hjl:j<l.length:=by
    have:=(Array.getElem?_eq_some_iff.1 ho).1;simpa using this
  simpa using (hmem j hjl).2 h0
 |succ fuel ih=>
  intro r listed a w hlen hsub hnd hmem hrl hsz hdown hC h
  refine⟨fun hempty=> ?_,fun j hj=> ?_⟩
  ·
    exfalso
    cases r with
    |nil=>simp at hlen
    |cons i r'=>
     have hil:=hrl i (by simp)
     have hi0:=(hmem i hil).1 (by simp)
     have:i∈Region.ready .any l.toArray listed:=by
      refine mem_ready.2 ⟨hi0,l[i],by simp[hil],fun e he hbd=> ?_⟩
      have hw:=waits_edge (List.getElem?_eq_getElem hil) he hbd
      have hlt:e.on<i:=waits_ltB hb (List.getElem?_eq_getElem hil) hw
      apply Classical.byContradiction
      intro hn
      have hin:e.on∈i::r':=(hmem e.on (by omega)).2 ((getD_flip (by omega)).2 hn)
      have hin':e.on∈r':=by
       rcases List.mem_cons.1 hin with h'|h'
       ·omega
       ·exact h'
      have hp:=hpair i e.on ((List.Sublist.cons_cons i (List.singleton_sublist.2 hin')).trans hsub)
      simp only[pairOk,Bool.and_eq_true]at hp
      simp[hw]at hp
     rw[hempty]at this
     simp at this
  · obtain⟨h0,o,ho,hall⟩:=mem_ready.1 hj
    have hjl:j<l.length:=by
     have:=(Array.getElem?_eq_some_iff.1 ho).1;simpa using this
    have ho':l[j]? =some o:=by simpa using ho
    have hjr:=(hmem j hjl).2 h0
    obtain⟨pre,post,rfl⟩:=List.append_of_mem hjr
    have hwl:=waits_listedB hb (L:=fun k=>listed.getD k false=true) hdown (j+1) j o (by omega) ho' hall
    have hpre:∀k∈pre,waits (masks l []) j k=false∧actAt l k=false∧∀ok oi,l.toArray[k]? =some ok→l.toArray[j]? =some oi→ok.apart l.toArray oi=true:=by
     intro k hk
     have hkl:=hrl k (by simp[hk])
     have hk0:=(hmem k hkl).1 (by simp[hk])
     have hnw:waits (masks l []) j k=false:=by
      cases e:waits (masks l []) j k with
      |false=>rfl
      |true=>exact absurd (hwl k e) ((getD_flip (by omega)).1 hk0)
     have hs2:List.Sublist [k,j] (pre++j::post):=(List.singleton_sublist.2 hk).append (List.singleton_sublist.2 (by simp))
     have hp:=hpair k j (hs2.trans hsub)
     simp only[pairOk,hnw,Bool.and_eq_true,Bool.false_or]at hp
     refine⟨hnw,by simpa using hp.2.1,fun ok oi h1 h2=> ?_⟩
     have h3:=hp.2.2
     simp only[List.getElem?_toArray]at h1 h2
     rw[h1,h2]at h3
     exact h3
    have hn:∀k∈pre,actAt l j=true→need j k=true:=by
     intro k hk _
     have hs2:List.Sublist [k,j] (pre++j::post):=(List.singleton_sublist.2 hk).append (List.singleton_sublist.2 (by simp))
     exact hneed1 k j (hs2.trans hsub) (hpre k hk).1 (hpre k hk).2.1
    have h1:=wpLexI_pull (act:=actAt l) hsel hQ j post pre a w (fun k hk=>(hpre k hk).2) hn (fun hf=>hC j (by simp) hf) (fun k hk=>hC k (by simp[hk]) (hpre k hk).2.1) (fun _=>⟨o,ho⟩) h
    refine wpOp_mono (fun a' w' hh=> ?_) h1
    have hsub':List.Sublist (pre++post) (pre++j::post):=(List.Sublist.refl pre).append (List.sublist_cons_self j post)
    have hjn:j∉pre++post:=by
     have h3:=List.nodup_append.1 hnd
     intro hx
     rcases List.mem_append.1 hx with hx|hx
     ·exact h3.2.2 j hx j (by simp) rfl
     ·exact(List.nodup_cons.1 h3.2.1).1 hx
    refine ih (pre++post) (listed.setIfInBounds j true) a' w' (by simp at hlen⊢;omega) (hsub'.trans hsub) (hnd.sublist hsub') ?_ (fun k hk=>hrl k (hsub'.subset hk)) (by simpa using hsz) ?_ ?_ hh.2.2
    ·intro k hk
     by_cases hjk:j=k
     ·subst hjk
      have:(listed.setIfInBounds j true).getD j true=true:=by simp[Array.getD_eq_getD_getElem?,hsz,hjl]
      rw[this]
      exact⟨fun hx=>absurd hx hjn,fun hx=>by cases hx⟩
     ·rw[getD_set_ne true hjk,←hmem k hk]
      constructor
      ·intro hx;exact hsub'.subset hx
      ·intro hx
       rcases List.mem_append.1 hx with hx|hx
       ·exact List.mem_append_left _ hx
       ·rcases List.mem_cons.1 hx with hx|hx
        ·exact absurd hx.symm hjk
        ·exact List.mem_append_right _ hx
    ·intro k ok hok hlk e he hbd
     by_cases hjk:j=k
     ·subst hjk
      rw[ho']at hok
      injection hok with hok
      subst hok
      exact getD_set_true (hall e he hbd)
     ·rw[getD_set_ne false hjk]at hlk
      exact getD_set_true (hdown k ok hok hlk e he hbd)
    ·intro i hi hia
     by_cases hja:actAt l j=true
     ·refine hh.1 hja i ?_
      rcases List.mem_append.1 hi with hi|hi
      ·exact hn i hi hja
      ·have hs2:List.Sublist [j,i] (pre++j::post):=((List.Sublist.cons_cons j (List.singleton_sublist.2 hi))).trans (List.sublist_append_right pre (j::post))
       exact hneed2 i j (hs2.trans hsub) hia
     ·have hjf:actAt l j=false:=by simpa using hja
      rw[hh.2.1 hjf]
      exact hC i (hsub'.subset hi) hia
end
def behindB:List Nat→Nat→Nat→Bool
 | [],_,_=>false
 |x::r,i,k=>if x==i then r.contains k else behindB r i k
def needI (l:List Oper) (ms pi:List Nat) (i k:Nat):Bool:=pi.contains k&& !actAt l k&&(behindB pi i k|| !waits ms i k)
theorem behindB_sub {i k:Nat}:∀(pi:List Nat),pi.Nodup→List.Sublist [i,k] pi→behindB pi i k=true
 | [],_,h=>by simp at h
 |x::r,hn,h=>by
  unfold behindB
  obtain⟨hx,hr⟩:=List.nodup_cons.1 hn
  cases h with
  |cons _ h=>
   have:x≠i:=fun e=>hx (by rw[e];exact h.subset (by simp))
   rw[if_neg (by simpa using this)]
   exact behindB_sub r hr h
  |cons_cons _ h=>
   rw[if_pos (by simp)]
   simpa using List.singleton_sublist.1 h
section
variable {P:Program} {l:List Oper} {Q:Exit→Act→World→Prop}
theorem wp_region_lexI {id:Nat} {a:Act} {w:World} (C:Nat→World→Prop) (pi:List Nat) (hm:P.follows .mixedOrders=true) (hB:piOkB l pi=true) (hC:∀k,C k w.drew)
  (h:wpLexI P l.toArray (NoPanic Q) C (actAt l) (needI l (masks l []) pi) pi a w.drew):(Code.region id l.toArray true).wp P Q a w:=by
 simp only[piOkB,Bool.and_eq_true,beq_iff_eq]at hB
 obtain⟨⟨⟨⟨⟨⟨hsel,hlen⟩,hnd⟩,hall⟩,hcv⟩,hpairs⟩,hback⟩:=hB
 have hnd':=(nodupB_iff pi).1 hnd
 have hrl:∀j∈pi,j<l.length:=fun j hj=>by simpa using List.all_eq_true.1 hall j hj
 refine Code.wp_mono NoPanic.imp (wp_region_any hm ?_)
 have hcov:∀j,j<l.length→j∈pi:=by
  intro j hj
  simpa using List.all_eq_true.1 hcv j (List.mem_range.2 hj)
 have hsz:l.toArray.size=pi.length:=by simp[hlen]
 have hsel':=fun(j:Nat) (o:Oper) cs b (ho:l.toArray[j]? =some o)=>Region.noSelect_spec hsel j o cs b ho
 rw[hsz]
 refine lex_anyI hsel' (fun c a w h=>h) hback pi (fun i j hs=>pairsOk_sub pi i j hpairs hs) (fun i j hs hw ha=> ?_) (fun i j hs ha=> ?_) pi.length pi (Array.replicate pi.length false) a w.drew rfl (List.Sublist.refl _) hnd' ?_ hrl (by simp[hlen]) ?_ (fun i _ _=>hC i) h
 ·have:i∈pi:=hs.subset (by simp)
  simp[needI,ha,hw,this]
 ·have:i∈pi:=hs.subset (by simp)
  simp[needI,ha,behindB_sub pi hnd' hs,this]
 ·intro j hj
  have:(Array.replicate pi.length false).getD j true=false:=by
   have h9:j<pi.length:=by omega
   simp[Array.getD_eq_getD_getElem?,h9]
  exact⟨fun _=>this,fun _=>hcov j hj⟩
 ·intro j o ho hl
  simp[Array.getD_eq_getD_getElem?,Array.getElem?_replicate]at hl
  split at hl<;>simp at hl
def cl2 (L1:List Nat) (C1 C2:World→Prop) (k:Nat) (w:World):Prop:=if L1.contains k=true then C1 w else C2 w
theorem wp_region_lex3 {id:Nat} {a:Act} {w:World} (L1:List Nat) (C1 C2:World→Prop) (pi:List Nat) (hm:P.follows .mixedOrders=true) (hB:piOkB l pi=true) (hC1:C1 w.drew) (hC2:C2 w.drew)
  (h:wpLexI P l.toArray (NoPanic Q) (cl2 L1 C1 C2) (actAt l) (needI l (masks l []) pi) pi a w.drew):(Code.region id l.toArray true).wp P Q a w:=
 wp_region_lexI (cl2 L1 C1 C2) pi hm hB (fun k=>by unfold cl2;split<;>assumption) h
variable {L1:List Nat} {C1 C2:World→Prop} {pi:List Nat}
theorem lexI_q {C:Nat→World→Prop} {A:World→Prop} {need:Nat→Nat→Bool} {i:Nat} {r:List Nat} {a:Act} {w:World} (o:Oper) (ho:l[i]? =some o) (ha:actOp o.op=false) (hn:(match o.op with| .nilCheck _=>true|_=>false)=false) (hA:∀w,C i w→A w)
  (h:wpQuiet P l.toArray A (fun a'=>wpLexI P l.toArray Q C (actAt l) need r a' w) [o] a):wpLexI P l.toArray Q C (actAt l) need (i::r) a w:=by
 have haf:actAt l i=false:=by simp[actAt,ho,ha]
 simp only[wpLexI,haf]
 rw[if_neg (by simp)]
 simp only[wpQuiet]at h
 by_cases hw:Region.wanted o (yielded l.toArray a.tmps)=true
 ·rw[if_pos hw]at h
  obtain⟨v,h1,h2⟩:=h
  refine⟨o,v,by simpa using ho,.inl ⟨hw,fun w' hw'=> ?_⟩,h2⟩
  have h3:=h1 w' (hA w' hw')
  unfold Oper.quietAt at h3
  cases e:(execOp a.eval o).run P w' with
  |halt x w1=>rw[e]at h3;simp[Oper.quietUpon]at h3
  |ok n w1=>
   obtain⟨u,rfl⟩:=exec_value ha (fun x hx=>by rw[hx]at hn;simp at hn) e
   rw[e]at h3
   simp only[Oper.quietUpon]at h3
   rw[h3.1,h3.2]
 ·rw[if_neg hw]at h
  exact⟨o,undef,by simpa using ho,.inr ⟨by simpa using hw,rfl⟩,h⟩
theorem lex3_q2 {need:Nat→Nat→Bool} {i:Nat} {r:List Nat} {a:Act} {w:World} (o:Oper) (ho:l[i]? =some o) (ha:actOp o.op=false) (hn:(match o.op with| .nilCheck _=>true|_=>false)=false) (hi:L1.contains i=false)
  (h:wpQuiet P l.toArray C2 (fun a'=>wpLexI P l.toArray Q (cl2 L1 C1 C2) (actAt l) need r a' w) [o] a):wpLexI P l.toArray Q (cl2 L1 C1 C2) (actAt l) need (i::r) a w:=
 lexI_q o ho ha hn (fun w hw=>by unfold cl2 at hw;rwa[if_neg (by simpa using hi)]at hw) h
def need1 (l:List Oper) (ms pi L1:List Nat) (i:Nat):Bool:=L1.any (fun k=>needI l ms pi i k)
def need2 (l:List Oper) (ms pi L1:List Nat) (i:Nat):Bool:=pi.any (fun k=> !L1.contains k&&needI l ms pi i k)
def lexPost3 (b1 b2:Bool) (C1 C2:World→Prop) (K:Act→World→Prop):Exit→Act→World→Prop
 | .normal,a,w=>(b1=true→C1 w)∧(b2=true→C2 w)∧K a w
 |_,_,_=>False
theorem lex3_a {i:Nat} {r:List Nat} {a:Act} {w:World} (o:Oper) (ho:l[i]? =some o) (ha:actOp o.op=true) (b1 b2:Bool) (hb1:need1 l (masks l []) pi L1 i=b1) (hb2:need2 l (masks l []) pi L1 i=b2)
  (h:wpList P l.toArray (lexPost3 b1 b2 C1 C2 (wpLexI P l.toArray Q (cl2 L1 C1 C2) (actAt l) (needI l (masks l []) pi) r)) [o] a w):wpLexI P l.toArray Q (cl2 L1 C1 C2) (actAt l) (needI l (masks l []) pi) (i::r) a w:=by
 subst hb1 hb2
 have hd:∀(a:Act) (w:World),lexPost3 (need1 l (masks l []) pi L1 i) (need2 l (masks l []) pi L1 i) C1 C2 (wpLexI P l.toArray Q (cl2 L1 C1 C2) (actAt l) (needI l (masks l []) pi) r) .normal a w→(∀k,needI l (masks l []) pi i k=true→cl2 L1 C1 C2 k w)∧wpLexI P l.toArray Q (cl2 L1 C1 C2) (actAt l) (needI l (masks l []) pi) r a w:=by
  rintro a w ⟨h1,h2,h3⟩
  refine⟨fun k hk=> ?_,h3⟩
  unfold cl2
  by_cases hL:L1.contains k=true
  ·rw[if_pos hL]
   exact h1 (List.any_eq_true.2 ⟨k,by simpa using hL,hk⟩)
  ·rw[if_neg hL]
   have hkp:k∈pi:=by
    have:=hk
    simp only[needI,Bool.and_eq_true]at this
    simpa using this.1.1
   refine h2 (List.any_eq_true.2 ⟨k,hkp,by simp[hk];simpa using hL⟩)
 have hQ:LetsOut (lexPost3 (need1 l (masks l []) pi L1 i) (need2 l (masks l []) pi L1 i) C1 C2 (wpLexI P l.toArray Q (cl2 L1 C1 C2) (actAt l) (needI l (masks l []) pi) r))→LetsOut Q:=fun⟨_,_,h⟩=>h.elim
 have haf:actAt l i=true:=by simp[actAt,ho,ha]
 simp only[wpLexI,haf,if_true]
 unfold wpOp
 simp only[List.getElem?_toArray,ho]
 simp only[wpList]at h
 by_cases hw:Region.wanted o (yielded l.toArray a.tmps)=true
 ·rw[if_pos hw]at h⊢
  rcases h with h|⟨h1,h2⟩
  ·refine .inl ?_
   unfold Oper.wp at h⊢
   generalize (execOp a.eval o).run P w=res at h⊢
   cases res with
   |ok n w'=>
    cases n<;>simp only[Oper.upon]at h⊢
    case value u=>exact hd _ _ h
    case skip=>exact hd _ _ h
    case defer d=>exact hd _ _ h
    case enter f args=>
     refine Calls.mono h fun e w'' he=> ?_
     cases e with
     |returned u=>exact hd _ _ he
     |panicked c=>exact he.elim
     |outgrown=>exact hQ he
    case row row args=>exact Rows.mono h fun v w2 h=>hd _ _ h
   |halt x w'=>
    cases x<;>simp only[Oper.upon]at h⊢
    case panic u=>exact h.elim
  ·exact .inr ⟨h1,hQ h2⟩
 ·rw[if_neg hw]at h⊢
  exact hd _ _ h
end
end
section
open Go.RowKit
theorem index_pos (x:Int×Int) (w:World) (h1:0≤x.1) (h2:x.1≤96) (h3:x.2=0∨x.2=1):Calls Tryz.prog 293 #[.agg (endC x)] w fun e w'=>e= .returned (.int .i64 (ePos x:Int))∧KeepsAll w w':=by
 refine(index_any x w h1 h2 (by omega) (by omega)).mono ?_
 rintro e w' ⟨rfl,K⟩
 have:(ePos x:Int)=2*x.1+x.2:=by unfold ePos;omega
 rw[this]
 exact⟨rfl,K⟩
section
variable {w2 wr w':World} {q B:Nat} {L:Lay} {v:LV} {vs:List Value} {ll:List (List Lnk)}
theorem CkL.layr (h:CkL w2 wr q B L v vs ll):RLay wr (Old wr) v L:=
 have f:=fun b (hb:b<w2.heap.size∧b≠B)=>Nat.lt_of_lt_of_le hb.1 h.k.size
 ⟨h.k.rd RStrs.ok h.lay.sts (fun _ hb=>hb) f,h.k.rd RStrs.ok h.lay.pts (fun _ hb=>hb) f,h.k.rd (RSlice.ok RSec.ok) h.lay.secs (fun _ hb=>hb) f,h.k.rd (RSlice.ok RLnk.ok) h.lay.lks (fun _ hb=>hb) f⟩
theorem OwnL.lnks {base:Nat} {A:Option Addr} {c:Nat} {l:List Lnk} (h:OwnL 196 6 RLnk wr base base (.slice A l.length c) l):RLnks wr (Old wr) [.slice A l.length c] l:=
 h.readF RLnk.ok RLnk.flat (fun _ hb=>(h.lt hb).2)
end
theorem blk_gen {w Wb:World} {t:TypeId} {cs:Array Value} (h:World.drew (World.alloc w (.cells cs t))=Wb):Blk Wb w.heap.size t cs∧KeepsAll w Wb:=by
 subst h;exact⟨Blk.new w t cs,((Keeps.refl _ _).alloc _).drew⟩
set_option maxRecDepth 100000 in
set_option maxHeartbeats 4000000 in
theorem checkLinks_any (L:Lay) (v:LV) (w:World) (h:RLay w (Old w) v L) (h2:L.secs.length≤96) (h3:L.lks.length≤192):
  Calls Tryz.prog 191 #[.agg (v.cs L)] w fun e w'=>e= .returned (.int .i64 (lnksErr L [] L.lks))∧KeepsAll w w':=by
 have hc3:=h.secs.caps
 have hc4:=h.lks.caps
 have HL:=Lib.hid h;clear h
 have hmk:=mkLnkRows (2*L.secs.length) (by omega)
 have em:((2*L.secs.length:Nat):Int)=2*(L.secs.length:Int):=by omega
 rw[em]at hmk
 unfold LV.cs
 go_enter Tryz.func191,Tryz.ntmps191
 go_wp2_with fail
 clear hmk em
 generalize hW:World.alloc (World.alloc w _) _=W
 have HI:Hid (CkL W W w.heap.size (w.heap.size+1) L v (List.replicate (2*L.secs.length) (.slice none 0 0)) (erl (2*L.secs.length) (L.lks.take 0))∧KeepsAll w W):=by
  subst hW
  have k1:KeepsAll w (w.alloc (.cells (v.cs L) 27)):=(Keeps.refl _ _).alloc _
  have k2:KeepsAll w ((w.alloc (.cells (v.cs L) 27)).alloc (.cells (List.replicate (2*L.secs.length) (Value.slice none 0 0)).toArray 25)):=k1.alloc _
  refine⟨⟨?_,(Blk.new w 27 (v.cs L)).alloc _,Keeps.refl _ _,?_,by simp;omega,by omega⟩,k2⟩
  ·have f1:∀b,Old w b→b<w.heap.size∧¬False:=fun b hb=>⟨hb,fun h=>h⟩
   have f2:∀b,Old w b→b<((w.alloc (.cells (v.cs L) 27)).alloc (.cells (List.replicate (2*L.secs.length) (Value.slice none 0 0)).toArray 25)).heap.size∧b≠w.heap.size+1:=fun b hb=>by
    have hb':b<w.heap.size:=hb
    have:=k2.size
    exact⟨by omega,by omega⟩
   exact⟨k2.rd RStrs.ok HL.out.sts f1 f2,k2.rd RStrs.ok HL.out.pts f1 f2,k2.rd (RSlice.ok RSec.ok) HL.out.secs f1 f2,k2.rd (RSlice.ok RLnk.ok) HL.out.lks f1 f2⟩
  ·have e:erl (2*L.secs.length) (L.lks.take 0)=List.replicate (2*L.secs.length) []:=by
    rw[tab_const]
    unfold erl
    refine tab_ext fun i _=> ?_
    simp[atE]
   rw[e]
   exact Rows.new _ (Blk.new' _ _ _ (by simp)) (by simp)
 clear hW
 obtain⟨q,hq⟩:∃q,w.heap.size=q:=⟨_,rfl⟩
 have HQ:=Lib.hid hq
 rw[hq]at HI
 simp only[hq]
 clear hq
 go_loopw [2,18] (fun r i wr=>∃(n:Nat) (vs:List Value),n≤L.lks.length∧i= .int .i64 (n:Int)∧r= .int .i64 0∧CkL W wr q (q+1) L v vs (erl (2*L.secs.length) (L.lks.take n))∧lnksErr L [] L.lks=lnksErr L (L.lks.take n) (L.lks.drop n)) (fun _ i _=>L.lks.length-(intOf i).toNat)
 case atStart=>exact⟨0,_,Nat.zero_le _,rfl,rfl,HI.out.1,rfl⟩
 case round=>
  obtain⟨n,vs,hn,rfl,rfl,hi,herr⟩:=hrel
  have HE:=Lib.hid herr
  have HX:=Lib.hid hi
  clear hi herr
  have KW:Hid (KeepsAll w wr):=HI.out.2.trans HX.out.k (fun x hx e=>by have:=HQ.out;omega)
  by_cases hlt:n<L.lks.length
  ·obtain⟨b,o,k,e4,hb,hk,c0,c1,c2,c3,c4,c5⟩:=HX.out.layr.lks.at_ hlt
   have hb':b<wr.heap.size:=hb
   obtain⟨ka,kae,kb,kbe,kp,ks⟩:=k
   simp only[]at c0 c1 c2 c3 c4 c5
   have HN:=Lib.hid ((lnksErr_at L L.lks n _ hk))
   have q0:=HX.out.box.cell 0
   have q1:=HX.out.box.cell 1
   have q2:=HX.out.box.cell 2
   have q3:=HX.out.box.cell 3
   unfold LV.cs at q0 q1 q2 q3
   simp at q0 q1 q2 q3
   have hq:=HX.out.box.lt
   clear hb
   obtain⟨A1,A2,A3,A4,u1,u2,u3,u4⟩:=v
   simp only[]at e4 q0 q1 q2 q3
   subst e4
   go_wp2_with fail
   clear c0 c1 c2 c3 c4 c5
   refine(lnkIn_any L ⟨A1,A2,A3,_,u1,u2,u3,u4⟩ ⟨ka,kae,kb,kbe,kp,ks⟩ _).mono ?_
   rintro e w1 ⟨rfl,k1⟩
   have KA:Hid (KeepsAll wr w1):=((Keeps.refl _ _).alloc _).trA k1
   have HZ:Hid (Blk w1 wr.heap.size 196 (lnkC ⟨ka,kae,kb,kbe,kp,ks⟩)):=(Blk.new _ _ _).kept k1 (by simp)
   have HX1:=Lib.hid (HX.out.keep KA.out)
   clear k1 q0 q1 q2 q3
   cases g1:lnkOk L ⟨ka,kae,kb,kbe,kp,ks⟩with
   |false=>
    have E:Hid (lnksErr L [] L.lks=4):=by
     show _=_
     rw[HE.out,HN.out]
     have:lnkErr L (L.lks.take n) ⟨ka,kae,kb,kbe,kp,ks⟩=4:=by simp[lnkErr,g1]
     rw[this];rfl
    go_wp2_with fail
    go_ret
    exact⟨by rw[E.out];rfl,KW.out.trA KA.out⟩
   |true=>
    have hok:=g1
    simp only[lnkOk,decide_eq_true_eq]at hok
    obtain⟨r1,r2,r3,r4,r5,r6,-,-,-⟩:=hok
    have z0:=HZ.out.cell 0
    have z1:=HZ.out.cell 1
    have z2:=HZ.out.cell 2
    have z3:=HZ.out.cell 3
    have z4:=HZ.out.cell 4
    have z5:=HZ.out.cell 5
    simp[lnkC]at z0 z1 z2 z3 z4 z5
    have hz:=HZ.out.lt
    go_wp2_with fail
    refine(ends_any ⟨ka,kae,kb,kbe,kp,ks⟩ _).mono ?_
    unfold endC
    rintro e w2 ⟨rfl,k2⟩
    go_wp2_with fail
    clear z0 z1 z2 z3 z4 z5
    generalize hW3:World.alloc (World.alloc w2 _) _=W3
    have K3:Hid (KeepsAll w1 W3):=by subst hW3;exact(k2.alloc _).alloc _
    have HA:Hid (Blk W3 w2.heap.size 422 (endC (ka,kae))):=by subst hW3;exact(Blk.new _ _ _).alloc _
    have HB:Hid (Blk W3 (w2.heap.size+1) 422 (endC (kb,kbe))):=by subst hW3;exact Blk.new' _ _ _ (by simp)
    have hz2:=k2.size
    clear hW3 k2
    have HX3:=Lib.hid (HX1.out.keep K3.out)
    have HZ3:=Lib.hid (HZ.out.kept K3.out (by simp))
    obtain⟨ia,hia⟩:∃ia,ePos (ka,kae)=ia:=⟨_,rfl⟩
    obtain⟨ib,hib⟩:∃ib,ePos (kb,kbe)=ib:=⟨_,rfl⟩
    have la:ia<2*L.secs.length:=by rw[←hia];unfold ePos;simp only[];omega
    have lb:ib<2*L.secs.length:=by rw[←hib];unfold ePos;simp only[];omega
    refine wp_region_lex3 [] (fun _=>True) (fun w'=>∃x:Ext W3,w'=x.val) [0,1,4,5,2,3,6,7,8,9] (by kernel_rfl) (by kernel_rfl) trivial ⟨⟨_,(Keeps.refl _ _).drew⟩,rfl⟩ ?_
    have y0:=Ext.cell ((HA.out.cell 0).trans (by rfl:_=some (.int .i64 ka)))
    have y1:=Ext.cell ((HA.out.cell 1).trans (by rfl:_=some (.int .i64 kae)))
    have y2:=Ext.cell ((HB.out.cell 0).trans (by rfl:_=some (.int .i64 kb)))
    have y3:=Ext.cell ((HB.out.cell 1).trans (by rfl:_=some (.int .i64 kbe)))
    iterate 4 (refine lex3_q2 _ rfl rfl rfl rfl ?_;go_big_quiet_step (fail);refine wpQuiet_nil ?_)
    refine lex3_a _ rfl rfl false true (by kernel_rfl) (by kernel_rfl) ?_
    go_wp2_with fail
    refine(index_pos (ka,kae) _ r1 (by simp only[];omega) (by simp only[];omega)).mono ?_
    rw[hia]
    rintro e w4 ⟨rfl,k4⟩
    have K4:Hid (KeepsAll W3 w4):=((Keeps.refl _ _).drew).trA k4
    go_wp2_with fail
    refine⟨fun h=>(by cases h),fun _=>⟨⟨_,K4.out⟩,rfl⟩,?_⟩
    refine lex3_q2 _ rfl rfl rfl rfl ?_;go_big_quiet_step (fail);refine wpQuiet_nil ?_
    refine lex3_a _ rfl rfl false true (by kernel_rfl) (by kernel_rfl) ?_
    go_wp2_with fail
    refine(index_pos (kb,kbe) _ r3 (by simp only[];omega) (by simp only[];omega)).mono ?_
    rw[hib]
    rintro e w5 ⟨rfl,k5⟩
    have K5:Hid (KeepsAll W3 w5):=K4.out.trA k5
    go_wp2_with fail
    refine⟨fun h=>(by cases h),fun _=>⟨⟨_,K5.out⟩,rfl⟩,?_⟩
    iterate 3 (refine lex3_q2 _ rfl rfl rfl rfl ?_;go_big_quiet_step (fail);refine wpQuiet_nil ?_)
    clear y0 y1 y2 y3 k4 k5 K4
    simp only[wpLexI]
    refine NoPanic.normal ?_
    have HX5:=Lib.hid (HX3.out.keep K5.out)
    have HZ5:=Lib.hid (HZ3.out.kept K5.out (by simp))
    have HA5:=Lib.hid (HA.out.kept K5.out (by simp))
    have HB5:=Lib.hid (HB.out.kept K5.out (by simp))
    have K15:Hid (KeepsAll wr w5):=(KA.out.trA K3.out).trA K5.out
    have hsz:wr.heap.size<w5.heap.size∧w2.heap.size+1<w5.heap.size:=by
     have:=HZ5.out.lt;have:=HB5.out.lt;omega
    clear HX3 HZ3 HA HB K5 K3 KA HX1 HZ
    generalize hza:w2.heap.size=za at*
    have f0:=(HA5.out.cell 0).trans (by rfl:_=some (.int .i64 ka))
    have f1:=(HA5.out.cell 1).trans (by rfl:_=some (.int .i64 kae))
    have f2:=(HB5.out.cell 0).trans (by rfl:_=some (.int .i64 kb))
    have f3:=(HB5.out.cell 1).trans (by rfl:_=some (.int .i64 kbe))
    by_cases gab:(ka,kae)=(kb,kbe)
    ·have E:Hid (lnksErr L [] L.lks=1):=by
      show _=_
      rw[HE.out,HN.out]
      have:lnkErr L (L.lks.take n) ⟨ka,kae,kb,kbe,kp,ks⟩=1:=by simp[lnkErr,g1,gab]
      rw[this];rfl
     have ga:=congrArg Prod.fst gab
     have gb:=congrArg Prod.snd gab
     simp only[]at ga gb
     clear gab
     go_wp2_with fail
     go_ret
     exact⟨by rw[E.out];rfl,KW.out.trA K15.out⟩
    have GAB:=Lib.hid gab
    obtain⟨Aa,ca,pa,hva,hla,hoa,hca,hfa,hca1,hca2⟩:=HX5.out.row (i:=ia) (by rw[erl_len];exact la)
    obtain⟨Ab,cb,pb,hvb,hlb,hob,hcb,hfb,hcb1,hcb2⟩:=HX5.out.row (i:=ib) (by rw[erl_len];exact lb)
    have epa:pa=atE (L.lks.take n) (ka,kae):=by
     rw[←hia,erl_at r1 r5 (by rw[hia];exact la)]at hla
     exact(Option.some.inj hla).symm
    have epb:pb=atE (L.lks.take n) (kb,kbe):=by
     rw[←hib,erl_at r3 r6 (by rw[hib];exact lb)]at hlb
     exact(Option.some.inj hlb).symm
    have HVA:=Lib.hid hva
    have HLA:=Lib.hid hla
    have HOA:=Lib.hid hoa
    have HVB:=Lib.hid hvb
    have HLB:=Lib.hid hlb
    have HOB:=Lib.hid hob
    have EPA:=Lib.hid epa
    have EPB:=Lib.hid epb
    clear hva hla hoa hvb hlb hob epa epb gab
    have FARA:Hid (∀b,(Value.slice Aa pa.length ca).ownBlock=some b→W.heap.size≤b∧b<wr.heap.size):=fun b hb=>(HX.out.rows.own ia _ pa HVA.out HLA.out).lt hb
    have FARB:Hid (∀b,(Value.slice Ab pb.length cb).ownBlock=some b→W.heap.size≤b∧b<wr.heap.size):=fun b hb=>(HX.out.rows.own ib _ pb HVB.out HLB.out).lt hb
    have hB:=HX5.out.rows.blk.lt
    have hBW:=HX5.out.rows.nb
    have hWz:W.heap.size≤wr.heap.size:=HX.out.k.size
    have HNE:Hid (ia≠ib):=fun e=>GAB.out (by rw[←eOf_pos (x:=(ka,kae)) r1 r5,←eOf_pos (x:=(kb,kbe)) r3 r6,hia,hib,e])
    obtain⟨j,hj⟩:∃j,anyJ pa (ka,kae) (kb,kbe)=j:=⟨_,rfl⟩
    obtain⟨fA,hfA⟩:∃f,fitsE ⟨ka,kae,kb,kbe,kp,ks⟩ pa=f:=⟨_,rfl⟩
    obtain⟨fB,hfB⟩:∃f,fitsE ⟨ka,kae,kb,kbe,kp,ks⟩ pb=f:=⟨_,rfl⟩
    have EK:Hid (lnkErr L (L.lks.take n) ⟨ka,kae,kb,kbe,kp,ks⟩=if j=true then 5 else if fA=false∨fB=false then 11 else 0):=by
     show _=_
     rw[←hj,←hfA,←hfB,EPA.out,EPB.out,anyJ_at GAB.out]
     unfold lnkErr
     rw[if_neg (by simp[g1]),if_neg GAB.out]
    have HJ:=Lib.hid hj
    have HFA:=Lib.hid hfA
    have HFB:=Lib.hid hfB
    have EP:Hid (((erl (2*L.secs.length) (L.lks.take n)).set ia (pa++ [⟨ka,kae,kb,kbe,kp,ks⟩])).set ib (pb++ [⟨ka,kae,kb,kbe,kp,ks⟩])=erl (2*L.secs.length) (L.lks.take (n+1))):=by
     show _=_
     rw[←hia,←hib,EPA.out,EPB.out,erl_push (k:=⟨ka,kae,kb,kbe,kp,ks⟩) r1 r5 r3 r6,List.take_add_one,hk,Option.toList_some]
    have hpl:pa.length≤1000000∧pb.length≤1000000:=by
     have l1:(atE (L.lks.take n) (ka,kae)).length≤(L.lks.take n).length:=List.length_filter_le _ _
     have l2:(atE (L.lks.take n) (kb,kbe)).length≤(L.lks.take n).length:=List.length_filter_le _ _
     rw[List.length_take]at l1 l2
     rw[EPA.out,EPB.out]
     omega
    clear hj hfA hfB
    have gsp:ka=kb∧¬kae=kbe∨¬ka=kb:=by
     by_cases h1:ka=kb
     ·exact .inl ⟨h1,fun h2=>GAB.out (by rw[h1,h2])⟩
     ·exact .inr h1
    rcases gsp with⟨rfl,gne⟩|gne
    all_goals
     go_wp2_with fail
     refine wp_region_lexB (fun w'=>∃x:Ext w5,w'=x.val) [0,1,2,3,4,5,6] (by kernel_rfl) (by kernel_rfl) ⟨⟨_,(Keeps.refl _ _).drew⟩,rfl⟩ ?_
     have y0:=Ext.cell f0
     have y1:=Ext.cell f1
     have y2:=Ext.cell f2
     have y3:=Ext.cell f3
     have y4:=Ext.cell hca
     refine lex_q _ rfl rfl rfl ?_;go_big_quiet_step (fail);refine wpQuiet_nil ?_
     refine lex_nil _ rfl _ rfl rfl _ rfl ?_;go_simp
     iterate 3 (refine lex_q _ rfl rfl rfl ?_;go_big_quiet_step (fail);refine wpQuiet_nil ?_)
     refine lex_a _ rfl rfl true (by kernel_rfl) ?_
     go_wp2_with fail
     have k5d:KeepsAll w5 w5.drew:=(Keeps.refl _ _).drew
     refine(joined_any pa Aa ca (_,kae) (_,kbe) _ (k5d.rdA (RSlice.ok RLnk.ok) HOA.out.lnks)).mono ?_
     rw[HJ.out]
     rintro e w6 ⟨rfl,k6⟩
     have K6:Hid (KeepsAll w5 w6):=k5d.trA k6
     clear k5d k6
     go_wp2_with fail
     refine⟨fun _=>⟨⟨_,K6.out⟩,rfl⟩,?_⟩
     refine lex_q _ rfl rfl rfl ?_;go_big_quiet_step (fail);refine wpQuiet_nil ?_
     clear y0 y1 y2 y3 y4
     simp only[wpLex]
     refine NoPanic.normal ?_
     cases j
     rotate_left
     ·go_wp2_with fail
      go_ret
      exact⟨by rw[HE.out,HN.out,EK.out];rfl,KW.out.trA (K15.out.trA K6.out)⟩
     have HX6:=Lib.hid (HX5.out.keep K6.out)
     have HZ6:=Lib.hid (HZ5.out.kept K6.out (by simp))
     have hca6:=K6.out.cellA hB hca
     have hcb6:=K6.out.cellA hB hcb
     have z0:=(HZ6.out.cell 0).trans (by rfl:_=some (.int .i64 _))
     have z1:=(HZ6.out.cell 1).trans (by rfl:_=some (.int .i64 _))
     have z2:=(HZ6.out.cell 2).trans (by rfl:_=some (.int .i64 _))
     have z3:=(HZ6.out.cell 3).trans (by rfl:_=some (.int .i64 _))
     have z4:=(HZ6.out.cell 4).trans (by rfl:_=some (.int .i64 _))
     have z5:=(HZ6.out.cell 5).trans (by rfl:_=some (.int .i64 _))
     clear f0 f1 f2 f3 hca hcb
     go_wp2_with fail
     refine wp_region_lexB (fun w'=>∃x:Ext w6,w'=x.val) [0,1,2,3,4,5,6] (by kernel_rfl) (by kernel_rfl) ⟨⟨_,(Keeps.refl _ _).drew⟩,rfl⟩ ?_
     have y0:=Ext.cell z0
     have y1:=Ext.cell z1
     have y2:=Ext.cell z2
     have y3:=Ext.cell z3
     have y4:=Ext.cell z4
     have y5:=Ext.cell z5
     have y6:=Ext.cell hca6
     iterate 2 (refine lex_q _ rfl rfl rfl ?_;go_big_quiet_step (fail);refine wpQuiet_nil ?_)
     refine lex_nil _ rfl _ rfl rfl _ rfl ?_;go_simp
     refine lex_q _ rfl rfl rfl ?_;go_big_quiet_step (fail);refine wpQuiet_nil ?_
     refine lex_a _ rfl rfl true (by kernel_rfl) ?_
     go_wp2_with fail
     have k6d:KeepsAll w6 w6.drew:=(Keeps.refl _ _).drew
     refine(fits_any ⟨_,kae,_,kbe,kp,ks⟩ pa Aa ca _ ((K6.out.trA k6d).rdA (RSlice.ok RLnk.ok) HOA.out.lnks)).mono ?_
     rw[HFA.out]
     rintro e w7 ⟨rfl,k7⟩
     have K7:Hid (KeepsAll w6 w7):=k6d.trA k7
     clear k6d k7
     go_wp2_with fail
     refine⟨fun _=>⟨⟨_,K7.out⟩,rfl⟩,?_⟩
     iterate 2 (refine lex_q _ rfl rfl rfl ?_;go_big_quiet_step (fail);refine wpQuiet_nil ?_)
     clear y0 y1 y2 y3 y4 y5 y6
     simp only[wpLex]
     refine NoPanic.normal ?_
     cases fA
     ·go_wp2_with fail
      go_ret
      exact⟨by rw[HE.out,HN.out,EK.out];rfl,KW.out.trA (K15.out.trA (K6.out.trA K7.out))⟩
     have HX7:=Lib.hid (HX6.out.keep K7.out)
     have HZ7:=Lib.hid (HZ6.out.kept K7.out (by simp))
     have hB6:q+1<w6.heap.size:=Nat.lt_of_lt_of_le hB K6.out.size
     have hca7:=K7.out.cellA (p:=⟨q+1,ia,none⟩) hB6 hca6
     have hcb7:=K7.out.cellA (p:=⟨q+1,ib,none⟩) hB6 hcb6
     have uu0:=(HZ7.out.cell 0).trans (by rfl:_=some (.int .i64 _))
     have uu1:=(HZ7.out.cell 1).trans (by rfl:_=some (.int .i64 _))
     have uu2:=(HZ7.out.cell 2).trans (by rfl:_=some (.int .i64 _))
     have uu3:=(HZ7.out.cell 3).trans (by rfl:_=some (.int .i64 _))
     have uu4:=(HZ7.out.cell 4).trans (by rfl:_=some (.int .i64 _))
     have uu5:=(HZ7.out.cell 5).trans (by rfl:_=some (.int .i64 _))
     clear z0 z1 z2 z3 z4 z5 hca6 hcb6
     go_wp2_with fail
     refine wp_region_lexB (fun w'=>∃x:Ext w7,w'=x.val) [0,1,2,3,4,5,6] (by kernel_rfl) (by kernel_rfl) ⟨⟨_,(Keeps.refl _ _).drew⟩,rfl⟩ ?_
     have y0:=Ext.cell uu0
     have y1:=Ext.cell uu1
     have y2:=Ext.cell uu2
     have y3:=Ext.cell uu3
     have y4:=Ext.cell uu4
     have y5:=Ext.cell uu5
     have y6:=Ext.cell hcb7
     iterate 2 (refine lex_q _ rfl rfl rfl ?_;go_big_quiet_step (fail);refine wpQuiet_nil ?_)
     refine lex_nil _ rfl _ rfl rfl _ rfl ?_;go_simp
     refine lex_q _ rfl rfl rfl ?_;go_big_quiet_step (fail);refine wpQuiet_nil ?_
     refine lex_a _ rfl rfl true (by kernel_rfl) ?_
     go_wp2_with fail
     have k7d:KeepsAll w7 w7.drew:=(Keeps.refl _ _).drew
     refine(fits_any ⟨_,kae,_,kbe,kp,ks⟩ pb Ab cb _ (((K6.out.trA K7.out).trA k7d).rdA (RSlice.ok RLnk.ok) HOB.out.lnks)).mono ?_
     rw[HFB.out]
     rintro e w8 ⟨rfl,k8⟩
     have K8:Hid (KeepsAll w7 w8):=k7d.trA k8
     clear k7d k8
     go_wp2_with fail
     refine⟨fun _=>⟨⟨_,K8.out⟩,rfl⟩,?_⟩
     iterate 2 (refine lex_q _ rfl rfl rfl ?_;go_big_quiet_step (fail);refine wpQuiet_nil ?_)
     clear y0 y1 y2 y3 y4 y5 y6
     simp only[wpLex]
     refine NoPanic.normal ?_
     cases fB
     ·go_wp2_with fail
      go_ret
      exact⟨by rw[HE.out,HN.out,EK.out];rfl,KW.out.trA (K15.out.trA (K6.out.trA (K7.out.trA K8.out)))⟩
     have K58:Hid (KeepsAll w5 w8):=K6.out.trA (K7.out.trA K8.out)
     have HX8:=Lib.hid (HX7.out.keep K8.out)
     have HZ8:=Lib.hid (HZ7.out.kept K8.out (by simp))
     have hB8:q+1<w8.heap.size:=Nat.lt_of_lt_of_le hB K58.out.size
     have hca8:=K8.out.cellA (p:=⟨q+1,ia,none⟩) (Nat.lt_of_lt_of_le hB6 K7.out.size) hca7
     have z0:=(HZ8.out.cell 0).trans (by rfl:_=some (.int .i64 _))
     have z1:=(HZ8.out.cell 1).trans (by rfl:_=some (.int .i64 _))
     have z2:=(HZ8.out.cell 2).trans (by rfl:_=some (.int .i64 _))
     have z3:=(HZ8.out.cell 3).trans (by rfl:_=some (.int .i64 _))
     have z4:=(HZ8.out.cell 4).trans (by rfl:_=some (.int .i64 _))
     have z5:=(HZ8.out.cell 5).trans (by rfl:_=some (.int .i64 _))
     have hfa8:=(HX8.out.rows.blk).frozen ia
     clear uu0 uu1 uu2 uu3 uu4 uu5 hca7 hcb7 hfa hfb
     go_wp2_with fail
     refine wp_region_lexB (fun w'=>∃x:ExtC (fun b=>(Value.slice Aa pa.length ca).ownBlock=some b) w8,w'=x.val) [0,1,2,3,4,5,6,7,8] (by kernel_rfl) (by kernel_rfl) (ExtC.start _ _) ?_
     have fz:¬(Value.slice Aa pa.length ca).ownBlock=some wr.heap.size:=fun e=>by have:=FARA.out _ e;omega
     have fq:¬(Value.slice Aa pa.length ca).ownBlock=some (q+1):=fun e=>by have:=FARA.out _ e;omega
     have y0:=ExtC.cell (C:=fun b=>(Value.slice Aa pa.length ca).ownBlock=some b) z0 fz
     have y1:=ExtC.cell (C:=fun b=>(Value.slice Aa pa.length ca).ownBlock=some b) z1 fz
     have y2:=ExtC.cell (C:=fun b=>(Value.slice Aa pa.length ca).ownBlock=some b) z2 fz
     have y3:=ExtC.cell (C:=fun b=>(Value.slice Aa pa.length ca).ownBlock=some b) z3 fz
     have y4:=ExtC.cell (C:=fun b=>(Value.slice Aa pa.length ca).ownBlock=some b) z4 fz
     have y5:=ExtC.cell (C:=fun b=>(Value.slice Aa pa.length ca).ownBlock=some b) z5 fz
     have y6:=ExtC.cell (C:=fun b=>(Value.slice Aa pa.length ca).ownBlock=some b) hca8 fq
     iterate 2 (refine lex_q _ rfl rfl rfl ?_;go_big_quiet_step (fail);refine wpQuiet_nil ?_)
     refine lex_nil _ rfl _ rfl rfl _ rfl ?_;go_simp
     iterate 2 (refine lex_q _ rfl rfl rfl ?_;go_big_quiet_step (fail);refine wpQuiet_nil ?_)
     refine lex_a _ rfl rfl true (by kernel_rfl) ?_
     go_wp2
     refine⟨fun _=>⟨⟨_,((Keeps.refl _ _).alloc _).drew⟩,rfl⟩,?_⟩
     generalize hWb:World.drew (World.alloc w8 _)=Wb
     have KB9:=Lib.hid (blk_gen hWb).2
     have HBX9:=Lib.hid (blk_gen hWb).1
     clear hWb
     have HXb9:=Lib.hid (HX8.out.keep KB9.out)
     have HOb9:=Lib.hid (HXb9.out.rows.own ia _ pa HVA.out HLA.out)
     have hzb9:=HXb9.out.k.size
     refine lex_a _ rfl rfl true (by kernel_rfl) ?_
     go_wp2_with(at_builtin;refine wpList_append_L tyLnk RLnk.ok rfl (.tmp 66) (.tmp 68) rfl HOb9.out rfl _ [.int .i64 _,.int .i64 kae,.int .i64 _,.int .i64 kbe,.int .i64 kp,.int .i64 ks] rfl HBX9.out rfl ⟨_,kae,_,kbe,kp,ks⟩ (S:=fun _=>False) rfl (fun _ h=>h.elim) (by simp[Value.oneCell']) (by omega) (by omega) hzb9 ?_;intro v9 w9 HO9 HK9 HA9;obtain⟨Ax,cx,hvx,-,-⟩:=HO9.form;generalize List.length (pa++_)=nx at hvx;subst hvx)
     have HPU9:=Lib.hid (HXb9.out.push HVA.out HLA.out HO9 HK9 HA9)
     have K9:Keeps (fun b=>(Value.slice Aa pa.length ca).ownBlock=some b) w8 w9:=(KB9.out.mono (fun _ _ h=>h.elim)).trans HK9 (fun _ _ h=>h)
     have hc9:w9.cell? ⟨q+1,ia,none⟩=some (.slice Aa pa.length ca):=(K9.cell (p:=⟨q+1,ia,none⟩) hB8 fq).trans hca8
     have hf9:w9.frozen? ⟨q+1,ia,none⟩=false:=(HX8.out.rows.blk.kept K9 fq).frozen ia
     have HZ9:=Lib.hid ((HZ8.out.kept K9 fz).far (p:=⟨q+1,ia,none⟩) (by show wr.heap.size≠q+1;omega) (.slice Ax nx cx))
     have hB9:q+1<w9.heap.size:=Nat.lt_of_lt_of_le hB8 K9.size
     refine⟨fun _=>⟨⟨_,K9⟩,rfl⟩,?_⟩
     clear K9 HO9 HK9 HA9
     refine lex_nil _ rfl _ rfl rfl _ rfl ?_;go_simp
     refine lex_a _ rfl rfl false (by kernel_rfl) ?_
     go_wp2
     (try refine⟨fun h=>(by cases h),?_⟩)
     clear y0 y1 y2 y3 y4 y5 y6 fz fq
     simp only[wpLex]
     refine NoPanic.normal ?_
     clear z0 z1 z2 z3 z4 z5 hca8 hfa8 hc9 hf9
     have hLl:ia<(erl (2*L.secs.length) (L.lks.take n)).length:=by rw[erl_len];exact la
     obtain⟨w10,hw10⟩:∃w10,w9.setCell ⟨q+1,ia,none⟩ (.slice Ax nx cx)=w10:=⟨_,rfl⟩
     rw[hw10]at HPU9 HZ9
     rw[hw10]
     have hB10:q+1<w10.heap.size:=HPU9.out.rows.blk.lt
     have KW10:Hid (KeepsAll w w10):=HI.out.2.trans HPU9.out.k (fun x hx e=>by have:=HQ.out;omega)
     clear hw10 hB9
     have HVB9:Hid ((vs.set ia (.slice Ax nx cx))[ib]? =some (Value.slice Ab pb.length cb)):=by show _=_;rw[List.getElem?_set_ne HNE.out];exact HVB.out
     have hcb10:w10.cell? ⟨q+1,ib,none⟩=some (.slice Ab pb.length cb):=by
      rw[HPU9.out.rows.blk.cell ib,List.getElem?_toArray];exact HVB9.out
     have hfb10:=HPU9.out.rows.blk.frozen ib
     have z0:=(HZ9.out.cell 0).trans (by rfl:_=some (.int .i64 _))
     have z1:=(HZ9.out.cell 1).trans (by rfl:_=some (.int .i64 _))
     have z2:=(HZ9.out.cell 2).trans (by rfl:_=some (.int .i64 _))
     have z3:=(HZ9.out.cell 3).trans (by rfl:_=some (.int .i64 _))
     have z4:=(HZ9.out.cell 4).trans (by rfl:_=some (.int .i64 _))
     have z5:=(HZ9.out.cell 5).trans (by rfl:_=some (.int .i64 _))
     go_wp2_with fail
     refine wp_region_lexB (fun w'=>∃x:ExtC (fun b=>(Value.slice Ab pb.length cb).ownBlock=some b) w10,w'=x.val) [0,1,2,3,4,5,6,7,8] (by kernel_rfl) (by kernel_rfl) (ExtC.start _ _) ?_
     have fz:¬(Value.slice Ab pb.length cb).ownBlock=some wr.heap.size:=fun e=>by have:=FARB.out _ e;omega
     have fq:¬(Value.slice Ab pb.length cb).ownBlock=some (q+1):=fun e=>by have:=FARB.out _ e;omega
     have y0:=ExtC.cell (C:=fun b=>(Value.slice Ab pb.length cb).ownBlock=some b) z0 fz
     have y1:=ExtC.cell (C:=fun b=>(Value.slice Ab pb.length cb).ownBlock=some b) z1 fz
     have y2:=ExtC.cell (C:=fun b=>(Value.slice Ab pb.length cb).ownBlock=some b) z2 fz
     have y3:=ExtC.cell (C:=fun b=>(Value.slice Ab pb.length cb).ownBlock=some b) z3 fz
     have y4:=ExtC.cell (C:=fun b=>(Value.slice Ab pb.length cb).ownBlock=some b) z4 fz
     have y5:=ExtC.cell (C:=fun b=>(Value.slice Ab pb.length cb).ownBlock=some b) z5 fz
     have y6:=ExtC.cell (C:=fun b=>(Value.slice Ab pb.length cb).ownBlock=some b) hcb10 fq
     iterate 2 (refine lex_q _ rfl rfl rfl ?_;go_big_quiet_step (fail);refine wpQuiet_nil ?_)
     refine lex_nil _ rfl _ rfl rfl _ rfl ?_;go_simp
     iterate 2 (refine lex_q _ rfl rfl rfl ?_;go_big_quiet_step (fail);refine wpQuiet_nil ?_)
     refine lex_a _ rfl rfl true (by kernel_rfl) ?_
     go_wp2
     refine⟨fun _=>⟨⟨_,((Keeps.refl _ _).alloc _).drew⟩,rfl⟩,?_⟩
     generalize hWd:World.drew (World.alloc w10 _)=Wd
     have KB12:=Lib.hid (blk_gen hWd).2
     have HBX12:=Lib.hid (blk_gen hWd).1
     clear hWd
     have HXb12:=Lib.hid (HPU9.out.keep KB12.out)
     have HOb12:=Lib.hid (HXb12.out.rows.own ib _ pb HVB9.out (by rw[List.getElem?_set_ne HNE.out];exact HLB.out))
     have hzb12:=HXb12.out.k.size
     refine lex_a _ rfl rfl true (by kernel_rfl) ?_
     go_wp2_with(at_builtin;refine wpList_append_L tyLnk RLnk.ok rfl (.tmp 74) (.tmp 76) rfl HOb12.out rfl _ [.int .i64 _,.int .i64 kae,.int .i64 _,.int .i64 kbe,.int .i64 kp,.int .i64 ks] rfl HBX12.out rfl ⟨_,kae,_,kbe,kp,ks⟩ (S:=fun _=>False) rfl (fun _ h=>h.elim) (by simp[Value.oneCell']) (by omega) (by omega) hzb12 ?_;intro v12 w12 HO12 HK12 HA12;obtain⟨Ay,cy,hvy,-,-⟩:=HO12.form;generalize List.length (pb++_)=ny at hvy;subst hvy)
     have HPU12:=Lib.hid (HXb12.out.push HVB9.out (by rw[List.getElem?_set_ne HNE.out];exact HLB.out) HO12 HK12 HA12)
     have K12:Keeps (fun b=>(Value.slice Ab pb.length cb).ownBlock=some b) w10 w12:=(KB12.out.mono (fun _ _ h=>h.elim)).trans HK12 (fun _ _ h=>h)
     have hc12:w12.cell? ⟨q+1,ib,none⟩=some (.slice Ab pb.length cb):=(K12.cell (p:=⟨q+1,ib,none⟩) hB10 fq).trans hcb10
     have hf12:w12.frozen? ⟨q+1,ib,none⟩=false:=(HPU9.out.rows.blk.kept K12 fq).frozen ib
     have HZ12:=Lib.hid ((HZ9.out.kept K12 fz).far (p:=⟨q+1,ib,none⟩) (by show wr.heap.size≠q+1;omega) (.slice Ay ny cy))
     have hB12:q+1<w12.heap.size:=Nat.lt_of_lt_of_le hB10 K12.size
     refine⟨fun _=>⟨⟨_,K12⟩,rfl⟩,?_⟩
     clear K12 HO12 HK12 HA12
     refine lex_nil _ rfl _ rfl rfl _ rfl ?_;go_simp
     refine lex_a _ rfl rfl false (by kernel_rfl) ?_
     go_wp2
     (try refine⟨fun h=>(by cases h),?_⟩)
     clear y0 y1 y2 y3 y4 y5 y6 fz fq
     simp only[wpLex]
     refine NoPanic.normal ?_
     have EN:Hid (lnksErr L [] L.lks=lnksErr L (L.lks.take (n+1)) (L.lks.drop (n+1))):=by
      show _=_
      rw[HE.out,HN.out,EK.out]
      rfl
     go_wp2_with fail
     go_roundw
     case rel=>exact⟨n+1,_,by omega,by go_num,rfl,by rw[←EP.out];exact HPU12.out,EN.out⟩
     case measure=>simp[intOf];omega
  ·obtain rfl:n=L.lks.length:=by omega
   go_wp2
   go_ret
   refine⟨?_,KW.out⟩
   rw[HE.out,List.drop_length]
   rfl
end
end Go.Proofs.YtcbcegdidlefiaaGreat
