/- A region that draws its order and in which two operations may come in either order, where reading operations hang on the first one alone. No condition. Contract of CheckRoute (reference): the error of a route. Conditions: as the theorem says. -/
import Derived.Test.YtcbcegdidlefiaaGreatK07
import Derived.Test.YtcbcegdidlefiaaGreatK13
import Derived.Test.YtcbcegdidlefiaaGreatK14
import Derived.Test.YtcbcegdidlefiaaGreatK10
namespace Go.Proofs.YtcbcegdidlefiaaGreat
section
open Go.RowKit
section
variable {P:Program} {l:List Oper} {Q:Exit→Act→World→Prop} {C:World→Prop} {need1 need2:Nat→Bool}
theorem fork_takeG (hsel:∀(j:Nat) (o:Oper) cs b,l.toArray[j]? =some o→o.op≠ .select cs b) (hQ:∀c a w,¬Q (.panic c) a w) (hb:edgesBackB l=true) {need:Nat→Bool} (pre qs:List Nat) (x:Nat)
  (hpx:∀k∈pre,pairOk l (masks l []) k x=true) (hpy:∀i j,List.Sublist [i,j] (pre++qs)→pairOk l (masks l []) i j=true)
  (hneed1:∀i j,List.Sublist [i,j] (pre++x::qs)→waits (masks l []) j i=false→need j=true)
  (hneed2:∀i j,List.Sublist [j,i] (pre++x::qs)→actAt l i=false→need j=true)
  (r:List Nat) (listed:Array Bool) (a:Act) (w:World) (hsub:List.Sublist r pre) (hnd:(r++x::qs).Nodup) (hmem:∀j,j<l.length→(j∈r++x::qs↔listed.getD j true=false)) (hrl:∀j∈r++x::qs,j<l.length) (hsz:listed.size=l.length)
  (hdown:∀(j:Nat) (o:Oper),l[j]? =some o→listed.getD j false=true→∀e∈o.after,Region.binds .any e=true→listed.getD e.on false=true)
  (hC:C w) (hxa:actAt l x=true) (o:Oper) (ho:l[x]? =some o) (hall:∀e∈o.after,Region.binds .any e=true→listed.getD e.on false=true)
  (h:wpLex P l.toArray Q C (actAt l) need (r++x::qs) a w):wpOp P l.toArray Q x (fun a' w'=>wpAny P .any l.toArray Q (r.length+qs.length) (listed.setIfInBounds x true) a' w') a w:=by
 have hxl:x<l.length:=hrl x (by simp)
 have hwl:=waits_listedB hb (L:=fun k=>listed.getD k false=true) hdown (x+1) x o (by omega) ho hall
 have hsubB:List.Sublist (r++x::qs) (pre++x::qs):=hsub.append (List.Sublist.refl _)
 have hpre:∀k∈r,waits (masks l []) x k=false∧actAt l k=false∧∀ok oi,l.toArray[k]? =some ok→l.toArray[x]? =some oi→ok.apart l.toArray oi=true:=by
  intro k hk
  have hkl:=hrl k (by simp[hk])
  have hk0:=(hmem k hkl).1 (by simp[hk])
  have hnw:waits (masks l []) x k=false:=by
   cases e:waits (masks l []) x k with
   |false=>rfl
   |true=>exact absurd (hwl k e) ((getD_flip (by omega)).1 hk0)
  have hp:=hpx k (hsub.subset hk)
  simp only[pairOk,hnw,Bool.and_eq_true,Bool.false_or]at hp
  refine⟨hnw,by simpa using hp.2.1,fun ok oi h1 h2=> ?_⟩
  have h3:=hp.2.2
  simp only[List.getElem?_toArray]at h1 h2
  rw[h1,h2]at h3
  exact h3
 have hn:r≠ []→need x=true:=by
  intro hne
  obtain⟨k,hk⟩:=List.exists_mem_of_ne_nil _ hne
  have hs2:List.Sublist [k,x] (r++x::qs):=(List.singleton_sublist.2 hk).append (List.singleton_sublist.2 (by simp))
  exact hneed1 k x (hs2.trans hsubB) (hpre k hk).1
 have h1:=wpLex_pull (act:=actAt l) hsel hQ x (qs) r a w (fun k hk=>(hpre k hk).2) hn (fun _=>hC) (fun _=>⟨o,by simpa using ho⟩) h
 have hsubS:List.Sublist (r++qs) (r++x::qs):=(List.Sublist.refl r).append (List.sublist_cons_self x _)
 have hsubP:List.Sublist (pre++qs) (pre++x::qs):=(List.Sublist.refl pre).append (List.sublist_cons_self x _)
 have hxn:x∉r++qs:=by
  have h3:=List.nodup_append.1 hnd
  intro hx
  rcases List.mem_append.1 hx with hx|hx
  ·exact h3.2.2 x hx x (by simp) rfl
  ·exact(List.nodup_cons.1 h3.2.1).1 hx
 refine wpOp_mono (fun a' w' hh=> ?_) h1
 have hfin:=lex_anyB hsel hQ hb (need:=need) (C:=C) (pre++qs) hpy (fun i j hs hw=>hneed1 i j (hs.trans hsubP) hw) (fun i j hs hw=>hneed2 i j (hs.trans hsubP) hw) (r.length+qs.length) (r++qs) (listed.setIfInBounds x true) a' w' (by simp) (hsub.append (List.Sublist.refl _)) (hnd.sublist hsubS) ?_ (fun k hk=>hrl k (hsubS.subset hk)) (by simpa using hsz) ?_ ?_ hh.2.2
 ·exact hfin
 ·intro k hk
  by_cases hjk:x=k
  ·subst hjk
   have:(listed.setIfInBounds x true).getD x true=true:=by simp[Array.getD_eq_getD_getElem?,hsz,hxl]
   rw[this]
   exact⟨fun hx=>absurd hx hxn,fun hx=>by cases hx⟩
  ·rw[getD_set_ne true hjk,←hmem k hk]
   constructor
   ·intro hx;exact hsubS.subset hx
   ·intro hx
    rcases List.mem_append.1 hx with hx|hx
    ·exact List.mem_append_left _ hx
    ·rcases List.mem_cons.1 hx with hx|hx
     ·exact absurd hx.symm hjk
     ·exact List.mem_append_right _ hx
 ·intro k ok hok hlk e he hbd
  by_cases hjk:x=k
  ·subst hjk
   rw[ho]at hok
   injection hok with hok
   subst hok
   exact getD_set_true (hall e he hbd)
  ·rw[getD_set_ne false hjk]at hlk
   exact getD_set_true (hdown k ok hok hlk e he hbd)
 ·rintro⟨i,hi,hia⟩
  refine hh.1 hxa ?_
  rcases List.mem_append.1 hi with hi|hi
  ·exact hn (fun e=>by subst e;simp at hi)
  ·have hs2:List.Sublist [x,i] (r++x::qs):=((List.Sublist.cons_cons x (List.singleton_sublist.2 hi))).trans (List.sublist_append_right r _)
   exact hneed2 i x (hs2.trans hsubB) hia
theorem lex_anyG (hsel:∀(j:Nat) (o:Oper) cs b,l.toArray[j]? =some o→o.op≠ .select cs b) (hQ:∀c a w,¬Q (.panic c) a w) (hb:edgesBackB l=true) {needA:Nat→Bool} (pre post qx:List Nat) (x y:Nat) (hq:qx.Perm (y::post))
  (hpx:∀i j,List.Sublist [i,j] (pre++x::post)→pairOk l (masks l []) i j=true) (hpy:∀k∈pre,pairOk l (masks l []) k y=true) (hpq:∀i j,List.Sublist [i,j] (pre++qx)→pairOk l (masks l []) i j=true)
  (hx1:∀i j,List.Sublist [i,j] (pre++x::qx)→waits (masks l []) j i=false→need1 j=true) (hx2:∀i j,List.Sublist [j,i] (pre++x::qx)→actAt l i=false→need1 j=true)
  (hy1:∀i j,List.Sublist [i,j] (pre++y::x::post)→waits (masks l []) j i=false→need2 j=true) (hy2:∀i j,List.Sublist [j,i] (pre++y::x::post)→actAt l i=false→need2 j=true)
  (hxy:waits (masks l []) x y=false) (hpost:∀j∈post,waits (masks l []) j x=true) (hxa:actAt l x=true) (hya:actAt l y=true) (hract:∀i∈pre,actAt l i=false):
  ∀(n:Nat) (r:List Nat) (listed:Array Bool) (a:Act) (w:World),r.length=n→List.Sublist r pre→(r++x::y::post).Nodup→(∀j,j<l.length→(j∈r++x::y::post↔listed.getD j true=false))→(∀j∈r++x::y::post,j<l.length)→listed.size=l.length→
  (∀(j:Nat) (o:Oper),l[j]? =some o→listed.getD j false=true→∀e∈o.after,Region.binds .any e=true→listed.getD e.on false=true)→C w→
  wpLexK P l.toArray Q (fun a w=>wpLex P l.toArray Q C (actAt l) need1 (x::qx) a w∧wpLex P l.toArray Q C (actAt l) need2 (y::x::post) a w) C (actAt l) needA r a w→wpAny P .any l.toArray Q (r.length+post.length+2) listed a w:=by
 have hqlen:∀r:List Nat,r.length+qx.length=r.length+post.length+1:=fun r=>by have:=hq.length_eq;simp at this;omega
 have hperm:∀r:List Nat,(r++x::qx).Perm (r++x::y::post):=fun r=>List.Perm.append_left r (List.Perm.cons x hq)
 intro n
 induction n with
 |zero=>
  intro r listed a w hn hsub hnd hmem hrl hsz hdown hC h
  have:r=[]:=List.eq_nil_of_length_eq_zero hn
  subst this
  refine⟨fun hempty=> ?_,fun j hj=> ?_⟩
  ·exfalso
   have hxl:x<l.length:=hrl x (by simp)
   have:x∈Region.ready .any l.toArray listed:=by
    refine mem_ready.2 ⟨(hmem x hxl).1 (by simp),l[x],by simp[hxl],fun e he hbd=> ?_⟩
    have hw:=waits_edge (List.getElem?_eq_getElem hxl) he hbd
    have hlt:e.on<x:=waits_ltB hb (List.getElem?_eq_getElem hxl) hw
    apply Classical.byContradiction
    intro hnn
    have hin:e.on∈ []++x::y::post:=(hmem e.on (by omega)).2 ((getD_flip (by omega)).2 hnn)
    simp only[List.nil_append,List.mem_cons]at hin
    rcases hin with h'|h'|h'
    ·omega
    ·rw[h']at hw;rw[hw]at hxy;cases hxy
    ·have hp:=hpx x e.on ((List.Sublist.cons_cons x (List.singleton_sublist.2 h')).trans (List.sublist_append_right pre _))
     simp only[pairOk,Bool.and_eq_true]at hp
     simp[hw]at hp
   rw[hempty]at this
   simp at this
  ·obtain⟨h0,o,ho,hall⟩:=mem_ready.1 hj
   have hjl:j<l.length:=by
    have:=(Array.getElem?_eq_some_iff.1 ho).1;simpa using this
   have ho':l[j]? =some o:=by simpa using ho
   have hwl:=waits_listedB hb (L:=fun k=>listed.getD k false=true) hdown (j+1) j o (by omega) ho' hall
   have hjr:=(hmem j hjl).2 h0
   simp only[List.nil_append,List.mem_cons]at hjr
   rcases hjr with rfl|rfl|hjp
   ·have h9:=fork_takeG hsel hQ hb pre qx j (fun k hk=>hpx k j ((List.singleton_sublist.2 hk).append (List.singleton_sublist.2 (by simp)))) hpq hx1 hx2 [] listed a w hsub ((hperm []).nodup_iff.2 hnd) (fun k hk=>((hperm []).mem_iff).trans (hmem k hk)) (fun k hk=>hrl k ((hperm []).mem_iff.1 hk)) hsz hdown hC hxa o ho' hall h.1
    rw[hqlen]at h9
    exact h9
   ·have hperm:∀k,k∈ []++j::x::post↔k∈ []++x::j::post:=fun k=>by simp only[List.nil_append,List.mem_cons];constructor<;>(rintro(h|h|h)<;>simp[h])
    exact fork_takeG hsel hQ hb pre (x::post) j hpy hpx hy1 hy2 [] listed a w hsub (by simp only[List.nil_append,List.nodup_cons,List.mem_cons]at hnd⊢;exact⟨fun hh=>hh.elim (fun e=>hnd.1 (.inl e.symm)) hnd.2.1,fun hh=>hnd.1 (.inr hh),hnd.2.2⟩) (fun k hk=>(hperm k).trans (hmem k hk)) (fun k hk=>hrl k ((hperm k).1 hk)) hsz hdown hC hya o ho' hall h.2
   ·exfalso
    have h1:=hwl x (hpost j hjp)
    have hxl:x<l.length:=hrl x (by simp)
    exact(getD_flip (by omega)).1 ((hmem x hxl).1 (by simp)) h1
 |succ n ih=>
  intro r listed a w hn hsub hnd hmem hrl hsz hdown hC h
  have hra:∀i∈r,actAt l i=false:=fun i hi=>hract i (hsub.subset hi)
  refine⟨fun hempty=> ?_,fun j hj=> ?_⟩
  ·exfalso
   cases r with
   |nil=>simp at hn
   |cons i r'=>
    have hil:=hrl i (by simp)
    have hi0:=(hmem i hil).1 (by simp)
    have:i∈Region.ready .any l.toArray listed:=by
     refine mem_ready.2 ⟨hi0,l[i],by simp[hil],fun e he hbd=> ?_⟩
     have hw:=waits_edge (List.getElem?_eq_getElem hil) he hbd
     have hlt:e.on<i:=waits_ltB hb (List.getElem?_eq_getElem hil) hw
     apply Classical.byContradiction
     intro hnn
     have hin:e.on∈i::r'++x::y::post:=(hmem e.on (by omega)).2 ((getD_flip (by omega)).2 hnn)
     have hbad:∀k,e.on=k→(List.Sublist [i,k] (pre++x::post)∨k=y)→False:=by
      rintro k rfl hs
      rcases hs with hs|hs
      ·have hp:=hpx i e.on hs
       simp only[pairOk,Bool.and_eq_true]at hp
       simp[hw]at hp
      ·have hp:=hpy i (hsub.subset (by simp))
       rw[←hs]at hp
       simp only[pairOk,Bool.and_eq_true]at hp
       simp[hw]at hp
     have hip:i∈pre:=hsub.subset (by simp)
     simp only[List.cons_append,List.mem_cons,List.mem_append]at hin
     rcases hin with h'|h'|h'|h'|h'
     ·omega
     ·exact hbad _ rfl (.inl (((List.Sublist.cons_cons i (List.singleton_sublist.2 h')).trans hsub).trans (List.sublist_append_left ..)))
     ·exact hbad _ rfl (.inl ((List.singleton_sublist.2 hip).append (List.singleton_sublist.2 (by simp[h']))))
     ·exact hbad _ rfl (.inr h')
     ·exact hbad _ rfl (.inl ((List.singleton_sublist.2 hip).append (List.singleton_sublist.2 (by simp[h']))))
    rw[hempty]at this
    simp at this
  ·obtain⟨h0,o,ho,hall⟩:=mem_ready.1 hj
   have hjl:j<l.length:=by
    have:=(Array.getElem?_eq_some_iff.1 ho).1;simpa using this
   have ho':l[j]? =some o:=by simpa using ho
   have hwl:=waits_listedB hb (L:=fun k=>listed.getD k false=true) hdown (j+1) j o (by omega) ho' hall
   have hjr:=(hmem j hjl).2 h0
   rcases List.mem_append.1 hjr with hjr|hjr
   ·obtain⟨p1,p2,rfl⟩:=List.append_of_mem hjr
    have hpre:∀k∈p1,actAt l k=false∧∀ok oi,l.toArray[k]? =some ok→l.toArray[j]? =some oi→ok.apart l.toArray oi=true:=by
     intro k hk
     have hkl:=hrl k (by simp[hk])
     have hk0:=(hmem k hkl).1 (by simp[hk])
     have hnw:waits (masks l []) j k=false:=by
      cases e:waits (masks l []) j k with
      |false=>rfl
      |true=>exact absurd (hwl k e) ((getD_flip (by omega)).1 hk0)
     have hs2:List.Sublist [k,j] (p1++j::p2):=(List.singleton_sublist.2 hk).append (List.singleton_sublist.2 (by simp))
     have hp:=hpx k j ((hs2.trans hsub).trans (List.sublist_append_left ..))
     simp only[pairOk,hnw,Bool.and_eq_true,Bool.false_or]at hp
     refine⟨by simpa using hp.2.1,fun ok oi h1 h2=> ?_⟩
     have h3:=hp.2.2
     simp only[List.getElem?_toArray]at h1 h2
     rw[h1,h2]at h3
     exact h3
    have hja:actAt l j=false:=hra j (by simp)
    have h1:=wpLexK_pull (act:=actAt l) (need:=fun _=>true) hsel hQ j p2 p1 a w (fun k hk=>hpre k hk) (fun _=>rfl) (fun _=>hC) (fun _=>⟨o,ho⟩) (wpLexK_needs hra h)
    have hsub':List.Sublist (p1++p2) (p1++j::p2):=(List.Sublist.refl p1).append (List.sublist_cons_self j p2)
    have hsubA:List.Sublist (p1++p2++x::y::post) (p1++j::p2++x::y::post):=hsub'.append (List.Sublist.refl _)
    have hjn:j∉p1++p2++x::y::post:=by
     have e:p1++j::p2++x::y::post=p1++j::(p2++x::y::post):=by simp
     rw[e]at hnd
     rw[List.append_assoc]
     have h3:=List.nodup_append.1 hnd
     intro hx
     rcases List.mem_append.1 hx with hx|hx
     ·exact h3.2.2 j hx j (by simp) rfl
     ·exact(List.nodup_cons.1 h3.2.1).1 hx
    refine wpOp_mono (fun a' w' hh=> ?_) h1
    have hw':=hh.2.1 hja
    subst hw'
    have e:(p1++j::p2).length+post.length+2-1=(p1++p2).length+post.length+2:=by simp;omega
    have hfin:=ih (p1++p2) (listed.setIfInBounds j true) a' w' (by simp at hn⊢;omega) (hsub'.trans hsub) (hnd.sublist hsubA) ?_ (fun k hk=>hrl k (hsubA.subset hk)) (by simpa using hsz) ?_ hC (wpLexK_needs (fun i hi=>hra i (hsub'.subset hi)) hh.2.2)
    ·have e2:(p1++p2).length+post.length+2=(p1++j::p2).length+post.length+1:=by simp;omega
     rw[e2]at hfin
     exact hfin
    ·intro k hk
     by_cases hjk:j=k
     ·subst hjk
      have:(listed.setIfInBounds j true).getD j true=true:=by simp[Array.getD_eq_getD_getElem?,hsz,hjl]
      rw[this]
      exact⟨fun hx=>absurd hx hjn,fun hx=>by cases hx⟩
     ·rw[getD_set_ne true hjk,←hmem k hk]
      constructor
      ·intro hx;exact hsubA.subset hx
      ·intro hx
       simp only[List.mem_append,List.mem_cons]at hx⊢
       rcases hx with(hx|hx|hx)|hx
       ·exact .inl (.inl hx)
       ·exact absurd hx.symm hjk
       ·exact .inl (.inr hx)
       ·exact .inr hx
    ·intro k ok hok hlk e he hbd
     by_cases hjk:j=k
     ·subst hjk
      rw[ho']at hok
      injection hok with hok
      subst hok
      exact getD_set_true (hall e he hbd)
     ·rw[getD_set_ne false hjk]at hlk
      exact getD_set_true (hdown k ok hok hlk e he hbd)
   ·simp only[List.mem_cons]at hjr
    rcases hjr with rfl|rfl|hjp
    ·have h9:=fork_takeG hsel hQ hb pre qx j (fun k hk=>hpx k j ((List.singleton_sublist.2 hk).append (List.singleton_sublist.2 (by simp)))) hpq hx1 hx2 r listed a w hsub ((hperm r).nodup_iff.2 hnd) (fun k hk=>((hperm r).mem_iff).trans (hmem k hk)) (fun k hk=>hrl k ((hperm r).mem_iff.1 hk)) hsz hdown hC hxa o ho' hall (wpLexK_join (fun _ _ h=>h.1) r a w hra h)
     rw[hqlen]at h9
     exact h9
    ·have hperm:∀k,k∈r++j::x::post↔k∈r++x::j::post:=fun k=>by simp only[List.mem_append,List.mem_cons];constructor<;>(rintro(h|h|h|h)<;>simp[h])
     exact fork_takeG hsel hQ hb pre (x::post) j hpy hpx hy1 hy2 r listed a w hsub ((List.Perm.append_left r (List.Perm.swap j x post)).nodup_iff.1 hnd) (fun k hk=>(hperm k).trans (hmem k hk)) (fun k hk=>hrl k ((hperm k).1 hk)) hsz hdown hC hya o ho' hall (wpLexK_join (fun _ _ h=>h.2) r a w hra h)
    ·exfalso
     have h1:=hwl x (hpost j hjp)
     have hxl:x<l.length:=hrl x (by simp)
     exact(getD_flip (by omega)).1 ((hmem x hxl).1 (by simp)) h1
def forkOkG (l:List Oper) (pre post qx:List Nat) (x y:Nat):Bool:=
 Region.noSelect l.toArray&&((pre++x::y::post).length==l.length)&&nodupB (pre++x::y::post)&&(pre++x::y::post).all (fun i=>decide (i<l.length))&&(List.range l.length).all (fun i=>(pre++x::y::post).contains i)&&pairsOk l (masks l []) (pre++x::post)&&pre.all (fun k=>pairOk l (masks l []) k y)&&(pairsOk l (masks l []) (pre++qx)&&qx.isPerm (y::post))&&edgesBackB l
  && !waits (masks l []) x y&&post.all (fun j=>waits (masks l []) j x)&&actAt l x&&actAt l y&&pre.all (fun i=> !actAt l i)
theorem wp_region_forkG {id:Nat} {a:Act} {w:World} (C:World→Prop) (pre post qx:List Nat) (x y:Nat) (hm:P.follows .mixedOrders=true) (hB:forkOkG l pre post qx x y=true) (hC:C w.drew)
  (h:wpLexK P l.toArray (NoPanic Q) (fun a w=>wpLex P l.toArray (NoPanic Q) C (actAt l) (needF l (masks l []) [] (pre++x::qx)) (x::qx) a w∧wpLex P l.toArray (NoPanic Q) C (actAt l) (needF l (masks l []) [] (pre++y::x::post)) (y::x::post) a w) C (actAt l) (fun _=>true) pre a w.drew):(Code.region id l.toArray true).wp P Q a w:=by
 simp only[forkOkG,Bool.and_eq_true,beq_iff_eq]at hB
 obtain⟨⟨⟨⟨⟨⟨⟨⟨⟨⟨⟨⟨⟨hsel,hlen⟩,hnd⟩,hall⟩,hcv⟩,hp1⟩,hp2⟩,hp3,hp4⟩,hback⟩,hxy⟩,hpost⟩,hxa⟩,hya⟩,hpre⟩:=hB
 have hq:qx.Perm (y::post):=List.isPerm_iff.1 hp4
 have hnd':=(nodupB_iff _).1 hnd
 have hnd3:(pre++x::qx).Nodup:=(List.Perm.append_left pre (List.Perm.cons x hq)).nodup_iff.2 hnd'
 have hnd2:(pre++y::x::post).Nodup:=(List.Perm.append_left pre (List.Perm.swap y x post)).nodup_iff.1 hnd'
 have hrl:∀j∈pre++x::y::post,j<l.length:=fun j hj=>by simpa using List.all_eq_true.1 hall j hj
 refine Code.wp_mono NoPanic.imp (wp_region_any hm ?_)
 have hcov:∀j,j<l.length→j∈pre++x::y::post:=fun j hj=>by simpa using List.all_eq_true.1 hcv j (List.mem_range.2 hj)
 have hne:∀(pi:List Nat),pi.Nodup→(∀i j,List.Sublist [i,j] pi→waits (masks l []) j i=false→needF l (masks l []) [] pi j=true)∧(∀i j,List.Sublist [j,i] pi→actAt l i=false→needF l (masks l []) [] pi j=true):=by
  intro pi hpn
  refine⟨fun i j hs hw=> ?_,fun i j hs hw=> ?_⟩
  ·obtain⟨pre,m,post,e⟩:=sub_split pi hs
   exact needF_ok pi [] (by simp) hpn (pre++i::m) j post e (.inl ⟨i,.inr (by simp),hw⟩)
  ·obtain⟨pre,m,post,e⟩:=sub_split pi hs
   refine needF_ok pi [] (by simp) hpn pre j (m++i::post) (by rw[e];simp) (.inr ⟨i,by simp,hw⟩)
 have hsz:l.toArray.size=pre.length+post.length+2:=by simp at hlen⊢;omega
 rw[hsz]
 refine lex_anyG (fun j o cs b ho=>Region.noSelect_spec hsel j o cs b ho) (fun c a w h=>h) hback pre post qx x y hq (fun i j hs=>pairsOk_sub _ i j hp1 hs) (fun k hk=>List.all_eq_true.1 hp2 k hk) (fun i j hs=>pairsOk_sub _ i j hp3 hs) (hne _ hnd3).1 (hne _ hnd3).2 (hne _ hnd2).1 (hne _ hnd2).2 (by simpa using hxy) (fun j hj=>List.all_eq_true.1 hpost j hj) hxa hya (fun i hi=>by simpa using List.all_eq_true.1 hpre i hi) pre.length pre _ a w.drew rfl (List.Sublist.refl _) hnd' ?_ hrl (by simp at hlen⊢;omega) ?_ hC h
 ·intro j hj
  have:(Array.replicate (pre.length+post.length+2) false).getD j true=false:=by
   have h9:j<pre.length+post.length+2:=by simp at hlen;omega
   simp[Array.getD_eq_getD_getElem?,h9]
  exact⟨fun _=>this,fun _=>hcov j hj⟩
 ·intro j o ho hl
  simp[Array.getD_eq_getD_getElem?,Array.getElem?_replicate]at hl
  split at hl<;>simp at hl
end
end
section
open Go.RowKit
set_option maxRecDepth 100000 in
set_option maxHeartbeats 8000000 in
theorem rrouCheck_any (L:Lay) (v:LV) (r:Rou) (A:Option Addr) (c:Nat) (w:World) (h:RLay w (Old w) v L) (hr:RStps w (Old w) [.slice A r.stps.length c] r.stps) (hlen:LayLen L):
  Calls Tryz.prog 35 #[.agg (v.cs L),.agg #[.slice A r.stps.length c,.int .i64 r.ov]] w fun e w'=>e= .returned (.int .i64 (rouErr L r))∧KeepsAll w w':=by
 have hc:=hr.caps
 have HL:=Lib.hid h
 have HR:=Lib.hid hr
 have HCK:=Lib.hid (fun W k=>rlayCheck_any L v W k hlen)
 have HJ:=Lib.hid (fun s t W k1 k2 k3 k4=>rjoined_any L v s t W k1 k2 k3 k4)
 have HLO:=Lib.hid (fun e=>(layErr_zero L).1 e)
 have hc3:=h.secs.caps
 have E1:Hid (layErr L≠0→rouErr L r=1):=fun g=>by unfold rouErr;rw[if_pos g]
 have E2:Hid (layErr L=0→24<r.stps.length∨2<r.ov→rouErr L r=7):=fun g g2=>by unfold rouErr;rw[if_neg (by simp[g]),if_pos g2]
 have E3:Hid (layErr L=0→¬(24<r.stps.length∨2<r.ov)→r.ov<0∨(r.stps.length:Int)-r.ov<2→rouErr L r=4):=fun g g2 g3=>by unfold rouErr;rw[if_neg (by simp[g]),if_neg g2,if_pos g3]
 have E4:Hid (layErr L=0→¬(24<r.stps.length∨2<r.ov)→¬(r.ov<0∨(r.stps.length:Int)-r.ov<2)→rouErr L r=if(r.stps.any fun s=> !stpOk L.secs.length s)=true then 4 else if dupS [] r.stps=true then 5 else if lnksOf L.lks r.stps=none then 11 else 0):=fun g g2 g3=>by
  unfold rouErr;rw[if_neg (by simp[g]),if_neg g2,if_neg g3]
 have HLK:Hid (layErr L=0→L.secs.length≤96∧L.lks.length≤192∧L.pts.length≤48):=fun g=>by have:=(layErr_zero L).1 g;exact⟨this.secs,this.lks,this.pts⟩
 clear h hr
 generalize hle:layErr L=le at*
 obtain⟨A1,A2,A3,A4,ca1,ca2,ca3,ca4⟩:=v
 simp only[]at hc3
 unfold LV.cs at HCK HJ⊢
 simp only[]at HCK HJ⊢
 go_enter Tryz.func35,Tryz.ntmps35
 go_wp2_with fail
 generalize hW1:World.alloc w _=W1
 have K1:Hid (KeepsAll w W1):=by subst hW1;exact(Keeps.refl _ _).alloc _
 have B1:Hid (Blk W1 w.heap.size 27 #[.slice A1 L.sts.length ca1,.slice A2 L.pts.length ca2,.slice A3 L.secs.length ca3,.slice A4 L.lks.length ca4]):=by subst hW1;exact Blk.new _ _ _
 have hz1:W1.heap.size=w.heap.size+1:=by subst hW1;simp
 clear hW1
 generalize hN:w.heap.size=N at*
 generalize hW:World.alloc W1 _=W
 have K0:Hid (KeepsAll w W):=by subst hW;exact K1.out.alloc _
 have B0:Hid (Blk W N 27 #[.slice A1 L.sts.length ca1,.slice A2 L.pts.length ca2,.slice A3 L.secs.length ca3,.slice A4 L.lks.length ca4]):=by subst hW;exact B1.out.alloc _
 have BR:Hid (Blk W (N+1) 95 #[.slice A r.stps.length c,.int .i64 r.ov]):=by subst hW;exact Blk.new' _ _ _ hz1.symm
 clear hW K1 B1 hz1
 refine(HCK.out W (HL.out.kept K0.out)).mono ?_
 rintro e W2 ⟨rfl,k2⟩
 have K2:Hid (KeepsAll w W2):=K0.out.trA k2
 have C0:=Lib.hid (B0.out.kept k2 (by simp))
 have CR:=Lib.hid (BR.out.kept k2 (by simp))
 have q0:=C0.out.cell 0
 have q1:=C0.out.cell 1
 have q2:=C0.out.cell 2
 have q3:=C0.out.cell 3
 have r0:=CR.out.cell 0
 have r1:=CR.out.cell 1
 simp at q0 q1 q2 q3 r0 r1
 clear k2 B0 BR K0 HCK
 by_cases gz:le≠0
 ·have gz':(le !=0)=true:=by simpa using gz
  have E:=E1.out gz
  go_wp2_with fail
  go_ret
  exact⟨by rw[E];rfl,K2.out⟩
 obtain rfl:le=0:=by simpa using gz
 by_cases g2:24<r.stps.length∨2<r.ov
 ·have E:=E2.out rfl g2
  clear E1 E2 E3 E4
  by_cases g5:24<r.stps.length
  ·have t1:decide ((24:Int)<(r.stps.length:Int))=true:=by rw[decide_eq_true_eq];omega
   have t2:(24:Int)<(r.stps.length:Int):=by omega
   go_wp2_with fail
   go_ret
   exact⟨by rw[E];rfl,K2.out⟩
  ·have g6:2<r.ov:=by omega
   have t1:decide ((24:Int)<(r.stps.length:Int))=false:=by rw[decide_eq_false_iff_not];omega
   have t2:decide (2<r.ov)=true:=by simpa using g6
   have t3:¬(24:Int)<(r.stps.length:Int):=by omega
   go_wp2_with fail
   go_ret
   exact⟨by rw[E];rfl,K2.out⟩
 have t1:decide ((24:Int)<(r.stps.length:Int))=false:=by rw[decide_eq_false_iff_not];omega
 have t2:decide (2<r.ov)=false:=by rw[decide_eq_false_iff_not];omega
 have t3:¬(24:Int)<(r.stps.length:Int):=by omega
 have t4:¬2<r.ov:=by omega
 by_cases g3:r.ov<0∨(r.stps.length:Int)-r.ov<2
 ·have E:=E3.out rfl g2 g3
  have g20:r.stps.length≤24∧r.ov≤2:=by omega
  obtain⟨g21,g22⟩:=g20
  clear E1 E2 E3 E4 g2
  by_cases g5:r.ov<0
  ·have t5:decide (r.ov<0)=true:=by simpa using g5
   go_wp2_with fail
   go_ret
   exact⟨by rw[E];rfl,K2.out⟩
  ·have g6:(r.stps.length:Int)-r.ov<2:=by omega
   have t5:decide (r.ov<0)=false:=by simpa using g5
   have t6:decide ((r.stps.length:Int)-r.ov<2)=true:=by simpa using g6
   go_wp2_with fail
   go_ret
   exact⟨by rw[E];rfl,K2.out⟩
 have E:=Lib.hid (E4.out rfl g2 g3)
 have g4:r.stps.length≤24∧r.ov≤2∧0≤r.ov∧2≤(r.stps.length:Int)-r.ov:=by omega
 obtain⟨g41,g42,g43,g44⟩:=g4
 obtain⟨hL1,hL2,hL3⟩:=HLK.out rfl
 have t5:decide (r.ov<0)=false:=by rw[decide_eq_false_iff_not];omega
 have t6:decide ((r.stps.length:Int)-r.ov<2)=false:=by rw[decide_eq_false_iff_not];omega
 have HLX:=Lib.hid (HLO.out rfl)
 clear E1 E2 E3 E4 g2 g3 gz HLK HLO
 have HLE:=Lib.hid hle
 clear hle
 generalize hou:rouErr L r=ou at*
 have HOU:=Lib.hid hou
 clear hou
 go_wp2_with fail
 go_loopw [5] (fun i wr=>∃n:Nat,n≤r.stps.length∧i= .int .i64 (n:Int)∧(∀k s,k<n→r.stps[k]? =some s→stpOk L.secs.length s=true)∧KeepsAll W2 wr) (fun i _=>r.stps.length-(intOf i).toNat)
 case atStart=>exact⟨0,Nat.zero_le _,rfl,fun k s hk=>by omega,Keeps.refl _ _⟩
 case round=>
  obtain⟨n,hn,rfl,hall,hk⟩:=hrel
  have HALL:=Lib.hid hall
  have HK:=Lib.hid hk
  have KW:=Lib.hid (K2.out.trA hk)
  have D0:=Lib.hid (C0.out.kept hk (by simp))
  have DR:=Lib.hid (CR.out.kept hk (by simp))
  clear hall hk
  have r0:=DR.out.cell 0
  have r1:=DR.out.cell 1
  simp at r0 r1
  have hzr:=DR.out.lt
  by_cases hlt:n<r.stps.length
  ·obtain⟨b,o,s,rfl,hb,hx,m0,m1⟩:=HR.out.atO KW.out hlt
   have HX:=Lib.hid hx
   clear hx
   have p2:=D0.out.cell 2
   simp at p2
   obtain⟨ss,sd⟩:=s
   simp only[]at m0 m1
   obtain⟨b1,hb1⟩:∃b1:Bool,b1=decide (0≤ss∧ss≤(L.secs.length:Int)-1):=⟨_,rfl⟩
   obtain⟨b2,hb2⟩:∃b2:Bool,b2=decide (0≤sd∧sd≤1):=⟨_,rfl⟩
   have HOKS:Hid (stpOk L.secs.length ⟨ss,sd⟩=(b1&&b2)):=by
    show _=_
    rw[hb1,hb2,Bool.eq_iff_iff]
    simp[stpOk]
    omega
   have HX1:Hid (∀xx:Ext wr,Calls Tryz.prog 102 #[.int .i64 ss,.int .i64 0,.int .i64 ((L.secs.length:Int)-1)] xx.val fun e w''=>e= .returned (.bool b1)∧∃y:Ext wr,w''=y.val):=fun xx=>(in_any ss 0 ((L.secs.length:Int)-1) xx.val).mono (by rintro e w'' ⟨rfl,rfl⟩;exact⟨by rw[hb1],⟨xx,rfl⟩⟩)
   have HX2:Hid (∀xx:Ext wr,Calls Tryz.prog 102 #[.int .i64 sd,.int .i64 0,.int .i64 1] xx.val fun e w''=>e= .returned (.bool b2)∧∃y:Ext wr,w''=y.val):=fun xx=>(in_any sd 0 1 xx.val).mono (by rintro e w'' ⟨rfl,rfl⟩;exact⟨by rw[hb2],⟨xx,rfl⟩⟩)
   clear hb1 hb2
   have y0:=Ext.cell m0
   have y1:=Ext.cell m1
   have y2:=Ext.cell p2
   have y3:=Ext.cell r0
   have FBAD:Hid ((b1&&b2)=false→ou=4):=fun e=>by
    rw[E.out,if_pos]
    rw[List.any_eq_true]
    exact⟨⟨ss,sd⟩,List.mem_of_getElem? HX.out,by rw[HOKS.out,e];rfl⟩
   have FOK:Hid ((b1&&b2)=true→∀k s,k<n+1→r.stps[k]? =some s→stpOk L.secs.length s=true):=fun e k t hk ht=>by
    rcases Nat.lt_or_ge k n with h1|h1
    ·exact HALL.out k t h1 ht
    ·obtain rfl:k=n:=by omega
     rw[HX.out]at ht
     injection ht with ht
     rw[←ht,HOKS.out];exact e
   clear HOKS HALL HX E
   go_upto_region 10 with fail
   cases b1 with
   |false=>
    have E0:=Lib.hid (FBAD.out rfl)
    clear FBAD FOK
    refine wp_region_ext (by kernel_rfl) (by kernel_rfl) ?_
    repeat (go_big_quiet_step ((go_at_call 102;rename_i xx;first|(with_reducible exact HX1.out xx)|(with_reducible exact HX2.out xx))))
    refine wpQuiet_nil ?_
    rintro _ ⟨X,rfl⟩
    have KX:=X.keeps
    generalize X.val=W5 at*
    clear y0 y1 y2 y3
    go_wp2_with fail
    go_ret
    exact⟨by rw[HOU.out,E0.out];rfl,KW.out.trA KX⟩
   |true=>
    cases b2 with
    |false=>
     have E0:=Lib.hid (FBAD.out rfl)
     clear FBAD FOK
     refine wp_region_ext (by kernel_rfl) (by kernel_rfl) ?_
     repeat (go_big_quiet_step ((go_at_call 102;rename_i xx;first|(with_reducible exact HX1.out xx)|(with_reducible exact HX2.out xx))))
     refine wpQuiet_nil ?_
     rintro _ ⟨X,rfl⟩
     have KX:=X.keeps
     generalize X.val=W5 at*
     clear y0 y1 y2 y3
     go_wp2_with fail
     go_ret
     exact⟨by rw[HOU.out,E0.out];rfl,KW.out.trA KX⟩
    |true=>
     have HAN:=Lib.hid (FOK.out rfl)
     clear FBAD FOK
     refine wp_region_ext (by kernel_rfl) (by kernel_rfl) ?_
     repeat (go_big_quiet_step ((go_at_call 102;rename_i xx;first|(with_reducible exact HX1.out xx)|(with_reducible exact HX2.out xx))))
     refine wpQuiet_nil ?_
     rintro _ ⟨X,rfl⟩
     have KX:=X.keeps
     generalize X.val=W5 at*
     clear y0 y1 y2 y3
     go_wp2_with fail
     exact⟨⟨n+1,by omega,by go_num,HAN.out,HK.out.trA KX⟩,by simp[intOf];omega⟩
  ·obtain rfl:n=r.stps.length:=by omega
   have E5:Hid (ou=if dupS ((r.stps.take 0).map (·.sec)) (r.stps.drop 0)=true then 5 else if lnksOf L.lks r.stps=none then 11 else 0):=by
    show _=_
    rw[E.out,if_neg]
    ·rfl
    ·rw[List.any_eq_true]
     rintro⟨s,hs,e⟩
     obtain⟨k,hk,he⟩:=List.getElem_of_mem hs
     have:=HALL.out k s hk (by rw[List.getElem?_eq_getElem hk,he])
     rw[this]at e;cases e
   have HDIR:Hid (∀(k:Nat) s,r.stps[k]? =some s→s.dir=0∨s.dir=1):=fun k s hs=>by
    have:=HALL.out k s (List.getElem?_eq_some_iff.1 hs).1 hs
    simp[stpOk]at this
    exact this.2.2
   obtain⟨wo,hwo⟩:∃wo:World,wo=wr:=⟨_,rfl⟩
   rw[←hwo]at KW D0 DR r0 r1 hzr⊢
   clear hwo HK HALL E C0 CR q0 q1 q2 q3
   obtain⟨b0,o0,x0,hA,-,-,-,-⟩:=HR.out.at_ (k:=0) (by omega)
   subst hA
   go_wp2_with fail
   go_loopw [6] (fun i wr=>∃n:Nat,n≤r.stps.length∧i= .int .i64 (n:Int)∧dupS ((r.stps.take 0).map (·.sec)) (r.stps.drop 0)=dupS ((r.stps.take n).map (·.sec)) (r.stps.drop n)∧KeepsAll wo wr) (fun i _=>r.stps.length-(intOf i).toNat)
   case atStart=>exact⟨0,Nat.zero_le _,rfl,rfl,Keeps.refl _ _⟩
   case round=>
    obtain⟨n,hn,rfl,hdup,hk⟩:=hrel
    have HD:=Lib.hid hdup
    have HK:=Lib.hid hk
    have F0:=Lib.hid (D0.out.kept hk (by simp))
    have FR:=Lib.hid (DR.out.kept hk (by simp))
    have KW2:=Lib.hid (KW.out.trA hk)
    have s0:=FR.out.cell 0
    simp at s0
    have hzs:=FR.out.lt
    clear hdup hk
    by_cases hlt:n<r.stps.length
    ·have HXN:Hid (r.stps[n]? =some (r.stps[n]'hlt)):=List.getElem?_eq_getElem hlt
     generalize hsn:r.stps[n]'hlt=sn at*
     clear hsn
     have HDA:=Lib.hid (dupS_at r.stps n sn HXN.out)
     obtain⟨wi,hwi⟩:∃wi:World,wi=wr:=⟨_,rfl⟩
     rw[←hwi]at HK F0 FR KW2 s0 hzs⊢
     clear hwi
     go_wp2_with fail
     go_loopw [7] (fun i wr=>∃j:Nat,j≤n∧i= .int .i64 (j:Int)∧(sn.sec∉(r.stps.take j).map (·.sec))∧KeepsAll wi wr) (fun i _=>n-(intOf i).toNat)
     case atStart=>exact⟨0,Nat.zero_le _,rfl,by simp,Keeps.refl _ _⟩
     case round=>
      obtain⟨j,hj,rfl,hnot,hk⟩:=hrel
      have HNOT:=Lib.hid hnot
      have HKI:=Lib.hid hk
      have GR:=Lib.hid (FR.out.kept hk (by simp))
      have KW3:=Lib.hid (KW2.out.trA hk)
      clear hnot hk
      by_cases hlj:j<n
      ·obtain⟨b1,o1,s1,hA1,hb1,hx1,m0,m1⟩:=HR.out.atO KW3.out (k:=j) (by omega)
       injection hA1 with hA1
       injection hA1 with e1 e2
       subst e1 e2
       obtain⟨b1,o1,s2,hA1,-,hx2,m2,m3⟩:=HR.out.atO KW3.out (k:=n) hlt
       injection hA1 with hA1
       injection hA1 with e1 e2
       subst e1 e2
       rw[HXN.out]at hx2
       obtain rfl:=Option.some.inj hx2
       have HX1:=Lib.hid hx1
       clear hx1 hx2
       have s0:=GR.out.cell 0
       simp at s0
       go_upto_region 18 with fail
       by_cases g:s1.sec=sn.sec
       ·have E0:Hid (ou=5):=by
         show _=_
         rw[E5.out,HD.out,HDA.out,if_pos (List.mem_map.2 ⟨s1,List.mem_of_getElem? ((List.getElem?_take_of_lt hlj).trans HX1.out),g⟩),if_pos rfl]
        rw[g]at m0
        have y0:=Ext.cell m0
        have y1:=Ext.cell m2
        have y2:=Ext.cell s0
        clear g
        refine wp_region_ext (by kernel_rfl) (by kernel_rfl) ?_
        repeat (go_big_quiet_step (fail))
        refine wpQuiet_nil ?_
        rintro _ ⟨X,rfl⟩
        have KX:=X.keeps
        generalize X.val=W5 at*
        clear y0 y1 y2
        go_wp2_with fail
        go_ret
        exact⟨by rw[HOU.out,E0.out];rfl,KW3.out.trA KX⟩
       ·have HNN:Hid (sn.sec∉(r.stps.take (j+1)).map (·.sec)):=by
         show¬_
         rw[List.take_add_one,HX1.out,Option.toList_some,List.map_append,List.mem_append]
         rintro(h|h)
         ·exact HNOT.out h
         ·simp at h;exact g h.symm
        have g2:=beq_eq_false_iff_ne.2 g
        have y0:=Ext.cell m0
        have y1:=Ext.cell m2
        have y2:=Ext.cell s0
        refine wp_region_ext (by kernel_rfl) (by kernel_rfl) ?_
        repeat (go_big_quiet_step (fail))
        refine wpQuiet_nil ?_
        rintro _ ⟨X,rfl⟩
        have KX:=X.keeps
        generalize X.val=W5 at*
        clear y0 y1 y2
        go_wp2_with fail
        exact⟨⟨j+1,by omega,by go_num,HNN.out,HKI.out.trA KX⟩,by simp[intOf];omega⟩
      ·obtain rfl:j=n:=by omega
       have HNX:Hid (dupS ((r.stps.take 0).map (·.sec)) (r.stps.drop 0)=dupS ((r.stps.take (j+1)).map (·.sec)) (r.stps.drop (j+1))):=by
        show _=_
        rw[HD.out,HDA.out,if_neg HNOT.out]
       go_wp2_with fail
       exact⟨⟨j+1,by omega,by go_num,HNX.out,HK.out.trA HKI.out⟩,by simp[intOf];omega⟩
    ·obtain rfl:n=r.stps.length:=by omega
     have E6:Hid (ou=if lnksOf L.lks (r.stps.drop 0)=none then 11 else 0):=by
      show _=_
      rw[E5.out,HD.out,List.drop_length,if_neg (by simp[dupS])]
      rfl
     obtain⟨wo2,hwo2⟩:∃wo2:World,wo2=wr:=⟨_,rfl⟩
     rw[←hwo2]at KW2 F0 FR s0 hzs⊢
     clear hwo2 HD HK D0 DR KW r0 r1 hzr E5
     go_wp2_with fail
     go_loopw [8] (fun i wr=>∃n:Nat,n+1≤r.stps.length∧i= .int .i64 ((n:Int)+1)∧KeepsAll wo2 wr∧(lnksOf L.lks (r.stps.drop 0)=none↔lnksOf L.lks (r.stps.drop n)=none)) (fun i _=>r.stps.length-(intOf i).toNat)
     case atStart=>exact⟨0,by omega,rfl,Keeps.refl _ _,Iff.rfl⟩
     case round=>
      obtain⟨n,hn,rfl,hk,hlk⟩:=hrel
      have HLK:=Lib.hid hlk
      have HK:=Lib.hid hk
      have G0:=Lib.hid (F0.out.kept hk (by simp))
      have GR:=Lib.hid (FR.out.kept hk (by simp))
      have KW3:=Lib.hid (KW2.out.trA hk)
      clear hlk hk
      have s0:=GR.out.cell 0
      have l0:=G0.out.cell 0
      have l1:=G0.out.cell 1
      have l2:=G0.out.cell 2
      have l3:=G0.out.cell 3
      simp at s0 l0 l1 l2 l3
      have hzs:=GR.out.lt
      have hzl:=G0.out.lt
      by_cases hlt3:n+1<r.stps.length
      ·obtain⟨b1,o1,s1,hA1,hb1,hx1,m0,m1⟩:=HR.out.atO KW3.out (k:=n) (by omega)
       injection hA1 with hA1
       injection hA1 with e1 e2
       subst e1 e2
       obtain⟨b1,o1,s2,hA1,-,hx2,m2,m3⟩:=HR.out.atO KW3.out (k:=n+1) hlt3
       injection hA1 with hA1
       injection hA1 with e1 e2
       subst e1 e2
       have HLA:=Lib.hid (lnksOf_at L.lks r.stps n s1 s2 hx1 hx2)
       have HJ1:=Lib.hid (fun W k=>HJ.out s1 s2 W k HLX.out (HDIR.out n s1 hx1) (HDIR.out (n+1) s2 hx2))
       clear hx1 hx2
       have HN1:Hid (lnkOf L.lks s1 s2=none→ou=11):=fun e=>by
        rw[E6.out,if_pos]
        rw[HLK.out,HLA.out,e]
       have HN2:Hid ((lnkOf L.lks s1 s2).isSome=true→(lnksOf L.lks (r.stps.drop 0)=none↔lnksOf L.lks (r.stps.drop (n+1))=none)):=fun e=>by
        rw[HLK.out,HLA.out]
        cases h:lnkOf L.lks s1 s2 with
        |none=>rw[h]at e;cases e
        |some k=>simp
       have HN3:Hid ((lnkOf L.lks s1 s2).isSome=false→ou=11):=fun e=>HN1.out (by cases h:lnkOf L.lks s1 s2 with
        |none=>rfl
        |some k=>rw[h]at e;cases e)
       clear HN1 HLA HLK E6
       generalize (lnkOf L.lks s1 s2).isSome=isS at*
       obtain⟨a1,d1⟩:=s1
       obtain⟨a2,d2⟩:=s2
       unfold stpC at HJ1
       simp only[]at m0 m1 m2 m3 HJ1
       go_upto_region 23 with fail
       rw[show decide ((n:Int)+1<(r.stps.length:Int))=true from by rw[decide_eq_true_eq];omega]
       go_cut [10]from 97 to 113 (fun s wx=>s= .bool isS∧KeepsAll wr wx)
       case first=>
        clear HN2 HN3
        refine wp_region_forkG (fun w'=>∃x:Ext wr,w'=x.val) [0,1,2,3,4,5,6,7,8,9,10,11] [13,14,15,17,18] [13,14,15,16,17,18] 12 16 (by kernel_rfl) (by kernel_rfl) ⟨⟨_,(Keeps.refl _ _).drew⟩,rfl⟩ ?_
        have y0:=Ext.cell l0
        have y1:=Ext.cell l1
        have y2:=Ext.cell l2
        have y3:=Ext.cell l3
        have y4:=Ext.cell s0
        have y5:=Ext.cell m0
        have y6:=Ext.cell m1
        have y7:=Ext.cell m2
        have y8:=Ext.cell m3
        iterate 12 (refine lexK_q _ rfl rfl rfl ?_;go_big_quiet_step (fail);refine wpQuiet_nil ?_)
        clear y0 y1 y2 y3 y4 y5 y6 y7 y8 m0 m1 m2 m3 s0 l0 l1 l2 l3
        have KD:KeepsAll wr wr.drew:=(Keeps.refl _ _).drew
        generalize wr.drew=wd at*
        refine⟨?_,?_⟩
        ·refine lex_a _ rfl rfl true (by kernel_rfl) ?_
         go_wp2_with fail
         refine(HJ1.out wd (HL.out.kept (KW3.out.trA KD))).mono ?_
         rintro e w6 ⟨u1,u2,u3,u4,rfl,k6⟩
         have KK:=KD.trA k6
         clear k6
         go_wp2
         refine⟨fun _=>⟨⟨_,KK⟩,rfl⟩,?_⟩
         iterate 3 (refine lex_q _ rfl rfl rfl ?_;go_big_quiet_step (fail);refine wpQuiet_nil ?_)
         refine lex_a _ rfl rfl true (by kernel_rfl) ?_
         go_wp2
         refine⟨fun _=>⟨⟨_,KK.alloc _⟩,rfl⟩,?_⟩
         refine lex_a _ rfl rfl true (by kernel_rfl) ?_
         go_wp2
         refine⟨fun _=>⟨⟨_,KK.alloc _⟩,rfl⟩,?_⟩
         refine lex_q _ rfl rfl rfl ?_
         go_big_quiet_step (fail)
         refine wpQuiet_nil ?_
         simp only[wpLex]
         refine NoPanic.normal ?_
         go_wp2_with fail
         go_meet
         exact⟨rfl,KK.alloc _⟩
        ·refine lex_a _ rfl rfl true (by kernel_rfl) ?_
         go_wp2
         refine⟨fun _=>⟨⟨_,KD.alloc _⟩,rfl⟩,?_⟩
         generalize hwe:World.alloc wd _=we
         have KE:KeepsAll wr we:=by subst hwe;exact KD.alloc _
         have BE:Blk we wd.heap.size 213 #[.int .i64 0,.int .i64 0,.int .i64 0,.int .i64 0]:=by subst hwe;exact Blk.new _ _ _
         clear hwe
         refine lex_a _ rfl rfl true (by kernel_rfl) ?_
         go_wp2_with fail
         refine(HJ1.out we (HL.out.kept (KW3.out.trA KE))).mono ?_
         rintro e w6 ⟨u1,u2,u3,u4,rfl,k6⟩
         have KK:=KE.trA k6
         have B6:=BE.kept k6 (by simp)
         have z0:=B6.cell 0
         have z1:=B6.cell 1
         have z2:=B6.cell 2
         have z3:=B6.cell 3
         simp at z0 z1 z2 z3
         have f0:=B6.frozen 0
         have f1:=B6.frozen 1
         have f2:=B6.frozen 2
         have f3:=B6.frozen 3
         have hz6:=B6.lt
         clear k6
         go_wp2
         refine⟨fun _=>⟨⟨_,KK⟩,rfl⟩,?_⟩
         iterate 3 (refine lex_q _ rfl rfl rfl ?_;go_big_quiet_step (fail);refine wpQuiet_nil ?_)
         refine lex_a _ rfl rfl true (by kernel_rfl) ?_
         go_wp2
         have hdz:=KD.size
         have KS:KeepsAll wr ((((w6.setCell ⟨wd.heap.size,0,none⟩ (.int .i64 u1)).setCell ⟨wd.heap.size,1,none⟩ (.int .i64 u2)).setCell ⟨wd.heap.size,2,none⟩ (.int .i64 u3)).setCell ⟨wd.heap.size,3,none⟩ (.int .i64 u4)):=by
          refine Keeps.setCell (Keeps.setCell (Keeps.setCell (Keeps.setCell KK ?_ _) ?_ _) ?_ _) ?_ _<;>(intro e;have e:wd.heap.size<wr.heap.size:=e;omega)
         refine⟨fun _=>⟨⟨_,KS⟩,rfl⟩,?_⟩
         clear hdz
         refine lex_q _ rfl rfl rfl ?_
         go_big_quiet_step (fail)
         refine wpQuiet_nil ?_
         simp only[wpLex]
         refine NoPanic.normal ?_
         go_wp2_with fail
         go_meet
         exact⟨rfl,KS⟩
       case rest=>
        obtain⟨rfl,kx⟩:=hcut
        cases isS with
        |false=>
         have E0:=Lib.hid (HN3.out rfl)
         clear HN2 HN3
         go_wp2_with fail
         go_ret
         exact⟨by rw[HOU.out,E0.out];rfl,KW3.out.trA kx⟩
        |true=>
         have HNX:=Lib.hid (HN2.out rfl)
         clear HN2 HN3
         go_wp2_with fail
         exact⟨⟨n+1,by omega,by go_num,HK.out.trA kx,HNX.out⟩,by simp[intOf];omega⟩
      ·have hnl:n+1=r.stps.length:=by omega
       have E0:Hid (ou=0):=by
        show _=_
        rw[E6.out,if_neg]
        rw[HLK.out]
        have h1:r.stps.drop (n+1)=[]:=List.drop_of_length_le (by omega)
        have hd:r.stps.drop n=r.stps[n]'(by omega)::r.stps.drop (n+1):=(List.getElem_cons_drop (by omega)).symm
        rw[hd,h1]
        simp[lnksOf]
       go_wp2_with fail
       go_ret
       exact⟨by rw[HOU.out,E0.out];rfl,KW3.out⟩
end
end Go.Proofs.YtcbcegdidlefiaaGreat
