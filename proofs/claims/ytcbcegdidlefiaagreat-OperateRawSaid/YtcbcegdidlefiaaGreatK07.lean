/- A region that draws its order and in which two operations may come in either order (two allocations). No condition. Contract of transition (program): the point of the link between two steps. Conditions: as the theorem says. Contracts of the small readers of the graph: number, release, happened. Conditions: as each theorem says. Contract of the graph's addOrder. Conditions: as the theorem says. Contracts of the reference's holds, exactly, All. Conditions: as each theorem says. Contract of the reference's Valid: it returns what precedence.Valid returns. Conditions: as each theorem says. Contract of the reference's Check. Conditions: as the theorem says. Contract of precedence.proper. Conditions: as the theorem says. Maps whose keys are of Go's type int: what a lookup, a store and len do, in terms of the function that the map is. Conditions: as each theorem says. Contract of precedence.Check: it returns what the reference's Check returns. Conditions: as the theorem says. Contract of newGraph. Conditions: as each theorem says. The order of events of chapter 35 as plain lists: the program's and the reference's are the same. No program in sight. Contracts of the graph's ready and of what it calls. Conditions: as each theorem says. Contract of the graph's ready. Conditions: as the theorem says. Contract of the graph's line. Conditions: as the theorem says. -/
import Derived.Test.YtcbcegdidlefiaaGreatK01
import Derived.Test.YtcbcegdidlefiaaGreatK06
import Derived.Deep.CutRange
import Derived.Test.YtcbcegdidlefiaaGreatK03
namespace Go.Proofs.YtcbcegdidlefiaaGreat
section
open Go.RowKit
section
variable {P:Program} {ops:Array Oper} {Q:Exit→Act→World→Prop} {K:Act→World→Prop} {C:World→Prop} {act need need':Nat→Bool}
theorem wpLexK_join {pi2:List Nat} (hK:∀a w,K a w→wpLex P ops Q C act need pi2 a w):∀(pi1:List Nat) (a:Act) (w:World),(∀i∈pi1,act i=false)→wpLexK P ops Q K C act need' pi1 a w→wpLex P ops Q C act need (pi1++pi2) a w
 | [],a,w,_,h=>hK a w h
 |i::r,a,w,hr,h=>by
  have hi:¬act i=true:=by simp[hr i (by simp)]
  simp only[wpLexK]at h
  rw[if_neg hi]at h
  simp only[List.cons_append,wpLex]
  rw[if_neg hi]
  obtain⟨oi,v,h1,h2,h3⟩:=h
  exact⟨oi,v,h1,h2,wpLexK_join hK r _ w (fun k hk=>hr k (by simp[hk])) h3⟩
theorem wpLexK_needs:∀ {pi1:List Nat} {a:Act} {w:World},(∀i∈pi1,act i=false)→wpLexK P ops Q K C act need pi1 a w→wpLexK P ops Q K C act need' pi1 a w
 | [],_,_,_,h=>h
 |i::r,a,w,hr,h=>by
  have hi:¬act i=true:=by simp[hr i (by simp)]
  simp only[wpLexK]at h⊢
  rw[if_neg hi]at h⊢
  obtain⟨oi,v,h1,h2,h3⟩:=h
  exact⟨oi,v,h1,h2,wpLexK_needs (fun k hk=>hr k (by simp[hk])) h3⟩
end
section
variable {P:Program} {l:List Oper} {Q:Exit→Act→World→Prop} {C:World→Prop} {need1 need2:Nat→Bool}
theorem fork_take (hsel:∀(j:Nat) (o:Oper) cs b,l.toArray[j]? =some o→o.op≠ .select cs b) (hQ:∀c a w,¬Q (.panic c) a w) (hb:edgesBackB l=true) {need:Nat→Bool} (pre post:List Nat) (x y:Nat)
  (hpx:∀i j,List.Sublist [i,j] (pre++x::post)→pairOk l (masks l []) i j=true) (hpy:∀i j,List.Sublist [i,j] (pre++y::post)→pairOk l (masks l []) i j=true)
  (hneed1:∀i j,List.Sublist [i,j] (pre++x::y::post)→waits (masks l []) j i=false→need j=true)
  (hneed2:∀i j,List.Sublist [j,i] (pre++x::y::post)→actAt l i=false→need j=true)
  (r:List Nat) (listed:Array Bool) (a:Act) (w:World) (hsub:List.Sublist r pre) (hnd:(r++x::y::post).Nodup) (hmem:∀j,j<l.length→(j∈r++x::y::post↔listed.getD j true=false)) (hrl:∀j∈r++x::y::post,j<l.length) (hsz:listed.size=l.length)
  (hdown:∀(j:Nat) (o:Oper),l[j]? =some o→listed.getD j false=true→∀e∈o.after,Region.binds .any e=true→listed.getD e.on false=true)
  (hC:C w) (hxa:actAt l x=true) (o:Oper) (ho:l[x]? =some o) (hall:∀e∈o.after,Region.binds .any e=true→listed.getD e.on false=true)
  (h:wpLex P l.toArray Q C (actAt l) need (r++x::y::post) a w):wpOp P l.toArray Q x (fun a' w'=>wpAny P .any l.toArray Q (r.length+post.length+1) (listed.setIfInBounds x true) a' w') a w:=by
 have hxl:x<l.length:=hrl x (by simp)
 have hwl:=waits_listedB hb (L:=fun k=>listed.getD k false=true) hdown (x+1) x o (by omega) ho hall
 have hsubB:List.Sublist (r++x::y::post) (pre++x::y::post):=hsub.append (List.Sublist.refl _)
 have hpre:∀k∈r,waits (masks l []) x k=false∧actAt l k=false∧∀ok oi,l.toArray[k]? =some ok→l.toArray[x]? =some oi→ok.apart l.toArray oi=true:=by
  intro k hk
  have hkl:=hrl k (by simp[hk])
  have hk0:=(hmem k hkl).1 (by simp[hk])
  have hnw:waits (masks l []) x k=false:=by
   cases e:waits (masks l []) x k with
   |false=>rfl
   |true=>exact absurd (hwl k e) ((getD_flip (by omega)).1 hk0)
  have hs2:List.Sublist [k,x] (pre++x::post):=(List.singleton_sublist.2 (hsub.subset hk)).append (List.singleton_sublist.2 (by simp))
  have hp:=hpx k x hs2
  simp only[pairOk,hnw,Bool.and_eq_true,Bool.false_or]at hp
  refine⟨hnw,by simpa using hp.2.1,fun ok oi h1 h2=> ?_⟩
  have h3:=hp.2.2
  simp only[List.getElem?_toArray]at h1 h2
  rw[h1,h2]at h3
  exact h3
 have hn:r≠ []→need x=true:=by
  intro hne
  obtain⟨k,hk⟩:=List.exists_mem_of_ne_nil _ hne
  have hs2:List.Sublist [k,x] (r++x::y::post):=(List.singleton_sublist.2 hk).append (List.singleton_sublist.2 (by simp))
  exact hneed1 k x (hs2.trans hsubB) (hpre k hk).1
 have h1:=wpLex_pull (act:=actAt l) hsel hQ x (y::post) r a w (fun k hk=>(hpre k hk).2) hn (fun _=>hC) (fun _=>⟨o,by simpa using ho⟩) h
 have hsubS:List.Sublist (r++y::post) (r++x::y::post):=(List.Sublist.refl r).append (List.sublist_cons_self x _)
 have hsubP:List.Sublist (pre++y::post) (pre++x::y::post):=(List.Sublist.refl pre).append (List.sublist_cons_self x _)
 have hxn:x∉r++y::post:=by
  have h3:=List.nodup_append.1 hnd
  intro hx
  rcases List.mem_append.1 hx with hx|hx
  ·exact h3.2.2 x hx x (by simp) rfl
  ·exact(List.nodup_cons.1 h3.2.1).1 hx
 refine wpOp_mono (fun a' w' hh=> ?_) h1
 have hfin:=lex_anyB hsel hQ hb (need:=need) (C:=C) (pre++y::post) hpy (fun i j hs hw=>hneed1 i j (hs.trans hsubP) hw) (fun i j hs hw=>hneed2 i j (hs.trans hsubP) hw) (r.length+post.length+1) (r++y::post) (listed.setIfInBounds x true) a' w' (by simp;omega) (hsub.append (List.Sublist.refl _)) (hnd.sublist hsubS) ?_ (fun k hk=>hrl k (hsubS.subset hk)) (by simpa using hsz) ?_ ?_ hh.2.2
 ·exact hfin
 ·intro k hk
  by_cases hjk:x=k
  ·subst hjk
   have:(listed.setIfInBounds x true).getD x true=true:=by simp[Array.getD_eq_getD_getElem?,hsz,hxl]
   rw[this]
   exact⟨fun hx=>absurd hx hxn,fun hx=>by cases hx⟩
  ·rw[getD_set_ne true hjk,←hmem k hk]
   constructor
   ·intro hx;exact hsubS.subset hx
   ·intro hx
    rcases List.mem_append.1 hx with hx|hx
    ·exact List.mem_append_left _ hx
    ·rcases List.mem_cons.1 hx with hx|hx
     ·exact absurd hx.symm hjk
     ·exact List.mem_append_right _ hx
 ·intro k ok hok hlk e he hbd
  by_cases hjk:x=k
  ·subst hjk
   rw[ho]at hok
   injection hok with hok
   subst hok
   exact getD_set_true (hall e he hbd)
  ·rw[getD_set_ne false hjk]at hlk
   exact getD_set_true (hdown k ok hok hlk e he hbd)
 ·rintro⟨i,hi,hia⟩
  refine hh.1 hxa ?_
  rcases List.mem_append.1 hi with hi|hi
  ·exact hn (fun e=>by subst e;simp at hi)
  ·have hs2:List.Sublist [x,i] (r++x::y::post):=((List.Sublist.cons_cons x (List.singleton_sublist.2 hi))).trans (List.sublist_append_right r _)
   exact hneed2 i x (hs2.trans hsubB) hia
theorem lex_anyF (hsel:∀(j:Nat) (o:Oper) cs b,l.toArray[j]? =some o→o.op≠ .select cs b) (hQ:∀c a w,¬Q (.panic c) a w) (hb:edgesBackB l=true) {needA:Nat→Bool} (pre post:List Nat) (x y:Nat)
  (hpx:∀i j,List.Sublist [i,j] (pre++x::post)→pairOk l (masks l []) i j=true) (hpy:∀i j,List.Sublist [i,j] (pre++y::post)→pairOk l (masks l []) i j=true)
  (hx1:∀i j,List.Sublist [i,j] (pre++x::y::post)→waits (masks l []) j i=false→need1 j=true) (hx2:∀i j,List.Sublist [j,i] (pre++x::y::post)→actAt l i=false→need1 j=true)
  (hy1:∀i j,List.Sublist [i,j] (pre++y::x::post)→waits (masks l []) j i=false→need2 j=true) (hy2:∀i j,List.Sublist [j,i] (pre++y::x::post)→actAt l i=false→need2 j=true)
  (hxy:waits (masks l []) x y=false) (hpost:∀j∈post,waits (masks l []) j x=true) (hxa:actAt l x=true) (hya:actAt l y=true) (hract:∀i∈pre,actAt l i=false):
  ∀(n:Nat) (r:List Nat) (listed:Array Bool) (a:Act) (w:World),r.length=n→List.Sublist r pre→(r++x::y::post).Nodup→(∀j,j<l.length→(j∈r++x::y::post↔listed.getD j true=false))→(∀j∈r++x::y::post,j<l.length)→listed.size=l.length→
  (∀(j:Nat) (o:Oper),l[j]? =some o→listed.getD j false=true→∀e∈o.after,Region.binds .any e=true→listed.getD e.on false=true)→C w→
  wpLexK P l.toArray Q (fun a w=>wpLex P l.toArray Q C (actAt l) need1 (x::y::post) a w∧wpLex P l.toArray Q C (actAt l) need2 (y::x::post) a w) C (actAt l) needA r a w→wpAny P .any l.toArray Q (r.length+post.length+2) listed a w:=by
 intro n
 induction n with
 |zero=>
  intro r listed a w hn hsub hnd hmem hrl hsz hdown hC h
  have:r=[]:=List.eq_nil_of_length_eq_zero hn
  subst this
  refine⟨fun hempty=> ?_,fun j hj=> ?_⟩
  ·exfalso
   have hxl:x<l.length:=hrl x (by simp)
   have:x∈Region.ready .any l.toArray listed:=by
    refine mem_ready.2 ⟨(hmem x hxl).1 (by simp),l[x],by simp[hxl],fun e he hbd=> ?_⟩
    have hw:=waits_edge (List.getElem?_eq_getElem hxl) he hbd
    have hlt:e.on<x:=waits_ltB hb (List.getElem?_eq_getElem hxl) hw
    apply Classical.byContradiction
    intro hnn
    have hin:e.on∈ []++x::y::post:=(hmem e.on (by omega)).2 ((getD_flip (by omega)).2 hnn)
    simp only[List.nil_append,List.mem_cons]at hin
    rcases hin with h'|h'|h'
    ·omega
    ·rw[h']at hw;rw[hw]at hxy;cases hxy
    ·have hp:=hpx x e.on ((List.Sublist.cons_cons x (List.singleton_sublist.2 h')).trans (List.sublist_append_right pre _))
     simp only[pairOk,Bool.and_eq_true]at hp
     simp[hw]at hp
   rw[hempty]at this
   simp at this
  ·obtain⟨h0,o,ho,hall⟩:=mem_ready.1 hj
   have hjl:j<l.length:=by
    have:=(Array.getElem?_eq_some_iff.1 ho).1;simpa using this
   have ho':l[j]? =some o:=by simpa using ho
   have hwl:=waits_listedB hb (L:=fun k=>listed.getD k false=true) hdown (j+1) j o (by omega) ho' hall
   have hjr:=(hmem j hjl).2 h0
   simp only[List.nil_append,List.mem_cons]at hjr
   rcases hjr with rfl|rfl|hjp
   ·exact fork_take hsel hQ hb pre post j y hpx hpy hx1 hx2 [] listed a w hsub hnd hmem hrl hsz hdown hC hxa o ho' hall h.1
   ·have hperm:∀k,k∈ []++j::x::post↔k∈ []++x::j::post:=fun k=>by simp only[List.nil_append,List.mem_cons];constructor<;>(rintro(h|h|h)<;>simp[h])
    exact fork_take hsel hQ hb pre post j x hpy hpx hy1 hy2 [] listed a w hsub (by simp only[List.nil_append,List.nodup_cons,List.mem_cons]at hnd⊢;exact⟨fun hh=>hh.elim (fun e=>hnd.1 (.inl e.symm)) hnd.2.1,fun hh=>hnd.1 (.inr hh),hnd.2.2⟩) (fun k hk=>(hperm k).trans (hmem k hk)) (fun k hk=>hrl k ((hperm k).1 hk)) hsz hdown hC hya o ho' hall h.2
   ·exfalso
    have h1:=hwl x (hpost j hjp)
    have hxl:x<l.length:=hrl x (by simp)
    exact(getD_flip (by omega)).1 ((hmem x hxl).1 (by simp)) h1
 |succ n ih=>
  intro r listed a w hn hsub hnd hmem hrl hsz hdown hC h
  have hra:∀i∈r,actAt l i=false:=fun i hi=>hract i (hsub.subset hi)
  refine⟨fun hempty=> ?_,fun j hj=> ?_⟩
  ·exfalso
   cases r with
   |nil=>simp at hn
   |cons i r'=>
    have hil:=hrl i (by simp)
    have hi0:=(hmem i hil).1 (by simp)
    have:i∈Region.ready .any l.toArray listed:=by
     refine mem_ready.2 ⟨hi0,l[i],by simp[hil],fun e he hbd=> ?_⟩
     have hw:=waits_edge (List.getElem?_eq_getElem hil) he hbd
     have hlt:e.on<i:=waits_ltB hb (List.getElem?_eq_getElem hil) hw
     apply Classical.byContradiction
     intro hnn
     have hin:e.on∈i::r'++x::y::post:=(hmem e.on (by omega)).2 ((getD_flip (by omega)).2 hnn)
     have hbad:∀k,e.on=k→(List.Sublist [i,k] (pre++x::post)∨List.Sublist [i,k] (pre++y::post))→False:=by
      rintro k rfl hs
      rcases hs with hs|hs
      ·have hp:=hpx i e.on hs
       simp only[pairOk,Bool.and_eq_true]at hp
       simp[hw]at hp
      ·have hp:=hpy i e.on hs
       simp only[pairOk,Bool.and_eq_true]at hp
       simp[hw]at hp
     have hip:i∈pre:=hsub.subset (by simp)
     simp only[List.cons_append,List.mem_cons,List.mem_append]at hin
     rcases hin with h'|h'|h'|h'|h'
     ·omega
     ·exact hbad _ rfl (.inl (((List.Sublist.cons_cons i (List.singleton_sublist.2 h')).trans hsub).trans (List.sublist_append_left ..)))
     ·exact hbad _ rfl (.inl ((List.singleton_sublist.2 hip).append (List.singleton_sublist.2 (by simp[h']))))
     ·exact hbad _ rfl (.inr ((List.singleton_sublist.2 hip).append (List.singleton_sublist.2 (by simp[h']))))
     ·exact hbad _ rfl (.inl ((List.singleton_sublist.2 hip).append (List.singleton_sublist.2 (by simp[h']))))
    rw[hempty]at this
    simp at this
  ·obtain⟨h0,o,ho,hall⟩:=mem_ready.1 hj
   have hjl:j<l.length:=by
    have:=(Array.getElem?_eq_some_iff.1 ho).1;simpa using this
   have ho':l[j]? =some o:=by simpa using ho
   have hwl:=waits_listedB hb (L:=fun k=>listed.getD k false=true) hdown (j+1) j o (by omega) ho' hall
   have hjr:=(hmem j hjl).2 h0
   rcases List.mem_append.1 hjr with hjr|hjr
   ·obtain⟨p1,p2,rfl⟩:=List.append_of_mem hjr
    have hpre:∀k∈p1,actAt l k=false∧∀ok oi,l.toArray[k]? =some ok→l.toArray[j]? =some oi→ok.apart l.toArray oi=true:=by
     intro k hk
     have hkl:=hrl k (by simp[hk])
     have hk0:=(hmem k hkl).1 (by simp[hk])
     have hnw:waits (masks l []) j k=false:=by
      cases e:waits (masks l []) j k with
      |false=>rfl
      |true=>exact absurd (hwl k e) ((getD_flip (by omega)).1 hk0)
     have hs2:List.Sublist [k,j] (p1++j::p2):=(List.singleton_sublist.2 hk).append (List.singleton_sublist.2 (by simp))
     have hp:=hpx k j ((hs2.trans hsub).trans (List.sublist_append_left ..))
     simp only[pairOk,hnw,Bool.and_eq_true,Bool.false_or]at hp
     refine⟨by simpa using hp.2.1,fun ok oi h1 h2=> ?_⟩
     have h3:=hp.2.2
     simp only[List.getElem?_toArray]at h1 h2
     rw[h1,h2]at h3
     exact h3
    have hja:actAt l j=false:=hra j (by simp)
    have h1:=wpLexK_pull (act:=actAt l) (need:=fun _=>true) hsel hQ j p2 p1 a w (fun k hk=>hpre k hk) (fun _=>rfl) (fun _=>hC) (fun _=>⟨o,ho⟩) (wpLexK_needs hra h)
    have hsub':List.Sublist (p1++p2) (p1++j::p2):=(List.Sublist.refl p1).append (List.sublist_cons_self j p2)
    have hsubA:List.Sublist (p1++p2++x::y::post) (p1++j::p2++x::y::post):=hsub'.append (List.Sublist.refl _)
    have hjn:j∉p1++p2++x::y::post:=by
     have e:p1++j::p2++x::y::post=p1++j::(p2++x::y::post):=by simp
     rw[e]at hnd
     rw[List.append_assoc]
     have h3:=List.nodup_append.1 hnd
     intro hx
     rcases List.mem_append.1 hx with hx|hx
     ·exact h3.2.2 j hx j (by simp) rfl
     ·exact(List.nodup_cons.1 h3.2.1).1 hx
    refine wpOp_mono (fun a' w' hh=> ?_) h1
    have hw':=hh.2.1 hja
    subst hw'
    have e:(p1++j::p2).length+post.length+2-1=(p1++p2).length+post.length+2:=by simp;omega
    have hfin:=ih (p1++p2) (listed.setIfInBounds j true) a' w' (by simp at hn⊢;omega) (hsub'.trans hsub) (hnd.sublist hsubA) ?_ (fun k hk=>hrl k (hsubA.subset hk)) (by simpa using hsz) ?_ hC (wpLexK_needs (fun i hi=>hra i (hsub'.subset hi)) hh.2.2)
    ·have e2:(p1++p2).length+post.length+2=(p1++j::p2).length+post.length+1:=by simp;omega
     rw[e2]at hfin
     exact hfin
    ·intro k hk
     by_cases hjk:j=k
     ·subst hjk
      have:(listed.setIfInBounds j true).getD j true=true:=by simp[Array.getD_eq_getD_getElem?,hsz,hjl]
      rw[this]
      exact⟨fun hx=>absurd hx hjn,fun hx=>by cases hx⟩
     ·rw[getD_set_ne true hjk,←hmem k hk]
      constructor
      ·intro hx;exact hsubA.subset hx
      ·intro hx
       simp only[List.mem_append,List.mem_cons]at hx⊢
       rcases hx with(hx|hx|hx)|hx
       ·exact .inl (.inl hx)
       ·exact absurd hx.symm hjk
       ·exact .inl (.inr hx)
       ·exact .inr hx
    ·intro k ok hok hlk e he hbd
     by_cases hjk:j=k
     ·subst hjk
      rw[ho']at hok
      injection hok with hok
      subst hok
      exact getD_set_true (hall e he hbd)
     ·rw[getD_set_ne false hjk]at hlk
      exact getD_set_true (hdown k ok hok hlk e he hbd)
   ·simp only[List.mem_cons]at hjr
    rcases hjr with rfl|rfl|hjp
    ·exact fork_take hsel hQ hb pre post j y hpx hpy hx1 hx2 r listed a w hsub hnd hmem hrl hsz hdown hC hxa o ho' hall (wpLexK_join (fun _ _ h=>h.1) r a w hra h)
    ·have hperm:∀k,k∈r++j::x::post↔k∈r++x::j::post:=fun k=>by simp only[List.mem_append,List.mem_cons];constructor<;>(rintro(h|h|h|h)<;>simp[h])
     exact fork_take hsel hQ hb pre post j x hpy hpx hy1 hy2 r listed a w hsub ((List.Perm.append_left r (List.Perm.swap j x post)).nodup_iff.1 hnd) (fun k hk=>(hperm k).trans (hmem k hk)) (fun k hk=>hrl k ((hperm k).1 hk)) hsz hdown hC hya o ho' hall (wpLexK_join (fun _ _ h=>h.2) r a w hra h)
    ·exfalso
     have h1:=hwl x (hpost j hjp)
     have hxl:x<l.length:=hrl x (by simp)
     exact(getD_flip (by omega)).1 ((hmem x hxl).1 (by simp)) h1
def forkOk (l:List Oper) (pre post:List Nat) (x y:Nat):Bool:=
 Region.noSelect l.toArray&&((pre++x::y::post).length==l.length)&&nodupB (pre++x::y::post)&&(pre++x::y::post).all (fun i=>decide (i<l.length))&&(List.range l.length).all (fun i=>(pre++x::y::post).contains i)&&pairsOk l (masks l []) (pre++x::post)&&pairsOk l (masks l []) (pre++y::post)&&edgesBackB l
  && !waits (masks l []) x y&&post.all (fun j=>waits (masks l []) j x)&&actAt l x&&actAt l y&&pre.all (fun i=> !actAt l i)
theorem wp_region_fork {id:Nat} {a:Act} {w:World} (C:World→Prop) (pre post:List Nat) (x y:Nat) (hm:P.follows .mixedOrders=true) (hB:forkOk l pre post x y=true) (hC:C w.drew)
  (h:wpLexK P l.toArray (NoPanic Q) (fun a w=>wpLex P l.toArray (NoPanic Q) C (actAt l) (needF l (masks l []) [] (pre++x::y::post)) (x::y::post) a w∧wpLex P l.toArray (NoPanic Q) C (actAt l) (needF l (masks l []) [] (pre++y::x::post)) (y::x::post) a w) C (actAt l) (fun _=>true) pre a w.drew):(Code.region id l.toArray true).wp P Q a w:=by
 simp only[forkOk,Bool.and_eq_true,beq_iff_eq]at hB
 obtain⟨⟨⟨⟨⟨⟨⟨⟨⟨⟨⟨⟨hsel,hlen⟩,hnd⟩,hall⟩,hcv⟩,hp1⟩,hp2⟩,hback⟩,hxy⟩,hpost⟩,hxa⟩,hya⟩,hpre⟩:=hB
 have hnd':=(nodupB_iff _).1 hnd
 have hnd2:(pre++y::x::post).Nodup:=(List.Perm.append_left pre (List.Perm.swap y x post)).nodup_iff.1 hnd'
 have hrl:∀j∈pre++x::y::post,j<l.length:=fun j hj=>by simpa using List.all_eq_true.1 hall j hj
 refine Code.wp_mono NoPanic.imp (wp_region_any hm ?_)
 have hcov:∀j,j<l.length→j∈pre++x::y::post:=fun j hj=>by simpa using List.all_eq_true.1 hcv j (List.mem_range.2 hj)
 have hne:∀(pi:List Nat),pi.Nodup→(∀i j,List.Sublist [i,j] pi→waits (masks l []) j i=false→needF l (masks l []) [] pi j=true)∧(∀i j,List.Sublist [j,i] pi→actAt l i=false→needF l (masks l []) [] pi j=true):=by
  intro pi hpn
  refine⟨fun i j hs hw=> ?_,fun i j hs hw=> ?_⟩
  ·obtain⟨pre,m,post,e⟩:=sub_split pi hs
   exact needF_ok pi [] (by simp) hpn (pre++i::m) j post e (.inl ⟨i,.inr (by simp),hw⟩)
  ·obtain⟨pre,m,post,e⟩:=sub_split pi hs
   refine needF_ok pi [] (by simp) hpn pre j (m++i::post) (by rw[e];simp) (.inr ⟨i,by simp,hw⟩)
 have hsz:l.toArray.size=pre.length+post.length+2:=by simp at hlen⊢;omega
 rw[hsz]
 refine lex_anyF (fun j o cs b ho=>Region.noSelect_spec hsel j o cs b ho) (fun c a w h=>h) hback pre post x y (fun i j hs=>pairsOk_sub _ i j hp1 hs) (fun i j hs=>pairsOk_sub _ i j hp2 hs) (hne _ hnd').1 (hne _ hnd').2 (hne _ hnd2).1 (hne _ hnd2).2 (by simpa using hxy) (fun j hj=>List.all_eq_true.1 hpost j hj) hxa hya (fun i hi=>by simpa using List.all_eq_true.1 hpre i hi) pre.length pre _ a w.drew rfl (List.Sublist.refl _) hnd' ?_ hrl (by simp at hlen⊢;omega) ?_ hC h
 ·intro j hj
  have:(Array.replicate (pre.length+post.length+2) false).getD j true=false:=by
   have h9:j<pre.length+post.length+2:=by simp at hlen;omega
   simp[Array.getD_eq_getD_getElem?,h9]
  exact⟨fun _=>this,fun _=>hcov j hj⟩
 ·intro j o ho hl
  simp[Array.getD_eq_getD_getElem?,Array.getElem?_replicate]at hl
  split at hl<;>simp at hl
end
end
section
open Go.RowKit
def trnP (ks:List Lnk) (s t:Stp):Int:=match lnkOf ks s t with|some k=>k.pt|none=>0
theorem outE_rev (t:Stp):outE ⟨t.sec,if t.dir=0 then 1 else 0⟩=inE t:=by
 unfold outE inE
 by_cases h:t.dir=0<;>simp[h]
def trnI (W:World) (e1 e2:Int×Int) (s1 s2 t1 t2 td:Int) (a0:Act) (d:Nat→Bool) (a:Act) (w':World):Prop:=
 ∃x8 x9 x14 x15 x16 x17 x18:Value,a=(((((((a0.put (some 8) x8).put (some 9) x9).put (some 14) x14).put (some 15) x15).put (some 16) x16).put (some 17) x17).put (some 18) x18)∧KeepsAll W w'∧
  (d 0=true→x14= .agg #[.int .i64 s1,.int .i64 s2])∧(d 1=true→x15= .agg (endC e1))∧(d 2=true→x16= .agg #[.int .i64 t1,.int .i64 t2])∧
  (d 3=true→x17= .agg #[.int .i64 t1,.int .i64 td])∧(d 4=true→x18= .agg (endC e2))∧
  (d 5=true→∃g,x8= .pointer (some ⟨g,0,none⟩)∧W.heap.size≤g∧Blk w' g 527 (if d 7=true then endC e1 else #[.int .i64 0,.int .i64 0])∧(d 6=true→x9≠x8))∧
  (d 6=true→∃g,x9= .pointer (some ⟨g,0,none⟩)∧W.heap.size≤g∧Blk w' g 527 (if d 8=true then endC e2 else #[.int .i64 0,.int .i64 0]))∧(d 7=true→d 5=true)∧(d 8=true→d 6=true∧d 7=true)
section
variable {W w1 w2:World} {d5 d6 d7 d8:Bool} {x8 x9:Value} {c1 c2 c3 c4:Array Value} {t:Nat} {n:Nat}
theorem trnI_k5 (k:KeepsAll w1 w2) (h:d5=true→∃g,x8= .pointer (some ⟨g,0,none⟩)∧n≤g∧Blk w1 g t (if d7=true then c1 else c2)∧(d6=true→x9≠x8)):
  d5=true→∃g,x8= .pointer (some ⟨g,0,none⟩)∧n≤g∧Blk w2 g t (if d7=true then c1 else c2)∧(d6=true→x9≠x8):=fun e=>by
 obtain⟨g,a,b,c,f⟩:=h e
 exact⟨g,a,b,c.kept k (by simp),f⟩
theorem trnI_k6 (k:KeepsAll w1 w2) (h:d6=true→∃g,x9= .pointer (some ⟨g,0,none⟩)∧n≤g∧Blk w1 g t (if d8=true then c3 else c4)):
  d6=true→∃g,x9= .pointer (some ⟨g,0,none⟩)∧n≤g∧Blk w2 g t (if d8=true then c3 else c4):=fun e=>by
 obtain⟨g,a,b,c⟩:=h e
 exact⟨g,a,b,c.kept k (by simp)⟩
end
set_option maxRecDepth 100000 in
set_option maxHeartbeats 2000000 in
theorem transition_any (L:Lay) (v:LV) (s t:Stp) (w:World) (h:RLay w (Old w) v L) (hk:L.lks.length≤192):
  Calls Tryz.prog 297 #[.agg (v.cs L),.agg (stpC s),.agg (stpC t)] w fun e w'=>e= .returned (.tuple #[.int .i64 (trnP L.lks s t),.bool (lnkOf L.lks s t).isSome])∧KeepsAll w w':=by
 have hc4:=h.lks.caps
 have HL:=Lib.hid h;clear h
 obtain⟨A1,A2,A3,A4,u1,u2,u3,u4⟩:=v
 simp only[]at hc4
 have HE1:=Lib.hid (fun W=>leaving_any s W)
 have HE2:=Lib.hid (fun W=>leaving_any ⟨t.sec,if t.dir=0 then 1 else 0⟩ W)
 have HRV:=Lib.hid (fun W=>reverse_any t W)
 rw[outE_rev]at HE2
 obtain⟨s1,s2⟩:=s
 obtain⟨t1,t2⟩:=t
 obtain⟨e1,hE1⟩:∃e,e=outE ⟨s1,s2⟩:=⟨_,rfl⟩
 obtain⟨e2,hE2⟩:∃e,e=inE ⟨t1,t2⟩:=⟨_,rfl⟩
 simp only[]at HE2 HRV
 rw[←hE1]at HE1
 rw[←hE2]at HE2
 have HQ:=Lib.hid (And.intro hE1 hE2)
 clear hE1 hE2
 generalize (if t2=0 then(1:Int)else 0)=td at HE2 HRV
 unfold stpC at HE1 HE2 HRV⊢
 unfold LV.cs
 simp only[]at HE1 HE2 HRV⊢
 go_enter Tryz.func297,Tryz.ntmps297
 go_wp2_with fail
 generalize hW1:World.alloc w _=W1
 have K1:Hid (KeepsAll w W1):=by subst hW1;exact(Keeps.refl _ _).alloc _
 have B1:Hid (Blk W1 w.heap.size 27 #[.slice A1 L.sts.length u1,.slice A2 L.pts.length u2,.slice A3 L.secs.length u3,.slice A4 L.lks.length u4]):=by subst hW1;exact Blk.new _ _ _
 have hz1:W1.heap.size=w.heap.size+1:=by subst hW1;simp
 clear hW1
 generalize hN:w.heap.size=N at*
 generalize hW:World.alloc (World.alloc W1 _) _=W
 have K0:Hid (KeepsAll w W):=by subst hW;exact(K1.out.alloc _).alloc _
 have B0:Hid (Blk W N 27 #[.slice A1 L.sts.length u1,.slice A2 L.pts.length u2,.slice A3 L.secs.length u3,.slice A4 L.lks.length u4]):=by subst hW;exact(B1.out.alloc _).alloc _
 have BS:Hid (Blk W (N+1) 200 #[.int .i64 s1,.int .i64 s2]):=by subst hW;exact(Blk.new' _ _ _ hz1.symm).alloc _
 have BT:Hid (Blk W (N+1+1) 200 #[.int .i64 t1,.int .i64 t2]):=by subst hW;exact Blk.new' _ _ _ (by simp[hz1])
 clear hW K1 B1 hz1
 refine wp_region_inv' (trnI W e1 e2 s1 s2 t1 t2 td) (by kernel_rfl) (by kernel_rfl) ⟨_,_,_,_,_,_,_,rfl,(Keeps.refl _ _).drew,(fun e=>by cases e),(fun e=>by cases e),(fun e=>by cases e),(fun e=>by cases e),(fun e=>by cases e),(fun e=>by cases e),(fun e=>by cases e),(fun e=>by cases e),(fun e=>by cases e)⟩ ?_ ?_
 ·generalize hINV:trnI W e1 e2 s1 s2 t1 t2 td _=INV
  have HI:Hid (INV=trnI W e1 e2 s1 s2 t1 t2 td _):=hINV.symm
  refine⟨?_,?_,?_,?_,?_,?_,?_,?_,?_,trivial⟩
  all_goals
   intro d a w' hd hdeps hI
   rw[←hINV]at hI
   obtain⟨x8,x9,x14,x15,x16,x17,x18,rfl,K,h0,h1,h2,h3,h4,h5,h6,h7,h8⟩:=hI
   have HH:=Lib.hid (And.intro h0 (And.intro h1 (And.intro h2 (And.intro h3 (And.intro h4 (And.intro h5 (And.intro h6 (And.intro h7 h8))))))))
   have q0:=(BS.out.kept K (by simp)).cell 0
   have q1:=(BS.out.kept K (by simp)).cell 1
   have q2:=(BT.out.kept K (by simp)).cell 0
   have q3:=(BT.out.kept K (by simp)).cell 1
   simp at q0 q1 q2 q3
   have KK:=Lib.hid K
   simp[depsOf,Region.binds]at hdeps
   clear hINV
  ·clear K h0 h1 h2 h3 h4 h5 h6 h7 h8
   go_wp2
   refine inv_post ?_
   rw[HI.out]
   obtain⟨h0,h1,h2,h3,h4,h5,h6,h7,h8⟩:=HH.out
   exact⟨x8,x9,.agg #[.int .i64 s1,.int .i64 s2],x15,x16,x17,x18,by kernel_rfl,KK.out,fun _=>rfl,by simpa[ups]using h1,by simpa[ups]using h2,by simpa[ups]using h3,by simpa[ups]using h4,by simpa[ups]using h5,by simpa[ups]using h6,by simpa[ups]using h7,by simpa[ups]using h8⟩
  ·obtain rfl:=h0 (by simpa using hdeps)
   clear K h1 h2 h3 h4 h5 h6 h7 h8
   go_wp2_with(go_at_call 395;refine(HE1.out _).mono ?_;rintro e w2 ⟨rfl,k2⟩)
   refine inv_post ?_
   rw[HI.out]
   obtain⟨h0,h1,h2,h3,h4,h5,h6,h7,h8⟩:=HH.out
   exact⟨x8,x9,.agg #[.int .i64 s1,.int .i64 s2],.agg (endC e1),x16,x17,x18,by kernel_rfl,KK.out.trA k2,fun _=>rfl,fun _=>rfl,by simpa[ups]using h2,by simpa[ups]using h3,by simpa[ups]using h4,by simpa[ups]using trnI_k5 k2 h5,by simpa[ups]using trnI_k6 k2 h6,by simpa[ups]using h7,by simpa[ups]using h8⟩
  ·clear K h0 h1 h2 h3 h4 h5 h6 h7 h8
   go_wp2
   refine inv_post ?_
   rw[HI.out]
   obtain⟨h0,h1,h2,h3,h4,h5,h6,h7,h8⟩:=HH.out
   exact⟨x8,x9,x14,x15,.agg #[.int .i64 t1,.int .i64 t2],x17,x18,by kernel_rfl,KK.out,by simpa[ups]using h0,by simpa[ups]using h1,fun _=>rfl,by simpa[ups]using h3,by simpa[ups]using h4,by simpa[ups]using h5,by simpa[ups]using h6,by simpa[ups]using h7,by simpa[ups]using h8⟩
  ·obtain rfl:=h2 hdeps.1
   clear K h0 h1 h3 h4 h5 h6 h7 h8
   go_wp2_with(go_at_call 396;refine(HRV.out _).mono ?_;rintro e w2 ⟨rfl,k2⟩)
   refine inv_post ?_
   rw[HI.out]
   obtain⟨h0,h1,h2,h3,h4,h5,h6,h7,h8⟩:=HH.out
   exact⟨x8,x9,x14,x15,.agg #[.int .i64 t1,.int .i64 t2],.agg #[.int .i64 t1,.int .i64 td],x18,by kernel_rfl,KK.out.trA k2,by simpa[ups]using h0,by simpa[ups]using h1,fun _=>rfl,fun _=>rfl,by simpa[ups]using h4,by simpa[ups]using trnI_k5 k2 h5,by simpa[ups]using trnI_k6 k2 h6,by simpa[ups]using h7,by simpa[ups]using h8⟩
  ·obtain rfl:=h3 (by first|exact hdeps|exact hdeps.1)
   clear K h0 h1 h2 h4 h5 h6 h7 h8
   go_wp2_with(go_at_call 395;refine(HE2.out _).mono ?_;rintro e w2 ⟨rfl,k2⟩)
   refine inv_post ?_
   rw[HI.out]
   obtain⟨h0,h1,h2,h3,h4,h5,h6,h7,h8⟩:=HH.out
   exact⟨x8,x9,x14,x15,x16,.agg #[.int .i64 t1,.int .i64 td],.agg (endC e2),by kernel_rfl,KK.out.trA k2,by simpa[ups]using h0,by simpa[ups]using h1,by simpa[ups]using h2,fun _=>rfl,fun _=>rfl,by simpa[ups]using trnI_k5 k2 h5,by simpa[ups]using trnI_k6 k2 h6,by simpa[ups]using h7,by simpa[ups]using h8⟩
  ·have g7:d 7=false:=by
    cases e:d 7 with
    |false=>rfl
    |true=>have:=h7 e;rw[hd]at this;cases this
   clear K h0 h1 h2 h3 h4 h5 h6 h7 h8
   go_wp2
   refine inv_post ?_
   rw[HI.out]
   obtain⟨h0,h1,h2,h3,h4,h5,h6,h7,h8⟩:=HH.out
   have k2:KeepsAll w' (w'.alloc (.cells #[.int .i64 0,.int .i64 0] 527)):=(Keeps.refl _ _).alloc _
   refine⟨.pointer (some ⟨w'.heap.size,0,none⟩),x9,x14,x15,x16,x17,x18,by kernel_rfl,KK.out.trA k2,by simpa[ups]using h0,by simpa[ups]using h1,by simpa[ups]using h2,by simpa[ups]using h3,by simpa[ups]using h4,fun _=>⟨_,rfl,KK.out.size,?_,fun e=> ?_⟩,by simpa[ups]using trnI_k6 k2 h6,fun _=>by simp[ups],by simpa[ups]using h8⟩
   ·rw[ups_far (by decide),g7];exact Blk.new _ _ _
   ·obtain⟨g,rfl,_,hb⟩:=h6 (by simpa[ups]using e)
    have:=hb.lt
    intro q;injection q with q;injection q with q;injection q with q;omega
  ·have g8:d 8=false:=by
    cases e:d 8 with
    |false=>rfl
    |true=>have:=(h8 e).1;rw[hd]at this;cases this
   clear K h0 h1 h2 h3 h4 h5 h6 h7 h8
   go_wp2
   refine inv_post ?_
   rw[HI.out]
   obtain⟨h0,h1,h2,h3,h4,h5,h6,h7,h8⟩:=HH.out
   have k2:KeepsAll w' (w'.alloc (.cells #[.int .i64 0,.int .i64 0] 527)):=(Keeps.refl _ _).alloc _
   refine⟨x8,.pointer (some ⟨w'.heap.size,0,none⟩),x14,x15,x16,x17,x18,by kernel_rfl,KK.out.trA k2,by simpa[ups]using h0,by simpa[ups]using h1,by simpa[ups]using h2,by simpa[ups]using h3,by simpa[ups]using h4,fun e=> ?_,fun _=>⟨_,rfl,KK.out.size,?_⟩,by simpa[ups]using h7,fun e=>by simp[ups,g8]at e⟩
   ·obtain⟨g,rfl,g1,hb,_⟩:=h5 (by simpa[ups]using e)
    refine⟨g,rfl,g1,?_,fun _=> ?_⟩
    ·rw[ups_far (by decide)];exact hb.kept k2 (by simp)
    ·have:=hb.lt
     intro q;injection q with q;injection q with q;injection q with q;omega
   ·rw[ups_far (by decide),g8];exact Blk.new _ _ _
  ·obtain⟨d5,d1,d4,d0,-,-,d6⟩:=hdeps
   obtain⟨g,rfl,g1,hb,hne⟩:=h5 d5
   obtain⟨g',rfl,g1',hb'⟩:=h6 d6
   obtain rfl:=h1 d1
   have g7:d 7=false:=by simpa using hd
   have g8:d 8=false:=by
    cases e:d 8 with
    |false=>rfl
    |true=>have:=(h8 e).2;rw[g7]at this;cases this
   rw[if_neg (by rw[g7];simp)]at hb
   have hgn:g≠g':=fun e=>hne d6 (by rw[e])
   have c0:=hb.cell 0
   have c1:=hb.cell 1
   have f0:=hb.frozen 0
   have f1:=hb.frozen 1
   simp at c0 c1
   have HB:=Lib.hid hb
   have HB2:=Lib.hid hb'
   have HNE:=Lib.hid hne
   clear K h0 h1 h2 h3 h4 h5 h6 h7 h8 hb hb' hne q0 q1 q2 q3
   unfold endC
   go_wp2
   refine inv_post ?_
   rw[HI.out]
   obtain⟨h0,h1,h2,h3,h4,h5,h6,h7,h8⟩:=HH.out
   have KN:KeepsAll W ((w'.setCell ⟨g,0,none⟩ (.int .i64 e1.1)).setCell ⟨g,1,none⟩ (.int .i64 e1.2)):=Keeps.setCell (Keeps.setCell KK.out (fun e=>by simp at e;omega) _) (fun e=>by simp at e;omega) _
   have BN:Blk ((w'.setCell ⟨g,0,none⟩ (.int .i64 e1.1)).setCell ⟨g,1,none⟩ (.int .i64 e1.2)) g 527 (endC e1):=by
    have:=(HB.out.set_ 0 (.int .i64 e1.1)).set_ 1 (.int .i64 e1.2)
    simpa[endC]using this
   refine⟨.pointer (some ⟨g,0,none⟩),.pointer (some ⟨g',0,none⟩),x14,.agg (endC e1),x16,x17,x18,by kernel_rfl,KN,by simpa[ups]using h0,fun _=>rfl,by simpa[ups]using h2,by simpa[ups]using h3,by simpa[ups]using h4,fun _=>⟨g,rfl,g1,?_,fun _=>HNE.out d6⟩,fun _=>⟨g',rfl,g1',?_⟩,by simp[ups,d5],by simp[ups,g8]⟩
   ·rw[if_pos (by simp[ups])];exact BN
   ·simp only[ups_far (show(8:Nat)≠0+1+1+1+1+1+1+1 by decide)]
    exact(HB2.out.far (fun e=>hgn e.symm) _).far (fun e=>hgn e.symm) _
  ·obtain⟨d6,d4,d7,-,d1,-,-,-,d5,-,-⟩:=hdeps
   obtain⟨g,rfl,g1,hb,hne⟩:=h5 d5
   obtain⟨g',rfl,g1',hb'⟩:=h6 d6
   obtain rfl:=h4 d4
   have g8:d 8=false:=by simpa using hd
   rw[if_neg (by rw[g8];simp)]at hb'
   have hgn:g≠g':=fun e=>hne d6 (by rw[e])
   have c0:=hb'.cell 0
   have c1:=hb'.cell 1
   have f0:=hb'.frozen 0
   have f1:=hb'.frozen 1
   simp at c0 c1
   have HB:=Lib.hid hb
   have HB2:=Lib.hid hb'
   have HNE:=Lib.hid hne
   clear K h0 h1 h2 h3 h4 h5 h6 h7 h8 hb hb' hne q0 q1 q2 q3
   unfold endC
   go_wp2
   refine inv_post ?_
   rw[HI.out]
   obtain⟨h0,h1,h2,h3,h4,h5,h6,h7,h8⟩:=HH.out
   have KN:KeepsAll W ((w'.setCell ⟨g',0,none⟩ (.int .i64 e2.1)).setCell ⟨g',1,none⟩ (.int .i64 e2.2)):=Keeps.setCell (Keeps.setCell KK.out (fun e=>by simp at e;omega) _) (fun e=>by simp at e;omega) _
   have BN:Blk ((w'.setCell ⟨g',0,none⟩ (.int .i64 e2.1)).setCell ⟨g',1,none⟩ (.int .i64 e2.2)) g' 527 (endC e2):=by
    have:=(HB2.out.set_ 0 (.int .i64 e2.1)).set_ 1 (.int .i64 e2.2)
    simpa[endC]using this
   refine⟨.pointer (some ⟨g,0,none⟩),.pointer (some ⟨g',0,none⟩),x14,x15,x16,x17,.agg (endC e2),by kernel_rfl,KN,by simpa[ups]using h0,by simpa[ups]using h1,by simpa[ups]using h2,by simpa[ups]using h3,fun _=>rfl,fun _=>⟨g,rfl,g1,?_,fun _=>HNE.out d6⟩,fun _=>⟨g',rfl,g1',?_⟩,by simp[ups,d5],by simp[ups,d6,d7]⟩
   ·rw[if_pos d7]at HB
    rw[if_pos (by simp[ups,d7])]
    exact(HB.out.far hgn _).far hgn _
   ·rw[if_pos (by simp[ups])];exact BN
 ·intro d a' W2 hall hI
  obtain⟨x8,x9,x14,x15,x16,x17,x18,rfl,K,h0,h1,h2,h3,h4,h5,h6,h7,h8⟩:=hI
  have hd:∀j,j<9→d j=true:=fun j hj=>hall j (by simpa using hj)
  obtain⟨g,rfl,g1,hb,hne⟩:=h5 (hd 5 (by omega))
  obtain⟨g',rfl,g1',hb'⟩:=h6 (hd 6 (by omega))
  rw[if_pos (hd 7 (by omega))]at hb
  rw[if_pos (hd 8 (by omega))]at hb'
  have HB:=Lib.hid hb
  have HB2:=Lib.hid hb'
  have HK:=Lib.hid K
  have BL:=Lib.hid (B0.out.kept K (by simp))
  clear hall hb hb' K h0 h1 h2 h3 h4 h5 h6 h7 h8 hne hd B0 BS BT
  have q3:=BL.out.cell 3
  simp at q3
  have HW2:Hid (KeepsAll w W2):=K0.out.trA HK.out
  have hgg:g<W2.heap.size∧g'<W2.heap.size∧N<W2.heap.size:=⟨HB.out.lt,HB2.out.lt,BL.out.lt⟩
  clear HK K0
  go_wp2_with fail
  generalize hs1:Value.int IntKind.i64 s1=S1
  go_loopw [22] (fun i wr=>∃n:Nat,n≤L.lks.length∧i= .int .i64 (n:Int)∧(L.lks.take n).find? (fun k=>joinsE k e1 e2)=none∧KeepsAll W2 wr) (fun i _=>L.lks.length-(intOf i).toNat)
  case atStart=>exact⟨0,Nat.zero_le _,rfl,rfl,Keeps.refl _ _⟩
  case round=>
   obtain⟨n,hn,rfl,hnone,hk'⟩:=hrel
   have HK:=Lib.hid hk'
   have HNO:=Lib.hid hnone
   have KW:=Lib.hid (HW2.out.trA hk')
   have C1:=Lib.hid (HB.out.kept hk' (by simp))
   have C2:=Lib.hid (HB2.out.kept hk' (by simp))
   clear hk' hnone
   by_cases hlt:n<L.lks.length
   ·obtain⟨b,o,k,rfl,hb,hx,m0,m1,m2,m3,m4,m5⟩:=HL.out.lks.atO KW.out hlt
    have HNX:Hid ((L.lks.take (n+1)).find? (fun k=>joinsE k e1 e2)=if joinsE k e1 e2=true then some k else none):=by
     show _=_
     rw[List.take_add_one,hx,Option.toList_some,List.find?_append,HNO.out]
     simp[List.find?_cons]
     split<;>simp_all
    have HYES:Hid (joinsE k e1 e2=true→L.lks.find? (fun k=>joinsE k e1 e2)=some k):=fun hj=>by
     have hd:L.lks.drop n=k::L.lks.drop (n+1):=by rw[←(List.getElem?_eq_some_iff.1 hx).2,List.getElem_cons_drop hlt]
     rw[←List.take_append_drop n L.lks,List.find?_append,HNO.out,hd]
     simp[hj]
    clear hx
    go_upto_region 5 with fail
    generalize hwc:World.alloc wr _=wc
    have KC:Hid (KeepsAll wr wc):=by subst hwc;exact(Keeps.refl _ _).alloc _
    have BK:Hid (Blk wc wr.heap.size 196 #[.int .i64 k.a,.int .i64 k.ae,.int .i64 k.b,.int .i64 k.be,.int .i64 k.pt,.int .i64 k.ps]):=by subst hwc;exact Blk.new _ _ _
    clear hwc m0 m1 m2 m3 m4 m5
    generalize wr.heap.size=z at*
    have f0:=BK.out.cell 0
    have f1:=BK.out.cell 1
    have f2:=BK.out.cell 2
    have f3:=BK.out.cell 3
    simp at f0 f1 f2 f3
    go_cut [12,13]from 26 to 57 (fun s7 s8 wx=>∃za zb:Nat,s7= .pointer (some ⟨za,0,none⟩)∧s8= .pointer (some ⟨zb,0,none⟩)∧Blk wx za 527 (endC (k.a,k.ae))∧Blk wx zb 527 (endC (k.b,k.be))∧KeepsAll wc wx)
    case first=>
     refine wp_region_fork (fun w'=>∃x:Ext wc,w'=x.val) [0,1,2,3,4,5,6,7,8,9] [12,13] 10 11 (by kernel_rfl) (by kernel_rfl) ⟨⟨_,(Keeps.refl _ _).drew⟩,rfl⟩ ?_
     have y0:=Ext.cell f0
     have y1:=Ext.cell f1
     have y2:=Ext.cell f2
     have y3:=Ext.cell f3
     iterate 10 (refine lexK_q _ rfl rfl rfl ?_;go_big_quiet_step (fail);refine wpQuiet_nil ?_)
     clear y0 y1 y2 y3 f0 f1 f2 f3
     have KD:KeepsAll wc wc.drew:=(Keeps.refl _ _).drew
     generalize wc.drew=wd at*
     refine⟨?_,?_⟩
     all_goals (refine lex_a _ rfl rfl true (by kernel_rfl) ?_)
     all_goals go_wp2
     all_goals (refine⟨fun _=>⟨⟨_,KD.alloc _⟩,rfl⟩,?_⟩)
     all_goals (refine lex_a _ rfl rfl true (by kernel_rfl) ?_)
     all_goals go_wp2
     all_goals (refine⟨fun _=>⟨⟨_,(KD.alloc _).alloc _⟩,rfl⟩,?_⟩)
     all_goals (refine lex_a _ rfl rfl true (by kernel_rfl) ?_)
     all_goals go_wp2
     all_goals (refine⟨fun _=>⟨⟨_,(KD.alloc _).alloc _⟩,rfl⟩,?_⟩)
     all_goals (refine lex_a _ rfl rfl false (by kernel_rfl) ?_)
     all_goals go_wp2
     all_goals (refine⟨fun h=>(by cases h),?_⟩)
     all_goals simp only[wpLex]
     all_goals (refine NoPanic.normal ?_)
     all_goals go_wp2_with fail
     all_goals go_meet
     ·exact⟨_,_,rfl,rfl,(Blk.new wd 527 (endC (k.a,k.ae))).alloc _,Blk.new' (World.alloc wd _) 527 (endC (k.b,k.be)) (by simp),(KD.alloc _).alloc _⟩
     ·exact⟨_,_,rfl,rfl,Blk.new' (World.alloc wd _) 527 (endC (k.a,k.ae)) (by simp),(Blk.new wd 527 (endC (k.b,k.be))).alloc _,(KD.alloc _).alloc _⟩
    case rest=>
     obtain⟨za,zb,rfl,rfl,ha,hb2,kx⟩:=hcut
     have KX:=Lib.hid ((HK.out.trA KC.out).trA kx)
     have KWX:=Lib.hid ((KW.out.trA KC.out).trA kx)
     have a0:=(ha.cell 0).trans (by rfl:_=some (.int .i64 k.a))
     have a1:=(ha.cell 1).trans (by rfl:_=some (.int .i64 k.ae))
     have b0:=(hb2.cell 0).trans (by rfl:_=some (.int .i64 k.b))
     have b1:=(hb2.cell 1).trans (by rfl:_=some (.int .i64 k.be))
     have c0:=(((C1.out.kept KC.out (by simp)).kept kx (by simp)).cell 0).trans (by rfl:_=some (.int .i64 e1.1))
     have c1:=(((C1.out.kept KC.out (by simp)).kept kx (by simp)).cell 1).trans (by rfl:_=some (.int .i64 e1.2))
     have d0:=(((C2.out.kept KC.out (by simp)).kept kx (by simp)).cell 0).trans (by rfl:_=some (.int .i64 e2.1))
     have d1:=(((C2.out.kept KC.out (by simp)).kept kx (by simp)).cell 1).trans (by rfl:_=some (.int .i64 e2.2))
     have k4:=(BK.out.kept kx (by simp)).cell 4
     simp at k4
     clear ha hb2 kx f0 f1 f2 f3
     obtain⟨x1,x2⟩:=e1
     obtain⟨y1,y2⟩:=e2
     simp only[]at c0 c1 d0 d1
     have HFIN:Hid (joinsE k (x1,x2) (y1,y2)=true→trnP L.lks ⟨s1,s2⟩ ⟨t1,t2⟩=k.pt∧(lnkOf L.lks ⟨s1,s2⟩ ⟨t1,t2⟩).isSome=true):=fun hj=>by
      have hl:lnkOf L.lks ⟨s1,s2⟩ ⟨t1,t2⟩=some k:=by unfold lnkOf;rw[←HQ.out.1,←HQ.out.2];exact HYES.out hj
      unfold trnP
      rw[hl]
      exact⟨rfl,rfl⟩
     have HRE:Hid (joinsE k (x1,x2) (y1,y2)=false→(∃n_1,n_1≤L.lks.length∧Value.int .i64 ((n:Int)+1)= .int .i64 (n_1:Int)∧(L.lks.take n_1).find? (fun k=>joinsE k (x1,x2) (y1,y2))=none∧KeepsAll W2 wc)∧L.lks.length-(intOf (.int .i64 ((n:Int)+1))).toNat<L.lks.length-(intOf (.int .i64 (n:Int))).toNat):=fun hj=>
      ⟨⟨n+1,by omega,by go_num,by rw[HNX.out,if_neg (by rw[hj];simp)],KX.out⟩,by simp[intOf];omega⟩
     subst hs1
     clear HNX HNO HYES HQ HL HB HB2 BL C1 C2 BK HK KW KC KX hc4
     go_wp2_with fail
     all_goals first
      |(refine HRE.out ?_;clear HFIN HRE;simp_all[joinsE];done)
      |(go_ret2;obtain⟨p1,p2⟩:=HFIN.out (by clear HFIN HRE;simp_all[joinsE]);refine⟨?_,KWX.out⟩;rw[p1,p2];rfl)
   ·obtain rfl:n=L.lks.length:=by omega
    have HF:Hid (L.lks.find? (fun k=>joinsE k e1 e2)=none):=by have:=HNO.out;rwa[List.take_length]at this
    go_wp2_with fail
    go_ret2
    subst hs1
    have HL0:lnkOf L.lks ⟨s1,s2⟩ ⟨t1,t2⟩=none:=by unfold lnkOf;rw[←HQ.out.1,←HQ.out.2];exact HF.out
    unfold trnP
    rw[HL0]
    exact⟨rfl,KW.out⟩
end
section
open Go.RowKit
end
section
open Go.RowKit
end
section
open Go.RowKit
end
section
open Go.RowKit
end
section
open Go.RowKit
end
section
open Go.RowKit
end
section
open Go.RowKit
def keysOf (es:List MapEntry) (ks:List Int):Prop:=es.map (·.key)=ks.map fun k=>Value.int .i64 k
def look:List MapEntry→Int→Option Value
 | [],_=>none
 |e::es,k=>match e.key with| .int .i64 x=>if k=x then some e.val else look es k|_=>look es k
structure MapIs (w:World) (r:Nat) (ks:List Int) (f:Int→Option Value):Prop where
 ex:∃es clock,w.heap[r]? =some (.map es clock)∧keysOf es.toList ks∧ks.Nodup∧∀k,look es.toList k=f k
theorem findNow_int (k:Int):∀(es:List MapEntry) (ks:List Int) (i:Nat),keysOf es ks→∃j,Instr.findNow (.int .i64) (.int .i64 k) es i=some ((look es k).map fun v=>(j,v))∧((look es k).isSome=true→i≤j∧j<i+es.length∧∃e,es[j-i]? =some e∧e.key= .int .i64 k)
 | [],ks,i,_=>⟨0,rfl,fun h=>by simp[look]at h⟩
 |e::es,[],i,h=>by simp[keysOf]at h
 |e::es,x::ks,i,h=>by
  simp only[keysOf,List.map_cons,List.cons.injEq]at h
  obtain⟨hk,hr⟩:=h
  by_cases hkx:k=x
  ·subst hkx
   refine⟨i,?_,fun _=>⟨Nat.le_refl _,by simp,e,by simp,hk⟩⟩
   simp[Instr.findNow,Instr.sameNow,look,hk]
  ·obtain⟨j,h1,h2⟩:=findNow_int k es ks (i+1) hr
   have hl:look (e::es) k=look es k:=by simp[look,hk,hkx]
   refine⟨j,?_,fun hs=> ?_⟩
   ·rw[hl]
    simp only[Instr.findNow,Instr.sameNow,hk]
    have:(k==x)=false:=by simpa using hkx
    simp only[if_true,this]
    exact h1
   ·rw[hl]at hs
    obtain⟨a,b,e',c,d⟩:=h2 hs
    refine⟨by omega,by simp;omega,e',?_,d⟩
    have:j-i=(j-(i+1))+1:=by omega
    rw[this];simpa using c
section
variable {P:Program} {t K E:TypeId} {w:World} {r:Nat} {ks:List Int} {f:Int→Option Value}
theorem MapIs.lt (h:MapIs w r ks f):r<w.heap.size:=by
 obtain⟨es,clock,h1,_⟩:=h.ex;exact(Array.getElem?_eq_some_iff.1 h1).1
theorem MapIs.kept {C:Foot} {w':World} (h:MapIs w r ks f) (k:Keeps C w w') (hn:¬C r):MapIs w' r ks f:=by
 obtain⟨es,clock,h1,h2⟩:=h.ex;exact⟨es,clock,(k.block r h.lt hn).trans h1,h2⟩
theorem MapIs.new (w:World):MapIs (w.alloc (.map #[] 0)) w.heap.size [] (fun _=>none):=
 ⟨#[],0,heap_alloc_new w _,rfl,List.nodup_nil,fun _=>rfl⟩
theorem run_checkKey_int (hK:P.underlying K=some (.int .i64)) (b:Bool) (n:Nat) (k:Int):(Instr.checkKey b (n+1) K (.int .i64 k)).run P w= .ok () w:=by
 simp[Instr.checkKey,run_underlying hK]
theorem MapIs.lookup (h:MapIs w r ks f) (ht:P.underlying t=some (.map K E)) (hK:P.underlying K=some (.int .i64)) {z:Value} (hz:(zeroValue E).run P w= .ok z w) (k:Int):
  (Instr.lookup t (.map (some r)) (.int .i64 k) false).run P w= .ok ((f k).getD z) w∧(Instr.lookup t (.map (some r)) (.int .i64 k) true).run P w= .ok (.tuple #[(f k).getD z,.bool (f k).isSome]) w:=by
 obtain⟨es,clock,h1,h2,h3,h4⟩:=h.ex
 obtain⟨j,hj,_⟩:=findNow_int k es.toList ks 0 h2
 rw[h4 k]at hj
 have hc:∀b,(Instr.checkKey b 10000 K (.int .i64 k)).run P w= .ok () w:=fun b=>run_checkKey_int hK b 9999 k
 have hg:(getObj r).run P w= .ok (.map es clock) w:=by simp[getObj,Sem.run,h1]
 cases hf:f k with
 |none=>
  rw[hf]at hj
  simp only[Option.map_none]at hj
  constructor<;>simp[Instr.lookup,run_underlying ht,hg,hc,Instr.findKey,run_underlying hK,hj,hz]
 |some v=>
  rw[hf]at hj
  simp only[Option.map_some]at hj
  constructor<;>simp[Instr.lookup,run_underlying ht,hg,hc,Instr.findKey,run_underlying hK,hj]
def setF (f:Int→Option Value) (k:Int) (v:Value):Int→Option Value:=fun x=>if x=k then some v else f x
theorem look_append (k:Int):∀(es:List MapEntry) (ks:List Int) (e:MapEntry) (x:Int),keysOf es ks→e.key= .int .i64 x→look (es++ [e]) k=match look es k with|some v=>some v|none=>if k=x then some e.val else none
 | [],_,e,x,_,he=>by simp[look,he]
 |a::es,[],e,x,h,_=>by simp[keysOf]at h
 |a::es,y::ks,e,x,h,he=>by
  simp only[keysOf,List.map_cons,List.cons.injEq]at h
  obtain⟨hk,hr⟩:=h
  by_cases hky:k=y
  ·simp[look,hk,hky]
  ·simp only[List.cons_append,look,hk,hky,if_false]
   exact look_append k es ks e x hr he
theorem look_none (k:Int):∀(es:List MapEntry) (ks:List Int),keysOf es ks→(look es k=none↔k∉ks)
 | [],[],_=>by simp[look]
 | [],_::_,h=>by simp[keysOf]at h
 |a::es,[],h=>by simp[keysOf]at h
 |a::es,y::ks,h=>by
  simp only[keysOf,List.map_cons,List.cons.injEq]at h
  obtain⟨hk,hr⟩:=h
  have ih:=look_none k es ks hr
  by_cases hky:k=y
  ·simp[look,hk,hky]
  ·simp only[look,hk,hky,if_false,ih,List.mem_cons,false_or]
theorem look_modify (k:Int) (v:Value) (k':Int):∀(es:List MapEntry) (ks:List Int) (j:Nat) (e:MapEntry),keysOf es ks→ks.Nodup→es[j]? =some e→e.key= .int .i64 k→
  look (es.modify j fun e=> {e with key:= .int .i64 k,val:=v}) k'=(if k'=k then some v else look es k')∧keysOf (es.modify j fun e=> {e with key:= .int .i64 k,val:=v}) ks
 | [],ks,j,e,_,_,h,_=>by simp at h
 |a::es,[],j,e,h,_,_,_=>by simp[keysOf]at h
 |a::es,y::ks,0,e,h,hn,he,hek=>by
  simp only[keysOf,List.map_cons,List.cons.injEq]at h
  obtain⟨hk,hr⟩:=h
  simp at he;subst he
  have hyk:y=k:=by rw[hk]at hek;injection hek
  subst hyk
  constructor
  ·simp only[List.modify_zero_cons,look,hk]
   by_cases h':k'=y<;>simp[h']
  ·simp only[List.modify_zero_cons,keysOf,List.map_cons,List.cons.injEq,true_and]
   exact hr
 |a::es,y::ks,j+1,e,h,hn,he,hek=>by
  simp only[keysOf,List.map_cons,List.cons.injEq]at h
  obtain⟨hk,hr⟩:=h
  have he':es[j]? =some e:=by simpa using he
  obtain⟨h1,h2⟩:=look_modify k v k' es ks j e hr (List.nodup_cons.1 hn).2 he' hek
  have hne:y≠k:=by
   rintro rfl
   have hmem:e.key∈es.map (·.key):=List.mem_map_of_mem (List.mem_of_getElem? he')
   rw[hr,hek]at hmem
   obtain⟨z,hz,hzz⟩:=List.mem_map.1 hmem
   injection hzz with _ hzz
   subst hzz
   exact(List.nodup_cons.1 hn).1 hz
  constructor
  ·simp only[List.modify_succ_cons,look,hk,h1]
   by_cases h':k'=y
   ·subst h';simp[hne]
   ·simp[h']
  ·simp only[List.modify_succ_cons,keysOf,List.map_cons,hk,List.cons.injEq,true_and]
   exact h2
theorem MapIs.update (h:MapIs w r ks f) (ht:P.underlying t=some (.map K E)) (hK:P.underlying K=some (.int .i64)) (k:Int) (v:Value):
  ∃w',(Instr.mapUpdate t (.map (some r)) (.int .i64 k) v).run P w= .ok () w'∧MapIs w' r (if k∈ks then ks else ks++ [k]) (setF f k v)∧Keeps (·=r) w w'∧w'.heap.size=w.heap.size:=by
 obtain⟨es,clock,h1,h2,h3,h4⟩:=h.ex
 obtain⟨j,hj,hj2⟩:=findNow_int k es.toList ks 0 h2
 have hc:∀b,(Instr.checkKey b 10000 K (.int .i64 k)).run P w= .ok () w:=fun b=>run_checkKey_int hK b 9999 k
 have hg:(getObj r).run P w= .ok (.map es clock) w:=by simp[getObj,Sem.run,h1]
 have hs:∀o,(setObj r o).run P w= .ok () {w with heap:=w.heap.setIfInBounds r o}:=fun o=>by simp[setObj,Sem.run,h1]
 have hlt:=h.lt
 have kk:∀o,Keeps (·=r) w {w with heap:=w.heap.setIfInBounds r o}:=fun o=>⟨rfl,rfl,rfl,by simp,fun i _ hn=>by simp[Ne.symm hn]⟩
 have hnew:∀o,({w with heap:=w.heap.setIfInBounds r o}:World).heap[r]? =some o:=fun o=>by simp[hlt]
 have hno:=look_none k es.toList ks h2
 cases hl:look es.toList k with
 |none=>
  rw[hl]at hj
  simp only[Option.map_none]at hj
  have hnk:=hno.1 hl
  refine⟨_,by simp[Instr.mapUpdate,run_underlying ht,hg,hc,Instr.findKey,run_underlying hK,hj,hs];rfl,⟨_,_,hnew _,?_,?_,?_⟩,kk _,by simp⟩
  ·rw[if_neg hnk];simp only[keysOf,Array.toList_push,List.map_append,List.map_cons,List.map_nil]
   unfold keysOf at h2;rw[h2]
  ·rw[if_neg hnk];exact List.nodup_append.2 ⟨h3,by simp,fun a ha b hb=>by simp at hb;subst hb;intro e;subst e;exact hnk ha⟩
  ·intro x
   rw[Array.toList_push,look_append x es.toList ks _ k h2 rfl,h4 x]
   unfold setF
   by_cases hx:x=k
   ·subst hx;rw[←h4 x,hl];try simp
   ·simp[hx];try(cases f x<;>rfl)
 |some u=>
  rw[hl]at hj
  simp only[Option.map_some]at hj
  obtain⟨_,_,e,he,hek⟩:=hj2 (by rw[hl];rfl)
  simp only[Nat.sub_zero]at he
  have hin:k∈ks:=by
   rcases Classical.em (k∈ks)with h'|h'
   ·exact h'
   ·rw[hno.2 h']at hl;cases hl
  have hes:es[j]? =some e:=by simpa using he
  have hsb:Instr.sameBits 10000 (.int .i64 k) (.int .i64 k)=true:=by simp[Instr.sameBits]
  have hm:=fun k'=>look_modify k v k' es.toList ks j e h2 h3 he hek
  refine⟨_,by simp[Instr.mapUpdate,run_underlying ht,hg,hc,Instr.findKey,run_underlying hK,hj,hes,hek,Instr.keyThatStays,hsb,hs];rfl,⟨_,_,hnew _,?_,?_,?_⟩,kk _,by simp⟩
  ·rw[if_pos hin,Array.toList_modify];exact(hm 0).2
  ·rw[if_pos hin];exact h3
  ·intro x
   rw[Array.toList_modify,(hm x).1,h4 x];rfl
end
end
section
open Go.RowKit
theorem zeroInt (w:World):(zeroValue 3).run Tryz.prog w= .ok (.int .i64 0) w:=by kernel_rfl
end
section
open Go.RowKit
end
section
open Go.RowKit
end
section
open Go.RowKit
end
section
open Go.RowKit
end
section
open Go.RowKit
theorem mkBools (n:Nat) (hn:n≤1000000) (W:World):(Instr.makeSlice 201 (.int .i64 (n:Int)) (.int .i64 (n:Int))).run Tryz.prog W= .ok (.slice (some ⟨W.heap.size,0,none⟩) n n) (W.alloc (.cells (cellsB' (List.replicate n false)) 4)):=by
 have h:=run_make_row' (P:=Tryz.prog) 201 4 (.bool false) 1 Tryz.underlying201 (by kernel_rfl) rfl .i64 .i64 n (by omega) (by omega) W
 rw[madeCells_one]at h
 rw[h];simp[cellsB']
end
end Go.Proofs.YtcbcegdidlefiaaGreat
