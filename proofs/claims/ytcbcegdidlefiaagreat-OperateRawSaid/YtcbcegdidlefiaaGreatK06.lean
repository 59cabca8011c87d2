/- The course of a route: the layout of its sections, links and points alone; a train fits it as it fits the route, with the same pieces. No program in sight. Cases: the errors of a case (39.1), as plain functions that both the program and the reference answer. No program in sight. Routes, stocks, cells and missions in memory. Conditions: as each theorem says. A region that draws its order, by an invariant over what has come up so far: any orders of calls, allocations and stores. Conditions: as each theorem says. -/
import Derived.Test.YtcbcegdidlefiaaGreatK05
import Derived.Test.YtcbcegdidlefiaaGreatK01
namespace Go.Proofs.YtcbcegdidlefiaaGreat
section
def numStep (pd:List Int) (p:Int):List Int:=if 0≤p∧p∉pd then pd++ [p]else pd
def pdOf (l:List Int):List Int:=l.foldl numStep []
theorem pdFold_mem (l:List Int):∀(pd:List Int) (p:Int),p∈l.foldl numStep pd↔p∈pd∨(0≤p∧p∈l):=by
 induction l with
 |nil=>intro pd p;simp
 |cons q l ih=>
  intro pd p
  rw[List.foldl_cons,ih]
  unfold numStep
  split
  ·rename_i h
   simp only[List.mem_append,List.mem_cons,List.not_mem_nil,or_false]
   constructor
   ·rintro((h1|rfl)|h1)
    ·exact .inl h1
    ·exact .inr ⟨h.1,.inl rfl⟩
    ·exact .inr ⟨h1.1,.inr h1.2⟩
   ·rintro(h1|⟨h1,rfl|h2⟩)
    ·exact .inl (.inl h1)
    ·exact .inl (.inr rfl)
    ·exact .inr ⟨h1,h2⟩
  ·rename_i h
   simp only[List.mem_cons]
   constructor
   ·rintro(h1|h1)
    ·exact .inl h1
    ·exact .inr ⟨h1.1,.inr h1.2⟩
   ·rintro(h1|⟨h1,rfl|h2⟩)
    ·exact .inl h1
    ·by_cases hp:p∈pd
     ·exact .inl hp
     ·exact absurd ⟨h1,hp⟩ h
    ·exact .inr ⟨h1,h2⟩
theorem pdOf_mem {l:List Int} {p:Int}:p∈pdOf l↔0≤p∧p∈l:=by
 unfold pdOf;rw[pdFold_mem];simp
theorem pdFold_nodup (l:List Int):∀(pd:List Int),pd.Nodup→(l.foldl numStep pd).Nodup:=by
 induction l with
 |nil=>intro pd h;exact h
 |cons q l ih=>
  intro pd h
  rw[List.foldl_cons]
  refine ih _ ?_
  unfold numStep
  split
  ·rename_i hq
   rw[List.nodup_append]
   exact⟨h,by simp,fun a ha b hb=>by simp at hb;subst hb;exact fun e=>hq.2 (e▸ha)⟩
  ·exact h
theorem pdOf_nodup (l:List Int):(pdOf l).Nodup:=pdFold_nodup l [] (by simp)
theorem pdOf_len (l:List Int):(pdOf l).length≤l.length:=by
 have key:∀(l pd:List Int),(l.foldl numStep pd).length≤pd.length+l.length:=by
  intro l
  induction l with
  |nil=>intro pd;simp
  |cons q l ih=>
   intro pd
   rw[List.foldl_cons]
   have:=ih (numStep pd q)
   have h2:(numStep pd q).length≤pd.length+1:=by unfold numStep;split<;>simp
   simp only[List.length_cons]
   omega
 have:=key l []
 unfold pdOf
 simpa using this
theorem ptsR_len (ks:List Lnk):∀(l:List Stp),(ptsR ks l).length=l.length-1:=by
 intro l
 induction l with
 |nil=>rfl
 |cons s r ih=>
  cases r with
  |nil=>rfl
  |cons t r=>simp only[ptsR,List.length_cons]at ih⊢;omega
theorem ptsR_at (ks:List Lnk):∀(l:List Stp) (i:Nat) (s t:Stp),l[i]? =some s→l[i+1]? =some t→(ptsR ks l)[i]? =some (match lnkOf ks s t with|some k=>k.pt|none=> -1):=by
 intro l
 induction l with
 |nil=>intro i s t h;simp at h
 |cons x r ih=>
  intro i s t h1 h2
  cases r with
  |nil=>simp at h2
  |cons y r=>
   cases i with
   |zero=>simp at h1 h2;subst h1;subst h2;rfl
   |succ i=>simpa[ptsR]using ih i s t (by simpa using h1) (by simpa using h2)
def stpD (r:Rou) (i:Nat):Stp:=r.stps.getD i ⟨0,0⟩
theorem stpD_at {r:Rou} {i:Nat} (h:i<r.stps.length):r.stps[i]? =some (stpD r i):=by
 unfold stpD;rw[List.getD_eq_getElem?_getD,List.getElem?_eq_getElem h];rfl
def lnkAt (L:Lay) (r:Rou) (i:Nat):Lnk:=(lnkOf L.lks (stpD r i) (stpD r (i+1))).getD ⟨0,0,0,0,-1,0⟩
def ptNo (pd:List Int) (p:Int):Int:=if 0≤p then(pd.idxOf p:Int)else-1
def crsSec (L:Lay) (s:Stp):Sec:= {secD L s.sec with sta:= -1}
def crsLnk (L:Lay) (r:Rou) (i:Nat):Lnk:=
 ⟨i,(outE (stpD r i)).2,(i+1:Nat),(inE (stpD r (i+1))).2,ptNo (pdOf (ptsR L.lks r.stps)) (lnkAt L r i).pt,if 0≤(lnkAt L r i).pt then(lnkAt L r i).ps else 0⟩
def crsLay (L:Lay) (r:Rou):Lay:=
 ⟨[],(pdOf (ptsR L.lks r.stps)).map (fun p=>L.pts.getD p.toNat []),r.stps.map (crsSec L),tab (r.stps.length-1) (crsLnk L r)⟩
def crsRou (r:Rou):Rou:=⟨tab r.stps.length fun i=>⟨i,(stpD r i).dir⟩,r.ov⟩
section
variable {L:Lay} {r:Rou} (h:RouOk L r)
include h
theorem RouOk.lnkAt_ {i:Nat} (hi:i+1<r.stps.length):lnkOf L.lks (stpD r i) (stpD r (i+1))=some (lnkAt L r i):=by
 have:=h.lnk i _ _ (stpD_at (by omega)) (stpD_at hi)
 unfold lnkAt
 cases e:lnkOf L.lks (stpD r i) (stpD r (i+1))with
 |none=>exact absurd e this
 |some k=>rfl
theorem RouOk.lnkAt_mem {i:Nat} (hi:i+1<r.stps.length):∃j:Nat,L.lks[j]? =some (lnkAt L r i)∧joinsE (lnkAt L r i) (outE (stpD r i)) (inE (stpD r (i+1)))=true:=by
 have e:=h.lnkAt_ hi
 unfold lnkOf at e
 obtain⟨j,hj,hjm⟩:=List.getElem_of_mem (List.mem_of_find?_eq_some e)
 exact⟨j,by rw[List.getElem?_eq_getElem hj,hjm],List.find?_some (p:=fun k=>joinsE k (outE (stpD r i)) (inE (stpD r (i+1)))) e⟩
theorem RouOk.lnkAt_ok {i:Nat} (hi:i+1<r.stps.length): -1≤(lnkAt L r i).pt∧(lnkAt L r i).pt<L.pts.length∧((lnkAt L r i).ps=0∨(lnkAt L r i).ps=1∧(lnkAt L r i).pt≠-1):=by
 obtain⟨j,hj,_⟩:=h.lnkAt_mem hi
 have:=(lnkErr_zero.1 (h.lay.lnk j _ hj)).1
 simp[lnkOk]at this
 exact⟨this.2.2.2.2.2.2.1,this.2.2.2.2.2.2.2.1,this.2.2.2.2.2.2.2.2⟩
theorem RouOk.ptsR_ {i:Nat} (hi:i+1<r.stps.length):(ptsR L.lks r.stps)[i]? =some (lnkAt L r i).pt:=by
 rw[ptsR_at _ _ i _ _ (stpD_at (by omega)) (stpD_at hi),h.lnkAt_ hi]
theorem RouOk.pd_range {p:Int} (hp:p∈pdOf (ptsR L.lks r.stps)):0≤p∧p<L.pts.length:=by
 obtain⟨h0,hm⟩:=pdOf_mem.1 hp
 obtain⟨i,hi,e⟩:=List.getElem_of_mem hm
 rw[ptsR_len]at hi
 have h1:=h.ptsR_ (i:=i) (by omega)
 rw[List.getElem?_eq_getElem (by rw[ptsR_len];omega),e]at h1
 injection h1 with h1
 exact⟨h0,h1▸(h.lnkAt_ok (by omega)).2.1⟩
theorem RouOk.ptNo_range {i:Nat} (hi:i+1<r.stps.length): -1≤ptNo (pdOf (ptsR L.lks r.stps)) (lnkAt L r i).pt∧ptNo (pdOf (ptsR L.lks r.stps)) (lnkAt L r i).pt<(pdOf (ptsR L.lks r.stps)).length∧
  (ptNo (pdOf (ptsR L.lks r.stps)) (lnkAt L r i).pt= -1↔¬0≤(lnkAt L r i).pt):=by
 unfold ptNo
 split
 ·rename_i h0
  have hm:(lnkAt L r i).pt∈pdOf (ptsR L.lks r.stps):=pdOf_mem.2 ⟨h0,List.mem_of_getElem? (h.ptsR_ hi)⟩
  have:=List.idxOf_lt_length_iff.2 hm
  refine⟨by omega,by omega,by omega,fun g=>absurd h0 g⟩
 ·rename_i h0
  exact⟨by omega,by omega,fun _=>h0,fun _=>rfl⟩
omit h in
theorem RouOk.crsLnk_at {i:Nat} (hi:i+1<r.stps.length):(crsLay L r).lks[i]? =some (crsLnk L r i):=tab_get (by omega)
omit h in
theorem crsLnk_of {i:Nat} {k:Lnk} (hk:(crsLay L r).lks[i]? =some k):i+1<r.stps.length∧k=crsLnk L r i:=by
 have hl:=(List.getElem?_eq_some_iff.1 hk).1
 have:i<r.stps.length-1:=by simpa[crsLay,tab_len]using hl
 refine⟨by omega,?_⟩
 have e:=hk
 unfold crsLay at e
 simp only[]at e
 rw[tab_get this]at e
 injection e with e
 exact e.symm
omit h in
theorem crsLnk_has {i:Nat} {j:Int} {e:Int} (hh:hasE (crsLnk L r i) (j,e)=true):j=(i:Int)∧e=(outE (stpD r i)).2∨j=((i+1:Nat):Int)∧e=(inE (stpD r (i+1))).2:=by
 unfold hasE crsLnk at hh
 simp only[Bool.or_eq_true,decide_eq_true_eq]at hh
 rcases hh with⟨h1,h2⟩|⟨h1,h2⟩
 ·exact .inl ⟨h1.symm,h2.symm⟩
 ·exact .inr ⟨h1.symm,h2.symm⟩
theorem crsLnk_free {i:Nat} (hi:i+1<r.stps.length) {j:Nat} (hj:j<i) (x:Int×Int) (hx:x=((crsLnk L r i).a,(crsLnk L r i).ae)∨x=((crsLnk L r i).b,(crsLnk L r i).be)):hasE (crsLnk L r j) x=false:=by
 have hd:=(h.sec_lt (stpD_at (r:=r) (i:=i) (by omega))).2.2
 cases e:hasE (crsLnk L r j) x
 ·rfl
 ·exfalso
  rcases hx with rfl|rfl
  ·rcases crsLnk_has e with⟨h1,h2⟩|⟨h1,h2⟩
   ·simp only[crsLnk]at h1;omega
   ·simp only[crsLnk]at h1 h2
    have:i=j+1:=by omega
    subst this
    simp only[outE,inE]at h2
    rcases hd with hd|hd<;>rw[hd]at h2<;>simp at h2
  ·rcases crsLnk_has e with⟨h1,h2⟩|⟨h1,h2⟩<;>simp only[crsLnk]at h1<;>omega
theorem crsLay_ok:LayOk (crsLay L r):=by
 have h24:=h.len
 have h2:=h.two
 have h0:=h.ov0
 have hpl:(pdOf (ptsR L.lks r.stps)).length≤r.stps.length-1:=by have:=pdOf_len (ptsR L.lks r.stps);rwa[ptsR_len]at this
 refine⟨by simp[crsLay],by simp only[crsLay,List.length_map];omega,by simp only[crsLay,List.length_map];omega,by simp only[crsLay,tab_len];omega,?_,⟨by simp[crsLay],by simp[crsLay]⟩,?_,?_,?_,?_⟩
 ·intro e
  have:(crsLay L r).secs.length=0:=by rw[e];rfl
  simp[crsLay]at this
  rw[this]at h2;simp at h2;omega
 ·constructor
  ·intro n hn
   simp only[crsLay,List.mem_map]at hn
   obtain⟨p,hp,rfl⟩:=hn
   have:=h.pd_range hp
   have hl:p.toNat<L.pts.length:=by omega
   rw[List.getD_eq_getElem?_getD,List.getElem?_eq_getElem hl]
   exact h.lay.ptn.1 _ (List.getElem_mem hl)
  ·simp only[crsLay]
   refine List.pairwise_map.2 ((pdOf_nodup _).imp_of_mem ?_)
   intro p q hp hq hne e
   have a:=h.pd_range hp
   have b:=h.pd_range hq
   have la:p.toNat<L.pts.length:=by omega
   have lb:q.toNat<L.pts.length:=by omega
   rw[List.getD_eq_getElem?_getD,List.getElem?_eq_getElem la,List.getD_eq_getElem?_getD,List.getElem?_eq_getElem lb]at e
   simp only[Option.getD_some]at e
   have hn:=List.pairwise_iff_getElem.1 h.lay.ptn.2
   rcases Nat.lt_trichotomy p.toNat q.toNat with hlt|he|hlt
   ·exact hn _ _ la lb hlt e
   ·exact hne (by omega)
   ·exact hn _ _ lb la hlt e.symm
 ·intro s hs
  simp only[crsLay,List.mem_map]at hs
  obtain⟨t,ht,rfl⟩:=hs
  obtain⟨i,hi,e⟩:=List.getElem_of_mem ht
  have hit:r.stps[i]? =some t:=by rw[List.getElem?_eq_getElem hi,e]
  have a:=h.lay.sec _ (List.mem_of_getElem? (h.sec_at hit))
  have b:=h.sec_ok hit
  refine⟨a.1,?_⟩
  simp[secOk,crsSec,crsLay]
  omega
 ·simp only[crsLay,List.map_map]
  refine List.pairwise_map.2 ?_
  have hd:=List.pairwise_map.1 h.dis
  refine hd.imp_of_mem ?_
  intro s t hs ht hne e
  obtain⟨i,hi,e1⟩:=List.getElem_of_mem hs
  obtain⟨j,hj,e2⟩:=List.getElem_of_mem ht
  have his:r.stps[i]? =some s:=by rw[List.getElem?_eq_getElem hi,e1]
  have hjt:r.stps[j]? =some t:=by rw[List.getElem?_eq_getElem hj,e2]
  simp only[Function.comp_apply,crsSec]at e
  have a:=h.sec_at his
  have b:=h.sec_at hjt
  have la:=h.sec_lt his
  have lb:=h.sec_lt hjt
  have hn:=List.pairwise_iff_getElem.1 h.lay.secn
  have l1:s.sec.toNat<L.secs.length:=by omega
  have l2:t.sec.toNat<L.secs.length:=by omega
  have q1:L.secs[s.sec.toNat]=secD L s.sec:=Option.some.inj ((List.getElem?_eq_getElem l1).symm.trans a)
  have q2:L.secs[t.sec.toNat]=secD L t.sec:=Option.some.inj ((List.getElem?_eq_getElem l2).symm.trans b)
  rcases Nat.lt_trichotomy s.sec.toNat t.sec.toNat with hlt|he|hlt
  ·exact hn _ _ (by simpa using l1) (by simpa using l2) hlt (by simp[q1,q2,e])
  ·exact hne (by omega)
  ·exact hn _ _ (by simpa using l2) (by simpa using l1) hlt (by simp[q1,q2,e])
 ·intro i k hk
  obtain⟨hi,rfl⟩:=crsLnk_of hk
  have hm:∀m∈(crsLay L r).lks.take i,∃j,j<i∧m=crsLnk L r j:=by
   intro m hm
   obtain⟨j,hj,e⟩:=List.getElem_of_mem hm
   have hji:j<i:=by rw[List.length_take]at hj;omega
   have:(crsLay L r).lks[j]? =some m:=by
    rw[←List.getElem?_take_of_lt hji,List.getElem?_eq_getElem hj,e]
   exact⟨j,hji,(crsLnk_of this).2⟩
  have hat:∀x,x=((crsLnk L r i).a,(crsLnk L r i).ae)∨x=((crsLnk L r i).b,(crsLnk L r i).be)→atE ((crsLay L r).lks.take i) x=[]:=by
   intro x hx
   unfold atE
   rw[List.filter_eq_nil_iff]
   intro m hmm
   obtain⟨j,hj,rfl⟩:=hm m hmm
   rw[crsLnk_free h hi hj x hx];simp
  refine lnkErr_zero.2 ⟨?_,?_,?_,?_,?_⟩
  ·have a:=h.ptNo_range hi
   have b:=h.lnkAt_ok hi
   have d1:=(h.sec_lt (stpD_at (r:=r) (i:=i) (by omega))).2.2
   have d2:=(h.sec_lt (stpD_at (r:=r) (i:=i+1) hi)).2.2
   simp only[lnkOk,crsLnk,crsLay,List.length_map,decide_eq_true_eq,outE,inE]
   refine⟨by omega,by omega,by omega,by omega,by split<;>omega,by split<;>omega,a.1,a.2.1,?_⟩
   split
   ·rename_i hp
    rcases b.2.2 with hb|hb
    ·exact .inl hb
    ·exact .inr ⟨hb.1,fun e=>(a.2.2.1 e) hp⟩
   ·exact .inl rfl
  ·intro e
   simp only[crsLnk,Prod.mk.injEq]at e
   omega
  ·rintro m hmm ⟨h1,_⟩
   obtain⟨j,hj,rfl⟩:=hm m hmm
   rw[crsLnk_free h hi hj _ (.inl rfl)]at h1;cases h1
  ·rw[hat _ (.inl rfl)];rfl
  ·rw[hat _ (.inr rfl)];rfl
omit h in
theorem crsStp_at {i:Nat} (hi:i<r.stps.length):(crsRou r).stps[i]? =some ⟨i,(stpD r i).dir⟩:=tab_get hi
theorem crsLnk_find {i:Nat} (hi:i+1<r.stps.length):lnkOf (crsLay L r).lks ⟨i,(stpD r i).dir⟩ ⟨(i+1:Nat),(stpD r (i+1)).dir⟩=some (crsLnk L r i):=by
 refine(crsLay_ok h).find (RouOk.crsLnk_at hi) ?_
 simp[joinsE,crsLnk,outE,inE]
theorem crsRou_ok:RouOk (crsLay L r) (crsRou r):=by
 have hl:(crsRou r).stps.length=r.stps.length:=tab_len _ _
 refine⟨crsLay_ok h,by rw[hl];exact h.len,h.ov0,h.ov2,by rw[hl];exact h.two,?_,?_,?_⟩
 ·intro s hs
  obtain⟨i,hi,e⟩:=List.getElem_of_mem hs
  rw[hl]at hi
  have hs':(crsRou r).stps[i]? =some s:=by rw[List.getElem?_eq_getElem (by omega),e]
  rw[crsStp_at hi]at hs'
  injection hs' with hs'
  subst hs'
  have:=(h.sec_lt (stpD_at (r:=r) hi)).2.2
  simp[stpOk,crsLay]
  omega
 ·refine List.pairwise_map.2 (List.pairwise_iff_getElem.2 fun i j hi hj hij e=> ?_)
  rw[hl]at hi hj
  have a:(crsRou r).stps[i]'(by omega)=⟨i,(stpD r i).dir⟩:=Option.some.inj ((List.getElem?_eq_getElem (by omega)).symm.trans (crsStp_at hi))
  have b:(crsRou r).stps[j]'(by omega)=⟨j,(stpD r j).dir⟩:=Option.some.inj ((List.getElem?_eq_getElem (by omega)).symm.trans (crsStp_at hj))
  rw[a,b]at e
  simp only[]at e
  omega
 ·intro i s t h1 h2
  have hi:i+1<r.stps.length:=by have:=(List.getElem?_eq_some_iff.1 h2).1;omega
  rw[crsStp_at (by omega)]at h1
  rw[crsStp_at hi]at h2
  injection h1 with h1
  injection h2 with h2
  subst h1 h2
  rw[crsLnk_find h hi];simp
omit h in
theorem crs_secD {i:Nat} (hi:i<r.stps.length):secD (crsLay L r) i=crsSec L (stpD r i):=by
 unfold secD crsLay
 simp only[Int.toNat_natCast]
 rw[List.getD_eq_getElem?_getD,List.getElem?_map,stpD_at hi];rfl
omit h in
theorem crs_trv:trvS (crsRou r)=tab (r.stps.length-r.ov.toNat) fun i=>⟨i,(stpD r i).dir⟩:=by
 unfold trvS crsRou
 simp only[tab_len]
 apply List.ext_getElem?
 intro i
 rcases Nat.lt_or_ge i (r.stps.length-r.ov.toNat)with hi|hi
 ·rw[List.getElem?_take_of_lt hi,tab_get (by omega),tab_get hi]
 ·rw[tab_none hi,List.getElem?_take_eq_none hi]
omit h in
theorem trv_tab:trvS r=tab (r.stps.length-r.ov.toNat) fun i=>stpD r i:=by
 unfold trvS
 apply List.ext_getElem?
 intro i
 rcases Nat.lt_or_ge i (r.stps.length-r.ov.toNat)with hi|hi
 ·rw[List.getElem?_take_of_lt hi,stpD_at (by omega),tab_get hi]
 ·rw[tab_none hi,List.getElem?_take_eq_none hi]
omit h in
theorem crs_pces:pcesOf (crsLay L r) (crsRou r)=pcesOf L r:=by
 unfold pcesOf
 rw[crs_trv,trv_tab,tab_map,tab_map]
 refine tab_ext fun i hi=> ?_
 unfold pceOf
 simp only[crs_secD (L:=L) (r:=r) (i:=i) (by omega)]
 rfl
theorem crs_fit (s:Stk):fitErr (crsLay L r) (crsRou r) s=fitErr L r s:=by
 unfold fitErr celErr celsRt
 rw[(rouErr_zero _ _).2 (crsRou_ok h),(rouErr_zero _ _).2 h,crs_pces]
 have:((trvS (crsRou r)).any fun t=>decide ((secD (crsLay L r) t.sec).len<max 2 s.len))=((trvS r).any fun t=>decide ((secD L t.sec).len<max 2 s.len)):=by
  rw[crs_trv,trv_tab]
  rw[Bool.eq_iff_iff,List.any_eq_true,List.any_eq_true]
  simp only[tab,List.mem_map,List.mem_range]
  constructor
  ·rintro⟨t,⟨i,hi,rfl⟩,e⟩
   refine⟨_,⟨i,hi,rfl⟩,?_⟩
   simp only[crs_secD (L:=L) (r:=r) (i:=i) (by omega)]at e
   exact e
  ·rintro⟨t,⟨i,hi,rfl⟩,e⟩
   refine⟨_,⟨i,hi,rfl⟩,?_⟩
   simp only[crs_secD (L:=L) (r:=r) (i:=i) (by omega)]
   exact e
 rw[this]
omit h in
theorem dupI_iff:∀(l seen:List Int),dupI seen l=true↔(∃p∈l,0≤p∧p∈seen)∨∃(i j:Nat) (p:Int),i<j∧l[i]? =some p∧l[j]? =some p∧0≤p:=by
 intro l
 induction l with
 |nil=>intro seen;simp[dupI]
 |cons q l ih=>
  intro seen
  unfold dupI
  split
  ·rename_i hq
   simp only[true_iff]
   exact .inl ⟨q,by simp,hq.1,hq.2⟩
  ·rename_i hq
   rw[ih]
   constructor
   ·rintro(⟨p,hp,h0,hs⟩|⟨i,j,p,hij,hi,hj,h0⟩)
    ·rcases List.mem_append.1 hs with hs|hs
     ·exact .inl ⟨p,by simp[hp],h0,hs⟩
     ·simp at hs;subst hs
      obtain⟨i,hi,e⟩:=List.getElem_of_mem hp
      exact .inr ⟨0,i+1,p,by omega,rfl,by simp[List.getElem?_eq_getElem hi,e],h0⟩
    ·exact .inr ⟨i+1,j+1,p,by omega,by simpa using hi,by simpa using hj,h0⟩
   ·rintro(⟨p,hp,h0,hs⟩|⟨i,j,p,hij,hi,hj,h0⟩)
    ·rcases List.mem_cons.1 hp with rfl|hp
     ·exact absurd ⟨h0,hs⟩ hq
     ·exact .inl ⟨p,hp,h0,by simp[hs]⟩
    ·obtain⟨j,rfl⟩:∃j',j=j'+1:=⟨j-1,by omega⟩
     cases i with
     |zero=>
      simp at hi hj
      subst hi
      exact .inl ⟨q,List.mem_of_getElem? hj,h0,by simp⟩
     |succ i=>exact .inr ⟨i,j,p,by omega,by simpa using hi,by simpa using hj,h0⟩
theorem crs_pts {i:Nat} (hi:i+1<r.stps.length):(ptsR (crsLay L r).lks (crsRou r).stps)[i]? =some (ptNo (pdOf (ptsR L.lks r.stps)) (lnkAt L r i).pt):=by
 rw[ptsR_at _ _ i _ _ (crsStp_at (by omega)) (crsStp_at hi),crsLnk_find h hi]
 rfl
theorem crs_mot (s:Stk):motErr (crsLay L r) (crsRou r) s=motErr L r s:=by
 unfold motErr
 rw[crs_fit h]
 have:dupI [] (ptsR (crsLay L r).lks (crsRou r).stps)=dupI [] (ptsR L.lks r.stps):=by
  have hl:(crsRou r).stps.length=r.stps.length:=tab_len _ _
  rw[Bool.eq_iff_iff,dupI_iff,dupI_iff]
  simp only[List.not_mem_nil,and_false,exists_false,false_or]
  constructor
  ·rintro⟨i,j,p,hij,hi,hj,h0⟩
   have lj:j+1<r.stps.length:=by have:=(List.getElem?_eq_some_iff.1 hj).1;rw[ptsR_len,hl]at this;omega
   rw[crs_pts h (by omega)]at hi
   rw[crs_pts h lj]at hj
   injection hi with hi
   injection hj with hj
   have ri:=h.ptNo_range (i:=i) (by omega)
   have rj:=h.ptNo_range (i:=j) lj
   have pi:0≤(lnkAt L r i).pt:=Classical.byContradiction fun g=>by have:=ri.2.2.2 g;omega
   have pj:0≤(lnkAt L r j).pt:=Classical.byContradiction fun g=>by have:=rj.2.2.2 g;omega
   refine⟨i,j,(lnkAt L r i).pt,hij,h.ptsR_ (by omega),?_,pi⟩
   rw[h.ptsR_ lj]
   have e:ptNo (pdOf (ptsR L.lks r.stps)) (lnkAt L r i).pt=ptNo (pdOf (ptsR L.lks r.stps)) (lnkAt L r j).pt:=hi.trans hj.symm
   unfold ptNo at e
   rw[if_pos pi,if_pos pj]at e
   have mi:(lnkAt L r i).pt∈pdOf (ptsR L.lks r.stps):=pdOf_mem.2 ⟨pi,List.mem_of_getElem? (h.ptsR_ (by omega))⟩
   have mj:(lnkAt L r j).pt∈pdOf (ptsR L.lks r.stps):=pdOf_mem.2 ⟨pj,List.mem_of_getElem? (h.ptsR_ lj)⟩
   have li:=List.idxOf_lt_length_iff.2 mi
   have lj':=List.idxOf_lt_length_iff.2 mj
   have gi:=List.getElem_idxOf li
   have gj:=List.getElem_idxOf lj'
   have ee:List.idxOf (lnkAt L r i).pt (pdOf (ptsR L.lks r.stps))=List.idxOf (lnkAt L r j).pt (pdOf (ptsR L.lks r.stps)):=by omega
   rw[←gi,←gj]
   simp only[ee]
  ·rintro⟨i,j,p,hij,hi,hj,h0⟩
   have lj:j+1<r.stps.length:=by have:=(List.getElem?_eq_some_iff.1 hj).1;rw[ptsR_len]at this;omega
   have e1:=h.ptsR_ (i:=i) (by omega)
   have e2:=h.ptsR_ (i:=j) lj
   rw[hi]at e1
   rw[hj]at e2
   injection e1 with e1
   injection e2 with e2
   refine⟨i,j,ptNo (pdOf (ptsR L.lks r.stps)) p,hij,?_,?_,?_⟩
   ·rw[crs_pts h (by omega),←e1]
   ·rw[crs_pts h lj,←e2]
   ·unfold ptNo;rw[if_pos h0];omega
 rw[this]
end
end
section
structure Dut where
 rt:Int
 dep:Int
 dw:Int
 deriving DecidableEq,Inhabited
structure Mis where
 stk:Int
 dts:List Dut
 deriving DecidableEq,Inhabited
structure Cas where
 lay:Lay
 stks:List Stk
 rous:List Rou
 miss:List Mis
 deriving DecidableEq,Inhabited
def rouD (c:Cas) (i:Int):Rou:=c.rous.getD i.toNat ⟨[],0⟩
def stkD (c:Cas) (i:Int):Stk:=c.stks.getD i.toNat ⟨[],0,0,0,0⟩
def lastC (c:Cas) (rt:Int):Nat:=(lastR (rouD c rt)).toNat
def profC (c:Cas) (rt stk:Int) (a b:Nat):Prof:=profP (pcesOf c.lay (rouD c rt)) (stkD c stk) (decide (0<(rouD c rt).ov)) a b
def fullC (c:Cas) (rt stk:Int):Prof:=profC c rt stk 0 (lastC c rt)
def secS (c:Cas) (rt:Int) (i:Nat):Int:=(stpD (rouD c rt) i).sec
def inRng (c:Cas) (d:Dut) (first:Bool):Bool:=
 decide (0≤d.rt∧d.rt<c.rous.length∧60≤d.dep∧d.dep≤2097152∧0≤d.dw∧d.dw≤7200)&& !(first&&decide (d.dw≠0))
def dutErr (c:Cas) (stk:Int) (p:Option Dut) (d:Dut):Int:=
 if inRng c d p.isNone=false then 4
 else if motErr c.lay (rouD c d.rt) (stkD c stk)≠0 then motErr c.lay (rouD c d.rt) (stkD c stk)
 else match p with
  |none=>0
  |some p=>if secS c p.rt (lastC c p.rt)≠secS c d.rt 0 then 11 else if d.dep<p.dep+(fullC c p.rt stk).run+d.dw then 14 else 0
def dutsErr (c:Cas) (stk:Int):Option Dut→List Dut→Int
 |_,[]=>0
 |p,d::r=>if dutErr c stk p d≠0 then dutErr c stk p d else dutsErr c stk (some d) r
def stagesN (c:Cas) (l:List Dut):Nat:=1+(l.map fun d=>lastC c d.rt).sum
def misErr (c:Cas) (m:Mis):Int:=
 if m.stk<0∨(c.stks.length:Int)≤m.stk then 4
 else if m.dts=[]then 1
 else if 12<m.dts.length then 7
 else if dutsErr c m.stk none m.dts≠0 then dutsErr c m.stk none m.dts
 else if 64<stagesN c m.dts then 7 else 0
def firstErr {α:Type} (f:α→Int):List α→Int
 | []=>0
 |x::r=>if f x≠0 then f x else firstErr f r
def casErr (c:Cas):Int:=
 if layErr c.lay≠0 then layErr c.lay
 else if 8<c.stks.length∨48<c.rous.length∨10<c.miss.length then 7
 else if(c.stks.any fun s=> !stkOk s)=true then 4
 else if firstErr (rouErr c.lay) c.rous≠0 then firstErr (rouErr c.lay) c.rous
 else firstErr (misErr c) c.miss
theorem firstErr_zero {α:Type} (f:α→Int):∀(l:List α),firstErr f l=0↔∀x∈l,f x=0:=by
 intro l
 induction l with
 |nil=>simp[firstErr]
 |cons x r ih=>
  unfold firstErr
  split
  ·rename_i h
   constructor
   ·intro h';exact absurd h' h
   ·intro h';exact absurd (h' x (by simp)) h
  ·rename_i h
   rw[ih]
   constructor
   ·intro h' y hy
    rcases List.mem_cons.1 hy with rfl|hy
    ·simpa using h
    ·exact h' y hy
   ·intro h' y hy;exact h' y (by simp[hy])
theorem firstErr_at {α:Type} (f:α→Int) (l:List α) (i:Nat) (x:α) (h:l[i]? =some x):firstErr f (l.drop i)=if f x≠0 then f x else firstErr f (l.drop (i+1)):=by
 have hd:l.drop i=x::l.drop (i+1):=by
  have hlt:=(List.getElem?_eq_some_iff.1 h).1
  rw[←(List.getElem?_eq_some_iff.1 h).2,List.getElem_cons_drop hlt]
 rw[hd,firstErr]
theorem dutsErr_at (c:Cas) (stk:Int) (l:List Dut) (i:Nat) (d:Dut) (p:Option Dut) (h:l[i]? =some d):dutsErr c stk p (l.drop i)=if dutErr c stk p d≠0 then dutErr c stk p d else dutsErr c stk (some d) (l.drop (i+1)):=by
 have hd:l.drop i=d::l.drop (i+1):=by
  have hlt:=(List.getElem?_eq_some_iff.1 h).1
  rw[←(List.getElem?_eq_some_iff.1 h).2,List.getElem_cons_drop hlt]
 rw[hd,dutsErr]
end
section
open Go.RowKit
def stkC (s:Stk):Array Value:= #[.string (mkS s.name),.int .i64 s.len,.int .i64 s.spd,.int .i64 s.acc,.int .i64 s.brk]
def celC (c:Cel):Array Value:= #[.int .i64 c.lim,.int .i64 c.grd]
def dutC (d:Dut):Array Value:= #[.int .i64 d.rt,.int .i64 d.dep,.int .i64 d.dw]
def RStp:Rd Stp:=fun _ _ cs s=>cs=(stpC s).toList
def RStk:Rd Stk:=fun _ _ cs s=>cs=(stkC s).toList
def RCel:Rd Cel:=fun _ _ cs s=>cs=(celC s).toList
def RDut:Rd Dut:=fun _ _ cs s=>cs=(dutC s).toList
theorem RStp.ok:Rd.Ok RStp:=⟨fun h _ _=>h⟩
theorem RStp.flt:Rd.Flt RStp:=fun _ _ _ _ _ _ h=>h
theorem RStk.ok:Rd.Ok RStk:=⟨fun h _ _=>h⟩
theorem RCel.ok:Rd.Ok RCel:=⟨fun h _ _=>h⟩
theorem RCel.flt:Rd.Flt RCel:=fun _ _ _ _ _ _ h=>h
theorem RDut.ok:Rd.Ok RDut:=⟨fun h _ _=>h⟩
abbrev RStps:=RSlice 2 RStp
abbrev RStks:=RSlice 5 RStk
abbrev RCels:=RSlice 2 RCel
abbrev RDuts:=RSlice 3 RDut
def RRou:Rd Rou:=fun w S cs r=>∃v,cs=[v,.int .i64 r.ov]∧RStps w S [v] r.stps
theorem RRou.ok:Rd.Ok RRou:=by
 refine⟨?_⟩
 intro w w' S S' cs x h hS hw
 obtain⟨v,rfl,hv⟩:=h
 exact⟨v,rfl,(RSlice.ok RStp.ok).mono hv hS hw⟩
def RMis:Rd Mis:=fun w S cs m=>∃v,cs=[.int .i64 m.stk,v]∧RDuts w S [v] m.dts
theorem RMis.ok:Rd.Ok RMis:=by
 refine⟨?_⟩
 intro w w' S S' cs x h hS hw
 obtain⟨v,rfl,hv⟩:=h
 exact⟨v,rfl,(RSlice.ok RDut.ok).mono hv hS hw⟩
abbrev RRous:=RSlice 2 RRou
abbrev RMiss:=RSlice 2 RMis
section
variable {w wr:World} {S:Foot} {A:Option Addr} {n c:Nat}
theorem RStps.at_ {l:List Stp} (h:RStps w S [.slice A n c] l) {k:Nat} (hk:k<l.length):
  ∃b o s,A=some ⟨b,o,none⟩∧S b∧l[k]? =some s∧w.cell? ⟨b,o+k*2,none⟩=some (.int .i64 s.sec)∧w.cell? ⟨b,o+k*2+1,none⟩=some (.int .i64 s.dir):=by
 obtain⟨b,o,s,es,rfl,hb,hx,h1,h2,h3⟩:=h.get hk
 cases h2
 exact⟨b,o,s,rfl,hb,hx,by simpa using h3 0 _ rfl,by simpa[Nat.add_assoc]using h3 1 _ rfl⟩
theorem RCels.at_ {l:List Cel} (h:RCels w S [.slice A n c] l) {k:Nat} (hk:k<l.length):
  ∃b o s,A=some ⟨b,o,none⟩∧S b∧l[k]? =some s∧w.cell? ⟨b,o+k*2,none⟩=some (.int .i64 s.lim)∧w.cell? ⟨b,o+k*2+1,none⟩=some (.int .i64 s.grd):=by
 obtain⟨b,o,s,es,rfl,hb,hx,h1,h2,h3⟩:=h.get hk
 cases h2
 exact⟨b,o,s,rfl,hb,hx,by simpa using h3 0 _ rfl,by simpa[Nat.add_assoc]using h3 1 _ rfl⟩
theorem RStks.at_ {l:List Stk} (h:RStks w S [.slice A n c] l) {k:Nat} (hk:k<l.length):
  ∃b o s,A=some ⟨b,o,none⟩∧S b∧l[k]? =some s∧w.cell? ⟨b,o+k*5,none⟩=some (.string (mkS s.name))∧w.cell? ⟨b,o+k*5+1,none⟩=some (.int .i64 s.len)∧w.cell? ⟨b,o+k*5+2,none⟩=some (.int .i64 s.spd)∧
   w.cell? ⟨b,o+k*5+3,none⟩=some (.int .i64 s.acc)∧w.cell? ⟨b,o+k*5+4,none⟩=some (.int .i64 s.brk):=by
 obtain⟨b,o,s,es,rfl,hb,hx,h1,h2,h3⟩:=h.get hk
 cases h2
 exact⟨b,o,s,rfl,hb,hx,by simpa using h3 0 _ rfl,by simpa[Nat.add_assoc]using h3 1 _ rfl,by simpa[Nat.add_assoc]using h3 2 _ rfl,by simpa[Nat.add_assoc]using h3 3 _ rfl,by simpa[Nat.add_assoc]using h3 4 _ rfl⟩
theorem RDuts.at_ {l:List Dut} (h:RDuts w S [.slice A n c] l) {k:Nat} (hk:k<l.length):
  ∃b o s,A=some ⟨b,o,none⟩∧S b∧l[k]? =some s∧w.cell? ⟨b,o+k*3,none⟩=some (.int .i64 s.rt)∧w.cell? ⟨b,o+k*3+1,none⟩=some (.int .i64 s.dep)∧w.cell? ⟨b,o+k*3+2,none⟩=some (.int .i64 s.dw):=by
 obtain⟨b,o,s,es,rfl,hb,hx,h1,h2,h3⟩:=h.get hk
 cases h2
 exact⟨b,o,s,rfl,hb,hx,by simpa using h3 0 _ rfl,by simpa[Nat.add_assoc]using h3 1 _ rfl,by simpa[Nat.add_assoc]using h3 2 _ rfl⟩
theorem RRous.at_ {l:List Rou} (h:RRous w S [.slice A n c] l) {k:Nat} (hk:k<l.length):
  ∃b o s A' c',A=some ⟨b,o,none⟩∧S b∧l[k]? =some s∧w.cell? ⟨b,o+k*2,none⟩=some (.slice A' s.stps.length c')∧w.cell? ⟨b,o+k*2+1,none⟩=some (.int .i64 s.ov)∧RStps w S [.slice A' s.stps.length c'] s.stps:=by
 obtain⟨b,o,s,es,rfl,hb,hx,h1,⟨v,rfl,hv⟩,h3⟩:=h.get hk
 have hv':=hv
 obtain⟨A',c',he,_⟩:=hv'
 injection he with he _;subst he
 exact⟨b,o,s,A',c',rfl,hb,hx,by simpa using h3 0 _ rfl,by simpa[Nat.add_assoc]using h3 1 _ rfl,hv⟩
theorem RMiss.at_ {l:List Mis} (h:RMiss w S [.slice A n c] l) {k:Nat} (hk:k<l.length):
  ∃b o s A' c',A=some ⟨b,o,none⟩∧S b∧l[k]? =some s∧w.cell? ⟨b,o+k*2,none⟩=some (.int .i64 s.stk)∧w.cell? ⟨b,o+k*2+1,none⟩=some (.slice A' s.dts.length c')∧RDuts w S [.slice A' s.dts.length c'] s.dts:=by
 obtain⟨b,o,s,es,rfl,hb,hx,h1,⟨v,rfl,hv⟩,h3⟩:=h.get hk
 have hv':=hv
 obtain⟨A',c',he,_⟩:=hv'
 injection he with he _;subst he
 exact⟨b,o,s,A',c',rfl,hb,hx,by simpa using h3 0 _ rfl,by simpa[Nat.add_assoc]using h3 1 _ rfl,hv⟩
theorem RStps.atO (K:KeepsAll w wr) {l:List Stp} (h:RStps w (Old w) [.slice A n c] l) {k:Nat} (hk:k<l.length):
  ∃b o s,A=some ⟨b,o,none⟩∧b<wr.heap.size∧l[k]? =some s∧wr.cell? ⟨b,o+k*2,none⟩=some (.int .i64 s.sec)∧wr.cell? ⟨b,o+k*2+1,none⟩=some (.int .i64 s.dir):=by
 obtain⟨b,o,s,e,hb,hs,c0,c1⟩:=h.at_ hk
 exact⟨b,o,s,e,Nat.lt_of_lt_of_le hb K.size,hs,K.cellA hb c0,K.cellA hb c1⟩
theorem RCels.atO (K:KeepsAll w wr) {l:List Cel} (h:RCels w (Old w) [.slice A n c] l) {k:Nat} (hk:k<l.length):
  ∃b o s,A=some ⟨b,o,none⟩∧b<wr.heap.size∧l[k]? =some s∧wr.cell? ⟨b,o+k*2,none⟩=some (.int .i64 s.lim)∧wr.cell? ⟨b,o+k*2+1,none⟩=some (.int .i64 s.grd):=by
 obtain⟨b,o,s,e,hb,hs,c0,c1⟩:=h.at_ hk
 exact⟨b,o,s,e,Nat.lt_of_lt_of_le hb K.size,hs,K.cellA hb c0,K.cellA hb c1⟩
theorem RStks.atO (K:KeepsAll w wr) {l:List Stk} (h:RStks w (Old w) [.slice A n c] l) {k:Nat} (hk:k<l.length):
  ∃b o s,A=some ⟨b,o,none⟩∧b<wr.heap.size∧l[k]? =some s∧wr.cell? ⟨b,o+k*5,none⟩=some (.string (mkS s.name))∧wr.cell? ⟨b,o+k*5+1,none⟩=some (.int .i64 s.len)∧wr.cell? ⟨b,o+k*5+2,none⟩=some (.int .i64 s.spd)∧
   wr.cell? ⟨b,o+k*5+3,none⟩=some (.int .i64 s.acc)∧wr.cell? ⟨b,o+k*5+4,none⟩=some (.int .i64 s.brk):=by
 obtain⟨b,o,s,e,hb,hs,c0,c1,c2,c3,c4⟩:=h.at_ hk
 exact⟨b,o,s,e,Nat.lt_of_lt_of_le hb K.size,hs,K.cellA hb c0,K.cellA hb c1,K.cellA hb c2,K.cellA hb c3,K.cellA hb c4⟩
theorem RRous.atO (K:KeepsAll w wr) {l:List Rou} (h:RRous w (Old w) [.slice A n c] l) {k:Nat} (hk:k<l.length):
  ∃b o s A' c',A=some ⟨b,o,none⟩∧b<wr.heap.size∧l[k]? =some s∧wr.cell? ⟨b,o+k*2,none⟩=some (.slice A' s.stps.length c')∧wr.cell? ⟨b,o+k*2+1,none⟩=some (.int .i64 s.ov)∧RStps w (Old w) [.slice A' s.stps.length c'] s.stps:=by
 obtain⟨b,o,s,A',c',e,hb,hs,c0,c1,h2⟩:=h.at_ hk
 exact⟨b,o,s,A',c',e,Nat.lt_of_lt_of_le hb K.size,hs,K.cellA hb c0,K.cellA hb c1,h2⟩
theorem RMiss.atO (K:KeepsAll w wr) {l:List Mis} (h:RMiss w (Old w) [.slice A n c] l) {k:Nat} (hk:k<l.length):
  ∃b o s A' c',A=some ⟨b,o,none⟩∧b<wr.heap.size∧l[k]? =some s∧wr.cell? ⟨b,o+k*2,none⟩=some (.int .i64 s.stk)∧wr.cell? ⟨b,o+k*2+1,none⟩=some (.slice A' s.dts.length c')∧RDuts w (Old w) [.slice A' s.dts.length c'] s.dts:=by
 obtain⟨b,o,s,A',c',e,hb,hs,c0,c1,h2⟩:=h.at_ hk
 exact⟨b,o,s,A',c',e,Nat.lt_of_lt_of_le hb K.size,hs,K.cellA hb c0,K.cellA hb c1,h2⟩
end
end
section
open Go.RowKit
def depsOf (o:Oper):List Nat:=(o.after.toList.filter fun e=>Region.binds .any e).map (·.on)
def ups (d:Nat→Bool) (i:Nat):Nat→Bool:=fun j=>if j=i then true else d j
theorem ups_same (d:Nat→Bool) (i:Nat):ups d i i=true:=by simp[ups]
theorem ups_far {d:Nat→Bool} {i j:Nat} (h:j≠i):ups d i j=d j:=by simp[ups,h]
def cntU (d:Nat→Bool):Nat→Nat
 |0=>0
 |n+1=>cntU d n+if d n=true then 0 else 1
theorem cntU_far (d:Nat→Bool) (i:Nat):∀n,n≤i→cntU (ups d i) n=cntU d n:=by
 intro n
 induction n with
 |zero=>intro _;rfl
 |succ n ih=>intro h;rw[cntU,cntU,ih (by omega),ups_far (by omega)]
theorem cntU_less (d:Nat→Bool) (i:Nat) (hi:d i=false):∀n,i<n→cntU (ups d i) n+1=cntU d n:=by
 intro n
 induction n with
 |zero=>intro h;omega
 |succ n ih=>
  intro h
  rw[cntU,cntU]
  by_cases e:i=n
  ·subst e
   rw[cntU_far d i i (Nat.le_refl _),ups_same,hi]
   simp
  ·rw[ups_far (fun q=>e q.symm),←ih (by omega)]
   omega
theorem cntU_zero (d:Nat→Bool):∀n,cntU d n=0→∀j,j<n→d j=true:=by
 intro n
 induction n with
 |zero=>intro _ j hj;omega
 |succ n ih=>
  intro h j hj
  rw[cntU]at h
  by_cases e:j=n
  ·subst e
   cases hd:d j
   ·rw[hd]at h;simp at h
   ·rfl
  ·exact ih (by omega) j (by omega)
theorem cntU_new (n:Nat):cntU (fun _=>false) n=n:=by
 induction n with
 |zero=>rfl
 |succ n ih=>rw[cntU,ih];simp
section
variable {P:Program} {l:List Oper}
def invAll (P:Program) (ops:Array Oper) (Inv:(Nat→Bool)→Act→World→Prop):Nat→List Oper→Prop
 |_,[]=>True
 |i,o::r=>(∀(d:Nat→Bool) (a:Act) (w:World),d i=false→(depsOf o).all d=true→Inv d a w→wpList P ops (lexPost false (fun _=>True) (Inv (ups d i))) [o] a w)∧invAll P ops Inv (i+1) r
theorem invAll_at {ops:Array Oper} {Inv:(Nat→Bool)→Act→World→Prop}:∀(l:List Oper) (k i:Nat) (o:Oper),invAll P ops Inv k l→l[i]? =some o→
  ∀(d:Nat→Bool) (a:Act) (w:World),d (k+i)=false→(depsOf o).all d=true→Inv d a w→wpList P ops (lexPost false (fun _=>True) (Inv (ups d (k+i)))) [o] a w:=by
 intro l
 induction l with
 |nil=>intro k i o _ h;simp at h
 |cons x r ih=>
  intro k i o h ho
  cases i with
  |zero=>simp at ho;subst ho;exact h.1
  |succ i=>
   have:=ih (k+1) i o h.2 (by simpa using ho)
   rw[show k+1+i=k+(i+1)by omega]at this
   exact this
theorem wpOp_of_list {ops:Array Oper} {Q:Exit→Act→World→Prop} {K:Act→World→Prop} {i:Nat} {o:Oper} {a:Act} {w:World} (ho:ops[i]? =some o)
  (h:wpList P ops (lexPost false (fun _=>True) K) [o] a w):wpOp P ops Q i K a w:=by
 have hQ:LetsOut (lexPost false (fun _=>True) K)→LetsOut Q:=fun⟨_,_,h⟩=>h.elim
 unfold wpOp
 simp only[ho]
 simp only[wpList]at h
 by_cases hw:Region.wanted o (yielded ops a.tmps)=true
 ·rw[if_pos hw]at h⊢
  rcases h with h|⟨h1,h2⟩
  ·refine .inl ?_
   unfold Oper.wp at h⊢
   generalize (execOp a.eval o).run P w=res at h⊢
   cases res with
   |ok n w'=>
    cases n<;>simp only[Oper.upon]at h⊢
    case value u=>exact h.2
    case skip=>exact h.2
    case defer d=>exact h.2
    case enter f args=>
     refine Calls.mono h fun e w'' he=> ?_
     cases e with
     |returned u=>exact he.2
     |panicked c=>exact he.elim
     |outgrown=>exact hQ he
    case row row args=>exact fun c cs=>let⟨v,w1,h1,h2⟩:=h c cs;⟨v,w1,h1.2,h2⟩
   |halt x w'=>
    cases x<;>simp only[Oper.upon]at h⊢
    case panic u=>exact h.elim
  ·exact .inr ⟨h1,hQ h2⟩
 ·rw[if_neg hw]at h⊢
  exact h.2
theorem any_inv {Q:Exit→Act→World→Prop} {Inv:(Nat→Bool)→Act→World→Prop} (hb:edgesBackB l=true) (hall:invAll P l.toArray Inv 0 l)
  (hend:∀d a w,(∀j,j<l.length→d j=true)→Inv d a w→Q .normal a w):
  ∀(fuel:Nat) (listed:Array Bool) (d:Nat→Bool) (a:Act) (w:World),listed.size=l.length→(∀j,j<l.length→listed.getD j false=d j)→cntU d l.length≤fuel→Inv d a w→wpAny P .any l.toArray Q fuel listed a w:=by
 have hback:∀(j:Nat) (o:Oper),l[j]? =some o→∀e∈o.after,Region.binds .any e=true→e.on<j:=by
  intro j o ho e he hbd
  have hj:j<l.length:=(List.getElem?_eq_some_iff.1 ho).1
  have:=List.all_eq_true.1 hb j (List.mem_range.2 hj)
  simp only[ho]at this
  have h2:=List.all_eq_true.1 this e (by simpa using he)
  simpa[hbd]using h2
 have hempty:∀(listed:Array Bool) (d:Nat→Bool),listed.size=l.length→(∀j,j<l.length→listed.getD j false=d j)→Region.ready .any l.toArray listed=[]→∀j,j<l.length→d j=true:=by
  intro listed d hsz hd he j
  induction j using Nat.strongRecOn with
  |_ j ih=>
   intro hj
   cases hdj:d j with
   |true=>rfl
   |false=>
    exfalso
    have:j∈Region.ready .any l.toArray listed:=by
     refine mem_ready.2 ⟨?_,l[j],by simp[hj],fun e hem hbd=> ?_⟩
     ·rw[getD_flip (by omega),hd j hj,hdj];simp
     ·have hlt:=hback j l[j] (List.getElem?_eq_getElem hj) e hem hbd
      rw[hd e.on (by omega)]
      exact ih e.on hlt (by omega)
    rw[he]at this
    simp at this
 intro fuel
 induction fuel with
 |zero=>
  intro listed d a w hsz hd hc hI
  have hdone:=cntU_zero d l.length (by omega)
  refine⟨?_,hend d a w hdone hI⟩
  apply List.eq_nil_iff_forall_not_mem.2
  intro j hj
  obtain⟨h0,o,ho,_⟩:=mem_ready.1 hj
  have hjl:j<l.length:=by
   have:=(Array.getElem?_eq_some_iff.1 ho).1;simpa using this
  rw[getD_flip (by omega),hd j hjl,hdone j hjl]at h0
  exact h0 rfl
 |succ fuel ih=>
  intro listed d a w hsz hd hc hI
  refine⟨fun he=>hend d a w (hempty listed d hsz hd he) hI,fun i hi=> ?_⟩
  obtain⟨h0,o,ho,hdeps⟩:=mem_ready.1 hi
  have hil:i<l.length:=by
   have:=(Array.getElem?_eq_some_iff.1 ho).1;simpa using this
  have ho':l[i]? =some o:=by simpa using ho
  have hdi:d i=false:=by
   have:=(getD_flip (by omega)).1 h0
   rw[hd i hil]at this
   simpa using this
  have hda:(depsOf o).all d=true:=by
   rw[List.all_eq_true]
   intro k hk
   unfold depsOf at hk
   obtain⟨e,he,rfl⟩:=List.mem_map.1 hk
   obtain⟨he1,he2⟩:=List.mem_filter.1 he
   have h1:=hdeps e (by simpa using he1) he2
   have hlt:=hback i o ho' e (by simpa using he1) he2
   rw[hd e.on (by omega)]at h1
   exact h1
  have hstep:=invAll_at l 0 i o hall ho' d a w (by simpa using hdi) hda hI
  rw[Nat.zero_add]at hstep
  refine wpOp_mono (fun a' w' h'=> ?_) (wpOp_of_list (Q:=Q) ho hstep)
  refine ih _ (ups d i) a' w' (by simpa using hsz) (fun j hj=> ?_) ?_ h'
  ·rw[Array.getD_eq_getD_getElem?,Array.getElem?_setIfInBounds]
   by_cases e:i=j
   ·subst e;rw[if_pos rfl,if_pos (by omega),ups_same];rfl
   ·rw[if_neg e,ups_far (fun q=>e q.symm),←hd j hj,Array.getD_eq_getD_getElem?]
  ·have:=cntU_less d i hdi l.length hil
   omega
theorem wp_region_inv {Q:Exit→Act→World→Prop} {id:Nat} {a:Act} {w:World} (Inv:(Nat→Bool)→Act→World→Prop) (hm:P.follows .mixedOrders=true) (hb:edgesBackB l=true)
  (h0:Inv (fun _=>false) a w.drew) (hall:invAll P l.toArray Inv 0 l) (hend:∀d a w,(∀j,j<l.length→d j=true)→Inv d a w→Q .normal a w):(Code.region id l.toArray true).wp P Q a w:=by
 refine wp_region_any hm ?_
 refine any_inv hb hall hend _ _ (fun _=>false) _ _ (by simp) (fun j hj=> ?_) ?_ h0
 ·have h9:j<l.toArray.size:=by simpa using hj
  simp[Array.getD_eq_getD_getElem?,hj]
 ·rw[cntU_new];simp
theorem wp_region_inv' {Q:Exit→Act→World→Prop} {id:Nat} {a:Act} {w:World} (Inv:Act→(Nat→Bool)→Act→World→Prop) (hm:P.follows .mixedOrders=true) (hb:edgesBackB l=true)
  (h0:Inv a (fun _=>false) a w.drew) (hall:invAll P l.toArray (Inv a) 0 l) (hend:∀d a' w,(∀j,j<l.length→d j=true)→Inv a d a' w→Q .normal a' w):(Code.region id l.toArray true).wp P Q a w:=
 wp_region_inv (Inv a) hm hb h0 hall hend
theorem inv_post {Inv:(Nat→Bool)→Act→World→Prop} {d:Nat→Bool} {i:Nat} {a:Act} {w:World} (h:Inv (ups d i) a w):lexPost false (fun _=>True) (Inv (ups d i)) .normal a w:=⟨fun e=>(by cases e),h⟩
end
end
end Go.Proofs.YtcbcegdidlefiaaGreat
