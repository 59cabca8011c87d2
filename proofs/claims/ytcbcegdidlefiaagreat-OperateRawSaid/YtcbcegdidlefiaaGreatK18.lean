/- Parts of a route and the points of its transitions, in plain Lean: a part of a route that fits fits, and its pieces are the pieces of the part. Contract of Fits (reference, layer 30): the error of motion. Conditions: as the theorem says. Contract of motion.Fits (program): the error of a fit, or a point that belongs to two transitions. Conditions: as the theorem says. Contract of motion.profile (program): the profile of a part of a route that fits. Conditions: as each theorem says. Contracts of Last and Part (reference, layer 30): a part of a route, in a block of its own. Conditions: as each theorem says. -/
import Derived.Test.YtcbcegdidlefiaaGreatK12
import Derived.Test.YtcbcegdidlefiaaGreatK16
import Derived.Test.YtcbcegdidlefiaaGreatK13
import Derived.Test.YtcbcegdidlefiaaGreatK01
namespace Go.Proofs.YtcbcegdidlefiaaGreat
section
def partR (r:Rou) (a b:Nat):Rou:=if(b:Int)=lastR r then⟨r.stps.drop a,r.ov⟩else⟨(r.stps.take (b+1)).drop a,0⟩
section
variable {L:Lay} {r:Rou} {a b:Nat}
theorem RouOk.partR_ok (h:RouOk L r) (ha:a<b) (hb:(b:Int)≤lastR r):RouOk L (partR r a b):=by
 have h0:=h.ov0
 have h2:=h.ov2
 unfold partR
 split
 ·rename_i e
  exact h.tail (by omega)
 ·rename_i e
  unfold lastR at hb e
  exact h.part ha (by omega) (by omega) (by omega) (by omega)
theorem RouOk.partR_trv (h:RouOk L r) (ha:a<b) (hb:(b:Int)≤lastR r):trvS (partR r a b)=((trvS r).take (b+1)).drop a:=by
 have h0:=h.ov0
 have h2:=h.two
 unfold lastR at hb
 obtain⟨ov,hov⟩:=Int.eq_ofNat_of_zero_le h0
 unfold partR
 split
 ·rename_i e
  unfold lastR at e
  unfold trvS
  simp only[hov,Int.toNat_natCast,List.length_drop]
  rw[List.take_take,Nat.min_eq_left (by omega),List.drop_take]
  congr 1
  omega
 ·rename_i e
  unfold trvS
  simp only[Int.toNat_zero,Nat.sub_zero,List.take_length]
  rw[List.take_take,Nat.min_eq_left (by rw[hov,Int.toNat_natCast];omega)]
theorem RouOk.partR_pces (h:RouOk L r) (ha:a<b) (hb:(b:Int)≤lastR r):pcesOf L (partR r a b)=((pcesOf L r).take (b+1)).drop a:=by
 unfold pcesOf
 rw[h.partR_trv ha hb,List.map_drop,List.map_take]
theorem cellsOf_part (ps:List Pce) (a b:Nat):(cellsOf ((ps.take (b+1)).drop a)).length≤(cellsOf ps).length:=by
 have e1:cellsOf ps=cellsOf (ps.take (b+1))++cellsOf (ps.drop (b+1)):=by
  unfold cellsOf
  rw[←List.flatMap_append,List.take_append_drop]
 have e2:cellsOf (ps.take (b+1))=cellsOf ((ps.take (b+1)).take a)++cellsOf ((ps.take (b+1)).drop a):=by
  unfold cellsOf
  rw[←List.flatMap_append,List.take_append_drop]
 rw[e1,e2]
 simp only[List.length_append]
 omega
theorem fit_part {s:Stk} (h:fitErr L r s=0) (ha:a<b) (hb:(b:Int)≤lastR r):fitErr L (partR r a b) s=0:=by
 have HF:=fitErr_ok h
 have hl:=HF.len
 have hce:celErr L (partR r a b)=0:=by
  unfold celErr
  rw[if_neg (by simpa using (rouErr_zero L _).2 (HF.rou.partR_ok ha hb)),if_neg]
  unfold celsRt
  rw[HF.rou.partR_pces ha hb]
  have:=cellsOf_part (pcesOf L r) a b
  unfold celsRt at hl
  omega
 have hany:¬((trvS r).any fun t=>decide ((secD L t.sec).len<max 2 s.len))=true:=by
  intro g
  unfold fitErr at h
  split at h
  ·rename_i q;exact q h
  split at h
  ·simp at h
  first
   |(rw[if_pos g]at h;simp at h;done)
   |(simp at h;done)
 unfold fitErr
 rw[if_neg (by simpa using hce),if_neg (by rw[HF.stk];simp),if_neg]
 intro g
 apply hany
 rw[HF.rou.partR_trv ha hb]at g
 rw[List.any_eq_true]at g⊢
 obtain⟨t,ht,e⟩:=g
 exact⟨t,List.mem_of_mem_take (List.mem_of_mem_drop ht),e⟩
theorem RouOk.mpt_range (h:RouOk L r) {i:Nat} {p:Int} (hp:(mptL L.lks r.stps)[i]? =some p): -1≤p∧p<L.pts.length:=by
 have hl:i<r.stps.length:=by rw[←mptL_len L.lks r.stps];exact(List.getElem?_eq_some_iff.1 hp).1
 cases hs:r.stps with
 |nil=>rw[hs]at hl;simp at hl
 |cons s t=>
  cases i with
  |zero=>
   rw[hs]at hp
   have:p= -1:=by simpa[mptL]using hp.symm
   omega
  |succ j=>
   have e:(mptL L.lks r.stps)[j+1]? =(ptsR L.lks r.stps)[j]? :=by rw[hs];rfl
   rw[e,h.ptsR_ hl]at hp
   injection hp with hp
   have:=h.lnkAt_ok hl
   omega
end
section
variable {L:Lay} {r:Rou} {s:Stk}
theorem FitOk.ent_range (h:FitOk L r s) {i:Nat} (hi:i<(pcesOf L r).length):0≤entR (pcesOf L r) s i∧entR (pcesOf L r) s i≤100000000:=by
 have h1:=posE_mono (pcesOf L r) (i:=i-1) (j:=(pcesOf L r).length-1) (by omega)
 have h2:=h.tim _ h1
 have h3:=h.le_m
 unfold entR
 omega
theorem FitOk.lea_range (h:FitOk L r s) {i:Nat} (hi:i<(pcesOf L r).length):0≤leaR (pcesOf L r) s i∧leaR (pcesOf L r) s i≤100000000:=by
 have h3:=h.le_m
 unfold leaR
 split
 ·rename_i g
  have hs:=h.step (i:=i) (List.getElem?_eq_getElem g)
  have h1:=posE_mono (pcesOf L r) (i:=i+1) (j:=(pcesOf L r).length-1) (by omega)
  have h2:=h.tim (posE (pcesOf L r) i+s.len.toNat) (by omega)
  omega
 ·have h1:=posE_mono (pcesOf L r) (i:=i) (j:=(pcesOf L r).length-1) (by omega)
  have h2:=h.tim _ h1
  omega
theorem FitOk.run_range (h:FitOk L r s):0≤runR (pcesOf L r) s∧runR (pcesOf L r) s≤100000000:=by
 have h3:=h.le_m
 have h2:=h.tim _ (Nat.le_refl _)
 unfold runR cdiv
 split<;>omega
theorem pces_len (L:Lay) (r:Rou):(pcesOf L r).length=r.stps.length-r.ov.toNat:=by unfold pcesOf trvS;simp
theorem RouOk.part_len (h:RouOk L r) {a b:Nat} (ha:a<b) (hb:(b:Int)≤lastR r):(pcesOf L (partR r a b)).length=b+1-a:=by
 rw[h.partR_pces ha hb,List.length_drop,List.length_take,pces_len]
 have:=h.ov0
 unfold lastR at hb
 omega
theorem RouOk.part_ov (h:RouOk L r) {a b:Nat} (_hb:(b:Int)≤lastR r):decide (0<(partR r a b).ov)=(decide (0<r.ov)&&(b+1==(pcesOf L r).length)):=by
 have h0:=h.ov0
 have h2:=h.two
 rw[pces_len]
 unfold lastR at _hb
 unfold partR lastR
 split
 ·rename_i e
  have:(b+1==r.stps.length-r.ov.toNat)=true:=by rw[beq_iff_eq];omega
  rw[this];simp
 ·rename_i e
  have:(b+1==r.stps.length-r.ov.toNat)=false:=by rw[beq_eq_false_iff_ne];omega
  rw[this];simp
end
theorem dupI_at (l:List Int) (n:Nat) (p:Int) (h:l[n]? =some p):dupI (l.take n) (l.drop n)=if 0≤p∧p∈l.take n then true else dupI (l.take (n+1)) (l.drop (n+1)):=by
 have hd:l.drop n=p::l.drop (n+1):=by
  have hlt:=(List.getElem?_eq_some_iff.1 h).1
  rw[←(List.getElem?_eq_some_iff.1 h).2,List.getElem_cons_drop hlt]
 rw[hd,dupI,List.take_add_one,h];rfl
theorem dupI_skip:∀(l s1 s2:List Int),(∀p,0≤p→(p∈s1↔p∈s2))→dupI s1 l=dupI s2 l:=by
 intro l
 induction l with
 |nil=>intro s1 s2 _;rfl
 |cons p r ih=>
  intro s1 s2 h
  unfold dupI
  have e:(0≤p∧p∈s1)↔(0≤p∧p∈s2):=⟨fun x=>⟨x.1,(h p x.1).1 x.2⟩,fun x=>⟨x.1,(h p x.1).2 x.2⟩⟩
  by_cases g:0≤p∧p∈s1
  ·rw[if_pos g,if_pos (e.1 g)]
  ·rw[if_neg g,if_neg (fun x=>g (e.2 x))]
   exact ih _ _ (fun q hq=>by simp[h q hq])
theorem dupI_mptL (ks:List Lnk) (l:List Stp):dupI [] (mptL ks l)=dupI [] (ptsR ks l):=by
 cases l with
 |nil=>rfl
 |cons a r=>
  have e:mptL ks (a::r)= -1::ptsR ks (a::r):=rfl
  rw[e,dupI,if_neg (by simp)]
  exact dupI_skip _ _ _ (fun p hp=>by simp;omega)
theorem passA_neg {m:Nat} {l:List Int} {i:Int} (h0:i<0):passA m (l++ [i])=passA m l:=by
 unfold passA
 refine tab_ext fun j _=> ?_
 rw[decide_eq_decide,List.mem_append]
 constructor
 ·rintro(h|h)
  ·exact h
  ·simp at h;omega
 ·exact Or.inl
end
section
open Go.RowKit
def resP (N:Nat) (p:Int):Int:=if p<0 then-1 else(N:Int)+p
theorem dupI_res (N:Nat):∀(l seen:List Int),dupI (seen.map (resP N)) (l.map (resP N))=dupI seen l:=by
 have key:∀(p:Int) (seen:List Int),(0≤resP N p∧resP N p∈seen.map (resP N))↔(0≤p∧p∈seen):=by
  intro p seen
  unfold resP
  constructor
  ·rintro⟨h0,hm⟩
   split at h0
   ·omega
   ·rename_i hp
    rw[if_neg hp]at hm
    refine⟨by omega,?_⟩
    obtain⟨q,hq,e⟩:=List.mem_map.1 hm
    split at e
    ·omega
    ·have:q=p:=by omega
     rw[←this];exact hq
  ·rintro⟨h0,hm⟩
   rw[if_neg (by omega)]
   exact⟨by omega,List.mem_map.2 ⟨p,hm,if_neg (by omega)⟩⟩
 intro l
 induction l with
 |nil=>intro seen;rfl
 |cons p r ih=>
  intro seen
  rw[List.map_cons,dupI,dupI]
  by_cases g:0≤p∧p∈seen
  ·rw[if_pos g,if_pos ((key p seen).2 g)]
  ·rw[if_neg g,if_neg (fun e=>g ((key p seen).1 e))]
   have:=ih (seen++ [p])
   rw[List.map_append]at this
   exact this
theorem RouOk.ptRes_at {L:Lay} {r:Rou} (h:RouOk L r) {i:Nat} (hi:i+1<r.stps.length):((ptsR L.lks r.stps).map (resP L.secs.length))[i]? =some (ptRes L (stpD r i) (stpD r (i+1)))∧-1≤ptRes L (stpD r i) (stpD r (i+1))∧ptRes L (stpD r i) (stpD r (i+1))<144:=by
 have h1:=h.ptsR_ hi
 have h2:=h.lnkAt_ok hi
 have h3:=h.lay.secs
 have h4:=h.lay.pts
 have e:ptRes L (stpD r i) (stpD r (i+1))=resP L.secs.length (lnkAt L r i).pt:=by
  unfold ptRes resP
  rw[h.lnkAt_ hi];rfl
 refine⟨by rw[List.getElem?_map,h1,e];rfl,?_,?_⟩<;>(rw[e];unfold resP;split<;>omega)
theorem zero144:Tryz.zeroCells309=cellsB' (passA 144 []):=by kernel_rfl
set_option maxRecDepth 100000 in
set_option maxHeartbeats 8000000 in
theorem rmotFits_any (L:Lay) (v:LV) (r:Rou) (s:Stk) (A:Option Addr) (c:Nat) (w:World) (h:RLay w (Old w) v L) (hr:RStps w (Old w) [.slice A r.stps.length c] r.stps) (hlen:LayLen L):
  Calls Tryz.prog 95 #[.agg (v.cs L),.agg #[.slice A r.stps.length c,.int .i64 r.ov],.agg (stkC s)] w fun e w'=>e= .returned (.int .i64 (motErr L r s))∧KeepsAll w w':=by
 have HF:=Lib.hid (fun W k1 k2=>rfits_any L v r s A c W k1 k2 hlen)
 have HPT:=Lib.hid (fun s t W k1 k2 k3 k4=>pointOf_any L v s t W k1 k2 k3 k4)
 have HL:=Lib.hid h
 have HR:=Lib.hid hr
 have hc:=hr.caps
 clear h hr
 obtain⟨A1,A2,A3,A4,ca1,ca2,ca3,ca4⟩:=v
 unfold LV.cs at HF HPT⊢
 simp only[]at HF HPT⊢
 obtain⟨sn,sl,sv,sa,sb⟩:=s
 generalize hst:(⟨sn,sl,sv,sa,sb⟩:Stk)=s at*
 have ES:Hid (stkC s= #[.string (mkS sn),.int .i64 sl,.int .i64 sv,.int .i64 sa,.int .i64 sb]):=by subst hst;rfl
 rw[ES.out]at HF⊢
 clear hst ES
 have E:Hid (motErr L r s=if fitErr L r s≠0 then fitErr L r s else if dupI [] ((ptsR L.lks r.stps).map (resP L.secs.length))=true then 13 else 0):=by
  show _=_;unfold motErr;rw[←dupI_res L.secs.length _ []];rfl
 have HFO:Hid (fitErr L r s=0→RouOk L r):=fun e=>(fitErr_ok e).rou
 generalize motErr L r s=mo at*
 generalize fitErr L r s=ou at*
 go_enter Tryz.func95,Tryz.ntmps95
 go_upto_region 1 with fail
 generalize hW1:World.alloc w _=W1
 have K1:Hid (KeepsAll w W1):=by subst hW1;exact(Keeps.refl _ _).alloc _
 have B1:Hid (Blk W1 w.heap.size 27 #[.slice A1 L.sts.length ca1,.slice A2 L.pts.length ca2,.slice A3 L.secs.length ca3,.slice A4 L.lks.length ca4]):=by subst hW1;exact Blk.new _ _ _
 have hz1:W1.heap.size=w.heap.size+1:=by subst hW1;simp
 clear hW1
 generalize hN:w.heap.size=N at*
 generalize hW:World.alloc (World.alloc W1 _) _=W
 have K0:Hid (KeepsAll w W):=by subst hW;exact(K1.out.alloc _).alloc _
 have B0:Hid (Blk W N 27 #[.slice A1 L.sts.length ca1,.slice A2 L.pts.length ca2,.slice A3 L.secs.length ca3,.slice A4 L.lks.length ca4]):=by subst hW;exact(B1.out.alloc _).alloc _
 have BR:Hid (Blk W (N+1) 95 #[.slice A r.stps.length c,.int .i64 r.ov]):=by subst hW;exact(Blk.new' _ _ _ hz1.symm).alloc _
 have BK:Hid (Blk W (N+1+1) 103 #[.string (mkS sn),.int .i64 sl,.int .i64 sv,.int .i64 sa,.int .i64 sb]):=by subst hW;exact Blk.new' _ _ _ (by simp[hz1])
 clear hW K1 B1 hz1
 have l0:=B0.out.cell 0
 have l1:=B0.out.cell 1
 have l2:=B0.out.cell 2
 have l3:=B0.out.cell 3
 have r0:=BR.out.cell 0
 have r1:=BR.out.cell 1
 have s0:=BK.out.cell 0
 have s1:=BK.out.cell 1
 have s2:=BK.out.cell 2
 have s3:=BK.out.cell 3
 have s4:=BK.out.cell 4
 simp at l0 l1 l2 l3 r0 r1 s0 s1 s2 s3 s4
 have hzl:=B0.out.lt
 have hzr:=BR.out.lt
 have hzk:=BK.out.lt
 go_upto_region 2 with(go_at_call 179;with_reducible refine(HF.out W (HL.out.kept K0.out) (K0.out.rdA (RSlice.ok RStp.ok) HR.out)).mono ?_;rintro e W2 ⟨rfl,k2⟩)
 have K2:Hid (KeepsAll w W2):=K0.out.trA k2
 have C0:=Lib.hid (B0.out.kept k2 (by simp))
 have CR:=Lib.hid (BR.out.kept k2 (by simp))
 clear k2 B0 BR BK K0 HF l0 l1 l2 l3 r0 r1 s0 s1 s2 s3 s4 hzl hzr hzk
 by_cases gz:ou≠0
 ·have gz':(ou !=0)=true:=by simpa using gz
  have E1:Hid (mo=ou):=by show _=_;rw[E.out,if_pos gz]
  clear gz
  go_wp2_with fail
  go_ret
  exact⟨by rw[E1.out];rfl,K2.out⟩
 ·obtain rfl:ou=0:=by simpa using gz
  clear gz
  have HOK:=Lib.hid (HFO.out rfl)
  generalize hRS:(ptsR L.lks r.stps).map (resP L.secs.length)=RS at*
  have E1:Hid (mo=if dupI (RS.take 0) (RS.drop 0)=true then 13 else 0):=by show _=_;rw[E.out,if_neg (by simp)];rfl
  have g41:=HOK.out.len
  have g44:=HOK.out.two
  have g43:=HOK.out.ov0
  have HAT:Hid (∀i,i+1<r.stps.length→RS[i]? =some (ptRes L (stpD r i) (stpD r (i+1)))∧-1≤ptRes L (stpD r i) (stpD r (i+1))∧ptRes L (stpD r i) (stpD r (i+1))<144):=fun i hi=>by rw[←hRS];exact HOK.out.ptRes_at hi
  have hrl:RS.length+1=r.stps.length:=by rw[←hRS,List.length_map,ptsR_len];omega
  clear hRS E HFO
  go_upto_region 5 with fail
  generalize hW3:World.alloc W2 _=W3
  have K3:Hid (KeepsAll w W3):=by subst hW3;exact K2.out.alloc _
  have K23:Hid (KeepsAll W2 W3):=by subst hW3;exact(Keeps.refl _ _).alloc _
  have HP:Hid (Blk W3 W2.heap.size 309 (cellsB' (passA 144 (RS.take 0)))):=by
   subst hW3;rw[List.take_zero,←zero144];exact Blk.new _ _ _
  have hg:N+1<W2.heap.size:=CR.out.lt
  have hg0:w.heap.size≤W2.heap.size:=K2.out.size
  clear hW3
  have D0:=Lib.hid (C0.out.kept K23.out (by simp))
  have DR:=Lib.hid (CR.out.kept K23.out (by simp))
  generalize W2.heap.size=g at*
  clear C0 CR K23 K2
  go_wp2_with fail
  go_loopw [9] (fun i wr=>∃n:Nat,n≤RS.length∧i= .int .i64 (n:Int)∧Blk wr g 309 (cellsB' (passA 144 (RS.take n)))∧Keeps (·=g) W3 wr∧dupI (RS.take 0) (RS.drop 0)=dupI (RS.take n) (RS.drop n)) (fun i _=>RS.length-(intOf i).toNat)
  case atStart=>exact⟨0,Nat.zero_le _,rfl,HP.out,Keeps.refl _ _,rfl⟩
  case round=>
   obtain⟨n,hn,rfl,hb,hk,hdup⟩:=hrel
   have HB:=Lib.hid hb
   have HKG:=Lib.hid hk
   have HD:=Lib.hid hdup
   have KW:Hid (KeepsAll w wr):=K3.out.trans hk (fun x hx e=>by omega)
   have F0:=Lib.hid (D0.out.kept hk (by omega))
   have FR:=Lib.hid (DR.out.kept hk (by omega))
   clear hb hk hdup
   have r0:=FR.out.cell 0
   have l0:=F0.out.cell 0
   have l1:=F0.out.cell 1
   have l2:=F0.out.cell 2
   have l3:=F0.out.cell 3
   simp at r0 l0 l1 l2 l3
   have hzr:=FR.out.lt
   have hzl:=F0.out.lt
   have hzg:=HB.out.lt
   by_cases hlt:n<RS.length
   ·have hlt2:n+1<r.stps.length:=by omega
    obtain⟨hx,hp0,hp1⟩:=HAT.out n hlt2
    have HX:=Lib.hid hx
    have hd1:=stpD_at (r:=r) (i:=n) (by omega)
    have hd2:=stpD_at (r:=r) hlt2
    have HDI1:=(HOK.out.sec_lt hd1).2.2
    have HDI2:=(HOK.out.sec_lt hd2).2.2
    have HPJ:=Lib.hid (fun W k=>HPT.out (stpD r n) (stpD r (n+1)) W k HOK.out.lay HDI1 HDI2)
    have HDA:=Lib.hid (dupI_at RS n _ hx)
    have HT:Hid (RS.take (n+1)=RS.take n++ [ptRes L (stpD r n) (stpD r (n+1))]):=by show _=_;rw[List.take_add_one,hx];rfl
    obtain⟨b0,o0,t1,rfl,hb0,ht1,m0,m1⟩:=HR.out.atO KW.out (k:=n) (by omega)
    obtain⟨b1,o1,t2,hA1,-,ht2,m2,m3⟩:=HR.out.atO KW.out (k:=n+1) hlt2
    injection hA1 with hA1
    injection hA1 with e1 e2
    subst e1 e2
    obtain rfl:=Option.some.inj (ht1.symm.trans hd1)
    obtain rfl:=Option.some.inj (ht2.symm.trans hd2)
    clear hx hd1 hd2 HDI1 HDI2 ht1 ht2
    generalize ptRes L (stpD r n) (stpD r (n+1))=p at*
    generalize stpD r n=q1 at*
    generalize stpD r (n+1)=q2 at*
    obtain⟨a1,d1⟩:=q1
    obtain⟨a2,d2⟩:=q2
    unfold stpC at HPJ
    simp only[]at m0 m1 m2 m3 HPJ
    go_upto_region 8 with fail
    have y0:=Ext.cell r0
    have y1:=Ext.cell l0
    have y2:=Ext.cell l1
    have y3:=Ext.cell l2
    have y4:=Ext.cell l3
    have y5:=Ext.cell m0
    have y6:=Ext.cell m1
    have y7:=Ext.cell m2
    have y8:=Ext.cell m3
    have HX1:Hid (∀xx:Ext wr,Calls Tryz.prog 180 #[.agg #[.slice A1 L.sts.length ca1,.slice A2 L.pts.length ca2,.slice A3 L.secs.length ca3,.slice A4 L.lks.length ca4],.agg #[.int .i64 a1,.int .i64 d1],.agg #[.int .i64 a2,.int .i64 d2]] xx.val fun e w''=>e= .returned (.int .i64 p)∧∃y:Ext wr,w''=y.val):=fun xx=>ext_call xx (HPJ.out xx.val (HL.out.kept (KW.out.trA xx.keeps)))
    refine wp_region_ext (by kernel_rfl) (by kernel_rfl) ?_
    repeat (go_big_quiet_step ((go_at_call 180;rename_i xx;with_reducible exact HX1.out xx)))
    refine wpQuiet_nil ?_
    rintro _ ⟨X,rfl⟩
    have KX:=X.keeps
    generalize X.val=W7 at*
    clear y0 y1 y2 y3 y4 y5 y6 y7 y8 HX1 m0 m1 m2 m3 r0 l0 l1 l2 l3
    have HB7:=Lib.hid (HB.out.kept KX (by simp))
    have HK7:Hid (Keeps (·=g) W3 W7):=HKG.out.trans KX (fun _ _ e=>e.elim)
    have hz7:=HB7.out.lt
    by_cases hp:p<0
    ·have t1:decide (0≤p)=false:=by rw[decide_eq_false_iff_not];omega
     have t2:¬0≤p:=by omega
     have HB6:Hid (Blk W7 g 309 (cellsB' (passA 144 (RS.take (n+1))))):=by rw[HT.out,passA_neg hp];exact HB7.out
     have HD6:Hid (dupI (RS.take 0) (RS.drop 0)=dupI (RS.take (n+1)) (RS.drop (n+1))):=by
      show _=_
      rw[HD.out,HDA.out,if_neg (by omega)]
     clear hp hp0 hp1
     go_wp2_with fail
     exact⟨⟨n+1,by omega,by go_num,HB6.out,HK7.out,HD6.out⟩,by simp[intOf];omega⟩
    ·obtain⟨j,hj⟩:=Int.eq_ofNat_of_zero_le (by omega:0≤p)
     have hj2:j<144:=by omega
     subst hj
     have t1:decide (0≤(j:Int))=true:=by simp
     have y1:=(HB7.out.cell j).trans (cellsB'_at (by have:=passA_at (m:=144) (l:=RS.take n) (i:=(j:Int)) (by omega) (by omega);rwa[Int.toNat_natCast]at this))
     have y0:=HB7.out.frozen j
     have HSET:Hid ((passA 144 (RS.take n)).set j true=passA 144 (RS.take n++ [(j:Int)])):=by
      have:=passA_set (m:=144) (l:=RS.take n) (i:=(j:Int)) (by omega)
      rwa[Int.toNat_natCast]at this
     clear hp hp0 hp1
     by_cases hin:(j:Int)∈RS.take n
     ·have z1:W7.cell? ⟨g,j,none⟩=some (.bool true):=by rw[y1];simp[hin]
      have E0:Hid (mo=13):=by
       show _=_
       rw[E1.out,HD.out,HDA.out,if_pos]
       rw[if_pos ⟨by omega,hin⟩]
      clear y1
      go_wp2_with fail
      go_ret
      exact⟨by rw[E0.out];rfl,KW.out.trA KX⟩
     ·have z1:W7.cell? ⟨g,j,none⟩=some (.bool false):=by rw[y1];simp[hin]
      have HB6:Hid (Blk (W7.setCell ⟨g,j,none⟩ (.bool true)) g 309 (cellsB' (passA 144 (RS.take (n+1))))):=by
       have:=HB7.out.set_ j (.bool true)
       rw[cellsB'_set',HSET.out,←HT.out]at this
       exact this
      have HD6:Hid (dupI (RS.take 0) (RS.drop 0)=dupI (RS.take (n+1)) (RS.drop (n+1))):=by
       show _=_
       rw[HD.out,HDA.out,if_neg (fun e=>hin e.2)]
      clear y1 hin
      go_wp2_with fail
      exact⟨⟨n+1,by omega,by go_num,HB6.out,Keeps.setCell HK7.out (fun _=>rfl) _,HD6.out⟩,by simp[intOf];omega⟩
   ·obtain rfl:n=RS.length:=by omega
    have E0:Hid (mo=0):=by
     show _=_
     rw[E1.out,HD.out,List.drop_length]
     rfl
    go_wp2_with fail
    go_ret
    exact⟨by rw[E0.out];rfl,KW.out⟩
end
section
open Go.RowKit
set_option maxRecDepth 100000 in
set_option maxHeartbeats 4000000 in
theorem motFits_any (L:Lay) (v:LV) (r:Rou) (s:Stk) (A:Option Addr) (c:Nat) (w:World) (h:RLay w (Old w) v L) (hr:RStps w (Old w) [.slice A r.stps.length c] r.stps) (hlen:LayLen L):
  Calls Tryz.prog 196 #[.agg (v.cs L),.agg #[.slice A r.stps.length c,.int .i64 r.ov],.agg (stkC s)] w fun e w'=>e= .returned (.int .i64 (motErr L r s))∧KeepsAll w w':=by
 have HF:=Lib.hid (fun W k1 k2=>bFits_any L v r s A c W k1 k2 hlen)
 have HPT:=Lib.hid (fun W k1 k2 k3 k4=>mpoints_any L v r A c W k1 k2 k3 k4)
 have HL:=Lib.hid h
 have HR:=Lib.hid hr
 have hc:=hr.caps
 have hc2:=h.pts.caps
 clear h hr
 obtain⟨A1,A2,A3,A4,ca1,ca2,ca3,ca4⟩:=v
 simp only[]at hc2
 unfold LV.cs at HF HPT⊢
 simp only[]at HF HPT⊢
 obtain⟨sn,sl,sv,sa,sb⟩:=s
 generalize hst:(⟨sn,sl,sv,sa,sb⟩:Stk)=s at*
 have ES:Hid (stkC s= #[.string (mkS sn),.int .i64 sl,.int .i64 sv,.int .i64 sa,.int .i64 sb]):=by subst hst;rfl
 rw[ES.out]at HF⊢
 clear hst ES
 have E:Hid (motErr L r s=if fitErr L r s≠0 then fitErr L r s else if dupI [] (mptL L.lks r.stps)=true then 13 else 0):=by
  show _=_;unfold motErr;rw[dupI_mptL]
 have HFO:Hid (fitErr L r s=0→RouOk L r):=fun e=>(fitErr_ok e).rou
 generalize motErr L r s=mo at*
 generalize fitErr L r s=ou at*
 go_enter Tryz.func196,Tryz.ntmps196
 go_wp2_with fail
 generalize hW1:World.alloc w _=W1
 have K1:Hid (KeepsAll w W1):=by subst hW1;exact(Keeps.refl _ _).alloc _
 have B1:Hid (Blk W1 w.heap.size 27 #[.slice A1 L.sts.length ca1,.slice A2 L.pts.length ca2,.slice A3 L.secs.length ca3,.slice A4 L.lks.length ca4]):=by subst hW1;exact Blk.new _ _ _
 have hz1:W1.heap.size=w.heap.size+1:=by subst hW1;simp
 clear hW1
 generalize hN:w.heap.size=N at*
 generalize hW:World.alloc (World.alloc W1 _) _=W
 have K0:Hid (KeepsAll w W):=by subst hW;exact(K1.out.alloc _).alloc _
 have B0:Hid (Blk W N 27 #[.slice A1 L.sts.length ca1,.slice A2 L.pts.length ca2,.slice A3 L.secs.length ca3,.slice A4 L.lks.length ca4]):=by subst hW;exact(B1.out.alloc _).alloc _
 have BR:Hid (Blk W (N+1) 95 #[.slice A r.stps.length c,.int .i64 r.ov]):=by subst hW;exact(Blk.new' _ _ _ hz1.symm).alloc _
 clear hW K1 B1 hz1
 refine(HF.out W (HL.out.kept K0.out) (K0.out.rdA (RSlice.ok RStp.ok) HR.out)).mono ?_
 rintro e W2 ⟨rfl,k2⟩
 have K2:Hid (KeepsAll w W2):=K0.out.trA k2
 have C0:=Lib.hid (B0.out.kept k2 (by simp))
 have CR:=Lib.hid (BR.out.kept k2 (by simp))
 clear k2 B0 BR K0 HF
 by_cases gz:ou≠0
 ·have gz':(ou !=0)=true:=by simpa using gz
  have E1:Hid (mo=ou):=by show _=_;rw[E.out,if_pos gz]
  clear gz
  go_wp2_with fail
  go_ret
  exact⟨by rw[E1.out];rfl,K2.out⟩
 ·obtain rfl:ou=0:=by simpa using gz
  clear gz
  have HOK:=Lib.hid (HFO.out rfl)
  have E1:Hid (mo=if dupI ((mptL L.lks r.stps).take 0) ((mptL L.lks r.stps).drop 0)=true then 13 else 0):=by show _=_;rw[E.out,if_neg (by simp)];rfl
  have g41:=HOK.out.len
  have g42:=HOK.out.lay.pts
  have HRG:=Lib.hid (fun(i:Nat) p hp=>HOK.out.mpt_range (i:=i) (p:=p) hp)
  have HPT2:=Lib.hid (fun W k1 k2=>HPT.out W k1 k2 HOK.out.lay g41)
  have hmkb:=mkBools L.pts.length (by omega)
  have p1:=C0.out.cell 1
  have p0:=C0.out.cell 0
  have p2:=C0.out.cell 2
  have p3:=C0.out.cell 3
  have r0:=CR.out.cell 0
  have r1:=CR.out.cell 1
  simp at p0 p1 p2 p3 r0 r1
  have hz:=CR.out.lt
  have hz2:=C0.out.lt
  clear HPT E HFO
  go_wp2_with fail
  generalize hW3:World.alloc W2 _=W3
  have K3:Hid (KeepsAll w W3):=by subst hW3;exact K2.out.alloc _
  have HP:Hid (Blk W3 W2.heap.size 4 (cellsB' (passA L.pts.length ((mptL L.lks r.stps).take 0)))):=by
   subst hW3;rw[List.take_zero,←passA_new];exact Blk.new _ _ _
  have hg:w.heap.size≤W2.heap.size:=K2.out.size
  clear hW3 hmkb p0 p1 p2 p3 r0 r1
  generalize W2.heap.size=g at*
  refine(HPT2.out W3 (HL.out.kept K3.out) (K3.out.rdA (RSlice.ok RStp.ok) HR.out)).mono ?_
  rintro e W4 ⟨q,rfl,hq,hbq,k4⟩
  have K4:Hid (KeepsAll w W4):=K3.out.trA k4
  have HP4:=Lib.hid (HP.out.kept k4 (by simp))
  have HQ:=Lib.hid hbq
  have hgq:g<q:=Nat.lt_of_lt_of_le HP.out.lt hq
  have hml:(mptL L.lks r.stps).length=r.stps.length:=mptL_len _ _
  clear k4 hbq HP K3 HPT2 C0 CR
  generalize hpl:mptL L.lks r.stps=pl at*
  rw[←hml]
  go_wp2_with fail
  go_loopw [26] (fun i wr=>∃n:Nat,n≤pl.length∧i= .int .i64 (n:Int)∧Blk wr g 4 (cellsB' (passA L.pts.length (pl.take n)))∧Keeps (·=g) W4 wr∧dupI (pl.take 0) (pl.drop 0)=dupI (pl.take n) (pl.drop n)) (fun i _=>pl.length-(intOf i).toNat)
  case atStart=>exact⟨0,Nat.zero_le _,rfl,HP4.out,Keeps.refl _ _,rfl⟩
  case round=>
   obtain⟨n,hn,rfl,hb,hk,hdup⟩:=hrel
   have HB:=Lib.hid hb
   have HKG:=Lib.hid hk
   have HD:=Lib.hid hdup
   have KW:Hid (KeepsAll w wr):=K4.out.trans hk (fun x hx e=>by omega)
   have HQ5:=Lib.hid (HQ.out.kept hk (by omega))
   clear hb hk hdup
   by_cases hlt:n<pl.length
   ·have HX:Hid (pl[n]? =some (pl.getD n 0)):=by show _=_;rw[List.getD_eq_getElem?_getD,List.getElem?_eq_getElem hlt];rfl
    have hrg:=HRG.out n _ HX.out
    have z0:=(HQ5.out.cell n).trans (cellsI_at HX.out)
    have HDA:=Lib.hid (dupI_at pl n _ HX.out)
    have HT:Hid (pl.take (n+1)=pl.take n++ [pl.getD n 0]):=by show _=_;rw[List.take_add_one,HX.out];rfl
    generalize pl.getD n 0=p at*
    have hqs:q<wr.heap.size:=HQ5.out.lt
    have hgs:g<wr.heap.size:=HB.out.lt
    have hn24:pl.length≤24:=by omega
    clear HX
    by_cases hp:p<0
    ·have hp1:decide (p<0)=true:=by simpa using hp
     have HB6:Hid (Blk wr g 4 (cellsB' (passA L.pts.length (pl.take (n+1))))):=by rw[HT.out,passA_neg hp];exact HB.out
     have HD6:Hid (dupI (pl.take 0) (pl.drop 0)=dupI (pl.take (n+1)) (pl.drop (n+1))):=by
      show _=_
      rw[HD.out,HDA.out,if_neg (by omega)]
     go_wp2_with fail
     exact⟨⟨n+1,by omega,by go_num,HB6.out,HKG.out,HD6.out⟩,by simp[intOf];omega⟩
    ·obtain⟨j,hj⟩:=Int.eq_ofNat_of_zero_le (by omega:0≤p)
     have hj2:j<L.pts.length:=by omega
     subst hj
     have hp1:decide ((j:Int)<0)=false:=by simp
     have y1:=(HB.out.cell j).trans (cellsB'_at (by have:=passA_at (m:=L.pts.length) (l:=pl.take n) (i:=(j:Int)) (by omega) (by omega);rwa[Int.toNat_natCast]at this))
     have y0:=HB.out.frozen j
     have HSET:Hid ((passA L.pts.length (pl.take n)).set j true=passA L.pts.length (pl.take n++ [(j:Int)])):=by
      have:=passA_set (m:=L.pts.length) (l:=pl.take n) (i:=(j:Int)) (by omega)
      rwa[Int.toNat_natCast]at this
     clear hp hrg
     by_cases hin:(j:Int)∈pl.take n
     ·have z1:wr.cell? ⟨g,j,none⟩=some (.bool true):=by rw[y1];simp[hin]
      have E0:Hid (mo=13):=by
       show _=_
       rw[E1.out,HD.out,HDA.out,if_pos]
       rw[if_pos ⟨by omega,hin⟩]
      clear y1
      go_wp2_with fail
      go_ret
      exact⟨by rw[E0.out];rfl,KW.out⟩
     ·have z1:wr.cell? ⟨g,j,none⟩=some (.bool false):=by rw[y1];simp[hin]
      have HB6:Hid (Blk (wr.setCell ⟨g,j,none⟩ (.bool true)) g 4 (cellsB' (passA L.pts.length (pl.take (n+1))))):=by
       have:=HB.out.set_ j (.bool true)
       rw[cellsB'_set',HSET.out,←HT.out]at this
       exact this
      have HD6:Hid (dupI (pl.take 0) (pl.drop 0)=dupI (pl.take (n+1)) (pl.drop (n+1))):=by
       show _=_
       rw[HD.out,HDA.out,if_neg (fun e=>hin e.2)]
      clear y1 hin
      go_wp2_with fail
      exact⟨⟨n+1,by omega,by go_num,HB6.out,Keeps.setCell HKG.out (fun _=>rfl) _,HD6.out⟩,by simp[intOf];omega⟩
   ·obtain rfl:n=pl.length:=by omega
    have E0:Hid (mo=0):=by
     show _=_
     rw[E1.out,HD.out,List.drop_length]
     rfl
    go_wp2_with fail
    go_ret
    exact⟨by rw[E0.out];rfl,KW.out⟩
end
section
open Go.RowKit
theorem RSlice.partC {α:Type} {size:Nat} {E:Rd α} {w:World} {S:Foot} {b o n c:Nat} {l:List α} (h:RSlice size E w S [.slice (some ⟨b,o,none⟩) n c] l) {i k m c':Nat} (hi:i≤k) (hk:k≤l.length) (hm:m=k-i) (hc1:m≤c') (hc2:c'≤9223372036854775807):
  RSlice size E w S [.slice (some ⟨b,o+i*size,none⟩) m c'] ((l.take k).drop i):=by
 subst hm
 have hl:((l.take k).drop i).length=k-i:=by rw[List.length_drop,List.length_take];omega
 obtain⟨A',d,he,h1,h2,h3⟩:=h
 injection he with he _;injection he with ha hn hc;subst ha hc
 refine⟨_,c',by rw[hl],by rw[hl];exact hc1,hc2,fun hne=> ?_⟩
 obtain⟨b',o',hA,hb,hj⟩:=h3 (by rintro rfl;simp at hne)
 injection hA with hA;injection hA with hA1 hA2;subst hA1 hA2
 refine⟨b,o+i*size,rfl,hb,fun j x hx=> ?_⟩
 have hj2:j<k-i:=by rw[←hl];exact(List.getElem?_eq_some_iff.1 hx).1
 rw[List.getElem?_drop,List.getElem?_take_of_lt (by omega)]at hx
 obtain⟨es,e1,e2,e3⟩:=hj (i+j) x hx
 refine⟨es,e1,e2,fun t u hu=> ?_⟩
 have:=e3 t u hu
 rw[Nat.add_mul]at this
 rw[show o+i*size+(j*size+t)=o+(i*size+j*size+t)from by omega]
 exact this
structure PrS (W0 wr:World) (zp:Nat) (a b run:Int) (vN vE vC:Value) (lN lE lC:List Int):Prop where
 k:Keeps (fun x=>x=zp) W0 wr
 b:Blk wr zp 99 #[.int .i64 a,.int .i64 b,vN,vE,vC,.int .i64 0,.int .i64 run]
 oN:OwnL 3 1 RInt wr W0.heap.size W0.heap.size vN lN
 oE:OwnL 3 1 RInt wr W0.heap.size W0.heap.size vE lE
 oC:OwnL 3 1 RInt wr W0.heap.size W0.heap.size vC lC
 nE:∀x,vN.ownBlock=some x→vE.ownBlock≠some x
 nC:∀x,vN.ownBlock=some x→vC.ownBlock≠some x
 eC:∀x,vE.ownBlock=some x→vC.ownBlock≠some x
section
variable {W0 wr w5 w9:World} {zp:Nat} {a b run:Int} {vN vE vC v':Value} {lN lE lC l':List Int}
theorem PrS.keep (h:PrS W0 wr zp a b run vN vE vC lN lE lC) (k:KeepsAll wr w5):PrS W0 w5 zp a b run vN vE vC lN lE lC:=
 ⟨h.k.trans k (fun _ _ e=>e.elim),h.b.kept k (by simp),h.oN.keepsT RInt.flt k (by simp),h.oE.keepsT RInt.flt k (by simp),h.oC.keepsT RInt.flt k (by simp),h.nE,h.nC,h.eC⟩
theorem own_new {v v':Value} {n:Nat} (hn:v'.ownBlock=v.ownBlock∨v'.ownBlock=some n) {u:Value} (hu:∀x,u.ownBlock=some x→x<n) (h:∀x,v.ownBlock=some x→u.ownBlock≠some x):∀x,v'.ownBlock=some x→u.ownBlock≠some x:=by
 intro x hx hx2
 rcases hn with e|e
 ·rw[e]at hx;exact h x hx hx2
 ·rw[e]at hx
  injection hx with hx
  have:=hu x hx2
  omega
theorem PrS.putN (h:PrS W0 wr zp a b run vN vE vC lN lE lC) (hz:zp<W0.heap.size) (ho:OwnL 3 1 RInt w9 W0.heap.size W0.heap.size v' l') (hk:Keeps (fun x=>vN.ownBlock=some x) wr w9) (hn:v'.ownBlock=vN.ownBlock∨v'.ownBlock=some wr.heap.size):
  PrS W0 (w9.setCell ⟨zp,2,none⟩ v') zp a b run v' vE vC l' lE lC:=by
 have hL:∀x,vN.ownBlock=some x→W0.heap.size≤x:=fun x hx=>(h.oN.lt hx).1
 have k1:Keeps (fun x=>x=zp) w9 (w9.setCell ⟨zp,2,none⟩ v'):=(Keeps.refl (fun x=>x=zp) w9).setCell (p:=⟨zp,2,none⟩) (fun _=>rfl) _
 have hzx:¬(vN.ownBlock=some zp):=fun e=>by have:=hL zp e;omega
 have k2:Keeps (fun x=>vN.ownBlock=some x∨x=zp) wr (w9.setCell ⟨zp,2,none⟩ v'):=(hk.mono (C:=fun x=>vN.ownBlock=some x∨x=zp) (fun _ _ e=> .inl e)).trans k1 (fun _ _ e=> .inr e)
 refine⟨h.k.trans k2 (fun x hx e=> ?_),(h.b.kept hk hzx).set_ 2 v',ho.keepsT RInt.flt k1 (fun x hx e=>by have:=ho.lt hx;have e:x=zp:=e;omega),h.oE.keepsT RInt.flt k2 (fun x hx e=> ?_),h.oC.keepsT RInt.flt k2 (fun x hx e=> ?_),
  own_new hn (fun x hx=>(h.oE.lt hx).2) h.nE,own_new hn (fun x hx=>(h.oC.lt hx).2) h.nC,h.eC⟩
 ·rcases e with e|e
  ·have:=hL x e;omega
  ·exact e
 ·rcases e with e|e
  ·exact h.nE x e hx
  ·have:=h.oE.lt hx;omega
 ·rcases e with e|e
  ·exact h.nC x e hx
  ·have:=h.oC.lt hx;omega
theorem PrS.putE (h:PrS W0 wr zp a b run vN vE vC lN lE lC) (hz:zp<W0.heap.size) (ho:OwnL 3 1 RInt w9 W0.heap.size W0.heap.size v' l') (hk:Keeps (fun x=>vE.ownBlock=some x) wr w9) (hn:v'.ownBlock=vE.ownBlock∨v'.ownBlock=some wr.heap.size):
  PrS W0 (w9.setCell ⟨zp,3,none⟩ v') zp a b run vN v' vC lN l' lC:=by
 have hL:∀x,vE.ownBlock=some x→W0.heap.size≤x:=fun x hx=>(h.oE.lt hx).1
 have k1:Keeps (fun x=>x=zp) w9 (w9.setCell ⟨zp,3,none⟩ v'):=(Keeps.refl (fun x=>x=zp) w9).setCell (p:=⟨zp,3,none⟩) (fun _=>rfl) _
 have hzx:¬(vE.ownBlock=some zp):=fun e=>by have:=hL zp e;omega
 have k2:Keeps (fun x=>vE.ownBlock=some x∨x=zp) wr (w9.setCell ⟨zp,3,none⟩ v'):=(hk.mono (C:=fun x=>vE.ownBlock=some x∨x=zp) (fun _ _ e=> .inl e)).trans k1 (fun _ _ e=> .inr e)
 refine⟨h.k.trans k2 (fun x hx e=> ?_),(h.b.kept hk hzx).set_ 3 v',h.oN.keepsT RInt.flt k2 (fun x hx e=> ?_),ho.keepsT RInt.flt k1 (fun x hx e=>by have:=ho.lt hx;have e:x=zp:=e;omega),h.oC.keepsT RInt.flt k2 (fun x hx e=> ?_),
  fun x hx e=>own_new hn (fun x hx=>(h.oN.lt hx).2) (fun x hx e=>h.nE x e hx) x e hx,h.nC,own_new hn (fun x hx=>(h.oC.lt hx).2) h.eC⟩
 ·rcases e with e|e
  ·have:=hL x e;omega
  ·exact e
 ·rcases e with e|e
  ·exact h.nE x hx e
  ·have:=h.oN.lt hx;omega
 ·rcases e with e|e
  ·exact h.eC x e hx
  ·have:=h.oC.lt hx;omega
theorem PrS.putC (h:PrS W0 wr zp a b run vN vE vC lN lE lC) (hz:zp<W0.heap.size) (ho:OwnL 3 1 RInt w9 W0.heap.size W0.heap.size v' l') (hk:Keeps (fun x=>vC.ownBlock=some x) wr w9) (hn:v'.ownBlock=vC.ownBlock∨v'.ownBlock=some wr.heap.size):
  PrS W0 (w9.setCell ⟨zp,4,none⟩ v') zp a b run vN vE v' lN lE l':=by
 have hL:∀x,vC.ownBlock=some x→W0.heap.size≤x:=fun x hx=>(h.oC.lt hx).1
 have k1:Keeps (fun x=>x=zp) w9 (w9.setCell ⟨zp,4,none⟩ v'):=(Keeps.refl (fun x=>x=zp) w9).setCell (p:=⟨zp,4,none⟩) (fun _=>rfl) _
 have hzx:¬(vC.ownBlock=some zp):=fun e=>by have:=hL zp e;omega
 have k2:Keeps (fun x=>vC.ownBlock=some x∨x=zp) wr (w9.setCell ⟨zp,4,none⟩ v'):=(hk.mono (C:=fun x=>vC.ownBlock=some x∨x=zp) (fun _ _ e=> .inl e)).trans k1 (fun _ _ e=> .inr e)
 refine⟨h.k.trans k2 (fun x hx e=> ?_),(h.b.kept hk hzx).set_ 4 v',h.oN.keepsT RInt.flt k2 (fun x hx e=> ?_),h.oE.keepsT RInt.flt k2 (fun x hx e=> ?_),ho.keepsT RInt.flt k1 (fun x hx e=>by have:=ho.lt hx;have e:x=zp:=e;omega),
  h.nE,fun x hx e=>own_new hn (fun x hx=>(h.oN.lt hx).2) (fun x hx e=>h.nC x e hx) x e hx,fun x hx e=>own_new hn (fun x hx=>(h.oE.lt hx).2) (fun x hx e=>h.eC x e hx) x e hx⟩
 ·rcases e with e|e
  ·have:=hL x e;omega
  ·exact e
 ·rcases e with e|e
  ·exact h.nC x hx e
  ·have:=h.oN.lt hx;omega
 ·rcases e with e|e
  ·exact h.eC x hx e
  ·have:=h.oE.lt hx;omega
end
section
variable {w w0:World} {q t:Nat} {cs:Array Value}
theorem blk_put7 (h:Blk w q t cs) (u0 u1 u2 u3 u4 u5 u6:Value):
  Blk (((((((w.setCell ⟨q,0,none⟩ u0).setCell ⟨q,1,none⟩ u1).setCell ⟨q,2,none⟩ u2).setCell ⟨q,3,none⟩ u3).setCell ⟨q,4,none⟩ u4).setCell ⟨q,5,none⟩ u5).setCell ⟨q,6,none⟩ u6) q t (((((((cs.setIfInBounds 0 u0).setIfInBounds 1 u1).setIfInBounds 2 u2).setIfInBounds 3 u3).setIfInBounds 4 u4).setIfInBounds 5 u5).setIfInBounds 6 u6):=
 ((((((h.set_ 0 _).set_ 1 _).set_ 2 _).set_ 3 _).set_ 4 _).set_ 5 _).set_ 6 _
theorem keeps_put7 {C:Foot} (h:Keeps C w0 w) (hq:C q) (u0 u1 u2 u3 u4 u5 u6:Value):
  Keeps C w0 (((((((w.setCell ⟨q,0,none⟩ u0).setCell ⟨q,1,none⟩ u1).setCell ⟨q,2,none⟩ u2).setCell ⟨q,3,none⟩ u3).setCell ⟨q,4,none⟩ u4).setCell ⟨q,5,none⟩ u5).setCell ⟨q,6,none⟩ u6):=by
 refine Keeps.setCell (Keeps.setCell (Keeps.setCell (Keeps.setCell (Keeps.setCell (Keeps.setCell (Keeps.setCell h ?_ _) ?_ _) ?_ _) ?_ _) ?_ _) ?_ _) ?_ _<;>exact fun _=>hq
end
end
section
open Go.RowKit
theorem RStp.one:Rd.One RStp:=fun _ _ es x h u hu=>by
 rw[h]at hu
 simp[stpC]at hu
 rcases hu with rfl|rfl<;>rfl
theorem tyStp:ElemTy Tryz.prog 93 200 2 16:= .mk' Tryz.underlying93 (z:= .agg #[.int .i64 0,.int .i64 0]) (by kernel_rfl) rfl (by omega)
theorem rlast_any (r:Rou) (A:Option Addr) (c:Nat) (w:World) (h0:0≤r.ov) (h1:r.ov≤100) (h2:r.stps.length≤1000000):
  Calls Tryz.prog 32 #[.agg #[.slice A r.stps.length c,.int .i64 r.ov]] w fun e w'=>e= .returned (.int .i64 (lastR r))∧KeepsAll w w':=by
 unfold lastR
 go_enter Tryz.func32,Tryz.ntmps32
 go_wp2
 go_ret
 exact⟨rfl,(Keeps.refl _ _).alloc _⟩
set_option maxRecDepth 100000 in
set_option maxHeartbeats 4000000 in
theorem rpart_any (r:Rou) (A:Option Addr) (c a b:Nat) (w:World) (hr:RStps w (Old w) [.slice A r.stps.length c] r.stps) (hlen:r.stps.length≤24) (h0:0≤r.ov) (h2:r.ov≤2) (hab:a<b) (hb:(b:Int)≤lastR r):
  Calls Tryz.prog 97 #[.agg #[.slice A r.stps.length c,.int .i64 r.ov],.int .i64 (a:Int),.int .i64 (b:Int)] w fun e w'=>∃A' c',e= .returned (.agg #[.slice A' (partR r a b).stps.length c',.int .i64 (partR r a b).ov])∧KeepsAll w w'∧
   RStps w' (Fresh w w') [.slice A' (partR r a b).stps.length c'] (partR r a b).stps:=by
 have HLA:=Lib.hid (fun A' c' W=>rlast_any r A' c' W h0 (by omega) (by omega))
 have hc:=hr.caps
 have hbl:b+1≤r.stps.length:=by unfold lastR at hb;omega
 obtain⟨b0,o0,x0,hA,hb0,-,-,-⟩:=hr.at_ (k:=0) (by omega)
 subst hA
 have HP1:Hid ((b:Int)=lastR r→(partR r a b).ov=r.ov∧(partR r a b).stps.length=r.stps.length-a∧RStps w (Old w) [.slice (some ⟨b0,o0+a*2,none⟩) (r.stps.length-a) (c-a)] (partR r a b).stps):=fun e=>by
  unfold partR
  rw[if_pos e]
  have h1:=RSlice.partC hr (i:=a) (k:=r.stps.length) (m:=r.stps.length-a) (c':=c-a) (by omega) (Nat.le_refl _) rfl (by omega) (by omega)
  rw[List.take_length]at h1
  exact⟨rfl,by simp,h1⟩
 have HP2:Hid (¬(b:Int)=lastR r→(partR r a b).ov=0∧(partR r a b).stps.length=b+1-a∧RStps w (Old w) [.slice (some ⟨b0,o0+a*2,none⟩) (b+1-a) (c-a)] (partR r a b).stps):=fun e=>by
  unfold partR
  rw[if_neg e]
  exact⟨rfl,by rw[List.length_drop,List.length_take];omega,RSlice.partC hr (by omega) (by omega) rfl (by omega) (by omega)⟩
 have HB0:=Lib.hid hb0
 clear hr hb0
 generalize partR r a b=pr at*
 generalize lastR r=lr at*
 go_enter Tryz.func97,Tryz.ntmps97
 go_upto_region 1 with fail
 generalize hW:World.alloc (World.alloc w _) _=W
 have K0:Hid (KeepsAll w W):=by subst hW;exact((Keeps.refl _ _).alloc _).alloc _
 have BR:Hid (Blk W w.heap.size 95 #[.slice (some ⟨b0,o0,none⟩) r.stps.length c,.int .i64 r.ov]):=by subst hW;exact(Blk.new _ _ _).alloc _
 have BZ:Hid (Blk W (w.heap.size+1) 95 #[.slice none 0 0,.int .i64 0]):=by subst hW;exact Blk.new' _ _ _ (by simp)
 clear hW
 have hNw:w.heap.size=w.heap.size:=rfl
 generalize hN:w.heap.size=N at*
 clear hNw
 have r0:=BR.out.cell 0
 have r1:=BR.out.cell 1
 simp at r0 r1
 have hzr:=BR.out.lt
 go_upto_if 10 with(go_at_call 32;refine(HLA.out _ _ _).mono ?_;rintro e w3 ⟨rfl,k3⟩)
 have K3:Hid (KeepsAll w w3):=K0.out.trA k3
 have CR:=Lib.hid (BR.out.kept k3 (by simp))
 have CZ:=Lib.hid (BZ.out.kept k3 (by simp))
 clear k3 r0 r1 BR BZ K0 hzr HLA
 have r0:=CR.out.cell 0
 have r1:=CR.out.cell 1
 simp at r0 r1
 have hzr:=CR.out.lt
 have hac:a≤r.stps.length:=by omega
 have hbc:b+1≤c:=by omega
 have hab1:a≤b+1:=by omega
 have hw3:=K3.out.size
 by_cases hl:(b:Int)=lr
 ·obtain⟨e1,e2,e3⟩:=HP1.out hl
  have HR3:=Lib.hid (K3.out.rdA (RSlice.ok RStp.ok) e3)
  have t1:((b:Int)==lr)=true:=beq_iff_eq.2 hl
  have HE1:=Lib.hid e1
  have HE2:=Lib.hid e2
  clear hl HP1 HP2 e1 e2 e3
  have HRX:=Lib.hid (by have:=HR3.out;rwa[←HE2.out]at this:RStps w3 (Old w3) [.slice (some ⟨b0,o0+a*2,none⟩) pr.stps.length (c-a)] pr.stps)
  have hln:pr.stps.length≤24:=by rw[HE2.out];omega
  go_upto_region 2 with fail
  refine wp_region_lexB (fun w'=>∃x:Ext w3,w'=x.val) [0,1,2,3,5,6,4,7,8] (by kernel_rfl) (by kernel_rfl) ⟨⟨_,(Keeps.refl _ _).drew⟩,rfl⟩ ?_
  have y0:=Ext.cell r0
  have y1:=Ext.cell r1
  iterate 6 (refine lex_q _ rfl rfl rfl ?_;go_big_quiet_step (fail);refine wpQuiet_nil ?_)
  clear y0 y1 r0 r1
  have KD:Hid (KeepsAll w3 w3.drew):=(Keeps.refl _ _).drew
  have hdz:w3.drew.heap.size=w3.heap.size:=rfl
  generalize w3.drew=wd at*
  have DZ:=Lib.hid (CZ.out.kept KD.out (by simp))
  have HRW:=Lib.hid (KD.out.rdA (RSlice.ok RStp.ok) HRX.out)
  have HFL:Hid (∀(es:List Value) (x:Stp),RStp wd (Old wd) es x→RStp wd (fun _=>False) es x):=fun _ _ h=>h
  have KWW:Hid (KeepsAll w wd):=K3.out.trA KD.out
  refine lex_a _ rfl rfl true (by kernel_rfl) ?_
  go_wp2_with(at_builtin;go_loud(refine wpList_append_M tyStp RStp.ok RStp.one rfl (.const (.slice none 0 0)) (.tmp 14) rfl (OwnL.nil (base:=wd.heap.size) (lo:=wd.heap.size)) rfl (ys:=pr.stps) (S:=Old wd) (S2:=fun _=>False) (by rw[HE2.out];rfl) HRW.out HFL.out (fun _ h=>h.elim) (by simp;omega) (by simp;omega) (Nat.le_refl _) ?_;intro v4 w4 HO4 HK4 HA4;rw[List.nil_append]at HO4;have K4:KeepsAll wd w4:=HK4.mono (fun _ _ h=>(by simp[Value.ownBlock]at h));obtain⟨A4,c4,hv4,hc4,hc44⟩:=HO4.form;subst hv4;have EZ:=Lib.hid (DZ.out.kept K4 (by simp));have f0:=EZ.out.frozen 0;have f1:=EZ.out.frozen 1;have z0:=EZ.out.cell 0;have z1:=EZ.out.cell 1;simp at z0 z1;have HO5:=Lib.hid HO4;have K5:=Lib.hid K4;clear HO4 HK4 HA4 K4))
  refine⟨fun _=>⟨⟨_,KD.out.trA K5.out⟩,rfl⟩,?_⟩
  refine lex_q _ rfl rfl rfl ?_
  go_big_quiet_step (fail)
  refine wpQuiet_nil ?_
  refine lex_a _ rfl rfl false (by kernel_rfl) ?_
  go_wp2
  (try refine⟨fun h=>(by cases h),?_⟩)
  simp only[wpLex]
  refine NoPanic.normal ?_
  go_wp2_with fail
  generalize hW9:World.setCell (World.setCell w4 _ _) _ _=W9
  have B9:Hid (Blk W9 (N+1) 95 #[.slice A4 pr.stps.length c4,.int .i64 r.ov]):=by subst hW9;exact(EZ.out.set_ 0 _).set_ 1 _
  have KZ:Hid (Keeps (fun x=>x=N+1) w4 W9):=by subst hW9;exact Keeps.setCell (C:=fun x=>x=N+1) (p:=⟨N+1,1,none⟩) (Keeps.setCell (C:=fun x=>x=N+1) (p:=⟨N+1,0,none⟩) (Keeps.refl (fun x=>x=N+1) w4) (fun _=>rfl) _) (fun _=>rfl) _
  clear hW9 f0 f1 z0 z1
  have z0:=B9.out.cell 0
  have z1:=B9.out.cell 1
  simp at z0 z1
  have hN3:N+1<wd.heap.size:=DZ.out.lt
  refine bodyPost_ret (v:= .agg #[.slice A4 pr.stps.length c4,.int .i64 r.ov]) (by simp[results,Tryz.results97,go_sem,z0,z1]) rfl ?_
  refine⟨A4,c4,by rw[HE1.out],(KWW.out.trA K5.out).trans KZ.out (fun x hx e=>by have e:x=N+1:=e;omega),?_⟩
  exact(HO5.out.keepsT RStp.flt KZ.out (fun x hx e=>by have:=(HO5.out.lt hx).1;have e:x=N+1:=e;omega)).readT RStp.flt (S:=Fresh w W9) (fun x hx=>⟨by have:=(HO5.out.lt hx).1;omega,Nat.lt_of_lt_of_le (HO5.out.lt hx).2 KZ.out.size⟩)
 ·obtain⟨e1,e2,e3⟩:=HP2.out hl
  have HR3:=Lib.hid (K3.out.rdA (RSlice.ok RStp.ok) e3)
  have t1:((b:Int)==lr)=false:=beq_eq_false_iff_ne.2 hl
  have HE1:=Lib.hid e1
  have HE2:=Lib.hid e2
  clear HP1 HP2 e1 e2 e3
  have HRW:=Lib.hid (by have:=HR3.out;rwa[←HE2.out]at this:RStps w3 (Old w3) [.slice (some ⟨b0,o0+a*2,none⟩) pr.stps.length (c-a)] pr.stps)
  have hln:pr.stps.length≤24:=by rw[HE2.out];omega
  have DZ:=Lib.hid CZ.out
  have HFL:Hid (∀(es:List Value) (x:Stp),RStp w3 (Old w3) es x→RStp w3 (fun _=>False) es x):=fun _ _ h=>h
  have KWW:=Lib.hid K3.out
  clear hl
  go_wp2_with(at_builtin;go_loud(refine wpList_append_M tyStp RStp.ok RStp.one rfl (.const (.slice none 0 0)) (.tmp 24) rfl (OwnL.nil (base:=w3.heap.size) (lo:=w3.heap.size)) rfl (ys:=pr.stps) (S:=Old w3) (S2:=fun _=>False) (by rw[HE2.out];rfl) HRW.out HFL.out (fun _ h=>h.elim) (by simp;omega) (by simp;omega) (Nat.le_refl _) ?_;intro v4 w4 HO4 HK4 HA4;rw[List.nil_append]at HO4;have K4:KeepsAll w3 w4:=HK4.mono (fun _ _ h=>(by simp[Value.ownBlock]at h));obtain⟨A4,c4,hv4,hc4,hc44⟩:=HO4.form;subst hv4;have EZ:=Lib.hid (DZ.out.kept K4 (by simp));have f0:=EZ.out.frozen 0;have f1:=EZ.out.frozen 1;have z0:=EZ.out.cell 0;have z1:=EZ.out.cell 1;simp at z0 z1;have HO5:=Lib.hid HO4;have K5:=Lib.hid K4;clear HO4 HK4 HA4 K4))
  generalize hW9:World.setCell (World.setCell w4 _ _) _ _=W9
  have B9:Hid (Blk W9 (N+1) 95 #[.slice A4 pr.stps.length c4,.int .i64 0]):=by subst hW9;exact(EZ.out.set_ 0 _).set_ 1 _
  have KZ:Hid (Keeps (fun x=>x=N+1) w4 W9):=by subst hW9;exact Keeps.setCell (C:=fun x=>x=N+1) (p:=⟨N+1,1,none⟩) (Keeps.setCell (C:=fun x=>x=N+1) (p:=⟨N+1,0,none⟩) (Keeps.refl (fun x=>x=N+1) w4) (fun _=>rfl) _) (fun _=>rfl) _
  clear hW9 f0 f1 z0 z1
  have z0:=B9.out.cell 0
  have z1:=B9.out.cell 1
  simp at z0 z1
  have hN3:N+1<w3.heap.size:=DZ.out.lt
  refine bodyPost_ret (v:= .agg #[.slice A4 pr.stps.length c4,.int .i64 0]) (by simp[results,Tryz.results97,go_sem,z0,z1]) rfl ?_
  refine⟨A4,c4,by rw[HE1.out],(KWW.out.trA K5.out).trans KZ.out (fun x hx e=>by have e:x=N+1:=e;omega),?_⟩
  exact(HO5.out.keepsT RStp.flt KZ.out (fun x hx e=>by have:=(HO5.out.lt hx).1;have e:x=N+1:=e;omega)).readT RStp.flt (S:=Fresh w W9) (fun x hx=>⟨by have:=(HO5.out.lt hx).1;omega,Nat.lt_of_lt_of_le (HO5.out.lt hx).2 KZ.out.size⟩)
end
end Go.Proofs.YtcbcegdidlefiaaGreat
