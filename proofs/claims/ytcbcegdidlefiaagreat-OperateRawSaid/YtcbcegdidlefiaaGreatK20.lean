/- Contract of Make (reference, layer 30) at a route that fits. Conditions: as the theorem says. The course of a route, step by step: the numbers of its points as they come up. No program in sight. A case in memory; contracts of Route, Last (reference, layer 39), Stop, Start (reference, layer 9). Conditions: as each theorem says. A course and a model in memory; contracts of inRange and stages (operate, program). Conditions: as each theorem says. -/
import Derived.Test.YtcbcegdidlefiaaGreatK01
import Derived.Test.YtcbcegdidlefiaaGreatK17
import Derived.Test.YtcbcegdidlefiaaGreatK18
import Derived.Test.YtcbcegdidlefiaaGreatK19
import Derived.Test.YtcbcegdidlefiaaGreatK06
import Derived.Deep.Cut
namespace Go.Proofs.YtcbcegdidlefiaaGreat
section
open Go.RowKit
set_option maxRecDepth 100000 in
set_option maxHeartbeats 8000000 in
theorem rmake_any (L:Lay) (v:LV) (r:Rou) (s:Stk) (A:Option Addr) (c a b:Nat) (w:World) (h:RLay w (Old w) v L) (hr:RStps w (Old w) [.slice A r.stps.length c] r.stps) (hlen:LayLen L) (hmot:motErr L r s=0) (hab:a<b) (hb:(b:Int)≤lastR r):
  Calls Tryz.prog 31 #[.agg (v.cs L),.agg #[.slice A r.stps.length c,.int .i64 r.ov],.agg (stkC s),.int .i64 (a:Int),.int .i64 (b:Int)] w fun e w'=>∃vN vE vC,
   e= .returned (.tuple #[.agg #[.int .i64 (a:Int),.int .i64 (b:Int),vN,vE,vC,.int .i64 (profP (pcesOf L r) s (decide (0<r.ov)) a b).ovl,.int .i64 (profP (pcesOf L r) s (decide (0<r.ov)) a b).run],.int .i64 0])∧KeepsAll w w'∧
   RInts w' (Fresh w w') [vN] (profP (pcesOf L r) s (decide (0<r.ov)) a b).need∧RInts w' (Fresh w w') [vE] (profP (pcesOf L r) s (decide (0<r.ov)) a b).ent∧RInts w' (Fresh w w') [vC] (profP (pcesOf L r) s (decide (0<r.ov)) a b).clr:=by
 have HF:=Lib.hid (fun W k1 k2=>rmotFits_any L v r s A c W k1 k2 hlen)
 have hfit:=motErr_fit hmot
 have hpf:=fit_part hfit hab hb
 have HPO:=Lib.hid (fitErr_ok hpf)
 have HPS:=Lib.hid (fun A' c' W k1 k2=>passing_any L v (partR r a b) s A' c' W k1 k2 hlen hpf)
 have HFI:=Lib.hid (fitErr_ok hfit)
 have HFO:=(fitErr_ok (motErr_fit hmot)).rou
 have g41:=HFO.len
 have g42:=HFO.ov2
 have g43:=HFO.ov0
 have HPA:=Lib.hid (fun A' c' W k=>rpart_any r A' c' a b W k g41 g43 g42 hab hb)
 have HPQ:=Lib.hid (HFI.out.rou.partR_pces hab hb)
 have HPL:=Lib.hid (HFI.out.rou.part_len hab hb)
 have HPV:=Lib.hid (HFI.out.rou.part_ov (a:=a) hb)
 have hpl24:(partR r a b).stps.length≤24:=HPO.out.rou.len
 have HLA:=Lib.hid (fun A' c' W=>rlast_any r A' c' W g43 (by omega) (by omega))
 rw[hmot]at HF
 have hb24:b≤23:=by unfold lastR at hb;omega
 have HL:=Lib.hid h
 have HR:=Lib.hid hr
 have hc:=hr.caps
 clear h hr hmot HFO hfit hpf
 obtain⟨A1,A2,A3,A4,ca1,ca2,ca3,ca4⟩:=v
 unfold LV.cs at HF HPS⊢
 simp only[]at HF HPS⊢
 have HE:Hid (∀k,k<(pcesOf L (partR r a b)).length→0≤entR (pcesOf L (partR r a b)) s k∧entR (pcesOf L (partR r a b)) s k≤100000000):=fun k hk=>HPO.out.ent_range hk
 have HLE:Hid (∀k,k<(pcesOf L (partR r a b)).length→0≤leaR (pcesOf L (partR r a b)) s k∧leaR (pcesOf L (partR r a b)) s k≤100000000):=fun k hk=>HPO.out.lea_range hk
 have HPP:Hid (profP (pcesOf L r) s (decide (0<r.ov)) a b=⟨a,b,tab (b-a) fun k=>entR (pcesOf L (partR r a b)) s k/1000-16,tab (b-a) fun k=>entR (pcesOf L (partR r a b)) s (k+1)/1000,
   tab (b-a) fun k=>(leaR (pcesOf L (partR r a b)) s k+999)/1000+4,if decide (0<(partR r a b).ov)then entR (pcesOf L (partR r a b)) s (b-a)/1000-16 else 0,runR (pcesOf L (partR r a b)) s⟩):=by
  show _=_;unfold profP;rw[HPQ.out,HPV.out]
 have HPV2:Hid ((0<(partR r a b).ov)↔((b:Int)=lastR r∧0<r.ov)):=by
  show _↔_
  unfold partR
  split
  ·rename_i e;simp[e]
  ·rename_i e;simp[e]
 rw[HPP.out]
 generalize hQ:pcesOf L (partR r a b)=Q at*
 generalize hPR:partR r a b=pr at*
 obtain⟨sn,sl,sv,sa,sb⟩:=s
 generalize hst:(⟨sn,sl,sv,sa,sb⟩:Stk)=s at*
 have ES:Hid (stkC s= #[.string (mkS sn),.int .i64 sl,.int .i64 sv,.int .i64 sa,.int .i64 sb]):=by subst hst;rfl
 rw[ES.out]at HF HPS⊢
 clear hst ES
 generalize lastR r=lr at*
 go_enter Tryz.func31,Tryz.ntmps31
 go_upto_region 1 with fail
 generalize hW1:World.alloc w _=W1
 have K1:Hid (KeepsAll w W1):=by subst hW1;exact(Keeps.refl _ _).alloc _
 have B1:Hid (Blk W1 w.heap.size 27 #[.slice A1 L.sts.length ca1,.slice A2 L.pts.length ca2,.slice A3 L.secs.length ca3,.slice A4 L.lks.length ca4]):=by subst hW1;exact Blk.new _ _ _
 have hz1:W1.heap.size=w.heap.size+1:=by subst hW1;simp
 clear hW1
 generalize hN:w.heap.size=N at*
 generalize hW:World.alloc (World.alloc (World.alloc W1 _) _) _=W
 have K0:Hid (KeepsAll w W):=by subst hW;exact((K1.out.alloc _).alloc _).alloc _
 have B0:Hid (Blk W N 27 #[.slice A1 L.sts.length ca1,.slice A2 L.pts.length ca2,.slice A3 L.secs.length ca3,.slice A4 L.lks.length ca4]):=by subst hW;exact((B1.out.alloc _).alloc _).alloc _
 have BR:Hid (Blk W (N+1) 95 #[.slice A r.stps.length c,.int .i64 r.ov]):=by subst hW;exact((Blk.new' _ _ _ hz1.symm).alloc _).alloc _
 have BK:Hid (Blk W (N+1+1) 103 #[.string (mkS sn),.int .i64 sl,.int .i64 sv,.int .i64 sa,.int .i64 sb]):=by subst hW;exact(Blk.new' _ _ _ (by simp[hz1])).alloc _
 have BZ:Hid (Blk W (N+1+1+1) 99 #[.int .i64 0,.int .i64 0,.slice none 0 0,.slice none 0 0,.slice none 0 0,.int .i64 0,.int .i64 0]):=by subst hW;exact Blk.new' _ _ _ (by simp[hz1])
 clear hW K1 B1 hz1
 have l0:=B0.out.cell 0
 have l1:=B0.out.cell 1
 have l2:=B0.out.cell 2
 have l3:=B0.out.cell 3
 have s0:=BK.out.cell 0
 have s1:=BK.out.cell 1
 have s2:=BK.out.cell 2
 have s3:=BK.out.cell 3
 have s4:=BK.out.cell 4
 have r0:=BR.out.cell 0
 have r1:=BR.out.cell 1
 simp at l0 l1 l2 l3 s0 s1 s2 s3 s4 r0 r1
 have hzl:=B0.out.lt
 have hzr:=BR.out.lt
 have hzs:=BK.out.lt
 go_upto_region 2 with(go_at_call 95;with_reducible refine(HF.out _ (HL.out.kept K0.out) (K0.out.rdA (RSlice.ok RStp.ok) HR.out)).mono ?_;rintro e w2 ⟨rfl,k2⟩)
 have K2:Hid (KeepsAll w w2):=K0.out.trA k2
 have C0:=Lib.hid (B0.out.kept k2 (by simp))
 have CR:=Lib.hid (BR.out.kept k2 (by simp))
 have CK:=Lib.hid (BK.out.kept k2 (by simp))
 have CZ:=Lib.hid (BZ.out.kept k2 (by simp))
 clear k2 l0 l1 l2 l3 s0 s1 s2 s3 s4 r0 r1 B0 BR BK BZ K0 HF hzl hzr hzs
 have r0:=CR.out.cell 0
 have r1:=CR.out.cell 1
 simp at r0 r1
 have hzr:=CR.out.lt
 have t1:decide ((a:Int)<0)=false:=by rw[decide_eq_false_iff_not];omega
 have t2:decide ((b:Int)≤(a:Int))=false:=by rw[decide_eq_false_iff_not];omega
 have t3:decide (lr<(b:Int))=false:=by rw[decide_eq_false_iff_not];omega
 have t4:¬(b:Int)≤(a:Int):=by omega
 have t5:¬b≤a:=by omega
 go_upto_region 6 with(go_at_call 32;refine(HLA.out _ _ _).mono ?_;rintro e w3 ⟨rfl,k3⟩)
 have K3:Hid (KeepsAll w w3):=K2.out.trA k3
 have D0:=Lib.hid (C0.out.kept k3 (by simp))
 have DR:=Lib.hid (CR.out.kept k3 (by simp))
 have DK:=Lib.hid (CK.out.kept k3 (by simp))
 have DZ:=Lib.hid (CZ.out.kept k3 (by simp))
 clear k3 r0 r1 C0 CR CK CZ K2 hzr t1 t2 t3 t4 t5
 have l0:=D0.out.cell 0
 have l1:=D0.out.cell 1
 have l2:=D0.out.cell 2
 have l3:=D0.out.cell 3
 have s0:=DK.out.cell 0
 have s1:=DK.out.cell 1
 have s2:=DK.out.cell 2
 have s3:=DK.out.cell 3
 have s4:=DK.out.cell 4
 have r0:=DR.out.cell 0
 have r1:=DR.out.cell 1
 simp at l0 l1 l2 l3 s0 s1 s2 s3 s4 r0 r1
 refine wp_region_lexB (fun w'=>∃x:Ext w3,w'=x.val) [0,1,2,3,5,4,6,7,8,9,10,11,12,13,14,15] (by kernel_rfl) (by kernel_rfl) ⟨⟨_,(Keeps.refl _ _).drew⟩,rfl⟩ ?_
 have y0:=Ext.cell l0
 have y1:=Ext.cell l1
 have y2:=Ext.cell l2
 have y3:=Ext.cell l3
 have y4:=Ext.cell s0
 have y5:=Ext.cell s1
 have y6:=Ext.cell s2
 have y7:=Ext.cell s3
 have y8:=Ext.cell s4
 have y9:=Ext.cell r0
 have y10:=Ext.cell r1
 iterate 5 (refine lex_q _ rfl rfl rfl ?_;go_big_quiet_step (fail);refine wpQuiet_nil ?_)
 clear y0 y1 y2 y3 y4 y5 y6 y7 y8 y9 y10 l0 l1 l2 l3 s0 s1 s2 s3 s4 r0 r1
 have KD:Hid (KeepsAll w3 w3.drew):=(Keeps.refl _ _).drew
 generalize w3.drew=wd at*
 refine lex_a _ rfl rfl true (by kernel_rfl) ?_
 go_wp2_with fail
 refine(HPA.out _ _ wd (KD.out.rdA (RSlice.ok RStp.ok) (K3.out.rdA (RSlice.ok RStp.ok) HR.out))).mono ?_
 rintro e w4 ⟨A',c',rfl,k4,hrp⟩
 have K34:Hid (KeepsAll w3 w4):=KD.out.trA k4
 have HRP:Hid (RStps w4 (Old w4) [.slice A' pr.stps.length c'] pr.stps):=(RSlice.ok RStp.ok).mono hrp (fun b hb=>hb.2) (fun _ _=>rfl)
 clear k4 hrp
 go_wp2
 refine⟨fun _=>⟨⟨_,K34.out⟩,rfl⟩,?_⟩
 refine lex_a _ rfl rfl true (by kernel_rfl) ?_
 go_wp2_with fail
 refine(HPS.out _ _ w4 (HL.out.kept (K3.out.trA K34.out)) HRP.out).mono ?_
 rintro e w7 ⟨A5,n5,c5,A6,n6,c6,rfl,k7,R1,R2⟩
 have K37:Hid (KeepsAll w3 w7):=K34.out.trA k7
 have HK47:=Lib.hid k7
 clear k7
 go_wp2
 refine⟨fun _=>⟨⟨_,K37.out⟩,rfl⟩,?_⟩
 iterate 9 (refine lex_q _ rfl rfl rfl ?_;go_big_quiet_step (fail);refine wpQuiet_nil ?_)
 simp only[wpLex]
 refine NoPanic.normal ?_
 have K7:Hid (KeepsAll w w7):=K3.out.trA K37.out
 have FR:=Lib.hid (DR.out.kept K37.out (by simp))
 have FZ:=Lib.hid (DZ.out.kept K37.out (by simp))
 clear D0 DR DK DZ HRP HPA HPS
 go_upto_region 10 with fail
 have hn5:=R1.len
 have hn6:=R2.len
 rw[tab_len]at hn5 hn6
 subst hn5 hn6
 have HR1:=Lib.hid R1
 have HR2:=Lib.hid R2
 clear R1 R2
 generalize hW8:World.alloc w7 _=W8
 have K78:Hid (KeepsAll w7 W8):=by subst hW8;exact(Keeps.refl _ _).alloc _
 have BQ:Hid (Blk W8 w7.heap.size 99 #[.int .i64 a,.int .i64 b,.slice none 0 0,.slice none 0 0,.slice none 0 0,.int .i64 0,.int .i64 (runR Q s)]):=by subst hW8;exact Blk.new _ _ _
 have hW8s:Hid (W8.heap.size=w7.heap.size+1):=by subst hW8;show _=_;simp
 clear hW8
 have hzw:N+1+1+1<w7.heap.size:=FZ.out.lt
 have hww:=HK47.out.size
 have hw34:=K34.out.size
 generalize hzp:w7.heap.size=zp at*
 go_upto_region 11 with fail
 have hsub:(b:Int)-(a:Int)=((b-a:Nat):Int):=by omega
 rw[hsub]
 clear hsub
 have HDQ:Hid (b-a+1=Q.length):=by show _=_;rw[HPL.out];omega
 have hQ24:Q.length≤24:=by rw[HPL.out];omega
 generalize hD:b-a=D at*
 have hDQ:=HDQ.out
 go_wp2_with fail
 go_loopw [19] (fun i wr=>∃(k:Nat) (vN vE vC:Value),k≤D∧i= .int .i64 (k:Int)∧PrS W8 wr zp a b (runR Q s) vN vE vC (tab k fun k=>entR Q s k/1000-16) (tab k fun k=>entR Q s (k+1)/1000) (tab k fun k=>(leaR Q s k+999)/1000+4)) (fun i _=>D-(intOf i).toNat)
 case atStart=>exact⟨0,_,_,_,Nat.zero_le _,rfl,⟨Keeps.refl _ _,BQ.out,OwnL.nil,OwnL.nil,OwnL.nil,by simp[Value.ownBlock],by simp[Value.ownBlock],by simp[Value.ownBlock]⟩⟩
 case round=>
  obtain⟨k,vN,vE,vC,hk,rfl,hp⟩:=hrel
  have HP:=Lib.hid hp
  clear hp
  by_cases hlt:k<D
  ·obtain⟨AN,cN,rfl,hN1,hN2⟩:=HP.out.oN.form
   obtain⟨AE,cE,rfl,hE1,hE2⟩:=HP.out.oE.form
   obtain⟨AC,cC,rfl,hC1,hC2⟩:=HP.out.oC.form
   have HT1:Hid ((tab (k+1) fun k=>entR Q s k/1000-16)=(tab k fun k=>entR Q s k/1000-16)++ [entR Q s k/1000-16]):=tab_succ _ _
   have HT2:Hid ((tab (k+1) fun k=>entR Q s (k+1)/1000)=(tab k fun k=>entR Q s (k+1)/1000)++ [entR Q s (k+1)/1000]):=tab_succ _ _
   have HT3:Hid ((tab (k+1) fun k=>(leaR Q s k+999)/1000+4)=(tab k fun k=>(leaR Q s k+999)/1000+4)++ [(leaR Q s k+999)/1000+4]):=tab_succ _ _
   have hlN:=tab_len k fun k=>entR Q s k/1000-16
   have hlE:=tab_len k fun k=>entR Q s (k+1)/1000
   have hlC:=tab_len k fun k=>(leaR Q s k+999)/1000+4
   generalize hHTN:(tab (k+1) fun k=>entR Q s k/1000-16)=tN1 at*
   have HTN:=Lib.hid hHTN
   clear hHTN
   generalize hHTE:(tab (k+1) fun k=>entR Q s (k+1)/1000)=tE1 at*
   have HTE:=Lib.hid hHTE
   clear hHTE
   generalize hHTC:(tab (k+1) fun k=>(leaR Q s k+999)/1000+4)=tC1 at*
   have HTC:=Lib.hid hHTC
   clear hHTC
   generalize (tab k fun k=>entR Q s k/1000-16)=tN at*
   generalize (tab k fun k=>entR Q s (k+1)/1000)=tE at*
   generalize (tab k fun k=>(leaR Q s k+999)/1000+4)=tC at*
   have hN24:tN.length≤24:=by omega
   have hE24:tE.length≤24:=by omega
   have hC24:tC.length≤24:=by omega
   have HLN:=Lib.hid hlN
   have HLE2:=Lib.hid hlE
   have HLC:=Lib.hid hlC
   clear hlN hlE hlC
   obtain⟨hek0,hek1⟩:=HE.out k (by omega)
   obtain⟨hen0,hen1⟩:=HE.out (k+1) (by omega)
   obtain⟨hlk0,hlk1⟩:=HLE.out k (by omega)
   obtain⟨be,oe,x,rfl,hbe,hx,c0⟩:=HR1.out.at_ (k:=k) (by rw[tab_len];omega)
   obtain⟨be2,oe2,x2,hA52,-,hx2,c1⟩:=HR1.out.at_ (k:=k+1) (by rw[tab_len];omega)
   injection hA52 with e
   injection e with e1 e2
   subst e1 e2
   obtain⟨bl,ol,x3,rfl,hbl,hx3,c2⟩:=HR2.out.at_ (k:=k) (by rw[tab_len];omega)
   rw[tab_get (by omega)]at hx hx2 hx3
   obtain rfl:=Option.some.inj hx
   obtain rfl:=Option.some.inj hx2
   obtain rfl:=Option.some.inj hx3
   clear hx hx2 hx3
   obtain⟨X,hX⟩:=Int.eq_ofNat_of_zero_le hek0
   obtain⟨Y,hY⟩:=Int.eq_ofNat_of_zero_le hen0
   obtain⟨Z,hZ⟩:=Int.eq_ofNat_of_zero_le hlk0
   rw[hX]at c0 HT1 hek1
   rw[hY]at c1 HT2 hen1
   rw[hZ]at c2 HT3 hlk1
   have hbe1:be<zp:=by have:=hbe.2;omega
   have hbl1:bl<zp:=by have:=hbl.2;omega
   have d0:=K78.out.cellA (by show be<_;omega) c0
   have d1:=K78.out.cellA (by show be<_;omega) c1
   have d2:=K78.out.cellA (by show bl<_;omega) c2
   have q0:Int.tdiv (X:Int) 1000=((X/1000:Nat):Int):=by rw[show(1000:Int)=((1000:Nat):Int)from rfl,←Int.ofNat_tdiv]
   have q1:Int.tdiv (Y:Int) 1000=((Y/1000:Nat):Int):=by rw[show(1000:Int)=((1000:Nat):Int)from rfl,←Int.ofNat_tdiv]
   have q2:Int.tdiv ((Z:Int)+999) 1000=(((Z+999)/1000:Nat):Int):=by rw[show(Z:Int)+999=((Z+999:Nat):Int)from by omega,show(1000:Int)=((1000:Nat):Int)from rfl,←Int.ofNat_tdiv]
   have v0:(X:Int)/1000-16=((X/1000:Nat):Int)-16:=by omega
   have v1:(Y:Int)/1000=((Y/1000:Nat):Int):=by omega
   have v2:((Z:Int)+999)/1000+4=(((Z+999)/1000:Nat):Int)+4:=by omega
   rw[v0]at HT1
   rw[v1]at HT2
   rw[v2]at HT3
   have m0:X/1000≤100000:=by omega
   have m1:Y/1000≤100000:=by omega
   have m2:(Z+999)/1000≤200000:=by omega
   have hZb:Z≤100000000:=by omega
   generalize X/1000=qx at*
   generalize Y/1000=qy at*
   generalize (Z+999)/1000=qz at*
   clear v0 v1 v2 c0 c1 c2 hek0 hen0 hlk0 hek1 hen1 hlk1 hX hY hZ
   have HD0:=Lib.hid d0
   have HD1:=Lib.hid d1
   have HD2:=Lib.hid d2
   clear d0 d1 d2
   have hz8:zp<W8.heap.size:=by have:=hW8s.out;omega
   have hws:=HP.out.k.size
   have n0:¬((Value.slice AN tN.length cN).ownBlock=some zp):=fun e=>by have:=(HP.out.oN.lt e).1;omega
   have n1:¬((Value.slice AN tN.length cN).ownBlock=some be):=fun e=>by have:=(HP.out.oN.lt e).1;omega
   have p2:=HP.out.b.cell 2
   simp at p2
   have d0:=(HP.out.k.cell (p:=⟨be,oe+k,none⟩) (by show be<_;omega) (by show¬be=zp;omega)).trans HD0.out
   go_upto_region 14 with fail
   refine wp_region_lexB (fun w'=>∃x:ExtC (fun b=>(Value.slice AN tN.length cN).ownBlock=some b) wr,w'=x.val) [0,1,2,3,4,5,6,7,8,9,10,11] (by kernel_rfl) (by kernel_rfl) (ExtC.start _ _) ?_
   have y1:=ExtC.cell (C:=fun b=>(Value.slice AN tN.length cN).ownBlock=some b) p2 n0
   have y2:=ExtC.cell (C:=fun b=>(Value.slice AN tN.length cN).ownBlock=some b) d0 n1
   iterate 8 (refine lex_q _ rfl rfl rfl ?_;go_big_quiet_step (fail);refine wpQuiet_nil ?_)
   clear y1 y2 p2 d0
   refine lex_a _ rfl rfl true (by kernel_rfl) ?_
   go_wp2
   refine⟨fun _=>⟨⟨_,((Keeps.refl _ _).alloc _).drew⟩,rfl⟩,?_⟩
   generalize hWa:(World.alloc _ _).drew=Wa
   have ka:KeepsAll wr Wa:=by subst hWa;exact((Keeps.refl _ _).alloc _).drew
   have HBV:Hid (Blk Wa wr.heap.size 3 [.int .i64 ((qx:Int)-16)].toArray):=by subst hWa;exact Blk.new _ _ _
   have HP1:=Lib.hid (HP.out.keep ka)
   have hza:=HP1.out.k.size
   clear hWa
   refine lex_a _ rfl rfl true (by kernel_rfl) ?_
   go_wp2_with(at_builtin;go_loud(refine wpList_append_L tyInt RInt.ok rfl (.tmp 71) (.tmp 78) rfl HP1.out.oN rfl _ [.int .i64 ((qx:Int)-16)] rfl HBV.out rfl ((qx:Int)-16) (S:=fun _=>False) rfl (fun _ h=>h.elim) (by simp[Value.oneCell']) (by omega) (by omega) hza ?_;intro v8 w8 HO8 HK8 HA8;obtain⟨A8,c8,hv8,hv81,hv82⟩:=HO8.form;rw[List.length_append,List.length_singleton]at hv8;subst hv8))
   have HP1':=Lib.hid (HP1.out.putN hz8 HO8 HK8 HA8)
   rw[←HT1.out]at HP1'
   have K8:=(ka.mono (C:=fun b=>(Value.slice AN tN.length cN).ownBlock=some b) (fun _ _ h=>h.elim)).trans HK8 (fun _ _ h=>h)
   have bz8:=HP1.out.b.kept HK8 n0
   have c82:=bz8.cell 2
   have f82:=bz8.frozen 2
   simp at c82
   refine⟨fun _=>⟨⟨_,K8⟩,rfl⟩,?_⟩
   clear K8 bz8 HO8 HK8 HA8 HBV HP1 HP ka hza
   refine lex_q _ rfl rfl rfl ?_
   go_big_quiet_step (fail)
   refine wpQuiet_nil ?_
   refine lex_a _ rfl rfl false (by kernel_rfl) ?_
   go_wp2
   (try refine⟨fun h=>(by cases h),?_⟩)
   simp only[wpLex]
   refine NoPanic.normal ?_
   generalize hWb:World.setCell w8 _ _=wb1
   rw[hWb]at HP1'
   clear hWb c82 f82 hv81 hv82
   have hws:=HP1'.out.k.size
   have n0:¬((Value.slice AE tE.length cE).ownBlock=some zp):=fun e=>by have:=(HP1'.out.oE.lt e).1;omega
   have n1:¬((Value.slice AE tE.length cE).ownBlock=some be):=fun e=>by have:=(HP1'.out.oE.lt e).1;omega
   have p2:=HP1'.out.b.cell 3
   simp at p2
   have d0:=(HP1'.out.k.cell (p:=⟨be,oe+(k+1),none⟩) (by show be<_;omega) (by show¬be=zp;omega)).trans HD1.out
   go_upto_region 15 with fail
   refine wp_region_lexB (fun w'=>∃x:ExtC (fun b=>(Value.slice AE tE.length cE).ownBlock=some b) wb1,w'=x.val) [0,1,2,3,4,5,6,7,8,9,10,11] (by kernel_rfl) (by kernel_rfl) (ExtC.start _ _) ?_
   have y1:=ExtC.cell (C:=fun b=>(Value.slice AE tE.length cE).ownBlock=some b) p2 n0
   have y2:=ExtC.cell (C:=fun b=>(Value.slice AE tE.length cE).ownBlock=some b) d0 n1
   iterate 8 (refine lex_q _ rfl rfl rfl ?_;go_big_quiet_step (fail);refine wpQuiet_nil ?_)
   clear y1 y2 p2 d0
   refine lex_a _ rfl rfl true (by kernel_rfl) ?_
   go_wp2
   refine⟨fun _=>⟨⟨_,((Keeps.refl _ _).alloc _).drew⟩,rfl⟩,?_⟩
   generalize hWa:(World.alloc _ _).drew=Wa
   have ka:KeepsAll wb1 Wa:=by subst hWa;exact((Keeps.refl _ _).alloc _).drew
   have HBV:Hid (Blk Wa wb1.heap.size 3 [.int .i64 ((qy:Int))].toArray):=by subst hWa;exact Blk.new _ _ _
   have HP2:=Lib.hid (HP1'.out.keep ka)
   have hza:=HP2.out.k.size
   clear hWa
   refine lex_a _ rfl rfl true (by kernel_rfl) ?_
   go_wp2_with(at_builtin;go_loud(refine wpList_append_L tyInt RInt.ok rfl (.tmp 82) (.tmp 89) rfl HP2.out.oE rfl _ [.int .i64 ((qy:Int))] rfl HBV.out rfl ((qy:Int)) (S:=fun _=>False) rfl (fun _ h=>h.elim) (by simp[Value.oneCell']) (by omega) (by omega) hza ?_;intro v8 w8 HO8 HK8 HA8;obtain⟨A8,c8,hv8,hv81,hv82⟩:=HO8.form;rw[List.length_append,List.length_singleton]at hv8;subst hv8))
   have HP2':=Lib.hid (HP2.out.putE hz8 HO8 HK8 HA8)
   rw[←HT2.out]at HP2'
   have K8:=(ka.mono (C:=fun b=>(Value.slice AE tE.length cE).ownBlock=some b) (fun _ _ h=>h.elim)).trans HK8 (fun _ _ h=>h)
   have bz8:=HP2.out.b.kept HK8 n0
   have c82:=bz8.cell 3
   have f82:=bz8.frozen 3
   simp at c82
   refine⟨fun _=>⟨⟨_,K8⟩,rfl⟩,?_⟩
   clear K8 bz8 HO8 HK8 HA8 HBV HP2 HP1' ka hza
   refine lex_q _ rfl rfl rfl ?_
   go_big_quiet_step (fail)
   refine wpQuiet_nil ?_
   refine lex_a _ rfl rfl false (by kernel_rfl) ?_
   go_wp2
   (try refine⟨fun h=>(by cases h),?_⟩)
   simp only[wpLex]
   refine NoPanic.normal ?_
   generalize hWb:World.setCell w8 _ _=wb2
   rw[hWb]at HP2'
   clear hWb c82 f82 hv81 hv82
   have hws:=HP2'.out.k.size
   have n0:¬((Value.slice AC tC.length cC).ownBlock=some zp):=fun e=>by have:=(HP2'.out.oC.lt e).1;omega
   have n1:¬((Value.slice AC tC.length cC).ownBlock=some bl):=fun e=>by have:=(HP2'.out.oC.lt e).1;omega
   have p2:=HP2'.out.b.cell 4
   simp at p2
   have d0:=(HP2'.out.k.cell (p:=⟨bl,ol+k,none⟩) (by show bl<_;omega) (by show¬bl=zp;omega)).trans HD2.out
   go_upto_region 16 with fail
   refine wp_region_lexB (fun w'=>∃x:ExtC (fun b=>(Value.slice AC tC.length cC).ownBlock=some b) wb2,w'=x.val) [0,1,2,3,4,5,6,7,8,9,10,11,12] (by kernel_rfl) (by kernel_rfl) (ExtC.start _ _) ?_
   have y1:=ExtC.cell (C:=fun b=>(Value.slice AC tC.length cC).ownBlock=some b) p2 n0
   have y2:=ExtC.cell (C:=fun b=>(Value.slice AC tC.length cC).ownBlock=some b) d0 n1
   iterate 9 (refine lex_q _ rfl rfl rfl ?_;go_big_quiet_step (fail);refine wpQuiet_nil ?_)
   clear y1 y2 p2 d0
   refine lex_a _ rfl rfl true (by kernel_rfl) ?_
   go_wp2
   refine⟨fun _=>⟨⟨_,((Keeps.refl _ _).alloc _).drew⟩,rfl⟩,?_⟩
   generalize hWa:(World.alloc _ _).drew=Wa
   have ka:KeepsAll wb2 Wa:=by subst hWa;exact((Keeps.refl _ _).alloc _).drew
   have HBV:Hid (Blk Wa wb2.heap.size 3 [.int .i64 ((qz:Int)+4)].toArray):=by subst hWa;exact Blk.new _ _ _
   have HP3:=Lib.hid (HP2'.out.keep ka)
   have hza:=HP3.out.k.size
   clear hWa
   refine lex_a _ rfl rfl true (by kernel_rfl) ?_
   go_wp2_with(at_builtin;go_loud(refine wpList_append_L tyInt RInt.ok rfl (.tmp 93) (.tmp 101) rfl HP3.out.oC rfl _ [.int .i64 ((qz:Int)+4)] rfl HBV.out rfl ((qz:Int)+4) (S:=fun _=>False) rfl (fun _ h=>h.elim) (by simp[Value.oneCell']) (by omega) (by omega) hza ?_;intro v8 w8 HO8 HK8 HA8;obtain⟨A8,c8,hv8,hv81,hv82⟩:=HO8.form;rw[List.length_append,List.length_singleton]at hv8;subst hv8))
   have HP3':=Lib.hid (HP3.out.putC hz8 HO8 HK8 HA8)
   rw[←HT3.out]at HP3'
   have K8:=(ka.mono (C:=fun b=>(Value.slice AC tC.length cC).ownBlock=some b) (fun _ _ h=>h.elim)).trans HK8 (fun _ _ h=>h)
   have bz8:=HP3.out.b.kept HK8 n0
   have c82:=bz8.cell 4
   have f82:=bz8.frozen 4
   simp at c82
   refine⟨fun _=>⟨⟨_,K8⟩,rfl⟩,?_⟩
   clear K8 bz8 HO8 HK8 HA8 HBV HP3 HP2' ka hza
   refine lex_q _ rfl rfl rfl ?_
   go_big_quiet_step (fail)
   refine wpQuiet_nil ?_
   refine lex_a _ rfl rfl false (by kernel_rfl) ?_
   go_wp2
   (try refine⟨fun h=>(by cases h),?_⟩)
   simp only[wpLex]
   refine NoPanic.normal ?_
   generalize hWb:World.setCell w8 _ _=wb3
   rw[hWb]at HP3'
   clear hWb c82 f82 hv81 hv82
   have hws:=HP3'.out.k.size
   go_wp2_with fail
   exact⟨⟨k+1,_,_,_,by omega,by go_num,by rw[HTN.out,HTE.out,HTC.out];exact HP3'.out⟩,by simp[intOf];omega⟩
  ·obtain rfl:k=D:=by omega
   obtain⟨wo,hwo⟩:∃wo:World,wo=wr:=⟨_,rfl⟩
   have HPX:=HP.out
   rw[←hwo]at HPX⊢
   clear HP hwo
   have GX:=Lib.hid ((FR.out.kept K78.out (by simp)).kept HPX.k (by omega))
   have r0:=GX.out.cell 0
   have r1:=GX.out.cell 1
   simp at r0 r1
   have hzr:=GX.out.lt
   go_upto_region 17 with fail
   go_cut [112]from 104 (fun s wx=>s= .bool (decide (0<pr.ov))∧KeepsAll wo wx)
   case first=>
    by_cases hbl:(b:Int)=lr
    ·have t1:((b:Int)==lr)=true:=beq_iff_eq.2 hbl
     by_cases hov:0<r.ov
     ·have t2:decide (0<r.ov)=true:=by simpa using hov
      have HR5:Hid (decide (0<pr.ov)=true):=by show _=_;rw[decide_eq_true_eq];exact HPV2.out.2 ⟨hbl,hov⟩
      clear hbl
      go_wp2_with(go_at_call 32;refine(HLA.out _ _ _).mono ?_;rintro e w5 ⟨rfl,k5⟩;have k5':=k5.cellA (p:=⟨N+1,1,none⟩) hzr r1)
      go_meet
      exact⟨by rw[HR5.out],k5⟩
     ·have t2:decide (0<r.ov)=false:=by simpa using hov
      have HR5:Hid (decide (0<pr.ov)=false):=by show _=_;rw[decide_eq_false_iff_not];exact fun e=>hov (HPV2.out.1 e).2
      clear hbl
      go_wp2_with(go_at_call 32;refine(HLA.out _ _ _).mono ?_;rintro e w5 ⟨rfl,k5⟩;have k5':=k5.cellA (p:=⟨N+1,1,none⟩) hzr r1)
      go_meet
      exact⟨by rw[HR5.out],k5⟩
    ·have t1:((b:Int)==lr)=false:=beq_eq_false_iff_ne.2 hbl
     have HR5:Hid (decide (0<pr.ov)=false):=by show _=_;rw[decide_eq_false_iff_not];exact fun e=>hbl (HPV2.out.1 e).1
     clear hbl
     go_wp2_with(go_at_call 32;refine(HLA.out _ _ _).mono ?_;rintro e w5 ⟨rfl,k5⟩)
     go_meet
     exact⟨by rw[HR5.out],k5⟩
   case rest=>
    obtain⟨rfl,kx⟩:=hcut
    have HP:=Lib.hid (HPX.keep kx)
    obtain⟨wr,hwr⟩:∃wr:World,wr=wc:=⟨_,rfl⟩
    rw[←hwr]at HP⊢
    clear hwr kx HPX GX r0 r1 hzr
    obtain⟨AN,cN,rfl,hN1,hN2⟩:=HP.out.oN.form
    obtain⟨AE,cE,rfl,hE1,hE2⟩:=HP.out.oE.form
    obtain⟨AC,cC,rfl,hC1,hC2⟩:=HP.out.oC.form
    generalize hTN:(tab k fun k=>entR Q s k/1000-16)=tN at*
    generalize hTE:(tab k fun k=>entR Q s (k+1)/1000)=tE at*
    generalize hTC:(tab k fun k=>(leaR Q s k+999)/1000+4)=tC at*
    have hws:=HP.out.k.size
    have hz8:zp<W8.heap.size:=by have:=hW8s.out;omega
    have GZ:=Lib.hid ((FZ.out.kept K78.out (by simp)).kept HP.out.k (by omega))
    obtain⟨hek0,hek1⟩:=HE.out k (by omega)
    obtain⟨be,oe,x,rfl,hbe,hx,c0⟩:=HR1.out.at_ (k:=k) (by rw[tab_len];omega)
    rw[tab_get (by omega)]at hx
    obtain rfl:=Option.some.inj hx
    have hbe1:be<zp:=by have:=hbe.2;omega
    have d0:=(HP.out.k.cell (p:=⟨be,oe+k,none⟩) (by show be<_;omega) (by show¬be=zp;omega)).trans (K78.out.cellA (by show be<_;omega) c0)
    obtain⟨X,hX⟩:=Int.eq_ofNat_of_zero_le hek0
    have HV:Hid (entR Q s k/1000=((X/1000:Nat):Int)):=by show _=_;rw[hX];omega
    rw[hX]at d0 hek1
    have q0:Int.tdiv (X:Int) 1000=((X/1000:Nat):Int):=by rw[show(1000:Int)=((1000:Nat):Int)from rfl,←Int.ofNat_tdiv]
    have m0:X/1000≤100000:=by omega
    generalize X/1000=qx at*
    have z0:=HP.out.b.cell 0
    have z1:=HP.out.b.cell 1
    have z2:=HP.out.b.cell 2
    have z3:=HP.out.b.cell 3
    have z4:=HP.out.b.cell 4
    have z5:=HP.out.b.cell 5
    have z6:=HP.out.b.cell 6
    have f5:=HP.out.b.frozen 5
    simp at z0 z1 z2 z3 z4 z5 z6
    have g0:=GZ.out.frozen 0
    have g1:=GZ.out.frozen 1
    have g2:=GZ.out.frozen 2
    have g3:=GZ.out.frozen 3
    have g4:=GZ.out.frozen 4
    have g5:=GZ.out.frozen 5
    have g6:=GZ.out.frozen 6
    have y0:=GZ.out.cell 0
    have y1:=GZ.out.cell 1
    have y2:=GZ.out.cell 2
    have y3:=GZ.out.cell 3
    have y4:=GZ.out.cell 4
    have y5:=GZ.out.cell 5
    have y6:=GZ.out.cell 6
    simp at y0 y1 y2 y3 y4 y5 y6
    have hzz:N+1+1+1<wr.heap.size:=GZ.out.lt
    have hzq:zp<wr.heap.size:=HP.out.b.lt
    clear hX hek0 c0 hx
    have FIN:Hid (∀(W9:World),Keeps (fun x=>x=zp∨x=N+1+1+1) wr W9→KeepsAll w W9∧RInts W9 (Fresh w W9) [.slice AN tN.length cN] tN∧RInts W9 (Fresh w W9) [.slice AE tE.length cE] tE∧RInts W9 (Fresh w W9) [.slice AC tC.length cC] tC):=fun W9 hk=>by
     have kw:KeepsAll w W9:=((K7.out.trA K78.out).trans HP.out.k (fun x hx e=>by omega)).trans hk (fun x hx e=>by omega)
     refine⟨kw,?_,?_,?_⟩
     ·exact(HP.out.oN.keepsT RInt.flt hk (fun x hx e=>by have:=(HP.out.oN.lt hx).1;omega)).readT RInt.flt (S:=Fresh w W9) (fun x hx=>⟨by have:=(HP.out.oN.lt hx).1;omega,Nat.lt_of_lt_of_le (HP.out.oN.lt hx).2 hk.size⟩)
     ·exact(HP.out.oE.keepsT RInt.flt hk (fun x hx e=>by have:=(HP.out.oE.lt hx).1;omega)).readT RInt.flt (S:=Fresh w W9) (fun x hx=>⟨by have:=(HP.out.oE.lt hx).1;omega,Nat.lt_of_lt_of_le (HP.out.oE.lt hx).2 hk.size⟩)
     ·exact(HP.out.oC.keepsT RInt.flt hk (fun x hx e=>by have:=(HP.out.oC.lt hx).1;omega)).readT RInt.flt (S:=Fresh w W9) (fun x hx=>⟨by have:=(HP.out.oC.lt hx).1;omega,Nat.lt_of_lt_of_le (HP.out.oC.lt hx).2 hk.size⟩)
    by_cases ho:0<pr.ov
    ·have ho1:decide (0<pr.ov)=true:=by simpa using ho
     go_wp2_with fail
     generalize hW9:World.setCell (World.setCell (World.setCell (World.setCell (World.setCell (World.setCell (World.setCell (World.setCell wr _ _) _ _) _ _) _ _) _ _) _ _) _ _) _ _=W9
     have k5:Keeps (fun x=>x=zp) wr (wr.setCell ⟨zp,5,none⟩ (.int .i64 ((qx:Int)-16))):=(Keeps.refl (fun x=>x=zp) wr).setCell (p:=⟨zp,5,none⟩) (fun _=>rfl) _
     have B9:Hid (Blk W9 (N+1+1+1) 99 #[.int .i64 a,.int .i64 b,.slice AN tN.length cN,.slice AE tE.length cE,.slice AC tC.length cC,.int .i64 ((qx:Int)-16),.int .i64 (runR Q s)]):=by subst hW9;exact blk_put7 (GZ.out.kept k5 (by omega)) _ _ _ _ _ _ _
     have KZ9:Hid (Keeps (fun x=>x=zp∨x=N+1+1+1) wr W9):=by subst hW9;exact keeps_put7 (k5.mono (fun _ _ e=> .inl e)) (.inr rfl) _ _ _ _ _ _ _
     clear hW9 k5 z0 z1 z2 z3 z4 z5 z6 g0 g1 g2 g3 g4 g5 g6 y0 y1 y2 y3 y4 y5 y6
     have z0:=B9.out.cell 0
     have z1:=B9.out.cell 1
     have z2:=B9.out.cell 2
     have z3:=B9.out.cell 3
     have z4:=B9.out.cell 4
     have z5:=B9.out.cell 5
     have z6:=B9.out.cell 6
     simp at z0 z1 z2 z3 z4 z5 z6
     refine bodyPost_ret (v:= .tuple #[.agg #[.int .i64 a,.int .i64 b,.slice AN tN.length cN,.slice AE tE.length cE,.slice AC tC.length cC,.int .i64 ((qx:Int)-16),.int .i64 (runR Q s)],.int .i64 0]) (by simp[results,Tryz.results31,go_sem,z0,z1,z2,z3,z4,z5,z6]) rfl ?_
     obtain⟨f1,f2,f3,f4⟩:=FIN.out W9 KZ9.out
     exact⟨_,_,_,by rw[HV.out],f1,f2,f3,f4⟩
    ·have ho1:decide (0<pr.ov)=false:=by simpa using ho
     go_wp2_with fail
     generalize hW9:World.setCell (World.setCell (World.setCell (World.setCell (World.setCell (World.setCell (World.setCell wr _ _) _ _) _ _) _ _) _ _) _ _) _ _=W9
     have B9:Hid (Blk W9 (N+1+1+1) 99 #[.int .i64 a,.int .i64 b,.slice AN tN.length cN,.slice AE tE.length cE,.slice AC tC.length cC,.int .i64 0,.int .i64 (runR Q s)]):=by subst hW9;exact blk_put7 GZ.out _ _ _ _ _ _ _
     have KZ9:Hid (Keeps (fun x=>x=zp∨x=N+1+1+1) wr W9):=by subst hW9;exact keeps_put7 (Keeps.refl _ _) (.inr rfl) _ _ _ _ _ _ _
     clear hW9 z0 z1 z2 z3 z4 z5 z6 g0 g1 g2 g3 g4 g5 g6 y0 y1 y2 y3 y4 y5 y6
     have z0:=B9.out.cell 0
     have z1:=B9.out.cell 1
     have z2:=B9.out.cell 2
     have z3:=B9.out.cell 3
     have z4:=B9.out.cell 4
     have z5:=B9.out.cell 5
     have z6:=B9.out.cell 6
     simp at z0 z1 z2 z3 z4 z5 z6
     refine bodyPost_ret (v:= .tuple #[.agg #[.int .i64 a,.int .i64 b,.slice AN tN.length cN,.slice AE tE.length cE,.slice AC tC.length cC,.int .i64 0,.int .i64 (runR Q s)],.int .i64 0]) (by simp[results,Tryz.results31,go_sem,z0,z1,z2,z3,z4,z5,z6]) rfl ?_
     obtain⟨f1,f2,f3,f4⟩:=FIN.out W9 KZ9.out
     exact⟨_,_,_,rfl,f1,f2,f3,f4⟩
end
section
def pdN (L:Lay) (r:Rou) (n:Nat):List Int:=pdOf ((ptsR L.lks r.stps).take n)
theorem pdFold_pre:∀(l:List Int) (pd:List Int),∃q,l.foldl numStep pd=pd++q:=by
 intro l
 induction l with
 |nil=>intro pd;exact⟨[],by simp⟩
 |cons p l ih=>
  intro pd
  obtain⟨q,hq⟩:=ih (numStep pd p)
  rw[List.foldl_cons,hq]
  unfold numStep
  split
  ·exact⟨p::q,by simp⟩
  ·exact⟨q,rfl⟩
theorem pdN_succ {L:Lay} {r:Rou} {n:Nat} {p:Int} (h:(ptsR L.lks r.stps)[n]? =some p):pdN L r (n+1)=numStep (pdN L r n) p:=by
 unfold pdN pdOf
 rw[List.take_add_one,h,Option.toList_some,List.foldl_append];rfl
theorem pdN_pre (L:Lay) (r:Rou) (n:Nat):∃q,pdOf (ptsR L.lks r.stps)=pdN L r n++q:=by
 obtain⟨q,hq⟩:=pdFold_pre ((ptsR L.lks r.stps).drop n) (pdN L r n)
 refine⟨q,?_⟩
 rw[←hq]
 unfold pdN pdOf
 rw[←List.foldl_append,List.take_append_drop]
theorem pdN_idx {L:Lay} {r:Rou} {n:Nat} {p:Int} (h:p∈pdN L r n):(pdOf (ptsR L.lks r.stps)).idxOf p=(pdN L r n).idxOf p:=by
 obtain⟨q,hq⟩:=pdN_pre L r n
 rw[hq,List.idxOf_append,if_pos h]
theorem pdN_mem {L:Lay} {r:Rou} {n:Nat} {p:Int} (h:(ptsR L.lks r.stps)[n]? =some p) (h0:0≤p):p∈pdN L r (n+1):=by
 rw[pdN_succ h]
 unfold numStep
 split
 ·simp
 ·rename_i g
  exact Classical.byContradiction fun e=>g ⟨h0,e⟩
theorem pdN_all (L:Lay) (r:Rou):pdN L r (r.stps.length-1)=pdOf (ptsR L.lks r.stps):=by
 unfold pdN
 rw[List.take_of_length_le (by rw[ptsR_len];exact Nat.le_refl _)]
theorem pdN_len (L:Lay) (r:Rou) (n:Nat):(pdN L r n).length≤n:=by
 have:=pdOf_len ((ptsR L.lks r.stps).take n)
 unfold pdN
 rw[List.length_take]at this
 omega
def crsPt (L:Lay) (r:Rou) (i:Nat):Int:=if i=0 then-1 else if 0≤(lnkAt L r (i-1)).pt then(L.secs.length:Int)+(lnkAt L r (i-1)).pt else-1
end
section
open Go.RowKit
structure CV where
 lv:LV
 B1:Option Addr
 B2:Option Addr
 B3:Option Addr
 d1:Nat
 d2:Nat
 d3:Nat
def CV.cs (v:CV) (c:Cas):Array Value:= #[.slice v.lv.A1 c.lay.sts.length v.lv.c1,.slice v.lv.A2 c.lay.pts.length v.lv.c2,.slice v.lv.A3 c.lay.secs.length v.lv.c3,.slice v.lv.A4 c.lay.lks.length v.lv.c4,.slice v.B1 c.stks.length v.d1,.slice v.B2 c.rous.length v.d2,.slice v.B3 c.miss.length v.d3]
structure RCas (w:World) (S:Foot) (v:CV) (c:Cas):Prop where
 lay:RLay w S v.lv c.lay
 stks:RStks w S [.slice v.B1 c.stks.length v.d1] c.stks
 rous:RRous w S [.slice v.B2 c.rous.length v.d2] c.rous
 miss:RMiss w S [.slice v.B3 c.miss.length v.d3] c.miss
theorem RCas.kept {a b:World} {v:CV} {c:Cas} (h:RCas a (Old a) v c) (k:KeepsAll a b):RCas b (Old b) v c:=
 ⟨h.lay.kept k,k.rdA (RSlice.ok RStk.ok) h.stks,k.rdA (RSlice.ok RRou.ok) h.rous,k.rdA (RSlice.ok RMis.ok) h.miss⟩
theorem rouD_at {c:Cas} {i:Int} (h0:0≤i) (h1:i<c.rous.length):c.rous[i.toNat]? =some (rouD c i):=by
 unfold rouD
 rw[List.getD_eq_getElem?_getD,List.getElem?_eq_getElem (by omega)];rfl
theorem rstop_any (r:Rou) (A:Option Addr) (c:Nat) (w:World) (hr:RStps w (Old w) [.slice A r.stps.length c] r.stps) (h0:0≤r.ov) (h2:r.ov≤2) (h3:2≤(r.stps.length:Int)-r.ov) (h4:r.stps.length≤24):
  Calls Tryz.prog 104 #[.agg #[.slice A r.stps.length c,.int .i64 r.ov]] w fun e w'=>e= .returned (.int .i64 (stpD r (lastR r).toNat).sec)∧KeepsAll w w':=by
 have hc:=hr.caps
 obtain⟨k,hk⟩:=Int.eq_ofNat_of_zero_le (by unfold lastR;omega:0≤lastR r)
 have hk2:(r.stps.length:Int)-r.ov-1=(k:Int):=hk
 have hkl:k<r.stps.length:=by omega
 obtain⟨b,o,s,rfl,hb,hs,m0,m1⟩:=hr.at_ hkl
 have hsd:=stpD_at (r:=r) hkl
 rw[hs]at hsd
 obtain rfl:=Option.some.inj hsd
 rw[hk,Int.toNat_natCast]
 have hbw:b<w.heap.size:=hb
 have HK:=Lib.hid hk2
 clear hr hs hk hk2 hb
 obtain⟨ov,hov⟩:=Int.eq_ofNat_of_zero_le h0
 rw[hov]at HK⊢
 have hkv:r.stps.length=k+1+ov:=by have:=HK.out;omega
 generalize stpD r k=s at*
 generalize r.stps.length=n at*
 subst hkv
 go_enter Tryz.func104,Tryz.ntmps104
 go_wp2
 go_ret
 exact⟨rfl,(Keeps.refl _ _).alloc _⟩
theorem rstart_any (r:Rou) (A:Option Addr) (c:Nat) (w:World) (hr:RStps w (Old w) [.slice A r.stps.length c] r.stps) (h3:0<r.stps.length) (_h4:r.stps.length≤24):
  Calls Tryz.prog 106 #[.agg #[.slice A r.stps.length c,.int .i64 r.ov]] w fun e w'=>e= .returned (.int .i64 (stpD r 0).sec)∧KeepsAll w w':=by
 have hc:=hr.caps
 obtain⟨b,o,s,rfl,hb,hs,m0,m1⟩:=hr.at_ h3
 have hsd:=stpD_at (r:=r) h3
 rw[hs]at hsd
 obtain rfl:=Option.some.inj hsd
 have hbw:b<w.heap.size:=hb
 simp only[Nat.zero_mul,Nat.add_zero]at m0 m1
 clear hr hs hb
 generalize stpD r 0=s at*
 generalize r.stps.length=n at*
 go_enter Tryz.func106,Tryz.ntmps106
 go_wp2
 go_ret
 exact⟨rfl,(Keeps.refl _ _).alloc _⟩
set_option maxRecDepth 100000 in
set_option maxHeartbeats 4000000 in
theorem rroute_any (c:Cas) (v:CV) (t k:Nat) (m:Mis) (d:Dut) (w:World) (h:RCas w (Old w) v c) (hm:c.miss[t]? =some m) (hd:m.dts[k]? =some d) (h0:0≤d.rt) (h1:d.rt<c.rous.length):
  Calls Tryz.prog 105 #[.agg (v.cs c),.int .i64 (t:Int),.int .i64 (k:Int)] w fun e w'=>∃A' c',e= .returned (.agg #[.slice A' (rouD c d.rt).stps.length c',.int .i64 (rouD c d.rt).ov])∧RStps w (Old w) [.slice A' (rouD c d.rt).stps.length c'] (rouD c d.rt).stps∧KeepsAll w w'∧∀b o,v.B2=some ⟨b,o,none⟩→w.cell? ⟨b,o+d.rt.toNat*2,none⟩=some (.slice A' (rouD c d.rt).stps.length c'):=by
 have hcm:=h.miss.caps
 have hcr:=h.rous.caps
 have htl:=(List.getElem?_eq_some_iff.1 hm).1
 have hkl:=(List.getElem?_eq_some_iff.1 hd).1
 obtain⟨bm,om,m',Ad,cd,eM,hbm,hm',m0,m1,hdu⟩:=h.miss.at_ htl
 obtain rfl:=Option.some.inj (hm'.symm.trans hm)
 have hcd:=hdu.caps
 obtain⟨bd,od,d',eD,hbd,hd',d0,d1,d2⟩:=hdu.at_ hkl
 obtain rfl:=Option.some.inj (hd'.symm.trans hd)
 obtain⟨i,hi⟩:=Int.eq_ofNat_of_zero_le h0
 have hil:i<c.rous.length:=by omega
 obtain⟨br,or,r',Ar,cr,eR,hbr,hr',r0,r1,hst⟩:=h.rous.at_ hil
 have hrd:=rouD_at (c:=c) h0 h1
 rw[hi,Int.toNat_natCast]at hrd
 obtain rfl:=Option.some.inj (hr'.symm.trans hrd)
 have HR0:=Lib.hid r0
 rw[hi]at d0⊢
 have hbm':bm<w.heap.size:=hbm
 have hbd':bd<w.heap.size:=hbd
 have hbr':br<w.heap.size:=hbr
 have HST:=Lib.hid hst
 obtain⟨lv,B1,B2,B3,dd1,dd2,dd3⟩:=v
 simp only[]at eM eD eR hcm hcr
 subst eM eD eR
 unfold CV.cs
 simp only[]
 clear h hm hd hm' hd' hdu hr' hst hrd hi h0 h1 hbm hbd hbr
 generalize rouD c (i:Int)=r at*
 go_enter Tryz.func105,Tryz.ntmps105
 go_upto_region 1 with fail
 generalize hW:World.alloc (World.alloc w _) _=W
 have K0:Hid (KeepsAll w W):=by subst hW;exact((Keeps.refl _ _).alloc _).alloc _
 have BC:Hid (Blk W w.heap.size 32 #[.slice lv.A1 c.lay.sts.length lv.c1,.slice lv.A2 c.lay.pts.length lv.c2,.slice lv.A3 c.lay.secs.length lv.c3,.slice lv.A4 c.lay.lks.length lv.c4,.slice B1 c.stks.length dd1,.slice (some ⟨br,or,none⟩) c.rous.length dd2,.slice (some ⟨bm,om,none⟩) c.miss.length dd3]):=by subst hW;exact(Blk.new _ _ _).alloc _
 have BZ:Hid (Blk W (w.heap.size+1) 95 #[.slice none 0 0,.int .i64 0]):=by subst hW;exact Blk.new' _ _ _ (by simp)
 clear hW
 have c5:=BC.out.cell 5
 have c6:=BC.out.cell 6
 simp at c5 c6
 have y0:=Ext.cell c5
 have y1:=Ext.cell c6
 have y2:=Ext.cell (K0.out.cellA hbm' m1)
 have y3:=Ext.cell (K0.out.cellA hbd' d0)
 have y4:=Ext.cell (K0.out.cellA hbr' r0)
 have y5:=Ext.cell (K0.out.cellA hbr' r1)
 have hzc:=BC.out.lt
 refine wp_region_lexB (fun w'=>∃x:Ext W,w'=x.val) [0,1,2,3,4,5,6,7,8,9,10,11,12,13,14] (by kernel_rfl) (by kernel_rfl) ⟨⟨_,(Keeps.refl _ _).drew⟩,rfl⟩ ?_
 iterate 14 (refine lex_q _ rfl rfl rfl ?_;go_big_quiet_step (fail);refine wpQuiet_nil ?_)
 clear y0 y1 y2 y3 y4 y5 c5 c6
 have KD:Hid (KeepsAll w W.drew):=K0.out.drew
 have BD:Hid (Blk W.drew (w.heap.size+1) 95 #[.slice none 0 0,.int .i64 0]):=BZ.out.kept (Keeps.refl (fun _=>False) W).drew (fun e=>e)
 generalize W.drew=wd at*
 have z0:=BD.out.cell 0
 have z1:=BD.out.cell 1
 simp at z0 z1
 have f0:=BD.out.frozen 0
 have f1:=BD.out.frozen 1
 refine lex_a _ rfl rfl false (by kernel_rfl) ?_
 go_wp2
 (try refine⟨fun h=>(by cases h),?_⟩)
 simp only[wpLex]
 refine NoPanic.normal ?_
 go_wp2_with fail
 generalize hW9:World.setCell (World.setCell wd _ _) _ _=W9
 have B9:Hid (Blk W9 (w.heap.size+1) 95 #[.slice Ar r.stps.length cr,.int .i64 r.ov]):=by subst hW9;exact(BD.out.set_ 0 _).set_ 1 _
 have K9:Hid (KeepsAll w W9):=by
  subst hW9
  refine Keeps.setCell (Keeps.setCell KD.out ?_ _) ?_ _<;>(intro e;have e:w.heap.size+1<w.heap.size:=e;omega)
 clear hW9 z0 z1 f0 f1
 have z0:=B9.out.cell 0
 have z1:=B9.out.cell 1
 simp at z0 z1
 refine bodyPost_ret (v:= .agg #[.slice Ar r.stps.length cr,.int .i64 r.ov]) (by simp[results,Tryz.results105,go_sem,z0,z1]) rfl ?_
 refine⟨Ar,cr,rfl,HST.out,K9.out,fun b o e=> ?_⟩
 injection e with e
 injection e with e1 e2
 subst e1 e2
 rw[Int.toNat_natCast]
 exact HR0.out
theorem rlast39_any (c:Cas) (v:CV) (t k:Nat) (m:Mis) (d:Dut) (w:World) (h:RCas w (Old w) v c) (hm:c.miss[t]? =some m) (hd:m.dts[k]? =some d) (h0:0≤d.rt) (h1:d.rt<c.rous.length) (hv0:0≤(rouD c d.rt).ov) (hv2:(rouD c d.rt).ov≤2) (hl:(rouD c d.rt).stps.length≤24):
  Calls Tryz.prog 37 #[.agg (v.cs c),.int .i64 (t:Int),.int .i64 (k:Int)] w fun e w'=>e= .returned (.int .i64 (lastR (rouD c d.rt)))∧KeepsAll w w':=by
 have HRT:=Lib.hid (fun W q=>rroute_any c v t k m d W q hm hd h0 h1)
 have HLA:=Lib.hid (fun A' c' W=>rlast_any (rouD c d.rt) A' c' W hv0 (by omega) (by omega))
 have HC:=Lib.hid h
 clear h hm hd h0 h1 hv0 hv2 hl
 generalize rouD c d.rt=r at*
 obtain⟨lv,B1,B2,B3,dd1,dd2,dd3⟩:=v
 unfold CV.cs at HRT⊢
 simp only[]at HRT⊢
 go_enter Tryz.func37,Tryz.ntmps37
 go_upto_region 1 with fail
 generalize hW:World.alloc w _=W
 have K0:Hid (KeepsAll w W):=by subst hW;exact(Keeps.refl _ _).alloc _
 have BC:Hid (Blk W w.heap.size 32 #[.slice lv.A1 c.lay.sts.length lv.c1,.slice lv.A2 c.lay.pts.length lv.c2,.slice lv.A3 c.lay.secs.length lv.c3,.slice lv.A4 c.lay.lks.length lv.c4,.slice B1 c.stks.length dd1,.slice B2 c.rous.length dd2,.slice B3 c.miss.length dd3]):=by subst hW;exact Blk.new _ _ _
 clear hW
 have c0:=BC.out.cell 0
 have c1:=BC.out.cell 1
 have c2:=BC.out.cell 2
 have c3:=BC.out.cell 3
 have c4:=BC.out.cell 4
 have c5:=BC.out.cell 5
 have c6:=BC.out.cell 6
 simp at c0 c1 c2 c3 c4 c5 c6
 have hzc:=BC.out.lt
 go_wp2_with(first
  |(go_at_call 105;go_loud(refine(HRT.out W (HC.out.kept K0.out)).mono ?_;rintro e w3 ⟨A',c',rfl,-,k3,-⟩;have K3:=Lib.hid (K0.out.trA k3);clear k3))
  |(go_at_call 32;go_loud(refine(HLA.out _ _ _).mono ?_;rintro e w5 ⟨rfl,k5⟩;have K5:=Lib.hid (K3.out.trA k5);clear k5)))
 go_ret
 exact⟨rfl,K5.out⟩
end
section
open Go.RowKit
def RCrs (L:Lay):Rd Rou:=fun w S cs r=>∃(A1:Option Addr) (c1:Nat) (A2:Option Addr) (c2:Nat) (A3:Option Addr) (c3:Nat) (v':LV),cs=[.slice A1 r.stps.length c1,.slice A2 r.stps.length c2,.int .i64 (lastR r),
  .slice v'.A1 (crsLay L r).sts.length v'.c1,.slice v'.A2 (crsLay L r).pts.length v'.c2,.slice v'.A3 (crsLay L r).secs.length v'.c3,.slice v'.A4 (crsLay L r).lks.length v'.c4,.slice A3 r.stps.length c3,.int .i64 r.ov]∧
 RInts w S [.slice A1 r.stps.length c1] (r.stps.map (·.sec))∧RInts w S [.slice A2 r.stps.length c2] (tab r.stps.length (crsPt L r))∧RLay w S v' (crsLay L r)∧RStps w S [.slice A3 r.stps.length c3] (crsRou r).stps
theorem RLay.mono {w w':World} {S S':Foot} {v:LV} {L:Lay} (h:RLay w S v L) (hS:∀b,S b→S' b) (hw:∀b,S b→w'.heap[b]? =w.heap[b]?):RLay w' S' v L:=
 ⟨RStrs.ok.mono h.sts hS hw,RStrs.ok.mono h.pts hS hw,(RSlice.ok RSec.ok).mono h.secs hS hw,(RSlice.ok RLnk.ok).mono h.lks hS hw⟩
theorem RCrs.ok (L:Lay):Rd.Ok (RCrs L):=by
 refine⟨?_⟩
 rintro w w' S S' cs x ⟨A1,c1,A2,c2,A3,c3,v',rfl,h1,h2,h3,h4⟩ hS hw
 exact⟨A1,c1,A2,c2,A3,c3,v',rfl,RInts.ok.mono h1 hS hw,RInts.ok.mono h2 hS hw,h3.mono hS hw,(RSlice.ok RStp.ok).mono h4 hS hw⟩
abbrev RCrss (L:Lay):=RSlice 9 (RCrs L)
def mdC (v:CV) (c:Cas) (vC mp vM:Value):Array Value:= #[.slice v.lv.A1 c.lay.sts.length v.lv.c1,.slice v.lv.A2 c.lay.pts.length v.lv.c2,.slice v.lv.A3 c.lay.secs.length v.lv.c3,.slice v.lv.A4 c.lay.lks.length v.lv.c4,.slice v.B1 c.stks.length v.d1,.slice v.B2 c.rous.length v.d2,.slice v.B3 c.miss.length v.d3,vC,mp,vM]
set_option maxRecDepth 100000 in
set_option maxHeartbeats 4000000 in
theorem inRange_any (c:Cas) (v:CV) (d:Dut) (first:Bool) (M:Nat) (vC mp vM:Value) (w:World) (hb:Blk w M 149 (mdC v c vC mp vM)):
  Calls Tryz.prog 195 #[.pointer (some ⟨M,0,none⟩),.agg (dutC d),.bool first] w fun e w'=>e= .returned (.bool (inRng c d first))∧KeepsAll w w':=by
 obtain⟨rt,dep,dw⟩:=d
 have HE:Hid (∀b,inRng c ⟨rt,dep,dw⟩ first=b→inRng c ⟨rt,dep,dw⟩ first=b):=fun _ h=>h
 have HB:=Lib.hid hb
 have hz:=hb.lt
 have c5:=hb.cell 5
 simp[mdC]at c5
 clear hb
 unfold dutC
 simp only[]
 go_enter Tryz.func195,Tryz.ntmps195
 go_upto_region 1 with fail
 try simp only[List.append_eq,List.cons_append,List.nil_append]
 generalize hW:World.alloc w _=W
 have K0:Hid (KeepsAll w W):=by subst hW;exact(Keeps.refl _ _).alloc _
 have BD:Hid (Blk W w.heap.size 38 #[.int .i64 rt,.int .i64 dep,.int .i64 dw]):=by subst hW;exact Blk.new _ _ _
 replace c5:=K0.out.cellA hz c5
 clear hW HB
 have d0:=BD.out.cell 0
 have d1:=BD.out.cell 1
 have d2:=BD.out.cell 2
 simp at d0 d1 d2
 have hzd:=BD.out.lt
 have hzM:M<W.heap.size:=by omega
 generalize w.heap.size=N at*
 have e1:decide (0≤rt)=false∨decide (0≤rt)=true:=by cases decide (0≤rt)<;>simp
 have e2:decide (rt<(c.rous.length:Int))=false∨decide (rt<(c.rous.length:Int))=true:=by cases decide (rt<(c.rous.length:Int))<;>simp
 have e3:decide (60≤dep)=false∨decide (60≤dep)=true:=by cases decide (60≤dep)<;>simp
 have e4:decide (dep≤2097152)=false∨decide (dep≤2097152)=true:=by cases decide (dep≤2097152)<;>simp
 have e5:decide (0≤dw)=false∨decide (0≤dw)=true:=by cases decide (0≤dw)<;>simp
 have e6:decide (dw≤7200)=false∨decide (dw≤7200)=true:=by cases decide (dw≤7200)<;>simp
 have HX:Hid (inRng c ⟨rt,dep,dw⟩ first=(decide (0≤rt)&&decide (rt<(c.rous.length:Int))&&decide (60≤dep)&&decide (dep≤2097152)&&decide (0≤dw)&&decide (dw≤7200)&& !(first&& !(decide (dw=0))))):=by
  show _=_
  unfold inRng
  simp only[Bool.decide_and,ne_eq,decide_not,Bool.and_assoc]
 clear HE
 rcases e1 with e1|e1
 ·go_quiet (fail)
  go_wp2
  go_ret
  exact⟨congrArg (fun b=>Ending.returned (Value.bool b)) (by rw[HX.out];simp[e1]),K0.out.drewN _⟩
 ·skip
  rcases e2 with e2|e2
  ·go_quiet (fail)
   go_wp2
   go_ret
   exact⟨congrArg (fun b=>Ending.returned (Value.bool b)) (by rw[HX.out];simp[e1,e2]),K0.out.drewN _⟩
  ·skip
   rcases e3 with e3|e3
   ·go_quiet (fail)
    go_wp2
    go_ret
    exact⟨congrArg (fun b=>Ending.returned (Value.bool b)) (by rw[HX.out];simp[e1,e2,e3]),K0.out.drewN _⟩
   ·skip
    rcases e4 with e4|e4
    ·go_quiet (fail)
     go_wp2
     go_ret
     exact⟨congrArg (fun b=>Ending.returned (Value.bool b)) (by rw[HX.out];simp[e1,e2,e3,e4]),K0.out.drewN _⟩
    ·skip
     rcases e5 with e5|e5
     ·go_quiet (fail)
      go_wp2
      go_ret
      exact⟨congrArg (fun b=>Ending.returned (Value.bool b)) (by rw[HX.out];simp[e1,e2,e3,e4,e5]),K0.out.drewN _⟩
     ·skip
      rcases e6 with e6|e6
      ·go_quiet (fail)
       go_wp2
       go_ret
       exact⟨congrArg (fun b=>Ending.returned (Value.bool b)) (by rw[HX.out];simp[e1,e2,e3,e4,e5,e6]),K0.out.drewN _⟩
      ·skip
       rcases first with _|_
       ·go_quiet (fail)
        go_wp2
        go_ret
        exact⟨congrArg (fun b=>Ending.returned (Value.bool b)) (by rw[HX.out];simp[e1,e2,e3,e4,e5,e6]),K0.out.drewN _⟩
       ·by_cases hd:dw=0
        ·have e7:(dw==0)=true:=by simp[hd]
         have e8:decide (dw=0)=true:=by simp[hd]
         clear hd
         go_quiet (fail)
         go_wp2
         go_ret
         exact⟨congrArg (fun b=>Ending.returned (Value.bool b)) (by rw[HX.out];simp[e1,e2,e3,e4,of_decide_eq_true e8]),K0.out.drewN _⟩
        ·have e7:(dw==0)=false:=by simp[hd]
         have e8:decide (dw=0)=false:=by simp[hd]
         go_quiet (fail)
         go_wp2
         go_ret
         exact⟨congrArg (fun b=>Ending.returned (Value.bool b)) (by rw[HX.out];simp[e1,e2,e3,e4,e5,e6,of_decide_eq_false e8]),K0.out.drewN _⟩
end
end Go.Proofs.YtcbcegdidlefiaaGreat
