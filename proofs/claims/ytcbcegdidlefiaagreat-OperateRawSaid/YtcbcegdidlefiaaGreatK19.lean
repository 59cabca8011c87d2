/- Contract of motion.profile (program): the walk. Conditions: as the theorem says. Contract of motion.Make (program) at a route that fits. Conditions: as the theorem says. -/
import Derived.Test.YtcbcegdidlefiaaGreatK01
import Derived.Test.YtcbcegdidlefiaaGreatK18
import Derived.BigRegion
import Derived.Deep.CutRange
namespace Go.Proofs.YtcbcegdidlefiaaGreat
section
open Go.RowKit
set_option maxRecDepth 100000 in
set_option maxHeartbeats 8000000 in
theorem mprofile_any (L:Lay) (v:LV) (r:Rou) (s:Stk) (A:Option Addr) (c a b:Nat) (w:World) (h:RLay w (Old w) v L) (hr:RStps w (Old w) [.slice A r.stps.length c] r.stps) (hlen:LayLen L) (hfit:fitErr L r s=0) (hab:a<b) (hb:(b:Int)≤lastR r):
  Calls Tryz.prog 252 #[.agg (v.cs L),.agg #[.slice A r.stps.length c,.int .i64 r.ov],.agg (stkC s),.int .i64 (a:Int),.int .i64 (b:Int)] w fun e w'=>∃vN vE vC,
   e= .returned (.agg #[.int .i64 (a:Int),.int .i64 (b:Int),vN,vE,vC,.int .i64 (profP (pcesOf L r) s (decide (0<r.ov)) a b).ovl,.int .i64 (profP (pcesOf L r) s (decide (0<r.ov)) a b).run])∧KeepsAll w w'∧
   RInts w' (Fresh w w') [vN] (profP (pcesOf L r) s (decide (0<r.ov)) a b).need∧RInts w' (Fresh w w') [vE] (profP (pcesOf L r) s (decide (0<r.ov)) a b).ent∧RInts w' (Fresh w w') [vC] (profP (pcesOf L r) s (decide (0<r.ov)) a b).clr:=by
 have HFO:=Lib.hid (fitErr_ok hfit)
 have hpf:=fit_part hfit hab hb
 have HPO:=Lib.hid (fitErr_ok hpf)
 have HTI:=Lib.hid (fun A' c' W k1 k2=>bTimes_any L v (partR r a b) s A' c' W k1 k2 hlen hpf)
 have g41:=HFO.out.rou.len
 have g42:=HFO.out.rou.ov2
 have g43:=HFO.out.rou.ov0
 have g44:=HFO.out.rou.two
 have hlast:lastR r=(r.stps.length:Int)-r.ov-1:=rfl
 have HLA:=Lib.hid (fun A' c' W=>mlast_any r A' c' W g43 (by omega) (by omega))
 have HL:=Lib.hid h
 have HR:=Lib.hid hr
 have hc:=hr.caps
 clear h hr
 obtain⟨b0,o0,x0,hA,-,hx0,-,-⟩:=HR.out.at_ (k:=0) (by omega)
 subst hA
 have HPQ:=Lib.hid (HFO.out.rou.partR_pces hab hb)
 have HPL:=Lib.hid (HFO.out.rou.part_len hab hb)
 have HPV:=Lib.hid (HFO.out.rou.part_ov (a:=a) hb)
 obtain⟨ov,hov⟩:=Int.eq_ofNat_of_zero_le g43
 obtain⟨A1,A2,A3,A4,ca1,ca2,ca3,ca4⟩:=v
 unfold LV.cs at HTI⊢
 simp only[]at HTI⊢
 have HE:Hid (∀k,k<(pcesOf L (partR r a b)).length→0≤entR (pcesOf L (partR r a b)) s k∧entR (pcesOf L (partR r a b)) s k≤100000000):=fun k hk=>HPO.out.ent_range hk
 have HLE:Hid (∀k,k<(pcesOf L (partR r a b)).length→0≤leaR (pcesOf L (partR r a b)) s k∧leaR (pcesOf L (partR r a b)) s k≤100000000):=fun k hk=>HPO.out.lea_range hk
 have hov2:(partR r a b).ov=0∨(partR r a b).ov=ov:=by unfold partR;split;exact Or.inr hov;exact Or.inl rfl
 have HPP:Hid (profP (pcesOf L r) s (decide (0<r.ov)) a b=⟨a,b,tab (b-a) fun k=>entR (pcesOf L (partR r a b)) s k/1000-16,tab (b-a) fun k=>entR (pcesOf L (partR r a b)) s (k+1)/1000,
   tab (b-a) fun k=>(leaR (pcesOf L (partR r a b)) s k+999)/1000+4,if decide (0<(partR r a b).ov)then entR (pcesOf L (partR r a b)) s (b-a)/1000-16 else 0,runR (pcesOf L (partR r a b)) s⟩):=by
  show _=_;unfold profP;rw[HPQ.out,HPV.out]
 have HPS:Hid (∀W S,RStps W S [.slice (some ⟨b0,o0,none⟩) r.stps.length c] r.stps→RStps W S [.slice (some ⟨b0,o0+a*2,none⟩) (partR r a b).stps.length (if(b:Int)=lastR r then c-a else b+1-a)] (partR r a b).stps):=fun W S hW=>by
  unfold partR
  split
  ·rename_i e
   have h1:=RSlice.partC hW (i:=a) (k:=r.stps.length) (m:=r.stps.length-a) (c':=c-a) (by omega) (Nat.le_refl _) rfl (by omega) (by omega)
   rw[List.take_length]at h1
   simpa[List.length_drop]using h1
  ·rename_i e
   have hl:((r.stps.take (b+1)).drop a).length=b+1-a:=by rw[List.length_drop,List.length_take];omega
   simp only[hl]
   exact RSlice.partC hW (by omega) (by omega) rfl (Nat.le_refl _) (by omega)
 have hpl:(partR r a b).stps.length=if(b:Int)=lastR r then r.stps.length-a else b+1-a:=by
  unfold partR
  split
  ·simp
  ·rw[List.length_drop,List.length_take];omega
 have hpo:(partR r a b).ov=if(b:Int)=lastR r then(ov:Int)else 0:=by
  unfold partR
  split
  ·exact hov
  ·rfl
 rw[HPP.out]
 generalize hQ:pcesOf L (partR r a b)=Q at*
 generalize hPR:partR r a b=pr at*
 have hn24:r.stps.length≤24:=g41
 rw[hov]at HLA⊢
 obtain⟨sn,sl,sv,sa,sb⟩:=s
 generalize hst:(⟨sn,sl,sv,sa,sb⟩:Stk)=s at*
 have ES:Hid (stkC s= #[.string (mkS sn),.int .i64 sl,.int .i64 sv,.int .i64 sa,.int .i64 sb]):=by subst hst;rfl
 rw[ES.out]at HTI⊢
 clear hst ES hpf hfit
 go_enter Tryz.func252,Tryz.ntmps252
 go_upto_region 1 with fail
 generalize hW1:World.alloc w _=W1
 have K1:Hid (KeepsAll w W1):=by subst hW1;exact(Keeps.refl _ _).alloc _
 have B1:Hid (Blk W1 w.heap.size 27 #[.slice A1 L.sts.length ca1,.slice A2 L.pts.length ca2,.slice A3 L.secs.length ca3,.slice A4 L.lks.length ca4]):=by subst hW1;exact Blk.new _ _ _
 have hz1:W1.heap.size=w.heap.size+1:=by subst hW1;simp
 clear hW1
 generalize hN:w.heap.size=N at*
 generalize hW:World.alloc (World.alloc (World.alloc W1 _) _) _=W
 have K0:Hid (KeepsAll w W):=by subst hW;exact((K1.out.alloc _).alloc _).alloc _
 have B0:Hid (Blk W N 27 #[.slice A1 L.sts.length ca1,.slice A2 L.pts.length ca2,.slice A3 L.secs.length ca3,.slice A4 L.lks.length ca4]):=by subst hW;exact((B1.out.alloc _).alloc _).alloc _
 have BR:Hid (Blk W (N+1) 95 #[.slice (some ⟨b0,o0,none⟩) r.stps.length c,.int .i64 ov]):=by subst hW;exact((Blk.new' _ _ _ hz1.symm).alloc _).alloc _
 have BK:Hid (Blk W (N+1+1) 103 #[.string (mkS sn),.int .i64 sl,.int .i64 sv,.int .i64 sa,.int .i64 sb]):=by subst hW;exact(Blk.new' _ _ _ (by simp[hz1])).alloc _
 have BZ:Hid (Blk W (N+1+1+1) 99 #[.int .i64 0,.int .i64 0,.slice none 0 0,.slice none 0 0,.slice none 0 0,.int .i64 0,.int .i64 0]):=by subst hW;exact Blk.new' _ _ _ (by simp[hz1])
 have HWS:Hid (W.heap.size=N+1+1+1+1):=by subst hW;show _=_;simp[hz1]
 clear hW K1 B1 hz1
 have r0:=BR.out.cell 0
 have r1:=BR.out.cell 1
 simp at r0 r1
 have hzr:=BR.out.lt
 have hbc:b+1≤c:=by omega
 have hbl:b+1≤r.stps.length:=by omega
 have hab1:a≤b+1:=by omega
 have HLS:=Lib.hid hlast
 clear hlast
 generalize hlr:lastR r=lr at*
 clear hlr
 go_upto_region 2 with fail
 generalize hW4:World.alloc W _=W4
 have K4:Hid (KeepsAll w W4):=by subst hW4;exact K0.out.alloc _
 have BP:Hid (Blk W4 W.heap.size 95 #[.slice (some ⟨b0,o0+a*2,none⟩) (b+1-a) (b+1-a),.int .i64 0]):=by subst hW4;exact Blk.new _ _ _
 have KW4:Hid (KeepsAll W W4):=by subst hW4;exact(Keeps.refl _ _).alloc _
 have C0:=Lib.hid (B0.out.kept KW4.out (by simp))
 have CR:=Lib.hid (BR.out.kept KW4.out (by simp))
 have CK:=Lib.hid (BK.out.kept KW4.out (by simp))
 have CZ:=Lib.hid (BZ.out.kept KW4.out (by simp))
 clear hW4 r0 r1 B0 BR BK BZ KW4 hzr
 have hp4:=HWS.out
 rw[hp4]at BP⊢
 clear hp4
 have r0:=CR.out.cell 0
 have r1:=CR.out.cell 1
 simp at r0 r1
 have hzr:=CR.out.lt
 go_upto_if 31 with(go_at_call 251;refine(HLA.out _ _ _).mono ?_;rintro e w5 ⟨rfl,k5⟩)
 have K5:Hid (KeepsAll w w5):=K4.out.trA k5
 have D0:=Lib.hid (C0.out.kept k5 (by simp))
 have DR:=Lib.hid (CR.out.kept k5 (by simp))
 have DK:=Lib.hid (CK.out.kept k5 (by simp))
 have DZ:=Lib.hid (CZ.out.kept k5 (by simp))
 have DP:=Lib.hid (BP.out.kept k5 (by simp))
 clear k5 r0 r1 C0 CR CK CZ BP hzr HLA
 go_cut []from 19 (fun wx=>Blk wx (N+1+1+1+1) 95 #[.slice (some ⟨b0,o0+a*2,none⟩) pr.stps.length (if(b:Int)=lr then c-a else b+1-a),.int .i64 pr.ov]∧Keeps (fun x=>x=N+1+1+1+1) w5 wx)
 case first=>
  by_cases hl:(b:Int)=lr
  ·rw[if_pos hl]at hpl hpo
   have HPB:Hid (Blk ((w5.setCell ⟨N+1+1+1+1,0,none⟩ (.slice (some ⟨b0,o0+a*2,none⟩) pr.stps.length (c-a))).setCell ⟨N+1+1+1+1,1,none⟩ (.int .i64 pr.ov)) (N+1+1+1+1) 95 #[.slice (some ⟨b0,o0+a*2,none⟩) pr.stps.length (c-a),.int .i64 pr.ov]):=
    (DP.out.set_ 0 _).set_ 1 _
   have hl2:((b:Int)==lr)=true:=beq_iff_eq.2 hl
   have HL1:=Lib.hid hl
   clear hl
   have r0:=DR.out.cell 0
   have r1:=DR.out.cell 1
   have p0:=DP.out.cell 0
   have p1:=DP.out.cell 1
   have f0:=DP.out.frozen 0
   have f1:=DP.out.frozen 1
   simp at r0 r1 p0 p1
   have hzp:=DP.out.lt
   have hac:a≤r.stps.length:=by omega
   go_wp2_with fail
   go_region
   go_wp2_with fail
   go_meet
   rw[if_pos HL1.out,hpl,hpo]
   rw[hpl,hpo]at HPB
   exact⟨HPB.out,((Keeps.refl (fun x=>x=N+1+1+1+1) w5).setCell (p:=⟨N+1+1+1+1,0,none⟩) (fun _=>rfl) _|>.setCell (p:=⟨N+1+1+1+1,1,none⟩) (fun _=>rfl) _).drew⟩
  ·rw[if_neg hl]at hpl hpo
   have hl2:((b:Int)==lr)=false:=beq_eq_false_iff_ne.2 hl
   have hl3:decide ((b:Int)=lr)=false:=decide_eq_false hl
   go_wp2_with fail
   go_meet
   exact⟨by rw[if_neg hl,hpl,hpo];exact DP.out,Keeps.refl _ _⟩
 case rest=>
  obtain⟨hbp,hkp⟩:=hcut
  have EP:=Lib.hid hbp
  have K6:Hid (KeepsAll w wc):=K5.out.trans hkp (fun x hx e=>by omega)
  have E0:=Lib.hid (D0.out.kept hkp (by omega))
  have EK:=Lib.hid (DK.out.kept hkp (by omega))
  have EZ:=Lib.hid (DZ.out.kept hkp (by omega))
  have HRP:=Lib.hid (K6.out.rdA (RSlice.ok RStp.ok) (HPS.out _ _ HR.out))
  have HLW:=Lib.hid (HL.out.kept K6.out)
  clear hbp hkp D0 DR DK DZ DP K5 hpl hpo HPS
  generalize (if(b:Int)=lr then c-a else b+1-a)=cp at*
  have p0:=EP.out.cell 0
  have p1:=EP.out.cell 1
  have l0:=E0.out.cell 0
  have l1:=E0.out.cell 1
  have l2:=E0.out.cell 2
  have l3:=E0.out.cell 3
  have s0:=EK.out.cell 0
  have s1:=EK.out.cell 1
  have s2:=EK.out.cell 2
  have s3:=EK.out.cell 3
  have s4:=EK.out.cell 4
  simp at p0 p1 l0 l1 l2 l3 s0 s1 s2 s3 s4
  have hz1:=EP.out.lt
  have hz2:=EK.out.lt
  have hz3:=E0.out.lt
  go_upto_region 6 with(go_at_call 374;with_reducible refine(HTI.out _ _ _ HLW.out HRP.out).mono ?_;rintro e w7 ⟨A5,n5,c5,A6,n6,c6,rfl,k7,R1,R2⟩)
  have hn5:=R1.len
  have hn6:=R2.len
  rw[tab_len]at hn5 hn6
  subst hn5 hn6
  have HR1:=Lib.hid R1
  have HR2:=Lib.hid R2
  have K7:Hid (KeepsAll w w7):=K6.out.trA k7
  have K67:=Lib.hid k7
  have FP:=Lib.hid (EP.out.kept k7 (by simp))
  have FZ:=Lib.hid (EZ.out.kept k7 (by simp))
  clear k7 R1 R2 p0 p1 l0 l1 l2 l3 s0 s1 s2 s3 s4 EP E0 EK EZ HRP HLW HTI hz1 hz2 hz3
  generalize hW8:World.alloc w7 _=W8
  have K78:Hid (KeepsAll w7 W8):=by subst hW8;exact(Keeps.refl _ _).alloc _
  have BQ:Hid (Blk W8 w7.heap.size 99 #[.int .i64 a,.int .i64 b,.slice none 0 0,.slice none 0 0,.slice none 0 0,.int .i64 0,.int .i64 (runR Q s)]):=by subst hW8;exact Blk.new _ _ _
  have hW8s:Hid (W8.heap.size=w7.heap.size+1):=by subst hW8;show _=_;simp
  clear hW8
  have hzw:N+1+1+1+1<w7.heap.size:=FP.out.lt
  have hww:=K67.out.size
  generalize hzp:w7.heap.size=zp at*
  go_upto_region 7 with fail
  have hsub:(b:Int)-(a:Int)=((b-a:Nat):Int):=by omega
  rw[hsub]
  clear hsub
  have HDQ:Hid (b-a+1=Q.length):=by show _=_;rw[HPL.out];omega
  have hQ24:Q.length≤24:=by rw[HPL.out];omega
  generalize hD:b-a=D at*
  have hDQ:=HDQ.out
  go_wp2_with fail
  go_loopw [56] (fun i wr=>∃(k:Nat) (vN vE vC:Value),k≤D∧i= .int .i64 (k:Int)∧PrS W8 wr zp a b (runR Q s) vN vE vC (tab k fun k=>entR Q s k/1000-16) (tab k fun k=>entR Q s (k+1)/1000) (tab k fun k=>(leaR Q s k+999)/1000+4)) (fun i _=>D-(intOf i).toNat)
  case atStart=>exact⟨0,_,_,_,Nat.zero_le _,rfl,⟨Keeps.refl _ _,BQ.out,OwnL.nil,OwnL.nil,OwnL.nil,by simp[Value.ownBlock],by simp[Value.ownBlock],by simp[Value.ownBlock]⟩⟩
  case round=>
   obtain⟨k,vN,vE,vC,hk,rfl,hp⟩:=hrel
   have HP:=Lib.hid hp
   clear hp
   by_cases hlt:k<D
   ·obtain⟨AN,cN,rfl,hN1,hN2⟩:=HP.out.oN.form
    obtain⟨AE,cE,rfl,hE1,hE2⟩:=HP.out.oE.form
    obtain⟨AC,cC,rfl,hC1,hC2⟩:=HP.out.oC.form
    have HT1:Hid ((tab (k+1) fun k=>entR Q s k/1000-16)=(tab k fun k=>entR Q s k/1000-16)++ [entR Q s k/1000-16]):=tab_succ _ _
    have HT2:Hid ((tab (k+1) fun k=>entR Q s (k+1)/1000)=(tab k fun k=>entR Q s (k+1)/1000)++ [entR Q s (k+1)/1000]):=tab_succ _ _
    have HT3:Hid ((tab (k+1) fun k=>(leaR Q s k+999)/1000+4)=(tab k fun k=>(leaR Q s k+999)/1000+4)++ [(leaR Q s k+999)/1000+4]):=tab_succ _ _
    have hlN:=tab_len k fun k=>entR Q s k/1000-16
    have hlE:=tab_len k fun k=>entR Q s (k+1)/1000
    have hlC:=tab_len k fun k=>(leaR Q s k+999)/1000+4
    generalize hHTN:(tab (k+1) fun k=>entR Q s k/1000-16)=tN1 at*
    have HTN:=Lib.hid hHTN
    clear hHTN
    generalize hHTE:(tab (k+1) fun k=>entR Q s (k+1)/1000)=tE1 at*
    have HTE:=Lib.hid hHTE
    clear hHTE
    generalize hHTC:(tab (k+1) fun k=>(leaR Q s k+999)/1000+4)=tC1 at*
    have HTC:=Lib.hid hHTC
    clear hHTC
    generalize (tab k fun k=>entR Q s k/1000-16)=tN at*
    generalize (tab k fun k=>entR Q s (k+1)/1000)=tE at*
    generalize (tab k fun k=>(leaR Q s k+999)/1000+4)=tC at*
    have hN24:tN.length≤24:=by omega
    have hE24:tE.length≤24:=by omega
    have hC24:tC.length≤24:=by omega
    have HLN:=Lib.hid hlN
    have HLE2:=Lib.hid hlE
    have HLC:=Lib.hid hlC
    clear hlN hlE hlC
    obtain⟨hek0,hek1⟩:=HE.out k (by omega)
    obtain⟨hen0,hen1⟩:=HE.out (k+1) (by omega)
    obtain⟨hlk0,hlk1⟩:=HLE.out k (by omega)
    obtain⟨be,oe,x,rfl,hbe,hx,c0⟩:=HR1.out.at_ (k:=k) (by rw[tab_len];omega)
    obtain⟨be2,oe2,x2,hA52,-,hx2,c1⟩:=HR1.out.at_ (k:=k+1) (by rw[tab_len];omega)
    injection hA52 with e
    injection e with e1 e2
    subst e1 e2
    obtain⟨bl,ol,x3,rfl,hbl,hx3,c2⟩:=HR2.out.at_ (k:=k) (by rw[tab_len];omega)
    rw[tab_get (by omega)]at hx hx2 hx3
    obtain rfl:=Option.some.inj hx
    obtain rfl:=Option.some.inj hx2
    obtain rfl:=Option.some.inj hx3
    clear hx hx2 hx3
    obtain⟨X,hX⟩:=Int.eq_ofNat_of_zero_le hek0
    obtain⟨Y,hY⟩:=Int.eq_ofNat_of_zero_le hen0
    obtain⟨Z,hZ⟩:=Int.eq_ofNat_of_zero_le hlk0
    rw[hX]at c0 HT1 hek1
    rw[hY]at c1 HT2 hen1
    rw[hZ]at c2 HT3 hlk1
    have hbe1:be<zp:=by have:=hbe.2;omega
    have hbl1:bl<zp:=by have:=hbl.2;omega
    have d0:=K78.out.cellA (by show be<_;omega) c0
    have d1:=K78.out.cellA (by show be<_;omega) c1
    have d2:=K78.out.cellA (by show bl<_;omega) c2
    have q0:Int.tdiv (X:Int) 1000=((X/1000:Nat):Int):=by rw[show(1000:Int)=((1000:Nat):Int)from rfl,←Int.ofNat_tdiv]
    have q1:Int.tdiv (Y:Int) 1000=((Y/1000:Nat):Int):=by rw[show(1000:Int)=((1000:Nat):Int)from rfl,←Int.ofNat_tdiv]
    have q2:Int.tdiv ((Z:Int)+999) 1000=(((Z+999)/1000:Nat):Int):=by rw[show(Z:Int)+999=((Z+999:Nat):Int)from by omega,show(1000:Int)=((1000:Nat):Int)from rfl,←Int.ofNat_tdiv]
    have v0:(X:Int)/1000-16=((X/1000:Nat):Int)-16:=by omega
    have v1:(Y:Int)/1000=((Y/1000:Nat):Int):=by omega
    have v2:((Z:Int)+999)/1000+4=(((Z+999)/1000:Nat):Int)+4:=by omega
    rw[v0]at HT1
    rw[v1]at HT2
    rw[v2]at HT3
    have m0:X/1000≤100000:=by omega
    have m1:Y/1000≤100000:=by omega
    have m2:(Z+999)/1000≤200000:=by omega
    have hZb:Z≤100000000:=by omega
    generalize X/1000=qx at*
    generalize Y/1000=qy at*
    generalize (Z+999)/1000=qz at*
    clear v0 v1 v2 c0 c1 c2 hek0 hen0 hlk0 hek1 hen1 hlk1 hX hY hZ
    have HD0:=Lib.hid d0
    have HD1:=Lib.hid d1
    have HD2:=Lib.hid d2
    clear d0 d1 d2
    have hz8:zp<W8.heap.size:=by have:=hW8s.out;omega
    have hws:=HP.out.k.size
    have n0:¬((Value.slice AN tN.length cN).ownBlock=some zp):=fun e=>by have:=(HP.out.oN.lt e).1;omega
    have n1:¬((Value.slice AN tN.length cN).ownBlock=some be):=fun e=>by have:=(HP.out.oN.lt e).1;omega
    have p2:=HP.out.b.cell 2
    simp at p2
    have d0:=(HP.out.k.cell (p:=⟨be,oe+k,none⟩) (by show be<_;omega) (by show¬be=zp;omega)).trans HD0.out
    go_upto_region 10 with fail
    refine wp_region_lexB (fun w'=>∃x:ExtC (fun b=>(Value.slice AN tN.length cN).ownBlock=some b) wr,w'=x.val) [0,1,2,3,4,5,6,7,8,9,10,11] (by kernel_rfl) (by kernel_rfl) (ExtC.start _ _) ?_
    have y1:=ExtC.cell (C:=fun b=>(Value.slice AN tN.length cN).ownBlock=some b) p2 n0
    have y2:=ExtC.cell (C:=fun b=>(Value.slice AN tN.length cN).ownBlock=some b) d0 n1
    iterate 8 (refine lex_q _ rfl rfl rfl ?_;go_big_quiet_step (fail);refine wpQuiet_nil ?_)
    clear y1 y2 p2 d0
    refine lex_a _ rfl rfl true (by kernel_rfl) ?_
    go_wp2
    refine⟨fun _=>⟨⟨_,((Keeps.refl _ _).alloc _).drew⟩,rfl⟩,?_⟩
    generalize hWa:(World.alloc _ _).drew=Wa
    have ka:KeepsAll wr Wa:=by subst hWa;exact((Keeps.refl _ _).alloc _).drew
    have HBV:Hid (Blk Wa wr.heap.size 3 [.int .i64 ((qx:Int)-16)].toArray):=by subst hWa;exact Blk.new _ _ _
    have HP1:=Lib.hid (HP.out.keep ka)
    have hza:=HP1.out.k.size
    clear hWa
    refine lex_a _ rfl rfl true (by kernel_rfl) ?_
    go_wp2_with(at_builtin;go_loud(refine wpList_append_L tyInt RInt.ok rfl (.tmp 60) (.tmp 67) rfl HP1.out.oN rfl _ [.int .i64 ((qx:Int)-16)] rfl HBV.out rfl ((qx:Int)-16) (S:=fun _=>False) rfl (fun _ h=>h.elim) (by simp[Value.oneCell']) (by omega) (by omega) hza ?_;intro v8 w8 HO8 HK8 HA8;obtain⟨A8,c8,hv8,hv81,hv82⟩:=HO8.form;rw[List.length_append,List.length_singleton]at hv8;subst hv8))
    have HP1':=Lib.hid (HP1.out.putN hz8 HO8 HK8 HA8)
    rw[←HT1.out]at HP1'
    have K8:=(ka.mono (C:=fun b=>(Value.slice AN tN.length cN).ownBlock=some b) (fun _ _ h=>h.elim)).trans HK8 (fun _ _ h=>h)
    have bz8:=HP1.out.b.kept HK8 n0
    have c82:=bz8.cell 2
    have f82:=bz8.frozen 2
    simp at c82
    refine⟨fun _=>⟨⟨_,K8⟩,rfl⟩,?_⟩
    clear K8 bz8 HO8 HK8 HA8 HBV HP1 HP ka hza
    refine lex_q _ rfl rfl rfl ?_
    go_big_quiet_step (fail)
    refine wpQuiet_nil ?_
    refine lex_a _ rfl rfl false (by kernel_rfl) ?_
    go_wp2
    (try refine⟨fun h=>(by cases h),?_⟩)
    simp only[wpLex]
    refine NoPanic.normal ?_
    generalize hWb:World.setCell w8 _ _=wb1
    rw[hWb]at HP1'
    clear hWb c82 f82 hv81 hv82
    have hws:=HP1'.out.k.size
    have n0:¬((Value.slice AE tE.length cE).ownBlock=some zp):=fun e=>by have:=(HP1'.out.oE.lt e).1;omega
    have n1:¬((Value.slice AE tE.length cE).ownBlock=some be):=fun e=>by have:=(HP1'.out.oE.lt e).1;omega
    have p2:=HP1'.out.b.cell 3
    simp at p2
    have d0:=(HP1'.out.k.cell (p:=⟨be,oe+(k+1),none⟩) (by show be<_;omega) (by show¬be=zp;omega)).trans HD1.out
    go_upto_region 11 with fail
    refine wp_region_lexB (fun w'=>∃x:ExtC (fun b=>(Value.slice AE tE.length cE).ownBlock=some b) wb1,w'=x.val) [0,1,2,3,4,5,6,7,8,9,10,11] (by kernel_rfl) (by kernel_rfl) (ExtC.start _ _) ?_
    have y1:=ExtC.cell (C:=fun b=>(Value.slice AE tE.length cE).ownBlock=some b) p2 n0
    have y2:=ExtC.cell (C:=fun b=>(Value.slice AE tE.length cE).ownBlock=some b) d0 n1
    iterate 8 (refine lex_q _ rfl rfl rfl ?_;go_big_quiet_step (fail);refine wpQuiet_nil ?_)
    clear y1 y2 p2 d0
    refine lex_a _ rfl rfl true (by kernel_rfl) ?_
    go_wp2
    refine⟨fun _=>⟨⟨_,((Keeps.refl _ _).alloc _).drew⟩,rfl⟩,?_⟩
    generalize hWa:(World.alloc _ _).drew=Wa
    have ka:KeepsAll wb1 Wa:=by subst hWa;exact((Keeps.refl _ _).alloc _).drew
    have HBV:Hid (Blk Wa wb1.heap.size 3 [.int .i64 ((qy:Int))].toArray):=by subst hWa;exact Blk.new _ _ _
    have HP2:=Lib.hid (HP1'.out.keep ka)
    have hza:=HP2.out.k.size
    clear hWa
    refine lex_a _ rfl rfl true (by kernel_rfl) ?_
    go_wp2_with(at_builtin;go_loud(refine wpList_append_L tyInt RInt.ok rfl (.tmp 71) (.tmp 78) rfl HP2.out.oE rfl _ [.int .i64 ((qy:Int))] rfl HBV.out rfl ((qy:Int)) (S:=fun _=>False) rfl (fun _ h=>h.elim) (by simp[Value.oneCell']) (by omega) (by omega) hza ?_;intro v8 w8 HO8 HK8 HA8;obtain⟨A8,c8,hv8,hv81,hv82⟩:=HO8.form;rw[List.length_append,List.length_singleton]at hv8;subst hv8))
    have HP2':=Lib.hid (HP2.out.putE hz8 HO8 HK8 HA8)
    rw[←HT2.out]at HP2'
    have K8:=(ka.mono (C:=fun b=>(Value.slice AE tE.length cE).ownBlock=some b) (fun _ _ h=>h.elim)).trans HK8 (fun _ _ h=>h)
    have bz8:=HP2.out.b.kept HK8 n0
    have c82:=bz8.cell 3
    have f82:=bz8.frozen 3
    simp at c82
    refine⟨fun _=>⟨⟨_,K8⟩,rfl⟩,?_⟩
    clear K8 bz8 HO8 HK8 HA8 HBV HP2 HP1' ka hza
    refine lex_q _ rfl rfl rfl ?_
    go_big_quiet_step (fail)
    refine wpQuiet_nil ?_
    refine lex_a _ rfl rfl false (by kernel_rfl) ?_
    go_wp2
    (try refine⟨fun h=>(by cases h),?_⟩)
    simp only[wpLex]
    refine NoPanic.normal ?_
    generalize hWb:World.setCell w8 _ _=wb2
    rw[hWb]at HP2'
    clear hWb c82 f82 hv81 hv82
    have hws:=HP2'.out.k.size
    have n0:¬((Value.slice AC tC.length cC).ownBlock=some zp):=fun e=>by have:=(HP2'.out.oC.lt e).1;omega
    have n1:¬((Value.slice AC tC.length cC).ownBlock=some bl):=fun e=>by have:=(HP2'.out.oC.lt e).1;omega
    have p2:=HP2'.out.b.cell 4
    simp at p2
    have d0:=(HP2'.out.k.cell (p:=⟨bl,ol+k,none⟩) (by show bl<_;omega) (by show¬bl=zp;omega)).trans HD2.out
    go_upto_region 12 with fail
    refine wp_region_lexB (fun w'=>∃x:ExtC (fun b=>(Value.slice AC tC.length cC).ownBlock=some b) wb2,w'=x.val) [0,1,2,3,4,5,6,7,8,9,10,11,12] (by kernel_rfl) (by kernel_rfl) (ExtC.start _ _) ?_
    have y1:=ExtC.cell (C:=fun b=>(Value.slice AC tC.length cC).ownBlock=some b) p2 n0
    have y2:=ExtC.cell (C:=fun b=>(Value.slice AC tC.length cC).ownBlock=some b) d0 n1
    iterate 9 (refine lex_q _ rfl rfl rfl ?_;go_big_quiet_step (fail);refine wpQuiet_nil ?_)
    clear y1 y2 p2 d0
    refine lex_a _ rfl rfl true (by kernel_rfl) ?_
    go_wp2
    refine⟨fun _=>⟨⟨_,((Keeps.refl _ _).alloc _).drew⟩,rfl⟩,?_⟩
    generalize hWa:(World.alloc _ _).drew=Wa
    have ka:KeepsAll wb2 Wa:=by subst hWa;exact((Keeps.refl _ _).alloc _).drew
    have HBV:Hid (Blk Wa wb2.heap.size 3 [.int .i64 ((qz:Int)+4)].toArray):=by subst hWa;exact Blk.new _ _ _
    have HP3:=Lib.hid (HP2'.out.keep ka)
    have hza:=HP3.out.k.size
    clear hWa
    refine lex_a _ rfl rfl true (by kernel_rfl) ?_
    go_wp2_with(at_builtin;go_loud(refine wpList_append_L tyInt RInt.ok rfl (.tmp 82) (.tmp 90) rfl HP3.out.oC rfl _ [.int .i64 ((qz:Int)+4)] rfl HBV.out rfl ((qz:Int)+4) (S:=fun _=>False) rfl (fun _ h=>h.elim) (by simp[Value.oneCell']) (by omega) (by omega) hza ?_;intro v8 w8 HO8 HK8 HA8;obtain⟨A8,c8,hv8,hv81,hv82⟩:=HO8.form;rw[List.length_append,List.length_singleton]at hv8;subst hv8))
    have HP3':=Lib.hid (HP3.out.putC hz8 HO8 HK8 HA8)
    rw[←HT3.out]at HP3'
    have K8:=(ka.mono (C:=fun b=>(Value.slice AC tC.length cC).ownBlock=some b) (fun _ _ h=>h.elim)).trans HK8 (fun _ _ h=>h)
    have bz8:=HP3.out.b.kept HK8 n0
    have c82:=bz8.cell 4
    have f82:=bz8.frozen 4
    simp at c82
    refine⟨fun _=>⟨⟨_,K8⟩,rfl⟩,?_⟩
    clear K8 bz8 HO8 HK8 HA8 HBV HP3 HP2' ka hza
    refine lex_q _ rfl rfl rfl ?_
    go_big_quiet_step (fail)
    refine wpQuiet_nil ?_
    refine lex_a _ rfl rfl false (by kernel_rfl) ?_
    go_wp2
    (try refine⟨fun h=>(by cases h),?_⟩)
    simp only[wpLex]
    refine NoPanic.normal ?_
    generalize hWb:World.setCell w8 _ _=wb3
    rw[hWb]at HP3'
    clear hWb c82 f82 hv81 hv82
    have hws:=HP3'.out.k.size
    go_wp2_with fail
    exact⟨⟨k+1,_,_,_,by omega,by go_num,by rw[HTN.out,HTE.out,HTC.out];exact HP3'.out⟩,by simp[intOf];omega⟩
   ·obtain rfl:k=D:=by omega
    obtain⟨AN,cN,rfl,hN1,hN2⟩:=HP.out.oN.form
    obtain⟨AE,cE,rfl,hE1,hE2⟩:=HP.out.oE.form
    obtain⟨AC,cC,rfl,hC1,hC2⟩:=HP.out.oC.form
    generalize hTN:(tab k fun k=>entR Q s k/1000-16)=tN at*
    generalize hTE:(tab k fun k=>entR Q s (k+1)/1000)=tE at*
    generalize hTC:(tab k fun k=>(leaR Q s k+999)/1000+4)=tC at*
    have hws:=HP.out.k.size
    have hz8:zp<W8.heap.size:=by have:=hW8s.out;omega
    have GP:=Lib.hid ((FP.out.kept K78.out (by simp)).kept HP.out.k (by omega))
    have GZ:=Lib.hid ((FZ.out.kept K78.out (by simp)).kept HP.out.k (by omega))
    obtain⟨hek0,hek1⟩:=HE.out k (by omega)
    obtain⟨be,oe,x,rfl,hbe,hx,c0⟩:=HR1.out.at_ (k:=k) (by rw[tab_len];omega)
    rw[tab_get (by omega)]at hx
    obtain rfl:=Option.some.inj hx
    have hbe1:be<zp:=by have:=hbe.2;omega
    have d0:=(HP.out.k.cell (p:=⟨be,oe+k,none⟩) (by show be<_;omega) (by show¬be=zp;omega)).trans (K78.out.cellA (by show be<_;omega) c0)
    obtain⟨X,hX⟩:=Int.eq_ofNat_of_zero_le hek0
    have HV:Hid (entR Q s k/1000=((X/1000:Nat):Int)):=by show _=_;rw[hX];omega
    rw[hX]at d0 hek1
    have q0:Int.tdiv (X:Int) 1000=((X/1000:Nat):Int):=by rw[show(1000:Int)=((1000:Nat):Int)from rfl,←Int.ofNat_tdiv]
    have m0:X/1000≤100000:=by omega
    generalize X/1000=qx at*
    have p1:=GP.out.cell 1
    simp at p1
    have z0:=HP.out.b.cell 0
    have z1:=HP.out.b.cell 1
    have z2:=HP.out.b.cell 2
    have z3:=HP.out.b.cell 3
    have z4:=HP.out.b.cell 4
    have z5:=HP.out.b.cell 5
    have z6:=HP.out.b.cell 6
    have f5:=HP.out.b.frozen 5
    simp at z0 z1 z2 z3 z4 z5 z6
    have g0:=GZ.out.frozen 0
    have g1:=GZ.out.frozen 1
    have g2:=GZ.out.frozen 2
    have g3:=GZ.out.frozen 3
    have g4:=GZ.out.frozen 4
    have g5:=GZ.out.frozen 5
    have g6:=GZ.out.frozen 6
    have y0:=GZ.out.cell 0
    have y1:=GZ.out.cell 1
    have y2:=GZ.out.cell 2
    have y3:=GZ.out.cell 3
    have y4:=GZ.out.cell 4
    have y5:=GZ.out.cell 5
    have y6:=GZ.out.cell 6
    simp at y0 y1 y2 y3 y4 y5 y6
    have hzz:N+1+1+1<wr.heap.size:=GZ.out.lt
    have hzq:zp<wr.heap.size:=HP.out.b.lt
    clear hX hek0 c0 hx
    have FIN:Hid (∀(W9:World),Keeps (fun x=>x=zp∨x=N+1+1+1) wr W9→KeepsAll w W9∧RInts W9 (Fresh w W9) [.slice AN tN.length cN] tN∧RInts W9 (Fresh w W9) [.slice AE tE.length cE] tE∧RInts W9 (Fresh w W9) [.slice AC tC.length cC] tC):=fun W9 hk=>by
     have kw:KeepsAll w W9:=((K7.out.trA K78.out).trans HP.out.k (fun x hx e=>by omega)).trans hk (fun x hx e=>by omega)
     refine⟨kw,?_,?_,?_⟩
     ·exact(HP.out.oN.keepsT RInt.flt hk (fun x hx e=>by have:=(HP.out.oN.lt hx).1;omega)).readT RInt.flt (S:=Fresh w W9) (fun x hx=>⟨by have:=(HP.out.oN.lt hx).1;omega,Nat.lt_of_lt_of_le (HP.out.oN.lt hx).2 hk.size⟩)
     ·exact(HP.out.oE.keepsT RInt.flt hk (fun x hx e=>by have:=(HP.out.oE.lt hx).1;omega)).readT RInt.flt (S:=Fresh w W9) (fun x hx=>⟨by have:=(HP.out.oE.lt hx).1;omega,Nat.lt_of_lt_of_le (HP.out.oE.lt hx).2 hk.size⟩)
     ·exact(HP.out.oC.keepsT RInt.flt hk (fun x hx e=>by have:=(HP.out.oC.lt hx).1;omega)).readT RInt.flt (S:=Fresh w W9) (fun x hx=>⟨by have:=(HP.out.oC.lt hx).1;omega,Nat.lt_of_lt_of_le (HP.out.oC.lt hx).2 hk.size⟩)
    by_cases ho:0<pr.ov
    ·have ho1:decide (0<pr.ov)=true:=by simpa using ho
     go_wp2_with fail
     generalize hW9:World.setCell (World.setCell (World.setCell (World.setCell (World.setCell (World.setCell (World.setCell (World.setCell wr _ _) _ _) _ _) _ _) _ _) _ _) _ _) _ _=W9
     have k5:Keeps (fun x=>x=zp) wr (wr.setCell ⟨zp,5,none⟩ (.int .i64 ((qx:Int)-16))):=(Keeps.refl (fun x=>x=zp) wr).setCell (p:=⟨zp,5,none⟩) (fun _=>rfl) _
     have B9:Hid (Blk W9 (N+1+1+1) 99 #[.int .i64 a,.int .i64 b,.slice AN tN.length cN,.slice AE tE.length cE,.slice AC tC.length cC,.int .i64 ((qx:Int)-16),.int .i64 (runR Q s)]):=by subst hW9;exact blk_put7 (GZ.out.kept k5 (by omega)) _ _ _ _ _ _ _
     have KZ9:Hid (Keeps (fun x=>x=zp∨x=N+1+1+1) wr W9):=by subst hW9;exact keeps_put7 (k5.mono (fun _ _ e=> .inl e)) (.inr rfl) _ _ _ _ _ _ _
     clear hW9 k5 z0 z1 z2 z3 z4 z5 z6 g0 g1 g2 g3 g4 g5 g6 y0 y1 y2 y3 y4 y5 y6
     have z0:=B9.out.cell 0
     have z1:=B9.out.cell 1
     have z2:=B9.out.cell 2
     have z3:=B9.out.cell 3
     have z4:=B9.out.cell 4
     have z5:=B9.out.cell 5
     have z6:=B9.out.cell 6
     simp at z0 z1 z2 z3 z4 z5 z6
     refine bodyPost_ret (v:= .agg #[.int .i64 a,.int .i64 b,.slice AN tN.length cN,.slice AE tE.length cE,.slice AC tC.length cC,.int .i64 ((qx:Int)-16),.int .i64 (runR Q s)]) (by simp[results,Tryz.results252,go_sem,z0,z1,z2,z3,z4,z5,z6]) rfl ?_
     obtain⟨f1,f2,f3,f4⟩:=FIN.out W9 KZ9.out
     exact⟨_,_,_,by rw[HV.out],f1,f2,f3,f4⟩
    ·have ho1:decide (0<pr.ov)=false:=by simpa using ho
     go_wp2_with fail
     generalize hW9:World.setCell (World.setCell (World.setCell (World.setCell (World.setCell (World.setCell (World.setCell wr _ _) _ _) _ _) _ _) _ _) _ _) _ _=W9
     have B9:Hid (Blk W9 (N+1+1+1) 99 #[.int .i64 a,.int .i64 b,.slice AN tN.length cN,.slice AE tE.length cE,.slice AC tC.length cC,.int .i64 0,.int .i64 (runR Q s)]):=by subst hW9;exact blk_put7 GZ.out _ _ _ _ _ _ _
     have KZ9:Hid (Keeps (fun x=>x=zp∨x=N+1+1+1) wr W9):=by subst hW9;exact keeps_put7 (Keeps.refl _ _) (.inr rfl) _ _ _ _ _ _ _
     clear hW9 z0 z1 z2 z3 z4 z5 z6 g0 g1 g2 g3 g4 g5 g6 y0 y1 y2 y3 y4 y5 y6
     have z0:=B9.out.cell 0
     have z1:=B9.out.cell 1
     have z2:=B9.out.cell 2
     have z3:=B9.out.cell 3
     have z4:=B9.out.cell 4
     have z5:=B9.out.cell 5
     have z6:=B9.out.cell 6
     simp at z0 z1 z2 z3 z4 z5 z6
     refine bodyPost_ret (v:= .agg #[.int .i64 a,.int .i64 b,.slice AN tN.length cN,.slice AE tE.length cE,.slice AC tC.length cC,.int .i64 0,.int .i64 (runR Q s)]) (by simp[results,Tryz.results252,go_sem,z0,z1,z2,z3,z4,z5,z6]) rfl ?_
     obtain⟨f1,f2,f3,f4⟩:=FIN.out W9 KZ9.out
     exact⟨_,_,_,rfl,f1,f2,f3,f4⟩
end
section
open Go.RowKit
theorem motErr_fit {L:Lay} {r:Rou} {s:Stk} (h:motErr L r s=0):fitErr L r s=0:=by
 unfold motErr at h
 split at h
 ·exact h
 ·rename_i g;simpa using g
set_option maxRecDepth 100000 in
set_option maxHeartbeats 8000000 in
theorem motMake_any (L:Lay) (v:LV) (r:Rou) (s:Stk) (A:Option Addr) (c a b:Nat) (w:World) (h:RLay w (Old w) v L) (hr:RStps w (Old w) [.slice A r.stps.length c] r.stps) (hlen:LayLen L) (hmot:motErr L r s=0) (hab:a<b) (hb:(b:Int)≤lastR r):
  Calls Tryz.prog 142 #[.agg (v.cs L),.agg #[.slice A r.stps.length c,.int .i64 r.ov],.agg (stkC s),.int .i64 (a:Int),.int .i64 (b:Int)] w fun e w'=>∃vN vE vC,
   e= .returned (.tuple #[.agg #[.int .i64 (a:Int),.int .i64 (b:Int),vN,vE,vC,.int .i64 (profP (pcesOf L r) s (decide (0<r.ov)) a b).ovl,.int .i64 (profP (pcesOf L r) s (decide (0<r.ov)) a b).run],.int .i64 0])∧KeepsAll w w'∧
   RInts w' (Fresh w w') [vN] (profP (pcesOf L r) s (decide (0<r.ov)) a b).need∧RInts w' (Fresh w w') [vE] (profP (pcesOf L r) s (decide (0<r.ov)) a b).ent∧RInts w' (Fresh w w') [vC] (profP (pcesOf L r) s (decide (0<r.ov)) a b).clr:=by
 have HF:=Lib.hid (fun W k1 k2=>motFits_any L v r s A c W k1 k2 hlen)
 have HPR:=Lib.hid (fun W k1 k2=>mprofile_any L v r s A c a b W k1 k2 hlen (motErr_fit hmot) hab hb)
 have HFO:=(fitErr_ok (motErr_fit hmot)).rou
 have g41:=HFO.len
 have g42:=HFO.ov2
 have g43:=HFO.ov0
 have HLA:=Lib.hid (fun A' c' W=>mlast_any r A' c' W g43 (by omega) (by omega))
 rw[hmot]at HF
 have hb24:b≤24:=by unfold lastR at hb;omega
 have HL:=Lib.hid h
 have HR:=Lib.hid hr
 have hc:=hr.caps
 clear h hr hmot HFO
 obtain⟨A1,A2,A3,A4,ca1,ca2,ca3,ca4⟩:=v
 unfold LV.cs at HF HPR⊢
 simp only[]at HF HPR⊢
 generalize profP (pcesOf L r) s (decide (0<r.ov)) a b=pf at*
 obtain⟨sn,sl,sv,sa,sb⟩:=s
 unfold stkC at HF HPR⊢
 simp only[]at HF HPR⊢
 generalize lastR r=lr at*
 go_enter Tryz.func142,Tryz.ntmps142
 go_upto_region 1 with fail
 generalize hW1:World.alloc w _=W1
 have K1:Hid (KeepsAll w W1):=by subst hW1;exact(Keeps.refl _ _).alloc _
 have B1:Hid (Blk W1 w.heap.size 27 #[.slice A1 L.sts.length ca1,.slice A2 L.pts.length ca2,.slice A3 L.secs.length ca3,.slice A4 L.lks.length ca4]):=by subst hW1;exact Blk.new _ _ _
 have hz1:W1.heap.size=w.heap.size+1:=by subst hW1;simp
 clear hW1
 generalize hN:w.heap.size=N at*
 generalize hW:World.alloc (World.alloc (World.alloc W1 _) _) _=W
 have K0:Hid (KeepsAll w W):=by subst hW;exact((K1.out.alloc _).alloc _).alloc _
 have B0:Hid (Blk W N 27 #[.slice A1 L.sts.length ca1,.slice A2 L.pts.length ca2,.slice A3 L.secs.length ca3,.slice A4 L.lks.length ca4]):=by subst hW;exact((B1.out.alloc _).alloc _).alloc _
 have BR:Hid (Blk W (N+1) 95 #[.slice A r.stps.length c,.int .i64 r.ov]):=by subst hW;exact((Blk.new' _ _ _ hz1.symm).alloc _).alloc _
 have BK:Hid (Blk W (N+1+1) 103 #[.string (mkS sn),.int .i64 sl,.int .i64 sv,.int .i64 sa,.int .i64 sb]):=by subst hW;exact(Blk.new' _ _ _ (by simp[hz1])).alloc _
 have BZ:Hid (Blk W (N+1+1+1) 99 #[.int .i64 0,.int .i64 0,.slice none 0 0,.slice none 0 0,.slice none 0 0,.int .i64 0,.int .i64 0]):=by subst hW;exact Blk.new' _ _ _ (by simp[hz1])
 clear hW K1 B1 hz1
 have l0:=B0.out.cell 0
 have l1:=B0.out.cell 1
 have l2:=B0.out.cell 2
 have l3:=B0.out.cell 3
 have s0:=BK.out.cell 0
 have s1:=BK.out.cell 1
 have s2:=BK.out.cell 2
 have s3:=BK.out.cell 3
 have s4:=BK.out.cell 4
 have r0:=BR.out.cell 0
 have r1:=BR.out.cell 1
 simp at l0 l1 l2 l3 s0 s1 s2 s3 s4 r0 r1
 have hzl:=B0.out.lt
 have hzr:=BR.out.lt
 have hzs:=BK.out.lt
 go_upto_region 2 with(go_at_call 196;with_reducible refine(HF.out _ (HL.out.kept K0.out) (K0.out.rdA (RSlice.ok RStp.ok) HR.out)).mono ?_;rintro e w2 ⟨rfl,k2⟩)
 have K2:Hid (KeepsAll w w2):=K0.out.trA k2
 have C0:=Lib.hid (B0.out.kept k2 (by simp))
 have CR:=Lib.hid (BR.out.kept k2 (by simp))
 have CK:=Lib.hid (BK.out.kept k2 (by simp))
 have CZ:=Lib.hid (BZ.out.kept k2 (by simp))
 clear k2 l0 l1 l2 l3 s0 s1 s2 s3 s4 r0 r1 B0 BR BK BZ K0 HF hzl hzr hzs
 have r0:=CR.out.cell 0
 have r1:=CR.out.cell 1
 simp at r0 r1
 have hzr:=CR.out.lt
 have t1:decide ((a:Int)<0)=false:=by rw[decide_eq_false_iff_not];omega
 have t2:decide ((b:Int)≤(a:Int))=false:=by rw[decide_eq_false_iff_not];omega
 have t3:decide (lr<(b:Int))=false:=by rw[decide_eq_false_iff_not];omega
 have t4:¬(b:Int)≤(a:Int):=by omega
 have t5:¬b≤a:=by omega
 go_upto_region 6 with(go_at_call 251;refine(HLA.out _ _ _).mono ?_;rintro e w3 ⟨rfl,k3⟩)
 have K3:Hid (KeepsAll w w3):=K2.out.trA k3
 have D0:=Lib.hid (C0.out.kept k3 (by simp))
 have DR:=Lib.hid (CR.out.kept k3 (by simp))
 have DK:=Lib.hid (CK.out.kept k3 (by simp))
 have DZ:=Lib.hid (CZ.out.kept k3 (by simp))
 clear k3 r0 r1 C0 CR CK CZ K2 HLA hzr
 have l0:=D0.out.cell 0
 have l1:=D0.out.cell 1
 have l2:=D0.out.cell 2
 have l3:=D0.out.cell 3
 have s0:=DK.out.cell 0
 have s1:=DK.out.cell 1
 have s2:=DK.out.cell 2
 have s3:=DK.out.cell 3
 have s4:=DK.out.cell 4
 have r0:=DR.out.cell 0
 have r1:=DR.out.cell 1
 simp at l0 l1 l2 l3 s0 s1 s2 s3 s4 r0 r1
 have hzl:=D0.out.lt
 have hzr:=DR.out.lt
 have hzs:=DK.out.lt
 go_wp2_with(go_at_call 252;go_loud(with_reducible refine(HPR.out _ (HL.out.kept K3.out) (K3.out.rdA (RSlice.ok RStp.ok) HR.out)).mono ?_;rintro e w4 ⟨vN,vE,vC,rfl,k4,i1,i2,i3⟩;obtain⟨AN,cN,rfl⟩:=i1.form;obtain⟨AE,cE,rfl⟩:=i2.form;obtain⟨AC,cC,rfl⟩:=i3.form;have EZ:=Lib.hid (DZ.out.kept k4 (by simp));have g0:=EZ.out.frozen 0;have g1:=EZ.out.frozen 1;have g2:=EZ.out.frozen 2;have g3:=EZ.out.frozen 3;have g4:=EZ.out.frozen 4;have g5:=EZ.out.frozen 5;have g6:=EZ.out.frozen 6;have y0:=EZ.out.cell 0;have y1:=EZ.out.cell 1;have y2:=EZ.out.cell 2;have y3:=EZ.out.cell 3;have y4:=EZ.out.cell 4;have y5:=EZ.out.cell 5;have y6:=EZ.out.cell 6;simp at y0 y1 y2 y3 y4 y5 y6))
 generalize hW9:World.setCell (World.setCell (World.setCell (World.setCell (World.setCell (World.setCell (World.setCell w4 _ _) _ _) _ _) _ _) _ _) _ _) _ _=W9
 have B9:Hid (Blk W9 (N+1+1+1) 99 #[.int .i64 a,.int .i64 b,.slice AN pf.need.length cN,.slice AE pf.ent.length cE,.slice AC pf.clr.length cC,.int .i64 pf.ovl,.int .i64 pf.run]):=by subst hW9;exact blk_put7 EZ.out _ _ _ _ _ _ _
 have KZ9:Hid (Keeps (fun x=>x=N+1+1+1) w4 W9):=by subst hW9;exact keeps_put7 (C:=fun x=>x=N+1+1+1) (Keeps.refl (fun x=>x=N+1+1+1) w4) rfl _ _ _ _ _ _ _
 clear hW9 g0 g1 g2 g3 g4 g5 g6 y0 y1 y2 y3 y4 y5 y6
 have z0:=B9.out.cell 0
 have z1:=B9.out.cell 1
 have z2:=B9.out.cell 2
 have z3:=B9.out.cell 3
 have z4:=B9.out.cell 4
 have z5:=B9.out.cell 5
 have z6:=B9.out.cell 6
 simp at z0 z1 z2 z3 z4 z5 z6
 have hz3:N≤w3.heap.size:=by rw[←hN];exact K3.out.size
 have hz4:N+1+1+1<w3.heap.size:=DZ.out.lt
 have rd:∀v l,RInts w4 (Fresh w3 w4) [v] l→RInts W9 (Fresh w W9) [v] l:=fun v l hv=>
  KZ9.out.rd RInts.ok hv (fun x hx=>⟨hx.2,fun e=>by have:=hx.1;have e:x=N+1+1+1:=e;omega⟩) (fun x hx=>⟨by have:=hx.1;omega,Nat.lt_of_lt_of_le hx.2 KZ9.out.size⟩)
 refine bodyPost_ret (v:= .tuple #[.agg #[.int .i64 a,.int .i64 b,.slice AN pf.need.length cN,.slice AE pf.ent.length cE,.slice AC pf.clr.length cC,.int .i64 pf.ovl,.int .i64 pf.run],.int .i64 0]) (by simp[results,Tryz.results142,go_sem,z0,z1,z2,z3,z4,z5,z6]) rfl ?_
 exact⟨_,_,_,rfl,(K3.out.trA k4).trans KZ9.out (fun x hx e=>by have e:x=N+1+1+1:=e;omega),rd _ _ i1,rd _ _ i2,rd _ _ i3⟩
end
end Go.Proofs.YtcbcegdidlefiaaGreat
