/- Contract of checkDuty (reference, layer 39): the error of a duty. Conditions: as the theorem says. The course of a route, step by step: what the lists and the map of numbers hold. No program in sight but values. Contracts of exit and linkBetween (operate, program): the end at which a step leaves, the link of a transition. Conditions: as each theorem says. The region of newCourse that builds a link out of two calls of exit: any of its orders. Conditions: as the theorem says. -/
import Derived.Test.YtcbcegdidlefiaaGreatK21
import Derived.Test.YtcbcegdidlefiaaGreatK22
import Derived.Test.YtcbcegdidlefiaaGreatK18
import Derived.Test.YtcbcegdidlefiaaGreatK20
import Derived.Test.YtcbcegdidlefiaaGreatK07
import Derived.Test.YtcbcegdidlefiaaGreatK13
import Derived.Test.YtcbcegdidlefiaaGreatK06
namespace Go.Proofs.YtcbcegdidlefiaaGreat
section
open Go.RowKit
theorem rroute_det (c:Cas) (v:CV) (t k:Nat) (m:Mis) (d:Dut) (w:World) (h:RCas w (Old w) v c) (hm:c.miss[t]? =some m) (hd:m.dts[k]? =some d) (h0:0≤d.rt) (h1:d.rt<c.rous.length):
  ∃A' c',RStps w (Old w) [.slice A' (rouD c d.rt).stps.length c'] (rouD c d.rt).stps∧∀W,KeepsAll w W→Calls Tryz.prog 105 #[.agg (v.cs c),.int .i64 (t:Int),.int .i64 (k:Int)] W fun e w'=>e= .returned (.agg #[.slice A' (rouD c d.rt).stps.length c',.int .i64 (rouD c d.rt).ov])∧KeepsAll W w':=by
 obtain⟨br,or,r',Ar,cr,eR,hbr,hr',r0,r1,hst⟩:=h.rous.at_ (k:=d.rt.toNat) (by omega)
 have hrd:=rouD_at (c:=c) h0 h1
 obtain rfl:=Option.some.inj (hr'.symm.trans hrd)
 refine⟨Ar,cr,hst,fun W K=>(rroute_any c v t k m d W (h.kept K) hm hd h0 h1).mono ?_⟩
 rintro e w' ⟨A',c',rfl,-,k',hcell⟩
 have h2:=(hcell br or eR).symm.trans (K.cellA hbr r0)
 injection h2 with h2
 injection h2 with h3 _ h4
 subst h3 h4
 exact⟨rfl,k'⟩
set_option maxRecDepth 100000 in
set_option maxHeartbeats 8000000 in
theorem rdut_any (c:Cas) (v:CV) (t k:Nat) (m:Mis) (w:World) (h:RCas w (Old w) v c) (hlen:LayLen c.lay) (hm:c.miss[t]? =some m) (hk:k<m.dts.length) (hs0:0≤m.stk) (hs1:m.stk<c.stks.length) (hrou:∀i:Nat,i<c.rous.length→RouOk c.lay (rouD c i)) (hn:m.dts.length≤1000)
  (hdo:DtOk c m k):
  Calls Tryz.prog 36 #[.agg (v.cs c),.int .i64 (t:Int),.int .i64 (k:Int)] w fun e w'=>e= .returned (.int .i64 (dutErr c m.stk (preD m k) (dutD m k)))∧KeepsAll w w':=by
 have hcm:=h.miss.caps
 have hcr:=h.rous.caps
 have hcs:=h.stks.caps
 have htl:=(List.getElem?_eq_some_iff.1 hm).1
 have HC:=Lib.hid h
 have HDO:=Lib.hid hdo
 have HMM:=Lib.hid hm
 obtain⟨bm,om,m',Ad,cd,eM,hbm,hm',m0,m1,hdu⟩:=h.miss.at_ htl
 obtain rfl:=Option.some.inj (hm'.symm.trans hm)
 have hcd:=hdu.caps
 obtain⟨bd,od,d',eD,hbd,hd',d0,d1,d2⟩:=hdu.at_ hk
 obtain rfl:=Option.some.inj (hd'.symm.trans (dutD_at hk))
 have HDU:=Lib.hid hdu
 have hbm':bm<w.heap.size:=hbm
 have hbd':bd<w.heap.size:=hbd
 obtain⟨lv,B1,B2,B3,dd1,dd2,dd3⟩:=v
 simp only[]at eM eD hcm hcr hcs
 subst eM eD
 unfold CV.cs
 simp only[]
 clear h hm hm' hd' hdu hbm hbd hdo
 generalize hdk:dutD m' k=d at*
 have HDK:=Lib.hid hdk
 clear hdk
 obtain⟨rt,dep,dw⟩:=d
 simp only[]at d0 d1 d2
 go_enter Tryz.func36,Tryz.ntmps36
 go_upto_region 3 with fail
 generalize hN:w.heap.size=N at*
 generalize hW:World.alloc (World.alloc (World.alloc w _) _) _=W
 have K0:Hid (KeepsAll w W):=by subst hW;exact(((Keeps.refl _ _).alloc _).alloc _).alloc _
 have BC:Hid (Blk W N 32 #[.slice lv.A1 c.lay.sts.length lv.c1,.slice lv.A2 c.lay.pts.length lv.c2,.slice lv.A3 c.lay.secs.length lv.c3,.slice lv.A4 c.lay.lks.length lv.c4,.slice B1 c.stks.length dd1,.slice B2 c.rous.length dd2,.slice (some ⟨bm,om,none⟩) c.miss.length dd3]):=by subst hW hN;exact((Blk.new _ _ _).alloc _).alloc _
 have BM:Hid (Blk W (N+1) 36 #[.int .i64 m'.stk,.slice (some ⟨bd,od,none⟩) m'.dts.length cd]):=by subst hW;exact(Blk.new' _ _ _ (by simp[hN])).alloc _
 have BD:Hid (Blk W (N+1+1) 38 #[.int .i64 rt,.int .i64 dep,.int .i64 dw]):=by subst hW;exact Blk.new' _ _ _ (by simp[hN])
 clear hW m0 m1
 have c5:=BC.out.cell 5
 have x0:=BD.out.cell 0
 have x1:=BD.out.cell 1
 have x2:=BD.out.cell 2
 simp at c5 x0 x1 x2
 have hzc:=BC.out.lt
 have hzd:=BD.out.lt
 try simp only[List.append_eq,List.cons_append,List.nil_append]
 have HX:Hid ((!(inRng c ⟨rt,dep,dw⟩ ((k:Int)==0)))=(decide (rt<0)||decide ((c.rous.length:Int)≤rt)||decide (dep<60)||decide (2097152<dep)||decide (dw<0)||decide (7200<dw)||((k:Int)==0)&& !(dw==0))):=by
  show _=_
  unfold inRng
  rw[Bool.eq_iff_iff]
  simp
  omega
 go_cut [59]from 20 to 58 (fun s wx=>s= .bool (!(inRng c ⟨rt,dep,dw⟩ ((k:Int)==0)))∧wx=W)
 case first=>
  have e1:decide (rt<0)=true∨decide (rt<0)=false:=by cases decide (rt<0)<;>simp
  have e2:decide ((c.rous.length:Int)≤rt)=true∨decide ((c.rous.length:Int)≤rt)=false:=by cases decide ((c.rous.length:Int)≤rt)<;>simp
  have e3:decide (dep<60)=true∨decide (dep<60)=false:=by cases decide (dep<60)<;>simp
  have e4:decide (2097152<dep)=true∨decide (2097152<dep)=false:=by cases decide (2097152<dep)<;>simp
  have e5:decide (dw<0)=true∨decide (dw<0)=false:=by cases decide (dw<0)<;>simp
  have e6:decide (7200<dw)=true∨decide (7200<dw)=false:=by cases decide (7200<dw)<;>simp
  have e7:((k:Int)==0)=false∨((k:Int)==0)=true:=by cases ((k:Int)==0)<;>simp
  have e8:(dw==0)=false∨(dw==0)=true:=by cases (dw==0)<;>simp
  rcases e1 with e1|e1
  ·go_wp2_with fail
   go_meet
   exact⟨congrArg Value.bool (by rw[HX.out];simp[e1]),rfl⟩
  ·skip
   rcases e2 with e2|e2
   ·go_wp2_with fail
    go_meet
    exact⟨congrArg Value.bool (by rw[HX.out];simp[e1,e2]),rfl⟩
   ·skip
    rcases e3 with e3|e3
    ·go_wp2_with fail
     go_meet
     exact⟨congrArg Value.bool (by rw[HX.out];simp[e1,e2,e3]),rfl⟩
    ·skip
     rcases e4 with e4|e4
     ·go_wp2_with fail
      go_meet
      exact⟨congrArg Value.bool (by rw[HX.out];simp[e1,e2,e3,e4]),rfl⟩
     ·skip
      rcases e5 with e5|e5
      ·go_wp2_with fail
       go_meet
       exact⟨congrArg Value.bool (by rw[HX.out];simp[e1,e2,e3,e4,e5]),rfl⟩
      ·skip
       rcases e6 with e6|e6
       ·go_wp2_with fail
        go_meet
        exact⟨congrArg Value.bool (by rw[HX.out];simp[e1,e2,e3,e4,e5,e6]),rfl⟩
       ·skip
        rcases e7 with e7|e7
        ·go_wp2_with fail
         go_meet
         exact⟨congrArg Value.bool (by rw[HX.out];simp[e1,e2,e3,e4,e5,e6,e7]),rfl⟩
        ·rcases e8 with e8|e8
         ·go_wp2_with fail
          go_meet
          exact⟨congrArg Value.bool (by rw[HX.out,e1,e2,e3,e4,e5,e6,e7,bne,e8];rfl),rfl⟩
         ·go_wp2_with fail
          go_meet
          exact⟨congrArg Value.bool (by rw[HX.out,e1,e2,e3,e4,e5,e6,e7,bne,e8];rfl),rfl⟩
 case rest=>
  obtain⟨rfl,hwc⟩:=hcut
  subst hwc
  have HPN:=preD_none m' k
  have HDE:Hid (dutErr c m'.stk (preD m' k) ⟨rt,dep,dw⟩=if inRng c ⟨rt,dep,dw⟩ ((k:Int)==0)=false then 4 else if motErr c.lay (rouD c rt) (stkD c m'.stk)≠0 then motErr c.lay (rouD c rt) (stkD c m'.stk)else match preD m' k with
    |none=>0
    |some p=>if secS c p.rt (lastC c p.rt)≠secS c rt 0 then 11 else if dep<p.dep+(fullC c p.rt m'.stk).run+dw then 14 else 0):=by
   show _=_
   rw[←HPN]
   rfl
  clear HPN HX
  generalize hir:inRng c ⟨rt,dep,dw⟩ ((k:Int)==0)=bi at*
  have HIR:=Lib.hid hir
  clear hir c5 x0 x1 x2
  rcases bi with _|_
  ·go_wp2_with fail
   go_ret
   exact⟨congrArg (fun x=>Ending.returned (Value.int .i64 x)) (show(4:Int)=_ by rw[HDE.out];simp),K0.out⟩
  have hrng:=HIR.out
  simp only[inRng,Bool.and_eq_true,decide_eq_true_eq]at hrng
  obtain⟨⟨g0,g1,g2,g3,g4,g5⟩,-⟩:=hrng
  obtain⟨i,rfl⟩:=Int.eq_ofNat_of_zero_le g0
  obtain⟨q,hq⟩:=Int.eq_ofNat_of_zero_le hs0
  have hil:i<c.rous.length:=by omega
  have hok:=hrou i hil
  have hql:q<c.stks.length:=by omega
  obtain⟨br,or,r,Ar,cr,hA,hbr,hr,r0,r1,hst⟩:=HC.out.rous.at_ hil
  have hrd:=rouD_at (c:=c) (i:=(i:Int)) (by omega) (by omega)
  rw[Int.toNat_natCast]at hrd
  obtain rfl:=Option.some.inj (hr.symm.trans hrd)
  obtain⟨bs,os,s,hAs,hbs,hs,s0,s1,s2,s3,s4⟩:=HC.out.stks.at_ hql
  have hsd:s=stkD c m'.stk:=by
   have:=stkD_at' (c:=c) (i:=(q:Int)) (by omega) (by omega)
   rw[Int.toNat_natCast]at this
   rw[hq]
   exact Option.some.inj (hs.symm.trans this)
  subst hsd
  simp only[]at hA hAs
  subst hA hAs
  have hrc:=hst.caps
  have HQ:=Lib.hid hq
  have HFT:=Lib.hid (fun W k1 k2=>rmotFits_any c.lay lv (rouD c i) (stkD c m'.stk) Ar cr W k1 k2 hlen)
  have HST:=Lib.hid hst
  have HRC0:=Lib.hid r0
  have hbr':br<w.heap.size:=hbr
  have hbs':bs<w.heap.size:=hbs
  have c0:=BC.out.cell 0
  have c1:=BC.out.cell 1
  have c2:=BC.out.cell 2
  have c3:=BC.out.cell 3
  have c4:=BC.out.cell 4
  have c5:=BC.out.cell 5
  have x0:=BD.out.cell 0
  have z0:=BM.out.cell 0
  simp at c0 c1 c2 c3 c4 c5 x0 z0
  rw[hq]at z0
  have y0:=Ext.cell c0
  have y1:=Ext.cell c1
  have y2:=Ext.cell c2
  have y3:=Ext.cell c3
  have y4:=Ext.cell c4
  have y5:=Ext.cell c5
  have y6:=Ext.cell x0
  have y7:=Ext.cell z0
  have y8:=Ext.cell (K0.out.cellA (by show br<_;omega) r0)
  have y9:=Ext.cell (K0.out.cellA (by show br<_;omega) r1)
  have y10:=Ext.cell (K0.out.cellA (by show bs<_;omega) s0)
  have y11:=Ext.cell (K0.out.cellA (by show bs<_;omega) s1)
  have y12:=Ext.cell (K0.out.cellA (by show bs<_;omega) s2)
  have y13:=Ext.cell (K0.out.cellA (by show bs<_;omega) s3)
  have y14:=Ext.cell (K0.out.cellA (by show bs<_;omega) s4)
  clear hr hrd hs hst r0 r1 s0 s1 s2 s3 s4 c0 c1 c2 c3 c4 c5 x0 z0 hq
  generalize hme:motErr c.lay (rouD c i) (stkD c m'.stk)=me at*
  have HME:=Lib.hid hme
  clear hme
  generalize hstk:stkD c m'.stk=st at*
  have HSTK:=Lib.hid hstk
  clear hstk
  obtain⟨sn,sl,sv,sa,sb⟩:=st
  unfold stkC at HFT
  unfold LV.cs at HFT
  simp only[]at HFT y10 y11 y12 y13 y14
  go_upto_region 5 with fail
  refine wp_region_lexB (fun w'=>∃x:Ext wc,w'=x.val) [0,1,2,3,4,5,6,7,8,9,10,11,12,13,14,15] (by kernel_rfl) (by kernel_rfl) ⟨⟨_,(Keeps.refl _ _).drew⟩,rfl⟩ ?_
  iterate 14 (refine lex_q _ rfl rfl rfl ?_;go_big_quiet_step (fail);refine wpQuiet_nil ?_)
  clear y0 y1 y2 y3 y4 y5 y6 y7 y8 y9 y10 y11 y12 y13 y14
  have KD:Hid (KeepsAll wc wc.drew):=(Keeps.refl _ _).drew
  generalize wc.drew=wd at*
  have KWD:=Lib.hid (K0.out.trA KD.out)
  refine lex_a _ rfl rfl true (by kernel_rfl) ?_
  go_wp2_with(go_at_call 95;refine(HFT.out wd (HC.out.lay.kept KWD.out) (KWD.out.rdA (RSlice.ok RStp.ok) HST.out)).mono ?_;rintro e w6 ⟨rfl,k6⟩)
  have K6:Hid (KeepsAll wc w6):=KD.out.trA k6
  have KW6:Hid (KeepsAll w w6):=K0.out.trA K6.out
  refine⟨fun _=>⟨⟨_,K6.out⟩,rfl⟩,?_⟩
  refine lex_q _ rfl rfl rfl ?_;go_big_quiet_step (fail);refine wpQuiet_nil ?_
  simp only[wpLex]
  refine NoPanic.normal ?_
  have BC6:=Lib.hid (BC.out.kept K6.out (by simp))
  have BM6:=Lib.hid (BM.out.kept K6.out (by simp))
  have BD6:=Lib.hid (BD.out.kept K6.out (by simp))
  clear HFT k6 KD KWD BC BM BD
  by_cases hme:me=0
  rotate_left
  ·have g1:(me==0)=false:=beq_eq_false_iff_ne.2 hme
   go_wp2_with fail
   go_ret
   exact⟨congrArg (fun x=>Ending.returned (Value.int .i64 x)) (show me=_ by rw[HDE.out];simp[hme]),KW6.out⟩
  subst hme
  rcases Nat.eq_zero_or_pos k with rfl|hk0
  ·go_wp2_with fail
   go_ret
   exact⟨congrArg (fun x=>Ending.returned (Value.int .i64 x)) (show(0:Int)=_ by rw[HDE.out];simp[preD]),KW6.out⟩
  obtain⟨p,rfl⟩:∃p,k=p+1:=⟨k-1,by omega⟩
  have hkp:((p+1:Nat):Int)-1=(p:Int):=by omega
  have hkne:(((p+1:Nat):Int)==0)=false:=beq_eq_false_iff_ne.2 (by omega)
  obtain⟨p1,p2,p3,p4,p5,p6,p7⟩:=HDO.out.rng p (by omega)
  have hdp:=dutD_at (m:=m') (i:=p) (by omega)
  obtain⟨Ap,cp,hsp,hRp⟩:=rroute_det c _ t p m' (dutD m' p) w HC.out HMM.out hdp p1 p2
  obtain⟨Aq,cq,hsq,hRq⟩:=rroute_det c _ t (p+1) m' _ w HC.out HMM.out (dutD_at hk) (by rw[HDK.out];exact g0) (by rw[HDK.out];exact g1)
  rw[HDK.out]at hRq hsq
  simp only[CV.cs]at hRp hRq hsq
  have HPD:Hid (preD m' (p+1)=some (dutD m' p)):=rfl
  have hokp:RouOk c.lay (rouD c (dutD m' p).rt):=(fitErr_ok (motErr_fit p3)).rou
  have hSPr:=fun(W:World) (K:KeepsAll w W)=>rstop_any (rouD c (dutD m' p).rt) Ap cp W (K.rdA (RSlice.ok RStp.ok) hsp) hokp.ov0 hokp.ov2 hokp.two hokp.len
  have hSTr:=fun(W:World) (K:KeepsAll w W)=>rstart_any (rouD c i) Aq cq W (K.rdA (RSlice.ok RStp.ok) hsq) (by have:=hok.two;have:=hok.ov0;omega) hok.len
  obtain⟨hlp,hlp1,hlp24⟩:=lastC_eq hokp
  rw[hlp,Int.toNat_natCast]at hSPr
  have XR1:=Lib.hid (fun(x:Ext w6)=>ext_call x (hRp x.val (KW6.out.trA x.keeps)))
  have XR2:=Lib.hid (fun(x:Ext w6)=>ext_call x (hRq x.val (KW6.out.trA x.keeps)))
  rw[show((p+1:Nat):Int)=(p:Int)+1 by omega]at XR2
  have XS1:=Lib.hid (fun(x:Ext w6)=>ext_call x (hSPr x.val (KW6.out.trA x.keeps)))
  have XS2:=Lib.hid (fun(x:Ext w6)=>ext_call x (hSTr x.val (KW6.out.trA x.keeps)))
  have HSE:Hid ((stpD (rouD c (dutD m' p).rt) (lastC c (dutD m' p).rt)).sec=secS c (dutD m' p).rt (lastC c (dutD m' p).rt)∧(stpD (rouD c i) 0).sec=secS c i 0):=⟨rfl,rfl⟩
  have HDF:Hid (dutErr c m'.stk (preD m' (p+1)) ⟨i,dep,dw⟩=if secS c (dutD m' p).rt (lastC c (dutD m' p).rt)≠secS c i 0 then 11 else if dep<(dutD m' p).dep+(fullC c (dutD m' p).rt m'.stk).run+dw then 14 else 0):=by
   show _=_
   rw[HDE.out,HPD.out]
   simp
  rw[HSE.out.1]at XS1
  rw[HSE.out.2]at XS2
  have HFL:=Lib.hid (fun W q=>rfull_any c ⟨lv,some ⟨bs,os,none⟩,some ⟨br,or,none⟩,some ⟨bm,om,none⟩,dd1,dd2,dd3⟩ t p m' (dutD m' p) W q hlen HMM.out hdp p1 p2 hs0 hs1 p3)
  obtain⟨bd',od',dp',eD',hbp,hdp',dp0,dp1,dp2⟩:=HDU.out.at_ (k:=p) (by omega)
  obtain rfl:=Option.some.inj (hdp'.symm.trans hdp)
  injection eD' with eD'
  injection eD' with eD1 eD2
  subst eD1 eD2
  have hbp':bd<w.heap.size:=hbp
  have hrn:=prof_run (c:=c) (rt:=(dutD m' p).rt) (stk:=m'.stk) (a:=0) (b:=lastC c (dutD m' p).rt) p3 hlp1 (by rw[hlp];exact Int.le_refl _)
  rw[show profC c (dutD m' p).rt m'.stk 0 (lastC c (dutD m' p).rt)=fullC c (dutD m' p).rt m'.stk from rfl]at hrn
  clear hRp hRq hSPr hSTr hsp hsq HSE HDE hdp hdp' hbp dp0 dp2 HPD hlp hlp1 hlp24
  generalize secS c (dutD m' p).rt (lastC c (dutD m' p).rt)=sa1 at*
  generalize secS c i 0=sb1 at*
  generalize fullC c (dutD m' p).rt m'.stk=pf at*
  generalize dutD m' p=dp at*
  have cc:=BC6.out
  have c0:=cc.cell 0
  have c1:=cc.cell 1
  have c2:=cc.cell 2
  have c3:=cc.cell 3
  have c4:=cc.cell 4
  have c5:=cc.cell 5
  have c6:=cc.cell 6
  simp at c0 c1 c2 c3 c4 c5 c6
  have y0:=Ext.cell c0
  have y1:=Ext.cell c1
  have y2:=Ext.cell c2
  have y3:=Ext.cell c3
  have y4:=Ext.cell c4
  have y5:=Ext.cell c5
  have y6:=Ext.cell c6
  clear cc c0 c1 c2 c3 c4 c5 c6
  go_upto_region 8 with fail
  refine wp_region_ext (by kernel_rfl) (by kernel_rfl) ?_
  repeat (go_big_quiet_step ((first|(go_at_call 105;rename_i xx;first|with_reducible exact XR1.out xx|with_reducible exact XR2.out xx)|(go_at_call 104;rename_i xx;with_reducible exact XS1.out xx)|(go_at_call 106;rename_i xx;with_reducible exact XS2.out xx))))
  refine wpQuiet_nil ?_
  rintro _ ⟨X,rfl⟩
  have KX:Hid (KeepsAll w6 X.val):=X.keeps
  generalize X.val=W8 at*
  clear y0 y1 y2 y3 y4 y5 y6 XR1 XR2 XS1 XS2
  have KW8:=Lib.hid (KW6.out.trA KX.out)
  have BC8:=Lib.hid (BC6.out.kept KX.out (by simp))
  have BM8:=Lib.hid (BM6.out.kept KX.out (by simp))
  have BD8:=Lib.hid (BD6.out.kept KX.out (by simp))
  clear BC6 BM6 BD6 K6 KX
  by_cases hsx:sa1=sb1
  rotate_left
  ·have s1:(sa1==sb1)=false:=beq_eq_false_iff_ne.2 hsx
   go_wp2_with fail
   go_ret
   exact⟨congrArg (fun x=>Ending.returned (Value.int .i64 x)) (show(11:Int)=_ by rw[HDF.out,if_pos hsx]),KW8.out⟩
  subst hsx
  have c0:=BC8.out.cell 0
  have c1:=BC8.out.cell 1
  have c2:=BC8.out.cell 2
  have c3:=BC8.out.cell 3
  have c4:=BC8.out.cell 4
  have c5:=BC8.out.cell 5
  have c6:=BC8.out.cell 6
  have x1:=BD8.out.cell 1
  have x2:=BD8.out.cell 2
  have n1:=BM8.out.cell 1
  simp at c0 c1 c2 c3 c4 c5 c6 x1 x2 n1
  replace dp1:=KW8.out.cellA hbp' dp1
  have y0:=Ext.cell c0
  have y1:=Ext.cell c1
  have y2:=Ext.cell c2
  have y3:=Ext.cell c3
  have y4:=Ext.cell c4
  have y5:=Ext.cell c5
  have y6:=Ext.cell c6
  have y7:=Ext.cell x1
  have y8:=Ext.cell x2
  have y9:=Ext.cell n1
  have y10:=Ext.cell dp1
  clear c0 c1 c2 c3 c4 c5 c6 x1 x2 n1 dp1
  have hpl:p<m'.dts.length:=by omega
  simp only[CV.cs]at HFL
  go_upto_region 10 with fail
  refine wp_region_lexB (fun w'=>∃x:Ext W8,w'=x.val) [0,1,2,3,4,5,6,7,8,9,10,11,12,16,17,13,14,15,18,19] (by kernel_rfl) (by kernel_rfl) ⟨⟨_,(Keeps.refl _ _).drew⟩,rfl⟩ ?_
  iterate 15 (refine lex_q _ rfl rfl rfl ?_;go_big_quiet_step (fail);refine wpQuiet_nil ?_)
  have KD:Hid (KeepsAll W8 W8.drew):=(Keeps.refl _ _).drew
  generalize W8.drew=wd at*
  refine lex_a _ rfl rfl true (by kernel_rfl) ?_
  go_wp2_with(go_at_call 39;refine(HFL.out wd (HC.out.kept (KW8.out.trA KD.out))).mono ?_;rintro e w9 ⟨u,rfl,hpv,k9⟩;obtain⟨XN,XE,XC,n1,c1',n2,c2',n3,c3',rfl⟩:=hpv)
  have K9:Hid (KeepsAll W8 w9):=KD.out.trA k9
  refine⟨fun _=>⟨⟨_,K9.out⟩,rfl⟩,?_⟩
  have hfd:=fun(x:Ext W8)=>field_run pf.frm pf.to pf.ovl pf.run XN XE XC n1 c1' n2 c2' n3 c3' x.val
  iterate 4 (refine lex_q _ rfl rfl rfl ?_;go_big_quiet_step (fail);refine wpQuiet_nil ?_)
  clear hfd y0 y1 y2 y3 y4 y5 y6 y7 y8 y9 y10
  simp only[wpLex]
  refine NoPanic.normal ?_
  by_cases hlate:dep<dp.dep+pf.run+dw
  ·have s1:decide (dep<dp.dep+pf.run+dw)=true:=decide_eq_true hlate
   go_wp2_with fail
   go_ret
   exact⟨congrArg (fun x=>Ending.returned (Value.int .i64 x)) (show(14:Int)=_ by rw[HDF.out,if_neg (by simp),if_pos hlate]),KW8.out.trA K9.out⟩
  ·have s1:decide (dep<dp.dep+pf.run+dw)=false:=decide_eq_false hlate
   go_wp2_with fail
   go_ret
   exact⟨congrArg (fun x=>Ending.returned (Value.int .i64 x)) (show(0:Int)=_ by rw[HDF.out,if_neg (by simp),if_neg (by omega)]),KW8.out.trA K9.out⟩
end
section
open Go.RowKit
def numF (ks:List Int) (p:Int):Option Value:=if p∈ks then some (.int .i64 (ks.idxOf p:Int))else none
theorem numF_nil:numF []=fun _=>none:=by funext p;simp[numF]
theorem numF_add {ks:List Int} {p:Int} (h:p∉ks):setF (numF ks) p (.int .i64 (ks.length:Int))=numF (ks++ [p]):=by
 funext x
 unfold setF numF
 by_cases e:x=p
 ·subst e
  simp[List.idxOf_append,h]
 ·rw[if_neg e]
  by_cases hx:x∈ks
  ·simp[hx,List.idxOf_append]
  ·simp[hx,e]
def ptNm (L:Lay) (pd:List Int):List Bs:=pd.map fun p=>L.pts.getD p.toNat []
section
variable {L:Lay} {r:Rou} (h:RouOk L r)
include h
theorem RouOk.num_no {j:Nat} (hj:j+1<r.stps.length) (hp:¬0≤(lnkAt L r j).pt):pdN L r (j+1)=pdN L r j∧crsPt L r (j+1)= -1∧crsLnk L r j=⟨j,(outE (stpD r j)).2,(j+1:Nat),(inE (stpD r (j+1))).2,-1,0⟩:=by
 refine⟨?_,?_,?_⟩
 ·rw[pdN_succ (h.ptsR_ hj)];unfold numStep;rw[if_neg (fun e=>hp e.1)]
 ·unfold crsPt;rw[if_neg (by omega),Nat.add_sub_cancel,if_neg hp]
 ·unfold crsLnk ptNo;rw[if_neg hp,if_neg hp]
theorem RouOk.num_yes {j:Nat} (hj:j+1<r.stps.length) (hp:0≤(lnkAt L r j).pt):crsPt L r (j+1)=(L.secs.length:Int)+(lnkAt L r j).pt∧numF (pdN L r (j+1)) (lnkAt L r j).pt=some (.int .i64 (crsLnk L r j).pt)∧
  crsLnk L r j=⟨j,(outE (stpD r j)).2,(j+1:Nat),(inE (stpD r (j+1))).2,(crsLnk L r j).pt,(lnkAt L r j).ps⟩∧
  ((lnkAt L r j).pt∈pdN L r j→pdN L r (j+1)=pdN L r j)∧((lnkAt L r j).pt∉pdN L r j→pdN L r (j+1)=pdN L r j++ [(lnkAt L r j).pt]):=by
 have hm:=pdN_mem (h.ptsR_ hj) hp
 refine⟨?_,?_,?_,?_,?_⟩
 ·unfold crsPt;rw[if_neg (by omega),Nat.add_sub_cancel,if_pos hp]
 ·unfold numF crsLnk ptNo
  rw[if_pos hm,pdN_idx hm,if_pos hp]
 ·unfold crsLnk;rw[if_pos hp]
 ·intro hin;rw[pdN_succ (h.ptsR_ hj)];unfold numStep;rw[if_neg (fun e=>e.2 hin)]
 ·intro hin;rw[pdN_succ (h.ptsR_ hj)];unfold numStep;rw[if_pos ⟨hp,hin⟩]
omit h in
theorem ptNm_add (pd:List Int) (p:Int):ptNm L (pd++ [p])=ptNm L pd++ [L.pts.getD p.toNat []]:=by simp[ptNm]
omit h in
theorem crs_end (_hn:0<r.stps.length):crsLay L r=⟨[],ptNm L (pdN L r (r.stps.length-1)),(r.stps.take r.stps.length).map (crsSec L),tab (r.stps.length-1) (crsLnk L r)⟩:=by
 unfold crsLay ptNm
 rw[pdN_all,List.take_length]
end
end
section
open Go.RowKit
theorem oexit_any (s:Stp) (w:World):Calls Tryz.prog 194 #[.agg (stpC s)] w fun e w'=>e= .returned (.int .i64 (outE s).2)∧KeepsAll w w':=by
 obtain⟨a,d⟩:=s
 unfold stpC outE
 simp only[]
 by_cases g:d=0
 ·subst g
  go_enter Tryz.func194,Tryz.ntmps194
  go_wp2
  go_ret
  exact⟨by simp,(Keeps.refl _ _).alloc _⟩
 ·go_enter Tryz.func194,Tryz.ntmps194
  go_wp2
  go_ret
  exact⟨by simp[],(Keeps.refl _ _).alloc _⟩
section
variable {w w0:World} {q:Nat} {o k:Lnk}
theorem lnk_put6 (h:Blk w q 196 (lnkC o)):
  Blk ((((((w.setCell ⟨q,0,none⟩ (.int .i64 k.a)).setCell ⟨q,1,none⟩ (.int .i64 k.ae)).setCell ⟨q,2,none⟩ (.int .i64 k.b)).setCell ⟨q,3,none⟩ (.int .i64 k.be)).setCell ⟨q,4,none⟩ (.int .i64 k.pt)).setCell ⟨q,5,none⟩ (.int .i64 k.ps)) q 196 (lnkC k):=
 (((((h.set_ 0 _).set_ 1 _).set_ 2 _).set_ 3 _).set_ 4 _).set_ 5 _
theorem keeps_put6 {C:Foot} (h:Keeps C w0 w) (hq:C q) (u0 u1 u2 u3 u4 u5:Value):
  Keeps C w0 ((((((w.setCell ⟨q,0,none⟩ u0).setCell ⟨q,1,none⟩ u1).setCell ⟨q,2,none⟩ u2).setCell ⟨q,3,none⟩ u3).setCell ⟨q,4,none⟩ u4).setCell ⟨q,5,none⟩ u5):=by
 refine Keeps.setCell (Keeps.setCell (Keeps.setCell (Keeps.setCell (Keeps.setCell (Keeps.setCell h ?_ _) ?_ _) ?_ _) ?_ _) ?_ _) ?_ _<;>exact fun _=>hq
end
theorem joinsE_ne {k:Lnk} {s t:Stp} (h1:k.ae=0∨k.ae=1) (h2:k.be=0∨k.be=1):joinsE k (outE s) (inE t)=(decide (k.a=s.sec∧k.ae=(outE s).2∧k.b=t.sec∧¬k.be=(outE t).2)||decide (k.b=s.sec∧k.be=(outE s).2∧k.a=t.sec∧¬k.ae=(outE t).2)):=by
 obtain⟨ka,kae,kb,kbe,kpt,kps⟩:=k
 obtain⟨s1,s2⟩:=s
 obtain⟨t1,t2⟩:=t
 simp only[]at h1 h2
 have e1:∀x:Int,(x=0∨x=1)→((¬x=(outE ⟨t1,t2⟩).2)↔x=(inE ⟨t1,t2⟩).2):=by
  intro x hx
  unfold outE inE
  by_cases g:t2=0<;>simp[g]<;>omega
 have e2:outE ⟨s1,s2⟩=(s1,(outE ⟨s1,s2⟩).2):=rfl
 have e3:inE ⟨t1,t2⟩=(t1,(inE ⟨t1,t2⟩).2):=rfl
 rw[e2,e3,joinsE_fb,Bool.eq_iff_iff]
 simp only[Bool.or_eq_true,decide_eq_true_eq,e1 kae h1,e1 kbe h2]
set_option maxRecDepth 100000 in
set_option maxHeartbeats 8000000 in
theorem linkBetween_any (L:Lay) (v:LV) (s t:Stp) (kk:Lnk) (w:World) (h:RLay w (Old w) v L) (hok:LayOk L) (hkk:lnkOf L.lks s t=some kk):
  Calls Tryz.prog 193 #[.agg (v.cs L),.agg (stpC s),.agg (stpC t)] w fun e w'=>e= .returned (.agg (lnkC kk))∧KeepsAll w w':=by
 have hc4:=h.lks.caps
 have hk192:=hok.lks
 have HL:=Lib.hid h
 have HO:Hid (∀(j:Nat) k,L.lks[j]? =some k→(k.ae=0∨k.ae=1)∧(k.be=0∨k.be=1)):=fun j k hj=>by
  have:=(lnkErr_zero.1 (hok.lnk j k hj)).1
  simp[lnkOk]at this
  omega
 have HKK:=Lib.hid hkk
 have HE1:=Lib.hid (fun W=>oexit_any s W)
 have HE2:=Lib.hid (fun W=>oexit_any t W)
 clear h hok hkk
 obtain⟨A1,A2,A3,A4,ca1,ca2,ca3,ca4⟩:=v
 simp only[]at hc4
 have HJ:=Lib.hid (fun(k:Lnk) (h1:k.ae=0∨k.ae=1) (h2:k.be=0∨k.be=1)=>joinsE_ne (s:=s) (t:=t) h1 h2)
 have HFD:Hid (L.lks.find? (fun k=>joinsE k (outE s) (inE t))=some kk):=HKK.out
 generalize hjf:(fun k=>joinsE k (outE s) (inE t))=jf at*
 have HJF:Hid (∀k,joinsE k (outE s) (inE t)=jf k):=fun k=>by rw[←hjf]
 clear hjf
 obtain⟨a1,d1⟩:=s
 obtain⟨a2,d2⟩:=t
 unfold LV.cs stpC
 unfold stpC at HE1 HE2
 simp only[]at HE1 HE2 HJ⊢
 generalize (outE ⟨a1,d1⟩).2=o1 at*
 generalize (outE ⟨a2,d2⟩).2=o2 at*
 clear HKK
 go_enter Tryz.func193,Tryz.ntmps193
 go_upto_region 1 with fail
 generalize hW1:World.alloc w _=W1
 have K1:Hid (KeepsAll w W1):=by subst hW1;exact(Keeps.refl _ _).alloc _
 have B1:Hid (Blk W1 w.heap.size 27 #[.slice A1 L.sts.length ca1,.slice A2 L.pts.length ca2,.slice A3 L.secs.length ca3,.slice A4 L.lks.length ca4]):=by subst hW1;exact Blk.new _ _ _
 have hz1:W1.heap.size=w.heap.size+1:=by subst hW1;simp
 clear hW1
 generalize hN:w.heap.size=N at*
 generalize hW:World.alloc (World.alloc (World.alloc W1 _) _) _=W
 have K0:Hid (KeepsAll w W):=by subst hW;exact((K1.out.alloc _).alloc _).alloc _
 have B0:Hid (Blk W N 27 #[.slice A1 L.sts.length ca1,.slice A2 L.pts.length ca2,.slice A3 L.secs.length ca3,.slice A4 L.lks.length ca4]):=by subst hW;exact((B1.out.alloc _).alloc _).alloc _
 have BS:Hid (Blk W (N+1) 200 #[.int .i64 a1,.int .i64 d1]):=by subst hW;exact((Blk.new' _ _ _ hz1.symm).alloc _).alloc _
 have BT:Hid (Blk W (N+1+1) 200 #[.int .i64 a2,.int .i64 d2]):=by subst hW;exact(Blk.new' _ _ _ (by simp[hz1])).alloc _
 have BZ:Hid (Blk W (N+1+1+1) 196 (lnkC ⟨0,0,0,0,0,0⟩)):=by subst hW;exact Blk.new' _ _ _ (by simp[hz1])
 clear hW K1 B1 hz1
 have q3:=B0.out.cell 3
 simp at q3
 go_wp2_with fail
 go_loopw [14] (fun i wr=>∃j:Nat,j≤L.lks.length∧i= .int .i64 (j:Int)∧(L.lks.take j).find? jf=none∧KeepsAll W wr) (fun i _=>L.lks.length-(intOf i).toNat)
 case atStart=>exact⟨0,Nat.zero_le _,rfl,rfl,Keeps.refl _ _⟩
 case round=>
  obtain⟨j,hj,rfl,hno,hk⟩:=hrel
  have HNO:=Lib.hid hno
  have HK:=Lib.hid hk
  have KW:=Lib.hid (K0.out.trA hk)
  have C0:=Lib.hid (B0.out.kept hk (by simp))
  have CS:=Lib.hid (BS.out.kept hk (by simp))
  have CT:=Lib.hid (BT.out.kept hk (by simp))
  have CZ:=Lib.hid (BZ.out.kept hk (by simp))
  clear hk hno
  by_cases hlt:j<L.lks.length
  ·obtain⟨kb0,ko,k,rfl,hkb,hkx,c0,c1,c2,c3,c4,c5⟩:=HL.out.lks.atO KW.out hlt
   obtain⟨he1,he2⟩:=HO.out j k hkx
   have HJK:=Lib.hid ((HJF.out k).symm.trans (HJ.out k he1 he2))
   have HNX:Hid ((L.lks.take (j+1)).find? jf=if jf k=true then some k else none):=by
    show _=_
    rw[List.take_add_one,hkx,Option.toList_some,List.find?_append,HNO.out]
    simp[List.find?_cons]
    split<;>simp_all
   have HYES:Hid (jf k=true→k=kk):=fun hj=>by
    have hd:L.lks.drop j=k::L.lks.drop (j+1):=by rw[←(List.getElem?_eq_some_iff.1 hkx).2,List.getElem_cons_drop hlt]
    have h2:=HFD.out
    rw[←List.take_append_drop j L.lks,List.find?_append,HNO.out,hd]at h2
    simpa[List.find?_cons,hj]using h2
   clear hkx he1 he2
   obtain⟨ka,kae,kb,kbe,kpt,kps⟩:=k
   simp only[]at c0 c1 c2 c3 c4 c5 HJK
   go_upto_region 4 with fail
   generalize hW6:World.alloc wr _=W6
   have K6:Hid (KeepsAll wr W6):=by subst hW6;exact(Keeps.refl _ _).alloc _
   have B6:Hid (Blk W6 wr.heap.size 196 #[.int .i64 ka,.int .i64 kae,.int .i64 kb,.int .i64 kbe,.int .i64 kpt,.int .i64 kps]):=by subst hW6;exact Blk.new _ _ _
   clear hW6 c0 c1 c2 c3 c4 c5
   have DS:=Lib.hid (CS.out.kept K6.out (by simp))
   have DT:=Lib.hid (CT.out.kept K6.out (by simp))
   have DZ:=Lib.hid (CZ.out.kept K6.out (by simp))
   have KQ6:Hid (KeepsAll W W6):=HK.out.trA K6.out
   generalize hzk:wr.heap.size=zk at*
   obtain⟨fw,hfw⟩:∃fw:Bool,fw=decide (ka=a1∧kae=o1∧kb=a2∧¬kbe=o2):=⟨_,rfl⟩
   obtain⟨bw,hbw⟩:∃bw:Bool,bw=decide (kb=a1∧kbe=o1∧ka=a2∧¬kae=o2):=⟨_,rfl⟩
   have HJX:Hid (jf ⟨ka,kae,kb,kbe,kpt,kps⟩=(fw||bw)):=by show _=_;rw[HJK.out,←hfw,←hbw]
   have HFW:=Lib.hid hfw
   have HBW:=Lib.hid hbw
   clear hfw hbw HJK
   go_cut [9]from 18 to 75 (fun s wx=>s= .bool fw∧KeepsAll W6 wx)
   case first=>
    have hfw:=HFW.out
    clear HYES HNX HJX HBW HJ HJF HFD HO HNO
    have f0:=B6.out.cell 0
    have f1:=B6.out.cell 1
    have f2:=B6.out.cell 2
    have f3:=B6.out.cell 3
    have p0:=DS.out.cell 0
    have p1:=DS.out.cell 1
    have p2:=DT.out.cell 0
    have p3:=DT.out.cell 1
    simp at f0 f1 f2 f3 p0 p1 p2 p3
    have y0:=Ext.cell f0
    have y1:=Ext.cell f1
    have y2:=Ext.cell f2
    have y3:=Ext.cell f3
    have y4:=Ext.cell p0
    have y5:=Ext.cell p1
    have y6:=Ext.cell p2
    have y7:=Ext.cell p3
    have HX1:Hid (∀xx:Ext W6,Calls Tryz.prog 194 #[.agg #[.int .i64 a1,.int .i64 d1]] xx.val fun e w''=>e= .returned (.int .i64 o1)∧∃y:Ext W6,w''=y.val):=fun xx=>ext_call xx (HE1.out xx.val)
    have HX2:Hid (∀xx:Ext W6,Calls Tryz.prog 194 #[.agg #[.int .i64 a2,.int .i64 d2]] xx.val fun e w''=>e= .returned (.int .i64 o2)∧∃y:Ext W6,w''=y.val):=fun xx=>ext_call xx (HE2.out xx.val)
    rcases fiveWays ka a1 kae o1 kb a2 kbe o2 with g1|⟨rfl,g1⟩|⟨rfl,rfl,g1⟩|⟨rfl,rfl,rfl,g1⟩|⟨rfl,rfl,rfl,rfl⟩
    clear f0 f1 f2 f3 p0 p1 p2 p3
    all_goals (try(have g2:=decide_eq_false g1;have g3:=beq_eq_false_iff_ne.2 g1;have g4:=bne_iff_ne.2 g1))
    all_goals (refine wp_region_ext (by kernel_rfl) (by kernel_rfl) ?_)
    all_goals (repeat (go_big_quiet_step (first
     |(go_at_call 194;rename_i xx;with_reducible exact HX1.out xx)
     |(go_at_call 194;rename_i xx;with_reducible exact HX2.out xx))))
    all_goals (refine wpQuiet_nil ?_)
    all_goals (rintro _ ⟨X,rfl⟩)
    all_goals (have KX9:=X.keeps)
    all_goals (generalize X.val=W9 at*)
    all_goals go_wp2_with fail
    all_goals go_meet
    all_goals (exact⟨by simp_all,KX9⟩)
   case rest=>
    obtain⟨rfl,kx⟩:=hcut
    obtain⟨w7,rfl⟩:∃w7:World,w7=wc:=⟨_,rfl⟩
    have E6:=Lib.hid (B6.out.kept kx (by simp))
    have ES:=Lib.hid (DS.out.kept kx (by simp))
    have ET:=Lib.hid (DT.out.kept kx (by simp))
    have EZ:=Lib.hid (DZ.out.kept kx (by simp))
    have KQ7:Hid (KeepsAll W w7):=KQ6.out.trA kx
    clear kx B6 DS DT DZ KQ6
    go_upto_region 5 with fail
    go_cut [10]from 18 to 75 (fun s wx=>s= .bool bw∧KeepsAll w7 wx)
    case first=>
     have hbw:=HBW.out
     clear HYES HNX HJX HFW HJ HJF HFD HO HNO
     have f0:=E6.out.cell 0
     have f1:=E6.out.cell 1
     have f2:=E6.out.cell 2
     have f3:=E6.out.cell 3
     have p0:=ES.out.cell 0
     have p1:=ES.out.cell 1
     have p2:=ET.out.cell 0
     have p3:=ET.out.cell 1
     simp at f0 f1 f2 f3 p0 p1 p2 p3
     have y0:=Ext.cell f0
     have y1:=Ext.cell f1
     have y2:=Ext.cell f2
     have y3:=Ext.cell f3
     have y4:=Ext.cell p0
     have y5:=Ext.cell p1
     have y6:=Ext.cell p2
     have y7:=Ext.cell p3
     have HX1:Hid (∀xx:Ext w7,Calls Tryz.prog 194 #[.agg #[.int .i64 a1,.int .i64 d1]] xx.val fun e w''=>e= .returned (.int .i64 o1)∧∃y:Ext w7,w''=y.val):=fun xx=>ext_call xx (HE1.out xx.val)
     have HX2:Hid (∀xx:Ext w7,Calls Tryz.prog 194 #[.agg #[.int .i64 a2,.int .i64 d2]] xx.val fun e w''=>e= .returned (.int .i64 o2)∧∃y:Ext w7,w''=y.val):=fun xx=>ext_call xx (HE2.out xx.val)
     rcases fiveWays kb a1 kbe o1 ka a2 kae o2 with g1|⟨rfl,g1⟩|⟨rfl,rfl,g1⟩|⟨rfl,rfl,rfl,g1⟩|⟨rfl,rfl,rfl,rfl⟩
     clear f0 f1 f2 f3 p0 p1 p2 p3
     all_goals (try(have g2:=decide_eq_false g1;have g3:=beq_eq_false_iff_ne.2 g1;have g4:=bne_iff_ne.2 g1))
     all_goals (refine wp_region_ext (by kernel_rfl) (by kernel_rfl) ?_)
     all_goals (repeat (go_big_quiet_step (first
      |(go_at_call 194;rename_i xx;with_reducible exact HX1.out xx)
      |(go_at_call 194;rename_i xx;with_reducible exact HX2.out xx))))
     all_goals (refine wpQuiet_nil ?_)
     all_goals (rintro _ ⟨X,rfl⟩)
     all_goals (have KX9:=X.keeps)
     all_goals (generalize X.val=W9 at*)
     all_goals go_wp2_with fail
     all_goals go_meet
     all_goals (exact⟨by simp_all,KX9⟩)
    case rest=>
     obtain⟨rfl,kx⟩:=hcut
     have G6:=Lib.hid (E6.out.kept kx (by simp))
     have GZ:=Lib.hid (EZ.out.kept kx (by simp))
     have KQ8:Hid (KeepsAll W wc):=KQ7.out.trA kx
     clear kx E6 ES ET EZ KQ7
     have k0:=G6.out.cell 0
     have k1:=G6.out.cell 1
     have k2:=G6.out.cell 2
     have k3:=G6.out.cell 3
     have k4:=G6.out.cell 4
     have k5:=G6.out.cell 5
     have z0:=GZ.out.cell 0
     have z1:=GZ.out.cell 1
     have z2:=GZ.out.cell 2
     have z3:=GZ.out.cell 3
     have z4:=GZ.out.cell 4
     have z5:=GZ.out.cell 5
     simp[lnkC]at k0 k1 k2 k3 k4 k5 z0 z1 z2 z3 z4 z5
     have f0:=GZ.out.frozen 0
     have f1:=GZ.out.frozen 1
     have f2:=GZ.out.frozen 2
     have f3:=GZ.out.frozen 3
     have f4:=GZ.out.frozen 4
     have f5:=GZ.out.frozen 5
     have hzz:N+1+1+1<wc.heap.size:=GZ.out.lt
     have FIN:Hid (jf ⟨ka,kae,kb,kbe,kpt,kps⟩=true→∀W9,Blk W9 (N+1+1+1) 196 (lnkC ⟨ka,kae,kb,kbe,kpt,kps⟩)→Keeps (fun x=>x=N+1+1+1) wc W9→Blk W9 (N+1+1+1) 196 (lnkC kk)∧KeepsAll w W9):=fun e W9 hb hk=>by
      refine⟨by rw[←HYES.out e];exact hb,(K0.out.trA KQ8.out).trans hk (fun x hx e=>by have e:x=N+1+1+1:=e;omega)⟩
     have FNO:Hid (jf ⟨ka,kae,kb,kbe,kpt,kps⟩=false→(L.lks.take (j+1)).find? jf=none):=fun e=>by rw[HNX.out,e];rfl
     cases hf:fw with
     |true=>
      have HJT:=Lib.hid (FIN.out (by rw[HJX.out,hf];rfl))
      clear FIN FNO HYES HNX HJX HFW HBW HJ HJF HFD HO HNO
      go_wp2_with fail
      generalize hW9:World.setCell (World.setCell (World.setCell (World.setCell (World.setCell (World.setCell wc _ _) _ _) _ _) _ _) _ _) _ _=W9
      obtain⟨B9,K9⟩:=HJT.out W9 (by subst hW9;exact lnk_put6 (k:=⟨ka,kae,kb,kbe,kpt,kps⟩) GZ.out) (by subst hW9;exact keeps_put6 (C:=fun x=>x=N+1+1+1) (Keeps.refl (fun x=>x=N+1+1+1) wc) rfl _ _ _ _ _ _)
      clear hW9 z0 z1 z2 z3 z4 z5 f0 f1 f2 f3 f4 f5 k0 k1 k2 k3 k4 k5
      have z0:=B9.cell 0
      have z1:=B9.cell 1
      have z2:=B9.cell 2
      have z3:=B9.cell 3
      have z4:=B9.cell 4
      have z5:=B9.cell 5
      simp[lnkC]at z0 z1 z2 z3 z4 z5
      refine bodyPost_ret (v:= .agg (lnkC kk)) (by simp[results,Tryz.results193,go_sem,z0,z1,z2,z3,z4,z5,lnkC]) rfl ?_
      exact⟨rfl,K9⟩
     |false=>
      cases hb:bw with
      |true=>
       have HJT:=Lib.hid (FIN.out (by rw[HJX.out,hf,hb];rfl))
       clear FIN FNO HYES HNX HJX HFW HBW HJ HJF HFD HO HNO
       go_wp2_with fail
       generalize hW9:World.setCell (World.setCell (World.setCell (World.setCell (World.setCell (World.setCell wc _ _) _ _) _ _) _ _) _ _) _ _=W9
       obtain⟨B9,K9⟩:=HJT.out W9 (by subst hW9;exact lnk_put6 (k:=⟨ka,kae,kb,kbe,kpt,kps⟩) GZ.out) (by subst hW9;exact keeps_put6 (C:=fun x=>x=N+1+1+1) (Keeps.refl (fun x=>x=N+1+1+1) wc) rfl _ _ _ _ _ _)
       clear hW9 z0 z1 z2 z3 z4 z5 f0 f1 f2 f3 f4 f5 k0 k1 k2 k3 k4 k5
       have z0:=B9.cell 0
       have z1:=B9.cell 1
       have z2:=B9.cell 2
       have z3:=B9.cell 3
       have z4:=B9.cell 4
       have z5:=B9.cell 5
       simp[lnkC]at z0 z1 z2 z3 z4 z5
       refine bodyPost_ret (v:= .agg (lnkC kk)) (by simp[results,Tryz.results193,go_sem,z0,z1,z2,z3,z4,z5,lnkC]) rfl ?_
       exact⟨rfl,K9⟩
      |false=>
       have HJT:=Lib.hid (FNO.out (by rw[HJX.out,hf,hb];rfl))
       clear FIN FNO HYES HNX HJX HFW HBW HJ HJF HFD HO HNO
       go_wp2_with fail
       exact⟨⟨j+1,by omega,by go_num,HJT.out,KQ8.out⟩,by simp[intOf];omega⟩
  ·obtain rfl:j=L.lks.length:=by omega
   have:=HNO.out
   rw[List.take_length,HFD.out]at this
   cases this
end
section
open Go.RowKit
section
variable (W:World) (vr:Value) (pm:Addr) (N1:Nat) (m q a1 d1 s2 u1 o2 u2:Int)
def exC (x0 x1 x2 x3 x4 x5 x6 x7 x8 x9 x10 x11 x12 x13 x14:Value) (fin:Bool) (w':World):Nat→Prop
 |0=>x0= .int .i64 (m+1)
 |1=>x1= .int .i64 m
 |2=>x2= .pointer (some ⟨N1,0,none⟩)
 |3=>x3=vr
 |4=>x4= .int .i64 (m+1)
 |5=>x5= .int .i64 m
 |6=>x6= .pointer (some pm)
 |7=>x7= .agg #[.int .i64 a1,.int .i64 d1]
 |8=>x8= .int .i64 u1
 |9=>x9= .int .i64 (m+1)
 |10=>x10= .agg #[.int .i64 q,.int .i64 s2]
 |11=>x11= .int .i64 o2
 |12=>x12= .int .i64 u2
 |13=>x13= .agg #[.int .i64 m,.int .i64 u1,.int .i64 (m+1),.int .i64 u2,.int .i64 (-1),.int .i64 0]
 |14=>∃g,x14= .pointer (some ⟨g,0,none⟩)∧W.heap.size≤g∧Blk w' g 196 (if fin=true then #[.int .i64 m,.int .i64 u1,.int .i64 (m+1),.int .i64 u2,.int .i64 (-1),.int .i64 0]else #[.int .i64 0,.int .i64 0,.int .i64 0,.int .i64 0,.int .i64 0,.int .i64 0])
 |_=>True
def exI (a0:Act) (d:Nat→Bool) (a:Act) (w':World):Prop:=
 ∃x0 x1 x2 x3 x4 x5 x6 x7 x8 x9 x10 x11 x12 x13 x14:Value,a=(((((((((((((((a0.put (some 83) x0).put (some 84) x1).put (some 85) x2).put (some 86) x3).put (some 87) x4).put (some 88) x5).put (some 89) x6).put (some 90) x7).put (some 91) x8).put (some 92) x9).put (some 93) x10).put (some 94) x11).put (some 95) x12).put (some 96) x13).put (some 11) x14)∧KeepsAll W w'∧(d 15=true→d 14=true)∧
  ∀j,d j=true→exC W vr pm N1 m q a1 d1 s2 u1 o2 u2 x0 x1 x2 x3 x4 x5 x6 x7 x8 x9 x10 x11 x12 x13 x14 (d 15) w' j
theorem exC_kept {a b:World} {fin:Bool} {x0 x1 x2 x3 x4 x5 x6 x7 x8 x9 x10 x11 x12 x13 x14:Value} (k:KeepsAll a b) {j:Nat} (h:exC W vr pm N1 m q a1 d1 s2 u1 o2 u2 x0 x1 x2 x3 x4 x5 x6 x7 x8 x9 x10 x11 x12 x13 x14 fin a j):exC W vr pm N1 m q a1 d1 s2 u1 o2 u2 x0 x1 x2 x3 x4 x5 x6 x7 x8 x9 x10 x11 x12 x13 x14 fin b j:=by
 by_cases e:j=14
 ·subst e
  obtain⟨g,h1,h2,h3⟩:=h
  exact⟨g,h1,h2,h3.kept k (by simp)⟩
 ·iterate 14 (rcases j with _|j;·exact h)
  rcases j with _|j
  ·exact absurd rfl e
  ·trivial
theorem exC_far {a b:World} {fin fin':Bool} {x0 x1 x2 x3 x4 x5 x6 x7 x8 x9 x10 x11 x12 x13 x14:Value} {j:Nat} (e:j≠14) (h:exC W vr pm N1 m q a1 d1 s2 u1 o2 u2 x0 x1 x2 x3 x4 x5 x6 x7 x8 x9 x10 x11 x12 x13 x14 fin a j):exC W vr pm N1 m q a1 d1 s2 u1 o2 u2 x0 x1 x2 x3 x4 x5 x6 x7 x8 x9 x10 x11 x12 x13 x14 fin' b j:=by
 iterate 14 (rcases j with _|j;·exact h)
 rcases j with _|j
 ·exact absurd rfl e
 ·trivial
end
end
end Go.Proofs.YtcbcegdidlefiaaGreat
