/- Contract of Cells (reference): the cells of a route. Conditions: as the theorem says. Contract of Fits (reference, layer 8): the error of a fit. Conditions: as the theorem says. Contracts of the reference's running times: bad, Speeds and Times at a run without an error. Conditions: as each theorem says. -/
import Derived.Test.YtcbcegdidlefiaaGreatK01
import Derived.Test.YtcbcegdidlefiaaGreatK15
import Derived.Test.YtcbcegdidlefiaaGreatK09
import Derived.Test.YtcbcegdidlefiaaGreatK12
import Derived.Test.YtcbcegdidlefiaaGreatK11
namespace Go.Proofs.YtcbcegdidlefiaaGreat
section
open Go.RowKit
set_option maxRecDepth 100000 in
set_option maxHeartbeats 8000000 in
theorem rrcells_any (L:Lay) (v:LV) (r:Rou) (A:Option Addr) (c:Nat) (w:World) (h:RLay w (Old w) v L) (hr:RStps w (Old w) [.slice A r.stps.length c] r.stps) (hlen:LayLen L):
  Calls Tryz.prog 181 #[.agg (v.cs L),.agg #[.slice A r.stps.length c,.int .i64 r.ov]] w fun e w'=>∃vs f,e= .returned (.tuple #[vs,.int .i64 f,.int .i64 (celErr L r)])∧KeepsAll w w'∧
   (celErr L r=0→f=(fstC (pcesOf L r):Int)∧∃A' c',vs= .slice A' (celsRt L r).length c'∧RCels w' (Fresh w w') [vs] (celsRt L r)):=by
 have HCK:=Lib.hid (fun W k1 k2=>rrouCheck_any L v r A c W k1 k2 hlen)
 have HL:=Lib.hid h
 have HR:=Lib.hid hr
 have hc:=hr.caps
 have hc3:=h.secs.caps
 clear h hr
 obtain⟨A1,A2,A3,A4,ca1,ca2,ca3,ca4⟩:=v
 simp only[]at hc3
 unfold LV.cs at HCK⊢
 simp only[]at HCK⊢
 go_enter Tryz.func181,Tryz.ntmps181
 go_wp2_with fail
 generalize hW1:World.alloc w _=W1
 have K1:Hid (KeepsAll w W1):=by subst hW1;exact(Keeps.refl _ _).alloc _
 have B1:Hid (Blk W1 w.heap.size 27 #[.slice A1 L.sts.length ca1,.slice A2 L.pts.length ca2,.slice A3 L.secs.length ca3,.slice A4 L.lks.length ca4]):=by subst hW1;exact Blk.new _ _ _
 have hz1:W1.heap.size=w.heap.size+1:=by subst hW1;simp
 clear hW1
 generalize hN:w.heap.size=N at*
 generalize hW:World.alloc W1 _=W
 have K0:Hid (KeepsAll w W):=by subst hW;exact K1.out.alloc _
 have B0:Hid (Blk W N 27 #[.slice A1 L.sts.length ca1,.slice A2 L.pts.length ca2,.slice A3 L.secs.length ca3,.slice A4 L.lks.length ca4]):=by subst hW;exact B1.out.alloc _
 have BR:Hid (Blk W (N+1) 95 #[.slice A r.stps.length c,.int .i64 r.ov]):=by subst hW;exact Blk.new' _ _ _ hz1.symm
 clear hW K1 B1 hz1
 refine(HCK.out W (HL.out.kept K0.out) (K0.out.rdA (RSlice.ok RStp.ok) HR.out)).mono ?_
 rintro e W2 ⟨rfl,k2⟩
 have K2:Hid (KeepsAll w W2):=K0.out.trA k2
 have C0:=Lib.hid (B0.out.kept k2 (by simp))
 have CR:=Lib.hid (BR.out.kept k2 (by simp))
 clear k2 B0 BR K0 HCK
 by_cases gz:rouErr L r≠0
 ·have gz':(rouErr L r !=0)=true:=by simpa using gz
  have E:Hid (celErr L r=rouErr L r):=by show _=_;unfold celErr;rw[if_pos gz]
  generalize hou:rouErr L r=ou at*
  go_wp2_with fail
  refine bodyPost_ret (v:= .tuple #[.slice none 0 0,.int .i64 0,.int .i64 ou]) (by simp[results,Tryz.results181,go_sem]) rfl ?_
  exact⟨.slice none 0 0,0,by rw[E.out],K2.out,fun e=>absurd (E.out.symm.trans e) gz⟩
 have gz:rouErr L r=0:=by simpa using gz
 have HOK:=Lib.hid ((rouErr_zero L r).1 gz)
 have E:Hid (celErr L r=if 4000<(celsRt L r).length then 7 else 0):=by show _=_;unfold celErr;rw[if_neg (by simp[gz])]
 have g41:=HOK.out.len
 have g42:=HOK.out.ov2
 have g43:=HOK.out.ov0
 have g44:=HOK.out.two
 have hL1:=HOK.out.lay.secs
 rw[gz]
 obtain⟨ov,hov⟩:=Int.eq_ofNat_of_zero_le g43
 have HPL:Hid ((pcesOf L r).length=r.stps.length-ov):=by show _=_;unfold pcesOf trvS;rw[hov];simp
 have hsl:(r.stps.length:Int)-r.ov=((r.stps.length-ov:Nat):Int):=by omega
 have q2:=C0.out.cell 2
 have r0:=CR.out.cell 0
 have r1:=CR.out.cell 1
 simp at q2 r0 r1
 obtain⟨b0,o0,x0,hA,-,hx0,-,-⟩:=HR.out.at_ (k:=0) (by omega)
 subst hA
 go_wp2_with fail
 have hT:(r.stps.length-ov)≤24:=by omega
 have HTL:Hid (∀n,n<r.stps.length-ov→n<r.stps.length):=fun n hn=>by omega
 generalize hTT:r.stps.length-ov=T at*
 go_loopw [8,9] (fun l i wr=>∃n:Nat,n≤T∧i= .int .i64 (n:Int)∧OwnL 415 2 RCel wr W2.heap.size W2.heap.size l (cellsOf ((pcesOf L r).take n))∧KeepsAll W2 wr∧(cellsOf ((pcesOf L r).take n)).length≤400*n) (fun _ i _=>T-(intOf i).toNat)
 case atStart=>exact⟨0,Nat.zero_le _,rfl,by rw[List.take_zero];exact OwnL.nil,Keeps.refl _ _,by simp[cellsOf]⟩
 case round=>
  obtain⟨n,hn,rfl,ho,hk,hcn⟩:=hrel
  obtain⟨Al,cl,rfl,hcl1,hcl2⟩:=ho.form
  have HO:=Lib.hid ho
  have HK:=Lib.hid hk
  have KW:Hid (KeepsAll w wr):=K2.out.trA hk
  have D0:=Lib.hid (C0.out.kept hk (by simp))
  have DR:=Lib.hid (CR.out.kept hk (by simp))
  have hsz:=hk.size
  clear ho hk
  have p2:=D0.out.cell 2
  have r2:=DR.out.cell 0
  have r3:=DR.out.cell 1
  simp at p2 r2 r3
  have hN1:N<wr.heap.size:=D0.out.lt
  have hN2:N+1<wr.heap.size:=DR.out.lt
  by_cases hlt:n<T
  ·have hlt1:(n:Int)<(r.stps.length:Int)-r.ov:=by omega
   have hlt2:decide ((n:Int)<(r.stps.length:Int)-r.ov)=true:=by simpa using hlt1
   obtain⟨b1,o1,s1,hA1,hb1,hx1,m0,m1⟩:=HR.out.atO KW.out (k:=n) (HTL.out n hlt)
   injection hA1 with hA1
   injection hA1 with hA1 hA2
   subst hA1 hA2
   have hsl1:=HOK.out.sec_lt hx1
   have hsa:=HOK.out.sec_at hx1
   have hso:=HOK.out.sec_ok hx1
   have hPx:(pcesOf L r)[n]? =some (pceOf L s1):=by
    unfold pcesOf trvS
    rw[List.getElem?_map,List.getElem?_take_of_lt (by rw[hov];simp;omega),hx1]
    rfl
   have HCA:=Lib.hid (cellsOf_at (pcesOf L r) n (pceOf L s1) hPx)
   obtain⟨k,hk⟩:=Int.eq_ofNat_of_zero_le hsl1.1
   have hk96:k<L.secs.length:=by omega
   obtain⟨b2,o2,x,rfl,hb2,hx2,c0,c1,c2,c3,c4⟩:=HL.out.secs.atO KW.out (k:=k) hk96
   have hxs:x=secD L s1.sec:=by
    rw[hk,Int.toNat_natCast]at hsa
    rw[hk]
    exact Option.some.inj (hx2.symm.trans hsa)
   rw[hk]at m0
   have HPC:Hid (pceOf L s1=⟨x.len,x.lim,if s1.dir=1 then-x.grd else x.grd⟩):=by show _=_;unfold pceOf;rw[←hxs]
   rw[←hxs]at hso
   rw[HPC.out]at HCA
   obtain⟨len,hlen2⟩:=Int.eq_ofNat_of_zero_le (by omega:0≤x.len)
   have hlr:1≤len∧len≤400:=by omega
   simp only[hlen2,Int.toNat_natCast]at HCA
   rw[hlen2]at c1
   have hgrd: -40≤x.grd∧x.grd≤40:=by omega
   clear hx1 hx2 hxs hsa hPx HPC hsl1 hso
   generalize hcl:cellsOf ((pcesOf L r).take n)=cs at*
   go_upto_region 8 with fail
   refine wp_region_lexB (fun w'=>∃x:Ext wr,w'=x.val) [0,1,2,3,4,5,6,7,8,9,10,11] (by kernel_rfl) (by kernel_rfl) ⟨⟨_,(Keeps.refl _ _).drew⟩,rfl⟩ ?_
   have y0:=Ext.cell p2
   have y1:=Ext.cell r2
   have y2:=Ext.cell m0
   have y3:=Ext.cell c0
   have y4:=Ext.cell c1
   have y5:=Ext.cell c2
   have y6:=Ext.cell c3
   have y7:=Ext.cell c4
   iterate 10 (refine lex_q _ rfl rfl rfl ?_;go_big_quiet_step (fail);refine wpQuiet_nil ?_)
   clear y0 y1 y2 y3 y4 y5 y6 y7
   refine lex_a _ rfl rfl true (by kernel_rfl) ?_
   go_wp2
   refine⟨fun _=>⟨⟨_,((Keeps.refl _ wr).alloc _).drew⟩,rfl⟩,?_⟩
   refine lex_a _ rfl rfl false (by kernel_rfl) ?_
   go_wp2
   (try refine⟨fun h=>(by cases h),?_⟩)
   simp only[wpLex]
   refine NoPanic.normal ?_
   generalize hwc:(World.alloc wr _).drew=w4
   have KX:Hid (KeepsAll wr w4):=by subst hwc;exact((Keeps.refl _ _).alloc _).drew
   have BB:Hid (Blk w4 wr.heap.size 185 #[.string (mkS x.name),.int .i64 (len:Int),.int .i64 x.lim,.int .i64 x.grd,.int .i64 x.sta]):=by subst hwc;exact Blk.new _ _ _
   clear hwc c0 c1 c2 c3 c4 p2 m0 r3
   generalize hz:wr.heap.size=z at*
   replace m1:=KX.out.cellA (by show b0<_;omega) m1
   replace r2:=KX.out.cellA (by show N+1<_;omega) r2
   have hzz:=BB.out.lt
   have hKX:=KX.out.size
   have t1:=BB.out.cell 1
   have t2:=BB.out.cell 2
   have t3:=BB.out.cell 3
   simp at t1 t2 t3
   obtain⟨G,hG⟩:∃G,G=if s1.dir=1 then-x.grd else x.grd:=⟨_,rfl⟩
   rw[←hG]at HCA
   have HGG:=Lib.hid hG
   clear hG
   have hb1':b0<w4.heap.size:=by omega
   (try rw[show decide ((n:Int)<(r.stps.length:Int)-r.ov)=true from hlt2])
   go_upto_if 47 with fail
   go_cut [11]from 39 to 62 (fun s wx=>s= .int .i64 G∧wx=w4)
   case first=>
    by_cases hd:s1.dir=1
    ·have hd1:(s1.dir==1)=true:=by simpa using hd
     have e:=HGG.out
     rw[if_pos hd]at e
     clear hd HGG
     go_wp2_with fail
     go_meet
     exact⟨by rw[e],rfl⟩
    ·have hd1:(s1.dir==1)=false:=by simpa using hd
     have e:=HGG.out
     rw[if_neg hd]at e
     clear hd HGG
     go_wp2_with fail
     go_meet
     exact⟨by rw[e],rfl⟩
   case rest=>
    obtain⟨rfl,hw4⟩:=hcut
    rw[hw4]
    clear hw4 HGG hgrd
    have HO4:=Lib.hid (HO.out.keepsT RCel.flt KX.out (by simp))
    have KW4:=Lib.hid (HK.out.trA KX.out)
    go_wp2_with fail
    go_loopw [8,12] (fun l i wr=>∃j:Nat,j≤len∧i= .int .i64 (j:Int)∧OwnL 415 2 RCel wr W2.heap.size W2.heap.size l (cs++List.replicate j ⟨x.lim,G⟩)∧KeepsAll W2 wr∧Blk wr z 185 #[.string (mkS x.name),.int .i64 (len:Int),.int .i64 x.lim,.int .i64 x.grd,.int .i64 x.sta]∧(∀b,l.ownBlock=some b→b≠z)) (fun _ i _=>len-(intOf i).toNat)
    case atStart=>exact⟨0,Nat.zero_le _,rfl,by simpa using HO4.out,KW4.out,BB.out,fun b hb e=>by have:=(HO.out.lt hb).2;omega⟩
    case round=>
     obtain⟨j,hj,rfl,hoj,hkj,hbj,hnj⟩:=hrel
     obtain⟨Aj,cj,rfl,hcj1,hcj2⟩:=hoj.form
     have HOJ:=Lib.hid hoj
     have HKJ:=Lib.hid hkj
     have CB:=Lib.hid hbj
     have HNE:=Lib.hid hnj
     have t1:=CB.out.cell 1
     have t2:=CB.out.cell 2
     simp at t1 t2
     have hzj:=CB.out.lt
     have hwj:=hkj.size
     clear hoj hkj hbj hnj
     have hlj:(cs++List.replicate j (⟨x.lim,G⟩:Cel)).length≤10400:=by rw[List.length_append,List.length_replicate];omega
     by_cases hltj:j<len
     ·have HNJ:Hid (cs++List.replicate (j+1) (⟨x.lim,G⟩:Cel)=(cs++List.replicate j ⟨x.lim,G⟩)++ [⟨x.lim,G⟩]):=by
       show _=_
       rw[List.replicate_succ',List.append_assoc]
      generalize hlx:cs++List.replicate j (⟨x.lim,G⟩:Cel)=lx at*
      clear hlx
      go_wp2_with(at_builtin;go_loud(have KB:KeepsAll wr (wr.alloc (.cells #[.int .i64 x.lim,.int .i64 G] 415)):=(Keeps.refl _ _).alloc _;refine wpList_append_L tyCel RCel.ok rfl (.tmp 56) (.tmp 61) rfl (HOJ.out.keepsT RCel.flt KB (by simp)) rfl _ [.int .i64 x.lim,.int .i64 G] rfl (Blk.new wr 415 #[.int .i64 x.lim,.int .i64 G]) rfl (⟨x.lim,G⟩:Cel) (S:=fun _=>False) rfl (fun _ h=>h.elim) (by simp[Value.oneCell']) (by omega) (by omega) (by simp;omega) ?_;intro v8 w8 HO8 HK8 HA8))
      exact⟨⟨j+1,by omega,by go_num,by rw[HNJ.out];exact HO8,(HKJ.out.alloc _).trans HK8 (fun y hy e=>by have:=(HOJ.out.lt e).1;omega),(CB.out.alloc _).kept HK8 (fun e=>HNE.out _ e rfl),fun b hb e=>by
       rcases HA8 with h8|h8
       ·exact HNE.out b (by rw[←h8];exact hb) e
       ·rw[h8]at hb
        injection hb with hb
        simp at hb
        omega⟩,by simp[intOf];omega⟩
     ·obtain rfl:j=len:=by omega
      have HN9:Hid (cellsOf ((pcesOf L r).take (n+1))=cs++List.replicate j ⟨x.lim,G⟩):=by show _=_;rw[HCA.out];rfl
      go_wp2_with fail
      exact⟨⟨n+1,by omega,by go_num,by rw[HN9.out];exact HOJ.out,HKJ.out,by rw[HN9.out,List.length_append,List.length_replicate];omega⟩,by simp[intOf];omega⟩
  ·obtain rfl:n=T:=by omega
   have HALL:Hid (cellsOf ((pcesOf L r).take n)=celsRt L r):=by show _=_;rw[←HPL.out,List.take_length];rfl
   rw[HALL.out]at HO hcn hcl1⊢
   have HP0:Hid ((pcesOf L r)[0]? =some (pceOf L x0)):=by
    show _=_
    unfold pcesOf trvS
    rw[List.getElem?_map,List.getElem?_take_of_lt (by rw[hov];simp;omega),hx0]
    rfl
   have hFST:(fstC (pcesOf L r):Int)=(secD L x0.sec).len:=by
    unfold fstC
    rw[List.getD_eq_getElem?_getD,HP0.out]
    simp only[Option.getD_some,pceOf]
    have:=(HOK.out.sec_ok hx0).1
    omega
   have hsl1:=HOK.out.sec_lt hx0
   have hsa:=HOK.out.sec_at hx0
   obtain⟨k,hk⟩:=Int.eq_ofNat_of_zero_le hsl1.1
   have hk96:k<L.secs.length:=by omega
   obtain⟨b2,o2,x,rfl,hb2,hx2,c0,c1,c2,c3,c4⟩:=HL.out.secs.atO KW.out (k:=k) hk96
   have hxs:x=secD L x0.sec:=by
    rw[hk,Int.toNat_natCast]at hsa
    rw[hk]
    exact Option.some.inj (hx2.symm.trans hsa)
   rw[←hxs]at hFST
   obtain⟨b1,o1,s1,hA1,hb1,hx1,m0,m1⟩:=HR.out.atO KW.out (k:=0) (by omega)
   injection hA1 with hA1
   injection hA1 with hA1 hA2
   subst hA1 hA2
   obtain rfl:s1=x0:=Option.some.inj (hx1.symm.trans hx0)
   rw[hk]at m0
   have HF:=Lib.hid hFST
   have r2:=DR.out.cell 0
   simp at r2
   have hlc:0<L.secs.length:=by omega
   simp only[Nat.zero_mul,Nat.add_zero]at m0 m1
   have hRD:=Lib.hid (HO.out.readT RCel.flt (S:=Fresh w wr) (fun b hb=>⟨Nat.le_trans K2.out.size (HO.out.lt hb).1,(HO.out.lt hb).2⟩))
   clear hx2 hxs hx1 hsl1 hsa hFST HPL
   generalize hcs:celsRt L r=cs at*
   by_cases h4:4000<cs.length
   ·have E7:Hid (celErr L r=7):=by show _=_;rw[E.out,if_pos h4]
    go_wp2_with fail
    refine bodyPost_ret (v:= .tuple #[.slice none 0 0,.int .i64 0,.int .i64 7]) (by simp[results,Tryz.results181,go_sem]) rfl ?_
    exact⟨.slice none 0 0,0,by rw[E7.out],KW.out,fun e=>by rw[E7.out]at e;cases e⟩
   ·have E0:Hid (celErr L r=0):=by show _=_;rw[E.out,if_neg h4]
    have h4':cs.length≤4000:=by omega
    clear h4
    go_wp2_with fail
    go_quiet (fail)
    go_wp2_with fail
    refine bodyPost_ret (v:= .tuple #[.slice Al cs.length cl,.int .i64 x.len,.int .i64 0]) (by simp[results,Tryz.results181,go_sem]) rfl ?_
    exact⟨.slice Al cs.length cl,x.len,by rw[E0.out],KW.out.drewN _,fun _=>⟨HF.out.symm,Al,cl,by rw[hcs],by rw[hcs];exact(RSlice.ok RCel.ok).mono hRD.out (fun _ h=>h) (fun _ _=>rfl)⟩⟩
end
section
open Go.RowKit
set_option maxRecDepth 100000 in
set_option maxHeartbeats 8000000 in
theorem rfits_any (L:Lay) (v:LV) (r:Rou) (s:Stk) (A:Option Addr) (c:Nat) (w:World) (h:RLay w (Old w) v L) (hr:RStps w (Old w) [.slice A r.stps.length c] r.stps) (hlen:LayLen L):
  Calls Tryz.prog 179 #[.agg (v.cs L),.agg #[.slice A r.stps.length c,.int .i64 r.ov],.agg (stkC s)] w fun e w'=>e= .returned (.int .i64 (fitErr L r s))∧KeepsAll w w':=by
 have HCE:=Lib.hid (fun W k1 k2=>rrcells_any L v r A c W k1 k2 hlen)
 have HST:=Lib.hid (fun W=>rstkOk_any s W)
 have HL:=Lib.hid h
 have HR:=Lib.hid hr
 have hc:=hr.caps
 have hc3:=h.secs.caps
 clear h hr
 obtain⟨A1,A2,A3,A4,ca1,ca2,ca3,ca4⟩:=v
 simp only[]at hc3
 unfold LV.cs at HCE⊢
 simp only[]at HCE⊢
 obtain⟨sn,sl,sv,sa,sb⟩:=s
 generalize hst:(⟨sn,sl,sv,sa,sb⟩:Stk)=s at*
 have ES:Hid (stkC s= #[.string (mkS sn),.int .i64 sl,.int .i64 sv,.int .i64 sa,.int .i64 sb]):=by subst hst;rfl
 have hsl:s.len=sl:=by subst hst;rfl
 rw[ES.out]at HST⊢
 clear hst ES
 go_enter Tryz.func179,Tryz.ntmps179
 go_upto_region 1 with fail
 generalize hW1:World.alloc w _=W1
 have K1:Hid (KeepsAll w W1):=by subst hW1;exact(Keeps.refl _ _).alloc _
 have B1:Hid (Blk W1 w.heap.size 27 #[.slice A1 L.sts.length ca1,.slice A2 L.pts.length ca2,.slice A3 L.secs.length ca3,.slice A4 L.lks.length ca4]):=by subst hW1;exact Blk.new _ _ _
 have hz1:W1.heap.size=w.heap.size+1:=by subst hW1;simp
 clear hW1
 generalize hN:w.heap.size=N at*
 generalize hW:World.alloc (World.alloc W1 _) _=W
 have K0:Hid (KeepsAll w W):=by subst hW;exact(K1.out.alloc _).alloc _
 have B0:Hid (Blk W N 27 #[.slice A1 L.sts.length ca1,.slice A2 L.pts.length ca2,.slice A3 L.secs.length ca3,.slice A4 L.lks.length ca4]):=by subst hW;exact(B1.out.alloc _).alloc _
 have BR:Hid (Blk W (N+1) 95 #[.slice A r.stps.length c,.int .i64 r.ov]):=by subst hW;exact(Blk.new' _ _ _ hz1.symm).alloc _
 have BK:Hid (Blk W (N+1+1) 103 #[.string (mkS sn),.int .i64 sl,.int .i64 sv,.int .i64 sa,.int .i64 sb]):=by subst hW;exact Blk.new' _ _ _ (by simp[hz1])
 clear hW K1 B1 hz1
 have l0:=B0.out.cell 0
 have l1:=B0.out.cell 1
 have l2:=B0.out.cell 2
 have l3:=B0.out.cell 3
 have r0:=BR.out.cell 0
 have r1:=BR.out.cell 1
 simp at l0 l1 l2 l3 r0 r1
 have hzl:=B0.out.lt
 have hzr:=BR.out.lt
 go_upto_region 2 with(go_at_call 181;with_reducible refine(HCE.out W (HL.out.kept K0.out) (K0.out.rdA (RSlice.ok RStp.ok) HR.out)).mono ?_;rintro e W2 ⟨vs,f,rfl,k2,-⟩)
 have K2:Hid (KeepsAll w W2):=K0.out.trA k2
 have C0:=Lib.hid (B0.out.kept k2 (by simp))
 have CR:=Lib.hid (BR.out.kept k2 (by simp))
 have CK:=Lib.hid (BK.out.kept k2 (by simp))
 clear k2 B0 BR BK K0 HCE l0 l1 l2 l3 r0 r1 hzl hzr
 by_cases gz:celErr L r≠0
 ·have gz':(celErr L r !=0)=true:=by simpa using gz
  have E:Hid (fitErr L r s=celErr L r):=by show _=_;unfold fitErr;rw[if_pos gz]
  generalize hou:celErr L r=ou at*
  clear gz
  go_wp2_with fail
  go_ret
  exact⟨by rw[E.out];rfl,K2.out⟩
 have gz:celErr L r=0:=by simpa using gz
 have hro:rouErr L r=0:=by
  unfold celErr at gz
  split at gz
  ·rename_i h;exact absurd gz h
  ·rename_i h;simpa using h
 have HOK:=Lib.hid ((rouErr_zero L r).1 hro)
 have E:Hid (fitErr L r s=if stkOk s=false then 1 else if((trvS r).any fun t=>decide ((secD L t.sec).len<max 2 s.len))=true then 12 else 0):=by
  show _=_;unfold fitErr;rw[if_neg (by simp[gz])]
 have g41:=HOK.out.len
 have g42:=HOK.out.ov2
 have g43:=HOK.out.ov0
 have g44:=HOK.out.two
 have hL1:=HOK.out.lay.secs
 rw[gz]
 clear hro
 have s0:=CK.out.cell 0
 have s1:=CK.out.cell 1
 have s2:=CK.out.cell 2
 have s3:=CK.out.cell 3
 have s4:=CK.out.cell 4
 simp at s0 s1 s2 s3 s4
 have hzk:=CK.out.lt
 cases gs:stkOk s with
 |false=>
  have E1:Hid (fitErr L r s=1):=by show _=_;rw[E.out,if_pos gs]
  rw[gs]at HST
  go_wp2_with(go_at_call 34;refine(HST.out _).mono ?_;rintro e w5 ⟨rfl,k5⟩;have K5:=Lib.hid (K2.out.trA k5))
  go_ret
  exact⟨by rw[E1.out];rfl,K5.out⟩
 |true=>
  rw[gs]at HST
  obtain⟨ov,hov⟩:=Int.eq_ofNat_of_zero_le g43
  obtain⟨b0,o0,x0,hA,-,hx0,-,-⟩:=HR.out.at_ (k:=0) (by omega)
  subst hA
  have HTS:Hid (trvS r=r.stps.take (r.stps.length-ov)):=by show _=_;unfold trvS;rw[hov,Int.toNat_natCast]
  have hTl:r.stps.length-ov≤r.stps.length:=by omega
  have hTI:(r.stps.length:Int)-r.ov=((r.stps.length-ov:Nat):Int):=by omega
  have HTI:=Lib.hid hTI
  clear hTI
  have hov3:ov≤2:=by omega
  generalize hTT:r.stps.length-ov=T at*
  have E2:Hid (fitErr L r s=if((r.stps.take T).any fun t=>decide ((secD L t.sec).len<max 2 s.len))=true then 12 else 0):=by
   show _=_;rw[E.out,if_neg (by rw[gs];simp),HTS.out]
  clear E
  go_wp2_with(go_at_call 34;refine(HST.out _).mono ?_;rintro e w5 ⟨rfl,k5⟩;have K5:=Lib.hid (K2.out.trA k5);have D0:=Lib.hid (C0.out.kept k5 (by simp));have DR:=Lib.hid (CR.out.kept k5 (by simp));have DK:=Lib.hid (CK.out.kept k5 (by simp));clear k5 s0 s1 s2 s3 s4 C0 CR CK)
  go_loopw [10] (fun i wr=>∃n:Nat,n≤T∧i= .int .i64 (n:Int)∧((r.stps.take n).any fun t=>decide ((secD L t.sec).len<max 2 s.len))=false∧KeepsAll w5 wr) (fun i _=>T-(intOf i).toNat)
  case atStart=>exact⟨0,Nat.zero_le _,rfl,rfl,Keeps.refl _ _⟩
  case round=>
   obtain⟨n,hn,rfl,hany,hk⟩:=hrel
   have HAN:=Lib.hid hany
   have HK:=Lib.hid hk
   have KW:=Lib.hid (K5.out.trA hk)
   have G0:=Lib.hid (D0.out.kept hk (by simp))
   have GR:=Lib.hid (DR.out.kept hk (by simp))
   have GK:=Lib.hid (DK.out.kept hk (by simp))
   clear hk hany
   have r0:=GR.out.cell 0
   have r1:=GR.out.cell 1
   have q2:=G0.out.cell 2
   have q3:=GK.out.cell 1
   simp at r0 r1 q2 q3
   have hz1:N<wr.heap.size:=G0.out.lt
   have hz2:N+1+1<wr.heap.size:=GK.out.lt
   have hz3:N+1<wr.heap.size:=GR.out.lt
   by_cases hlt:n<T
   ·have hlt1:(n:Int)<(r.stps.length:Int)-r.ov:=by rw[HTI.out];omega
    have hlt2:decide ((n:Int)<(r.stps.length:Int)-r.ov)=true:=by simpa using hlt1
    obtain⟨b1,o1,s1,hA1,hb1,hx1,m0,m1⟩:=HR.out.atO KW.out (k:=n) (by omega)
    injection hA1 with hA1
    injection hA1 with hA1 hA2
    subst hA1 hA2
    have hsl1:=HOK.out.sec_lt hx1
    have hsa:=HOK.out.sec_at hx1
    obtain⟨k,hk⟩:=Int.eq_ofNat_of_zero_le hsl1.1
    have hk96:k<L.secs.length:=by omega
    obtain⟨b2,o2,x,rfl,hb2,hx2,c0,c1,c2,c3,c4⟩:=HL.out.secs.atO KW.out (k:=k) hk96
    have hxs:x=secD L s1.sec:=by
     rw[hk,Int.toNat_natCast]at hsa
     rw[hk]
     exact Option.some.inj (hx2.symm.trans hsa)
    rw[hk]at m0
    have HNX:Hid (∀q,decide (x.len<max 2 s.len)=q→((r.stps.take (n+1)).any fun t=>decide ((secD L t.sec).len<max 2 s.len))=q):=fun q hq=>by
     rw[List.take_add_one,hx1,Option.toList_some,List.any_append,HAN.out]
     simp only[List.any_cons,List.any_nil,Bool.or_false,Bool.false_or]
     rw[←hxs];exact hq
    have HYES:Hid (decide (x.len<max 2 s.len)=true→fitErr L r s=12):=fun hq=>by
     rw[E2.out,if_pos]
     rw[List.any_eq_true]
     refine⟨s1,List.mem_of_getElem? (by rw[List.getElem?_take_of_lt hlt];exact hx1),?_⟩
     rw[←hxs];exact hq
    rw[hsl]at HNX HYES
    clear hx1 hx2 hxs hsa hsl1
    go_upto_region 9 with fail
    have y0:=Ext.cell r0
    have y1:=Ext.cell q2
    have y2:=Ext.cell q3
    have y3:=Ext.cell m0
    have y4:=Ext.cell c1
    by_cases hq:x.len<max 2 sl
    ·have E1:=Lib.hid (HYES.out (by simpa using hq))
     have hq1:decide (x.len<max 2 sl)=true:=by simpa using hq
     clear HYES HNX hq
     refine wp_region_ext (by kernel_rfl) (by kernel_rfl) ?_
     repeat (go_big_quiet_step (fail))
     refine wpQuiet_nil ?_
     rintro _ ⟨X,rfl⟩
     have KX:=X.keeps
     generalize X.val=W7 at*
     clear y0 y1 y2 y3 y4
     go_wp2_with fail
     go_ret
     exact⟨by rw[E1.out];rfl,KW.out.trA KX⟩
    ·have HN1:=Lib.hid (HNX.out false (by simpa using hq))
     have hq1:decide (x.len<max 2 sl)=false:=by simpa using hq
     clear HYES HNX hq
     refine wp_region_ext (by kernel_rfl) (by kernel_rfl) ?_
     repeat (go_big_quiet_step (fail))
     refine wpQuiet_nil ?_
     rintro _ ⟨X,rfl⟩
     have KX:=X.keeps
     generalize X.val=W7 at*
     clear y0 y1 y2 y3 y4
     go_wp2_with fail
     exact⟨⟨n+1,by omega,by go_num,by rw[hsl];exact HN1.out,HK.out.trA KX⟩,by simp[intOf];omega⟩
   ·obtain rfl:n=T:=by omega
    have hlt1:¬(n:Int)<(r.stps.length:Int)-r.ov:=by rw[HTI.out];omega
    have hlt2:decide ((n:Int)<(r.stps.length:Int)-r.ov)=false:=by simpa using hlt1
    have E0:Hid (fitErr L r s=0):=by show _=_;rw[E2.out,HAN.out];rfl
    go_wp2_with fail
    go_ret
    exact⟨by rw[E0.out];rfl,KW.out⟩
end
section
open Go.RowKit
set_option maxRecDepth 100000 in
set_option maxHeartbeats 4000000 in
theorem rbad_ok (cs:List Cel) (A:Option Addr) (u a m:Nat) (s:Stk) (w:World) (h:RCels w (Old w) [.slice A cs.length u] cs) (hl:cs.length=a+m) (hm:2≤m) (hc:∀c∈cs,celOk c=true) (hs:stkOk s=true) (hcl:cs.length≤4000):
  Calls Tryz.prog 386 #[.slice A cs.length u,.int .i64 (a:Int),.agg (stkC s)] w fun e w'=>e= .returned (.int .i64 0)∧KeepsAll w w':=by
 have hcap:=h.caps
 have HR:=Lib.hid h
 have HC:=Lib.hid hc
 have HS:=Lib.hid (fun W=>rstkOk_any s W)
 rw[hs]at HS
 clear h hc
 obtain⟨sn,sl,sv,sa,sb⟩:=s
 unfold stkC at HS⊢
 simp only[]at HS⊢
 have hlt1:((a:Int)<0)=False:=by simp
 have hm2:¬((cs.length:Int)-2<(a:Int)):=by omega
 have HLN:=Lib.hid hl
 clear hs hl
 go_enter Tryz.func386,Tryz.ntmps386
 go_wp2_with fail
 generalize hW1:World.alloc w _=W1
 have K1:Hid (KeepsAll w W1):=by subst hW1;exact(Keeps.refl _ _).alloc _
 clear hW1
 refine(HS.out W1).mono ?_
 rintro e W2 ⟨rfl,k2⟩
 have K2:Hid (KeepsAll w W2):=K1.out.trA k2
 clear k2 K1
 go_wp2_with fail
 go_loopw [7] (fun i wr=>∃n:Nat,n≤cs.length∧i= .int .i64 (n:Int)∧KeepsAll W2 wr) (fun i _=>cs.length-(intOf i).toNat)
 case atStart=>exact⟨0,Nat.zero_le _,rfl,Keeps.refl _ _⟩
 case round=>
  obtain⟨n,hn,rfl,hk⟩:=hrel
  have HK:=Lib.hid hk
  have KW:=Lib.hid (K2.out.trA hk)
  clear hk
  by_cases hlt:n<cs.length
  ·obtain⟨b,o,c,rfl,hb,hx,c0,c1⟩:=HR.out.atO KW.out hlt
   have hok:=HC.out c (List.mem_of_getElem? hx)
   simp only[celOk,decide_eq_true_eq]at hok
   obtain⟨p1,p2,p3,p4⟩:=hok
   have d1:decide (1000≤c.lim∧c.lim≤100000)=true:=by simp;omega
   have d2:decide (-40≤c.grd∧c.grd≤40)=true:=by simp;omega
   clear hx
   go_wp2_with(go_at_call 102;refine(in_any _ _ _ _).mono ?_;(first|rw[d1]|rw[d2]);rintro e w' ⟨rfl,rfl⟩)
   exact⟨⟨n+1,by omega,by go_num,HK.out⟩,by simp[intOf];omega⟩
  ·obtain rfl:n=cs.length:=by omega
   go_wp2_with fail
   go_ret
   exact⟨rfl,KW.out⟩
def capA (cs:List Cel) (a:Nat) (s:Stk) (m k:Nat):List Int:=tab (m+1) fun j=>if 0<j∧j<k then capC cs (a+j) s else 0
def rfwA (cs:List Cel) (a:Nat) (s:Stk) (m k:Nat):List Int:=tab (m+1) fun j=>if m≤j then 0 else if j≤k then fwdC cs a s j else capC cs (a+j) s
def rbwA (cs:List Cel) (a:Nat) (s:Stk) (m k:Nat):List Int:=tab (m+1) fun j=>if k≤j then bwdC cs a (a+m) s (m-j)else fwdC cs a s j
theorem capA_start (cs:List Cel) (a:Nat) (s:Stk) (m:Nat):List.replicate (m+1) 0=capA cs a s m 1:=by
 unfold capA
 rw[tab_const]
 exact tab_ext fun j _=>by rw[if_neg (by omega)]
theorem capA_zero {cs:List Cel} {a:Nat} {s:Stk} {m k:Nat} (h:k≤m):(capA cs a s m k)[k]? =some 0:=by
 unfold capA;rw[tab_get (by omega),if_neg (by omega)]
theorem capA_set {cs:List Cel} {a:Nat} {s:Stk} {m k:Nat} (hk:0<k):(capA cs a s m k).set k (capC cs (a+k) s)=capA cs a s m (k+1):=by
 unfold capA
 rw[tab_set]
 refine tab_ext fun j _=> ?_
 by_cases e:j=k
 ·subst e;rw[if_pos rfl,if_pos (by omega)]
 ·rw[if_neg e]
  by_cases h:0<j∧j<k
  ·rw[if_pos h,if_pos (by omega)]
  ·rw[if_neg h,if_neg (by omega)]
theorem capA_end {cs:List Cel} {a:Nat} {s:Stk} {m:Nat}:capA cs a s m m=rfwA cs a s m 0:=by
 unfold capA rfwA
 refine tab_ext fun j _=> ?_
 by_cases h:m≤j
 ·rw[if_pos h,if_neg (by omega)]
 ·rw[if_neg h]
  by_cases h2:j≤0
  ·obtain rfl:j=0:=by omega
   rw[if_neg (by omega),if_pos h2];rfl
  ·rw[if_pos (by omega),if_neg h2]
theorem rfwA_at {cs:List Cel} {a:Nat} {s:Stk} {m k:Nat} (h:k<m):(rfwA cs a s m k)[k]? =some (fwdC cs a s k):=by
 unfold rfwA;rw[tab_get (by omega),if_neg (by omega),if_pos (Nat.le_refl _)]
theorem rfwA_next {cs:List Cel} {a:Nat} {s:Stk} {m k:Nat} (h:k<m):(rfwA cs a s m k)[k+1]? =some (if k+1=m then 0 else capC cs (a+(k+1)) s):=by
 unfold rfwA
 rw[tab_get (by omega)]
 by_cases e:k+1=m
 ·rw[if_pos e,if_pos (by omega)]
 ·rw[if_neg e,if_neg (by omega),if_neg (by omega)]
theorem rfwA_set {cs:List Cel} {a:Nat} {s:Stk} {m k:Nat} (h:k<m) (v:Int) (hv:v=if k+1=m then 0 else fwdC cs a s (k+1)):(rfwA cs a s m k).set (k+1) v=rfwA cs a s m (k+1):=by
 unfold rfwA
 rw[tab_set]
 refine tab_ext fun j _=> ?_
 by_cases e:j=k+1
 ·subst e
  rw[if_pos rfl,hv]
  by_cases e2:k+1=m
  ·rw[if_pos e2,if_pos (by omega)]
  ·rw[if_neg e2,if_neg (by omega),if_pos (Nat.le_refl _)]
 ·rw[if_neg e]
  by_cases h1:m≤j
  ·rw[if_pos h1,if_pos h1]
  ·rw[if_neg h1,if_neg h1]
   by_cases h2:j≤k
   ·rw[if_pos h2,if_pos (by omega)]
   ·rw[if_neg h2,if_neg (by omega)]
theorem rfwA_end {cs:List Cel} {a:Nat} {s:Stk} {m:Nat}:rfwA cs a s m m=rbwA cs a s m m:=by
 unfold rfwA rbwA
 refine tab_ext fun j hj=> ?_
 by_cases h:m≤j
 ·rw[if_pos h,if_pos h,show m-j=0 by omega];rfl
 ·rw[if_neg h,if_neg h,if_pos (by omega)]
theorem rbwA_hi {cs:List Cel} {a:Nat} {s:Stk} {m k:Nat} (h:k≤m):(rbwA cs a s m k)[k]? =some (bwdC cs a (a+m) s (m-k)):=by
 unfold rbwA;rw[tab_get (by omega),if_pos (Nat.le_refl _)]
theorem rbwA_lo {cs:List Cel} {a:Nat} {s:Stk} {m k:Nat} (h:k+1≤m):(rbwA cs a s m (k+1))[k]? =some (fwdC cs a s k):=by
 unfold rbwA;rw[tab_get (by omega),if_neg (by omega)]
theorem rbwA_set {cs:List Cel} {a:Nat} {s:Stk} {m k:Nat}:(rbwA cs a s m (k+1)).set k (bwdC cs a (a+m) s (m-k))=rbwA cs a s m k:=by
 unfold rbwA
 rw[tab_set]
 refine tab_ext fun j _=> ?_
 by_cases e:j=k
 ·subst e;rw[if_pos rfl,if_pos (Nat.le_refl _)]
 ·rw[if_neg e]
  by_cases h:k+1≤j
  ·rw[if_pos h,if_pos (by omega)]
  ·rw[if_neg h,if_neg (by omega)]
theorem rbwA_end {cs:List Cel} {a:Nat} {s:Stk} {m:Nat} (hl:cs.length=a+m):rbwA cs a s m 0=spdA cs a s m 0:=by
 unfold rbwA spdA
 refine tab_ext fun j hj=> ?_
 rw[if_pos (Nat.zero_le _),if_neg (by omega)]
 unfold sqC
 rw[hl,show a+m-a-j=m-j by omega]
theorem limit_ext (cs:List Cel) (A:Option Addr) (u:Nat) (s:Stk) {W:World} (h:RCels W (Old W) [.slice A cs.length u] cs) (hs:stkOk s=true) (hcl:cs.length≤4000) (k:Nat) (hk:k<cs.length) (x:Ext W):
  Calls Tryz.prog 387 #[.slice A cs.length u,.int .i64 (k:Int),.agg (stkC s)] x.val fun e w'=>e= .returned (.int .i64 (limC cs k s))∧∃y:Ext W,w'=y.val:=
 ext_call x (rlimit_any cs A u k s x.val (x.keeps.rdA (RSlice.ok RCel.ok) h) hk hs hcl)
set_option maxRecDepth 100000 in
set_option maxHeartbeats 1000000 in
theorem RSpeeds_any (cs:List Cel) (A:Option Addr) (u a m:Nat) (s:Stk) (w:World) (h:RCels w (Old w) [.slice A cs.length u] cs) (hl:cs.length=a+m) (hm:2≤m) (hc:∀c∈cs,celOk c=true) (hs:stkOk s=true) (hcl:cs.length≤4000):
  Calls Tryz.prog 285 #[.slice A cs.length u,.int .i64 (a:Int),.agg (stkC s)] w fun e w'=>∃g,e= .returned (.tuple #[.slice (some ⟨g,0,none⟩) (m+1) (m+1),.int .i64 0])∧w.heap.size≤g∧Blk w' g 3 (cellsI (tab (m+1) (spdC cs a s)))∧KeepsAll w w':=by
 have HCK:=Lib.hid (fun W k=>rbad_ok cs A u a m s W k hl hm hc hs hcl)
 have HLX:=Lib.hid (fun(W:World) k=>limit_ext cs A u s (W:=W) k hs hcl)
 have HRG:Hid (∀k,0≤sqC cs a s k∧sqC cs a s k≤10000000000):=fun k=>⟨(sqC_range hc hs k).1,(sqC_range hc hs k).2.1⟩
 have HLIM:Hid (∀k,1000≤limC cs k s∧limC cs k s≤100000):=fun k=>limC_range hc hs k
 have HFW:Hid (∀k,0≤fwdC cs a s k∧fwdC cs a s k≤10000000000):=fun k=>⟨(fwdC_range hc hs k).1,(fwdC_range hc hs k).2.1⟩
 have HBW:Hid (∀k,0≤bwdC cs a (a+m) s k∧bwdC cs a (a+m) s k≤10000000000):=fun k=>⟨(bwdC_range hc hs (a+m) k).1,(bwdC_range hc hs (a+m) k).2.1⟩
 have HCR:Hid (∀k,0≤capC cs k s∧capC cs k s≤10000000000):=fun k=>by have:=capC_range hc hs k;omega
 have HGA:=Lib.hid (fun c (hk:celOk c=true) W=>accel_any c s hk hs W)
 have HBR:=Lib.hid (fun c (hk:celOk c=true) W=>brake_any c s hk hs W)
 have HGR:Hid (∀c,celOk c=true→(1000000≤gainC c s∧gainC c s≤40000000)∧(1000000≤lossC c s∧lossC c s≤40000000)):=fun c hk=>⟨gainC_range hs hk,lossC_range hs hk⟩
 have HC:=Lib.hid hc
 have HR:=Lib.hid h
 have hm4:m≤4000:=by omega
 have hmk:=mkInts (m+1) (by omega)
 rw[Int.natCast_add,show((1:Nat):Int)=1 from rfl]at hmk
 have hmi:(cs.length:Int)-(a:Int)=(m:Int):=by omega
 have HLN:=Lib.hid hl
 clear h hc hs hl
 obtain⟨sn,sl,sv,sa,sb⟩:=s
 generalize hst:(⟨sn,sl,sv,sa,sb⟩:Stk)=s at*
 have E:Hid (stkC s= #[.string (mkS sn),.int .i64 sl,.int .i64 sv,.int .i64 sa,.int .i64 sb]):=by subst hst;rfl
 rw[E.out]at HCK HLX HGA HBR⊢
 clear hst
 go_enter Tryz.func285,Tryz.ntmps285
 go_wp2_with fail
 generalize hW1:World.alloc w _=W1
 have K1:Hid (KeepsAll w W1):=by subst hW1;exact(Keeps.refl _ _).alloc _
 have B1:Hid (Blk W1 w.heap.size 103 #[.string (mkS sn),.int .i64 sl,.int .i64 sv,.int .i64 sa,.int .i64 sb]):=by subst hW1;exact Blk.new _ _ _
 clear hW1
 generalize hN:w.heap.size=N at*
 refine(HCK.out W1 (K1.out.rdA (RSlice.ok RCel.ok) HR.out)).mono ?_
 rintro e W2 ⟨rfl,k2⟩
 have K2:Hid (KeepsAll w W2):=K1.out.trA k2
 have B2:=Lib.hid (B1.out.kept k2 (by simp))
 clear k2 K1 B1 HCK
 go_wp2_with fail
 generalize hW3:World.alloc W2 _=W3
 have K3:Hid (KeepsAll w W3):=by subst hW3;exact K2.out.alloc _
 have HT3:Hid (Blk W3 W2.heap.size 3 (cellsI (capA cs a s m 1))):=by subst hW3;rw[←capA_start];exact Blk.new _ _ _
 have BS:=Lib.hid (show Blk W3 N 103 #[.string (mkS sn),.int .i64 sl,.int .i64 sv,.int .i64 sa,.int .i64 sb]by subst hW3;exact B2.out.alloc _)
 have hw2:N≤W2.heap.size:=by rw[←hN];exact K2.out.size
 have hNt:N<W2.heap.size:=B2.out.lt
 clear hW3 hmk B2 K2
 generalize W2.heap.size=t at*
 go_loopw [11] (fun i wr=>∃n:Nat,n<m∧i= .int .i64 ((n+1:Nat):Int)∧Blk wr t 3 (cellsI (capA cs a s m (n+1)))∧Keeps (·=t) W3 wr) (fun i _=>(m+1)-(intOf i).toNat)
 case atStart=>exact⟨0,by omega,rfl,HT3.out,Keeps.refl _ _⟩
 case round=>
  obtain⟨n,hn,rfl,hb,hk⟩:=hrel
  have HB:=Lib.hid hb
  have HK:=Lib.hid hk
  have KW:Hid (KeepsAll w wr):=K3.out.trans hk (fun x hx e=>by omega)
  have BSr:=Lib.hid (BS.out.kept hk (by omega))
  clear hb hk
  by_cases hlt:n+1<m
  ·have q0:=BSr.out.cell 0
   have q1:=BSr.out.cell 1
   have q2:=BSr.out.cell 2
   have q3:=BSr.out.cell 3
   have q4:=BSr.out.cell 4
   simp at q0 q1 q2 q3 q4
   have hl1:=HLIM.out (a+n)
   have hl2:=HLIM.out (a+(n+1))
   have HSET:=Lib.hid (@capA_set cs a s m (n+1) (by omega))
   have HCP:Hid (capC cs (a+(n+1)) s=min (limC cs (a+n) s) (limC cs (a+(n+1)) s)*min (limC cs (a+n) s) (limC cs (a+(n+1)) s)):=by show _=_;unfold capC;rw[show a+(n+1)-1=a+n by omega]
   have HX1:=Lib.hid (HLX.out wr (KW.out.rdA (RSlice.ok RCel.ok) HR.out) (a+n) (by rw[HLN.out];omega))
   have HX2:=Lib.hid (HLX.out wr (KW.out.rdA (RSlice.ok RCel.ok) HR.out) (a+(n+1)) (by rw[HLN.out];omega))
   have hp1:(a:Int)+((n:Int)+1)=((a+(n+1):Nat):Int):=by omega
   have hp2:((a+(n+1):Nat):Int)-1=((a+n:Nat):Int):=by omega
   have z0:=(HB.out.cell (n+1)).trans (cellsI_at (capA_zero (by omega)))
   generalize limC cs (a+n) s=l1 at*
   generalize limC cs (a+(n+1)) s=l2 at*
   have hmm:0≤min l1 l2∧min l1 l2≤100000:=by omega
   have hms:=sq_range hmm.1 hmm.2
   have hlp:a+n<cs.length∧a+(n+1)<cs.length:=by rw[HLN.out];omega
   obtain⟨hlp1,hlp2⟩:=hlp
   generalize a+(n+1)=p2 at*
   generalize a+n=p1 at*
   go_wp2_with fail
   refine wp_region_ext (by kernel_rfl) (by kernel_rfl) ?_
   have y0:=Ext.cell q0
   have y1:=Ext.cell q1
   have y2:=Ext.cell q2
   have y3:=Ext.cell q3
   have y4:=Ext.cell q4
   repeat (go_big_quiet_step ((go_at_call 387;rename_i xx;first|with_reducible exact HX1.out xx|with_reducible exact HX2.out xx)))
   refine wpQuiet_nil ?_
   rintro _ ⟨X,rfl⟩
   have KX:=X.keeps
   have HB5:Hid (Blk X.val t 3 (cellsI (capA cs a s m (n+1)))):=HB.out.kept KX (by simp)
   have z1:=(KX.cellA (World.block_lt_of_cell? _ _ z0) z0)
   have f1:=HB5.out.frozen (n+1)
   have HK5:Hid (Keeps (·=t) W3 X.val):=HK.out.trans KX (fun _ _ h=>h.elim)
   generalize X.val=W5 at*
   clear y0 y1 y2 y3 y4 KX q0 q1 q2 q3 q4 z0
   generalize min l1 l2=mm at*
   generalize hmq:mm*mm=M at*
   have hwm:IntKind.i64.wrap (mm*mm)=M:=by rw[hmq];exact IntWalk.i64_in _ (by omega)
   go_wp2_with fail
   have HB6:Hid (Blk (W5.setCell ⟨t,n+1,none⟩ (.int .i64 M)) t 3 (cellsI (capA cs a s m (n+1+1)))):=by
    have:=HB5.out.set_ (n+1) (.int .i64 M)
    rw[cellsI_set,←HCP.out,HSET.out]at this
    rw[←HCP.out]
    exact this
   exact⟨⟨n+1,by omega,by go_num,HB6.out,Keeps.setCell HK5.out (fun _=>rfl) _⟩,by simp[intOf];omega⟩
  ·obtain rfl:m=n+1:=by omega
   have HBE:Hid (Blk wr t 3 (cellsI (rfwA cs a s (n+1) 0))):=by
    have:=HB.out
    rw[capA_end]at this
    exact this
   clear HB BSr KW HLX HLIM
   generalize hnm:n+1=m at*
   obtain⟨wo,hwo⟩:∃wo:World,wo=wr:=⟨_,rfl⟩
   rw[←hwo]at HBE HK⊢
   clear hwo
   go_wp2_with fail
   go_loopw [13] (fun b wr=>∃k:Nat,k≤m∧b= .int .i64 (k:Int)∧Blk wr t 3 (cellsI (rfwA cs a s m k))∧Keeps (·=t) wo wr) (fun b _=>m-(intOf b).toNat)
   case atStart=>exact⟨0,by omega,rfl,HBE.out,Keeps.refl _ _⟩
   case round=>
    obtain⟨k,hk1,rfl,hb,hk⟩:=hrel
    have HB:=Lib.hid hb
    have HKO:=Lib.hid hk
    have KW:Hid (KeepsAll w wr):=(K3.out.trans HK.out (fun x hx e=>by omega)).trans hk (fun x hx e=>by omega)
    have BSr:=Lib.hid ((BS.out.kept HK.out (by omega)).kept hk (by omega))
    clear hb hk
    by_cases hlt2:k<m
    ·obtain⟨b,o,c,rfl,hb,hx,c0,c1⟩:=HR.out.atO KW.out (k:=a+k) (by rw[HLN.out];omega)
     have HCO:Hid (celOk c=true∧celD cs (a+k)=c):=⟨HC.out c (List.mem_of_getElem? hx),celD_at hx⟩
     have HNX:Hid (fwdC cs a s (k+1)=min (capC cs (a+(k+1)) s) (fwdC cs a s k+gainC c s)):=by show _=_;rw[fwdC,HCO.out.2];rfl
     have hf:=HFW.out k
     have hgr:=(HGR.out c HCO.out.1).1
     have hp2:a+k<cs.length:=by rw[HLN.out];omega
     have hp1:(a:Int)+(k:Int)=((a+k:Nat):Int):=by omega
     clear hx
     have q0:=BSr.out.cell 0
     have q1:=BSr.out.cell 1
     have q2:=BSr.out.cell 2
     have q3:=BSr.out.cell 3
     have q4:=BSr.out.cell 4
     simp at q0 q1 q2 q3 q4
     have z0:=(HB.out.cell k).trans (cellsI_at (rfwA_at hlt2))
     have z1:=(HB.out.cell (k+1)).trans (cellsI_at (rfwA_next hlt2))
     obtain⟨v1,hv1⟩:∃v,v=if k+1=m then 0 else capC cs (a+(k+1)) s:=⟨_,rfl⟩
     rw[←hv1]at z1
     have hv1r:0≤v1∧v1≤10000000000:=by
      rw[hv1]
      split
      ·omega
      ·have:=HCR.out (a+(k+1));omega
     have HSET:=Lib.hid (@rfwA_set cs a s m k hlt2 (min v1 (fwdC cs a s k+gainC c s)) (by
      rw[hv1]
      split
      ·omega
      ·exact HNX.out.symm))
     have HGN:Hid (∀W,Calls Tryz.prog 388 #[.agg #[.int .i64 c.lim,.int .i64 c.grd],.agg #[.string (mkS sn),.int .i64 sl,.int .i64 sv,.int .i64 sa,.int .i64 sb]] W fun e w'=>∃r,e= .returned (.int .i64 r)∧20000*r=gainC c s∧KeepsAll W w'):=fun W=>HGA.out c HCO.out.1 W
     clear hv1 HNX
     generalize gainC c s=G at*
     generalize fwdC cs a s k=f at*
     generalize hp:a+k=p at*
     go_wp2_with fail
     refine wp_region_lexB (fun w'=>∃x:Ext wr,w'=x.val) [0,1,2,3,4,5,6,7,8,9,10,11,12,13,14,15,16,17,18,19,20,21,22,23,24] (by kernel_rfl) (by kernel_rfl) ⟨⟨_,(Keeps.refl _ _).drew⟩,rfl⟩ ?_
     have x0:=Ext.cell q0
     have x1:=Ext.cell q1
     have x2:=Ext.cell q2
     have x3:=Ext.cell q3
     have x4:=Ext.cell q4
     have x5:=Ext.cell z0
     have x6:=Ext.cell c0
     have x7:=Ext.cell c1
     have x8:=Ext.cell z1
     iterate 19 (refine lex_q _ rfl rfl rfl ?_;go_big_quiet_step (fail);refine wpQuiet_nil ?_)
     refine lex_a _ rfl rfl true (by kernel_rfl) ?_
     clear x0 x1 x2 x3 x4 x5 x6 x7 x8 q0 q1 q2 q3 q4 c0 c1 z0
     go_wp2_with(go_at_call 388;refine(HGN.out _).mono ?_;rintro e W5 ⟨r,rfl,hrG,k5⟩;have K5:KeepsAll wr W5:=((Keeps.refl _ _).drew).trA k5;clear k5)
     refine⟨fun _=>⟨⟨W5,K5⟩,rfl⟩,?_⟩
     have HB5:Hid (Blk W5 t 3 (cellsI (rfwA cs a s m k))):=HB.out.kept K5 (by simp)
     have y0:=HB5.out.frozen (k+1)
     replace z1:=K5.cellA (World.block_lt_of_cell? _ _ z1) z1
     have hwG:IntKind.i64.wrap (20000*r)=G:=by rw[hrG];exact IntWalk.i64_in _ (by omega)
     iterate 4 (refine lex_q _ rfl rfl rfl ?_;go_big_quiet_step (fail);refine wpQuiet_nil ?_)
     refine lex_a _ rfl rfl false (by kernel_rfl) ?_
     go_wp2
     (try refine⟨fun h=>(by cases h),?_⟩)
     simp only[wpLex]
     refine NoPanic.normal ?_
     have HB6:Hid (Blk (W5.setCell ⟨t,k+1,none⟩ (.int .i64 (min v1 (f+G)))) t 3 (cellsI (rfwA cs a s m (k+1)))):=by
      have:=HB5.out.set_ (k+1) (.int .i64 (min v1 (f+G)))
      rw[cellsI_set,HSET.out]at this
      exact this
     have K6:Hid (Keeps (·=t) wo (W5.setCell ⟨t,k+1,none⟩ (.int .i64 (min v1 (f+G))))):=Keeps.setCell (HKO.out.trans K5 (fun _ _ h=>h.elim)) (fun _=>rfl) _
     clear z1 y0
     go_wp2
     exact⟨⟨k+1,by omega,by go_num,HB6.out,K6.out⟩,by simp[intOf];omega⟩
    ·obtain rfl:k=m:=by omega
     have HBF:Hid (Blk wr t 3 (cellsI (rbwA cs a s k k))):=by
      have:=HB.out
      rw[rfwA_end]at this
      exact this
     have HK2:Hid (Keeps (·=t) W3 wr):=HK.out.trans HKO.out (fun _ _ h=>h)
     clear HB BSr KW HK HKO HBE
     obtain⟨wp,hwp⟩:∃wo:World,wo=wr:=⟨_,rfl⟩
     rw[←hwp]at HBF HK2⊢
     clear hwp
     go_wp2_with fail
     go_loopw [14] (fun b wr=>∃i:Nat,i≤k∧b= .int .i64 (i:Int)∧Blk wr t 3 (cellsI (rbwA cs a s k i))∧Keeps (·=t) wp wr) (fun b _=>(intOf b).toNat)
     case atStart=>exact⟨k,Nat.le_refl _,rfl,HBF.out,Keeps.refl _ _⟩
     case round=>
      obtain⟨i,hi,rfl,hb,hk⟩:=hrel
      have HB:=Lib.hid hb
      have HKO:=Lib.hid hk
      have KW:Hid (KeepsAll w wr):=(K3.out.trans HK2.out (fun x hx e=>by omega)).trans hk (fun x hx e=>by omega)
      have BSr:=Lib.hid ((BS.out.kept HK2.out (by omega)).kept hk (by omega))
      clear hb hk
      by_cases hlt3:0<i
      ·obtain⟨j,rfl⟩:∃j,i=j+1:=⟨i-1,by omega⟩
       obtain⟨b,o,c,rfl,hb,hx,c0,c1⟩:=HR.out.atO KW.out (k:=a+j) (by rw[HLN.out];omega)
       have HCO:Hid (celOk c=true∧celD cs (a+j)=c):=⟨HC.out c (List.mem_of_getElem? hx),celD_at hx⟩
       have HNX:Hid (bwdC cs a (a+k) s (k-j)=min (fwdC cs a s j) (bwdC cs a (a+k) s (k-(j+1))+lossC c s)):=by show _=_;rw[bwdC_next cs a s (by omega:j<k),HCO.out.2]
       have hf:=HFW.out j
       have hbw:=HBW.out (k-(j+1))
       have hgr:=(HGR.out c HCO.out.1).2
       have hp2:a+j<cs.length:=by rw[HLN.out];omega
       have hp1:(a:Int)+((j:Int)+1)-1=((a+j:Nat):Int):=by omega
       have hj1:((j+1:Nat):Int)-1=(j:Int):=by omega
       clear hx
       have q0:=BSr.out.cell 0
       have q1:=BSr.out.cell 1
       have q2:=BSr.out.cell 2
       have q3:=BSr.out.cell 3
       have q4:=BSr.out.cell 4
       simp at q0 q1 q2 q3 q4
       have z0:=(HB.out.cell j).trans (cellsI_at (rbwA_lo hi))
       have z1:=(HB.out.cell (j+1)).trans (cellsI_at (rbwA_hi hi))
       have HSET:=Lib.hid (@rbwA_set cs a s k j)
       have HGN:Hid (∀W,Calls Tryz.prog 389 #[.agg #[.int .i64 c.lim,.int .i64 c.grd],.agg #[.string (mkS sn),.int .i64 sl,.int .i64 sv,.int .i64 sa,.int .i64 sb]] W fun e w'=>∃r,e= .returned (.int .i64 r)∧20000*r=lossC c s∧KeepsAll W w'):=fun W=>HBR.out c HCO.out.1 W
       generalize lossC c s=G at*
       generalize fwdC cs a s j=f at*
       generalize bwdC cs a (a+k) s (k-(j+1))=f2 at*
       generalize hp:a+j=p at*
       go_wp2_with fail
       refine wp_region_lexB (fun w'=>∃x:Ext wr,w'=x.val) [0,1,2,3,4,5,6,7,8,9,10,11,12,13,14,15,16,17,18,19,20,21,22,23,24,25] (by kernel_rfl) (by kernel_rfl) ⟨⟨_,(Keeps.refl _ _).drew⟩,rfl⟩ ?_
       have x0:=Ext.cell q0
       have x1:=Ext.cell q1
       have x2:=Ext.cell q2
       have x3:=Ext.cell q3
       have x4:=Ext.cell q4
       have x5:=Ext.cell z0
       have x6:=Ext.cell c0
       have x7:=Ext.cell c1
       have x8:=Ext.cell z1
       iterate 20 (refine lex_q _ rfl rfl rfl ?_;go_big_quiet_step (fail);refine wpQuiet_nil ?_)
       refine lex_a _ rfl rfl true (by kernel_rfl) ?_
       clear x0 x1 x2 x3 x4 x5 x6 x7 x8 q0 q1 q2 q3 q4 c0 c1 z1
       go_wp2_with(go_at_call 389;refine(HGN.out _).mono ?_;rintro e W5 ⟨r,rfl,hrG,k5⟩;have K5:KeepsAll wr W5:=((Keeps.refl _ _).drew).trA k5;clear k5)
       refine⟨fun _=>⟨⟨W5,K5⟩,rfl⟩,?_⟩
       have HB5:Hid (Blk W5 t 3 (cellsI (rbwA cs a s k (j+1)))):=HB.out.kept K5 (by simp)
       have y0:=HB5.out.frozen j
       replace z0:=K5.cellA (World.block_lt_of_cell? _ _ z0) z0
       have hwG:IntKind.i64.wrap (20000*r)=G:=by rw[hrG];exact IntWalk.i64_in _ (by omega)
       iterate 4 (refine lex_q _ rfl rfl rfl ?_;go_big_quiet_step (fail);refine wpQuiet_nil ?_)
       refine lex_a _ rfl rfl false (by kernel_rfl) ?_
       go_wp2
       (try refine⟨fun h=>(by cases h),?_⟩)
       simp only[wpLex]
       refine NoPanic.normal ?_
       have HB6:Hid (Blk (W5.setCell ⟨t,j,none⟩ (.int .i64 (min f (f2+G)))) t 3 (cellsI (rbwA cs a s k j))):=by
        have:=HB5.out.set_ j (.int .i64 (min f (f2+G)))
        rw[cellsI_set,←HNX.out,HSET.out]at this
        rw[←HNX.out]
        exact this
       have K6:Hid (Keeps (·=t) wp (W5.setCell ⟨t,j,none⟩ (.int .i64 (min f (f2+G))))):=Keeps.setCell (HKO.out.trans K5 (fun _ _ h=>h.elim)) (fun _=>rfl) _
       clear z0 y0
       go_wp2
       exact⟨⟨j,by omega,by go_num,HB6.out,K6.out⟩,by simp[intOf]⟩
      ·obtain rfl:i=0:=by omega
       have HBG:Hid (Blk wr t 3 (cellsI (spdA cs a s k 0))):=by
        have:=HB.out
        rw[rbwA_end HLN.out]at this
        exact this
       have HK3:Hid (Keeps (·=t) W3 wr):=HK2.out.trans HKO.out (fun _ _ h=>h)
       clear HB BSr KW HK2 HKO HBF
       obtain⟨wq,hwq⟩:∃wo:World,wo=wr:=⟨_,rfl⟩
       rw[←hwq]at HBG HK3⊢
       clear hwq
       have hz0:((0:Nat):Int)=0:=rfl
       rw[hz0]
       go_wp2_with fail
       go_loopw [15] (fun b wr=>∃i:Nat,i≤k+1∧b= .int .i64 (i:Int)∧Blk wr t 3 (cellsI (spdA cs a s k i))∧Keeps (·=t) wq wr) (fun b _=>(k+1)-(intOf b).toNat)
       case atStart=>exact⟨0,by omega,rfl,HBG.out,Keeps.refl _ _⟩
       case round=>
        obtain⟨i,hi,rfl,hb,hk⟩:=hrel
        have HB:=Lib.hid hb
        have HKO:=Lib.hid hk
        clear hb hk
        by_cases hlt4:i≤k
        ·have z0:=(HB.out.cell i).trans (cellsI_at (spdA_at hlt4))
         have hrg:=HRG.out i
         have y0:=HB.out.frozen i
         have HSET:=Lib.hid (@spdA_set cs a s k i)
         have HSQ:Hid (isqC (sqC cs a s i)=spdC cs a s i):=rfl
         have HSQW:=Lib.hid (fun W=>RSqrt_any (sqC cs a s i) (by omega) W)
         rw[HSQ.out]at HSQW
         generalize sqC cs a s i=q at*
         go_wp2_with(go_at_call 390;refine(HSQW.out _).mono ?_;rintro e w' ⟨rfl,rfl⟩)
         have HB6:Hid (Blk (wr.setCell ⟨t,i,none⟩ (.int .i64 (spdC cs a s i))) t 3 (cellsI (spdA cs a s k (i+1)))):=by
          have:=HB.out.set_ i (.int .i64 (spdC cs a s i))
          rw[cellsI_set,HSET.out]at this
          exact this
         exact⟨⟨i+1,by omega,by go_num,HB6.out,Keeps.setCell HKO.out (fun _=>rfl) _⟩,by simp[intOf];omega⟩
        ·obtain rfl:i=k+1:=by omega
         have HBH:Hid (Blk wr t 3 (cellsI (tab (k+1) (spdC cs a s)))):=by rw[←spdA_end];exact HB.out
         go_wp2_with fail
         go_ret2
         subst hnm
         exact⟨t,rfl,by omega,HBH.out,(K3.out.trans HK3.out (fun x hx e=>by omega)).trans HKO.out (fun x hx e=>by omega)⟩
set_option maxRecDepth 100000 in
set_option maxHeartbeats 4000000 in
theorem RTimesD_any (cs:List Cel) (A:Option Addr) (u a m:Nat) (s:Stk) (w:World) (h:RCels w (Old w) [.slice A cs.length u] cs) (hl:cs.length=a+m) (hm:2≤m) (hc:∀c∈cs,celOk c=true) (hs:stkOk s=true) (hcl:cs.length≤4000):
  Calls Tryz.prog 182 #[.slice A cs.length u,.int .i64 (a:Int),.agg (stkC s)] w fun e w'=>∃g,e= .returned (.tuple #[.slice (some ⟨g,0,none⟩) (m+1) (m+1),.int .i64 0])∧w.heap.size≤g∧Blk w' g 3 (cellsI (tab (m+1) (timC cs a s)))∧KeepsAll w w':=by
 have HSP:=Lib.hid (fun W k=>RSpeeds_any cs A u a m s W k hl hm hc hs hcl)
 have HRG:Hid (∀b,b+1≤m→0<spdC cs a s b+spdC cs a s (b+1)∧1≤cdiv 20000000 (spdC cs a s b+spdC cs a s (b+1))∧cdiv 20000000 (spdC cs a s b+spdC cs a s (b+1))≤20001):=fun b hb=>cdiv_range hc hs (a:=a) b (by omega) (by omega)
 have HSR:Hid (∀b,0≤spdC cs a s b∧spdC cs a s b≤100000):=fun b=>⟨(spdC_range hc hs b).1,(spdC_range hc hs b).2.1⟩
 have HTR:Hid (∀b,b≤m→0≤timC cs a s b∧timC cs a s b≤20001*b):=by
  intro b
  induction b with
  |zero=>intro _;exact⟨Int.le_refl _,by simp[timC]⟩
  |succ b ih=>
   intro hb
   have h1:=ih (by omega)
   have h2:=HRG.out b hb
   rw[timC]
   omega
 have HSET:=Lib.hid (fun k=> @timA_set cs a s m k)
 have HNX:Hid (∀b,timC cs a s (b+1)=timC cs a s b+cdiv 20000000 (spdC cs a s b+spdC cs a s (b+1))):=fun _=>rfl
 have HR:=Lib.hid h
 have hm4:m≤4000:=by omega
 have hmk:=mkInts (m+1) (by omega)
 rw[Int.natCast_add,show((1:Nat):Int)=1 from rfl]at hmk
 clear h hc hs hl
 obtain⟨sn,sl,sv,sa,sb⟩:=s
 generalize hst:(⟨sn,sl,sv,sa,sb⟩:Stk)=s at*
 have E:Hid (stkC s= #[.string (mkS sn),.int .i64 sl,.int .i64 sv,.int .i64 sa,.int .i64 sb]):=by subst hst;rfl
 rw[E.out]at HSP⊢
 clear hst
 go_enter Tryz.func182,Tryz.ntmps182
 go_wp2_with fail
 generalize hW1:World.alloc w _=W1
 have K1:Hid (KeepsAll w W1):=by subst hW1;exact(Keeps.refl _ _).alloc _
 clear hW1
 generalize hN:w.heap.size=N at*
 refine(HSP.out W1 (K1.out.rdA (RSlice.ok RCel.ok) HR.out)).mono ?_
 rintro e W2 ⟨g,rfl,hg,hb,k2⟩
 have K2:Hid (KeepsAll w W2):=K1.out.trA k2
 have HB:=Lib.hid hb
 have hgw:w.heap.size≤g:=Nat.le_trans K1.out.size hg
 clear k2 K1 hb hg
 go_wp2_with fail
 generalize hW3:World.alloc W2 _=W3
 have K3:Hid (KeepsAll w W3):=by subst hW3;exact K2.out.alloc _
 have HB3:Hid (Blk W3 g 3 (cellsI (tab (m+1) (spdC cs a s)))):=by subst hW3;exact HB.out.alloc _
 have HT3:Hid (Blk W3 W2.heap.size 3 (cellsI (timA cs a s m 1))):=by subst hW3;rw[←timA_start];exact Blk.new _ _ _
 have hne:g<W2.heap.size:=HB.out.lt
 have hw2:w.heap.size≤W2.heap.size:=K2.out.size
 clear hW3 hmk HB
 generalize W2.heap.size=t at*
 go_loopw [11] (fun i wr=>∃n:Nat,n≤m∧i= .int .i64 ((n+1:Nat):Int)∧Blk wr t 3 (cellsI (timA cs a s m (n+1)))∧Keeps (·=t) W3 wr) (fun i _=>(m+1)-(intOf i).toNat)
 case atStart=>exact⟨0,Nat.zero_le _,rfl,HT3.out,Keeps.refl _ _⟩
 case round=>
  obtain⟨n,hn,rfl,hb,hk⟩:=hrel
  have HB:=Lib.hid hb
  have HK:=Lib.hid hk
  have HBS:=Lib.hid (HB3.out.kept hk (by omega))
  clear hb hk
  by_cases hlt:n<m
  ·have z0:=(HBS.out.cell n).trans (cellsI_at (tab_get (show n<m+1 by omega)))
   have z1:=(HBS.out.cell (n+1)).trans (cellsI_at (tab_get (show n+1<m+1 by omega)))
   have z2:=(HB.out.cell n).trans (cellsI_at (timA_at (by omega) (by omega)))
   have hrg:=HRG.out n (by omega)
   have hs1:=HSR.out n
   have hs2:=HSR.out (n+1)
   have htr:=HTR.out n (by omega)
   have hnx:=Lib.hid (HNX.out n)
   have hset:=Lib.hid (HSET.out (n+1))
   have hp1:((n+1:Nat):Int)-1=(n:Int):=by omega
   generalize spdC cs a s n=s1 at*
   generalize spdC cs a s (n+1)=s2 at*
   generalize timC cs a s n=t1 at*
   have HCD:=Lib.hid (fun W=>RCeil_any 20000000 (s1+s2) (by omega) (by omega) (by omega) (by omega) W)
   generalize cdiv 20000000 (s1+s2)=d at*
   go_wp2_with fail
   refine wp_region_lexB (fun w'=>∃x:Ext wr,w'=x.val) [0,1,2,3,4,5,6,7,8,9,10,11,12,13,14,15,16,17,18,19,20] (by kernel_rfl) (by kernel_rfl) ⟨⟨_,(Keeps.refl _ _).drew⟩,rfl⟩ ?_
   have x0:=Ext.cell z0
   have x1:=Ext.cell z1
   have x2:=Ext.cell z2
   iterate 17 (refine lex_q _ rfl rfl rfl ?_;go_big_quiet_step (fail);refine wpQuiet_nil ?_)
   refine lex_a _ rfl rfl true (by kernel_rfl) ?_
   clear x0 x1 x2 z0 z1 z2
   go_wp2_with(go_at_call 183;refine(HCD.out _).mono ?_;rintro e W5 ⟨rfl,k5⟩;have K5:KeepsAll wr W5:=k5▸(Keeps.refl _ _).drew;clear k5)
   refine⟨fun _=>⟨⟨W5,K5⟩,rfl⟩,?_⟩
   have HB5:Hid (Blk W5 t 3 (cellsI (timA cs a s m (n+1)))):=HB.out.kept K5 (by simp)
   have y0:=HB5.out.frozen (n+1)
   have z3:=(HB5.out.cell (n+1)).trans (cellsI_at (timA_zero (by omega)))
   iterate 2 (refine lex_q _ rfl rfl rfl ?_;go_big_quiet_step (fail);refine wpQuiet_nil ?_)
   refine lex_a _ rfl rfl false (by kernel_rfl) ?_
   go_wp2
   (try refine⟨fun h=>(by cases h),?_⟩)
   simp only[wpLex]
   refine NoPanic.normal ?_
   have HB6:Hid (Blk (W5.setCell ⟨t,n+1,none⟩ (.int .i64 (t1+d))) t 3 (cellsI (timA cs a s m (n+1+1)))):=by
    have:=HB5.out.set_ (n+1) (.int .i64 (t1+d))
    rw[cellsI_set,←hnx.out,hset.out]at this
    rw[←hnx.out]
    exact this
   have K6:Hid (Keeps (·=t) W3 (W5.setCell ⟨t,n+1,none⟩ (.int .i64 (t1+d)))):=Keeps.setCell (HK.out.trans K5 (fun _ _ h=>h.elim)) (fun _=>rfl) _
   clear z3 y0
   go_wp2
   exact⟨⟨n+1,by omega,by go_num,HB6.out,K6.out⟩,by simp[intOf];omega⟩
  ·obtain rfl:n=m:=by omega
   have HBF:Hid (Blk wr t 3 (cellsI (tab (n+1) (timC cs a s)))):=by rw[←timA_end];exact HB.out
   go_wp2_with fail
   go_ret2
   exact⟨t,rfl,by omega,HBF.out,K3.out.trans HK.out (fun x hx e=>by omega)⟩
end
end Go.Proofs.YtcbcegdidlefiaaGreat
