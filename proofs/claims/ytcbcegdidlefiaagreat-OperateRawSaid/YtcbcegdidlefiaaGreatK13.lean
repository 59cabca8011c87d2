/- Contract of points (motion, program): the walk. Conditions: as the theorem says. Contracts of joined and PointOf (reference): the hop of a transition. Conditions: as each theorem says. Contracts of joined and PointOf (reference): the walks. Conditions: as each theorem says. Contract of PointOf (reference): the resource of the point of a transition. Conditions: as the theorem says. Contracts of the reference's tests of names and ends: in, has, names, sectionNames. Conditions: as each theorem says. -/
import Derived.Test.YtcbcegdidlefiaaGreatK12
import Derived.Test.YtcbcegdidlefiaaGreatK08
import Derived.Test.YtcbcegdidlefiaaGreatK05
namespace Go.Proofs.YtcbcegdidlefiaaGreat
section
open Go.RowKit
theorem joinsE_fb (ka kae kb kbe kpt kps x1 x2 y1 y2:Int):joinsE ⟨ka,kae,kb,kbe,kpt,kps⟩ (x1,x2) (y1,y2)=(decide (ka=x1∧kae=x2∧kb=y1∧kbe=y2)||decide (kb=x1∧kbe=x2∧ka=y1∧kae=y2)):=by
 unfold joinsE
 simp only[Prod.mk.injEq]
 rw[Bool.eq_iff_iff]
 simp only[Bool.or_eq_true,decide_eq_true_eq]
 constructor
 ·rintro(⟨⟨a,b⟩,c,d⟩|⟨⟨a,b⟩,c,d⟩)
  ·exact Or.inl ⟨a,b,c,d⟩
  ·exact Or.inr ⟨c,d,a,b⟩
 ·rintro(⟨a,b,c,d⟩|⟨c,d,a,b⟩)
  ·exact Or.inl ⟨⟨a,b⟩,c,d⟩
  ·exact Or.inr ⟨⟨a,b⟩,c,d⟩
theorem fiveWays (a1 b1 a2 b2 a3 b3 a4 b4:Int):(¬a1=b1)∨(a1=b1∧¬a2=b2)∨(a1=b1∧a2=b2∧¬a3=b3)∨(a1=b1∧a2=b2∧a3=b3∧¬a4=b4)∨(a1=b1∧a2=b2∧a3=b3∧a4=b4):=by
 by_cases h1:a1=b1
 ·by_cases h2:a2=b2
  ·by_cases h3:a3=b3
   ·by_cases h4:a4=b4
    ·exact Or.inr (Or.inr (Or.inr (Or.inr ⟨h1,h2,h3,h4⟩)))
    ·exact Or.inr (Or.inr (Or.inr (Or.inl ⟨h1,h2,h3,h4⟩)))
   ·exact Or.inr (Or.inr (Or.inl ⟨h1,h2,h3⟩))
  ·exact Or.inr (Or.inl ⟨h1,h2⟩)
 ·exact Or.inl h1
set_option maxRecDepth 100000 in
set_option maxHeartbeats 4000000 in
theorem mpoints_any (L:Lay) (v:LV) (r:Rou) (A:Option Addr) (c:Nat) (w:World) (h:RLay w (Old w) v L) (hr:RStps w (Old w) [.slice A r.stps.length c] r.stps) (hok:LayOk L) (hlen:r.stps.length≤24):
  Calls Tryz.prog 299 #[.agg (v.cs L),.agg #[.slice A r.stps.length c,.int .i64 r.ov]] w fun e w'=>∃g,e= .returned (.slice (some ⟨g,0,none⟩) r.stps.length r.stps.length)∧w.heap.size≤g∧Blk w' g 3 (cellsI (mptL L.lks r.stps))∧KeepsAll w w':=by
 have hc:=hr.caps
 have hc4:=h.lks.caps
 have hk192:=hok.lks
 have HL:=Lib.hid h
 have HR:=Lib.hid hr
 have HO:=Lib.hid hok
 have HLV:=Lib.hid (fun s W=>mleaving_any s W)
 have HEN:=Lib.hid (fun s W=>mentering_any s W)
 clear h hr hok
 obtain⟨A1,A2,A3,A4,ca1,ca2,ca3,ca4⟩:=v
 simp only[]at hc4
 unfold LV.cs
 simp only[]
 have HM:=mkInts r.stps.length (by omega)
 go_enter Tryz.func299,Tryz.ntmps299
 go_wp2_with fail
 generalize hW:World.alloc (World.alloc (World.alloc w _) _) _=W
 have K0:Hid (KeepsAll w W):=by subst hW;exact(((Keeps.refl _ _).alloc _).alloc _).alloc _
 have B0:Hid (Blk W w.heap.size 27 #[.slice A1 L.sts.length ca1,.slice A2 L.pts.length ca2,.slice A3 L.secs.length ca3,.slice A4 L.lks.length ca4]):=by subst hW;exact((Blk.new _ _ _).alloc _).alloc _
 have BR:Hid (Blk W (w.heap.size+1) 95 #[.slice A r.stps.length c,.int .i64 r.ov]):=by subst hW;exact(Blk.new' _ _ _ (by simp)).alloc _
 have BP:Hid (Blk W (w.heap.size+1+1) 3 (cellsI (mptW L.lks r.stps 0))):=by subst hW;exact Blk.new' _ _ _ (by simp)
 have hNw:w.heap.size=w.heap.size:=rfl
 clear hW HM
 generalize hN:w.heap.size=N at*
 clear hNw
 go_loopw [19] (fun i wr=>∃n:Nat,n≤r.stps.length∧i= .int .i64 (n:Int)∧Blk wr (N+1+1) 3 (cellsI (mptW L.lks r.stps n))∧Keeps (fun b=>b=N+1+1) W wr) (fun i _=>r.stps.length-(intOf i).toNat)
 case atStart=>exact⟨0,Nat.zero_le _,rfl,BP.out,Keeps.refl _ _⟩
 case round=>
  obtain⟨n,hn,rfl,hb,hk⟩:=hrel
  have HB:=Lib.hid hb
  have HK:=Lib.hid hk
  have C0:=Lib.hid (B0.out.kept hk (by omega))
  have CR:=Lib.hid (BR.out.kept hk (by omega))
  have KW:Hid (KeepsAll w wr):=K0.out.trans hk (fun x hx e=>by omega)
  have q3:=C0.out.cell 3
  have r0:=CR.out.cell 0
  simp at q3 r0
  have hz2:N+1+1<wr.heap.size:=hb.lt
  clear hb hk
  by_cases hlt:n<r.stps.length
  ·have hfz:=HB.out.frozen n
   have hfc:wr.cell? ⟨N+1+1,n,none⟩=some (.int .i64 0):=by
    rw[HB.out.cell]
    refine cellsI_at ?_
    unfold mptW
    rw[List.getElem?_append_right (by rw[List.length_take,mptL_len];omega),List.length_take,mptL_len,List.getElem?_replicate,if_pos (by omega)]
   by_cases h0:n=0
   ·subst h0
    have HZ:Hid (Blk (wr.setCell ⟨N+1+1,0,none⟩ (.int .i64 (-1))) (N+1+1) 3 (cellsI (mptW L.lks r.stps (0+1)))):=by
     have:=HB.out.set_ 0 (.int .i64 (-1))
     rw[cellsI_set,mptW_next (x:= -1) (by cases hs:r.stps with|nil=>rw[hs]at hlt;simp at hlt|cons a b=>rfl)]at this
     exact this
    go_wp2_with fail
    exact⟨⟨1,by omega,by go_num,HZ.out,Keeps.setCell HK.out (fun _=>rfl) _⟩,by simp[intOf];omega⟩
   ·obtain⟨m,rfl⟩:∃m,n=m+1:=⟨n-1,by omega⟩
    clear h0
    obtain⟨sb,so,s1,rfl,hsb,hs1,m0,m1⟩:=HR.out.atO KW.out (k:=m) (by omega)
    obtain⟨sb2,so2,s2,hA2,hsb2,hs2,m2,m3⟩:=HR.out.atO KW.out (k:=m+1) hlt
    injection hA2 with hA2
    injection hA2 with e1 e2
    subst e1 e2
    have HPJ:Hid (∀j k,L.lks[j]? =some k→joinsE k (outE s1) (inE s2)=true→ptJ L.lks s1 s2 (j+1)=k.pt):=fun j k hk hj=>HO.out.ptJ_yes hk hj
    have HPN:Hid (∀j k,L.lks[j]? =some k→joinsE k (outE s1) (inE s2)=false→ptJ L.lks s1 s2 (j+1)=ptJ L.lks s1 s2 j):=fun j k hk hj=>ptJ_no hk hj
    have HEND:=Lib.hid (mptL_at (ks:=L.lks) hs1 hs2)
    have HE1:=Lib.hid (HLV.out s1)
    have HE2:=Lib.hid (HEN.out s2)
    clear hs1 hs2
    obtain⟨a1,d1⟩:=s1
    obtain⟨a2,d2⟩:=s2
    simp only[]at m0 m1 m2 m3
    unfold stpC at HE1 HE2
    simp only[]at HE1 HE2
    go_upto_region 7 with fail
    have hbq:=HB.out.set_ (m+1) (.int .i64 (-1))
    rw[cellsI_set]at hbq
    have hkq:Keeps (fun b=>b=N+1+1) W (wr.setCell ⟨N+1+1,m+1,none⟩ (.int .i64 (-1))):=Keeps.setCell HK.out (fun _=>rfl) _
    have hkw:Keeps (fun b=>b=N+1+1) wr (wr.setCell ⟨N+1+1,m+1,none⟩ (.int .i64 (-1))):=Keeps.setCell (p:=⟨N+1+1,m+1,none⟩) (Keeps.refl (fun b=>b=N+1+1) wr) (fun _=>rfl) _
    have hsn:sb≠N+1+1:=fun e=>by
     have:=HR.out.at_ (k:=0) (by omega)
     obtain⟨b,o,s,he,hb,_⟩:=this
     injection he with he;injection he with he
     have:sb<w.heap.size:=by rw[he];exact hb
     omega
    replace m0:=(hkw.cell (p:=⟨sb,so+m*2,none⟩) hsb hsn).trans m0
    replace m1:=(hkw.cell (p:=⟨sb,so+m*2+1,none⟩) hsb hsn).trans m1
    replace m2:=(hkw.cell (p:=⟨sb,so+(m+1)*2,none⟩) hsb hsn).trans m2
    replace m3:=(hkw.cell (p:=⟨sb,so+(m+1)*2+1,none⟩) hsb hsn).trans m3
    replace r0:=(hkw.cell (p:=⟨N+1,0,none⟩) (by show N+1<_;omega) (by show¬N+1=N+1+1;omega)).trans r0
    replace q3:=(hkw.cell (p:=⟨N,3,none⟩) (by show N<_;omega) (by show¬N=N+1+1;omega)).trans q3
    generalize wr.setCell ⟨N+1+1,m+1,none⟩ (.int .i64 (-1))=wq at*
    have HBQ:=Lib.hid hbq
    have HKQ:=Lib.hid hkq
    have hp1:((m+1:Nat):Int)-1=(m:Int):=by omega
    clear hbq hkq hkw hfz hfc HB HK C0 CR KW hsb2 hz2
    rw[show((m+1:Nat):Int)=(m:Int)+1 from by omega,show decide ((m:Int)+1<(r.stps.length:Int))=true from by rw[decide_eq_true_eq];omega,show((m:Int)+1==0)=false from by rw[beq_eq_false_iff_ne];omega]
    go_cut [7,8]from 27 to 107 (fun s7 s8 wx=>∃za zb:Nat,s7= .pointer (some ⟨za,0,none⟩)∧s8= .pointer (some ⟨zb,0,none⟩)∧wq.heap.size≤za∧wq.heap.size≤zb∧Blk wx za 200 #[.int .i64 a1,.int .i64 d1]∧Blk wx zb 200 #[.int .i64 a2,.int .i64 d2]∧KeepsAll wq wx)
    case first=>
     refine wp_region_fork (fun w'=>∃x:Ext wq,w'=x.val) [0,1,2,3,4,5,6,7,8,9,10] [13,14] 11 12 (by kernel_rfl) (by kernel_rfl) ⟨⟨_,(Keeps.refl _ _).drew⟩,rfl⟩ ?_
     have y0:=Ext.cell m0
     have y1:=Ext.cell m1
     have y2:=Ext.cell m2
     have y3:=Ext.cell m3
     have y4:=Ext.cell r0
     iterate 11 (refine lexK_q _ rfl rfl rfl ?_;go_big_quiet_step (fail);refine wpQuiet_nil ?_)
     clear y0 y1 y2 y3 y4 m0 m1 m2 m3 r0 q3
     have KD:KeepsAll wq wq.drew:=(Keeps.refl _ _).drew
     have hdz:wq.drew.heap.size=wq.heap.size:=rfl
     generalize wq.drew=wd at*
     refine⟨?_,?_⟩
     all_goals (refine lex_a _ rfl rfl true (by kernel_rfl) ?_)
     all_goals go_wp2
     all_goals (refine⟨fun _=>⟨⟨_,KD.alloc _⟩,rfl⟩,?_⟩)
     all_goals (refine lex_a _ rfl rfl true (by kernel_rfl) ?_)
     all_goals go_wp2
     all_goals (refine⟨fun _=>⟨⟨_,(KD.alloc _).alloc _⟩,rfl⟩,?_⟩)
     all_goals (refine lex_a _ rfl rfl true (by kernel_rfl) ?_)
     all_goals go_wp2
     all_goals (refine⟨fun _=>⟨⟨_,(KD.alloc _).alloc _⟩,rfl⟩,?_⟩)
     all_goals (refine lex_a _ rfl rfl false (by kernel_rfl) ?_)
     all_goals go_wp2
     all_goals (refine⟨fun h=>(by cases h),?_⟩)
     all_goals simp only[wpLex]
     all_goals (refine NoPanic.normal ?_)
     all_goals go_wp2_with fail
     all_goals go_meet
     ·exact⟨_,_,rfl,rfl,by omega,by omega,(Blk.new' wd 200 #[.int .i64 a1,.int .i64 d1] hdz.symm).alloc _,Blk.new' (World.alloc wd _) 200 #[.int .i64 a2,.int .i64 d2] (by simp[hdz]),(KD.alloc _).alloc _⟩
     ·exact⟨_,_,rfl,rfl,by omega,by omega,Blk.new' (World.alloc wd _) 200 #[.int .i64 a1,.int .i64 d1] (by simp[hdz]),(Blk.new' wd 200 #[.int .i64 a2,.int .i64 d2] hdz.symm).alloc _,(KD.alloc _).alloc _⟩
    case rest=>
     obtain⟨za,zb,rfl,rfl,hza,hzb,ha,hb2,kx⟩:=hcut
     have HA2:=Lib.hid ha
     have HB2:=Lib.hid hb2
     have HQX:Hid (Keeps (fun b=>b=N+1+1) W wc):=HKQ.out.trans kx (fun _ _ h=>h.elim)
     have HBX:=Lib.hid (HBQ.out.kept kx (by simp))
     have C0:=Lib.hid (B0.out.kept HQX.out (by omega))
     have hwq:N+1+1<wq.heap.size:=HBQ.out.lt
     have q4:=C0.out.cell 3
     simp at q4
     clear ha hb2 kx m0 m1 m2 m3 r0 q3 HKQ HBQ HLV HEN
     have HJ1:=Lib.hid (fun ka kae kb kbe kpt kps=>joinsE_fb ka kae kb kbe kpt kps a1 (outE ⟨a1,d1⟩).2 a2 (inE ⟨a2,d2⟩).2)
     have EO:Hid (outE ⟨a1,d1⟩=(a1,(outE ⟨a1,d1⟩).2)):=rfl
     have EI:Hid (inE ⟨a2,d2⟩=(a2,(inE ⟨a2,d2⟩).2)):=rfl
     rw[EO.out,EI.out]at HPJ HPN
     generalize (outE ⟨a1,d1⟩).2=o1 at*
     generalize (inE ⟨a2,d2⟩).2=i2 at*
     generalize hPT:ptJ L.lks ⟨a1,d1⟩ ⟨a2,d2⟩=PT at*
     have HPT0:Hid (PT 0= -1):=by show _=_;rw[←hPT];rfl
     clear hPT
     go_wp2_with fail
     go_loopw [41] (fun i wy=>∃j:Nat,j≤L.lks.length∧i= .int .i64 (j:Int)∧Blk wy (N+1+1) 3 (cellsI ((mptW L.lks r.stps (m+1)).set (m+1) (PT j)))∧Blk wy za 200 #[.int .i64 a1,.int .i64 d1]∧Blk wy zb 200 #[.int .i64 a2,.int .i64 d2]∧Keeps (fun b=>b=N+1+1) W wy) (fun i _=>L.lks.length-(intOf i).toNat)
     case atStart=>exact⟨0,Nat.zero_le _,rfl,by rw[HPT0.out];exact HBX.out,HA2.out,HB2.out,HQX.out⟩
     case round=>
      obtain⟨j,hj,rfl,hb3,hb4,hb5,hk3⟩:=hrel
      have HB3:=Lib.hid hb3
      have HB4:=Lib.hid hb4
      have HB5:=Lib.hid hb5
      have HK3:=Lib.hid hk3
      have KW3:Hid (KeepsAll w wr):=K0.out.trans hk3 (fun x hx e=>by omega)
      have hz3:N+1+1<wr.heap.size:=hb3.lt
      have hz4:za<wr.heap.size:=hb4.lt
      have hz5:zb<wr.heap.size:=hb5.lt
      clear hb3 hb4 hb5 hk3
      by_cases hlt2:j<L.lks.length
      ·obtain⟨kb0,ko,k,rfl,hkb,hkx,c0,c1,c2,c3,c4,c5⟩:=HL.out.lks.atO KW3.out hlt2
       have HYES:=Lib.hid (HPJ.out j k hkx)
       have HNOT:=Lib.hid (HPN.out j k hkx)
       clear hkx
       obtain⟨ka,kae,kb,kbe,kpt,kps⟩:=k
       have HJK:=Lib.hid (HJ1.out ka kae kb kbe kpt kps)
       simp only[]at c0 c1 c2 c3 c4 c5 HYES HNOT
       go_upto_region 11 with fail
       generalize hW6:World.alloc wr _=W6
       have K6:Hid (KeepsAll wr W6):=by subst hW6;exact(Keeps.refl _ _).alloc _
       have B6:Hid (Blk W6 wr.heap.size 196 #[.int .i64 ka,.int .i64 kae,.int .i64 kb,.int .i64 kbe,.int .i64 kpt,.int .i64 kps]):=by subst hW6;exact Blk.new _ _ _
       clear hW6 c0 c1 c2 c3 c4 c5
       have D3:=Lib.hid (HB3.out.kept K6.out (by simp))
       have D4:=Lib.hid (HB4.out.kept K6.out (by simp))
       have D5:=Lib.hid (HB5.out.kept K6.out (by simp))
       have KQ6:Hid (Keeps (fun b=>b=N+1+1) W W6):=HK3.out.trans K6.out (fun _ _ h=>h.elim)
       generalize hzk:wr.heap.size=zk at*
       obtain⟨fw,hfw⟩:∃fw:Bool,fw=decide (ka=a1∧kae=o1∧kb=a2∧kbe=i2):=⟨_,rfl⟩
       obtain⟨bw,hbw⟩:∃bw:Bool,bw=decide (kb=a1∧kbe=o1∧ka=a2∧kae=i2):=⟨_,rfl⟩
       have HJF:Hid (joinsE ⟨ka,kae,kb,kbe,kpt,kps⟩ (a1,o1) (a2,i2)=(fw||bw)):=by show _=_;rw[HJK.out,←hfw,←hbw]
       have HFW:=Lib.hid hfw
       have HBW:=Lib.hid hbw
       clear hfw hbw HJK HK3 HB3 HB4 HB5
       go_cut [11]from 45 to 106 (fun s wx=>s= .bool fw∧KeepsAll W6 wx)
       case first=>
        have f0:=B6.out.cell 0
        have f1:=B6.out.cell 1
        have f2:=B6.out.cell 2
        have f3:=B6.out.cell 3
        have p0:=D4.out.cell 0
        have p1:=D4.out.cell 1
        have p2:=D5.out.cell 0
        have p3:=D5.out.cell 1
        simp at f0 f1 f2 f3 p0 p1 p2 p3
        have y0:=Ext.cell f0
        have y1:=Ext.cell f1
        have y2:=Ext.cell f2
        have y3:=Ext.cell f3
        have y4:=Ext.cell p0
        have y5:=Ext.cell p1
        have y6:=Ext.cell p2
        have y7:=Ext.cell p3
        have HX1:Hid (∀xx:Ext W6,Calls Tryz.prog 398 #[.agg #[.int .i64 a1,.int .i64 d1]] xx.val fun e w''=>e= .returned (.int .i64 o1)∧∃y:Ext W6,w''=y.val):=fun xx=>ext_call xx (HE1.out xx.val)
        have HX2:Hid (∀xx:Ext W6,Calls Tryz.prog 399 #[.agg #[.int .i64 a2,.int .i64 d2]] xx.val fun e w''=>e= .returned (.int .i64 i2)∧∃y:Ext W6,w''=y.val):=fun xx=>ext_call xx (HE2.out xx.val)
        have hfw:=HFW.out
        clear f0 f1 f2 f3 p0 p1 p2 p3 HYES HNOT HJF HBW HJ1 HPJ HPN HEND
        rcases fiveWays ka a1 kae o1 kb a2 kbe i2 with g1|⟨rfl,g1⟩|⟨rfl,rfl,g1⟩|⟨rfl,rfl,rfl,g1⟩|⟨rfl,rfl,rfl,rfl⟩
        all_goals (try(have g2:=decide_eq_false g1;have g3:=beq_eq_false_iff_ne.2 g1))
        all_goals (refine wp_region_ext (by kernel_rfl) (by kernel_rfl) ?_)
        all_goals (repeat (go_big_quiet_step (first
         |(go_at_call 398;rename_i xx;with_reducible exact HX1.out xx)
         |(go_at_call 399;rename_i xx;with_reducible exact HX2.out xx))))
        all_goals (refine wpQuiet_nil ?_)
        all_goals (rintro _ ⟨X,rfl⟩)
        all_goals (have KX9:=X.keeps)
        all_goals (generalize X.val=W9 at*)
        all_goals go_wp2_with fail
        all_goals go_meet
        all_goals (exact⟨by simp_all,KX9⟩)
       case rest=>
        obtain⟨rfl,kx⟩:=hcut
        obtain⟨w7,rfl⟩:∃w7:World,w7=wc:=⟨_,rfl⟩
        have KX:=Lib.hid kx
        clear kx
        have E6:=Lib.hid (B6.out.kept KX.out (by simp))
        have E3:=Lib.hid (D3.out.kept KX.out (by simp))
        have E4:=Lib.hid (D4.out.kept KX.out (by simp))
        have E5:=Lib.hid (D5.out.kept KX.out (by simp))
        have KQ7:Hid (Keeps (fun b=>b=N+1+1) W w7):=KQ6.out.trans KX.out (fun _ _ h=>h.elim)
        clear B6 D3 D4 D5 KX KQ6
        go_upto_region 12 with fail
        go_cut [12]from 45 to 106 (fun s wx=>s= .bool bw∧KeepsAll w7 wx)
        case first=>
         have f0:=E6.out.cell 0
         have f1:=E6.out.cell 1
         have f2:=E6.out.cell 2
         have f3:=E6.out.cell 3
         have p0:=E4.out.cell 0
         have p1:=E4.out.cell 1
         have p2:=E5.out.cell 0
         have p3:=E5.out.cell 1
         simp at f0 f1 f2 f3 p0 p1 p2 p3
         have y0:=Ext.cell f0
         have y1:=Ext.cell f1
         have y2:=Ext.cell f2
         have y3:=Ext.cell f3
         have y4:=Ext.cell p0
         have y5:=Ext.cell p1
         have y6:=Ext.cell p2
         have y7:=Ext.cell p3
         have HX1:Hid (∀xx:Ext w7,Calls Tryz.prog 398 #[.agg #[.int .i64 a1,.int .i64 d1]] xx.val fun e w''=>e= .returned (.int .i64 o1)∧∃y:Ext w7,w''=y.val):=fun xx=>ext_call xx (HE1.out xx.val)
         have HX2:Hid (∀xx:Ext w7,Calls Tryz.prog 399 #[.agg #[.int .i64 a2,.int .i64 d2]] xx.val fun e w''=>e= .returned (.int .i64 i2)∧∃y:Ext w7,w''=y.val):=fun xx=>ext_call xx (HE2.out xx.val)
         have hbw:=HBW.out
         clear f0 f1 f2 f3 p0 p1 p2 p3 HYES HNOT HJF HFW HJ1 HPJ HPN HEND
         rcases fiveWays kb a1 kbe o1 ka a2 kae i2 with g1|⟨rfl,g1⟩|⟨rfl,rfl,g1⟩|⟨rfl,rfl,rfl,g1⟩|⟨rfl,rfl,rfl,rfl⟩
         all_goals (try(have g2:=decide_eq_false g1;have g3:=beq_eq_false_iff_ne.2 g1))
         all_goals (refine wp_region_ext (by kernel_rfl) (by kernel_rfl) ?_)
         all_goals (repeat (go_big_quiet_step (first
          |(go_at_call 398;rename_i xx;with_reducible exact HX1.out xx)
          |(go_at_call 399;rename_i xx;with_reducible exact HX2.out xx))))
         all_goals (refine wpQuiet_nil ?_)
         all_goals (rintro _ ⟨X,rfl⟩)
         all_goals (have KX9:=X.keeps)
         all_goals (generalize X.val=W9 at*)
         all_goals go_wp2_with fail
         all_goals go_meet
         all_goals (exact⟨by simp_all,KX9⟩)
        case rest=>
         obtain⟨rfl,kx⟩:=hcut
         have G3:=Lib.hid (E3.out.kept kx (by simp))
         have G4:=Lib.hid (E4.out.kept kx (by simp))
         have G5:=Lib.hid (E5.out.kept kx (by simp))
         have G6:=Lib.hid (E6.out.kept kx (by simp))
         have KQ8:Hid (Keeps (fun b=>b=N+1+1) W wc):=KQ7.out.trans kx (fun _ _ h=>h.elim)
         clear kx E3 E4 E5 E6 KQ7
         have hz8:N+1+1<wc.heap.size:=G3.out.lt
         have k4:=G6.out.cell 4
         simp at k4
         have e3:wc.cell? ⟨N+1+1,m+1,none⟩=some (.int .i64 (PT j)):=(G3.out.cell (m+1)).trans (cellsI_at (List.getElem?_set_self (by rw[mptW_len (by omega)];omega)))
         have fz:=G3.out.frozen (m+1)
         have KS:=Lib.hid (Keeps.setCell (C:=fun b=>b=N+1+1) (p:=⟨N+1+1,m+1,none⟩) (Keeps.refl (fun b=>b=N+1+1) wc) (fun _=>rfl) (.int .i64 kpt))
         have HS:Hid (joinsE ⟨ka,kae,kb,kbe,kpt,kps⟩ (a1,o1) (a2,i2)=true→Blk (wc.setCell ⟨N+1+1,m+1,none⟩ (.int .i64 kpt)) (N+1+1) 3 (cellsI ((mptW L.lks r.stps (m+1)).set (m+1) (PT (j+1))))):=fun hj=>by
          have:=G3.out.set_ (m+1) (.int .i64 kpt)
          rw[cellsI_set,List.set_set]at this
          rw[HYES.out hj]
          exact this
         have HN:Hid (joinsE ⟨ka,kae,kb,kbe,kpt,kps⟩ (a1,o1) (a2,i2)=false→Blk wc (N+1+1) 3 (cellsI ((mptW L.lks r.stps (m+1)).set (m+1) (PT (j+1))))):=fun hj=>by
          rw[HNOT.out hj];exact G3.out
         have hm1:m+1<r.stps.length:=hlt
         cases hf:fw with
         |true=>
          have HJT:Hid (joinsE ⟨ka,kae,kb,kbe,kpt,kps⟩ (a1,o1) (a2,i2)=true):=by show _=_;rw[HJF.out,hf];rfl
          have HFB:=Lib.hid (HS.out HJT.out)
          clear HS HN HYES HNOT HJF HFW HBW HJ1 HPJ HPN HEND
          go_wp2_with fail
          exact⟨⟨j+1,by omega,by go_num,HFB.out,G4.out.kept KS.out (by omega),G5.out.kept KS.out (by omega),KQ8.out.trans KS.out (fun _ _ h=>h)⟩,by simp[intOf];omega⟩
         |false=>
          cases hb:bw with
          |true=>
           have HJT:Hid (joinsE ⟨ka,kae,kb,kbe,kpt,kps⟩ (a1,o1) (a2,i2)=true):=by show _=_;rw[HJF.out,hf,hb];rfl
           have HFB:=Lib.hid (HS.out HJT.out)
           clear HS HN HYES HNOT HJF HFW HBW HJ1 HPJ HPN HEND
           go_wp2_with fail
           exact⟨⟨j+1,by omega,by go_num,HFB.out,G4.out.kept KS.out (by omega),G5.out.kept KS.out (by omega),KQ8.out.trans KS.out (fun _ _ h=>h)⟩,by simp[intOf];omega⟩
          |false=>
           have HJT:Hid (joinsE ⟨ka,kae,kb,kbe,kpt,kps⟩ (a1,o1) (a2,i2)=false):=by show _=_;rw[HJF.out,hf,hb];rfl
           have HFB:=Lib.hid (HN.out HJT.out)
           clear HS HN HYES HNOT HJF HFW HBW HJ1 HPJ HPN HEND
           go_wp2_with fail
           exact⟨⟨j+1,by omega,by go_num,HFB.out,G4.out,G5.out,KQ8.out⟩,by simp[intOf];omega⟩
      ·obtain rfl:j=L.lks.length:=by omega
       have HFI:Hid (Blk wr (N+1+1) 3 (cellsI (mptW L.lks r.stps (m+1+1)))):=by
        have:=HB3.out
        rwa[mptW_next HEND.out]at this
       go_wp2_with fail
       go_roundw
       case rel=>exact⟨m+1+1,by omega,by go_num,HFI.out,HK3.out⟩
       case measure=>simp[intOf];omega
  ·obtain rfl:n=r.stps.length:=by omega
   have hfin:mptW L.lks r.stps r.stps.length=mptL L.lks r.stps:=by
    unfold mptW
    rw[Nat.sub_self,List.replicate_zero,List.append_nil,List.take_of_length_le (by rw[mptL_len];omega)]
   have HF:Hid (Blk wr (N+1+1) 3 (cellsI (mptL L.lks r.stps))):=by rw[←hfin];exact HB.out
   clear hfin
   go_wp2_with fail
   go_ret
   exact⟨_,rfl,by omega,HF.out,KW.out⟩
end
section
open Go.RowKit
def hopTo (t:Stp) (h:HopS):Bool:=decide (h.sec=t.sec∧h.dir=t.dir)
theorem hopK_join {L:Lay} (hok:LayOk L) {j:Nat} {k:Lnk} (hk:L.lks[j]? =some k) {s t:Stp} (ht:t.dir=0∨t.dir=1):
  (match hopK (outE s) k with|some h=>hopTo t h|none=>false)=joinsE k (outE s) (inE t)∧∀h,hopK (outE s) k=some h→h.pt=k.pt:=by
 obtain⟨h1,h2,-⟩:=lnkErr_zero.1 (hok.lnk j k hk)
 simp[lnkOk]at h1
 obtain⟨ka,kae,kb,kbe,kpt,kps⟩:=k
 obtain⟨s1,s2⟩:=s
 obtain⟨t1,t2⟩:=t
 simp only[]at h1 h2 ht
 have e2:outE ⟨s1,s2⟩=(s1,(outE ⟨s1,s2⟩).2):=rfl
 have e3:inE ⟨t1,t2⟩=(t1,if t2=0 then 0 else 1):=rfl
 rw[e2,e3]
 generalize (outE ⟨s1,s2⟩).2=o
 have hne:¬(ka=kb∧kae=kbe):=by
  rintro⟨a,b⟩
  exact h2 (by rw[a,b])
 constructor
 ·rw[joinsE_fb]
  unfold hopK farE
  simp only[]
  by_cases c1:ka=s1∧kae=o
  ·rw[if_pos c1,if_pos (by show 0≤kb;omega)]
   show hopTo _ _=_
   unfold hopTo
   simp only[]
   rw[Bool.eq_iff_iff]
   simp only[Bool.or_eq_true,decide_eq_true_eq]
   rcases ht with rfl|rfl
   ·simp
    constructor
    ·rintro⟨a,b⟩
     left
     refine⟨c1.1,c1.2,a,?_⟩
     rcases h1.2.2.2.2.2.1 with q|q<;>omega
    ·rintro(⟨-,-,a,b⟩|⟨a,b,c,d⟩)
     ·exact⟨a,by omega⟩
     ·exact absurd ⟨by omega,by omega⟩ hne
   ·simp
    constructor
    ·rintro⟨a,b⟩
     left
     exact⟨c1.1,c1.2,a,by omega⟩
    ·rintro(⟨-,-,a,b⟩|⟨a,b,c,d⟩)
     ·exact⟨a,by omega⟩
     ·exact absurd ⟨by omega,by omega⟩ hne
  ·rw[if_neg c1]
   by_cases c2:kb=s1∧kbe=o
   ·rw[if_pos c2,if_pos (by show 0≤ka;omega)]
    show hopTo _ _=_
    unfold hopTo
    simp only[]
    rw[Bool.eq_iff_iff]
    simp only[Bool.or_eq_true,decide_eq_true_eq]
    rcases ht with rfl|rfl
    ·simp
     constructor
     ·rintro⟨a,b⟩
      right
      refine⟨c2.1,c2.2,a,?_⟩
      rcases h1.2.2.2.2.1 with q|q<;>omega
     ·rintro(⟨a,b,-,-⟩|⟨-,-,a,b⟩)
      ·exact absurd ⟨a,b⟩ c1
      ·exact⟨a,by omega⟩
    ·simp
     constructor
     ·rintro⟨a,b⟩
      right
      exact⟨c2.1,c2.2,a,by omega⟩
     ·rintro(⟨a,b,-,-⟩|⟨-,-,a,b⟩)
      ·exact absurd ⟨a,b⟩ c1
      ·exact⟨a,by omega⟩
   ·rw[if_neg c2,if_neg (by show¬(0:Int)≤-1;omega)]
    symm
    rw[Bool.or_eq_false_iff,decide_eq_false_iff_not,decide_eq_false_iff_not]
    exact⟨fun e=>c1 ⟨e.1,e.2.1⟩,fun e=>c2 ⟨e.1,e.2.1⟩⟩
 ·intro h e
  unfold hopK at e
  split at e
  ·injection e with e;rw[←e]
  ·cases e
theorem hop_find (x:Int×Int) (p:HopS→Bool) (q:Lnk→Bool):∀(l:List Lnk),(∀k∈l,(match hopK x k with|some h=>p h|none=>false)=q k∧∀h,hopK x k=some h→h.pt=k.pt)→
  ((hopsL l x).find? p).map (·.pt)=(l.find? q).map (·.pt):=by
 intro l
 induction l with
 |nil=>intro _;rfl
 |cons k r ih=>
  intro h
  obtain⟨h1,h2⟩:=h k (by simp)
  have h3:=ih (fun k hk=>h k (by simp[hk]))
  unfold hopsL at h3⊢
  cases e:hopK x k with
  |none=>
   rw[e]at h1
   simp only[]at h1
   rw[List.filterMap_cons_none e,List.find?_cons,←h1]
   exact h3
  |some hp=>
   rw[e]at h1
   simp only[]at h1
   rw[List.filterMap_cons_some e,List.find?_cons,List.find?_cons,←h1]
   cases p hp with
   |true=>simp[h2 hp e]
   |false=>exact h3
theorem LayOk.hops {L:Lay} (hok:LayOk L) (s:Stp) {t:Stp} (ht:t.dir=0∨t.dir=1):((hopsL L.lks (outE s)).find? (hopTo t)).map (·.pt)=(lnkOf L.lks s t).map (·.pt):=
 hop_find _ _ _ L.lks (fun k hk=>by
  obtain⟨j,hj⟩:=List.getElem?_of_mem hk
  exact hopK_join hok hj ht)
theorem find?_at {α:Type} (p:α→Bool) (l:List α) (n:Nat) (x:α) (h:l[n]? =some x) (hn:(l.take n).find? p=none):l.find? p=if p x=true then some x else(l.drop (n+1)).find? p:=by
 have hlt:=(List.getElem?_eq_some_iff.1 h).1
 have hd:l.drop n=x::l.drop (n+1):=by rw[←(List.getElem?_eq_some_iff.1 h).2,List.getElem_cons_drop hlt]
 conv=>lhs;rw[←List.take_append_drop n l,List.find?_append,hn,hd]
 rw[Option.none_or,List.find?_cons]
 split<;>simp_all
theorem find?_take1 {α:Type} (p:α→Bool) (l:List α) (n:Nat) (x:α) (h:l[n]? =some x) (hn:(l.take n).find? p=none) (hx:p x=false):(l.take (n+1)).find? p=none:=by
 rw[List.take_add_one,h,Option.toList_some,List.find?_append,hn]
 simp[hx]
end
section
open Go.RowKit
theorem RHps.at_ {w:World} {S:Foot} {A:Option Addr} {n c:Nat} {l:List HopS} (h:RHps w S [.slice A n c] l) {k:Nat} (hk:k<l.length):
  ∃b o x,A=some ⟨b,o,none⟩∧S b∧l[k]? =some x∧w.cell? ⟨b,o+k*4,none⟩=some (.int .i64 x.sec)∧w.cell? ⟨b,o+k*4+1,none⟩=some (.int .i64 x.dir)∧w.cell? ⟨b,o+k*4+2,none⟩=some (.int .i64 x.pt)∧w.cell? ⟨b,o+k*4+3,none⟩=some (.int .i64 x.ps):=by
 obtain⟨b,o,x,es,rfl,hb,hx,h1,h2,h3⟩:=h.get hk
 cases h2
 exact⟨b,o,x,rfl,hb,hx,by simpa using h3 0 _ rfl,by simpa[Nat.add_assoc]using h3 1 _ rfl,by simpa[Nat.add_assoc]using h3 2 _ rfl,by simpa[Nat.add_assoc]using h3 3 _ rfl⟩
set_option maxRecDepth 100000 in
set_option maxHeartbeats 4000000 in
theorem rjoined_any (L:Lay) (v:LV) (s t:Stp) (w:World) (h:RLay w (Old w) v L) (hok:LayOk L) (hs:s.dir=0∨s.dir=1) (ht:t.dir=0∨t.dir=1):
  Calls Tryz.prog 103 #[.agg (v.cs L),.agg (stpC s),.agg (stpC t)] w fun e w'=>∃a b c d,e= .returned (.tuple #[.agg #[.int .i64 a,.int .i64 b,.int .i64 c,.int .i64 d],.bool (lnkOf L.lks s t).isSome])∧KeepsAll w w':=by
 have HH:=Lib.hid (fun W k=>hopsOf_any L v s W k hok.lks hs)
 have HFI:=Lib.hid (hok.hops s ht)
 have hl192:(hopsL L.lks (outE s)).length≤192:=Nat.le_trans (hopsL_len _ _) hok.lks
 have HL:=Lib.hid h
 clear h hok hs
 obtain⟨A1,A2,A3,A4,ca1,ca2,ca3,ca4⟩:=v
 generalize hopsL L.lks (outE s)=H at*
 generalize lnkOf L.lks s t=lk at*
 obtain⟨s1,s2⟩:=s
 obtain⟨t1,t2⟩:=t
 unfold LV.cs stpC at HH⊢
 simp only[]at HH⊢
 go_enter Tryz.func103,Tryz.ntmps103
 go_upto_region 1 with fail
 generalize hW1:World.alloc w _=W1
 have K1:Hid (KeepsAll w W1):=by subst hW1;exact(Keeps.refl _ _).alloc _
 have B1:Hid (Blk W1 w.heap.size 27 #[.slice A1 L.sts.length ca1,.slice A2 L.pts.length ca2,.slice A3 L.secs.length ca3,.slice A4 L.lks.length ca4]):=by subst hW1;exact Blk.new _ _ _
 have hz1:W1.heap.size=w.heap.size+1:=by subst hW1;simp
 clear hW1
 generalize hN:w.heap.size=N at*
 generalize hW:World.alloc (World.alloc (World.alloc W1 _) _) _=W
 have K0:Hid (KeepsAll w W):=by subst hW;exact((K1.out.alloc _).alloc _).alloc _
 have B0:Hid (Blk W N 27 #[.slice A1 L.sts.length ca1,.slice A2 L.pts.length ca2,.slice A3 L.secs.length ca3,.slice A4 L.lks.length ca4]):=by subst hW;exact((B1.out.alloc _).alloc _).alloc _
 have BS:Hid (Blk W (N+1) 200 #[.int .i64 s1,.int .i64 s2]):=by subst hW;exact((Blk.new' _ _ _ hz1.symm).alloc _).alloc _
 have BT:Hid (Blk W (N+1+1) 200 #[.int .i64 t1,.int .i64 t2]):=by subst hW;exact(Blk.new' _ _ _ (by simp[hz1])).alloc _
 have BZ:Hid (Blk W (N+1+1+1) 213 #[.int .i64 0,.int .i64 0,.int .i64 0,.int .i64 0]):=by subst hW;exact Blk.new' _ _ _ (by simp[hz1])
 clear hW K1 B1 hz1
 have l0:=B0.out.cell 0
 have l1:=B0.out.cell 1
 have l2:=B0.out.cell 2
 have l3:=B0.out.cell 3
 have x0:=BS.out.cell 0
 have x1:=BS.out.cell 1
 simp at l0 l1 l2 l3 x0 x1
 have hzl:=B0.out.lt
 have hzs:=BS.out.lt
 go_upto_region 3 with(go_at_call 94;with_reducible refine(HH.out _ (HL.out.kept K0.out)).mono ?_;rintro e w2 ⟨Ah,ch,rfl,k2,hrh⟩)
 have HRH:=Lib.hid hrh
 have K2:=Lib.hid (K0.out.trA k2)
 have CT:=Lib.hid (BT.out.kept k2 (by simp))
 have CZ:=Lib.hid (BZ.out.kept k2 (by simp))
 clear hrh k2 l0 l1 l2 l3 x0 x1 B0 BS BT BZ K0 HH hzl hzs
 have HPF:Hid (lk.isSome=(H.find? (hopTo ⟨t1,t2⟩)).isSome):=by
  have:=congrArg Option.isSome HFI.out
  show _=_
  simpa using this.symm
 clear HFI
 go_loopw [9] (fun i wr=>∃n:Nat,n≤H.length∧i= .int .i64 (n:Int)∧(H.take n).find? (hopTo ⟨t1,t2⟩)=none∧KeepsAll w2 wr) (fun i _=>H.length-(intOf i).toNat)
 case atStart=>exact⟨0,Nat.zero_le _,rfl,rfl,Keeps.refl _ _⟩
 case round=>
  obtain⟨n,hn,rfl,hno,hk⟩:=hrel
  have HNO:=Lib.hid hno
  have HK:=Lib.hid hk
  have KW:=Lib.hid (K2.out.trA hk)
  have DT:=Lib.hid (CT.out.kept hk (by simp))
  have DZ:=Lib.hid (CZ.out.kept hk (by simp))
  clear hno
  by_cases hlt:n<H.length
  ·obtain⟨b,o,x,rfl,hb,hx,c0,c1,c2,c3⟩:=HRH.out.at_ hlt
   replace c0:=hk.cellA hb.2 c0
   replace c1:=hk.cellA hb.2 c1
   replace c2:=hk.cellA hb.2 c2
   replace c3:=hk.cellA hb.2 c3
   have HX:=Lib.hid hx
   have hbz:b<wr.heap.size:=Nat.lt_of_lt_of_le hb.2 hk.size
   have t0:=DT.out.cell 0
   have t1':=DT.out.cell 1
   simp at t0 t1'
   have hzt:=DT.out.lt
   clear hx hk hb
   have HYN:Hid (hopTo ⟨t1,t2⟩ x=decide (x.sec=t1∧x.dir=t2)):=rfl
   obtain⟨xs,xd,xp,xq⟩:=x
   simp only[]at c0 c1 c2 c3 HYN
   have FNO:Hid (hopTo ⟨t1,t2⟩ ⟨xs,xd,xp,xq⟩=false→(H.take (n+1)).find? (hopTo ⟨t1,t2⟩)=none):=fun e=>find?_take1 _ _ _ _ HX.out HNO.out e
   have FYES:Hid (hopTo ⟨t1,t2⟩ ⟨xs,xd,xp,xq⟩=true→lk.isSome=true):=fun e=>by rw[HPF.out,find?_at _ _ _ _ HX.out HNO.out,if_pos e];rfl
   clear HX HNO HPF
   have y0:=Ext.cell c0
   have y1:=Ext.cell c1
   have y2:=Ext.cell t0
   have y3:=Ext.cell t1'
   go_upto_region 5 with fail
   rcases twoWays xs t1 xd t2 with g1|⟨rfl,g1⟩|⟨rfl,rfl⟩
   ·have HT:=Lib.hid (FNO.out (by rw[HYN.out];simp[g1]))
    have g2:=beq_eq_false_iff_ne.2 g1
    clear FNO FYES HYN
    refine wp_region_ext (by kernel_rfl) (by kernel_rfl) ?_
    repeat (go_big_quiet_step (fail))
    refine wpQuiet_nil ?_
    rintro _ ⟨X,rfl⟩
    have KX:=X.keeps
    generalize X.val=W5 at*
    clear y0 y1 y2 y3
    go_wp2_with fail
    exact⟨⟨n+1,by omega,by go_num,HT.out,HK.out.trA KX⟩,by simp[intOf];omega⟩
   ·have HT:=Lib.hid (FNO.out (by rw[HYN.out];simp[g1]))
    have g2:=beq_eq_false_iff_ne.2 g1
    clear FNO FYES HYN
    refine wp_region_ext (by kernel_rfl) (by kernel_rfl) ?_
    repeat (go_big_quiet_step (fail))
    refine wpQuiet_nil ?_
    rintro _ ⟨X,rfl⟩
    have KX:=X.keeps
    generalize X.val=W5 at*
    clear y0 y1 y2 y3
    go_wp2_with fail
    exact⟨⟨n+1,by omega,by go_num,HT.out,HK.out.trA KX⟩,by simp[intOf];omega⟩
   ·have HT:=Lib.hid (FYES.out (by rw[HYN.out];simp))
    clear FNO FYES HYN
    refine wp_region_ext (by kernel_rfl) (by kernel_rfl) ?_
    repeat (go_big_quiet_step (fail))
    refine wpQuiet_nil ?_
    rintro _ ⟨X,rfl⟩
    have KX:=X.keeps
    generalize X.val=W5 at*
    clear y0 y1 y2 y3
    have EZ:=Lib.hid (DZ.out.kept KX (by simp))
    replace c0:=KX.cellA hbz c0
    replace c1:=KX.cellA hbz c1
    replace c2:=KX.cellA hbz c2
    replace c3:=KX.cellA hbz c3
    have z0:=EZ.out.cell 0
    have z1:=EZ.out.cell 1
    have z2:=EZ.out.cell 2
    have z3:=EZ.out.cell 3
    simp at z0 z1 z2 z3
    have f0:=EZ.out.frozen 0
    have f1:=EZ.out.frozen 1
    have f2:=EZ.out.frozen 2
    have f3:=EZ.out.frozen 3
    have hzz:=EZ.out.lt
    go_wp2_with fail
    generalize hW9:World.setCell (World.setCell (World.setCell (World.setCell W5 _ _) _ _) _ _) _ _=W9
    have B9:Hid (Blk W9 (N+1+1+1) 213 #[.int .i64 xs,.int .i64 xd,.int .i64 xp,.int .i64 xq]):=by subst hW9;exact((((EZ.out.set_ 0 _).set_ 1 _).set_ 2 _).set_ 3 _)
    have K9:Hid (KeepsAll w W9):=by
     subst hW9
     refine Keeps.setCell (Keeps.setCell (Keeps.setCell (Keeps.setCell (KW.out.trA KX) ?_ _) ?_ _) ?_ _) ?_ _<;>(intro e;have e:N+1+1+1<w.heap.size:=e;omega)
    clear hW9 z0 z1 z2 z3 f0 f1 f2 f3
    have z0:=B9.out.cell 0
    have z1:=B9.out.cell 1
    have z2:=B9.out.cell 2
    have z3:=B9.out.cell 3
    simp at z0 z1 z2 z3
    refine bodyPost_ret (v:= .tuple #[.agg #[.int .i64 xs,.int .i64 xd,.int .i64 xp,.int .i64 xq],.bool true]) (by simp[results,Tryz.results103,go_sem,z0,z1,z2,z3]) rfl ?_
    exact⟨_,_,_,_,by rw[HT.out],K9.out⟩
  ·obtain rfl:n=H.length:=by omega
   have HF:Hid (lk.isSome=false):=by
    have:=HNO.out
    rw[List.take_length]at this
    rw[HPF.out,this];rfl
   have z0:=DZ.out.cell 0
   have z1:=DZ.out.cell 1
   have z2:=DZ.out.cell 2
   have z3:=DZ.out.cell 3
   simp at z0 z1 z2 z3
   have f0:=DZ.out.frozen 0
   have f1:=DZ.out.frozen 1
   have f2:=DZ.out.frozen 2
   have f3:=DZ.out.frozen 3
   have hzz:=DZ.out.lt
   go_wp2_with fail
   generalize hW9:World.setCell (World.setCell (World.setCell (World.setCell wr _ _) _ _) _ _) _ _=W9
   have B9:Hid (Blk W9 (N+1+1+1) 213 #[.int .i64 0,.int .i64 0,.int .i64 0,.int .i64 0]):=by subst hW9;exact((((DZ.out.set_ 0 _).set_ 1 _).set_ 2 _).set_ 3 _)
   have K9:Hid (KeepsAll w W9):=by
    subst hW9
    refine Keeps.setCell (Keeps.setCell (Keeps.setCell (Keeps.setCell KW.out ?_ _) ?_ _) ?_ _) ?_ _<;>(intro e;have e:N+1+1+1<w.heap.size:=e;omega)
   clear hW9 z0 z1 z2 z3 f0 f1 f2 f3
   have z0:=B9.out.cell 0
   have z1:=B9.out.cell 1
   have z2:=B9.out.cell 2
   have z3:=B9.out.cell 3
   simp at z0 z1 z2 z3
   refine bodyPost_ret (v:= .tuple #[.agg #[.int .i64 0,.int .i64 0,.int .i64 0,.int .i64 0],.bool false]) (by simp[results,Tryz.results103,go_sem,z0,z1,z2,z3]) rfl ?_
   exact⟨_,_,_,_,by rw[HF.out],K9.out⟩
end
section
open Go.RowKit
def ptRes (L:Lay) (s t:Stp):Int:=match (lnkOf L.lks s t).map (·.pt)with|some p=>if p<0 then-1 else(L.secs.length:Int)+p|none=> -1
set_option maxRecDepth 100000 in
set_option maxHeartbeats 4000000 in
theorem pointOf_any (L:Lay) (v:LV) (s t:Stp) (w:World) (h:RLay w (Old w) v L) (hok:LayOk L) (hs:s.dir=0∨s.dir=1) (ht:t.dir=0∨t.dir=1):
  Calls Tryz.prog 180 #[.agg (v.cs L),.agg (stpC s),.agg (stpC t)] w fun e w'=>e= .returned (.int .i64 (ptRes L s t))∧KeepsAll w w':=by
 have hs96:=hok.secs
 have hpk:∀k,lnkOf L.lks s t=some k→-1≤k.pt∧k.pt≤48:=fun k hk=>by
  obtain⟨j,hj⟩:=List.getElem?_of_mem (List.mem_of_find?_eq_some hk)
  have h1:=(lnkErr_zero.1 (hok.lnk j k hj)).1
  have h2:=hok.pts
  simp[lnkOk]at h1
  omega
 have HPT:Hid (∀p,(lnkOf L.lks s t).map (·.pt)=some p→-1≤p∧p≤48):=fun p hp=>by
  obtain⟨k,hk,rfl⟩:=Option.map_eq_some_iff.1 hp
  exact hpk k hk
 have hc3:=h.secs.caps
 have HPR:Hid (ptRes L s t=match (lnkOf L.lks s t).map (·.pt)with|some p=>if p<0 then-1 else(L.secs.length:Int)+p|none=> -1):=rfl
 clear hpk
 have HH:=Lib.hid (fun W k=>hopsOf_any L v s W k hok.lks hs)
 have HFI:=Lib.hid (hok.hops s ht)
 have hl192:(hopsL L.lks (outE s)).length≤192:=Nat.le_trans (hopsL_len _ _) hok.lks
 have HL:=Lib.hid h
 clear h hok hs
 obtain⟨A1,A2,A3,A4,ca1,ca2,ca3,ca4⟩:=v
 generalize hopsL L.lks (outE s)=H at*
 generalize (lnkOf L.lks s t).map (·.pt)=lk at*
 generalize ptRes L s t=pr at*
 simp only[]at hc3
 obtain⟨s1,s2⟩:=s
 obtain⟨t1,t2⟩:=t
 unfold LV.cs stpC at HH⊢
 simp only[]at HH⊢
 go_enter Tryz.func180,Tryz.ntmps180
 go_upto_region 1 with fail
 generalize hW1:World.alloc w _=W1
 have K1:Hid (KeepsAll w W1):=by subst hW1;exact(Keeps.refl _ _).alloc _
 have B1:Hid (Blk W1 w.heap.size 27 #[.slice A1 L.sts.length ca1,.slice A2 L.pts.length ca2,.slice A3 L.secs.length ca3,.slice A4 L.lks.length ca4]):=by subst hW1;exact Blk.new _ _ _
 have hz1:W1.heap.size=w.heap.size+1:=by subst hW1;simp
 clear hW1
 generalize hN:w.heap.size=N at*
 generalize hW:World.alloc (World.alloc W1 _) _=W
 have K0:Hid (KeepsAll w W):=by subst hW;exact(K1.out.alloc _).alloc _
 have B0:Hid (Blk W N 27 #[.slice A1 L.sts.length ca1,.slice A2 L.pts.length ca2,.slice A3 L.secs.length ca3,.slice A4 L.lks.length ca4]):=by subst hW;exact(B1.out.alloc _).alloc _
 have BS:Hid (Blk W (N+1) 200 #[.int .i64 s1,.int .i64 s2]):=by subst hW;exact(Blk.new' _ _ _ hz1.symm).alloc _
 have BT:Hid (Blk W (N+1+1) 200 #[.int .i64 t1,.int .i64 t2]):=by subst hW;exact Blk.new' _ _ _ (by simp[hz1])
 clear hW K1 B1 hz1
 have l0:=B0.out.cell 0
 have l1:=B0.out.cell 1
 have l2:=B0.out.cell 2
 have l3:=B0.out.cell 3
 have x0:=BS.out.cell 0
 have x1:=BS.out.cell 1
 simp at l0 l1 l2 l3 x0 x1
 have hzl:=B0.out.lt
 have hzs:=BS.out.lt
 go_upto_region 3 with(go_at_call 94;with_reducible refine(HH.out _ (HL.out.kept K0.out)).mono ?_;rintro e w2 ⟨Ah,ch,rfl,k2,hrh⟩)
 have HRH:=Lib.hid hrh
 have K2:=Lib.hid (K0.out.trA k2)
 have CT:=Lib.hid (BT.out.kept k2 (by simp))
 have C0:=Lib.hid (B0.out.kept k2 (by simp))
 clear hrh k2 l0 l1 l2 l3 x0 x1 B0 BS BT K0 HH hzl hzs
 have HPF:Hid (lk=(H.find? (hopTo ⟨t1,t2⟩)).map (·.pt)):=HFI.out.symm
 clear HFI
 go_loopw [14] (fun i wr=>∃n:Nat,n≤H.length∧i= .int .i64 (n:Int)∧(H.take n).find? (hopTo ⟨t1,t2⟩)=none∧KeepsAll w2 wr) (fun i _=>H.length-(intOf i).toNat)
 case atStart=>exact⟨0,Nat.zero_le _,rfl,rfl,Keeps.refl _ _⟩
 case round=>
  obtain⟨n,hn,rfl,hno,hk⟩:=hrel
  have HNO:=Lib.hid hno
  have HK:=Lib.hid hk
  have KW:=Lib.hid (K2.out.trA hk)
  have DT:=Lib.hid (CT.out.kept hk (by simp))
  have D0:=Lib.hid (C0.out.kept hk (by simp))
  clear hno
  by_cases hlt:n<H.length
  ·obtain⟨b,o,x,rfl,hb,hx,c0,c1,c2,c3⟩:=HRH.out.at_ hlt
   replace c0:=hk.cellA hb.2 c0
   replace c1:=hk.cellA hb.2 c1
   replace c2:=hk.cellA hb.2 c2
   replace c3:=hk.cellA hb.2 c3
   have HX:=Lib.hid hx
   have hbz:b<wr.heap.size:=Nat.lt_of_lt_of_le hb.2 hk.size
   have t0:=DT.out.cell 0
   have t1':=DT.out.cell 1
   simp at t0 t1'
   have hzt:=DT.out.lt
   clear hx hk hb
   have HYN:Hid (hopTo ⟨t1,t2⟩ x=decide (x.sec=t1∧x.dir=t2)):=rfl
   obtain⟨xs,xd,xp,xq⟩:=x
   simp only[]at c0 c1 c2 c3 HYN
   have FNO:Hid (hopTo ⟨t1,t2⟩ ⟨xs,xd,xp,xq⟩=false→(H.take (n+1)).find? (hopTo ⟨t1,t2⟩)=none):=fun e=>find?_take1 _ _ _ _ HX.out HNO.out e
   have FYES:Hid (hopTo ⟨t1,t2⟩ ⟨xs,xd,xp,xq⟩=true→lk=some xp):=fun e=>by rw[HPF.out,find?_at _ _ _ _ HX.out HNO.out,if_pos e];rfl
   clear HX HNO HPF
   have y0:=Ext.cell c0
   have y1:=Ext.cell c1
   have y2:=Ext.cell t0
   have y3:=Ext.cell t1'
   go_upto_region 5 with fail
   rcases twoWays xs t1 xd t2 with g1|⟨rfl,g1⟩|⟨rfl,rfl⟩
   ·have HT:=Lib.hid (FNO.out (by rw[HYN.out];simp[g1]))
    have g2:=beq_eq_false_iff_ne.2 g1
    clear FNO FYES HYN
    refine wp_region_ext (by kernel_rfl) (by kernel_rfl) ?_
    repeat (go_big_quiet_step (fail))
    refine wpQuiet_nil ?_
    rintro _ ⟨X,rfl⟩
    have KX:=X.keeps
    generalize X.val=W5 at*
    clear y0 y1 y2 y3
    go_wp2_with fail
    exact⟨⟨n+1,by omega,by go_num,HT.out,HK.out.trA KX⟩,by simp[intOf];omega⟩
   ·have HT:=Lib.hid (FNO.out (by rw[HYN.out];simp[g1]))
    have g2:=beq_eq_false_iff_ne.2 g1
    clear FNO FYES HYN
    refine wp_region_ext (by kernel_rfl) (by kernel_rfl) ?_
    repeat (go_big_quiet_step (fail))
    refine wpQuiet_nil ?_
    rintro _ ⟨X,rfl⟩
    have KX:=X.keeps
    generalize X.val=W5 at*
    clear y0 y1 y2 y3
    go_wp2_with fail
    exact⟨⟨n+1,by omega,by go_num,HT.out,HK.out.trA KX⟩,by simp[intOf];omega⟩
   ·have HT:=Lib.hid (FYES.out (by rw[HYN.out];simp))
    clear FNO FYES HYN
    refine wp_region_ext (by kernel_rfl) (by kernel_rfl) ?_
    repeat (go_big_quiet_step (fail))
    refine wpQuiet_nil ?_
    rintro _ ⟨X,rfl⟩
    have KX:=X.keeps
    generalize X.val=W5 at*
    clear y0 y1 y2 y3
    have E0:=Lib.hid (D0.out.kept KX (by simp))
    replace c2:=KX.cellA hbz c2
    obtain⟨p1,p2⟩:=HPT.out xp HT.out
    have HP2:Hid (pr=if xp<0 then-1 else(L.secs.length:Int)+xp):=by show _=_;rw[HPR.out,HT.out]
    have q2:=E0.out.cell 2
    simp at q2
    have hzq:=E0.out.lt
    have hKX:=KX.size
    by_cases hx:xp<0
    ·have hx1:decide (xp<0)=true:=by simpa using hx
     rw[if_pos hx]at HP2
     go_wp2_with fail
     go_ret
     exact⟨by rw[HP2.out];rfl,KW.out.trA KX⟩
    ·have hx1:decide (xp<0)=false:=by simpa using hx
     rw[if_neg hx]at HP2
     go_upto_region 8 with fail
     have y0:=Ext.cell q2
     have y1:=Ext.cell c2
     refine wp_region_ext (by kernel_rfl) (by kernel_rfl) ?_
     repeat (go_big_quiet_step (fail))
     refine wpQuiet_nil ?_
     rintro _ ⟨Y,rfl⟩
     have KY:=Y.keeps
     generalize Y.val=W7 at*
     clear y0 y1
     go_wp2_with fail
     go_ret
     exact⟨by rw[HP2.out];rfl,(KW.out.trA KX).trA KY⟩
  ·obtain rfl:n=H.length:=by omega
   have HF:Hid (pr= -1):=by
    have:=HNO.out
    rw[List.take_length]at this
    show _=_
    rw[HPR.out,HPF.out,this];rfl
   go_wp2_with fail
   go_ret
   exact⟨by rw[HF.out];rfl,KW.out⟩
end
section
open Go.RowKit
theorem in1_any (n lo hi:Int) (w:World):Calls Tryz.prog 100 #[.int .i64 n,.int .i64 lo,.int .i64 hi] w fun e w'=>e= .returned (.bool (decide (lo≤n∧n≤hi)))∧w=w':=by
 go_enter Tryz.func100,Tryz.ntmps100
 go_wp2
 all_goals (go_ret;refine⟨congrArg (fun b=>Ending.returned (Value.bool b)) ?_,rfl⟩;rw[Bool.eq_iff_iff];simp;omega)
theorem has_any (k:Lnk) (x:Int×Int) (w:World):Calls Tryz.prog 185 #[.agg (lnkC k),.agg (endC x)] w fun e w'=>e= .returned (.bool (hasE k x))∧KeepsAll w w':=by
 obtain⟨ka,kae,kb,kbe,kp,ks⟩:=k
 obtain⟨x1,x2⟩:=x
 unfold lnkC endC
 simp only[]
 go_enter Tryz.func185,Tryz.ntmps185
 go_wp2
 all_goals
  go_ret
  refine⟨congrArg (fun b=>Ending.returned (Value.bool b)) ?_,((Keeps.refl _ _).alloc _).alloc _⟩
  rw[Bool.eq_iff_iff]
  simp[hasE]
  omega
set_option maxHeartbeats 1000000 in
theorem names_any (l:List Bs) (A:Option Addr) (c:Nat) (i:Nat) (x:Bs) (w:World) (h:RStrs w (Old w) [.slice A l.length c] l) (hx:l[i]? =some x) (hl:x.length≤9223372036854775807):
  Calls Tryz.prog 98 #[.slice A l.length c,.int .i64 (i:Int)] w fun e w'=>e= .returned (.int .i64 (nameErr (l.take i) x))∧KeepsAll w w':=by
 have hc:=h.caps
 have hi:=(List.getElem?_eq_some_iff.1 hx).1
 have HR:=Lib.hid h;clear h
 obtain⟨b,o,y,rfl,hb,hy,m0⟩:=HR.out.at_ hi
 obtain rfl:y=x:=Option.some.inj (hy.symm.trans hx)
 have hb':b<w.heap.size:=hb
 have HX:=Lib.hid hx
 clear hx hy hb
 cases gn:nameOk y with
 |false=>
  have e:nameErr (l.take i) y=3:=by simp[nameErr,gn]
  rw[e]
  go_enter Tryz.func98,Tryz.ntmps98
  go_wp2_with(go_at_call 184;refine(RName_any y hl _).mono ?_;rw[gn];rintro e w' ⟨rfl,k1⟩)
  go_ret
  exact⟨rfl,k1⟩
 |true=>
  have EE:Hid (nameErr (l.take i) y=if y∈l.take i then 5 else 0):=by show _=_;simp[nameErr,gn]
  go_enter Tryz.func98,Tryz.ntmps98
  go_wp2_with(go_at_call 184;refine(RName_any y hl _).mono ?_;rw[gn];rintro e w1 ⟨rfl,k1⟩)
  have K1:=Lib.hid k1
  clear k1 m0
  go_loopw [4,5] (fun r j wr=>∃k:Nat,k≤i∧j= .int .i64 (k:Int)∧r= .int .i64 0∧y∉l.take k∧KeepsAll w wr) (fun _ j _=>i-(intOf j).toNat)
  case atStart=>exact⟨0,by omega,rfl,rfl,by simp,K1.out⟩
  case round=>
   obtain⟨k,hk,rfl,rfl,hnm,hkw⟩:=hrel
   have HNM:=Lib.hid hnm
   have HK:=Lib.hid hkw
   clear hnm hkw
   by_cases hlt:k<i
   ·obtain⟨b1,o1,z,e1,hb1,hz,m1⟩:=HR.out.atO HK.out (k:=k) (by omega)
    obtain⟨b2,o2,y2,e2,hb2,hy2,m2⟩:=HR.out.atO HK.out (k:=i) hi
    injection e1 with e1
    injection e1 with e1 e1'
    subst e1 e1'
    injection e2 with e2
    injection e2 with e2 e2'
    subst e2 e2'
    obtain rfl:y2=y:=Option.some.inj (hy2.symm.trans HX.out)
    have HZ:=Lib.hid hz
    clear hy2 hz
    have hkl:k<l.length:=by omega
    by_cases gz:z=y2
    ·subst gz
     have hm:z∈l.take i:=List.mem_of_getElem? (by rw[List.getElem?_take_of_lt hlt];exact HZ.out)
     go_wp2_with fail
     go_quiet (fail)
     go_wp2
     go_ret
     exact⟨by rw[EE.out,if_pos hm];rfl,HK.out.drewN _⟩
    ·have gz':((mkS z).toList==(mkS y2).toList)=false:=by rw[ByteArray.toList_eq,ByteArray.toList_eq,mkS_list,mkS_list];simpa using gz
     go_wp2_with fail
     go_quiet (fail)
     go_wp2
     go_roundw
     case rel=>
      refine⟨k+1,by omega,by go_num,rfl,?_,HK.out.drewN _⟩
      rw[List.take_add_one,HZ.out]
      simp[HNM.out]
      exact fun e=>gz e.symm
     case measure=>simp[intOf];omega
   ·obtain rfl:k=i:=by omega
    go_wp2
    go_ret
    exact⟨by rw[EE.out,if_neg HNM.out];rfl,HK.out⟩
end
end Go.Proofs.YtcbcegdidlefiaaGreat
