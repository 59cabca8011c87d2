/- Contracts of the reference's tests of a link: free, linkError. Conditions: as each theorem says. More moves for a region that draws its order: operations behind a guard, other operations in the first phase. No condition. Contract of the reference's linkError. Conditions: as the theorem says. Contracts of the reference's sectionNames and Check of a layout. Conditions: as each theorem says. -/
import Derived.Test.YtcbcegdidlefiaaGreatK01
import Derived.Test.YtcbcegdidlefiaaGreatK13
import Derived.Test.YtcbcegdidlefiaaGreatK07
import Derived.Deep.Cut
namespace Go.Proofs.YtcbcegdidlefiaaGreat
section
open Go.RowKit
def lnkZ:Lnk:=⟨0,0,0,0,0,0⟩
def lastK (l:List Lnk):Lnk:=l.getLast?.getD lnkZ
theorem lastK_snoc (l:List Lnk) (k:Lnk):lastK (l++ [k])=k:=by simp[lastK]
theorem fitsE_last {k:Lnk} (l:List Lnk) (h: -1≤k.pt):fitsE k l=decide (l.length=0∨l.length=1∧0≤k.pt∧(lastK l).pt=k.pt∧(lastK l).ps≠k.ps):=by
 rcases l with _|⟨a,_|⟨b,l⟩⟩
 ·rfl
 ·rw[Bool.eq_iff_iff]
  simp[fitsE,lastK]
  omega
 ·simp[fitsE]
theorem blk_put6 {w:World} {q:Nat} {o k:Lnk} (h:Blk w q 196 (lnkC o)):
  Blk ((((((w.setCell ⟨q,0,none⟩ (.int .i64 k.a)).setCell ⟨q,1,none⟩ (.int .i64 k.ae)).setCell ⟨q,2,none⟩ (.int .i64 k.b)).setCell ⟨q,3,none⟩ (.int .i64 k.be)).setCell ⟨q,4,none⟩ (.int .i64 k.pt)).setCell ⟨q,5,none⟩ (.int .i64 k.ps)) q 196 (lnkC k):=
 (((((h.set_ 0 _).set_ 1 _).set_ 2 _).set_ 3 _).set_ 4 _).set_ 5 _
set_option maxRecDepth 100000 in
set_option maxHeartbeats 2000000 in
theorem free_any (L:Lay) (v:LV) (i:Nat) (k:Lnk) (x:Int×Int) (w:World) (h:RLay w (Old w) v L) (hk:L.lks[i]? =some k) (hp: -1≤k.pt):
  Calls Tryz.prog 186 #[.agg (v.cs L),.int .i64 (i:Int),.agg (endC x)] w fun e w'=>e= .returned (.bool (fitsE k (atE (L.lks.take i) x)))∧KeepsAll w w':=by
 have hc4:=h.lks.caps
 have hi:=(List.getElem?_eq_some_iff.1 hk).1
 have HL:=Lib.hid h;clear h
 have HK:=Lib.hid hk;clear hk
 have EF:=Lib.hid (fitsE_last (atE (L.lks.take i) x) hp)
 obtain⟨b,o,k',e4,hb,hk',c0,c1,c2,c3,c4,c5⟩:=HL.out.lks.at_ hi
 obtain rfl:k'=k:=Option.some.inj (hk'.symm.trans HK.out)
 have hb':b<w.heap.size:=hb
 obtain⟨A1,A2,A3,A4,u1,u2,u3,u4⟩:=v
 simp only[]at e4 hc4
 subst e4
 clear hk' hb hp
 unfold LV.cs endC
 simp only[]
 go_enter Tryz.func186,Tryz.ntmps186
 go_wp2_with fail
 generalize hW:World.alloc (World.alloc (World.alloc (World.alloc w _) _) _) _=W
 have KA:Hid (KeepsAll w W):=by subst hW;exact((((Keeps.refl _ _).alloc _).alloc _).alloc _).alloc _
 have B0:Hid (Blk W w.heap.size 27 #[.slice A1 L.sts.length u1,.slice A2 L.pts.length u2,.slice A3 L.secs.length u3,.slice (some ⟨b,o,none⟩) L.lks.length u4]):=by subst hW;exact(((Blk.new _ _ _).alloc _).alloc _).alloc _
 have B1:Hid (Blk W (w.heap.size+1) 308 #[.int .i64 x.1,.int .i64 x.2]):=by subst hW;exact((Blk.new' _ _ _ (by simp)).alloc _).alloc _
 have B2:Hid (Blk W (w.heap.size+1+1) 196 (lnkC k')):=by subst hW;exact(Blk.new' _ _ _ (by simp)).alloc _
 have B3:Hid (Blk W (w.heap.size+1+1+1) 196 (lnkC lnkZ)):=by subst hW;exact Blk.new' _ _ _ (by simp)
 clear hW c0 c1 c2 c3 c4 c5
 obtain⟨q,hq⟩:∃q,w.heap.size=q:=⟨_,rfl⟩
 have HQ:=Lib.hid hq
 rw[hq]at B0 B1 B2 B3
 simp only[hq]
 clear hq hb'
 go_loopw [8,10] (fun m j wr=>∃n:Nat,n≤i∧j= .int .i64 (n:Int)∧m= .int .i64 ((atE (L.lks.take n) x).length:Int)∧Keeps (·=q+1+1+1) W wr∧Blk wr (q+1+1+1) 196 (lnkC (lastK (atE (L.lks.take n) x)))) (fun _ j _=>i-(intOf j).toNat)
 case atStart=>exact⟨0,by omega,rfl,by simp[atE],Keeps.refl _ _,B3.out⟩
 case round=>
  obtain⟨n,hn,rfl,rfl,hkw,hbl⟩:=hrel
  have HB:=Lib.hid hbl
  have KW:=Lib.hid hkw
  have B0':=Lib.hid (B0.out.kept hkw (by omega))
  have B1':=Lib.hid (B1.out.kept hkw (by omega))
  have B2':=Lib.hid (B2.out.kept hkw (by omega))
  have KA':Hid (KeepsAll w wr):=KA.out.trans hkw (fun x hx e=>by have:=HQ.out;omega)
  have hlen:(atE (L.lks.take n) x).length≤n:=by
   have l1:(atE (L.lks.take n) x).length≤(L.lks.take n).length:=List.length_filter_le _ _
   rw[List.length_take]at l1
   omega
  have q3:=B0'.out.cell 3
  have x0:=B1'.out.cell 0
  have x1:=B1'.out.cell 1
  simp at q3 x0 x1
  have hq3:=HB.out.lt
  clear hkw hbl B3 B0 B1 B2
  by_cases hlt:n<i
  ·obtain⟨b1,o1,j,e1,hb1,hj,m0,m1,m2,m3,m4,m5⟩:=HL.out.lks.atO KA'.out (k:=n) (by omega)
   injection e1 with e1
   injection e1 with e1 e1'
   subst e1 e1'
   have hnl:n<L.lks.length:=by omega
   have HT:Hid (atE (L.lks.take (n+1)) x=if hasE j x=true then atE (L.lks.take n) x++ [j]else atE (L.lks.take n) x):=by
    show _=_
    rw[List.take_add_one,hj,Option.toList_some,atE_snoc]
   clear hj
   go_wp2_with fail
   refine wp_region_lexB (fun w'=>∃x:Ext wr,w'=x.val) [0,1,2,3,4,5,6] (by kernel_rfl) (by kernel_rfl) ⟨⟨_,(Keeps.refl _ _).drew⟩,rfl⟩ ?_
   have y0:=Ext.cell q3
   have y1:=Ext.cell x0
   have y2:=Ext.cell x1
   have y3:=Ext.cell m0
   have y4:=Ext.cell m1
   have y5:=Ext.cell m2
   have y6:=Ext.cell m3
   have y7:=Ext.cell m4
   have y8:=Ext.cell m5
   iterate 6 (refine lex_q _ rfl rfl rfl ?_;go_big_quiet_step (fail);refine wpQuiet_nil ?_)
   refine lex_a _ rfl rfl false (by kernel_rfl) ?_
   go_wp2_with fail
   refine(has_any j x _).mono ?_
   rintro e w1 ⟨rfl,k1⟩
   have K1:Hid (KeepsAll wr w1):=((Keeps.refl _ _).drew).trA k1
   clear y0 y1 y2 y3 y4 y5 y6 y7 y8 k1
   go_wp2_with fail
   (try refine⟨fun h=>(by cases h),?_⟩)
   simp only[wpLex]
   refine NoPanic.normal ?_
   have B0'':=Lib.hid (B0'.out.kept K1.out (by simp))
   have HB1:=Lib.hid (HB.out.kept K1.out (by simp))
   have KA1:=Lib.hid (KA'.out.trA K1.out)
   have KW1:=Lib.hid (KW.out.trans K1.out (fun _ _ h=>h.elim))
   clear q3 x0 x1 m0 m1 m2 m3 m4 m5
   cases gh:hasE j x with
   |false=>
    rw[gh]at HT
    go_wp2_with fail
    go_roundw
    case rel=>
     have e:atE (L.lks.take (n+1)) x=atE (L.lks.take n) x:=by rw[HT.out];simp
     exact⟨n+1,by omega,by go_num,by rw[e],KW1.out,by rw[e];exact HB1.out⟩
    case measure=>simp[intOf];omega
   |true=>
    rw[gh]at HT
    obtain⟨b2,o2,j2,e1,hb2,hj2,m0,m1,m2,m3,m4,m5⟩:=HL.out.lks.atO KA1.out (k:=n) (by omega)
    injection e1 with e1
    injection e1 with e1 e1'
    subst e1 e1'
    obtain rfl:j2=j:=by
     obtain⟨_,_,j3,_,_,hj3,_⟩:=HL.out.lks.at_ (k:=n) (by omega)
     have:=HT.out
     rw[List.take_add_one,hj2,Option.toList_some,atE_snoc]at this
     split at this
     ·simpa using this
     ·simp at this
    have q3:=B0''.out.cell 3
    have z0:=HB1.out.cell 0
    have z1:=HB1.out.cell 1
    have z2:=HB1.out.cell 2
    have z3:=HB1.out.cell 3
    have z4:=HB1.out.cell 4
    have z5:=HB1.out.cell 5
    simp[lnkC]at q3 z0 z1 z2 z3 z4 z5
    have f0:=HB1.out.frozen 0
    have f1:=HB1.out.frozen 1
    have f2:=HB1.out.frozen 2
    have f3:=HB1.out.frozen 3
    have f4:=HB1.out.frozen 4
    have f5:=HB1.out.frozen 5
    have hq1:=HB1.out.lt
    clear hj2
    go_wp2_with fail
    go_roundw
    case rel=>
     have e:atE (L.lks.take (n+1)) x=atE (L.lks.take n) x++ [j2]:=by rw[HT.out];simp
     refine⟨n+1,by omega,by go_num,by rw[e];simp,?_,by rw[e,lastK_snoc];exact blk_put6 HB1.out⟩
     refine Keeps.setCell (Keeps.setCell (Keeps.setCell (Keeps.setCell (Keeps.setCell (Keeps.setCell KW1.out ?_ _) ?_ _) ?_ _) ?_ _) ?_ _) ?_ _<;>exact fun _=>rfl
    case measure=>simp[intOf];omega
  ·obtain rfl:n=i:=by omega
   have z0:=B2'.out.cell 4
   have z1:=B2'.out.cell 5
   have z2:=HB.out.cell 4
   have z3:=HB.out.cell 5
   simp[lnkC]at z0 z1 z2 z3
   have hb2:=B2'.out.lt
   go_wp2
   all_goals
    go_ret
    refine⟨congrArg (fun b=>Ending.returned (Value.bool b)) ?_,KA'.out⟩
    rw[EF.out,Bool.eq_iff_iff]
    clear EF HB B2' KA' KW HL HK B0' B1' z0 z1 z2 z3
    simp only[←List.length_eq_zero_iff]at*
    simp only[decide_eq_true_eq,ne_eq,bne_iff_ne,Bool.false_eq_true,true_iff,false_iff]
    first|omega|(simp;omega)
end
section
open Go.RowKit
section
variable {P:Program} {l:List Oper} {Q:Exit→Act→World→Prop} {K:Act→World→Prop} {C:World→Prop} {need:Nat→Bool}
theorem lex_skip {i:Nat} {r:List Nat} {a:Act} {w:World} (o:Oper) (ho:l[i]? =some o) (ha:actOp o.op=false) (hg:Region.wanted o (yielded l.toArray a.tmps)=false)
  (h:wpLex P l.toArray Q C (actAt l) need r (a.put o.dst undef) w):wpLex P l.toArray Q C (actAt l) need (i::r) a w:=by
 have haf:actAt l i=false:=by simp[actAt,ho,ha]
 simp only[wpLex,haf]
 rw[if_neg (by simp)]
 exact⟨o,_,by simpa using ho,.inr ⟨hg,rfl⟩,h⟩
theorem lex_skipa {i:Nat} {r:List Nat} {a:Act} {w:World} (o:Oper) (ho:l[i]? =some o) (ha:actOp o.op=true) (hg:Region.wanted o (yielded l.toArray a.tmps)=false) (hC:C w)
  (h:wpLex P l.toArray Q C (actAt l) need r (a.put o.dst undef) w):wpLex P l.toArray Q C (actAt l) need (i::r) a w:=by
 have haf:actAt l i=true:=by simp[actAt,ho,ha]
 simp only[wpLex,haf,if_true]
 unfold wpOp
 simp only[List.getElem?_toArray,ho]
 rw[if_neg (by rw[hg];simp)]
 exact⟨fun _=>hC,h⟩
end
end
section
open Go.RowKit
set_option maxRecDepth 100000 in
set_option maxHeartbeats 4000000 in
theorem linkError_any (L:Lay) (v:LV) (i:Nat) (k:Lnk) (w:World) (h:RLay w (Old w) v L) (hk:L.lks[i]? =some k):
  Calls Tryz.prog 101 #[.agg (v.cs L),.int .i64 (i:Int)] w fun e w'=>e= .returned (.int .i64 (lnkErr L (L.lks.take i) k))∧KeepsAll w w':=by
 have hc2:=h.pts.caps
 have hc3:=h.secs.caps
 have hc4:=h.lks.caps
 have hi:=(List.getElem?_eq_some_iff.1 hk).1
 have HL:=Lib.hid h;clear h
 have HK:=Lib.hid hk;clear hk
 obtain⟨b,o,k',e4,hb,hk',c0,c1,c2,c3,c4,c5⟩:=HL.out.lks.at_ hi
 obtain rfl:k'=k:=Option.some.inj (hk'.symm.trans HK.out)
 have hb':b<w.heap.size:=hb
 obtain⟨A1,A2,A3,A4,u1,u2,u3,u4⟩:=v
 simp only[]at e4 hc4 hc3 hc2
 subst e4
 clear hk' hb
 unfold LV.cs
 simp only[]
 cases g1:lnkOk L k' with
 |false=>
  have E:Hid (lnkErr L (L.lks.take i) k'=4):=by show _=_;simp[lnkErr,g1]
  have g2:=g1
  simp only[lnkOk,decide_eq_false_iff_not]at g2
  go_enter Tryz.func101,Tryz.ntmps101
  go_wp2_with(go_at_call 100;refine(in1_any _ _ _ _).mono ?_;rintro e w' ⟨rfl,rfl⟩)
  all_goals
   go_ret
   refine⟨by rw[E.out];rfl,?_⟩
   repeat first|exact Keeps.refl _ _|refine Keeps.alloc ?_ _
 |true=>
  have g2:=g1
  simp only[lnkOk,decide_eq_true_eq]at g2
  obtain⟨r1,r2,r3,r4,r5,r6,r7,r8,r9⟩:=g2
  go_enter Tryz.func101,Tryz.ntmps101
  go_upto_region 3 with fail
  generalize hW0:World.alloc (World.alloc w _) _=W0
  have K0:Hid (KeepsAll w W0):=by subst hW0;exact((Keeps.refl _ _).alloc _).alloc _
  have B0:Hid (Blk W0 w.heap.size 27 #[.slice A1 L.sts.length u1,.slice A2 L.pts.length u2,.slice A3 L.secs.length u3,.slice (some ⟨b,o,none⟩) L.lks.length u4]):=by subst hW0;exact(Blk.new _ _ _).alloc _
  have B1:Hid (Blk W0 (w.heap.size+1) 196 (lnkC k')):=by subst hW0;exact Blk.new' (World.alloc w _) 196 (lnkC k') (by simp)
  clear hW0 c0 c1 c2 c3 c4 c5
  have m0:=B0.out.cell 1
  have f0:=B1.out.cell 0
  have f1:=B1.out.cell 1
  have f2:=B1.out.cell 2
  have f3:=B1.out.cell 3
  have f4:=B1.out.cell 4
  have f5:=B1.out.cell 5
  simp[lnkC]at m0 f0 f1 f2 f3 f4 f5
  have hb0:=B0.out.lt
  have hb1:=B1.out.lt
  go_cut [69]from 10 (fun s wx=>s= .bool false∧wx=W0)
  case first=>
   have d1:decide (0≤k'.a∧k'.a≤(L.secs.length:Int)-1)=true:=by simp;omega
   have d2:decide (0≤k'.b∧k'.b≤(L.secs.length:Int)-1)=true:=by simp;omega
   have d3:decide (0≤k'.ae∧k'.ae≤1)=true:=by simp;omega
   have d4:decide (0≤k'.be∧k'.be≤1)=true:=by simp;omega
   have d5:decide (-1≤k'.pt∧k'.pt≤(L.pts.length:Int)-1)=true:=by simp;omega
   have d6:decide (0≤k'.ps∧k'.ps≤1)=true:=by simp;omega
   have d7:k'.pt<0→k'.ps=0:=by omega
   go_wp2_with(go_at_call 100;refine(in1_any _ _ _ _).mono ?_;rintro e w' ⟨rfl,rfl⟩)
   all_goals go_meet
   all_goals exact⟨rfl,rfl⟩
  case rest=>
   obtain⟨rfl,rfl⟩:=hcut
   go_upto_region 5 with fail
   go_cut [7,8]from 10 (fun s7 s8 wx=>∃za zb:Nat,s7= .pointer (some ⟨za,0,none⟩)∧s8= .pointer (some ⟨zb,0,none⟩)∧Blk wx za 308 (endC (k'.a,k'.ae))∧Blk wx zb 308 (endC (k'.b,k'.be))∧KeepsAll wc wx)
   case first=>
    refine wp_region_fork (fun w'=>∃x:Ext wc,w'=x.val) [0,1,2,3,4,5,6,7,8,9] [12,13] 10 11 (by kernel_rfl) (by kernel_rfl) ⟨⟨_,(Keeps.refl _ _).drew⟩,rfl⟩ ?_
    have y0:=Ext.cell f0
    have y1:=Ext.cell f1
    have y2:=Ext.cell f2
    have y3:=Ext.cell f3
    iterate 10 (refine lexK_q _ rfl rfl rfl ?_;go_big_quiet_step (fail);refine wpQuiet_nil ?_)
    clear y0 y1 y2 y3 f0 f1 f2 f3
    have KD:KeepsAll wc wc.drew:=(Keeps.refl _ _).drew
    generalize wc.drew=wd at*
    refine⟨?_,?_⟩
    all_goals (refine lex_a _ rfl rfl true (by kernel_rfl) ?_)
    all_goals go_wp2
    all_goals (refine⟨fun _=>⟨⟨_,KD.alloc _⟩,rfl⟩,?_⟩)
    all_goals (refine lex_a _ rfl rfl true (by kernel_rfl) ?_)
    all_goals go_wp2
    all_goals (refine⟨fun _=>⟨⟨_,(KD.alloc _).alloc _⟩,rfl⟩,?_⟩)
    all_goals (refine lex_a _ rfl rfl true (by kernel_rfl) ?_)
    all_goals go_wp2
    all_goals (refine⟨fun _=>⟨⟨_,(KD.alloc _).alloc _⟩,rfl⟩,?_⟩)
    all_goals (refine lex_a _ rfl rfl false (by kernel_rfl) ?_)
    all_goals go_wp2
    all_goals (refine⟨fun h=>(by cases h),?_⟩)
    all_goals simp only[wpLex]
    all_goals (refine NoPanic.normal ?_)
    all_goals go_wp2_with fail
    all_goals go_meet
    ·exact⟨_,_,rfl,rfl,(Blk.new wd 308 (endC (k'.a,k'.ae))).alloc _,Blk.new' (World.alloc wd _) 308 (endC (k'.b,k'.be)) (by simp),(KD.alloc _).alloc _⟩
    ·exact⟨_,_,rfl,rfl,Blk.new' (World.alloc wd _) 308 (endC (k'.a,k'.ae)) (by simp),(Blk.new wd 308 (endC (k'.b,k'.be))).alloc _,(KD.alloc _).alloc _⟩
   case rest=>
    obtain⟨za,zb,rfl,rfl,ha,hb,kx⟩:=hcut
    have H2:=Lib.hid ha
    have H3:=Lib.hid hb
    have C0:=Lib.hid (B0.out.kept kx (by simp))
    have C1:=Lib.hid (B1.out.kept kx (by simp))
    have KW:=Lib.hid (K0.out.trA kx)
    clear ha hb kx m0 f0 f1 f2 f3 f4 f5 hb0 hb1 B0 B1 K0
    generalize hWc:wc=W at*
    have z0:=(H2.out.cell 0).trans (by rfl:_=some (.int .i64 k'.a))
    have z1:=(H2.out.cell 1).trans (by rfl:_=some (.int .i64 k'.ae))
    have z2:=(H3.out.cell 0).trans (by rfl:_=some (.int .i64 k'.b))
    have z3:=(H3.out.cell 1).trans (by rfl:_=some (.int .i64 k'.be))
    by_cases gab:(k'.a,k'.ae)=(k'.b,k'.be)
    ·have E:Hid (lnkErr L (L.lks.take i) k'=1):=by show _=_;simp[lnkErr,g1,gab]
     have ga:=congrArg Prod.fst gab
     have gb:=congrArg Prod.snd gab
     simp only[]at ga gb
     clear gab
     go_wp2_with fail
     go_ret
     exact⟨by rw[E.out];rfl,KW.out⟩
    have GAB:=Lib.hid gab
    have EK:Hid (lnkErr L (L.lks.take i) k'=if((L.lks.take i).any fun j=>hasE j (k'.a,k'.ae)&&hasE j (k'.b,k'.be))=true then 5 else if fitsE k' (atE (L.lks.take i) (k'.a,k'.ae))=false∨fitsE k' (atE (L.lks.take i) (k'.b,k'.be))=false then 11 else 0):=by
     show _=_
     unfold lnkErr
     rw[if_neg (by simp[g1]),if_neg gab]
    clear gab
    go_upto_region 6 with fail
    go_cut [82]from 10 (fun s wx=>s= .bool false∧wx=W)
    case first=>
     have gne:¬(k'.a=k'.b∧k'.ae=k'.be):=fun h=>GAB.out (by rw[h.1,h.2])
     go_wp2_with fail
     all_goals go_meet
     all_goals exact⟨rfl,rfl⟩
    case rest=>
     obtain⟨rfl,rfl⟩:=hcut
     go_wp2_with fail
     go_loopw [4,9] (fun r j wr=>∃n:Nat,n≤i∧j= .int .i64 (n:Int)∧r= .int .i64 0∧((L.lks.take n).any fun j=>hasE j (k'.a,k'.ae)&&hasE j (k'.b,k'.be))=false∧KeepsAll wc wr) (fun _ j _=>i-(intOf j).toNat)
     case atStart=>exact⟨0,by omega,rfl,rfl,rfl,Keeps.refl _ _⟩
     case round=>
      obtain⟨n,hn,rfl,rfl,hany,hkw⟩:=hrel
      have HA:=Lib.hid hany
      have HKW:=Lib.hid hkw
      have KWW:=Lib.hid (KW.out.trA hkw)
      have D0:=Lib.hid (C0.out.kept hkw (by simp))
      have D2:=Lib.hid (H2.out.kept hkw (by simp))
      have D3:=Lib.hid (H3.out.kept hkw (by simp))
      have z0:=(D2.out.cell 0).trans (by rfl:_=some (.int .i64 k'.a))
      have z1:=(D2.out.cell 1).trans (by rfl:_=some (.int .i64 k'.ae))
      have z2:=(D3.out.cell 0).trans (by rfl:_=some (.int .i64 k'.b))
      have z3:=(D3.out.cell 1).trans (by rfl:_=some (.int .i64 k'.be))
      have q0:=D0.out.cell 0
      have q1:=D0.out.cell 1
      have q2:=D0.out.cell 2
      have q3:=D0.out.cell 3
      simp at q0 q1 q2 q3
      have hq0:=D0.out.lt
      have hq2:=D2.out.lt
      have hq3:=D3.out.lt
      clear hany hkw
      by_cases hlt:n<i
      ·obtain⟨b1,o1,j,e1,hb1,hj,m0,m1,m2,m3,m4,m5⟩:=HL.out.lks.atO KWW.out (k:=n) (by omega)
       injection e1 with e1
       injection e1 with e1 e1'
       subst e1 e1'
       have hnl:n<L.lks.length:=by omega
       have HT:Hid (((L.lks.take (n+1)).any fun j=>hasE j (k'.a,k'.ae)&&hasE j (k'.b,k'.be))=(hasE j (k'.a,k'.ae)&&hasE j (k'.b,k'.be))):=by
        show _=_
        rw[List.take_add_one,hj,Option.toList_some,List.any_append,HA.out]
        simp
       have HYES:Hid ((hasE j (k'.a,k'.ae)&&hasE j (k'.b,k'.be))=true→((L.lks.take i).any fun j=>hasE j (k'.a,k'.ae)&&hasE j (k'.b,k'.be))=true):=fun hh=>by
        rw[List.any_eq_true]
        exact⟨j,List.mem_of_getElem? (by rw[List.getElem?_take_of_lt hlt];exact hj),hh⟩
       clear hj
       go_wp2_with fail
       refine wp_region_lexB (fun w'=>∃x:Ext wr,w'=x.val) [0,1,2,3,4,5,6,7,8,9,10,11,12,13,14,15] (by kernel_rfl) (by kernel_rfl) ⟨⟨_,(Keeps.refl _ _).drew⟩,rfl⟩ ?_
       have y0:=Ext.cell q3
       have y1:=Ext.cell z0
       have y2:=Ext.cell z1
       have y3:=Ext.cell z2
       have y4:=Ext.cell z3
       have y5:=Ext.cell m0
       have y6:=Ext.cell m1
       have y7:=Ext.cell m2
       have y8:=Ext.cell m3
       have y9:=Ext.cell m4
       have y10:=Ext.cell m5
       iterate 6 (refine lex_q _ rfl rfl rfl ?_;go_big_quiet_step (fail);refine wpQuiet_nil ?_)
       refine lex_a _ rfl rfl true (by kernel_rfl) ?_
       go_wp2_with fail
       refine(has_any j (k'.a,k'.ae) _).mono ?_
       cases g5:hasE j (k'.a,k'.ae)
       ·rintro e w1 ⟨rfl,k1⟩
        have K1:Hid (KeepsAll wr w1):=((Keeps.refl _ _).drew).trA k1
        go_wp2_with fail
        refine⟨fun _=>⟨⟨_,K1.out⟩,rfl⟩,?_⟩
        refine lex_q _ rfl rfl rfl ?_;go_big_quiet_step (fail);refine wpQuiet_nil ?_
        iterate 6 (refine lex_skip _ rfl rfl rfl ?_;go_simp)
        refine lex_skipa _ rfl rfl rfl ⟨⟨_,K1.out⟩,rfl⟩ ?_;go_simp
        refine lex_q _ rfl rfl rfl ?_;go_big_quiet_step (fail);refine wpQuiet_nil ?_
        clear y0 y1 y2 y3 y4 y5 y6 y7 y8 y9 y10 k1
        rw[g5]at HT
        simp only[wpLex]
        refine NoPanic.normal ?_
        go_wp2_with fail
        go_roundw
        case rel=>exact⟨n+1,by omega,by go_num,rfl,by rw[HT.out];rfl,HKW.out.trA K1.out⟩
        case measure=>simp[intOf];omega
       ·rintro e w1 ⟨rfl,k1⟩
        have K1:Hid (KeepsAll wr w1):=((Keeps.refl _ _).drew).trA k1
        go_wp2_with fail
        refine⟨fun _=>⟨⟨_,K1.out⟩,rfl⟩,?_⟩
        iterate 7 (refine lex_q _ rfl rfl rfl ?_;go_big_quiet_step (fail);refine wpQuiet_nil ?_)
        refine lex_a _ rfl rfl true (by kernel_rfl) ?_
        go_wp2_with fail
        refine(has_any j (k'.b,k'.be) _).mono ?_
        rintro e w2 ⟨rfl,k2⟩
        have K2:Hid (KeepsAll wr w2):=K1.out.trA k2
        go_wp2_with fail
        refine⟨fun _=>⟨⟨_,K2.out⟩,rfl⟩,?_⟩
        refine lex_q _ rfl rfl rfl ?_;go_big_quiet_step (fail);refine wpQuiet_nil ?_
        clear y0 y1 y2 y3 y4 y5 y6 y7 y8 y9 y10 k1 k2
        rw[g5]at HT HYES
        simp only[wpLex]
        refine NoPanic.normal ?_
        cases g6:hasE j (k'.b,k'.be)
        ·rw[g6]at HT
         go_wp2_with fail
         go_roundw
         case rel=>exact⟨n+1,by omega,by go_num,rfl,by rw[HT.out];rfl,HKW.out.trA K2.out⟩
         case measure=>simp[intOf];omega
        ·rw[g6]at HYES
         go_wp2_with fail
         go_ret
         exact⟨by rw[EK.out,if_pos (HYES.out rfl)];rfl,KWW.out.trA K2.out⟩
      ·obtain rfl:n=i:=by omega
       have HL2:Hid (RLay wr (Old wr) ⟨A1,A2,A3,some ⟨b,o,none⟩,u1,u2,u3,u4⟩ L):=⟨KWW.out.rdA RStrs.ok HL.out.sts,KWW.out.rdA RStrs.ok HL.out.pts,KWW.out.rdA (RSlice.ok RSec.ok) HL.out.secs,KWW.out.rdA (RSlice.ok RLnk.ok) HL.out.lks⟩
       cases g7:fitsE k' (atE (L.lks.take n) (k'.a,k'.ae))
       ·go_wp2_with(go_at_call 186;refine(free_any L ⟨A1,A2,A3,some ⟨b,o,none⟩,u1,u2,u3,u4⟩ n k' (k'.a,k'.ae) _ HL2.out HK.out r7).mono ?_;rw[g7];rintro e w1 ⟨rfl,k1⟩)
        go_ret
        exact⟨by rw[EK.out,HA.out,g7];rfl,KWW.out.trA k1⟩
       ·go_wp2_with fail
        refine(free_any L ⟨A1,A2,A3,some ⟨b,o,none⟩,u1,u2,u3,u4⟩ n k' (k'.a,k'.ae) _ HL2.out HK.out r7).mono ?_
        rw[g7]
        rintro e w1 ⟨rfl,k1⟩
        have KW1:=Lib.hid (KWW.out.trA k1)
        have HL3:Hid (RLay w1 (Old w1) ⟨A1,A2,A3,some ⟨b,o,none⟩,u1,u2,u3,u4⟩ L):=HL2.out.kept k1
        have p0:=k1.cellA hq0 q0
        have p1:=k1.cellA hq0 q1
        have p2:=k1.cellA hq0 q2
        have p3:=k1.cellA hq0 q3
        have s2:=k1.cellA hq3 z2
        have s3:=k1.cellA hq3 z3
        clear k1 q0 q1 q2 q3 z0 z1 z2 z3
        go_wp2_with fail
        refine(free_any L ⟨A1,A2,A3,some ⟨b,o,none⟩,u1,u2,u3,u4⟩ n k' (k'.b,k'.be) _ HL3.out HK.out r7).mono ?_
        cases g8:fitsE k' (atE (L.lks.take n) (k'.b,k'.be))
        ·rintro e w2 ⟨rfl,k2⟩
         go_wp2_with fail
         go_ret
         exact⟨by rw[EK.out,HA.out,g7,g8];rfl,KW1.out.trA k2⟩
        ·rintro e w2 ⟨rfl,k2⟩
         go_wp2_with fail
         go_ret
         exact⟨by rw[EK.out,HA.out,g7,g8];rfl,KW1.out.trA k2⟩
end
section
open Go.RowKit
theorem tyStr:ElemTy Tryz.prog 23 9 1 16:= .mk' Tryz.underlying23 (z:= .string ⟨#[]⟩) (by kernel_rfl) rfl (by omega)
set_option maxRecDepth 100000 in
set_option maxHeartbeats 2000000 in
theorem sectionNames_any (L:Lay) (v:LV) (w:World) (h:RLay w (Old w) v L) (h3:L.secs.length≤96):
  Calls Tryz.prog 99 #[.agg (v.cs L)] w fun e w'=>KeepsAll w w'∧∃A c,e= .returned (.slice A L.secs.length c)∧RStrs w' (Old w') [.slice A L.secs.length c] (L.secs.map (·.name)):=by
 have hc3:=h.secs.caps
 have HL:=Lib.hid h;clear h
 obtain⟨A1,A2,A3,A4,u1,u2,u3,u4⟩:=v
 simp only[]at hc3
 unfold LV.cs
 simp only[]
 go_enter Tryz.func99,Tryz.ntmps99
 go_wp2_with fail
 generalize hW:World.alloc w _=W
 have K0:Hid (KeepsAll w W):=by subst hW;exact(Keeps.refl _ _).alloc _
 have B0:Hid (Blk W w.heap.size 27 #[.slice A1 L.sts.length u1,.slice A2 L.pts.length u2,.slice A3 L.secs.length u3,.slice A4 L.lks.length u4]):=by subst hW;exact Blk.new _ _ _
 clear hW
 generalize w.heap.size=q at B0⊢
 go_loopw [3,4] (fun s j wr=>∃n:Nat,n≤L.secs.length∧j= .int .i64 (n:Int)∧OwnL 9 1 RStr wr W.heap.size W.heap.size s ((L.secs.take n).map (·.name))∧KeepsAll W wr) (fun _ j _=>L.secs.length-(intOf j).toNat)
 case atStart=>exact⟨0,by omega,rfl,OwnL.nil,Keeps.refl _ _⟩
 case round=>
  obtain⟨n,hn,rfl,ho,hk⟩:=hrel
  obtain⟨As,cs,rfl,hs1,hs2⟩:=ho.form
  have HO:=Lib.hid ho
  have HK:=Lib.hid hk
  have KW:=Lib.hid (K0.out.trA hk)
  have B:=Lib.hid (B0.out.kept hk (by simp))
  have q2:=B.out.cell 2
  simp at q2
  have hq:=B.out.lt
  have hsz:=hk.size
  clear ho hk
  have hlen:((L.secs.take n).map (·.name)).length=n:=by simp;omega
  by_cases hlt:n<L.secs.length
  ·obtain⟨b,o,x,rfl,hb,hx,m0,-,-,-,-⟩:=HL.out.secs.atO KW.out hlt
   have HT:Hid ((L.secs.take (n+1)).map (·.name)=(L.secs.take n).map (·.name)++ [x.name]):=by show _=_;rw[List.take_add_one,hx];simp
   have hL96:((L.secs.take n).map (·.name)).length≤1000:=by omega
   clear hx
   generalize (L.secs.take n).map (·.name)=l at*
   go_wp2_with(at_builtin;go_loud(have KB:KeepsAll wr (wr.alloc (.cells #[.string (mkS x.name)] 9)):=(Keeps.refl _ _).alloc _;refine wpList_append_L tyStr RStr.ok rfl (.tmp 12) (.tmp 19) rfl (HO.out.keepsT RStr.flt KB (by simp)) rfl _ [.string (mkS x.name)] rfl (Blk.new wr 9 #[.string (mkS x.name)]) rfl x.name (S:=fun _=>False) rfl (fun _ h=>h.elim) (by simp[Value.oneCell']) (by omega) (by omega) (Nat.le_trans hsz KB.size) ?_;intro v9 w9 HO9 HK9 HA9))
   refine⟨⟨n+1,by omega,by go_num,by rw[HT.out];exact HO9,(HK.out.alloc _).trans HK9 (fun x hx e=>by have:=HO.out.lt e;omega)⟩,by simp[intOf];omega⟩
  ·obtain rfl:n=L.secs.length:=by omega
   go_wp2
   go_ret
   refine⟨KW.out,As,cs,?_,?_⟩
   ·show Ending.returned (Value.slice As _ cs)=_
    rw[hlen]
   ·have h9:=HO.out.readT RStr.flt (S:=Old wr) (fun b hb=>(HO.out.lt hb).2)
    rw[hlen,List.take_length]at h9
    exact h9
set_option maxRecDepth 100000 in
set_option maxHeartbeats 4000000 in
theorem rlayCheck_any (L:Lay) (v:LV) (w:World) (h:RLay w (Old w) v L) (hlen:LayLen L):
  Calls Tryz.prog 33 #[.agg (v.cs L)] w fun e w'=>e= .returned (.int .i64 (layErr L))∧KeepsAll w w':=by
 have hc1:=h.sts.caps
 have hc2:=h.pts.caps
 have hc3:=h.secs.caps
 have hc4:=h.lks.caps
 have HL:=Lib.hid h;clear h
 have HN:=Lib.hid hlen;clear hlen
 obtain⟨A1,A2,A3,A4,cc1,cc2,cc3,cc4⟩:=v
 simp only[]at hc1 hc2 hc3 hc4
 unfold LV.cs
 simp only[]
 by_cases g1:24<L.sts.length∨48<L.pts.length∨96<L.secs.length∨192<L.lks.length
 ·have E:layErr L=7:=by unfold layErr;rw[if_pos g1]
  rw[E]
  go_enter Tryz.func33,Tryz.ntmps33
  go_wp2_with fail
  all_goals first|(go_ret;exact⟨rfl,(Keeps.refl _ _).alloc _⟩)|(exfalso;omega)
 by_cases g2:L.secs.length=0
 ·have E:layErr L=1:=by unfold layErr;rw[if_neg g1,if_pos (List.eq_nil_of_length_eq_zero g2)]
  rw[E]
  have g3:L.sts.length≤24∧L.pts.length≤48∧L.lks.length≤192:=by omega
  obtain⟨g31,g32,g33⟩:=g3
  go_enter Tryz.func33,Tryz.ntmps33
  go_wp2_with fail
  all_goals first|(go_ret;exact⟨rfl,(Keeps.refl _ _).alloc _⟩)|(exfalso;omega)
 have E:Hid (layErr L=layRest L 0):=layErr_rest L g1 (fun e=>g2 (by rw[e];rfl))
 have g3:L.sts.length≤24∧L.pts.length≤48∧L.secs.length≤96∧L.lks.length≤192:=by omega
 obtain⟨g31,g32,g33,g34⟩:=g3
 rw[E.out]
 clear g1
 go_enter Tryz.func33,Tryz.ntmps33
 go_wp2_with fail
 have hz0:((L.secs.length:Int)==0)=false:=beq_false_of_ne (by omega)
 rw[hz0]
 generalize hW:World.alloc w _=W
 have K0:Hid (KeepsAll w W):=by subst hW;exact(Keeps.refl _ _).alloc _
 have HB:Hid (Blk W w.heap.size 27 #[.slice A1 L.sts.length cc1,.slice A2 L.pts.length cc2,.slice A3 L.secs.length cc3,.slice A4 L.lks.length cc4]):=by subst hW;exact Blk.new _ _ _
 clear hW
 generalize w.heap.size=q at HB⊢
 go_loopw [2,3] (fun r j wr=>∃n:Nat,n≤L.sts.length∧j= .int .i64 (n:Int)∧r= .int .i64 0∧namesErr [] L.sts=namesErr (L.sts.take n) (L.sts.drop n)∧KeepsAll W wr) (fun _ j _=>L.sts.length-(intOf j).toNat)
 case atStart=>exact⟨0,by omega,rfl,rfl,rfl,Keeps.refl _ _⟩
 case round=>
  obtain⟨n,hn,rfl,rfl,herr,hk⟩:=hrel
  have HE:=Lib.hid herr
  have HK:=Lib.hid hk
  have KW:=Lib.hid (K0.out.trA hk)
  have B:=Lib.hid (HB.out.kept hk (by simp))
  have q0:=B.out.cell 0
  simp at q0
  have hq:=B.out.lt
  clear herr hk
  by_cases hlt:n<L.sts.length
  ·obtain⟨x,hx⟩:∃x,L.sts[n]? =some x:=⟨_,List.getElem?_eq_getElem hlt⟩
   have HX:=Lib.hid hx
   have HNA:=Lib.hid (namesErr_at L.sts n x hx)
   have hxl:=HN.out.sts x (List.mem_of_getElem? hx)
   clear hx
   by_cases gz:nameErr (L.sts.take n) x=0
   ·have GZ:=Lib.hid gz
    go_wp2_with(go_at_call 98;refine(names_any L.sts A1 cc1 n x _ (KW.out.rdA RStrs.ok HL.out.sts) HX.out hxl).mono ?_;rw[GZ.out];rintro e w' ⟨rfl,kk⟩)
    go_roundw
    case rel=>exact⟨n+1,by omega,by go_num,rfl,by rw[HE.out,HNA.out,if_neg (fun h=>h GZ.out)],HK.out.trA kk⟩
    case measure=>simp[intOf];omega
   ·have E2:Hid (layRest L 0=nameErr (L.sts.take n) x):=by
     show _=_
     have:namesErr [] L.sts=nameErr (L.sts.take n) x:=by rw[HE.out,HNA.out,if_pos gz]
     unfold layRest
     rw[if_pos ⟨rfl,by rw[this];exact gz⟩,this]
    generalize hz:nameErr (L.sts.take n) x=z at*
    have hz':(z !=0)=true:=by simpa using gz
    clear HNA
    go_wp2_with(go_at_call 98;refine(names_any L.sts A1 cc1 n x _ (KW.out.rdA RStrs.ok HL.out.sts) HX.out hxl).mono ?_;rw[hz];rintro e w' ⟨rfl,kk⟩)
    go_ret
    exact⟨by rw[E2.out];rfl,KW.out.trA kk⟩
  ·obtain rfl:n=L.sts.length:=by omega
   have E1:Hid (layRest L 0=layRest L 1):=by
    show _=_
    have:namesErr [] L.sts=0:=by rw[HE.out,List.drop_length];rfl
    rw[layRest_step L (by omega:(0:Nat)<2)]
    simp[nmL,this]
   clear HE
   obtain⟨wo,hwo⟩:∃wo:World,wo=wr:=⟨_,rfl⟩
   rw[←hwo]at HK KW B q0 hq⊢
   clear hwo
   go_wp2_with fail
   clear q0 hq
   go_loopw [2,5] (fun r j wr=>∃n:Nat,n≤L.pts.length∧j= .int .i64 (n:Int)∧r= .int .i64 0∧namesErr [] L.pts=namesErr (L.pts.take n) (L.pts.drop n)∧KeepsAll wo wr) (fun _ j _=>L.pts.length-(intOf j).toNat)
   case atStart=>exact⟨0,by omega,rfl,rfl,rfl,Keeps.refl _ _⟩
   case round=>
    obtain⟨n,hn,rfl,rfl,herr,hk⟩:=hrel
    have HE:=Lib.hid herr
    have HK2:=Lib.hid hk
    have KW2:=Lib.hid (KW.out.trA hk)
    have B2:=Lib.hid (B.out.kept hk (by simp))
    have q1:=B2.out.cell 1
    simp at q1
    have hq:=B2.out.lt
    clear herr hk
    by_cases hlt:n<L.pts.length
    ·obtain⟨x,hx⟩:∃x,L.pts[n]? =some x:=⟨_,List.getElem?_eq_getElem hlt⟩
     have HX:=Lib.hid hx
     have HNA:=Lib.hid (namesErr_at L.pts n x hx)
     have hxl:=HN.out.pts x (List.mem_of_getElem? hx)
     clear hx
     by_cases gz:nameErr (L.pts.take n) x=0
     ·have GZ:=Lib.hid gz
      go_wp2_with(go_at_call 98;refine(names_any L.pts A2 cc2 n x _ (KW2.out.rdA RStrs.ok HL.out.pts) HX.out hxl).mono ?_;rw[GZ.out];rintro e w' ⟨rfl,kk⟩)
      go_roundw
      case rel=>exact⟨n+1,by omega,by go_num,rfl,by rw[HE.out,HNA.out,if_neg (fun h=>h GZ.out)],HK2.out.trA kk⟩
      case measure=>simp[intOf];omega
     ·have E2:Hid (layRest L 0=nameErr (L.pts.take n) x):=by
       show _=_
       have:namesErr [] L.pts=nameErr (L.pts.take n) x:=by rw[HE.out,HNA.out,if_pos gz]
       rw[E1.out]
       unfold layRest
       rw[if_neg (by simp),if_pos ⟨Nat.le_refl _,by rw[this];exact gz⟩,this]
      generalize hz:nameErr (L.pts.take n) x=z at*
      have hz':(z !=0)=true:=by simpa using gz
      clear HNA
      go_wp2_with(go_at_call 98;refine(names_any L.pts A2 cc2 n x _ (KW2.out.rdA RStrs.ok HL.out.pts) HX.out hxl).mono ?_;rw[hz];rintro e w' ⟨rfl,kk⟩)
      go_ret
      exact⟨by rw[E2.out];rfl,KW2.out.trA kk⟩
    ·obtain rfl:n=L.pts.length:=by omega
     have E3:Hid (layRest L 0=layRest L 2):=by
      show _=_
      have:namesErr [] L.pts=0:=by rw[HE.out,List.drop_length];rfl
      rw[E1.out,layRest_step L (by omega:(1:Nat)<2)]
      simp[nmL,this]
     have q0:=B2.out.cell 0
     have q2:=B2.out.cell 2
     have q3:=B2.out.cell 3
     simp at q0 q2 q3
     clear HE
     go_wp2_with fail
     refine(sectionNames_any L ⟨A1,A2,A3,A4,cc1,cc2,cc3,cc4⟩ _ (HL.out.kept KW2.out) g33).mono ?_
     rintro e w3 ⟨k3,A,c,rfl,hr⟩
     have HR:=Lib.hid hr
     have KW3:=Lib.hid (KW2.out.trA k3)
     have B3:=Lib.hid (B2.out.kept k3 (by simp))
     clear k3 hr q0 q1 q2 q3 hq
     go_wp2_with fail
     go_loopw [2,8] (fun r j wr=>∃n:Nat,n≤L.secs.length∧j= .int .i64 (n:Int)∧r= .int .i64 0∧secsErr L.sts.length [] L.secs=secsErr L.sts.length ((L.secs.take n).map (·.name)) (L.secs.drop n)∧KeepsAll w3 wr) (fun _ j _=>L.secs.length-(intOf j).toNat)
     case atStart=>exact⟨0,by omega,rfl,rfl,rfl,Keeps.refl _ _⟩
     case round=>
      obtain⟨n,hn,rfl,rfl,herr,hk⟩:=hrel
      have HE:=Lib.hid herr
      have HK4:=Lib.hid hk
      have KW4:=Lib.hid (KW3.out.trA hk)
      have B4:=Lib.hid (B3.out.kept hk (by simp))
      have q0:=B4.out.cell 0
      have q2:=B4.out.cell 2
      simp at q0 q2
      have hq:=B4.out.lt
      clear herr hk
      by_cases hlt:n<L.secs.length
      ·obtain⟨b,o,x,rfl,hb,hx,m0,m1,m2,m3,m4⟩:=HL.out.secs.atO KW4.out hlt
       have hxl:=HN.out.secs x (List.mem_of_getElem? hx)
       have HNA:=Lib.hid (secsErr_at L.sts.length L.secs n x hx)
       have HX:Hid ((L.secs.map (·.name))[n]? =some x.name):=by show _=_;rw[List.getElem?_map,hx];rfl
       have HR4:Hid (RStrs wr (Old wr) [.slice A (L.secs.map (·.name)).length c] (L.secs.map (·.name))):=by
        show RStrs _ _ _ _
        rw[List.length_map]
        exact HK4.out.rdA RStrs.ok HR.out
       have HT:Hid ((L.secs.map (·.name)).take n=(L.secs.take n).map (·.name)):=by show _=_;rw[List.map_take]
       have CN:=Lib.hid (names_any (L.secs.map (·.name)) A c n x.name wr HR4.out HX.out hxl)
       rw[List.length_map,HT.out]at CN
       clear hx HX HT HR4
       by_cases gz:nameErr ((L.secs.take n).map (·.name)) x.name=0
       ·have GZ:=Lib.hid gz
        rw[gz]at CN
        go_wp2_with fail
        refine CN.out.mono ?_
        rintro e w5 ⟨rfl,k5⟩
        have KW5:=Lib.hid (KW4.out.trA k5)
        have HK5:=Lib.hid (HK4.out.trA k5)
        have hb5:=Nat.lt_of_lt_of_le hb k5.size
        have hq5:=Nat.lt_of_lt_of_le hq k5.size
        have n0:=k5.cellA hb m0
        have n1:=k5.cellA hb m1
        have n2:=k5.cellA hb m2
        have n3:=k5.cellA hb m3
        have n4:=k5.cellA hb m4
        have p0:=k5.cellA hq q0
        have p2:=k5.cellA hq q2
        clear m0 m1 m2 m3 m4 q0 q2 k5 CN gz
        cases gs:secOk L.sts.length x with
        |false=>
         have E2:Hid (layRest L 0=4):=by
          show _=_
          rw[E3.out]
          have:secsErr L.sts.length [] L.secs=4:=by rw[HE.out,HNA.out,if_neg (fun h=>h GZ.out),if_pos gs]
          simp[layRest,this]
         simp only[secOk,decide_eq_false_iff_not]at gs
         go_wp2_with(go_at_call 100;refine(in1_any _ _ _ _).mono ?_;rintro e w' ⟨rfl,rfl⟩)
         all_goals first|(go_ret;exact⟨by rw[E2.out];rfl,KW5.out.alloc _⟩)|(exfalso;omega)|(exfalso;simp only[Bool.not_eq_false',decide_eq_true_eq]at*;omega)
        |true=>
         have gs2:=Lib.hid gs
         simp only[secOk,decide_eq_true_eq]at gs
         obtain⟨g1',g2',g3',g4',g5',g6',g7',g8'⟩:=gs
         have d1:decide (1≤x.len∧x.len≤400)=true:=by simp;omega
         have d2:decide (1000≤x.lim∧x.lim≤100000)=true:=by simp;omega
         have d3:decide (-40≤x.grd∧x.grd≤40)=true:=by simp;omega
         have d4:decide (-1≤x.sta∧x.sta≤(L.sts.length:Int)-1)=true:=by simp;omega
         go_wp2_with(go_at_call 100;refine(in1_any _ _ _ _).mono ?_;rintro e w' ⟨rfl,rfl⟩)
         all_goals first|exact⟨⟨n+1,by omega,by go_num,rfl,by rw[HE.out,HNA.out,if_neg (fun h=>h GZ.out),if_neg (by rw[gs2.out];simp)],HK5.out.alloc _⟩,by simp[intOf];omega⟩|(exfalso;omega)|(exfalso;simp only[Bool.not_eq_true',decide_eq_true_eq,decide_eq_false_iff_not]at*;omega)
       ·have E2:Hid (layRest L 0=nameErr ((L.secs.take n).map (·.name)) x.name):=by
         show _=_
         rw[E3.out]
         have:secsErr L.sts.length [] L.secs=nameErr ((L.secs.take n).map (·.name)) x.name:=by rw[HE.out,HNA.out,if_pos gz]
         unfold layRest
         rw[if_neg (by simp),if_neg (by simp),this,if_pos gz]
        clear m0 m1 m2 m3 m4 HNA
        generalize hz:nameErr ((L.secs.take n).map (·.name)) x.name=z at*
        have hz':(z !=0)=true:=by simpa using gz
        go_wp2_with fail
        refine CN.out.mono ?_
        rintro e w5 ⟨rfl,k5⟩
        go_wp2_with fail
        go_ret
        exact⟨by rw[E2.out];rfl,KW4.out.trA k5⟩
      ·obtain rfl:n=L.secs.length:=by omega
       have E4:Hid (layRest L 0=lnksErr L [] L.lks):=by
        show _=_
        have:secsErr L.sts.length [] L.secs=0:=by rw[HE.out,List.drop_length];rfl
        rw[E3.out]
        simp[layRest,this]
       obtain⟨wp,hwp⟩:∃wp:World,wp=wr:=⟨_,rfl⟩
       rw[←hwp]at HK4 KW4 B4 q0 q2 hq⊢
       clear hwp HE
       go_wp2_with fail
       clear q0 q2 hq
       go_loopw [2,11] (fun r j wr=>∃n:Nat,n≤L.lks.length∧j= .int .i64 (n:Int)∧r= .int .i64 0∧lnksErr L [] L.lks=lnksErr L (L.lks.take n) (L.lks.drop n)∧KeepsAll wp wr) (fun _ j _=>L.lks.length-(intOf j).toNat)
       case atStart=>exact⟨0,by omega,rfl,rfl,rfl,Keeps.refl _ _⟩
       case round=>
        obtain⟨n,hn,rfl,rfl,herr,hk⟩:=hrel
        have HE:=Lib.hid herr
        have HK5:=Lib.hid hk
        have KW5:=Lib.hid (KW4.out.trA hk)
        have B5:=Lib.hid (B4.out.kept hk (by simp))
        have q0:=B5.out.cell 0
        have q1:=B5.out.cell 1
        have q2:=B5.out.cell 2
        have q3:=B5.out.cell 3
        simp at q0 q1 q2 q3
        have hq:=B5.out.lt
        clear herr hk
        by_cases hlt:n<L.lks.length
        ·obtain⟨x,hx⟩:∃x,L.lks[n]? =some x:=⟨_,List.getElem?_eq_getElem hlt⟩
         have HX:=Lib.hid hx
         have HNA:=Lib.hid (lnksErr_at L L.lks n x hx)
         clear hx
         by_cases gz:lnkErr L (L.lks.take n) x=0
         ·have GZ:=Lib.hid gz
          go_wp2_with(go_at_call 101;refine(linkError_any L ⟨A1,A2,A3,A4,cc1,cc2,cc3,cc4⟩ n x _ (HL.out.kept KW5.out) HX.out).mono ?_;rw[GZ.out];rintro e w' ⟨rfl,kk⟩)
          go_roundw
          case rel=>exact⟨n+1,by omega,by go_num,rfl,by rw[HE.out,HNA.out,if_neg (fun h=>h GZ.out)],HK5.out.trA kk⟩
          case measure=>simp[intOf];omega
         ·have E2:Hid (layRest L 0=lnkErr L (L.lks.take n) x):=by
           show _=_
           rw[E4.out,HE.out,HNA.out,if_pos gz]
          generalize hz:lnkErr L (L.lks.take n) x=z at*
          have hz':(z !=0)=true:=by simpa using gz
          clear HNA
          go_wp2_with(go_at_call 101;refine(linkError_any L ⟨A1,A2,A3,A4,cc1,cc2,cc3,cc4⟩ n x _ (HL.out.kept KW5.out) HX.out).mono ?_;rw[hz];rintro e w' ⟨rfl,kk⟩)
          go_ret
          exact⟨by rw[E2.out];rfl,KW5.out.trA kk⟩
        ·obtain rfl:n=L.lks.length:=by omega
         go_wp2_with fail
         go_ret
         exact⟨by rw[E4.out,HE.out,List.drop_length];rfl,KW5.out⟩
end
end Go.Proofs.YtcbcegdidlefiaaGreat
