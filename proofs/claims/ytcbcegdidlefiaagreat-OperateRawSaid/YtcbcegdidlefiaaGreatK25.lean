/- Contract of newModel (operate, program): the model of a case, or its error. Conditions: as the theorem says. Contract of Check (reference, layer 39): the error of a case. Conditions: as the theorem says. -/
import Derived.Test.YtcbcegdidlefiaaGreatK22
import Derived.Test.YtcbcegdidlefiaaGreatK24
import Derived.Test.YtcbcegdidlefiaaGreatK08
import Derived.Test.YtcbcegdidlefiaaGreatK05
import Derived.Deep.CutBlock
import Derived.Test.YtcbcegdidlefiaaGreatK23
import Derived.Test.YtcbcegdidlefiaaGreatK15
import Derived.Test.YtcbcegdidlefiaaGreatK14
namespace Go.Proofs.YtcbcegdidlefiaaGreat
section
open Go.RowKit
theorem tyCrs:ElemTy Tryz.prog 145 155 9 184:= .mk' Tryz.underlying145 (z:= .agg #[.slice none 0 0,.slice none 0 0,.int .i64 0,.slice none 0 0,.slice none 0 0,.slice none 0 0,.slice none 0 0,.slice none 0 0,.int .i64 0]) (by kernel_rfl) rfl (by omega)
theorem tyDts:ElemTy Tryz.prog 147 150 1 24:= .mk' Tryz.underlying147 (z:= .slice none 0 0) (by kernel_rfl) rfl (by omega)
theorem firstErr_drop {α:Type} {f:α→Int}:∀(l:List α) (j:Nat),(∀x∈l.take j,f x=0)→firstErr f l=firstErr f (l.drop j)
 | [],_,_=>by simp
 |_::_,0,_=>rfl
 |x::l,j+1,h=>by
  rw[firstErr,if_neg (by rw[h x (by simp)];simp),List.drop_succ_cons]
  exact firstErr_drop l j fun y hy=>h y (by simp[hy])
set_option maxRecDepth 100000 in
set_option maxHeartbeats 8000000 in
theorem newModel_any (c:Cas) (v:CV) (w:World) (h:RCas w (Old w) v c) (hlen:LayLen c.lay):
  Calls Tryz.prog 40 #[.agg (v.cs c)] w fun e w'=>∃p,e= .returned (.tuple #[p,.int .i64 (casErr c)])∧KeepsAll w w'∧(casErr c≠0→p= .pointer none)∧
   (casErr c=0→∃(AC:Option Addr) (bC cC P M:Nat) (vM:Value),p= .pointer (some ⟨M,0,none⟩)∧w.heap.size≤M∧w.heap.size≤P∧MdW c v AC bC 0 cC P M vM w' (fun x=>x≠P∧x≠M∧x<w'.heap.size)∧RSlice 1 (RSlice 7 (RDty bC 0)) w' (fun x=>x≠P∧x≠M∧w.heap.size≤x∧x<w'.heap.size) [vM] (c.miss.map fun m=>tab m.dts.length (dtyAt c m))):=by
 have HC:=Lib.hid h
 have HLC:=Lib.hid (fun W k=>layCheck_any c.lay v.lv W k hlen)
 have hcs:=h.stks.caps
 have hcr:=h.rous.caps
 have hcm:=h.miss.caps
 clear h
 obtain⟨⟨A1,A2,A3,A4,c1,c2,c3,c4⟩,B1,B2,B3,dd1,dd2,dd3⟩:=v
 unfold CV.cs
 unfold LV.cs at HLC
 simp only[]at HLC hcs hcr hcm⊢
 go_enter Tryz.func40,Tryz.ntmps40
 go_upto_region 1 with fail
 generalize hN:w.heap.size=N at*
 generalize hW:World.alloc w _=W
 have K0:Hid (KeepsAll w W):=by subst hW;exact(Keeps.refl _ _).alloc _
 have BC:Hid (Blk W N 32 #[.slice A1 c.lay.sts.length c1,.slice A2 c.lay.pts.length c2,.slice A3 c.lay.secs.length c3,.slice A4 c.lay.lks.length c4,.slice B1 c.stks.length dd1,.slice B2 c.rous.length dd2,.slice B3 c.miss.length dd3]):=by subst hW hN;exact Blk.new _ _ _
 clear hW
 have q0:=BC.out.cell 0
 have q1:=BC.out.cell 1
 have q2:=BC.out.cell 2
 have q3:=BC.out.cell 3
 simp at q0 q1 q2 q3
 have hzc:=BC.out.lt
 go_upto_if 19 with(go_at_call 108;go_loud(refine(HLC.out W (HC.out.lay.kept K0.out)).mono ?_;rintro e w2 ⟨rfl,k2⟩))
 have K2:Hid (KeepsAll w w2):=K0.out.trA k2
 have BC2:=Lib.hid (BC.out.kept k2 (by simp))
 clear k2 BC K0 q0 q1 q2 q3 hzc
 have HE0:Hid (casErr c=if layErr c.lay≠0 then layErr c.lay else if 8<c.stks.length∨48<c.rous.length∨10<c.miss.length then 7 else if(c.stks.any fun s=> !stkOk s)=true then 4 else if firstErr (rouErr c.lay) c.rous≠0 then firstErr (rouErr c.lay) c.rous else firstErr (misErr c) c.miss):=rfl
 generalize hle:layErr c.lay=le at HE0
 have HLE:=Lib.hid hle
 clear hle
 by_cases h0:le=0
 rotate_left
 ·have g1:(le==0)=false:=beq_eq_false_iff_ne.2 h0
  go_wp2_with fail
  go_ret2
  exact⟨.pointer none,by rw[HE0.out,if_pos h0];rfl,K2.out,fun _=>rfl,fun h=>(by rw[HE0.out,if_pos h0]at h;first|exact absurd h hre|exact absurd h h0|cases h)⟩
 subst h0
 have HE1:Hid (casErr c=if 8<c.stks.length∨48<c.rous.length∨10<c.miss.length then 7 else if(c.stks.any fun s=> !stkOk s)=true then 4 else if firstErr (rouErr c.lay) c.rous≠0 then firstErr (rouErr c.lay) c.rous else firstErr (misErr c) c.miss):=by show _=_;rw[HE0.out];simp
 have q4:=BC2.out.cell 4
 have q5:=BC2.out.cell 5
 have q6:=BC2.out.cell 6
 simp at q4 q5 q6
 have hzc:=BC2.out.lt
 by_cases hbig:8<c.stks.length∨48<c.rous.length∨10<c.miss.length
 ·have HE2:Hid (casErr c=7):=by show _=_;rw[HE1.out,if_pos hbig]
  by_cases b1:8<c.stks.length
  ·have e1:decide ((8:Int)<(c.stks.length:Int))=true:=decide_eq_true (by omega)
   go_wp2_with fail
   go_ret2
   exact⟨.pointer none,by rw[HE2.out];rfl,K2.out,fun _=>rfl,fun h=>(by rw[HE2.out]at h;first|exact absurd h hre|exact absurd h h0|cases h)⟩
  by_cases b2:48<c.rous.length
  ·have e1:decide ((8:Int)<(c.stks.length:Int))=false:=decide_eq_false (by omega)
   have e2:decide ((48:Int)<(c.rous.length:Int))=true:=decide_eq_true (by omega)
   go_wp2_with fail
   go_ret2
   exact⟨.pointer none,by rw[HE2.out];rfl,K2.out,fun _=>rfl,fun h=>(by rw[HE2.out]at h;first|exact absurd h hre|exact absurd h h0|cases h)⟩
  have e1:decide ((8:Int)<(c.stks.length:Int))=false:=decide_eq_false (by omega)
  have e2:decide ((48:Int)<(c.rous.length:Int))=false:=decide_eq_false (by omega)
  have e3:decide ((10:Int)<(c.miss.length:Int))=true:=decide_eq_true (by omega)
  go_wp2_with fail
  go_ret2
  exact⟨.pointer none,by rw[HE2.out];rfl,K2.out,fun _=>rfl,fun h=>(by rw[HE2.out]at h;first|exact absurd h hre|exact absurd h h0|cases h)⟩
 have hs8:c.stks.length≤8:=by omega
 have hr48:c.rous.length≤48:=by omega
 have hm10:c.miss.length≤10:=by omega
 have HE2:Hid (casErr c=if(c.stks.any fun s=> !stkOk s)=true then 4 else if firstErr (rouErr c.lay) c.rous≠0 then firstErr (rouErr c.lay) c.rous else firstErr (misErr c) c.miss):=by show _=_;rw[HE1.out,if_neg hbig]
 have e1:decide ((8:Int)<(c.stks.length:Int))=false:=decide_eq_false (by omega)
 have e2:decide ((48:Int)<(c.rous.length:Int))=false:=decide_eq_false (by omega)
 have e3:decide ((10:Int)<(c.miss.length:Int))=false:=decide_eq_false (by omega)
 clear hbig HE0 HE1
 have HCK:=Lib.hid (fun s W=>stkOk_any s W)
 go_wp2_with fail
 try simp only[bne_self_eq_false]
 go_loopw [40] (fun i wr=>∃j:Nat,j≤c.stks.length∧i= .int .i64 (j:Int)∧KeepsAll w2 wr∧∀s∈c.stks.take j,stkOk s=true) (fun i _=>c.stks.length-(intOf i).toNat)
 case atStart=>exact⟨0,Nat.zero_le _,rfl,Keeps.refl _ _,by simp⟩
 case round=>
  obtain⟨j,hj,rfl,hk,hall⟩:=hrel
  have HALL:=Lib.hid hall
  have KR:=Lib.hid (K2.out.trA hk)
  have BCR:=Lib.hid (BC2.out.kept hk (by simp))
  have HK2:=Lib.hid hk
  clear hk hall q4 q5 q6
  by_cases hlt:j<c.stks.length
  ·obtain⟨b,o,s,hA,hb,hs,s0,s1,s2,s3,s4⟩:=HC.out.stks.atO KR.out hlt
   simp only[]at hA
   subst hA
   unfold stkC at HCK
   have HST:=Lib.hid (HCK.out s)
   have HTK:Hid (c.stks.take (j+1)=c.stks.take j++ [s]):=by show _=_;rw[List.take_add_one,hs];rfl
   have HMEM:Hid (s∈c.stks):=List.mem_of_getElem? hs
   clear hs HCK
   obtain⟨sn,sl,sv,sa,sb⟩:=s
   simp only[]at s0 s1 s2 s3 s4 HST
   go_upto_if 46 with(go_at_call 109;go_loud(refine(HST.out _).mono ?_;rintro e w3 ⟨rfl,k3⟩))
   generalize hso:stkOk ⟨sn,sl,sv,sa,sb⟩=so at*
   have HSO:=Lib.hid hso
   clear hso
   have K3:Hid (KeepsAll w2 w3):=(HK2.out.alloc _).trA k3
   clear k3
   rcases so with _|_
   ·have HE3:Hid (casErr c=4):=by
     show _=_
     rw[HE2.out,if_pos]
     exact List.any_eq_true.2 ⟨_,HMEM.out,by rw[HSO.out];rfl⟩
    go_wp2_with fail
    go_ret2
    exact⟨.pointer none,by rw[HE3.out];rfl,K2.out.trA K3.out,fun _=>rfl,fun h=>(by rw[HE3.out]at h;first|exact absurd h hre|exact absurd h h0|cases h)⟩
   ·go_wp2_with fail
    exact⟨⟨j+1,by omega,by go_num,K3.out,fun x hx=>by
     rw[HTK.out]at hx
     rcases List.mem_append.1 hx with hx|hx
     ·exact HALL.out x hx
     ·rw[List.mem_singleton.1 hx];exact HSO.out⟩,by simp[intOf];omega⟩
  ·have hany:(c.stks.any fun s=> !stkOk s)=false:=by
    rw[List.any_eq_false]
    intro x hx
    have:=HALL.out x (by rw[List.take_of_length_le (by omega)];exact hx)
    simp[this]
   have HE3:Hid (casErr c=if firstErr (rouErr c.lay) c.rous≠0 then firstErr (rouErr c.lay) c.rous else firstErr (misErr c) c.miss):=by show _=_;rw[HE2.out,hany];simp
   clear hany
   clear HE2 HCK HALL HK2 BC2 K2
   have q0:=BCR.out.cell 0
   have q1:=BCR.out.cell 1
   have q2:=BCR.out.cell 2
   have q3:=BCR.out.cell 3
   have q4:=BCR.out.cell 4
   have q5:=BCR.out.cell 5
   have q6:=BCR.out.cell 6
   simp at q0 q1 q2 q3 q4 q5 q6
   have hzc:=BCR.out.lt
   have hmm:= @run_makeMap Tryz.prog
   go_upto_region 13 with fail
   clear hmm
   generalize hP:wr.heap.size=P at*
   generalize hWm:World.alloc (World.alloc wr _) _=Wm
   have KM:Hid (KeepsAll wr Wm):=by subst hWm;exact((Keeps.refl _ _).alloc _).alloc _
   have HPM:Hid (PrM (fun k=>profC c k.rt k.stk k.a k.b) Wm P):=by subst hWm hP;exact(PrM.new _ _).kept ((Keeps.refl (fun _=>False) _).alloc _) (by simp)
   have HMB:Hid (Blk Wm (P+1) 149 (mdC ⟨⟨A1,A2,A3,A4,c1,c2,c3,c4⟩,B1,B2,B3,dd1,dd2,dd3⟩ c (.slice none 0 0) (.map (some P)) (.slice none 0 0))):=by subst hWm;exact Blk.new' _ _ _ (by simp[hP])
   have hWs:Hid (Wm.heap.size=P+1+1):=by subst hWm;show _=_;simp[hP]
   clear hWm
   have KP:=Lib.hid (KR.out.trA KM.out)
   have BCM:=Lib.hid (BCR.out.kept KM.out (by simp))
   have hNP:N<P:=by omega
   clear KR BCR KM q0 q1 q2 q3 q4 q5 q6 hzc
   have q5:=BCM.out.cell 5
   simp at q5
   have hzc:=BCM.out.lt
   go_wp2_with fail
   go_loopw [55] (fun i wx=>∃(j:Nat) (vC:Value),j≤c.rous.length∧i= .int .i64 (j:Int)∧Blk wx (P+1) 149 (mdC ⟨⟨A1,A2,A3,A4,c1,c2,c3,c4⟩,B1,B2,B3,dd1,dd2,dd3⟩ c vC (.map (some P)) (.slice none 0 0))∧OwnL 155 9 (RCrs c.lay) wx Wm.heap.size Wm.heap.size vC (c.rous.take j)∧
    Keeps (fun x=>x=P+1) Wm wx∧∀r∈c.rous.take j,rouErr c.lay r=0) (fun i _=>c.rous.length-(intOf i).toNat)
   case atStart=>exact⟨0,_,Nat.zero_le _,rfl,HMB.out,OwnL.nil,Keeps.refl _ _,by simp⟩
   case round=>
    obtain⟨j',vC,hj',rfl,hmb,hown,hk,hall⟩:=hrel
    have HMBR:=Lib.hid hmb
    have HOR:=Lib.hid hown
    have HALL:=Lib.hid hall
    have HKX:=Lib.hid hk
    have KX:Hid (KeepsAll w wr):=KP.out.trans hk (fun x hx e=>by omega)
    clear hmb hown hall hk q5
    by_cases hlt':j'<c.rous.length
    ·obtain⟨b,o,r,A',c',hA,hb,hr,r0,r1,hst⟩:=HC.out.rous.atO KX.out hlt'
     simp only[]at hA
     subst hA
     have hrc:=hst.caps
     have HST:Hid (∀W',KeepsAll w W'→RStps W' (Old W') [.slice A' r.stps.length c'] r.stps):=fun W' k=>k.rdA (RSlice.ok RStp.ok) hst
     have HTK:Hid (c.rous.take (j'+1)=c.rous.take j'++ [r]):=by show _=_;rw[List.take_add_one,hr];rfl
     have HAT:Hid (firstErr (rouErr c.lay) (c.rous.drop j')=if rouErr c.lay r≠0 then rouErr c.lay r else firstErr (rouErr c.lay) (c.rous.drop (j'+1))):=firstErr_at _ _ _ _ hr
     have HFE:Hid (firstErr (rouErr c.lay) c.rous=firstErr (rouErr c.lay) (c.rous.drop j')):=firstErr_drop _ _ HALL.out
     have HRC:=Lib.hid (fun W k1 k2=>routeCheck_any c.lay ⟨A1,A2,A3,A4,c1,c2,c3,c4⟩ r A' c' W k1 k2 hlen)
     have HNC:=Lib.hid (fun W k1 k2 hok=>newCourse_any c.lay ⟨A1,A2,A3,A4,c1,c2,c3,c4⟩ r A' c' W k1 k2 hlen hok)
     unfold LV.cs at HRC HNC
     simp only[]at HRC HNC
     have BCR:=Lib.hid (BCM.out.kept HKX.out (by omega))
     clear hr hst
     have q0:=BCR.out.cell 0
     have q1:=BCR.out.cell 1
     have q2:=BCR.out.cell 2
     have q3:=BCR.out.cell 3
     simp at q0 q1 q2 q3
     have hzc:=BCR.out.lt
     go_upto_if 64 with(go_at_call 110;go_loud(have K5:=KX.out.alloc (.cells #[.slice A' r.stps.length c',.int .i64 r.ov] 95);refine(HRC.out _ (HC.out.lay.kept K5) (HST.out _ K5)).mono ?_;rintro e w3 ⟨rfl,k3⟩))
     have hzM:=HMBR.out.lt
     have BRr:Hid (Blk w3 wr.heap.size 95 #[.slice A' r.stps.length c',.int .i64 r.ov]):=(Blk.new _ _ _).kept k3 (by simp)
     have K13:Hid (KeepsAll wr w3):=((Keeps.refl _ _).alloc (.cells #[.slice A' r.stps.length c',.int .i64 r.ov] 95)).trA k3
     clear k3
     have HRO:=Lib.hid (fun h=>(rouErr_zero c.lay r).1 h)
     generalize rouErr c.lay r=re at*
     by_cases hre:re=0
     rotate_left
     ·have g1:(re==0)=false:=beq_eq_false_iff_ne.2 hre
      have HE4:Hid (casErr c=re):=by show _=_;rw[HE3.out,HFE.out,HAT.out,if_pos hre,if_pos hre]
      go_wp2_with fail
      go_ret2
      exact⟨.pointer none,by rw[HE4.out];rfl,KX.out.trA K13.out,fun _=>rfl,fun h=>(by rw[HE4.out]at h;first|exact absurd h hre|exact absurd h h0|cases h)⟩
     subst hre
     have hok:=HRO.out rfl
     obtain⟨AC,cC,hvC,hcC⟩:=HOR.out.form
     rw[List.length_take,Nat.min_eq_left hj']at hvC hcC
     subst hvC
     have HM3:=Lib.hid (HMBR.out.kept K13.out (by simp))
     have HO3:=Lib.hid (HOR.out.keeps (RCrs.ok _) K13.out (fun _ _ h=>h.elim))
     have BC3:=Lib.hid (BCR.out.kept K13.out (by simp))
     have hns:∀x,x<Wm.heap.size→¬(Value.slice AC j' cC).ownBlock=some x:=fun x hx e=>by have:=(HOR.out.lt e).1;omega
     have hnr:¬(Value.slice AC j' cC).ownBlock=some wr.heap.size:=fun e=>by have:=(HOR.out.lt e).2;omega
     have hWm2:=hWs.out
     have m7:=HM3.out.cell 7
     have x0:=BC3.out.cell 0
     have x1:=BC3.out.cell 1
     have x2:=BC3.out.cell 2
     have x3:=BC3.out.cell 3
     have t0:=BRr.out.cell 0
     have t1:=BRr.out.cell 1
     simp[mdC]at m7 x0 x1 x2 x3 t0 t1
     have y0:=ExtC.cell (C:=fun x=>(Value.slice AC j' cC).ownBlock=some x) m7 (hns _ (by show P+1<_;omega))
     have y1:=ExtC.cell (C:=fun x=>(Value.slice AC j' cC).ownBlock=some x) x0 (hns _ (by show N<_;omega))
     have y2:=ExtC.cell (C:=fun x=>(Value.slice AC j' cC).ownBlock=some x) x1 (hns _ (by show N<_;omega))
     have y3:=ExtC.cell (C:=fun x=>(Value.slice AC j' cC).ownBlock=some x) x2 (hns _ (by show N<_;omega))
     have y4:=ExtC.cell (C:=fun x=>(Value.slice AC j' cC).ownBlock=some x) x3 (hns _ (by show N<_;omega))
     have y5:=ExtC.cell (C:=fun x=>(Value.slice AC j' cC).ownBlock=some x) t0 hnr
     have y6:=ExtC.cell (C:=fun x=>(Value.slice AC j' cC).ownBlock=some x) t1 hnr
     clear hWm2
     go_upto_region 19 with fail
     refine wp_region_lexB (fun w'=>∃x:ExtC (fun x=>(Value.slice AC j' cC).ownBlock=some x) w3,w'=x.val) [0,1,2,3,4,5,6,7,8,9,10,11,12,13] (by kernel_rfl) (by kernel_rfl) (ExtC.start _ _) ?_
     iterate 2 (refine lex_q _ rfl rfl rfl ?_;go_big_quiet_step (fail);refine wpQuiet_nil ?_)
     refine lex_nil _ rfl _ rfl rfl _ rfl ?_;go_simp
     iterate 5 (refine lex_q _ rfl rfl rfl ?_;go_big_quiet_step (fail);refine wpQuiet_nil ?_)
     clear y0 y1 y2 y3 y4 y5 y6 m7 x0 x1 x2 x3 t0 t1
     have KD:Hid (KeepsAll w3 w3.drew):=(Keeps.refl _ _).drew
     generalize w3.drew=wd at*
     have KWD:=Lib.hid ((KX.out.trA K13.out).trA KD.out)
     refine lex_a _ rfl rfl true (by kernel_rfl) ?_
     go_wp2_with(go_at_call 111;refine(HNC.out wd (HC.out.lay.kept KWD.out) (HST.out _ KWD.out) hok).mono ?_;rintro e w6 ⟨E1,e1',E2,e2',E3,e3',v',rfl,k6,i1,i2,i3,i4⟩)
     have HEL:Hid (RCrs c.lay w6 (Fresh wd w6) [.slice E1 r.stps.length e1',.slice E2 r.stps.length e2',.int .i64 (lastR r),.slice v'.A1 (crsLay c.lay r).sts.length v'.c1,.slice v'.A2 (crsLay c.lay r).pts.length v'.c2,.slice v'.A3 (crsLay c.lay r).secs.length v'.c3,.slice v'.A4 (crsLay c.lay r).lks.length v'.c4,.slice E3 r.stps.length e3',.int .i64 r.ov] r):=⟨E1,e1',E2,e2',E3,e3',v',rfl,i1,i2,i3,i4⟩
     have K6:Hid (KeepsAll w3 w6):=KD.out.trA k6
     have hwd:w3.heap.size≤wd.heap.size:=KD.out.size
     clear i1 i2 i3 i4 k6 HNC HRC HRO
     refine⟨fun _=>⟨⟨_,K6.out.mono (C:=fun x=>(Value.slice AC j' cC).ownBlock=some x) fun _ _ h=>h.elim⟩,rfl⟩,?_⟩
     refine lex_a _ rfl rfl true (by kernel_rfl) ?_
     go_wp2
     refine⟨fun _=>⟨⟨_,(K6.out.mono (C:=fun x=>(Value.slice AC j' cC).ownBlock=some x) fun _ _ h=>h.elim).alloc _⟩,rfl⟩,?_⟩
     generalize hW7:World.alloc w6 _=w7
     have B7:Hid (Blk w7 w6.heap.size 155 #[.slice E1 r.stps.length e1',.slice E2 r.stps.length e2',.int .i64 (lastR r),.slice v'.A1 (crsLay c.lay r).sts.length v'.c1,.slice v'.A2 (crsLay c.lay r).pts.length v'.c2,.slice v'.A3 (crsLay c.lay r).secs.length v'.c3,.slice v'.A4 (crsLay c.lay r).lks.length v'.c4,.slice E3 r.stps.length e3',.int .i64 r.ov]):=by subst hW7;exact Blk.new _ _ _
     have KA7:Hid (KeepsAll w6 w7):=by subst hW7;exact(Keeps.refl _ _).alloc _
     clear hW7
     have K7:=Lib.hid (K6.out.trA KA7.out)
     have HO7:=Lib.hid (HO3.out.keeps (RCrs.ok _) K7.out (fun _ _ h=>h.elim))
     have HE7:Hid (RCrs c.lay w7 (Fresh wd w6) [.slice E1 r.stps.length e1',.slice E2 r.stps.length e2',.int .i64 (lastR r),.slice v'.A1 (crsLay c.lay r).sts.length v'.c1,.slice v'.A2 (crsLay c.lay r).pts.length v'.c2,.slice v'.A3 (crsLay c.lay r).secs.length v'.c3,.slice v'.A4 (crsLay c.lay r).lks.length v'.c4,.slice E3 r.stps.length e3',.int .i64 r.ov] r):=(RCrs.ok _).mono HEL.out (fun _ h=>h) (fun b hb=>KA7.out.block b hb.2 (by simp))
     have HF7:Hid (∀b,Fresh wd w6 b→Wm.heap.size≤b∧b<w7.heap.size∧(Value.slice AC j' cC).ownBlock≠some b):=fun b hb=>by
      have h1:=HKX.out.size
      have h2:=K13.out.size
      have h3:=KA7.out.size
      have h4:=hb.1
      have h5:=hb.2
      exact⟨by omega,by omega,fun e=>by have:=(HO3.out.lt e).2;omega⟩
     have hbm:Wm.heap.size≤w7.heap.size:=by have h1:=HKX.out.size;have h2:=K13.out.size;have h3:=K7.out.size;omega
     clear HEL
     refine lex_a _ rfl rfl true (by kernel_rfl) ?_
     refine wpList_append_L tyCrs (RCrs.ok c.lay) rfl (.tmp 70) (.tmp 75) rfl HO7.out rfl _ [.slice E1 r.stps.length e1',.slice E2 r.stps.length e2',.int .i64 (lastR r),.slice v'.A1 (crsLay c.lay r).sts.length v'.c1,.slice v'.A2 (crsLay c.lay r).pts.length v'.c2,.slice v'.A3 (crsLay c.lay r).secs.length v'.c3,.slice v'.A4 (crsLay c.lay r).lks.length v'.c4,.slice E3 r.stps.length e3',.int .i64 r.ov] rfl B7.out rfl r (S:=Fresh wd w6) HE7.out HF7.out (by simp[Value.oneCell']) (by rw[List.length_take];omega) (by rw[List.length_take];omega) hbm ?_
     intro v9 w9 HO9 HK9 HA9
     rw[←HTK.out]at HO9
     obtain⟨A9,q9,hv9,-,-⟩:=HO9.form
     rw[List.length_take,Nat.min_eq_left (by omega)]at hv9
     subst hv9
     have HM9:=Lib.hid ((HM3.out.kept K7.out (by simp)).kept HK9 (hns _ (by have:=hWs.out;omega)))
     have K9:Hid (Keeps (fun x=>(Value.slice AC j' cC).ownBlock=some x) w3 w9):=(K7.out.mono (C:=fun x=>(Value.slice AC j' cC).ownBlock=some x) fun _ _ h=>h.elim).trans HK9 (fun _ _ h=>h)
     have HOF:=Lib.hid HO9
     have HO9k:Hid (∀b,(Value.slice A9 (j'+1) q9).ownBlock=some b→Wm.heap.size≤b):=fun b e=>(HOF.out.lt e).1
     clear HO9 HK9 HA9 HE7 HF7
     have z7:=HM9.out.cell 7
     simp[mdC]at z7
     have f7:=HM9.out.frozen 7
     have hz9:=HM9.out.lt
     go_wp2
     refine⟨fun _=>⟨⟨_,K9.out⟩,rfl⟩,?_⟩
     refine lex_nil _ rfl _ rfl rfl _ rfl ?_;go_simp
     iterate 1 (refine lex_q _ rfl rfl rfl ?_;go_big_quiet_step (fail);refine wpQuiet_nil ?_)
     refine lex_a _ rfl rfl false (by kernel_rfl) ?_
     go_wp2
     (try refine⟨fun h=>(by cases h),?_⟩)
     simp only[wpLex]
     refine NoPanic.normal ?_
     generalize hW10:World.setCell w9 _ _=W10
     have KS:Hid (Keeps (fun x=>x=P+1) w9 W10):=by subst hW10;exact(Keeps.refl (fun x=>x=P+1) _).setCell (p:=⟨P+1,7,none⟩) (fun _=>rfl) _
     have HM10:Hid (Blk W10 (P+1) 149 (mdC ⟨⟨A1,A2,A3,A4,c1,c2,c3,c4⟩,B1,some ⟨b,o,none⟩,B3,dd1,dd2,dd3⟩ c (.slice A9 (j'+1) q9) (.map (some P)) (.slice none 0 0))):=by subst hW10;exact HM9.out.set_ 7 _
     clear hW10 z7 f7 hz9
     have HO10:=Lib.hid (HOF.out.keeps (RCrs.ok _) KS.out (fun x hx e=>by have:=hWs.out;omega))
     have KF:Hid (Keeps (fun x=>x=P+1) Wm W10):=((HKX.out.trans K13.out (fun _ _ h=>h.elim)).trans K9.out (fun x hx e=>absurd e (hns x hx))).trans KS.out (fun _ _ h=>h)
     go_wp2_with fail
     exact⟨⟨j'+1,_,by omega,by go_num,HM10.out,HO10.out,KF.out,fun x hx=>by
      rw[HTK.out]at hx
      rcases List.mem_append.1 hx with hx|hx
      ·exact HALL.out x hx
      ·rw[List.mem_singleton.1 hx];exact(rouErr_zero _ _).2 hok⟩,by simp[intOf];omega⟩
    ·obtain rfl:j'=c.rous.length:=by omega
     obtain⟨AC,cC,hvC,-⟩:=HOR.out.form
     rw[List.take_length]at hvC
     subst hvC
     obtain⟨bC,hbC⟩:∃bC,0<c.rous.length→AC=some ⟨bC,0,none⟩:=by
      by_cases hn:0<c.rous.length
      ·obtain⟨g,hg,-⟩:=HOR.out.some_ (by rw[List.take_length];exact hn)
       exact⟨g,fun _=>hg⟩
      ·exact⟨0,fun h=>absurd h hn⟩
     have HAC:=Lib.hid hbC
     have hrou:∀i:Nat,i<c.rous.length→RouOk c.lay (rouD c i):=fun i hi=>by
      have h1:=rouD_at (c:=c) (i:=(i:Int)) (by omega) (by omega)
      rw[Int.toNat_natCast]at h1
      exact(rouErr_zero _ _).1 (HALL.out _ (by rw[List.take_length];exact List.mem_of_getElem? h1))
     have HROU:=Lib.hid hrou
     have hfe:firstErr (rouErr c.lay) c.rous=0:=(firstErr_zero _ _).2 fun r hr=>HALL.out r (by rw[List.take_length];exact hr)
     have HE4:Hid (casErr c=firstErr (misErr c) c.miss):=by show _=_;rw[HE3.out,hfe];simp
     have hsz:=HKX.out.size
     have hWms:=hWs.out
     have HCA2:Hid (RCas wr (fun x=>x≠P∧x≠P+1∧x<wr.heap.size) ⟨⟨A1,A2,A3,A4,c1,c2,c3,c4⟩,B1,B2,B3,dd1,dd2,dd3⟩ c):=by
      have hS:∀b,Old w b→(b≠P∧b≠P+1∧b<wr.heap.size):=fun b hb=>by have hb:b<w.heap.size:=hb;omega
      have hw:∀b,Old w b→wr.heap[b]? =w.heap[b]? :=fun b hb=>KX.out.block b hb (by simp)
      exact⟨HC.out.lay.mono hS hw,(RSlice.ok RStk.ok).mono HC.out.stks hS hw,(RSlice.ok RRou.ok).mono HC.out.rous hS hw,(RSlice.ok RMis.ok).mono HC.out.miss hS hw⟩
     have HCR2:Hid (RCrss c.lay wr (fun x=>x≠P∧x≠P+1∧x<wr.heap.size) [.slice AC c.rous.length cC] c.rous):=by
      have:=HOR.out.read (RCrs.ok _) (by omega) (S:=fun x=>x≠P∧x≠P+1∧x<wr.heap.size) (fun b h1 h2=>by omega) (fun b h1 h2=>by omega)
      rw[List.take_length]at this
      exact this
     have HPM2:=Lib.hid (HPM.out.kept HKX.out (by omega))
     have BC2:=Lib.hid (BCM.out.kept HKX.out (by omega))
     obtain⟨hlo1,hlo2⟩:P+1<wr.heap.size∧N<wr.heap.size:=by omega
     clear hbC hrou hfe HALL HOR hsz hWms HE3 HPM
     generalize hW2:wr=W2 at*
     clear hW2
     have q6:=BC2.out.cell 6
     simp at q6
     have hzc:=BC2.out.lt
     go_wp2_with fail
     go_loopw [83] (fun i wx=>∃(j:Nat) (vM:Value),j≤c.miss.length∧i= .int .i64 (j:Int)∧Blk wx (P+1) 149 (mdC ⟨⟨A1,A2,A3,A4,c1,c2,c3,c4⟩,B1,B2,B3,dd1,dd2,dd3⟩ c (.slice AC c.rous.length cC) (.map (some P)) vM)∧
      OwnL 150 1 (RSlice 7 (RDty bC 0)) wx W2.heap.size W2.heap.size vM ((c.miss.take j).map fun m=>tab m.dts.length (dtyAt c m))∧Keeps (fun x=>x=P∨x=P+1) W2 wx∧PrM (fun k=>profC c k.rt k.stk k.a k.b) wx P∧∀m∈c.miss.take j,misErr c m=0) (fun i _=>c.miss.length-(intOf i).toNat)
     case atStart=>exact⟨0,_,Nat.zero_le _,rfl,HMBR.out,OwnL.nil,Keeps.refl _ _,HPM2.out,by simp⟩
     case round=>
      obtain⟨k,vM,hk,rfl,hmb,hown,hkk,hpm,hall⟩:=hrel
      have HMBR:=Lib.hid hmb
      have HOR:=Lib.hid hown
      have HALL:=Lib.hid hall
      have HKX:=Lib.hid hkk
      have HPM:=Lib.hid hpm
      have KX3:Hid (KeepsAll w wr):=KX.out.trans hkk (fun x hx e=>by rcases e with e|e<;>omega)
      have hsz:=hkk.size
      clear hmb hown hall hkk hpm q6
      by_cases hlt3:k<c.miss.length
      ·obtain⟨b,o,m,A',c',hA,hb,hm,r0,r1,hdu⟩:=HC.out.miss.at_ hlt3
       simp only[]at hA
       subst hA
       have hb':b<w.heap.size:=hb
       replace r0:=KX3.out.cellA hb' r0
       replace r1:=KX3.out.cellA hb' r1
       have hrc:=hdu.caps
       have HTK:Hid (c.miss.take (k+1)=c.miss.take k++ [m]):=by show _=_;rw[List.take_add_one,hm];rfl
       have HAT:Hid (firstErr (misErr c) (c.miss.drop k)=if misErr c m≠0 then misErr c m else firstErr (misErr c) (c.miss.drop (k+1))):=firstErr_at _ _ _ _ hm
       have HFE:Hid (firstErr (misErr c) c.miss=firstErr (misErr c) (c.miss.drop k)):=firstErr_drop _ _ HALL.out
       generalize hW5:wr.alloc (.cells #[.int .i64 m.stk,.slice A' m.dts.length c'] 36)=W5
       have K5:Hid (KeepsAll wr W5):=by subst hW5;exact(Keeps.refl _ _).alloc _
       have hS5:∀b,(b≠P∧b≠P+1∧b<W2.heap.size)→(b≠P∧b<W5.heap.size):=fun b hb=>⟨hb.1,Nat.lt_of_lt_of_le hb.2.2 (Nat.le_trans hsz K5.out.size)⟩
       have hw5:∀b,(b≠P∧b≠P+1∧b<W2.heap.size)→W5.heap[b]? =W2.heap[b]? :=fun b hb=>(K5.out.block b (Nat.lt_of_lt_of_le hb.2.2 hsz) (by simp)).trans (HKX.out.block b hb.2.2 (by rintro(e|e);exact hb.1 e;exact hb.2.1 e))
       have HDT:=Lib.hid (duties_any c ⟨⟨A1,A2,A3,A4,c1,c2,c3,c4⟩,B1,B2,some ⟨b,o,none⟩,dd1,dd2,dd3⟩ AC bC 0 cC P (P+1) m A' c' vM W5
        ⟨HAC.out,HMBR.out.kept K5.out (by simp),⟨HCA2.out.lay.mono hS5 hw5,(RSlice.ok RStk.ok).mono HCA2.out.stks hS5 hw5,(RSlice.ok RRou.ok).mono HCA2.out.rous hS5 hw5,(RSlice.ok RMis.ok).mono HCA2.out.miss hS5 hw5⟩,(RSlice.ok (RCrs.ok _)).mono HCR2.out hS5 hw5,HPM.out.kept K5.out (by simp)⟩
        hlen hr48 hs8 HROU.out ((RSlice.ok RDut.ok).mono hdu (fun b hb=>by have hb:b<w.heap.size:=hb;have:=K5.out.size;exact⟨by omega,by omega⟩) (fun b hb=>(KX3.out.trA K5.out).block b hb (by simp))))
       have HW5:=Lib.hid hW5
       clear hS5 hw5 hW5 hdu hm
       go_upto_if 94 with(go_at_call 112;go_loud(rw[HW5.out];refine HDT.out.mono ?_;rintro e w6 ⟨E1,e1',e2',rfl,k6,hp6,hl6⟩))
       have K6:Hid (Keeps (fun x=>x=P∨x=P+1) wr w6):=(K5.out.mono (fun _ _ h=>h.elim)).trans k6 (fun _ _ h=> .inl h)
       have KW6:Hid (KeepsAll w w6):=KX3.out.trans K6.out (fun x hx e=>by rcases e with e|e<;>omega)
       have HP6:=Lib.hid hp6
       have HL6:=Lib.hid hl6
       have HM6:=Lib.hid ((HMBR.out.kept K5.out (by simp)).kept k6 (by omega))
       have HO6:=Lib.hid (HOR.out.keeps (RSlice.ok (RDty.ok _ _)) K6.out (fun x hx e=>by rcases e with e|e<;>omega))
       clear k6 hp6 hl6
       generalize hmeq:misErr c m=me at*
       have HMEQ:=Lib.hid hmeq
       clear hmeq
       by_cases hre:me=0
       rotate_left
       ·have g1:(me==0)=false:=beq_eq_false_iff_ne.2 hre
        have HE5:Hid (casErr c=me):=by show _=_;rw[HE4.out,HFE.out,HAT.out,if_pos hre]
        go_wp2_with fail
        go_ret2
        exact⟨.pointer none,by rw[HE5.out];rfl,KW6.out,fun _=>rfl,fun h=>by rw[HE5.out]at h;exact absurd h hre⟩
       subst hre
       have HLL:=Lib.hid (HL6.out rfl)
       obtain⟨AM,cM,hvM,hcM⟩:=HOR.out.form
       rw[List.length_map,List.length_take,Nat.min_eq_left hk]at hvM hcM
       subst hvM
       have m9:=HM6.out.cell 9
       simp[mdC]at m9
       have f9:=HM6.out.frozen 9
       have hz6:=HM6.out.lt
       have hns:∀x,x<W2.heap.size→¬(Value.slice AM k cM).ownBlock=some x:=fun x hx e=>by have:=(HOR.out.lt e).1;omega
       clear HL6
       go_upto_region 28 with(at_builtin;go_loud(have HOB:=HO6.out.alloc (RSlice.ok (RDty.ok _ _)) (.cells #[.slice E1 e1' e2'] 150);have HEL:=(RSlice.ok (RDty.ok bC 0)).mono HLL.out (S':=Fresh W5 w6) (fun _ h=>h) (fun b hb=>((Keeps.refl (fun _=>False) w6).alloc (.cells #[.slice E1 e1' e2'] 150)).block b hb.2 (by simp));refine wpList_append_L tyDts (RSlice.ok (RDty.ok bC 0)) rfl (.tmp 100) (.tmp 102) rfl HOB rfl _ [.slice E1 e1' e2'] rfl (Blk.new _ _ _) rfl (tab m.dts.length (dtyAt c m)) (S:=Fresh W5 w6) HEL (fun b hb=>by have h1:=K5.out.size;have h2:=hb.1;have h3:=hb.2;exact⟨by omega,by simp;omega,fun e=>by have:=(HOR.out.lt e).2;omega⟩) (by simp[Value.oneCell']) (by rw[List.length_map,List.length_take];omega) (by rw[List.length_map,List.length_take];omega) (by have:=K6.out.size;simp;omega) ?_;intro v9 w9 HO9 HK9 HA9;obtain⟨A9,q9,hv9,-,-⟩:=HO9.form;rw[List.length_append,List.length_map,List.length_take,Nat.min_eq_left hk,List.length_singleton]at hv9;subst hv9;have HM9:=Lib.hid ((HM6.out.kept ((Keeps.refl (fun _=>False) _).alloc (.cells #[.slice E1 e1' e2'] 150)) (by simp)).kept HK9 (hns _ hlo1));have z9:=HM9.out.cell 9;simp[mdC]at z9;have f9':=HM9.out.frozen 9;have hz9:=HM9.out.lt))
       generalize hW10:World.setCell w9 _ _=W10
       have KS:Hid (Keeps (fun x=>x=P+1) w9 W10):=by subst hW10;exact(Keeps.refl (fun x=>x=P+1) _).setCell (p:=⟨P+1,9,none⟩) (fun _=>rfl) _
       have HM10:Hid (Blk W10 (P+1) 149 (mdC ⟨⟨A1,A2,A3,A4,c1,c2,c3,c4⟩,B1,B2,some ⟨b,o,none⟩,dd1,dd2,dd3⟩ c (.slice AC c.rous.length cC) (.map (some P)) (.slice A9 (k+1) q9))):=by subst hW10;exact HM9.out.set_ 9 _
       have K9:Hid (Keeps (fun x=>(Value.slice AM k cM).ownBlock=some x) w6 w9):=((Keeps.refl (fun x=>(Value.slice AM k cM).ownBlock=some x) w6).alloc (.cells #[.slice E1 e1' e2'] 150)).trans HK9 (fun _ _ h=>h)
       have HO10:=Lib.hid (HO9.keeps (RSlice.ok (RDty.ok _ _)) KS.out (fun x hx e=>by omega))
       have KF:Hid (Keeps (fun x=>x=P∨x=P+1) W2 W10):=((HKX.out.trans K6.out (fun _ _ h=>h)).trans K9.out (fun x hx e=>absurd e (hns x hx))).trans KS.out (fun _ _ h=> .inr h)
       have HP10:=Lib.hid ((HP6.out.kept K9.out (hns P (by omega))).kept KS.out (by omega))
       have HTM:Hid (((c.miss.take k).map fun m=>tab m.dts.length (dtyAt c m))++ [tab m.dts.length (dtyAt c m)]=(c.miss.take (k+1)).map fun m=>tab m.dts.length (dtyAt c m)):=by show _=_;rw[HTK.out,List.map_append,List.map_singleton]
       have hme:Hid (misErr c m=0):=HMEQ
       rw[HTM.out]at HO10
       clear hW10 z9 f9 f9' m9 hz9 hz6 HO9 HK9 HA9 HEL HOB HM9
       go_wp2_with fail
       exact⟨⟨k+1,_,by omega,by go_num,HM10.out,HO10.out,KF.out,HP10.out,fun x hx=>by
        rw[HTK.out]at hx
        rcases List.mem_append.1 hx with hx|hx
        ·exact HALL.out x hx
        ·rw[List.mem_singleton.1 hx];exact hme.out⟩,by simp[intOf];omega⟩
      ·have hz:casErr c=0:=by
        rw[HE4.out]
        exact(firstErr_zero _ _).2 fun m hm=>HALL.out m (by rw[List.take_of_length_le (by omega)];exact hm)
       have HZ:=Lib.hid hz
       clear hz
       go_wp2_with fail
       go_ret2
       have hS:∀b,(b≠P∧b≠P+1∧b<W2.heap.size)→(b≠P∧b≠P+1∧b<wr.heap.size):=fun b hb=>⟨hb.1,hb.2.1,Nat.lt_of_lt_of_le hb.2.2 hsz⟩
       have hw:∀b,(b≠P∧b≠P+1∧b<W2.heap.size)→wr.heap[b]? =W2.heap[b]? :=fun b hb=>HKX.out.block b hb.2.2 (by rintro(e|e);exact hb.1 e;exact hb.2.1 e)
       refine⟨.pointer (some ⟨P+1,0,none⟩),by rw[HZ.out];rfl,KX3.out,fun h=>absurd HZ.out h,fun _=>⟨AC,bC,cC,P,P+1,vM,rfl,by omega,by omega,⟨HAC.out,HMBR.out,⟨HCA2.out.lay.mono hS hw,(RSlice.ok RStk.ok).mono HCA2.out.stks hS hw,(RSlice.ok RRou.ok).mono HCA2.out.rous hS hw,(RSlice.ok RMis.ok).mono HCA2.out.miss hS hw⟩,(RSlice.ok (RCrs.ok _)).mono HCR2.out hS hw,HPM.out⟩,?_⟩⟩
       have:=HOR.out.read (RSlice.ok (RDty.ok _ _)) (by omega) (S:=fun x=>x≠P∧x≠P+1∧w.heap.size≤x∧x<wr.heap.size) (fun b h1 h2=>by omega) (fun b h1 h2=>by omega)
       rw[List.take_of_length_le (by omega)]at this
       exact this
end
section
open Go.RowKit
theorem dut_zero {c:Cas} {stk:Int} {m:Mis} {k:Nat} {d:Dut} (h:dutErr c stk (preD m k) d=0):inRng c d ((k:Int)==0)=true∧motErr c.lay (rouD c d.rt) (stkD c stk)=0:=by
 unfold dutErr at h
 rw[preD_none]at h
 split at h
 ·cases h
 ·rename_i g1
  split at h
  ·rename_i g2;exact absurd h g2
  ·rename_i g2
   exact⟨by simpa using g1,by simpa using g2⟩
set_option maxRecDepth 100000 in
set_option maxHeartbeats 8000000 in
theorem rcheck39_any (c:Cas) (v:CV) (w:World) (h:RCas w (Old w) v c) (hlen:LayLen c.lay):
  Calls Tryz.prog 10 #[.agg (v.cs c)] w fun e w'=>e= .returned (.int .i64 (casErr c))∧KeepsAll w w':=by
 have HC:=Lib.hid h
 have HLC:=Lib.hid (fun W k=>rlayCheck_any c.lay v.lv W k hlen)
 have HDT:=Lib.hid (fun t k m W q hm hk hs0 hs1 hrou hn hdo=>rdut_any c v t k m W q hlen hm hk hs0 hs1 hrou hn hdo)
 have HLS:=Lib.hid (fun t k m d W q hm hd h0 h1 hv0 hv2 hl=>rlast39_any c v t k m d W q hm hd h0 h1 hv0 hv2 hl)
 have hcs:=h.stks.caps
 have hcr:=h.rous.caps
 have hcm:=h.miss.caps
 clear h
 obtain⟨⟨A1,A2,A3,A4,c1,c2,c3,c4⟩,B1,B2,B3,dd1,dd2,dd3⟩:=v
 unfold CV.cs at HDT HLS⊢
 unfold LV.cs at HLC
 simp only[]at HLC HDT HLS hcs hcr hcm⊢
 go_enter Tryz.func10,Tryz.ntmps10
 go_upto_region 1 with fail
 generalize hN:w.heap.size=N at*
 generalize hW:World.alloc w _=W
 have K0:Hid (KeepsAll w W):=by subst hW;exact(Keeps.refl _ _).alloc _
 have BC:Hid (Blk W N 32 #[.slice A1 c.lay.sts.length c1,.slice A2 c.lay.pts.length c2,.slice A3 c.lay.secs.length c3,.slice A4 c.lay.lks.length c4,.slice B1 c.stks.length dd1,.slice B2 c.rous.length dd2,.slice B3 c.miss.length dd3]):=by subst hW hN;exact Blk.new _ _ _
 clear hW
 have q0:=BC.out.cell 0
 have q1:=BC.out.cell 1
 have q2:=BC.out.cell 2
 have q3:=BC.out.cell 3
 simp at q0 q1 q2 q3
 have hzc:=BC.out.lt
 go_upto_if 18 with(go_at_call 33;go_loud(refine(HLC.out W (HC.out.lay.kept K0.out)).mono ?_;rintro e w2 ⟨rfl,k2⟩))
 have K2:Hid (KeepsAll w w2):=K0.out.trA k2
 have BC2:=Lib.hid (BC.out.kept k2 (by simp))
 clear k2 BC K0 q0 q1 q2 q3 hzc
 have HE0:Hid (casErr c=if layErr c.lay≠0 then layErr c.lay else if 8<c.stks.length∨48<c.rous.length∨10<c.miss.length then 7 else if(c.stks.any fun s=> !stkOk s)=true then 4 else if firstErr (rouErr c.lay) c.rous≠0 then firstErr (rouErr c.lay) c.rous else firstErr (misErr c) c.miss):=rfl
 generalize hle:layErr c.lay=le at HE0
 clear hle
 by_cases h0:le=0
 rotate_left
 ·have g1:(le==0)=false:=beq_eq_false_iff_ne.2 h0
  go_wp2_with fail
  go_ret
  exact⟨congrArg (fun x=>Ending.returned (Value.int .i64 x)) (show le=_ by rw[HE0.out,if_pos h0]),K2.out⟩
 subst h0
 have HE1:Hid (casErr c=if 8<c.stks.length∨48<c.rous.length∨10<c.miss.length then 7 else if(c.stks.any fun s=> !stkOk s)=true then 4 else if firstErr (rouErr c.lay) c.rous≠0 then firstErr (rouErr c.lay) c.rous else firstErr (misErr c) c.miss):=by show _=_;rw[HE0.out];simp
 have q4:=BC2.out.cell 4
 have q5:=BC2.out.cell 5
 have q6:=BC2.out.cell 6
 simp at q4 q5 q6
 have hzc:=BC2.out.lt
 by_cases hbig:8<c.stks.length∨48<c.rous.length∨10<c.miss.length
 ·have HE2:Hid (casErr c=7):=by show _=_;rw[HE1.out,if_pos hbig]
  by_cases b1:8<c.stks.length
  ·have e1:decide ((8:Int)<(c.stks.length:Int))=true:=decide_eq_true (by omega)
   go_wp2_with fail
   go_ret
   exact⟨congrArg (fun x=>Ending.returned (Value.int .i64 x)) HE2.out.symm,K2.out⟩
  by_cases b2:48<c.rous.length
  ·have e1:decide ((8:Int)<(c.stks.length:Int))=false:=decide_eq_false (by omega)
   have e2:decide ((48:Int)<(c.rous.length:Int))=true:=decide_eq_true (by omega)
   go_wp2_with fail
   go_ret
   exact⟨congrArg (fun x=>Ending.returned (Value.int .i64 x)) HE2.out.symm,K2.out⟩
  have e1:decide ((8:Int)<(c.stks.length:Int))=false:=decide_eq_false (by omega)
  have e2:decide ((48:Int)<(c.rous.length:Int))=false:=decide_eq_false (by omega)
  have e3:decide ((10:Int)<(c.miss.length:Int))=true:=decide_eq_true (by omega)
  go_wp2_with fail
  go_ret
  exact⟨congrArg (fun x=>Ending.returned (Value.int .i64 x)) HE2.out.symm,K2.out⟩
 have hs8:c.stks.length≤8:=by omega
 have hr48:c.rous.length≤48:=by omega
 have hm10:c.miss.length≤10:=by omega
 have HE2:Hid (casErr c=if(c.stks.any fun s=> !stkOk s)=true then 4 else if firstErr (rouErr c.lay) c.rous≠0 then firstErr (rouErr c.lay) c.rous else firstErr (misErr c) c.miss):=by show _=_;rw[HE1.out,if_neg hbig]
 have e1:decide ((8:Int)<(c.stks.length:Int))=false:=decide_eq_false (by omega)
 have e2:decide ((48:Int)<(c.rous.length:Int))=false:=decide_eq_false (by omega)
 have e3:decide ((10:Int)<(c.miss.length:Int))=false:=decide_eq_false (by omega)
 clear hbig HE0 HE1
 have HCK:=Lib.hid (fun s W=>rstkOk_any s W)
 go_wp2_with fail
 try simp only[bne_self_eq_false]
 go_loopw [39] (fun i wr=>∃j:Nat,j≤c.stks.length∧i= .int .i64 (j:Int)∧KeepsAll w2 wr∧∀s∈c.stks.take j,stkOk s=true) (fun i _=>c.stks.length-(intOf i).toNat)
 case atStart=>exact⟨0,Nat.zero_le _,rfl,Keeps.refl _ _,by simp⟩
 case round=>
  obtain⟨j,hj,rfl,hk,hall⟩:=hrel
  have HALL:=Lib.hid hall
  have KR:=Lib.hid (K2.out.trA hk)
  have BCR:=Lib.hid (BC2.out.kept hk (by simp))
  have HK2:=Lib.hid hk
  clear hk hall q4 q5 q6
  by_cases hlt:j<c.stks.length
  ·obtain⟨b,o,s,hA,hb,hs,s0,s1,s2,s3,s4⟩:=HC.out.stks.atO KR.out hlt
   simp only[]at hA
   subst hA
   unfold stkC at HCK
   have HST:=Lib.hid (HCK.out s)
   have HTK:Hid (c.stks.take (j+1)=c.stks.take j++ [s]):=by show _=_;rw[List.take_add_one,hs];rfl
   have HMEM:Hid (s∈c.stks):=List.mem_of_getElem? hs
   clear hs HCK
   obtain⟨sn,sl,sv,sa,sb⟩:=s
   simp only[]at s0 s1 s2 s3 s4 HST
   go_upto_if 45 with(go_at_call 34;go_loud(refine(HST.out _).mono ?_;rintro e w3 ⟨rfl,k3⟩))
   generalize hso:stkOk ⟨sn,sl,sv,sa,sb⟩=so at*
   have HSO:=Lib.hid hso
   clear hso
   have K3:Hid (KeepsAll w2 w3):=(HK2.out.alloc _).trA k3
   clear k3
   rcases so with _|_
   ·have HE3:Hid (casErr c=4):=by
     show _=_
     rw[HE2.out,if_pos]
     exact List.any_eq_true.2 ⟨_,HMEM.out,by rw[HSO.out];rfl⟩
    go_wp2_with fail
    go_ret
    exact⟨congrArg (fun x=>Ending.returned (Value.int .i64 x)) HE3.out.symm,K2.out.trA K3.out⟩
   ·go_wp2_with fail
    exact⟨⟨j+1,by omega,by go_num,K3.out,fun x hx=>by
     rw[HTK.out]at hx
     rcases List.mem_append.1 hx with hx|hx
     ·exact HALL.out x hx
     ·rw[List.mem_singleton.1 hx];exact HSO.out⟩,by simp[intOf];omega⟩
  ·have hany:(c.stks.any fun s=> !stkOk s)=false:=by
    rw[List.any_eq_false]
    intro x hx
    have:=HALL.out x (by rw[List.take_of_length_le (by omega)];exact hx)
    simp[this]
   have HE3:Hid (casErr c=if firstErr (rouErr c.lay) c.rous≠0 then firstErr (rouErr c.lay) c.rous else firstErr (misErr c) c.miss):=by show _=_;rw[HE2.out,hany];simp
   clear hany HE2 HCK HALL HK2 BC2 K2
   have q5:=BCR.out.cell 5
   simp at q5
   have hzc:=BCR.out.lt
   generalize hWm:wr=Wm at*
   clear hWm
   go_wp2_with fail
   go_loopw [50] (fun i wx=>∃j:Nat,j≤c.rous.length∧i= .int .i64 (j:Int)∧KeepsAll Wm wx∧∀r∈c.rous.take j,rouErr c.lay r=0) (fun i _=>c.rous.length-(intOf i).toNat)
   case atStart=>exact⟨0,Nat.zero_le _,rfl,Keeps.refl _ _,by simp⟩
   case round=>
    obtain⟨j',hj',rfl,hk,hall⟩:=hrel
    have HALL:=Lib.hid hall
    have KX:Hid (KeepsAll w wr):=KR.out.trA hk
    have HKX:=Lib.hid hk
    have BCX:=Lib.hid (BCR.out.kept hk (by simp))
    clear hk hall q5
    by_cases hlt':j'<c.rous.length
    ·obtain⟨b,o,r,A',c',hA,hb,hr,r0,r1,hst⟩:=HC.out.rous.atO KX.out hlt'
     simp only[]at hA
     subst hA
     have hrc:=hst.caps
     have HST:Hid (∀W',KeepsAll w W'→RStps W' (Old W') [.slice A' r.stps.length c'] r.stps):=fun W' k=>k.rdA (RSlice.ok RStp.ok) hst
     have HTK:Hid (c.rous.take (j'+1)=c.rous.take j'++ [r]):=by show _=_;rw[List.take_add_one,hr];rfl
     have HAT:Hid (firstErr (rouErr c.lay) (c.rous.drop j')=if rouErr c.lay r≠0 then rouErr c.lay r else firstErr (rouErr c.lay) (c.rous.drop (j'+1))):=firstErr_at _ _ _ _ hr
     have HFE:Hid (firstErr (rouErr c.lay) c.rous=firstErr (rouErr c.lay) (c.rous.drop j')):=firstErr_drop _ _ HALL.out
     have HRC:=Lib.hid (fun W k1 k2=>rrouCheck_any c.lay ⟨A1,A2,A3,A4,c1,c2,c3,c4⟩ r A' c' W k1 k2 hlen)
     unfold LV.cs at HRC
     simp only[]at HRC
     clear hr hst
     have q0:=BCX.out.cell 0
     have q1:=BCX.out.cell 1
     have q2:=BCX.out.cell 2
     have q3:=BCX.out.cell 3
     simp at q0 q1 q2 q3
     have hzc:=BCX.out.lt
     go_upto_if 59 with(go_at_call 35;go_loud(have K5:=KX.out.alloc (.cells #[.slice A' r.stps.length c',.int .i64 r.ov] 95);refine(HRC.out _ (HC.out.lay.kept K5) (HST.out _ K5)).mono ?_;rintro e w3 ⟨rfl,k3⟩))
     have K13:Hid (KeepsAll wr w3):=((Keeps.refl _ _).alloc (.cells #[.slice A' r.stps.length c',.int .i64 r.ov] 95)).trA k3
     clear k3
     generalize hre:rouErr c.lay r=re at*
     have HRE:=Lib.hid hre
     clear hre
     by_cases hre:re=0
     rotate_left
     ·have g1:(re==0)=false:=beq_eq_false_iff_ne.2 hre
      have HE4:Hid (casErr c=re):=by show _=_;rw[HE3.out,HFE.out,HAT.out,if_pos hre,if_pos hre]
      go_wp2_with fail
      go_ret
      exact⟨congrArg (fun x=>Ending.returned (Value.int .i64 x)) HE4.out.symm,KX.out.trA K13.out⟩
     subst hre
     go_wp2_with fail
     exact⟨⟨j'+1,by omega,by go_num,HKX.out.trA K13.out,fun x hx=>by
      rw[HTK.out]at hx
      rcases List.mem_append.1 hx with hx|hx
      ·exact HALL.out x hx
      ·rw[List.mem_singleton.1 hx];exact HRE.out⟩,by simp[intOf];omega⟩
    ·have hrou:∀i:Nat,i<c.rous.length→RouOk c.lay (rouD c i):=fun i hi=>by
      have h1:=rouD_at (c:=c) (i:=(i:Int)) (by omega) (by omega)
      rw[Int.toNat_natCast]at h1
      exact(rouErr_zero _ _).1 (HALL.out _ (by rw[List.take_of_length_le (by omega)];exact List.mem_of_getElem? h1))
     have HROU:=Lib.hid hrou
     have hfe:firstErr (rouErr c.lay) c.rous=0:=(firstErr_zero _ _).2 fun r hr=>HALL.out r (by rw[List.take_of_length_le (by omega)];exact hr)
     have HE4:Hid (casErr c=firstErr (misErr c) c.miss):=by show _=_;rw[HE3.out,hfe];simp
     clear hrou hfe HALL HKX BCR KR HE3
     generalize hW2:wr=W2 at*
     clear hW2
     have q6:=BCX.out.cell 6
     simp at q6
     have hzc:=BCX.out.lt
     go_wp2_with fail
     go_loopw [65] (fun i wx=>∃j:Nat,j≤c.miss.length∧i= .int .i64 (j:Int)∧KeepsAll W2 wx∧∀m∈c.miss.take j,misErr c m=0) (fun i _=>c.miss.length-(intOf i).toNat)
     case atStart=>exact⟨0,Nat.zero_le _,rfl,Keeps.refl _ _,by simp⟩
     case round=>
      obtain⟨t,ht,rfl,hk,hall⟩:=hrel
      have HALL:=Lib.hid hall
      have KX3:Hid (KeepsAll w wr):=KX.out.trA hk
      have HKX:=Lib.hid hk
      have BC3:=Lib.hid (BCX.out.kept hk (by simp))
      clear hk hall q6
      by_cases hlt3:t<c.miss.length
      ·obtain⟨b,o,m,A',c',hA,hb,hm,r0,r1,hdu⟩:=HC.out.miss.atO KX3.out hlt3
       simp only[]at hA
       subst hA
       have hrc:=hdu.caps
       have HMM:=Lib.hid hm
       have HTK:Hid (c.miss.take (t+1)=c.miss.take t++ [m]):=by show _=_;rw[List.take_add_one,hm];rfl
       have HAT:Hid (firstErr (misErr c) (c.miss.drop t)=if misErr c m≠0 then misErr c m else firstErr (misErr c) (c.miss.drop (t+1))):=firstErr_at _ _ _ _ hm
       have HFE:Hid (firstErr (misErr c) c.miss=firstErr (misErr c) (c.miss.drop t)):=firstErr_drop _ _ HALL.out
       have HBAD:Hid (∀x,misErr c m=x→x≠0→x=casErr c):=fun x hx h0=>by rw[HE4.out,HFE.out,HAT.out,hx,if_pos h0]
       clear hm hdu
       go_upto_region 22 with fail
       generalize hW3:World.alloc wr _=W3
       have K3:Hid (KeepsAll wr W3):=by subst hW3;exact(Keeps.refl _ _).alloc _
       have BM:Hid (Blk W3 wr.heap.size 36 #[.int .i64 m.stk,.slice A' m.dts.length c']):=by subst hW3;exact Blk.new _ _ _
       have BC4:=Lib.hid (BC3.out.kept K3.out (by simp))
       have KW3:=Lib.hid (KX3.out.trA K3.out)
       clear hW3 r0 r1 BC3
       have n0:=BM.out.cell 0
       have n1:=BM.out.cell 1
       have q4:=BC4.out.cell 4
       simp at n0 n1 q4
       have hzm:=BM.out.lt
       have hzc4:=BC4.out.lt
       generalize hpm:wr.heap.size=pm at*
       by_cases g1:m.stk<0
       ·have e5:decide (m.stk<0)=true:=decide_eq_true g1
        have HE5:=Lib.hid (HBAD.out 4 (by unfold misErr;rw[if_pos (.inl g1)]) (by decide))
        clear g1
        go_wp2_with fail
        go_ret
        exact⟨congrArg (fun x=>Ending.returned (Value.int .i64 x)) HE5.out,KW3.out⟩
       by_cases g2:(c.stks.length:Int)≤m.stk
       ·have e5:decide (m.stk<0)=false:=decide_eq_false g1
        have e6:decide ((c.stks.length:Int)≤m.stk)=true:=decide_eq_true g2
        have HE5:=Lib.hid (HBAD.out 4 (by unfold misErr;rw[if_pos (.inr g2)]) (by decide))
        clear g1 g2
        go_wp2_with fail
        go_ret
        exact⟨congrArg (fun x=>Ending.returned (Value.int .i64 x)) HE5.out,KW3.out⟩
       have hM1:misErr c m=if m.dts=[]then 1 else if 12<m.dts.length then 7 else if dutsErr c m.stk none m.dts≠0 then dutsErr c m.stk none m.dts else if 64<stagesN c m.dts then 7 else 0:=by
        unfold misErr;rw[if_neg (by omega)]
       have HM1:=Lib.hid hM1
       clear hM1
       have hst0:0≤m.stk:=by omega
       have hst1:m.stk<c.stks.length:=by omega
       have e5:decide (m.stk<0)=false:=decide_eq_false g1
       have e6:decide ((c.stks.length:Int)≤m.stk)=false:=decide_eq_false g2
       clear g1 g2
       by_cases g3:m.dts.length=0
       ·have e7:((m.dts.length:Int)==0)=true:=by simp[g3]
        have HE5:=Lib.hid (HBAD.out 1 (by rw[HM1.out,if_pos (List.length_eq_zero_iff.1 g3)]) (by decide))
        clear g3
        go_wp2_with fail
        go_ret
        exact⟨congrArg (fun x=>Ending.returned (Value.int .i64 x)) HE5.out,KW3.out⟩
       have e7:((m.dts.length:Int)==0)=false:=beq_eq_false_iff_ne.2 (by omega)
       have hne:¬m.dts=[]:=fun e=>g3 (by rw[e];rfl)
       by_cases g4:12<m.dts.length
       ·have e8:decide ((12:Int)<(m.dts.length:Int))=true:=decide_eq_true (by omega)
        have HE5:=Lib.hid (HBAD.out 7 (by rw[HM1.out,if_neg hne,if_pos g4]) (by decide))
        go_wp2_with fail
        go_ret
        exact⟨congrArg (fun x=>Ending.returned (Value.int .i64 x)) HE5.out,KW3.out⟩
       have e8:decide ((12:Int)<(m.dts.length:Int))=false:=decide_eq_false (by omega)
       have HM2:Hid (misErr c m=if dutsErr c m.stk none m.dts≠0 then dutsErr c m.stk none m.dts else if 64<stagesN c m.dts then 7 else 0):=by show _=_;rw[HM1.out,if_neg hne,if_neg g4]
       have hd12:m.dts.length≤12:=by omega
       clear HM1 hne g3 g4
       go_wp2_with fail
       clear n0 n1 q4 hzc4 hzm
       go_loopw [92,11] (fun i s wy=>∃k:Nat,k≤m.dts.length∧i= .int .i64 (k:Int)∧s= .int .i64 ((1:Int)+(fstN c m k:Int))∧KeepsAll W3 wy∧DtOk c m k) (fun i _ _=>m.dts.length-(intOf i).toNat)
       case atStart=>exact⟨0,Nat.zero_le _,rfl,by simp[fstN],Keeps.refl _ _,⟨rfl,fun i hi=>by omega⟩⟩
       case round=>
        obtain⟨k,hk,rfl,rfl,hkk,hdo⟩:=hrel
        have HDO:=Lib.hid hdo
        have KW4:=Lib.hid (KW3.out.trA hkk)
        have HK4:=Lib.hid hkk
        have BC5:=Lib.hid (BC4.out.kept hkk (by simp))
        have hfl:fstN c m k≤24*k:=hdo.fst_le hk
        clear hkk hdo
        by_cases hlt4:k<m.dts.length
        ·have HD1:=Lib.hid (fun W q=>HDT.out t k m W q HMM.out hlt4 hst0 hst1 HROU.out (by omega) HDO.out)
         have HBD:=Lib.hid (fun(x:Int) hx h0=>HDO.out.bad hlt4 (x:=x) hx h0)
         have HZR:=Lib.hid (fun h=>dut_zero (c:=c) (stk:=m.stk) (m:=m) (k:=k) (d:=dutD m k) h)
         have HNX:=Lib.hid (HDO.out.next hlt4)
         have HFS:=Lib.hid (fstN_succ c (m:=m) (i:=k) hlt4)
         have c0:=BC5.out.cell 0
         have c1':=BC5.out.cell 1
         have c2':=BC5.out.cell 2
         have c3':=BC5.out.cell 3
         have c4':=BC5.out.cell 4
         have c5':=BC5.out.cell 5
         have c6':=BC5.out.cell 6
         simp at c0 c1' c2' c3' c4' c5' c6'
         have hzc5:=BC5.out.lt
         go_upto_if 100 with(go_at_call 36;go_loud(refine(HD1.out _ (HC.out.kept KW4.out)).mono ?_;rintro e w9 ⟨rfl,k9⟩))
         generalize hde:dutErr c m.stk (preD m k) (dutD m k)=de at*
         clear hde
         have K9:Hid (KeepsAll W3 w9):=HK4.out.trA k9
         have BC9:=Lib.hid (BC5.out.kept k9 (by simp))
         clear c0 c1' c2' c3' c4' c5' c6' hzc5 k9 HD1 BC5
         by_cases hd0:de=0
         rotate_left
         ·have g1:(de==0)=false:=beq_eq_false_iff_ne.2 hd0
          have HE5:=Lib.hid (HBAD.out de (by rw[HM2.out,HBD.out de rfl hd0,if_pos hd0]) hd0)
          go_wp2_with fail
          go_ret
          exact⟨congrArg (fun x=>Ending.returned (Value.int .i64 x)) HE5.out,KW3.out.trA K9.out⟩
         subst hd0
         obtain⟨hin,hmo⟩:=HZR.out rfl
         have hdn:=HNX.out rfl hin hmo
         have HDN:=Lib.hid hdn
         have hrg:=hdn.rng k (by omega)
         have hokk:RouOk c.lay (rouD c (dutD m k).rt):=(fitErr_ok (motErr_fit hmo)).rou
         have HL1:=Lib.hid (fun W q=>HLS.out t k m (dutD m k) W q HMM.out (dutD_at hlt4) hrg.1 hrg.2.1 hokk.ov0 hokk.ov2 hokk.len)
         rw[(lastC_eq hokk).1]at HL1
         have hl24:=(lastC_eq hokk).2.2
         have hfs:=HFS.out
         have hfd:fstN c m (k+1)≤24*(k+1):=hdn.fst_le (by omega)
         clear hin hmo hdn hrg hokk hfs HZR HNX HBD
         generalize lastC c (dutD m k).rt=lk at*
         have c0:=BC9.out.cell 0
         have c1':=BC9.out.cell 1
         have c2':=BC9.out.cell 2
         have c3':=BC9.out.cell 3
         have c4':=BC9.out.cell 4
         have c5':=BC9.out.cell 5
         have c6':=BC9.out.cell 6
         simp at c0 c1' c2' c3' c4' c5' c6'
         have hzc9:=BC9.out.lt
         go_wp2_with(go_at_call 37;go_loud(refine(HL1.out _ (HC.out.kept (KW3.out.trA K9.out))).mono ?_;rintro e w10 ⟨rfl,k10⟩))
         exact⟨⟨k+1,by omega,by go_num,by rw[HFS.out];exact congrArg (Value.int .i64) (by omega),K9.out.trA k10,HDN.out⟩,by simp[intOf];omega⟩
        ·obtain rfl:k=m.dts.length:=by omega
         have hsn:((1:Int)+(fstN c m m.dts.length:Int))=(stagesN c m.dts:Int):=by unfold stagesN fstN;rw[List.take_length];omega
         have HM3:Hid (misErr c m=if 64<stagesN c m.dts then 7 else 0):=by show _=_;rw[HM2.out,HDO.out.err,List.drop_length];simp[dutsErr]
         have hs9:stagesN c m.dts≤1000:=by omega
         rw[hsn]
         clear hsn hfl
         generalize stagesN c m.dts=sn at*
         by_cases h64:64<sn
         ·have s1:decide ((64:Int)<(sn:Int))=true:=decide_eq_true (by omega)
          have HE5:=Lib.hid (HBAD.out 7 (by rw[HM3.out,if_pos h64]) (by decide))
          go_wp2_with fail
          go_ret
          exact⟨congrArg (fun x=>Ending.returned (Value.int .i64 x)) HE5.out,KW4.out⟩
         ·have s1:decide ((64:Int)<(sn:Int))=false:=decide_eq_false (by omega)
          have hme:Hid (misErr c m=0):=by show _=_;rw[HM3.out,if_neg h64]
          go_wp2_with fail
          exact⟨⟨t+1,by omega,by go_num,(HKX.out.trA K3.out).trA HK4.out,fun x hx=>by
           rw[HTK.out]at hx
           rcases List.mem_append.1 hx with hx|hx
           ·exact HALL.out x hx
           ·rw[List.mem_singleton.1 hx];exact hme.out⟩,by simp[intOf];omega⟩
      ·have hz:casErr c=0:=by
        rw[HE4.out]
        exact(firstErr_zero _ _).2 fun m hm=>HALL.out m (by rw[List.take_of_length_le (by omega)];exact hm)
       have HZ:=Lib.hid hz
       clear hz
       go_wp2_with fail
       go_ret
       exact⟨congrArg (fun x=>Ending.returned (Value.int .i64 x)) HZ.out.symm,KX3.out⟩
end
end Go.Proofs.YtcbcegdidlefiaaGreat
