/- Contract of newCourse (operate, program): the course of a valid route in a valid layout. Conditions: as each theorem says. -/
import Derived.Test.YtcbcegdidlefiaaGreatK01
import Derived.Test.YtcbcegdidlefiaaGreatK23
import Derived.Test.YtcbcegdidlefiaaGreatK21
import Derived.Test.YtcbcegdidlefiaaGreatK18
import Derived.Test.YtcbcegdidlefiaaGreatK08
import Derived.Deep.Cut
namespace Go.Proofs.YtcbcegdidlefiaaGreat
open Go.RowKit
theorem tySec:ElemTy Tryz.prog 24 185 5 48:= .mk' Tryz.underlying24 (z:= .agg #[.string ⟨#[]⟩,.int .i64 0,.int .i64 0,.int .i64 0,.int .i64 0]) (by kernel_rfl) rfl (by omega)
theorem tyStrC:ElemTy Tryz.prog 23 9 1 16:= .mk' Tryz.underlying23 (z:= .string ⟨#[]⟩) (by kernel_rfl) rfl (by omega)
def crsIs (n:Nat) (vS vP vT vC vK vR:Value) (mp:Nat) (lS lP:List Int) (lT:List Bs) (lC:List Sec) (lK:List Lnk) (lR:List Stp) (ks:List Int):List (Value×(World→Prop)):=
 [(
  vS,fun x=>OwnL 3 1 RInt x n n vS lS),(vP,fun x=>OwnL 3 1 RInt x n n vP lP),(vT,fun x=>OwnL 9 1 RStr x n n vT lT),(vC,fun x=>OwnL 185 5 RSec x n n vC lC),
  (vK,fun x=>OwnL 196 6 RLnk x n n vK lK),(vR,fun x=>OwnL 200 2 RStp x n n vR lR),(.slice (some ⟨mp,0,none⟩) 0 0,fun x=>MapIs x mp ks (numF ks))]
theorem OwnI.nil {α:Type} {t size n:Nat} {E:Rd α} {w:World}:OwnI n w (.slice none 0 0) fun x=>OwnL t size E x n n (.slice none 0 0) ([]:List α):=
 ⟨fun b hb=>(by cases hb),fun _ _ _ _=>OwnL.nil⟩
theorem OwnI.map {n mp:Nat} {ks:List Int} {w:World} (hn:n≤mp) (h:MapIs w mp ks (numF ks)):OwnI n w (.slice (some ⟨mp,0,none⟩) 0 0) fun x=>MapIs x mp ks (numF ks):=
 ⟨fun b hb=>by cases hb;exact⟨hn,h.lt⟩,fun _ _ k hC=>h.kept k (hC mp rfl)⟩
theorem crs_start {w:World} {z:Nat} {x y:Value} (hb:Blk w z 155 #[.slice none 0 0,.slice none 0 0,x,.slice none 0 0,.slice none 0 0,.slice none 0 0,.slice none 0 0,.slice none 0 0,y]):
  Grw w (w.alloc (.map #[] 0)) z 155 #[.slice none 0 0,.slice none 0 0,x,.slice none 0 0,.slice none 0 0,.slice none 0 0,.slice none 0 0,.slice none 0 0,y] (crsIs w.heap.size (.slice none 0 0) (.slice none 0 0) (.slice none 0 0) (.slice none 0 0) (.slice none 0 0) (.slice none 0 0) w.heap.size [] [] [] [] [] [] []):=by
 refine⟨(Keeps.refl _ _).alloc _,hb.alloc _,fun p hp=> ?_,?_⟩
 ·simp only[crsIs,List.mem_cons,List.not_mem_nil,or_false]at hp
  rcases hp with rfl|rfl|rfl|rfl|rfl|rfl|rfl
  ·exact OwnI.nil
  ·exact OwnI.nil
  ·exact OwnI.nil
  ·exact OwnI.nil
  ·exact OwnI.nil
  ·exact OwnI.nil
  ·refine OwnI.map (Nat.le_refl _) ?_
   rw[numF_nil]
   exact MapIs.new w
 ·simp only[crsIs,List.pairwise_cons,List.mem_cons,List.not_mem_nil,or_false,List.Pairwise.nil,and_true]
  refine⟨?_,?_,?_,?_,?_,?_,fun _ h=>h.elim⟩<;>(intro q hq x hx;cases hx)
set_option maxRecDepth 100000 in
set_option maxHeartbeats 8000000 in
theorem newCourse_any (L:Lay) (v:LV) (r:Rou) (A:Option Addr) (c:Nat) (w:World) (h:RLay w (Old w) v L) (hr:RStps w (Old w) [.slice A r.stps.length c] r.stps) (_hlen:LayLen L) (hok:RouOk L r):
  Calls Tryz.prog 111 #[.agg (v.cs L),.agg #[.slice A r.stps.length c,.int .i64 r.ov]] w fun e w'=>∃A1 c1 A2 c2 A3 c3 v',e= .returned (.agg #[.slice A1 r.stps.length c1,.slice A2 r.stps.length c2,.int .i64 (lastR r),
   .slice v'.A1 (crsLay L r).sts.length v'.c1,.slice v'.A2 (crsLay L r).pts.length v'.c2,.slice v'.A3 (crsLay L r).secs.length v'.c3,.slice v'.A4 (crsLay L r).lks.length v'.c4,.slice A3 r.stps.length c3,.int .i64 r.ov])∧KeepsAll w w'∧
   RInts w' (Fresh w w') [.slice A1 r.stps.length c1] (r.stps.map (·.sec))∧RInts w' (Fresh w w') [.slice A2 r.stps.length c2] (tab r.stps.length (crsPt L r))∧RLay w' (Fresh w w') v' (crsLay L r)∧RStps w' (Fresh w w') [.slice A3 r.stps.length c3] (crsRou r).stps:=by
 have hcr:=hr.caps
 have hc3:=h.secs.caps
 have hc2:=h.pts.caps
 have g41:=hok.len
 have g42:=hok.ov2
 have g43:=hok.ov0
 have g44:=hok.two
 have g1:=hok.lay.pts
 have g2:=hok.lay.secs
 have HL:=Lib.hid h
 have HR:=Lib.hid hr
 have HO:=Lib.hid hok
 have HLB:=Lib.hid (fun s t kk W k1 hkk=>linkBetween_any L v s t kk W k1 hok.lay hkk)
 have HEX:=Lib.hid (fun s W=>oexit_any s W)
 obtain⟨ov,hov⟩:=Int.eq_ofNat_of_zero_le g43
 obtain⟨b0,o0,x0,hA,-,hx0,-,-⟩:=HR.out.at_ (k:=0) (by omega)
 subst hA
 have HLR:Hid (lastR r=(r.stps.length:Int)-ov-1):=by show _=_;unfold lastR;rw[hov]
 rw[hov]at g42 g43 g44⊢
 clear h hr hx0
 obtain⟨A1,A2,A3,A4,ca1,ca2,ca3,ca4⟩:=v
 unfold LV.cs at HLB⊢
 simp only[]at HLB hc3 hc2⊢
 rw[HLR.out]
 clear hok
 go_enter Tryz.func111,Tryz.ntmps111
 go_upto_region 1 with fail
 generalize hN:w.heap.size=N at*
 generalize hW:World.alloc (World.alloc (World.alloc w _) _) _=W
 have K0:Hid (KeepsAll w W):=by subst hW;exact(((Keeps.refl _ _).alloc _).alloc _).alloc _
 have B0:Hid (Blk W N 27 #[.slice A1 L.sts.length ca1,.slice A2 L.pts.length ca2,.slice A3 L.secs.length ca3,.slice A4 L.lks.length ca4]):=by subst hW hN;exact((Blk.new _ _ _).alloc _).alloc _
 have BR:Hid (Blk W (N+1) 95 #[.slice (some ⟨b0,o0,none⟩) r.stps.length c,.int .i64 ov]):=by subst hW;exact(Blk.new' _ _ _ (by simp[hN])).alloc _
 have BZ:Hid (Blk W (N+1+1) 155 #[.slice none 0 0,.slice none 0 0,.int .i64 0,.slice none 0 0,.slice none 0 0,.slice none 0 0,.slice none 0 0,.slice none 0 0,.int .i64 0]):=by subst hW;exact Blk.new' _ _ _ (by simp[hN])
 have HWS:Hid (W.heap.size=N+1+1+1):=by subst hW;show _=_;simp[hN]
 clear hW
 have r0:=BR.out.cell 0
 have r1:=BR.out.cell 1
 simp at r0 r1
 have hzr:=BR.out.lt
 go_upto_region 2 with fail
 clear r0 r1 hzr
 have BRK:Hid (Blk (World.alloc W _) (N+1) 95 #[.slice (some ⟨b0,o0,none⟩) r.stps.length c,.int .i64 ov]):=BR.out.alloc (.cells #[.slice none 0 0,.slice none 0 0,.int .i64 ((r.stps.length:Int)-ov-1),.slice none 0 0,.slice none 0 0,.slice none 0 0,.slice none 0 0,.slice none 0 0,.int .i64 ov] 155)
 have HG0:=Lib.hid (crs_start (Blk.new W 155 #[.slice none 0 0,.slice none 0 0,.int .i64 ((r.stps.length:Int)-ov-1),.slice none 0 0,.slice none 0 0,.slice none 0 0,.slice none 0 0,.slice none 0 0,.int .i64 ov]))
 have BC:Hid (Blk (World.alloc W _) N 27 #[.slice A1 L.sts.length ca1,.slice A2 L.pts.length ca2,.slice A3 L.secs.length ca3,.slice A4 L.lks.length ca4]):=B0.out.alloc (.cells #[.slice none 0 0,.slice none 0 0,.int .i64 ((r.stps.length:Int)-ov-1),.slice none 0 0,.slice none 0 0,.slice none 0 0,.slice none 0 0,.slice none 0 0,.int .i64 ov] 155)
 have BZC:Hid (Blk (World.alloc W _) (N+1+1) 155 #[.slice none 0 0,.slice none 0 0,.int .i64 0,.slice none 0 0,.slice none 0 0,.slice none 0 0,.slice none 0 0,.slice none 0 0,.int .i64 0]):=BZ.out.alloc (.cells #[.slice none 0 0,.slice none 0 0,.int .i64 ((r.stps.length:Int)-ov-1),.slice none 0 0,.slice none 0 0,.slice none 0 0,.slice none 0 0,.slice none 0 0,.int .i64 ov] 155)
 have KC:Hid (KeepsAll w (World.alloc W (.cells #[.slice none 0 0,.slice none 0 0,.int .i64 ((r.stps.length:Int)-ov-1),.slice none 0 0,.slice none 0 0,.slice none 0 0,.slice none 0 0,.slice none 0 0,.int .i64 ov] 155))):=K0.out.alloc _
 have hzW:W.heap.size=N+1+1+1:=HWS.out
 generalize hW0:World.alloc W _=W0 at*
 have hW0s:Hid (W0.heap.size=N+1+1+1+1):=by subst hW0;show _=_;simp[hzW]
 rw[hzW]at*
 clear hW0 BR B0 BZ K0 HWS hzW
 generalize hz:N+1+1+1=z at*
 have hmm:= @run_makeMap Tryz.prog
 go_upto_region 3 with fail
 generalize hWm:World.alloc W0 (.map #[] 0)=Wm at*
 clear hWm hmm
 have hz9:z<W0.heap.size:=by have:=hW0s.out;omega
 have BR1:Hid (Blk Wm (N+1) 95 #[.slice (some ⟨b0,o0,none⟩) r.stps.length c,.int .i64 ov]):=BRK.out.kept HG0.out.k (by omega)
 have r0:=BR1.out.cell 0
 simp at r0
 go_wp2_with fail
 go_loopw [29] (fun i wr=>∃(j:Nat) (vS vP vT vC vK vR:Value),j≤r.stps.length∧i= .int .i64 (j:Int)∧Grw W0 wr z 155 #[vS,vP,.int .i64 ((r.stps.length:Int)-ov-1),.slice none 0 0,vT,vC,vK,vR,.int .i64 ov]
  (crsIs W0.heap.size vS vP vT vC vK vR W0.heap.size ((r.stps.take j).map (·.sec)) (tab j (crsPt L r)) (ptNm L (pdN L r (j-1))) ((r.stps.take j).map (crsSec L)) (tab (j-1) (crsLnk L r)) (tab j fun i=>⟨i,(stpD r i).dir⟩) (pdN L r (j-1)))) (fun i _=>r.stps.length-(intOf i).toNat)
 case atStart=>exact⟨0,_,_,_,_,_,_,Nat.zero_le _,rfl,by simpa[tab,pdN,pdOf,ptNm]using HG0.out⟩
 case round=>
  obtain⟨j,vS,vP,vT,vC,vK,vR,hj,rfl,hg⟩:=hrel
  have HG:=Lib.hid hg
  have KW:Hid (KeepsAll w wr):=KC.out.trans hg.k (fun x hx e=>by omega)
  have CR:=Lib.hid (BRK.out.kept hg.k (by omega))
  have C0:=Lib.hid (BC.out.kept hg.k (by omega))
  clear hg r0
  by_cases hlt:j<r.stps.length
  ·obtain⟨b1,o1,s,hE,hb1,hs,m0,m1⟩:=HR.out.at_ hlt
   injection hE with hE;injection hE with hE1 hE2;subst hE1 hE2
   have hsd:=stpD_at (r:=r) hlt
   rw[hs]at hsd
   obtain⟨hq0,hq1⟩:0≤s.sec∧s.sec<L.secs.length:=by
    have:=HO.out.stp s (List.mem_of_getElem? hs)
    simp[stpOk]at this
    omega
   have HS:Hid (stpD r j=s):=(Option.some.inj hsd).symm
   have HTK:Hid (r.stps.take (j+1)=r.stps.take j++ [s]):=by show _=_;rw[List.take_add_one,hs];rfl
   obtain⟨q,hq⟩:=Int.eq_ofNat_of_zero_le hq0
   obtain⟨bS,oS,sc,hAS,hbS,hsc,c0,c1,c2,c3,c4⟩:=HL.out.secs.atO KW.out (k:=q) (by omega)
   simp only[]at hAS
   subst hAS
   have HSC:Hid (crsSec L s= {sc with sta:= -1}):=by
    show _=_
    unfold crsSec secD
    rw[hq,Int.toNat_natCast,List.getD_eq_getElem?_getD,hsc];rfl
   replace m0:=KW.out.cellA (by simpa[Old,hN]using hb1) m0
   replace m1:=KW.out.cellA (by simpa[Old,hN]using hb1) m1
   have hql:q<L.secs.length:=by omega
   clear hs hsd hq0 hq1 hsc
   obtain⟨s1,s2⟩:=s
   simp only[]at hq m0 m1
   subst hq
   obtain⟨sn,sl,sm,sg,st⟩:=sc
   simp only[]at c0 c1 c2 c3 c4 HSC
   have l2:=C0.out.cell 2
   simp at l2
   have hzl:=C0.out.lt
   have hb1w:b0<w.heap.size:=hb1
   go_upto_region 8 with fail
   generalize hp8:wr.heap.size=p8 at*
   generalize hW8:World.alloc (World.alloc wr _) _=W8
   have K8:Hid (KeepsAll wr W8):=by subst hW8;exact((Keeps.refl _ _).alloc _).alloc _
   have HG8:=Lib.hid (HG.out.keep K8.out)
   have B8:Hid (Blk W8 p8 200 #[.int .i64 q,.int .i64 s2]):=by subst hW8;exact(Blk.new' _ _ _ hp8.symm).alloc _
   have B9:Hid (Blk W8 (p8+1) 185 (secC ⟨sn,sl,sm,sg,-1⟩)):=by subst hW8;exact Blk.new' _ _ _ (by simp[hp8])
   clear hW8 l2 m0 m1 c0 c1 c2 c3 c4 hbS hzl
   have hz8:z<p8:=by have:=HG.out.b.lt;omega
   have KQ:Hid (Keeps (fun x=>x<p8) W8 W8):=Keeps.refl _ _
   have EC:Hid ((r.stps.take j).map (crsSec L)++ [(⟨sn,sl,sm,sg,-1⟩:Sec)]=(r.stps.take (j+1)).map (crsSec L)):=by show _=_;rw[HTK.out,List.map_append,List.map_singleton,HSC.out]
   have ES:Hid ((r.stps.take j).map (·.sec)++ [(q:Int)]=(r.stps.take (j+1)).map (·.sec)):=by show _=_;rw[HTK.out,List.map_append,List.map_singleton]
   have ER:Hid ((tab j fun i=>(⟨i,(stpD r i).dir⟩:Stp))++ [⟨(j:Int),s2⟩]=tab (j+1) fun i=>⟨i,(stpD r i).dir⟩):=by show _=_;rw[tab_succ,HS.out]
   have z5:=HG8.out.b.cell 5
   simp at z5
   have t0:=B9.out.cell 0
   have t1:=B9.out.cell 1
   have t2:=B9.out.cell 2
   have t3:=B9.out.cell 3
   have t4:=B9.out.cell 4
   simp[secC]at t0 t1 t2 t3 t4
   have hzb:=B9.out.lt
   have hzz:=HG8.out.b.lt
   go_upto_region 9 with(at_builtin;go_loud(have HB:=Lib.hid (HG8.out.keep ((Keeps.refl (fun _=>False) _).alloc (.cells (secC ⟨sn,sl,sm,sg,-1⟩) 185)));have KB:=KQ.out.alloc (.cells (secC ⟨sn,sl,sm,sg,-1⟩) 185);refine wpList_append_L tySec RSec.ok rfl (.tmp 43) (.tmp 45) rfl (HB.out.itm (i:=3) rfl) rfl _ (secC ⟨sn,sl,sm,sg,-1⟩).toList rfl (Blk.new _ _ _) rfl ⟨sn,sl,sm,sg,-1⟩ (S:=fun _=>False) rfl (fun _ h=>h.elim) (by simp[secC,Value.oneCell']) (by simp;omega) (by simp;omega) HB.out.k.size ?_;intro v9 w9 HO9 HK9 HA9;obtain⟨A9x,q9x,hv9,-,-⟩:=HO9.form;rw[List.length_append,List.length_map,List.length_take,Nat.min_eq_left hj,List.length_singleton]at hv9;subst hv9;have bz9:=HB.out.b.kept HK9 (HB.out.ne (i:=3) rfl hz9);have c9:=bz9.cell 5;have f9:=bz9.frozen 5;simp at c9;have HP9:=Lib.hid (HB.out.putI (i:=3) rfl (OwnI.of RSec.flt HO9) HK9 HA9 hz9 5);have KP9:Hid (Keeps (fun x=>x<p8) W8 (w9.setCell ⟨z,5,none⟩ (.slice A9x (j+1) q9x))):=(KB.trans (HK9.mono (C:=fun x=>x<p8) (fun x _ e=>hp8▸HG.out.own_lt (i:=3) rfl e)) (fun _ _ h=>h)).setCell (fun _=>hz8) _))
   rw[EC.out]at HP9
   generalize hW9:World.setCell w9 _ _=W9 at*
   have HG9:Hid (Grw W0 W9 z 155 _ (crsIs W0.heap.size _ _ _ _ _ _ W0.heap.size _ _ _ _ _ _ _)):=HP9
   clear KQ
   have KQ:=KP9
   clear hW9 HP9 KP9 KB HB HO9 HK9 HA9 bz9 c9 f9 z5 t0 t1 t2 t3 t4 hzb HG8
   have z7:=HG9.out.b.cell 7
   simp at z7
   have t1:=(B8.out.kept KQ.out (Nat.lt_irrefl p8)).cell 1
   simp at t1
   have hzb:=(B8.out.kept KQ.out (Nat.lt_irrefl p8)).lt
   have hzz:=HG9.out.b.lt
   go_upto_region 10 with(at_builtin;go_loud(have HB:=Lib.hid (HG9.out.keep ((Keeps.refl (fun _=>False) _).alloc (.cells (stpC ⟨(j:Int),s2⟩) 200)));have KB:=KQ.out.alloc (.cells (stpC ⟨(j:Int),s2⟩) 200);refine wpList_append_L tyStp RStp.ok rfl (.tmp 51) (.tmp 56) rfl (HB.out.itm (i:=5) rfl) rfl _ (stpC ⟨(j:Int),s2⟩).toList rfl (Blk.new _ _ _) rfl ⟨(j:Int),s2⟩ (S:=fun _=>False) rfl (fun _ h=>h.elim) (by simp[stpC,Value.oneCell']) (by simp[tab_len];omega) (by simp[tab_len];omega) HB.out.k.size ?_;intro v9 w9 HO9 HK9 HA9;obtain⟨A10x,q10x,hv9,-,-⟩:=HO9.form;rw[List.length_append,tab_len,List.length_singleton]at hv9;subst hv9;have bz9:=HB.out.b.kept HK9 (HB.out.ne (i:=5) rfl hz9);have c9:=bz9.cell 7;have f9:=bz9.frozen 7;simp at c9;have HP9:=Lib.hid (HB.out.putI (i:=5) rfl (OwnI.of RStp.flt HO9) HK9 HA9 hz9 7);have KP9:Hid (Keeps (fun x=>x<p8) W8 (w9.setCell ⟨z,7,none⟩ (.slice A10x (j+1) q10x))):=(KB.trans (HK9.mono (C:=fun x=>x<p8) (fun x _ e=>hp8▸HG.out.own_lt (i:=5) rfl e)) (fun _ _ h=>h)).setCell (fun _=>hz8) _))
   rw[ER.out]at HP9
   generalize hW9:World.setCell w9 _ _=W10 at*
   have HG10:Hid (Grw W0 W10 z 155 _ (crsIs W0.heap.size _ _ _ _ _ _ W0.heap.size _ _ _ _ _ _ _)):=HP9
   clear KQ
   have KQ:=KP9
   clear hW9 HP9 KP9 KB HB HO9 HK9 HA9 bz9 c9 f9 z7 t1 hzb HG9
   have z0:=HG10.out.b.cell 0
   simp at z0
   have t0:=(B8.out.kept KQ.out (Nat.lt_irrefl p8)).cell 0
   simp at t0
   have hzb:=(B8.out.kept KQ.out (Nat.lt_irrefl p8)).lt
   have hzz:=HG10.out.b.lt
   go_upto_region 11 with(at_builtin;go_loud(have HB:=Lib.hid (HG10.out.keep ((Keeps.refl (fun _=>False) _).alloc (.cells #[.int .i64 (q:Int)] 3)));have KB:=KQ.out.alloc (.cells #[.int .i64 (q:Int)] 3);refine wpList_append_L tyInt RInt.ok rfl (.tmp 61) (.tmp 64) rfl (HB.out.itm (i:=0) rfl) rfl _ [.int .i64 (q:Int)] rfl (Blk.new _ _ _) rfl (q:Int) (S:=fun _=>False) rfl (fun _ h=>h.elim) (by simp[Value.oneCell']) (by simp;omega) (by simp;omega) HB.out.k.size ?_;intro v9 w9 HO9 HK9 HA9;obtain⟨A11x,q11x,hv9,-,-⟩:=HO9.form;rw[List.length_append,List.length_map,List.length_take,Nat.min_eq_left hj,List.length_singleton]at hv9;subst hv9;have bz9:=HB.out.b.kept HK9 (HB.out.ne (i:=0) rfl hz9);have c9:=bz9.cell 0;have f9:=bz9.frozen 0;simp at c9;have HP9:=Lib.hid (HB.out.putI (i:=0) rfl (OwnI.of RInt.flt HO9) HK9 HA9 hz9 0);have KP9:Hid (Keeps (fun x=>x<p8) W8 (w9.setCell ⟨z,0,none⟩ (.slice A11x (j+1) q11x))):=(KB.trans (HK9.mono (C:=fun x=>x<p8) (fun x _ e=>hp8▸HG.out.own_lt (i:=0) rfl e)) (fun _ _ h=>h)).setCell (fun _=>hz8) _))
   rw[ES.out]at HP9
   generalize hW9:World.setCell w9 _ _=W11 at*
   have HG11:Hid (Grw W0 W11 z 155 _ (crsIs W0.heap.size _ _ _ _ _ _ W0.heap.size _ _ _ _ _ _ _)):=HP9
   clear KQ
   have KQ:=KP9
   clear hW9 HP9 KP9 KB HB HO9 HK9 HA9 bz9 c9 f9 z0 t0 hzb HG10
   have z1:=HG11.out.b.cell 1
   simp at z1
   have hzz:=HG11.out.b.lt
   go_upto_region 12 with(at_builtin;go_loud(have HB:=Lib.hid (HG11.out.keep ((Keeps.refl (fun _=>False) _).alloc (.cells #[.int .i64 (-1)] 3)));have KB:=KQ.out.alloc (.cells #[.int .i64 (-1)] 3);refine wpList_append_L tyInt RInt.ok rfl (.tmp 68) (.tmp 69) rfl (HB.out.itm (i:=1) rfl) rfl _ [.int .i64 (-1)] rfl (Blk.new _ _ _) rfl (-1:Int) (S:=fun _=>False) rfl (fun _ h=>h.elim) (by simp[Value.oneCell']) (by simp[tab_len];omega) (by simp[tab_len];omega) HB.out.k.size ?_;intro v9 w9 HO9 HK9 HA9;obtain⟨A12x,q12x,hv9,-,-⟩:=HO9.form;rw[List.length_append,tab_len,List.length_singleton]at hv9;subst hv9;have bz9:=HB.out.b.kept HK9 (HB.out.ne (i:=1) rfl hz9);have c9:=bz9.cell 1;have f9:=bz9.frozen 1;simp at c9;have HP9:=Lib.hid (HB.out.putI (i:=1) rfl (OwnI.of RInt.flt HO9) HK9 HA9 hz9 1);have KP9:Hid (Keeps (fun x=>x<p8) W8 (w9.setCell ⟨z,1,none⟩ (.slice A12x (j+1) q12x))):=(KB.trans (HK9.mono (C:=fun x=>x<p8) (fun x _ e=>hp8▸HG.out.own_lt (i:=1) rfl e)) (fun _ _ h=>h)).setCell (fun _=>hz8) _))
   generalize hW9:World.setCell w9 _ _=W12 at*
   have HG12:Hid (Grw W0 W12 z 155 _ (crsIs W0.heap.size _ _ _ _ _ _ W0.heap.size _ _ _ _ _ _ _)):=HP9
   clear KQ
   have KQ:=KP9
   clear hW9 HP9 KP9 KB HB HO9 HK9 HA9 bz9 c9 f9 z1 HG11
   generalize hc0:Array.setIfInBounds _ 1 _=cs0 at HG12
   have HCS:Hid (#[.slice A11x (j+1) q11x,.slice A12x (j+1) q12x,.int .i64 ((r.stps.length:Int)-ov-1),.slice none 0 0,vT,.slice A9x (j+1) q9x,vK,.slice A10x (j+1) q10x,.int .i64 ov]=cs0):=hc0
   rw[←HCS.out]at HG12
   clear hc0 HCS EC ES ER B9 HSC
   have HRU:Hid (Old W0 (N+1)):=by show N+1<_;omega
   rcases Nat.eq_zero_or_pos j with rfl|hj0
   ·clear HLB HEX
    go_wp2_with fail
    exact⟨⟨1,_,_,_,_,_,_,by omega,by go_num,HG12.out⟩,by simp[intOf];omega⟩
   ·obtain⟨m,rfl⟩:∃m,j=m+1:=⟨j-1,by omega⟩
    have hj1:((m+1:Nat):Int)-1=(m:Int):=by omega
    have hne:(((m+1:Nat):Int)==0)=false:=by rw[beq_eq_false_iff_ne];omega
    rw[Nat.add_sub_cancel]at HG12
    have HKK:=Lib.hid (HO.out.lnkAt_ (i:=m) (by omega))
    rw[HS.out]at HKK
    obtain⟨b1,o1,sm1,hE,hbm,hsm,m0,m1⟩:=HR.out.at_ (k:=m) (by omega)
    injection hE with hE;injection hE with hE1 hE2;subst hE1 hE2
    have hsd:=stpD_at (r:=r) (i:=m) (by omega)
    rw[hsm]at hsd
    have HSM:Hid (stpD r m=sm1):=(Option.some.inj hsd).symm
    rw[HSM.out]at HKK
    clear hsd hsm
    obtain⟨a1,d1⟩:=sm1
    simp only[]at m0 m1
    have KW12:Hid (KeepsAll w W12):=KC.out.trans HG12.out.k (fun x hx e=>by omega)
    have HLC:=Lib.hid (fun W k1=>HLB.out ⟨a1,d1⟩ ⟨(q:Int),s2⟩ (lnkAt L r m) W k1 HKK.out)
    have HE1:=Lib.hid (fun W=>HEX.out ⟨a1,d1⟩ W)
    have HE2:=Lib.hid (fun W=>HEX.out ⟨(q:Int),s2⟩ W)
    have HOK:=Lib.hid (HO.out.lnkAt_ok (i:=m) (by omega))
    have HNO:=Lib.hid (HO.out.num_no (j:=m) (by omega))
    have HYES:=Lib.hid (HO.out.num_yes (j:=m) (by omega))
    rw[HSM.out,HS.out]at HNO HYES
    clear HLB HEX HKK
    generalize hlk:lnkAt L r m=lk at*
    clear hlk
    obtain⟨ka,kae,kb,kbe,kp,ks⟩:=lk
    unfold stpC lnkC at HLC
    unfold stpC at HE1 HE2
    simp only[]at HLC HE1 HE2 HOK HNO HYES
    replace m0:=KW12.out.cellA (by simpa[Old]using hbm) m0
    replace m1:=KW12.out.cellA (by simpa[Old]using hbm) m1
    have C12:=Lib.hid (BC.out.kept HG12.out.k (by omega))
    have R12:=Lib.hid (BRK.out.kept HG12.out.k (by omega))
    have S12:=Lib.hid (B8.out.kept KQ.out (Nat.lt_irrefl p8))
    have l0:=C12.out.cell 0
    have l1:=C12.out.cell 1
    have l2:=C12.out.cell 2
    have l3:=C12.out.cell 3
    have r0:=R12.out.cell 0
    have t0:=S12.out.cell 0
    have t1:=S12.out.cell 1
    simp at l0 l1 l2 l3 r0 t0 t1
    go_upto_region 13 with fail
    go_cut [10]from 74 to 82 (fun s wx=>∃g,s= .pointer (some ⟨g,0,none⟩)∧W12.heap.size≤g∧Blk wx g 196 #[.int .i64 ka,.int .i64 kae,.int .i64 kb,.int .i64 kbe,.int .i64 kp,.int .i64 ks]∧KeepsAll W12 wx)
    case first=>
     refine wp_region_fork (fun w'=>∃x:Ext W12,w'=x.val) [0,1,2,3,4,5,6,7] [10] 8 9 (by kernel_rfl) (by kernel_rfl) ⟨⟨_,(Keeps.refl _ _).drew⟩,rfl⟩ ?_
     have y0:=Ext.cell l0
     have y1:=Ext.cell l1
     have y2:=Ext.cell l2
     have y3:=Ext.cell l3
     have y4:=Ext.cell r0
     have y5:=Ext.cell t0
     have y6:=Ext.cell t1
     have y7:=Ext.cell m0
     have y8:=Ext.cell m1
     iterate 8 (refine lexK_q _ rfl rfl rfl ?_;go_big_quiet_step (fail);refine wpQuiet_nil ?_)
     clear y0 y1 y2 y3 y4 y5 y6 y7 y8 m0 m1 l0 l1 l2 l3 r0 t0 t1
     have KD:KeepsAll W12 W12.drew:=(Keeps.refl _ _).drew
     have hdz:W12.drew.heap.size=W12.heap.size:=rfl
     generalize W12.drew=wd at*
     refine⟨?_,?_⟩
     ·refine lex_a _ rfl rfl false (by kernel_rfl) ?_
      go_wp2_with fail
      refine(HLC.out wd (HL.out.kept (KW12.out.trA KD))).mono ?_
      rintro e w6 ⟨rfl,k6⟩
      have KK:=KD.trA k6
      have hkz:=k6.size
      clear k6
      go_wp2
      refine⟨fun h=>(by cases h),?_⟩
      refine lex_a _ rfl rfl true (by kernel_rfl) ?_
      go_wp2
      refine⟨fun _=>⟨⟨_,KK.alloc _⟩,rfl⟩,?_⟩
      refine lex_a _ rfl rfl false (by kernel_rfl) ?_
      go_wp2
      (try refine⟨fun h=>(by cases h),?_⟩)
      simp only[wpLex]
      refine NoPanic.normal ?_
      go_wp2_with fail
      go_meet
      exact⟨_,rfl,by omega,Blk.new _ _ _,KK.alloc _⟩
     ·refine lex_a _ rfl rfl true (by kernel_rfl) ?_
      go_wp2
      refine⟨fun _=>⟨⟨_,KD.alloc _⟩,rfl⟩,?_⟩
      generalize hwe:World.alloc wd _=we
      have KE:KeepsAll W12 we:=by subst hwe;exact KD.alloc _
      have BE:Blk we W12.heap.size 196 (lnkC ⟨0,0,0,0,0,0⟩):=by subst hwe;exact Blk.new' _ _ _ hdz.symm
      clear hwe
      refine lex_a _ rfl rfl true (by kernel_rfl) ?_
      go_wp2_with fail
      refine(HLC.out we (HL.out.kept (KW12.out.trA KE))).mono ?_
      rintro e w6 ⟨rfl,k6⟩
      have KK:=KE.trA k6
      have BF:=Lib.hid (BE.kept k6 (by simp))
      have hbl:=BF.out.lt
      clear k6 BE
      go_wp2
      refine⟨fun _=>⟨⟨_,KK⟩,rfl⟩,?_⟩
      have z0:=BF.out.cell 0
      have z1:=BF.out.cell 1
      have z2:=BF.out.cell 2
      have z3:=BF.out.cell 3
      have z4:=BF.out.cell 4
      have z5:=BF.out.cell 5
      simp[lnkC]at z0 z1 z2 z3 z4 z5
      have f0:=BF.out.frozen 0
      have f1:=BF.out.frozen 1
      have f2:=BF.out.frozen 2
      have f3:=BF.out.frozen 3
      have f4:=BF.out.frozen 4
      have f5:=BF.out.frozen 5
      refine lex_a _ rfl rfl false (by kernel_rfl) ?_
      go_wp2
      (try refine⟨fun h=>(by cases h),?_⟩)
      simp only[wpLex]
      refine NoPanic.normal ?_
      go_wp2_with fail
      go_meet
      exact⟨_,rfl,by omega,lnk_put6 (k:=⟨ka,kae,kb,kbe,kp,ks⟩) BF.out,(keeps_put6 (KK.mono (C:=fun x=>x=W12.heap.size) (fun _ _ h=>h.elim)) rfl _ _ _ _ _ _).mono (fun x hx e=>by have e:x=W12.heap.size:=e;omega)⟩
    case rest=>
     obtain⟨g,rfl,hg,hbk,hk⟩:=hcut
     have HG13:=Lib.hid (HG12.out.keep hk)
     have UB:=Lib.hid hbk
     have KQ13:Hid (Keeps (fun x=>x<p8) W8 wc):=KQ.out.trans hk (fun _ _ h=>h.elim)
     have KW13:=Lib.hid (KW12.out.trA hk)
     have h8:p8<W12.heap.size:=S12.out.lt
     have HOP:=Lib.hid (fun(b:Nat) (e:(Value.slice A12x (m+1+1) q12x).ownBlock=some b)=>HG12.out.own_lt (i:=1) rfl e)
     have HO0:=Lib.hid (fun(b:Nat) (e:(Value.slice A11x (m+1+1) q11x).ownBlock=some b)=>HG12.out.own_lt (i:=0) rfl e)
     have HO3:=Lib.hid (fun(b:Nat) (e:(Value.slice A9x (m+1+1) q9x).ownBlock=some b)=>HG12.out.own_lt (i:=3) rfl e)
     have HO4:=Lib.hid (fun(b:Nat) (e:(vK).ownBlock=some b)=>HG12.out.own_lt (i:=4) rfl e)
     have HO5:=Lib.hid (fun(b:Nat) (e:(Value.slice A10x (m+1+1) q10x).ownBlock=some b)=>HG12.out.own_lt (i:=5) rfl e)
     have HOT:=Lib.hid (fun(b:Nat) (e:vT.ownBlock=some b)=>HG12.out.own_lt (i:=2) rfl e)
     have R13:=Lib.hid (R12.out.kept hk (by simp))
     have S13:=Lib.hid (S12.out.kept hk (by simp))
     replace m0:=hk.cellA (by show b0<_;have:=KW12.out.size;omega) m0
     replace m1:=hk.cellA (by show b0<_;have:=KW12.out.size;omega) m1
     clear l0 l1 l2 l3 r0 t0 t1 hbk hk KQ HG12 KW12 C12 R12 S12 HLC
     have r0:=R13.out.cell 0
     have t0:=S13.out.cell 0
     have t1:=S13.out.cell 1
     simp at r0 t0 t1
     go_upto_region 14 with fail
     go_cut [11]from 83 to 96 (fun s wx=>∃g2,s= .pointer (some ⟨g2,0,none⟩)∧wc.heap.size≤g2∧Blk wx g2 196 #[.int .i64 (m:Int),.int .i64 (outE ⟨a1,d1⟩).2,.int .i64 ((m:Int)+1),.int .i64 (inE ⟨(q:Int),s2⟩).2,.int .i64 (-1),.int .i64 0]∧KeepsAll wc wx)
     case first=>
      clear HLR HNO HYES HOK HG13 HG0 BRK BC BZC UB KQ13 HL HO HR C0 CR
      generalize hu1:(outE ⟨a1,d1⟩).2=u1 at*
      generalize ho2:(outE ⟨(q:Int),s2⟩).2=o2 at*
      generalize hu2:(inE ⟨(q:Int),s2⟩).2=u2 at*
      have HU2:Hid (1-o2=u2):=by show _=_;rw[←ho2,←hu2];unfold outE inE;by_cases e:s2=0<;>simp[e]
      obtain⟨hu01,hu02⟩:0≤u2∧u2≤1:=by rw[←hu2];unfold inE;by_cases e:s2=0<;>simp[e]
      clear hu1 ho2 hu2
      have hu:=HU2.out
      refine wp_region_inv' (exI wc (.slice (some ⟨b0,o0,none⟩) r.stps.length c) ⟨b0,o0+m*2,none⟩ (N+1) m q a1 d1 s2 u1 o2 u2) (by kernel_rfl) (by kernel_rfl) ⟨u83,u84,u85,u86,u87,u88,u89,u90,u91,u92,u93,u94,u95,u96,u11,by kernel_rfl,(Keeps.refl _ _).drew,fun e=>(by cases e),fun j e=>(by cases e)⟩ ?_ ?_
      ·generalize hINV:exI wc _ _ _ _ _ _ _ _ _ _ _ _=INV
       have HI:=Lib.hid hINV.symm
       refine⟨?_,?_,?_,?_,?_,?_,?_,?_,?_,?_,?_,?_,?_,?_,?_,?_,trivial⟩
       all_goals
         intro d a w' hd hdeps hI
         rw[←hINV]at hI
         obtain⟨x0,x1,x2,x3,x4,x5,x6,x7,x8,x9,x10,x11,x12,x13,x14,rfl,K,h15,hC⟩:=hI
         have HC:=Lib.hid hC
         have KK:=Lib.hid K
         replace r0:=K.cellA (by show N+1<_;exact R13.out.lt) r0
         replace t0:=K.cellA (by show p8<_;exact S13.out.lt) t0
         replace t1:=K.cellA (by show p8<_;exact S13.out.lt) t1
         replace m0:=K.cellA (by show b0<_;have:=KW13.out.size;omega) m0
         replace m1:=K.cellA (by show b0<_;have:=KW13.out.size;omega) m1
         simp[depsOf,Region.binds]at hdeps
         clear hINV
       · clear K hC
         go_wp2
         refine inv_post ?_
         rw[HI.out]
         refine⟨(.int .i64 ((m:Int)+1)),x1,x2,x3,x4,x5,x6,x7,x8,x9,x10,x11,x12,x13,x14,by kernel_rfl,KK.out,by simpa[ups]using h15,fun j hj=> ?_⟩
         rw[ups_far (by decide)]
         by_cases e:j=0
         ·subst e;exact rfl
         ·have hh:=HC.out j (by simpa[ups_far e]using hj)
          iterate 16 (rcases j with _|j;·first|exact hh|exact absurd rfl e)
          exact hh
       · clear K hC
         obtain rfl:x0=_:=HC.out 0 (by simp[hdeps])
         go_wp2
         refine inv_post ?_
         rw[HI.out]
         refine⟨(.int .i64 ((m:Int)+1)),(.int .i64 (m:Int)),x2,x3,x4,x5,x6,x7,x8,x9,x10,x11,x12,x13,x14,by kernel_rfl,KK.out,by simpa[ups]using h15,fun j hj=> ?_⟩
         rw[ups_far (by decide)]
         by_cases e:j=1
         ·subst e;exact rfl
         ·have hh:=HC.out j (by simpa[ups_far e]using hj)
          iterate 16 (rcases j with _|j;·first|exact hh|exact absurd rfl e)
          exact hh
       · clear K hC
         go_wp2
         refine inv_post ?_
         rw[HI.out]
         refine⟨x0,x1,(.pointer (some ⟨N+1,0,none⟩)),x3,x4,x5,x6,x7,x8,x9,x10,x11,x12,x13,x14,by kernel_rfl,KK.out,by simpa[ups]using h15,fun j hj=> ?_⟩
         rw[ups_far (by decide)]
         by_cases e:j=2
         ·subst e;exact rfl
         ·have hh:=HC.out j (by simpa[ups_far e]using hj)
          iterate 16 (rcases j with _|j;·first|exact hh|exact absurd rfl e)
          exact hh
       · clear K hC
         obtain rfl:x2=_:=HC.out 2 (by simp[hdeps])
         go_wp2
         refine inv_post ?_
         rw[HI.out]
         refine⟨x0,x1,(.pointer (some ⟨N+1,0,none⟩)),(.slice (some ⟨b0,o0,none⟩) r.stps.length c),x4,x5,x6,x7,x8,x9,x10,x11,x12,x13,x14,by kernel_rfl,KK.out,by simpa[ups]using h15,fun j hj=> ?_⟩
         rw[ups_far (by decide)]
         by_cases e:j=3
         ·subst e;exact rfl
         ·have hh:=HC.out j (by simpa[ups_far e]using hj)
          iterate 16 (rcases j with _|j;·first|exact hh|exact absurd rfl e)
          exact hh
       · clear K hC
         go_wp2
         refine inv_post ?_
         rw[HI.out]
         refine⟨x0,x1,x2,x3,(.int .i64 ((m:Int)+1)),x5,x6,x7,x8,x9,x10,x11,x12,x13,x14,by kernel_rfl,KK.out,by simpa[ups]using h15,fun j hj=> ?_⟩
         rw[ups_far (by decide)]
         by_cases e:j=4
         ·subst e;exact rfl
         ·have hh:=HC.out j (by simpa[ups_far e]using hj)
          iterate 16 (rcases j with _|j;·first|exact hh|exact absurd rfl e)
          exact hh
       · clear K hC
         obtain rfl:x4=_:=HC.out 4 (by simp[hdeps])
         go_wp2
         refine inv_post ?_
         rw[HI.out]
         refine⟨x0,x1,x2,x3,(.int .i64 ((m:Int)+1)),(.int .i64 (m:Int)),x6,x7,x8,x9,x10,x11,x12,x13,x14,by kernel_rfl,KK.out,by simpa[ups]using h15,fun j hj=> ?_⟩
         rw[ups_far (by decide)]
         by_cases e:j=5
         ·subst e;exact rfl
         ·have hh:=HC.out j (by simpa[ups_far e]using hj)
          iterate 16 (rcases j with _|j;·first|exact hh|exact absurd rfl e)
          exact hh
       · clear K hC
         obtain rfl:x3=_:=HC.out 3 (by simp[hdeps])
         obtain rfl:x5=_:=HC.out 5 (by simp[hdeps])
         go_wp2
         refine inv_post ?_
         rw[HI.out]
         refine⟨x0,x1,x2,(.slice (some ⟨b0,o0,none⟩) r.stps.length c),x4,(.int .i64 (m:Int)),(.pointer (some ⟨b0,o0+m*2,none⟩)),x7,x8,x9,x10,x11,x12,x13,x14,by kernel_rfl,KK.out,by simpa[ups]using h15,fun j hj=> ?_⟩
         rw[ups_far (by decide)]
         by_cases e:j=6
         ·subst e;exact rfl
         ·have hh:=HC.out j (by simpa[ups_far e]using hj)
          iterate 16 (rcases j with _|j;·first|exact hh|exact absurd rfl e)
          exact hh
       · clear K hC
         obtain rfl:x6=_:=HC.out 6 (by simp[hdeps])
         go_wp2
         refine inv_post ?_
         rw[HI.out]
         refine⟨x0,x1,x2,x3,x4,x5,(.pointer (some ⟨b0,o0+m*2,none⟩)),(.agg #[.int .i64 a1,.int .i64 d1]),x8,x9,x10,x11,x12,x13,x14,by kernel_rfl,KK.out,by simpa[ups]using h15,fun j hj=> ?_⟩
         rw[ups_far (by decide)]
         by_cases e:j=7
         ·subst e;exact rfl
         ·have hh:=HC.out j (by simpa[ups_far e]using hj)
          iterate 16 (rcases j with _|j;·first|exact hh|exact absurd rfl e)
          exact hh
       · clear K hC
         obtain rfl:x7=_:=HC.out 7 (by simp[hdeps])
         go_wp2_with(go_at_call 194;refine(HE1.out _).mono ?_;rintro e w2 ⟨rfl,k2⟩)
         refine inv_post ?_
         rw[HI.out]
         refine⟨x0,x1,x2,x3,x4,x5,x6,(.agg #[.int .i64 a1,.int .i64 d1]),(.int .i64 u1),x9,x10,x11,x12,x13,x14,by kernel_rfl,KK.out.trA k2,by simpa[ups]using h15,fun j hj=> ?_⟩
         rw[ups_far (by decide)]
         by_cases e:j=8
         ·subst e;exact rfl
         ·have hh:=exC_kept _ _ _ _ _ _ _ _ _ _ _ _ k2 (HC.out j (by simpa[ups_far e]using hj))
          iterate 16 (rcases j with _|j;·first|exact hh|exact absurd rfl e)
          exact hh
       · clear K hC
         go_wp2
         refine inv_post ?_
         rw[HI.out]
         refine⟨x0,x1,x2,x3,x4,x5,x6,x7,x8,(.int .i64 ((m:Int)+1)),x10,x11,x12,x13,x14,by kernel_rfl,KK.out,by simpa[ups]using h15,fun j hj=> ?_⟩
         rw[ups_far (by decide)]
         by_cases e:j=9
         ·subst e;exact rfl
         ·have hh:=HC.out j (by simpa[ups_far e]using hj)
          iterate 16 (rcases j with _|j;·first|exact hh|exact absurd rfl e)
          exact hh
       · clear K hC
         go_wp2
         refine inv_post ?_
         rw[HI.out]
         refine⟨x0,x1,x2,x3,x4,x5,x6,x7,x8,x9,(.agg #[.int .i64 (q:Int),.int .i64 s2]),x11,x12,x13,x14,by kernel_rfl,KK.out,by simpa[ups]using h15,fun j hj=> ?_⟩
         rw[ups_far (by decide)]
         by_cases e:j=10
         ·subst e;exact rfl
         ·have hh:=HC.out j (by simpa[ups_far e]using hj)
          iterate 16 (rcases j with _|j;·first|exact hh|exact absurd rfl e)
          exact hh
       · clear K hC
         obtain rfl:x10=_:=HC.out 10 (by simp[hdeps])
         go_wp2_with(go_at_call 194;refine(HE2.out _).mono ?_;rintro e w2 ⟨rfl,k2⟩)
         refine inv_post ?_
         rw[HI.out]
         refine⟨x0,x1,x2,x3,x4,x5,x6,x7,x8,x9,(.agg #[.int .i64 (q:Int),.int .i64 s2]),(.int .i64 o2),x12,x13,x14,by kernel_rfl,KK.out.trA k2,by simpa[ups]using h15,fun j hj=> ?_⟩
         rw[ups_far (by decide)]
         by_cases e:j=11
         ·subst e;exact rfl
         ·have hh:=exC_kept _ _ _ _ _ _ _ _ _ _ _ _ k2 (HC.out j (by simpa[ups_far e]using hj))
          iterate 16 (rcases j with _|j;·first|exact hh|exact absurd rfl e)
          exact hh
       · clear K hC
         obtain rfl:x11=_:=HC.out 11 (by simp[hdeps])
         go_wp2
         refine inv_post ?_
         rw[HI.out]
         refine⟨x0,x1,x2,x3,x4,x5,x6,x7,x8,x9,x10,(.int .i64 o2),(.int .i64 u2),x13,x14,by kernel_rfl,KK.out,by simpa[ups]using h15,fun j hj=> ?_⟩
         rw[ups_far (by decide)]
         by_cases e:j=12
         ·subst e;exact rfl
         ·have hh:=HC.out j (by simpa[ups_far e]using hj)
          iterate 16 (rcases j with _|j;·first|exact hh|exact absurd rfl e)
          exact hh
       · clear K hC
         obtain rfl:x1=_:=HC.out 1 (by simp[hdeps])
         obtain rfl:x8=_:=HC.out 8 (by simp[hdeps])
         obtain rfl:x9=_:=HC.out 9 (by simp[hdeps])
         obtain rfl:x12=_:=HC.out 12 (by simp[hdeps])
         go_wp2
         refine inv_post ?_
         rw[HI.out]
         refine⟨x0,(.int .i64 (m:Int)),x2,x3,x4,x5,x6,x7,(.int .i64 u1),(.int .i64 ((m:Int)+1)),x10,x11,(.int .i64 u2),(.agg #[.int .i64 (m:Int),.int .i64 u1,.int .i64 ((m:Int)+1),.int .i64 u2,.int .i64 (-1),.int .i64 0]),x14,by kernel_rfl,KK.out,by simpa[ups]using h15,fun j hj=> ?_⟩
         rw[ups_far (by decide)]
         by_cases e:j=13
         ·subst e;exact rfl
         ·have hh:=HC.out j (by simpa[ups_far e]using hj)
          iterate 16 (rcases j with _|j;·first|exact hh|exact absurd rfl e)
          exact hh
       · have g15:d 15=false:=by
          cases e:d 15 with
          |false=>rfl
          |true=>rw[h15 e]at hd;cases hd
         clear K hC
         go_wp2
         refine inv_post ?_
         rw[HI.out]
         have k2:KeepsAll w' (w'.alloc (.cells #[.int .i64 0,.int .i64 0,.int .i64 0,.int .i64 0,.int .i64 0,.int .i64 0] 196)):=(Keeps.refl _ _).alloc _
         refine⟨x0,x1,x2,x3,x4,x5,x6,x7,x8,x9,x10,x11,x12,x13,.pointer (some ⟨w'.heap.size,0,none⟩),by kernel_rfl,KK.out.trA k2,fun _=>ups_same _ _,fun j hj=> ?_⟩
         rw[ups_far (by decide),g15]
         by_cases e:j=14
         ·subst e;exact⟨_,rfl,KK.out.size,Blk.new _ _ _⟩
         ·have hh:=HC.out j (by simpa[ups_far e]using hj)
          rw[g15]at hh
          have hh:=exC_kept _ _ _ _ _ _ _ _ _ _ _ _ k2 hh
          iterate 16 (rcases j with _|j;·first|exact hh|exact absurd rfl e)
          exact hh
       · clear hC
         obtain rfl:x13=_:=HC.out 13 (by simp[hdeps])
         obtain⟨g2,rfl,hg2,hb2⟩:=HC.out 14 (by simp[hdeps])
         rw[hd,if_neg (by decide)]at hb2
         have B2:Hid (Blk w' g2 196 (lnkC ⟨0,0,0,0,0,0⟩)):=hb2
         have q0:=B2.out.cell 0
         have q1:=B2.out.cell 1
         have q2:=B2.out.cell 2
         have q3:=B2.out.cell 3
         have q4:=B2.out.cell 4
         have q5:=B2.out.cell 5
         simp[lnkC]at q0 q1 q2 q3 q4 q5
         have f0:=B2.out.frozen 0
         have f1:=B2.out.frozen 1
         have f2:=B2.out.frozen 2
         have f3:=B2.out.frozen 3
         have f4:=B2.out.frozen 4
         have f5:=B2.out.frozen 5
         have hbl:=B2.out.lt
         clear K hb2
         go_wp2
         refine inv_post ?_
         rw[HI.out]
         refine⟨x0,x1,x2,x3,x4,x5,x6,x7,x8,x9,x10,x11,x12,(.agg #[.int .i64 (m:Int),.int .i64 u1,.int .i64 ((m:Int)+1),.int .i64 u2,.int .i64 (-1),.int .i64 0]),.pointer (some ⟨g2,0,none⟩),by kernel_rfl,(keeps_put6 (C:=fun x=>¬x<wc.heap.size) (KK.out.mono (fun _ _ h=>h.elim)) (by omega) _ _ _ _ _ _).mono (fun x hx e=>e hx),fun _=>by simp[ups,hdeps],fun j hj=> ?_⟩
         rw[ups_same]
         by_cases e:j=14
         ·subst e;exact⟨g2,rfl,hg2,lnk_put6 (k:=⟨m,u1,m+1,u2,-1,0⟩) B2.out⟩
         ·by_cases e15:j=15
          ·subst e15;trivial
          ·exact exC_far _ _ _ _ _ _ _ _ _ _ _ _ e (HC.out j (by simpa[ups_far e15]using hj))
      ·intro d a w' hall hI
       obtain⟨x0,x1,x2,x3,x4,x5,x6,x7,x8,x9,x10,x11,x12,x13,x14,rfl,K,-,hC⟩:=hI
       obtain rfl:x13=_:=hC 13 (hall 13 (by simp))
       obtain⟨g2,rfl,hg2,hb2⟩:=hC 14 (hall 14 (by simp))
       rw[hall 15 (by simp),if_pos rfl]at hb2
       have HF:=Lib.hid hb2
       clear hb2 hC hall
       go_wp2_with fail
       go_meet
       exact⟨g2,rfl,hg2,HF.out,K⟩
     case rest=>
      obtain⟨g2,rfl,hg2,hbk2,hk2⟩:=hcut
      have HG14:=Lib.hid (HG13.out.keep hk2)
      have U14:=Lib.hid (UB.out.kept hk2 (by simp))
      have L14:Hid (Blk wc g2 196 (lnkC ⟨m,(outE ⟨a1,d1⟩).2,(m:Int)+1,(inE ⟨(q:Int),s2⟩).2,-1,0⟩)):=hbk2
      have hgg:g<g2:=by have:=UB.out.lt;omega
      have hg2l:=L14.out.lt
      have h20:W0.heap.size≤g:=by have:=hW0s.out;omega
      have C14:=Lib.hid (BC.out.kept HG14.out.k (by omega))
      clear hbk2 hk2 HG13 UB KQ13 R13 S13 m0 m1 r0 t0 t1
      have q4:=U14.out.cell 4
      simp at q4
      have hgl:g<wc.heap.size:=by omega
      go_upto_if 99 with fail
      go_cut [12,13]from 97 to 146 (fun _ _ wx=>∃vP' vT',Grw W0 wx z 155 #[.slice A11x (m+1+1) q11x,vP',.int .i64 ((r.stps.length:Int)-ov-1),.slice none 0 0,vT',.slice A9x (m+1+1) q9x,vK,.slice A10x (m+1+1) q10x,.int .i64 ov]
       (crsIs W0.heap.size (.slice A11x (m+1+1) q11x) vP' vT' (.slice A9x (m+1+1) q9x) vK (.slice A10x (m+1+1) q10x) W0.heap.size ((r.stps.take (m+1+1)).map (·.sec)) (tab (m+1+1) (crsPt L r)) (ptNm L (pdN L r (m+1))) ((r.stps.take (m+1+1)).map (crsSec L)) (tab m (crsLnk L r)) (tab (m+1+1) fun i=>⟨i,(stpD r i).dir⟩) (pdN L r (m+1)))∧
       Blk wx g2 196 (lnkC (crsLnk L r m)))
      case first=>
       by_cases hkp:0≤kp
       ·
         obtain⟨k,hk⟩:=Int.eq_ofNat_of_zero_le hkp
         subst hk
         have HY:=Lib.hid (HYES.out hkp)
         have hkl:k<L.pts.length:=by have:=HOK.out;omega
         have HP14:OwnL 3 1 RInt wc W0.heap.size W0.heap.size (.slice A12x (m+1+1) q12x) (tab (m+1) (crsPt L r)++ [-1]):=HG14.out.itm (i:=1) rfl
         obtain⟨gp,rfl,hgp⟩:=OwnL.some_ HP14 (by simp)
         obtain⟨b6,o6,x6,hbo6,-,hx6,p0⟩:=RInts.at_ (HP14.read RInt.ok (by omega) (S:=Old wc) (fun _ _ h=>h) (fun _ _ h=>h)) (k:=m+1) (by simp[tab_len])
         injection hbo6 with hbo6
         injection hbo6 with e61 e62
         subst e61 e62
         have p1:=HP14.frz (m+1)
         have p2:=(HP14.lt (b:=gp) rfl).2
         have HSP:=Lib.hid (HP14.setI (m+1) ((L.secs.length:Int)+k))
         clear HP14 hx6
         have l2:=C14.out.cell 2
         simp at l2
         have hnc:=C14.out.lt
         rw[Nat.zero_add]at p0
         have z1:=HG14.out.b.cell 1
         simp at z1
         have hzz:=HG14.out.b.lt
         go_upto_region 17 with fail
         generalize hWs:World.setCell wc _ _=ws at*
         rw[List.set_append_right _ _ (by simp[tab_len]),tab_len,Nat.sub_self,List.set_cons_zero,←HY.out.1,←tab_succ]at HSP
         have KS:Hid (Keeps (fun x=>(Value.slice (some ⟨gp,0,none⟩) (m+1+1) q12x).ownBlock=some x) wc ws):=by subst hWs;exact(Keeps.refl (fun x=>(Value.slice (some ⟨gp,0,none⟩) (m+1+1) q12x).ownBlock=some x) wc).setCell (p:=⟨gp,m+1,none⟩) (fun _=>rfl) _
         have HG16:Hid (Grw W0 ws z 155 _ (crsIs W0.heap.size _ _ _ _ _ _ W0.heap.size _ (tab (m+1+1) (crsPt L r)) _ _ _ _ _)):=Lib.hid (HG14.out.swapI (i:=1) rfl (OwnI.of RInt.flt HSP.out) KS.out (.inl rfl) hz9)
         obtain⟨AT,qT,rfl,-,-⟩:=OwnL.form (HG16.out.itm (i:=2) rfl)
         have U16:=Lib.hid (U14.out.kept KS.out (fun e=>by have:=HOP.out _ e;omega))
         have L16:=Lib.hid (L14.out.kept KS.out (fun e=>by have:=HOP.out _ e;omega))
         clear hWs p0 p1 p2 z1 l2 q4 U14 L14 HG14 HSP KS
         have HM16:Hid (MapIs ws W0.heap.size (pdN L r m) (numF (pdN L r m))):=HG16.out.itm (i:=6) rfl
         have q4:=U16.out.cell 4
         simp at q4
         have hlk:=(HM16.out.lookup (P:=Tryz.prog) (t:=332) (E:=3) Tryz.underlying332 Tryz.underlying3 (zeroInt _) (k:Int)).2
         have hso:(numF (pdN L r m) (k:Int)).isSome=decide ((k:Int)∈pdN L r m):=by unfold numF;split<;>simp[*]
         rw[hso]at hlk
         generalize (numF (pdN L r m) (k:Int)).getD (.int .i64 0)=vd at hlk
         have HIN:Hid (decide ((k:Int)∈pdN L r m)=decide ((k:Int)∈pdN L r m)):=rfl
         generalize hbb:decide ((k:Int)∈pdN L r m)=bb at hlk
         replace HIN:=Lib.hid hbb
         clear hso hbb
         have hgs:g<ws.heap.size:=U16.out.lt
         go_upto_if 118 with fail
         clear hlk q4
         go_cut []from 117 to 138 (fun wx=>∃vT',Grw W0 wx z 155 #[.slice A11x (m+1+1) q11x,.slice (some ⟨gp,0,none⟩) (m+1+1) q12x,.int .i64 ((r.stps.length:Int)-ov-1),.slice none 0 0,vT',.slice A9x (m+1+1) q9x,vK,.slice A10x (m+1+1) q10x,.int .i64 ov]
          (crsIs W0.heap.size (.slice A11x (m+1+1) q11x) (.slice (some ⟨gp,0,none⟩) (m+1+1) q12x) vT' (.slice A9x (m+1+1) q9x) vK (.slice A10x (m+1+1) q10x) W0.heap.size ((r.stps.take (m+1+1)).map (·.sec)) (tab (m+1+1) (crsPt L r)) (ptNm L (pdN L r (m+1))) ((r.stps.take (m+1+1)).map (crsSec L)) (tab m (crsLnk L r)) (tab (m+1+1) fun i=>⟨i,(stpD r i).dir⟩) (pdN L r (m+1)))∧
          Blk wx g 196 #[.int .i64 ka,.int .i64 kae,.int .i64 kb,.int .i64 kbe,.int .i64 k,.int .i64 ks]∧Blk wx g2 196 (lnkC ⟨m,(outE ⟨a1,d1⟩).2,(m:Int)+1,(inE ⟨(q:Int),s2⟩).2,-1,0⟩)∧∀b,vT'.ownBlock=some b→b=g2→False)
         case first=>
          rcases bb with _|_
          rotate_left
          ·go_wp2_with fail
           go_meet
           exact⟨.slice AT (ptNm L (pdN L r m)).length qT,by rw[HY.out.2.2.2.1 (of_decide_eq_true HIN.out)];exact HG16.out,U16.out,L16.out,fun b e e2=>by have:=HOT.out b e;omega⟩
          ·have hin:¬(k:Int)∈pdN L r m:=of_decide_eq_false HIN.out
           obtain⟨wm,hrun,hm,hkm,hsz⟩:=HM16.out.update (P:=Tryz.prog) (t:=332) (E:=3) Tryz.underlying332 Tryz.underlying3 (k:Int) (.int .i64 ((pdN L r m).length:Int))
           rw[if_neg hin,numF_add hin]at hm
           have HM20:=Lib.hid hm
           have KM:=Lib.hid hkm
           have q4:=U16.out.cell 4
           have z4:=HG16.out.b.cell 4
           have hln:(ptNm L (pdN L r m)).length=(pdN L r m).length:=List.length_map _
           simp at q4 z4
           have hzz:=HG16.out.b.lt
           rw[hln]at z4
           clear hm hkm hsz hln
           go_upto_region 20 with fail
           clear hrun q4 z4
           obtain⟨hwz1,hwz2⟩:W0.heap.size≤z+1∧z+1≤W0.heap.size:=by have:=hW0s.out;omega
           have HGM:Hid (Grw W0 wm z 155 _ (crsIs W0.heap.size _ _ _ _ _ _ W0.heap.size _ _ _ _ _ _ (pdN L r m++ [(k:Int)]))):=Lib.hid (HG16.out.swapI (i:=6) rfl (OwnI.map (Nat.le_refl _) HM20.out) (KM.out.mono (fun x _ e=>by rw[e];rfl)) (.inl rfl) hz9)
           have UM:=Lib.hid (U16.out.kept KM.out (by omega))
           have LM:=Lib.hid (L16.out.kept KM.out (by omega))
           have KWM:Hid (KeepsAll w wm):=KC.out.trans HGM.out.k (fun x hx e=>by omega)
           obtain⟨bp,op,nm,hAP,hbp,hnm,cp⟩:=HL.out.pts.at_ hkl
           simp only[]at hAP
           subst hAP
           have hbp':bp<w.heap.size:=hbp
           have hwN:w.heap.size≤W0.heap.size:=by omega
           replace cp:=KWM.out.cellA (by show bp<_;exact hbp') cp
           have HNM:Hid (ptNm L (pdN L r m)++ [nm]=ptNm L (pdN L r (m+1))):=by show _=_;rw[HY.out.2.2.2.2 hin,ptNm_add,Int.toNat_natCast,List.getD_eq_getElem?_getD,hnm];rfl
           have HPD:Hid (pdN L r m++ [(k:Int)]=pdN L r (m+1)):=(HY.out.2.2.2.2 hin).symm
           rw[HPD.out]at HGM
           have hnl:(ptNm L (pdN L r m)).length≤m:=by unfold ptNm;rw[List.length_map];exact pdN_len L r m
           have CM:=Lib.hid (BC.out.kept HGM.out.k (by omega))
           have q4:=UM.out.cell 4
           have z4:=HGM.out.b.cell 4
           have l1:=CM.out.cell 1
           simp at q4 z4 l1
           generalize hn9:(ptNm L (pdN L r m)).length=n9 at*
           have y0:=ExtC.cell (C:=fun b=>(Value.slice AT n9 qT).ownBlock=some b) z4 (HGM.out.ne (i:=2) rfl hz9)
           have y1:=ExtC.cell (C:=fun b=>(Value.slice AT n9 qT).ownBlock=some b) l1 (HGM.out.ne (i:=2) rfl (b:=N) (by omega))
           have y2:=ExtC.cell (C:=fun b=>(Value.slice AT n9 qT).ownBlock=some b) q4 (fun e=>by have:=HOT.out g e;omega)
           have y3:=ExtC.cell (C:=fun b=>(Value.slice AT n9 qT).ownBlock=some b) cp (HGM.out.ne (i:=2) rfl (b:=bp) (by omega))
           refine wp_region_lexB (fun w'=>∃x:ExtC (fun b=>(Value.slice AT n9 qT).ownBlock=some b) wm,w'=x.val) [0,1,2,3,4,5,6,7,8,9,10,11,12,13] (by kernel_rfl) (by kernel_rfl) (ExtC.start _ _) ?_
           iterate 9 (refine lex_q _ rfl rfl rfl ?_;go_big_quiet_step (fail);refine wpQuiet_nil ?_)
           clear y0 y1 y2 y3 q4 z4 l1 cp
           refine lex_a _ rfl rfl true (by kernel_rfl) ?_
           go_wp2
           refine⟨fun _=>⟨⟨_,((Keeps.refl _ _).alloc _).drew⟩,rfl⟩,?_⟩
           generalize hWb:World.drew (World.alloc wm _)=Wb
           have KB:=Lib.hid (blk_gen hWb).2
           have HBX:=Lib.hid (blk_gen hWb).1
           clear hWb
           have HGB:=Lib.hid (HGM.out.keep KB.out)
           refine lex_a _ rfl rfl true (by kernel_rfl) ?_
           refine wpList_append_L tyStrC RStr.ok rfl (.tmp 128) (.tmp 135) rfl (HGB.out.itm (i:=2) rfl) rfl _ [.string (mkS nm)] rfl HBX.out rfl nm (S:=fun _=>False) rfl (fun _ h=>h.elim) (by simp[Value.oneCell']) (by omega) (by omega) HGB.out.k.size ?_
           intro v9 w9 HO9 HK9 HA9
           obtain⟨A20x,q20x,hv9,-,-⟩:=HO9.form
           generalize hl9:List.length (ptNm L (pdN L r m)++_)=nl9 at hv9
           subst hv9
           have bz9:=HGB.out.b.kept HK9 (HGB.out.ne (i:=2) rfl hz9)
           have c9:=bz9.cell 4
           have f9:=bz9.frozen 4
           simp at c9
           have hz4:=bz9.lt
           rw[HNM.out]at HO9
           have HP9:=Lib.hid (HGB.out.putI (i:=2) rfl (OwnI.of RStr.flt HO9) HK9 HA9 hz9 4)
           have U9:=Lib.hid ((UM.out.kept KB.out (by simp)).kept HK9 (fun e=>by have:=HOT.out g e;omega))
           have L9:=Lib.hid ((LM.out.kept KB.out (by simp)).kept HK9 (fun e=>by have:=HOT.out g2 e;omega))
           have K9:=Lib.hid ((KB.out.mono (C:=fun b=>(Value.slice AT n9 qT).ownBlock=some b) (fun _ _ h=>h.elim)).trans HK9 (fun _ _ h=>h))
           have HA9x:=HA9
           clear HO9 HK9 HA9 bz9
           go_wp2
           refine⟨fun _=>⟨⟨_,K9.out⟩,rfl⟩,?_⟩
           iterate 2 (refine lex_q _ rfl rfl rfl ?_;go_big_quiet_step (fail);refine wpQuiet_nil ?_)
           refine lex_a _ rfl rfl false (by kernel_rfl) ?_
           go_wp2
           (try refine⟨fun h=>(by cases h),?_⟩)
           simp only[wpLex]
           refine NoPanic.normal ?_
           go_wp2_with fail
           go_meet
           exact⟨_,HP9.out,Blk.far U9.out (p:=⟨z,4,none⟩) (by show g≠z;omega) _,Blk.far L9.out (p:=⟨z,4,none⟩) (by show g2≠z;omega) _,fun b e e2=>by
            rcases HA9x with h9|h9
            ·have:=HOT.out b (h9.symm.trans e);omega
            ·rw[e]at h9;injection h9 with h9;have:=KB.out.size;have:=LM.out.lt;omega⟩
         case rest=>
          obtain⟨vT2,hg17,hu17,hl17,hvt⟩:=hcut
          have HVT:=Lib.hid hvt
          clear hvt
          have HG17:=Lib.hid hg17
          have L17:=Lib.hid hl17
          have HM17:Hid (MapIs wc W0.heap.size (pdN L r (m+1)) (numF (pdN L r (m+1)))):=HG17.out.itm (i:=6) rfl
          have q4:=Blk.cell hu17 4
          have q5:=Blk.cell hu17 5
          simp at q4 q5
          obtain⟨hwz1,hwz2⟩:W0.heap.size≤z+1∧z+1≤W0.heap.size:=by have:=hW0s.out;omega
          obtain⟨-,hy2,hy3,-⟩:=HY.out
          have HLK:∀x:ExtC (fun b=>b=g2) wc,(Instr.lookup 332 (.map (some W0.heap.size)) (.int .i64 (k:Int)) false).run Tryz.prog x.val= .ok (.int .i64 (crsLnk L r m).pt) x.val:=fun x=>by
           have:=((HM17.out.kept x.keeps (by omega)).lookup (P:=Tryz.prog) (t:=332) (E:=3) Tryz.underlying332 Tryz.underlying3 (zeroInt _) (k:Int)).1
           rw[hy2]at this
           simpa using this
          have HLN:=Lib.hid hy3
          clear hy2 hy3 HY HM17 hg17 hl17 HIN
          generalize (crsLnk L r m).pt=cpt at HLK HLN
          have y0:=ExtC.cell (C:=fun b=>b=g2) q4 (by show¬g=g2;omega)
          have y1:=ExtC.cell (C:=fun b=>b=g2) q5 (by show¬g=g2;omega)
          go_upto_region 21 with fail
          refine wp_region_lexB (fun w'=>∃x:ExtC (fun b=>b=g2) wc,w'=x.val) [0,1,2,3,4,5,6,7,8,9] (by kernel_rfl) (by kernel_rfl) (ExtC.start _ _) ?_
          iterate 7 (refine lex_q _ rfl rfl rfl ?_;go_big_quiet_step (fail);refine wpQuiet_nil ?_)
          clear y0 y1 q4 q5 HLK
          have KD:KeepsAll wc wc.drew:=(Keeps.refl _ _).drew
          generalize wc.drew=wd at*
          have HG18:=Lib.hid (HG17.out.keep KD)
          have L18:=Lib.hid (L17.out.kept KD (by simp))
          have z4:=L18.out.cell 4
          have z5:=L18.out.cell 5
          simp[lnkC]at z4 z5
          have f4:=L18.out.frozen 4
          have f5:=L18.out.frozen 5
          have hzl:=L18.out.lt
          refine lex_a _ rfl rfl true (by kernel_rfl) ?_
          go_wp2
          refine⟨fun _=>⟨⟨_,(KD.mono (C:=fun b=>b=g2) (fun _ _ h=>h.elim)).setCell (p:=⟨g2,4,none⟩) (fun _=>rfl) _⟩,rfl⟩,?_⟩
          iterate 1 (refine lex_q _ rfl rfl rfl ?_;go_big_quiet_step (fail);refine wpQuiet_nil ?_)
          refine lex_a _ rfl rfl false (by kernel_rfl) ?_
          go_wp2
          (try refine⟨fun h=>(by cases h),?_⟩)
          simp only[wpLex]
          refine NoPanic.normal ?_
          go_wp2_with fail
          go_meet
          refine⟨_,vT2,HG18.out.far (C:=fun b=>b=g2) (((Keeps.refl (fun b=>b=g2) _).setCell (p:=⟨g2,4,none⟩) (fun _=>rfl) _).setCell (p:=⟨g2,5,none⟩) (fun _=>rfl) _) (fun b hb e=>by omega) (fun p hp b e e2=> ?_) hz9,?_⟩
          ·simp only[crsIs,List.mem_cons,List.not_mem_nil,or_false]at hp
           rcases hp with rfl|rfl|rfl|rfl|rfl|rfl|rfl
           ·have:=HO0.out b e;omega
           ·have:=HOP.out b e;omega
           ·exact HVT.out b e e2
           ·have:=HO3.out b e;omega
           ·have:=HO4.out b e;omega
           ·have:=HO5.out b e;omega
           ·have e3:some W0.heap.size=some b:=e
            injection e3 with e3
            omega
          ·rw[HLN.out]
           exact(L18.out.set_ 4 _).set_ 5 _
       · go_wp2_with fail
         go_meet
         obtain⟨e1,e2,e3⟩:=HNO.out hkp
         refine⟨.slice A12x (m+1+1) q12x,vT,?_,?_⟩
         ·rw[e1,tab_succ,e2];exact HG14.out
         ·rw[e3];exact L14.out
      case rest=>
       obtain⟨vP',vT',hg15,hl15⟩:=hcut
       have HG15:=Lib.hid hg15
       have HT15:Hid (tab m (crsLnk L r)++ [crsLnk L r m]=tab (m+1) (crsLnk L r)):=(tab_succ _ _).symm
       generalize crsLnk L r m=ck at hl15 HT15
       clear hg15 HNO HYES HOK U14 L14 C14 q4
       obtain⟨la,lae,lb,lbe,lp,ls⟩:=ck
       have B15:=Lib.hid hl15
       have z6:=HG15.out.b.cell 6
       simp at z6
       have t0:=B15.out.cell 0
       have t1:=B15.out.cell 1
       have t2:=B15.out.cell 2
       have t3:=B15.out.cell 3
       have t4:=B15.out.cell 4
       have t5:=B15.out.cell 5
       simp[lnkC]at t0 t1 t2 t3 t4 t5
       have hzb:=B15.out.lt
       have hzz:=HG15.out.b.lt
       clear hl15 B15
       go_upto_region 23 with(at_builtin;go_loud(have HB:=Lib.hid (HG15.out.keep ((Keeps.refl (fun _=>False) _).alloc (.cells (lnkC ⟨la,lae,lb,lbe,lp,ls⟩) 196)));refine wpList_append_L tyLnk RLnk.ok rfl (.tmp 149) (.tmp 151) rfl (HB.out.itm (i:=4) rfl) rfl _ (lnkC ⟨la,lae,lb,lbe,lp,ls⟩).toList rfl (Blk.new _ _ _) rfl ⟨la,lae,lb,lbe,lp,ls⟩ (S:=fun _=>False) rfl (fun _ h=>h.elim) (by simp[lnkC,Value.oneCell']) (by simp[tab_len];omega) (by simp[tab_len];omega) HB.out.k.size ?_;intro v9 w9 HO9 HK9 HA9;obtain⟨A22x,q22x,hv9,-,-⟩:=HO9.form;rw[List.length_append,tab_len,List.length_singleton]at hv9;subst hv9;have bz9:=HB.out.b.kept HK9 (HB.out.ne (i:=4) rfl hz9);have c9:=bz9.cell 6;have f9:=bz9.frozen 6;simp at c9;have HP9:=Lib.hid (HB.out.putI (i:=4) rfl (OwnI.of RLnk.flt HO9) HK9 HA9 hz9 6)))
       rw[HT15.out]at HP9
       generalize hW9:World.setCell w9 _ _=W22 at*
       clear hW9 HB HO9 HK9 HA9 bz9 c9 f9 z6 t0 t1 t2 t3 t4 t5 hzb
       go_wp2_with fail
       exact⟨⟨m+1+1,_,_,_,_,_,_,by omega,by go_num,HP9.out⟩,by simp[intOf];omega⟩
  ·obtain rfl:j=r.stps.length:=by omega
   have BZ1:=Lib.hid (BZC.out.kept HG.out.k (by omega))
   obtain⟨AS,qS,rfl,-,-⟩:=OwnL.form (HG.out.itm (i:=0) rfl)
   obtain⟨AP,qP,rfl,-,-⟩:=OwnL.form (HG.out.itm (i:=1) rfl)
   obtain⟨AT,qT,rfl,-,-⟩:=OwnL.form (HG.out.itm (i:=2) rfl)
   obtain⟨AC,qC,rfl,-,-⟩:=OwnL.form (HG.out.itm (i:=3) rfl)
   obtain⟨AK,qK,rfl,-,-⟩:=OwnL.form (HG.out.itm (i:=4) rfl)
   obtain⟨AR,qR,rfl,-,-⟩:=OwnL.form (HG.out.itm (i:=5) rfl)
   have z0:=HG.out.b.cell 0
   have z1:=HG.out.b.cell 1
   have z2:=HG.out.b.cell 2
   have z3:=HG.out.b.cell 3
   have z4:=HG.out.b.cell 4
   have z5:=HG.out.b.cell 5
   have z6:=HG.out.b.cell 6
   have z7:=HG.out.b.cell 7
   have z8:=HG.out.b.cell 8
   simp at z0 z1 z2 z3 z4 z5 z6 z7 z8
   have y0:=BZ1.out.cell 0
   have y1:=BZ1.out.cell 1
   have y2:=BZ1.out.cell 2
   have y3:=BZ1.out.cell 3
   have y4:=BZ1.out.cell 4
   have y5:=BZ1.out.cell 5
   have y6:=BZ1.out.cell 6
   have y7:=BZ1.out.cell 7
   have y8:=BZ1.out.cell 8
   simp at y0 y1 y2 y3 y4 y5 y6 y7 y8
   have f0:=BZ1.out.frozen 0
   have f1:=BZ1.out.frozen 1
   have f2:=BZ1.out.frozen 2
   have f3:=BZ1.out.frozen 3
   have f4:=BZ1.out.frozen 4
   have f5:=BZ1.out.frozen 5
   have f6:=BZ1.out.frozen 6
   have f7:=BZ1.out.frozen 7
   have f8:=BZ1.out.frozen 8
   have hzy:=BZ1.out.lt
   go_wp2_with fail
   generalize hW9:World.setCell (World.setCell (World.setCell (World.setCell (World.setCell (World.setCell (World.setCell (World.setCell (World.setCell wr _ _) _ _) _ _) _ _) _ _) _ _) _ _) _ _) _ _=W9
   have B9:Hid (Blk W9 (N+1+1) 155 #[.slice AS r.stps.length qS,.slice AP (tab r.stps.length (crsPt L r)).length qP,.int .i64 ((r.stps.length:Int)-ov-1),.slice none 0 0,.slice AT (ptNm L (pdN L r (r.stps.length-1))).length qT,.slice AC r.stps.length qC,.slice AK (tab (r.stps.length-1) (crsLnk L r)).length qK,.slice AR (tab r.stps.length fun i=>(⟨i,(stpD r i).dir⟩:Stp)).length qR,.int .i64 ov]):=by subst hW9;exact((((((((BZ1.out.set_ 0 _).set_ 1 _).set_ 2 _).set_ 3 _).set_ 4 _).set_ 5 _).set_ 6 _).set_ 7 _).set_ 8 _
   have K9:Hid (Keeps (fun x=>x=N+1+1) wr W9):=by subst hW9;exact(((((((((Keeps.refl (fun x=>x=N+1+1) wr).setCell (fun _=>rfl) _).setCell (fun _=>rfl) _).setCell (fun _=>rfl) _).setCell (fun _=>rfl) _).setCell (fun _=>rfl) _).setCell (fun _=>rfl) _).setCell (fun _=>rfl) _).setCell (fun _=>rfl) _).setCell (fun _=>rfl) _
   clear hW9 y0 y1 y2 y3 y4 y5 y6 y7 y8 f0 f1 f2 f3 f4 f5 f6 f7 f8 z0 z1 z2 z3 z4 z5 z6 z7 z8 BZ1
   have z0:=B9.out.cell 0
   have z1:=B9.out.cell 1
   have z2:=B9.out.cell 2
   have z3:=B9.out.cell 3
   have z4:=B9.out.cell 4
   have z5:=B9.out.cell 5
   have z6:=B9.out.cell 6
   have z7:=B9.out.cell 7
   have z8:=B9.out.cell 8
   simp at z0 z1 z2 z3 z4 z5 z6 z7 z8
   refine bodyPost_ret (v:= .agg #[.slice AS r.stps.length qS,.slice AP (tab r.stps.length (crsPt L r)).length qP,.int .i64 ((r.stps.length:Int)-ov-1),.slice none 0 0,.slice AT (ptNm L (pdN L r (r.stps.length-1))).length qT,.slice AC r.stps.length qC,.slice AK (tab (r.stps.length-1) (crsLnk L r)).length qK,.slice AR (tab r.stps.length fun i=>(⟨i,(stpD r i).dir⟩:Stp)).length qR,.int .i64 ov]) (by simp[results,Tryz.results111,go_sem,z0,z1,z2,z3,z4,z5,z6,z7,z8]) rfl ?_
   have hne:∀b,W0.heap.size≤b→¬b=N+1+1:=fun b hb=>by omega
   have hfr:∀b,W0.heap.size≤b→b<W9.heap.size→Fresh w W9 b:=fun b hb h2=>⟨by omega,h2⟩
   have i0:=(HG.out.itmK (i:=0) rfl K9.out hne).read RInt.ok (by omega) hfr hfr
   have i1:=(HG.out.itmK (i:=1) rfl K9.out hne).read RInt.ok (by omega) hfr hfr
   have i2:=(HG.out.itmK (i:=2) rfl K9.out hne).read RStr.ok (by omega) hfr hfr
   have i3:=(HG.out.itmK (i:=3) rfl K9.out hne).read RSec.ok (by omega) hfr hfr
   have i4:=(HG.out.itmK (i:=4) rfl K9.out hne).read RLnk.ok (by omega) hfr hfr
   have i5:=(HG.out.itmK (i:=5) rfl K9.out hne).read RStp.ok (by omega) hfr hfr
   rw[crs_end (by omega)]
   rw[List.take_length]at i0 i3
   rw[List.length_map]at i0 i3
   rw[tab_len]at i1 i5⊢
   refine⟨AS,qS,AP,qP,AR,qR,⟨none,AT,AC,AK,0,qT,qC,qK⟩,?_,KW.out.trans K9.out (fun x hx e=>by omega),i0,i1,⟨RSlice.mkNil,i2,by simpa using i3,i4⟩,i5⟩
   simp[tab_len]
end Go.Proofs.YtcbcegdidlefiaaGreat
