/- Contracts of fit and Fits of blocking (program). Conditions: as each theorem says. What a fit gives; contract of blocking.Times (program) at a fit. Conditions: as each theorem says. Contracts of the ends of a step and of last (motion, program). Conditions: as each theorem says. Contract of points (motion, program): the points of the transitions of a valid route. Conditions: as the theorem says. -/
import Derived.Test.YtcbcegdidlefiaaGreatK09
import Derived.Test.YtcbcegdidlefiaaGreatK11
import Derived.Test.YtcbcegdidlefiaaGreatK07
import Derived.Deep.CutRange
namespace Go.Proofs.YtcbcegdidlefiaaGreat
section
open Go.RowKit
theorem travelled_any (r:Rou) (A:Option Addr) (c:Nat) (w:World) (hc:r.stps.length≤c∧c≤9223372036854775807) (hA:0<r.stps.length→∃b o,A=some ⟨b,o,none⟩) (h0:0≤r.ov) (h1:r.ov≤r.stps.length) (h2:0<r.stps.length):
  Calls Tryz.prog 452 #[.agg #[.slice A r.stps.length c,.int .i64 r.ov]] w fun e w'=>e= .returned (.slice A (r.stps.length-r.ov.toNat) c)∧KeepsAll w w':=by
 obtain⟨b,o,rfl⟩:=hA h2
 obtain⟨ov,hov⟩:=Int.eq_ofNat_of_zero_le h0
 rw[hov,Int.toNat_natCast]
 rw[hov]at h1
 have hs:(r.stps.length:Int)-(ov:Int)=((r.stps.length-ov:Nat):Int):=by omega
 have h3:r.stps.length-ov≤c:=by omega
 have h5:r.stps.length-ov≤r.stps.length:=by omega
 clear hA h2 hov h0
 generalize r.stps.length=n at*
 go_enter Tryz.func452,Tryz.ntmps452
 go_wp2
 go_ret
 exact⟨rfl,(Keeps.refl _ _).alloc _⟩
theorem up_any (x:Int) (h0:0≤x) (h1:x≤1000000000000) (w:World):Calls Tryz.prog 453 #[.int .i64 x] w fun e w'=>e= .returned (.int .i64 (cdiv x 1000))∧w=w':=by
 have HC:=Lib.hid (fun W=>CeilDiv_any x 1000 h0 h1 (by omega) (by omega) W)
 generalize cdiv x 1000=d at*
 go_enter Tryz.func453,Tryz.ntmps453
 go_wp2_with(go_at_call 473;refine(HC.out _).mono ?_;rintro e w' ⟨rfl,rfl⟩)
 go_ret
 exact⟨rfl,rfl⟩
set_option maxRecDepth 100000 in
set_option maxHeartbeats 4000000 in
theorem bfit_any (L:Lay) (v:LV) (r:Rou) (s:Stk) (A:Option Addr) (c:Nat) (w:World) (h:RLay w (Old w) v L) (hr:RStps w (Old w) [.slice A r.stps.length c] r.stps) (hlen:LayLen L):
  Calls Tryz.prog 397 #[.agg (v.cs L),.agg #[.slice A r.stps.length c,.int .i64 r.ov],.agg (stkC s)] w fun e w'=>∃A' n' c' f,e= .returned (.tuple #[.agg #[.slice A' n' c',.int .i64 f],.int .i64 (fitErr L r s)])∧KeepsAll w w'∧
   (fitErr L r s=0→f=(fstC (pcesOf L r):Int)∧n'=(celsRt L r).length∧RCels w' (Fresh w w') [.slice A' n' c'] (celsRt L r)):=by
 have HCE:=Lib.hid (fun W k1 k2=>rcells_any L v r A c W k1 k2 hlen)
 have HST:=Lib.hid (fun W=>stkOk_any s W)
 have HL:=Lib.hid h
 have HR:=Lib.hid hr
 have hc:=hr.caps
 have hc3:=h.secs.caps
 clear h hr
 obtain⟨A1,A2,A3,A4,ca1,ca2,ca3,ca4⟩:=v
 simp only[]at hc3
 unfold LV.cs at HCE⊢
 simp only[]at HCE⊢
 obtain⟨sn,sl,sv,sa,sb⟩:=s
 generalize hst:(⟨sn,sl,sv,sa,sb⟩:Stk)=s at*
 have ES:Hid (stkC s= #[.string (mkS sn),.int .i64 sl,.int .i64 sv,.int .i64 sa,.int .i64 sb]):=by subst hst;rfl
 have hsl:s.len=sl:=by subst hst;rfl
 rw[ES.out]at HST⊢
 clear hst ES
 go_enter Tryz.func397,Tryz.ntmps397
 go_wp2_with fail
 generalize hW1:World.alloc w _=W1
 have K1:Hid (KeepsAll w W1):=by subst hW1;exact(Keeps.refl _ _).alloc _
 have B1:Hid (Blk W1 w.heap.size 27 #[.slice A1 L.sts.length ca1,.slice A2 L.pts.length ca2,.slice A3 L.secs.length ca3,.slice A4 L.lks.length ca4]):=by subst hW1;exact Blk.new _ _ _
 have hz1:W1.heap.size=w.heap.size+1:=by subst hW1;simp
 clear hW1
 generalize hN:w.heap.size=N at*
 generalize hW:World.alloc (World.alloc (World.alloc W1 _) _) _=W
 have K0:Hid (KeepsAll w W):=by subst hW;exact((K1.out.alloc _).alloc _).alloc _
 have B0:Hid (Blk W N 27 #[.slice A1 L.sts.length ca1,.slice A2 L.pts.length ca2,.slice A3 L.secs.length ca3,.slice A4 L.lks.length ca4]):=by subst hW;exact((B1.out.alloc _).alloc _).alloc _
 have BR:Hid (Blk W (N+1) 95 #[.slice A r.stps.length c,.int .i64 r.ov]):=by subst hW;exact((Blk.new' _ _ _ hz1.symm).alloc _).alloc _
 have BK:Hid (Blk W (N+1+1) 103 #[.string (mkS sn),.int .i64 sl,.int .i64 sv,.int .i64 sa,.int .i64 sb]):=by subst hW;exact(Blk.new' _ _ _ (by simp[hz1])).alloc _
 have BM:Hid (Blk W (N+1+1+1) 531 #[.slice none 0 0,.int .i64 0]):=by subst hW;exact Blk.new' _ _ _ (by simp[hz1])
 have HWS:Hid (W.heap.size=N+1+1+1+1):=by subst hW;show _=_;simp[hz1]
 clear hW K1 B1 hz1
 refine(HCE.out W (HL.out.kept K0.out) (K0.out.rdA (RSlice.ok RStp.ok) HR.out)).mono ?_
 rintro e W2 ⟨vs,f,rfl,k2,hok⟩
 have HCO:=Lib.hid hok
 have K2:Hid (KeepsAll w W2):=K0.out.trA k2
 have C0:=Lib.hid (B0.out.kept k2 (by simp))
 have CR:=Lib.hid (BR.out.kept k2 (by simp))
 have CK:=Lib.hid (BK.out.kept k2 (by simp))
 have CM:=Lib.hid (BM.out.kept k2 (by simp))
 clear k2 B0 BR BK BM K0 hok HCE
 have l0:=CK.out.cell 0
 have l1:=CK.out.cell 1
 have l2:=CK.out.cell 2
 have l3:=CK.out.cell 3
 have l4:=CK.out.cell 4
 have m0:=CM.out.cell 0
 have m1:=CM.out.cell 1
 have n0:=CM.out.frozen 0
 have n1:=CM.out.frozen 1
 simp at l0 l1 l2 l3 l4 m0 m1
 have hNz:N+1+1+1<W2.heap.size:=CM.out.lt
 have hwz:w.heap.size≤N+1+1+1:=by omega
 have HKS:Hid (∀(W3:World) a b,KeepsAll w W3→KeepsAll w ((W3.setCell ⟨N+1+1+1,0,none⟩ a).setCell ⟨N+1+1+1,1,none⟩ b)):=fun W3 a b k=>Keeps.setCell (Keeps.setCell k (fun e=>by simp at e;omega) _) (fun e=>by simp at e;omega) _
 by_cases gz:celErr L r≠0
 ·have gz':(celErr L r !=0)=true:=by simpa using gz
  have E:Hid (fitErr L r s=celErr L r):=by show _=_;unfold fitErr;rw[if_pos gz]
  have HNZ:=Lib.hid gz
  generalize hou:celErr L r=ou at*
  clear gz HCO
  go_wp2_with fail
  generalize hW9:World.setCell (World.setCell W2 _ _) _ _=W9
  have K9:Hid (KeepsAll w W9):=by subst hW9;exact HKS.out W2 _ _ K2.out
  have B9:Hid (Blk W9 (N+1+1+1) 531 #[.slice none 0 0,.int .i64 0]):=by subst hW9;exact(CM.out.set_ 0 _).set_ 1 _
  clear hW9 m0 m1 n0 n1
  have z0:=B9.out.cell 0
  have z1:=B9.out.cell 1
  simp at z0 z1
  refine bodyPost_ret (v:= .tuple #[.agg #[.slice none 0 0,.int .i64 0],.int .i64 ou]) (by simp[results,Tryz.results397,go_sem,z0,z1]) rfl ?_
  exact⟨none,0,0,0,by rw[E.out],K9.out,fun e=>absurd (E.out.symm.trans e) HNZ.out⟩
 have gz:celErr L r=0:=by simpa using gz
 have HCK:=Lib.hid (HCO.out gz)
 have hro:rouErr L r=0:=by
  unfold celErr at gz
  split at gz
  ·rename_i h;exact absurd gz h
  ·rename_i h;simpa using h
 have HOK:=Lib.hid ((rouErr_zero L r).1 hro)
 have E:Hid (fitErr L r s=if stkOk s=false then 1 else if((trvS r).any fun t=>decide ((secD L t.sec).len<max 2 s.len))=true then 12 else 0):=by
  show _=_;unfold fitErr;rw[if_neg (by simp[gz])]
 have g41:=HOK.out.len
 have g42:=HOK.out.ov2
 have g43:=HOK.out.ov0
 have g44:=HOK.out.two
 have hL1:=HOK.out.lay.secs
 rw[gz]
 clear HCO hro
 cases gs:stkOk s with
 |false=>
  have E1:Hid (fitErr L r s=1):=by show _=_;rw[E.out,if_pos gs]
  rw[gs]at HST
  clear HCK
  go_wp2_with(go_at_call 109;refine(HST.out _).mono ?_;rintro e w5 ⟨rfl,k5⟩;have K5:=Lib.hid (K2.out.trA k5);have CM5:=Lib.hid (CM.out.kept k5 (by simp));replace m0:=k5.cellA hNz m0;replace m1:=k5.cellA hNz m1;replace n0:=CM5.out.frozen 0;replace n1:=CM5.out.frozen 1;clear k5)
  generalize hW9:World.setCell (World.setCell w5 _ _) _ _=W9
  have K9:Hid (KeepsAll w W9):=by subst hW9;exact HKS.out w5 _ _ K5.out
  have B9:Hid (Blk W9 (N+1+1+1) 531 #[.slice none 0 0,.int .i64 0]):=by subst hW9;exact(CM5.out.set_ 0 _).set_ 1 _
  clear hW9 m0 m1 n0 n1
  have z0:=B9.out.cell 0
  have z1:=B9.out.cell 1
  simp at z0 z1
  refine bodyPost_ret (v:= .tuple #[.agg #[.slice none 0 0,.int .i64 0],.int .i64 1]) (by simp[results,Tryz.results397,go_sem,z0,z1]) rfl ?_
  exact⟨none,0,0,0,by rw[E1.out],K9.out,fun e=>by rw[E1.out]at e;cases e⟩
 |true=>
  rw[gs]at HST
  obtain⟨ov,hov⟩:=Int.eq_ofNat_of_zero_le g43
  obtain⟨b0,o0,x0,hA,-,hx0,-,-⟩:=HR.out.at_ (k:=0) (by omega)
  subst hA
  have HTR:=Lib.hid (fun W=>travelled_any r (some ⟨b0,o0,none⟩) c W hc (fun _=>⟨b0,o0,rfl⟩) g43 (by omega) (by omega))
  have HTV:Hid (r.stps.length-r.ov.toNat=r.stps.length-ov):=by show _=_;rw[hov,Int.toNat_natCast]
  have HTS:Hid (trvS r=r.stps.take (r.stps.length-ov)):=by show _=_;unfold trvS;rw[HTV.out]
  rw[HTV.out]at HTR
  have hTl:r.stps.length-ov≤r.stps.length:=by omega
  clear hov
  generalize hTT:r.stps.length-ov=T at*
  have E2:Hid (fitErr L r s=if((r.stps.take T).any fun t=>decide ((secD L t.sec).len<max 2 s.len))=true then 12 else 0):=by
   show _=_;rw[E.out,if_neg (by rw[gs];simp),HTS.out]
  clear E
  go_wp2_with fail
  with_reducible refine(HST.out _).mono ?_
  rintro e w5 ⟨rfl,k5⟩
  have K5:=Lib.hid (K2.out.trA k5)
  have D0:=Lib.hid (C0.out.kept k5 (by simp))
  have DR:=Lib.hid (CR.out.kept k5 (by simp))
  have DK:=Lib.hid (CK.out.kept k5 (by simp))
  have DM:=Lib.hid (CM.out.kept k5 (by simp))
  have K25:=Lib.hid k5
  clear k5 l0 l1 l2 l3 l4 m0 m1 n0 n1
  have r0:=DR.out.cell 0
  have r1:=DR.out.cell 1
  simp at r0 r1
  go_wp2_with fail
  with_reducible refine(HTR.out _).mono ?_
  rintro e w6 ⟨rfl,k6⟩
  have K6:=Lib.hid (K5.out.trA k6)
  have F0:=Lib.hid (D0.out.kept k6 (by simp))
  have FK:=Lib.hid (DK.out.kept k6 (by simp))
  have FM:=Lib.hid (DM.out.kept k6 (by simp))
  have K26:=Lib.hid (K25.out.trA k6)
  clear k6 r0 r1 D0 DR DK DM K5 K25 C0 CR CK CM HST HTR
  go_wp2_with fail
  go_loopw [31] (fun i wr=>∃n:Nat,n≤T∧i= .int .i64 (n:Int)∧((r.stps.take n).any fun t=>decide ((secD L t.sec).len<max 2 s.len))=false∧KeepsAll w6 wr) (fun i _=>T-(intOf i).toNat)
  case atStart=>exact⟨0,Nat.zero_le _,rfl,rfl,Keeps.refl _ _⟩
  case round=>
   obtain⟨n,hn,rfl,hany,hk⟩:=hrel
   have HAN:=Lib.hid hany
   have HK:=Lib.hid hk
   have KW:=Lib.hid (K6.out.trA hk)
   have G0:=Lib.hid (F0.out.kept hk (by simp))
   have GK:=Lib.hid (FK.out.kept hk (by simp))
   have GM:=Lib.hid (FM.out.kept hk (by simp))
   clear hk hany
   by_cases hlt:n<T
   ·obtain⟨b1,o1,s1,hA1,hb1,hx1,m0,m1⟩:=HR.out.atO KW.out (k:=n) (by omega)
    injection hA1 with hA1
    injection hA1 with hA1 hA2
    subst hA1 hA2
    have hsl1:=HOK.out.sec_lt hx1
    have hsa:=HOK.out.sec_at hx1
    obtain⟨k,hk⟩:=Int.eq_ofNat_of_zero_le hsl1.1
    have hk96:k<L.secs.length:=by omega
    obtain⟨b2,o2,x,rfl,hb2,hx2,c0,c1,c2,c3,c4⟩:=HL.out.secs.atO KW.out (k:=k) hk96
    have hxs:x=secD L s1.sec:=by
     rw[hk,Int.toNat_natCast]at hsa
     rw[hk]
     exact Option.some.inj (hx2.symm.trans hsa)
    rw[hk]at m0
    have HNX:Hid (∀q,decide (x.len<max 2 s.len)=q→((r.stps.take (n+1)).any fun t=>decide ((secD L t.sec).len<max 2 s.len))=q):=fun q hq=>by
     rw[List.take_add_one,hx1,Option.toList_some,List.any_append,HAN.out]
     simp only[List.any_cons,List.any_nil,Bool.or_false,Bool.false_or]
     rw[←hxs];exact hq
    have HYES:Hid (decide (x.len<max 2 s.len)=true→fitErr L r s=12):=fun hq=>by
     rw[E2.out,if_pos]
     rw[List.any_eq_true]
     refine⟨s1,List.mem_of_getElem? (by rw[List.getElem?_take_of_lt hlt];exact hx1),?_⟩
     rw[←hxs];exact hq
    rw[hsl]at HNX HYES
    have q2:=G0.out.cell 2
    have q3:=GK.out.cell 1
    have m2:=GM.out.cell 0
    have m3:=GM.out.cell 1
    have n0:=GM.out.frozen 0
    have n1:=GM.out.frozen 1
    simp at q2 q3 m2 m3
    have hz1:N<wr.heap.size:=G0.out.lt
    have hz2:N+1+1<wr.heap.size:=GK.out.lt
    have hz3:N+1+1+1<wr.heap.size:=GM.out.lt
    clear hx1 hx2 hxs hsa hsl1
    by_cases hq:x.len<max 2 sl
    ·have E1:=Lib.hid (HYES.out (by simpa using hq))
     have hq1:decide (x.len<max 2 sl)=true:=by simpa using hq
     clear HYES HNX hq
     go_wp2_with fail
     go_quiet (fail)
     go_wp2_with fail
     generalize hW8:World.drewN _ _=W8
     have K8:Hid (KeepsAll wr W8):=by subst hW8;exact((Keeps.refl _ _).alloc _).drewN _
     have G8:=Lib.hid (GM.out.kept K8.out (by simp))
     generalize hW9:World.setCell (World.setCell W8 _ _) _ _=W9
     have K9:Hid (KeepsAll w W9):=by subst hW9;exact HKS.out W8 _ _ (KW.out.trA K8.out)
     have B9:Hid (Blk W9 (N+1+1+1) 531 #[.slice none 0 0,.int .i64 0]):=by subst hW9;exact(G8.out.set_ 0 _).set_ 1 _
     clear hW9 hW8 m2 m3 n0 n1
     have z0:=B9.out.cell 0
     have z1:=B9.out.cell 1
     simp at z0 z1
     refine bodyPost_ret (v:= .tuple #[.agg #[.slice none 0 0,.int .i64 0],.int .i64 12]) (by simp[results,Tryz.results397,go_sem,z0,z1]) rfl ?_
     exact⟨none,0,0,0,by rw[E1.out],K9.out,fun e=>by rw[E1.out]at e;cases e⟩
    ·have HN1:=Lib.hid (HNX.out false (by simpa using hq))
     have hq1:decide (x.len<max 2 sl)=false:=by simpa using hq
     clear HYES HNX hq
     go_wp2_with fail
     go_quiet (fail)
     go_wp2_with fail
     exact⟨⟨n+1,by omega,by go_num,by rw[hsl];exact HN1.out,(HK.out.alloc _).drewN _⟩,by simp[intOf];omega⟩
   ·obtain rfl:n=T:=by omega
    have E0:Hid (fitErr L r s=0):=by show _=_;rw[E2.out,HAN.out];rfl
    have m2:=GM.out.cell 0
    have m3:=GM.out.cell 1
    have n0:=GM.out.frozen 0
    have n1:=GM.out.frozen 1
    simp at m2 m3
    obtain⟨hf,A',c',rfl,hcr⟩:=HCK.out
    have HCR:=Lib.hid hcr
    have HF:=Lib.hid hf
    clear hcr hf HCK
    generalize hcs:celsRt L r=cs at*
    go_wp2_with fail
    generalize hW9:World.setCell (World.setCell wr _ _) _ _=W9
    have K9:Hid (KeepsAll w W9):=by subst hW9;exact HKS.out wr _ _ KW.out
    have KC:Hid (Keeps (·=N+1+1+1) W2 W9):=by subst hW9;exact Keeps.setCell (Keeps.setCell (C:=(·=N+1+1+1)) ((K26.out.trA HK.out).mono (fun _ _ h=>h.elim)) (fun _=>rfl) _) (fun _=>rfl) _
    have B9:Hid (Blk W9 (N+1+1+1) 531 #[.slice A' cs.length c',.int .i64 f]):=by subst hW9;exact(GM.out.set_ 0 _).set_ 1 _
    clear hW9 m2 m3 n0 n1
    have z0:=B9.out.cell 0
    have z1:=B9.out.cell 1
    simp at z0 z1
    refine bodyPost_ret (v:= .tuple #[.agg #[.slice A' cs.length c',.int .i64 f],.int .i64 0]) (by simp[results,Tryz.results397,go_sem,z0,z1]) rfl ?_
    refine⟨A',cs.length,c',f,by rw[E0.out],K9.out,fun _=>⟨HF.out,by rw[hcs],?_⟩⟩
    rw[hcs]
    exact KC.out.rd (RSlice.ok RCel.ok) HCR.out (fun b hb=>⟨hb.2,fun e=>by have:=hb.1;have:=HWS.out;omega⟩) (fun b hb=>⟨by have:=hb.1;have:=HWS.out;omega,Nat.lt_of_lt_of_le hb.2 KC.out.size⟩)
set_option maxRecDepth 100000 in
theorem bFits_any (L:Lay) (v:LV) (r:Rou) (s:Stk) (A:Option Addr) (c:Nat) (w:World) (h:RLay w (Old w) v L) (hr:RStps w (Old w) [.slice A r.stps.length c] r.stps) (hlen:LayLen L):
  Calls Tryz.prog 298 #[.agg (v.cs L),.agg #[.slice A r.stps.length c,.int .i64 r.ov],.agg (stkC s)] w fun e w'=>e= .returned (.int .i64 (fitErr L r s))∧KeepsAll w w':=by
 have HF:=Lib.hid (fun W k1 k2=>bfit_any L v r s A c W k1 k2 hlen)
 have HL:=Lib.hid h
 have HR:=Lib.hid hr
 clear h hr
 obtain⟨A1,A2,A3,A4,ca1,ca2,ca3,ca4⟩:=v
 obtain⟨sn,sl,sv,sa,sb⟩:=s
 unfold LV.cs stkC at HF⊢
 simp only[]at HF⊢
 generalize fitErr L r ⟨sn,sl,sv,sa,sb⟩=ou at*
 go_enter Tryz.func298,Tryz.ntmps298
 go_wp2_with fail
 generalize hW:World.alloc (World.alloc (World.alloc w _) _) _=W
 have K0:Hid (KeepsAll w W):=by subst hW;exact(((Keeps.refl _ _).alloc _).alloc _).alloc _
 clear hW
 refine(HF.out W (HL.out.kept K0.out) (K0.out.rdA (RSlice.ok RStp.ok) HR.out)).mono ?_
 rintro e W2 ⟨A',n',c',f,rfl,k2,-⟩
 go_wp2_with fail
 go_ret
 exact⟨rfl,(K0.out.trA k2).alloc _⟩
end
section
open Go.RowKit
structure FitOk (L:Lay) (r:Rou) (s:Stk):Prop where
 rou:RouOk L r
 stk:stkOk s=true
 len:(celsRt L r).length≤4000
 pce:∀(i:Nat) p,(pcesOf L r)[i]? =some p→2≤p.len∧s.len≤p.len∧p.len≤400
 cel:∀c∈celsRt L r,celOk c=true
 two:2≤(pcesOf L r).length
theorem fitErr_ok {L:Lay} {r:Rou} {s:Stk} (h:fitErr L r s=0):FitOk L r s:=by
 unfold fitErr at h
 split at h
 ·rename_i g;exact absurd h g
 rename_i g1
 split at h
 ·simp at h
 rename_i g2
 split at h
 ·simp at h
 rename_i g3
 have g1':celErr L r=0:=by simpa using g1
 unfold celErr at g1'
 split at g1'
 ·rename_i g;exact absurd g1' g
 rename_i g4
 split at g1'
 ·simp at g1'
 rename_i g5
 have HO:=(rouErr_zero L r).1 (by simpa using g4)
 have hp:∀p∈pcesOf L r,∃(i:Nat) (t:Stp),r.stps[i]? =some t∧t∈trvS r∧p=pceOf L t:=by
  intro p hp
  unfold pcesOf at hp
  obtain⟨t,ht,rfl⟩:=List.mem_map.1 hp
  have ht2:=ht
  unfold trvS at ht2
  obtain⟨i,hi,e⟩:=List.getElem_of_mem (List.mem_of_mem_take ht2)
  exact⟨i,t,by rw[List.getElem?_eq_getElem hi,e],ht,rfl⟩
 refine⟨HO,by simpa using g2,by omega,?_,?_,?_⟩
 ·intro i p hi
  obtain⟨j,t,hj,ht,rfl⟩:=hp p (List.mem_of_getElem? hi)
  have h1:=HO.sec_ok hj
  have h2:¬(secD L t.sec).len<max 2 s.len:=by
   intro q
   apply g3
   rw[List.any_eq_true]
   exact⟨t,ht,by simpa using q⟩
  simp only[pceOf]
  omega
 ·intro c hc
  unfold celsRt cellsOf at hc
  obtain⟨p,hpm,hc⟩:=List.mem_flatMap.1 hc
  obtain⟨j,t,hj,ht,rfl⟩:=hp p hpm
  have h1:=HO.sec_ok hj
  rw[List.eq_of_mem_replicate hc]
  dsimp only[pceOf,celOk]
  rw[decide_eq_true_eq]
  split<;>omega
 ·have:=HO.two
  have:=HO.ov0
  unfold pcesOf trvS
  simp
  omega
section
variable {L:Lay} {r:Rou} {s:Stk} (h:FitOk L r s)
include h
theorem FitOk.length:(celsRt L r).length=fstC (pcesOf L r)+posE (pcesOf L r) ((pcesOf L r).length-1):=by
 have:=h.two
 exact cellsOf_length (fun e=>by rw[e]at this;simp at this)
theorem FitOk.step {i:Nat} {p:Pce} (hp:(pcesOf L r)[i+1]? =some p):posE (pcesOf L r) (i+1)=posE (pcesOf L r) i+p.len.toNat∧2≤p.len.toNat∧s.len.toNat≤p.len.toNat∧p.len.toNat≤400:=by
 have:=h.pce _ p hp
 refine⟨posE_step _ hp,?_,?_,?_⟩<;>omega
theorem FitOk.m2:2≤posE (pcesOf L r) ((pcesOf L r).length-1):=by
 have h2:=h.two
 obtain⟨k,hk⟩:∃k,(pcesOf L r).length-1=k+1:=⟨(pcesOf L r).length-2,by omega⟩
 have:=h.step (i:=k) (List.getElem?_eq_getElem (by omega))
 rw[hk]
 omega
theorem FitOk.tim (b:Nat) (hb:b≤posE (pcesOf L r) ((pcesOf L r).length-1)):0≤timR (pcesOf L r) s b∧timR (pcesOf L r) s b≤20001*b:=by
 have hl:=h.length
 have h2:=h.m2
 unfold timR
 induction b with
 |zero=>exact⟨Int.le_refl _,by simp[timC]⟩
 |succ b ih=>
  have h1:=ih (by omega)
  have h2:=cdiv_range h.cel h.stk (a:=fstC (pcesOf L r)) b (by omega) (by omega)
  rw[timC]
  unfold celsRt at h2
  omega
theorem FitOk.le_m:posE (pcesOf L r) ((pcesOf L r).length-1)≤4000:=by have:=h.length;have:=h.len;omega
end
theorem own_dis {va vl v8:Value} {n:Nat} (hab:∀b,va.ownBlock=some b→vl.ownBlock≠some b) (h8:v8.ownBlock=vl.ownBlock∨v8.ownBlock=some n) (ha:∀b,va.ownBlock=some b→b<n):∀b,va.ownBlock=some b→v8.ownBlock≠some b:=fun b hb e=>by
 rcases h8 with h|h
 ·exact hab b hb (h▸e)
 ·rw[h]at e;injection e with e;have:=ha b hb;omega
set_option maxRecDepth 100000 in
set_option maxHeartbeats 8000000 in
theorem bTimes_any (L:Lay) (v:LV) (r:Rou) (s:Stk) (A:Option Addr) (c:Nat) (w:World) (h:RLay w (Old w) v L) (hr:RStps w (Old w) [.slice A r.stps.length c] r.stps) (hlen:LayLen L) (hfit:fitErr L r s=0):
  Calls Tryz.prog 374 #[.agg (v.cs L),.agg #[.slice A r.stps.length c,.int .i64 r.ov],.agg (stkC s)] w fun e w'=>∃A1 n1 c1 A2 n2 c2,e= .returned (.tuple #[.slice A1 n1 c1,.slice A2 n2 c2,.int .i64 (runR (pcesOf L r) s),.int .i64 0])∧KeepsAll w w'∧
   RInts w' (Fresh w w') [.slice A1 n1 c1] (tab (pcesOf L r).length (entR (pcesOf L r) s))∧RInts w' (Fresh w w') [.slice A2 n2 c2] (tab (pcesOf L r).length (leaR (pcesOf L r) s)):=by
 have HF:=Lib.hid (fun W k1 k2=>bfit_any L v r s A c W k1 k2 hlen)
 have HFO:=Lib.hid (fitErr_ok hfit)
 rw[hfit]at HF
 have HL:=Lib.hid h
 have HR:=Lib.hid hr
 have hc:=hr.caps
 have hc3:=h.secs.caps
 clear h hr
 have g41:=HFO.out.rou.len
 have g42:=HFO.out.rou.ov2
 have g43:=HFO.out.rou.ov0
 have g44:=HFO.out.rou.two
 have hL1:=HFO.out.rou.lay.secs
 obtain⟨b0,o0,x0,hA,-,hx0,-,-⟩:=HR.out.at_ (k:=0) (by omega)
 subst hA
 have HTR:=Lib.hid (fun W=>travelled_any r (some ⟨b0,o0,none⟩) c W hc (fun _=>⟨b0,o0,rfl⟩) g43 (by omega) (by omega))
 have HPL:Hid ((pcesOf L r).length=r.stps.length-r.ov.toNat):=by show _=_;unfold pcesOf trvS;simp
 rw[←HPL.out]at HTR
 have HDT:=Lib.hid (fun(W:World) A' u k=>DTimes_any (celsRt L r) A' u (fstC (pcesOf L r)) (posE (pcesOf L r) ((pcesOf L r).length-1)) s W k HFO.out.length HFO.out.m2 HFO.out.cel HFO.out.stk HFO.out.len)
 have HUP:=Lib.hid (fun W=>up_any (timR (pcesOf L r) s (posE (pcesOf L r) ((pcesOf L r).length-1))) (HFO.out.tim _ (Nat.le_refl _)).1 (by have:=(HFO.out.tim _ (Nat.le_refl _)).2;have:=HFO.out.le_m;omega) W)
 have HRUN:Hid (cdiv (timR (pcesOf L r) s (posE (pcesOf L r) ((pcesOf L r).length-1))) 1000=runR (pcesOf L r) s):=rfl
 rw[HRUN.out]at HUP
 obtain⟨A1,A2,A3,A4,ca1,ca2,ca3,ca4⟩:=v
 simp only[]at hc3
 unfold LV.cs at HF⊢
 simp only[]at HF⊢
 obtain⟨sn,sl,sv,sa,sb⟩:=s
 generalize hst:(⟨sn,sl,sv,sa,sb⟩:Stk)=s at*
 have ES:Hid (stkC s= #[.string (mkS sn),.int .i64 sl,.int .i64 sv,.int .i64 sa,.int .i64 sb]):=by subst hst;rfl
 have HSL:Hid (s.len=sl∧1≤sl∧sl≤40):=by
  have:=HFO.out.stk
  simp[stkOk]at this
  subst hst
  exact⟨rfl,this.1,this.2.1⟩
 rw[ES.out]at HF HDT⊢
 clear hst ES hfit
 go_enter Tryz.func374,Tryz.ntmps374
 go_wp2_with fail
 generalize hW1:World.alloc w _=W1
 have K1:Hid (KeepsAll w W1):=by subst hW1;exact(Keeps.refl _ _).alloc _
 have B1:Hid (Blk W1 w.heap.size 27 #[.slice A1 L.sts.length ca1,.slice A2 L.pts.length ca2,.slice A3 L.secs.length ca3,.slice A4 L.lks.length ca4]):=by subst hW1;exact Blk.new _ _ _
 have hz1:W1.heap.size=w.heap.size+1:=by subst hW1;simp
 clear hW1
 generalize hN:w.heap.size=N at*
 generalize hW:World.alloc (World.alloc W1 _) _=W
 have K0:Hid (KeepsAll w W):=by subst hW;exact(K1.out.alloc _).alloc _
 have B0:Hid (Blk W N 27 #[.slice A1 L.sts.length ca1,.slice A2 L.pts.length ca2,.slice A3 L.secs.length ca3,.slice A4 L.lks.length ca4]):=by subst hW;exact(B1.out.alloc _).alloc _
 have BR:Hid (Blk W (N+1) 95 #[.slice (some ⟨b0,o0,none⟩) r.stps.length c,.int .i64 r.ov]):=by subst hW;exact(Blk.new' _ _ _ hz1.symm).alloc _
 have BK:Hid (Blk W (N+1+1) 103 #[.string (mkS sn),.int .i64 sl,.int .i64 sv,.int .i64 sa,.int .i64 sb]):=by subst hW;exact Blk.new' _ _ _ (by simp[hz1])
 clear hW K1 B1 hz1
 with_reducible refine(HF.out W (HL.out.kept K0.out) (K0.out.rdA (RSlice.ok RStp.ok) HR.out)).mono ?_
 rintro e W2 ⟨Ac,nc,cc,f,rfl,k2,hok⟩
 obtain⟨rfl,rfl,hcels⟩:=hok trivial
 have HCE:=Lib.hid hcels
 have K2:Hid (KeepsAll w W2):=K0.out.trA k2
 have C0:=Lib.hid (B0.out.kept k2 (by simp))
 have CR:=Lib.hid (BR.out.kept k2 (by simp))
 have CK:=Lib.hid (BK.out.kept k2 (by simp))
 have HWS:=k2.size
 clear k2 B0 BR BK hok hcels HF
 have l0:=CK.out.cell 0
 have l1:=CK.out.cell 1
 have l2:=CK.out.cell 2
 have l3:=CK.out.cell 3
 have l4:=CK.out.cell 4
 simp at l0 l1 l2 l3 l4
 have hNz:N+1+1<W2.heap.size:=CK.out.lt
 go_wp2_with fail
 generalize hW3:World.alloc W2 _=W3
 have K23:Hid (KeepsAll W2 W3):=by subst hW3;exact(Keeps.refl _ _).alloc _
 clear hW3
 have K3:Hid (KeepsAll w W3):=K2.out.trA K23.out
 have HC3:Hid (RCels W3 (Old W3) [.slice Ac (celsRt L r).length cc] (celsRt L r)):=K23.out.rd (RSlice.ok RCel.ok) HCE.out (fun b hb=>⟨hb.2,by simp⟩) (fun b hb=>Nat.lt_of_lt_of_le hb.2 K23.out.size)
 with_reducible refine(HDT.out W3 Ac cc HC3.out).mono ?_
 rintro e W4 ⟨g,rfl,hg,hb,k4⟩
 have K4:Hid (KeepsAll w W4):=K3.out.trA k4
 have K24:Hid (KeepsAll W2 W4):=K23.out.trA k4
 have HT:Hid (Blk W4 g 3 (cellsI (tab (posE (pcesOf L r) ((pcesOf L r).length-1)+1) (timR (pcesOf L r) s)))):=hb
 have D0:=Lib.hid (C0.out.kept K24.out (by simp))
 have DR:=Lib.hid (CR.out.kept K24.out (by simp))
 have DK:=Lib.hid (CK.out.kept K24.out (by simp))
 clear k4 hb l0 l1 l2 l3 l4 C0 CR CK HDT HC3 HCE K23 K3 K2
 have r0:=DR.out.cell 0
 have r1:=DR.out.cell 1
 simp at r0 r1
 go_wp2_with fail
 with_reducible refine(HTR.out _).mono ?_
 rintro e W5 ⟨rfl,k5⟩
 have K5:Hid (KeepsAll w W5):=K4.out.trA k5
 have E0:=Lib.hid (D0.out.kept k5 (by simp))
 have EK:=Lib.hid (DK.out.kept k5 (by simp))
 have ET:=Lib.hid (HT.out.kept k5 (by simp))
 clear k5 r0 r1 D0 DR DK HT K4 K24 HTR hg
 have HFT:=Lib.hid (fun b hb=>HFO.out.tim b hb)
 have HMT:Hid (∀(i:Nat) p,(pcesOf L r)[i+1]? =some p→posE (pcesOf L r) (i+1)=posE (pcesOf L r) i+p.len.toNat∧2≤p.len.toNat∧s.len.toNat≤p.len.toNat∧p.len.toNat≤400):=fun i p hp=>HFO.out.step hp
 have hT2:2≤(pcesOf L r).length:=HFO.out.two
 have hT24:(pcesOf L r).length≤r.stps.length:=by rw[HPL.out];omega
 have hm4:posE (pcesOf L r) ((pcesOf L r).length-1)≤4000:=HFO.out.le_m
 have HPS:Hid (∀(i:Nat) t,i<(pcesOf L r).length→r.stps[i]? =some t→(pcesOf L r)[i]? =some (pceOf L t)):=fun i t hi ht=>by
  have hi2:i<r.stps.length-r.ov.toNat:=by rw[←HPL.out];exact hi
  unfold pcesOf trvS
  rw[List.getElem?_map,List.getElem?_take_of_lt hi2,ht];rfl
 have HMO:Hid (∀i j,i≤j→posE (pcesOf L r) i≤posE (pcesOf L r) j):=fun i j h=>posE_mono _ h
 generalize hps:pcesOf L r=ps at*
 generalize hmm:posE ps (ps.length-1)=m at*
 go_wp2_with fail
 go_loopw [6,7,14,40] (fun a l e i wr=>∃n:Nat,n≤ps.length∧i= .int .i64 (n:Int)∧e= .int .i64 ((posE ps (n-1):Nat):Int)∧OwnL 3 1 RInt wr W5.heap.size W5.heap.size a (tab n (entR ps s))∧
  OwnL 3 1 RInt wr W5.heap.size W5.heap.size l (tab (min n (ps.length-1)) (leaR ps s))∧(∀b,a.ownBlock=some b→l.ownBlock≠some b)∧KeepsAll W5 wr) (fun _ _ _ i _=>ps.length-(intOf i).toNat)
 case atStart=>exact⟨0,Nat.zero_le _,rfl,rfl,OwnL.nil,by rw[Nat.zero_min];exact OwnL.nil,(fun b hb=>by simp[Value.ownBlock]at hb),Keeps.refl _ _⟩
 case round=>
  obtain⟨n,hn,rfl,rfl,ha,hl,hab,hk⟩:=hrel
  obtain⟨Aa,cca,rfl,ha1,ha2⟩:=ha.form
  obtain⟨Al,ccl,rfl,hl1,hl2⟩:=hl.form
  have HA:=Lib.hid ha
  have HLV:=Lib.hid hl
  have HAB:=Lib.hid hab
  have HK:=Lib.hid hk
  have KW:=Lib.hid (K5.out.trA hk)
  have F0:=Lib.hid (E0.out.kept hk (by simp))
  have FK:=Lib.hid (EK.out.kept hk (by simp))
  have FT:=Lib.hid (ET.out.kept hk (by simp))
  have hsz:=hk.size
  have hla:(tab n (entR ps s)).length=n:=tab_len _ _
  have hll:(tab (min n (ps.length-1)) (leaR ps s)).length=min n (ps.length-1):=tab_len _ _
  have HSA:Hid (tab (n+1) (entR ps s)=tab n (entR ps s)++ [entR ps s n]):=tab_succ _ _
  clear ha hl hab hk
  by_cases hlt:n<ps.length
  ·obtain⟨b1,o1,s1,hA1,hb1,hx1,m0,m1⟩:=HR.out.atO KW.out (k:=n) (by omega)
   injection hA1 with hA1
   injection hA1 with hA1 hA2
   subst hA1 hA2
   have hpm:posE ps (n-1)≤m:=by rw[←hmm];exact HMO.out _ _ (by omega)
   have t0:=(FT.out.cell (posE ps (n-1))).trans (cellsI_at (tab_get (by omega)))
   have HEN:Hid (entR ps s n=timR ps s (posE ps (n-1))):=rfl
   have hgl:g<wr.heap.size:=FT.out.lt
   have HX:=Lib.hid hx1
   clear hx1
   rw[←HEN.out]at t0
   generalize hea:entR ps s n=ea at*
   generalize hta:tab n (entR ps s)=ta at*
   generalize htl:tab (min n (ps.length-1)) (leaR ps s)=tl at*
   generalize hpe:posE ps (n-1)=pe at*
   have htl2:tl.length≤24:=by omega
   have HLL:=Lib.hid hll
   clear hll
   go_upto_region 10 with fail
   generalize hW6:World.alloc wr _=W6
   have K6:Hid (KeepsAll wr W6):=by subst hW6;exact(Keeps.refl _ _).alloc _
   have B6:Hid (Blk W6 wr.heap.size 200 #[.int .i64 s1.sec,.int .i64 s1.dir]):=by subst hW6;exact Blk.new _ _ _
   clear hW6 m0 m1
   replace t0:=K6.out.cellA hgl t0
   have hz6:=K6.out.size
   have hp6:wr.heap.size<W6.heap.size:=B6.out.lt
   have hgl6:g<W6.heap.size:=by omega
   generalize hz:wr.heap.size=z at*
   go_upto_region 11 with(at_builtin;go_loud(have KB:KeepsAll wr (W6.alloc (.cells #[.int .i64 ea] 3)):=K6.out.alloc _;refine wpList_append_L tyInt RInt.ok rfl (.tmp 45) (.tmp 50) rfl (HA.out.keepsT RInt.flt KB (by simp)) rfl _ [.int .i64 ea] rfl (Blk.new W6 3 #[.int .i64 ea]) rfl ea (S:=fun _=>False) rfl (fun _ h=>h.elim) (by simp[Value.oneCell']) (by omega) (by omega) (by simp;omega) ?_;intro v9 w9 HO9 HK9 HA9))
   have KWB:Hid (Keeps (fun b=>(Value.slice Aa ta.length cca).ownBlock=some b) wr w9):=((K6.out.alloc (.cells #[.int .i64 ea] 3)).mono (C:=fun b=>(Value.slice Aa ta.length cca).ownBlock=some b) (fun _ _ h=>h.elim)).trans HK9 (fun _ _ h=>h)
   have K9:Hid (KeepsAll W5 w9):=HK.out.trans KWB.out (fun y hy e=>by have:=HA.out.lt e;omega)
   have KW9:Hid (KeepsAll w w9):=K5.out.trA K9.out
   have HL9:Hid (OwnL 3 1 RInt w9 W5.heap.size W5.heap.size (.slice Al tl.length ccl) tl):=HLV.out.keepsT RInt.flt KWB.out (fun b hb e=>HAB.out b e hb)
   have HA9':Hid (OwnL 3 1 RInt w9 W5.heap.size W5.heap.size v9 (tab (n+1) (entR ps s))):=by rw[HSA.out];exact HO9
   have HAB9:Hid (∀b,v9.ownBlock=some b→(Value.slice Al tl.length ccl).ownBlock≠some b):=fun b hb e=>by
    rcases HA9 with h9|h9
    ·exact HAB.out b (by rw[←h9];exact hb) e
    ·rw[h9]at hb
     injection hb with hb
     have:=(HLV.out.lt e).2
     have h6:W6.heap.size<(W6.alloc (.cells #[.int .i64 ea] 3)).heap.size:=by simp
     omega
   have F9:=Lib.hid (E0.out.kept K9.out (by simp))
   have FK9:=Lib.hid (EK.out.kept K9.out (by simp))
   have FT9:=Lib.hid (ET.out.kept K9.out (by simp))
   have B9:Hid (Blk w9 z 200 #[.int .i64 s1.sec,.int .i64 s1.dir]):=(B6.out.alloc _).kept HK9 (fun e=>by have:=(HA.out.lt e).2;omega)
   obtain⟨Av,cv,hv9,-,-⟩:=HO9.form
   have hvl:(ta++ [ea]).length=n+1:=by simp[hla]
   rw[hvl]at hv9
   subst hv9
   have hpce:=HPS.out n s1 hlt HX.out
   have hsl1:=HFO.out.rou.sec_lt HX.out
   have hsa:=HFO.out.rou.sec_at HX.out
   obtain⟨k,hk⟩:=Int.eq_ofNat_of_zero_le hsl1.1
   have hk96:k<L.secs.length:=by omega
   obtain⟨b2,o2,x,rfl,hb2,hx2,c0,c1,c2,c3,c4⟩:=HL.out.secs.atO KW9.out (k:=k) hk96
   have hxs:x=secD L s1.sec:=by
    rw[hk,Int.toNat_natCast]at hsa
    rw[hk]
    exact Option.some.inj (hx2.symm.trans hsa)
   have HPX:Hid (ps[n]? =some (pceOf L s1)∧(pceOf L s1).len=x.len):=⟨hpce,by simp only[pceOf];rw[←hxs]⟩
   rw[hk]at B9
   have q2:=F9.out.cell 2
   have q3:=FK9.out.cell 1
   have b0':=B9.out.cell 0
   simp at q2 q3 b0'
   have hz1:N<w9.heap.size:=F9.out.lt
   have hz2:N+1+1<w9.heap.size:=FK9.out.lt
   have hz3:z<w9.heap.size:=B9.out.lt
   have hz4:g<w9.heap.size:=FT9.out.lt
   have HSL2:=Lib.hid HSL.out
   obtain⟨sl',hsl'⟩:=Int.eq_ofNat_of_zero_le (by have:=HSL.out;omega:0≤sl)
   have hsl40:sl'≤40:=by have:=HSL.out;omega
   have HSN:Hid (s.len.toNat=sl'):=by show _=_;rw[HSL.out.1,hsl'];simp
   rw[hsl']at q3
   have hpe0:pe≤4000:=by omega
   clear t0 hx2 hxs hsa hsl1 hpce HO9 HK9 HA9 c0 c2 c3 c4 KWB HA HLV HAB FT F0 FK
   by_cases h0:n=0
   ·subst h0
    have hpe1:pe=0:=by rw[←hpe];rfl
    subst hpe1
    obtain⟨p1,hp1⟩:∃p1,ps[0+1]? =some p1:=⟨_,List.getElem?_eq_getElem (by omega)⟩
    have hst1:=HMT.out 0 p1 hp1
    rw[HSN.out]at hst1
    have hb:0+sl'≤m:=by
     have h1:=HMO.out (0+1) (ps.length-1) (by omega)
     rw[hmm]at h1
     have h2:posE ps 0=0:=rfl
     omega
    have t0:=(FT9.out.cell sl').trans (cellsI_at (tab_get (by omega)))
    have HLE:Hid (leaR ps s 0=timR ps s sl'):=by
     show _=_
     unfold leaR
     rw[if_pos (by omega),HSN.out]
     show timR ps s (0+sl')=_
     rw[Nat.zero_add]
    rw[←HLE.out]at t0
    have hls:Hid (tab (min (0+1) (ps.length-1)) (leaR ps s)=tl++ [leaR ps s 0]):=by
     show _=_
     rw[←htl,show min (0+1) (ps.length-1)=0+1 by omega,tab_succ,Nat.zero_min]
    have hlt1:((0:Nat):Int)<(ps.length:Int)-1:=by omega
    generalize hlea:leaR ps s 0=le at*
    clear hst1 hp1
    go_wp2_with(at_builtin;go_loud(have KB:KeepsAll w9 (w9.alloc (.cells #[.int .i64 le] 3)):=(Keeps.refl _ _).alloc _;refine wpList_append_L tyInt RInt.ok rfl (.tmp 68) (.tmp 76) rfl (HL9.out.keepsT RInt.flt KB (by simp)) rfl _ [.int .i64 le] rfl (Blk.new w9 3 #[.int .i64 le]) rfl le (S:=fun _=>False) rfl (fun _ h=>h.elim) (by simp[Value.oneCell']) (by omega) (by omega) (by have:=K9.out.size;simp;omega) ?_;intro v8 w8 HO8 HK8 HA8))
    have KX8:Hid (KeepsAll W5 w8):=(K9.out.alloc (.cells #[.int .i64 le] 3)).trans HK8 (fun y hy e=>by have:=HL9.out.lt e;omega)
    have HAF:Hid (OwnL 3 1 RInt w8 W5.heap.size W5.heap.size (.slice Av (0+1) cv) (tab (0+1) (entR ps s))):=(HA9'.out.alloc RInt.ok _).keepsT RInt.flt HK8 (fun b hb e=>HAB9.out b hb e)
    have HDS:Hid (∀b,(Value.slice Av (0+1) cv).ownBlock=some b→v8.ownBlock≠some b):=own_dis HAB9.out HA8 (fun b hb=>by have:=(HA9'.out.lt hb).2;simp;omega)
    exact⟨⟨_,_,_,_,_,_,⟨0+1,by omega,rfl,rfl,HAF.out,by rw[hls.out];exact HO8,HDS.out,KX8.out⟩,rfl,rfl,rfl,rfl,rfl,rfl⟩,by simp[intOf];omega⟩
   ·obtain⟨j,rfl⟩:∃j,n=j+1:=⟨n-1,by omega⟩
    have hstp:=HMT.out j _ HPX.out.1
    rw[HSN.out,HPX.out.2]at hstp
    have hpej:posE ps j=pe:=by rw[←hpe];rfl
    rw[hpej]at hstp
    obtain⟨len,hlen2⟩:=Int.eq_ofNat_of_zero_le (by omega:0≤x.len)
    rw[hlen2,Int.toNat_natCast]at hstp
    rw[hlen2]at c1
    have hpm2:posE ps (j+1)≤m:=by rw[←hmm];exact HMO.out _ _ (by omega)
    have hj0:((0:Int)<((j+1:Nat):Int))=True:=by simp
    have hgt:decide ((0:Int)<((j+1:Nat):Int))=true:=by simp
    generalize hpn:posE ps (j+1)=pn at*
    obtain⟨hs1,hs2,hs3,hs4⟩:=hstp
    have hpn2:(pe:Int)+(len:Int)=(pn:Int):=by omega
    by_cases hl1:j+1<ps.length-1
    ·obtain⟨p1,hp1⟩:∃p1,ps[j+1+1]? =some p1:=⟨_,List.getElem?_eq_getElem (by omega)⟩
     have hst1:=HMT.out (j+1) p1 hp1
     rw[HSN.out,hpn]at hst1
     have hb:pn+sl'≤m:=by
      have h1:=HMO.out (j+1+1) (ps.length-1) (by omega)
      rw[hmm]at h1
      omega
     have t0:=(FT9.out.cell (pn+sl')).trans (cellsI_at (tab_get (by omega)))
     have HLE:Hid (leaR ps s (j+1)=timR ps s (pn+sl')):=by
      show _=_
      unfold leaR
      rw[if_pos (by omega),HSN.out,hpn]
     rw[←HLE.out]at t0
     have hls:Hid (tab (min (j+1+1) (ps.length-1)) (leaR ps s)=tl++ [leaR ps s (j+1)]):=by
      show _=_
      rw[←htl,show min (j+1+1) (ps.length-1)=j+1+1 by omega,tab_succ,show min (j+1) (ps.length-1)=j+1 by omega]
     have hlt1:((j+1:Nat):Int)<(ps.length:Int)-1:=by omega
     have HPN:Hid (posE ps (j+1+1-1)=pn):=hpn
     generalize hlea:leaR ps s (j+1)=le at*
     clear hst1 hp1 hs1 hs2 hs3 hs4 hpej hpn
     go_wp2_with(at_builtin;go_loud(have KB:KeepsAll w9 (w9.alloc (.cells #[.int .i64 le] 3)):=(Keeps.refl _ _).alloc _;refine wpList_append_L tyInt RInt.ok rfl (.tmp 68) (.tmp 76) rfl (HL9.out.keepsT RInt.flt KB (by simp)) rfl _ [.int .i64 le] rfl (Blk.new w9 3 #[.int .i64 le]) rfl le (S:=fun _=>False) rfl (fun _ h=>h.elim) (by simp[Value.oneCell']) (by omega) (by omega) (by have:=K9.out.size;simp;omega) ?_;intro v8 w8 HO8 HK8 HA8))
     have KX8:Hid (KeepsAll W5 w8):=(K9.out.alloc (.cells #[.int .i64 le] 3)).trans HK8 (fun y hy e=>by have:=HL9.out.lt e;omega)
     have HAF:Hid (OwnL 3 1 RInt w8 W5.heap.size W5.heap.size (.slice Av (j+1+1) cv) (tab (j+1+1) (entR ps s))):=(HA9'.out.alloc RInt.ok _).keepsT RInt.flt HK8 (fun b hb e=>HAB9.out b hb e)
     have HDS:Hid (∀b,(Value.slice Av (j+1+1) cv).ownBlock=some b→v8.ownBlock≠some b):=own_dis HAB9.out HA8 (fun b hb=>by have:=(HA9'.out.lt hb).2;simp;omega)
     exact⟨⟨_,_,_,_,_,_,⟨j+1+1,by omega,by go_num,by rw[HPN.out],HAF.out,by rw[hls.out];exact HO8,HDS.out,KX8.out⟩,rfl,rfl,rfl,rfl,rfl,rfl⟩,by simp[intOf];omega⟩
    ·have hls:Hid (tab (min (j+1+1) (ps.length-1)) (leaR ps s)=tl):=by
      show _=_
      rw[←htl,show min (j+1+1) (ps.length-1)=ps.length-1 by omega,show min (j+1) (ps.length-1)=ps.length-1 by omega]
     have hlt1:¬((j+1:Nat):Int)<(ps.length:Int)-1:=by omega
     have HPN:Hid (posE ps (j+1+1-1)=pn):=hpn
     clear hs1 hs2 hs3 hs4 hpej hpn
     go_wp2_with fail
     exact⟨⟨j+1+1,by omega,by go_num,by rw[HPN.out],HA9'.out,by rw[hls.out];exact HL9.out,HAB9.out,K9.out⟩,by simp[intOf];omega⟩
  ·obtain rfl:n=ps.length:=by omega
   have t0:=(FT.out.cell m).trans (cellsI_at (tab_get (by omega)))
   have hgl:g<wr.heap.size:=FT.out.lt
   have HLE:Hid (leaR ps s (ps.length-1)=timR ps s m):=by
    show _=_
    unfold leaR
    rw[if_neg (by omega),hmm]
   have hls:Hid (tab ps.length (leaR ps s)=tab (min ps.length (ps.length-1)) (leaR ps s)++ [timR ps s m]):=by
    show _=_
    rw[←HLE.out,show min ps.length (ps.length-1)=ps.length-1 by omega,←tab_succ,show ps.length-1+1=ps.length by omega]
   have hlz:ps.length≤24:=by omega
   rw[hmm]
   generalize hrn:runR ps s=rn at*
   generalize hle:timR ps s m=le at*
   generalize htl:tab (min ps.length (ps.length-1)) (leaR ps s)=tl at*
   generalize hta:tab ps.length (entR ps s)=ta at*
   have htl2:tl.length≤24:=by omega
   have HLL:=Lib.hid hll
   have HLA:=Lib.hid hla
   clear hll hla HSA F0 FK
   go_wp2_with(first
    |(at_builtin;go_loud(have KB:KeepsAll wr (wr.alloc (.cells #[.int .i64 le] 3)):=(Keeps.refl _ _).alloc _;refine wpList_append_L tyInt RInt.ok rfl (.tmp 79) (.tmp 84) rfl (HLV.out.keepsT RInt.flt KB (by simp)) rfl _ [.int .i64 le] rfl (Blk.new wr 3 #[.int .i64 le]) rfl le (S:=fun _=>False) rfl (fun _ h=>h.elim) (by simp[Value.oneCell']) (by omega) (by omega) (by simp;omega) ?_;intro v8 w8 HO8 HK8 HA8;have K8:KeepsAll W5 w8:=(HK.out.alloc (.cells #[.int .i64 le] 3)).trans HK8 (fun y hy e=>by have:=HLV.out.lt e;omega);have t1:=((ET.out.kept K8 (by simp)).cell m).trans (cellsI_at (tab_get (by omega)))))
    |(go_at_call 453;go_loud(refine(HUP.out _).mono ?_;rintro e w' ⟨rfl,rfl⟩)))
   obtain⟨A8,c8,hv8,-,-⟩:=HO8.form
   subst hv8
   have hw5:=K5.out.size
   have HAF:Hid (OwnL 3 1 RInt w8 W5.heap.size W5.heap.size (.slice Aa ta.length cca) ta):=(HA.out.alloc RInt.ok _).keepsT RInt.flt HK8 (fun b hb e=>HAB.out b hb e)
   have R1:=HAF.out.readT RInt.flt (S:=Fresh w w8) (fun b hb=>⟨Nat.le_trans hw5 (HAF.out.lt hb).1,(HAF.out.lt hb).2⟩)
   have R2:=HO8.readT RInt.flt (S:=Fresh w w8) (fun b hb=>⟨Nat.le_trans hw5 (HO8.lt hb).1,(HO8.lt hb).2⟩)
   rw[←hls]at R2
   refine bodyPost_ret (v:= .tuple #[.slice Aa ta.length cca,.slice A8 (tl++ [le]).length c8,.int .i64 rn,.int .i64 0]) (by simp[results,Tryz.results374,go_sem]) rfl ?_
   rw[hps,hrn,hta]
   rw[hls]at R2⊢
   exact⟨Aa,ta.length,cca,A8,(tl++ [le]).length,c8,rfl,K5.out.trA K8,R1,R2⟩
end
section
open Go.RowKit
theorem mleaving_any (s:Stp) (w:World):Calls Tryz.prog 398 #[.agg (stpC s)] w fun e w'=>e= .returned (.int .i64 (outE s).2)∧KeepsAll w w':=by
 obtain⟨a,d⟩:=s
 unfold stpC outE
 simp only[]
 by_cases g:d=0
 ·subst g
  go_enter Tryz.func398,Tryz.ntmps398
  go_wp2
  go_ret
  exact⟨by simp,(Keeps.refl _ _).alloc _⟩
 ·go_enter Tryz.func398,Tryz.ntmps398
  go_wp2
  go_ret
  exact⟨by simp[],(Keeps.refl _ _).alloc _⟩
theorem mentering_any (s:Stp) (w:World):Calls Tryz.prog 399 #[.agg (stpC s)] w fun e w'=>e= .returned (.int .i64 (inE s).2)∧KeepsAll w w':=by
 obtain⟨a,d⟩:=s
 unfold stpC inE
 simp only[]
 by_cases g:d=0
 ·subst g
  go_enter Tryz.func399,Tryz.ntmps399
  go_wp2
  go_ret
  exact⟨by simp,(Keeps.refl _ _).alloc _⟩
 ·go_enter Tryz.func399,Tryz.ntmps399
  go_wp2
  go_ret
  exact⟨by simp[],(Keeps.refl _ _).alloc _⟩
theorem mlast_any (r:Rou) (A:Option Addr) (c:Nat) (w:World) (h0:0≤r.ov) (h1:r.ov≤100) (h2:r.stps.length≤1000000):
  Calls Tryz.prog 251 #[.agg #[.slice A r.stps.length c,.int .i64 r.ov]] w fun e w'=>e= .returned (.int .i64 (lastR r))∧KeepsAll w w':=by
 unfold lastR
 go_enter Tryz.func251,Tryz.ntmps251
 go_wp2
 go_ret
 exact⟨rfl,(Keeps.refl _ _).alloc _⟩
end
section
open Go.RowKit
def ptJ (ks:List Lnk) (s t:Stp) (j:Nat):Int:=match (ks.take j).find? (fun k=>joinsE k (outE s) (inE t))with|some k=>k.pt|none=> -1
theorem LayOk.ptJ_yes {L:Lay} (h:LayOk L) {s t:Stp} {j:Nat} {k:Lnk} (hk:L.lks[j]? =some k) (hj:joinsE k (outE s) (inE t)=true):ptJ L.lks s t (j+1)=k.pt:=by
 unfold ptJ
 rw[List.take_add_one,hk,Option.toList_some,List.find?_append]
 cases e:(L.lks.take j).find? (fun k=>joinsE k (outE s) (inE t))with
 |none=>simp[hj]
 |some k2=>
  simp only[Option.some_or]
  have h1:=List.find?_some e
  have h2:=List.mem_of_find?_eq_some e
  obtain⟨i,hi⟩:=List.getElem?_of_mem (List.mem_of_mem_take h2)
  have e1:=h.find hi h1
  have e2:=h.find hk hj
  rw[e1]at e2
  injection e2 with e2
  rw[e2]
theorem ptJ_no {ks:List Lnk} {s t:Stp} {j:Nat} {k:Lnk} (hk:ks[j]? =some k) (hj:joinsE k (outE s) (inE t)=false):ptJ ks s t (j+1)=ptJ ks s t j:=by
 unfold ptJ
 rw[List.take_add_one,hk,Option.toList_some,List.find?_append]
 simp[hj]
def mptL (ks:List Lnk) (l:List Stp):List Int:=match l with| []=> []|_=> -1::ptsR ks l
theorem mptL_len (ks:List Lnk) (l:List Stp):(mptL ks l).length=l.length:=by
 cases l with
 |nil=>rfl
 |cons s r=>unfold mptL;simp only[List.length_cons,ptsR_len];omega
theorem mptL_at {ks:List Lnk} {l:List Stp} {i:Nat} {s t:Stp} (h1:l[i]? =some s) (h2:l[i+1]? =some t):(mptL ks l)[i+1]? =some (ptJ ks s t ks.length):=by
 cases l with
 |nil=>simp at h1
 |cons a r=>
  unfold mptL ptJ
  simp only[List.getElem?_cons_succ,List.take_length]
  rw[ptsR_at ks (a::r) i s t h1 h2]
  rfl
def mptW (ks:List Lnk) (l:List Stp) (n:Nat):List Int:=(mptL ks l).take n++List.replicate (l.length-n) 0
theorem mptW_len {ks:List Lnk} {l:List Stp} {n:Nat} (h:n≤l.length):(mptW ks l n).length=l.length:=by
 unfold mptW
 rw[List.length_append,List.length_take,mptL_len,List.length_replicate]
 omega
theorem mptW_next {ks:List Lnk} {l:List Stp} {n:Nat} {x:Int} (h:(mptL ks l)[n]? =some x):(mptW ks l n).set n x=mptW ks l (n+1):=by
 have hn:n<l.length:=by rw[←mptL_len ks l];exact getElem?_lt h
 unfold mptW
 have hl:((mptL ks l).take n).length=n:=by rw[List.length_take,mptL_len];omega
 rw[List.set_append_right _ _ (by omega),hl,Nat.sub_self,show l.length-n=(l.length-(n+1))+1 from by omega,List.replicate_succ,List.set_cons_zero,List.take_add_one,h,Option.toList_some,List.append_assoc]
 rfl
end
end Go.Proofs.YtcbcegdidlefiaaGreat
