/- Contract of Passing (reference, layer 8) at a fit: the passing times. Conditions: as the theorem says. -/
import Derived.Test.YtcbcegdidlefiaaGreatK16
import Derived.Test.YtcbcegdidlefiaaGreatK12
import Derived.Lib.MinMax
namespace Go.Proofs.YtcbcegdidlefiaaGreat
open Go.RowKit
set_option maxRecDepth 100000 in
set_option maxHeartbeats 8000000 in
theorem passing_any (L:Lay) (v:LV) (r:Rou) (s:Stk) (A:Option Addr) (c:Nat) (w:World) (h:RLay w (Old w) v L) (hr:RStps w (Old w) [.slice A r.stps.length c] r.stps) (hlen:LayLen L) (hfit:fitErr L r s=0):
  Calls Tryz.prog 96 #[.agg (v.cs L),.agg #[.slice A r.stps.length c,.int .i64 r.ov],.agg (stkC s)] w fun e w'=>∃A1 n1 c1 A2 n2 c2,e= .returned (.tuple #[.slice A1 n1 c1,.slice A2 n2 c2,.int .i64 (runR (pcesOf L r) s),.int .i64 0])∧KeepsAll w w'∧
   RInts w' (Fresh w w') [.slice A1 n1 c1] (tab (pcesOf L r).length (entR (pcesOf L r) s))∧RInts w' (Fresh w w') [.slice A2 n2 c2] (tab (pcesOf L r).length (leaR (pcesOf L r) s)):=by
 have HF:=Lib.hid (fun W k1 k2=>rfits_any L v r s A c W k1 k2 hlen)
 have HCE:=Lib.hid (fun W k1 k2=>rrcells_any L v r A c W k1 k2 hlen)
 have HFO:=Lib.hid (fitErr_ok hfit)
 have hcel:celErr L r=0:=by
  unfold fitErr at hfit
  split at hfit
  ·rename_i g;exact absurd hfit g
  ·rename_i g;simpa using g
 rw[hfit]at HF
 rw[hcel]at HCE
 have HL:=Lib.hid h
 have HR:=Lib.hid hr
 have hc:=hr.caps
 have hc3:=h.secs.caps
 clear h hr hfit hcel
 have g41:=HFO.out.rou.len
 have g42:=HFO.out.rou.ov2
 have g43:=HFO.out.rou.ov0
 have g44:=HFO.out.rou.two
 have hL1:=HFO.out.rou.lay.secs
 obtain⟨b0,o0,x0,hA,-,hx0,-,-⟩:=HR.out.at_ (k:=0) (by omega)
 subst hA
 have HPL:Hid ((pcesOf L r).length=r.stps.length-r.ov.toNat):=by show _=_;unfold pcesOf trvS;simp
 have HDT:=Lib.hid (fun(W:World) A' u k=>RTimesD_any (celsRt L r) A' u (fstC (pcesOf L r)) (posE (pcesOf L r) ((pcesOf L r).length-1)) s W k HFO.out.length HFO.out.m2 HFO.out.cel HFO.out.stk HFO.out.len)
 have HUP:=Lib.hid (fun W=>RCeil_any (timR (pcesOf L r) s (posE (pcesOf L r) ((pcesOf L r).length-1))) 1000 (HFO.out.tim _ (Nat.le_refl _)).1 (by have:=(HFO.out.tim _ (Nat.le_refl _)).2;have:=HFO.out.le_m;omega) (by omega) (by omega) W)
 have HRUN:Hid (cdiv (timR (pcesOf L r) s (posE (pcesOf L r) ((pcesOf L r).length-1))) 1000=runR (pcesOf L r) s):=rfl
 rw[HRUN.out]at HUP
 obtain⟨A1,A2,A3,A4,ca1,ca2,ca3,ca4⟩:=v
 simp only[]at hc3
 unfold LV.cs at HF HCE⊢
 simp only[]at HF HCE⊢
 obtain⟨sn,sl,sv,sa,sb⟩:=s
 generalize hst:(⟨sn,sl,sv,sa,sb⟩:Stk)=s at*
 have ES:Hid (stkC s= #[.string (mkS sn),.int .i64 sl,.int .i64 sv,.int .i64 sa,.int .i64 sb]):=by subst hst;rfl
 have HSL:Hid (s.len=sl∧1≤sl∧sl≤40):=by
  have:=HFO.out.stk
  simp[stkOk]at this
  subst hst
  exact⟨rfl,this.1,this.2.1⟩
 rw[ES.out]at HF HDT⊢
 clear hst ES
 go_enter Tryz.func96,Tryz.ntmps96
 go_upto_region 1 with fail
 generalize hW1:World.alloc w _=W1
 have K1:Hid (KeepsAll w W1):=by subst hW1;exact(Keeps.refl _ _).alloc _
 have B1:Hid (Blk W1 w.heap.size 27 #[.slice A1 L.sts.length ca1,.slice A2 L.pts.length ca2,.slice A3 L.secs.length ca3,.slice A4 L.lks.length ca4]):=by subst hW1;exact Blk.new _ _ _
 have hz1:W1.heap.size=w.heap.size+1:=by subst hW1;simp
 clear hW1
 generalize hN:w.heap.size=N at*
 generalize hW:World.alloc (World.alloc W1 _) _=W
 have K0:Hid (KeepsAll w W):=by subst hW;exact(K1.out.alloc _).alloc _
 have B0:Hid (Blk W N 27 #[.slice A1 L.sts.length ca1,.slice A2 L.pts.length ca2,.slice A3 L.secs.length ca3,.slice A4 L.lks.length ca4]):=by subst hW;exact(B1.out.alloc _).alloc _
 have BR:Hid (Blk W (N+1) 95 #[.slice (some ⟨b0,o0,none⟩) r.stps.length c,.int .i64 r.ov]):=by subst hW;exact(Blk.new' _ _ _ hz1.symm).alloc _
 have BK:Hid (Blk W (N+1+1) 103 #[.string (mkS sn),.int .i64 sl,.int .i64 sv,.int .i64 sa,.int .i64 sb]):=by subst hW;exact Blk.new' _ _ _ (by simp[hz1])
 clear hW K1 B1 hz1
 have l0:=B0.out.cell 0
 have l1:=B0.out.cell 1
 have l2:=B0.out.cell 2
 have l3:=B0.out.cell 3
 have r0:=BR.out.cell 0
 have r1:=BR.out.cell 1
 have s0:=BK.out.cell 0
 have s1:=BK.out.cell 1
 have s2:=BK.out.cell 2
 have s3:=BK.out.cell 3
 have s4:=BK.out.cell 4
 simp at l0 l1 l2 l3 r0 r1 s0 s1 s2 s3 s4
 have hzl:=B0.out.lt
 have hzr:=BR.out.lt
 have hzk:=BK.out.lt
 go_upto_region 4 with(go_at_call 179;with_reducible refine(HF.out W (HL.out.kept K0.out) (K0.out.rdA (RSlice.ok RStp.ok) HR.out)).mono ?_;rintro e W2 ⟨rfl,k2⟩)
 have K2:Hid (KeepsAll w W2):=K0.out.trA k2
 have C0:=Lib.hid (B0.out.kept k2 (by simp))
 have CR:=Lib.hid (BR.out.kept k2 (by simp))
 have CK:=Lib.hid (BK.out.kept k2 (by simp))
 clear k2 B0 BR BK K0 HF l0 l1 l2 l3 r0 r1 s0 s1 s2 s3 s4 hzl hzr hzk
 have l0:=C0.out.cell 0
 have l1:=C0.out.cell 1
 have l2:=C0.out.cell 2
 have l3:=C0.out.cell 3
 have r0:=CR.out.cell 0
 have r1:=CR.out.cell 1
 simp at l0 l1 l2 l3 r0 r1
 have hzl:=C0.out.lt
 have hzr:=CR.out.lt
 go_upto_region 5 with(go_at_call 181;with_reducible refine(HCE.out W2 (HL.out.kept K2.out) (K2.out.rdA (RSlice.ok RStp.ok) HR.out)).mono ?_;rintro e W3 ⟨vs,f,rfl,k3,hok⟩;obtain⟨rfl,Ac,cc,rfl,hcels⟩:=hok trivial)
 have K3:Hid (KeepsAll w W3):=K2.out.trA k3
 have D0:=Lib.hid (C0.out.kept k3 (by simp))
 have DR:=Lib.hid (CR.out.kept k3 (by simp))
 have DK:=Lib.hid (CK.out.kept k3 (by simp))
 have HC3:Hid (RCels W3 (Old W3) [.slice Ac (celsRt L r).length cc] (celsRt L r)):=(RSlice.ok RCel.ok).mono hcels (fun b hb=>hb.2) (fun _ _=>rfl)
 clear k3 hcels HCE C0 CR CK l0 l1 l2 l3 r0 r1 hzl hzr K2 hok
 have s0:=DK.out.cell 0
 have s1:=DK.out.cell 1
 have s2:=DK.out.cell 2
 have s3:=DK.out.cell 3
 have s4:=DK.out.cell 4
 simp at s0 s1 s2 s3 s4
 have hzk:=DK.out.lt
 go_upto_region 6 with(go_at_call 182;with_reducible refine(HDT.out W3 Ac cc HC3.out).mono ?_;rintro e W4 ⟨g,rfl,hg,hb,k4⟩)
 have K4:Hid (KeepsAll w W4):=K3.out.trA k4
 have HT:Hid (Blk W4 g 3 (cellsI (tab (posE (pcesOf L r) ((pcesOf L r).length-1)+1) (timR (pcesOf L r) s)))):=hb
 have E0:=Lib.hid (D0.out.kept k4 (by simp))
 have ER:=Lib.hid (DR.out.kept k4 (by simp))
 have EK:=Lib.hid (DK.out.kept k4 (by simp))
 clear k4 hb s0 s1 s2 s3 s4 D0 DR DK HDT HC3 K3 hzk hg
 have HFT:=Lib.hid (fun b hb=>HFO.out.tim b hb)
 have HMT:Hid (∀(i:Nat) p,(pcesOf L r)[i+1]? =some p→posE (pcesOf L r) (i+1)=posE (pcesOf L r) i+p.len.toNat∧2≤p.len.toNat∧s.len.toNat≤p.len.toNat∧p.len.toNat≤400):=fun i p hp=>HFO.out.step hp
 have hT2:2≤(pcesOf L r).length:=HFO.out.two
 obtain⟨ov,hov⟩:=Int.eq_ofNat_of_zero_le g43
 have hTL:(pcesOf L r).length=r.stps.length-ov:=by rw[HPL.out,hov,Int.toNat_natCast]
 have hT24:(pcesOf L r).length≤24:=by omega
 have hov2:ov≤2:=by omega
 have hm4:posE (pcesOf L r) ((pcesOf L r).length-1)≤4000:=HFO.out.le_m
 have HPS:Hid (∀(i:Nat) t,i<(pcesOf L r).length→r.stps[i]? =some t→(pcesOf L r)[i]? =some (pceOf L t)):=fun i t hi ht=>by
  unfold pcesOf trvS
  rw[List.getElem?_map,List.getElem?_take_of_lt (by rw[←HPL.out];exact hi),ht];rfl
 have HMO:Hid (∀i j,i≤j→posE (pcesOf L r) i≤posE (pcesOf L r) j):=fun i j h=>posE_mono _ h
 have HLEN:Hid (∀n:Nat,(n:Int)<(r.stps.length:Int)-r.ov↔n<(pcesOf L r).length):=fun n=>by rw[hTL,hov];omega
 have hTR:(pcesOf L r).length≤r.stps.length:=by omega
 clear hTL
 rw[hov]
 generalize hps:pcesOf L r=ps at*
 generalize hmm:posE ps (ps.length-1)=m at*
 rw[hov]at HLEN ER
 go_wp2_with fail
 go_loopw [6,7,16,17] (fun e l a i wr=>∃n:Nat,n≤ps.length∧i= .int .i64 (n:Int)∧a= .int .i64 ((posE ps (n-1):Nat):Int)∧OwnL 3 1 RInt wr W4.heap.size W4.heap.size e (tab n (entR ps s))∧
  OwnL 3 1 RInt wr W4.heap.size W4.heap.size l (tab n (leaR ps s))∧(∀b,e.ownBlock=some b→l.ownBlock≠some b)∧KeepsAll W4 wr) (fun _ _ _ i _=>ps.length-(intOf i).toNat)
 case atStart=>exact⟨0,Nat.zero_le _,rfl,rfl,OwnL.nil,OwnL.nil,(fun b hb=>by simp[Value.ownBlock]at hb),Keeps.refl _ _⟩
 case round=>
  obtain⟨n,hn,rfl,rfl,ha,hl,hab,hk⟩:=hrel
  obtain⟨Aa,cca,rfl,ha1,ha2⟩:=ha.form
  obtain⟨Al,ccl,rfl,hl1,hl2⟩:=hl.form
  have HA:=Lib.hid ha
  have HLV:=Lib.hid hl
  have HAB:=Lib.hid hab
  have HK:=Lib.hid hk
  have KW:=Lib.hid (K4.out.trA hk)
  have F0:=Lib.hid (E0.out.kept hk (by simp))
  have FR:=Lib.hid (ER.out.kept hk (by simp))
  have FK:=Lib.hid (EK.out.kept hk (by simp))
  have FT:=Lib.hid (HT.out.kept hk (by simp))
  have hsz:=hk.size
  have hla:(tab n (entR ps s)).length=n:=tab_len _ _
  have hll:(tab n (leaR ps s)).length=n:=tab_len _ _
  have HSA:Hid (tab (n+1) (entR ps s)=tab n (entR ps s)++ [entR ps s n]):=tab_succ _ _
  have HSLL:Hid (tab (n+1) (leaR ps s)=tab n (leaR ps s)++ [leaR ps s n]):=tab_succ _ _
  clear ha hl hab hk
  have r0:=FR.out.cell 0
  have r1:=FR.out.cell 1
  simp at r0 r1
  have hzr:=FR.out.lt
  by_cases hlt:n<ps.length
  ·have hlt1:(n:Int)<(r.stps.length:Int)-(ov:Int):=(HLEN.out n).2 hlt
   have hlt2:decide ((n:Int)<(r.stps.length:Int)-(ov:Int))=true:=by simpa using hlt1
   obtain⟨b1,o1,s1,hA1,hb1,hx1,m0,m1⟩:=HR.out.atO KW.out (k:=n) (by omega)
   injection hA1 with hA1
   injection hA1 with hA1 hA2
   subst hA1 hA2
   have hpm:posE ps (n-1)≤m:=by rw[←hmm];exact HMO.out _ _ (by omega)
   have t0:=(FT.out.cell (posE ps (n-1))).trans (cellsI_at (tab_get (by omega)))
   have HEN:Hid (entR ps s n=timR ps s (posE ps (n-1))):=rfl
   have hgl:g<wr.heap.size:=FT.out.lt
   have HX:=Lib.hid hx1
   clear hx1
   rw[←HEN.out]at t0
   generalize hea:entR ps s n=ea at*
   generalize hta:tab n (entR ps s)=ta at*
   generalize htl:tab n (leaR ps s)=tl at*
   generalize hpe:posE ps (n-1)=pe at*
   have htl2:tl.length≤24:=by omega
   have hta2:ta.length≤24:=by omega
   have HLL:=Lib.hid hll
   have HLA:=Lib.hid hla
   clear hll hla
   have HM0:=Lib.hid m0
   clear m0 m1
   go_upto_region 11 with(at_builtin;go_loud(have KB:KeepsAll wr (wr.alloc (.cells #[.int .i64 ea] 3)):=(Keeps.refl _ _).alloc _;refine wpList_append_L tyInt RInt.ok rfl (.tmp 49) (.tmp 54) rfl (HA.out.keepsT RInt.flt KB (by simp)) rfl _ [.int .i64 ea] rfl (Blk.new wr 3 #[.int .i64 ea]) rfl ea (S:=fun _=>False) rfl (fun _ h=>h.elim) (by simp[Value.oneCell']) (by omega) (by omega) (by simp;omega) ?_;intro v9 w9 HO9 HK9 HA9))
   have KWB:Hid (Keeps (fun b=>(Value.slice Aa ta.length cca).ownBlock=some b) wr w9):=((((Keeps.refl _ _:KeepsAll wr wr)).alloc (.cells #[.int .i64 ea] 3)).mono (C:=fun b=>(Value.slice Aa ta.length cca).ownBlock=some b) (fun _ _ h=>h.elim)).trans HK9 (fun _ _ h=>h)
   have K9:Hid (KeepsAll W4 w9):=HK.out.trans KWB.out (fun y hy e=>by have:=HA.out.lt e;omega)
   have KW9:Hid (KeepsAll w w9):=K4.out.trA K9.out
   have HL9:Hid (OwnL 3 1 RInt w9 W4.heap.size W4.heap.size (.slice Al tl.length ccl) tl):=HLV.out.keepsT RInt.flt KWB.out (fun b hb e=>HAB.out b e hb)
   have HA9':Hid (OwnL 3 1 RInt w9 W4.heap.size W4.heap.size v9 (tab (n+1) (entR ps s))):=by rw[HSA.out];exact HO9
   have HAB9:Hid (∀b,v9.ownBlock=some b→(Value.slice Al tl.length ccl).ownBlock≠some b):=fun b hb e=>by
    rcases HA9 with h9|h9
    ·exact HAB.out b (by rw[←h9];exact hb) e
    ·rw[h9]at hb
     injection hb with hb
     have:=(HLV.out.lt e).2
     have h6:wr.heap.size≤(wr.alloc (.cells #[.int .i64 ea] 3)).heap.size:=by simp
     omega
   have F9:=Lib.hid (E0.out.kept K9.out (by simp))
   have FR9:=Lib.hid (ER.out.kept K9.out (by simp))
   have FK9:=Lib.hid (EK.out.kept K9.out (by simp))
   have FT9:=Lib.hid (HT.out.kept K9.out (by simp))
   obtain⟨Av,cv,hv9,-,-⟩:=HO9.form
   have hvl:(ta++ [ea]).length=n+1:=by rw[List.length_append,HLA.out];rfl
   rw[hvl]at hv9
   subst hv9
   clear HO9 HK9 HA9 KWB HA HLV HAB F0 FR FK FT t0 r0 r1 hzr
   have hpce:=HPS.out n s1 hlt HX.out
   have hsl1:=HFO.out.rou.sec_lt HX.out
   have hsa:=HFO.out.rou.sec_at HX.out
   have hso:=HFO.out.rou.sec_ok HX.out
   obtain⟨k,hk⟩:=Int.eq_ofNat_of_zero_le hsl1.1
   have hk96:k<L.secs.length:=by omega
   obtain⟨b2,o2,x,rfl,hb2,hx2,c0,c1,c2,c3,c4⟩:=HL.out.secs.atO KW9.out (k:=k) hk96
   have hxs:x=secD L s1.sec:=by
    rw[hk,Int.toNat_natCast]at hsa
    rw[hk]
    exact Option.some.inj (hx2.symm.trans hsa)
   have HM9:=Lib.hid ((KW9.out.cellA (p:=⟨b0,o0+n*2,none⟩) (by
    obtain⟨b',o',x',he,hb',-,-,-⟩:=HR.out.at_ (k:=0) (by omega)
    injection he with he;injection he with he1 he2
    subst he1
    exact hb') (by
    obtain⟨b',o',x',he,hb',hx',c',-⟩:=HR.out.at_ (k:=n) (by omega)
    injection he with he;injection he with he1 he2
    subst he1 he2
    rw[HX.out]at hx'
    obtain rfl:=Option.some.inj hx'
    exact c')))
   have hxl:(pceOf L s1).len=x.len:=by simp only[pceOf];rw[←hxs]
   obtain⟨len,hlen2⟩:=Int.eq_ofNat_of_zero_le (by rw[hxs];omega:0≤x.len)
   rw[hlen2]at c1
   have hstep:n=0∧posE ps n=0∧pe=0∨0<n∧posE ps n=pe+len∧len≤400:=by
    cases n with
    |zero=>exact .inl ⟨rfl,rfl,by rw[←hpe];rfl⟩
    |succ j=>
     have:=HMT.out j _ hpce
     rw[hxl,hlen2,Int.toNat_natCast,show posE ps j=pe from hpe]at this
     exact .inr ⟨by omega,this.1,this.2.2.2⟩
   have hpn:posE ps n≤m:=by rw[←hmm];exact HMO.out _ _ (by omega)
   have HPN:Hid (posE ps (n+1-1)=posE ps n):=rfl
   generalize hpnn:posE ps n=pn at*
   have hm9:=HM9.out
   rw[hk]at hm9
   have q2:=F9.out.cell 2
   have q4:=FR9.out.cell 0
   simp at q2 q4
   (try rw[show decide ((n:Int)<(r.stps.length:Int)-(ov:Int))=true from hlt2])
   go_upto_if 57 with fail
   go_cut [16]from 57 to 84 (fun s wx=>s= .int .i64 (pn:Int)∧KeepsAll w9 wx)
   case first=>
    rcases hstep with⟨h1,h2,h3⟩|⟨h1,h2,h3⟩
    ·have e0:decide ((0:Int)<(n:Int))=false:=by rw[decide_eq_false_iff_not];omega
     have e1:¬(0:Int)<(n:Int):=by omega
     have HE:Hid (pn=pe):=by show _=_;rw[h2,h3]
     clear h1 h2 h3
     go_wp2_with fail
     go_meet
     exact⟨by rw[HE.out],Keeps.refl _ _⟩
    ·have e0:decide ((0:Int)<(n:Int))=true:=by rw[decide_eq_true_eq];omega
     have e1:(0:Int)<(n:Int):=by omega
     have HE:Hid ((pn:Int)=(pe:Int)+(len:Int)):=by show _=_;omega
     clear h2
     go_upto_region 12 with fail
     have y0:=Ext.cell q2
     have y1:=Ext.cell q4
     have y2:=Ext.cell hm9
     have y3:=Ext.cell c1
     refine wp_region_ext (by kernel_rfl) (by kernel_rfl) ?_
     repeat (go_big_quiet_step (fail))
     refine wpQuiet_nil ?_
     rintro _ ⟨X,rfl⟩
     have KX:=X.keeps
     generalize X.val=W7 at*
     clear y0 y1 y2 y3
     go_wp2_with fail
     go_meet
     exact⟨by rw[HE.out],KX⟩
   case rest=>
    obtain⟨rfl,kx⟩:=hcut
    have KC:Hid (KeepsAll W4 wc):=K9.out.trA kx
    have HLC:=Lib.hid (HL9.out.keepsT RInt.flt kx (by simp))
    have HAC:=Lib.hid (HA9'.out.keepsT RInt.flt kx (by simp))
    have GK:=Lib.hid (FK9.out.kept kx (by simp))
    have GT:=Lib.hid (FT9.out.kept kx (by simp))
    clear kx F9 FR9 FK9 FT9 HL9 HA9' K9 KW9 q2 q4 hm9 c0 c1 c2 c3 c4 HM9
    have q3:=GK.out.cell 1
    simp at q3
    have hzk:=GK.out.lt
    have hzg:=GT.out.lt
    have hszc:=KC.out.size
    obtain⟨hs1,hs2,hs3⟩:=HSL.out
    obtain⟨sl',hsl'⟩:=Int.eq_ofNat_of_zero_le (by omega:0≤sl)
    have HSN:Hid (s.len.toNat=sl'):=by show _=_;rw[hs1,hsl'];simp
    rw[hsl']at q3
    have hsl40:sl'≤40:=by omega
    obtain⟨q,hq⟩:∃q:Nat,q=min (pn+sl') m:=⟨_,rfl⟩
    have hqm:q≤m:=by omega
    have hmin:min ((pn:Int)+(sl':Int)) (m:Int)=(q:Int):=by omega
    have HLE:Hid (leaR ps s n=timR ps s q):=by
     show _=_
     unfold leaR
     rw[hpnn,HSN.out]
     split
     ·rename_i g1
      have h1:=HMT.out n _ (List.getElem?_eq_getElem g1)
      have h2:=HMO.out (n+1) (ps.length-1) (by omega)
      rw[hmm]at h2
      rw[hpnn,HSN.out]at h1
      congr 1
      omega
     ·rename_i g1
      have e:n=ps.length-1:=by omega
      have:pn=m:=by rw[←hpnn,←hmm,e]
      congr 1
      omega
    have t0:=(GT.out.cell q).trans (cellsI_at (tab_get (by omega)))
    rw[←HLE.out]at t0
    generalize hle:leaR ps s n=le at*
    clear hs1 hs2 hs3 hq
    go_upto_region 9 with(at_builtin;go_loud(have KB:KeepsAll wc (wc.alloc (.cells #[.int .i64 le] 3)):=(Keeps.refl _ _).alloc _;refine wpList_append_L tyInt RInt.ok rfl (.tmp 71) (.tmp 83) rfl (HLC.out.keepsT RInt.flt KB (by simp)) rfl _ [.int .i64 le] rfl (Blk.new wc 3 #[.int .i64 le]) rfl le (S:=fun _=>False) rfl (fun _ h=>h.elim) (by simp[Value.oneCell']) (by omega) (by omega) (by simp;omega) ?_;intro v8 w8 HO8 HK8 HA8))
    have KX8:Hid (KeepsAll W4 w8):=(KC.out.alloc (.cells #[.int .i64 le] 3)).trans HK8 (fun y hy e=>by have:=HLC.out.lt e;omega)
    have HAF:Hid (OwnL 3 1 RInt w8 W4.heap.size W4.heap.size (.slice Av (n+1) cv) (tab (n+1) (entR ps s))):=(HAC.out.alloc RInt.ok _).keepsT RInt.flt HK8 (fun b hb e=>HAB9.out b hb e)
    have HDS:Hid (∀b,(Value.slice Av (n+1) cv).ownBlock=some b→v8.ownBlock≠some b):=own_dis HAB9.out HA8 (fun b hb=>by have:=(HAC.out.lt hb).2;simp;omega)
    have HLF:Hid (OwnL 3 1 RInt w8 W4.heap.size W4.heap.size v8 (tab (n+1) (leaR ps s))):=by rw[HSLL.out];exact HO8
    go_wp2_with fail
    exact⟨⟨_,_,_,_,⟨n+1,by omega,rfl,rfl,HAF.out,HLF.out,HDS.out,KX8.out⟩,rfl,rfl,by rw[HPN.out],by go_num⟩,by simp[intOf];omega⟩
  ·obtain rfl:n=ps.length:=by omega
   have hlt1:¬((ps.length:Nat):Int)<(r.stps.length:Int)-(ov:Int):=fun e=>by have:=(HLEN.out ps.length).1 e;omega
   have hlt2:decide (((ps.length:Nat):Int)<(r.stps.length:Int)-(ov:Int))=false:=by simpa using hlt1
   have t0:=(FT.out.cell m).trans (cellsI_at (tab_get (by omega)))
   have hgl:g<wr.heap.size:=FT.out.lt
   generalize hrn:runR ps s=rn at*
   generalize hle:timR ps s m=le at*
   generalize htl:tab ps.length (leaR ps s)=tl at*
   generalize hta:tab ps.length (entR ps s)=ta at*
   go_wp2_with(go_at_call 183;go_loud(refine(HUP.out _).mono ?_;rintro e w' ⟨rfl,rfl⟩))
   have hw5:=K4.out.size
   have R1:=HA.out.readT RInt.flt (S:=Fresh w wr) (fun b hb=>⟨Nat.le_trans hw5 (HA.out.lt hb).1,(HA.out.lt hb).2⟩)
   have R2:=HLV.out.readT RInt.flt (S:=Fresh w wr) (fun b hb=>⟨Nat.le_trans hw5 (HLV.out.lt hb).1,(HLV.out.lt hb).2⟩)
   have hla2:ta.length=ps.length:=by rw[←hta,tab_len]
   have hll2:tl.length=ps.length:=by rw[←htl,tab_len]
   refine bodyPost_ret (v:= .tuple #[.slice Aa ta.length cca,.slice Al tl.length ccl,.int .i64 rn,.int .i64 0]) (by simp[results,Tryz.results96,go_sem,hla2,hll2]) rfl ?_
   rw[hps,hrn,hta,htl]
   exact⟨Aa,ta.length,cca,Al,tl.length,ccl,rfl,KW.out,R1,R2⟩
end Go.Proofs.YtcbcegdidlefiaaGreat
