/- Duties in memory; contract of stages (operate, program). Conditions: as each theorem says. Contract of duties (operate, program): the duties of a mission, and its first error. Conditions: as the theorem says. -/
import Derived.Test.YtcbcegdidlefiaaGreatK21
import Derived.Deep.CutBlock
namespace Go.Proofs.YtcbcegdidlefiaaGreat
section
open Go.RowKit
structure Dty where
 rt:Nat
 stk:Nat
 dep:Int
 dw:Int
 fst:Nat
 run:Int
 deriving Inhabited
def RDty (bC oC:Nat):Rd Dty:=fun _ _ cs x=>cs=(dtyC bC oC x.rt x.stk x.dep x.dw x.fst x.run).toList
theorem RDty.ok (bC oC:Nat):Rd.Ok (RDty bC oC):=⟨fun h _ _=>h⟩
theorem tyDty:ElemTy Tryz.prog 150 153 7 56:= .mk' Tryz.underlying150 (z:= .agg #[.pointer none,.int .i64 0,.int .i64 0,.int .i64 0,.int .i64 0,.int .i64 0,.int .i64 0]) (by kernel_rfl) rfl (by omega)
def dutD (m:Mis) (i:Nat):Dut:=m.dts.getD i ⟨0,0,0⟩
def fstN (c:Cas) (m:Mis) (i:Nat):Nat:=((m.dts.take i).map fun d=>lastC c d.rt).sum
def dtyAt (c:Cas) (m:Mis) (i:Nat):Dty:=⟨(dutD m i).rt.toNat,m.stk.toNat,(dutD m i).dep,(dutD m i).dw,fstN c m i,(fullC c (dutD m i).rt m.stk).run⟩
theorem dutD_at {m:Mis} {i:Nat} (h:i<m.dts.length):m.dts[i]? =some (dutD m i):=by
 unfold dutD;rw[List.getD_eq_getElem?_getD,List.getElem?_eq_getElem h];rfl
theorem fstN_succ (c:Cas) {m:Mis} {i:Nat} (h:i<m.dts.length):fstN c m (i+1)=fstN c m i+lastC c (dutD m i).rt:=by
 unfold fstN
 rw[List.take_add_one,dutD_at h]
 simp
set_option maxRecDepth 100000 in
set_option maxHeartbeats 4000000 in
theorem stages_any (w:World) (g n cc bC oc i q fst lst:Nat) (dep dw run:Int) (hn:n≤1000) (_hcc:n+1≤cc∧cc≤9223372036854775807) (hf:fst≤100000) (hl:lst≤100000)
  (d0:w.cell? ⟨g,n*7,none⟩=some (.pointer (some ⟨bC,oc,none⟩))) (d1:w.cell? ⟨g,n*7+1,none⟩=some (.int .i64 i)) (d2:w.cell? ⟨g,n*7+2,none⟩=some (.int .i64 q)) (d3:w.cell? ⟨g,n*7+3,none⟩=some (.int .i64 dep))
  (d4:w.cell? ⟨g,n*7+4,none⟩=some (.int .i64 dw)) (d5:w.cell? ⟨g,n*7+5,none⟩=some (.int .i64 fst)) (d6:w.cell? ⟨g,n*7+6,none⟩=some (.int .i64 run)) (hc2:w.cell? ⟨bC,oc+2,none⟩=some (.int .i64 lst)):
  Calls Tryz.prog 197 #[.slice (some ⟨g,0,none⟩) (n+1) cc] w fun e w'=>e= .returned (.int .i64 ((fst:Int)+lst+1))∧KeepsAll w w':=by
 have hzg:=World.block_lt_of_cell? w _ d0
 have hzc:=World.block_lt_of_cell? w _ hc2
 simp only[]at hzg hzc
 go_enter Tryz.func197,Tryz.ntmps197
 go_upto_region 2 with fail
 generalize hW:World.alloc w _=W
 have K0:Hid (KeepsAll w W):=by subst hW;exact(Keeps.refl _ _).alloc _
 have BD:Hid (Blk W w.heap.size 153 #[.pointer (some ⟨bC,oc,none⟩),.int .i64 i,.int .i64 q,.int .i64 dep,.int .i64 dw,.int .i64 fst,.int .i64 run]):=by subst hW;exact Blk.new _ _ _
 have e0:=BD.out.cell 0
 have e5:=BD.out.cell 5
 simp at e0 e5
 replace hc2:=K0.out.cellA hzc hc2
 have y0:=Ext.cell e0
 have y1:=Ext.cell e5
 have y2:=Ext.cell hc2
 go_quiet (fail)
 go_wp2
 go_ret
 exact⟨rfl,K0.out.drewN _⟩
end
section
open Go.RowKit
def preD (m:Mis) (j:Nat):Option Dut:=if j=0 then none else some (dutD m (j-1))
structure DtOk (c:Cas) (m:Mis) (j:Nat):Prop where
 err:dutsErr c m.stk none m.dts=dutsErr c m.stk (preD m j) (m.dts.drop j)
 rng:∀i,i<j→0≤(dutD m i).rt∧(dutD m i).rt<c.rous.length∧motErr c.lay (rouD c (dutD m i).rt) (stkD c m.stk)=0∧0≤(dutD m i).dep∧(dutD m i).dep≤2097152∧0≤(dutD m i).dw∧(dutD m i).dw≤7200
theorem Keeps.cellP {P:Nat} {w w':World} {b o:Nat} {u:Value} (k:Keeps (·=P) w w') (h:b≠P∧b<w.heap.size) (hc:w.cell? ⟨b,o,none⟩=some u):w'.cell? ⟨b,o,none⟩=some u:=(k.cell (p:=⟨b,o,none⟩) h.2 h.1).trans hc
theorem preD_none (m:Mis) (j:Nat):(preD m j).isNone=((j:Int)==0):=by
 unfold preD
 by_cases h:j=0
 ·subst h;rfl
 ·rw[if_neg h]
  have:((j:Int)==0)=false:=beq_eq_false_iff_ne.2 (by omega)
  rw[this];rfl
theorem DtOk.bad {c:Cas} {m:Mis} {j:Nat} (h:DtOk c m j) (hj:j<m.dts.length) {x:Int} (hx:dutErr c m.stk (preD m j) (dutD m j)=x) (h0:x≠0):dutsErr c m.stk none m.dts=x:=by
 rw[h.err,dutsErr_at c m.stk m.dts j _ _ (dutD_at hj),hx,if_pos h0]
theorem DtOk.next {c:Cas} {m:Mis} {j:Nat} (h:DtOk c m j) (hj:j<m.dts.length) (hx:dutErr c m.stk (preD m j) (dutD m j)=0) (hr:inRng c (dutD m j) ((j:Int)==0)=true) (hm:motErr c.lay (rouD c (dutD m j).rt) (stkD c m.stk)=0):DtOk c m (j+1):=by
 refine⟨?_,fun i hi=> ?_⟩
 ·rw[h.err,dutsErr_at c m.stk m.dts j _ _ (dutD_at hj),hx,if_neg (by simp)]
  rfl
 ·by_cases e:i=j
  ·subst e
   simp only[inRng,Bool.and_eq_true,decide_eq_true_eq]at hr
   exact⟨hr.1.1,hr.1.2.1,hm,by omega,hr.1.2.2.2.1,hr.1.2.2.2.2.1,hr.1.2.2.2.2.2⟩
  ·exact h.rng i (by omega)
theorem prof_run {c:Cas} {rt stk:Int} {a b:Nat} (h:motErr c.lay (rouD c rt) (stkD c stk)=0) (hab:a<b) (hb:(b:Int)≤lastR (rouD c rt)):0≤(profC c rt stk a b).run∧(profC c rt stk a b).run≤100000000:=by
 have hr:RouOk c.lay (rouD c rt):=(fitErr_ok (motErr_fit h)).rou
 have:=(fitErr_ok (fit_part (motErr_fit h) hab hb)).run_range
 rw[hr.partR_pces hab hb]at this
 exact this
theorem lastC_eq {c:Cas} {rt:Int} (h:RouOk c.lay (rouD c rt)):lastR (rouD c rt)=(lastC c rt:Int)∧0<lastC c rt∧lastC c rt≤24:=by
 have h1:=h.two
 have h2:=h.len
 have h3:=h.ov0
 unfold lastC lastR
 omega
theorem DtOk.fst_le {c:Cas} {m:Mis} {j:Nat} (h:DtOk c m j) (hj:j≤m.dts.length):fstN c m j≤24*j:=by
 have:∀i,i≤j→fstN c m i≤24*i:=by
  intro i
  induction i with
  |zero=>intro _;simp[fstN]
  |succ i ih=>
   intro hi
   rw[fstN_succ c (by omega)]
   have:=(lastC_eq (fitErr_ok (motErr_fit (h.rng i (by omega)).2.2.1)).rou).2.2
   have:=ih (by omega)
   omega
 exact this j (Nat.le_refl _)
theorem field_run (x0 x1 x5 x6:Int) (AN AE AC:Option Addr) (nN cN nE cE nC cC:Nat) (W:World):(Instr.field 99 (.agg #[.int .i64 x0,.int .i64 x1,.slice AN nN cN,.slice AE nE cE,.slice AC nC cC,.int .i64 x5,.int .i64 x6]) 6).run Tryz.prog W= .ok (.int .i64 x6) W:=by kernel_rfl
theorem MdW.moved {c:Cas} {v:CV} {AC:Option Addr} {bC oC cC P M:Nat} {vM:Value} {w w':World} {N:Nat} (h:MdW c v AC bC oC cC P M vM w (fun x=>x≠P∧x<N)) (hN:w.heap.size=N) (hMP:M≠P) (k:Keeps (·=P) w w') (hp:PrM (fun k=>profC c k.rt k.stk k.a k.b) w' P):MdW c v AC bC oC cC P M vM w' (fun x=>x≠P∧x<w'.heap.size):=by
 subst hN
 have hS:∀b,(b≠P∧b<w.heap.size)→(b≠P∧b<w'.heap.size):=fun b hb=>⟨hb.1,Nat.lt_of_lt_of_le hb.2 k.size⟩
 have hw:∀b,(b≠P∧b<w.heap.size)→w'.heap[b]? =w.heap[b]? :=fun b hb=>k.block b hb.2 hb.1
 exact⟨h.ac,h.b.kept k hMP,⟨h.cas.lay.mono hS hw,(RSlice.ok RStk.ok).mono h.cas.stks hS hw,(RSlice.ok RRou.ok).mono h.cas.rous hS hw,(RSlice.ok RMis.ok).mono h.cas.miss hS hw⟩,(RSlice.ok (RCrs.ok _)).mono h.crs hS hw,hp⟩
theorem mis_of {c:Cas} {m:Mis} {x y:Int} (h0:x≠0) (hE:misErr c m=if dutsErr c m.stk none m.dts≠0 then dutsErr c m.stk none m.dts else y) (h:dutsErr c m.stk none m.dts=x):misErr c m=x:=by
 rw[hE,h,if_pos h0]
set_option maxRecDepth 100000 in
set_option maxHeartbeats 8000000 in
theorem duties_any (c:Cas) (v:CV) (AC:Option Addr) (bC oC cC P M:Nat) (m:Mis) (A:Option Addr) (cd:Nat) (vM:Value) (w:World) (h:MdW c v AC bC oC cC P M vM w (fun x=>x≠P∧x<w.heap.size)) (hlen:LayLen c.lay) (hr48:c.rous.length≤48) (hs8:c.stks.length≤8) (hrou:∀i:Nat,i<c.rous.length→RouOk c.lay (rouD c i))
  (hd:RDuts w (fun x=>x≠P∧x<w.heap.size) [.slice A m.dts.length cd] m.dts):
  Calls Tryz.prog 112 #[.pointer (some ⟨M,0,none⟩),.agg #[.int .i64 m.stk,.slice A m.dts.length cd]] w fun e w'=>∃A' n c',e= .returned (.tuple #[.slice A' n c',.int .i64 (misErr c m)])∧Keeps (·=P) w w'∧PrM (fun k=>profC c k.rt k.stk k.a k.b) w' P∧
   (misErr c m=0→RSlice 7 (RDty bC oC) w' (Fresh w w') [.slice A' n c'] (tab m.dts.length (dtyAt c m))):=by
 have HMD:=Lib.hid h
 have HAC:=Lib.hid h.ac
 have HMB:=Lib.hid h.b
 have HPM:=Lib.hid h.prf
 have HCS:=Lib.hid h.crs
 have HCA:=Lib.hid h.cas
 have HD:=Lib.hid hd
 have hzM:=h.b.lt
 have hzP:=h.prf.lt
 have hcd:=hd.caps
 have hMP:M≠P:=by
  rintro rfl
  obtain⟨es,cl,h1,-⟩:=h.prf
  have h2:=h.b
  unfold Blk at h2
  rw[h1]at h2
  cases h2
 clear h hd
 go_enter Tryz.func112,Tryz.ntmps112
 go_upto_region 1 with fail
 generalize hN:w.heap.size=N at*
 generalize hW:World.alloc w _=W
 have K0:Hid (KeepsAll w W):=by subst hW;exact(Keeps.refl _ _).alloc _
 have BM:Hid (Blk W N 36 #[.int .i64 m.stk,.slice A m.dts.length cd]):=by subst hW hN;exact Blk.new _ _ _
 have hWs:Hid (W.heap.size=N+1):=by subst hW;show _=_;simp[hN]
 clear hW
 have hMw:M<w.heap.size:=by omega
 have hPw:P<w.heap.size:=by omega
 have m0:=BM.out.cell 0
 have m1:=BM.out.cell 1
 have q4:=K0.out.cellA (by show M<_;exact hMw) (HMB.out.cell 4)
 simp[mdC]at m0 m1 q4
 have hzN:=BM.out.lt
 have hcs:=HCA.out.stks.caps
 have hMW:M<W.heap.size:=by have:=K0.out.size;omega
 by_cases g1:m.stk<0
 ·have e1:decide (m.stk<0)=true:=decide_eq_true g1
  have HE:Hid (misErr c m=4):=by show _=_;unfold misErr;rw[if_pos (.inl g1)]
  clear g1
  go_quiet (fail)
  go_wp2
  go_ret2
  refine⟨none,0,0,by rw[HE.out];rfl,(K0.out.drewN _).mono (fun _ _ h=>h.elim),HPM.out.kept (K0.out.drewN _) (by simp),fun h=>by rw[HE.out]at h;cases h⟩
 by_cases g2:(c.stks.length:Int)≤m.stk
 ·have e1:decide (m.stk<0)=false:=decide_eq_false g1
  have e2:decide ((c.stks.length:Int)≤m.stk)=true:=decide_eq_true g2
  have HE:Hid (misErr c m=4):=by show _=_;unfold misErr;rw[if_pos (.inr g2)]
  clear g1 g2
  go_quiet (fail)
  go_wp2
  go_ret2
  refine⟨none,0,0,by rw[HE.out];rfl,(K0.out.drewN _).mono (fun _ _ h=>h.elim),HPM.out.kept (K0.out.drewN _) (by simp),fun h=>by rw[HE.out]at h;cases h⟩
 obtain⟨q,hq⟩:=Int.eq_ofNat_of_zero_le (by omega:0≤m.stk)
 have hqs:q<c.stks.length:=by omega
 have HQ:=Lib.hid hq
 have HE1:Hid (misErr c m=if m.dts=[]then 1 else if 12<m.dts.length then 7 else if dutsErr c m.stk none m.dts≠0 then dutsErr c m.stk none m.dts else if 64<stagesN c m.dts then 7 else 0):=by
  show _=_;unfold misErr;rw[if_neg (by omega)]
 rw[hq]at m0
 have e1:decide ((q:Int)<0)=false:=decide_eq_false (by omega)
 have e2:decide ((c.stks.length:Int)≤(q:Int))=false:=decide_eq_false (by omega)
 clear g1 g2 hq
 go_quiet (fail)
 generalize hW1:World.drewN W _=W1
 have K1:Hid (KeepsAll w W1):=by subst hW1;exact K0.out.drewN _
 have BM1:Hid (Blk W1 N 36 #[.int .i64 m.stk,.slice A m.dts.length cd]):=by subst hW1;exact BM.out.kept ((Keeps.refl (fun _=>False) W).drewN _) (by simp)
 have hW1s:Hid (W1.heap.size=N+1):=by subst hW1;exact hWs.out
 clear hW1 m0 m1 q4 BM K0 hWs hzN
 have m0:=BM1.out.cell 0
 have m1:=BM1.out.cell 1
 simp at m0 m1
 have hzN:=BM1.out.lt
 by_cases g3:m.dts.length=0
 ·have e3:((m.dts.length:Int)==0)=true:=by simp[g3]
  have HE:Hid (misErr c m=1):=by show _=_;rw[HE1.out,if_pos (List.length_eq_zero_iff.1 g3)]
  clear g3
  go_wp2_with fail
  go_ret2
  refine⟨none,0,0,by rw[HE.out];rfl,K1.out.mono (fun _ _ h=>h.elim),HPM.out.kept K1.out (by simp),fun h=>by rw[HE.out]at h;cases h⟩
 by_cases g4:12<m.dts.length
 ·have e3:((m.dts.length:Int)==0)=false:=beq_eq_false_iff_ne.2 (by omega)
  have e4:decide ((12:Int)<(m.dts.length:Int))=true:=decide_eq_true (by omega)
  have HE:Hid (misErr c m=7):=by show _=_;rw[HE1.out,if_neg (by intro h;rw[h]at g3;exact g3 rfl),if_pos g4]
  go_wp2_with fail
  go_ret2
  refine⟨none,0,0,by rw[HE.out];rfl,K1.out.mono (fun _ _ h=>h.elim),HPM.out.kept K1.out (by simp),fun h=>by rw[HE.out]at h;cases h⟩
 have HE2:Hid (misErr c m=if dutsErr c m.stk none m.dts≠0 then dutsErr c m.stk none m.dts else if 64<stagesN c m.dts then 7 else 0):=by
  show _=_;rw[HE1.out,if_neg (by intro h;rw[h]at g3;exact g3 rfl),if_neg g4]
 have e3:((m.dts.length:Int)==0)=false:=beq_eq_false_iff_ne.2 (by omega)
 have e4:decide ((12:Int)<(m.dts.length:Int))=false:=decide_eq_false (by omega)
 have HN:=Lib.hid (And.intro g3 g4)
 clear HE1 g3 g4
 have hdq:decide (c.stks.length≤q)=false:=decide_eq_false (by omega)
 go_wp2_with fail
 try rw[hdq]
 clear hdq
 go_loopw [41,6] (fun i vl wr=>∃j:Nat,j≤m.dts.length∧i= .int .i64 (j:Int)∧OwnL 153 7 (RDty bC oC) wr W1.heap.size W1.heap.size vl (tab j (dtyAt c m))∧Keeps (·=P) W1 wr∧PrM (fun k=>profC c k.rt k.stk k.a k.b) wr P∧DtOk c m j) (fun i _ _=>m.dts.length-(intOf i).toNat)
 case atStart=>exact⟨0,Nat.zero_le _,rfl,OwnL.nil,Keeps.refl _ _,HPM.out.kept K1.out (by simp),⟨rfl,fun i hi=>by omega⟩⟩
 case round=>
  obtain⟨j,hj,rfl,hown,hkw,hpm,hdo⟩:=hrel
  have HO:=Lib.hid hown
  have HKW:=Lib.hid hkw
  have HPW:=Lib.hid hpm
  have HDO:=Lib.hid hdo
  have KW:Hid (Keeps (·=P) w wr):=(K1.out.mono (fun _ _ h=>h.elim)).trans hkw (fun _ _ h=>h)
  obtain⟨AL,cL,hvl,hcL⟩:=hown.form
  rw[tab_len]at hvl hcL
  subst hvl
  clear hown hkw hpm hdo m0 m1
  by_cases hlt:j<m.dts.length
  ·obtain⟨bd,od,d',hA,hbd,hd',d0,d1,d2⟩:=HD.out.at_ hlt
   obtain rfl:=Option.some.inj (hd'.symm.trans (dutD_at hlt))
   subst hA
   have hbd':bd≠P∧bd<w.heap.size:=⟨hbd.1,by have:=hbd.2;omega⟩
   replace d0:=KW.out.cellP hbd' d0
   replace d1:=KW.out.cellP hbd' d1
   replace d2:=KW.out.cellP hbd' d2
   have HIR:=Lib.hid (fun vC mp vM W hb=>inRange_any c v (dutD m j) ((j:Int)==0) M vC mp vM W hb)
   have HBAD:=Lib.hid (fun(x:Int) hx h0=>HDO.out.bad hlt (x:=x) hx h0)
   have HNXT:=Lib.hid (HDO.out.next hlt)
   have HMBW:=Lib.hid (HMB.out.kept KW.out (by omega))
   clear hd' hbd
   generalize hdj:dutD m j=d at*
   have HDJ:=Lib.hid hdj
   clear hdj
   obtain⟨rt,dep,dw⟩:=d
   unfold dutC at HIR
   simp only[]at d0 d1 d2 HIR
   go_upto_region 11 with fail
   generalize hp8:wr.heap.size=p8 at*
   generalize hW10:World.alloc wr _=W10
   have KA:Hid (KeepsAll wr W10):=by subst hW10;exact(Keeps.refl _ _).alloc _
   have BD:Hid (Blk W10 p8 38 #[.int .i64 rt,.int .i64 dep,.int .i64 dw]):=by subst hW10 hp8;exact Blk.new _ _ _
   have hWs:Hid (W10.heap.size=p8+1):=by subst hW10;show _=_;simp[hp8]
   clear hW10 d0 d1 d2
   have d0:=BD.out.cell 0
   have d1:=BD.out.cell 1
   have d2:=BD.out.cell 2
   simp at d0 d1 d2
   have hzd:=BD.out.lt
   have HIR2:=Lib.hid (HIR.out _ _ _ W10 (HMBW.out.kept KA.out (by simp)))
   go_upto_if 51 with(go_at_call 195;go_loud(refine HIR2.out.mono ?_;rintro e w2 ⟨rfl,k2⟩))
   generalize hir:inRng c ⟨rt,dep,dw⟩ ((j:Int)==0)=bi at*
   have HIRB:=Lib.hid hir
   have K11:Hid (KeepsAll wr w2):=KA.out.trA k2
   have BD2:=Lib.hid (BD.out.kept k2 (by simp))
   clear hir k2 BD KA HIR HIR2 d0 d1 d2
   rcases bi with _|_
   ·have HE:=Lib.hid (mis_of (x:=4) (by decide) HE2.out (HBAD.out 4 (by unfold dutErr;rw[preD_none,HIRB.out,if_pos rfl]) (by decide)))
    go_wp2_with fail
    go_ret2
    exact⟨none,0,0,by rw[HE.out];rfl,KW.out.trans K11.out (fun _ _ h=>h.elim),HPW.out.kept K11.out (by simp),fun h=>by rw[HE.out]at h;cases h⟩
   have hrng:=HIRB.out
   simp only[inRng,Bool.and_eq_true,decide_eq_true_eq]at hrng
   obtain⟨⟨r0,r1,r2,r3,r4,r5⟩,-⟩:=hrng
   obtain⟨i,rfl⟩:=Int.eq_ofNat_of_zero_le r0
   have hil:i<c.rous.length:=by omega
   obtain rfl:=HAC.out (by omega)
   have hok:=hrou i hil
   obtain⟨bq,oq,r,es,hA,hbS,hr,h9,⟨A1,c1,A2,c2,A3,c3,v',rfl,hsec,-,hly,hst⟩,hce⟩:=HCS.out.get hil
   injection hA with hA1
   injection hA1 with hA1 hA2
   subst hA1 hA2
   have hrd:=rouD_at (c:=c) (i:=(i:Int)) (by omega) (by omega)
   rw[Int.toNat_natCast]at hrd
   obtain rfl:=Option.some.inj (hr.symm.trans hrd)
   obtain⟨bs,os,s,hAs,hbs,hs,s0,s1,s2,s3,s4⟩:=HCA.out.stks.at_ hqs
   have hsd:s=stkD c q:=by
    have:=stkD_at' (c:=c) (i:=(q:Int)) (by omega) (by omega)
    rw[Int.toNat_natCast]at this
    exact Option.some.inj (hs.symm.trans this)
   subst hsd
   have hbC:bC≠P∧bC<w.heap.size:=⟨hbS.1,by have:=hbS.2;omega⟩
   have hbs':bs≠P∧bs<w.heap.size:=⟨hbs.1,by have:=hbs.2;omega⟩
   have q2:=KW.out.cellP hbC (hce 2 _ rfl)
   have q3:=KW.out.cellP hbC (hce 3 _ rfl)
   have q4:=KW.out.cellP hbC (hce 4 _ rfl)
   have q5:=KW.out.cellP hbC (hce 5 _ rfl)
   have q6:=KW.out.cellP hbC (hce 6 _ rfl)
   have q7:=KW.out.cellP hbC (hce 7 _ rfl)
   have q8:=KW.out.cellP hbC (hce 8 _ rfl)
   rw[←Nat.add_assoc]at q2 q3 q4 q5 q6 q7 q8
   replace s0:=KW.out.cellP hbs' s0
   replace s1:=KW.out.cellP hbs' s1
   replace s2:=KW.out.cellP hbs' s2
   replace s3:=KW.out.cellP hbs' s3
   replace s4:=KW.out.cellP hbs' s4
   have m7:=HMBW.out.cell 7
   simp[mdC]at m7
   have d0:=BD2.out.cell 0
   have d1:=BD2.out.cell 1
   have d2:=BD2.out.cell 2
   simp at d0 d1 d2
   have hzd2:=BD2.out.lt
   replace m7:=K11.out.cellA HMBW.out.lt m7
   have hMw2:M<w2.heap.size:=Nat.lt_of_lt_of_le HMBW.out.lt K11.out.size
   have hc9:=HCS.out.caps
   go_upto_region 13 with fail
   go_quiet (fail)
   generalize hW13:World.drewN w2 _=W13
   have K13:Hid (KeepsAll wr W13):=by subst hW13;exact K11.out.drewN _
   have BD13:Hid (Blk W13 p8 38 #[.int .i64 i,.int .i64 dep,.int .i64 dw]):=by subst hW13;exact BD2.out.kept ((Keeps.refl (fun _=>False) w2).drewN _) (by simp)
   clear hW13 m7 d0 d1 d2 BD2 K11 hzd2 hMw2 hzd hWs
   have HLY:Hid (RLay w (Old w) v' (crsLay c.lay (rouD c i))):=hly.mono (fun b hb=>by have:=hb.2;show b<w.heap.size;omega) (fun _ _=>rfl)
   have HLYW:Hid (∀W',Keeps (·=P) w W'→RLay W' (Old W') v' (crsLay c.lay (rouD c i))):=fun W' k=>hly.mono (fun b hb=>Nat.lt_of_lt_of_le (by have:=hb.2;show b<w.heap.size;omega) k.size) (fun b hb=>k.block b (by have:=hb.2;show b<w.heap.size;omega) hb.1)
   have HSTW:Hid (∀W',Keeps (·=P) w W'→RStps W' (Old W') [.slice A3 (rouD c i).stps.length c3] (crsRou (rouD c i)).stps):=fun W' k=>(RSlice.ok RStp.ok).mono hst (fun b hb=>Nat.lt_of_lt_of_le (by have:=hb.2;show b<w.heap.size;omega) k.size) (fun b hb=>k.block b (by have:=hb.2;show b<w.heap.size;omega) hb.1)
   have hcl:(crsRou (rouD c i)).stps.length=(rouD c i).stps.length:=tab_len _ _
   have HFT:=Lib.hid (fun W k1 k2=>motFits_any (crsLay c.lay (rouD c i)) v' (crsRou (rouD c i)) (stkD c q) A3 c3 W k1 k2 (crsLen hlen hok))
   rw[hcl,crs_mot hok]at HFT
   have HOV:Hid ((crsRou (rouD c i)).ov=(rouD c i).ov):=rfl
   rw[HOV.out]at HFT
   have hbCw:bC<wr.heap.size:=Nat.lt_of_lt_of_le hbC.2 KW.out.size
   have hbsw:bs<wr.heap.size:=Nat.lt_of_lt_of_le hbs'.2 KW.out.size
   have BMW:=Lib.hid (BM1.out.kept HKW.out (by omega))
   have BM13:=Lib.hid (BMW.out.kept K13.out (by simp))
   have HMB13:=Lib.hid (HMBW.out.kept K13.out (by simp))
   obtain⟨lv,B1,B2,B3,dd1,dd2,dd3⟩:=v
   simp only[]at hAs
   subst hAs
   have m4:=HMB13.out.cell 4
   have n0:=BM13.out.cell 0
   simp[mdC]at m4 n0
   rw[HQ.out]at n0
   simp only[]at hcs
   have y0:=Ext.cell (K13.out.cellA (by show bC<_;exact hbCw) q3)
   have y1:=Ext.cell (K13.out.cellA (by show bC<_;exact hbCw) q4)
   have y2:=Ext.cell (K13.out.cellA (by show bC<_;exact hbCw) q5)
   have y3:=Ext.cell (K13.out.cellA (by show bC<_;exact hbCw) q6)
   have y4:=Ext.cell (K13.out.cellA (by show bC<_;exact hbCw) q7)
   have y5:=Ext.cell (K13.out.cellA (by show bC<_;exact hbCw) q8)
   have y6:=Ext.cell (K13.out.cellA (by show bs<_;exact hbsw) s0)
   have y7:=Ext.cell (K13.out.cellA (by show bs<_;exact hbsw) s1)
   have y8:=Ext.cell (K13.out.cellA (by show bs<_;exact hbsw) s2)
   have y9:=Ext.cell (K13.out.cellA (by show bs<_;exact hbsw) s3)
   have y10:=Ext.cell (K13.out.cellA (by show bs<_;exact hbsw) s4)
   have y11:=Ext.cell m4
   have y12:=Ext.cell n0
   clear hly hst h9 hr hrd hs s0 s1 s2 s3 s4 m4 n0 hcl HOV hbS hbs HLY
   go_upto_region 14 with fail
   generalize hstk:stkD c q=st at*
   have HSTK:=Lib.hid hstk
   clear hstk
   obtain⟨sn,sl,sv,sa,sb⟩:=st
   unfold stkC at HFT
   unfold LV.cs at HFT
   simp only[]at HFT y6 y7 y8 y9 y10
   refine wp_region_lexB (fun w'=>∃x:Ext W13,w'=x.val) [0,1,2,3,4,5,6,7,8,9,10,11,12,13,14,15,16,17,18] (by kernel_rfl) (by kernel_rfl) ⟨⟨_,(Keeps.refl _ _).drew⟩,rfl⟩ ?_
   refine lex_q _ rfl rfl rfl ?_;go_big_quiet_step (fail);refine wpQuiet_nil ?_
   refine lex_nil _ rfl _ rfl rfl _ rfl ?_;go_simp
   iterate 3 (refine lex_q _ rfl rfl rfl ?_;go_big_quiet_step (fail);refine wpQuiet_nil ?_)
   refine lex_nil _ rfl _ rfl rfl _ rfl ?_;go_simp
   iterate 3 (refine lex_q _ rfl rfl rfl ?_;go_big_quiet_step (fail);refine wpQuiet_nil ?_)
   refine lex_nil _ rfl _ rfl rfl _ rfl ?_;go_simp
   iterate 7 (refine lex_q _ rfl rfl rfl ?_;go_big_quiet_step (fail);refine wpQuiet_nil ?_)
   clear y0 y1 y2 y3 y4 y5 y6 y7 y8 y9 y10 y11 y12
   have KD:Hid (KeepsAll W13 W13.drew):=(Keeps.refl _ _).drew
   generalize W13.drew=wd at*
   have KWD:Hid (Keeps (·=P) w wd):=(KW.out.trans K13.out (fun _ _ h=>h.elim)).trans KD.out (fun _ _ h=>h.elim)
   refine lex_a _ rfl rfl true (by kernel_rfl) ?_
   go_wp2_with(go_at_call 196;refine(HFT.out wd (HLYW.out _ KWD.out) (HSTW.out _ KWD.out)).mono ?_;rintro e w6 ⟨rfl,k6⟩)
   have K16:Hid (KeepsAll wr w6):=(K13.out.trA KD.out).trA k6
   refine⟨fun _=>⟨⟨_,KD.out.trA k6⟩,rfl⟩,?_⟩
   refine lex_q _ rfl rfl rfl ?_;go_big_quiet_step (fail);refine wpQuiet_nil ?_
   simp only[wpLex]
   refine NoPanic.normal ?_
   have BD16:=Lib.hid ((BD13.out.kept KD.out (by simp)).kept k6 (by simp))
   have BM16:=Lib.hid ((BM13.out.kept KD.out (by simp)).kept k6 (by simp))
   clear HFT k6 KD K13 BD13 BM13 HMB13 HLYW HSTW KWD
   have HMO:Hid (motErr c.lay (rouD c i) (stkD c m.stk)=motErr c.lay (rouD c i) ⟨sn,sl,sv,sa,sb⟩):=by show _=_;rw[HQ.out,HSTK.out]
   generalize motErr c.lay (rouD c i) ⟨sn,sl,sv,sa,sb⟩=me at*
   by_cases hme:me=0
   rotate_left
   ·have g1:(me==0)=false:=beq_eq_false_iff_ne.2 hme
    have HE:=Lib.hid (mis_of hme HE2.out (HBAD.out me (by unfold dutErr;rw[preD_none,HIRB.out,if_neg (by simp),if_pos (by rw[HMO.out];exact hme),HMO.out]) hme))
    go_wp2_with fail
    go_ret2
    exact⟨none,0,0,by rw[HE.out];rfl,KW.out.trans K16.out (fun _ _ h=>h.elim),HPW.out.kept K16.out (by simp),fun h=>by rw[HE.out]at h;exact absurd h hme⟩
   subst hme
   have n0:=BM16.out.cell 0
   have d0:=BD16.out.cell 0
   have d1:=BD16.out.cell 1
   have d2:=BD16.out.cell 2
   simp at n0 d0 d1 d2
   rw[HQ.out]at n0
   have hzd:=BD16.out.lt
   have hzm:=BM16.out.lt
   go_upto_region 18 with fail
   generalize hp17:w6.heap.size=p17 at*
   generalize hW17:World.alloc w6 _=W17
   have KA:Hid (KeepsAll w6 W17):=by subst hW17;exact(Keeps.refl _ _).alloc _
   have BX:Hid (Blk W17 p17 153 #[.pointer (some ⟨bC,oC+i*9,none⟩),.int .i64 i,.int .i64 q,.int .i64 dep,.int .i64 dw,.int .i64 0,.int .i64 0]):=by subst hW17 hp17;exact Blk.new _ _ _
   clear hW17 n0 d0 d1 d2
   have K17:Hid (KeepsAll wr W17):=K16.out.trA KA.out
   have KW17:Hid (Keeps (·=P) w W17):=KW.out.trans K17.out (fun _ _ h=>h.elim)
   have BD17:=Lib.hid (BD16.out.kept KA.out (by simp))
   have hp8x:p8<p17:=by omega
   clear KA BD16 BM16 hzd hzm
   have x0:=BX.out.cell 0
   have x1:=BX.out.cell 1
   have x2:=BX.out.cell 2
   have x3:=BX.out.cell 3
   have x4:=BX.out.cell 4
   have x5:=BX.out.cell 5
   have x6:=BX.out.cell 6
   simp at x0 x1 x2 x3 x4 x5 x6
   have hzx:=BX.out.lt
   have hPx:¬p17=P:=by have:=HPW.out.lt;have:=K16.out.size;omega
   obtain⟨l,hl⟩:=Int.eq_ofNat_of_zero_le (by have:=hok.two;unfold lastR;omega:0≤lastR (rouD c i))
   have hl1:0<l:=by have:=hok.two;unfold lastR at hl;omega
   have hl24:l≤24:=by have:=hok.len;have:=hok.ov0;unfold lastR at hl;omega
   have HLC:Hid (lastC c i=l):=by show _=_;unfold lastC;rw[hl];rfl
   have HPR:=Lib.hid (fun W h=>profile_any c ⟨lv,some ⟨bs,os,none⟩,B2,B3,dd1,dd2,dd3⟩ (some ⟨bC,oC,none⟩) bC oC cC P M i q 0 l 0 dep dw 0 vM W h hlen hil hqs hr48 hs8 (by rw[←HQ.out];exact HMO.out) hl1 (by rw[hl];exact Int.le_refl _))
   unfold dtyC at HPR
   rw[show((0:Nat):Int)=0 from rfl]at HPR
   have HLL:=Lib.hid hl
   rw[hl]at q2
   clear hl
   have y0:=ExtC.cell (C:=fun b=>b=P) x0 hPx
   have y1:=ExtC.cell (C:=fun b=>b=P) x1 hPx
   have y2:=ExtC.cell (C:=fun b=>b=P) x2 hPx
   have y3:=ExtC.cell (C:=fun b=>b=P) x3 hPx
   have y4:=ExtC.cell (C:=fun b=>b=P) x4 hPx
   have y5:=ExtC.cell (C:=fun b=>b=P) x5 hPx
   have y6:=ExtC.cell (C:=fun b=>b=P) x6 hPx
   have y7:=ExtC.cell (C:=fun b=>b=P) (K17.out.cellA (by show bC<_;exact hbCw) q2) hbC.1
   refine wp_region_lexB (fun w'=>∃x:ExtC (fun b=>b=P) W17,w'=x.val) [0,1,2,3,4,5,6,7,8,9] (by kernel_rfl) (by kernel_rfl) (ExtC.start _ _) ?_
   iterate 3 (refine lex_q _ rfl rfl rfl ?_;go_big_quiet_step (fail);refine wpQuiet_nil ?_)
   refine lex_nil _ rfl _ rfl rfl _ rfl ?_;go_simp
   iterate 2 (refine lex_q _ rfl rfl rfl ?_;go_big_quiet_step (fail);refine wpQuiet_nil ?_)
   clear y0 y1 y2 y3 y4 y5 y6 y7 x0 x1 x2 x3 x4 x5 x6
   have KD:Hid (KeepsAll W17 W17.drew):=(Keeps.refl _ _).drew
   generalize W17.drew=wd at*
   have KWD:Hid (Keeps (·=P) w wd):=KW17.out.trans KD.out (fun _ _ h=>h.elim)
   have HPD:=Lib.hid (HPW.out.kept (K17.out.trA KD.out) (by simp))
   refine lex_a _ rfl rfl true (by kernel_rfl) ?_
   go_wp2_with(go_at_call 57;refine(HPR.out wd (HMD.out.moved hN hMP KWD.out HPD.out)).mono ?_;rintro e w7 ⟨u,rfl,hpv,k7,hp7⟩;obtain⟨XN,XE,XC,n1,c1',n2,c2',n3,c3',rfl⟩:=hpv)
   have K7:Hid (Keeps (·=P) W17 w7):=(KD.out.mono (C:=(·=P)) (fun _ _ h=>h.elim)).trans k7 (fun _ _ h=>h)
   have HPR7:=Lib.hid hp7
   refine⟨fun _=>⟨⟨_,K7.out⟩,rfl⟩,?_⟩
   have hfd:=fun(x:ExtC (fun b=>b=P) W17)=>field_run (profC c i q 0 l).frm (profC c i q 0 l).to (profC c i q 0 l).ovl (profC c i q 0 l).run XN XE XC n1 c1' n2 c2' n3 c3' x.val
   iterate 2 (refine lex_q _ rfl rfl rfl ?_;go_big_quiet_step (fail);refine wpQuiet_nil ?_)
   clear hfd
   have B7:=Lib.hid (BX.out.kept K7.out hPx)
   have BD7:=Lib.hid (BD17.out.kept K7.out (by have:=HPW.out.lt;omega))
   have x6:=B7.out.cell 6
   simp at x6
   have f6:=B7.out.frozen 6
   have hz7:=B7.out.lt
   have HRUN:Hid ((fullC c i m.stk).run=(profC c i q 0 l).run):=by show _=_;unfold fullC;rw[HLC.out,HQ.out]
   have hrn:=prof_run (c:=c) (rt:=(i:Int)) (stk:=(q:Int)) (a:=0) (b:=l) (by rw[←HQ.out];exact HMO.out) hl1 (by rw[HLL.out];exact Int.le_refl _)
   clear k7 hp7 KD HPR BX HPD KWD hzx HSTK
   generalize (profC c i q 0 l).run=run at*
   refine lex_a _ rfl rfl false (by kernel_rfl) ?_
   go_wp2
   (try refine⟨fun h=>(by cases h),?_⟩)
   simp only[wpLex]
   refine NoPanic.normal ?_
   generalize hW18:World.setCell w7 _ _=W18
   have BX18:Hid (Blk W18 p17 153 #[.pointer (some ⟨bC,oC+i*9,none⟩),.int .i64 i,.int .i64 q,.int .i64 dep,.int .i64 dw,.int .i64 0,.int .i64 run]):=by subst hW18;exact B7.out.set_ 6 _
   have KX7:Hid (Keeps (fun x=>x=p17) w7 W18):=by subst hW18;exact(Keeps.refl (fun x=>x=p17) _).setCell (p:=⟨p17,6,none⟩) (fun _=>rfl) _
   clear hW18 x6 f6 hz7 B7
   have HP18:=Lib.hid (HPR7.out.kept KX7.out (by omega))
   have BD18:=Lib.hid (BD7.out.kept KX7.out (by omega))
   have K18:Hid (Keeps (fun x=>x=P∨x=p17) wr W18):=((K17.out.mono (C:=fun x=>x=P∨x=p17) (fun _ _ h=>h.elim)).trans K7.out (fun _ _ h=> .inl h)).trans KX7.out (fun _ _ h=> .inr h)
   clear HPR7 KX7 K7 BD7 BD17
   go_upto_if 100 with fail
   have hN12:j≤12:=by have:=HN.out.2;omega
   go_cut [12]from 99 to 144 (fun _ wx=>Blk wx p17 153 (dtyC bC oC i q dep dw (fstN c m j) run)∧Keeps (fun x=>x=p17) W18 wx∧DtOk c m (j+1))
   case first=>
    rcases Nat.eq_zero_or_pos j with rfl|hj0
    ·go_wp2_with fail
     go_meet
     refine⟨BX18.out,Keeps.refl _ _,HNXT.out ?_ (by trivial) HMO.out⟩
     unfold dutErr
     rw[preD_none,HIRB.out,if_neg (by simp),if_neg (by rw[HMO.out];simp)]
     rfl
    ·obtain⟨k,rfl⟩:∃k,j=k+1:=⟨j-1,by omega⟩
     have HOR:=HO.out.keeps (RDty.ok _ _) K18.out (fun b hb h=>by rcases h with h|h<;>omega)
     have hlr:=tab_len (k+1) (dtyAt c m)
     obtain⟨gl,og,x,es,hAL,hgl,hx,-,hes,hcl⟩:=(HOR.read (RDty.ok _ _) (by omega) (S:=fun b=>W1.heap.size≤b∧b<W18.heap.size) (fun _ h1 h2=>⟨h1,h2⟩) (fun _ h1 h2=>⟨h1,h2⟩)).get (k:=k) (by omega)
     subst hAL
     rw[tab_get (by omega)]at hx
     obtain rfl:=Option.some.inj hx
     unfold RDty at hes
     subst hes
     obtain⟨g1,g2,g3,g4,g5,g6,g7⟩:=HDO.out.rng k (by omega)
     have hfk:=(HDO.out).fst_le hj
     have hfs:=fstN_succ c (m:=m) (i:=k) (by omega)
     have HPD:Hid (preD m (k+1)=some (dutD m k)):=rfl
     unfold dtyAt at hcl
     simp only[]at hcl
     generalize dutD m k=dk at*
     obtain⟨rtk,depk,dwk⟩:=dk
     simp only[]at g1 g2 g3 g4 g5 g6 g7 hfs hcl
     obtain⟨ik,rfl⟩:=Int.eq_ofNat_of_zero_le g1
     rw[Int.toNat_natCast,HQ.out,Int.toNat_natCast]at hcl
     have hok':=hrou ik (by omega)
     obtain⟨hlk,hlk1,hlk24⟩:=lastC_eq hok'
     have hrk:=prof_run (c:=c) (rt:=(ik:Int)) (stk:=m.stk) (a:=0) (b:=lastC c ik) g3 hlk1 (by rw[hlk];exact Int.le_refl _)
     have hrk2:(fullC c ik m.stk).run=(profC c ik m.stk 0 (lastC c ik)).run:=rfl
     rw[←hrk2,HQ.out]at hrk
     clear hrk2
     have K18w:Keeps (fun x=>x=P∨x=p17) w W18:=(KW.out.mono (C:=fun x=>x=P∨x=p17) (fun _ _ h=> .inl h)).trans K18.out (fun _ _ h=>h)
     have hcw:∀(b o:Nat) (u:Value),(b≠P∧b<w.heap.size)→w.cell? ⟨b,o,none⟩=some u→W18.cell? ⟨b,o,none⟩=some u:=fun b o u hb hc=>(K18w.cell (p:=⟨b,o,none⟩) hb.2 (by have:=hb.1;have:=hb.2;have:=KW.out.size;rintro(h|h)<;>(simp only[]at h;omega))).trans hc
     obtain⟨bq',oq',r',es',hA',hbS',hr',-,⟨A1',c1'',A2',c2'',A3',c3'',v'',rfl,hsec',-,-,-⟩,hce'⟩:=HCS.out.get (k:=ik) (by omega)
     injection hA' with hA1'
     injection hA1' with hA1' hA2'
     subst hA1' hA2'
     have hrd':=rouD_at (c:=c) (i:=(ik:Int)) (by omega) (by omega)
     rw[Int.toNat_natCast]at hrd'
     obtain rfl:=Option.some.inj (hr'.symm.trans hrd')
     obtain⟨be,oe,xe,rfl,hbe,hxe,e0⟩:=hsec'.at_ (k:=lastC c ik) (by rw[List.length_map];have:=hok'.ov0;have:=hlk;unfold lastR at this;omega)
     obtain⟨bf,of,xf,rfl,hbf,hxf,f0⟩:=hsec.at_ (k:=0) (by rw[List.length_map];have:=hok.two;have:=hok.ov0;omega)
     have hXE:xe=secS c ik (lastC c ik):=by
      rw[List.getElem?_map,stpD_at (by have:=hok'.ov0;have:=hlk;unfold lastR at this;omega)]at hxe
      exact(Option.some.inj hxe).symm
     have hXF:xf=secS c i 0:=by
      rw[List.getElem?_map,stpD_at (by have:=hok.two;have:=hok.ov0;omega)]at hxf
      exact(Option.some.inj hxf).symm
     replace e0:=hcw be _ _ ⟨hbe.1,by have:=hbe.2;omega⟩ e0
     replace f0:=hcw bf _ _ ⟨hbf.1,by have:=hbf.2;omega⟩ f0
     have r0':=hcw bC _ _ hbC (hce' 0 _ rfl)
     have r2':=hcw bC _ _ hbC (hce' 2 _ rfl)
     have r0'':=hcw bC _ _ hbC (hce 0 _ rfl)
     rw[hlk]at r2'
     have z0:=hcl 0 _ rfl
     have z1:=hcl 1 _ rfl
     have z2:=hcl 2 _ rfl
     have z3:=hcl 3 _ rfl
     have z4:=hcl 4 _ rfl
     have z5:=hcl 5 _ rfl
     have z6:=hcl 6 _ rfl
     simp only[Nat.add_zero,←Nat.add_assoc]at r0' r2' r0'' z0 z1 z2 z3 z4 z5 z6 e0 f0
     have hkj:((k+1:Nat):Int)-1=(k:Int):=by omega
     have hcl':=hcL
     have hgl2:=hgl.2
     have hbC18:bC<W18.heap.size:=Nat.lt_of_lt_of_le hbCw K18.out.size
     have hbe18:be<W18.heap.size:=Nat.lt_of_lt_of_le (by have:=hbe.2;omega:be<w.heap.size) K18w.size
     have hbf18:bf<W18.heap.size:=Nat.lt_of_lt_of_le (by have:=hbf.2;omega:bf<w.heap.size) K18w.size
     have hc1e:=hsec'.caps
     rw[List.length_map]at hc1e
     have hl0:0<(rouD c i).stps.length:=by have:=hok.two;have:=hok.ov0;omega
     have hl9:lastC c ik<(rouD c ik).stps.length:=by have:=hok'.ov0;have:=hlk;unfold lastR at this;omega
     clear hcl hce' hsec' hxe hxf hrd' hr' hbS'
     go_upto_region 21 with fail
     have KP18:Hid (Keeps (·=P) w W18):=K18w.mono (fun x hx h=>by
      rcases h with h|h
      ·exact h
      ·have:=KW.out.size;omega)
     generalize hp20:W18.heap.size=p20 at*
     generalize hW20:World.alloc W18 _=W20
     have K20:Hid (KeepsAll W18 W20):=by subst hW20;exact(Keeps.refl _ _).alloc _
     have BB:Hid (Blk W20 p20 153 #[.pointer (some ⟨bC,oC+ik*9,none⟩),.int .i64 ik,.int .i64 q,.int .i64 depk,.int .i64 dwk,.int .i64 (fstN c m k),.int .i64 (fullC c ik q).run]):=by subst hW20 hp20;exact Blk.new _ _ _
     have BX20:=Lib.hid (BX18.out.kept K20.out (by simp))
     have BD20:=Lib.hid (BD18.out.kept K20.out (by simp))
     clear hW20 z0 z1 z2 z3 z4 z5 z6 BX18 BD18
     replace e0:=K20.out.cellA (by show be<_;omega) e0
     replace f0:=K20.out.cellA (by show bf<_;omega) f0
     replace r0':=K20.out.cellA (by show bC<_;omega) r0'
     replace r2':=K20.out.cellA (by show bC<_;omega) r2'
     replace r0'':=K20.out.cellA (by show bC<_;omega) r0''
     have z0:=BB.out.cell 0
     have z3:=BB.out.cell 3
     have z5:=BB.out.cell 5
     have z6:=BB.out.cell 6
     simp at z0 z3 z5 z6
     have d1:=BD20.out.cell 1
     have d2:=BD20.out.cell 2
     simp at d1 d2
     have hzB:=BB.out.lt
     have hzD:=BD20.out.lt
     have hbC20:bC<W20.heap.size:=by have:=K20.out.size;omega
     have hbe20:be<W20.heap.size:=by have:=K20.out.size;omega
     have hbf20:bf<W20.heap.size:=by have:=K20.out.size;omega
     have HRK:Hid ((fullC c ik m.stk).run=(fullC c ik q).run):=by show _=_;rw[HQ.out]
     generalize (fullC c ik q).run=rk at*
     generalize hlkk:lastC c ik=lk at*
     have HLK:=Lib.hid hlkk
     clear hlkk
     generalize hn1:(rouD c i).stps.length=n1' at*
     generalize hn2:(rouD c ik).stps.length=n2' at*
     clear hn1 hn2
     have hc1c:=hsec.caps
     rw[List.length_map]at hc1c
     by_cases hsx:xf=xe
     rotate_left
     ·have s1:(xf==xe)=false:=beq_eq_false_iff_ne.2 hsx
      have HE:Hid (misErr c m=11):=by
       refine mis_of (by decide) HE2.out (HBAD.out 11 ?_ (by decide))
       unfold dutErr
       rw[preD_none,HIRB.out,if_neg (by simp),if_neg (by rw[HMO.out];simp),HPD.out]
       simp only[]
       rw[if_pos (by rw[HLK.out,←hXE,←hXF];exact fun e=>hsx e.symm)]
      clear hXE hXF hsx
      go_quiet (fail)
      go_wp2_with fail
      go_ret2
      exact⟨none,0,0,by rw[HE.out];rfl,KP18.out.trans (K20.out.drewN _) (fun _ _ h=>h.elim),HP18.out.kept (K20.out.drewN _) (by simp),fun h=>by rw[HE.out]at h;cases h⟩
     ·subst hsx
      go_quiet (fail)
      generalize hW21:World.drewN W20 _=W21
      have K21:Hid (KeepsAll W18 W21):=by subst hW21;exact K20.out.drewN _
      have BB21:Hid (Blk W21 p20 153 #[.pointer (some ⟨bC,oC+ik*9,none⟩),.int .i64 ik,.int .i64 q,.int .i64 depk,.int .i64 dwk,.int .i64 (fstN c m k),.int .i64 rk]):=by subst hW21;exact BB.out.kept ((Keeps.refl (fun _=>False) _).drewN _) (by simp)
      have BX21:Hid (Blk W21 p17 153 #[.pointer (some ⟨bC,oC+i*9,none⟩),.int .i64 i,.int .i64 q,.int .i64 dep,.int .i64 dw,.int .i64 0,.int .i64 run]):=by subst hW21;exact BX20.out.kept ((Keeps.refl (fun _=>False) _).drewN _) (by simp)
      have BD21:Hid (Blk W21 p8 38 #[.int .i64 i,.int .i64 dep,.int .i64 dw]):=by subst hW21;exact BD20.out.kept ((Keeps.refl (fun _=>False) _).drewN _) (by simp)
      have r2x:W21.cell? ⟨bC,oC+ik*9+2,none⟩=some (.int .i64 lk):=by subst hW21;exact((Keeps.refl (fun _=>False) _).drewN _).cellA (by show bC<_;omega) r2'
      have hbC21:bC<W21.heap.size:=by subst hW21;exact hbC20
      clear hW21 BB BX20 BD20 K20 e0 f0 r0' r2' r0'' z0 z3 z5 z6 d1 d2 hzB hzD hbC20 hbe20 hbf20
      have z0:=BB21.out.cell 0
      have z3:=BB21.out.cell 3
      have z5:=BB21.out.cell 5
      have z6:=BB21.out.cell 6
      simp at z0 z3 z5 z6
      have d1:=BD21.out.cell 1
      have d2:=BD21.out.cell 2
      simp at d1 d2
      have hzB:=BB21.out.lt
      have hzD:=BD21.out.lt
      go_upto_if 135 with fail
      have HDE:Hid (dutErr c m.stk (preD m (k+1)) ⟨i,dep,dw⟩=if dep<depk+rk+dw then 14 else 0):=by
       show _=_
       unfold dutErr
       rw[preD_none,HIRB.out,if_neg (by simp),if_neg (by rw[HMO.out];simp),HPD.out]
       simp only[]
       rw[if_neg (by rw[HLK.out,←hXE,←hXF];simp),HRK.out]
      by_cases hlate:dep<depk+rk+dw
      ·have s1:decide (dep<depk+rk+dw)=true:=decide_eq_true hlate
       have HE:=Lib.hid (mis_of (x:=14) (by decide) HE2.out (HBAD.out 14 (by rw[HDE.out,if_pos hlate]) (by decide)))
       go_wp2_with fail
       go_ret2
       exact⟨none,0,0,by rw[HE.out];rfl,KP18.out.trans K21.out (fun _ _ h=>h.elim),HP18.out.kept K21.out (by simp),fun h=>by rw[HE.out]at h;cases h⟩
      ·have s1:decide (dep<depk+rk+dw)=false:=decide_eq_false hlate
       go_upto_region 25 with fail
       have y0:=Ext.cell z5
       have y1:=Ext.cell z0
       have y2:=Ext.cell r2x
       have hfl:fstN c m k≤1000:=by omega
       refine wp_region_lexB (fun w'=>∃x:Ext W21,w'=x.val) [0,1,2,3,4,5,6,7,8,9] (by kernel_rfl) (by kernel_rfl) ⟨⟨_,(Keeps.refl _ _).drew⟩,rfl⟩ ?_
       iterate 4 (refine lex_q _ rfl rfl rfl ?_;go_big_quiet_step (fail);refine wpQuiet_nil ?_)
       refine lex_nil _ rfl _ rfl rfl _ rfl ?_;go_simp
       iterate 4 (refine lex_q _ rfl rfl rfl ?_;go_big_quiet_step (fail);refine wpQuiet_nil ?_)
       clear y0 y1 y2 z0 z3 z5 z6 d1 d2 r2x
       have KD:Hid (KeepsAll W21 W21.drew):=(Keeps.refl _ _).drew
       generalize W21.drew=wd at*
       have BXD:=Lib.hid (BX21.out.kept KD.out (by simp))
       have x5:=BXD.out.cell 5
       simp at x5
       have f5:=BXD.out.frozen 5
       have hzb:=BXD.out.lt
       refine lex_a _ rfl rfl false (by kernel_rfl) ?_
       go_wp2
       (try refine⟨fun h=>(by cases h),?_⟩)
       simp only[wpLex]
       refine NoPanic.normal ?_
       go_wp2_with fail
       go_meet
       refine⟨?_,((K21.out.trA KD.out).mono (C:=fun x=>x=p17) (fun _ _ h=>h.elim)).setCell (p:=⟨p17,5,none⟩) (fun _=>rfl) _,HNXT.out (by rw[HDE.out,if_neg (by omega)]) (by trivial) HMO.out⟩
       rw[hfs]
       exact BXD.out.set_ 5 _
   case rest=>
    obtain⟨hbx,hkx,hdo⟩:=hcut
    have BY:=Lib.hid hbx
    have HDN:=Lib.hid hdo
    have KY:Hid (Keeps (fun x=>x=P∨x=p17) wr wc):=K18.out.trans hkx (fun _ _ h=> .inr h)
    have HPY:=Lib.hid (HP18.out.kept hkx (by omega))
    have HOY:=Lib.hid (HO.out.keeps (RDty.ok _ _) KY.out (fun b hb h=>by rcases h with h|h<;>omega))
    have HEE:Hid (∀W',RDty bC oC W' (fun _=>False) (dtyC bC oC i q dep dw (fstN c m j) run).toList (dtyAt c m j)):=fun W'=>by
     unfold RDty dtyAt
     rw[HDJ.out]
     simp only[]
     rw[HRUN.out,HQ.out,Int.toNat_natCast,Int.toNat_natCast]
    clear hbx hkx hdo
    have x0:=BY.out.cell 0
    have x1:=BY.out.cell 1
    have x2:=BY.out.cell 2
    have x3:=BY.out.cell 3
    have x4:=BY.out.cell 4
    have x5:=BY.out.cell 5
    have x6:=BY.out.cell 6
    simp[dtyC]at x0 x1 x2 x3 x4 x5 x6
    have hzy:=BY.out.lt
    have hsz1:W1.heap.size≤wc.heap.size:=Nat.le_trans HKW.out.size KY.out.size
    go_upto_region 27 with(at_builtin;go_loud(have HOB:=HOY.out.alloc (RDty.ok _ _) (.cells (dtyC bC oC i q dep dw (fstN c m j) run) 153);refine wpList_append_L tyDty (RDty.ok bC oC) rfl (.tmp 145) (.tmp 147) rfl HOB rfl _ (dtyC bC oC i q dep dw (fstN c m j) run).toList rfl (Blk.new _ _ _) rfl (dtyAt c m j) (S:=fun _=>False) (HEE.out _) (fun _ h=>h.elim) (by simp[dtyC,Value.oneCell']) (by rw[tab_len];omega) (by rw[tab_len];omega) (by simp;omega) ?_;intro v9 w9 HO9 HK9 HA9;obtain⟨A9x,q9x,hv9,-,-⟩:=HO9.form;rw[List.length_append,tab_len,List.length_singleton]at hv9;subst hv9))
    have hownb:∀b,(Value.slice AL j cL).ownBlock=some b→W1.heap.size≤b:=fun b e=>(HO.out.lt e).1
    have K9:Keeps (fun x=>(Value.slice AL j cL).ownBlock=some x) wc w9:=((Keeps.refl (fun x=>(Value.slice AL j cL).ownBlock=some x) wc).alloc (.cells (dtyC bC oC i q dep dw (fstN c m j) run) 153)).trans HK9 (fun _ _ h=>h)
    clear HK9 HA9 x0 x1 x2 x3 x4 x5 x6 HOB
    go_wp2_with fail
    exact⟨⟨j+1,by omega,by go_num,by rw[tab_succ];exact HO9,(HKW.out.trans KY.out (fun x hx h=>by
     have:=HKW.out.size
     rcases h with h|h
     ·exact h
     ·omega)).trans K9 (fun x hx e=>by have:=hownb x e;omega),HPY.out.kept K9 (fun e=>by have:=hownb _ e;omega),HDN.out⟩,by simp[intOf];omega⟩
  ·obtain rfl:j=m.dts.length:=by omega
   obtain⟨k,hk⟩:∃k,m.dts.length=k+1:=⟨m.dts.length-1,by have:=HN.out.1;omega⟩
   have hDE:dutsErr c m.stk none m.dts=0:=by rw[HDO.out.err,List.drop_length];rfl
   have hlr:=tab_len m.dts.length (dtyAt c m)
   obtain⟨gl,og,x,es,hAL,hgl,hx,-,hes,hcl⟩:=(HO.out.read (RDty.ok _ _) (by omega) (S:=fun b=>W1.heap.size≤b∧b<wr.heap.size) (fun _ h1 h2=>⟨h1,h2⟩) (fun _ h1 h2=>⟨h1,h2⟩)).get (k:=k) (by omega)
   obtain⟨gg,hAL2,-⟩:=HO.out.some_ (by omega)
   rw[hAL2]at hAL
   injection hAL with hAL
   injection hAL with ha1 ha2
   subst ha1 ha2
   rw[hAL2]at HO⊢
   clear hAL2
   rw[tab_get (by omega)]at hx
   obtain rfl:=Option.some.inj hx
   unfold RDty at hes
   subst hes
   obtain⟨g1,g2,g3,g4,g5,g6,g7⟩:=HDO.out.rng k (by omega)
   have hfk:=(HDO.out).fst_le hj
   have hfs:=fstN_succ c (m:=m) (i:=k) (by omega)
   have hsn:stagesN c m.dts=1+fstN c m m.dts.length:=by unfold stagesN fstN;rw[List.take_length]
   rw[←hk]at hfs
   unfold dtyAt at hcl
   simp only[]at hcl
   generalize dutD m k=dk at*
   obtain⟨rtk,depk,dwk⟩:=dk
   simp only[]at g1 g2 g3 g4 g5 g6 g7 hfs hcl
   obtain⟨ik,rfl⟩:=Int.eq_ofNat_of_zero_le g1
   rw[Int.toNat_natCast,HQ.out,Int.toNat_natCast]at hcl
   obtain⟨hlk,hlk1,hlk24⟩:=lastC_eq (hrou ik (by omega))
   obtain rfl:=HAC.out (by omega)
   obtain⟨bq',oq',r',es',hA',hbS',hr',-,⟨A1',c1'',A2',c2'',A3',c3'',v'',rfl,-,-,-,-⟩,hce'⟩:=HCS.out.get (k:=ik) (by omega)
   injection hA' with hA1'
   injection hA1' with hA1' hA2'
   subst hA1' hA2'
   have hrd':=rouD_at (c:=c) (i:=(ik:Int)) (by omega) (by omega)
   rw[Int.toNat_natCast]at hrd'
   obtain rfl:=Option.some.inj (hr'.symm.trans hrd')
   have r2':=KW.out.cellP ⟨hbS'.1,by have:=hbS'.2;omega⟩ (hce' 2 _ rfl)
   rw[hlk]at r2'
   have z0:=hcl 0 _ rfl
   have z1:=hcl 1 _ rfl
   have z2:=hcl 2 _ rfl
   have z3:=hcl 3 _ rfl
   have z4:=hcl 4 _ rfl
   have z5:=hcl 5 _ rfl
   have z6:=hcl 6 _ rfl
   simp only[Nat.zero_add,Nat.add_zero,←Nat.add_assoc]at r2' z0 z1 z2 z3 z4 z5 z6
   have HST:=Lib.hid (stages_any wr gg k cL bC (oC+ik*9) ik q (fstN c m k) (lastC c ik) depk dwk (fullC c ik q).run (by have:=HN.out.2;omega) (by omega) (by have:=HN.out.2;omega) (by omega) z0 z1 z2 z3 z4 z5 z6 r2')
   rw[←hk]at HST
   have HSN:Hid ((fstN c m k:Int)+(lastC c ik:Int)+1=(stagesN c m.dts:Int)):=by show _=_;rw[hsn,hfs];omega
   rw[HSN.out]at HST
   have hs9:stagesN c m.dts≤1000:=by have:=HN.out.2;omega
   have HE3:Hid (misErr c m=if 64<stagesN c m.dts then 7 else 0):=by show _=_;rw[HE2.out,hDE];simp
   clear hcl hce' z0 z1 z2 z3 z4 z5 z6 hfs hsn r2' hDE hx hlk hk hlr
   generalize stagesN c m.dts=sn at*
   go_upto_if 152 with(go_at_call 197;go_loud(refine HST.out.mono ?_;rintro e w2 ⟨rfl,k2⟩))
   have KW2:=Lib.hid (KW.out.trans k2 (fun _ _ h=>h.elim))
   have HP2:=Lib.hid (HPW.out.kept k2 (by simp))
   have HO2:=Lib.hid (HO.out.keeps (RDty.ok _ _) k2 (fun _ _ h=>h.elim))
   clear k2
   by_cases h64:64<sn
   ·have s1:decide ((64:Int)<(sn:Int))=true:=decide_eq_true (by omega)
    go_wp2_with fail
    go_ret2
    exact⟨none,0,0,by rw[HE3.out,if_pos h64];rfl,KW2.out,HP2.out,fun h=>by rw[HE3.out,if_pos h64]at h;cases h⟩
   ·have s1:decide ((64:Int)<(sn:Int))=false:=decide_eq_false (by omega)
    go_wp2_with fail
    go_ret2
    refine⟨_,_,_,by rw[HE3.out,if_neg h64];rfl,KW2.out,HP2.out,fun _=> ?_⟩
    have hsz:w.heap.size≤W1.heap.size:=K1.out.size
    have:=HO2.out.read (RDty.ok _ _) (by omega) (S:=Fresh w w2) (fun b h1 h2=>⟨by omega,h2⟩) (fun b h1 h2=>⟨by omega,h2⟩)
    exact this
end
end Go.Proofs.YtcbcegdidlefiaaGreat
