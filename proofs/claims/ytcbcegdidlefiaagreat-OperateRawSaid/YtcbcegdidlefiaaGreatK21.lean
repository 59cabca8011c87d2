/- The map of profiles: its keys are structs of four numbers. Conditions: as each theorem says. Contract of Profile (reference, layer 39). Conditions: as the theorem says. Contract of Full (reference, layer 39): the profile of a whole duty. Conditions: as the theorem says. Contract of profile (operate, program): the profile of a part of a duty, out of the map or made. Conditions: as the theorem says. A struct in memory whose fields are slices that grow, each in a block of its own. Conditions: as each theorem says. -/
import Derived.Test.YtcbcegdidlefiaaGreatK20
import Derived.DeepKeys3
import Derived.Test.YtcbcegdidlefiaaGreatK15
import Derived.Test.YtcbcegdidlefiaaGreatK19
import Derived.Test.YtcbcegdidlefiaaGreatK02
namespace Go.Proofs.YtcbcegdidlefiaaGreat
section
open Go.RowKit
structure PKey where
 rt:Nat
 stk:Nat
 a:Nat
 b:Nat
 deriving DecidableEq,Inhabited
def keyV (k:PKey):Value:= .agg #[.int .i64 k.rt,.int .i64 k.stk,.int .i64 k.a,.int .i64 k.b]
def PKey.ok (k:PKey):Prop:=k.rt≤1000000∧k.stk≤1000000∧k.a≤1000000∧k.b≤1000000
theorem keyV_inj {x y:PKey} (h:keyV x=keyV y):x=y:=by
 obtain⟨a,b,c,d⟩:=x
 obtain⟨a',b',c',d'⟩:=y
 unfold keyV at h
 injection h with h
 simp only[Array.mk.injEq,List.cons.injEq,Value.int.injEq,true_and,and_true]at h
 simp only[PKey.mk.injEq]
 omega
theorem wf64 {x:Nat} (h:x≤1000000):(Lit.int .i64 (x:Int)).wf=true:=by
 have e1:IntKind.i64.min= -9223372036854775808:=by decide
 have e2:IntKind.i64.max=9223372036854775807:=by decide
 simp only[Lit.wf,e1,e2,Bool.and_eq_true,decide_eq_true_eq]
 omega
theorem lits64 {d:Nat} (hd:0<d) {x:Nat} (h:x≤1000000):Tryz.prog.keyLits d 3 [.int .i64 x]=some [.int .i64 x]:=by
 obtain⟨d,rfl⟩:∃e,d=e+1:=⟨d-1,by omega⟩
 simp only[Program.keyLits,Tryz.underlying3]
 simp[wf64 h]
theorem keyOf_keyV {k:PKey} (h:k.ok):∃l,keyOf Tryz.prog 273 (keyV k)=some l:=by
 obtain⟨h1,h2,h3,h4⟩:=h
 have hk:Tryz.prog.keyType 273=true:=by kernel_rfl
 have hc:Tryz.prog.cellsOf 273=4:=by kernel_rfl
 have hc1:Tryz.prog.cellsOf 3=1:=by kernel_rfl
 have hd:0<Tryz.prog.types.size:=of_decide_eq_true (by kernel_rfl)
 have hf:(keyV k).formed Tryz.prog 273=true:=by
  unfold keyV Value.formed
  simp only[Tryz.underlying273,hc]
  rfl
 have hl:∃ls,Tryz.prog.keyLits (Tryz.prog.types.size+1) 273 (keyV k).cells.toList=some ls:=by
  generalize Tryz.prog.types.size=d at hd
  simp only[Program.keyLits,Tryz.underlying273]
  rw[if_pos (by rw[hc];exact⟨rfl,by kernel_rfl⟩)]
  have e0:(keyV k).cells.toList=[.int .i64 k.rt,.int .i64 k.stk,.int .i64 k.a,.int .i64 k.b]:=rfl
  rw[e0]
  simp[hc1,lits64 hd h1,lits64 hd h2,lits64 hd h3,lits64 hd h4]
 obtain⟨ls,hls⟩:=hl
 unfold keyOf
 simp only[Tryz.underlying273,hk,hf,Bool.and_self,if_true]
 exact⟨_,by rw[hls];rfl⟩
theorem partLaw:WideMaps.KeyLaw Tryz.prog 273:=deep_law (m:=2) (by omega) (by kernel_rfl) (by kernel_rfl) (by simp only[Tryz.underlying273])
def PrV (v:Value) (p:Prof):Prop:=∃(AN AE AC:Option Addr) (nN cN nE cE nC cC:Nat),v= .agg #[.int .i64 p.frm,.int .i64 p.to,.slice AN nN cN,.slice AE nE cE,.slice AC nC cC,.int .i64 p.ovl,.int .i64 p.run]
def PrM (F:PKey→Prof) (w:World) (r:Nat):Prop:=∃es clock,w.heap[r]? =some (.map es clock)∧(es.toList.map (·.key)).Nodup∧∀e∈es.toList,∃k:PKey,k.ok∧e.key=keyV k∧PrV e.val (F k)
def PrO (v:Value):Prop:=∃(x0 x1 x5 x6:Int) (AN AE AC:Option Addr) (nN cN nE cE nC cC:Nat),v= .agg #[.int .i64 x0,.int .i64 x1,.slice AN nN cN,.slice AE nE cE,.slice AC nC cC,.int .i64 x5,.int .i64 x6]
section
variable {F:PKey→Prof} {w w':World} {r:Nat}
theorem PrM.lt (h:PrM F w r):r<w.heap.size:=by
 obtain⟨es,clock,h1,_⟩:=h;exact(Array.getElem?_eq_some_iff.1 h1).1
theorem PrM.kept {C:Foot} (h:PrM F w r) (k:Keeps C w w') (hn:¬C r):PrM F w' r:=by
 have hl:=h.lt
 obtain⟨es,clock,h1,h2⟩:=h;exact⟨es,clock,(k.block r hl hn).trans h1,h2⟩
theorem PrM.new (F:PKey→Prof) (w:World):PrM F (w.alloc (.map #[] 0)) w.heap.size:=⟨#[],0,heap_alloc_new w _,by simp,by simp⟩
theorem key_same {es:List MapEntry} (hn:(es.map (·.key)).Nodup) {i j:Nat} {a b:MapEntry} (hi:es[i]? =some a) (hj:es[j]? =some b) (e:a.key=b.key):i=j:=by
 have h:=List.pairwise_iff_getElem.1 hn
 obtain⟨li,ei⟩:=List.getElem?_eq_some_iff.1 hi
 obtain⟨lj,ej⟩:=List.getElem?_eq_some_iff.1 hj
 rcases Nat.lt_trichotomy i j with g|g|g
 ·exact absurd (by rw[List.getElem_map,List.getElem_map,ei,ej,e]) (h i j (by simpa using li) (by simpa using lj) g)
 ·exact g
 ·exact absurd (by rw[List.getElem_map,List.getElem_map,ei,ej,e]) (h j i (by simpa using lj) (by simpa using li) g)
theorem PrM.find {k:PKey} (hk:k.ok) {es:Array MapEntry} (hn:(es.toList.map (·.key)).Nodup) (h3:∀e∈es.toList,∃k:PKey,k.ok∧e.key=keyV k∧PrV e.val (F k)):
  ((∀e∈es.toList,e.key≠keyV k)∧∀W:World,(Instr.findKey 273 (keyV k) es.toList).run Tryz.prog W= .ok none W)∨∃j v,PrV v (F k)∧∀W:World,(Instr.findKey 273 (keyV k) es.toList).run Tryz.prog W= .ok (some (j,v)) W:=by
 obtain⟨l,hl'⟩:=keyOf_keyV hk
 have hf:=fun W=>partLaw.find W hl' es.toList (fun e he=>by
  obtain⟨x,hx,hxe,_⟩:=h3 e he
  rw[hxe]
  exact keyOf_keyV hx)
 by_cases hin:∃e∈es.toList,e.key=keyV k
 ·right
  obtain⟨e0,he0,hek⟩:=hin
  obtain⟨x,hx,hxe,hv⟩:=h3 e0 he0
  obtain rfl:=keyV_inj (hxe.symm.trans hek)
  obtain⟨j,hj,hjm⟩:=List.getElem_of_mem he0
  refine⟨j,e0.val,hv,fun W=> ?_⟩
  rcases hf W with⟨_,q2⟩|⟨j',e',q1,q2,q3⟩
  ·exact absurd hek (q2 e0 he0)
  ·have hj2:es.toList[j]? =some e0:=by rw[List.getElem?_eq_getElem hj,hjm]
   obtain rfl:=key_same hn q2 hj2 (q3.trans hek.symm)
   have q4:=Option.some.inj (hj2.symm.trans q2)
   rw[q1,q4]
 ·left
  refine⟨fun e he g=>hin ⟨e,he,g⟩,fun W=> ?_⟩
  rcases hf W with⟨q1,_⟩|⟨j',e',q1,q2,q3⟩
  ·exact q1
  ·exact absurd ⟨e',List.mem_of_getElem? q2,q3⟩ hin
def prZ:Value:= .agg #[.int .i64 0,.int .i64 0,.slice none 0 0,.slice none 0 0,.slice none 0 0,.int .i64 0,.int .i64 0]
theorem PrV.o {v:Value} {p:Prof} (h:PrV v p):PrO v:=by
 obtain⟨AN,AE,AC,nN,cN,nE,cE,nC,cC,rfl⟩:=h
 exact⟨_,_,_,_,_,_,_,_,_,_,_,_,_,rfl⟩
theorem PrM.lookup (h:PrM F w r) {k:PKey} (hk:k.ok):∃v b,(∀W:World,W.heap[r]? =w.heap[r]?→(Instr.lookup 146 (.map (some r)) (keyV k) true).run Tryz.prog W= .ok (.tuple #[v,.bool b]) W)∧(b=true→PrV v (F k))∧PrO v∧
  (b=false→∀(W:World) (u:Value),W.heap[r]? =w.heap[r]?→PrV u (F k)→∃w',(Instr.mapUpdate 146 (.map (some r)) (keyV k) u).run Tryz.prog W= .ok () w'∧PrM F w' r∧Keeps (·=r) W w'∧w'.heap.size=W.heap.size):=by
 obtain⟨es,clock,h1,hn,h3⟩:=id h
 obtain⟨l,hl'⟩:=keyOf_keyV hk
 have hc:∀(W:World) (em:Bool),(Instr.checkKey em 10000 273 (keyV k)).run Tryz.prog W= .ok () W:=fun W em=>partLaw.check W _ hl'
 have hg:∀W:World,W.heap[r]? =w.heap[r]?→(getObj r).run Tryz.prog W= .ok (.map es clock) W:=fun W hW=>by simp[getObj,Sem.run,hW,h1]
 rcases PrM.find hk hn h3 with⟨q1,q2⟩|⟨j,v,hv,q2⟩
 ·refine⟨prZ,false,fun W hW=>by simp[Instr.lookup,run_underlying Tryz.underlying146,hg W hW,hc,q2,prZ],by simp,⟨_,_,_,_,_,_,_,_,_,_,_,_,_,rfl⟩,fun _ W u hW hu=> ?_⟩
  have hs:∀o,(setObj r o).run Tryz.prog W= .ok () {W with heap:=W.heap.setIfInBounds r o}:=fun o=>by simp[setObj,Sem.run,hW,h1]
  have hlt:r<W.heap.size:=(Array.getElem?_eq_some_iff.1 (hW.trans h1)).1
  have kk:∀o,Keeps (·=r) W {W with heap:=W.heap.setIfInBounds r o}:=fun o=>⟨rfl,rfl,rfl,by simp,fun i _ hn=>by simp[Ne.symm hn]⟩
  have hnew:∀o,({W with heap:=W.heap.setIfInBounds r o}:World).heap[r]? =some o:=fun o=>by simp[hlt]
  refine⟨{W with heap:=W.heap.setIfInBounds r (.map (es.push {key:=keyV k,val:=u,born:=clock}) (clock+1))},by simp[Instr.mapUpdate,run_underlying Tryz.underlying146,hg W hW,hc,q2,hs],⟨_,_,hnew _,?_,?_⟩,kk _,by simp⟩
  ·rw[Array.toList_push,List.map_append,List.map_singleton]
   refine List.nodup_append.2 ⟨hn,by simp,fun a ha b hb=> ?_⟩
   simp at hb
   subst hb
   obtain⟨e,he,rfl⟩:=List.mem_map.1 ha
   exact q1 e he
  ·intro e he
   simp at he
   rcases he with he|rfl
   ·exact h3 e (by simpa using he)
   ·exact⟨k,hk,rfl,hu⟩
 ·exact⟨v,true,fun W hW=>by simp[Instr.lookup,run_underlying Tryz.underlying146,hg W hW,hc,q2],fun _=>hv,hv.o,by simp⟩
end
theorem keepsA7 {w0 w:World} {g:Nat} (h:KeepsAll w0 w) (hq:w0.heap.size≤g) (u0 u1 u2 u3 u4 u5 u6:Value):KeepsAll w0 (((((((w.setCell ⟨g,0,none⟩ u0).setCell ⟨g,1,none⟩ u1).setCell ⟨g,2,none⟩ u2).setCell ⟨g,3,none⟩ u3).setCell ⟨g,4,none⟩ u4).setCell ⟨g,5,none⟩ u5).setCell ⟨g,6,none⟩ u6):=
 (keeps_put7 (C:=fun x=>¬x<w0.heap.size) (h.mono fun _ _ h=>h.elim) (by omega) _ _ _ _ _ _ _).mono fun x hx e=>e hx
end
section
open Go.RowKit
theorem stkD_atR {c:Cas} {i:Int} (h0:0≤i) (h1:i<c.stks.length):c.stks[i.toNat]? =some (stkD c i):=by
 unfold stkD
 rw[List.getD_eq_getElem?_getD,List.getElem?_eq_getElem (by omega)];rfl
set_option maxRecDepth 100000 in
set_option maxHeartbeats 8000000 in
theorem rprofile39_any (c:Cas) (v:CV) (t k a b:Nat) (m:Mis) (d:Dut) (w:World) (h:RCas w (Old w) v c) (hlen:LayLen c.lay) (hm:c.miss[t]? =some m) (hd:m.dts[k]? =some d) (h0:0≤d.rt) (h1:d.rt<c.rous.length) (hs0:0≤m.stk) (hs1:m.stk<c.stks.length)
  (hmot:motErr c.lay (rouD c d.rt) (stkD c m.stk)=0) (hab:a<b) (hb:(b:Int)≤lastR (rouD c d.rt)):
  Calls Tryz.prog 58 #[.agg (v.cs c),.int .i64 (t:Int),.int .i64 (k:Int),.int .i64 (a:Int),.int .i64 (b:Int)] w fun e w'=>∃vN vE vC,
   e= .returned (.agg #[.int .i64 (a:Int),.int .i64 (b:Int),vN,vE,vC,.int .i64 (profC c d.rt m.stk a b).ovl,.int .i64 (profC c d.rt m.stk a b).run])∧KeepsAll w w'∧
   RInts w' (Fresh w w') [vN] (profC c d.rt m.stk a b).need∧RInts w' (Fresh w w') [vE] (profC c d.rt m.stk a b).ent∧RInts w' (Fresh w w') [vC] (profC c d.rt m.stk a b).clr:=by
 have hcm:=h.miss.caps
 have hcr:=h.rous.caps
 have hcs:=h.stks.caps
 have htl:=(List.getElem?_eq_some_iff.1 hm).1
 have hkl:=(List.getElem?_eq_some_iff.1 hd).1
 obtain⟨bm,om,m',Ad,cd,eM,hbm,hm',m0,m1,hdu⟩:=h.miss.at_ htl
 obtain rfl:=Option.some.inj (hm'.symm.trans hm)
 have hcd:=hdu.caps
 obtain⟨bd,od,d',eD,hbd,hd',d0,d1,d2⟩:=hdu.at_ hkl
 obtain rfl:=Option.some.inj (hd'.symm.trans hd)
 obtain⟨i,hi⟩:=Int.eq_ofNat_of_zero_le h0
 have hil:i<c.rous.length:=by omega
 obtain⟨br,or,r',Ar,cr,eR,hbr,hr',r0,r1,hst⟩:=h.rous.at_ hil
 have hrd:=rouD_at (c:=c) h0 h1
 rw[hi,Int.toNat_natCast]at hrd
 obtain rfl:=Option.some.inj (hr'.symm.trans hrd)
 obtain⟨q,hq⟩:=Int.eq_ofNat_of_zero_le hs0
 have hql:q<c.stks.length:=by omega
 obtain⟨bs,os,s',eS,hbs,hs',s0,s1,s2,s3,s4⟩:=h.stks.at_ hql
 have hsd:=stkD_atR (c:=c) hs0 hs1
 rw[hq,Int.toNat_natCast]at hsd
 obtain rfl:=Option.some.inj (hs'.symm.trans hsd)
 have HLY:=Lib.hid h.lay
 have HST:=Lib.hid hst
 have HMK:=Lib.hid (fun A' c' W k1 k2=>rmake_any c.lay v.lv (rouD c d'.rt) (stkD c m'.stk) A' c' a b W k1 k2 hlen hmot hab hb)
 have HPF:Hid (profC c d'.rt m'.stk a b=profP (pcesOf c.lay (rouD c d'.rt)) (stkD c m'.stk) (decide (0<(rouD c d'.rt).ov)) a b):=rfl
 rw[←HPF.out]at HMK
 rw[hi,hq]at HMK HPF⊢
 rw[hi]at d0
 rw[hq]at m0
 have hbm':bm<w.heap.size:=hbm
 have hbd':bd<w.heap.size:=hbd
 have hbr':br<w.heap.size:=hbr
 have hbs':bs<w.heap.size:=hbs
 obtain⟨lv,B1,B2,B3,dd1,dd2,dd3⟩:=v
 simp only[]at eM eD eR eS hcm hcr hcs HLY HMK
 subst eM eD eR eS
 unfold LV.cs at HMK
 unfold CV.cs
 simp only[]at HMK⊢
 clear h hm hd hm' hd' hdu hr' hst hrd hi h0 h1 hbm hbd hbr hbs hs' hsd hq hs0 hs1 hmot
 generalize profC c (i:Int) (q:Int) a b=pf at*
 generalize rouD c (i:Int)=r at*
 generalize stkD c (q:Int)=s at*
 obtain⟨sn,sl,sv,sa,sb⟩:=s
 unfold stkC at HMK
 simp only[]at HMK s0 s1 s2 s3 s4
 clear HPF
 go_enter Tryz.func58,Tryz.ntmps58
 go_upto_region 2 with fail
 generalize hW1:World.alloc w _=W1
 have K1:Hid (KeepsAll w W1):=by subst hW1;exact(Keeps.refl _ _).alloc _
 have B1':Hid (Blk W1 w.heap.size 32 #[.slice lv.A1 c.lay.sts.length lv.c1,.slice lv.A2 c.lay.pts.length lv.c2,.slice lv.A3 c.lay.secs.length lv.c3,.slice lv.A4 c.lay.lks.length lv.c4,.slice (some ⟨bs,os,none⟩) c.stks.length dd1,.slice (some ⟨br,or,none⟩) c.rous.length dd2,.slice (some ⟨bm,om,none⟩) c.miss.length dd3]):=by subst hW1;exact Blk.new _ _ _
 have hz1:W1.heap.size=w.heap.size+1:=by subst hW1;simp
 clear hW1
 generalize hN:w.heap.size=N at*
 generalize hW:World.alloc (World.alloc W1 _) _=W
 have K0:Hid (KeepsAll w W):=by subst hW;exact(K1.out.alloc _).alloc _
 have BC:Hid (Blk W N 32 #[.slice lv.A1 c.lay.sts.length lv.c1,.slice lv.A2 c.lay.pts.length lv.c2,.slice lv.A3 c.lay.secs.length lv.c3,.slice lv.A4 c.lay.lks.length lv.c4,.slice (some ⟨bs,os,none⟩) c.stks.length dd1,.slice (some ⟨br,or,none⟩) c.rous.length dd2,.slice (some ⟨bm,om,none⟩) c.miss.length dd3]):=by subst hW;exact(B1'.out.alloc _).alloc _
 have BZ:Hid (Blk W (N+1) 99 #[.int .i64 0,.int .i64 0,.slice none 0 0,.slice none 0 0,.slice none 0 0,.int .i64 0,.int .i64 0]):=by subst hW;exact(Blk.new' _ _ _ hz1.symm).alloc _
 have BM:Hid (Blk W (N+1+1) 36 #[.int .i64 (q:Int),.slice (some ⟨bd,od,none⟩) m'.dts.length cd]):=by subst hW;exact Blk.new' _ _ _ (by simp[hz1])
 clear hW K1 B1' hz1
 have c0:=BC.out.cell 0
 have c1:=BC.out.cell 1
 have c2:=BC.out.cell 2
 have c3:=BC.out.cell 3
 have c4:=BC.out.cell 4
 have c5:=BC.out.cell 5
 have e0:=BM.out.cell 0
 have e1:=BM.out.cell 1
 simp at c0 c1 c2 c3 c4 c5 e0 e1
 have y0:=Ext.cell c0
 have y1:=Ext.cell c1
 have y2:=Ext.cell c2
 have y3:=Ext.cell c3
 have y4:=Ext.cell c4
 have y5:=Ext.cell c5
 have y6:=Ext.cell e0
 have y7:=Ext.cell e1
 have y8:=Ext.cell (K0.out.cellA (by show bd<_;omega) d0)
 have y9:=Ext.cell (K0.out.cellA (by show br<_;omega) r0)
 have y10:=Ext.cell (K0.out.cellA (by show br<_;omega) r1)
 have y11:=Ext.cell (K0.out.cellA (by show bs<_;omega) s0)
 have y12:=Ext.cell (K0.out.cellA (by show bs<_;omega) s1)
 have y13:=Ext.cell (K0.out.cellA (by show bs<_;omega) s2)
 have y14:=Ext.cell (K0.out.cellA (by show bs<_;omega) s3)
 have y15:=Ext.cell (K0.out.cellA (by show bs<_;omega) s4)
 have hNW:N+1+1<W.heap.size:=BM.out.lt
 clear c0 c1 c2 c3 c4 c5 e0 e1
 go_cut [12]from 14 (fun s wx=>∃(z:Nat) (AN AE AC:Option Addr) (cN cE cC:Nat),s= .pointer (some ⟨z,0,none⟩)∧Blk wx z 99 #[.int .i64 a,.int .i64 b,.slice AN pf.need.length cN,.slice AE pf.ent.length cE,.slice AC pf.clr.length cC,.int .i64 pf.ovl,.int .i64 pf.run]∧
  RInts wx (fun x=>W.heap.size≤x∧x<wx.heap.size) [.slice AN pf.need.length cN] pf.need∧RInts wx (fun x=>W.heap.size≤x∧x<wx.heap.size) [.slice AE pf.ent.length cE] pf.ent∧RInts wx (fun x=>W.heap.size≤x∧x<wx.heap.size) [.slice AC pf.clr.length cC] pf.clr∧KeepsAll W wx)
 case first=>
  refine wp_region_forkG (fun w'=>∃x:Ext W,w'=x.val) [0,1,2,3,4,5,6,7,8,9,10,11,12,13,14,15,16,17,18,19] [21,22,23,25,26] [21,22,23,24,25,26] 20 24 (by kernel_rfl) (by kernel_rfl) ⟨⟨_,(Keeps.refl _ _).drew⟩,rfl⟩ ?_
  iterate 20 (refine lexK_q _ rfl rfl rfl ?_;go_big_quiet_step (fail);refine wpQuiet_nil ?_)
  clear y0 y1 y2 y3 y4 y5 y6 y7 y8 y9 y10 y11 y12 y13 y14 y15
  have KD:KeepsAll W W.drew:=(Keeps.refl _ _).drew
  generalize W.drew=wd at*
  refine⟨?_,?_⟩
  ·refine lex_a _ rfl rfl true (by kernel_rfl) ?_
   go_wp2_with fail
   refine(HMK.out _ _ wd (HLY.out.kept (K0.out.trA KD)) ((K0.out.trA KD).rdA (RSlice.ok RStp.ok) HST.out)).mono ?_
   rintro e w6 ⟨vN,vE,vC,rfl,k6,i1,i2,i3⟩
   obtain⟨AN,cN,rfl⟩:=i1.form
   obtain⟨AE,cE,rfl⟩:=i2.form
   obtain⟨AC,cC,rfl⟩:=i3.form
   have KK:=KD.trA k6
   have hd6:=KD.size
   go_wp2
   refine⟨fun _=>⟨⟨_,KK⟩,rfl⟩,?_⟩
   iterate 3 (refine lex_q _ rfl rfl rfl ?_;go_big_quiet_step (fail);refine wpQuiet_nil ?_)
   refine lex_a _ rfl rfl true (by kernel_rfl) ?_
   go_wp2
   refine⟨fun _=>⟨⟨_,KK.alloc _⟩,rfl⟩,?_⟩
   refine lex_a _ rfl rfl true (by kernel_rfl) ?_
   go_wp2
   refine⟨fun _=>⟨⟨_,KK.alloc _⟩,rfl⟩,?_⟩
   refine lex_q _ rfl rfl rfl ?_
   go_big_quiet_step (fail)
   refine wpQuiet_nil ?_
   simp only[wpLex]
   refine NoPanic.normal ?_
   go_wp2_with fail
   go_meet
   have rr:∀v l,RInts w6 (Fresh wd w6) [v] l→∀o,RInts (w6.alloc o) (fun x=>W.heap.size≤x∧x<(w6.alloc o).heap.size) [v] l:=fun v l hv o=>
    ((Keeps.refl (fun _=>False) w6).alloc o).rd RInts.ok hv (fun x hx=>⟨hx.2,fun e=>e⟩) (fun x hx=>⟨Nat.le_trans hd6 hx.1,by have:=hx.2;simp;omega⟩)
   exact⟨_,AN,AE,AC,cN,cE,cC,rfl,Blk.new _ _ _,rr _ _ i1 _,rr _ _ i2 _,rr _ _ i3 _,KK.alloc _⟩
  ·refine lex_a _ rfl rfl true (by kernel_rfl) ?_
   go_wp2
   refine⟨fun _=>⟨⟨_,KD.alloc _⟩,rfl⟩,?_⟩
   generalize hwe:World.alloc wd _=we
   have KE:KeepsAll W we:=by subst hwe;exact KD.alloc _
   have BE:Blk we wd.heap.size 99 #[.int .i64 0,.int .i64 0,.slice none 0 0,.slice none 0 0,.slice none 0 0,.int .i64 0,.int .i64 0]:=by subst hwe;exact Blk.new _ _ _
   clear hwe
   refine lex_a _ rfl rfl true (by kernel_rfl) ?_
   go_wp2_with fail
   refine(HMK.out _ _ we (HLY.out.kept (K0.out.trA KE)) ((K0.out.trA KE).rdA (RSlice.ok RStp.ok) HST.out)).mono ?_
   rintro e w6 ⟨vN,vE,vC,rfl,k6,i1,i2,i3⟩
   obtain⟨AN,cN,rfl⟩:=i1.form
   obtain⟨AE,cE,rfl⟩:=i2.form
   obtain⟨AC,cC,rfl⟩:=i3.form
   have KK:=KE.trA k6
   have B6:=Lib.hid (BE.kept k6 (by simp))
   have g0:=B6.out.frozen 0
   have g1:=B6.out.frozen 1
   have g2:=B6.out.frozen 2
   have g3:=B6.out.frozen 3
   have g4:=B6.out.frozen 4
   have g5:=B6.out.frozen 5
   have g6:=B6.out.frozen 6
   have z0:=B6.out.cell 0
   have z1:=B6.out.cell 1
   have z2:=B6.out.cell 2
   have z3:=B6.out.cell 3
   have z4:=B6.out.cell 4
   have z5:=B6.out.cell 5
   have z6:=B6.out.cell 6
   simp at z0 z1 z2 z3 z4 z5 z6
   have hz6:=B6.out.lt
   have HEL:=BE.lt
   clear k6
   go_wp2
   refine⟨fun _=>⟨⟨_,KK⟩,rfl⟩,?_⟩
   iterate 3 (refine lex_q _ rfl rfl rfl ?_;go_big_quiet_step (fail);refine wpQuiet_nil ?_)
   refine lex_a _ rfl rfl true (by kernel_rfl) ?_
   go_wp2
   have hw1:W.heap.size≤wd.heap.size:=KD.size
   refine⟨fun _=>⟨⟨_,keepsA7 KK hw1 _ _ _ _ _ _ _⟩,rfl⟩,?_⟩
   generalize hW9:World.setCell (World.setCell (World.setCell (World.setCell (World.setCell (World.setCell (World.setCell w6 _ _) _ _) _ _) _ _) _ _) _ _) _ _=W9
   have KP9:Keeps (fun x=>x=wd.heap.size) w6 W9:=by subst hW9;exact keeps_put7 (C:=fun x=>x=wd.heap.size) (Keeps.refl _ _) rfl _ _ _ _ _ _ _
   have BP9:Blk W9 wd.heap.size 99 #[.int .i64 a,.int .i64 b,.slice AN pf.need.length cN,.slice AE pf.ent.length cE,.slice AC pf.clr.length cC,.int .i64 pf.ovl,.int .i64 pf.run]:=by subst hW9;exact blk_put7 B6.out _ _ _ _ _ _ _
   have KK9:KeepsAll W W9:=by subst hW9;exact keepsA7 KK hw1 _ _ _ _ _ _ _
   clear hW9 z0 z1 z2 z3 z4 z5 z6 g0 g1 g2 g3 g4 g5 g6 B6
   refine lex_q _ rfl rfl rfl ?_;go_big_quiet_step (fail);refine wpQuiet_nil ?_
   simp only[wpLex]
   refine NoPanic.normal ?_
   go_wp2_with fail
   go_meet
   have rr:∀v l,RInts w6 (Fresh we w6) [v] l→RInts W9 (fun x=>W.heap.size≤x∧x<W9.heap.size) [v] l:=fun v l hv=>
    KP9.rd RInts.ok hv (fun x hx=>⟨hx.2,fun e=>by have:=hx.1;omega⟩) (fun x hx=>⟨by have:=hx.1;omega,Nat.lt_of_lt_of_le hx.2 KP9.size⟩)
   exact⟨_,AN,AE,AC,cN,cE,cC,rfl,BP9,rr _ _ i1,rr _ _ i2,rr _ _ i3,KK9⟩
 case rest=>
  obtain⟨z,AN,AE,AC,cN,cE,cC,rfl,hbz,i1,i2,i3,kx⟩:=hcut
  have BX:=Lib.hid hbz
  have KX:=Lib.hid kx
  have BY:=Lib.hid (BZ.out.kept kx (by simp))
  have I1:=Lib.hid i1
  have I2:=Lib.hid i2
  have I3:=Lib.hid i3
  clear hbz kx i1 i2 i3 y0 y1 y2 y3 y4 y5 y6 y7 y8 y9 y10 y11 y12 y13 y14 y15
  have z0:=BX.out.cell 0
  have z1:=BX.out.cell 1
  have z2:=BX.out.cell 2
  have z3:=BX.out.cell 3
  have z4:=BX.out.cell 4
  have z5:=BX.out.cell 5
  have z6:=BX.out.cell 6
  have y0:=BY.out.cell 0
  have y1:=BY.out.cell 1
  have y2:=BY.out.cell 2
  have y3:=BY.out.cell 3
  have y4:=BY.out.cell 4
  have y5:=BY.out.cell 5
  have y6:=BY.out.cell 6
  simp at z0 z1 z2 z3 z4 z5 z6 y0 y1 y2 y3 y4 y5 y6
  have f0:=BY.out.frozen 0
  have f1:=BY.out.frozen 1
  have f2:=BY.out.frozen 2
  have f3:=BY.out.frozen 3
  have f4:=BY.out.frozen 4
  have f5:=BY.out.frozen 5
  have f6:=BY.out.frozen 6
  have hzx:=BX.out.lt
  have hzy:=BY.out.lt
  go_wp2_with fail
  generalize hW9:World.setCell (World.setCell (World.setCell (World.setCell (World.setCell (World.setCell (World.setCell wc _ _) _ _) _ _) _ _) _ _) _ _) _ _=W9
  have B9:Hid (Blk W9 (N+1) 99 #[.int .i64 a,.int .i64 b,.slice AN pf.need.length cN,.slice AE pf.ent.length cE,.slice AC pf.clr.length cC,.int .i64 pf.ovl,.int .i64 pf.run]):=by subst hW9;exact blk_put7 BY.out _ _ _ _ _ _ _
  have K9:Hid (Keeps (fun x=>x=N+1) wc W9):=by subst hW9;exact keeps_put7 (C:=fun x=>x=N+1) (Keeps.refl _ _) rfl _ _ _ _ _ _ _
  clear hW9 z0 z1 z2 z3 z4 z5 z6 y0 y1 y2 y3 y4 y5 y6 f0 f1 f2 f3 f4 f5 f6
  have z0:=B9.out.cell 0
  have z1:=B9.out.cell 1
  have z2:=B9.out.cell 2
  have z3:=B9.out.cell 3
  have z4:=B9.out.cell 4
  have z5:=B9.out.cell 5
  have z6:=B9.out.cell 6
  simp at z0 z1 z2 z3 z4 z5 z6
  refine bodyPost_ret (v:= .agg #[.int .i64 a,.int .i64 b,.slice AN pf.need.length cN,.slice AE pf.ent.length cE,.slice AC pf.clr.length cC,.int .i64 pf.ovl,.int .i64 pf.run]) (by simp[results,Tryz.results58,go_sem,z0,z1,z2,z3,z4,z5,z6]) rfl ?_
  have hsz:w.heap.size≤W.heap.size:=K0.out.size
  have rr:∀v l,RInts wc (fun x=>W.heap.size≤x∧x<wc.heap.size) [v] l→RInts W9 (Fresh w W9) [v] l:=fun v l hv=>
   K9.out.rd RInts.ok hv (fun x hx=>⟨hx.2,fun e=>by have:=hx.1;omega⟩) (fun x hx=>⟨by have:=hx.1;omega,Nat.lt_of_lt_of_le hx.2 K9.out.size⟩)
  exact⟨_,_,_,rfl,(K0.out.trA KX.out).trans K9.out (fun x hx e=>by omega),rr _ _ I1.out,rr _ _ I2.out,rr _ _ I3.out⟩
end
section
open Go.RowKit
set_option maxRecDepth 100000 in
set_option maxHeartbeats 8000000 in
theorem rfull_any (c:Cas) (v:CV) (t k:Nat) (m:Mis) (d:Dut) (w:World) (h:RCas w (Old w) v c) (hlen:LayLen c.lay) (hm:c.miss[t]? =some m) (hd:m.dts[k]? =some d) (h0:0≤d.rt) (h1:d.rt<c.rous.length) (hs0:0≤m.stk) (hs1:m.stk<c.stks.length)
  (hmot:motErr c.lay (rouD c d.rt) (stkD c m.stk)=0):
  Calls Tryz.prog 39 #[.agg (v.cs c),.int .i64 (t:Int),.int .i64 (k:Int)] w fun e w'=>∃u,e= .returned u∧PrV u (fullC c d.rt m.stk)∧KeepsAll w w':=by
 have hok:RouOk c.lay (rouD c d.rt):=(fitErr_ok (motErr_fit hmot)).rou
 have hl24:=hok.len
 have hv0:=hok.ov0
 have hv2:=hok.ov2
 have h2:=hok.two
 obtain⟨l,hl⟩:=Int.eq_ofNat_of_zero_le (by unfold lastR;omega:0≤lastR (rouD c d.rt))
 have hl1:0<l:=by unfold lastR at hl;omega
 have HLS:=Lib.hid (fun W q=>rlast39_any c v t k m d W q hm hd h0 h1 hv0 hv2 hl24)
 have HPR:=Lib.hid (fun W q=>rprofile39_any c v t k 0 l m d W q hlen hm hd h0 h1 hs0 hs1 hmot hl1 (by rw[hl];exact Int.le_refl _))
 have HFU:Hid (profC c d.rt m.stk 0 l=fullC c d.rt m.stk):=by show _=_;unfold fullC lastC;rw[hl];rfl
 rw[hl]at HLS
 rw[HFU.out,show((0:Nat):Int)=0 from rfl]at HPR
 have HTF:Hid ((fullC c d.rt m.stk).frm=0∧(fullC c d.rt m.stk).to=(l:Int)):=by rw[←HFU.out];exact⟨rfl,rfl⟩
 have HC:=Lib.hid h
 clear h hm hd hmot hl HFU
 obtain⟨lv,B1,B2,B3,dd1,dd2,dd3⟩:=v
 unfold CV.cs at HLS HPR⊢
 simp only[]at HLS HPR⊢
 generalize fullC c d.rt m.stk=pf at*
 go_enter Tryz.func39,Tryz.ntmps39
 go_upto_region 1 with fail
 generalize hN:w.heap.size=N at*
 generalize hW:World.alloc (World.alloc w _) _=W
 have K0:Hid (KeepsAll w W):=by subst hW;exact((Keeps.refl _ _).alloc _).alloc _
 have BC:Hid (Blk W N 32 #[.slice lv.A1 c.lay.sts.length lv.c1,.slice lv.A2 c.lay.pts.length lv.c2,.slice lv.A3 c.lay.secs.length lv.c3,.slice lv.A4 c.lay.lks.length lv.c4,.slice B1 c.stks.length dd1,.slice B2 c.rous.length dd2,.slice B3 c.miss.length dd3]):=by subst hW hN;exact(Blk.new _ _ _).alloc _
 have BZ:Hid (Blk W (N+1) 99 #[.int .i64 0,.int .i64 0,.slice none 0 0,.slice none 0 0,.slice none 0 0,.int .i64 0,.int .i64 0]):=by subst hW;exact Blk.new' _ _ _ (by simp[hN])
 clear hW
 have c0:=BC.out.cell 0
 have c1:=BC.out.cell 1
 have c2:=BC.out.cell 2
 have c3:=BC.out.cell 3
 have c4:=BC.out.cell 4
 have c5:=BC.out.cell 5
 have c6:=BC.out.cell 6
 simp at c0 c1 c2 c3 c4 c5 c6
 have y0:=Ext.cell c0
 have y1:=Ext.cell c1
 have y2:=Ext.cell c2
 have y3:=Ext.cell c3
 have y4:=Ext.cell c4
 have y5:=Ext.cell c5
 have y6:=Ext.cell c6
 clear c0 c1 c2 c3 c4 c5 c6
 refine wp_region_lexB (fun w'=>∃x:Ext W,w'=x.val) [0,1,2,3,4,5,6,7,8] (by kernel_rfl) (by kernel_rfl) ⟨⟨_,(Keeps.refl _ _).drew⟩,rfl⟩ ?_
 iterate 6 (refine lex_q _ rfl rfl rfl ?_;go_big_quiet_step (fail);refine wpQuiet_nil ?_)
 clear y0 y1 y2 y3 y4 y5 y6
 have KD:KeepsAll W W.drew:=(Keeps.refl _ _).drew
 generalize W.drew=wd at*
 refine lex_a _ rfl rfl true (by kernel_rfl) ?_
 go_wp2_with(go_at_call 37;refine(HLS.out wd (HC.out.kept (K0.out.trA KD))).mono ?_;rintro e w5 ⟨rfl,k5⟩)
 have K5:KeepsAll W w5:=KD.trA k5
 refine⟨fun _=>⟨⟨_,K5⟩,rfl⟩,?_⟩
 refine lex_a _ rfl rfl false (by kernel_rfl) ?_
 go_wp2_with(go_at_call 58;refine(HPR.out w5 (HC.out.kept (K0.out.trA K5))).mono ?_;rintro e w6 ⟨vN,vE,vC,rfl,k6,i1,i2,i3⟩)
 obtain⟨XN,dN,rfl⟩:=i1.form
 obtain⟨XE,dE,rfl⟩:=i2.form
 obtain⟨XC,dC,rfl⟩:=i3.form
 have K6:Hid (KeepsAll W w6):=K5.trA k6
 clear i1 i2 i3 k6 K5 k5 KD
 (try refine⟨fun h=>(by cases h),?_⟩)
 have BY:=Lib.hid (BZ.out.kept K6.out (by simp))
 have y0:=BY.out.cell 0
 have y1:=BY.out.cell 1
 have y2:=BY.out.cell 2
 have y3:=BY.out.cell 3
 have y4:=BY.out.cell 4
 have y5:=BY.out.cell 5
 have y6:=BY.out.cell 6
 simp at y0 y1 y2 y3 y4 y5 y6
 have f0:=BY.out.frozen 0
 have f1:=BY.out.frozen 1
 have f2:=BY.out.frozen 2
 have f3:=BY.out.frozen 3
 have f4:=BY.out.frozen 4
 have f5:=BY.out.frozen 5
 have f6:=BY.out.frozen 6
 have hzy:=BY.out.lt
 refine lex_a _ rfl rfl false (by kernel_rfl) ?_
 go_wp2
 (try refine⟨fun h=>(by cases h),?_⟩)
 simp only[wpLex]
 refine NoPanic.normal ?_
 generalize hW9:World.setCell (World.setCell (World.setCell (World.setCell (World.setCell (World.setCell (World.setCell w6 _ _) _ _) _ _) _ _) _ _) _ _) _ _=W9
 have B9:Hid (Blk W9 (N+1) 99 #[.int .i64 0,.int .i64 l,.slice XN pf.need.length dN,.slice XE pf.ent.length dE,.slice XC pf.clr.length dC,.int .i64 pf.ovl,.int .i64 pf.run]):=by subst hW9;exact blk_put7 BY.out _ _ _ _ _ _ _
 have K9:Hid (Keeps (fun x=>x=N+1) w6 W9):=by subst hW9;exact keeps_put7 (C:=fun x=>x=N+1) (Keeps.refl _ _) rfl _ _ _ _ _ _ _
 clear hW9 y0 y1 y2 y3 y4 y5 y6 f0 f1 f2 f3 f4 f5 f6
 have z0:=B9.out.cell 0
 have z1:=B9.out.cell 1
 have z2:=B9.out.cell 2
 have z3:=B9.out.cell 3
 have z4:=B9.out.cell 4
 have z5:=B9.out.cell 5
 have z6:=B9.out.cell 6
 simp at z0 z1 z2 z3 z4 z5 z6
 go_wp2_with fail
 refine bodyPost_ret (v:= .agg #[.int .i64 0,.int .i64 l,.slice XN pf.need.length dN,.slice XE pf.ent.length dE,.slice XC pf.clr.length dC,.int .i64 pf.ovl,.int .i64 pf.run]) (by simp[results,Tryz.results39,go_sem,z0,z1,z2,z3,z4,z5,z6]) rfl ?_
 obtain⟨e1,e2⟩:=HTF.out
 refine⟨_,rfl,?_,(K0.out.trA K6.out).trans K9.out (fun x hx e=>by omega)⟩
 unfold PrV
 rw[e1,e2]
 exact⟨_,_,_,_,_,_,_,_,_,rfl⟩
end
section
open Go.RowKit
theorem crsLen {L:Lay} {r:Rou} (h:LayLen L) (hr:RouOk L r):LayLen (crsLay L r):=by
 refine⟨by simp[crsLay],fun n hn=> ?_,fun s hs=> ?_⟩
 ·simp only[crsLay,List.mem_map]at hn
  obtain⟨p,hp,rfl⟩:=hn
  have:=hr.pd_range hp
  rw[List.getD_eq_getElem?_getD,List.getElem?_eq_getElem (by omega)]
  exact h.pts _ (List.getElem_mem _)
 ·simp only[crsLay,List.mem_map]at hs
  obtain⟨t,ht,rfl⟩:=hs
  obtain⟨i,hi,e⟩:=List.getElem_of_mem ht
  have hit:r.stps[i]? =some t:=by rw[List.getElem?_eq_getElem hi,e]
  exact h.secs (secD L t.sec) (List.mem_of_getElem? (hr.sec_at hit))
theorem stkD_at' {c:Cas} {i:Int} (h0:0≤i) (h1:i<c.stks.length):c.stks[i.toNat]? =some (stkD c i):=by
 unfold stkD
 rw[List.getD_eq_getElem?_getD,List.getElem?_eq_getElem (by omega)];rfl
theorem crsLast (r:Rou):lastR (crsRou r)=lastR r:=by unfold lastR crsRou;simp[tab_len]
structure MdW (c:Cas) (v:CV) (AC:Option Addr) (bC oC cC P M:Nat) (vM:Value) (w:World) (S:Foot):Prop where
 ac:0<c.rous.length→AC=some ⟨bC,oC,none⟩
 b:Blk w M 149 (mdC v c (.slice AC c.rous.length cC) (.map (some P)) vM)
 cas:RCas w S v c
 crs:RCrss c.lay w S [.slice AC c.rous.length cC] c.rous
 prf:PrM (fun k=>profC c k.rt k.stk k.a k.b) w P
def dtyC (bC oC i q:Nat) (dep dw:Int) (fst:Nat) (run:Int):Array Value:= #[.pointer (some ⟨bC,oC+i*9,none⟩),.int .i64 i,.int .i64 q,.int .i64 dep,.int .i64 dw,.int .i64 fst,.int .i64 run]
set_option maxRecDepth 100000 in
set_option maxHeartbeats 8000000 in
theorem profile_any (c:Cas) (v:CV) (AC:Option Addr) (bC oC cC P M i q a b fst:Nat) (dep dw run:Int) (vM:Value) (w:World) (h:MdW c v AC bC oC cC P M vM w (fun x=>x≠P∧x<w.heap.size)) (hlen:LayLen c.lay) (hi:i<c.rous.length) (hq:q<c.stks.length) (hi9:c.rous.length≤48) (hq9:c.stks.length≤8)
  (hmot:motErr c.lay (rouD c i) (stkD c q)=0) (hab:a<b) (hb:(b:Int)≤lastR (rouD c i)):
  Calls Tryz.prog 57 #[.pointer (some ⟨M,0,none⟩),.agg (dtyC bC oC i q dep dw fst run),.int .i64 (a:Int),.int .i64 (b:Int)] w fun e w'=>∃u,e= .returned u∧PrV u (profC c i q a b)∧Keeps (·=P) w w'∧PrM (fun k=>profC c k.rt k.stk k.a k.b) w' P:=by
 obtain rfl:=h.ac (by omega)
 have hok:RouOk c.lay (rouD c i):=(fitErr_ok (motErr_fit hmot)).rou
 have hl24:=hok.len
 have hv0:=hok.ov0
 have hb24:b≤24:=by unfold lastR at hb;omega
 have hkok:PKey.ok ⟨i,q,a,b⟩:=by refine⟨?_,?_,?_,?_⟩<;>(simp only[];omega)
 have HKV:Hid (keyV ⟨i,q,a,b⟩= .agg #[.int .i64 i,.int .i64 q,.int .i64 a,.int .i64 b]):=rfl
 have HMB:=Lib.hid h.b
 have HPM:=Lib.hid h.prf
 have HCS:=Lib.hid h.crs
 have HCA:=Lib.hid h.cas
 have hzM:=h.b.lt
 have hzP:=h.prf.lt
 clear h
 unfold dtyC
 go_enter Tryz.func57,Tryz.ntmps57
 go_upto_region 2 with fail
 generalize hN:w.heap.size=N at*
 generalize hW:World.alloc (World.alloc (World.alloc w _) _) _=W
 have K0:Hid (KeepsAll w W):=by subst hW;exact(((Keeps.refl _ _).alloc _).alloc _).alloc _
 have BD:Hid (Blk W N 153 #[.pointer (some ⟨bC,oC+i*9,none⟩),.int .i64 i,.int .i64 q,.int .i64 dep,.int .i64 dw,.int .i64 fst,.int .i64 run]):=by subst hW hN;exact((Blk.new _ _ _).alloc _).alloc _
 have BR:Hid (Blk W (N+1) 99 #[.int .i64 0,.int .i64 0,.slice none 0 0,.slice none 0 0,.slice none 0 0,.int .i64 0,.int .i64 0]):=by subst hW;exact(Blk.new' _ _ _ (by simp[hN])).alloc _
 have BK:Hid (Blk W (N+1+1) 273 #[.int .i64 i,.int .i64 q,.int .i64 a,.int .i64 b]):=by subst hW;exact Blk.new' _ _ _ (by simp[hN])
 have hWs:Hid (W.heap.size=N+1+1+1):=by subst hW;show _=_;simp[hN]
 clear hW
 have hzMw:M<w.heap.size:=by omega
 have hzPw:P<w.heap.size:=by omega
 have HM0:=Lib.hid (HMB.out.kept K0.out (by simp))
 have HP0:=Lib.hid (HPM.out.kept K0.out (by simp))
 obtain⟨vl,bl,hlk,hyes,hopen,hno⟩:=HP0.out.lookup hkok
 have HYES:=Lib.hid hyes
 have HNO:=Lib.hid hno
 rw[HKV.out]at hlk HNO
 obtain⟨x0,x1,x5,x6,AN,AE,AC,nN,cN,nE,cE,nC,cC',rfl⟩:=hopen
 clear hyes hno HMB HPM
 have m8:=HM0.out.cell 8
 have k0:=BK.out.cell 0
 have k1:=BK.out.cell 1
 have k2:=BK.out.cell 2
 have k3:=BK.out.cell 3
 simp[mdC]at m8 k0 k1 k2 k3
 have y0:=Ext.cell m8
 have y1:=Ext.cell k0
 have y2:=Ext.cell k1
 have y3:=Ext.cell k2
 have y4:=Ext.cell k3
 have hPW:P<W.heap.size:=HP0.out.lt
 have y5:∀x:Ext W,_:=fun x=>hlk x.val (x.keeps.block P hPW (by simp))
 clear hlk m8 k0 k1 k2 k3
 refine wp_region_lexB (fun w'=>∃x:Ext W,w'=x.val) [0,1,2,3,4,5,6,7,8,9,10,11] (by kernel_rfl) (by kernel_rfl) ⟨⟨_,(Keeps.refl _ _).drew⟩,rfl⟩ ?_
 refine lex_q _ rfl rfl rfl ?_;go_big_quiet_step (fail);refine wpQuiet_nil ?_
 refine lex_nil _ rfl _ rfl rfl _ rfl ?_;go_simp
 iterate 7 (refine lex_q _ rfl rfl rfl ?_;go_big_quiet_step (fail);refine wpQuiet_nil ?_)
 clear y0 y1 y2 y3 y4 y5
 refine lex_a _ rfl rfl true (by kernel_rfl) ?_
 go_wp2
 refine⟨fun _=>⟨⟨_,((Keeps.refl _ _).alloc _).drew⟩,rfl⟩,?_⟩
 generalize hWb:World.drew (World.alloc W _)=Wb
 have KB:Hid (KeepsAll W Wb):=by subst hWb;exact((Keeps.refl _ _).alloc _).drew
 have BB:Hid (Blk Wb (N+1+1+1) 99 #[.int .i64 0,.int .i64 0,.slice none 0 0,.slice none 0 0,.slice none 0 0,.int .i64 0,.int .i64 0]):=by subst hWb;exact Blk.new' _ _ _ hWs.out.symm
 clear hWb
 rw[hWs.out]
 have z0:=BB.out.cell 0
 have z1:=BB.out.cell 1
 have z2:=BB.out.cell 2
 have z3:=BB.out.cell 3
 have z4:=BB.out.cell 4
 have z5:=BB.out.cell 5
 have z6:=BB.out.cell 6
 simp at z0 z1 z2 z3 z4 z5 z6
 have f0:=BB.out.frozen 0
 have f1:=BB.out.frozen 1
 have f2:=BB.out.frozen 2
 have f3:=BB.out.frozen 3
 have f4:=BB.out.frozen 4
 have f5:=BB.out.frozen 5
 have f6:=BB.out.frozen 6
 have hzb:=BB.out.lt
 refine lex_a _ rfl rfl true (by kernel_rfl) ?_
 go_wp2
 refine⟨fun _=>⟨⟨_,keepsA7 KB.out (by have:=hWs.out;omega) _ _ _ _ _ _ _⟩,rfl⟩,?_⟩
 generalize hWc:World.setCell (World.setCell (World.setCell (World.setCell (World.setCell (World.setCell (World.setCell Wb _ _) _ _) _ _) _ _) _ _) _ _) _ _=Wc
 have KC:Hid (KeepsAll W Wc):=by subst hWc;exact keepsA7 KB.out (by have:=hWs.out;omega) _ _ _ _ _ _ _
 have BP:Hid (Blk Wc (N+1+1+1) 99 #[.int .i64 x0,.int .i64 x1,.slice AN nN cN,.slice AE nE cE,.slice AC nC cC',.int .i64 x5,.int .i64 x6]):=by subst hWc;exact blk_put7 BB.out _ _ _ _ _ _ _
 clear hWc z0 z1 z2 z3 z4 z5 z6 f0 f1 f2 f3 f4 f5 f6 KB BB hzb
 refine lex_q _ rfl rfl rfl ?_;go_big_quiet_step (fail);refine wpQuiet_nil ?_
 simp only[wpLex]
 refine NoPanic.normal ?_
 have BD1:=Lib.hid (BD.out.kept KC.out (by simp))
 have BR1:=Lib.hid (BR.out.kept KC.out (by simp))
 have BK1:=Lib.hid (BK.out.kept KC.out (by simp))
 have HM1:=Lib.hid (HM0.out.kept KC.out (by simp))
 have K1:=Lib.hid (K0.out.trA KC.out)
 have HHP:Hid (Wc.heap[P]? =W.heap[P]?):=KC.out.block P hPW (by simp)
 have hsz:N+1+1+1<Wc.heap.size:=BP.out.lt
 have HP1:=Lib.hid (HP0.out.kept KC.out (by simp))
 clear BD BR BK HM0 K0 KC HP0 hWs
 go_upto_if 29 with fail
 go_cut []from 28 to 60 (fun wx=>∃u:Array Value,PrV (.agg u) (profC c i q a b)∧Blk wx (N+1+1+1) 99 u∧Keeps (fun x=>x=P∨x=N+1+1+1) Wc wx∧PrM (fun k=>profC c k.rt k.stk k.a k.b) wx P)
 case first=>
  rcases bl with _|_
  rotate_left
  ·go_wp2_with fail
   go_meet
   exact⟨_,HYES.out (by trivial),BP.out,Keeps.refl _ _,HP1.out⟩
  ·obtain⟨bq,oq,r,es,hA,hbS,hr,h9,⟨A1,c1,A2,c2,A3,c3,v',rfl,-,-,hly,hst⟩,hce⟩:=HCS.out.get hi
   injection hA with hA1
   injection hA1 with hA1 hA2
   subst hA1 hA2
   have hrd:=rouD_at (c:=c) (i:=(i:Int)) (by omega) (by omega)
   rw[Int.toNat_natCast]at hrd
   obtain rfl:=Option.some.inj (hr.symm.trans hrd)
   obtain⟨bs,os,s,hAs,hbs,hs,s0,s1,s2,s3,s4⟩:=HCA.out.stks.at_ hq
   have hsd:s=stkD c q:=by
    have:=stkD_at' (c:=c) (i:=(q:Int)) (by omega) (by omega)
    rw[Int.toNat_natCast]at this
    exact Option.some.inj (hs.symm.trans this)
   subst hsd
   have HLY:Hid (RLay w (Old w) v' (crsLay c.lay (rouD c i))):=hly.mono (fun b hb=>by have:=hb.2;show b<w.heap.size;omega) (fun _ _=>rfl)
   have HST:Hid (RStps w (Old w) [.slice A3 (rouD c i).stps.length c3] (crsRou (rouD c i)).stps):=(RSlice.ok RStp.ok).mono hst (fun b hb=>by have:=hb.2;show b<w.heap.size;omega) (fun _ _=>rfl)
   have hcl:(crsRou (rouD c i)).stps.length=(rouD c i).stps.length:=tab_len _ _
   have HMK:=Lib.hid (fun W k1 k2=>motMake_any (crsLay c.lay (rouD c i)) v' (crsRou (rouD c i)) (stkD c q) A3 c3 a b W k1 k2 (crsLen hlen hok) (by rw[crs_mot hok];exact hmot) hab (by rw[crsLast];exact hb))
   rw[hcl,crs_pces]at HMK
   have HPF:Hid (profP (pcesOf c.lay (rouD c i)) (stkD c q) (decide (0<(crsRou (rouD c i)).ov)) a b=profC c i q a b):=rfl
   rw[HPF.out]at HMK
   have HOV:Hid ((crsRou (rouD c i)).ov=(rouD c i).ov):=rfl
   rw[HOV.out]at HMK
   have q3:=K1.out.cellA (by show bC<_;have:=hbS.2;omega) (hce 3 _ rfl)
   have q4:=K1.out.cellA (by show bC<_;have:=hbS.2;omega) (hce 4 _ rfl)
   have q5:=K1.out.cellA (by show bC<_;have:=hbS.2;omega) (hce 5 _ rfl)
   have q6:=K1.out.cellA (by show bC<_;have:=hbS.2;omega) (hce 6 _ rfl)
   have q7:=K1.out.cellA (by show bC<_;have:=hbS.2;omega) (hce 7 _ rfl)
   have q8:=K1.out.cellA (by show bC<_;have:=hbS.2;omega) (hce 8 _ rfl)
   rw[←Nat.add_assoc]at q3 q4 q5 q6 q7 q8
   replace s0:=K1.out.cellA (by show bs<_;have:=hbs.2;omega) s0
   replace s1:=K1.out.cellA (by show bs<_;have:=hbs.2;omega) s1
   replace s2:=K1.out.cellA (by show bs<_;have:=hbs.2;omega) s2
   replace s3:=K1.out.cellA (by show bs<_;have:=hbs.2;omega) s3
   replace s4:=K1.out.cellA (by show bs<_;have:=hbs.2;omega) s4
   obtain⟨lv,B1,B2,B3,dd1,dd2,dd3⟩:=v
   simp only[]at hAs
   subst hAs
   have m4:=HM1.out.cell 4
   have d0:=BD1.out.cell 0
   have d2:=BD1.out.cell 2
   simp[mdC]at m4 d0 d2
   have hcs9:=HCA.out.stks.caps
   simp only[]at hcs9
   have hbsN:=hbs.2
   have hbCN:=hbS.2
   have y0:=ExtC.cell (C:=fun b=>b=N+1+1+1) m4 (by show¬M=_;omega)
   have y1:=ExtC.cell (C:=fun b=>b=N+1+1+1) d0 (by show¬N=_;omega)
   have y2:=ExtC.cell (C:=fun b=>b=N+1+1+1) d2 (by show¬N=_;omega)
   have y3:=ExtC.cell (C:=fun b=>b=N+1+1+1) q3 (by show¬bC=_;omega)
   have y4:=ExtC.cell (C:=fun b=>b=N+1+1+1) q4 (by show¬bC=_;omega)
   have y5:=ExtC.cell (C:=fun b=>b=N+1+1+1) q5 (by show¬bC=_;omega)
   have y6:=ExtC.cell (C:=fun b=>b=N+1+1+1) q6 (by show¬bC=_;omega)
   have y7:=ExtC.cell (C:=fun b=>b=N+1+1+1) q7 (by show¬bC=_;omega)
   have y8:=ExtC.cell (C:=fun b=>b=N+1+1+1) q8 (by show¬bC=_;omega)
   have y9:=ExtC.cell (C:=fun b=>b=N+1+1+1) s0 (by show¬bs=_;omega)
   have y10:=ExtC.cell (C:=fun b=>b=N+1+1+1) s1 (by show¬bs=_;omega)
   have y11:=ExtC.cell (C:=fun b=>b=N+1+1+1) s2 (by show¬bs=_;omega)
   have y12:=ExtC.cell (C:=fun b=>b=N+1+1+1) s3 (by show¬bs=_;omega)
   have y13:=ExtC.cell (C:=fun b=>b=N+1+1+1) s4 (by show¬bs=_;omega)
   clear hly hst hce h9 hr hrd hs q3 q4 q5 q6 q7 q8 s0 s1 s2 s3 s4 m4 d0 d2 hcl HOV
   go_upto_region 4 with fail
   generalize stkD c q=st at*
   obtain⟨sn,sl,sv,sa,sb⟩:=st
   unfold stkC at HMK
   unfold LV.cs at HMK
   simp only[]at HMK y9 y10 y11 y12 y13
   refine wp_region_lexB (fun w'=>∃x:ExtC (fun b=>b=N+1+1+1) Wc,w'=x.val) [0,1,2,3,4,5,6,7,8,9,10,11,12,13,14,15,16,17,18,19,20,21,22,23,24,25] (by kernel_rfl) (by kernel_rfl) (ExtC.start _ _) ?_
   iterate 2 (refine lex_q _ rfl rfl rfl ?_;go_big_quiet_step (fail);refine wpQuiet_nil ?_)
   refine lex_nil _ rfl _ rfl rfl _ rfl ?_;go_simp
   iterate 4 (refine lex_q _ rfl rfl rfl ?_;go_big_quiet_step (fail);refine wpQuiet_nil ?_)
   refine lex_nil _ rfl _ rfl rfl _ rfl ?_;go_simp
   iterate 3 (refine lex_q _ rfl rfl rfl ?_;go_big_quiet_step (fail);refine wpQuiet_nil ?_)
   refine lex_nil _ rfl _ rfl rfl _ rfl ?_;go_simp
   iterate 9 (refine lex_q _ rfl rfl rfl ?_;go_big_quiet_step (fail);refine wpQuiet_nil ?_)
   clear y0 y1 y2 y3 y4 y5 y6 y7 y8 y9 y10 y11 y12 y13
   have KD:KeepsAll Wc Wc.drew:=(Keeps.refl _ _).drew
   generalize Wc.drew=wd at*
   refine lex_a _ rfl rfl true (by kernel_rfl) ?_
   go_wp2_with(go_at_call 142;refine(HMK.out wd (HLY.out.kept (K1.out.trA KD)) ((K1.out.trA KD).rdA (RSlice.ok RStp.ok) HST.out)).mono ?_;rintro e w6 ⟨vN,vE,vC,rfl,k6,i1,i2,i3⟩)
   obtain⟨XN,dN,rfl⟩:=i1.form
   obtain⟨XE,dE,rfl⟩:=i2.form
   obtain⟨XC,dC,rfl⟩:=i3.form
   have K6:Hid (KeepsAll Wc w6):=KD.trA k6
   have HFT:Hid ((profC c i q a b).frm=(a:Int)∧(profC c i q a b).to=(b:Int)):=⟨rfl,rfl⟩
   clear i1 i2 i3 k6 HMK HPF HCS HCA HYES HLY HST
   generalize profC c i q a b=pf at*
   refine⟨fun _=>⟨⟨_,K6.out.mono (C:=fun b=>b=N+1+1+1) fun _ _ h=>h.elim⟩,rfl⟩,?_⟩
   iterate 3 (refine lex_q _ rfl rfl rfl ?_;go_big_quiet_step (fail);refine wpQuiet_nil ?_)
   have B6:=Lib.hid (BP.out.kept K6.out (by simp))
   have z0:=B6.out.cell 0
   have z1:=B6.out.cell 1
   have z2:=B6.out.cell 2
   have z3:=B6.out.cell 3
   have z4:=B6.out.cell 4
   have z5:=B6.out.cell 5
   have z6:=B6.out.cell 6
   simp at z0 z1 z2 z3 z4 z5 z6
   have f0:=B6.out.frozen 0
   have f1:=B6.out.frozen 1
   have f2:=B6.out.frozen 2
   have f3:=B6.out.frozen 3
   have f4:=B6.out.frozen 4
   have f5:=B6.out.frozen 5
   have f6:=B6.out.frozen 6
   have hzb:=B6.out.lt
   refine lex_a _ rfl rfl true (by kernel_rfl) ?_
   go_wp2
   refine⟨fun _=>⟨⟨_,keeps_put7 (C:=fun x=>x=N+1+1+1) (K6.out.mono fun _ _ h=>h.elim) rfl _ _ _ _ _ _ _⟩,rfl⟩,?_⟩
   simp only[wpLex]
   refine NoPanic.normal ?_
   generalize hW7:World.setCell (World.setCell (World.setCell (World.setCell (World.setCell (World.setCell (World.setCell w6 _ _) _ _) _ _) _ _) _ _) _ _) _ _=W7
   have K7:Hid (Keeps (fun x=>x=N+1+1+1) Wc W7):=by subst hW7;exact keeps_put7 (C:=fun x=>x=N+1+1+1) (K6.out.mono fun _ _ h=>h.elim) rfl _ _ _ _ _ _ _
   have B7:Hid (Blk W7 (N+1+1+1) 99 #[.int .i64 a,.int .i64 b,.slice XN pf.need.length dN,.slice XE pf.ent.length dE,.slice XC pf.clr.length dC,.int .i64 pf.ovl,.int .i64 pf.run]):=by subst hW7;exact blk_put7 B6.out _ _ _ _ _ _ _
   clear hW7 z0 z1 z2 z3 z4 z5 z6 f0 f1 f2 f3 f4 f5 f6 B6 K6 hzb
   have HM7:=Lib.hid (HM1.out.kept K7.out (by omega))
   have BK7:=Lib.hid (BK1.out.kept K7.out (by omega))
   go_upto_region 5 with fail
   have m8:=HM7.out.cell 8
   have k0:=BK7.out.cell 0
   have k1:=BK7.out.cell 1
   have k2:=BK7.out.cell 2
   have k3:=BK7.out.cell 3
   have z0:=B7.out.cell 0
   have z1:=B7.out.cell 1
   have z2:=B7.out.cell 2
   have z3:=B7.out.cell 3
   have z4:=B7.out.cell 4
   have z5:=B7.out.cell 5
   have z6:=B7.out.cell 6
   simp[mdC]at m8 k0 k1 k2 k3 z0 z1 z2 z3 z4 z5 z6
   have y0:=Ext.cell m8
   have y1:=Ext.cell k0
   have y2:=Ext.cell k1
   have y3:=Ext.cell k2
   have y4:=Ext.cell k3
   have y5:=Ext.cell z0
   have y6:=Ext.cell z1
   have y7:=Ext.cell z2
   have y8:=Ext.cell z3
   have y9:=Ext.cell z4
   have y10:=Ext.cell z5
   have y11:=Ext.cell z6
   refine wp_region_lexB (fun w'=>∃x:Ext W7,w'=x.val) [0,1,2,3,4,5,6] (by kernel_rfl) (by kernel_rfl) ⟨⟨_,(Keeps.refl _ _).drew⟩,rfl⟩ ?_
   refine lex_q _ rfl rfl rfl ?_;go_big_quiet_step (fail);refine wpQuiet_nil ?_
   refine lex_nil _ rfl _ rfl rfl _ rfl ?_;go_simp
   iterate 4 (refine lex_q _ rfl rfl rfl ?_;go_big_quiet_step (fail);refine wpQuiet_nil ?_)
   clear y0 y1 y2 y3 y4 y5 y6 y7 y8 y9 y10 y11 m8 k0 k1 k2 k3 z0 z1 z2 z3 z4 z5 z6
   have KE:Hid (KeepsAll W7 W7.drew):=(Keeps.refl _ _).drew
   generalize W7.drew=we at*
   have HPVV:PrV (.agg #[.int .i64 a,.int .i64 b,.slice XN pf.need.length dN,.slice XE pf.ent.length dE,.slice XC pf.clr.length dC,.int .i64 pf.ovl,.int .i64 pf.run]) pf:=by
    obtain⟨e1,e2⟩:=HFT.out
    unfold PrV
    rw[e1,e2]
    exact⟨_,_,_,_,_,_,_,_,_,rfl⟩
   have hpwc:P<Wc.heap.size:=HP1.out.lt
   obtain⟨wm,hrun,hm,hkm,-⟩:=HNO.out (by trivial) we _ ((KE.out.block P (Nat.lt_of_lt_of_le hpwc K7.out.size) (by simp)).trans ((K7.out.block P hpwc (by show¬P=_;omega)).trans HHP.out)) HPVV
   have HPV:=Lib.hid HPVV
   have HMP:=Lib.hid hm
   have HKM:=Lib.hid hkm
   clear hm hkm HPVV HNO
   refine lex_a _ rfl rfl false (by kernel_rfl) ?_
   go_wp2
   (try refine⟨fun h=>(by cases h),?_⟩)
   simp only[wpLex]
   refine NoPanic.normal ?_
   go_wp2_with fail
   go_meet
   exact⟨_,HPV.out,(B7.out.kept KE.out (by simp)).kept HKM.out (by omega),((K7.out.mono (C:=fun x=>x=P∨x=N+1+1+1) (fun _ _ e=> .inr e)).trans KE.out (fun _ _ h=>h.elim)).trans HKM.out (fun _ _ e=> .inl e),HMP.out⟩
 case rest=>
  obtain⟨u,hpv,hbx,hkx,hpx⟩:=hcut
  have HPV:=Lib.hid hpv
  obtain⟨BN,BE,BC,n1,d1,n2,d2,n3,d3,he⟩:=hpv
  obtain rfl:=Value.agg.inj he
  clear he HYES HNO HCS HCA
  generalize hpf:profC c i q a b=pf at HPV
  have HPF:=Lib.hid hpf
  clear hpf
  rw[HPF.out]at hbx
  have BX:=Lib.hid hbx
  have HPX:=Lib.hid hpx
  have KX:=Lib.hid hkx
  have BY:=Lib.hid (BR1.out.kept hkx (by omega))
  clear hbx hpx hkx
  have z0:=BX.out.cell 0
  have z1:=BX.out.cell 1
  have z2:=BX.out.cell 2
  have z3:=BX.out.cell 3
  have z4:=BX.out.cell 4
  have z5:=BX.out.cell 5
  have z6:=BX.out.cell 6
  have y0:=BY.out.cell 0
  have y1:=BY.out.cell 1
  have y2:=BY.out.cell 2
  have y3:=BY.out.cell 3
  have y4:=BY.out.cell 4
  have y5:=BY.out.cell 5
  have y6:=BY.out.cell 6
  simp at z0 z1 z2 z3 z4 z5 z6 y0 y1 y2 y3 y4 y5 y6
  have f0:=BY.out.frozen 0
  have f1:=BY.out.frozen 1
  have f2:=BY.out.frozen 2
  have f3:=BY.out.frozen 3
  have f4:=BY.out.frozen 4
  have f5:=BY.out.frozen 5
  have f6:=BY.out.frozen 6
  have hzx:=BX.out.lt
  have hzy:=BY.out.lt
  go_wp2_with fail
  generalize hW9:World.setCell (World.setCell (World.setCell (World.setCell (World.setCell (World.setCell (World.setCell wc _ _) _ _) _ _) _ _) _ _) _ _) _ _=W9
  have B9:Hid (Blk W9 (N+1) 99 #[.int .i64 pf.frm,.int .i64 pf.to,.slice BN n1 d1,.slice BE n2 d2,.slice BC n3 d3,.int .i64 pf.ovl,.int .i64 pf.run]):=by subst hW9;exact blk_put7 BY.out _ _ _ _ _ _ _
  have K9:Hid (Keeps (fun x=>x=N+1) wc W9):=by subst hW9;exact keeps_put7 (C:=fun x=>x=N+1) (Keeps.refl _ _) rfl _ _ _ _ _ _ _
  clear hW9 z0 z1 z2 z3 z4 z5 z6 y0 y1 y2 y3 y4 y5 y6 f0 f1 f2 f3 f4 f5 f6
  have z0:=B9.out.cell 0
  have z1:=B9.out.cell 1
  have z2:=B9.out.cell 2
  have z3:=B9.out.cell 3
  have z4:=B9.out.cell 4
  have z5:=B9.out.cell 5
  have z6:=B9.out.cell 6
  simp at z0 z1 z2 z3 z4 z5 z6
  refine bodyPost_ret (v:= .agg #[.int .i64 pf.frm,.int .i64 pf.to,.slice BN n1 d1,.slice BE n2 d2,.slice BC n3 d3,.int .i64 pf.ovl,.int .i64 pf.run]) (by simp[results,Tryz.results57,go_sem,z0,z1,z2,z3,z4,z5,z6]) rfl ?_
  exact⟨_,rfl,by rw[HPF.out];exact HPV.out,((K1.out.mono (C:=fun x=>x=P) fun _ _ h=>h.elim).trans KX.out (fun x hx e=>by rcases e with e|e<;>omega)).trans K9.out (fun x hx e=>by omega),HPX.out.kept K9.out (by omega)⟩
end
section
open Go.RowKit
def OwnI (base:Nat) (w:World) (v:Value) (Q:World→Prop):Prop:=
 (∀b,v.ownBlock=some b→base≤b∧b<w.heap.size)∧∀(w':World) (C:Foot),Keeps C w w'→(∀b,v.ownBlock=some b→¬C b)→Q w'
section
variable {base:Nat} {w w':World} {v:Value} {Q:World→Prop}
theorem OwnI.of {α:Type} {t size:Nat} {E:Rd α} {l:List α} (hF:Rd.Flt E) (h:OwnL t size E w base base v l):OwnI base w v fun x=>OwnL t size E x base base v l:=
 ⟨fun _ hb=>h.lt hb,fun _ _ k hC=>h.keepsT hF k hC⟩
theorem OwnI.now (h:OwnI base w v Q):Q w:=h.2 w (fun _=>False) (Keeps.refl _ _) (fun _ _ e=>e)
theorem OwnI.kept (h:OwnI base w v Q) {C:Foot} (k:Keeps C w w') (hC:∀b,v.ownBlock=some b→¬C b):OwnI base w' v Q:=
 ⟨fun b hb=>⟨(h.1 b hb).1,Nat.lt_of_lt_of_le (h.1 b hb).2 k.size⟩,fun w2 C2 k2 h2=>h.2 w2 (fun b=>C b∨C2 b) ((k.mono (C:=fun b=>C b∨C2 b) (fun _ _ e=> .inl e)).trans k2 (fun _ _ e=> .inr e)) (fun b hb e=>by
  rcases e with e|e
  ·exact hC b hb e
  ·exact h2 b hb e)⟩
end
def OwnDis (p q:Value×(World→Prop)):Prop:=∀x,p.1.ownBlock=some x→q.1.ownBlock≠some x
structure Grw (W0 wr:World) (z t:Nat) (cs:Array Value) (is:List (Value×(World→Prop))):Prop where
 k:Keeps (fun x=>x=z) W0 wr
 b:Blk wr z t cs
 o:∀p∈is,OwnI W0.heap.size wr p.1 p.2
 d:is.Pairwise OwnDis
section
variable {W0 wr w5 w9:World} {z t:Nat} {cs:Array Value} {is pre post:List (Value×(World→Prop))} {v v':Value} {Q Q':World→Prop}
theorem Grw.keep (h:Grw W0 wr z t cs is) (k:KeepsAll wr w5):Grw W0 w5 z t cs is:=
 ⟨h.k.trans k (fun _ _ e=>e.elim),h.b.kept k (by simp),fun p hp=>(h.o p hp).kept k (fun _ _ e=>e),h.d⟩
theorem Grw.dis (h:Grw W0 wr z t cs (pre++(v,Q)::post)) {p:Value×(World→Prop)} (hp:p∈pre∨p∈post):∀x,v.ownBlock=some x→p.1.ownBlock≠some x:=by
 have hd:=List.pairwise_append.1 h.d
 intro x hx e
 rcases hp with hp|hp
 ·exact hd.2.2 p hp (v,Q) (by simp) x e hx
 ·exact(List.pairwise_cons.1 hd.2.1).1 p hp x hx e
theorem Grw.swap (h:Grw W0 wr z t cs (pre++(v,Q)::post)) (ho:OwnI W0.heap.size w9 v' Q') (hk:Keeps (fun x=>v.ownBlock=some x) wr w9) (hn:v'.ownBlock=v.ownBlock∨v'.ownBlock=some wr.heap.size) (hz:z<W0.heap.size):
  Grw W0 w9 z t cs (pre++(v',Q')::post):=by
 have hv:=h.o (v,Q) (by simp)
 have hL:∀x,v.ownBlock=some x→W0.heap.size≤x:=fun x hx=>(hv.1 x hx).1
 have hnew:∀p,(p∈pre∨p∈post)→∀x,v'.ownBlock=some x→p.1.ownBlock≠some x:=by
  intro p hp x hx e
  rcases hn with e2|e2
  ·rw[e2]at hx;exact h.dis hp x hx e
  ·rw[e2]at hx
   injection hx with hx
   have hpm:p∈pre++(v,Q)::post:=by
    rcases hp with hp|hp
    ·exact List.mem_append_left _ hp
    ·exact List.mem_append_right _ (List.mem_cons_of_mem _ hp)
   have:=((h.o p hpm).1 x e).2
   omega
 refine⟨h.k.trans hk (fun x hx e=>by have:=hL x e;omega),h.b.kept hk (fun e=>by have:=hL z e;omega),fun p hp=> ?_,?_⟩
 ·rcases List.mem_append.1 hp with hp|hp
  ·exact(h.o p (List.mem_append_left _ hp)).kept hk (fun x hx e=>h.dis (.inl hp) x e hx)
  ·rcases List.mem_cons.1 hp with rfl|hp
   ·exact ho
   ·exact(h.o p (List.mem_append_right _ (List.mem_cons_of_mem _ hp))).kept hk (fun x hx e=>h.dis (.inr hp) x e hx)
 ·have hd:=List.pairwise_append.1 h.d
  have hd2:=List.pairwise_cons.1 hd.2.1
  refine List.pairwise_append.2 ⟨hd.1,List.pairwise_cons.2 ⟨fun p hp x hx=>hnew p (.inr hp) x hx,hd2.2⟩,fun a ha b hb x hx e=> ?_⟩
  rcases List.mem_cons.1 hb with rfl|hb
  ·exact hnew a (.inl ha) x e hx
  ·exact hd.2.2 a ha b (List.mem_cons_of_mem _ hb) x hx e
theorem Grw.cell (h:Grw W0 wr z t cs is) (hz:z<W0.heap.size) (off:Nat) (u:Value):Grw W0 (wr.setCell ⟨z,off,none⟩ u) z t (cs.setIfInBounds off u) is:=by
 have k1:Keeps (fun x=>x=z) wr (wr.setCell ⟨z,off,none⟩ u):=(Keeps.refl (fun x=>x=z) wr).setCell (p:=⟨z,off,none⟩) (fun _=>rfl) _
 exact⟨h.k.trans k1 (fun _ _ e=>e),h.b.set_ off u,fun p hp=>(h.o p hp).kept k1 (fun x hx e=>by have:=((h.o p hp).1 x hx).1;have e:x=z:=e;omega),h.d⟩
theorem Grw.itm (h:Grw W0 wr z t cs is) {i:Nat} (hi:is[i]? =some (v,Q)):Q wr:=(h.o _ (List.mem_of_getElem? hi)).now
theorem Grw.itmK (h:Grw W0 wr z t cs is) {i:Nat} (hi:is[i]? =some (v,Q)) {C:Foot} (k:Keeps C wr w5) (hC:∀b,W0.heap.size≤b→¬C b):Q w5:=
 (h.o _ (List.mem_of_getElem? hi)).2 w5 C k fun b e=>hC b ((h.o _ (List.mem_of_getElem? hi)).1 b e).1
theorem Grw.far (h:Grw W0 wr z t cs is) {C:Foot} (k:Keeps C wr w5) (h0:∀b,b<W0.heap.size→¬C b) (hC:∀p∈is,∀b,p.1.ownBlock=some b→¬C b) (hz:z<W0.heap.size):Grw W0 w5 z t cs is:=
 ⟨h.k.trans k (fun b hb e=>(h0 b hb e).elim),h.b.kept k (h0 z hz),fun p hp=>(h.o p hp).kept k (hC p hp),h.d⟩
theorem Grw.ne (h:Grw W0 wr z t cs is) {i:Nat} (hi:is[i]? =some (v,Q)) {b:Nat} (hb:b<W0.heap.size):¬v.ownBlock=some b:=fun e=>by
 have:=((h.o _ (List.mem_of_getElem? hi)).1 b e).1
 omega
theorem Grw.own_lt (h:Grw W0 wr z t cs is) {i:Nat} (hi:is[i]? =some (v,Q)) {b:Nat} (e:v.ownBlock=some b):b<wr.heap.size:=((h.o _ (List.mem_of_getElem? hi)).1 b e).2
theorem Grw.splitI {x:Value×(World→Prop)} {i:Nat} (hi:is[i]? =some x):is=is.take i++x::is.drop (i+1)∧∀y,is.set i y=is.take i++y::is.drop (i+1):=by
 obtain⟨hl,he⟩:=List.getElem?_eq_some_iff.1 hi
 refine⟨?_,fun y=>List.set_eq_take_append_cons_drop.trans (if_pos hl)⟩
 rw[←he,List.getElem_cons_drop hl,List.take_append_drop]
theorem Grw.swapI (h:Grw W0 wr z t cs is) {i:Nat} (hi:is[i]? =some (v,Q)) (ho:OwnI W0.heap.size w9 v' Q') (hk:Keeps (fun x=>v.ownBlock=some x) wr w9) (hn:v'.ownBlock=v.ownBlock∨v'.ownBlock=some wr.heap.size) (hz:z<W0.heap.size):
  Grw W0 w9 z t cs (is.set i (v',Q')):=by
 obtain⟨e1,e2⟩:=Grw.splitI hi
 rw[e2]
 rw[e1]at h
 exact h.swap ho hk hn hz
theorem Grw.putI (h:Grw W0 wr z t cs is) {i:Nat} (hi:is[i]? =some (v,Q)) (ho:OwnI W0.heap.size w9 v' Q') (hk:Keeps (fun x=>v.ownBlock=some x) wr w9) (hn:v'.ownBlock=v.ownBlock∨v'.ownBlock=some wr.heap.size) (hz:z<W0.heap.size) (off:Nat):
 Grw W0 (w9.setCell ⟨z,off,none⟩ v') z t (cs.setIfInBounds off v') (is.set i (v',Q')):=(h.swapI hi ho hk hn hz).cell hz off v'
end
end
end Go.Proofs.YtcbcegdidlefiaaGreat
