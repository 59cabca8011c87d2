/- Rows of elements of several cells: copying, making; contract of slices.Repeat at one cell of a run. Conditions: as each theorem says. Contract of Cells of a route (program). Conditions: as the theorem says. Square roots: the program's bit by bit and the reference's by halves. No program in sight. -/
import Derived.Test.YtcbcegdidlefiaaGreatK01
import Derived.Test.YtcbcegdidlefiaaGreatK06
import Derived.Test.YtcbcegdidlefiaaGreatK08
import Derived.Test.YtcbcegdidlefiaaGreatK05
namespace Go.Proofs.YtcbcegdidlefiaaGreat
section
open Go.RowKit
theorem run_copy_rowK {P:Program} (w:World) (dT sT ty elem:TypeId) (k g o dLen dCap:Nat) (a:Addr) (sLen sCap:Nat) (cur:Array Value) (t:TypeId) (cs:List Value)
  (hu:P.underlying dT=some (.slice elem)) (hs:(P.info? elem).map (·.size)=some k)
  (hg:w.heap[g]? =some (.cells cur t (0,0))) (hn:cs.length=Nat.min sLen dLen*k)
  (hsrc:∀j v,cs[j]? =some v→w.cell? (a.add j)=some v) (hfit:o+cs.length≤cur.size) (h1:∀v∈cs,v.oneCell'=true):
  (Builtin.copy_ #[dT,sT] ty #[.slice (some ⟨g,o,none⟩) dLen dCap,.slice (some a) sLen sCap]).run P w=
   .ok (goInt (Nat.min sLen dLen)) (w.setRow g (cur.toList.take o++cs++cur.toList.drop (o+cs.length)).toArray):=by
 have hl:=run_loadCells_list (P:=P) w a cs hsrc
 have hst:=run_storeCells_at P g o t cs 0 cur w hg (by simpa using hfit) h1
 cases hq:P.info? elem with
 |none=>simp[hq]at hs
 |some i=>
  have hi:i.size=k:=by simpa[hq]using hs
  simp[Builtin.copy_,run_underlying hu,Builtin.lenOf,Builtin.firstCells,sizeOf,typeInfo,hq,hi,←hn,hl,hst]
def flatE (e:List Value) (n:Nat):List Value:=(List.replicate n e).flatten
theorem flatE_len (e:List Value) (n:Nat):(flatE e n).length=n*e.length:=by
 induction n with
 |zero=>simp[flatE]
 |succ n ih=>unfold flatE at ih⊢;rw[List.replicate_succ,List.flatten_cons,List.length_append,ih,Nat.succ_mul];omega
theorem flatE_add (e:List Value) (m n:Nat):flatE e m++flatE e n=flatE e (m+n):=by
 unfold flatE;rw[←List.flatten_append,List.replicate_append_replicate]
theorem flatE_mem {e:List Value} {n:Nat} {v:Value} (h:v∈flatE e n):v∈e:=by
 unfold flatE at h
 obtain⟨l,hl,hv⟩:=List.mem_flatten.1 h
 rw[List.eq_of_mem_replicate hl]at hv;exact hv
theorem flatE_at {e:List Value} {n j:Nat} (hj:j<n*e.length):(flatE e n)[j]? =e[j%e.length]? :=by
 have hp:0<e.length:=by
  rcases Nat.eq_zero_or_pos e.length with h|h;·rw[h]at hj;simp at hj
  exact h
 have hd:j=(j/e.length)*e.length+j%e.length:=by rw[Nat.mul_comm];exact(Nat.div_add_mod j e.length).symm
 have hq:j/e.length<n:=Nat.div_lt_of_lt_mul (by rw[Nat.mul_comm];exact hj)
 conv=>lhs;rw[hd]
 unfold flatE
 exact flatten_at (fun es hes=>by rw[List.eq_of_mem_replicate hes]) (by simp[hq]) (Nat.mod_lt _ hp)
theorem madeCells_flat (z:Array Value) (n:Nat) (hz:0<z.size):madeCells z (n*z.size)=(flatE z.toList n).toArray:=by
 apply Array.ext'
 apply List.ext_getElem?
 intro j
 simp only[madeCells]
 rcases Nat.lt_or_ge j (n*z.size)with hj|hj
 ·rw[flatE_at (by simpa using hj)]
  have hm:j%z.size<z.size:=Nat.mod_lt _ hz
  simp[hj,getElem!_pos,hm]
 ·rw[List.getElem?_eq_none (by simpa using hj),List.getElem?_eq_none (by rw[flatE_len];simpa using hj)]
def repE (e z:List Value) (n k:Nat):Array Value:=(flatE e k++flatE z (n-k)).toArray
theorem repE_size {e z:List Value} {n k:Nat} (hz:z.length=e.length) (h:k≤n):(repE e z n k).size=n*e.length:=by
 unfold repE
 rw[List.size_toArray,List.length_append,flatE_len,flatE_len,hz,←Nat.add_mul]
 congr 1;omega
theorem repE_copy {e z:List Value} (hz:z.length=e.length) {n k m:Nat} (h:k+m≤n):
  ((repE e z n k).toList.take (k*e.length)++flatE e m++(repE e z n k).toList.drop (k*e.length+(flatE e m).length)).toArray=repE e z n (k+m):=by
 unfold repE
 simp only[]
 rw[List.take_append_of_le_length (by rw[flatE_len];omega),List.take_of_length_le (by rw[flatE_len];omega),flatE_add,flatE_len,
  List.drop_append,List.drop_of_length_le (by rw[flatE_len];omega),List.nil_append,flatE_len]
 congr 1
 congr 1
 rw[show k*e.length+m*e.length-k*e.length=m*e.length by omega]
 rw[show n-k=m+(n-(k+m))by omega,←flatE_add,List.drop_append_of_le_length (by rw[flatE_len,hz];omega),List.drop_of_length_le (by rw[flatE_len,hz];omega),List.nil_append]
theorem repE_at {e z:List Value} {n k j:Nat} (h:j<k*e.length):(repE e z n k)[j]? =e[j%e.length]? :=by
 unfold repE
 rw[List.getElem?_toArray,List.getElem?_append_left (by rw[flatE_len];exact h),flatE_at h]
theorem mkCels (n:Nat) (hn:n≤1000000) (W:World):(Instr.makeSlice 311 (.int .i64 (n:Int)) (.int .i64 (n:Int))).run Tryz.prog W= .ok (.slice (some ⟨W.heap.size,0,none⟩) n n) (W.alloc (.cells (flatE [.int .i64 0,.int .i64 0] n).toArray 415)):=by
 have hinf:(Tryz.prog.info? 415).map (fun i=>(i.zero,i.size,i.bytes))=some (some (.agg #[.int .i64 0,.int .i64 0]),2,16):=by kernel_rfl
 obtain⟨i,hi,hz,hs,hb⟩:=info_parts hinf
 have h:=run_make (P:=Tryz.prog) W 311 415 i _ Tryz.underlying311 hi hz .i64 .i64 n n (by omega) (by omega) (by rw[hb];omega) (by omega)
 rw[h]
 simp only[Int.toNat_natCast]
 rw[hs,show n*2=n*(Value.agg #[.int .i64 0,.int .i64 0]).cells.size from rfl,madeCells_flat _ _ (by decide)]
 rfl
theorem repE_all (e z:List Value) (n:Nat):repE e z n n=(flatE e n).toArray:=by unfold repE;simp[flatE]
theorem repE_none (e z:List Value) (n:Nat):repE e z n 0=(flatE z n).toArray:=by unfold repE;simp[flatE]
set_option maxRecDepth 100000 in
set_option maxHeartbeats 2000000 in
theorem Repeat_cel (x:Cel) (n:Nat) (h1:1≤n) (hn:n≤1000) (b:Nat) (w:World) (hb0:w.cell? ⟨b,0,none⟩=some (.int .i64 x.lim)) (hb1:w.cell? ⟨b,1,none⟩=some (.int .i64 x.grd)) (hbl:b<w.heap.size):
  Calls Tryz.prog 474 #[.slice (some ⟨b,0,none⟩) 1 1,.int .i64 (n:Int)] w fun e w'=>∃g,e= .returned (.slice (some ⟨g,0,none⟩) n n)∧w.heap.size≤g∧Blk w' g 415 (flatE [.int .i64 x.lim,.int .i64 x.grd] n).toArray∧KeepsAll w w':=by
 obtain⟨xl,xg⟩:=x
 simp only[]at hb0 hb1⊢
 have HM:=Lib.hid (Mul_one n hn w)
 have hmk:=mkCels n (by omega)
 have hn0:decide ((n:Int)<0)=false:=by simp
 have hwU:=wrapU n (by omega)
 have hwI:IntKind.i64.wrap (n:Int)=(n:Int):=IntWalk.i64_in _ (by omega)
 have hbig:decide ((n:Int)>9223372036854775807)=false:=by simp;omega
 have ADD:∀(g o j:Nat),(Addr.mk g o none).add j=⟨g,o+j,none⟩:=fun g o j=>by unfold Addr.add;split<;>simp_all
 have HC1:Hid (∀ty,(Builtin.copy_ #[311,311] ty #[.slice (some ⟨w.heap.size,0,none⟩) n n,.slice (some ⟨b,0,none⟩) 1 1]).run Tryz.prog (w.alloc (.cells (flatE [.int .i64 0,.int .i64 0] n).toArray 415))= .ok (goInt 1) ((w.alloc (.cells (flatE [.int .i64 0,.int .i64 0] n).toArray 415)).setRow w.heap.size (repE [.int .i64 xl,.int .i64 xg] [.int .i64 0,.int .i64 0] n 1))):=fun ty=>by
  have q:=run_copy_rowK (P:=Tryz.prog) (w.alloc (.cells (flatE [.int .i64 0,.int .i64 0] n).toArray 415)) 311 311 ty 415 2 w.heap.size 0 n n ⟨b,0,none⟩ 1 1 (flatE [.int .i64 0,.int .i64 0] n).toArray 415 (flatE [.int .i64 xl,.int .i64 xg] 1) Tryz.underlying311 (by kernel_rfl) (Blk.new _ _ _) (by rw[flatE_len,show Nat.min 1 n=1 by simp[Nat.min];omega];rfl) (fun j v hj=>by
   rw[ADD,Nat.zero_add]
   refine(World.cell?_alloc_lt w _ ⟨b,j,none⟩ hbl).trans ?_
   have hj2:j<2:=by have:=getElem?_lt hj;simpa[flatE_len]using this
   rcases(by omega:j=0∨j=1)with rfl|rfl
   ·rw[hb0,←hj];rfl
   ·rw[hb1,←hj];rfl) (by rw[List.size_toArray,flatE_len,flatE_len];simp;omega) (fun v hv=>by have:=flatE_mem hv;simp at this;rcases this with rfl|rfl<;>rfl)
  rw[q,show Nat.min 1 n=1 by simp[Nat.min];omega]
  have e:=repE_copy (e:=[.int .i64 xl,.int .i64 xg]) (z:=[.int .i64 0,.int .i64 0]) rfl (n:=n) (k:=0) (m:=1) (by omega)
  rw[repE_none]at e
  simp only[Nat.zero_mul,Nat.zero_add]at e⊢
  rw[e];rfl
 have hc1:=HC1.out
 go_enter Tryz.func474,Tryz.ntmps474
 go_wp2_with(go_at_call 422;refine HM.out.mono ?_;rintro e w' ⟨rfl,rfl⟩)
 generalize hW:World.setRow _ _ _=W
 have BN:Hid (Blk W w.heap.size 415 (repE [.int .i64 xl,.int .i64 xg] [.int .i64 0,.int .i64 0] n 1)):=by subst hW;exact(Blk.new w _ _).setRow _
 have KW:Hid (KeepsAll w W):=by subst hW;exact((Keeps.refl (fun _=>False) w).alloc _).trans (Keeps.setRow _ _ _) (fun y hy e=>by omega)
 clear hW hc1 HC1 hmk HM hb0 hb1 hbl hn0 hwU hbig
 generalize hE:([.int .i64 xl,.int .i64 xg]:List Value)=E at*
 generalize hZ:([.int .i64 0,.int .i64 0]:List Value)=Z at*
 have hEl:E.length=2:=by rw[←hE];rfl
 have hZl:Z.length=E.length:=by rw[hEl,←hZ];rfl
 have HE1:Hid (∀v∈E,v.oneCell'=true):=fun v hv=>by rw[←hE]at hv;simp at hv;rcases hv with rfl|rfl<;>rfl
 have HEQ:=Lib.hid hE
 clear hE hZ
 generalize hN:w.heap.size=N at*
 have HN:=Lib.hid hN
 clear hN
 go_loopw [8] (fun v wr=>∃k:Nat,1≤k∧k≤n∧v= .int .i64 (k:Int)∧Blk wr N 415 (repE E Z n k)∧KeepsAll w wr) (fun v _=>n-(intOf v).toNat)
 case atStart=>exact⟨1,Nat.le_refl _,h1,rfl,BN.out,KW.out⟩
 case round=>
  obtain⟨k,hk1,hk,rfl,hbk,hkr⟩:=hrel
  have KR:=Lib.hid hkr;clear hkr
  have HB:=Lib.hid hbk;clear hbk
  by_cases hlt:k<n
  ·obtain⟨m,hm⟩:∃m,m=Nat.min k (n-k):=⟨_,rfl⟩
   have hmm:m=min k (n-k):=hm
   have hm1:1≤m:=by omega
   have hm2:k+m≤n:=by omega
   have HC2:Hid (∀(W:World) ty,Blk W N 415 (repE E Z n k)→(Builtin.copy_ #[311,311] ty #[.slice (some ⟨N,k*2,none⟩) (n-k) (n-k),.slice (some ⟨N,0,none⟩) k n]).run Tryz.prog W= .ok (goInt m) (W.setRow N (repE E Z n (k+m)))):=fun W ty hW=>by
    have q:=run_copy_rowK (P:=Tryz.prog) W 311 311 ty 415 2 N (k*2) (n-k) (n-k) ⟨N,0,none⟩ k n (repE E Z n k) 415 (flatE E m) Tryz.underlying311 (by kernel_rfl) hW (by rw[flatE_len,hEl,←hm]) (fun j v hj=>by
     have hjm:j<m*E.length:=by have:=getElem?_lt hj;rwa[flatE_len]at this
     have hmk:m≤k:=by rw[hm];exact Nat.min_le_left _ _
     have hjk:j<k*E.length:=Nat.lt_of_lt_of_le hjm (Nat.mul_le_mul_right _ hmk)
     rw[ADD,Nat.zero_add,hW.cell j,repE_at hjk,←flatE_at hjm,hj]) (by rw[repE_size hZl hk,flatE_len,hEl,←Nat.add_mul];exact Nat.mul_le_mul_right _ hm2) (fun v hv=>HE1.out v (flatE_mem hv))
    rw[q,←hm]
    have e:=repE_copy hZl hm2
    rw[hEl]at e
    rw[e]
   have hbr:=HB.out.drew_
   have hc2:=fun ty=>HC2.out wr.drew ty hbr
   have hs1:IntKind.i64.wrap ((k:Int)+(m:Int))=(k:Int)+(m:Int):=IntWalk.i64_in _ (by omega)
   clear hm hmm
   go_wp2
   refine wp_region_lexB (fun _=>True) [0,1,2,3,4,5,6,7,8,9] (by kernel_rfl) (by kernel_rfl) trivial ?_
   iterate 7 (refine lex_q _ rfl rfl rfl ?_;go_big_quiet_step (fail);refine wpQuiet_nil ?_)
   refine lex_a _ rfl rfl true (by kernel_rfl) ?_
   go_wp2
   refine⟨fun _=>trivial,?_⟩
   iterate 2 (refine lex_q _ rfl rfl rfl ?_;go_big_quiet_step (fail);refine wpQuiet_nil ?_)
   have Q:Hid (Blk (World.setRow wr.drew N (repE E Z n (k+m))) N 415 (repE E Z n (k+m))∧KeepsAll w (World.setRow wr.drew N (repE E Z n (k+m)))):=⟨hbr.setRow _,KR.out.drew.trans (Keeps.setRow _ _ _) (fun y hy e=>by have:=HN.out;omega)⟩
   clear hc2 hbr HC2
   go_roundw
   case rel=>
    refine⟨_,_,_,_,_,_,_,_,_,_,_,_,_,_,⟨k+m,by omega,hm2,?_,Q.out.1,Q.out.2⟩,rfl⟩
    go_num
   case measure=>simp[intOf];omega
  ·obtain rfl:k=n:=by omega
   have HF:Hid (Blk wr N 415 (flatE E k).toArray):=by rw[←repE_all E Z];exact HB.out
   have hlt':decide ((k:Int)<(k:Int))=false:=by simp
   go_wp2
   go_ret
   exact⟨N,rfl,by rw[HN.out];exact Nat.le_refl _,by rw[HEQ.out];exact HF.out,KR.out⟩
end
section
open Go.RowKit
theorem RCel.one:Rd.One RCel:=fun _ _ es x h u hu=>by
 rw[h]at hu
 simp[celC]at hu
 rcases hu with rfl|rfl<;>rfl
theorem tyCel:ElemTy Tryz.prog 311 415 2 16:= .mk' Tryz.underlying311 (z:= .agg #[.int .i64 0,.int .i64 0]) (by kernel_rfl) rfl (by omega)
def celP (p:Pce):Cel:=⟨p.lim,p.grd⟩
theorem cellsOf_at (ps:List Pce) (n:Nat) (p:Pce) (h:ps[n]? =some p):cellsOf (ps.take (n+1))=cellsOf (ps.take n)++List.replicate p.len.toNat (celP p):=by
 unfold cellsOf
 rw[List.take_add_one,h,Option.toList_some,List.flatMap_append]
 simp[celP]
theorem flatE_reads {w:World} {S:Foot} {g:Nat} {x:Cel} {n:Nat} (hb:Blk w g 415 (flatE [.int .i64 x.lim,.int .i64 x.grd] n).toArray) (hS:S g) (hn:n≤1000000):RCels w S [.slice (some ⟨g,0,none⟩) n n] (List.replicate n x):=by
 have:=RSlice.ofBlk (E:=RCel) (size:=2) hb hS (List.replicate n [.int .i64 x.lim,.int .i64 x.grd]) (List.replicate n x) (by simp[flatE]) (by
  induction n with
  |zero=>trivial
  |succ n ih=>exact⟨⟨rfl,rfl⟩,by
   clear ih hb hn
   induction n with
   |zero=>trivial
   |succ n ih=>exact⟨⟨rfl,rfl⟩,ih⟩⟩) (by simp;omega)
 rw[List.length_replicate]at this
 exact this
set_option maxRecDepth 100000 in
set_option maxHeartbeats 4000000 in
theorem rcells_any (L:Lay) (v:LV) (r:Rou) (A:Option Addr) (c:Nat) (w:World) (h:RLay w (Old w) v L) (hr:RStps w (Old w) [.slice A r.stps.length c] r.stps) (hlen:LayLen L):
  Calls Tryz.prog 455 #[.agg (v.cs L),.agg #[.slice A r.stps.length c,.int .i64 r.ov]] w fun e w'=>∃vs f,e= .returned (.tuple #[vs,.int .i64 f,.int .i64 (celErr L r)])∧KeepsAll w w'∧
   (celErr L r=0→f=(fstC (pcesOf L r):Int)∧∃A' c',vs= .slice A' (celsRt L r).length c'∧RCels w' (Fresh w w') [vs] (celsRt L r)):=by
 have HCK:=Lib.hid (fun W k1 k2=>routeCheck_any L v r A c W k1 k2 hlen)
 have HL:=Lib.hid h
 have HR:=Lib.hid hr
 have hc:=hr.caps
 have hc3:=h.secs.caps
 clear h hr
 obtain⟨A1,A2,A3,A4,ca1,ca2,ca3,ca4⟩:=v
 simp only[]at hc3
 unfold LV.cs at HCK⊢
 simp only[]at HCK⊢
 go_enter Tryz.func455,Tryz.ntmps455
 go_wp2_with fail
 generalize hW1:World.alloc w _=W1
 have K1:Hid (KeepsAll w W1):=by subst hW1;exact(Keeps.refl _ _).alloc _
 have B1:Hid (Blk W1 w.heap.size 27 #[.slice A1 L.sts.length ca1,.slice A2 L.pts.length ca2,.slice A3 L.secs.length ca3,.slice A4 L.lks.length ca4]):=by subst hW1;exact Blk.new _ _ _
 have hz1:W1.heap.size=w.heap.size+1:=by subst hW1;simp
 clear hW1
 generalize hN:w.heap.size=N at*
 generalize hW:World.alloc W1 _=W
 have K0:Hid (KeepsAll w W):=by subst hW;exact K1.out.alloc _
 have B0:Hid (Blk W N 27 #[.slice A1 L.sts.length ca1,.slice A2 L.pts.length ca2,.slice A3 L.secs.length ca3,.slice A4 L.lks.length ca4]):=by subst hW;exact B1.out.alloc _
 have BR:Hid (Blk W (N+1) 95 #[.slice A r.stps.length c,.int .i64 r.ov]):=by subst hW;exact Blk.new' _ _ _ hz1.symm
 clear hW K1 B1 hz1
 refine(HCK.out W (HL.out.kept K0.out) (K0.out.rdA (RSlice.ok RStp.ok) HR.out)).mono ?_
 rintro e W2 ⟨rfl,k2⟩
 have K2:Hid (KeepsAll w W2):=K0.out.trA k2
 have C0:=Lib.hid (B0.out.kept k2 (by simp))
 have CR:=Lib.hid (BR.out.kept k2 (by simp))
 clear k2 B0 BR K0 HCK
 by_cases gz:rouErr L r≠0
 ·have gz':(rouErr L r !=0)=true:=by simpa using gz
  have E:Hid (celErr L r=rouErr L r):=by show _=_;unfold celErr;rw[if_pos gz]
  generalize hou:rouErr L r=ou at*
  go_wp2_with fail
  refine bodyPost_ret (v:= .tuple #[.slice none 0 0,.int .i64 0,.int .i64 ou]) (by simp[results,Tryz.results455,go_sem]) rfl ?_
  exact⟨.slice none 0 0,0,by rw[E.out],K2.out,fun e=>absurd (E.out.symm.trans e) gz⟩
 have gz:rouErr L r=0:=by simpa using gz
 have HOK:=Lib.hid ((rouErr_zero L r).1 gz)
 have E:Hid (celErr L r=if 4000<(celsRt L r).length then 7 else 0):=by show _=_;unfold celErr;rw[if_neg (by simp[gz])]
 have g41:=HOK.out.len
 have g42:=HOK.out.ov2
 have g43:=HOK.out.ov0
 have g44:=HOK.out.two
 have hL1:=HOK.out.lay.secs
 rw[gz]
 obtain⟨ov,hov⟩:=Int.eq_ofNat_of_zero_le g43
 have HPL:Hid ((pcesOf L r).length=r.stps.length-ov):=by show _=_;unfold pcesOf trvS;rw[hov];simp
 have hsl:(r.stps.length:Int)-r.ov=((r.stps.length-ov:Nat):Int):=by omega
 have q2:=C0.out.cell 2
 have r0:=CR.out.cell 0
 have r1:=CR.out.cell 1
 simp at q2 r0 r1
 obtain⟨b0,o0,x0,hA,-,hx0,-,-⟩:=HR.out.at_ (k:=0) (by omega)
 subst hA
 have HCE:Hid (celErr L r=celErr L r):=rfl
 go_wp2_with fail
 have hT:(r.stps.length-ov)≤24:=by omega
 have HTL:Hid (∀n,n<r.stps.length-ov→n<r.stps.length):=fun n hn=>by omega
 generalize hTT:r.stps.length-ov=T at*
 go_loopw [8,29] (fun l i wr=>∃n:Nat,n≤T∧i= .int .i64 (n:Int)∧OwnL 415 2 RCel wr W2.heap.size W2.heap.size l (cellsOf ((pcesOf L r).take n))∧KeepsAll W2 wr∧(cellsOf ((pcesOf L r).take n)).length≤400*n) (fun _ i _=>T-(intOf i).toNat)
 case atStart=>exact⟨0,Nat.zero_le _,rfl,by rw[List.take_zero];exact OwnL.nil,Keeps.refl _ _,by simp[cellsOf]⟩
 case round=>
  obtain⟨n,hn,rfl,ho,hk,hcn⟩:=hrel
  obtain⟨Al,cl,rfl,hcl1,hcl2⟩:=ho.form
  have HO:=Lib.hid ho
  have HK:=Lib.hid hk
  have KW:Hid (KeepsAll w wr):=K2.out.trA hk
  have D0:=Lib.hid (C0.out.kept hk (by simp))
  have DR:=Lib.hid (CR.out.kept hk (by simp))
  have hsz:=hk.size
  clear ho hk
  have p2:=D0.out.cell 2
  simp at p2
  have hN1:N<wr.heap.size:=D0.out.lt
  have hN2:N+1<wr.heap.size:=DR.out.lt
  by_cases hlt:n<T
  ·obtain⟨b1,o1,s1,hA1,hb1,hx1,m0,m1⟩:=HR.out.atO KW.out (k:=n) (HTL.out n hlt)
   injection hA1 with hA1
   injection hA1 with hA1 hA2
   subst hA1 hA2
   have hsl1:=HOK.out.sec_lt hx1
   have hsa:=HOK.out.sec_at hx1
   have hso:=HOK.out.sec_ok hx1
   have hPx:(pcesOf L r)[n]? =some (pceOf L s1):=by
    unfold pcesOf trvS
    rw[List.getElem?_map,List.getElem?_take_of_lt (by rw[hov];simp;omega),hx1]
    rfl
   have HCA:=Lib.hid (cellsOf_at (pcesOf L r) n (pceOf L s1) hPx)
   obtain⟨k,hk⟩:=Int.eq_ofNat_of_zero_le hsl1.1
   have hk96:k<L.secs.length:=by omega
   obtain⟨b2,o2,x,rfl,hb2,hx2,c0,c1,c2,c3,c4⟩:=HL.out.secs.atO KW.out (k:=k) hk96
   have hxs:x=secD L s1.sec:=by
    rw[hk,Int.toNat_natCast]at hsa
    rw[hk]
    exact Option.some.inj (hx2.symm.trans hsa)
   rw[hk]at m0
   have HPC:Hid (pceOf L s1=⟨x.len,x.lim,if s1.dir=1 then-x.grd else x.grd⟩):=by show _=_;unfold pceOf;rw[←hxs]
   rw[←hxs]at hso
   rw[HPC.out]at HCA
   obtain⟨len,hlen2⟩:=Int.eq_ofNat_of_zero_le (by omega:0≤x.len)
   have hlr:1≤len∧len≤400:=by omega
   simp only[hlen2,Int.toNat_natCast]at HCA
   rw[hlen2]at c1
   have hdir:=hsl1.2.2
   clear hx1 hx2 hxs hsa hPx HPC hsl1
   generalize hcl:cellsOf ((pcesOf L r).take n)=cs at*
   go_upto_region 10 with fail
   generalize hW4:World.alloc wr _=W4
   have KA:Hid (KeepsAll wr W4):=by subst hW4;exact(Keeps.refl _ _).alloc _
   have HA:Hid (Blk W4 wr.heap.size 200 #[.int .i64 (k:Int),.int .i64 s1.dir]):=by subst hW4;exact Blk.new _ _ _
   have hzA:W4.heap.size=wr.heap.size+1:=by subst hW4;simp
   clear hW4
   generalize hW5:World.alloc (World.alloc W4 _) _=W5
   have K5:Hid (KeepsAll wr W5):=by subst hW5;exact(KA.out.alloc _).alloc _
   have BA:Hid (Blk W5 wr.heap.size 200 #[.int .i64 (k:Int),.int .i64 s1.dir]):=by subst hW5;exact(HA.out.alloc _).alloc _
   have BB:Hid (Blk W5 (wr.heap.size+1) 185 #[.string (mkS x.name),.int .i64 (len:Int),.int .i64 x.lim,.int .i64 x.grd,.int .i64 x.sta]):=by subst hW5;exact(Blk.new' _ _ _ hzA.symm).alloc _
   have BC:Hid (Blk W5 (wr.heap.size+1+1) 415 #[.int .i64 x.lim,.int .i64 x.grd]):=by subst hW5;exact Blk.new' _ _ _ (by simp[hzA])
   clear hW5 KA HA hzA m0 m1 c0 c1 c2 c3 c4 p2
   generalize hz:wr.heap.size=z at*
   have e1:=BA.out.cell 1
   have e2:=BC.out.cell 1
   have e3:=BC.out.frozen 1
   simp at e1 e2
   obtain⟨G,hG⟩:∃G,G=if s1.dir=1 then-x.grd else x.grd:=⟨_,rfl⟩
   rw[←hG]at HCA
   by_cases hd:s1.dir=1
   ·have hd1:(s1.dir==1)=true:=by simpa using hd
    have hd2:decide (s1.dir=1)=true:=by simpa using hd
    obtain rfl:G= -x.grd:=by rw[hG,if_pos hd]
    clear hG hd hdir
    go_upto_region 12 with fail
    generalize hwc:World.setCell W5 _ _=wc
    have HBX:Hid (Blk wc (z+1+1) 415 #[.int .i64 x.lim,.int .i64 (-x.grd)]):=by subst hwc;exact BC.out.set_ 1 (.int .i64 (-x.grd))
    have KX:Hid (KeepsAll wr wc):=by subst hwc;exact K5.out.trans (Keeps.setCell (C:=(·=z+1+1)) (Keeps.refl _ _) (fun _=>rfl) _) (fun y hy e=>by omega)
    have BB2:Hid (Blk wc (z+1) 185 #[.string (mkS x.name),.int .i64 (len:Int),.int .i64 x.lim,.int .i64 x.grd,.int .i64 x.sta]):=by subst hwc;exact BB.out.far (by simp) _
    clear hwc hd1 hd2 e1 e2 e3 K5 BA BB BC
    generalize-x.grd=G at*
    have t0:=HBX.out.cell 0
    have t1:=HBX.out.cell 1
    have t2:=BB2.out.cell 1
    simp at t0 t1 t2
    have hzz:z+1+1<wc.heap.size:=HBX.out.lt
    have hzw:z+1<wc.heap.size:=BB2.out.lt
    have HRP:=Lib.hid (fun(W:World) a1 a2 a3=>Repeat_cel ⟨x.lim,G⟩ len hlr.1 (by omega) wc.heap.size W a1 a2 a3)
    obtain⟨ys,hys⟩:∃ys:List Cel,ys=List.replicate len ⟨x.lim,G⟩:=⟨_,rfl⟩
    have hyl:ys.length=len:=by rw[hys];simp
    have HRD:Hid (∀(W:World) g,Blk W g 415 (flatE [.int .i64 x.lim,.int .i64 G] len).toArray→RCels W (fun b=>b=g) [.slice (some ⟨g,0,none⟩) ys.length len] ys):=fun W g hb=>by rw[hyl,hys];exact flatE_reads hb rfl (by omega)
    have HYS:=Lib.hid hys
    clear hys
    go_wp2_with(first
     |(go_at_call 474;go_loud(refine(HRP.out (wc.alloc (.cells #[.int .i64 x.lim,.int .i64 G] 415)) ((Blk.new wc 415 #[.int .i64 x.lim,.int .i64 G]).cell 0) ((Blk.new wc 415 #[.int .i64 x.lim,.int .i64 G]).cell 1) (by simp)).mono ?_;rintro e w6 ⟨g,rfl,hg6,hb6,k6⟩;have K6:=Lib.hid ((KX.out.alloc _).trA k6);have HRC:=Lib.hid (HRD.out w6 g hb6);have hgz:wr.heap.size≤g:=(Nat.le_trans (KX.out.alloc _).size hg6);have hgl:g<w6.heap.size:=hb6.lt;clear k6 hb6 hg6))
     |(at_builtin;go_loud(refine wpList_append_M tyCel RCel.ok RCel.one rfl (.tmp 51) (.tmp 56) rfl (HO.out.keepsT RCel.flt K6.out (by simp)) rfl (ys:=ys) (S:=fun b=>b=g) (S2:=fun b=>b=g) (by rw[hyl];rfl) HRC.out (fun _ _ h=>h) (fun b hb=>⟨by omega,by omega,fun e=>by have:=(HO.out.lt e).2;omega⟩) (by omega) (by omega) (by have:=K6.out.size;omega) ?_;intro v9 w9 HO9 HK9 HA9)))
    have HN9:Hid (cellsOf ((pcesOf L r).take (n+1))=cs++ys):=by show _=_;rw[HCA.out,HYS.out];rfl
    exact⟨⟨n+1,by omega,by go_num,by rw[HN9.out];exact HO9,(HK.out.trA K6.out).trans HK9 (fun y hy e=>by have:=HO.out.lt e;omega),by rw[HN9.out,List.length_append,hyl];omega⟩,by simp[intOf];omega⟩
   ·have hd1:(s1.dir==1)=false:=by simpa using hd
    have hd2:decide (s1.dir=1)=false:=by simpa using hd
    obtain rfl:G=x.grd:=by rw[hG,if_neg hd]
    clear hG hd hdir
    go_upto_region 12 with fail
    have HBX:=Lib.hid BC.out
    have KX:=Lib.hid K5.out
    have BB2:=Lib.hid BB.out
    clear hd1 hd2 e1 e2 e3 K5 BA BB BC
    generalize W5=wc at*
    generalize x.grd=G at*
    have t0:=HBX.out.cell 0
    have t1:=HBX.out.cell 1
    have t2:=BB2.out.cell 1
    simp at t0 t1 t2
    have hzz:z+1+1<wc.heap.size:=HBX.out.lt
    have hzw:z+1<wc.heap.size:=BB2.out.lt
    have HRP:=Lib.hid (fun(W:World) a1 a2 a3=>Repeat_cel ⟨x.lim,G⟩ len hlr.1 (by omega) wc.heap.size W a1 a2 a3)
    obtain⟨ys,hys⟩:∃ys:List Cel,ys=List.replicate len ⟨x.lim,G⟩:=⟨_,rfl⟩
    have hyl:ys.length=len:=by rw[hys];simp
    have HRD:Hid (∀(W:World) g,Blk W g 415 (flatE [.int .i64 x.lim,.int .i64 G] len).toArray→RCels W (fun b=>b=g) [.slice (some ⟨g,0,none⟩) ys.length len] ys):=fun W g hb=>by rw[hyl,hys];exact flatE_reads hb rfl (by omega)
    have HYS:=Lib.hid hys
    clear hys
    go_wp2_with(first
     |(go_at_call 474;go_loud(refine(HRP.out (wc.alloc (.cells #[.int .i64 x.lim,.int .i64 G] 415)) ((Blk.new wc 415 #[.int .i64 x.lim,.int .i64 G]).cell 0) ((Blk.new wc 415 #[.int .i64 x.lim,.int .i64 G]).cell 1) (by simp)).mono ?_;rintro e w6 ⟨g,rfl,hg6,hb6,k6⟩;have K6:=Lib.hid ((KX.out.alloc _).trA k6);have HRC:=Lib.hid (HRD.out w6 g hb6);have hgz:wr.heap.size≤g:=(Nat.le_trans (KX.out.alloc _).size hg6);have hgl:g<w6.heap.size:=hb6.lt;clear k6 hb6 hg6))
     |(at_builtin;go_loud(refine wpList_append_M tyCel RCel.ok RCel.one rfl (.tmp 51) (.tmp 56) rfl (HO.out.keepsT RCel.flt K6.out (by simp)) rfl (ys:=ys) (S:=fun b=>b=g) (S2:=fun b=>b=g) (by rw[hyl];rfl) HRC.out (fun _ _ h=>h) (fun b hb=>⟨by omega,by omega,fun e=>by have:=(HO.out.lt e).2;omega⟩) (by omega) (by omega) (by have:=K6.out.size;omega) ?_;intro v9 w9 HO9 HK9 HA9)))
    have HN9:Hid (cellsOf ((pcesOf L r).take (n+1))=cs++ys):=by show _=_;rw[HCA.out,HYS.out];rfl
    exact⟨⟨n+1,by omega,by go_num,by rw[HN9.out];exact HO9,(HK.out.trA K6.out).trans HK9 (fun y hy e=>by have:=HO.out.lt e;omega),by rw[HN9.out,List.length_append,hyl];omega⟩,by simp[intOf];omega⟩
  ·obtain rfl:n=T:=by omega
   have HALL:Hid (cellsOf ((pcesOf L r).take n)=celsRt L r):=by show _=_;rw[←HPL.out,List.take_length];rfl
   rw[HALL.out]at HO hcn hcl1⊢
   have HP0:Hid ((pcesOf L r)[0]? =some (pceOf L x0)):=by
    show _=_
    unfold pcesOf trvS
    rw[List.getElem?_map,List.getElem?_take_of_lt (by rw[hov];simp;omega),hx0]
    rfl
   have hFST:(fstC (pcesOf L r):Int)=(secD L x0.sec).len:=by
    unfold fstC
    rw[List.getD_eq_getElem?_getD,HP0.out]
    simp only[Option.getD_some,pceOf]
    have:=(HOK.out.sec_ok hx0).1
    omega
   have hsl1:=HOK.out.sec_lt hx0
   have hsa:=HOK.out.sec_at hx0
   obtain⟨k,hk⟩:=Int.eq_ofNat_of_zero_le hsl1.1
   have hk96:k<L.secs.length:=by omega
   obtain⟨b2,o2,x,rfl,hb2,hx2,c0,c1,c2,c3,c4⟩:=HL.out.secs.atO KW.out (k:=k) hk96
   have hxs:x=secD L x0.sec:=by
    rw[hk,Int.toNat_natCast]at hsa
    rw[hk]
    exact Option.some.inj (hx2.symm.trans hsa)
   rw[←hxs]at hFST
   obtain⟨b1,o1,s1,hA1,hb1,hx1,m0,m1⟩:=HR.out.atO KW.out (k:=0) (by omega)
   injection hA1 with hA1
   injection hA1 with hA1 hA2
   subst hA1 hA2
   obtain rfl:s1=x0:=Option.some.inj (hx1.symm.trans hx0)
   rw[hk]at m0
   have HF:=Lib.hid hFST
   have r2:=DR.out.cell 0
   simp at r2
   have hlc:0<L.secs.length:=by omega
   simp only[Nat.zero_mul,Nat.add_zero]at m0 m1
   have hRD:=Lib.hid (HO.out.readT RCel.flt (S:=Fresh w wr) (fun b hb=>⟨Nat.le_trans K2.out.size (HO.out.lt hb).1,(HO.out.lt hb).2⟩))
   clear hx2 hxs hx1 hsl1 hsa hFST HPL
   generalize hcs:celsRt L r=cs at*
   by_cases h4:4000<cs.length
   ·have E7:Hid (celErr L r=7):=by show _=_;rw[E.out,if_pos h4]
    go_wp2_with fail
    refine bodyPost_ret (v:= .tuple #[.slice none 0 0,.int .i64 0,.int .i64 7]) (by simp[results,Tryz.results455,go_sem]) rfl ?_
    exact⟨.slice none 0 0,0,by rw[E7.out],KW.out,fun e=>by rw[E7.out]at e;cases e⟩
   ·have E0:Hid (celErr L r=0):=by show _=_;rw[E.out,if_neg h4]
    have h4':cs.length≤4000:=by omega
    clear h4
    go_wp2_with fail
    go_quiet (fail)
    go_wp2_with fail
    refine bodyPost_ret (v:= .tuple #[.slice Al cs.length cl,.int .i64 x.len,.int .i64 0]) (by simp[results,Tryz.results455,go_sem]) rfl ?_
    exact⟨.slice Al cs.length cl,x.len,by rw[E0.out],KW.out.drewN _,fun _=>⟨HF.out.symm,Al,cl,by rw[hcs],by rw[hcs];exact(RSlice.ok RCel.ok).mono hRD.out (fun _ h=>h) (fun _ _=>rfl)⟩⟩
end
section
def bitK:Nat→Nat
 |0=>0
 |k+1=>2^k
theorem bitK_half (k:Nat):bitK (k+1)/2=bitK k:=by
 cases k with
 |zero=>rfl
 |succ k=>simp only[bitK,Nat.pow_succ];omega
theorem bitK_pos {k:Nat} (h:0<bitK k):∃j,k=j+1:=by
 cases k with
 |zero=>simp[bitK]at h
 |succ k=>exact⟨k,rfl⟩
theorem bitK_le {k:Nat} (h:k≤32):bitK k≤2147483648:=by
 cases k with
 |zero=>simp[bitK]
 |succ k=>
  have:2^k≤2^31:=Nat.pow_le_pow_right (by omega) (by omega)
  simpa[bitK]using this
theorem isqGo_step (k n r:Nat):isqGo (k+1) n r=if r+bitK (k+1)≤n/(r+bitK (k+1))then isqGo k n (r+bitK (k+1))else isqGo k n r:=by
 have hp:0<2^k:=Nat.pow_pos (by omega)
 show(if(r+2^k)*(r+2^k)≤n then isqGo k n (r+2^k)else isqGo k n r)=if r+2^k≤n/(r+2^k)then isqGo k n (r+2^k)else isqGo k n r
 simp only[Nat.le_div_iff_mul_le (show 0<r+2^k by omega)]
structure Halves (n lo hi:Nat):Prop where
 le:lo≤hi
 low:lo*lo≤n
 high:n<(hi+1)*(hi+1)
theorem Halves.start {n:Nat} (h:n<9223372036854775808):Halves n 0 3037000499:=⟨by omega,by omega,by omega⟩
theorem Halves.up {n lo hi:Nat} (h:Halves n lo hi) (hlt:lo<hi) (hm:(lo+hi+1)/2*((lo+hi+1)/2)≤n):Halves n ((lo+hi+1)/2) hi:=⟨by omega,hm,h.high⟩
theorem Halves.down {n lo hi:Nat} (h:Halves n lo hi) (hlt:lo<hi) (hm:¬(lo+hi+1)/2*((lo+hi+1)/2)≤n):Halves n lo ((lo+hi+1)/2-1):=by
 refine⟨by omega,h.low,?_⟩
 rw[show(lo+hi+1)/2-1+1=(lo+hi+1)/2 by omega]
 omega
theorem Halves.done {n lo:Nat} (hn:n<18446744073709551616) (h:Halves n lo lo):isqN n=lo:=isqN_unique (by simpa using hn) h.low h.high
theorem isqC_neg {x:Int} (h:x≤0):isqC x=0:=by
 unfold isqC
 rw[show x.toNat=0 by omega]
 decide
end
end Go.Proofs.YtcbcegdidlefiaaGreat
