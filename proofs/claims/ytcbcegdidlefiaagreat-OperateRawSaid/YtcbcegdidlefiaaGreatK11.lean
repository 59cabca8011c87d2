/- Contracts of the square roots (program and reference) and of the limit of a cell (program and reference). Conditions: as each theorem says. Contract of squares (program): the squared speeds at the boundaries. Conditions: as each theorem says. Contracts of checkRun, Speeds and Times (program) at a run without an error. Conditions: as each theorem says. -/
import Derived.Test.YtcbcegdidlefiaaGreatK10
import Derived.Test.YtcbcegdidlefiaaGreatK01
import Derived.Test.YtcbcegdidlefiaaGreatK03
namespace Go.Proofs.YtcbcegdidlefiaaGreat
section
open Go.RowKit
set_option maxHeartbeats 1000000 in
theorem Sqrt_any (n:Nat) (hn:n≤9223372036854775807) (w:World):Calls Tryz.prog 489 #[.int .i64 (n:Int)] w fun e w'=>e= .returned (.int .i64 (isqN n:Int))∧w=w':=by
 go_enter Tryz.func489,Tryz.ntmps489
 go_wp2_with fail
 go_loopw [3,4] (fun r b wr=>∃k q:Nat,k≤32∧b= .int .i64 (bitK k:Int)∧r= .int .i64 (q:Int)∧q+2*bitK k≤4294967296∧isqN n=isqGo k n q∧w=wr) (fun _ b _=>(intOf b).toNat)
 case atStart=>exact⟨32,0,by omega,by rfl,rfl,by decide,rfl,rfl⟩
 case round=>
  obtain⟨k,q,hk,rfl,rfl,hq,he,rfl⟩:=hrel
  by_cases hp:0<bitK k
  ·obtain⟨j,rfl⟩:=bitK_pos hp
   have HS:=Lib.hid (isqGo_step j n q)
   have HH:=Lib.hid (bitK_half j)
   have HE:=Lib.hid he
   clear he
   have hB:=bitK_le hk
   generalize bitK (j+1)=B at*
   have hdiv:((n:Int).tdiv ((q:Int)+(B:Int)))=((n/(q+B):Nat):Int):=by
    rw[←Int.natCast_add,←Int.ofNat_tdiv]
   have hlen:n/(q+B)≤n:=Nat.div_le_self _ _
   generalize n/(q+B)=d at*
   have hw:IntKind.i64.wrap (d:Int)=(d:Int):=IntWalk.i64_in _ (by omega)
   go_wp2_with fail
   ·refine⟨⟨j,q+B,by omega,by rw[←HH.out];rfl,rfl,?_,?_,trivial⟩,by simp[intOf];omega⟩
    ·have:=HH.out;omega
    ·rw[HE.out,HS.out,if_pos (by omega)]
   ·refine⟨⟨j,q,by omega,by rw[←HH.out];rfl,rfl,?_,?_,trivial⟩,by simp[intOf];omega⟩
    ·have:=HH.out;omega
    ·rw[HE.out,HS.out,if_neg (by omega)]
  ·have h0:k=0:=by
    cases k with
    |zero=>rfl
    |succ k=>exact absurd (show 0<bitK (k+1)from Nat.pow_pos (by omega)) hp
   subst h0
   have hE:isqN n=q:=by rw[he];rfl
   have hb0:((bitK 0:Nat):Int)=0:=rfl
   rw[hb0]
   go_wp2_with fail
   go_ret
   rw[hE]
   exact⟨rfl,rfl⟩
set_option maxHeartbeats 1000000 in
theorem RSqrt_any (n:Int) (hn:n≤9223372036854775807) (w:World):Calls Tryz.prog 390 #[.int .i64 n] w fun e w'=>e= .returned (.int .i64 (isqC n))∧w=w':=by
 by_cases h0:n≤0
 ·rw[isqC_neg h0]
  go_enter Tryz.func390,Tryz.ntmps390
  go_wp2_with fail
  go_ret
  exact⟨rfl,rfl⟩
 obtain⟨n,rfl⟩:=Int.eq_ofNat_of_zero_le (by omega:0≤n)
 have hE:isqC (n:Int)=(isqN n:Int):=by unfold isqC;rw[Int.toNat_natCast]
 rw[hE]
 go_enter Tryz.func390,Tryz.ntmps390
 go_wp2_with fail
 go_loopw [3,4] (fun r b wr=>∃lo hi:Nat,r= .int .i64 (lo:Int)∧b= .int .i64 (hi:Int)∧hi≤3037000499∧Halves n lo hi∧w=wr) (fun r b _=>(intOf b-intOf r).toNat)
 case atStart=>exact⟨0,3037000499,rfl,rfl,by omega,Halves.start (by omega),rfl⟩
 case round=>
  obtain⟨lo,hi,rfl,rfl,hhi,hh,rfl⟩:=hrel
  have HH:=Lib.hid hh
  have hle:=hh.le
  clear hh
  by_cases hlt:lo<hi
  ·have HU:=Lib.hid (HH.out.up hlt)
   have HD:=Lib.hid (HH.out.down hlt)
   have hm:(((lo:Int)+(hi:Int))+1).tdiv 2=(((lo+hi+1)/2:Nat):Int):=by
    rw[show((lo:Int)+(hi:Int))+1=((lo+hi+1:Nat):Int)by omega,show(2:Int)=((2:Nat):Int)from rfl,←Int.ofNat_tdiv]
   have hm1:lo<(lo+hi+1)/2∧(lo+hi+1)/2≤hi:=by omega
   generalize (lo+hi+1)/2=m at*
   have hmm:m*m≤9223372036854775807:=Nat.le_trans (Nat.mul_le_mul (by omega:m≤3037000499) (by omega:m≤3037000499)) (by omega)
   have hmul:(m:Int)*(m:Int)=((m*m:Nat):Int):=by rw[Int.natCast_mul]
   have hw:IntKind.i64.wrap ((m:Int)*(m:Int))=(m:Int)*(m:Int):=IntWalk.i64_in _ (by rw[hmul];omega)
   have HM:=Lib.hid hmul
   have HMM:=Lib.hid hmm
   clear hmul hmm
   have hw2:IntKind.i64.wrap (m:Int)=(m:Int):=IntWalk.i64_in _ (by omega)
   go_wp2_with fail
   ·rename_i hc
    rw[HM.out]at hc
    exact⟨⟨m,hi,rfl,rfl,hhi,HU.out (by omega),trivial⟩,by simp[intOf];omega⟩
   ·rename_i hc
    rw[HM.out]at hc
    exact⟨⟨lo,m-1,rfl,by go_num,by omega,HD.out (by omega),trivial⟩,by simp[intOf];omega⟩
  ·obtain rfl:lo=hi:=by omega
   have hE2:=HH.out.done (by omega)
   go_wp2_with fail
   go_ret
   rw[hE2]
   exact⟨rfl,rfl⟩
theorem limF_succ (cs:List Cel) (a:Nat) (v:Int) (n:Nat) {c:Cel} (h:cs[a+n]? =some c):limF cs a v (n+1)=min (limF cs a v n) c.lim:=by
 rw[limF,celD_at h]
set_option maxHeartbeats 2000000 in
theorem limit_any (cs:List Cel) (A:Option Addr) (u:Nat) (k:Nat) (s:Stk) (w:World) (h:RCels w (Old w) [.slice A cs.length u] cs) (hk:k<cs.length) (hs:stkOk s=true) (hcl:cs.length≤4000):
  Calls Tryz.prog 493 #[.slice A cs.length u,.int .i64 (k:Int),.agg (stkC s)] w fun e w'=>e= .returned (.int .i64 (limC cs k s))∧KeepsAll w w':=by
 have hc:=h.caps
 simp only[stkOk,decide_eq_true_eq]at hs
 obtain⟨s1,s2,-,-,-,-,-,-⟩:=hs
 obtain⟨sn,sl,sv,sa,sb⟩:=s
 simp only[]at s1 s2
 obtain⟨L,rfl⟩:=Int.eq_ofNat_of_zero_le (by omega:0≤sl)
 have HE:Hid (limC cs k ⟨sn,L,sv,sa,sb⟩=limF cs (k-L) sv (k+1-(k-L))):=rfl
 rw[HE.out]
 have hmx:max 0 ((k:Int)-(L:Int))=((k-L:Nat):Int):=by omega
 obtain⟨b0,o0,x0,hA,-,-,-,-⟩:=h.at_ hk
 subst hA
 have HR:=Lib.hid h
 clear h
 unfold stkC
 simp only[]
 generalize hq:k-L=q at*
 have hqk:q≤k:=by omega
 go_enter Tryz.func493,Tryz.ntmps493
 go_wp2_with fail
 have hQ:o0+q*2=o0+q*2:=rfl
 generalize hW:World.alloc w _=W
 have K0:Hid (KeepsAll w W):=by subst hW;exact(Keeps.refl _ _).alloc _
 clear hW hQ
 go_loopw [7,22] (fun r i wr=>∃n:Nat,n≤k+1-q∧i= .int .i64 (n:Int)∧r= .int .i64 (limF cs q sv n)∧KeepsAll W wr) (fun _ i _=>(k+1-q)-(intOf i).toNat)
 case atStart=>exact⟨0,Nat.zero_le _,rfl,rfl,Keeps.refl _ _⟩
 case round=>
  obtain⟨n,hn,rfl,rfl,hk'⟩:=hrel
  have HK:=Lib.hid hk'
  have KW:=Lib.hid (K0.out.trA hk')
  clear hk'
  by_cases hlt:n<k+1-q
  ·obtain⟨b,o,c,hA,hb,hx,c0,c1⟩:=HR.out.atO KW.out (k:=q+n) (by omega)
   injection hA with hA
   injection hA with hA1 hA2
   subst hA1 hA2
   have HL:Hid (limF cs q sv (n+1)=min (limF cs q sv n) c.lim):=limF_succ cs q sv n hx
   rw[show o0+(q+n)*2=o0+q*2+n*2 by omega]at c0 c1
   clear hx
   generalize limF cs q sv n=m at*
   go_wp2_with fail
   exact⟨⟨n+1,by omega,by go_num,by rw[HL.out],HK.out.alloc _⟩,by simp[intOf];omega⟩
  ·obtain rfl:n=k+1-q:=by omega
   go_wp2_with fail
   go_ret
   exact⟨rfl,KW.out⟩
set_option maxHeartbeats 2000000 in
theorem rlimit_any (cs:List Cel) (A:Option Addr) (u:Nat) (k:Nat) (s:Stk) (w:World) (h:RCels w (Old w) [.slice A cs.length u] cs) (hk:k<cs.length) (hs:stkOk s=true) (hcl:cs.length≤4000):
  Calls Tryz.prog 387 #[.slice A cs.length u,.int .i64 (k:Int),.agg (stkC s)] w fun e w'=>e= .returned (.int .i64 (limC cs k s))∧KeepsAll w w':=by
 have hc:=h.caps
 simp only[stkOk,decide_eq_true_eq]at hs
 obtain⟨s1,s2,-,-,-,-,-,-⟩:=hs
 obtain⟨sn,sl,sv,sa,sb⟩:=s
 simp only[]at s1 s2
 obtain⟨L,rfl⟩:=Int.eq_ofNat_of_zero_le (by omega:0≤sl)
 have HE:Hid (limC cs k ⟨sn,L,sv,sa,sb⟩=limF cs (k-L) sv (k+1-(k-L))):=rfl
 rw[HE.out]
 have hmx:max 0 ((k:Int)-(L:Int))=((k-L:Nat):Int):=by omega
 obtain⟨b0,o0,x0,hA,-,-,-,-⟩:=h.at_ hk
 subst hA
 have HR:=Lib.hid h
 clear h
 unfold stkC
 simp only[]
 generalize hq:k-L=q at*
 have hqk:q≤k:=by omega
 go_enter Tryz.func387,Tryz.ntmps387
 go_wp2_with fail
 generalize hW:World.alloc w _=W
 have K0:Hid (KeepsAll w W):=by subst hW;exact(Keeps.refl _ _).alloc _
 clear hW
 go_loopw [7,8] (fun r i wr=>∃n:Nat,n≤k+1-q∧i= .int .i64 ((q+n:Nat):Int)∧r= .int .i64 (limF cs q sv n)∧KeepsAll W wr) (fun _ i _=>(k+1)-(intOf i).toNat)
 case atStart=>exact⟨0,Nat.zero_le _,rfl,rfl,Keeps.refl _ _⟩
 case round=>
  obtain⟨n,hn,rfl,rfl,hk'⟩:=hrel
  have HK:=Lib.hid hk'
  have KW:=Lib.hid (K0.out.trA hk')
  clear hk'
  by_cases hlt:n<k+1-q
  ·obtain⟨b,o,c,hA,hb,hx,c0,c1⟩:=HR.out.atO KW.out (k:=q+n) (by omega)
   injection hA with hA
   injection hA with hA1 hA2
   subst hA1 hA2
   have HL:Hid (limF cs q sv (n+1)=min (limF cs q sv n) c.lim):=limF_succ cs q sv n hx
   clear hx
   have hle:((q+n:Nat):Int)≤(k:Int):=by omega
   generalize limF cs q sv n=m at*
   generalize hp:q+n=p at*
   go_wp2_with fail
   exact⟨⟨n+1,by omega,by go_num,by rw[HL.out],HK.out⟩,by simp[intOf];omega⟩
  ·obtain rfl:n=k+1-q:=by omega
   have hle:¬((q+(k+1-q):Nat):Int)≤(k:Int):=by omega
   go_wp2_with fail
   go_ret
   exact⟨rfl,KW.out⟩
end
section
open Go.RowKit
def fwdA (cs:List Cel) (a:Nat) (s:Stk) (m k:Nat):List Int:=tab (m+1) fun j=>if j<k then fwdC cs a s j else 0
def bwdA (cs:List Cel) (a:Nat) (s:Stk) (m k:Nat):List Int:=tab (m+1) fun j=>if k<j then bwdC cs a (a+m) s (m-j)else if j<m then fwdC cs a s j else 0
theorem fwdA_start (cs:List Cel) (a:Nat) (s:Stk) (m:Nat):List.replicate (m+1) 0=fwdA cs a s m 1:=by
 unfold fwdA
 rw[tab_const]
 refine tab_ext fun j _=> ?_
 split
 ·rename_i h;obtain rfl:j=0:=by omega
  rfl
 ·rfl
theorem fwdA_at {cs:List Cel} {a:Nat} {s:Stk} {m k j:Nat} (hj:j<k) (hm:j≤m):(fwdA cs a s m k)[j]? =some (fwdC cs a s j):=by
 unfold fwdA;rw[tab_get (by omega),if_pos hj]
theorem fwdA_zero {cs:List Cel} {a:Nat} {s:Stk} {m k:Nat} (hm:k≤m):(fwdA cs a s m k)[k]? =some 0:=by
 unfold fwdA;rw[tab_get (by omega),if_neg (by omega)]
theorem fwdA_set {cs:List Cel} {a:Nat} {s:Stk} {m k:Nat}:(fwdA cs a s m k).set k (fwdC cs a s k)=fwdA cs a s m (k+1):=by
 unfold fwdA
 rw[tab_set]
 refine tab_ext fun j _=> ?_
 by_cases e:j=k
 ·subst e;rw[if_pos rfl,if_pos (by omega)]
 ·rw[if_neg e]
  by_cases h:j<k
  ·rw[if_pos h,if_pos (by omega)]
  ·rw[if_neg h,if_neg (by omega)]
theorem fwdA_end {cs:List Cel} {a:Nat} {s:Stk} {m:Nat} (hm:0<m):fwdA cs a s m m=bwdA cs a s m (m-1):=by
 unfold fwdA bwdA
 refine tab_ext fun j hj=> ?_
 by_cases h:j<m
 ·rw[if_pos h,if_neg (show¬m-1<j by omega)]
 ·rw[if_neg h,if_pos (by omega),show m-j=0 by omega];rfl
theorem bwdA_hi {cs:List Cel} {a:Nat} {s:Stk} {m k j:Nat} (hj:k<j) (hm:j≤m):(bwdA cs a s m k)[j]? =some (bwdC cs a (a+m) s (m-j)):=by
 unfold bwdA;rw[tab_get (by omega),if_pos hj]
theorem bwdA_lo {cs:List Cel} {a:Nat} {s:Stk} {m k:Nat} (hm:k<m):(bwdA cs a s m k)[k]? =some (fwdC cs a s k):=by
 unfold bwdA;rw[tab_get (by omega),if_neg (by omega),if_pos hm]
theorem bwdA_set {cs:List Cel} {a:Nat} {s:Stk} {m k:Nat} (hk:0<k):(bwdA cs a s m k).set k (bwdC cs a (a+m) s (m-k))=bwdA cs a s m (k-1):=by
 unfold bwdA
 rw[tab_set]
 refine tab_ext fun j _=> ?_
 by_cases e:j=k
 ·subst e;rw[if_pos rfl,if_pos (by omega)]
 ·rw[if_neg e]
  by_cases h:k<j
  ·rw[if_pos h,if_pos (show k-1<j by omega)]
  ·rw[if_neg h,if_neg (show¬k-1<j by omega)]
theorem bwdA_end {cs:List Cel} {a:Nat} {s:Stk} {m:Nat} (hc:∀c∈cs,celOk c=true) (hs:stkOk s=true) (hl:cs.length=a+m):bwdA cs a s m 0=tab (m+1) (sqC cs a s):=by
 unfold bwdA
 refine tab_ext fun j hj=> ?_
 by_cases h:0<j
 ·rw[if_pos h];unfold sqC;rw[hl,show a+m-a-j=m-j by omega]
 ·obtain rfl:j=0:=by omega
  rw[if_neg (by omega),sqC_start hc hs]
  split<;>rfl
theorem fwdC_next (cs:List Cel) (a:Nat) (s:Stk) (j:Nat):fwdC cs a s (j+1)=min (min (limC cs (a+j) s) (limC cs (a+j+1) s)*min (limC cs (a+j) s) (limC cs (a+j+1) s)) (fwdC cs a s j+gainC (celD cs (a+j)) s):=by
 rw[fwdC,capC,show a+j+1-1=a+j by omega]
theorem bwdC_next (cs:List Cel) (a:Nat) (s:Stk) {m k:Nat} (hk:k<m):bwdC cs a (a+m) s (m-k)=min (fwdC cs a s k) (bwdC cs a (a+m) s (m-(k+1))+lossC (celD cs (a+k)) s):=by
 obtain⟨J,hJ⟩:∃J,m-k=J+1:=⟨m-k-1,by omega⟩
 rw[hJ,bwdC,show a+m-a-(J+1)=k by omega,show a+m-(J+1)=a+k by omega,show m-(k+1)=J by omega]
theorem sq_range {x:Int} (h1:0≤x) (h2:x≤100000):0≤x*x∧x*x≤10000000000:=
 ⟨Int.mul_nonneg h1 h1,Int.le_trans (Int.mul_le_mul h2 h2 h1 (by omega)) (by omega)⟩
set_option maxRecDepth 100000 in
set_option maxHeartbeats 4000000 in
theorem squares_any (cs:List Cel) (A:Option Addr) (u a m:Nat) (s:Stk) (w:World) (h:RCels w (Old w) [.slice A cs.length u] cs) (hl:cs.length=a+m) (hm:2≤m) (hc:∀c∈cs,celOk c=true) (hs:stkOk s=true) (hcl:cs.length≤4000):
  Calls Tryz.prog 488 #[.slice A cs.length u,.int .i64 (a:Int),.agg (stkC s)] w fun e w'=>∃g,e= .returned (.slice (some ⟨g,0,none⟩) (m+1) (m+1))∧w.heap.size≤g∧Blk w' g 3 (cellsI (tab (m+1) (sqC cs a s)))∧KeepsAll w w':=by
 have hcap:=h.caps
 have hmk:=mkInts (m+1) (by omega)
 rw[Int.natCast_add,show((1:Nat):Int)=1 from rfl]at hmk
 obtain⟨b0,o0,x0,hA,-,-,-,-⟩:=h.at_ (k:=0) (by omega)
 subst hA
 have HR:=Lib.hid h
 have HC:=Lib.hid hc
 have HS:=Lib.hid hs
 have HLIM:Hid (∀k,1000≤limC cs k s∧limC cs k s≤100000):=fun k=>limC_range hc hs k
 have HFW:Hid (∀k,0≤fwdC cs a s k∧fwdC cs a s k≤10000000000):=fun k=>⟨(fwdC_range hc hs k).1,(fwdC_range hc hs k).2.1⟩
 have HBW:Hid (∀k,0≤bwdC cs a (a+m) s k∧bwdC cs a (a+m) s k≤10000000000):=fun k=>⟨(bwdC_range hc hs (a+m) k).1,(bwdC_range hc hs (a+m) k).2.1⟩
 have HEND:=Lib.hid (bwdA_end hc hs hl)
 clear h hc
 have hmi:((cs.length:Int)-(a:Int))+1=(m:Int)+1:=by omega
 have hcs:=HS.out
 obtain⟨sn,sl,sv,sa,sb⟩:=s
 unfold stkC
 simp only[]
 have hlt1:a<cs.length:=by omega
 have HLN:=Lib.hid hl
 clear hs hcs hl
 go_enter Tryz.func488,Tryz.ntmps488
 go_wp2_with fail
 generalize hW1:World.alloc w _=W1
 have K1:Hid (KeepsAll w W1):=by subst hW1;exact(Keeps.refl _ _).alloc _
 have B1:Hid (Blk W1 w.heap.size 103 #[.string (mkS sn),.int .i64 sl,.int .i64 sv,.int .i64 sa,.int .i64 sb]):=by subst hW1;exact Blk.new _ _ _
 have hz1:W1.heap.size=w.heap.size+1:=by subst hW1;simp
 clear hW1
 generalize hN:w.heap.size=N at*
 generalize hW2:World.alloc W1 _=W2
 have K2:Hid (KeepsAll w W2):=by subst hW2;exact K1.out.alloc _
 have B2:Hid (Blk W2 N 103 #[.string (mkS sn),.int .i64 sl,.int .i64 sv,.int .i64 sa,.int .i64 sb]):=by subst hW2;exact B1.out.alloc _
 have B3:Hid (Blk W2 (N+1) 3 (cellsI (fwdA cs a ⟨sn,sl,sv,sa,sb⟩ m 1))):=by subst hW2;rw[←fwdA_start];exact Blk.new' _ _ _ hz1.symm
 clear hW2 K1 B1 hz1
 refine(limit_any cs _ u a ⟨sn,sl,sv,sa,sb⟩ W2 (K2.out.rdA (RSlice.ok RCel.ok) HR.out) hlt1 HS.out hcl).mono ?_
 rintro e W3 ⟨rfl,k3⟩
 have K3:Hid (KeepsAll w W3):=K2.out.trA k3
 have BS:Hid (Blk W3 N 103 #[.string (mkS sn),.int .i64 sl,.int .i64 sv,.int .i64 sa,.int .i64 sb]):=B2.out.kept k3 (by simp)
 have BW:Hid (Blk W3 (N+1) 3 (cellsI (fwdA cs a ⟨sn,sl,sv,sa,sb⟩ m 1))):=B3.out.kept k3 (by simp)
 clear k3 B2 B3 K2 hmk
 generalize hst:(⟨sn,sl,sv,sa,sb⟩:Stk)=s at*
 go_wp2_with fail
 go_loopw [9,10] (fun f b wr=>∃k:Nat,1≤k∧k≤m∧b= .int .i64 ((a+k:Nat):Int)∧f= .int .i64 (limC cs (a+k-1) s)∧Blk wr (N+1) 3 (cellsI (fwdA cs a s m k))∧Keeps (·=N+1) W3 wr) (fun _ b _=>(a+m)-(intOf b).toNat)
 case atStart=>exact⟨1,by omega,by omega,rfl,rfl,BW.out,Keeps.refl _ _⟩
 case round=>
  obtain⟨k,hk1,hk2,rfl,rfl,hb,hk⟩:=hrel
  have HB:=Lib.hid hb
  have HK:=Lib.hid hk
  have KW:Hid (KeepsAll w wr):=K3.out.trans hk (fun x hx e=>by omega)
  have BSr:Hid (Blk wr N 103 #[.string (mkS sn),.int .i64 sl,.int .i64 sv,.int .i64 sa,.int .i64 sb]):=BS.out.kept hk (by omega)
  clear hb hk
  by_cases hlt:k<m
  ·obtain⟨j,rfl⟩:∃j,k=j+1:=⟨k-1,by omega⟩
   have hlt2:a+(j+1)<cs.length:=by rw[HLN.out];omega
   have hpa:((a+(j+1):Nat):Int)-(a:Int)=((j+1:Nat):Int):=by omega
   have hpq:((a+(j+1):Nat):Int)-1=((a+j:Nat):Int):=by omega
   have hqa:((a+j:Nat):Int)-(a:Int)=(j:Int):=by omega
   have hq1:a+(j+1)-1=a+j:=by omega
   have hq2:a+j<cs.length:=by omega
   have HP:Hid (a+(j+1)=a+j+1):=rfl
   rw[hq1]
   obtain⟨b,o,c,hA,hb,hx,-,-⟩:=HR.out.atO KW.out (k:=a+j) (by omega)
   have HCO:Hid (celOk c=true∧celD cs (a+j)=c):=⟨HC.out c (List.mem_of_getElem? hx),celD_at hx⟩
   have HNX:=Lib.hid (fwdC_next cs a s j)
   have HL2:Hid (limC cs (a+(j+1+1)-1) s=limC cs (a+(j+1)) s):=by show _=_;rw[show a+(j+1+1)-1=a+(j+1)by omega]
   have hf:=HFW.out j
   have hl1:=HLIM.out (a+j)
   have hl2:=HLIM.out (a+(j+1))
   have HSET:=Lib.hid (@fwdA_set cs a s m (j+1))
   rw[show a+j+1=a+(j+1)from rfl]at HNX
   generalize hp:a+(j+1)=p at*
   generalize hq:a+j=q at*
   clear hb hx hA
   have q0:=BSr.out.cell 0
   have q1:=BSr.out.cell 1
   have q2:=BSr.out.cell 2
   have q3:=BSr.out.cell 3
   have q4:=BSr.out.cell 4
   simp at q0 q1 q2 q3 q4
   go_wp2_with fail
   have HCL:=Lib.hid (limit_any cs (some ⟨b0,o0,none⟩) u p s wr (KW.out.rdA (RSlice.ok RCel.ok) HR.out) hlt2 HS.out hcl)
   rw[←hst]at HCL
   refine HCL.out.mono ?_
   rw[hst]
   clear HCL q0 q1 q2 q3 q4
   rintro e W4 ⟨rfl,k4⟩
   have K4:Hid (Keeps (·=N+1) W3 W4):=HK.out.trans k4 (fun _ _ h=>h.elim)
   have KW4:Hid (KeepsAll w W4):=KW.out.trA k4
   have BS4:Hid (Blk W4 N 103 #[.string (mkS sn),.int .i64 sl,.int .i64 sv,.int .i64 sa,.int .i64 sb]):=BSr.out.kept k4 (by simp)
   have HB4:Hid (Blk W4 (N+1) 3 (cellsI (fwdA cs a s m (j+1)))):=HB.out.kept k4 (by simp)
   clear k4 HB HK KW BSr
   obtain⟨b,o,c',hA,hb,hx,c0,c1⟩:=HR.out.atO KW4.out (k:=q) hq2
   injection hA with hA
   injection hA with hA1 hA2
   subst hA1 hA2
   obtain rfl:c'=c:=by rw[←HCO.out.2,celD_at hx]
   clear hx
   have q0:=BS4.out.cell 0
   have q1:=BS4.out.cell 1
   have q2:=BS4.out.cell 2
   have q3:=BS4.out.cell 3
   have q4:=BS4.out.cell 4
   simp at q0 q1 q2 q3 q4
   have z0:=(HB4.out.cell j).trans (cellsI_at (fwdA_at (by omega) (by omega)))
   generalize limC cs q s=l1 at*
   generalize limC cs p s=l2 at*
   generalize fwdC cs a s j=f at*
   have hmm:0≤min l1 l2∧min l1 l2≤100000:=by omega
   go_wp2_with fail
   have hms:=sq_range hmm.1 hmm.2
   have hgr:=gainC_range HS.out HCO.out.1
   rw[HCO.out.2]at HNX
   have HGN:Hid (∀W,Calls Tryz.prog 494 #[.agg #[.int .i64 c'.lim,.int .i64 c'.grd],.agg #[.string (mkS sn),.int .i64 sl,.int .i64 sv,.int .i64 sa,.int .i64 sb]] W fun e w'=>e= .returned (.int .i64 (gainC c' s))∧KeepsAll W w'):=by
    subst hst
    exact gain_any c' _ HCO.out.1 HS.out
   generalize gainC c' s=G at*
   generalize min l1 l2=mm at*
   generalize hmq:mm*mm=M at*
   have hwm:IntKind.i64.wrap (mm*mm)=M:=by rw[hmq];exact IntWalk.i64_in _ (by omega)
   refine wp_region_lexB (fun w'=>∃x:Ext W4,w'=x.val) [0,1,2,3,4,5,6,7,8,9,10,11,12,13,14,15,16,17,18,19,20,21,22,23,24] (by kernel_rfl) (by kernel_rfl) ⟨⟨_,(Keeps.refl _ _).drew⟩,rfl⟩ ?_
   have x0:=Ext.cell q0
   have x1:=Ext.cell q1
   have x2:=Ext.cell q2
   have x3:=Ext.cell q3
   have x4:=Ext.cell q4
   have x5:=Ext.cell z0
   have x6:=Ext.cell c0
   have x7:=Ext.cell c1
   iterate 20 (refine lex_q _ rfl rfl rfl ?_;go_big_quiet_step (fail);refine wpQuiet_nil ?_)
   refine lex_a _ rfl rfl true (by kernel_rfl) ?_
   clear x0 x1 x2 x3 x4 x5 x6 x7 q0 q1 q2 q3 q4 c0 c1
   go_wp2_with(go_at_call 494;refine(HGN.out _).mono ?_;rintro e W5 ⟨rfl,k5⟩;have K5:KeepsAll W4 W5:=((Keeps.refl _ _).drew).trA k5;clear k5;replace z0:=K5.cellA (World.block_lt_of_cell? _ _ z0) z0)
   refine⟨fun _=>⟨⟨W5,K5⟩,rfl⟩,?_⟩
   have HB5:Hid (Blk W5 (N+1) 3 (cellsI (fwdA cs a s m (j+1)))):=HB4.out.kept K5 (by simp)
   have y0:=HB5.out.frozen (j+1)
   have z1:=(HB5.out.cell (j+1)).trans (cellsI_at (fwdA_zero (by omega)))
   iterate 3 (refine lex_q _ rfl rfl rfl ?_;go_big_quiet_step (fail);refine wpQuiet_nil ?_)
   refine lex_a _ rfl rfl false (by kernel_rfl) ?_
   go_wp2
   (try refine⟨fun h=>(by cases h),?_⟩)
   simp only[wpLex]
   refine NoPanic.normal ?_
   have HB6:Hid (Blk (W5.setCell ⟨N+1,j+1,none⟩ (.int .i64 (min M (f+G)))) (N+1) 3 (cellsI (fwdA cs a s m (j+1+1)))):=by
    have:=HB5.out.set_ (j+1) (.int .i64 (min M (f+G)))
    rw[cellsI_set,←HNX.out,HSET.out]at this
    rw[←HNX.out]
    exact this
   have K6:Hid (Keeps (·=N+1) W3 (W5.setCell ⟨N+1,j+1,none⟩ (.int .i64 (min M (f+G))))):=Keeps.setCell (K4.out.trans K5 (fun _ _ h=>h.elim)) (fun _=>rfl) _
   clear z0 z1 y0
   go_wp2
   exact⟨⟨j+2,by omega,by omega,by go_num,by rw[HL2.out],HB6.out,K6.out⟩,by simp[intOf];omega⟩
  ·obtain rfl:k=m:=by omega
   have HBE:Hid (Blk wr (N+1) 3 (cellsI (bwdA cs a s k (k-1)))):=by
    have:=HB.out
    rw[fwdA_end (by omega)]at this
    exact this
   have hkn:((a+k:Nat):Int)=(cs.length:Int):=by rw[HLN.out]
   have hkn2:(cs.length:Int)-1=((a+(k-1):Nat):Int):=by rw[←hkn];omega
   clear HB BSr KW
   obtain⟨wo,hwo⟩:∃wo:World,wo=wr:=⟨_,rfl⟩
   rw[←hwo]at HBE HK⊢
   clear hwo
   rw[hkn]
   generalize limC cs (a+k-1) s=l9
   go_wp2_with fail
   go_loopw [13] (fun b wr=>∃i:Nat,i<k∧b= .int .i64 ((a+i:Nat):Int)∧Blk wr (N+1) 3 (cellsI (bwdA cs a s k i))∧Keeps (·=N+1) wo wr) (fun b _=>(intOf b).toNat)
   case atStart=>exact⟨k-1,by omega,by rw[Int.natCast_add],HBE.out,Keeps.refl _ _⟩
   case round=>
    obtain⟨i,hi,rfl,hb,hk⟩:=hrel
    have HB:=Lib.hid hb
    have HKO:=Lib.hid hk
    have KW:Hid (KeepsAll w wr):=(K3.out.trans HK.out (fun x hx e=>by omega)).trans hk (fun x hx e=>by omega)
    have BSr:Hid (Blk wr N 103 #[.string (mkS sn),.int .i64 sl,.int .i64 sv,.int .i64 sa,.int .i64 sb]):=(BS.out.kept HK.out (by omega)).kept hk (by omega)
    clear hb hk
    by_cases hlt3:0<i
    ·obtain⟨b,o,c,hA,hb,hx,c0,c1⟩:=HR.out.atO KW.out (k:=a+i) (by rw[HLN.out];omega)
     injection hA with hA
     injection hA with hA1 hA2
     subst hA1 hA2
     have HCO:Hid (celOk c=true∧celD cs (a+i)=c):=⟨HC.out c (List.mem_of_getElem? hx),celD_at hx⟩
     have HNX:=Lib.hid (bwdC_next cs a s hi)
     have hf:=HFW.out i
     have hbw:=HBW.out (k-(i+1))
     have HSET:=Lib.hid (@bwdA_set cs a s k i hlt3)
     have hp2:a+i<cs.length:=by rw[HLN.out];omega
     have hpa:((a+i:Nat):Int)-(a:Int)=(i:Int):=by omega
     have hpb:((a+i:Nat):Int)+1-(a:Int)=((i+1:Nat):Int):=by omega
     have hpd:((a+i:Nat):Int)-1=((a+(i-1):Nat):Int):=by omega
     have hgt:((a:Nat):Int)<((a+i:Nat):Int):=by omega
     clear hx
     have q0:=BSr.out.cell 0
     have q1:=BSr.out.cell 1
     have q2:=BSr.out.cell 2
     have q3:=BSr.out.cell 3
     have q4:=BSr.out.cell 4
     simp at q0 q1 q2 q3 q4
     have z0:=(HB.out.cell i).trans (cellsI_at (bwdA_lo hi))
     have z1:=(HB.out.cell (i+1)).trans (cellsI_at (bwdA_hi (k:=i) (by omega) (by omega)))
     have hgr:=lossC_range HS.out HCO.out.1
     rw[HCO.out.2]at HNX
     have HGN:Hid (∀W,Calls Tryz.prog 495 #[.agg #[.int .i64 c.lim,.int .i64 c.grd],.agg #[.string (mkS sn),.int .i64 sl,.int .i64 sv,.int .i64 sa,.int .i64 sb]] W fun e w'=>e= .returned (.int .i64 (lossC c s))∧KeepsAll W w'):=by
      subst hst
      exact loss_any c _ HCO.out.1 HS.out
     generalize lossC c s=G at*
     generalize fwdC cs a s i=f at*
     generalize bwdC cs a (a+k) s (k-(i+1))=f2 at*
     generalize hp:a+i=p at*
     go_wp2_with fail
     refine wp_region_lexB (fun w'=>∃x:Ext wr,w'=x.val) [0,1,2,3,4,5,6,7,8,9,10,11,12,13,14,15,16,17,18,19,20,21,22,23,24,25,26] (by kernel_rfl) (by kernel_rfl) ⟨⟨_,(Keeps.refl _ _).drew⟩,rfl⟩ ?_
     have x0:=Ext.cell q0
     have x1:=Ext.cell q1
     have x2:=Ext.cell q2
     have x3:=Ext.cell q3
     have x4:=Ext.cell q4
     have x5:=Ext.cell z0
     have x6:=Ext.cell c0
     have x7:=Ext.cell c1
     have x8:=Ext.cell z1
     iterate 22 (refine lex_q _ rfl rfl rfl ?_;go_big_quiet_step (fail);refine wpQuiet_nil ?_)
     refine lex_a _ rfl rfl true (by kernel_rfl) ?_
     clear x0 x1 x2 x3 x4 x5 x6 x7 x8 q0 q1 q2 q3 q4 c0 c1 z0 z1
     go_wp2_with(go_at_call 495;refine(HGN.out _).mono ?_;rintro e W5 ⟨rfl,k5⟩;have K5:KeepsAll wr W5:=((Keeps.refl _ _).drew).trA k5;clear k5)
     refine⟨fun _=>⟨⟨W5,K5⟩,rfl⟩,?_⟩
     have HB5:Hid (Blk W5 (N+1) 3 (cellsI (bwdA cs a s k i))):=HB.out.kept K5 (by simp)
     have y0:=HB5.out.frozen i
     obtain⟨v9,z9⟩:∃v,W5.cell? ⟨N+1,i,none⟩=some v:=⟨_,(HB5.out.cell i).trans (cellsI_at (bwdA_lo hi))⟩
     iterate 3 (refine lex_q _ rfl rfl rfl ?_;go_big_quiet_step (fail);refine wpQuiet_nil ?_)
     refine lex_a _ rfl rfl false (by kernel_rfl) ?_
     go_wp2
     (try refine⟨fun h=>(by cases h),?_⟩)
     simp only[wpLex]
     refine NoPanic.normal ?_
     have HB6:Hid (Blk (W5.setCell ⟨N+1,i,none⟩ (.int .i64 (min f (f2+G)))) (N+1) 3 (cellsI (bwdA cs a s k (i-1)))):=by
      have:=HB5.out.set_ i (.int .i64 (min f (f2+G)))
      rw[cellsI_set,←HNX.out,HSET.out]at this
      rw[←HNX.out]
      exact this
     have K6:Hid (Keeps (·=N+1) wo (W5.setCell ⟨N+1,i,none⟩ (.int .i64 (min f (f2+G))))):=Keeps.setCell (HKO.out.trans K5 (fun _ _ h=>h.elim)) (fun _=>rfl) _
     clear z9 y0
     go_wp2
     exact⟨⟨i-1,by omega,by rw[Int.natCast_add],HB6.out,K6.out⟩,by simp[intOf];omega⟩
    ·obtain rfl:i=0:=by omega
     have HBF:Hid (Blk wr (N+1) 3 (cellsI (tab (k+1) (sqC cs a s)))):=by
      have:=HB.out
      rw[HEND.out]at this
      exact this
     rw[Nat.add_zero]
     go_wp2_with fail
     go_ret
     subst hst
     exact⟨N+1,rfl,by omega,HBF.out,KW.out⟩
end
section
open Go.RowKit
set_option maxRecDepth 100000 in
set_option maxHeartbeats 4000000 in
theorem checkRun_ok (cs:List Cel) (A:Option Addr) (u a m:Nat) (s:Stk) (w:World) (h:RCels w (Old w) [.slice A cs.length u] cs) (hl:cs.length=a+m) (hm:2≤m) (hc:∀c∈cs,celOk c=true) (hs:stkOk s=true) (hcl:cs.length≤4000):
  Calls Tryz.prog 487 #[.slice A cs.length u,.int .i64 (a:Int),.agg (stkC s)] w fun e w'=>e= .returned (.int .i64 0)∧KeepsAll w w':=by
 have hcap:=h.caps
 have HR:=Lib.hid h
 have HC:=Lib.hid hc
 have HS:=Lib.hid (fun W=>stkOk_any s W)
 rw[hs]at HS
 clear h hc
 obtain⟨sn,sl,sv,sa,sb⟩:=s
 unfold stkC at HS⊢
 simp only[]at HS⊢
 have hlt1:((a:Int)<0)=False:=by simp
 have hm2:¬((cs.length:Int)-2<(a:Int)):=by omega
 have HLN:=Lib.hid hl
 clear hs hl
 go_enter Tryz.func487,Tryz.ntmps487
 go_wp2_with fail
 generalize hW1:World.alloc w _=W1
 have K1:Hid (KeepsAll w W1):=by subst hW1;exact(Keeps.refl _ _).alloc _
 clear hW1
 refine(HS.out W1).mono ?_
 rintro e W2 ⟨rfl,k2⟩
 have K2:Hid (KeepsAll w W2):=K1.out.trA k2
 clear k2 K1
 go_wp2_with fail
 go_loopw [19] (fun i wr=>∃n:Nat,n≤cs.length∧i= .int .i64 (n:Int)∧KeepsAll W2 wr) (fun i _=>cs.length-(intOf i).toNat)
 case atStart=>exact⟨0,Nat.zero_le _,rfl,Keeps.refl _ _⟩
 case round=>
  obtain⟨n,hn,rfl,hk⟩:=hrel
  have HK:=Lib.hid hk
  have KW:=Lib.hid (K2.out.trA hk)
  clear hk
  by_cases hlt:n<cs.length
  ·obtain⟨b,o,c,rfl,hb,hx,c0,c1⟩:=HR.out.atO KW.out hlt
   have hok:=HC.out c (List.mem_of_getElem? hx)
   simp only[celOk,decide_eq_true_eq]at hok
   obtain⟨p1,p2,p3,p4⟩:=hok
   have d1:decide (c.lim<1000)=false:=by simp;omega
   have d2:decide (100000<c.lim)=false:=by simp;omega
   have d3:decide (c.grd< -40)=false:=by simp;omega
   have d4:decide (40<c.grd)=false:=by simp;omega
   clear hx
   go_wp2_with fail
   exact⟨⟨n+1,by omega,by go_num,HK.out.alloc _⟩,by simp[intOf];omega⟩
  ·obtain rfl:n=cs.length:=by omega
   go_wp2_with fail
   go_ret
   exact⟨rfl,KW.out⟩
def spdA (cs:List Cel) (a:Nat) (s:Stk) (m k:Nat):List Int:=tab (m+1) fun j=>if j<k then spdC cs a s j else sqC cs a s j
theorem spdA_at {cs:List Cel} {a:Nat} {s:Stk} {m k:Nat} (h:k≤m):(spdA cs a s m k)[k]? =some (sqC cs a s k):=by
 unfold spdA;rw[tab_get (by omega),if_neg (by omega)]
theorem spdA_set {cs:List Cel} {a:Nat} {s:Stk} {m k:Nat}:(spdA cs a s m k).set k (spdC cs a s k)=spdA cs a s m (k+1):=by
 unfold spdA
 rw[tab_set]
 refine tab_ext fun j _=> ?_
 by_cases e:j=k
 ·subst e;rw[if_pos rfl,if_pos (by omega)]
 ·rw[if_neg e]
  by_cases h:j<k
  ·rw[if_pos h,if_pos (by omega)]
  ·rw[if_neg h,if_neg (by omega)]
theorem spdA_start (cs:List Cel) (a:Nat) (s:Stk) (m:Nat):tab (m+1) (sqC cs a s)=spdA cs a s m 0:=tab_ext fun j _=>by rw[if_neg (by omega)]
theorem spdA_end (cs:List Cel) (a:Nat) (s:Stk) (m:Nat):spdA cs a s m (m+1)=tab (m+1) (spdC cs a s):=tab_ext fun j h=>by rw[if_pos h]
def timA (cs:List Cel) (a:Nat) (s:Stk) (m k:Nat):List Int:=tab (m+1) fun j=>if j<k then timC cs a s j else 0
theorem timA_at {cs:List Cel} {a:Nat} {s:Stk} {m k j:Nat} (hj:j<k) (h:j≤m):(timA cs a s m k)[j]? =some (timC cs a s j):=by
 unfold timA;rw[tab_get (by omega),if_pos hj]
theorem timA_zero {cs:List Cel} {a:Nat} {s:Stk} {m k:Nat} (h:k≤m):(timA cs a s m k)[k]? =some 0:=by
 unfold timA;rw[tab_get (by omega),if_neg (by omega)]
theorem timA_set {cs:List Cel} {a:Nat} {s:Stk} {m k:Nat}:(timA cs a s m k).set k (timC cs a s k)=timA cs a s m (k+1):=by
 unfold timA
 rw[tab_set]
 refine tab_ext fun j _=> ?_
 by_cases e:j=k
 ·subst e;rw[if_pos rfl,if_pos (by omega)]
 ·rw[if_neg e]
  by_cases h:j<k
  ·rw[if_pos h,if_pos (by omega)]
  ·rw[if_neg h,if_neg (by omega)]
theorem timA_start (cs:List Cel) (a:Nat) (s:Stk) (m:Nat):List.replicate (m+1) 0=timA cs a s m 1:=by
 unfold timA
 rw[tab_const]
 refine tab_ext fun j _=> ?_
 split
 ·rename_i h;obtain rfl:j=0:=by omega
  rfl
 ·rfl
theorem timA_end (cs:List Cel) (a:Nat) (s:Stk) (m:Nat):timA cs a s m (m+1)=tab (m+1) (timC cs a s):=tab_ext fun j h=>by rw[if_pos h]
set_option maxRecDepth 100000 in
set_option maxHeartbeats 4000000 in
theorem Speeds_any (cs:List Cel) (A:Option Addr) (u a m:Nat) (s:Stk) (w:World) (h:RCels w (Old w) [.slice A cs.length u] cs) (hl:cs.length=a+m) (hm:2≤m) (hc:∀c∈cs,celOk c=true) (hs:stkOk s=true) (hcl:cs.length≤4000):
  Calls Tryz.prog 472 #[.slice A cs.length u,.int .i64 (a:Int),.agg (stkC s)] w fun e w'=>∃g,e= .returned (.tuple #[.slice (some ⟨g,0,none⟩) (m+1) (m+1),.int .i64 0])∧w.heap.size≤g∧Blk w' g 3 (cellsI (tab (m+1) (spdC cs a s)))∧KeepsAll w w':=by
 have HCK:=Lib.hid (fun W k=>checkRun_ok cs A u a m s W k hl hm hc hs hcl)
 have HSQ:=Lib.hid (fun W k=>squares_any cs A u a m s W k hl hm hc hs hcl)
 have HRG:Hid (∀k,0≤sqC cs a s k∧sqC cs a s k≤10000000000):=fun k=>⟨(sqC_range hc hs k).1,(sqC_range hc hs k).2.1⟩
 have HSET:=Lib.hid (fun k=> @spdA_set cs a s m k)
 have HR:=Lib.hid h
 have HD:Hid (∀k,isqC (sqC cs a s k)=spdC cs a s k):=fun _=>rfl
 have hm4:m≤4000:=by omega
 clear h hc hs hl
 obtain⟨sn,sl,sv,sa,sb⟩:=s
 generalize hst:(⟨sn,sl,sv,sa,sb⟩:Stk)=s at*
 have E:Hid (stkC s= #[.string (mkS sn),.int .i64 sl,.int .i64 sv,.int .i64 sa,.int .i64 sb]):=by subst hst;rfl
 rw[E.out]at HCK HSQ⊢
 clear hst
 go_enter Tryz.func472,Tryz.ntmps472
 go_wp2_with fail
 generalize hW1:World.alloc w _=W1
 have K1:Hid (KeepsAll w W1):=by subst hW1;exact(Keeps.refl _ _).alloc _
 have B1:Hid (Blk W1 w.heap.size 103 #[.string (mkS sn),.int .i64 sl,.int .i64 sv,.int .i64 sa,.int .i64 sb]):=by subst hW1;exact Blk.new _ _ _
 clear hW1
 generalize hN:w.heap.size=N at*
 refine(HCK.out W1 (K1.out.rdA (RSlice.ok RCel.ok) HR.out)).mono ?_
 rintro e W2 ⟨rfl,k2⟩
 have K2:Hid (KeepsAll w W2):=K1.out.trA k2
 have B2:=Lib.hid (B1.out.kept k2 (by simp))
 clear k2 K1 B1
 have q0:=B2.out.cell 0
 have q1:=B2.out.cell 1
 have q2:=B2.out.cell 2
 have q3:=B2.out.cell 3
 have q4:=B2.out.cell 4
 simp at q0 q1 q2 q3 q4
 go_wp2_with fail
 refine(HSQ.out W2 (K2.out.rdA (RSlice.ok RCel.ok) HR.out)).mono ?_
 rintro e W3 ⟨g,rfl,hg,hb,k3⟩
 have K3:Hid (KeepsAll w W3):=K2.out.trA k3
 have HB3:Hid (Blk W3 g 3 (cellsI (spdA cs a s m 0))):=by rw[←spdA_start];exact hb
 have hgw:w.heap.size≤g:=Nat.le_trans K2.out.size hg
 clear k3 hb q0 q1 q2 q3 q4 B2 hg
 go_wp2_with fail
 go_loopw [25] (fun i wr=>∃n:Nat,n≤m+1∧i= .int .i64 (n:Int)∧Blk wr g 3 (cellsI (spdA cs a s m n))∧Keeps (·=g) W3 wr) (fun i _=>(m+1)-(intOf i).toNat)
 case atStart=>exact⟨0,Nat.zero_le _,rfl,HB3.out,Keeps.refl _ _⟩
 case round=>
  obtain⟨n,hn,rfl,hb,hk⟩:=hrel
  have HB:=Lib.hid hb
  have HK:=Lib.hid hk
  clear hb hk
  by_cases hlt:n<m+1
  ·have z0:=(HB.out.cell n).trans (cellsI_at (spdA_at (by omega)))
   have hrg:=HRG.out n
   have y0:=HB.out.frozen n
   have hd:=HD.out n
   generalize sqC cs a s n=q at*
   obtain⟨q,rfl⟩:=Int.eq_ofNat_of_zero_le hrg.1
   have hd2:(isqN q:Int)=spdC cs a s n:=by rw[←hd];unfold isqC;rw[Int.toNat_natCast]
   clear hd
   go_wp2_with(go_at_call 489;refine(Sqrt_any q (by omega) _).mono ?_;rintro e w' ⟨rfl,rfl⟩)
   have HB6:Hid (Blk (wr.setCell ⟨g,n,none⟩ (.int .i64 (spdC cs a s n))) g 3 (cellsI (spdA cs a s m (n+1)))):=by
    have:=HB.out.set_ n (.int .i64 (spdC cs a s n))
    rw[cellsI_set,HSET.out]at this
    exact this
   exact⟨⟨n+1,by omega,by go_num,HB6.out,Keeps.setCell HK.out (fun _=>rfl) _⟩,by simp[intOf];omega⟩
  ·obtain rfl:n=m+1:=by omega
   have HBF:Hid (Blk wr g 3 (cellsI (tab (m+1) (spdC cs a s)))):=by rw[←spdA_end];exact HB.out
   go_wp2_with fail
   go_ret2
   exact⟨g,rfl,by omega,HBF.out,K3.out.trans HK.out (fun x hx e=>by omega)⟩
set_option maxRecDepth 100000 in
set_option maxHeartbeats 4000000 in
theorem DTimes_any (cs:List Cel) (A:Option Addr) (u a m:Nat) (s:Stk) (w:World) (h:RCels w (Old w) [.slice A cs.length u] cs) (hl:cs.length=a+m) (hm:2≤m) (hc:∀c∈cs,celOk c=true) (hs:stkOk s=true) (hcl:cs.length≤4000):
  Calls Tryz.prog 451 #[.slice A cs.length u,.int .i64 (a:Int),.agg (stkC s)] w fun e w'=>∃g,e= .returned (.tuple #[.slice (some ⟨g,0,none⟩) (m+1) (m+1),.int .i64 0])∧w.heap.size≤g∧Blk w' g 3 (cellsI (tab (m+1) (timC cs a s)))∧KeepsAll w w':=by
 have HSP:=Lib.hid (fun W k=>Speeds_any cs A u a m s W k hl hm hc hs hcl)
 have HRG:Hid (∀b,b+1≤m→0<spdC cs a s b+spdC cs a s (b+1)∧1≤cdiv 20000000 (spdC cs a s b+spdC cs a s (b+1))∧cdiv 20000000 (spdC cs a s b+spdC cs a s (b+1))≤20001):=fun b hb=>cdiv_range hc hs (a:=a) b (by omega) (by omega)
 have HSR:Hid (∀b,0≤spdC cs a s b∧spdC cs a s b≤100000):=fun b=>⟨(spdC_range hc hs b).1,(spdC_range hc hs b).2.1⟩
 have HTR:Hid (∀b,b≤m→0≤timC cs a s b∧timC cs a s b≤20001*b):=by
  intro b
  induction b with
  |zero=>intro _;exact⟨Int.le_refl _,by simp[timC]⟩
  |succ b ih=>
   intro hb
   have h1:=ih (by omega)
   have h2:=HRG.out b hb
   rw[timC]
   omega
 have HSET:=Lib.hid (fun k=> @timA_set cs a s m k)
 have HNX:Hid (∀b,timC cs a s (b+1)=timC cs a s b+cdiv 20000000 (spdC cs a s b+spdC cs a s (b+1))):=fun _=>rfl
 have HR:=Lib.hid h
 have hm4:m≤4000:=by omega
 have hmk:=mkInts (m+1) (by omega)
 rw[Int.natCast_add,show((1:Nat):Int)=1 from rfl]at hmk
 clear h hc hs hl
 obtain⟨sn,sl,sv,sa,sb⟩:=s
 generalize hst:(⟨sn,sl,sv,sa,sb⟩:Stk)=s at*
 have E:Hid (stkC s= #[.string (mkS sn),.int .i64 sl,.int .i64 sv,.int .i64 sa,.int .i64 sb]):=by subst hst;rfl
 rw[E.out]at HSP⊢
 clear hst
 go_enter Tryz.func451,Tryz.ntmps451
 go_wp2_with fail
 generalize hW1:World.alloc w _=W1
 have K1:Hid (KeepsAll w W1):=by subst hW1;exact(Keeps.refl _ _).alloc _
 clear hW1
 generalize hN:w.heap.size=N at*
 refine(HSP.out W1 (K1.out.rdA (RSlice.ok RCel.ok) HR.out)).mono ?_
 rintro e W2 ⟨g,rfl,hg,hb,k2⟩
 have K2:Hid (KeepsAll w W2):=K1.out.trA k2
 have HB:=Lib.hid hb
 have hgw:w.heap.size≤g:=Nat.le_trans K1.out.size hg
 clear k2 K1 hb hg
 go_wp2_with fail
 generalize hW3:World.alloc W2 _=W3
 have K3:Hid (KeepsAll w W3):=by subst hW3;exact K2.out.alloc _
 have HB3:Hid (Blk W3 g 3 (cellsI (tab (m+1) (spdC cs a s)))):=by subst hW3;exact HB.out.alloc _
 have HT3:Hid (Blk W3 W2.heap.size 3 (cellsI (timA cs a s m 1))):=by subst hW3;rw[←timA_start];exact Blk.new _ _ _
 have hne:g<W2.heap.size:=HB.out.lt
 have hw2:w.heap.size≤W2.heap.size:=K2.out.size
 clear hW3 hmk HB
 generalize W2.heap.size=t at*
 go_loopw [11] (fun i wr=>∃n:Nat,n≤m∧i= .int .i64 ((n+1:Nat):Int)∧Blk wr t 3 (cellsI (timA cs a s m (n+1)))∧Keeps (·=t) W3 wr) (fun i _=>(m+1)-(intOf i).toNat)
 case atStart=>exact⟨0,Nat.zero_le _,rfl,HT3.out,Keeps.refl _ _⟩
 case round=>
  obtain⟨n,hn,rfl,hb,hk⟩:=hrel
  have HB:=Lib.hid hb
  have HK:=Lib.hid hk
  have HBS:=Lib.hid (HB3.out.kept hk (by omega))
  clear hb hk
  by_cases hlt:n<m
  ·have z0:=(HBS.out.cell n).trans (cellsI_at (tab_get (show n<m+1 by omega)))
   have z1:=(HBS.out.cell (n+1)).trans (cellsI_at (tab_get (show n+1<m+1 by omega)))
   have z2:=(HB.out.cell n).trans (cellsI_at (timA_at (by omega) (by omega)))
   have z3:=(HB.out.cell (n+1)).trans (cellsI_at (timA_zero (by omega)))
   have y0:=HB.out.frozen (n+1)
   have hrg:=HRG.out n (by omega)
   have hs1:=HSR.out n
   have hs2:=HSR.out (n+1)
   have htr:=HTR.out n (by omega)
   have hnx:=Lib.hid (HNX.out n)
   have hset:=Lib.hid (HSET.out (n+1))
   have hp1:((n+1:Nat):Int)-1=(n:Int):=by omega
   generalize spdC cs a s n=s1 at*
   generalize spdC cs a s (n+1)=s2 at*
   generalize timC cs a s n=t1 at*
   have HCD:=Lib.hid (fun W=>CeilDiv_any 20000000 (s1+s2) (by omega) (by omega) (by omega) (by omega) W)
   generalize cdiv 20000000 (s1+s2)=d at*
   go_wp2_with fail
   go_quiet ((go_at_call 473;exact quiet_left (HCD.out _)))
   go_wp2_with fail
   have HB6:Hid (Blk ((wr.drewN nq).setCell ⟨t,n+1,none⟩ (.int .i64 (t1+d))) t 3 (cellsI (timA cs a s m (n+1+1)))):=by
    have hb0:Blk (wr.drewN nq) t 3 (cellsI (timA cs a s m (n+1))):=HB.out
    have:=hb0.set_ (n+1) (.int .i64 (t1+d))
    rw[cellsI_set,←hnx.out,hset.out]at this
    rw[←hnx.out]
    exact this
   exact⟨⟨n+1,by omega,by go_num,HB6.out,Keeps.setCell (HK.out.drewN _) (fun _=>rfl) _⟩,by simp[intOf];omega⟩
  ·obtain rfl:n=m:=by omega
   have HBF:Hid (Blk wr t 3 (cellsI (tab (n+1) (timC cs a s)))):=by rw[←timA_end];exact HB.out
   go_wp2_with fail
   go_ret2
   exact⟨t,rfl,by omega,HBF.out,K3.out.trans HK.out (fun x hx e=>by omega)⟩
end
end Go.Proofs.YtcbcegdidlefiaaGreat
