/- From a row's argument that is a slice of integers to its reading. No condition. From a row's argument that is a slice of slices or of structs to its reading. No condition. From a row's argument that is a case, or a list of incidents, to its reading. No condition. -/
import Derived.Test.YtcbcegdidlefiaaGreatK01
import Derived.Test.YtcbcegdidlefiaaGreatRows
import Derived.ProofKit
import Derived.OpenShut
import Derived.ShutString
import Derived.ChangeOld
import Derived.Below
import Derived.Test.YtcbcegdidlefiaaGreatK08
import Derived.Deep.Slices
import Derived.ChangeArms
import Derived.DataReads
import Derived.Test.YtcbcegdidlefiaaGreatK20
namespace Go.Proofs.YtcbcegdidlefiaaGreat
section
open Go.ChangeShapes Go.WideShapes Go.ChangeAt Go.RowKit
theorem rowOwn:ownKnob Tryz.prog.godebug=none:=by kernel_rfl
theorem rowLaid:laidOutB Tryz.prog=true:=by kernel_rfl
theorem cell_lt {w:World} {p:Addr} {v:Value} (h:w.cell? p=some v):p.block<w.heap.size:=by
 rcases Nat.lt_or_ge p.block w.heap.size with h1|h1
 ·exact h1
 ·have:w.heap[p.block]? =none:=Array.getElem?_eq_none h1
  simp[World.cell?,this]at h
end
section
open Go.ChangeShapes Go.WideShapes Go.ChangeAt Go.RowKit
section
variable {H:Type} {enc:TypeId×Value→H} {W:World}
def Opens {α:Type} (enc:TypeId×Value→H) (W:World) (t size:Nat) (E:Rd α):Prop:=∀(n:Nat) (cs:List Value) (x:DataW H×List MemPlace),DataW.trod enc Tryz.prog W 0 (fun _=>true) true n t cs=some x→cs.length=size∧∃y,E W (Old W) cs y
theorem opens_int:Opens enc W 3 1 RInt:=fun n cs x h=>by
 obtain⟨z,rfl,_,_⟩:=DataW.trod_int Tryz.underlying3 h
 exact⟨rfl,z,rfl⟩
theorem add_none (b o j:Nat):(Addr.mk b o none).add j=⟨b,o+j,none⟩:=by
 unfold Addr.add;split
 ·subst_vars;rfl
 ·simp
theorem opens_slice {α:Type} {T t size:Nat} {E:Rd α} (ht:Tryz.prog.underlying T=some (.slice t)) (hsz:Tryz.prog.cellsOf t=size) (hp:0<size) (hE:Opens enc W t size E):Opens enc W T 1 (RSlice size E):=fun n cs x h=>by
 rcases Go.Deep.open_slice ht h with⟨rfl,_⟩|⟨a,len,cap,m,n',D,Pl,rfl,_,hl,hm,hmm,_,hel⟩
 ·exact⟨rfl,[],RSlice.mkNil⟩
 ·refine⟨rfl,?_⟩
  rw[hsz]at hel
  have hmc:m=cap:=hmm
  by_cases h0:len=0
  ·subst h0
   exact⟨[],some a,cap,rfl,Nat.zero_le _,by simpa[maxLen]using hm,fun h=>absurd rfl h⟩
  ·obtain⟨cs0,hc0,_⟩:=hel 0 (by omega)
   obtain⟨_,hl0,hcell0⟩:=World.cells?_some hc0
   have hcc:=hcell0 0 hp
   have hs0:cs0[0]? =some (cs0[0]'(by omega)):=List.getElem?_eq_getElem _
   rw[hs0]at hcc
   obtain⟨b,o,spot⟩:=a
   have hspot:spot=none:=by simpa[Addr.add]using World.cell?_spot hcc
   subst hspot
   have hblk:b<W.heap.size:=by have:=cell_lt hcc;simpa[Addr.add]using this
   obtain⟨l,hl1,hl2⟩:=list_choose (P:=fun j y=>∃es,es.length=size∧E W (Old W) es y∧∀i u,es[i]? =some u→W.cell? ⟨b,o+(j*size+i),none⟩=some u) len (fun j hj=>by
    obtain⟨cs',hc,htr⟩:=hel j (by omega)
    obtain⟨_,hlc,hcell⟩:=World.cells?_some hc
    obtain⟨hl',y,hy⟩:=hE n' cs' _ htr
    refine⟨y,cs',hl',hy,fun i u hu=> ?_⟩
    have hi:i<size:=by rw[←hl'];exact getElem?_lt hu
    have:=hcell i hi
    rw[add_none,add_none,hu,Nat.add_assoc]at this
    exact this)
   exact⟨l,some ⟨b,o,none⟩,cap,by rw[hl1],by omega,by simpa[maxLen]using hm,fun _=>⟨b,o,rfl,hblk,hl2⟩⟩
theorem four {cs:List Value} (h:cs.length=4):∃a b c d,cs=[a,b,c,d]:=by
 match cs,h with
 | [a,b,c,d],_=>exact⟨a,b,c,d,rfl⟩
theorem two {cs:List Value} (h:cs.length=2):∃a b,cs=[a,b]:=by
 match cs,h with
 | [a,b],_=>exact⟨a,b,rfl⟩
theorem some_of {α:Type} {xs:List α} {i n:Nat} {z:Option α} (hl:xs.length=n) (hi:i<n) (h:z=xs[i]?):∃x,z=some x:=⟨xs[i]'(by omega),by rw[h];exact List.getElem?_eq_getElem _⟩
end
end
section
open Go.ChangeShapes Go.WideShapes Go.ChangeAt Go.RowKit
section
variable {H:Type} {enc:TypeId×Value→H} {W:World}
theorem three {cs:List Value} (h:cs.length=3):∃a b c,cs=[a,b,c]:=by
 match cs,h with
 | [a,b,c],_=>exact⟨a,b,c,rfl⟩
theorem five {cs:List Value} (h:cs.length=5):∃a b c d e,cs=[a,b,c,d,e]:=by
 match cs,h with
 | [a,b,c,d,e],_=>exact⟨a,b,c,d,e,rfl⟩
theorem six {cs:List Value} (h:cs.length=6):∃a b c d e f,cs=[a,b,c,d,e,f]:=by
 match cs,h with
 | [a,b,c,d,e,f],_=>exact⟨a,b,c,d,e,f,rfl⟩
theorem seven {cs:List Value} (h:cs.length=7):∃a b c d e f g,cs=[a,b,c,d,e,f,g]:=by
 match cs,h with
 | [a,b,c,d,e,f,g],_=>exact⟨a,b,c,d,e,f,g,rfl⟩
theorem opens_fld {α:Type} {t size n m i:Nat} {E:Rd α} {sub:List Value} {xs:List (DataW H×List MemPlace)} (hE:Opens enc W t size E) (hl:xs.length=n) (hi:i<n) (q:DataW.trod enc Tryz.prog W 0 (fun _=>true) true m t sub=xs[i]?):∃y,E W (Old W) sub y:=by
 obtain⟨x,hx⟩:=some_of hl hi q
 exact(hE m sub x hx).2
def RStrB:Rd Bs:=fun w S cs x=>RStr w S cs x∧x.length≤9223372036854775807
def RSecB:Rd Sec:=fun w S cs x=>RSec w S cs x∧x.name.length≤9223372036854775807
theorem RSlice.imp {α:Type} {size:Nat} {E F:Rd α} (hEF:∀w S cs x,E w S cs x→F w S cs x) {w:World} {S:Foot} {cs:List Value} {l:List α} (h:RSlice size E w S cs l):RSlice size F w S cs l:=by
 obtain⟨A,c,e,h1,h2,h3⟩:=h
 refine⟨A,c,e,h1,h2,fun hn=> ?_⟩
 obtain⟨b,o,e2,hb,hx⟩:=h3 hn
 exact⟨b,o,e2,hb,fun j x hj=>by obtain⟨es,g1,g2,g3⟩:=hx j x hj;exact⟨es,g1,hEF _ _ _ _ g2,g3⟩⟩
theorem RSlice.all {α:Type} {size:Nat} {E:Rd α} {p:α→Prop} (hp:∀w S cs x,E w S cs x→p x) {w:World} {S:Foot} {cs:List Value} {l:List α} (h:RSlice size E w S cs l):∀x∈l,p x:=by
 obtain⟨A,c,e,h1,h2,h3⟩:=h
 intro x hx
 obtain⟨b,o,e2,hb,hy⟩:=h3 (fun e=>by rw[e]at hx;cases hx)
 obtain⟨j,hj,rfl⟩:=List.getElem_of_mem hx
 obtain⟨es,g1,g2,g3⟩:=hy j _ (List.getElem?_eq_getElem hj)
 exact hp _ _ _ _ g2
theorem opens_str:Opens enc W 9 1 RStrB:=fun n cs x h=>by
 obtain⟨s,rfl,_,hs⟩:=DataW.trod_string Tryz.underlying9 h
 refine⟨rfl,s.data.toList,rfl,?_⟩
 have:s.size≤9223372036854775807:=hs
 simpa using this
theorem opens_strs:Opens enc W 23 1 (RSlice 1 RStrB):=opens_slice Tryz.underlying23 (by kernel_rfl) (by omega) opens_str
theorem opens_sec:Opens enc W 185 5 RSecB:=fun n cs x h=>by
 obtain⟨xs,m,_,_,hl,hxl,hf⟩:=DataW.trod_struct Tryz.underlying185 h
 rw[show Tryz.prog.cellsOf 185=5 by kernel_rfl]at hl
 obtain⟨a,b,c,d,e,rfl⟩:=five hl
 refine⟨rfl,?_⟩
 have q0:DataW.trod enc Tryz.prog W 0 (fun _=>true) true m 9 (([a,b,c,d,e].drop 0).take (Tryz.prog.cellsOf 9))=xs[0]? :=hf 0 _ rfl
 rw[show Tryz.prog.cellsOf 9=1 by kernel_rfl]at q0
 obtain⟨z0,e0⟩:=opens_fld opens_str hxl (i:=0) (by simp) q0
 have q1:DataW.trod enc Tryz.prog W 0 (fun _=>true) true m 3 (([a,b,c,d,e].drop 1).take (Tryz.prog.cellsOf 3))=xs[1]? :=hf 1 _ rfl
 rw[show Tryz.prog.cellsOf 3=1 by kernel_rfl]at q1
 obtain⟨z1,e1⟩:=opens_fld opens_int hxl (i:=1) (by simp) q1
 have q2:DataW.trod enc Tryz.prog W 0 (fun _=>true) true m 3 (([a,b,c,d,e].drop 2).take (Tryz.prog.cellsOf 3))=xs[2]? :=hf 2 _ rfl
 rw[show Tryz.prog.cellsOf 3=1 by kernel_rfl]at q2
 obtain⟨z2,e2⟩:=opens_fld opens_int hxl (i:=2) (by simp) q2
 have q3:DataW.trod enc Tryz.prog W 0 (fun _=>true) true m 3 (([a,b,c,d,e].drop 3).take (Tryz.prog.cellsOf 3))=xs[3]? :=hf 3 _ rfl
 rw[show Tryz.prog.cellsOf 3=1 by kernel_rfl]at q3
 obtain⟨z3,e3⟩:=opens_fld opens_int hxl (i:=3) (by simp) q3
 have q4:DataW.trod enc Tryz.prog W 0 (fun _=>true) true m 3 (([a,b,c,d,e].drop 4).take (Tryz.prog.cellsOf 3))=xs[4]? :=hf 4 _ rfl
 rw[show Tryz.prog.cellsOf 3=1 by kernel_rfl]at q4
 obtain⟨z4,e4⟩:=opens_fld opens_int hxl (i:=4) (by simp) q4
 have b0:=e0.2
 replace e0:=e0.1
 injection e0 with e0
 subst e0
 injection e1 with e1
 subst e1
 injection e2 with e2
 subst e2
 injection e3 with e3
 subst e3
 injection e4 with e4
 subst e4
 exact⟨⟨z0,z1,z2,z3,z4⟩,rfl,b0⟩
theorem opens_lnk:Opens enc W 196 6 RLnk:=fun n cs x h=>by
 obtain⟨xs,m,_,_,hl,hxl,hf⟩:=DataW.trod_struct Tryz.underlying196 h
 rw[show Tryz.prog.cellsOf 196=6 by kernel_rfl]at hl
 obtain⟨a,b,c,d,e,f,rfl⟩:=six hl
 refine⟨rfl,?_⟩
 have q0:DataW.trod enc Tryz.prog W 0 (fun _=>true) true m 3 (([a,b,c,d,e,f].drop 0).take (Tryz.prog.cellsOf 3))=xs[0]? :=hf 0 _ rfl
 rw[show Tryz.prog.cellsOf 3=1 by kernel_rfl]at q0
 obtain⟨z0,e0⟩:=opens_fld opens_int hxl (i:=0) (by simp) q0
 have q1:DataW.trod enc Tryz.prog W 0 (fun _=>true) true m 3 (([a,b,c,d,e,f].drop 1).take (Tryz.prog.cellsOf 3))=xs[1]? :=hf 1 _ rfl
 rw[show Tryz.prog.cellsOf 3=1 by kernel_rfl]at q1
 obtain⟨z1,e1⟩:=opens_fld opens_int hxl (i:=1) (by simp) q1
 have q2:DataW.trod enc Tryz.prog W 0 (fun _=>true) true m 3 (([a,b,c,d,e,f].drop 2).take (Tryz.prog.cellsOf 3))=xs[2]? :=hf 2 _ rfl
 rw[show Tryz.prog.cellsOf 3=1 by kernel_rfl]at q2
 obtain⟨z2,e2⟩:=opens_fld opens_int hxl (i:=2) (by simp) q2
 have q3:DataW.trod enc Tryz.prog W 0 (fun _=>true) true m 3 (([a,b,c,d,e,f].drop 3).take (Tryz.prog.cellsOf 3))=xs[3]? :=hf 3 _ rfl
 rw[show Tryz.prog.cellsOf 3=1 by kernel_rfl]at q3
 obtain⟨z3,e3⟩:=opens_fld opens_int hxl (i:=3) (by simp) q3
 have q4:DataW.trod enc Tryz.prog W 0 (fun _=>true) true m 3 (([a,b,c,d,e,f].drop 4).take (Tryz.prog.cellsOf 3))=xs[4]? :=hf 4 _ rfl
 rw[show Tryz.prog.cellsOf 3=1 by kernel_rfl]at q4
 obtain⟨z4,e4⟩:=opens_fld opens_int hxl (i:=4) (by simp) q4
 have q5:DataW.trod enc Tryz.prog W 0 (fun _=>true) true m 3 (([a,b,c,d,e,f].drop 5).take (Tryz.prog.cellsOf 3))=xs[5]? :=hf 5 _ rfl
 rw[show Tryz.prog.cellsOf 3=1 by kernel_rfl]at q5
 obtain⟨z5,e5⟩:=opens_fld opens_int hxl (i:=5) (by simp) q5
 injection e0 with e0
 subst e0
 injection e1 with e1
 subst e1
 injection e2 with e2
 subst e2
 injection e3 with e3
 subst e3
 injection e4 with e4
 subst e4
 injection e5 with e5
 subst e5
 exact⟨⟨z0,z1,z2,z3,z4,z5⟩,rfl⟩
theorem opens_stk:Opens enc W 103 5 RStk:=fun n cs x h=>by
 obtain⟨xs,m,_,_,hl,hxl,hf⟩:=DataW.trod_struct Tryz.underlying103 h
 rw[show Tryz.prog.cellsOf 103=5 by kernel_rfl]at hl
 obtain⟨a,b,c,d,e,rfl⟩:=five hl
 refine⟨rfl,?_⟩
 have q0:DataW.trod enc Tryz.prog W 0 (fun _=>true) true m 9 (([a,b,c,d,e].drop 0).take (Tryz.prog.cellsOf 9))=xs[0]? :=hf 0 _ rfl
 rw[show Tryz.prog.cellsOf 9=1 by kernel_rfl]at q0
 obtain⟨z0,e0⟩:=opens_fld opens_str hxl (i:=0) (by simp) q0
 have q1:DataW.trod enc Tryz.prog W 0 (fun _=>true) true m 3 (([a,b,c,d,e].drop 1).take (Tryz.prog.cellsOf 3))=xs[1]? :=hf 1 _ rfl
 rw[show Tryz.prog.cellsOf 3=1 by kernel_rfl]at q1
 obtain⟨z1,e1⟩:=opens_fld opens_int hxl (i:=1) (by simp) q1
 have q2:DataW.trod enc Tryz.prog W 0 (fun _=>true) true m 3 (([a,b,c,d,e].drop 2).take (Tryz.prog.cellsOf 3))=xs[2]? :=hf 2 _ rfl
 rw[show Tryz.prog.cellsOf 3=1 by kernel_rfl]at q2
 obtain⟨z2,e2⟩:=opens_fld opens_int hxl (i:=2) (by simp) q2
 have q3:DataW.trod enc Tryz.prog W 0 (fun _=>true) true m 3 (([a,b,c,d,e].drop 3).take (Tryz.prog.cellsOf 3))=xs[3]? :=hf 3 _ rfl
 rw[show Tryz.prog.cellsOf 3=1 by kernel_rfl]at q3
 obtain⟨z3,e3⟩:=opens_fld opens_int hxl (i:=3) (by simp) q3
 have q4:DataW.trod enc Tryz.prog W 0 (fun _=>true) true m 3 (([a,b,c,d,e].drop 4).take (Tryz.prog.cellsOf 3))=xs[4]? :=hf 4 _ rfl
 rw[show Tryz.prog.cellsOf 3=1 by kernel_rfl]at q4
 obtain⟨z4,e4⟩:=opens_fld opens_int hxl (i:=4) (by simp) q4
 have b0:=e0.2
 replace e0:=e0.1
 injection e0 with e0
 subst e0
 injection e1 with e1
 subst e1
 injection e2 with e2
 subst e2
 injection e3 with e3
 subst e3
 injection e4 with e4
 subst e4
 exact⟨⟨z0,z1,z2,z3,z4⟩,rfl⟩
theorem opens_stp:Opens enc W 200 2 RStp:=fun n cs x h=>by
 obtain⟨xs,m,_,_,hl,hxl,hf⟩:=DataW.trod_struct Tryz.underlying200 h
 rw[show Tryz.prog.cellsOf 200=2 by kernel_rfl]at hl
 obtain⟨a,b,rfl⟩:=two hl
 refine⟨rfl,?_⟩
 have q0:DataW.trod enc Tryz.prog W 0 (fun _=>true) true m 3 (([a,b].drop 0).take (Tryz.prog.cellsOf 3))=xs[0]? :=hf 0 _ rfl
 rw[show Tryz.prog.cellsOf 3=1 by kernel_rfl]at q0
 obtain⟨z0,e0⟩:=opens_fld opens_int hxl (i:=0) (by simp) q0
 have q1:DataW.trod enc Tryz.prog W 0 (fun _=>true) true m 3 (([a,b].drop 1).take (Tryz.prog.cellsOf 3))=xs[1]? :=hf 1 _ rfl
 rw[show Tryz.prog.cellsOf 3=1 by kernel_rfl]at q1
 obtain⟨z1,e1⟩:=opens_fld opens_int hxl (i:=1) (by simp) q1
 injection e0 with e0
 subst e0
 injection e1 with e1
 subst e1
 exact⟨⟨z0,z1⟩,rfl⟩
theorem opens_dut:Opens enc W 38 3 RDut:=fun n cs x h=>by
 obtain⟨xs,m,_,_,hl,hxl,hf⟩:=DataW.trod_struct Tryz.underlying38 h
 rw[show Tryz.prog.cellsOf 38=3 by kernel_rfl]at hl
 obtain⟨a,b,c,rfl⟩:=three hl
 refine⟨rfl,?_⟩
 have q0:DataW.trod enc Tryz.prog W 0 (fun _=>true) true m 3 (([a,b,c].drop 0).take (Tryz.prog.cellsOf 3))=xs[0]? :=hf 0 _ rfl
 rw[show Tryz.prog.cellsOf 3=1 by kernel_rfl]at q0
 obtain⟨z0,e0⟩:=opens_fld opens_int hxl (i:=0) (by simp) q0
 have q1:DataW.trod enc Tryz.prog W 0 (fun _=>true) true m 3 (([a,b,c].drop 1).take (Tryz.prog.cellsOf 3))=xs[1]? :=hf 1 _ rfl
 rw[show Tryz.prog.cellsOf 3=1 by kernel_rfl]at q1
 obtain⟨z1,e1⟩:=opens_fld opens_int hxl (i:=1) (by simp) q1
 have q2:DataW.trod enc Tryz.prog W 0 (fun _=>true) true m 3 (([a,b,c].drop 2).take (Tryz.prog.cellsOf 3))=xs[2]? :=hf 2 _ rfl
 rw[show Tryz.prog.cellsOf 3=1 by kernel_rfl]at q2
 obtain⟨z2,e2⟩:=opens_fld opens_int hxl (i:=2) (by simp) q2
 injection e0 with e0
 subst e0
 injection e1 with e1
 subst e1
 injection e2 with e2
 subst e2
 exact⟨⟨z0,z1,z2⟩,rfl⟩
theorem opens_secs:Opens enc W 24 1 (RSlice 5 RSecB):=opens_slice Tryz.underlying24 (by kernel_rfl) (by omega) opens_sec
theorem opens_lnks:Opens enc W 25 1 RLnks:=opens_slice Tryz.underlying25 (by kernel_rfl) (by omega) opens_lnk
theorem opens_stks:Opens enc W 28 1 RStks:=opens_slice Tryz.underlying28 (by kernel_rfl) (by omega) opens_stk
theorem opens_stps:Opens enc W 93 1 RStps:=opens_slice Tryz.underlying93 (by kernel_rfl) (by omega) opens_stp
theorem opens_duts:Opens enc W 34 1 RDuts:=opens_slice Tryz.underlying34 (by kernel_rfl) (by omega) opens_dut
theorem opens_rou:Opens enc W 95 2 RRou:=fun n cs x h=>by
 obtain⟨xs,m,_,_,hl,hxl,hf⟩:=DataW.trod_struct Tryz.underlying95 h
 rw[show Tryz.prog.cellsOf 95=2 by kernel_rfl]at hl
 obtain⟨a,b,rfl⟩:=two hl
 refine⟨rfl,?_⟩
 have q0:DataW.trod enc Tryz.prog W 0 (fun _=>true) true m 93 (([a,b].drop 0).take (Tryz.prog.cellsOf 93))=xs[0]? :=hf 0 _ rfl
 rw[show Tryz.prog.cellsOf 93=1 by kernel_rfl]at q0
 obtain⟨z0,e0⟩:=opens_fld opens_stps hxl (i:=0) (by simp) q0
 have q1:DataW.trod enc Tryz.prog W 0 (fun _=>true) true m 3 (([a,b].drop 1).take (Tryz.prog.cellsOf 3))=xs[1]? :=hf 1 _ rfl
 rw[show Tryz.prog.cellsOf 3=1 by kernel_rfl]at q1
 obtain⟨z1,e1⟩:=opens_fld opens_int hxl (i:=1) (by simp) q1
 injection e1 with e1
 subst e1
 exact⟨⟨z0,z1⟩,a,rfl,e0⟩
theorem opens_mis:Opens enc W 36 2 RMis:=fun n cs x h=>by
 obtain⟨xs,m,_,_,hl,hxl,hf⟩:=DataW.trod_struct Tryz.underlying36 h
 rw[show Tryz.prog.cellsOf 36=2 by kernel_rfl]at hl
 obtain⟨a,b,rfl⟩:=two hl
 refine⟨rfl,?_⟩
 have q0:DataW.trod enc Tryz.prog W 0 (fun _=>true) true m 3 (([a,b].drop 0).take (Tryz.prog.cellsOf 3))=xs[0]? :=hf 0 _ rfl
 rw[show Tryz.prog.cellsOf 3=1 by kernel_rfl]at q0
 obtain⟨z0,e0⟩:=opens_fld opens_int hxl (i:=0) (by simp) q0
 have q1:DataW.trod enc Tryz.prog W 0 (fun _=>true) true m 34 (([a,b].drop 1).take (Tryz.prog.cellsOf 34))=xs[1]? :=hf 1 _ rfl
 rw[show Tryz.prog.cellsOf 34=1 by kernel_rfl]at q1
 obtain⟨z1,e1⟩:=opens_fld opens_duts hxl (i:=1) (by simp) q1
 injection e0 with e0
 subst e0
 exact⟨⟨z0,z1⟩,b,rfl,e1⟩
theorem opens_rous:Opens enc W 29 1 RRous:=opens_slice Tryz.underlying29 (by kernel_rfl) (by omega) opens_rou
theorem opens_miss:Opens enc W 30 1 RMiss:=opens_slice Tryz.underlying30 (by kernel_rfl) (by omega) opens_mis
def RLayR:Rd Lay:=fun w S cs L=>∃v:LV,cs=(v.cs L).toList∧RLay w S v L∧LayLen L
theorem opens_lay:Opens enc W 27 4 RLayR:=fun n cs x h=>by
 obtain⟨xs,m,_,_,hl,hxl,hf⟩:=DataW.trod_struct Tryz.underlying27 h
 rw[show Tryz.prog.cellsOf 27=4 by kernel_rfl]at hl
 obtain⟨a,b,c,d,rfl⟩:=four hl
 refine⟨rfl,?_⟩
 have q0:DataW.trod enc Tryz.prog W 0 (fun _=>true) true m 23 (([a,b,c,d].drop 0).take (Tryz.prog.cellsOf 23))=xs[0]? :=hf 0 _ rfl
 have q1:DataW.trod enc Tryz.prog W 0 (fun _=>true) true m 23 (([a,b,c,d].drop 1).take (Tryz.prog.cellsOf 23))=xs[1]? :=hf 1 _ rfl
 have q2:DataW.trod enc Tryz.prog W 0 (fun _=>true) true m 24 (([a,b,c,d].drop 2).take (Tryz.prog.cellsOf 24))=xs[2]? :=hf 2 _ rfl
 have q3:DataW.trod enc Tryz.prog W 0 (fun _=>true) true m 25 (([a,b,c,d].drop 3).take (Tryz.prog.cellsOf 25))=xs[3]? :=hf 3 _ rfl
 rw[show Tryz.prog.cellsOf 23=1 by kernel_rfl]at q0 q1
 rw[show Tryz.prog.cellsOf 24=1 by kernel_rfl]at q2
 rw[show Tryz.prog.cellsOf 25=1 by kernel_rfl]at q3
 obtain⟨z0,e0⟩:=opens_fld opens_strs hxl (i:=0) (by simp) q0
 obtain⟨z1,e1⟩:=opens_fld opens_strs hxl (i:=1) (by simp) q1
 obtain⟨z2,e2⟩:=opens_fld opens_secs hxl (i:=2) (by simp) q2
 obtain⟨z3,e3⟩:=opens_fld opens_lnks hxl (i:=3) (by simp) q3
 have e0:RSlice 1 RStrB W (Old W) [a] z0:=e0
 have e1:RSlice 1 RStrB W (Old W) [b] z1:=e1
 have e2:RSlice 5 RSecB W (Old W) [c] z2:=e2
 have e3:RLnks W (Old W) [d] z3:=e3
 obtain⟨A1,c1,rfl⟩:=e0.form
 obtain⟨A2,c2,rfl⟩:=e1.form
 obtain⟨A3,c3,rfl⟩:=e2.form
 obtain⟨A4,c4,rfl⟩:=e3.form
 exact⟨⟨z0,z1,z2,z3⟩,⟨A1,A2,A3,A4,c1,c2,c3,c4⟩,rfl,⟨e0.imp fun _ _ _ _ h=>h.1,e1.imp fun _ _ _ _ h=>h.1,e2.imp fun _ _ _ _ h=>h.1,e3⟩,⟨e0.all fun _ _ _ _ h=>h.2,e1.all fun _ _ _ _ h=>h.2,e2.all fun _ _ _ _ h=>h.2⟩⟩
def RCasR:Rd Cas:=fun w S cs c=>∃v:CV,cs=(v.cs c).toList∧RCas w S v c∧LayLen c.lay
theorem opens_cas:Opens enc W 32 7 RCasR:=fun n cs x h=>by
 obtain⟨xs,m,_,_,hl,hxl,hf⟩:=DataW.trod_struct Tryz.underlying32 h
 rw[show Tryz.prog.cellsOf 32=7 by kernel_rfl]at hl
 obtain⟨a,b,c,d,e,f,g,rfl⟩:=seven hl
 refine⟨rfl,?_⟩
 have q0:DataW.trod enc Tryz.prog W 0 (fun _=>true) true m 27 (([a,b,c,d,e,f,g].drop 0).take (Tryz.prog.cellsOf 27))=xs[0]? :=hf 0 _ rfl
 have q1:DataW.trod enc Tryz.prog W 0 (fun _=>true) true m 28 (([a,b,c,d,e,f,g].drop 4).take (Tryz.prog.cellsOf 28))=xs[1]? :=hf 1 _ rfl
 have q2:DataW.trod enc Tryz.prog W 0 (fun _=>true) true m 29 (([a,b,c,d,e,f,g].drop 5).take (Tryz.prog.cellsOf 29))=xs[2]? :=hf 2 _ rfl
 have q3:DataW.trod enc Tryz.prog W 0 (fun _=>true) true m 30 (([a,b,c,d,e,f,g].drop 6).take (Tryz.prog.cellsOf 30))=xs[3]? :=hf 3 _ rfl
 rw[show Tryz.prog.cellsOf 27=4 by kernel_rfl]at q0
 rw[show Tryz.prog.cellsOf 28=1 by kernel_rfl]at q1
 rw[show Tryz.prog.cellsOf 29=1 by kernel_rfl]at q2
 rw[show Tryz.prog.cellsOf 30=1 by kernel_rfl]at q3
 obtain⟨z0,v0,e0,l0,n0⟩:=opens_fld opens_lay hxl (i:=0) (by simp) q0
 obtain⟨z1,e1⟩:=opens_fld opens_stks hxl (i:=1) (by simp) q1
 obtain⟨z2,e2⟩:=opens_fld opens_rous hxl (i:=2) (by simp) q2
 obtain⟨z3,e3⟩:=opens_fld opens_miss hxl (i:=3) (by simp) q3
 have e1:RStks W (Old W) [e] z1:=e1
 have e2:RRous W (Old W) [f] z2:=e2
 have e3:RMiss W (Old W) [g] z3:=e3
 have e0: [a,b,c,d]=(v0.cs z0).toList:=e0
 obtain⟨A1,c1,rfl⟩:=e1.form
 obtain⟨A2,c2,rfl⟩:=e2.form
 obtain⟨A3,c3,rfl⟩:=e3.form
 unfold LV.cs at e0
 injection e0 with g0 e0
 injection e0 with g1 e0
 injection e0 with g2 e0
 injection e0 with g3 e0
 subst g0 g1 g2 g3
 exact⟨⟨z0,z1,z2,z3⟩,⟨v0,A1,A2,A3,c1,c2,c3⟩,rfl,⟨l0,e1,e2,e3⟩,n0⟩
end
end
end Go.Proofs.YtcbcegdidlefiaaGreat
