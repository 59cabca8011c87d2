/- Contracts of the tests of a link's ends (program): ends, joined, fits. Conditions: as each theorem says. Maps whose keys are strings: what a lookup, a store and len do, in terms of the function that the map is. Conditions: as each theorem says. Contract of the test of a name (program: checkName), with the map of the names seen so far. Conditions: as each theorem says. Contracts of the small helpers: range tests, Pick, the source of choices. Conditions: as each theorem says. Contracts of precedence.isStage and Valid and of the reference's validStage and Valid, and that the two agree. Conditions: as each theorem says. Contracts of precedence.Valid and the reference's Valid. Conditions: as each theorem says. Contracts of the readers of positions: Section, good, Good, Same, Left. Conditions: as each theorem says. The orders of chapter 35 as plain lists: which uses a resource has, and when orders are valid. No program in sight. The graph of chapter 35 as plain lists: events, their numbers, the arcs that lead to each. No program in sight. Contracts of the makers of positions and paths: what they return fits. Conditions: as each theorem says. A slice that fills a block of its own reads as its list; rows that make lays. Conditions: as each theorem says. Contracts of the readers of stages and uses: Contains, uses, Uses, holds. Conditions: as each theorem says. Reading in a world that keeps all of an earlier one. Conditions: as each theorem says. A slice of slices under construction: each row grows by append on its own. Conditions: as each theorem says. Lists given by a function of the index: reading, writing, growing. No program in sight. The links of a layout by their ends (plain), and the rows in which the program keeps them (memory). Conditions: as each theorem says. -/
import Derived.Test.YtcbcegdidlefiaaGreatK02
import Derived.Test.YtcbcegdidlefiaaGreatK01
import Derived.BigRegion
import Derived.Test.YtcbcegdidlefiaaGreatProg
import Derived.Deep.RegionWith
import Derived.Deep.OwnRows
namespace Go.Proofs.YtcbcegdidlefiaaGreat
section
open Go.RowKit
def endC (x:Int×Int):Array Value:= #[.int .i64 x.1,.int .i64 x.2]
theorem index_any (x:Int×Int) (w:World) (h1:0≤x.1) (h2:x.1≤96) (h3:0≤x.2) (h4:x.2≤1):Calls Tryz.prog 293 #[.agg (endC x)] w fun e w'=>e= .returned (.int .i64 (2*x.1+x.2))∧KeepsAll w w':=by
 unfold endC
 go_enter Tryz.func293,Tryz.ntmps293
 go_wp2
 go_ret
 exact⟨rfl,(Keeps.refl _ _).alloc _⟩
set_option maxHeartbeats 1000000 in
theorem ends_any (k:Lnk) (w:World):Calls Tryz.prog 292 #[.agg (lnkC k)] w fun e w'=>e= .returned (.tuple #[.agg (endC (k.a,k.ae)),.agg (endC (k.b,k.be))])∧KeepsAll w w':=by
 unfold lnkC endC
 go_enter Tryz.func292,Tryz.ntmps292
 go_wp2_with fail
 go_region
 go_wp2
 refine bodyPost_ret (v:= .tuple #[.agg #[.int .i64 k.a,.int .i64 k.ae],.agg #[.int .i64 k.b,.int .i64 k.be]]) (by simp[results,Tryz.results292,go_sem]) rfl ⟨rfl,?_⟩
 repeat first|exact Keeps.refl _ _|refine Keeps.alloc ?_ _|refine Keeps.drew ?_
def anyJ (l:List Lnk) (x y:Int×Int):Bool:=l.any fun k=>joinsE k x y
theorem RLnks.atO {w wr:World} {A:Option Addr} {n c:Nat} {l:List Lnk} (K:KeepsAll w wr) (h:RLnks w (Old w) [.slice A n c] l) {k:Nat} (hk:k<l.length):
  ∃b o s,A=some ⟨b,o,none⟩∧b<wr.heap.size∧l[k]? =some s∧wr.cell? ⟨b,o+k*6,none⟩=some (.int .i64 s.a)∧wr.cell? ⟨b,o+k*6+1,none⟩=some (.int .i64 s.ae)∧wr.cell? ⟨b,o+k*6+2,none⟩=some (.int .i64 s.b)∧
   wr.cell? ⟨b,o+k*6+3,none⟩=some (.int .i64 s.be)∧wr.cell? ⟨b,o+k*6+4,none⟩=some (.int .i64 s.pt)∧wr.cell? ⟨b,o+k*6+5,none⟩=some (.int .i64 s.ps):=by
 obtain⟨b,o,s,e,hb,hs,c0,c1,c2,c3,c4,c5⟩:=h.at_ hk
 exact⟨b,o,s,e,Nat.lt_of_lt_of_le hb K.size,hs,K.cellA hb c0,K.cellA hb c1,K.cellA hb c2,K.cellA hb c3,K.cellA hb c4,K.cellA hb c5⟩
set_option maxHeartbeats 2000000 in
theorem joined_any (l:List Lnk) (A:Option Addr) (c:Nat) (x y:Int×Int) (w:World) (h:RLnks w (Old w) [.slice A l.length c] l):
  Calls Tryz.prog 294 #[.slice A l.length c,.agg (endC x),.agg (endC y)] w fun e w'=>e= .returned (.bool (anyJ l x y))∧KeepsAll w w':=by
 have hc:=h.caps
 obtain⟨x1,x2⟩:=x
 obtain⟨y1,y2⟩:=y
 unfold endC
 simp only[]
 have HR:=Lib.hid h
 clear h
 go_enter Tryz.func294,Tryz.ntmps294
 go_wp2_with fail
 go_loopw [6,13] (fun r i wr=>∃n:Nat,n≤l.length∧i= .int .i64 (n:Int)∧r= .bool false∧anyJ (l.take n) (x1,x2) (y1,y2)=false∧KeepsAll w wr∧Blk wr w.heap.size 422 #[.int .i64 x1,.int .i64 x2]∧Blk wr (w.heap.size+1) 422 #[.int .i64 y1,.int .i64 y2]) (fun _ i _=>l.length-(intOf i).toNat)
 case atStart=>exact⟨0,Nat.zero_le _,rfl,rfl,rfl,((Keeps.refl _ _).alloc _).alloc _,(Blk.new _ _ _).alloc _,Blk.new' _ _ _ (by simp)⟩
 case round=>
  obtain⟨n,hn,rfl,rfl,hall,K,B1,B2⟩:=hrel
  have HALL:=Lib.hid hall
  have HB1:=Lib.hid B1
  have HB2:=Lib.hid B2
  have HK:=Lib.hid K
  have hs1:=B1.lt
  have hs2:=B2.lt
  clear hall
  by_cases hlt:n<l.length
  ·obtain⟨b,o,k,rfl,hb,hk,c0,c1,c2,c3,c4,c5⟩:=HR.out.atO K hlt
   have HNX:Hid (∀q,joinsE k (x1,x2) (y1,y2)=q→anyJ (l.take (n+1)) (x1,x2) (y1,y2)=q):=fun q hq=>by
    have:=HALL.out
    unfold anyJ at this⊢
    rw[List.take_add_one,hk,Option.toList_some,List.any_append,this]
    simp[hq]
   have HYES:Hid (joinsE k (x1,x2) (y1,y2)=true→anyJ l (x1,x2) (y1,y2)=true):=fun hq=>by
    unfold anyJ
    rw[List.any_eq_true]
    exact⟨k,List.mem_of_getElem? hk,hq⟩
   have d0:=B1.cell 0
   have d1:=B1.cell 1
   have d2:=B2.cell 0
   have d3:=B2.cell 1
   simp at d0 d1 d2 d3
   clear K B1 B2 hk
   obtain⟨ka,kae,kb,kbe,kpt,kps⟩:=k
   simp only[]at c0 c1 c2 c3 c4 c5
   go_wp2_with(go_at_call 292;refine(ends_any ⟨ka,kae,kb,kbe,kpt,kps⟩ _).mono ?_;unfold endC;rintro e w' ⟨rfl,K1⟩;have K2:KeepsAll wr w':=((Keeps.refl _ _).alloc _).trA K1;have f0:=K2.cellA hs1 d0;have f1:=K2.cellA hs1 d1;have f2:=K2.cellA hs2 d2;have f3:=K2.cellA hs2 d3;have hz:=K2.size;have g1:w.heap.size<w'.heap.size:=(by omega);have g2:w.heap.size+1<w'.heap.size:=(by omega);clear K1 hz)
   all_goals subst_vars
   all_goals (try(go_ret;refine⟨congrArg (fun b=>Ending.returned (Value.bool b)) (HYES.out ?_).symm,HK.out.trA ((K2.alloc _).alloc _)⟩;simp_all[joinsE];done))
   all_goals
    go_roundw
    case rel=>
     refine⟨n+1,by omega,by go_num,rfl,HNX.out _ ?_,HK.out.trA ((K2.alloc _).alloc _),((HB1.out.kept K2 (by simp)).alloc _).alloc _,((HB2.out.kept K2 (by simp)).alloc _).alloc _⟩
     clear HB1 HB2 HK HR
     simp_all[joinsE]<;>omega
    case measure=>simp[intOf];omega
  ·obtain rfl:n=l.length:=by omega
   go_wp2
   go_ret
   refine⟨congrArg (fun b=>Ending.returned (Value.bool b)) ?_,K⟩
   have:=HALL.out
   rw[List.take_length]at this
   exact this.symm
theorem fitsE_two (k:Lnk) (l:List Lnk) (h:2≤l.length):fitsE k l=false:=by
 rcases l with _|⟨a,_|⟨b,l⟩⟩
 ·simp at h
 ·simp at h
 ·rfl
set_option maxHeartbeats 2000000 in
theorem fits_any (k:Lnk) (l:List Lnk) (A:Option Addr) (c:Nat) (w:World) (h:RLnks w (Old w) [.slice A l.length c] l):
  Calls Tryz.prog 295 #[.agg (lnkC k),.slice A l.length c] w fun e w'=>e= .returned (.bool (fitsE k l))∧KeepsAll w w':=by
 have hc:=h.caps
 obtain⟨ka,kae,kb,kbe,kpt,kps⟩:=k
 unfold lnkC
 simp only[]
 rcases l with _|⟨j,_|⟨m,l⟩⟩
 ·go_enter Tryz.func295,Tryz.ntmps295
  go_wp2_with fail
  go_ret
  exact⟨rfl,(Keeps.refl _ _).alloc _⟩
 ·obtain⟨b,o,s,rfl,hb,hs,c0,c1,c2,c3,c4,c5⟩:=h.at_ (k:=0) (by simp)
  simp at hs
  subst hs
  have hb':b<w.heap.size:=hb
  clear h
  simp only[Nat.zero_mul,Nat.add_zero]at c0 c1 c2 c3 c4 c5
  have HF:Hid (fitsE ⟨ka,kae,kb,kbe,kpt,kps⟩ [j]=decide (kpt≠-1∧kpt=j.pt∧kps≠j.ps)):=rfl
  rw[HF.out]
  obtain⟨ja,jae,jb,jbe,jpt,jps⟩:=j
  simp only[]at c0 c1 c2 c3 c4 c5 HF⊢
  clear HF
  rcases Classical.em (kpt= -1)with rfl|e1
  ·go_enter Tryz.func295,Tryz.ntmps295
   go_wp2_with fail
   go_quiet (fail)
   go_wp2
   go_ret
   exact⟨by simp,((Keeps.refl _ _).alloc _).drewN _⟩
  have e1':(kpt== -1)=false:=by simpa using e1
  have e1d:decide (kpt= -1)=false:=by simpa using e1
  rcases Classical.em (kpt=jpt)with rfl|e2
  rotate_left
  ·have e2':(kpt==jpt)=false:=by simpa using e2
   have e2d:decide (kpt=jpt)=false:=by simpa using e2
   go_enter Tryz.func295,Tryz.ntmps295
   go_wp2_with fail
   go_quiet (fail)
   go_wp2
   go_ret
   exact⟨by simp[e2],((Keeps.refl _ _).alloc _).drewN _⟩
  rcases Classical.em (kps=jps)with rfl|e3
  ·go_enter Tryz.func295,Tryz.ntmps295
   go_wp2_with fail
   go_quiet (fail)
   go_wp2
   go_ret
   exact⟨by simp,((Keeps.refl _ _).alloc _).drewN _⟩
  ·have e3':(kps==jps)=false:=by simpa using e3
   have e3d:decide (kps=jps)=false:=by simpa using e3
   go_enter Tryz.func295,Tryz.ntmps295
   go_wp2_with fail
   go_quiet (fail)
   go_wp2
   go_ret
   exact⟨by simp[e1,e3],((Keeps.refl _ _).alloc _).drewN _⟩
 ·rw[fitsE_two _ _ (by simp)]
  clear h
  have hN:2≤(j::m::l).length:=by simp
  generalize (j::m::l).length=N at*
  have e0:¬N=0:=by omega
  have e1:¬N=1:=by omega
  have e1':((N:Int)==1)=false:=by simp;omega
  have e1d:decide ((N:Int)=1)=false:=by simp;omega
  have e2d:decide (N=1)=false:=by simp;omega
  go_enter Tryz.func295,Tryz.ntmps295
  go_wp2_with fail
  go_quiet (fail)
  go_wp2
  go_ret
  exact⟨by simp,((Keeps.refl _ _).alloc _).drewN _⟩
end
section
open Go.RowKit
theorem ba_beq (a b:ByteArray):(a==b)=decide (a=b):=by
 obtain⟨a⟩:=a
 obtain⟨b⟩:=b
 show(a==b)=_
 by_cases h:a=b
 ·subst h;simp
 ·simp[h]
instance ba_lawful:LawfulBEq ByteArray where
 eq_of_beq {a b} h:=by rw[ba_beq]at h;exact of_decide_eq_true h
 rfl {a}:=by rw[ba_beq];simp
def keysOfS (es:List MapEntry) (ks:List ByteArray):Prop:=es.map (·.key)=ks.map fun k=>Value.string k
def lookS:List MapEntry→ByteArray→Option Value
 | [],_=>none
 |e::es,k=>match e.key with| .string x=>if k=x then some e.val else lookS es k|_=>lookS es k
structure MapS (w:World) (r:Nat) (ks:List ByteArray) (f:ByteArray→Option Value):Prop where
 ex:∃es clock,w.heap[r]? =some (.map es clock)∧keysOfS es.toList ks∧ks.Nodup∧∀k,lookS es.toList k=f k
theorem findNow_str (k:ByteArray):∀(es:List MapEntry) (ks:List ByteArray) (i:Nat),keysOfS es ks→∃j,Instr.findNow .string (.string k) es i=some ((lookS es k).map fun v=>(j,v))∧((lookS es k).isSome=true→i≤j∧j<i+es.length∧∃e,es[j-i]? =some e∧e.key= .string k)
 | [],ks,i,_=>⟨0,rfl,fun h=>by simp[lookS]at h⟩
 |e::es,[],i,h=>by simp[keysOfS]at h
 |e::es,x::ks,i,h=>by
  simp only[keysOfS,List.map_cons,List.cons.injEq]at h
  obtain⟨hk,hr⟩:=h
  by_cases hkx:k=x
  ·subst hkx
   refine⟨i,?_,fun _=>⟨Nat.le_refl _,by simp,e,by simp,hk⟩⟩
   simp[Instr.findNow,Instr.sameNow,lookS,hk]
  ·obtain⟨j,h1,h2⟩:=findNow_str k es ks (i+1) hr
   have hl:lookS (e::es) k=lookS es k:=by simp[lookS,hk,hkx]
   refine⟨j,?_,fun hs=> ?_⟩
   ·rw[hl]
    simp only[Instr.findNow,Instr.sameNow,hk]
    have:(k==x)=false:=by simpa using hkx
    simp only[this]
    exact h1
   ·rw[hl]at hs
    obtain⟨a,b,e',c,d⟩:=h2 hs
    refine⟨by omega,by simp;omega,e',?_,d⟩
    have:j-i=(j-(i+1))+1:=by omega
    rw[this];simpa using c
section
variable {P:Program} {t K E:TypeId} {w:World} {r:Nat} {ks:List ByteArray} {f:ByteArray→Option Value}
theorem MapS.lt (h:MapS w r ks f):r<w.heap.size:=by
 obtain⟨es,clock,h1,_⟩:=h.ex;exact(Array.getElem?_eq_some_iff.1 h1).1
theorem MapS.kept {C:Foot} {w':World} (h:MapS w r ks f) (k:Keeps C w w') (hn:¬C r):MapS w' r ks f:=by
 obtain⟨es,clock,h1,h2⟩:=h.ex;exact⟨es,clock,(k.block r h.lt hn).trans h1,h2⟩
theorem MapS.new (w:World):MapS (w.alloc (.map #[] 0)) w.heap.size [] (fun _=>none):=
 ⟨#[],0,heap_alloc_new w _,rfl,List.nodup_nil,fun _=>rfl⟩
theorem run_checkKey_str (hK:P.underlying K=some .string) (b:Bool) (n:Nat) (k:ByteArray):(Instr.checkKey b (n+1) K (.string k)).run P w= .ok () w:=by
 simp[Instr.checkKey,run_underlying hK]
theorem MapS.lookup (h:MapS w r ks f) (ht:P.underlying t=some (.map K E)) (hK:P.underlying K=some .string) {z:Value} (hz:(zeroValue E).run P w= .ok z w) (k:ByteArray):
  (Instr.lookup t (.map (some r)) (.string k) false).run P w= .ok ((f k).getD z) w∧(Instr.lookup t (.map (some r)) (.string k) true).run P w= .ok (.tuple #[(f k).getD z,.bool (f k).isSome]) w:=by
 obtain⟨es,clock,h1,h2,h3,h4⟩:=h.ex
 obtain⟨j,hj,_⟩:=findNow_str k es.toList ks 0 h2
 rw[h4 k]at hj
 have hc:∀b,(Instr.checkKey b 10000 K (.string k)).run P w= .ok () w:=fun b=>run_checkKey_str hK b 9999 k
 have hg:(getObj r).run P w= .ok (.map es clock) w:=by simp[getObj,Sem.run,h1]
 cases hf:f k with
 |none=>
  rw[hf]at hj
  simp only[Option.map_none]at hj
  constructor<;>simp[Instr.lookup,run_underlying ht,hg,hc,Instr.findKey,run_underlying hK,hj,hz]
 |some v=>
  rw[hf]at hj
  simp only[Option.map_some]at hj
  constructor<;>simp[Instr.lookup,run_underlying ht,hg,hc,Instr.findKey,run_underlying hK,hj]
def setFS (f:ByteArray→Option Value) (k:ByteArray) (v:Value):ByteArray→Option Value:=fun x=>if x=k then some v else f x
theorem lookS_append (k:ByteArray):∀(es:List MapEntry) (ks:List ByteArray) (e:MapEntry) (x:ByteArray),keysOfS es ks→e.key= .string x→lookS (es++ [e]) k=match lookS es k with|some v=>some v|none=>if k=x then some e.val else none
 | [],_,e,x,_,he=>by simp[lookS,he]
 |a::es,[],e,x,h,_=>by simp[keysOfS]at h
 |a::es,y::ks,e,x,h,he=>by
  simp only[keysOfS,List.map_cons,List.cons.injEq]at h
  obtain⟨hk,hr⟩:=h
  by_cases hky:k=y
  ·simp[lookS,hk,hky]
  ·simp only[List.cons_append,lookS,hk,hky,if_false]
   exact lookS_append k es ks e x hr he
theorem lookS_none (k:ByteArray):∀(es:List MapEntry) (ks:List ByteArray),keysOfS es ks→(lookS es k=none↔k∉ks)
 | [],[],_=>by simp[lookS]
 | [],_::_,h=>by simp[keysOfS]at h
 |a::es,[],h=>by simp[keysOfS]at h
 |a::es,y::ks,h=>by
  simp only[keysOfS,List.map_cons,List.cons.injEq]at h
  obtain⟨hk,hr⟩:=h
  have ih:=lookS_none k es ks hr
  by_cases hky:k=y
  ·simp[lookS,hk,hky]
  ·simp only[lookS,hk,hky,if_false,ih,List.mem_cons,false_or]
theorem lookS_modify (k:ByteArray) (v:Value) (k':ByteArray):∀(es:List MapEntry) (ks:List ByteArray) (j:Nat) (e:MapEntry),keysOfS es ks→ks.Nodup→es[j]? =some e→e.key= .string k→
  lookS (es.modify j fun e=> {e with key:= .string k,val:=v}) k'=(if k'=k then some v else lookS es k')∧keysOfS (es.modify j fun e=> {e with key:= .string k,val:=v}) ks
 | [],ks,j,e,_,_,h,_=>by simp at h
 |a::es,[],j,e,h,_,_,_=>by simp[keysOfS]at h
 |a::es,y::ks,0,e,h,hn,he,hek=>by
  simp only[keysOfS,List.map_cons,List.cons.injEq]at h
  obtain⟨hk,hr⟩:=h
  simp at he;subst he
  have hyk:y=k:=by rw[hk]at hek;injection hek with hek
  subst hyk
  constructor
  ·simp only[List.modify_zero_cons,lookS,hk]
   by_cases h':k'=y<;>simp[h']
  ·simp only[List.modify_zero_cons,keysOfS,List.map_cons,List.cons.injEq,true_and]
   exact hr
 |a::es,y::ks,j+1,e,h,hn,he,hek=>by
  simp only[keysOfS,List.map_cons,List.cons.injEq]at h
  obtain⟨hk,hr⟩:=h
  have he':es[j]? =some e:=by simpa using he
  obtain⟨h1,h2⟩:=lookS_modify k v k' es ks j e hr (List.nodup_cons.1 hn).2 he' hek
  have hne:y≠k:=by
   rintro rfl
   have hmem:e.key∈es.map (·.key):=List.mem_map_of_mem (List.mem_of_getElem? he')
   rw[hr,hek]at hmem
   obtain⟨z,hz,hzz⟩:=List.mem_map.1 hmem
   injection hzz with hzz
   subst hzz
   exact(List.nodup_cons.1 hn).1 hz
  constructor
  ·simp only[List.modify_succ_cons,lookS,hk,h1]
   by_cases h':k'=y
   ·subst h';simp[hne]
   ·simp[h']
  ·simp only[List.modify_succ_cons,keysOfS,List.map_cons,hk,List.cons.injEq,true_and]
   exact h2
theorem MapS.update (h:MapS w r ks f) (ht:P.underlying t=some (.map K E)) (hK:P.underlying K=some .string) (k:ByteArray) (v:Value):
  ∃w',(Instr.mapUpdate t (.map (some r)) (.string k) v).run P w= .ok () w'∧MapS w' r (if k∈ks then ks else ks++ [k]) (setFS f k v)∧Keeps (·=r) w w'∧w'.heap.size=w.heap.size:=by
 obtain⟨es,clock,h1,h2,h3,h4⟩:=h.ex
 obtain⟨j,hj,hj2⟩:=findNow_str k es.toList ks 0 h2
 have hc:∀b,(Instr.checkKey b 10000 K (.string k)).run P w= .ok () w:=fun b=>run_checkKey_str hK b 9999 k
 have hg:(getObj r).run P w= .ok (.map es clock) w:=by simp[getObj,Sem.run,h1]
 have hs:∀o,(setObj r o).run P w= .ok () {w with heap:=w.heap.setIfInBounds r o}:=fun o=>by simp[setObj,Sem.run,h1]
 have hlt:=h.lt
 have kk:∀o,Keeps (·=r) w {w with heap:=w.heap.setIfInBounds r o}:=fun o=>⟨rfl,rfl,rfl,by simp,fun i _ hn=>by simp[Ne.symm hn]⟩
 have hnew:∀o,({w with heap:=w.heap.setIfInBounds r o}:World).heap[r]? =some o:=fun o=>by simp[hlt]
 have hno:=lookS_none k es.toList ks h2
 cases hl:lookS es.toList k with
 |none=>
  rw[hl]at hj
  simp only[Option.map_none]at hj
  have hnk:=hno.1 hl
  refine⟨_,by simp[Instr.mapUpdate,run_underlying ht,hg,hc,Instr.findKey,run_underlying hK,hj,hs];rfl,⟨_,_,hnew _,?_,?_,?_⟩,kk _,by simp⟩
  ·rw[if_neg hnk];simp only[keysOfS,Array.toList_push,List.map_append,List.map_cons,List.map_nil]
   unfold keysOfS at h2;rw[h2]
  ·rw[if_neg hnk];exact List.nodup_append.2 ⟨h3,by simp,fun a ha b hb=>by simp at hb;subst hb;intro e;subst e;exact hnk ha⟩
  ·intro x
   rw[Array.toList_push,lookS_append x es.toList ks _ k h2 rfl,h4 x]
   unfold setFS
   by_cases hx:x=k
   ·subst hx;rw[←h4 x,hl];try simp
   ·simp[hx];try(cases f x<;>rfl)
 |some u=>
  rw[hl]at hj
  simp only[Option.map_some]at hj
  obtain⟨_,_,e,he,hek⟩:=hj2 (by rw[hl];rfl)
  simp only[Nat.sub_zero]at he
  have hin:k∈ks:=by
   rcases Classical.em (k∈ks)with h'|h'
   ·exact h'
   ·rw[hno.2 h']at hl;cases hl
  have hes:es[j]? =some e:=by simpa using he
  have hsb:Instr.sameBits 10000 (.string k) (.string k)=true:=by simp[Instr.sameBits]
  have hm:=fun k'=>lookS_modify k v k' es.toList ks j e h2 h3 he hek
  refine⟨_,by simp[Instr.mapUpdate,run_underlying ht,hg,hc,Instr.findKey,run_underlying hK,hj,hes,hek,Instr.keyThatStays,hsb,hs];rfl,⟨_,_,hnew _,?_,?_,?_⟩,kk _,by simp⟩
  ·rw[if_pos hin,Array.toList_modify];exact(hm default).2
  ·rw[if_pos hin];exact h3
  ·intro x
   rw[Array.toList_modify,(hm x).1,h4 x];rfl
end
end
section
open Go.RowKit
theorem mkS_mem {l:List Bs} {n:Bs}:mkS n∈l.map mkS↔n∈l:=by
 rw[List.mem_map]
 exact⟨fun⟨m,hm,e⟩=>mkS_inj e▸hm,fun h=>⟨n,h,rfl⟩⟩
structure SeenM (w:World) (r:Nat) (seen:List Bs):Prop where
 m:MapS w r (seen.map mkS) (fun k=>if k∈seen.map mkS then some (.bool true)else none)
theorem zeroBool (w:World):(zeroValue 4).run Tryz.prog w= .ok (.bool false) w:=by kernel_rfl
theorem SeenM.look {w:World} {r:Nat} {seen:List Bs} (h:SeenM w r seen) (n:Bs):(Instr.lookup 328 (.map (some r)) (.string (mkS n)) false).run Tryz.prog w= .ok (.bool (decide (n∈seen))) w:=by
 have:=(h.m.lookup (P:=Tryz.prog) (t:=328) (E:=4) Tryz.underlying328 Tryz.underlying9 (zeroBool _) (mkS n)).1
 rw[this]
 by_cases hn:n∈seen
 ·have hm:=mkS_mem.2 hn
  simp[hn,hm]
 ·have hm:¬mkS n∈seen.map mkS:=fun h=>hn (mkS_mem.1 h)
  simp[hn,hm]
theorem SeenM.push {w:World} {r:Nat} {seen:List Bs} (h:SeenM w r seen) {n:Bs} (hn:n∉seen):∃w',(Instr.mapUpdate 328 (.map (some r)) (.string (mkS n)) (.bool true)).run Tryz.prog w= .ok () w'∧SeenM w' r (seen++ [n])∧Keeps (·=r) w w':=by
 obtain⟨w',h1,h2,h3,_⟩:=h.m.update (P:=Tryz.prog) (t:=328) (E:=4) Tryz.underlying328 Tryz.underlying9 (mkS n) (.bool true)
 have hm:¬mkS n∈seen.map mkS:=fun h=>hn (mkS_mem.1 h)
 rw[if_neg hm]at h2
 refine⟨w',h1,⟨?_⟩,h3⟩
 rw[List.map_append]
 have e:setFS (fun k=>if k∈seen.map mkS then some (Value.bool true)else none) (mkS n) (.bool true)=fun k=>if k∈seen.map mkS++ [n].map mkS then some (.bool true)else none:=by
  funext k
  unfold setFS
  by_cases e:k=mkS n
  ·simp[e]
  ·simp[e]
 rw[e]at h2
 exact h2
theorem SeenM.kept {w w':World} {r:Nat} {seen:List Bs} {C:Foot} (h:SeenM w r seen) (k:Keeps C w w') (hn:¬C r):SeenM w' r seen:=⟨h.m.kept k hn⟩
set_option maxHeartbeats 1000000 in
theorem checkName_any (n:Bs) (seen:List Bs) (r:Nat) (w:World) (hl:n.length≤9223372036854775807) (h:SeenM w r seen):
  Calls Tryz.prog 189 #[.string (mkS n),.map (some r)] w fun e w'=>e= .returned (.int .i64 (nameErr seen n))∧Keeps (·=r) w w'∧(nameErr seen n=0→SeenM w' r (seen++ [n])):=by
 have HS:=Lib.hid h
 clear h
 cases hn:nameOk n with
 |false=>
  have e:nameErr seen n=3:=by simp[nameErr,hn]
  rw[e]
  go_enter Tryz.func189,Tryz.ntmps189
  go_wp2_with(go_at_call 268;refine(Name_any n hl _).mono ?_;rw[hn];rintro e w' ⟨rfl,K1⟩)
  go_ret
  exact⟨rfl,K1.mono (fun _ _ h=>h.elim),fun h=>by simp at h⟩
 |true=>
  by_cases hm:n∈seen
  ·have e:nameErr seen n=5:=by simp[nameErr,hn,hm]
   rw[e]
   go_enter Tryz.func189,Tryz.ntmps189
   go_wp2_with(go_at_call 268;refine(Name_any n hl _).mono ?_;rw[hn];rintro e w' ⟨rfl,K1⟩;have hlk:=(HS.out.kept K1 (by simp)).look n;rw[decide_eq_true hm]at hlk)
   go_ret
   exact⟨rfl,K1.mono (fun _ _ h=>h.elim),fun h=>by simp at h⟩
  ·have e:nameErr seen n=0:=by simp[nameErr,hn,hm]
   rw[e]
   go_enter Tryz.func189,Tryz.ntmps189
   go_wp2_with(go_at_call 268;refine(Name_any n hl _).mono ?_;rw[hn];rintro e w' ⟨rfl,K1⟩;have hlk:=(HS.out.kept K1 (by simp)).look n;rw[decide_eq_false hm]at hlk;obtain⟨w2,hup,hs2,K2⟩:=(HS.out.kept K1 (by simp)).push hm)
   go_ret
   exact⟨rfl,(K1.mono (C:=(·=r)) (fun _ _ h=>h.elim)).trans K2 (fun _ _ h=>h),fun _=>hs2⟩
end
section
open Go.RowKit
def isRes (r:Int):Bool:=decide (0≤r)&&decide (r<144)
def isClk (r:Int):Bool:=decide (0≤r)&&decide (r≤4194304)
def pick (v n:Int):Int:=(v%18446744073709551616)%n
end
section
open Go.RowKit
def ptOk (sec:Int) (pts:List Int) (i:Nat) (p:Int):Bool:=isRes p&& !(p==sec)&& !(decide (0<i)&&p==pts.headD 0)
def ptsFrom (sec:Int) (pts:List Int):Nat→List Int→Bool
 |_,[]=>true
 |i,p::r=>ptOk sec pts i p&&ptsFrom sec pts (i+1) r
def stageOk (s:Stage):Bool:=isRes s.sec&&decide (s.pts.length≤2)&&ptsFrom s.sec s.pts 0 s.pts&&(isClk s.mn&&isClk s.nt)
end
section
open Go.RowKit
def stepOk (p:List Stage) (j:Nat) (s:Stage):Bool:=stageOk s&& !(decide (0<j)&&(p[j-1]?.map (·.sec))==some s.sec)
def stepsFrom (p:List Stage):Nat→List Stage→Bool
 |_,[]=>true
 |j,s::r=>stepOk p j s&&stepsFrom p (j+1) r
def pathOk (p:List Stage):Bool:=decide (1≤p.length)&&decide (p.length≤64)&&stepsFrom p 0 p
def noClash (l:List Stage):Bool:=(List.range 144).all fun r:Nat=> !(decide ((r:Int)∈l.map (·.sec))&&decide ((r:Int)∈l.flatMap (·.pts)))
def valid (ps:List (List Stage)):Bool:=decide (ps.length≤10)&&ps.all pathOk&&noClash ps.flatten
end
section
open Go.RowKit
theorem getElem?_lt {α:Type} {l:List α} {k:Nat} {x:α} (h:l[k]? =some x):k<l.length:=(List.getElem?_eq_some_iff.1 h).1
def okPos (p:List Stage) (a:Int):Bool:=decide (-1≤a)&&decide (a≤p.length)
def goodFrom:List (List Stage)→List Int→Bool
 |p::ps,a::l=>okPos p a&&goodFrom ps l
 |_,_=>true
def good (ps:List (List Stage)) (at_:List Int):Bool:=decide (at_.length=ps.length)&&goodFrom ps at_
end
section
open Go.RowKit
theorem zipIdx_take_succ {α:Type} {l:List α} {k:Nat} {x:α} (h:l[k]? =some x):(l.take (k+1)).zipIdx=(l.take k).zipIdx++ [(x,k)]:=by
 have hk:(l.take k).length=k:=by have:=getElem?_lt h;simp;omega
 rw[List.take_add_one,h,Option.toList_some,List.zipIdx_append,hk]
 simp
def PairOk (v u:Ref):Prop:=v≠u∧¬(v.tr=u.tr∧u.st<v.st)
instance (v u:Ref):Decidable (PairOk v u):=by unfold PairOk;infer_instance
def exactlyB (l want:List Ref):Bool:=decide (l.length=want.length)&&l.all (fun u=>decide (u∈want))&&decide (l.Pairwise PairOk)
end
section
open Go.RowKit
def evs (ps:List (List Stage)):List Ref:=ps.zipIdx.flatMap fun q=>(List.range (q.1.length+1)).map fun k:Nat=>⟨(q.2:Int),(k:Int)⟩
def fst (ps:List (List Stage)) (t:Nat):Nat:=(evs (ps.take t)).length
theorem evs_succ {ps:List (List Stage)} {t:Nat} {p:List Stage} (h:ps[t]? =some p):evs (ps.take (t+1))=evs (ps.take t)++(List.range (p.length+1)).map fun k:Nat=>⟨(t:Int),(k:Int)⟩:=by
 unfold evs;rw[zipIdx_take_succ h];simp
theorem fst_zero (ps:List (List Stage)):fst ps 0=0:=by simp[fst,evs]
theorem fst_succ {ps:List (List Stage)} {t:Nat} {p:List Stage} (h:ps[t]? =some p):fst ps (t+1)=fst ps t+(p.length+1):=by
 unfold fst;rw[evs_succ h];simp
theorem fst_le {ps:List (List Stage)} (hv:∀p∈ps,p.length≤64):∀t:Nat,t≤ps.length→fst ps t≤t*65
 |0,_=>by rw[fst_zero];omega
 |t+1,ht=>by
  have hp:ps[t]? =some ps[t]:=List.getElem?_eq_getElem (by omega)
  rw[fst_succ hp]
  have h1:=fst_le hv t (by omega)
  have h3:=hv ps[t] (List.getElem_mem _)
  omega
end
section
open Go.RowKit
theorem tyInt:ElemTy Tryz.prog 22 3 1 8:= .mk' Tryz.underlying22 (z:= .int .i64 0) (by kernel_rfl) rfl (by omega)
def cellsB' (l:List Bool):Array Value:=(l.map Value.bool).toArray
end
section
open Go.RowKit
def AllRd {α:Type} (size:Nat) (E:Rd α) (w:World) (S:Foot):List (List Value)→List α→Prop
 | [],[]=>True
 |es::r,x::l=>(es.length=size∧E w S es x)∧AllRd size E w S r l
 |_,_=>False
theorem AllRd.spec {α:Type} {size:Nat} {E:Rd α} {w:World} {S:Foot}:∀ {ess:List (List Value)} {l:List α},AllRd size E w S ess l→ess.length=l.length∧(∀es∈ess,es.length=size)∧∀(j:Nat) es x,ess[j]? =some es→l[j]? =some x→E w S es x
 | [],[],_=>by simp
 |es::r,x::l,h=>by
  obtain⟨h1,h2,h3⟩:=AllRd.spec h.2
  refine⟨by simp[h1],fun es' hes=> ?_,fun j es' x' he hx=> ?_⟩
  ·rcases List.mem_cons.1 hes with rfl|hes
   ·exact h.1.1
   ·exact h2 es' hes
  ·cases j with
   |zero=>simp at he hx;subst he hx;exact h.1.2
   |succ j=>exact h3 j es' x' (by simpa using he) (by simpa using hx)
 | [],_::_,h=>h.elim
 |_::_,[],h=>h.elim
theorem RSlice.ofBlk {α:Type} {size:Nat} {E:Rd α} {w:World} {S:Foot} {b:Nat} {t:TypeId} {cs:Array Value} (hb:Blk w b t cs) (hS:S b) (ess:List (List Value)) (l:List α) (hc:cs.toList=ess.flatten) (h:AllRd size E w S ess l) (hl:l.length≤9223372036854775807):
  RSlice size E w S [.slice (some ⟨b,0,none⟩) l.length l.length] l:=by
 obtain⟨h1,h2,h3⟩:=h.spec
 refine⟨_,_,rfl,Nat.le_refl _,hl,fun _=>⟨b,0,rfl,hS,fun j x hx=> ?_⟩⟩
 have hj:j<ess.length:=by rw[h1];exact getElem?_lt hx
 have he:ess[j]? =some ess[j]:=List.getElem?_eq_getElem hj
 have hsz:=h2 ess[j] (List.getElem_mem hj)
 refine⟨ess[j],hsz,h3 j _ x he hx,fun i u hu=> ?_⟩
 have hi:i<size:=by rw[←hsz];exact getElem?_lt hu
 rw[Nat.zero_add,hb.cell,←Array.getElem?_toList,hc,flatten_at h2 he hi]
 exact hu
def cellsI (l:List Int):Array Value:=(l.map (Value.int .i64)).toArray
theorem cellsI_at {l:List Int} {n:Nat} {x:Int} (h:l[n]? =some x):(cellsI l)[n]? =some (.int .i64 x):=by simp[cellsI,h]
theorem cellsI_set (l:List Int) (n:Nat) (x:Int):(cellsI l).setIfInBounds n (.int .i64 x)=cellsI (l.set n x):=by simp[cellsI,List.map_set]
theorem cellsB'_at {l:List Bool} {n:Nat} {x:Bool} (h:l[n]? =some x):(cellsB' l)[n]? =some (.bool x):=by simp[cellsB',h]
theorem cellsB'_set' (l:List Bool) (n:Nat) (x:Bool):(cellsB' l).setIfInBounds n (.bool x)=cellsB' (l.set n x):=by simp[cellsB',List.map_set]
theorem madeCells_one (z:Value) (n:Nat):madeCells #[z] n=(List.replicate n z).toArray:=by
 apply Array.ext
 ·simp[madeCells]
 ·intro i h1 h2
  simp[madeCells,Nat.mod_one]
theorem mkInts (n:Nat) (hn:n≤1000000) (W:World):(Instr.makeSlice 22 (.int .i64 (n:Int)) (.int .i64 (n:Int))).run Tryz.prog W= .ok (.slice (some ⟨W.heap.size,0,none⟩) n n) (W.alloc (.cells (cellsI (List.replicate n 0)) 3)):=by
 have h:=run_make_row' (P:=Tryz.prog) 22 3 (.int .i64 0) 8 Tryz.underlying22 (by kernel_rfl) rfl .i64 .i64 n (by omega) (by omega) W
 rw[madeCells_one]at h
 rw[h];simp[cellsI]
end
section
open Go.RowKit
def idxOf (l:List Int) (x:Int):Int:=if x∈l then(l.idxOf x:Int)else-1
end
section
open Go.RowKit
end
section
open Go.RowKit
def Rd.Flat {α:Type} (E:Rd α):Prop:=∀w S w' S' cs x,E w S cs x→E w' S' cs x
theorem OwnL.keepsF {α:Type} {t size:Nat} {E:Rd α} {w w':World} {base lo:Nat} {v:Value} {l:List α} (hF:Rd.Flat E) {C:Foot} (h:OwnL t size E w base lo v l) (k:Keeps C w w') (hC:∀b,v.ownBlock=some b→¬C b):OwnL t size E w' base lo v l:=by
 obtain⟨ess,h1,h2,h3⟩:=h
 refine⟨ess,h1,?_,fun j x hx=> ?_⟩
 ·refine⟨h2.1,?_⟩
  rcases h2.2 with hn|⟨g,cap,cur,e,hb,hh,rest⟩
  ·exact .inl hn
  ·have hlt:=(Array.getElem?_eq_some_iff.1 hh).1
   exact .inr ⟨g,cap,cur,e,hb,(k.block g hlt (hC g (by rw[e];rfl))).trans hh,rest⟩
 ·obtain⟨es,e1,e2,e3⟩:=h3 j x hx
  exact⟨es,e1,e2,hF _ _ _ _ _ _ e3⟩
theorem OwnL.readF {α:Type} {t size:Nat} {E:Rd α} {w:World} {base lo:Nat} {v:Value} {l:List α} (_hE:Rd.Ok E) (hF:Rd.Flat E) (h:OwnL t size E w base lo v l) {S:Foot} (hS:∀b,v.ownBlock=some b→S b):RSlice size E w S [v] l:=by
 obtain⟨ess,h1,h2,h3⟩:=h
 have hall:∀es∈ess,es.length=size:=by
  intro es hes
  obtain⟨j,hj,e⟩:=List.getElem_of_mem hes
  have hl:j<l.length:=by omega
  obtain⟨es',e1,e2,_⟩:=h3 j l[j] (List.getElem?_eq_getElem hl)
  rw[List.getElem?_eq_getElem hj,e]at e1
  injection e1 with e1;subst e1;exact e2
 rcases h2.2 with⟨rfl,hn⟩|⟨g,cap,cur,rfl,hb,hh,hnc,hcm,hcs,htk⟩
 ·have:l=[]:=List.eq_nil_of_length_eq_zero hn
  subst this
  exact RSlice.mkNil
 ·refine⟨_,cap,rfl,hnc,hcm,fun _=>⟨g,0,rfl,hS g rfl,fun j x hx=> ?_⟩⟩
  obtain⟨es,e1,e2,e3⟩:=h3 j x hx
  refine⟨es,e2,hF _ _ _ _ _ _ e3,fun i u hu=> ?_⟩
  have hi:i<size:=by rw[←e2];exact(List.getElem?_eq_some_iff.1 hu).1
  have hj:j<l.length:=(List.getElem?_eq_some_iff.1 hx).1
  have hf:=flatten_at hall e1 hi
  rw[hu,←htk]at hf
  have hk:j*size+i<l.length*size:=by
   have:(j+1)*size≤l.length*size:=Nat.mul_le_mul_right _ hj
   rw[Nat.succ_mul]at this;omega
  rw[List.getElem?_take_of_lt hk]at hf
  simp only[World.cell?,hh,Option.isSome_none,Nat.zero_add]
  simpa using hf
structure Rows {α:Type} (tr te size:Nat) (E:Rd α) (w:World) (base B:Nat) (vs:List Value) (ll:List (List α)):Prop where
 blk:Blk w B tr vs.toArray
 len:vs.length=ll.length
 own:∀(i:Nat) v l,vs[i]? =some v→ll[i]? =some l→OwnL te size E w base base v l
 ne:∀(i j:Nat) u v b,i≠j→vs[i]? =some u→vs[j]? =some v→u.ownBlock=some b→v.ownBlock≠some b
 nb:B<base
section
variable {α:Type} {tr te size:Nat} {E:Rd α} {w w':World} {base B:Nat} {vs:List Value} {ll:List (List α)}
theorem Rows.keeps (hF:Rd.Flat E) {C:Foot} (h:Rows tr te size E w base B vs ll) (k:Keeps C w w') (hB:¬C B) (hC:∀b,base≤b→b<w.heap.size→¬C b):Rows tr te size E w' base B vs ll:=
 ⟨h.blk.kept k hB,h.len,fun i v l hv hl=>(h.own i v l hv hl).keepsF hF k (fun b hb=>by have:=(h.own i v l hv hl).lt hb;exact hC b this.1 this.2),h.ne,h.nb⟩
theorem Rows.get (h:Rows tr te size E w base B vs ll) {i:Nat} (hi:i<ll.length):∃v l,vs[i]? =some v∧ll[i]? =some l∧OwnL te size E w base base v l∧w.cell? ⟨B,i,none⟩=some v∧w.frozen? ⟨B,i,none⟩=false:=by
 have hv:vs[i]? =some (vs[i]'(by rw[h.len];exact hi)):=List.getElem?_eq_getElem _
 have hl:ll[i]? =some ll[i]:=List.getElem?_eq_getElem hi
 exact⟨_,_,hv,hl,h.own i _ _ hv hl,by rw[h.blk.cell];simp,h.blk.frozen i⟩
theorem Rows.push (hF:Rd.Flat E) (h:Rows tr te size E w base B vs ll) {i:Nat} {v v':Value} {l l':List α} (hv:vs[i]? =some v) (hl:ll[i]? =some l) (_hbase:base≤w.heap.size) (ho:OwnL te size E w' base base v' l') (hk:Keeps (fun b=>v.ownBlock=some b) w w') (hn:v'.ownBlock=v.ownBlock∨v'.ownBlock=some w.heap.size):
  Rows tr te size E (w'.setCell ⟨B,i,none⟩ v') base B (vs.set i v') (ll.set i l'):=by
 have hBv:¬(v.ownBlock=some B):=fun e=>by have:=(h.own i v l hv hl).lt e;have:=h.nb;omega
 have hlt:=h.blk.lt
 have hi:=getElem?_lt hv
 have k2:Keeps (fun b=>b=B) w' (w'.setCell ⟨B,i,none⟩ v'):=(Keeps.refl (fun b=>b=B) w').setCell (p:=⟨B,i,none⟩) (fun _=>rfl) _
 have key:∀(j:Nat) u m,j≠i→vs[j]? =some u→ll[j]? =some m→OwnL te size E (w'.setCell ⟨B,i,none⟩ v') base base u m:=fun j u m hj hu hm=>by
  have h1:=(h.own j u m hu hm).keepsF hF hk (fun b hb e=>h.ne j i u v b hj hu hv hb e)
  exact h1.keepsF hF k2 (fun b hb e=>by have:=h1.lt hb;have:=h.nb;omega)
 refine⟨?_,by simp[h.len],fun j u m hu hm=> ?_,fun a b u u' x hab hu hu' hx=> ?_,h.nb⟩
 ·have:=(h.blk.kept hk hBv).set_ i v'
  have e:vs.toArray.setIfInBounds i v'=(vs.set i v').toArray:=by simp
  rw[e]at this;exact this
 ·by_cases e:i=j
  ·subst e
   rw[List.getElem?_set_self hi]at hu
   rw[List.getElem?_set_self (by rw[←h.len];exact hi)]at hm
   injection hu with hu;injection hm with hm;subst hu hm
   exact ho.keepsF hF k2 (fun b hb e=>by have:=ho.lt hb;have:=h.nb;omega)
  ·rw[List.getElem?_set_ne e]at hu hm
   exact key j u m (fun h=>e h.symm) hu hm
 ·by_cases e1:i=a
  ·subst e1
   rw[List.getElem?_set_self hi]at hu
   injection hu with hu;subst hu
   rw[List.getElem?_set_ne hab]at hu'
   intro e2
   obtain⟨m,hm⟩:∃m,ll[b]? =some m:=⟨_,List.getElem?_eq_getElem (by rw[←h.len];exact getElem?_lt hu')⟩
   rcases hn with hn|hn
   ·exact h.ne i b v u' x hab hv hu' (by rw[←hn];exact hx) e2
   ·rw[hn]at hx;injection hx with hx;subst hx
    have:=(h.own b u' m hu' hm).lt e2;omega
  ·rw[List.getElem?_set_ne e1]at hu
   by_cases e2:i=b
   ·subst e2
    rw[List.getElem?_set_self hi]at hu'
    injection hu' with hu';subst hu'
    obtain⟨m,hm⟩:∃m,ll[a]? =some m:=⟨_,List.getElem?_eq_getElem (by rw[←h.len];exact getElem?_lt hu)⟩
    intro e3
    rcases hn with hn|hn
    ·exact h.ne a i u v x hab hu hv hx (by rw[←hn];exact e3)
    ·rw[hn]at e3;injection e3 with e3;subst e3
     have:=(h.own a u m hu hm).lt hx;omega
   ·rw[List.getElem?_set_ne e2]at hu'
    exact h.ne a b u u' x hab hu hu' hx
theorem Rows.new (n:Nat) {B:Nat} (hb:Blk w B tr (List.replicate n (Value.slice none 0 0)).toArray) (hB:B<base):Rows tr te size E w base B (List.replicate n (.slice none 0 0)) (List.replicate n ([]:List α)):=by
 refine⟨hb,by simp,fun i v l hv hl=> ?_,fun i j u v b _ hu _ hx=> ?_,hB⟩
 ·simp[List.getElem?_replicate]at hv hl
  obtain⟨_,rfl⟩:=hv
  obtain⟨_,rfl⟩:=hl
  exact OwnL.nil
 ·simp[List.getElem?_replicate]at hu
  obtain⟨_,rfl⟩:=hu
  simp[Value.ownBlock]at hx
end
end
section
def tab {α:Type} (n:Nat) (f:Nat→α):List α:=(List.range n).map f
theorem tab_len {α:Type} (n:Nat) (f:Nat→α):(tab n f).length=n:=by simp[tab]
theorem tab_get {α:Type} {n:Nat} {f:Nat→α} {i:Nat} (h:i<n):(tab n f)[i]? =some (f i):=by simp[tab,h]
theorem tab_none {α:Type} {n:Nat} {f:Nat→α} {i:Nat} (h:n≤i):(tab n f)[i]? =none:=by
 rw[List.getElem?_eq_none_iff,tab_len];exact h
theorem tab_ext {α:Type} {n:Nat} {f g:Nat→α} (h:∀j,j<n→f j=g j):tab n f=tab n g:=by
 apply List.ext_getElem?
 intro j
 rcases Nat.lt_or_ge j n with hj|hj
 ·rw[tab_get hj,tab_get hj,h j hj]
 ·rw[tab_none hj,tab_none hj]
theorem tab_set {α:Type} {n:Nat} {f:Nat→α} {i:Nat} {v:α}:(tab n f).set i v=tab n (fun j=>if j=i then v else f j):=by
 apply List.ext_getElem?
 intro j
 rw[List.getElem?_set]
 rcases Nat.lt_or_ge j n with hj|hj
 ·rw[tab_get hj,tab_get hj,tab_len]
  by_cases e:i=j
  ·subst e;simp[hj]
  ·have:¬j=i:=fun h=>e h.symm
   simp[e,this]
 ·rw[tab_none hj,tab_none hj,tab_len]
  by_cases e:i=j
  ·subst e;simp[Nat.not_lt.2 hj]
  ·simp[e]
theorem tab_const {α:Type} (n:Nat) (x:α):List.replicate n x=tab n (fun _=>x):=by
 apply List.ext_getElem?
 intro j
 rcases Nat.lt_or_ge j n with hj|hj
 ·rw[tab_get hj,List.getElem?_replicate,if_pos hj]
 ·rw[tab_none hj,List.getElem?_replicate,if_neg (by omega)]
theorem tab_succ {α:Type} (n:Nat) (f:Nat→α):tab (n+1) f=tab n f++ [f n]:=by simp[tab,List.range_succ]
theorem tab_map {α β:Type} (n:Nat) (f:Nat→α) (g:α→β):(tab n f).map g=tab n (fun i=>g (f i)):=by simp[tab]
end
section
open Go.RowKit
def ePos (x:Int×Int):Nat:=(2*x.1+x.2).toNat
def eOf (i:Nat):Int×Int:=((i/2:Nat),(i%2:Nat))
def erl (m:Nat) (pre:List Lnk):List (List Lnk):=tab m fun i=>atE pre (eOf i)
theorem eOf_pos {x:Int×Int} (h1:0≤x.1) (h2:x.2=0∨x.2=1):eOf (ePos x)=x:=by
 obtain⟨a,b⟩:=x
 unfold eOf ePos
 simp only[]at*
 refine Prod.ext ?_ ?_<;>simp only[]<;>omega
theorem ePos_of {i:Nat}:ePos (eOf i)=i:=by unfold ePos eOf;simp only[];omega
theorem atE_snoc (pre:List Lnk) (k:Lnk) (x:Int×Int):atE (pre++ [k]) x=if hasE k x=true then atE pre x++ [k]else atE pre x:=by
 unfold atE
 rw[List.filter_append]
 split
 ·rename_i h;simp[h]
 ·rename_i h;simp[h]
theorem hasE_iff {k:Lnk} {x:Int×Int}:hasE k x=true↔x=(k.a,k.ae)∨x=(k.b,k.be):=by
 obtain⟨a,b⟩:=x
 simp only[hasE,Bool.or_eq_true,decide_eq_true_eq,Prod.mk.injEq]
 constructor
 ·rintro(⟨h1,h2⟩|⟨h1,h2⟩)
  ·exact .inl ⟨h1.symm,h2.symm⟩
  ·exact .inr ⟨h1.symm,h2.symm⟩
 ·rintro(⟨h1,h2⟩|⟨h1,h2⟩)
  ·exact .inl ⟨h1.symm,h2.symm⟩
  ·exact .inr ⟨h1.symm,h2.symm⟩
theorem erl_len (m:Nat) (pre:List Lnk):(erl m pre).length=m:=tab_len _ _
theorem erl_at {m:Nat} {pre:List Lnk} {x:Int×Int} (h1:0≤x.1) (h2:x.2=0∨x.2=1) (h3:ePos x<m):(erl m pre)[ePos x]? =some (atE pre x):=by
 unfold erl;rw[tab_get h3,eOf_pos h1 h2]
theorem erl_push {m:Nat} {pre:List Lnk} {k:Lnk} (ha:0≤k.a) (hae:k.ae=0∨k.ae=1) (hb:0≤k.b) (hbe:k.be=0∨k.be=1):
  ((erl m pre).set (ePos (k.a,k.ae)) (atE pre (k.a,k.ae)++ [k])).set (ePos (k.b,k.be)) (atE pre (k.b,k.be)++ [k])=erl m (pre++ [k]):=by
 unfold erl
 rw[tab_set,tab_set]
 refine tab_ext fun i _=> ?_
 rw[atE_snoc]
 by_cases e1:i=ePos (k.b,k.be)
 ·subst e1
  rw[if_pos rfl,eOf_pos hb hbe,if_pos (hasE_iff.2 (.inr rfl))]
 ·rw[if_neg e1]
  by_cases e2:i=ePos (k.a,k.ae)
  ·subst e2
   rw[if_pos rfl,eOf_pos ha hae,if_pos (hasE_iff.2 (.inl rfl))]
  ·rw[if_neg e2,if_neg]
   intro h
   rcases hasE_iff.1 h with h|h
   ·exact e2 (by rw[←h,ePos_of])
   ·exact e1 (by rw[←h,ePos_of])
theorem anyJ_at {pre:List Lnk} {x y:Int×Int} (hne:x≠y):anyJ (atE pre x) x y=(pre.any fun j=>hasE j x&&hasE j y):=by
 unfold anyJ atE
 rw[Bool.eq_iff_iff,List.any_eq_true,List.any_eq_true]
 constructor
 ·rintro⟨j,hj,h⟩
  have:=joinsE_has h
  exact⟨j,(List.mem_filter.1 hj).1,by simp[this]⟩
 ·rintro⟨j,hj,h⟩
  simp only[Bool.and_eq_true]at h
  refine⟨j,List.mem_filter.2 ⟨hj,h.1⟩,?_⟩
  rcases hasE_iff.1 h.1 with e1|e1
  ·rcases hasE_iff.1 h.2 with e2|e2
   ·exact absurd (e1.trans e2.symm) hne
   ·simp[joinsE,e1,e2]
  ·rcases hasE_iff.1 h.2 with e2|e2
   ·simp[joinsE,e1,e2]
   ·exact absurd (e1.trans e2.symm) hne
theorem RLnk.flat:Rd.Flat RLnk:=fun _ _ _ _ _ _ h=>h
theorem tyLnk:ElemTy Tryz.prog 25 196 6 48:= .mk' Tryz.underlying25 (z:= .agg #[.int .i64 0,.int .i64 0,.int .i64 0,.int .i64 0,.int .i64 0,.int .i64 0]) (by kernel_rfl) rfl (by omega)
theorem mkLnkRows (n:Nat) (hn:n≤1000000) (W:World):(Instr.makeSlice 419 (.int .i64 (n:Int)) (.int .i64 (n:Int))).run Tryz.prog W= .ok (.slice (some ⟨W.heap.size,0,none⟩) n n) (W.alloc (.cells (List.replicate n (Value.slice none 0 0)).toArray 25)):=by
 have h:=run_make_row' (P:=Tryz.prog) 419 25 (.slice none 0 0) 24 Tryz.underlying419 (by kernel_rfl) rfl .i64 .i64 n (by omega) (by omega) W
 rw[madeCells_one]at h;exact h
structure CkL (w2 wr:World) (q B:Nat) (L:Lay) (v:LV) (vs:List Value) (ll:List (List Lnk)):Prop where
 lay:RLay w2 (fun b=>b<w2.heap.size∧b≠B) v L
 box:Blk wr q 27 (v.cs L)
 k:Keeps (fun b=>b=B) w2 wr
 rows:Rows 25 196 6 RLnk wr w2.heap.size B vs ll
 hq:q<w2.heap.size
 ne:q≠B
section
variable {w2 wr w':World} {q B:Nat} {L:Lay} {v:LV} {vs:List Value} {ll:List (List Lnk)}
theorem CkL.keep (h:CkL w2 wr q B L v vs ll) (k:KeepsAll wr w'):CkL w2 w' q B L v vs ll:=
 ⟨h.lay,h.box.kept k (by simp),h.k.trans k (fun _ _ h=>h.elim),h.rows.keeps RLnk.flat k (by simp) (by simp),h.hq,h.ne⟩
theorem CkL.push {i:Nat} {u u':Value} {l l':List Lnk} (h:CkL w2 wr q B L v vs ll) (hv:vs[i]? =some u) (hl:ll[i]? =some l)
  (ho:OwnL 196 6 RLnk w' w2.heap.size w2.heap.size u' l') (hk:Keeps (fun b=>u.ownBlock=some b) wr w') (hn:u'.ownBlock=u.ownBlock∨u'.ownBlock=some wr.heap.size):
  CkL w2 (w'.setCell ⟨B,i,none⟩ u') q B L v (vs.set i u') (ll.set i l'):=by
 have hr:=h.rows.push RLnk.flat hv hl h.k.size ho hk hn
 have hown:=h.rows.own i u l hv hl
 have hB:=h.rows.nb
 have hq:=h.hq
 refine⟨h.lay,?_,(h.k.trans hk (fun x hx e=>by have:=hown.lt e;omega)).setCell (fun _=>rfl) _,hr,h.hq,h.ne⟩
 exact(h.box.kept hk (fun e=>by have:=hown.lt e;omega)).far (by show q≠B;exact h.ne) _
theorem CkL.row (h:CkL w2 wr q B L v vs ll) {i:Nat} (hi:i<ll.length):
  ∃A c l,vs[i]? =some (.slice A l.length c)∧ll[i]? =some l∧OwnL 196 6 RLnk wr w2.heap.size w2.heap.size (.slice A l.length c) l∧wr.cell? ⟨B,i,none⟩=some (.slice A l.length c)∧wr.frozen? ⟨B,i,none⟩=false∧l.length≤c∧c≤9223372036854775807:=by
 obtain⟨v,l,h1,h2,h3,h4,h5⟩:=h.rows.get hi
 obtain⟨A,c,rfl,hc,hc2⟩:=h3.form
 exact⟨A,c,l,h1,h2,h3,h4,h5,hc,hc2⟩
end
end
end Go.Proofs.YtcbcegdidlefiaaGreat
