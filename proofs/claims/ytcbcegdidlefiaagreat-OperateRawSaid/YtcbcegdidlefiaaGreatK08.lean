/- Contract of points and Check of a route (program). Conditions: as each theorem says. Contract of HopsOf (reference): the hops from a step. Conditions: as each theorem says. Which arcs the graph has, in terms of the orders. No program in sight. Contracts of the graph's agrees, refs and complete. Conditions: as each theorem says. Contracts of the graph's refs and complete, and of precedence.Line. Conditions: as each theorem says. Contracts of the graph's complete and of precedence.Line. Conditions: as each theorem says. Contract of keep.Same at references. Conditions: as the theorem says. The orders that the reference sorts, as plain lists, and that they are valid. No program in sight. Contract of the reference's Sort. Conditions: as the theorem says. Contract of the maker of entries: what it returns fits the paths and ascends. Conditions: as the theorem says. Contract of the maker of paths: what it returns is valid and small. Conditions: as the theorem says. What the maker of paths makes is valid. No program in sight. Contracts of the reference's Over and Left. Conditions: as each theorem says. Trains that enter the stages in the order of a line use each resource in its order. No program in sight. The reference's arcs and its order of events as plain lists, and that they agree with the program's. No program in sight. The reference's order of events agrees with the program's. No program in sight. A list of paths in memory of which one cell is written again: it still reads as a list of paths. Conditions: as each theorem says. Owned slices: stores, and more. Conditions: as each theorem says. Contracts of the reference's Between, Chain and Arcs. Conditions: as each theorem says. Contracts of the reference's ready, LineOf and Line. Conditions: as each theorem says. Contracts of the reference's LineOf and Line. Conditions: as each theorem says. Contracts of math/bits.Mul64, math/bits.Mul and slices.Repeat at one element. Conditions: as each theorem says. -/
import Derived.Test.YtcbcegdidlefiaaGreatK07
import Derived.Test.YtcbcegdidlefiaaGreatK05
import Derived.Deep.CutRange
import Derived.Deep.CutBlock
import Derived.Test.YtcbcegdidlefiaaGreatK03
import Derived.Test.YtcbcegdidlefiaaGreatK01
import Derived.Deep.AppendLies
import Derived.Laws.CopyRow
import Derived.Laws.Bits64b
namespace Go.Proofs.YtcbcegdidlefiaaGreat
section
open Go.RowKit
theorem dupS_at (l:List Stp) (n:Nat) (s:Stp) (h:l[n]? =some s):dupS ((l.take n).map (·.sec)) (l.drop n)=if s.sec∈(l.take n).map (·.sec)then true else dupS ((l.take (n+1)).map (·.sec)) (l.drop (n+1)):=by
 have hd:l.drop n=s::l.drop (n+1):=by
  have hlt:=(List.getElem?_eq_some_iff.1 h).1
  rw[←(List.getElem?_eq_some_iff.1 h).2,List.getElem_cons_drop hlt]
 have ht:(l.take n).map (·.sec)++ [s.sec]=(l.take (n+1)).map (·.sec):=by rw[List.take_add_one,h];simp
 rw[hd,dupS,ht]
theorem lnksOf_at (ks:List Lnk) (l:List Stp) (n:Nat) (s t:Stp) (h:l[n]? =some s) (h2:l[n+1]? =some t):lnksOf ks (l.drop n)=match lnkOf ks s t with|none=>none|some k=>(lnksOf ks (l.drop (n+1))).map (k::·):=by
 have hd:l.drop n=s::l.drop (n+1):=by
  have hlt:=(List.getElem?_eq_some_iff.1 h).1
  rw[←(List.getElem?_eq_some_iff.1 h).2,List.getElem_cons_drop hlt]
 have hd2:l.drop (n+1)=t::l.drop (n+2):=by
  have hlt:=(List.getElem?_eq_some_iff.1 h2).1
  rw[←(List.getElem?_eq_some_iff.1 h2).2,List.getElem_cons_drop hlt]
 rw[hd,hd2,lnksOf]
 rfl
def passA (m:Nat) (l:List Int):List Bool:=tab m fun j=>decide ((j:Int)∈l)
theorem passA_at {m:Nat} {l:List Int} {i:Int} (h0:0≤i) (h1:i<m):(passA m l)[i.toNat]? =some (decide (i∈l)):=by
 unfold passA;rw[tab_get (by omega),Int.toNat_of_nonneg h0]
theorem passA_set {m:Nat} {l:List Int} {i:Int} (h0:0≤i):(passA m l).set i.toNat true=passA m (l++ [i]):=by
 unfold passA
 rw[tab_set]
 refine tab_ext fun j _=> ?_
 by_cases e:j=i.toNat
 ·rw[if_pos e,e,Int.toNat_of_nonneg h0];simp
 ·rw[if_neg e]
  have:¬((j:Int)=i):=by omega
  simp[this]
theorem passA_new (m:Nat):List.replicate m false=passA m []:=by
 unfold passA;rw[tab_const];exact tab_ext fun j _=>by simp
set_option maxRecDepth 100000 in
set_option maxHeartbeats 4000000 in
theorem points_any (L:Lay) (v:LV) (r:Rou) (A:Option Addr) (c:Nat) (w:World) (h:RLay w (Old w) v L) (hr:RStps w (Old w) [.slice A r.stps.length c] r.stps) (hlen:LayLen L):
  Calls Tryz.prog 192 #[.agg (v.cs L),.agg #[.slice A r.stps.length c,.int .i64 r.ov]] w fun e w'=>(∃vl,e= .returned (.tuple #[vl,.int .i64 (rouErr L r)]))∧KeepsAll w w':=by
 have hc:=hr.caps
 have HL:=Lib.hid h
 have HR:=Lib.hid hr
 have HCK:=Lib.hid (fun W k=>layCheck_any L v W k hlen)
 have HTR:=Lib.hid (fun s t W k=>transition_any L v s t W k)
 have HST:=Lib.hid (fun s W=>isStep_any L v s W)
 have E1:Hid (layErr L≠0→rouErr L r=1):=fun g=>by unfold rouErr;rw[if_pos g]
 have E2:Hid (layErr L=0→24<r.stps.length∨2<r.ov→rouErr L r=7):=fun g g2=>by unfold rouErr;rw[if_neg (by simp[g]),if_pos g2]
 have E3:Hid (layErr L=0→¬(24<r.stps.length∨2<r.ov)→r.ov<0∨(r.stps.length:Int)-r.ov<2→rouErr L r=4):=fun g g2 g3=>by unfold rouErr;rw[if_neg (by simp[g]),if_neg g2,if_pos g3]
 have E4:Hid (layErr L=0→¬(24<r.stps.length∨2<r.ov)→¬(r.ov<0∨(r.stps.length:Int)-r.ov<2)→rouErr L r=if(r.stps.any fun s=> !stpOk L.secs.length s)=true then 4 else if dupS [] r.stps=true then 5 else if lnksOf L.lks r.stps=none then 11 else 0):=fun g g2 g3=>by
  unfold rouErr;rw[if_neg (by simp[g]),if_neg g2,if_neg g3]
 have HLK:Hid (layErr L=0→L.secs.length≤96∧L.lks.length≤192∧L.pts.length≤48):=fun g=>by have:=(layErr_zero L).1 g;exact⟨this.secs,this.lks,this.pts⟩
 clear h hr
 generalize hle:layErr L=le at*
 obtain⟨A1,A2,A3,A4,ca1,ca2,ca3,ca4⟩:=v
 unfold LV.cs at HCK HTR HST⊢
 simp only[]at HCK HTR HST⊢
 go_enter Tryz.func192,Tryz.ntmps192
 go_wp2_with fail
 generalize hW1:World.alloc w _=W1
 have K1:Hid (KeepsAll w W1):=by subst hW1;exact(Keeps.refl _ _).alloc _
 have B1:Hid (Blk W1 w.heap.size 27 #[.slice A1 L.sts.length ca1,.slice A2 L.pts.length ca2,.slice A3 L.secs.length ca3,.slice A4 L.lks.length ca4]):=by subst hW1;exact Blk.new _ _ _
 have hz1:W1.heap.size=w.heap.size+1:=by subst hW1;simp
 clear hW1
 generalize hN:w.heap.size=N at*
 generalize hW:World.alloc W1 _=W
 have K0:Hid (KeepsAll w W):=by subst hW;exact K1.out.alloc _
 have B0:Hid (Blk W N 27 #[.slice A1 L.sts.length ca1,.slice A2 L.pts.length ca2,.slice A3 L.secs.length ca3,.slice A4 L.lks.length ca4]):=by subst hW;exact B1.out.alloc _
 have BR:Hid (Blk W (N+1) 95 #[.slice A r.stps.length c,.int .i64 r.ov]):=by subst hW;exact Blk.new' _ _ _ hz1.symm
 clear hW K1 B1 hz1
 refine(HCK.out W (HL.out.kept K0.out)).mono ?_
 rintro e W2 ⟨rfl,k2⟩
 have K2:Hid (KeepsAll w W2):=K0.out.trA k2
 have C0:=Lib.hid (B0.out.kept k2 (by simp))
 have CR:=Lib.hid (BR.out.kept k2 (by simp))
 have q0:=C0.out.cell 0
 have q1:=C0.out.cell 1
 have q2:=C0.out.cell 2
 have q3:=C0.out.cell 3
 have r0:=CR.out.cell 0
 have r1:=CR.out.cell 1
 simp at q0 q1 q2 q3 r0 r1
 clear k2 B0 BR K0 HCK
 by_cases gz:le≠0
 ·have gz':(le !=0)=true:=by simpa using gz
  have E:=E1.out gz
  go_wp2_with fail
  go_ret2
  exact⟨⟨_,by rw[E];rfl⟩,K2.out⟩
 obtain rfl:le=0:=by simpa using gz
 by_cases g2:24<r.stps.length∨2<r.ov
 ·have E:=E2.out rfl g2
  clear E1 E2 E3 E4
  go_wp2_with fail
  all_goals first|(go_ret2;exact⟨⟨_,by rw[E];rfl⟩,K2.out⟩)|(exfalso;omega)
 by_cases g3:r.ov<0∨(r.stps.length:Int)-r.ov<2
 ·have E:=E3.out rfl g2 g3
  have g20:r.stps.length≤24∧r.ov≤2:=by omega
  obtain⟨g21,g22⟩:=g20
  clear E1 E2 E3 E4 g2
  go_wp2_with fail
  all_goals first|(go_ret2;exact⟨⟨_,by rw[E];rfl⟩,K2.out⟩)|(exfalso;omega)
 have E:=Lib.hid (E4.out rfl g2 g3)
 have g4:r.stps.length≤24∧r.ov≤2∧0≤r.ov∧2≤(r.stps.length:Int)-r.ov:=by omega
 obtain⟨g41,g42,g43,g44⟩:=g4
 obtain⟨hL1,hL2,hL3⟩:=HLK.out rfl
 clear E1 E2 E3 E4 g2 g3 gz HLK
 have HLE:=Lib.hid hle
 clear hle
 generalize hou:rouErr L r=ou at*
 have HOU:=Lib.hid hou
 clear hou
 go_wp2_with fail
 go_loopw [42] (fun i wr=>∃n:Nat,n≤r.stps.length∧i= .int .i64 (n:Int)∧(∀k s,k<n→r.stps[k]? =some s→stpOk L.secs.length s=true)∧KeepsAll W2 wr) (fun i _=>r.stps.length-(intOf i).toNat)
 case atStart=>exact⟨0,Nat.zero_le _,rfl,fun k s hk=>by omega,Keeps.refl _ _⟩
 case round=>
  obtain⟨n,hn,rfl,hall,hk⟩:=hrel
  have HALL:=Lib.hid hall
  have HK:=Lib.hid hk
  have KW:=Lib.hid (K2.out.trA hk)
  have D0:=Lib.hid (C0.out.kept hk (by simp))
  have DR:=Lib.hid (CR.out.kept hk (by simp))
  clear hall hk
  by_cases hlt:n<r.stps.length
  ·obtain⟨b,o,s,rfl,hb,hx,m0,m1⟩:=HR.out.atO KW.out hlt
   have HX:=Lib.hid hx
   clear hx
   have p0:=D0.out.cell 0
   have p1:=D0.out.cell 1
   have p2:=D0.out.cell 2
   have p3:=D0.out.cell 3
   simp at p0 p1 p2 p3
   have hN0:N<wr.heap.size∧N+1<wr.heap.size:=⟨D0.out.lt,DR.out.lt⟩
   have hN1:=hN0.1
   cases gs:stpOk L.secs.length s with
   |false=>
    have HS1:=Lib.hid (fun W=>HST.out s W)
    rw[gs]at HS1
    have E0:Hid (ou=4):=by
     show _=_
     rw[E.out,if_pos]
     rw[List.any_eq_true]
     exact⟨s,List.mem_of_getElem? HX.out,by rw[gs];rfl⟩
    unfold stpC at HS1
    go_wp2_with(go_at_call 296;refine(HS1.out _).mono ?_;rintro e w5 ⟨rfl,k5⟩)
    go_ret2
    exact⟨⟨_,by rw[HOU.out,E0.out];rfl⟩,(KW.out.alloc _).trA k5⟩
   |true=>
    have HS1:=Lib.hid (fun W=>HST.out s W)
    rw[gs]at HS1
    unfold stpC at HS1
    have HAN:Hid (∀k t,k<n+1→r.stps[k]? =some t→stpOk L.secs.length t=true):=fun k t hk ht=>by
     rcases Nat.lt_or_ge k n with h1|h1
     ·exact HALL.out k t h1 ht
     ·obtain rfl:k=n:=by omega
      rw[HX.out]at ht
      injection ht with ht
      rw[←ht];exact gs
    go_wp2_with(go_at_call 296;refine(HS1.out _).mono ?_;rintro e w5 ⟨rfl,k5⟩;have K5:=Lib.hid ((HK.out.alloc (.cells #[.int .i64 s.sec,.int .i64 s.dir] 200)).trA k5);clear k5)
    exact⟨⟨n+1,by omega,by go_num,HAN.out,K5.out⟩,by simp[intOf];omega⟩
  ·obtain rfl:n=r.stps.length:=by omega
   have HOK:Hid (∀(k:Nat) (s:Stp),r.stps[k]? =some s→0≤s.sec∧s.sec<L.secs.length):=fun k s hs=>by
    have:=HALL.out k s (List.getElem?_eq_some_iff.1 hs).1 hs
    simp[stpOk]at this
    exact⟨this.1,this.2.1⟩
   have E5:Hid (ou=if dupS ((r.stps.take 0).map (·.sec)) (r.stps.drop 0)=true then 5 else if lnksOf L.lks r.stps=none then 11 else 0):=by
    show _=_
    rw[E.out,if_neg]
    ·rfl
    ·rw[List.any_eq_true]
     rintro⟨s,hs,e⟩
     obtain⟨k,hk,he⟩:=List.getElem_of_mem hs
     have:=HALL.out k s hk (by rw[List.getElem?_eq_getElem hk,he])
     rw[this]at e;cases e
   have hmkb:=mkBools L.secs.length (by omega)
   have p2:=D0.out.cell 2
   simp at p2
   have p0':=DR.out.cell 0
   simp at p0'
   obtain⟨wo,hwo⟩:∃wo:World,wo=wr:=⟨_,rfl⟩
   rw[←hwo]at HK KW D0 DR p2 p0'⊢
   clear hwo HALL
   have hgN:N<wo.heap.size∧N+1<wo.heap.size∧w.heap.size≤wo.heap.size:=⟨D0.out.lt,DR.out.lt,KW.out.size⟩
   obtain⟨hg1,hg2,hg3⟩:=hgN
   go_wp2_with fail
   generalize hW3:World.alloc wo _=W3
   have K3:Hid (KeepsAll w W3):=by subst hW3;exact KW.out.alloc _
   have F0:Hid (Blk W3 N 27 #[.slice A1 L.sts.length ca1,.slice A2 L.pts.length ca2,.slice A3 L.secs.length ca3,.slice A4 L.lks.length ca4]):=by subst hW3;exact D0.out.alloc _
   have FR:Hid (Blk W3 (N+1) 95 #[.slice A r.stps.length c,.int .i64 r.ov]):=by subst hW3;exact DR.out.alloc _
   have HP:Hid (Blk W3 wo.heap.size 4 (cellsB' (passA L.secs.length ((r.stps.take 0).map (·.sec))))):=by
    subst hW3;rw[List.take_zero,List.map_nil,←passA_new];exact Blk.new _ _ _
   clear hW3 hmkb D0 DR p2 p0' KW HK
   generalize wo.heap.size=g at*
   go_loopw [58] (fun i wr=>∃n:Nat,n≤r.stps.length∧i= .int .i64 (n:Int)∧Blk wr g 4 (cellsB' (passA L.secs.length ((r.stps.take n).map (·.sec))))∧Keeps (·=g) W3 wr∧dupS ((r.stps.take 0).map (·.sec)) (r.stps.drop 0)=dupS ((r.stps.take n).map (·.sec)) (r.stps.drop n)) (fun i _=>r.stps.length-(intOf i).toNat)
   case atStart=>exact⟨0,Nat.zero_le _,rfl,HP.out,Keeps.refl _ _,rfl⟩
   case round=>
    obtain⟨n,hn,rfl,hb,hk,hdup⟩:=hrel
    have HB:=Lib.hid hb
    have HKG:=Lib.hid hk
    have HD:=Lib.hid hdup
    have KW:Hid (KeepsAll w wr):=K3.out.trans hk (fun x hx e=>by omega)
    have D0:=Lib.hid (F0.out.kept hk (by omega))
    have DR:=Lib.hid (FR.out.kept hk (by omega))
    clear hb hk hdup
    by_cases hlt2:n<r.stps.length
    ·obtain⟨b,o,s,rfl,hb,hx,m0,m1⟩:=HR.out.atO KW.out hlt2
     have HX:=Lib.hid hx
     have HDA:=Lib.hid (dupS_at r.stps n s hx)
     have hso:=HOK.out n s hx
     have HT:Hid ((r.stps.take (n+1)).map (·.sec)=(r.stps.take n).map (·.sec)++ [s.sec]):=by show _=_;rw[List.take_add_one,hx];simp
     clear hx
     obtain⟨j,hj⟩:=Int.eq_ofNat_of_zero_le hso.1
     have hj2:j<L.secs.length:=by omega
     have z0:=(HB.out.cell j).trans (cellsB'_at (by have:=passA_at (m:=L.secs.length) (l:=(r.stps.take n).map (·.sec)) (i:=s.sec) hso.1 hso.2;rwa[hj,Int.toNat_natCast]at this))
     have y0:=HB.out.frozen j
     have HSET:Hid ((passA L.secs.length ((r.stps.take n).map (·.sec))).set j true=passA L.secs.length ((r.stps.take n).map (·.sec)++ [(j:Int)])):=by
      have:=passA_set (m:=L.secs.length) (l:=(r.stps.take n).map (·.sec)) (i:=(j:Int)) (by omega)
      rwa[Int.toNat_natCast]at this
     rw[hj]at m0 HT HDA
     have hgs:g<wr.heap.size:=HB.out.lt
     clear hso
     generalize (r.stps.take n).map (·.sec)=P at*
     by_cases hin:(j:Int)∈P
     ·have z1:wr.cell? ⟨g,j,none⟩=some (.bool true):=by rw[z0];simp[hin]
      have E0:Hid (ou=5):=by
       show _=_
       rw[E5.out,HD.out,HDA.out,if_pos hin,if_pos rfl]
      clear z0
      go_wp2_with fail
      go_ret2
      exact⟨⟨_,by rw[HOU.out,E0.out];rfl⟩,KW.out.alloc _⟩
     ·have z1:wr.cell? ⟨g,j,none⟩=some (.bool false):=by rw[z0];simp[hin]
      have HB6:Hid (Blk (wr.setCell ⟨g,j,none⟩ (.bool true)) g 4 (cellsB' (passA L.secs.length ((r.stps.take (n+1)).map (·.sec))))):=by
       have:=HB.out.set_ j (.bool true)
       rw[cellsB'_set',HSET.out,←HT.out]at this
       exact this
      have HD6:Hid (dupS ((r.stps.take 0).map (·.sec)) (r.stps.drop 0)=dupS ((r.stps.take (n+1)).map (·.sec)) (r.stps.drop (n+1))):=by
       show _=_
       rw[HD.out,HDA.out,if_neg hin]
      clear z0 hin
      go_wp2_with fail
      exact⟨⟨n+1,by omega,by go_num,HB6.out.alloc _,(Keeps.setCell HKG.out (fun _=>rfl) _).alloc _,HD6.out⟩,by simp[intOf];omega⟩
    ·obtain rfl:n=r.stps.length:=by omega
     have E6:Hid (ou=if lnksOf L.lks (r.stps.drop 0)=none then 11 else 0):=by
      show _=_
      rw[E5.out,HD.out,List.drop_length,if_neg (by simp[dupS])]
      rfl
     obtain⟨wo2,hwo2⟩:∃wo:World,wo=wr:=⟨_,rfl⟩
     have p0:=DR.out.cell 0
     simp at p0
     rw[←hwo2]at KW D0 DR p0⊢
     clear hwo2 HD HB HKG HP F0 FR K3 HOK E5 E
     obtain⟨b0,o0,x0,hA,-,-,-,-⟩:=HR.out.at_ (k:=0) (by omega)
     subst hA
     go_wp2_with fail
     go_loopw [11,76] (fun l i wr=>∃(n:Nat) (lst:List Int),n+1≤r.stps.length∧i= .int .i64 (n:Int)∧lst.length=n∧OwnL 3 1 RInt wr wo2.heap.size wo2.heap.size l lst∧KeepsAll wo2 wr∧(lnksOf L.lks (r.stps.drop 0)=none↔lnksOf L.lks (r.stps.drop n)=none)) (fun _ i _=>r.stps.length-(intOf i).toNat)
     case atStart=>exact⟨0,[],by omega,rfl,rfl,OwnL.nil,Keeps.refl _ _,Iff.rfl⟩
     case round=>
      obtain⟨n,lst,hn,rfl,hll,ho,hk,hlk⟩:=hrel
      obtain⟨Al,cl,rfl,hcl1,hcl2⟩:=ho.form
      have HO:=Lib.hid ho
      have HK:=Lib.hid hk
      have HLK:=Lib.hid hlk
      have KW2:Hid (KeepsAll w wr):=KW.out.trA hk
      have G0:=Lib.hid (D0.out.kept hk (by simp))
      have GR:=Lib.hid (DR.out.kept hk (by simp))
      have hsz:=hk.size
      clear ho hk hlk
      by_cases hlt3:n+1<r.stps.length
      ·obtain⟨b1,o1,s1,hA1,hb1,hx1,m0,m1⟩:=HR.out.atO KW2.out (k:=n) (by omega)
       injection hA1 with hA1
       injection hA1 with hA1 hA2
       subst hA1 hA2
       obtain⟨b1,o1,s2,hA1,-,hx2,m2,m3⟩:=HR.out.atO KW2.out (k:=n+1) hlt3
       injection hA1 with hA1
       injection hA1 with hA1 hA2
       subst hA1 hA2
       rw[show o0+(n+1)*2=o0+1*2+n*2 by omega]at m2 m3
       have HLA:=Lib.hid (lnksOf_at L.lks r.stps n s1 s2 hx1 hx2)
       have hlt4:((n:Nat):Int)<(r.stps.length:Int)-1:=by omega
       have p0:=G0.out.cell 0
       have p1:=G0.out.cell 1
       have p2:=G0.out.cell 2
       have p3:=G0.out.cell 3
       have p4:=GR.out.cell 0
       simp at p0 p1 p2 p3 p4
       clear hx1 hx2
       go_upto_region 27 with fail
       generalize hW4:World.alloc wr _=W4
       have K4:Hid (KeepsAll wr W4):=by subst hW4;exact(Keeps.refl _ _).alloc _
       have BS2:Hid (Blk W4 wr.heap.size 200 #[.int .i64 s2.sec,.int .i64 s2.dir]):=by subst hW4;exact Blk.new _ _ _
       clear hW4
       have y0:=Ext.cell (K4.out.cellA G0.out.lt p0)
       have y1:=Ext.cell (K4.out.cellA G0.out.lt p1)
       have y2:=Ext.cell (K4.out.cellA G0.out.lt p2)
       have y3:=Ext.cell (K4.out.cellA G0.out.lt p3)
       have y4:=Ext.cell (K4.out.cellA GR.out.lt p4)
       have y5:=Ext.cell (K4.out.cellA hb1 m0)
       have y6:=Ext.cell (K4.out.cellA hb1 m1)
       have t0:=BS2.out.cell 0
       have t1:=BS2.out.cell 1
       simp at t0 t1
       have y7:=Ext.cell t0
       have y8:=Ext.cell t1
       have HXX:Hid (∀xx:Ext W4,Calls Tryz.prog 297 #[.agg #[.slice A1 L.sts.length ca1,.slice A2 L.pts.length ca2,.slice A3 L.secs.length ca3,.slice A4 L.lks.length ca4],.agg #[.int .i64 s1.sec,.int .i64 s1.dir],.agg #[.int .i64 s2.sec,.int .i64 s2.dir]] xx.val fun e w''=>e= .returned (.tuple #[.int .i64 (trnP L.lks s1 s2),.bool (lnkOf L.lks s1 s2).isSome])∧∃y:Ext W4,w''=y.val):=fun xx=>
        ext_call xx (HTR.out s1 s2 xx.val (HL.out.kept ((KW2.out.trA K4.out).trA xx.keeps)) hL2)
       clear m0 m1 m2 m3 p0 p1 p2 p3 p4 t0 t1
       generalize trnP L.lks s1 s2=pt at*
       refine wp_region_ext (by kernel_rfl) (by kernel_rfl) ?_
       repeat (go_big_quiet_step ((go_at_call 297;rename_i xx;with_reducible exact HXX.out xx)))
       refine wpQuiet_nil ?_
       rintro _ ⟨X,rfl⟩
       have KX:=X.keeps
       have K5:Hid (KeepsAll wr X.val):=K4.out.trA KX
       have hsz5:wo2.heap.size≤X.val.heap.size:=Nat.le_trans hsz K5.out.size
       generalize X.val=W5 at*
       clear KX y0 y1 y2 y3 y4 y5 y6 y7 y8 HXX BS2 K4
       cases hl:lnkOf L.lks s1 s2 with
       |none=>
        have E0:Hid (ou=11):=by
         show _=_
         rw[E6.out,if_pos]
         rw[HLK.out,HLA.out,hl]
        simp only[Option.isSome_none]
        go_wp2_with fail
        go_ret2
        exact⟨⟨_,by rw[HOU.out,E0.out];rfl⟩,KW2.out.trA K5.out⟩
       |some kk=>
        have HLN:Hid (lnksOf L.lks (r.stps.drop 0)=none↔lnksOf L.lks (r.stps.drop (n+1))=none):=by
         show _↔_
         rw[HLK.out,HLA.out,hl]
         simp
        simp only[Option.isSome_some]
        clear hl
        go_wp2_with(at_builtin;go_loud(have KB:KeepsAll wr (W5.alloc (.cells #[.int .i64 pt] 3)):=K5.out.alloc _;refine wpList_append_L tyInt RInt.ok rfl (.tmp 94) (.tmp 96) rfl (HO.out.keeps RInt.ok KB (fun _ _ h=>h.elim)) rfl _ [.int .i64 pt] rfl (Blk.new W5 3 #[.int .i64 pt]) rfl pt (S:=fun _=>False) rfl (fun _ h=>h.elim) (by simp[Value.oneCell']) (by omega) (by omega) (Nat.le_trans hsz5 (by simp)) ?_;intro v9 w9 HO9 HK9 HA9))
        exact⟨⟨n+1,lst++ [pt],by omega,by go_num,by simp[hll],HO9,((HK.out.trA K5.out).alloc _).trans HK9 (fun x hx e=>by have:=HO.out.lt e;omega),HLN.out⟩,by simp[intOf];omega⟩
      ·have hnl:n+1=r.stps.length:=by omega
       have E0:Hid (ou=0):=by
        show _=_
        rw[E6.out,if_neg]
        rw[HLK.out]
        have h1:r.stps.drop (n+1)=[]:=List.drop_of_length_le (by omega)
        have hd:r.stps.drop n=r.stps[n]'(by omega)::r.stps.drop (n+1):=(List.getElem_cons_drop (by omega)).symm
        rw[hd,h1]
        simp[lnksOf]
       go_wp2_with fail
       go_ret2
       exact⟨⟨_,by rw[HOU.out,E0.out];rfl⟩,KW2.out⟩
theorem routeCheck_any (L:Lay) (v:LV) (r:Rou) (A:Option Addr) (c:Nat) (w:World) (h:RLay w (Old w) v L) (hr:RStps w (Old w) [.slice A r.stps.length c] r.stps) (hlen:LayLen L):
  Calls Tryz.prog 110 #[.agg (v.cs L),.agg #[.slice A r.stps.length c,.int .i64 r.ov]] w fun e w'=>e= .returned (.int .i64 (rouErr L r))∧KeepsAll w w':=by
 have HP:=Lib.hid (fun W k1 k2=>points_any L v r A c W k1 k2 hlen)
 have HL:=Lib.hid h
 have HR:=Lib.hid hr
 clear h hr
 obtain⟨A1,A2,A3,A4,ca1,ca2,ca3,ca4⟩:=v
 unfold LV.cs at HP⊢
 simp only[]at HP⊢
 generalize rouErr L r=ou at*
 go_enter Tryz.func110,Tryz.ntmps110
 go_wp2_with fail
 generalize hW:World.alloc (World.alloc w _) _=W
 have K0:Hid (KeepsAll w W):=by subst hW;exact((Keeps.refl _ _).alloc _).alloc _
 clear hW
 refine(HP.out W (HL.out.kept K0.out) (K0.out.rdA (RSlice.ok RStp.ok) HR.out)).mono ?_
 rintro e W2 ⟨⟨vl,rfl⟩,k2⟩
 go_wp2_with fail
 go_ret
 exact⟨rfl,K0.out.trA k2⟩
end
section
open Go.RowKit
structure HopS where
 sec:Int
 dir:Int
 pt:Int
 ps:Int
 deriving DecidableEq,Inhabited
def hpC (h:HopS):Array Value:= #[.int .i64 h.sec,.int .i64 h.dir,.int .i64 h.pt,.int .i64 h.ps]
def RHp:Rd HopS:=fun _ _ cs h=>cs=(hpC h).toList
theorem RHp.ok:Rd.Ok RHp:=⟨fun h _ _=>h⟩
theorem RHp.flt:Rd.Flt RHp:=fun _ _ _ _ _ _ h=>h
abbrev RHps:=RSlice 4 RHp
theorem tyHp:ElemTy Tryz.prog 210 213 4 32:= .mk' Tryz.underlying210 (z:= .agg #[.int .i64 0,.int .i64 0,.int .i64 0,.int .i64 0]) (by kernel_rfl) rfl (by omega)
def farE (k:Lnk) (x:Int×Int):Int×Int:=if k.a=x.1∧k.ae=x.2 then(k.b,k.be)else if k.b=x.1∧k.be=x.2 then(k.a,k.ae)else(-1,0)
def hopK (x:Int×Int) (k:Lnk):Option HopS:=if 0≤(farE k x).1 then some ⟨(farE k x).1,if(farE k x).2=1 then 1 else 0,k.pt,k.ps⟩else none
def hopsL (ks:List Lnk) (x:Int×Int):List HopS:=ks.filterMap (hopK x)
theorem hopsL_at (ks:List Lnk) (x:Int×Int) (n:Nat) (k:Lnk) (h:ks[n]? =some k):hopsL (ks.take (n+1)) x=hopsL (ks.take n) x++(hopK x k).toList:=by
 unfold hopsL
 rw[List.take_add_one,h,Option.toList_some,List.filterMap_append]
 cases e:hopK x k<;>simp[e]
theorem hopsL_len (ks:List Lnk) (x:Int×Int):(hopsL ks x).length≤ks.length:=List.length_filterMap_le _ _
theorem twoWays (a1 b1 a2 b2:Int):(¬a1=b1)∨(a1=b1∧¬a2=b2)∨(a1=b1∧a2=b2):=by
 by_cases h1:a1=b1
 ·by_cases h2:a2=b2
  ·exact Or.inr (Or.inr ⟨h1,h2⟩)
  ·exact Or.inr (Or.inl ⟨h1,h2⟩)
 ·exact Or.inl h1
set_option maxRecDepth 100000 in
set_option maxHeartbeats 4000000 in
theorem hopsOf_any (L:Lay) (v:LV) (s:Stp) (w:World) (h:RLay w (Old w) v L) (hk:L.lks.length≤192) (hd:s.dir=0∨s.dir=1):
  Calls Tryz.prog 94 #[.agg (v.cs L),.agg (stpC s)] w fun e w'=>∃A c,e= .returned (.slice A (hopsL L.lks (outE s)).length c)∧KeepsAll w w'∧RHps w' (Fresh w w') [.slice A (hopsL L.lks (outE s)).length c] (hopsL L.lks (outE s)):=by
 have hc4:=h.lks.caps
 have HL:=Lib.hid h;clear h
 obtain⟨A1,A2,A3,A4,ca1,ca2,ca3,ca4⟩:=v
 simp only[]at hc4
 unfold LV.cs
 simp only[]
 obtain⟨x,hx⟩:∃x,x=outE s:=⟨_,rfl⟩
 have HX:Hid (x.1=s.sec∧x.2=if s.dir=0 then 1 else 0):=by show _∧_;rw[hx];exact⟨rfl,rfl⟩
 rw[←hx]
 clear hx
 obtain⟨s1,s2⟩:=s
 obtain⟨x1,x2⟩:=x
 simp only[]at HX hd
 unfold stpC
 simp only[]
 have HX1:=Lib.hid HX.out.1
 have HX2:=Lib.hid HX.out.2
 obtain rfl:x1=s1:=HX1.out
 clear HX HX1
 go_enter Tryz.func94,Tryz.ntmps94
 go_upto_if 16 with fail
 generalize hW:World.alloc (World.alloc (World.alloc w _) _) _=W
 have K0:Hid (KeepsAll w W):=by subst hW;exact(((Keeps.refl _ _).alloc _).alloc _).alloc _
 have B0:Hid (Blk W w.heap.size 27 #[.slice A1 L.sts.length ca1,.slice A2 L.pts.length ca2,.slice A3 L.secs.length ca3,.slice A4 L.lks.length ca4]):=by subst hW;exact((Blk.new _ _ _).alloc _).alloc _
 have BE:Hid (Blk W (w.heap.size+1+1) 308 #[.int .i64 x1,.int .i64 1]):=by subst hW;exact Blk.new' _ _ _ (by simp)
 clear hW
 have hNw:w.heap.size=w.heap.size:=rfl
 generalize hN:w.heap.size=N at*
 clear hNw
 go_cut []from 17 (fun wx=>Blk wx N 27 #[.slice A1 L.sts.length ca1,.slice A2 L.pts.length ca2,.slice A3 L.secs.length ca3,.slice A4 L.lks.length ca4]∧Blk wx (N+1+1) 308 #[.int .i64 x1,.int .i64 x2]∧KeepsAll w wx)
 case first=>
  have f1:=BE.out.frozen 1
  have e1:=BE.out.cell 1
  simp at e1
  have hze:=BE.out.lt
  rcases hd with rfl|rfl
  ·have hx2:x2=1:=by rw[HX2.out];simp
   subst hx2
   go_wp2_with fail
   go_meet
   exact⟨B0.out,BE.out,K0.out⟩
  ·have hx2:x2=0:=by rw[HX2.out];simp
   subst hx2
   go_wp2_with fail
   go_meet
   have kS:=Keeps.setCell (C:=fun x=>x=N+1+1) (p:=⟨N+1+1,1,none⟩) (Keeps.refl (fun x=>x=N+1+1) W) (fun _=>rfl) (.int .i64 0)
   exact⟨B0.out.kept kS (by omega),BE.out.set_ 1 _,K0.out.trans kS (fun b hb e=>by have e:b=N+1+1:=e;omega)⟩
 case rest=>
  obtain⟨hb0,hbe,hk0⟩:=hcut
  have C0:=Lib.hid hb0
  have CE:=Lib.hid hbe
  have KC:=Lib.hid hk0
  obtain⟨W5,hw5⟩:∃W5:World,W5=wc:=⟨_,rfl⟩
  rw[←hw5]at C0 CE KC⊢
  clear hw5 hb0 hbe hk0 B0 BE K0 HX2 hd
  have hsz:N≤W5.heap.size:=by rw[←hN];exact KC.out.size
  go_wp2_with fail
  go_loopw [6,7] (fun hv i wr=>∃n:Nat,n≤L.lks.length∧i= .int .i64 (n:Int)∧OwnL 213 4 RHp wr W5.heap.size W5.heap.size hv (hopsL (L.lks.take n) (x1,x2))∧KeepsAll W5 wr) (fun _ i _=>L.lks.length-(intOf i).toNat)
  case atStart=>exact⟨0,Nat.zero_le _,rfl,OwnL.nil,Keeps.refl _ _⟩
  case round=>
   obtain⟨n,hn,rfl,ho,hk⟩:=hrel
   obtain⟨Ah,ch,rfl,hh1,hh2⟩:=ho.form
   have HO:=Lib.hid ho
   have HK:=Lib.hid hk
   have KW:=Lib.hid (KC.out.trA hk)
   have D0:=Lib.hid (C0.out.kept hk (by simp))
   have DE:=Lib.hid (CE.out.kept hk (by simp))
   have hhl:(hopsL (L.lks.take n) (x1,x2)).length≤192:=Nat.le_trans (hopsL_len _ _) (by rw[List.length_take];omega)
   have q3:=D0.out.cell 3
   simp at q3
   have hsw:=hk.size
   have e0:=DE.out.cell 0
   have e1:=DE.out.cell 1
   simp at e0 e1
   have hze:=DE.out.lt
   have hzd:=D0.out.lt
   clear ho hk
   by_cases hlt:n<L.lks.length
   ·obtain⟨b,o,k,rfl,hb,hkx,m0,m1,m2,m3,m4,m5⟩:=HL.out.lks.atO KW.out hlt
    have HNX:=Lib.hid (hopsL_at L.lks (x1,x2) n k hkx)
    clear hkx
    generalize hopsL (L.lks.take n) (x1,x2)=hl at*
    obtain⟨ka,kae,kb,kbe,kpt,kps⟩:=k
    simp only[]at m0 m1 m2 m3 m4 m5
    go_upto_block 2 with fail
    generalize hW7:World.alloc (World.alloc wr _) _=W7
    have K7:Hid (KeepsAll wr W7):=by subst hW7;exact((Keeps.refl _ _).alloc _).alloc _
    have BK:Hid (Blk W7 wr.heap.size 196 #[.int .i64 ka,.int .i64 kae,.int .i64 kb,.int .i64 kbe,.int .i64 kpt,.int .i64 kps]):=by subst hW7;exact(Blk.new _ _ _).alloc _
    have BT:Hid (Blk W7 (wr.heap.size+1) 308 #[.int .i64 (-1),.int .i64 0]):=by subst hW7;exact Blk.new' _ _ _ (by simp)
    clear hW7 m0 m1 m2 m3 m4 m5 q3 e0 e1
    have FE:=Lib.hid (DE.out.kept K7.out (by simp))
    generalize hzk:wr.heap.size=zk at*
    have e0:=FE.out.cell 0
    have e1:=FE.out.cell 1
    have k0:=BK.out.cell 0
    have k1:=BK.out.cell 1
    have k2:=BK.out.cell 2
    have k3:=BK.out.cell 3
    have t0:=BT.out.cell 0
    have t1:=BT.out.cell 1
    simp at e0 e1 k0 k1 k2 k3 t0 t1
    have f0:=BT.out.frozen 0
    have f1:=BT.out.frozen 1
    have hzt:=BT.out.lt
    obtain⟨far,hfar⟩:∃far,far=farE ⟨ka,kae,kb,kbe,kpt,kps⟩ (x1,x2):=⟨_,rfl⟩
    have HFAR:=Lib.hid hfar
    clear hfar
    go_cut []from 32 to 66 (fun wx=>Blk wx (zk+1) 308 #[.int .i64 far.1,.int .i64 far.2]∧Keeps (fun x=>x=zk+1) W7 wx)
    case first=>
     have BF:Hid (Blk ((W7.setCell ⟨zk+1,0,none⟩ (.int .i64 far.1)).setCell ⟨zk+1,1,none⟩ (.int .i64 far.2)) (zk+1) 308 #[.int .i64 far.1,.int .i64 far.2]):=(BT.out.set_ 0 _).set_ 1 _
     have KF:Hid (Keeps (fun x=>x=zk+1) W7 ((W7.setCell ⟨zk+1,0,none⟩ (.int .i64 far.1)).setCell ⟨zk+1,1,none⟩ (.int .i64 far.2))):=Keeps.setCell (C:=fun x=>x=zk+1) (p:=⟨zk+1,1,none⟩) (Keeps.setCell (C:=fun x=>x=zk+1) (p:=⟨zk+1,0,none⟩) (Keeps.refl (fun x=>x=zk+1) W7) (fun _=>rfl) _) (fun _=>rfl) _
     have D2:=twoWays kb x1 kbe x2
     rcases twoWays ka x1 kae x2 with g1|⟨rfl,g1⟩|⟨rfl,rfl⟩
     ·rcases D2 with j1|⟨rfl,j1⟩|⟨rfl,rfl⟩
      ·have u1:=beq_eq_false_iff_ne.2 g1
       have u3:=beq_eq_false_iff_ne.2 j1
       have hf:far=(-1,0):=by rw[HFAR.out];unfold farE;simp[*]
       clear HFAR
       subst hf
       go_wp2_with fail
       go_meet
       exact⟨BT.out,Keeps.refl _ _⟩
      ·have u1:=beq_eq_false_iff_ne.2 g1
       have u3:=beq_eq_false_iff_ne.2 j1
       have hf:far=(-1,0):=by rw[HFAR.out];unfold farE;simp[*]
       clear HFAR
       subst hf
       go_wp2_with fail
       go_meet
       exact⟨BT.out,Keeps.refl _ _⟩
      ·have u1:=beq_eq_false_iff_ne.2 g1
       have hf:far=(ka,kae):=by rw[HFAR.out];unfold farE;simp[*]
       clear HFAR
       subst hf
       go_wp2_with fail
       go_meet
       exact⟨BF.out,KF.out⟩
     ·rcases D2 with j1|⟨rfl,j1⟩|⟨rfl,rfl⟩
      ·have u1:=beq_eq_false_iff_ne.2 g1
       have u3:=beq_eq_false_iff_ne.2 j1
       have hf:far=(-1,0):=by rw[HFAR.out];unfold farE;simp[*]
       clear HFAR
       subst hf
       go_wp2_with fail
       go_meet
       exact⟨BT.out,Keeps.refl _ _⟩
      ·have u1:=beq_eq_false_iff_ne.2 g1
       have u3:=beq_eq_false_iff_ne.2 j1
       have hf:far=(-1,0):=by rw[HFAR.out];unfold farE;simp[*]
       clear HFAR
       subst hf
       go_wp2_with fail
       go_meet
       exact⟨BT.out,Keeps.refl _ _⟩
      ·have u1:=beq_eq_false_iff_ne.2 g1
       have hf:far=(kb,kae):=by rw[HFAR.out];unfold farE;simp[*]
       clear HFAR
       subst hf
       go_wp2_with fail
       go_meet
       exact⟨BF.out,KF.out⟩
     ·clear D2
      have hf:far=(kb,kbe):=by rw[HFAR.out];unfold farE;simp[*]
      clear HFAR
      subst hf
      go_wp2_with fail
      go_meet
      exact⟨BF.out,KF.out⟩
    case rest=>
     obtain⟨hbt,hkt⟩:=hcut
     have GT:=Lib.hid hbt
     have KT:Hid (Keeps (fun x=>x=zk+1) wr wc):=(K7.out.mono (C:=fun x=>x=zk+1) (fun _ _ h=>h.elim)).trans hkt (fun _ _ h=>h)
     have GK:=Lib.hid (BK.out.kept hkt (by omega))
     have HO7:=Lib.hid (HO.out.keepsT RHp.flt KT.out (fun x hx e=>by have:=(HO.out.lt hx).2;have e:x=zk+1:=e;omega))
     have K57:Hid (KeepsAll W5 wc):=HK.out.trans KT.out (fun x hx e=>by have e:x=zk+1:=e;omega)
     have hzc:=hbt.lt
     clear hbt hkt BK BT HO K7 FE DE D0 e0 e1 k0 k1 k2 k3 t0 t1 f0 f1
     have HHK:Hid (hopK (x1,x2) ⟨ka,kae,kb,kbe,kpt,kps⟩=if 0≤far.1 then some ⟨far.1,if far.2=1 then 1 else 0,kpt,kps⟩else none):=by show _=_;unfold hopK;rw[←HFAR.out]
     clear HFAR
     obtain⟨fa,fe⟩:=far
     simp only[]at GT HHK
     have t0:=GT.out.cell 0
     have t1:=GT.out.cell 1
     have k4:=GK.out.cell 4
     have k5:=GK.out.cell 5
     simp at t0 t1 k4 k5
     have hzk1:zk<wc.heap.size:=GK.out.lt
     have hsz5:W5.heap.size≤wc.heap.size:=K57.out.size
     by_cases hfa:0≤fa
     ·have hfa1:decide (0≤fa)=true:=by simpa using hfa
      have HNY:Hid (hopsL (L.lks.take (n+1)) (x1,x2)=hl++ [⟨fa,if fe=1 then 1 else 0,kpt,kps⟩]):=by show _=_;rw[HNX.out,HHK.out,if_pos hfa];rfl
      clear HNX HHK
      have hFl:hl.length≤192:=hhl
      by_cases hfe:fe=1
      ·subst hfe
       rw[if_pos rfl]at HNY
       go_wp2_with(at_builtin;go_loud(have KB:KeepsAll wc (wc.alloc (.cells #[.int .i64 fa,.int .i64 1,.int .i64 kpt,.int .i64 kps] 213)):=(Keeps.refl _ _).alloc _;refine wpList_append_L tyHp RHp.ok rfl (.tmp 73) (.tmp 83) rfl (HO7.out.keepsT RHp.flt KB (by simp)) rfl _ [.int .i64 fa,.int .i64 1,.int .i64 kpt,.int .i64 kps] rfl (Blk.new wc 213 #[.int .i64 fa,.int .i64 1,.int .i64 kpt,.int .i64 kps]) rfl (⟨fa,1,kpt,kps⟩:HopS) (S:=fun _=>False) rfl (fun _ h=>h.elim) (by simp[Value.oneCell']) (by omega) (by omega) (by simp;omega) ?_;intro v8 w8 HO8 HK8 HA8))
       have K8:KeepsAll W5 w8:=(K57.out.alloc _).trans HK8 (fun x hx e=>by have:=(HO7.out.lt e).1;omega)
       exact⟨⟨n+1,by omega,by go_num,by rw[HNY.out];exact HO8,K8⟩,by simp[intOf];omega⟩
      ·rw[if_neg hfe]at HNY
       have hfe1:(fe==1)=false:=beq_eq_false_iff_ne.2 hfe
       go_wp2_with(at_builtin;go_loud(have KB:KeepsAll wc (wc.alloc (.cells #[.int .i64 fa,.int .i64 0,.int .i64 kpt,.int .i64 kps] 213)):=(Keeps.refl _ _).alloc _;refine wpList_append_L tyHp RHp.ok rfl (.tmp 73) (.tmp 83) rfl (HO7.out.keepsT RHp.flt KB (by simp)) rfl _ [.int .i64 fa,.int .i64 0,.int .i64 kpt,.int .i64 kps] rfl (Blk.new wc 213 #[.int .i64 fa,.int .i64 0,.int .i64 kpt,.int .i64 kps]) rfl (⟨fa,0,kpt,kps⟩:HopS) (S:=fun _=>False) rfl (fun _ h=>h.elim) (by simp[Value.oneCell']) (by omega) (by omega) (by simp;omega) ?_;intro v8 w8 HO8 HK8 HA8))
       have K8:KeepsAll W5 w8:=(K57.out.alloc _).trans HK8 (fun x hx e=>by have:=(HO7.out.lt e).1;omega)
       exact⟨⟨n+1,by omega,by go_num,by rw[HNY.out];exact HO8,K8⟩,by simp[intOf];omega⟩
     ·have hfa1:decide (0≤fa)=false:=by simpa using hfa
      have HNY:Hid (hopsL (L.lks.take (n+1)) (x1,x2)=hl):=by show _=_;rw[HNX.out,HHK.out,if_neg hfa];simp
      clear HNX HHK
      go_wp2_with fail
      exact⟨⟨n+1,by omega,by go_num,by rw[HNY.out];exact HO7.out,K57.out⟩,by simp[intOf];omega⟩
   ·obtain rfl:n=L.lks.length:=by omega
    have HF:Hid (OwnL 213 4 RHp wr W5.heap.size W5.heap.size (.slice Ah (hopsL (L.lks.take L.lks.length) (x1,x2)).length ch) (hopsL L.lks (x1,x2))):=by
     have:=HO.out
     rw[List.take_length]at this⊢
     exact this
    go_wp2_with fail
    go_ret
    rw[List.take_length]at HF⊢
    exact⟨Ah,ch,rfl,KW.out,HF.out.readT RHp.flt (S:=Fresh w wr) (fun b hb=>⟨by have:=(HF.out.lt hb).1;omega,(HF.out.lt hb).2⟩)⟩
end
section
open Go.RowKit
end
section
open Go.RowKit
end
section
open Go.RowKit
end
section
open Go.RowKit
end
section
open Go.RowKit
end
section
open Go.RowKit
end
section
open Go.RowKit
end
section
open Go.RowKit
end
section
open Go.RowKit
end
section
open Go.RowKit
theorem RSlice.form {α:Type} {size:Nat} {E:Rd α} {w:World} {S:Foot} {v:Value} {l:List α} (h:RSlice size E w S [v] l):∃A c,v= .slice A l.length c:=by
 obtain⟨A,c,he,_⟩:=h;injection he with he _;exact⟨A,c,he⟩
end
section
open Go.RowKit
end
section
open Go.RowKit
end
section
open Go.RowKit
end
section
open Go.RowKit
end
section
open Go.RowKit
theorem list_choose {α:Type} {P:Nat→α→Prop}:∀n:Nat,(∀j,j<n→∃x,P j x)→∃l:List α,l.length=n∧∀(j:Nat) x,l[j]? =some x→P j x
 |0,_=>⟨[],rfl,fun j x h=>by simp at h⟩
 |n+1,h=>by
  obtain⟨l,hl,h1⟩:=list_choose (P:=P) n (fun j hj=>h j (by omega))
  obtain⟨x,hx⟩:=h n (by omega)
  refine⟨l++ [x],by simp[hl],fun j y hy=> ?_⟩
  rcases Nat.lt_or_ge j n with hj|hj
  ·rw[List.getElem?_append_left (by omega)]at hy;exact h1 j y hy
  ·rw[List.getElem?_append_right (by omega)]at hy
   have hj0:j=n:=by have:=getElem?_lt hy;simp at this;omega
   subst hj0
   rw[hl,Nat.sub_self]at hy;simp at hy;subst hy;exact hx
end
section
open Go.RowKit
theorem OwnL.setI {t:Nat} {w:World} {base lo:Nat} {g n c:Nat} {l:List Int} (h:OwnL t 1 RInt w base lo (.slice (some ⟨g,0,none⟩) n c) l) (i:Nat) (x:Int):OwnL t 1 RInt (w.setCell ⟨g,i,none⟩ (.int .i64 x)) base lo (.slice (some ⟨g,0,none⟩) n c) (l.set i x):=by
 obtain⟨ess,h1,h2,h3⟩:=h
 have hess:ess=l.map fun y=> [Value.int .i64 y]:=by
  apply List.ext_getElem?
  intro j
  rw[List.getElem?_map]
  cases e:l[j]? with
  |none=>
   have:ess[j]? =none:=List.getElem?_eq_none (by have:=List.getElem?_eq_none_iff.1 e;omega)
   rw[this];rfl
  |some y=>
   obtain⟨es,e1,_,e3⟩:=h3 j y e
   rw[e1];cases e3;rfl
 subst hess
 refine⟨(l.set i x).map fun y=> [Value.int .i64 y],by simp,?_,fun j y hy=>⟨[.int .i64 y],by rw[List.getElem?_map,hy];rfl,rfl,rfl⟩⟩
 have hfl:∀m:List Int,(m.map fun y=> [Value.int .i64 y]).flatten=m.map (Value.int .i64):=by
  intro m
  induction m with
  |nil=>rfl
  |cons a m ih=>simp only[List.map_cons,List.flatten_cons,List.singleton_append];rw[ih]
 rw[hfl]at h2⊢
 rcases h2.2 with⟨e,_⟩|⟨g',cap,cur,e,hb,hh,hnc,hcm,hcs,htk⟩
 ·cases e
 ·injection e with e1 e2 e3
  injection e1 with e1;injection e1 with e1
  subst e1
  refine⟨by simp,.inr ⟨g,cap,cur.setIfInBounds i (.int .i64 x),by rw[e2,e3,List.length_set],hb,?_,by rw[List.length_set];exact hnc,hcm,by simpa using hcs,?_⟩⟩
  ·have hB:Blk w g t cur:=hh
   exact hB.set_ i _
  ·rw[Array.toList_setIfInBounds,List.map_set,←htk,List.length_set]
   rw[List.take_set]
theorem OwnL.frz {α:Type} {t size:Nat} {E:Rd α} {w:World} {base lo:Nat} {g o n c:Nat} {l:List α} (h:OwnL t size E w base lo (.slice (some ⟨g,o,none⟩) n c) l) (i:Nat):w.frozen? ⟨g,i,none⟩=false:=by
 obtain⟨ess,h1,h2,h3⟩:=h
 rcases h2.2 with⟨e,_⟩|⟨g',cap,cur,e,hb,hh,_⟩
 ·cases e
 ·injection e with e1;injection e1 with e1;injection e1 with e1;subst e1
  exact Blk.frozen (t:=t) (cs:=cur) hh i
theorem OwnL.some_ {α:Type} {t size:Nat} {E:Rd α} {w:World} {base lo:Nat} {A:Option Addr} {n c:Nat} {l:List α} (h:OwnL t size E w base lo (.slice A n c) l) (hl:0<l.length):∃g,A=some ⟨g,0,none⟩∧base≤g:=by
 obtain⟨ess,h1,h2,h3⟩:=h
 rcases h2.2 with⟨_,hn⟩|⟨g',cap,cur,e,hb,_⟩
 ·omega
 ·injection e with e1;exact⟨g',e1,hb⟩
end
section
open Go.RowKit
end
section
open Go.RowKit
end
section
open Go.RowKit
end
section
open Go.RowKit
theorem maskN' (a:Nat) (ha:a<4294967296):bits .and .u64 (a:Int) 4294967295=(a:Int):=by
 have h:=bits_and_u64_nat a 4294967295 (by omega) (by omega)
 have e:a&&&4294967295=a%4294967296:=Nat.and_two_pow_sub_one_eq_mod a 32
 rw[e,Nat.mod_eq_of_lt ha]at h
 exact h
theorem wrapU (a:Nat) (ha:a<4294967296):IntKind.u64.wrap (a:Int)=(a:Int):=by rw[IntKind.wrap_u64];omega
set_option maxHeartbeats 1000000 in
theorem Mul64_one (n:Nat) (hn:n≤1000) (w:World):
  Calls Tryz.prog 465 #[.int .u64 1,.int .u64 (n:Int)] w fun e w'=>e= .returned (.tuple #[.int .u64 0,.int .u64 (n:Int)])∧w=w':=by
 have h1:bits .and .u64 1 4294967295=1:=maskN' 1 (by omega)
 have h0:bits .and .u64 0 4294967295=0:=maskN' 0 (by omega)
 have hN:bits .and .u64 (n:Int) 4294967295=(n:Int):=maskN' n (by omega)
 have hw:=wrapU n (by omega)
 have hd:(n:Int)/4294967296=0:=by omega
 go_enter Tryz.func465,Tryz.ntmps465
 go_wp2
 go_ret2
 exact⟨rfl,rfl⟩
set_option maxHeartbeats 1000000 in
theorem Mul_one (n:Nat) (hn:n≤1000) (w:World):
  Calls Tryz.prog 422 #[.int .u64 1,.int .u64 (n:Int)] w fun e w'=>e= .returned (.tuple #[.int .u64 0,.int .u64 (n:Int)])∧w=w':=by
 have HM:=Lib.hid (Mul64_one n hn w)
 go_enter Tryz.func422,Tryz.ntmps422
 go_wp2_with(go_at_call 465;refine HM.out.mono ?_;rintro e w' ⟨rfl,rfl⟩)
 go_ret2
 exact⟨rfl,rfl⟩
theorem Keeps.setRow (w:World) (g:Nat) (arr:Array Value):Keeps (fun b=>b=g) w (w.setRow g arr):=by
 refine⟨rfl,rfl,rfl,by simp[World.setRow],fun k _ hn=> ?_⟩
 unfold World.setRow
 simp only[Array.getElem?_modify]
 rw[if_neg (fun e=>hn e.symm)]
theorem Blk.setRow {w:World} {g:Nat} {t:TypeId} {cs:Array Value} (h:Blk w g t cs) (arr:Array Value):Blk (w.setRow g arr) g t arr:=setRow_heap w g cs arr t (0,0) h
theorem Blk.drew_ {w:World} {g:Nat} {t:TypeId} {cs:Array Value} (h:Blk w g t cs):Blk w.drew g t cs:=h
end
end Go.Proofs.YtcbcegdidlefiaaGreat
