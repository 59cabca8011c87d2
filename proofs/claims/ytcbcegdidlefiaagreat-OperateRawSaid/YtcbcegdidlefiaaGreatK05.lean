/- Contract of layout.Check (program). Conditions: as the theorem says. Contracts of the steps of a route (program): Reverse, leaving, isStep. Conditions: as each theorem says. Running times: speeds and times of a run through cells, as plain functions of the boundary. No program in sight. A run of a stock over a route: cells, fit, passing times and profiles, as plain functions of the pieces (the travelled sections in the direction of travel). No program in sight. Routes without an error: what holds of them and of their parts. No program in sight. -/
import Derived.Test.YtcbcegdidlefiaaGreatK04
import Derived.Test.YtcbcegdidlefiaaGreatK02
import Derived.Test.YtcbcegdidlefiaaGreatK03
namespace Go.Proofs.YtcbcegdidlefiaaGreat
section
open Go.RowKit
structure LayLen (L:Lay):Prop where
 sts:∀n∈L.sts,n.length≤9223372036854775807
 pts:∀n∈L.pts,n.length≤9223372036854775807
 secs:∀s∈L.secs,s.name.length≤9223372036854775807
def nmL (L:Lay) (t:Nat):List Bs:=if t=0 then L.sts else L.pts
def layRest (L:Lay) (t:Nat):Int:=
 if t=0∧namesErr [] L.sts≠0 then namesErr [] L.sts
 else if t≤1∧namesErr [] L.pts≠0 then namesErr [] L.pts
 else if secsErr L.sts.length [] L.secs≠0 then secsErr L.sts.length [] L.secs
 else lnksErr L [] L.lks
theorem layErr_rest (L:Lay) (h:¬(24<L.sts.length∨48<L.pts.length∨96<L.secs.length∨192<L.lks.length)) (h2:L.secs≠ []):layErr L=layRest L 0:=by
 unfold layErr layRest
 rw[if_neg h,if_neg h2]
 simp
theorem layRest_step (L:Lay) {t:Nat} (h:t<2):layRest L t=if namesErr [] (nmL L t)≠0 then namesErr [] (nmL L t)else layRest L (t+1):=by
 obtain rfl|rfl:t=0∨t=1:=by omega
 ·unfold layRest nmL
  by_cases h1:namesErr [] L.sts≠0
  ·simp[h1]
  ·simp[h1]
 ·unfold layRest nmL
  by_cases h1:namesErr [] L.pts≠0
  ·simp[h1]
  ·simp[h1]
theorem RStrs.atO {w wr:World} {A:Option Addr} {n c:Nat} {l:List Bs} (K:KeepsAll w wr) (h:RStrs w (Old w) [.slice A n c] l) {k:Nat} (hk:k<l.length):
  ∃b o x,A=some ⟨b,o,none⟩∧b<wr.heap.size∧l[k]? =some x∧wr.cell? ⟨b,o+k,none⟩=some (.string (mkS x)):=by
 obtain⟨b,o,x,e,hb,hs,c0⟩:=h.at_ hk
 exact⟨b,o,x,e,Nat.lt_of_lt_of_le hb K.size,hs,K.cellA hb c0⟩
theorem RSecs.atO {w wr:World} {A:Option Addr} {n c:Nat} {l:List Sec} (K:KeepsAll w wr) (h:RSecs w (Old w) [.slice A n c] l) {k:Nat} (hk:k<l.length):
  ∃b o s,A=some ⟨b,o,none⟩∧b<wr.heap.size∧l[k]? =some s∧wr.cell? ⟨b,o+k*5,none⟩=some (.string (mkS s.name))∧wr.cell? ⟨b,o+k*5+1,none⟩=some (.int .i64 s.len)∧wr.cell? ⟨b,o+k*5+2,none⟩=some (.int .i64 s.lim)∧
   wr.cell? ⟨b,o+k*5+3,none⟩=some (.int .i64 s.grd)∧wr.cell? ⟨b,o+k*5+4,none⟩=some (.int .i64 s.sta):=by
 obtain⟨b,o,s,e,hb,hs,c0,c1,c2,c3,c4⟩:=h.at_ hk
 exact⟨b,o,s,e,Nat.lt_of_lt_of_le hb K.size,hs,K.cellA hb c0,K.cellA hb c1,K.cellA hb c2,K.cellA hb c3,K.cellA hb c4⟩
theorem SeenM.new (w:World):SeenM (w.alloc (.map #[] 0)) w.heap.size []:=⟨by
 have e:(fun k=>if k∈([]:List Bs).map mkS then some (Value.bool true)else none)=fun _=>none:=by funext k;simp
 show MapS _ _ [] _
 rw[e]
 exact MapS.new w⟩
theorem nmL_index (L:Lay) (A1 A2:Option Addr) (c1 c2:Nat) {t:Nat} (ht:t<2):∃A c,((t=0→A=A1∧c=c1)∧(t=1→A=A2∧c=c2))∧∀W:World,(Instr.index 327 (.agg #[.slice A1 L.sts.length c1,.slice A2 L.pts.length c2]) (.int .i64 (t:Int))).run Tryz.prog W= .ok (.slice A (nmL L t).length c) W:=by
 obtain rfl|rfl:t=0∨t=1:=by omega
 ·exact⟨A1,c1,⟨fun _=>⟨rfl,rfl⟩,fun h=>by omega⟩,fun W=>by kernel_rfl⟩
 ·exact⟨A2,c2,⟨fun h=>by omega,fun _=>⟨rfl,rfl⟩⟩,fun W=>by kernel_rfl⟩
set_option maxRecDepth 100000 in
set_option maxHeartbeats 4000000 in
theorem layCheck_any (L:Lay) (v:LV) (w:World) (h:RLay w (Old w) v L) (hlen:LayLen L):
  Calls Tryz.prog 108 #[.agg (v.cs L)] w fun e w'=>e= .returned (.int .i64 (layErr L))∧KeepsAll w w':=by
 have hc1:=h.sts.caps
 have hc2:=h.pts.caps
 have hc3:=h.secs.caps
 have hc4:=h.lks.caps
 have HL:=Lib.hid h;clear h
 have HN:=Lib.hid hlen;clear hlen
 have hmm:= @run_makeMap Tryz.prog
 obtain⟨A1,A2,A3,A4,u1,u2,u3,u4⟩:=v
 simp only[]at hc1 hc2 hc3 hc4
 unfold LV.cs
 simp only[]
 by_cases g1:24<L.sts.length∨48<L.pts.length∨96<L.secs.length∨192<L.lks.length
 ·have E:layErr L=7:=by unfold layErr;rw[if_pos g1]
  rw[E]
  go_enter Tryz.func108,Tryz.ntmps108
  go_wp2_with fail
  all_goals first|(go_ret;exact⟨rfl,(Keeps.refl _ _).alloc _⟩)|(exfalso;omega)
 by_cases g2:L.secs.length=0
 ·have E:layErr L=1:=by unfold layErr;rw[if_neg g1,if_pos (List.eq_nil_of_length_eq_zero g2)]
  rw[E]
  have g3:L.sts.length≤24∧L.pts.length≤48∧L.lks.length≤192:=by omega
  obtain⟨g31,g32,g33⟩:=g3
  go_enter Tryz.func108,Tryz.ntmps108
  go_wp2_with fail
  all_goals first|(go_ret;exact⟨rfl,(Keeps.refl _ _).alloc _⟩)|(exfalso;omega)
 have E:Hid (layErr L=layRest L 0):=layErr_rest L g1 (fun e=>g2 (by rw[e];rfl))
 have g3:L.sts.length≤24∧L.pts.length≤48∧L.secs.length≤96∧L.lks.length≤192:=by omega
 obtain⟨g31,g32,g33,g34⟩:=g3
 rw[E.out]
 clear g1
 go_enter Tryz.func108,Tryz.ntmps108
 go_wp2_with fail
 generalize hW:World.alloc w _=W
 have K0:Hid (KeepsAll w W):=by subst hW;exact(Keeps.refl _ _).alloc _
 have HB:Hid (Blk W w.heap.size 27 #[.slice A1 L.sts.length u1,.slice A2 L.pts.length u2,.slice A3 L.secs.length u3,.slice A4 L.lks.length u4]):=by subst hW;exact Blk.new _ _ _
 clear hW
 generalize w.heap.size=q at HB⊢
 have hz0:((L.secs.length:Int)==0)=false:=beq_false_of_ne (by omega)
 rw[hz0]
 go_loopw [2,40] (fun r i wr=>∃t:Nat,t≤2∧i= .int .i64 (t:Int)∧r= .int .i64 0∧layRest L 0=layRest L t∧KeepsAll W wr) (fun _ i _=>2-(intOf i).toNat)
 case atStart=>exact⟨0,by omega,rfl,rfl,rfl,Keeps.refl _ _⟩
 case round=>
  obtain⟨t,ht,rfl,rfl,herr,hk⟩:=hrel
  have HE:=Lib.hid herr
  have HK:=Lib.hid hk
  clear herr hk
  by_cases hlt:t<2
  ·obtain⟨A,c,hAc,hix⟩:=nmL_index L A1 A2 u1 u2 hlt
   have HR:Hid (RStrs w (Old w) [.slice A (nmL L t).length c] (nmL L t)∧∀n∈nmL L t,n.length≤9223372036854775807):=by
    obtain rfl|rfl:t=0∨t=1:=by omega
    ·obtain⟨rfl,rfl⟩:=hAc.1 rfl;exact⟨HL.out.sts,HN.out.sts⟩
    ·obtain⟨rfl,rfl⟩:=hAc.2 rfl;exact⟨HL.out.pts,HN.out.pts⟩
   have HST:=Lib.hid (layRest_step L hlt)
   have hcl:=HR.out.1.caps
   have hd2:decide ((t:Int)<2)=true:=by simp;omega
   clear hAc
   generalize nmL L t=l at*
   go_wp2_with fail
   generalize hW1:World.alloc wr _=W1
   have K1:Hid (KeepsAll wr W1):=by subst hW1;exact(Keeps.refl _ _).alloc _
   have HS:Hid (SeenM W1 wr.heap.size (l.take 0)):=by subst hW1;exact SeenM.new _
   have hr0:wr.heap.size=wr.heap.size:=rfl
   clear hW1 hix
   obtain⟨wo,hwo⟩:∃wo:World,wo=wr:=⟨_,rfl⟩
   rw[←hwo]at K1 HS HK⊢
   clear hwo hr0
   go_loopw [2,46] (fun r i wr=>∃k:Nat,k≤l.length∧i= .int .i64 (k:Int)∧r= .int .i64 0∧SeenM wr wo.heap.size (l.take k)∧Keeps (·=wo.heap.size) W1 wr∧namesErr [] l=namesErr (l.take k) (l.drop k)) (fun _ i _=>l.length-(intOf i).toNat)
   case atStart=>exact⟨0,by omega,rfl,rfl,HS.out,Keeps.refl _ _,rfl⟩
   case round=>
    obtain⟨k,hk,rfl,rfl,hs,hks,hne⟩:=hrel
    have HS2:=Lib.hid hs
    have HKS:=Lib.hid hks
    have HNE:=Lib.hid hne
    have KWW:Hid (KeepsAll w wr):=((K0.out.trA HK.out).trA K1.out).trans HKS.out (fun x hx e=>by
     have:=K0.out.size;have:=HK.out.size;omega)
    clear hs hks hne HS
    by_cases hlt2:k<l.length
    ·obtain⟨b,o,x,rfl,hb,hx,m0⟩:=HR.out.1.atO KWW.out hlt2
     have hxl:=HR.out.2 x (List.mem_of_getElem? hx)
     have HNA:=Lib.hid (namesErr_at l k x hx)
     have HT:Hid (l.take k++ [x]=l.take (k+1)):=by show _=_;rw[List.take_add_one,hx];rfl
     clear hx
     by_cases gz:nameErr (l.take k) x=0
     ·have GZ:=Lib.hid gz
      go_wp2_with(go_at_call 189;refine(checkName_any x (l.take k) _ _ hxl HS2.out).mono ?_;rw[GZ.out];rintro e w' ⟨rfl,kk,hs3⟩)
      have HS3:=Lib.hid (hs3 trivial)
      go_roundw
      case rel=>exact⟨k+1,by omega,by go_num,rfl,by rw[←HT.out];exact HS3.out,HKS.out.trans kk (fun _ _ h=>h),by rw[HNE.out,HNA.out,GZ.out];rfl⟩
      case measure=>simp[intOf];omega
     ·have E2:Hid (layRest L 0=nameErr (l.take k) x):=by
       show _=_
       rw[HE.out,HST.out]
       have:namesErr [] l=nameErr (l.take k) x:=by rw[HNE.out,HNA.out,if_pos gz]
       rw[this,if_pos gz]
      generalize hz:nameErr (l.take k) x=z at*
      have hz':(z !=0)=true:=by simpa using gz
      clear HNA
      go_wp2_with(go_at_call 189;refine(checkName_any x (l.take k) _ _ hxl HS2.out).mono ?_;rw[hz];rintro e w' ⟨rfl,kk,-⟩)
      go_ret
      exact⟨by rw[E2.out];rfl,KWW.out.trans kk (fun x hx e=>by have:=K0.out.size;have:=HK.out.size;omega)⟩
    ·obtain rfl:k=l.length:=by omega
     have hn0:namesErr [] l=0:=by rw[HNE.out,List.drop_length];rfl
     have E3:Hid (layRest L 0=layRest L (t+1)):=by
      show _=_
      rw[HE.out,HST.out,if_neg (by simp[hn0])]
     have K9:Hid (KeepsAll W wr):=(HK.out.trA K1.out).trans HKS.out (fun x hx e=>by have:=HK.out.size;omega)
     clear hn0
     go_wp2_with fail
     go_roundw
     case rel=>exact⟨t+1,by omega,by go_num,rfl,E3.out,K9.out⟩
     case measure=>simp[intOf];omega
  ·obtain rfl:t=2:=by omega
   rw[show((2:Nat):Int)=2 from rfl]
   have HB2:=Lib.hid (HB.out.kept HK.out (by simp))
   have q0:=HB2.out.cell 0
   have q1:=HB2.out.cell 1
   have q2:=HB2.out.cell 2
   have q3:=HB2.out.cell 3
   simp at q0 q1 q2 q3
   have hq:=HB2.out.lt
   have KW:=Lib.hid (K0.out.trA HK.out)
   go_wp2_with fail
   generalize hW2:World.alloc wr _=W2
   have K2:Hid (KeepsAll wr W2):=by subst hW2;exact(Keeps.refl _ _).alloc _
   have HS:Hid (SeenM W2 wr.heap.size ((L.secs.take 0).map (·.name))):=by subst hW2;exact SeenM.new _
   clear hW2 q0 q1 q2 q3
   obtain⟨wo,hwo⟩:∃wo:World,wo=wr:=⟨_,rfl⟩
   rw[←hwo]at K2 HS HK KW HB2⊢
   clear hwo hq
   go_loopw [2,62] (fun r i wr=>∃k:Nat,k≤L.secs.length∧i= .int .i64 (k:Int)∧r= .int .i64 0∧SeenM wr wo.heap.size ((L.secs.take k).map (·.name))∧Keeps (·=wo.heap.size) W2 wr∧secsErr L.sts.length [] L.secs=secsErr L.sts.length ((L.secs.take k).map (·.name)) (L.secs.drop k)) (fun _ i _=>L.secs.length-(intOf i).toNat)
   case atStart=>exact⟨0,by omega,rfl,rfl,HS.out,Keeps.refl _ _,rfl⟩
   case round=>
    obtain⟨k,hk,rfl,rfl,hs,hks,hne⟩:=hrel
    have HS2:=Lib.hid hs
    have HNE:=Lib.hid hne
    have KWW:Hid (Keeps (·=wo.heap.size) wo wr):=(K2.out.mono (C:=(·=wo.heap.size)) (fun _ _ h=>h.elim)).trans hks (fun _ _ h=>h)
    have KWA:Hid (KeepsAll w wr):=KW.out.trans KWW.out (fun x hx e=>by have:=KW.out.size;omega)
    have HB3:=Lib.hid (HB2.out.kept KWW.out (fun e=>by have:=HB2.out.lt;omega))
    have HKS:=Lib.hid hks
    have q0:=HB3.out.cell 0
    have q1:=HB3.out.cell 1
    have q2:=HB3.out.cell 2
    have q3:=HB3.out.cell 3
    simp at q0 q1 q2 q3
    have hq:=HB3.out.lt
    clear hs hks hne HS
    by_cases hlt2:k<L.secs.length
    ·obtain⟨b,o,x,rfl,hb,hx,m0,m1,m2,m3,m4⟩:=HL.out.secs.atO KWA.out hlt2
     have hxl:=HN.out.secs x (List.mem_of_getElem? hx)
     have HNA:=Lib.hid (secsErr_at L.sts.length L.secs k x hx)
     have HT:Hid ((L.secs.take k).map (·.name)++ [x.name]=(L.secs.take (k+1)).map (·.name)):=by show _=_;rw[List.take_add_one,hx];simp
     clear hx
     go_wp2_with fail
     clear m0 m1 m2 m3 m4
     generalize hW3:World.alloc wr _=W3
     have K3:Hid (KeepsAll wr W3):=by subst hW3;exact(Keeps.refl _ _).alloc _
     have HX3:Hid (Blk W3 wr.heap.size 185 (secC x)):=by subst hW3;exact Blk.new _ _ _
     clear hW3
     have HS3:=Lib.hid (HS2.out.kept K3.out (by simp))
     have hwo:wo.heap.size<wr.heap.size:=HS2.out.m.lt
     refine(checkName_any x.name ((L.secs.take k).map (·.name)) _ _ hxl HS3.out).mono ?_
     by_cases gz:nameErr ((L.secs.take k).map (·.name)) x.name=0
     ·have GZ:=Lib.hid gz
      rw[gz]
      rintro e w4 ⟨rfl,k4,hs4⟩
      have HS4:=Lib.hid (hs4 rfl)
      have K4:Hid (Keeps (·=wo.heap.size) wr w4):=(K3.out.mono (C:=(·=wo.heap.size)) (fun _ _ h=>h.elim)).trans k4 (fun _ _ h=>h)
      have HX4:=Lib.hid (HX3.out.kept k4 (fun e=>by omega))
      have HB4:=Lib.hid (HB3.out.kept K4.out (fun e=>by have:=HB2.out.lt;omega))
      have q0:=HB4.out.cell 0
      have q1:=HB4.out.cell 1
      have q2:=HB4.out.cell 2
      have q3:=HB4.out.cell 3
      simp at q0 q1 q2 q3
      have z0:=(HX4.out.cell 0).trans (by rfl:_=some (.string (mkS x.name)))
      have z1:=(HX4.out.cell 1).trans (by rfl:_=some (.int .i64 x.len))
      have z2:=(HX4.out.cell 2).trans (by rfl:_=some (.int .i64 x.lim))
      have z3:=(HX4.out.cell 3).trans (by rfl:_=some (.int .i64 x.grd))
      have z4:=(HX4.out.cell 4).trans (by rfl:_=some (.int .i64 x.sta))
      have hq4:=HB4.out.lt
      have hz4:=HX4.out.lt
      clear k4 hs4 gz
      go_wp2_with fail
      refine(secIn_any L ⟨A1,A2,_,A4,u1,u2,u3,_⟩ x _).mono ?_
      cases gs:secOk L.sts.length x with
      |false=>
       have E2:Hid (layRest L 0=4):=by
        show _=_
        rw[HE.out]
        have:secsErr L.sts.length [] L.secs=4:=by rw[HNE.out,HNA.out,if_neg (fun h=>h GZ.out),if_pos gs]
        simp[layRest,this]
       rintro e w5 ⟨rfl,k5⟩
       go_wp2_with fail
       go_ret
       exact⟨by rw[E2.out];rfl,(KW.out.trans (KWW.out.trans K4.out (fun _ _ h=>h)) (fun x hx e=>by have:=KW.out.size;omega)).trA k5⟩
      |true=>
       rintro e w5 ⟨rfl,k5⟩
       have K5:=Lib.hid k5
       go_wp2_with fail
       go_roundw
       case rel=>exact⟨k+1,by omega,by go_num,rfl,by rw[←HT.out];exact HS4.out.kept K5.out (by simp),(HKS.out.trans (K4.out.trans K5.out (fun _ _ h=>h.elim)) (fun _ _ h=>h)),by rw[HNE.out,HNA.out,if_neg (fun h=>h GZ.out),if_neg (by rw[gs];simp)]⟩
       case measure=>simp[intOf];omega
     ·have E2:Hid (layRest L 0=nameErr ((L.secs.take k).map (·.name)) x.name):=by
       show _=_
       rw[HE.out]
       have:secsErr L.sts.length [] L.secs=nameErr ((L.secs.take k).map (·.name)) x.name:=by rw[HNE.out,HNA.out,if_pos gz]
       unfold layRest
       rw[if_neg (by simp),if_neg (by simp),this,if_pos gz]
      generalize hz:nameErr ((L.secs.take k).map (·.name)) x.name=z at*
      have hz':(z !=0)=true:=by simpa using gz
      clear HNA
      rintro e w4 ⟨rfl,k4,-⟩
      go_wp2_with fail
      go_ret
      exact⟨by rw[E2.out];rfl,(KWA.out.trA K3.out).trans k4 (fun x hx e=>by have:=KW.out.size;omega)⟩
    ·obtain rfl:k=L.secs.length:=by omega
     have hn0:secsErr L.sts.length [] L.secs=0:=by rw[HNE.out,List.drop_length];rfl
     have E3:Hid (layRest L 0=lnksErr L [] L.lks):=by
      show _=_
      rw[HE.out]
      simp[layRest,hn0]
     clear hn0
     go_wp2_with fail
     refine(checkLinks_any L ⟨A1,A2,A3,A4,u1,u2,u3,_⟩ _ ⟨KWA.out.rdA RStrs.ok HL.out.sts,KWA.out.rdA RStrs.ok HL.out.pts,KWA.out.rdA (RSlice.ok RSec.ok) HL.out.secs,KWA.out.rdA (RSlice.ok RLnk.ok) HL.out.lks⟩ g33 g34).mono ?_
     rintro e w9 ⟨rfl,k9⟩
     go_wp2_with fail
     go_ret
     exact⟨by rw[E3.out];rfl,KWA.out.trA k9⟩
end
section
open Go.RowKit
def stpC (s:Stp):Array Value:= #[.int .i64 s.sec,.int .i64 s.dir]
theorem reverse_any (s:Stp) (w:World):Calls Tryz.prog 396 #[.agg (stpC s)] w fun e w'=>e= .returned (.agg (stpC ⟨s.sec,if s.dir=0 then 1 else 0⟩))∧KeepsAll w w':=by
 obtain⟨a,d⟩:=s
 unfold stpC
 simp only[]
 by_cases g:d=0
 ·subst g
  go_enter Tryz.func396,Tryz.ntmps396
  go_wp2
  refine bodyPost_ret (v:= .agg #[.int .i64 a,.int .i64 1]) (by simp[results,Tryz.results396,go_sem]) rfl ⟨by simp,?_⟩
  repeat first|exact Keeps.refl _ _|refine Keeps.alloc ?_ _
 ·go_enter Tryz.func396,Tryz.ntmps396
  go_wp2
  refine bodyPost_ret (v:= .agg #[.int .i64 a,.int .i64 0]) (by simp[results,Tryz.results396,go_sem]) rfl ⟨by simp[],?_⟩
  repeat first|exact Keeps.refl _ _|refine Keeps.alloc ?_ _
theorem leaving_any (s:Stp) (w:World):Calls Tryz.prog 395 #[.agg (stpC s)] w fun e w'=>e= .returned (.agg (endC (outE s)))∧KeepsAll w w':=by
 obtain⟨a,d⟩:=s
 unfold stpC endC outE
 simp only[]
 by_cases g:d=0
 ·subst g
  go_enter Tryz.func395,Tryz.ntmps395
  go_wp2
  refine bodyPost_ret (v:= .agg #[.int .i64 a,.int .i64 1]) (by simp[results,Tryz.results395,go_sem]) rfl ⟨by simp,?_⟩
  repeat first|exact Keeps.refl _ _|refine Keeps.alloc ?_ _
 ·go_enter Tryz.func395,Tryz.ntmps395
  go_wp2
  refine bodyPost_ret (v:= .agg #[.int .i64 a,.int .i64 0]) (by simp[results,Tryz.results395,go_sem]) rfl ⟨by simp[],?_⟩
  repeat first|exact Keeps.refl _ _|refine Keeps.alloc ?_ _
theorem isStep_any (L:Lay) (v:LV) (s:Stp) (w:World):Calls Tryz.prog 296 #[.agg (v.cs L),.agg (stpC s)] w fun e w'=>e= .returned (.bool (stpOk L.secs.length s))∧KeepsAll w w':=by
 unfold LV.cs stpC
 go_enter Tryz.func296,Tryz.ntmps296
 go_wp2
 all_goals
  go_ret
  refine⟨congrArg (fun b=>Ending.returned (Value.bool b)) ?_,((Keeps.refl _ _).alloc _).alloc _⟩
  rw[Bool.eq_iff_iff]
  simp[stpOk]
  omega
end
section
structure Stk where
 name:Bs
 len:Int
 spd:Int
 acc:Int
 brk:Int
 deriving DecidableEq,Inhabited
structure Cel where
 lim:Int
 grd:Int
 deriving DecidableEq,Inhabited
def stkOk (s:Stk):Bool:=decide (1≤s.len∧s.len≤40∧1000≤s.spd∧s.spd≤100000∧100≤s.acc∧s.acc≤2000∧100≤s.brk∧s.brk≤2000)
def celOk (c:Cel):Bool:=decide (1000≤c.lim∧c.lim≤100000∧-40≤c.grd∧c.grd≤40)
def celD (cs:List Cel) (k:Nat):Cel:=cs.getD k ⟨1000,0⟩
theorem celD_at {cs:List Cel} {k:Nat} {c:Cel} (h:cs[k]? =some c):celD cs k=c:=by
 unfold celD;rw[List.getD_eq_getElem?_getD,h];rfl
theorem celD_ok {cs:List Cel} (h:∀c∈cs,celOk c=true) (k:Nat):celOk (celD cs k)=true:=by
 unfold celD;rw[List.getD_eq_getElem?_getD]
 cases e:cs[k]? with
 |none=>rfl
 |some c=>exact h c (List.mem_of_getElem? e)
def limG (cs:List Cel) (k:Nat) (v:Int):Nat→Int
 |0=>min v (celD cs k).lim
 |n+1=>min (limG cs k v n) (celD cs (k-(n+1))).lim
def limF (cs:List Cel) (a:Nat) (v:Int):Nat→Int
 |0=>v
 |n+1=>min (limF cs a v n) (celD cs (a+n)).lim
def limC (cs:List Cel) (k:Nat) (s:Stk):Int:=limF cs (k-s.len.toNat) s.spd (k+1-(k-s.len.toNat))
def gainC (c:Cel) (s:Stk):Int:=20000*(if 0<c.grd then max 50 (s.acc-10*c.grd)else s.acc)
def lossC (c:Cel) (s:Stk):Int:=20000*(if c.grd<0 then max 50 (s.brk+10*c.grd)else s.brk)
def capC (cs:List Cel) (b:Nat) (s:Stk):Int:=min (limC cs (b-1) s) (limC cs b s)*min (limC cs (b-1) s) (limC cs b s)
def fwdC (cs:List Cel) (a:Nat) (s:Stk):Nat→Int
 |0=>0
 |b+1=>min (capC cs (a+b+1) s) (fwdC cs a s b+gainC (celD cs (a+b)) s)
def bwdC (cs:List Cel) (a n:Nat) (s:Stk):Nat→Int
 |0=>0
 |j+1=>min (fwdC cs a s (n-a-(j+1))) (bwdC cs a n s j+lossC (celD cs (n-(j+1))) s)
def sqC (cs:List Cel) (a:Nat) (s:Stk) (b:Nat):Int:=bwdC cs a cs.length s (cs.length-a-b)
def isqGo:Nat→Nat→Nat→Nat
 |0,_,r=>r
 |k+1,n,r=>if(r+2^k)*(r+2^k)≤n then isqGo k n (r+2^k)else isqGo k n r
def isqN (n:Nat):Nat:=isqGo 32 n 0
def isqC (x:Int):Int:=(isqN x.toNat:Int)
def spdC (cs:List Cel) (a:Nat) (s:Stk) (b:Nat):Int:=isqC (sqC cs a s b)
def cdiv (x y:Int):Int:=if 0<x%y then x/y+1 else x/y
def timC (cs:List Cel) (a:Nat) (s:Stk):Nat→Int
 |0=>0
 |b+1=>timC cs a s b+cdiv 20000000 (spdC cs a s b+spdC cs a s (b+1))
theorem isqGo_spec:∀(k n r:Nat),r*r≤n→n<(r+2^k)*(r+2^k)→isqGo k n r*isqGo k n r≤n∧n<(isqGo k n r+1)*(isqGo k n r+1):=by
 intro k
 induction k with
 |zero=>intro n r h1 h2;exact⟨h1,by simpa[isqGo]using h2⟩
 |succ k ih=>
  intro n r h1 h2
  unfold isqGo
  split
  ·rename_i h
   refine ih n _ h ?_
   have e:r+2^k+2^k=r+2^(k+1):=by rw[Nat.pow_succ];omega
   rw[e];exact h2
  ·rename_i h
   exact ih n r h1 (by omega)
theorem isqN_spec (n:Nat) (h:n<2^64):isqN n*isqN n≤n∧n<(isqN n+1)*(isqN n+1):=isqGo_spec 32 n 0 (by omega) (by simpa using h)
theorem sq_lt {a b:Nat} (h:a*a<b*b):a<b:=by
 rcases Nat.lt_or_ge a b with h'|h'
 ·exact h'
 ·exact absurd (Nat.mul_le_mul h' h') (by omega)
theorem isqN_unique {n r:Nat} (h:n<2^64) (h1:r*r≤n) (h2:n<(r+1)*(r+1)):isqN n=r:=by
 obtain⟨k1,k2⟩:=isqN_spec n h
 have a1:=sq_lt (Nat.lt_of_le_of_lt k1 h2)
 have a2:=sq_lt (Nat.lt_of_le_of_lt h1 k2)
 omega
theorem isqN_mono {a b:Nat} (h:a≤b) (hb:b<2^64):isqN a≤isqN b:=by
 obtain⟨k1,_⟩:=isqN_spec a (by omega)
 obtain⟨_,k2⟩:=isqN_spec b hb
 have:=sq_lt (Nat.lt_of_le_of_lt k1 (Nat.lt_of_le_of_lt h k2))
 omega
section
variable {cs:List Cel} {a:Nat} {s:Stk} (hc:∀c∈cs,celOk c=true) (hs:stkOk s=true)
include hc hs
theorem limF_range (b n:Nat):1000≤limF cs b s.spd n∧limF cs b s.spd n≤100000:=by
 have hs':=hs
 simp[stkOk]at hs'
 induction n with
 |zero=>exact⟨hs'.2.2.1,hs'.2.2.2.1⟩
 |succ n ih=>
  have:=celD_ok hc (b+n)
  simp[celOk]at this
  unfold limF
  omega
theorem limC_range (k:Nat):1000≤limC cs k s∧limC cs k s≤100000:=limF_range hc hs _ _
theorem capC_range (b:Nat):1000000≤capC cs b s∧capC cs b s≤10000000000:=by
 have h1:=limC_range hc hs (b-1)
 have h2:=limC_range hc hs b
 unfold capC
 generalize hm:min (limC cs (b-1) s) (limC cs b s)=m
 have m1:1000≤m:=by omega
 have m2:m≤100000:=by omega
 obtain⟨k,rfl⟩:=Int.eq_ofNat_of_zero_le (by omega:0≤m)
 have k1:1000≤k:=by omega
 have k2:k≤100000:=by omega
 have q1:=Nat.mul_le_mul k1 k1
 have q2:=Nat.mul_le_mul k2 k2
 rw[←Int.natCast_mul]
 omega
omit hc in
theorem gainC_range {c:Cel} (h:celOk c=true):1000000≤gainC c s∧gainC c s≤40000000:=by
 simp[stkOk,celOk]at hs h
 unfold gainC;split<;>omega
omit hc in
theorem lossC_range {c:Cel} (h:celOk c=true):1000000≤lossC c s∧lossC c s≤40000000:=by
 simp[stkOk,celOk]at hs h
 unfold lossC;split<;>omega
theorem fwdC_range (b:Nat):0≤fwdC cs a s b∧fwdC cs a s b≤10000000000∧(0<b→1000000≤fwdC cs a s b):=by
 induction b with
 |zero=>simp[fwdC]
 |succ b ih=>
  have h1:=capC_range hc hs (a+b+1)
  have h2:=gainC_range hs (celD_ok hc (a+b))
  unfold fwdC
  omega
theorem bwdC_range (n j:Nat):0≤bwdC cs a n s j∧bwdC cs a n s j≤10000000000∧(0<j→j<n-a→1000000≤bwdC cs a n s j):=by
 induction j with
 |zero=>simp[bwdC]
 |succ j ih=>
  have h1:=fwdC_range hc hs (a:=a) (n-a-(j+1))
  have h2:=lossC_range hs (celD_ok hc (n-(j+1)))
  unfold bwdC
  omega
theorem sqC_range (b:Nat):0≤sqC cs a s b∧sqC cs a s b≤10000000000∧(0<b→b<cs.length-a→1000000≤sqC cs a s b):=by
 have h:=bwdC_range hc hs (a:=a) cs.length (cs.length-a-b)
 unfold sqC
 exact⟨h.1,h.2.1,fun h1 h2=>h.2.2 (by omega) (by omega)⟩
theorem spdC_range (b:Nat):0≤spdC cs a s b∧spdC cs a s b≤100000∧(0<b→b<cs.length-a→1000≤spdC cs a s b):=by
 obtain⟨h1,h2,h3⟩:=sqC_range hc hs (a:=a) b
 unfold spdC isqC
 have q:isqN (sqC cs a s b).toNat≤isqN 10000000000:=isqN_mono (by omega) (by decide)
 have q0:isqN 10000000000=100000:=isqN_unique (by decide) (by decide) (by decide)
 refine⟨by omega,by omega,fun g1 g2=> ?_⟩
 have r:isqN 1000000≤isqN (sqC cs a s b).toNat:=isqN_mono (by have:=h3 g1 g2;omega) (by omega)
 have r0:isqN 1000000=1000:=isqN_unique (by decide) (by decide) (by decide)
 omega
theorem sqC_start:sqC cs a s 0=0:=by
 unfold sqC
 rw[Nat.sub_zero]
 cases h:cs.length-a with
 |zero=>rfl
 |succ j=>
  have h1:=bwdC_range hc hs (a:=a) cs.length j
  have h2:=lossC_range hs (celD_ok hc (cs.length-(j+1)))
  unfold bwdC
  rw[h,Nat.sub_self]
  show min (fwdC cs a s 0) _=0
  unfold fwdC
  omega
theorem cdiv_range (b:Nat) (h:b+1≤cs.length-a) (h2:2≤cs.length-a):0<spdC cs a s b+spdC cs a s (b+1)∧1≤cdiv 20000000 (spdC cs a s b+spdC cs a s (b+1))∧cdiv 20000000 (spdC cs a s b+spdC cs a s (b+1))≤20001:=by
 have h1:=spdC_range hc hs (a:=a) b
 have h3:=spdC_range hc hs (a:=a) (b+1)
 have:1000≤spdC cs a s b+spdC cs a s (b+1):=by
  rcases Nat.eq_zero_or_pos b with hb|hb
  ·have:=h3.2.2 (by omega) (by omega);omega
  ·have:=h1.2.2 hb (by omega);omega
 generalize spdC cs a s b+spdC cs a s (b+1)=v at*
 refine⟨by omega,?_,?_⟩
 ·unfold cdiv
  split
  ·have:0≤20000000/v:=Int.ediv_nonneg (by omega) (by omega);omega
  ·rename_i hm
   have hm0:20000000%v=0:=by have:=Int.emod_nonneg 20000000 (by omega:v≠0);omega
   have:=Int.mul_ediv_add_emod 20000000 v
   rw[hm0,Int.add_zero]at this
   rcases Int.lt_or_le 0 (20000000/v)with h0|h0
   ·omega
   ·have h00:20000000/v=0:=by have:0≤20000000/v:=Int.ediv_nonneg (by omega) (by omega);omega
    rw[h00]at this;omega
 ·have q:20000000/v≤20000:=by
   rcases Int.lt_or_le 20000 (20000000/v)with h0|h0
   ·have m1:=Int.ediv_mul_le 20000000 (by omega:v≠0)
    have m2:20001*v≤20000000/v*v:=Int.mul_le_mul_of_nonneg_right (by omega) (by omega)
    omega
   ·exact h0
  unfold cdiv;split<;>omega
end
end
section
structure Pce where
 len:Int
 lim:Int
 grd:Int
 deriving DecidableEq,Inhabited
def secD (L:Lay) (i:Int):Sec:=L.secs.getD i.toNat ⟨[],0,0,0,0⟩
def pceOf (L:Lay) (s:Stp):Pce:=⟨(secD L s.sec).len,(secD L s.sec).lim,if s.dir=1 then-(secD L s.sec).grd else(secD L s.sec).grd⟩
def trvS (r:Rou):List Stp:=r.stps.take (r.stps.length-r.ov.toNat)
def pcesOf (L:Lay) (r:Rou):List Pce:=(trvS r).map (pceOf L)
def cellsOf (ps:List Pce):List Cel:=ps.flatMap fun p=>List.replicate p.len.toNat ⟨p.lim,p.grd⟩
def celsRt (L:Lay) (r:Rou):List Cel:=cellsOf (pcesOf L r)
def celErr (L:Lay) (r:Rou):Int:=if rouErr L r≠0 then rouErr L r else if 4000<(celsRt L r).length then 7 else 0
def fitErr (L:Lay) (r:Rou) (s:Stk):Int:=
 if celErr L r≠0 then celErr L r else if stkOk s=false then 1
 else if((trvS r).any fun t=>decide ((secD L t.sec).len<max 2 s.len))=true then 12 else 0
def posE (ps:List Pce):Nat→Nat
 |0=>0
 |i+1=>posE ps i+(ps.getD (i+1) ⟨0,0,0⟩).len.toNat
def fstC (ps:List Pce):Nat:=(ps.getD 0 ⟨0,0,0⟩).len.toNat
def timR (ps:List Pce) (s:Stk) (b:Nat):Int:=timC (cellsOf ps) (fstC ps) s b
def entR (ps:List Pce) (s:Stk) (i:Nat):Int:=timR ps s (posE ps (i-1))
def leaR (ps:List Pce) (s:Stk) (i:Nat):Int:=timR ps s (if i+1<ps.length then posE ps i+s.len.toNat else posE ps i)
def runR (ps:List Pce) (s:Stk):Int:=cdiv (timR ps s (posE ps (ps.length-1))) 1000
structure Prof where
 frm:Int
 to:Int
 need:List Int
 ent:List Int
 clr:List Int
 ovl:Int
 run:Int
 deriving DecidableEq,Inhabited
def profP (ps:List Pce) (s:Stk) (o:Bool) (a b:Nat):Prof:=
 ⟨a,b,tab (b-a) fun k=>entR ((ps.take (b+1)).drop a) s k/1000-16,
  tab (b-a) fun k=>entR ((ps.take (b+1)).drop a) s (k+1)/1000,
  tab (b-a) fun k=>(leaR ((ps.take (b+1)).drop a) s k+999)/1000+4,
  if o&&b+1==ps.length then entR ((ps.take (b+1)).drop a) s (b-a)/1000-16 else 0,
  runR ((ps.take (b+1)).drop a) s⟩
def lastR (r:Rou):Int:=(r.stps.length:Int)-r.ov-1
def ptsR (ks:List Lnk):List Stp→List Int
 |s::t::r=>(match lnkOf ks s t with|some k=>k.pt|none=> -1)::ptsR ks (t::r)
 |_=> []
def dupI:List Int→List Int→Bool
 |_,[]=>false
 |seen,p::r=>if 0≤p∧p∈seen then true else dupI (seen++ [p]) r
def motErr (L:Lay) (r:Rou) (s:Stk):Int:=
 if fitErr L r s≠0 then fitErr L r s else if dupI [] (ptsR L.lks r.stps)=true then 13 else 0
theorem cellsOf_len (ps:List Pce):∀i,(cellsOf (ps.take (i+1))).length=(if ps=[]then 0 else fstC ps+posE ps i):=by
 intro i
 cases ps with
 |nil=>simp[cellsOf]
 |cons p ps=>
  simp only[List.cons_ne_nil,if_false]
  induction i with
  |zero=>simp[cellsOf,fstC,posE]
  |succ i ih=>
   rw[List.take_add_one]
   unfold cellsOf at ih⊢
   rw[List.flatMap_append,List.length_append,ih,posE]
   cases h:(p::ps)[i+1]? with
   |none=>simp[List.getD_eq_getElem?_getD,h]
   |some q=>simp[List.getD_eq_getElem?_getD,h];omega
theorem cellsOf_length {ps:List Pce} (h:ps≠ []):(cellsOf ps).length=fstC ps+posE ps (ps.length-1):=by
 have:=cellsOf_len ps (ps.length-1)
 have hl:0<ps.length:=List.length_pos_iff.2 h
 rw[show ps.length-1+1=ps.length by omega,List.take_length,if_neg h]at this
 exact this
theorem posE_mono (ps:List Pce) {i j:Nat} (h:i≤j):posE ps i≤posE ps j:=by
 induction j with
 |zero=>
    have:i=0:=by omega
    subst this;exact Nat.le_refl _
 |succ j ih=>
  rcases Nat.lt_or_ge j i with h'|h'
  ·have:i=j+1:=by omega
   subst this;exact Nat.le_refl _
  ·exact Nat.le_trans (ih h') (Nat.le_add_right _ _)
theorem posE_step (ps:List Pce) {i:Nat} {p:Pce} (h:ps[i+1]? =some p):posE ps (i+1)=posE ps i+p.len.toNat:=by
 rw[posE,List.getD_eq_getElem?_getD,h];rfl
end
section
theorem dupS_false:∀(l:List Stp) (seen:List Int),dupS seen l=false↔(l.map (·.sec)).Nodup∧∀s∈l,s.sec∉seen:=by
 intro l
 induction l with
 |nil=>intro seen;simp[dupS]
 |cons n r ih=>
  intro seen
  unfold dupS
  split
  ·rename_i h
   constructor
   ·intro h';cases h'
   ·rintro⟨_,h2⟩;exact absurd h (h2 n (by simp))
  ·rename_i h
   rw[ih,List.map_cons,List.nodup_cons]
   constructor
   ·rintro⟨h1,h2⟩
    refine⟨⟨fun hm=> ?_,h1⟩,?_⟩
    ·obtain⟨s,hs,e⟩:=List.mem_map.1 hm
     exact h2 s hs (by simp[e])
    ·intro s hs
     rcases List.mem_cons.1 hs with rfl|hs
     ·exact h
     ·exact fun hm=>h2 s hs (by simp[hm])
   ·rintro⟨⟨h1,h2⟩,h3⟩
    refine⟨h2,fun s hs hm=> ?_⟩
    rcases List.mem_append.1 hm with hm|hm
    ·exact h3 s (by simp[hs]) hm
    ·simp at hm;exact h1 (List.mem_map.2 ⟨s,hs,hm⟩)
theorem lnksOf_some (ks:List Lnk):∀(l:List Stp),lnksOf ks l≠none↔∀i s t,l[i]? =some s→l[i+1]? =some t→lnkOf ks s t≠none:=by
 intro l
 induction l with
 |nil=>simp[lnksOf]
 |cons s r ih=>
  cases r with
  |nil=>
   simp only[lnksOf]
   constructor
   ·intro _ i s t h1 h2;simp at h2
   ·intro _ h;cases h
  |cons t r=>
   unfold lnksOf
   constructor
   ·intro h i x y h1 h2
    cases e:lnkOf ks s t with
    |none=>rw[e]at h;exact absurd rfl h
    |some k=>
     rw[e]at h
     cases i with
     |zero=>simp at h1 h2;subst h1;subst h2;rw[e];simp
     |succ i=>
      refine ih.1 ?_ i x y (by simpa using h1) (by simpa using h2)
      intro hn;rw[hn]at h;exact h rfl
   ·intro h
    have h0:=h 0 s t rfl rfl
    cases e:lnkOf ks s t with
    |none=>exact absurd e h0
    |some k=>
     have:=ih.2 (fun i x y h1 h2=>h (i+1) x y (by simpa using h1) (by simpa using h2))
     cases e2:lnksOf ks (t::r)with
     |none=>exact absurd e2 this
     |some l=>simp
structure RouOk (L:Lay) (r:Rou):Prop where
 lay:LayOk L
 len:r.stps.length≤24
 ov0:0≤r.ov
 ov2:r.ov≤2
 two:2≤(r.stps.length:Int)-r.ov
 stp:∀s∈r.stps,stpOk L.secs.length s=true
 dis:(r.stps.map (·.sec)).Nodup
 lnk:∀(i:Nat) s t,r.stps[i]? =some s→r.stps[i+1]? =some t→lnkOf L.lks s t≠none
theorem rouErr_zero (L:Lay) (r:Rou):rouErr L r=0↔RouOk L r:=by
 unfold rouErr
 constructor
 ·intro h
  split at h
  ·simp at h
  rename_i h1
  split at h
  ·simp at h
  rename_i h2
  split at h
  ·simp at h
  rename_i h3
  split at h
  ·simp at h
  rename_i h4
  split at h
  ·simp at h
  rename_i h5
  split at h
  ·simp at h
  rename_i h6
  refine⟨(layErr_zero L).1 (by simpa using h1),by omega,by omega,by omega,by omega,?_,?_,(lnksOf_some _ _).1 h6⟩
  ·intro s hs
   rw[List.any_eq_true]at h4
   cases e:stpOk L.secs.length s
   ·exact absurd ⟨s,hs,by simp[e]⟩ h4
   ·rfl
  ·exact((dupS_false _ _).1 (by simpa using h5)).1
 ·intro h
  have a1:=(layErr_zero L).2 h.lay
  have:=h.len;have:=h.ov0;have:=h.ov2;have:=h.two
  rw[if_neg (by simpa using a1),if_neg (by omega),if_neg (by omega),if_neg,if_neg,if_neg]
  ·exact(lnksOf_some _ _).2 h.lnk
  ·rw[Bool.not_eq_true];exact(dupS_false _ _).2 ⟨h.dis,by simp⟩
  ·rw[List.any_eq_true]
   rintro⟨s,hs,e⟩
   rw[h.stp s hs]at e;cases e
section
variable {L:Lay} {r:Rou} (h:RouOk L r)
include h
theorem RouOk.sec_lt {i:Nat} {s:Stp} (hs:r.stps[i]? =some s):0≤s.sec∧s.sec<L.secs.length∧(s.dir=0∨s.dir=1):=by
 have:=h.stp s (List.mem_of_getElem? hs)
 simpa[stpOk]using this
theorem RouOk.sec_at {i:Nat} {s:Stp} (hs:r.stps[i]? =some s):L.secs[s.sec.toNat]? =some (secD L s.sec):=by
 have:=h.sec_lt hs
 unfold secD
 have hl:s.sec.toNat<L.secs.length:=by omega
 rw[List.getD_eq_getElem?_getD,List.getElem?_eq_getElem hl];rfl
theorem RouOk.sec_ok {i:Nat} {s:Stp} (hs:r.stps[i]? =some s):1≤(secD L s.sec).len∧(secD L s.sec).len≤400∧1000≤(secD L s.sec).lim∧(secD L s.sec).lim≤100000∧-40≤(secD L s.sec).grd∧(secD L s.sec).grd≤40:=
 h.lay.sec_at (h.sec_at hs)
theorem RouOk.part {a b:Nat} {o:Int} (ha:a<b) (hb:b<r.stps.length) (ho:0≤o) (ho2:o≤2) (h2:2≤(b+1-a:Int)-o):RouOk L ⟨(r.stps.take (b+1)).drop a,o⟩:=by
 have hl:((r.stps.take (b+1)).drop a).length=b+1-a:=by simp;omega
 have hat:∀i,((r.stps.take (b+1)).drop a)[i]? =if a+i<b+1 then r.stps[a+i]? else none:=by
  intro i;rw[List.getElem?_drop,List.getElem?_take]
 have h24:=h.len
 refine⟨h.lay,by simp only[hl];omega,ho,ho2,by simp only[hl];omega,?_,?_,?_⟩
 ·intro s hs;exact h.stp s (List.mem_of_mem_take (List.mem_of_mem_drop hs))
 ·have hsub:(((r.stps.take (b+1)).drop a).map (·.sec)).Sublist (r.stps.map (·.sec)):=((List.drop_sublist _ _).trans (List.take_sublist _ _)).map _
  exact hsub.nodup h.dis
 ·intro i s t h1 h2
  simp only[hat]at h1 h2
  split at h1
  ·split at h2
   ·exact h.lnk (a+i) s t h1 (by rw[←h2];rfl)
   ·cases h2
  ·cases h1
theorem RouOk.tail {a:Nat} (ha:(a:Int)<lastR r):RouOk L ⟨r.stps.drop a,r.ov⟩:=by
 have:=h.ov0;have:=h.ov2;have:=h.two
 unfold lastR at ha
 have hp:=h.part (a:=a) (b:=r.stps.length-1) (o:=r.ov) (by omega) (by omega) (by omega) (by omega) (by omega)
 rw[show r.stps.length-1+1=r.stps.length by omega,List.take_length]at hp
 exact hp
end
end
end Go.Proofs.YtcbcegdidlefiaaGreat
