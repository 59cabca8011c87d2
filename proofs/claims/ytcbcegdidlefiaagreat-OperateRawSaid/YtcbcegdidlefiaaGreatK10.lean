/- Contracts of the small functions of running times: Check, gain, loss, CeilDiv (program), CheckStock, accel, brake, Ceil, in (reference). Conditions: as each theorem says. -/
import Derived.Test.YtcbcegdidlefiaaGreatK06
import Derived.Test.YtcbcegdidlefiaaGreatK09
import Derived.Lib.MinMax
namespace Go.Proofs.YtcbcegdidlefiaaGreat
open Go.RowKit
set_option maxHeartbeats 1000000 in
theorem stkOk_any (s:Stk) (w:World):Calls Tryz.prog 109 #[.agg (stkC s)] w fun e w'=>e= .returned (.bool (stkOk s))∧KeepsAll w w':=by
 unfold stkC
 go_enter Tryz.func109,Tryz.ntmps109
 go_wp2
 all_goals
  go_ret
  refine⟨congrArg (fun b=>Ending.returned (Value.bool b)) ?_,(Keeps.refl _ _).alloc _⟩
  rw[Bool.eq_iff_iff]
  simp[stkOk]
  omega
theorem cdiv_tdiv {a b:Int} (ha:0≤a):cdiv a b=if 0<a%b then a.tdiv b+1 else a.tdiv b:=by
 unfold cdiv
 rw[Int.tdiv_eq_ediv_of_nonneg ha]
set_option maxHeartbeats 1000000 in
theorem CeilDiv_any (a b:Int) (ha:0≤a) (ha2:a≤1000000000000) (hb:0<b) (hb2:b≤1000000000000) (w:World):
  Calls Tryz.prog 473 #[.int .i64 a,.int .i64 b] w fun e w'=>e= .returned (.tuple #[.int .i64 (cdiv a b),.int .i64 0])∧w=w':=by
 have hE:=cdiv_tdiv (b:=b) ha
 have h1:0≤a.tdiv b:=by rw[Int.tdiv_eq_ediv_of_nonneg ha];exact Int.ediv_nonneg ha (by omega)
 have h2:a.tdiv b≤a:=by rw[Int.tdiv_eq_ediv_of_nonneg ha];exact Int.ediv_le_self b ha
 have h3:IntKind.i64.wrap (a.tdiv b)=a.tdiv b:=IntWalk.i64_in _ (by omega)
 have h4:IntKind.i64.wrap (a.tdiv b+1)=a.tdiv b+1:=IntWalk.i64_in _ (by omega)
 have h5:b≠0:=by omega
 have HE:=Lib.hid hE
 clear hE
 go_enter Tryz.func473,Tryz.ntmps473
 go_wp2
 all_goals
  go_ret2
  refine⟨?_,rfl⟩
  rw[HE.out]
  first|(rw[if_pos (by omega)];rfl)|(rw[if_neg (by omega)];rfl)
set_option maxHeartbeats 1000000 in
theorem RCeil_any (a b:Int) (ha:0≤a) (ha2:a≤1000000000000) (hb:0<b) (hb2:b≤1000000000000) (w:World):
  Calls Tryz.prog 183 #[.int .i64 a,.int .i64 b] w fun e w'=>e= .returned (.int .i64 (cdiv a b))∧w=w':=by
 have hE:=cdiv_tdiv (b:=b) ha
 have h1:0≤a.tdiv b:=by rw[Int.tdiv_eq_ediv_of_nonneg ha];exact Int.ediv_nonneg ha (by omega)
 have h2:a.tdiv b≤a:=by rw[Int.tdiv_eq_ediv_of_nonneg ha];exact Int.ediv_le_self b ha
 have h3:IntKind.i64.wrap (a.tdiv b)=a.tdiv b:=IntWalk.i64_in _ (by omega)
 have h4:IntKind.i64.wrap (a.tdiv b+1)=a.tdiv b+1:=IntWalk.i64_in _ (by omega)
 have h5:b≠0:=by omega
 have HE:=Lib.hid hE
 clear hE
 go_enter Tryz.func183,Tryz.ntmps183
 go_wp2
 all_goals
  go_ret
  refine⟨?_,rfl⟩
  rw[HE.out]
  first|(rw[if_pos (by omega)];rfl)|(rw[if_neg (by omega)];rfl)
theorem gain_any (c:Cel) (s:Stk) (hc:celOk c=true) (hs:stkOk s=true) (w:World):
  Calls Tryz.prog 494 #[.agg (celC c),.agg (stkC s)] w fun e w'=>e= .returned (.int .i64 (gainC c s))∧KeepsAll w w':=by
 simp only[stkOk,celOk,decide_eq_true_eq]at hs hc
 obtain⟨cl,cg⟩:=c
 obtain⟨sn,sl,sv,sa,sb⟩:=s
 simp only[]at hs hc
 obtain⟨-,-,-,-,q1,q2,-,-⟩:=hs
 obtain⟨-,-,p1,p2⟩:=hc
 unfold celC stkC gainC
 simp only[]
 go_enter Tryz.func494,Tryz.ntmps494
 go_wp2
 all_goals
  go_ret
  refine⟨congrArg (fun b=>Ending.returned (Value.int .i64 b)) ?_,((Keeps.refl _ _).alloc _).alloc _⟩
  simp_all<;>omega
theorem loss_any (c:Cel) (s:Stk) (hc:celOk c=true) (hs:stkOk s=true) (w:World):
  Calls Tryz.prog 495 #[.agg (celC c),.agg (stkC s)] w fun e w'=>e= .returned (.int .i64 (lossC c s))∧KeepsAll w w':=by
 simp only[stkOk,celOk,decide_eq_true_eq]at hs hc
 obtain⟨cl,cg⟩:=c
 obtain⟨sn,sl,sv,sa,sb⟩:=s
 simp only[]at hs hc
 obtain⟨-,-,-,-,-,-,q1,q2⟩:=hs
 obtain⟨-,-,p1,p2⟩:=hc
 unfold celC stkC lossC
 simp only[]
 go_enter Tryz.func495,Tryz.ntmps495
 go_wp2
 all_goals
  go_ret
  refine⟨congrArg (fun b=>Ending.returned (Value.int .i64 b)) ?_,((Keeps.refl _ _).alloc _).alloc _⟩
  simp_all<;>omega
theorem in_any (n lo hi:Int) (w:World):Calls Tryz.prog 102 #[.int .i64 n,.int .i64 lo,.int .i64 hi] w fun e w'=>e= .returned (.bool (decide (lo≤n∧n≤hi)))∧w=w':=by
 go_enter Tryz.func102,Tryz.ntmps102
 go_wp2
 all_goals
  go_ret
  refine⟨congrArg (fun b=>Ending.returned (Value.bool b)) ?_,rfl⟩
  rw[Bool.eq_iff_iff]
  simp
  omega
theorem accel_any (c:Cel) (s:Stk) (hc:celOk c=true) (hs:stkOk s=true) (w:World):
  Calls Tryz.prog 388 #[.agg (celC c),.agg (stkC s)] w fun e w'=>∃r,e= .returned (.int .i64 r)∧20000*r=gainC c s∧KeepsAll w w':=by
 simp only[stkOk,celOk,decide_eq_true_eq]at hs hc
 obtain⟨cl,cg⟩:=c
 obtain⟨sn,sl,sv,sa,sb⟩:=s
 simp only[]at hs hc
 obtain⟨-,-,-,-,q1,q2,-,-⟩:=hs
 obtain⟨-,-,p1,p2⟩:=hc
 unfold celC stkC gainC
 simp only[]
 go_enter Tryz.func388,Tryz.ntmps388
 go_wp2
 all_goals
  go_ret
  refine⟨_,rfl,?_,((Keeps.refl _ _).alloc _).alloc _⟩
  simp_all<;>omega
theorem brake_any (c:Cel) (s:Stk) (hc:celOk c=true) (hs:stkOk s=true) (w:World):
  Calls Tryz.prog 389 #[.agg (celC c),.agg (stkC s)] w fun e w'=>∃r,e= .returned (.int .i64 r)∧20000*r=lossC c s∧KeepsAll w w':=by
 simp only[stkOk,celOk,decide_eq_true_eq]at hs hc
 obtain⟨cl,cg⟩:=c
 obtain⟨sn,sl,sv,sa,sb⟩:=s
 simp only[]at hs hc
 obtain⟨-,-,-,-,-,-,q1,q2⟩:=hs
 obtain⟨-,-,p1,p2⟩:=hc
 unfold celC stkC lossC
 simp only[]
 go_enter Tryz.func389,Tryz.ntmps389
 go_wp2
 all_goals
  go_ret
  refine⟨_,rfl,?_,((Keeps.refl _ _).alloc _).alloc _⟩
  simp_all<;>omega
set_option maxHeartbeats 2000000 in
theorem rstkOk_any (s:Stk) (w:World):Calls Tryz.prog 34 #[.agg (stkC s)] w fun e w'=>e= .returned (.bool (stkOk s))∧KeepsAll w w':=by
 unfold stkC
 go_enter Tryz.func34,Tryz.ntmps34
 go_wp2_with(go_at_call 102;refine(in_any _ _ _ _).mono ?_;rintro e w' ⟨rfl,rfl⟩)
 all_goals
  go_ret
  refine⟨congrArg (fun b=>Ending.returned (Value.bool b)) ?_,(Keeps.refl _ _).alloc _⟩
  rw[Bool.eq_iff_iff]
  simp_all[stkOk]
  try omega
end Go.Proofs.YtcbcegdidlefiaaGreat
