/- The error ways of the functions of layer 39 (program and reference): at a case with an error each returns it. Conditions: as each theorem says. The first cells of a block, at once. No condition. The law OperateRaw at a case with an error: same, and the law's walk. Conditions: as each theorem says. -/
import Derived.Test.YtcbcegdidlefiaaGreatK25
import Derived.Test.YtcbcegdidlefiaaGreatK01
namespace Go.Proofs.YtcbcegdidlefiaaGreat
section
open Go.RowKit
set_option maxRecDepth 100000 in
set_option maxHeartbeats 4000000 in
theorem rpaths_bad (c:Cas) (v:CV) (w:World) (h:RCas w (Old w) v c) (hlen:LayLen c.lay) (h0:casErr c≠0):
  Calls Tryz.prog 65 #[.agg (v.cs c)] w fun e w'=>e= .returned (.tuple #[.slice none 0 0,.int .i64 (casErr c)])∧KeepsAll w w':=by
 have HC:=Lib.hid h
 have HK:=Lib.hid (fun W k=>rcheck39_any c v W k hlen)
 clear h
 obtain⟨⟨A1,A2,A3,A4,c1,c2,c3,c4⟩,B1,B2,B3,dd1,dd2,dd3⟩:=v
 unfold CV.cs at HK⊢
 simp only[]at HK⊢
 have g1:(casErr c==0)=false:=beq_eq_false_iff_ne.2 h0
 generalize casErr c=x at*
 clear h0
 go_enter Tryz.func65,Tryz.ntmps65
 go_upto_region 1 with fail
 generalize hW:World.alloc w _=W
 have K0:Hid (KeepsAll w W):=by subst hW;exact(Keeps.refl _ _).alloc _
 have BC:Hid (Blk W w.heap.size 32 #[.slice A1 c.lay.sts.length c1,.slice A2 c.lay.pts.length c2,.slice A3 c.lay.secs.length c3,.slice A4 c.lay.lks.length c4,.slice B1 c.stks.length dd1,.slice B2 c.rous.length dd2,.slice B3 c.miss.length dd3]):=by subst hW;exact Blk.new _ _ _
 clear hW
 have q0:=BC.out.cell 0
 have q1:=BC.out.cell 1
 have q2:=BC.out.cell 2
 have q3:=BC.out.cell 3
 have q4:=BC.out.cell 4
 have q5:=BC.out.cell 5
 have q6:=BC.out.cell 6
 simp at q0 q1 q2 q3 q4 q5 q6
 have hz:=BC.out.lt
 go_wp2_with(go_at_call 10;go_loud(refine(HK.out W (HC.out.kept K0.out)).mono ?_;rintro e w2 ⟨rfl,k2⟩;have K2:=Lib.hid (K0.out.trA k2);clear k2))
 go_ret2
 exact⟨rfl,K2.out⟩
set_option maxRecDepth 100000 in
set_option maxHeartbeats 4000000 in
theorem rplanned_bad (c:Cas) (v:CV) (w:World) (h:RCas w (Old w) v c) (hlen:LayLen c.lay) (h0:casErr c≠0):
  Calls Tryz.prog 67 #[.agg (v.cs c)] w fun e w'=>e= .returned (.tuple #[.slice none 0 0,.int .i64 (casErr c)])∧KeepsAll w w':=by
 have HC:=Lib.hid h
 have HK:=Lib.hid (fun W k=>rpaths_bad c v W k hlen h0)
 clear h
 obtain⟨⟨A1,A2,A3,A4,c1,c2,c3,c4⟩,B1,B2,B3,dd1,dd2,dd3⟩:=v
 unfold CV.cs at HK⊢
 simp only[]at HK⊢
 have g1:(casErr c==0)=false:=beq_eq_false_iff_ne.2 h0
 generalize casErr c=x at*
 clear h0
 go_enter Tryz.func67,Tryz.ntmps67
 go_upto_region 1 with fail
 generalize hW:World.alloc w _=W
 have K0:Hid (KeepsAll w W):=by subst hW;exact(Keeps.refl _ _).alloc _
 have BC:Hid (Blk W w.heap.size 32 #[.slice A1 c.lay.sts.length c1,.slice A2 c.lay.pts.length c2,.slice A3 c.lay.secs.length c3,.slice A4 c.lay.lks.length c4,.slice B1 c.stks.length dd1,.slice B2 c.rous.length dd2,.slice B3 c.miss.length dd3]):=by subst hW;exact Blk.new _ _ _
 clear hW
 have q0:=BC.out.cell 0
 have q1:=BC.out.cell 1
 have q2:=BC.out.cell 2
 have q3:=BC.out.cell 3
 have q4:=BC.out.cell 4
 have q5:=BC.out.cell 5
 have q6:=BC.out.cell 6
 simp at q0 q1 q2 q3 q4 q5 q6
 have hz:=BC.out.lt
 go_wp2_with(go_at_call 65;go_loud(refine(HK.out W (HC.out.kept K0.out)).mono ?_;rintro e w2 ⟨rfl,k2⟩;have K2:=Lib.hid (K0.out.trA k2);clear k2))
 go_ret2
 exact⟨rfl,K2.out⟩
set_option maxRecDepth 100000 in
set_option maxHeartbeats 4000000 in
theorem rorders_bad (c:Cas) (v:CV) (w:World) (h:RCas w (Old w) v c) (hlen:LayLen c.lay) (h0:casErr c≠0):
  Calls Tryz.prog 53 #[.agg (v.cs c)] w fun e w'=>e= .returned (.tuple #[.slice none 0 0,.int .i64 (casErr c)])∧KeepsAll w w':=by
 have HC:=Lib.hid h
 have HK:=Lib.hid (fun W k=>rplanned_bad c v W k hlen h0)
 clear h
 obtain⟨⟨A1,A2,A3,A4,c1,c2,c3,c4⟩,B1,B2,B3,dd1,dd2,dd3⟩:=v
 unfold CV.cs at HK⊢
 simp only[]at HK⊢
 have g1:(casErr c==0)=false:=beq_eq_false_iff_ne.2 h0
 generalize casErr c=x at*
 clear h0
 go_enter Tryz.func53,Tryz.ntmps53
 go_upto_region 1 with fail
 generalize hW:World.alloc w _=W
 have K0:Hid (KeepsAll w W):=by subst hW;exact(Keeps.refl _ _).alloc _
 have BC:Hid (Blk W w.heap.size 32 #[.slice A1 c.lay.sts.length c1,.slice A2 c.lay.pts.length c2,.slice A3 c.lay.secs.length c3,.slice A4 c.lay.lks.length c4,.slice B1 c.stks.length dd1,.slice B2 c.rous.length dd2,.slice B3 c.miss.length dd3]):=by subst hW;exact Blk.new _ _ _
 clear hW
 have q0:=BC.out.cell 0
 have q1:=BC.out.cell 1
 have q2:=BC.out.cell 2
 have q3:=BC.out.cell 3
 have q4:=BC.out.cell 4
 have q5:=BC.out.cell 5
 have q6:=BC.out.cell 6
 simp at q0 q1 q2 q3 q4 q5 q6
 have hz:=BC.out.lt
 go_wp2_with(go_at_call 67;go_loud(refine(HK.out W (HC.out.kept K0.out)).mono ?_;rintro e w2 ⟨rfl,k2⟩;have K2:=Lib.hid (K0.out.trA k2);clear k2))
 go_ret2
 exact⟨rfl,K2.out⟩
set_option maxRecDepth 100000 in
set_option maxHeartbeats 4000000 in
theorem rscript_bad (c:Cas) (v:CV) (l:Value) (w:World) (h:RCas w (Old w) v c) (hlen:LayLen c.lay) (h0:casErr c≠0):
  Calls Tryz.prog 52 #[.agg (v.cs c),l] w fun e w'=>e= .returned (.int .i64 (casErr c))∧KeepsAll w w':=by
 have HC:=Lib.hid h
 have HK:=Lib.hid (fun W k=>rcheck39_any c v W k hlen)
 clear h
 obtain⟨⟨A1,A2,A3,A4,c1,c2,c3,c4⟩,B1,B2,B3,dd1,dd2,dd3⟩:=v
 unfold CV.cs at HK⊢
 simp only[]at HK⊢
 have g1:(casErr c==0)=false:=beq_eq_false_iff_ne.2 h0
 generalize casErr c=x at*
 clear h0
 go_enter Tryz.func52,Tryz.ntmps52
 go_upto_region 1 with fail
 generalize hW:World.alloc w _=W
 have K0:Hid (KeepsAll w W):=by subst hW;exact(Keeps.refl _ _).alloc _
 have BC:Hid (Blk W w.heap.size 32 #[.slice A1 c.lay.sts.length c1,.slice A2 c.lay.pts.length c2,.slice A3 c.lay.secs.length c3,.slice A4 c.lay.lks.length c4,.slice B1 c.stks.length dd1,.slice B2 c.rous.length dd2,.slice B3 c.miss.length dd3]):=by subst hW;exact Blk.new _ _ _
 clear hW
 have q0:=BC.out.cell 0
 have q1:=BC.out.cell 1
 have q2:=BC.out.cell 2
 have q3:=BC.out.cell 3
 have q4:=BC.out.cell 4
 have q5:=BC.out.cell 5
 have q6:=BC.out.cell 6
 simp at q0 q1 q2 q3 q4 q5 q6
 have hz:=BC.out.lt
 go_wp2_with(go_at_call 10;go_loud(refine(HK.out W (HC.out.kept K0.out)).mono ?_;rintro e w2 ⟨rfl,k2⟩;have K2:=Lib.hid (K0.out.trA k2);clear k2))
 go_ret
 exact⟨rfl,K2.out⟩
set_option maxRecDepth 100000 in
set_option maxHeartbeats 4000000 in
theorem rrun_bad (c:Cas) (v:CV) (l:Value) (w:World) (h:RCas w (Old w) v c) (hlen:LayLen c.lay) (h0:casErr c≠0):
  Calls Tryz.prog 14 #[.agg (v.cs c),l] w fun e w'=>e= .returned (.tuple #[.slice none 0 0,.int .i64 (casErr c)])∧KeepsAll w w':=by
 have HC:=Lib.hid h
 have HK:=Lib.hid (fun W k=>rscript_bad c v l W k hlen h0)
 clear h
 obtain⟨⟨A1,A2,A3,A4,c1,c2,c3,c4⟩,B1,B2,B3,dd1,dd2,dd3⟩:=v
 unfold CV.cs at HK⊢
 simp only[]at HK⊢
 have g1:(casErr c==0)=false:=beq_eq_false_iff_ne.2 h0
 generalize casErr c=x at*
 clear h0
 go_enter Tryz.func14,Tryz.ntmps14
 go_upto_region 1 with fail
 generalize hW:World.alloc w _=W
 have K0:Hid (KeepsAll w W):=by subst hW;exact(Keeps.refl _ _).alloc _
 have BC:Hid (Blk W w.heap.size 32 #[.slice A1 c.lay.sts.length c1,.slice A2 c.lay.pts.length c2,.slice A3 c.lay.secs.length c3,.slice A4 c.lay.lks.length c4,.slice B1 c.stks.length dd1,.slice B2 c.rous.length dd2,.slice B3 c.miss.length dd3]):=by subst hW;exact Blk.new _ _ _
 clear hW
 have q0:=BC.out.cell 0
 have q1:=BC.out.cell 1
 have q2:=BC.out.cell 2
 have q3:=BC.out.cell 3
 have q4:=BC.out.cell 4
 have q5:=BC.out.cell 5
 have q6:=BC.out.cell 6
 simp at q0 q1 q2 q3 q4 q5 q6
 have hz:=BC.out.lt
 go_wp2_with(go_at_call 52;go_loud(refine(HK.out W (HC.out.kept K0.out)).mono ?_;rintro e w2 ⟨rfl,k2⟩;have K2:=Lib.hid (K0.out.trA k2);clear k2))
 go_ret2
 exact⟨rfl,K2.out⟩
set_option maxRecDepth 100000 in
set_option maxHeartbeats 4000000 in
theorem rbound_bad (c:Cas) (v:CV) (l:Value) (w:World) (h:RCas w (Old w) v c) (hlen:LayLen c.lay) (h0:casErr c≠0):
  Calls Tryz.prog 18 #[.agg (v.cs c),l] w fun e w'=>e= .returned (.tuple #[.int .i64 0,.int .i64 (casErr c)])∧KeepsAll w w':=by
 have HC:=Lib.hid h
 have HK:=Lib.hid (fun W k=>rscript_bad c v l W k hlen h0)
 clear h
 obtain⟨⟨A1,A2,A3,A4,c1,c2,c3,c4⟩,B1,B2,B3,dd1,dd2,dd3⟩:=v
 unfold CV.cs at HK⊢
 simp only[]at HK⊢
 have g1:(casErr c==0)=false:=beq_eq_false_iff_ne.2 h0
 generalize casErr c=x at*
 clear h0
 go_enter Tryz.func18,Tryz.ntmps18
 go_upto_region 1 with fail
 generalize hW:World.alloc w _=W
 have K0:Hid (KeepsAll w W):=by subst hW;exact(Keeps.refl _ _).alloc _
 have BC:Hid (Blk W w.heap.size 32 #[.slice A1 c.lay.sts.length c1,.slice A2 c.lay.pts.length c2,.slice A3 c.lay.secs.length c3,.slice A4 c.lay.lks.length c4,.slice B1 c.stks.length dd1,.slice B2 c.rous.length dd2,.slice B3 c.miss.length dd3]):=by subst hW;exact Blk.new _ _ _
 clear hW
 have q0:=BC.out.cell 0
 have q1:=BC.out.cell 1
 have q2:=BC.out.cell 2
 have q3:=BC.out.cell 3
 have q4:=BC.out.cell 4
 have q5:=BC.out.cell 5
 have q6:=BC.out.cell 6
 simp at q0 q1 q2 q3 q4 q5 q6
 have hz:=BC.out.lt
 go_wp2_with(go_at_call 52;go_loud(refine(HK.out W (HC.out.kept K0.out)).mono ?_;rintro e w2 ⟨rfl,k2⟩;have K2:=Lib.hid (K0.out.trA k2);clear k2))
 go_ret2
 exact⟨rfl,K2.out⟩
set_option maxRecDepth 100000 in
set_option maxHeartbeats 4000000 in
theorem ocheck_bad (c:Cas) (v:CV) (w:World) (h:RCas w (Old w) v c) (hlen:LayLen c.lay) (h0:casErr c≠0):
  Calls Tryz.prog 69 #[.agg (v.cs c)] w fun e w'=>e= .returned (.int .i64 (casErr c))∧KeepsAll w w':=by
 have HC:=Lib.hid h
 have HK:=Lib.hid (fun W k=>newModel_any c v W k hlen)
 clear h
 obtain⟨⟨A1,A2,A3,A4,c1,c2,c3,c4⟩,B1,B2,B3,dd1,dd2,dd3⟩:=v
 unfold CV.cs at HK⊢
 simp only[]at HK⊢
 have g1:(casErr c==0)=false:=beq_eq_false_iff_ne.2 h0
 generalize casErr c=x at*
 clear h0
 go_enter Tryz.func69,Tryz.ntmps69
 go_upto_region 1 with fail
 generalize hW:World.alloc w _=W
 have K0:Hid (KeepsAll w W):=by subst hW;exact(Keeps.refl _ _).alloc _
 have BC:Hid (Blk W w.heap.size 32 #[.slice A1 c.lay.sts.length c1,.slice A2 c.lay.pts.length c2,.slice A3 c.lay.secs.length c3,.slice A4 c.lay.lks.length c4,.slice B1 c.stks.length dd1,.slice B2 c.rous.length dd2,.slice B3 c.miss.length dd3]):=by subst hW;exact Blk.new _ _ _
 clear hW
 have q0:=BC.out.cell 0
 have q1:=BC.out.cell 1
 have q2:=BC.out.cell 2
 have q3:=BC.out.cell 3
 have q4:=BC.out.cell 4
 have q5:=BC.out.cell 5
 have q6:=BC.out.cell 6
 simp at q0 q1 q2 q3 q4 q5 q6
 have hz:=BC.out.lt
 go_wp2_with(go_at_call 40;go_loud(refine(HK.out W (HC.out.kept K0.out)).mono ?_;rintro e w2 ⟨p,rfl,k2,-,-⟩;have K2:=Lib.hid (K0.out.trA k2);clear k2))
 go_ret
 exact⟨rfl,K2.out⟩
set_option maxRecDepth 100000 in
set_option maxHeartbeats 4000000 in
theorem opaths_bad (c:Cas) (v:CV) (w:World) (h:RCas w (Old w) v c) (hlen:LayLen c.lay) (h0:casErr c≠0):
  Calls Tryz.prog 64 #[.agg (v.cs c)] w fun e w'=>e= .returned (.tuple #[.slice none 0 0,.int .i64 (casErr c)])∧KeepsAll w w':=by
 have HC:=Lib.hid h
 have HK:=Lib.hid (fun W k=>newModel_any c v W k hlen)
 clear h
 obtain⟨⟨A1,A2,A3,A4,c1,c2,c3,c4⟩,B1,B2,B3,dd1,dd2,dd3⟩:=v
 unfold CV.cs at HK⊢
 simp only[]at HK⊢
 have g1:(casErr c==0)=false:=beq_eq_false_iff_ne.2 h0
 generalize casErr c=x at*
 clear h0
 go_enter Tryz.func64,Tryz.ntmps64
 go_upto_region 1 with fail
 generalize hW:World.alloc w _=W
 have K0:Hid (KeepsAll w W):=by subst hW;exact(Keeps.refl _ _).alloc _
 have BC:Hid (Blk W w.heap.size 32 #[.slice A1 c.lay.sts.length c1,.slice A2 c.lay.pts.length c2,.slice A3 c.lay.secs.length c3,.slice A4 c.lay.lks.length c4,.slice B1 c.stks.length dd1,.slice B2 c.rous.length dd2,.slice B3 c.miss.length dd3]):=by subst hW;exact Blk.new _ _ _
 clear hW
 have q0:=BC.out.cell 0
 have q1:=BC.out.cell 1
 have q2:=BC.out.cell 2
 have q3:=BC.out.cell 3
 have q4:=BC.out.cell 4
 have q5:=BC.out.cell 5
 have q6:=BC.out.cell 6
 simp at q0 q1 q2 q3 q4 q5 q6
 have hz:=BC.out.lt
 go_wp2_with(go_at_call 40;go_loud(refine(HK.out W (HC.out.kept K0.out)).mono ?_;rintro e w2 ⟨p,rfl,k2,-,-⟩;have K2:=Lib.hid (K0.out.trA k2);clear k2))
 go_ret2
 exact⟨rfl,K2.out⟩
set_option maxRecDepth 100000 in
set_option maxHeartbeats 4000000 in
theorem oplanned_bad (c:Cas) (v:CV) (w:World) (h:RCas w (Old w) v c) (hlen:LayLen c.lay) (h0:casErr c≠0):
  Calls Tryz.prog 66 #[.agg (v.cs c)] w fun e w'=>e= .returned (.tuple #[.slice none 0 0,.int .i64 (casErr c)])∧KeepsAll w w':=by
 have HC:=Lib.hid h
 have HK:=Lib.hid (fun W k=>newModel_any c v W k hlen)
 clear h
 obtain⟨⟨A1,A2,A3,A4,c1,c2,c3,c4⟩,B1,B2,B3,dd1,dd2,dd3⟩:=v
 unfold CV.cs at HK⊢
 simp only[]at HK⊢
 have g1:(casErr c==0)=false:=beq_eq_false_iff_ne.2 h0
 generalize casErr c=x at*
 clear h0
 go_enter Tryz.func66,Tryz.ntmps66
 go_upto_region 1 with fail
 generalize hW:World.alloc w _=W
 have K0:Hid (KeepsAll w W):=by subst hW;exact(Keeps.refl _ _).alloc _
 have BC:Hid (Blk W w.heap.size 32 #[.slice A1 c.lay.sts.length c1,.slice A2 c.lay.pts.length c2,.slice A3 c.lay.secs.length c3,.slice A4 c.lay.lks.length c4,.slice B1 c.stks.length dd1,.slice B2 c.rous.length dd2,.slice B3 c.miss.length dd3]):=by subst hW;exact Blk.new _ _ _
 clear hW
 have q0:=BC.out.cell 0
 have q1:=BC.out.cell 1
 have q2:=BC.out.cell 2
 have q3:=BC.out.cell 3
 have q4:=BC.out.cell 4
 have q5:=BC.out.cell 5
 have q6:=BC.out.cell 6
 simp at q0 q1 q2 q3 q4 q5 q6
 have hz:=BC.out.lt
 go_wp2_with(go_at_call 40;go_loud(refine(HK.out W (HC.out.kept K0.out)).mono ?_;rintro e w2 ⟨p,rfl,k2,-,-⟩;have K2:=Lib.hid (K0.out.trA k2);clear k2))
 go_ret2
 exact⟨rfl,K2.out⟩
set_option maxRecDepth 100000 in
set_option maxHeartbeats 4000000 in
theorem oorders_bad (c:Cas) (v:CV) (w:World) (h:RCas w (Old w) v c) (hlen:LayLen c.lay) (h0:casErr c≠0):
  Calls Tryz.prog 68 #[.agg (v.cs c)] w fun e w'=>e= .returned (.tuple #[.slice none 0 0,.int .i64 (casErr c)])∧KeepsAll w w':=by
 have HC:=Lib.hid h
 have HK:=Lib.hid (fun W k=>newModel_any c v W k hlen)
 clear h
 obtain⟨⟨A1,A2,A3,A4,c1,c2,c3,c4⟩,B1,B2,B3,dd1,dd2,dd3⟩:=v
 unfold CV.cs at HK⊢
 simp only[]at HK⊢
 have g1:(casErr c==0)=false:=beq_eq_false_iff_ne.2 h0
 generalize casErr c=x at*
 clear h0
 go_enter Tryz.func68,Tryz.ntmps68
 go_upto_region 1 with fail
 generalize hW:World.alloc w _=W
 have K0:Hid (KeepsAll w W):=by subst hW;exact(Keeps.refl _ _).alloc _
 have BC:Hid (Blk W w.heap.size 32 #[.slice A1 c.lay.sts.length c1,.slice A2 c.lay.pts.length c2,.slice A3 c.lay.secs.length c3,.slice A4 c.lay.lks.length c4,.slice B1 c.stks.length dd1,.slice B2 c.rous.length dd2,.slice B3 c.miss.length dd3]):=by subst hW;exact Blk.new _ _ _
 clear hW
 have q0:=BC.out.cell 0
 have q1:=BC.out.cell 1
 have q2:=BC.out.cell 2
 have q3:=BC.out.cell 3
 have q4:=BC.out.cell 4
 have q5:=BC.out.cell 5
 have q6:=BC.out.cell 6
 simp at q0 q1 q2 q3 q4 q5 q6
 have hz:=BC.out.lt
 go_wp2_with(go_at_call 40;go_loud(refine(HK.out W (HC.out.kept K0.out)).mono ?_;rintro e w2 ⟨p,rfl,k2,-,-⟩;have K2:=Lib.hid (K0.out.trA k2);clear k2))
 go_ret2
 exact⟨rfl,K2.out⟩
set_option maxRecDepth 100000 in
set_option maxHeartbeats 4000000 in
theorem orun_bad (c:Cas) (v:CV) (l:Value) (w:World) (h:RCas w (Old w) v c) (hlen:LayLen c.lay) (h0:casErr c≠0):
  Calls Tryz.prog 13 #[.agg (v.cs c),l] w fun e w'=>e= .returned (.tuple #[.slice none 0 0,.int .i64 (casErr c)])∧KeepsAll w w':=by
 have HC:=Lib.hid h
 have HK:=Lib.hid (fun W k=>newModel_any c v W k hlen)
 clear h
 obtain⟨⟨A1,A2,A3,A4,c1,c2,c3,c4⟩,B1,B2,B3,dd1,dd2,dd3⟩:=v
 unfold CV.cs at HK⊢
 simp only[]at HK⊢
 have g1:(casErr c==0)=false:=beq_eq_false_iff_ne.2 h0
 generalize casErr c=x at*
 clear h0
 go_enter Tryz.func13,Tryz.ntmps13
 go_upto_region 1 with fail
 generalize hW:World.alloc w _=W
 have K0:Hid (KeepsAll w W):=by subst hW;exact(Keeps.refl _ _).alloc _
 have BC:Hid (Blk W w.heap.size 32 #[.slice A1 c.lay.sts.length c1,.slice A2 c.lay.pts.length c2,.slice A3 c.lay.secs.length c3,.slice A4 c.lay.lks.length c4,.slice B1 c.stks.length dd1,.slice B2 c.rous.length dd2,.slice B3 c.miss.length dd3]):=by subst hW;exact Blk.new _ _ _
 clear hW
 have q0:=BC.out.cell 0
 have q1:=BC.out.cell 1
 have q2:=BC.out.cell 2
 have q3:=BC.out.cell 3
 have q4:=BC.out.cell 4
 have q5:=BC.out.cell 5
 have q6:=BC.out.cell 6
 simp at q0 q1 q2 q3 q4 q5 q6
 have hz:=BC.out.lt
 go_wp2_with(go_at_call 40;go_loud(refine(HK.out W (HC.out.kept K0.out)).mono ?_;rintro e w2 ⟨p,rfl,k2,-,-⟩;have K2:=Lib.hid (K0.out.trA k2);clear k2))
 go_ret2
 exact⟨rfl,K2.out⟩
set_option maxRecDepth 100000 in
set_option maxHeartbeats 4000000 in
theorem obound_bad (c:Cas) (v:CV) (l:Value) (w:World) (h:RCas w (Old w) v c) (hlen:LayLen c.lay) (h0:casErr c≠0):
  Calls Tryz.prog 17 #[.agg (v.cs c),l] w fun e w'=>e= .returned (.tuple #[.int .i64 0,.int .i64 (casErr c)])∧KeepsAll w w':=by
 have HC:=Lib.hid h
 have HK:=Lib.hid (fun W k=>newModel_any c v W k hlen)
 clear h
 obtain⟨⟨A1,A2,A3,A4,c1,c2,c3,c4⟩,B1,B2,B3,dd1,dd2,dd3⟩:=v
 unfold CV.cs at HK⊢
 simp only[]at HK⊢
 have g1:(casErr c==0)=false:=beq_eq_false_iff_ne.2 h0
 generalize casErr c=x at*
 clear h0
 go_enter Tryz.func17,Tryz.ntmps17
 go_upto_region 1 with fail
 generalize hW:World.alloc w _=W
 have K0:Hid (KeepsAll w W):=by subst hW;exact(Keeps.refl _ _).alloc _
 have BC:Hid (Blk W w.heap.size 32 #[.slice A1 c.lay.sts.length c1,.slice A2 c.lay.pts.length c2,.slice A3 c.lay.secs.length c3,.slice A4 c.lay.lks.length c4,.slice B1 c.stks.length dd1,.slice B2 c.rous.length dd2,.slice B3 c.miss.length dd3]):=by subst hW;exact Blk.new _ _ _
 clear hW
 have q0:=BC.out.cell 0
 have q1:=BC.out.cell 1
 have q2:=BC.out.cell 2
 have q3:=BC.out.cell 3
 have q4:=BC.out.cell 4
 have q5:=BC.out.cell 5
 have q6:=BC.out.cell 6
 simp at q0 q1 q2 q3 q4 q5 q6
 have hz:=BC.out.lt
 go_wp2_with(go_at_call 40;go_loud(refine(HK.out W (HC.out.kept K0.out)).mono ?_;rintro e w2 ⟨p,rfl,k2,-,-⟩;have K2:=Lib.hid (K0.out.trA k2);clear k2))
 go_ret2
 exact⟨rfl,K2.out⟩
end
section
open Go.RowKit
section
variable {w:World} {g:Nat} {t:TypeId} {a b c d e f i j k:Value} {r:List Value}
theorem Blk.c7 (h:Blk w g t (a::b::c::d::e::f::i::r).toArray):w.cell? ⟨g,0,none⟩=some a∧w.cell? ⟨g,1,none⟩=some b∧w.cell? ⟨g,2,none⟩=some c∧w.cell? ⟨g,3,none⟩=some d∧w.cell? ⟨g,4,none⟩=some e∧w.cell? ⟨g,5,none⟩=some f∧w.cell? ⟨g,6,none⟩=some i:=⟨h.cell 0,h.cell 1,h.cell 2,h.cell 3,h.cell 4,h.cell 5,h.cell 6⟩
end
end
section
open Go.RowKit
set_option maxRecDepth 100000 in
theorem sameTen_nil (w:World):Calls Tryz.prog 71 #[.slice none 0 0,.slice none 0 0] w fun e w'=>e= .returned (.bool true)∧KeepsAll w w':=by
 go_enter Tryz.func71,Tryz.ntmps71
 go_wp2_with fail
 go_loopw [13] (fun i wr=>i= .int .i64 0∧KeepsAll w wr) (fun _ _=>0)
 case atStart=>exact⟨rfl,Keeps.refl _ _⟩
 case round=>
  obtain⟨rfl,hk⟩:=hrel
  go_wp2_with fail
  go_ret
  exact⟨rfl,hk⟩
set_option maxRecDepth 100000 in
theorem samePaths_nil (w:World):Calls Tryz.prog 70 #[.slice none 0 0,.slice none 0 0] w fun e w'=>e= .returned (.bool true)∧KeepsAll w w':=by
 go_enter Tryz.func70,Tryz.ntmps70
 go_wp2_with fail
 go_loopw [13] (fun i wr=>i= .int .i64 0∧KeepsAll w wr) (fun _ _=>0)
 case atStart=>exact⟨rfl,Keeps.refl _ _⟩
 case round=>
  obtain⟨rfl,hk⟩:=hrel
  go_wp2_with fail
  go_ret
  exact⟨rfl,hk⟩
set_option maxRecDepth 100000 in
theorem sameOrds_nil (w:World):Calls Tryz.prog 72 #[.slice none 0 0,.slice none 0 0] w fun e w'=>e= .returned (.bool true)∧KeepsAll w w':=by
 go_enter Tryz.func72,Tryz.ntmps72
 go_wp2_with fail
 go_loopw [13] (fun i wr=>i= .int .i64 0∧KeepsAll w wr) (fun _ _=>0)
 case atStart=>exact⟨rfl,Keeps.refl _ _⟩
 case round=>
  obtain⟨rfl,hk⟩:=hrel
  go_wp2_with fail
  go_ret
  exact⟨rfl,hk⟩
set_option maxRecDepth 100000 in
set_option maxHeartbeats 8000000 in
theorem same_bad (c:Cas) (v:CV) (w:World) (h:RCas w (Old w) v c) (hlen:LayLen c.lay) (h0:casErr c≠0):
  Calls Tryz.prog 23 #[.agg (v.cs c)] w fun e w'=>e= .returned (.bool true)∧KeepsAll w w':=by
 have HC:=Lib.hid h
 have H1:=Lib.hid (fun W k=>opaths_bad c v W k hlen h0)
 have H2:=Lib.hid (fun W k=>rpaths_bad c v W k hlen h0)
 have H3:=Lib.hid (fun W k=>oplanned_bad c v W k hlen h0)
 have H4:=Lib.hid (fun W k=>rplanned_bad c v W k hlen h0)
 have H5:=Lib.hid (fun W k=>oorders_bad c v W k hlen h0)
 have H6:=Lib.hid (fun W k=>rorders_bad c v W k hlen h0)
 have H7:=Lib.hid (fun W k=>ocheck_bad c v W k hlen h0)
 have H8:=Lib.hid (fun W k=>rcheck39_any c v W k hlen)
 clear h
 obtain⟨⟨A1,A2,A3,A4,c1,c2,c3,c4⟩,B1,B2,B3,dd1,dd2,dd3⟩:=v
 unfold CV.cs at H1 H2 H3 H4 H5 H6 H7 H8⊢
 simp only[]at H1 H2 H3 H4 H5 H6 H7 H8⊢
 have g1:(casErr c==casErr c)=true:=beq_self_eq_true _
 generalize casErr c=x at*
 clear h0
 go_enter Tryz.func23,Tryz.ntmps23
 go_upto_region 1 with fail
 generalize hW:World.alloc w _=W
 have K0:Hid (KeepsAll w W):=by subst hW;exact(Keeps.refl _ _).alloc _
 have BC:Hid (Blk W w.heap.size 32 #[.slice A1 c.lay.sts.length c1,.slice A2 c.lay.pts.length c2,.slice A3 c.lay.secs.length c3,.slice A4 c.lay.lks.length c4,.slice B1 c.stks.length dd1,.slice B2 c.rous.length dd2,.slice B3 c.miss.length dd3]):=by subst hW;exact Blk.new _ _ _
 have hz:w.heap.size<W.heap.size:=BC.out.lt
 clear hW
 obtain⟨q0,q1,q2,q3,q4,q5,q6⟩:=Blk.c7 BC.out
 go_upto_region 2 with(go_at_call 64;go_loud(refine(H1.out W (HC.out.kept K0.out)).mono ?_;rintro e w1 ⟨rfl,k⟩;replace K0:=Lib.hid (K0.out.trA k);replace BC:=Lib.hid (BC.out.kept k (by simp));clear k q0 q1 q2 q3 q4 q5 q6 H1;obtain⟨q0,q1,q2,q3,q4,q5,q6⟩:=Blk.c7 BC.out))
 go_upto_region 3 with(go_at_call 65;go_loud(refine(H2.out w1 (HC.out.kept K0.out)).mono ?_;rintro e w2 ⟨rfl,k⟩;replace K0:=Lib.hid (K0.out.trA k);replace BC:=Lib.hid (BC.out.kept k (by simp));clear k q0 q1 q2 q3 q4 q5 q6 H2;obtain⟨q0,q1,q2,q3,q4,q5,q6⟩:=Blk.c7 BC.out))
 go_upto_region 4 with(go_at_call 66;go_loud(refine(H3.out w2 (HC.out.kept K0.out)).mono ?_;rintro e w3 ⟨rfl,k⟩;replace K0:=Lib.hid (K0.out.trA k);replace BC:=Lib.hid (BC.out.kept k (by simp));clear k q0 q1 q2 q3 q4 q5 q6 H3;obtain⟨q0,q1,q2,q3,q4,q5,q6⟩:=Blk.c7 BC.out))
 go_upto_region 5 with(go_at_call 67;go_loud(refine(H4.out w3 (HC.out.kept K0.out)).mono ?_;rintro e w4 ⟨rfl,k⟩;replace K0:=Lib.hid (K0.out.trA k);replace BC:=Lib.hid (BC.out.kept k (by simp));clear k q0 q1 q2 q3 q4 q5 q6 H4;obtain⟨q0,q1,q2,q3,q4,q5,q6⟩:=Blk.c7 BC.out))
 go_upto_region 6 with(go_at_call 68;go_loud(refine(H5.out w4 (HC.out.kept K0.out)).mono ?_;rintro e w5 ⟨rfl,k⟩;replace K0:=Lib.hid (K0.out.trA k);replace BC:=Lib.hid (BC.out.kept k (by simp));clear k q0 q1 q2 q3 q4 q5 q6 H5;obtain⟨q0,q1,q2,q3,q4,q5,q6⟩:=Blk.c7 BC.out))
 go_upto_region 7 with(go_at_call 53;go_loud(refine(H6.out w5 (HC.out.kept K0.out)).mono ?_;rintro e w6 ⟨rfl,k⟩;replace K0:=Lib.hid (K0.out.trA k);replace BC:=Lib.hid (BC.out.kept k (by simp));clear k q0 q1 q2 q3 q4 q5 q6 H6;obtain⟨q0,q1,q2,q3,q4,q5,q6⟩:=Blk.c7 BC.out))
 have y0:=Ext.cell q0
 have y1:=Ext.cell q1
 have y2:=Ext.cell q2
 have y3:=Ext.cell q3
 have y4:=Ext.cell q4
 have y5:=Ext.cell q5
 have y6:=Ext.cell q6
 clear q0 q1 q2 q3 q4 q5 q6 BC
 refine wp_region_lexB (fun w'=>∃x:Ext w6,w'=x.val) [0,2,1,3,4,5,6,7,8,9,10,11,12,13,14,15,16,17,18,19,20,21,22,23,24,25,26,27,28,29,30,31,32,33,34,35] (by kernel_rfl) (by kernel_rfl) ⟨⟨_,(Keeps.refl _ _).drew⟩,rfl⟩ ?_
 iterate 2 (refine lex_q _ rfl rfl rfl ?_;go_big_quiet_step (fail);refine wpQuiet_nil ?_)
 clear y0 y1 y2 y3 y4 y5 y6
 have KD:Hid (KeepsAll w6 w6.drew):=(Keeps.refl _ _).drew
 generalize w6.drew=wd at*
 refine lex_a _ rfl rfl true (by kernel_rfl) ?_
 go_wp2_with(go_at_call 69;refine(H7.out wd (HC.out.kept (K0.out.trA KD.out))).mono ?_;rintro e w7 ⟨rfl,k⟩)
 replace KD:=Lib.hid (KD.out.trA k)
 clear k
 refine⟨fun _=>⟨⟨_,KD.out⟩,rfl⟩,?_⟩
 refine lex_a _ rfl rfl true (by kernel_rfl) ?_
 go_wp2_with(go_at_call 10;refine(H8.out w7 (HC.out.kept (K0.out.trA KD.out))).mono ?_;rintro e w8 ⟨rfl,k⟩)
 replace KD:=Lib.hid (KD.out.trA k)
 clear k
 refine⟨fun _=>⟨⟨_,KD.out⟩,rfl⟩,?_⟩
 iterate 4 (refine lex_q _ rfl rfl rfl ?_;go_big_quiet_step (fail);refine wpQuiet_nil ?_)
 refine lex_a _ rfl rfl true (by kernel_rfl) ?_
 go_wp2_with(go_at_call 70;refine(samePaths_nil w8).mono ?_;rintro e w9 ⟨rfl,k⟩)
 replace KD:=Lib.hid (KD.out.trA k)
 clear k
 refine⟨fun _=>⟨⟨_,KD.out⟩,rfl⟩,?_⟩
 iterate 9 (refine lex_q _ rfl rfl rfl ?_;go_big_quiet_step (fail);refine wpQuiet_nil ?_)
 refine lex_a _ rfl rfl true (by kernel_rfl) ?_
 go_wp2_with(go_at_call 71;refine(sameTen_nil w9).mono ?_;rintro e w10 ⟨rfl,k⟩)
 replace KD:=Lib.hid (KD.out.trA k)
 clear k
 refine⟨fun _=>⟨⟨_,KD.out⟩,rfl⟩,?_⟩
 iterate 9 (refine lex_q _ rfl rfl rfl ?_;go_big_quiet_step (fail);refine wpQuiet_nil ?_)
 refine lex_a _ rfl rfl true (by kernel_rfl) ?_
 go_wp2_with(go_at_call 72;refine(sameOrds_nil w10).mono ?_;rintro e w11 ⟨rfl,k⟩)
 replace KD:=Lib.hid (KD.out.trA k)
 clear k
 refine⟨fun _=>⟨⟨_,KD.out⟩,rfl⟩,?_⟩
 iterate 7 (refine lex_q _ rfl rfl rfl ?_;go_big_quiet_step (fail);refine wpQuiet_nil ?_)
 simp only[wpLex]
 refine NoPanic.normal ?_
 go_wp2_with fail
 go_ret
 exact⟨rfl,K0.out.trA KD.out⟩
set_option maxRecDepth 100000 in
set_option maxHeartbeats 8000000 in
theorem OperateRaw_walk (haw:∀w,Calls Tryz.prog 11 #[] w fun e w'=>e= .returned (.bool true)∧KeepsAll w w')
  (c:Cas) (v:CV) (A:Option Addr) (n u:Nat) (w:World) (h:RCas w (Old w) v c) (hlen:LayLen c.lay):
  Calls Tryz.prog 7 #[.agg (v.cs c),.slice A n u] w fun e w'=>e= .returned (.bool true)∧KeepsAll w w':=by
 have HC:=Lib.hid h
 have HA:=Lib.hid haw
 have H1:=Lib.hid (fun h0 W k=>orun_bad c v (.slice A n u) W k hlen h0)
 have H2:=Lib.hid (fun h0 W k=>rrun_bad c v (.slice A n u) W k hlen h0)
 have H3:=Lib.hid (fun h0 W k=>obound_bad c v (.slice A n u) W k hlen h0)
 have H4:=Lib.hid (fun h0 W k=>rbound_bad c v (.slice A n u) W k hlen h0)
 have H5:=Lib.hid (fun h0 W k=>same_bad c v W k hlen h0)
 have H8:=Lib.hid (fun W k=>rcheck39_any c v W k hlen)
 clear h haw
 obtain⟨⟨A1,A2,A3,A4,c1,c2,c3,c4⟩,B1,B2,B3,dd1,dd2,dd3⟩:=v
 unfold CV.cs at H1 H2 H3 H4 H5 H8⊢
 simp only[]at H1 H2 H3 H4 H5 H8⊢
 generalize casErr c=x at*
 go_enter Tryz.func7,Tryz.ntmps7
 go_upto_region 1 with fail
 generalize hW:World.alloc w _=W
 have K0:Hid (KeepsAll w W):=by subst hW;exact(Keeps.refl _ _).alloc _
 have BC:Hid (Blk W w.heap.size 32 #[.slice A1 c.lay.sts.length c1,.slice A2 c.lay.pts.length c2,.slice A3 c.lay.secs.length c3,.slice A4 c.lay.lks.length c4,.slice B1 c.stks.length dd1,.slice B2 c.rous.length dd2,.slice B3 c.miss.length dd3]):=by subst hW;exact Blk.new _ _ _
 have hz:w.heap.size<W.heap.size:=BC.out.lt
 clear hW
 obtain⟨q0,q1,q2,q3,q4,q5,q6⟩:=Blk.c7 BC.out
 go_upto_if 15 with(go_at_call 10;go_loud(refine(H8.out W (HC.out.kept K0.out)).mono ?_;rintro e w1 ⟨rfl,k⟩;replace K0:=Lib.hid (K0.out.trA k);replace BC:=Lib.hid (BC.out.kept k (by simp));clear k q0 q1 q2 q3 q4 q5 q6 H8;obtain⟨q0,q1,q2,q3,q4,q5,q6⟩:=Blk.c7 BC.out))
 by_cases h0:x=0
 ·have g1:(x==0)=true:=beq_iff_eq.2 h0
  go_wp2_with(go_at_call 11;go_loud(refine(HA.out w1).mono ?_;rintro e w2 ⟨rfl,k⟩;replace K0:=Lib.hid (K0.out.trA k)))
  go_ret
  exact⟨rfl,K0.out⟩
 replace H1:=Lib.hid (H1.out h0)
 replace H2:=Lib.hid (H2.out h0)
 replace H3:=Lib.hid (H3.out h0)
 replace H4:=Lib.hid (H4.out h0)
 replace H5:=Lib.hid (H5.out h0)
 have g1:(x==0)=false:=beq_eq_false_iff_ne.2 h0
 have g2:(x==x)=true:=beq_self_eq_true _
 go_upto_region 4 with(go_at_call 13;go_loud(refine(H1.out w1 (HC.out.kept K0.out)).mono ?_;rintro e w2 ⟨rfl,k⟩;replace K0:=Lib.hid (K0.out.trA k);replace BC:=Lib.hid (BC.out.kept k (by simp));clear k q0 q1 q2 q3 q4 q5 q6 H1;obtain⟨q0,q1,q2,q3,q4,q5,q6⟩:=Blk.c7 BC.out))
 go_upto_region 5 with(go_at_call 14;go_loud(refine(H2.out w2 (HC.out.kept K0.out)).mono ?_;rintro e w3 ⟨rfl,k⟩;replace K0:=Lib.hid (K0.out.trA k);replace BC:=Lib.hid (BC.out.kept k (by simp));clear k q0 q1 q2 q3 q4 q5 q6 H2;obtain⟨q0,q1,q2,q3,q4,q5,q6⟩:=Blk.c7 BC.out))
 go_upto_region 6 with(go_at_call 17;go_loud(refine(H3.out w3 (HC.out.kept K0.out)).mono ?_;rintro e w4 ⟨rfl,k⟩;replace K0:=Lib.hid (K0.out.trA k);replace BC:=Lib.hid (BC.out.kept k (by simp));clear k q0 q1 q2 q3 q4 q5 q6 H3;obtain⟨q0,q1,q2,q3,q4,q5,q6⟩:=Blk.c7 BC.out))
 go_upto_region 7 with(go_at_call 18;go_loud(refine(H4.out w4 (HC.out.kept K0.out)).mono ?_;rintro e w5 ⟨rfl,k⟩;replace K0:=Lib.hid (K0.out.trA k);replace BC:=Lib.hid (BC.out.kept k (by simp));clear k q0 q1 q2 q3 q4 q5 q6 H4;obtain⟨q0,q1,q2,q3,q4,q5,q6⟩:=Blk.c7 BC.out))
 go_wp2_with(first
  |(go_at_call 11;go_loud(refine(HA.out w5).mono ?_;rintro e w6 ⟨rfl,k⟩;replace K0:=Lib.hid (K0.out.trA k);replace BC:=Lib.hid (BC.out.kept k (by simp));clear k q0 q1 q2 q3 q4 q5 q6;obtain⟨q0,q1,q2,q3,q4,q5,q6⟩:=Blk.c7 BC.out))
  |(go_at_call 23;go_loud(refine(H5.out _ (HC.out.kept K0.out)).mono ?_;rintro e w7 ⟨rfl,k⟩;replace K0:=Lib.hid (K0.out.trA k))))
 go_ret
 exact⟨rfl,K0.out⟩
end
end Go.Proofs.YtcbcegdidlefiaaGreat
