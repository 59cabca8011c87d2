/- Contract of undo of the graph of chapter 37. Conditions: as each theorem says. Contract of deadlock.Check: it returns what the reference's CheckState returns. Conditions: as the theorem says. Contracts of lateness and Check of chapter 37. Conditions: as each theorem says. -/
import Derived.Test.YtilbbpbjhoidhaaE19
import Derived.Test.YtilbbpbjhoidhaaE12
import Derived.Test.YtilbbpbjhoidhaaE04
import Derived.Test.YtilbbpbjhoidhaaE05
import Derived.Test.YtilbbpbjhoidhaaE06
namespace Go.Proofs.Ytilbbpbjhoidhaa
open Go.RowKit

structure UnS (s : GS) (lg0 : List Chg) (st0 : LTab × List (List Int)) (qd0 : List Bool) (d : GD) : Prop where
 ex : ∃ es, d.lg = lg0 ++ es ∧ UndoR (evs s.ps) st0 es.reverse (d.T, d.N)
 qd : d.qd = qd0
theorem UnS.step {s : GS} {lg0 : List Chg} {st0 : LTab × List (List Int)} {qd0 : List Bool} {d : GD} (h : UnS s lg0 st0 qd0 d) (hl : lg0.length < d.lg.length) : ∃ (l : List Chg) (c : Chg) (e : Nat), d.lg = l ++ [c] ∧ lg0.length ≤ l.length ∧ c.ev = (e : Int) ∧ e < s.n ∧ (c.added = true → ∃ r x, d.N[e]? = some (r ++ [x])) ∧
  ∀ d', (d'.T, d'.N) = undo1 (evs s.ps) c (d.T, d.N) → d'.lg = l → d'.qd = d.qd → UnS s lg0 st0 qd0 d' := by
 obtain ⟨es, h1, h2⟩ := h.ex
 rcases List.eq_nil_or_concat es with rfl | ⟨es', c, rfl⟩
 ·rw [h1] at hl; simp at hl
 ·rw [List.concat_eq_append, List.reverse_append, List.reverse_cons, List.reverse_nil, List.nil_append, List.cons_append, List.nil_append] at h2
  obtain ⟨⟨e, he, hlt, ha⟩, h3⟩ := h2
  refine ⟨lg0 ++ es', c, e, by rw [h1, List.concat_eq_append, List.append_assoc], by simp, he, hlt, ha, fun d' hd hl' hq => ⟨⟨es', hl', by rw [hd]; exact h3⟩, hq.trans h.qd⟩⟩
theorem UnS.done {s : GS} {lg0 : List Chg} {st0 : LTab × List (List Int)} {qd0 : List Bool} {d : GD} (h : UnS s lg0 st0 qd0 d) (hl : d.lg.length ≤ lg0.length) : d.lg = lg0 ∧ d.T = st0.1 ∧ d.N = st0.2 ∧ d.qd = qd0 := by
 obtain ⟨es, h1, h2⟩ := h.ex
 have : es = [] := List.eq_nil_of_length_eq_zero (by rw [h1, List.length_append] at hl; omega)
 subst this
 have h2 : (d.T, d.N) = st0 := h2
 rw [← h2]
 exact ⟨by simpa using h1, rfl, rfl, h.qd⟩

def lgLen (gb : Nat) (w : World) : Nat := match w.cell? ⟨gb, 9, none⟩ with
 | some (.slice _ n _) => n
 | _ => 0
theorem Gm.lgLen {s : GS} {w0 w : World} {d : GD} (h : Gm s w0 w d) : lgLen s.gb w = d.lg.length := by
 obtain ⟨A, c, hv, _⟩ := h.lg.form
 unfold Go.Proofs.Ytilbbpbjhoidhaa.lgLen
 rw [h.c9, hv]
theorem undo1_arc {E : List Ref} {c : Chg} {e : Nat} (he : c.ev = (e : Int)) (ha : c.added = true) {T : LTab} {N : List (List Int)} {l : List Int} {x : Int} (hN : N[e]? = some (l ++ [x])) : undo1 E c (T, N) = (T, N.set e l) := by
 unfold undo1
 rw [if_pos ha, he]
 simp only [Int.toNat_natCast, hN, Option.getD_some, List.dropLast_concat]
theorem undo1_lab {E : List Ref} {c : Chg} {e : Nat} (he : c.ev = (e : Int)) (ha : c.added = false) {T : LTab} {N : List (List Int)} {u : Ref} (hu : E[e]? = some u) : undo1 E c (T, N) = (updL T u c.old, N) := by
 unfold undo1
 rw [if_neg (by rw [ha]; simp), he]
 simp only [Int.toNat_natCast, hu, Option.getD_some]

set_option maxRecDepth 100000 in
set_option maxHeartbeats 4000000 in
theorem undo_any (s : GS) (w0 w : World) (d : GD) (h : Gm s w0 w d) (lg0 : List Chg) (st0 : LTab × List (List Int)) (qd0 : List Bool) (hu : UnS s lg0 st0 qd0 d) (hlg : d.lg.length ≤ 3000000000000) :
  Calls Try.prog 71 #[.pointer (some ⟨s.gb, 0, none⟩), .int .i64 (lg0.length : Int)] w fun e w' => e = .returned (.tuple #[]) ∧ ∃ d', Gm s w0 w' d' ∧ d'.lg = lg0 ∧ d'.T = st0.1 ∧ d'.N = st0.2 ∧ d'.qd = qd0 := by
 have H := Lib.hid h
 have HU := Lib.hid hu
 clear h hu
 go_enter Try.func71, Try.ntmps71
 go_wp2
 go_loopw [] (fun wr => ∃ dk : GD, Gm s w0 wr dk ∧ UnS s lg0 st0 qd0 dk ∧ dk.lg.length ≤ 3000000000000) (fun wr => lgLen s.gb wr)
 case atStart => exact ⟨d, H.out, HU.out, hlg⟩
 case round =>
  obtain ⟨dk, hg, hu, hlk⟩ := hrel
  have HG := Lib.hid hg
  obtain ⟨AL, cL, hlv, hcl, _⟩ := hg.lg.form
  have HLV := Lib.hid hlv
  have c9 := hg.c9
  rw [hlv] at c9
  by_cases hlt : lg0.length < dk.lg.length
  ·have hlt' : decide (dk.lg.length > lg0.length) = true := decide_eq_true hlt
   obtain ⟨l, c, e, hl, hl2, he, hen, hadd, hstep⟩ := hu.step hlt
   have HSTEP := Lib.hid hstep
   have hll : dk.lg.length = l.length + 1 := by rw [hl]; simp
   have HL := Lib.hid hl
   have HE := Lib.hid (And.intro he hadd)
   have HLL := Lib.hid hll
   have hOL : OwnL 154 13 RChg wr s.bs s.bs (.slice AL (l.length + 1) cL) (l ++ [c]) := by rw [← hll, ← hl, ← hlv]; exact hg.lg
   obtain ⟨bL, rfl, _⟩ := hOL.some_ (by simp)
   obtain ⟨b', o', x, es, hA, _, hx, hes, hR, hc⟩ := RSlice.get (hOL.readF RChg.ok RChg.flat (S := fun _ => True) (fun _ _ => trivial)) (k := l.length) (by simp)
   injection hA with hA
   injection hA with hA1 hA2
   subst hA1 hA2
   obtain rfl : c = x := by simpa using hx
   have hR : es = [.int .i64 c.ev, .bool c.added] ++ (labC c.old).toList := hR
   subst hR
   rw [he] at hc
   have HOL := Lib.hid hOL
   have r0 := hc 0 _ rfl
   have r1 := hc 1 _ rfl
   have r2 := hc 2 _ rfl
   have r3 := hc 3 _ rfl
   have r4 := hc 4 _ rfl
   have r5 := hc 5 _ rfl
   have r6 := hc 6 _ rfl
   have r7 := hc 7 _ rfl
   have r8 := hc 8 _ rfl
   have r9 := hc 9 _ rfl
   have r10 := hc 10 _ rfl
   have r11 := hc 11 _ rfl
   have r12 := hc 12 _ rfl
   simp [b8] at r0 r1 r2 r3 r4 r5 r6 r7 r8 r9 r10 r11 r12
   rw [hll] at c9 hlk hlt' hcl
   have hcl2 : l.length ≤ cL := by omega
   clear hg hu hlv hl he hadd hstep hll hOL hx hes hc hlt
   go_wp2
   refine wp_region_lex (fun w' => ∃ x : Ext wr, w' = x.val) [0, 1, 2, 3, 4, 5, 6, 7, 8, 9, 10, 11, 12, 13] (by kernel_rfl) (by kernel_rfl) ⟨⟨_, (Keeps.refl _ _).drew⟩, rfl⟩ ?_
   have y9 := Ext.cell c9
   have x0 := Ext.cell r0
   have x1 := Ext.cell r1
   have x2 := Ext.cell r2
   have x3 := Ext.cell r3
   have x4 := Ext.cell r4
   have x5 := Ext.cell r5
   have x6 := Ext.cell r6
   have x7 := Ext.cell r7
   have x8 := Ext.cell r8
   have x9 := Ext.cell r9
   have x10 := Ext.cell r10
   have x11 := Ext.cell r11
   have x12 := Ext.cell r12
   have hw1 : IntKind.i64.wrap ((l.length : Int) + 1 - 1) = (l.length : Int) := by rw [IntWalk.i64_in _ (by omega)]; omega
   refine lex_q _ rfl rfl rfl ?_; go_big_quiet_step (fail); refine wpQuiet_nil ?_
   refine lex_nil _ rfl _ rfl rfl _ rfl ?_; go_simp
   iterate 3 (refine lex_q _ rfl rfl rfl ?_; go_big_quiet_step (fail); refine wpQuiet_nil ?_)
   refine lex_nil _ rfl _ rfl rfl _ rfl ?_; go_simp
   iterate 6 (refine lex_q _ rfl rfl rfl ?_; go_big_quiet_step (fail); refine wpQuiet_nil ?_)
   refine lex_a _ rfl rfl true (by kernel_rfl) ?_
   go_wp2
   refine ⟨fun _ => ⟨⟨_, ((Keeps.refl _ _).alloc _).drew⟩, rfl⟩, ?_⟩
   refine lex_a _ rfl rfl false (by kernel_rfl) ?_
   go_wp2
   (try refine ⟨fun h => (by cases h), ?_⟩)
   simp only [wpLex]
   refine NoPanic.normal ?_
   generalize hWd : World.drew (World.alloc wr _) = Wd
   have KD : KeepsAll wr Wd := by subst hWd; exact ((Keeps.refl _ _).alloc _).drew
   have HBC : Hid (Blk Wd wr.heap.size 154 #[.int .i64 (e : Int), .bool c.added, .int .i64 c.old.sec, .int .i8 (c.old.bf 0), .int .i8 (c.old.bf 1), .int .i8 (c.old.bf 2), .int .i8 (c.old.bf 3), .int .i8 (c.old.bf 4), .int .i8 (c.old.bf 5), .int .i8 (c.old.bf 6), .int .i8 (c.old.bf 7), .int .i8 (c.old.bf 8), .int .i8 (c.old.bf 9)]) := by subst hWd; exact Blk.new wr _ _
   have HGD := Lib.hid (HG.out.keep KD)
   have c9d := KD.cellK (p := ⟨s.gb, 9, none⟩) HG.out.b.lt c9
   have HOD := Lib.hid (HOL.out.keepsF RChg.flat KD (fun _ _ h => h))
   clear hWd KD c9 y9 x0 x1 x2 x3 x4 x5 x6 x7 x8 x9 x10 x11 x12 r0 r1 r2 r3 r4 r5 r6 r7 r8 r9 r10 r11 r12 hR HOL
   generalize wr.heap.size = zc at *
   go_wp2
   refine wp_region_lex (fun w' => ∃ x : Ext Wd, w' = x.val) [0, 1, 2, 3, 4, 5, 6, 7, 8, 9, 10, 11, 12, 13, 14] (by kernel_rfl) (by kernel_rfl) ⟨⟨_, (Keeps.refl _ _).drew⟩, rfl⟩ ?_
   have y9 := Ext.cell c9d
   iterate 2 (refine lex_q _ rfl rfl rfl ?_; go_big_quiet_step (fail); refine wpQuiet_nil ?_)
   refine lex_nil _ rfl _ rfl rfl _ rfl ?_; go_simp
   iterate 3 (refine lex_q _ rfl rfl rfl ?_; go_big_quiet_step (fail); refine wpQuiet_nil ?_)
   refine lex_nil _ rfl _ rfl rfl _ rfl ?_; go_simp
   iterate 5 (refine lex_q _ rfl rfl rfl ?_; go_big_quiet_step (fail); refine wpQuiet_nil ?_)
   refine lex_nil _ rfl _ rfl rfl _ rfl ?_; go_simp
   refine lex_q _ rfl rfl rfl ?_; go_big_quiet_step (fail); refine wpQuiet_nil ?_
   refine lex_a _ rfl rfl false (by kernel_rfl) ?_
   have KE : KeepsAll Wd Wd.drew := (Keeps.refl _ _).drew
   have HGE := Lib.hid (HGD.out.keep KE)
   have HBE := Lib.hid (HBC.out.kept KE (by simp))
   have HOE := Lib.hid (HOD.out.keepsF RChg.flat KE (fun _ _ h => h))
   have c9e := KE.cellK (p := ⟨s.gb, 9, none⟩) HGD.out.b.lt c9d
   have f9e := HGE.out.b.frozen 9
   clear y9 c9d HGD HBC HOD KE
   generalize Wd.drew = We at *
   go_wp2
   (try refine ⟨fun h => (by cases h), ?_⟩)
   simp only [wpLex]
   refine NoPanic.normal ?_
   have HOC : Hid (OwnL 154 13 RChg We s.bs s.bs (.slice (some ⟨bL, 0, none⟩) l.length cL) l) := by
    have h1 := HOE.out.cut (k := l.length) (by simp) (.inl (by simp))
    rw [List.take_left' rfl] at h1
    exact h1
   have HGF := Lib.hid (HGE.out.log HOC.out (Keeps.refl _ _) (.inr (.inl (by rw [HLV.out]; rfl))))
   have hzg : zc ≠ s.gb := Blk.ne_ HBE.out HGE.out.b (by decide)
   have HBF := Lib.hid (HBE.out.far (p := ⟨s.gb, 9, none⟩) hzg (.slice (some ⟨bL, 0, none⟩) l.length cL))
   clear HGE HBE HOE c9e f9e HOC hzg
   generalize hWf : World.setCell We _ _ = Wf
   rw [hWf] at HGF HBF
   clear hWf
   clear We
   have q0 := HBF.out.cell 0
   have q1 := HBF.out.cell 1
   simp at q0 q1
   obtain ⟨hev, hadd⟩ := HE.out
   have hnn : e < (evs s.ps).length := hen
   by_cases hca : c.added = true
   ·obtain ⟨r, x, hr⟩ := hadd hca
    obtain ⟨Ar, cr, l2, hv2, hl2, hown2, hcell2, hfr2, hcr2, _⟩ := HGF.out.row hen
    have hl2' : dk.N[e]? = some l2 := hl2
    rw [hr] at hl2'
    injection hl2' with hl2'
    subst hl2'
    obtain ⟨br, rfl, _⟩ := hown2.some_ (by simp)
    have hv2' : dk.vs[e]? = some (.slice (some ⟨br, 0, none⟩) (r ++ [x]).length cr) := hv2
    have hcut := hown2.cut (k := r.length) (by simp) (.inl (by simp))
    rw [List.take_left' rfl] at hcut
    have HGH := Lib.hid ((HGF.out.keep ((Keeps.refl _ _).drew)).setRow hv2 hl2 (hcut.keepsF RInt.flat (Keeps.refl (fun _ => False) _).drew (fun _ _ h => h)) (Keeps.refl _ _) (.inl (by rfl)))
    have HUS := Lib.hid (HSTEP.out { dk with lgv := .slice (some ⟨bL, 0, none⟩) l.length cL, lg := l, vs := dk.vs.set e (.slice (some ⟨br, 0, none⟩) r.length cr), N := dk.N.set e r } (by rw [undo1_arc hev hca hr]) rfl rfl)
    have c8 := HGF.out.c8
    rw [List.length_append, List.length_singleton] at hcell2 hcr2
    have hcr3 : r.length ≤ cr := by omega
    have hHE := Lib.hid (And.intro hev hr)
    rw [hca] at q1
    clear hl2 hv2 hown2 hcut hv2' hca hev hadd hr HGF HE HSTEP
    go_wp2
    refine wp_region_lex (fun w' => ∃ x : Ext Wf, w' = x.val) [0, 1, 2, 3, 4, 5, 6, 7, 8, 9, 10, 11, 12, 13, 14, 15, 16, 17, 18, 19, 20, 21, 22, 23, 24, 25, 26] (by kernel_rfl) (by kernel_rfl) ⟨⟨_, (Keeps.refl _ _).drew⟩, rfl⟩ ?_
    have y8 := Ext.cell c8
    have y0 := Ext.cell q0
    have yr := Ext.cell hcell2
    refine lex_q _ rfl rfl rfl ?_; go_big_quiet_step (fail); refine wpQuiet_nil ?_
    refine lex_nil _ rfl _ rfl rfl _ rfl ?_; go_simp
    iterate 5 (refine lex_q _ rfl rfl rfl ?_; go_big_quiet_step (fail); refine wpQuiet_nil ?_)
    refine lex_nil _ rfl _ rfl rfl _ rfl ?_; go_simp
    iterate 7 (refine lex_q _ rfl rfl rfl ?_; go_big_quiet_step (fail); refine wpQuiet_nil ?_)
    refine lex_nil _ rfl _ rfl rfl _ rfl ?_; go_simp
    iterate 10 (refine lex_q _ rfl rfl rfl ?_; go_big_quiet_step (fail); refine wpQuiet_nil ?_)
    refine lex_a _ rfl rfl false (by kernel_rfl) ?_
    have z2 : Wf.drew.cell? ⟨s.nb, e, none⟩ = some (.slice (some ⟨br, 0, none⟩) (r.length + 1) cr) := hcell2
    have zf : Wf.drew.frozen? ⟨s.nb, e, none⟩ = false := hfr2
    clear y8 y0 yr
    go_wp2
    (try refine ⟨fun h => (by cases h), ?_⟩)
    simp only [wpLex]
    refine NoPanic.normal ?_
    go_wp2
    go_roundw
    case rel => exact ⟨_, HGH.out, HUS.out, by show l.length ≤ _; omega⟩
    case measure => exact Nat.lt_of_le_of_lt (Nat.le_of_eq HGH.out.lgLen) (by rw [HG.out.lgLen, HLL.out]; exact Nat.lt_succ_self _)
   ·have hca' : c.added = false := by simpa using hca
    have hue : (evs s.ps)[e]? = some (evs s.ps)[e] := List.getElem?_eq_getElem hnn
    generalize (evs s.ps)[e] = u at *
    have HGH := Lib.hid ((HGF.out.keep ((Keeps.refl _ _).drew)).setLab hue c.old)
    have HUS := Lib.hid (HSTEP.out { dk with lgv := .slice (some ⟨bL, 0, none⟩) l.length cL, lg := l, T := updL dk.T u c.old } (by rw [undo1_lab hev hca' hue]) rfl rfl)
    have c7 := HGF.out.c7
    have HGF2 := Lib.hid (HGF.out.keep ((Keeps.refl _ _).drew))
    have HLB := Lib.hid (HGF2.out.lab hue)
    have q2 := HBF.out.cell 2
    have q3 := HBF.out.cell 3
    have q4 := HBF.out.cell 4
    have q5 := HBF.out.cell 5
    have q6 := HBF.out.cell 6
    have q7 := HBF.out.cell 7
    have q8 := HBF.out.cell 8
    have q9 := HBF.out.cell 9
    have q10 := HBF.out.cell 10
    have q11 := HBF.out.cell 11
    have q12 := HBF.out.cell 12
    simp at q2 q3 q4 q5 q6 q7 q8 q9 q10 q11 q12
    rw [hca'] at q1
    clear hca hca' hev hadd HE HSTEP hue HGF
    go_wp2
    refine wp_region_lex (fun w' => ∃ x : Ext Wf, w' = x.val) [0, 1, 2, 3, 4, 5, 6, 7, 8, 9] (by kernel_rfl) (by kernel_rfl) ⟨⟨_, (Keeps.refl _ _).drew⟩, rfl⟩ ?_
    have y7 := Ext.cell c7
    have y0 := Ext.cell q0
    have y2 := Ext.cell q2
    have y3 := Ext.cell q3
    have y4 := Ext.cell q4
    have y5 := Ext.cell q5
    have y6 := Ext.cell q6
    have y7' := Ext.cell q7
    have y8 := Ext.cell q8
    have y9 := Ext.cell q9
    have y10 := Ext.cell q10
    have y11 := Ext.cell q11
    have y12 := Ext.cell q12
    refine lex_q _ rfl rfl rfl ?_; go_big_quiet_step (fail); refine wpQuiet_nil ?_
    refine lex_nil _ rfl _ rfl rfl _ rfl ?_; go_simp
    iterate 7 (refine lex_q _ rfl rfl rfl ?_; go_big_quiet_step (fail); refine wpQuiet_nil ?_)
    refine lex_a _ rfl rfl false (by kernel_rfl) ?_
    clear y7 y0 y2 y3 y4 y5 y6 y7' y8 y9 y10 y11 y12 q0 q2 q3 q4 q5 q6 q7 q8 q9 q10 q11 q12
    generalize Wf.drew = Wg at *
    have l0 := HLB.out 0 _ rfl
    have l1 := HLB.out 1 _ rfl
    have l2 := HLB.out 2 _ rfl
    have l3 := HLB.out 3 _ rfl
    have l4 := HLB.out 4 _ rfl
    have l5 := HLB.out 5 _ rfl
    have l6 := HLB.out 6 _ rfl
    have l7 := HLB.out 7 _ rfl
    have l8 := HLB.out 8 _ rfl
    have l9 := HLB.out 9 _ rfl
    have l10 := HLB.out 10 _ rfl
    simp [labC, b8] at l0 l1 l2 l3 l4 l5 l6 l7 l8 l9 l10
    have f0 := HGF2.out.l.frozen (e * 11)
    have f1 := HGF2.out.l.frozen (e * 11 + 1)
    have f2 := HGF2.out.l.frozen (e * 11 + 2)
    have f3 := HGF2.out.l.frozen (e * 11 + 3)
    have f4 := HGF2.out.l.frozen (e * 11 + 4)
    have f5 := HGF2.out.l.frozen (e * 11 + 5)
    have f6 := HGF2.out.l.frozen (e * 11 + 6)
    have f7 := HGF2.out.l.frozen (e * 11 + 7)
    have f8 := HGF2.out.l.frozen (e * 11 + 8)
    have f9 := HGF2.out.l.frozen (e * 11 + 9)
    have f10 := HGF2.out.l.frozen (e * 11 + 10)
    go_wp2
    (try refine ⟨fun h => (by cases h), ?_⟩)
    simp only [wpLex]
    refine NoPanic.normal ?_
    simp only [storeLab] at HGH
    clear l0 l1 l2 l3 l4 l5 l6 l7 l8 l9 l10 f0 f1 f2 f3 f4 f5 f6 f7 f8 f9 f10 HGF2 HLB
    generalize hWh : World.setCell _ _ _ = Wh
    rw [hWh] at HGH
    clear hWh
    go_wp2
    go_roundw
    case rel => exact ⟨_, HGH.out, HUS.out, by show l.length ≤ _; omega⟩
    case measure => exact Nat.lt_of_le_of_lt (Nat.le_of_eq HGH.out.lgLen) (by rw [HG.out.lgLen, HLL.out]; exact Nat.lt_succ_self _)
  ·have hlt' : decide (dk.lg.length > lg0.length) = false := decide_eq_false hlt
   have HD := Lib.hid (hu.done (by omega))
   clear hg hu hlv hlt
   go_wp2
   refine bodyPost_end (results_none rfl _ _ _) rfl ?_
   exact ⟨rfl, dk, HG.out, HD.out⟩

theorem heldOf_next {ps : List (List Stage)} {at_ : List Int} {k : Nat} {p : List Stage} {a : Int} (hl : at_.length = ps.length) (hp : ps[k]? = some p) (ha : at_[k]? = some a) : heldOf ps (at_.take (k + 1)) = heldOf ps (at_.take k) ++ (if a < 0 ∨ (p.length : Int) ≤ a then [] else [secAt p a]) := by
 have e : at_.take (k + 1) = at_.take k ++ [a] := by rw [List.take_add_one, ha]; rfl
 have hk := getElem?_lt ha
 rw [e, heldOf_snoc ps (at_.take k) p a (by rw [List.length_take, Nat.min_eq_left (by omega)]; exact hp)]

set_option maxRecDepth 100000 in
set_option maxHeartbeats 1000000 in
theorem DCheck_any (ps : List (List Stage)) (at_ : List Int) (A A2 : Option Addr) (c c2 : Nat) (w : World) (h : RPaths w (Old w) [.slice A ps.length c] ps) (h2 : RInts w (Old w) [.slice A2 at_.length c2] at_) :
  Calls Try.prog 66 #[.slice A ps.length c, .slice A2 at_.length c2] w fun e w' => e = .returned (.int .i64 (checkState ps at_)) ∧ KeepsAll w w' := by
 have hc := h.caps
 have hc2 := h2.caps
 have HV := Lib.hid (Valid_any ps A c w h)
 have H := Lib.hid h; clear h
 have H2 := Lib.hid h2; clear h2
 by_cases g0 : valid ps = true
 ·have HVD := Lib.hid g0
  by_cases g1 : at_.length = ps.length
  ·have g1' : ((at_.length : Int) != (ps.length : Int)) = false := by simp; omega
   have G1 := Lib.hid g1; clear g1
   have l1 : at_.length ≤ ps.length := by rw [G1.out]; exact Nat.le_refl _
   have l2 : ps.length ≤ at_.length := by rw [G1.out]; exact Nat.le_refl _
   go_enter Try.func66, Try.ntmps66
   go_wp2_with fail
   refine HV.out.mono ?_
   rintro e w1 ⟨rfl, k1⟩
   rw [g0]
   have K1 := Lib.hid k1
   have PK1 := Lib.hid (k1.rdo' RPaths.ok H.out)
   have A1 := Lib.hid (k1.rdo' RInts.ok H2.out)
   clear k1 HV H H2 g0
   go_wp2
   go_loop [23] (fun i => ∃ k : Nat, k ≤ ps.length ∧ i = .int .i64 k ∧ GoodInv ps at_ k) (fun i => ps.length - (intOf i).toNat)
   case atStart => exact ⟨0, Nat.zero_le _, rfl, rfl⟩
   case round =>
    obtain ⟨k, hk, rfl, hinv⟩ := hrel
    by_cases hlt : k < ps.length
    ·obtain ⟨b, o, p, A', c', hbo, _, hp, k1, hr⟩ := RSS.at_ PK1.out hlt
     subst hbo
     obtain ⟨b2, o2, a, hbo, _, ha, k2⟩ := A1.out.at_ (k := k) (by omega)
     subst hbo
     have hcp := hr.caps
     clear hr
     by_cases g2 : a < -1
     ·have Q := Lib.hid (hinv.stop hp ha (by simp [okPos]; omega))
      have g2' : decide (a < -1) = true := by simpa using g2
      have QQ : Hid (checkState ps at_ = 1) := by show _ = _; unfold checkState; rw [Q.out]; simp
      clear hp ha
      go_wp2
      go_ret
      exact ⟨by rw [QQ.out]; rfl, K1.out⟩
     ·have g2' : decide (a < -1) = false := by simpa using g2
      by_cases g3 : (p.length : Int) < a
      ·have Q := Lib.hid (hinv.stop hp ha (by simp [okPos]; omega))
       have QQ : Hid (checkState ps at_ = 1) := by show _ = _; unfold checkState; rw [Q.out]; simp
       clear hp ha
       go_wp2
       go_ret
       exact ⟨by rw [QQ.out]; rfl, K1.out⟩
      ·have Q := Lib.hid (hinv.step hp ha (by simp [okPos]; omega))
       clear hp ha
       go_wp2
       go_round
       case rel => exact ⟨k + 1, by omega, by go_num, Q.out⟩
       case measure => simp [intOf]; omega
    ·obtain rfl : k = ps.length := by omega
     have Q : Hid (good ps at_ = true) := by show good ps at_ = true; simp [good, G1.out, hinv.done]
     have HG := Lib.hid (good_Gd.1 Q.out)
     have HN : Hid (checkState ps at_ = if (heldOf ps at_).Nodup then 0 else 17) := by show _ = _; unfold checkState; rw [Q.out, HVD.out]; simp
     clear hinv hlt hk
     go_wp2
     generalize hW2 : World.alloc w1 _ = W2
     have BH : Hid (Blk W2 w1.heap.size 148 (cellsB (marks (heldOf ps (at_.take 0))))) := by
      subst hW2
      have e : heldOf ps (at_.take 0) = [] := by cases ps <;> rfl
      show Blk _ _ _ _
      rw [e, marks_nil]; exact Blk.new _ _ _
     have K2 : Hid (KeepsAll w1 W2) := by subst hW2; exact (Keeps.refl _ _).alloc _
     clear hW2
     go_loopw [45] (fun i wr => ∃ k : Nat, k ≤ ps.length ∧ i = .int .i64 k ∧ Blk wr w1.heap.size 148 (cellsB (marks (heldOf ps (at_.take k)))) ∧ (heldOf ps (at_.take k)).Nodup ∧ KeepsAll w1 wr) (fun i _ => ps.length - (intOf i).toNat)
     case atStart => exact ⟨0, Nat.zero_le _, rfl, BH.out, by cases ps <;> simp [heldOf], K2.out⟩
     case round =>
      clear BH K2
      obtain ⟨k, hk, rfl, hb, hnd, hkr⟩ := hrel
      have KR := Lib.hid hkr
      have HB := Lib.hid hb
      have HND := Lib.hid hnd
      clear hkr hb hnd
      by_cases hlt : k < ps.length
      ·obtain ⟨b, o, p, A', c', hbo, hbl, hp, k1, hr⟩ := RSS.atK KR.out PK1.out hlt
       subst hbo
       obtain ⟨b2, o2, a, hbo, hb2l, ha, k2⟩ := RInts.atK KR.out A1.out (k := k) (by omega)
       subst hbo
       have hcp := hr.caps
       have hG := HG.out.2 k hlt
       rw [nowAt_of ha, lenAt_of hp] at hG
       have HNX := Lib.hid (heldOf_next G1.out hp ha)
       by_cases g2 : a < 0
       ·have g2' : decide (a < 0) = true := by simpa using g2
        have QN : Hid (heldOf ps (at_.take (k + 1)) = heldOf ps (at_.take k)) := by show _ = _; rw [HNX.out, if_pos (.inl g2)]; simp
        clear hp ha hr
        go_wp2
        go_roundw
        case rel => exact ⟨k + 1, by omega, by go_num, by rw [QN.out]; exact HB.out, by rw [QN.out]; exact HND.out, KR.out⟩
        case measure => simp [intOf]; omega
       ·have g2' : decide (a < 0) = false := by simpa using g2
        by_cases g3 : a = (p.length : Int)
        ·have g3' : (a == (p.length : Int)) = true := by simpa using g3
         have QN : Hid (heldOf ps (at_.take (k + 1)) = heldOf ps (at_.take k)) := by show _ = _; rw [HNX.out, if_pos (.inr (by omega))]; simp
         clear hp ha hr
         go_wp2
         go_roundw
         case rel => exact ⟨k + 1, by omega, by go_num, by rw [QN.out]; exact HB.out, by rw [QN.out]; exact HND.out, KR.out⟩
         case measure => simp [intOf]; omega
        ·have g3' : (a == (p.length : Int)) = false := by simpa using g3
         obtain ⟨j, rfl⟩ := Int.eq_ofNat_of_zero_le (by omega : 0 ≤ a)
         have hj : j < p.length := by omega
         obtain ⟨b3, o3, s, As, cs, hbo, hb3l, hs, m0, m1, m2, m3, hpts⟩ := RPath.atK KR.out hr hj
         subst hbo
         have hst := valid_stage HVD.out (List.mem_of_getElem? hp) (List.mem_of_getElem? hs)
         obtain ⟨n, hn, hn144⟩ := isRes_nat (stageOk_sec hst)
         have hsec : secAt p (j : Int) = (n : Int) := by unfold secAt; rw [if_neg (by omega)]; simp only [Int.toNat_natCast, hs]; exact hn
         rw [if_neg (by omega), hsec] at HNX
         rw [hn] at m0
         have q0 := HB.out.cell n
         rw [cellsB_get _ hn144] at q0
         have q1 := HB.out.frozen n
         have qz := HB.out.lt
         clear hr hpts hst hs hp ha hsec hn
         by_cases g4 : (n : Int) ∈ heldOf ps (at_.take k)
         ·rw [decide_eq_true g4] at q0
          have QQ : Hid (checkState ps at_ = 17) := by
           show _ = _
           rw [HN.out, if_neg]
           intro hnn
           have h3 := List.Sublist.nodup (heldOf_sublist ps at_ (k + 1)) hnn
           rw [HNX.out] at h3
           exact (List.nodup_append.1 h3).2.2 _ g4 _ (by simp) rfl
          clear g4
          go_wp2
          go_ret
          exact ⟨by rw [QQ.out]; rfl, K1.out.tr KR.out⟩
         ·rw [decide_eq_false g4] at q0
          have HBN : Hid (Blk (wr.setCell ⟨w1.heap.size, n, none⟩ (.bool true)) w1.heap.size 148 (cellsB (marks (heldOf ps (at_.take (k + 1)))))) := by
           show Blk _ _ _ _
           rw [HNX.out, ← cellsB_set]; exact HB.out.set_ n _
          have HNN : Hid (heldOf ps (at_.take (k + 1))).Nodup := by
           show List.Nodup _
           rw [HNX.out]; exact nodup_snoc HND.out g4
          have KN : Hid (KeepsAll w1 (wr.setCell ⟨w1.heap.size, n, none⟩ (.bool true))) := KR.out.setCell (fun h => absurd h (by simp)) _
          clear g4
          go_wp2
          go_roundw
          case rel => exact ⟨k + 1, by omega, by go_num, HBN.out, HNN.out, KN.out⟩
          case measure => simp [intOf]; omega
      ·obtain rfl : k = ps.length := by omega
       have QQ : Hid (checkState ps at_ = 0) := by
        show _ = _
        have h3 := HND.out
        rw [← G1.out, List.take_length] at h3
        rw [HN.out, if_pos h3]
       go_wp2
       go_ret
       exact ⟨by rw [QQ.out]; rfl, K1.out.tr KR.out⟩
  ·have g1' : ((at_.length : Int) != (ps.length : Int)) = true := by simp; omega
   have QQ : Hid (checkState ps at_ = 1) := by show _ = _; unfold checkState good; simp [g1]
   go_enter Try.func66, Try.ntmps66
   go_wp2_with fail
   refine HV.out.mono ?_
   rintro e w1 ⟨rfl, k1⟩
   rw [g0]
   have K1 := Lib.hid k1; clear k1
   go_wp2
   go_ret
   exact ⟨by rw [QQ.out]; rfl, K1.out⟩
 ·have g0' : valid ps = false := by simpa using g0
  have QQ : Hid (checkState ps at_ = 1) := by show _ = _; unfold checkState; simp [g0']
  clear g0
  go_enter Try.func66, Try.ntmps66
  go_wp2_with fail
  refine HV.out.mono ?_
  rintro e w1 ⟨rfl, k1⟩
  rw [g0']
  have K1 := Lib.hid k1; clear k1
  go_wp2
  go_ret
  exact ⟨by rw [QQ.out]; rfl, K1.out⟩

structure PV where
 A : Option Addr
 c : Nat
 A2 : Option Addr
 c2 : Nat
 A3 : Option Addr
 c3 : Nat
 A4 : Option Addr
 c4 : Nat
def PV.cs (v : PV) (p : Pb) : Array Value := #[.slice v.A p.ps.length v.c, .slice v.A2 p.at_.length v.c2, .slice v.A3 p.due.length v.c3, .slice v.A4 p.wgt.length v.c4, .int .i64 p.now]
structure RPb (w : World) (S : Foot) (v : PV) (p : Pb) : Prop where
 P : RPaths w S [.slice v.A p.ps.length v.c] p.ps
 A : RInts w S [.slice v.A2 p.at_.length v.c2] p.at_
 D : RInts w S [.slice v.A3 p.due.length v.c3] p.due
 W : RInts w S [.slice v.A4 p.wgt.length v.c4] p.wgt
theorem RPb.kept {a b : World} {v : PV} {p : Pb} (h : RPb a (Old a) v p) (k : KeepsAll a b) : RPb b (Old b) v p := ⟨k.rdo' RPaths.ok h.P, k.rdo' RInts.ok h.A, k.rdo' RInts.ok h.D, k.rdo' RInts.ok h.W⟩

set_option maxHeartbeats 1000000 in
theorem late_any (p : Pb) (v : PV) (w : World) (h : RPb w (Old w) v p) (t : Nat) (x : Int) (ht : t < p.due.length) (ht2 : t < p.wgt.length) (hd : 0 ≤ nowAt p.due t ∧ nowAt p.due t ≤ 16777216) (hw : 0 ≤ nowAt p.wgt t ∧ nowAt p.wgt t ≤ 1048576) (hx : -1 ≤ x ∧ x ≤ 4294967296) :
  Calls Try.prog 76 #[.agg (v.cs p), .int .i64 (t : Int), .int .i64 x] w fun e w' => e = .returned (.int .i64 (lateP p t x)) ∧ KeepsAll w w' := by
 obtain ⟨b3, o3, d, hA3, hb3, hdx, c3⟩ := h.D.at_ ht
 obtain ⟨b4, o4, g, hA4, hb4, hgx, c4⟩ := h.W.at_ ht2
 have e1 : nowAt p.due t = d := nowAt_of hdx
 have e2 : nowAt p.wgt t = g := nowAt_of hgx
 rw [e1] at hd
 rw [e2] at hw
 have Q : Hid (lateP p t x = if x < d then 0 else g * (x - d)) := by show _ = _; unfold lateP; rw [e1, e2]
 have hb3' : b3 < w.heap.size := hb3
 have hb4' : b4 < w.heap.size := hb4
 unfold PV.cs
 rw [hA3, hA4]
 clear e1 e2 hdx hgx h hA3 hA4 hb3 hb4
 by_cases g0 : x < d
 ·have g0' : decide (x < d) = true := decide_eq_true g0
  rw [if_pos g0] at Q
  go_enter Try.func76, Try.ntmps76
  go_wp2
  go_ret
  exact ⟨by rw [Q.out]; rfl, (Keeps.refl _ _).alloc _⟩
 ·have g0' : decide (x < d) = false := decide_eq_false g0
  rw [if_neg g0] at Q
  have hw1 : IntKind.i64.wrap (x - d) = x - d := IntWalk.i64_in _ (by omega)
  have hm : 0 ≤ g * (x - d) ∧ g * (x - d) ≤ 1048576 * 4294967296 := ⟨Int.mul_nonneg (by omega) (by omega), Int.mul_le_mul (by omega) (by omega) (by omega) (by omega)⟩
  have hw2 : IntKind.i64.wrap (g * (x - d)) = g * (x - d) := IntWalk.i64_in _ (by omega)
  clear hm
  go_enter Try.func76, Try.ntmps76
  go_wp2
  go_quiet (fail)
  go_wp2
  go_ret
  exact ⟨by rw [Q.out]; rfl, ((Keeps.refl _ _).alloc _).drewN _⟩

theorem checkState_valid {ps : List (List Stage)} {at_ : List Int} (h : checkState ps at_ = 0) : valid ps = true := by
 unfold checkState at h
 by_cases g : (valid ps && good ps at_) = false
 ·rw [if_pos g] at h; cases h
 ·rw [Bool.not_eq_false, Bool.and_eq_true] at g; exact g.1
theorem checkP_iff {p : Pb} : checkP p = true ↔ checkState p.ps p.at_ = 0 ∧ p.due.length = p.ps.length ∧ p.wgt.length = p.ps.length ∧ (∀ x ∈ p.due, 0 ≤ x ∧ x ≤ 16777216) ∧ (∀ x ∈ p.wgt, 0 ≤ x ∧ x ≤ 1048576) ∧ 0 ≤ p.now ∧ p.now ≤ 4194304 := by
 unfold checkP
 simp only [Bool.and_eq_true, decide_eq_true_eq, List.all_eq_true]
 constructor
 ·rintro ⟨⟨⟨⟨⟨⟨h1, h2⟩, h3⟩, h4⟩, h5⟩, h6⟩, h7⟩; exact ⟨h1, h2, h3, h4, h5, h6, h7⟩
 ·rintro ⟨h1, h2, h3, h4, h5, h6, h7⟩; exact ⟨⟨⟨⟨⟨⟨h1, h2⟩, h3⟩, h4⟩, h5⟩, h6⟩, h7⟩

set_option maxHeartbeats 1000000 in
theorem DspCheck_any (p : Pb) (v : PV) (w : World) (h : RPb w (Old w) v p) :
  Calls Try.prog 37 #[.agg (v.cs p)] w fun e w' => e = .returned (.bool (checkP p)) ∧ KeepsAll w w' := by
 have HC := Lib.hid (fun W (hW : KeepsAll w W) => DCheck_any p.ps p.at_ v.A v.A2 v.c v.c2 W (h.kept hW).P (h.kept hW).A)
 have H := Lib.hid h
 clear h
 unfold PV.cs
 have KB : KeepsAll w (w.alloc (.cells #[.slice v.A p.ps.length v.c, .slice v.A2 p.at_.length v.c2, .slice v.A3 p.due.length v.c3, .slice v.A4 p.wgt.length v.c4, .int .i64 p.now] 25)) := (Keeps.refl _ _).alloc _
 have KBH := Lib.hid KB
 have BB : Hid (Blk (w.alloc (.cells #[.slice v.A p.ps.length v.c, .slice v.A2 p.at_.length v.c2, .slice v.A3 p.due.length v.c3, .slice v.A4 p.wgt.length v.c4, .int .i64 p.now] 25)) w.heap.size 25 #[.slice v.A p.ps.length v.c, .slice v.A2 p.at_.length v.c2, .slice v.A3 p.due.length v.c3, .slice v.A4 p.wgt.length v.c4, .int .i64 p.now]) := Blk.new _ _ _
 have CALL : Hid (∀ Q : Ending → World → Prop, (∀ w1, KeepsAll w w1 → Blk w1 w.heap.size 25 #[.slice v.A p.ps.length v.c, .slice v.A2 p.at_.length v.c2, .slice v.A3 p.due.length v.c3, .slice v.A4 p.wgt.length v.c4, .int .i64 p.now] → Q (.returned (.int .i64 (checkState p.ps p.at_))) w1) → Calls Try.prog 66 #[.slice v.A p.ps.length v.c, .slice v.A2 p.at_.length v.c2] (w.alloc (.cells #[.slice v.A p.ps.length v.c, .slice v.A2 p.at_.length v.c2, .slice v.A3 p.due.length v.c3, .slice v.A4 p.wgt.length v.c4, .int .i64 p.now] 25)) Q) := Lib.hid fun Q hQ => (HC.out _ KBH.out).mono (by rintro e w1 ⟨rfl, k1⟩; exact hQ w1 (KBH.out.tr k1) (BB.out.kept k1 (by simp)))
 clear KB
 by_cases g0 : checkState p.ps p.at_ = 0
 ·by_cases g1 : p.due.length = p.ps.length
  ·by_cases g2 : p.wgt.length = p.ps.length
   ·have G := Lib.hid (And.intro g0 (And.intro g1 g2))
    have g1' : ((p.due.length : Int) != (p.ps.length : Int)) = false := by rw [g1]; simp
    have g2' : ((p.wgt.length : Int) != (p.ps.length : Int)) = false := by rw [g2]; simp
    clear g1 g2
    go_enter Try.func37, Try.ntmps37
    go_wp2_with fail
    refine CALL.out _ fun w1 k1 hb => ?_
    rw [g0]
    clear g0
    have K1 := Lib.hid k1
    have HB := Lib.hid hb
    have H1 := Lib.hid (H.out.kept k1)
    have c0 := hb.cell 0
    have c1 := hb.cell 1
    have c2 := hb.cell 2
    have c3 := hb.cell 3
    have c4 := hb.cell 4
    have hz := hb.lt
    simp at c0 c1 c2 c3 c4
    clear k1 hb
    generalize w.heap.size = z at *
    have hps10 := (valid_lens (checkState_valid G.out.1)).1
    go_wp2
    go_loop [31] (fun i => ∃ k : Nat, k ≤ p.ps.length ∧ i = .int .i64 (k : Int) ∧ (∀ x ∈ p.due.take k, 0 ≤ x ∧ x ≤ 16777216) ∧ (∀ x ∈ p.wgt.take k, 0 ≤ x ∧ x ≤ 1048576)) (fun i => p.ps.length - (intOf i).toNat)
    case atStart => exact ⟨0, by omega, rfl, by simp, by simp⟩
    case round =>
     obtain ⟨k, hk, rfl, hr1, hr2⟩ := hrel
     have HR := Lib.hid (And.intro hr1 hr2)
     clear hr1 hr2
     by_cases hlt : k < p.ps.length
     ·have hlt' : decide (k < p.ps.length) = true := decide_eq_true hlt
      have hkd : k < p.due.length := by rw [G.out.2.1]; exact hlt
      have hkw : k < p.wgt.length := by rw [G.out.2.2]; exact hlt
      obtain ⟨b3, o3, d, hA3, _, hdx, d3⟩ := H1.out.D.at_ hkd
      obtain ⟨b4, o4, g, hA4, _, hgx, d4⟩ := H1.out.W.at_ hkw
      rw [hA3] at c2
      rw [hA4] at c3
      have BAD : Hid (¬ (0 ≤ d ∧ d ≤ 16777216 ∧ 0 ≤ g ∧ g ≤ 1048576) → checkP p = false) := Lib.hid fun hn => by
       cases e : checkP p with
       | false => rfl
       | true =>
        have h1 := (checkP_iff.1 e).2.2.2.1 d (List.mem_of_getElem? hdx)
        have h2 := (checkP_iff.1 e).2.2.2.2.1 g (List.mem_of_getElem? hgx)
        exact absurd ⟨h1.1, h1.2, h2.1, h2.2⟩ hn
      have HX := Lib.hid (And.intro hdx hgx)
      clear hdx hgx hA3 hA4
      by_cases q1 : d < 0
      ·have q1' : decide (d < 0) = true := decide_eq_true q1
       have QQ := Lib.hid (BAD.out (by omega))
       go_wp2
       go_ret
       exact ⟨by rw [QQ.out]; rfl, K1.out⟩
      ·have q1' : decide (d < 0) = false := decide_eq_false q1
       by_cases q2 : d > 16777216
       ·have q2' : decide (d > 16777216) = true := decide_eq_true q2
        have QQ := Lib.hid (BAD.out (by omega))
        go_wp2
        go_ret
        exact ⟨by rw [QQ.out]; rfl, K1.out⟩
       ·have q2' : decide (d > 16777216) = false := decide_eq_false q2
        by_cases q3 : g < 0
        ·have q3' : decide (g < 0) = true := decide_eq_true q3
         have QQ := Lib.hid (BAD.out (by omega))
         go_wp2
         go_ret
         exact ⟨by rw [QQ.out]; rfl, K1.out⟩
        ·have q3' : decide (g < 0) = false := decide_eq_false q3
         by_cases q4 : g > 1048576
         ·have q4' : decide (g > 1048576) = true := decide_eq_true q4
          have QQ := Lib.hid (BAD.out (by omega))
          go_wp2
          go_ret
          exact ⟨by rw [QQ.out]; rfl, K1.out⟩
         ·have q4' : decide (g > 1048576) = false := decide_eq_false q4
          have HN : Hid ((∀ x ∈ p.due.take (k + 1), 0 ≤ x ∧ x ≤ 16777216) ∧ (∀ x ∈ p.wgt.take (k + 1), 0 ≤ x ∧ x ≤ 1048576)) := by
           refine Lib.hid ⟨fun x hx => ?_, fun x hx => ?_⟩
           ·rw [List.take_add_one, HX.out.1] at hx
            rcases List.mem_append.1 hx with hx | hx
            ·exact HR.out.1 x hx
            ·simp at hx; subst hx; omega
           ·rw [List.take_add_one, HX.out.2] at hx
            rcases List.mem_append.1 hx with hx | hx
            ·exact HR.out.2 x hx
            ·simp at hx; subst hx; omega
          go_wp2
          go_round
          case rel => exact ⟨k + 1, by omega, by go_num, HN.out.1, HN.out.2⟩
          case measure => simp [intOf]; omega
     ·have hlt' : decide (k < p.ps.length) = false := decide_eq_false hlt
      obtain rfl : k = p.ps.length := by omega
      have HALL : Hid ((∀ x ∈ p.due, 0 ≤ x ∧ x ≤ 16777216) ∧ (∀ x ∈ p.wgt, 0 ≤ x ∧ x ≤ 1048576)) := by
       have h1 := HR.out.1
       have h2 := HR.out.2
       rw [← G.out.2.1, List.take_length] at h1
       rw [← G.out.2.2, List.take_length] at h2
       exact Lib.hid ⟨h1, h2⟩
      by_cases q5 : p.now < 0
      ·have q5' : decide (p.now ≥ 0) = false := decide_eq_false (by omega)
       have QQ : Hid (checkP p = false) := by
        show _ = _
        cases e : checkP p with
        | false => rfl
        | true => have := (checkP_iff.1 e).2.2.2.2.2.1; omega
       go_wp2
       go_ret
       exact ⟨by rw [QQ.out]; rfl, K1.out⟩
      ·have q5' : decide (p.now ≥ 0) = true := decide_eq_true (by omega)
       have QQ : Hid (checkP p = decide (p.now ≤ 4194304)) := by
        show _ = _
        rw [Bool.eq_iff_iff, checkP_iff, decide_eq_true_eq]
        exact ⟨fun h => h.2.2.2.2.2.2, fun h => ⟨G.out.1, G.out.2.1, G.out.2.2, HALL.out.1, HALL.out.2, by omega, h⟩⟩
       go_wp2
       go_ret
       exact ⟨by rw [QQ.out]; rfl, K1.out⟩
   ·have QQ : Hid (checkP p = false) := by
     show _ = _
     cases e : checkP p with
     | false => rfl
     | true => exact absurd (checkP_iff.1 e).2.2.1 g2
    have g1' : ((p.due.length : Int) != (p.ps.length : Int)) = false := by rw [g1]; simp
    have g2' : ((p.wgt.length : Int) != (p.ps.length : Int)) = true := by simp; omega
    clear g1 g2
    go_enter Try.func37, Try.ntmps37
    go_wp2_with fail
    refine CALL.out _ fun w1 k1 hb => ?_
    rw [g0]
    clear g0
    have c0 := hb.cell 0
    have c2 := hb.cell 2
    have c3 := hb.cell 3
    simp at c0 c2 c3
    have K1 := Lib.hid k1
    clear k1 hb
    go_wp2
    go_ret
    exact ⟨by rw [QQ.out]; rfl, K1.out⟩
  ·have QQ : Hid (checkP p = false) := by
    show _ = _
    cases e : checkP p with
    | false => rfl
    | true => exact absurd (checkP_iff.1 e).2.1 g1
   have g1' : ((p.due.length : Int) != (p.ps.length : Int)) = true := by simp; omega
   clear g1
   go_enter Try.func37, Try.ntmps37
   go_wp2_with fail
   refine CALL.out _ fun w1 k1 hb => ?_
   rw [g0]
   clear g0
   have c0 := hb.cell 0
   have c2 := hb.cell 2
   simp at c0 c2
   have K1 := Lib.hid k1
   clear k1 hb
   go_wp2
   go_ret
   exact ⟨by rw [QQ.out]; rfl, K1.out⟩
 ·have QQ : Hid (checkP p = false) := by
   show _ = _
   cases e : checkP p with
   | false => rfl
   | true => exact absurd (checkP_iff.1 e).1 g0
  have g0' : (checkState p.ps p.at_ != 0) = true := by simpa using g0
  clear g0
  go_enter Try.func37, Try.ntmps37
  go_wp2_with fail
  refine CALL.out _ fun w1 k1 hb => ?_
  generalize checkState p.ps p.at_ = x at *
  have K1 := Lib.hid k1
  clear k1 hb
  go_wp2
  go_ret
  exact ⟨by rw [QQ.out]; rfl, K1.out⟩

end Go.Proofs.Ytilbbpbjhoidhaa
