/- Contract of update of the graph of chapter 37. Conditions: as each theorem says. The loop of choose of chapter 37, over the graph's state; no memory in sight. Conditions: as each theorem says. follow of chapter 37 as a plain function. No program in sight. -/
import Derived.Test.YtilbbpbjhoidhaaE16
import Derived.Test.YtilbbpbjhoidhaaE07
namespace Go.Proofs.Ytilbbpbjhoidhaa
open Go.RowKit

theorem tyChg : ElemTy Try.prog 123 154 13 40 := .mk' Try.underlying123 (z := .agg #[.int .i64 0, .bool false, .int .i64 0, .int .i8 0, .int .i8 0, .int .i8 0, .int .i8 0, .int .i8 0, .int .i8 0, .int .i8 0, .int .i8 0, .int .i8 0, .int .i8 0]) (by kernel_rfl) rfl (by omega)
structure Upd (d d' : GD) (e : Nat) (u : Ref) (m : Lab) : Prop where
 T : d'.T = if m = d.T u then d.T else updL d.T u m
 vs : d'.vs = d.vs
 N : d'.N = d.N
 lg : d'.lg = if m = d.T u then d.lg else d.lg ++ [⟨(e : Int), false, d.T u⟩]
 que : d'.que = if m = d.T u ∨ d.qd[e]? = some true then d.que else d.que ++ [(e : Int)]
 qd : d'.qd = if m = d.T u then d.qd else d.qd.set e true

set_option maxRecDepth 100000 in
set_option maxHeartbeats 2000000 in
theorem dupdate_any (s : GS) (w0 w : World) (d : GD) (h : Gm s w0 w d) (e f tf kf : Nat) (u : Ref) (wt : Int) (he : (evs s.ps)[e]? = some u) (hf : (evs s.ps)[f]? = some ⟨(tf : Int), (kf : Int)⟩) (htf : tf < 10) (hkf : kf ≤ 64) (hn : s.n ≤ 650)
  (hl : ∀ v, (d.T v).bef.length = 10 ∧ (∀ t, t < 10 → -1 ≤ (d.T v).bf t ∧ (d.T v).bf t ≤ 64) ∧ -1 ≤ (d.T v).sec ∧ (d.T v).sec ≤ 3000000000) (hw : 0 ≤ wt ∧ wt ≤ 4194304) (hlg : d.lg.length ≤ 3000000000000) (hql : d.que.length ≤ 3000000000000) :
  Calls Try.prog 91 #[.pointer (some ⟨s.gb, 0, none⟩), .int .i64 (e : Int), .int .i64 (f : Int), .int .i64 wt] w fun r w' => r = .returned (.tuple #[]) ∧ ∃ d', Gm s w0 w' d' ∧ Upd d d' e u (mergeL (d.T u) (d.T ⟨(tf : Int), (kf : Int)⟩) ⟨(tf : Int), (kf : Int)⟩ wt) := by
 have hel := getElem?_lt he
 have hfl := getElem?_lt hf
 obtain ⟨eb, ce, hev, e0, e1⟩ := h.evc hf
 simp only at e0 e1
 have c6 := h.c6
 have c7 := h.c7
 rw [hev] at c6
 have HM := Lib.hid (fun W (hW : KeepsAll w W) => merged_any W s.gb s.lb eb ce s.n f tf kf (d.T u) (d.T ⟨(tf : Int), (kf : Int)⟩) wt (h.keep hW).c7 (by rw [(h.keep hW).c6, hev]) ((h.keep hW).lab hf) (by obtain ⟨eb', ce', h1, h2, h3⟩ := (h.keep hW).evc hf; rw [hev] at h1; injection h1 with h1; injection h1 with h1; injection h1 with h1; subst h1; exact h2) (by obtain ⟨eb', ce', h1, h2, h3⟩ := (h.keep hW).evc hf; rw [hev] at h1; injection h1 with h1; injection h1 with h1; injection h1 with h1; subst h1; exact h3) hfl hn htf hkf (hl u).1 (fun t ht => ((hl u).2.1 t ht).1) ⟨(hl _).2.2.1, (hl _).2.2.2⟩ hw)
 have HU := Lib.hid (h.lab he)
 have l0 := HU.out 0 _ rfl
 have l1 := HU.out 1 _ rfl
 have l2 := HU.out 2 _ rfl
 have l3 := HU.out 3 _ rfl
 have l4 := HU.out 4 _ rfl
 have l5 := HU.out 5 _ rfl
 have l6 := HU.out 6 _ rfl
 have l7 := HU.out 7 _ rfl
 have l8 := HU.out 8 _ rfl
 have l9 := HU.out 9 _ rfl
 have l10 := HU.out 10 _ rfl
 simp [labC, b8] at l0 l1 l2 l3 l4 l5 l6 l7 l8 l9 l10
 have hgz := h.b.lt
 have hlz := h.l.lt
 have hez : eb < w.heap.size := World.block_lt_of_cell? w ⟨eb, f * 2, none⟩ e0
 have hen : e < s.n := hel
 have H := Lib.hid h
 clear h hel hfl hev e0 e1 hez
 generalize hnn : s.n = n at *
 have HN := Lib.hid hnn; clear hnn
 go_enter Try.func91, Try.ntmps91
 go_wp2_with fail
 refine (HM.out w (Keeps.refl _ _)).mono ?_
 rintro r w1 ⟨rfl, k1⟩
 generalize hm : mergeL (d.T u) (d.T ⟨(tf : Int), (kf : Int)⟩) ⟨(tf : Int), (kf : Int)⟩ wt = m
 have HMM := Lib.hid hm
 have hmb : m.bef.length = 10 ∧ (-1 ≤ m.sec ∧ m.sec ≤ 4000000000) ∧ ∀ t, t < 10 → -1 ≤ m.bf t ∧ m.bf t ≤ 64 := by
  have h1 := (hl u).2.2
  have h2 := (hl ⟨(tf : Int), (kf : Int)⟩).2.2
  rw [← hm]
  refine ⟨mergeL_len _ _ _ _, ?_, fun t ht => ?_⟩
  ·unfold mergeL; simp only; omega
  ·have h3 := (hl u).2.1 t ht
   have h4 := (hl ⟨(tf : Int), (kf : Int)⟩).2.1 t ht
   unfold mergeL
   rw [bf_map _ _ ht]
   simp only
   split <;> omega
 have hq := fun W => eqL_run (a := m) (b := d.T u) hmb.1 (hl u).1 ⟨by omega, by omega⟩ ⟨by have := (hl u).2.2; omega, by have := (hl u).2.2; omega⟩ (fun t ht => by have := hmb.2.2 t ht; omega) (fun t ht => by have := (hl u).2.1 t ht; omega) W
 have HMB := Lib.hid hmb
 clear hm hmb
 simp only [labC, b8] at hq
 simp only [labV, labC, b8]
 go_wp2_with fail
 generalize hW2 : World.alloc w1 _ = W2
 have KW2 : KeepsAll w W2 := by subst hW2; exact k1.alloc _
 have B8 : Hid (Blk W2 w1.heap.size 130 (labC m)) := by subst hW2; exact Blk.new _ _ _
 clear hW2 k1 c6
 replace c7 := KW2.cellK (p := ⟨s.gb, 7, none⟩) hgz c7
 replace l0 := KW2.cellK (p := ⟨s.lb, e * 11, none⟩) hlz l0
 replace l1 := KW2.cellK (p := ⟨s.lb, e * 11 + 1, none⟩) hlz l1
 replace l2 := KW2.cellK (p := ⟨s.lb, e * 11 + 2, none⟩) hlz l2
 replace l3 := KW2.cellK (p := ⟨s.lb, e * 11 + 3, none⟩) hlz l3
 replace l4 := KW2.cellK (p := ⟨s.lb, e * 11 + 4, none⟩) hlz l4
 replace l5 := KW2.cellK (p := ⟨s.lb, e * 11 + 5, none⟩) hlz l5
 replace l6 := KW2.cellK (p := ⟨s.lb, e * 11 + 6, none⟩) hlz l6
 replace l7 := KW2.cellK (p := ⟨s.lb, e * 11 + 7, none⟩) hlz l7
 replace l8 := KW2.cellK (p := ⟨s.lb, e * 11 + 8, none⟩) hlz l8
 replace l9 := KW2.cellK (p := ⟨s.lb, e * 11 + 9, none⟩) hlz l9
 replace l10 := KW2.cellK (p := ⟨s.lb, e * 11 + 10, none⟩) hlz l10
 have hgz' : s.gb < W2.heap.size := Nat.lt_of_lt_of_le hgz KW2.size
 have hlz' : s.lb < W2.heap.size := Nat.lt_of_lt_of_le hlz KW2.size
 have hz8 := B8.out.lt
 have m0 := B8.out.cell 0
 have m1 := B8.out.cell 1
 have m2 := B8.out.cell 2
 have m3 := B8.out.cell 3
 have m4 := B8.out.cell 4
 have m5 := B8.out.cell 5
 have m6 := B8.out.cell 6
 have m7 := B8.out.cell 7
 have m8 := B8.out.cell 8
 have m9 := B8.out.cell 9
 have m10 := B8.out.cell 10
 simp [labC, b8] at m0 m1 m2 m3 m4 m5 m6 m7 m8 m9 m10
 generalize w1.heap.size = z8 at *
 clear hgz hlz
 refine wp_region_lex (fun w' => ∃ x : Ext W2, w' = x.val) [0, 1, 2, 3, 4, 5, 6, 7, 8] (by kernel_rfl) (by kernel_rfl) ⟨⟨_, (Keeps.refl _ _).drew⟩, rfl⟩ ?_
 have y7 := Ext.cell c7
 have x0 := Ext.cell m0
 have y10 := Ext.cell l0
 have x1 := Ext.cell m1
 have y11 := Ext.cell l1
 have x2 := Ext.cell m2
 have y12 := Ext.cell l2
 have x3 := Ext.cell m3
 have y13 := Ext.cell l3
 have x4 := Ext.cell m4
 have y14 := Ext.cell l4
 have x5 := Ext.cell m5
 have y15 := Ext.cell l5
 have x6 := Ext.cell m6
 have y16 := Ext.cell l6
 have x7 := Ext.cell m7
 have y17 := Ext.cell l7
 have x8 := Ext.cell m8
 have y18 := Ext.cell l8
 have x9 := Ext.cell m9
 have y19 := Ext.cell l9
 have x10 := Ext.cell m10
 have y110 := Ext.cell l10
 refine lex_q _ rfl rfl rfl ?_; go_big_quiet_step (fail); refine wpQuiet_nil ?_
 refine lex_q _ rfl rfl rfl ?_; go_big_quiet_step (fail); refine wpQuiet_nil ?_
 refine lex_nil _ rfl _ rfl rfl _ rfl ?_; go_simp
 iterate 6 (refine lex_q _ rfl rfl rfl ?_; go_big_quiet_step (fail); refine wpQuiet_nil ?_)
 simp only [wpLex]
 refine NoPanic.normal ?_
 have KD : KeepsAll W2 W2.drew := (Keeps.refl _ _).drew
 generalize W2.drew = wd at *
 have HD := Lib.hid (H.out.keep (KW2.tr KD))
 have BD := Lib.hid (B8.out.kept KD (by simp))
 clear H y7 x0 y10 x1 y11 x2 y12 x3 y13 x4 y14 x5 y15 x6 y16 x7 y17 x8 y18 x9 y19 x10 y110 c7 l0 l1 l2 l3 l4 l5 l6 l7 l8 l9 l10 m0 m1 m2 m3 m4 m5 m6 m7 m8 m9 m10 hq hgz' hlz' hz8 B8 KW2 KD HM HU
 clear W2
 by_cases hmu : m = d.T u
 ·have e1 : decide (m = d.T u) = true := decide_eq_true hmu
  rw [e1]
  go_wp2
  refine bodyPost_ret (results_none rfl _ _ _) rfl ?_
  exact ⟨rfl, d, HD.out, by rw [HMM.out]; exact ⟨by simp [hmu], rfl, rfl, by simp [hmu], by simp [hmu], by simp [hmu]⟩⟩
 ·have e1 : decide (m = d.T u) = false := decide_eq_false hmu
  rw [e1]
  obtain ⟨AL, cL, hlv, _, _⟩ := HD.out.lg.form
  have HLG := Lib.hid (hlv ▸ HD.out.lg)
  have HLV := Lib.hid hlv
  have FAR : Hid (∀ b, b < s.bs → ¬ ((Value.slice AL d.lg.length cL).ownBlock = some b)) := fun b hb e => by have := HLG.out.lt e; omega
  have hgb := HD.out.hi.1
  have hlb := HD.out.hi.2.1
  have c7 := HD.out.c7
  rw [HN.out] at c7
  have c9 := HD.out.b.cell 9
  simp at c9
  rw [hlv] at c9
  clear hlv
  have HU := HD.out.lab he
  have l0 := HU 0 _ rfl
  have l1 := HU 1 _ rfl
  have l2 := HU 2 _ rfl
  have l3 := HU 3 _ rfl
  have l4 := HU 4 _ rfl
  have l5 := HU 5 _ rfl
  have l6 := HU 6 _ rfl
  have l7 := HU 7 _ rfl
  have l8 := HU 8 _ rfl
  have l9 := HU 9 _ rfl
  have l10 := HU 10 _ rfl
  clear HU
  simp [labC, b8] at l0 l1 l2 l3 l4 l5 l6 l7 l8 l9 l10
  go_wp2_with fail
  refine wp_region_lex (fun w' => ∃ x : ExtC (fun b => (Value.slice AL d.lg.length cL).ownBlock = some b) wd, w' = x.val) [0, 1, 2, 3, 4, 5, 6, 7, 8, 9, 10, 11, 12, 13, 14, 15, 16, 17, 18] (by kernel_rfl) (by kernel_rfl) (ExtC.start _ _) ?_
  have y7 := ExtC.cell (C := fun b => (Value.slice AL d.lg.length cL).ownBlock = some b) c7 (FAR.out _ hgb)
  have y9 := ExtC.cell (C := fun b => (Value.slice AL d.lg.length cL).ownBlock = some b) c9 (FAR.out _ hgb)
  have x0 := ExtC.cell (C := fun b => (Value.slice AL d.lg.length cL).ownBlock = some b) l0 (FAR.out _ hlb)
  have x1 := ExtC.cell (C := fun b => (Value.slice AL d.lg.length cL).ownBlock = some b) l1 (FAR.out _ hlb)
  have x2 := ExtC.cell (C := fun b => (Value.slice AL d.lg.length cL).ownBlock = some b) l2 (FAR.out _ hlb)
  have x3 := ExtC.cell (C := fun b => (Value.slice AL d.lg.length cL).ownBlock = some b) l3 (FAR.out _ hlb)
  have x4 := ExtC.cell (C := fun b => (Value.slice AL d.lg.length cL).ownBlock = some b) l4 (FAR.out _ hlb)
  have x5 := ExtC.cell (C := fun b => (Value.slice AL d.lg.length cL).ownBlock = some b) l5 (FAR.out _ hlb)
  have x6 := ExtC.cell (C := fun b => (Value.slice AL d.lg.length cL).ownBlock = some b) l6 (FAR.out _ hlb)
  have x7 := ExtC.cell (C := fun b => (Value.slice AL d.lg.length cL).ownBlock = some b) l7 (FAR.out _ hlb)
  have x8 := ExtC.cell (C := fun b => (Value.slice AL d.lg.length cL).ownBlock = some b) l8 (FAR.out _ hlb)
  have x9 := ExtC.cell (C := fun b => (Value.slice AL d.lg.length cL).ownBlock = some b) l9 (FAR.out _ hlb)
  have x10 := ExtC.cell (C := fun b => (Value.slice AL d.lg.length cL).ownBlock = some b) l10 (FAR.out _ hlb)
  iterate 2 (refine lex_q _ rfl rfl rfl ?_; go_big_quiet_step (fail); refine wpQuiet_nil ?_)
  refine lex_nil _ rfl _ rfl rfl _ rfl ?_; go_simp
  iterate 4 (refine lex_q _ rfl rfl rfl ?_; go_big_quiet_step (fail); refine wpQuiet_nil ?_)
  refine lex_nil _ rfl _ rfl rfl _ rfl ?_; go_simp
  iterate 6 (refine lex_q _ rfl rfl rfl ?_; go_big_quiet_step (fail); refine wpQuiet_nil ?_)
  refine lex_a _ rfl rfl true (by kernel_rfl) ?_
  go_wp2
  refine ⟨fun _ => ⟨⟨_, ((Keeps.refl _ _).alloc _).drew⟩, rfl⟩, ?_⟩
  generalize hWb : World.drew (World.alloc wd _) = Wb
  have KB : KeepsAll wd Wb := by subst hWb; exact ((Keeps.refl _ _).alloc _).drew
  have HBX : Hid (Blk Wb wd.heap.size 154 ([Value.int .i64 (e : Int), .bool false] ++ (labC (d.T u)).toList).toArray) := by subst hWb; exact Blk.new wd _ _
  have HDB := Lib.hid (HD.out.keep KB)
  have HLG2 := Lib.hid (HLG.out.keeps RChg.ok KB (fun _ _ h => h.elim))
  have BDB := Lib.hid (BD.out.kept KB (by simp))
  have KB2 := Lib.hid KB
  have hbz := HD.out.bsz
  have hbz2 := HDB.out.bsz
  clear hWb KB BD
  refine lex_a _ rfl rfl true (by kernel_rfl) ?_
  go_wp2_with (at_builtin; refine wpList_append_L tyChg RChg.ok rfl (.tmp 33) (.tmp 43) rfl HLG2.out rfl _ ([Value.int .i64 (e : Int), .bool false] ++ (labC (d.T u)).toList) rfl HBX.out rfl ⟨(e : Int), false, d.T u⟩ (S := fun _ => False) rfl (fun _ h => h.elim) (by simp [Value.oneCell', labC, b8]) (by omega) (by omega) (by omega) ?_; intro v5 w5 HO5 HK5 HA5; obtain ⟨A5, c5, hv5, hv51, hv52⟩ := HO5.form; rw [List.length_append, List.length_singleton] at hv5; subst hv5)
  have K5 : Keeps (fun b => (Value.slice AL d.lg.length cL).ownBlock = some b) wd w5 := (KB2.out.mono (fun _ _ h => h.elim)).trans HK5 (fun _ _ h => h)
  have HG5 := Lib.hid (HDB.out.log HO5 (by rw [HLV.out]; exact HK5) (.inr (by rw [HLV.out]; exact HA5)))
  have hc9 : w5.cell? ⟨s.gb, 9, none⟩ = some (.slice AL d.lg.length cL) := (K5.cell (p := ⟨s.gb, 9, none⟩) HD.out.b.lt (FAR.out _ hgb)).trans c9
  have hf9 : w5.frozen? ⟨s.gb, 9, none⟩ = false := (HD.out.b.kept K5 (FAR.out _ hgb)).frozen 9
  have B5 := Lib.hid (((BDB.out.kept HK5 (fun e => HLG2.out.ne_blk BDB.out (by decide) e))).far (p := ⟨s.gb, 9, none⟩) (Blk.ne_ BDB.out HDB.out.b (by decide)) (Value.slice A5 (d.lg.length + 1) c5))
  refine ⟨fun _ => ⟨⟨_, K5⟩, rfl⟩, ?_⟩
  clear K5 HO5 HK5 HA5
  refine lex_nil _ rfl _ rfl rfl _ rfl ?_; go_simp
  refine lex_q _ rfl rfl rfl ?_; go_big_quiet_step (fail); refine wpQuiet_nil ?_
  refine lex_a _ rfl rfl false (by kernel_rfl) ?_
  go_wp2
  refine ⟨fun h => (by cases h), ?_⟩
  simp only [wpLex]
  refine NoPanic.normal ?_
  generalize hWc : World.setCell w5 _ _ = Wc
  rw [hWc] at HG5 B5
  clear hWc hc9 hf9 HDB HLG2 BDB KB2 hbz hbz2 HD HLG HLV FAR HBX c7 c9 l0 l1 l2 l3 l4 l5 l6 l7 l8 l9 l10 y7 y9 x0 x1 x2 x3 x4 x5 x6 x7 x8 x9 x10
  have HGc := HG5.out.c7
  rw [HN.out] at HGc
  have m0 := B5.out.cell 0
  have m1 := B5.out.cell 1
  have m2 := B5.out.cell 2
  have m3 := B5.out.cell 3
  have m4 := B5.out.cell 4
  have m5 := B5.out.cell 5
  have m6 := B5.out.cell 6
  have m7 := B5.out.cell 7
  have m8 := B5.out.cell 8
  have m9 := B5.out.cell 9
  have m10 := B5.out.cell 10
  simp [labC, b8] at m0 m1 m2 m3 m4 m5 m6 m7 m8 m9 m10
  go_wp2_with fail
  refine wp_region_lex (fun w' => ∃ x : Ext Wc, w' = x.val) [0, 1, 2, 3, 4, 5, 6, 7] (by kernel_rfl) (by kernel_rfl) ⟨⟨_, (Keeps.refl _ _).drew⟩, rfl⟩ ?_
  have y7 := Ext.cell HGc
  have x0 := Ext.cell m0
  have x1 := Ext.cell m1
  have x2 := Ext.cell m2
  have x3 := Ext.cell m3
  have x4 := Ext.cell m4
  have x5 := Ext.cell m5
  have x6 := Ext.cell m6
  have x7 := Ext.cell m7
  have x8 := Ext.cell m8
  have x9 := Ext.cell m9
  have x10 := Ext.cell m10
  refine lex_q _ rfl rfl rfl ?_; go_big_quiet_step (fail); refine wpQuiet_nil ?_
  refine lex_nil _ rfl _ rfl rfl _ rfl ?_; go_simp
  iterate 5 (refine lex_q _ rfl rfl rfl ?_; go_big_quiet_step (fail); refine wpQuiet_nil ?_)
  refine lex_a _ rfl rfl false (by kernel_rfl) ?_
  have HG6 := Lib.hid (HG5.out.keep ((Keeps.refl _ _).drew))
  clear HG5 B5 HGc m0 m1 m2 m3 m4 m5 m6 m7 m8 m9 m10 y7 x0 x1 x2 x3 x4 x5 x6 x7 x8 x9 x10
  generalize Wc.drew = Wd at *
  have HU := HG6.out.lab he
  have l0 := HU 0 _ rfl
  have l1 := HU 1 _ rfl
  have l2 := HU 2 _ rfl
  have l3 := HU 3 _ rfl
  have l4 := HU 4 _ rfl
  have l5 := HU 5 _ rfl
  have l6 := HU 6 _ rfl
  have l7 := HU 7 _ rfl
  have l8 := HU 8 _ rfl
  have l9 := HU 9 _ rfl
  have l10 := HU 10 _ rfl
  clear HU
  simp [labC, b8] at l0 l1 l2 l3 l4 l5 l6 l7 l8 l9 l10
  have f0 := HG6.out.l.frozen (e * 11)
  have f1 := HG6.out.l.frozen (e * 11 + 1)
  have f2 := HG6.out.l.frozen (e * 11 + 2)
  have f3 := HG6.out.l.frozen (e * 11 + 3)
  have f4 := HG6.out.l.frozen (e * 11 + 4)
  have f5 := HG6.out.l.frozen (e * 11 + 5)
  have f6 := HG6.out.l.frozen (e * 11 + 6)
  have f7 := HG6.out.l.frozen (e * 11 + 7)
  have f8 := HG6.out.l.frozen (e * 11 + 8)
  have f9 := HG6.out.l.frozen (e * 11 + 9)
  have f10 := HG6.out.l.frozen (e * 11 + 10)
  go_wp2
  refine ⟨fun h => (by cases h), ?_⟩
  simp only [wpLex]
  refine NoPanic.normal ?_
  have HG7 := Lib.hid (HG6.out.setLab he m)
  simp only [storeLab] at HG7
  clear HG6 l0 l1 l2 l3 l4 l5 l6 l7 l8 l9 l10 f0 f1 f2 f3 f4 f5 f6 f7 f8 f9 f10
  generalize hWe : World.setCell _ _ _ = We
  rw [hWe] at HG7
  clear hWe
  clear Wd
  have g11 := HG7.out.b.cell 11
  simp at g11
  rw [HN.out] at g11
  have hqe : e < d.qd.length := by have := HG7.out.ql; simp only at this; rw [HN.out] at this; omega
  have hqx : d.qd[e]? = some d.qd[e] := List.getElem?_eq_getElem hqe
  generalize d.qd[e] = qb at *
  have qx := (HG7.out.qd.cell e).trans (boolsC_at hqx)
  rcases qb with _ | _
  ·have fx := HG7.out.qd.frozen e
   have HG8 := Lib.hid (HG7.out.setQd e true)
   obtain ⟨Aq, cq, hqv, _, _⟩ := HG8.out.q.form
   simp only at hqv
   have HQO : Hid (OwnL 3 1 RInt (We.setCell ⟨s.qb, e, none⟩ (.bool true)) s.bs s.bs (.slice Aq d.que.length cq) d.que) := Lib.hid (hqv ▸ HG8.out.q)
   have HQV := Lib.hid hqv
   have FARQ : Hid (∀ b, b < s.bs → ¬ ((Value.slice Aq d.que.length cq).ownBlock = some b)) := fun b hb e => by have := HQO.out.lt e; omega
   have g10 := HG8.out.b.cell 10
   simp at g10
   rw [hqv] at g10
   have hbz := HG8.out.bsz
   have hgl := HG8.out.b.lt
   clear hqv
   have n3 := HG7.out.nes.2.2.1
   have g10b : We.cell? ⟨s.gb, 10, none⟩ = some (.slice Aq d.que.length cq) := by
    have := HG7.out.b.cell 10
    simp at this
    rw [HQV.out] at this
    exact this
   have hn3 : s.n = d.qd.length := by have := HG7.out.ql; simpa using this.symm
   have hbz7 := HG7.out.bsz
   have hgl7 := HG7.out.b.lt
   go_wp2_with (at_builtin; refine wpList_append_L tyInt RInt.ok rfl (.tmp 72) (.tmp 74) rfl (HQO.out.alloc RInt.ok _) rfl _ [.int .i64 (e : Int)] rfl (Blk.new' _ _ _ (by simp)) rfl (e : Int) (S := fun _ => False) rfl (fun _ h => h.elim) (by simp [Value.oneCell']) (by omega) (by omega) (by simp; omega) ?_; intro v9 w9 HO9 HK9 HA9; have HG9 := Lib.hid ((HG8.out.keep ((Keeps.refl _ _).alloc _)).setQ HO9 (by show Keeps (fun b => d.qv.ownBlock = some b) _ _; rw [HQV.out]; exact HK9) (.inr (by show _ = d.qv.ownBlock ∨ _; rw [HQV.out]; exact HA9))); have hc10 := (HK9.cell (p := ⟨s.gb, 10, none⟩) (by simp; omega) (FARQ.out _ hgb)).trans (((Keeps.refl (fun _ => False) _).alloc _).cellK (p := ⟨s.gb, 10, none⟩) hgl g10); have hf10 := ((HG8.out.keep ((Keeps.refl _ _).alloc _)).b.kept HK9 (FARQ.out _ hgb)).frozen 10; obtain ⟨A9, c9, hv9, _, _⟩ := HO9.form; rw [List.length_append, List.length_singleton] at hv9; subst hv9; clear HO9 HK9 HA9)
   refine bodyPost_end (results_none rfl _ _ _) rfl ?_
   exact ⟨rfl, _, HG9.out, by rw [HMM.out]; exact ⟨by simp [hmu], rfl, rfl, by simp [hmu], by simp [hmu, hqx], by simp [hmu]⟩⟩
  ·go_wp2
   refine bodyPost_end (results_none rfl _ _ _) rfl ?_
   exact ⟨rfl, _, HG7.out, by rw [HMM.out]; exact ⟨by simp [hmu], rfl, rfl, by simp [hmu], by simp [hmu, hqx], by
    simp only [if_neg hmu]
    apply List.ext_getElem?
    intro j
    rw [List.getElem?_set]
    by_cases hj : e = j
    ·subst hj; rw [if_pos rfl, if_pos hqe]; exact hqx
    ·rw [if_neg hj]⟩⟩

theorem chain_frm {ps : List (List Stage)} {b : RArc} (hb : b ∈ chainR ps) {t k : Nat} {p : List Stage} (hp : ps[t]? = some p) (hf : b.frm = ⟨(t : Int), (k : Int)⟩) : ∃ s, p[k]? = some s ∧ b = ⟨⟨(t : Int), (k : Int)⟩, ⟨(t : Int), (k : Int) + 1⟩, s.mn⟩ := by
 obtain ⟨t', k', p', s, hp', hs, rfl⟩ := mem_chainR.1 hb
 injection hf with h1 h2
 obtain rfl : t' = t := by omega
 obtain rfl : k' = k := by omega
 rw [hp] at hp'
 injection hp' with hp'
 subst hp'
 exact ⟨s, hs, rfl⟩
theorem nextD_push0 (ps : List (List Stage)) (D : List RArc) (x y : Ref) (hi : num ps x < (evs ps).length) : nextD ps (D ++ [arc0 x y]) = (nextD ps D).set (num ps x) ((rowD ps D (num ps x)).map (fun b => (num ps b.to : Int)) ++ [(num ps y : Int)]) := nextD_push ps D (arc0 x y) hi
structure QSt (ps : List (List Stage)) (at_ : List Int) (n : Int) (D : List RArc) (L : List Ref) (R : RArc → Prop) (i : Nat) (lg0 : List Chg) (a0 : Nat) (st0 : LTab × List (List Int)) (d : GD) : Prop where
 prt : Prt ps at_ n D L (fun b => (∃ j, i ≤ j ∧ d.que[j]? = some (num ps b.frm : Int)) ∨ R b) d.T
 fl : ∀ e : Nat, d.qd[e]? = some true → ∃ j, i ≤ j ∧ d.que[j]? = some (e : Int)
 qin : ∀ (j : Nat) x, d.que[j]? = some x → ∃ u, Ev ps at_ u ∧ x = (num ps u : Int)
 qa : d.que.length + a0 ≤ absT d.T (evs ps)
 lg : ∃ es, d.lg = lg0 ++ es ∧ es.length + a0 ≤ absT d.T (evs ps) + 1 ∧ UndoR (evs ps) st0 es.reverse (d.T, d.N)
 il : i ≤ d.que.length
 N : d.N = nextD ps D
 ql : d.qd.length = (evs ps).length

section
variable {ps : List (List Stage)} {at_ : List Int} {n : Int} {D : List RArc} {L : List Ref} {R : RArc → Prop} {i : Nat} {lg0 : List Chg} {a0 : Nat} {st0 : LTab × List (List Int)} {d d' : GD}
theorem updL_back (T : LTab) (u : Ref) (m : Lab) : updL (updL T u m) u (T u) = T := by
 funext v
 by_cases e : v = u
 ·subst e; rw [updL_at]
 ·rw [updL_ne _ _ e, updL_ne _ _ e]
theorem QSt.mono (q : QSt ps at_ n D L R i lg0 a0 st0 d) {R' : RArc → Prop} (h : ∀ b ∈ arcsD ps D, Ev ps at_ b.to → doneR at_ b.frm = false → R b → R' b) : QSt ps at_ n D L R' i lg0 a0 st0 d :=
 ⟨q.prt.mono fun b hb h1 h2 hp => hp.imp id (h b hb h1 h2), q.fl, q.qin, q.qa, q.lg, q.il, q.N, q.ql⟩
theorem QSt.upd (hv : valid ps = true) (hD : DOk ps at_ D) (hn : 0 ≤ n ∧ n ≤ 4194304) (h : Topo ps at_ D L) (q : QSt ps at_ n D L R i lg0 a0 st0 d) {a : RArc} (ha : a ∈ arcsD ps D) (he : Ev ps at_ a.to) (hfe : Ev ps at_ a.frm) (hne : a.frm ≠ a.to)
  (hU : Upd d d' (num ps a.to) a.to (mergeL (d.T a.to) (d.T a.frm) a.frm a.wt)) : QSt ps at_ n D L (fun b => R b ∧ b ≠ a) i lg0 a0 st0 d' := by
 have hb := q.prt.bounds hv hD hn h
 have hp := q.prt.upd h ha he hfe.2 hfe hne
 obtain ⟨es, hlg, hel, hun⟩ := q.lg
 by_cases hm : mergeL (d.T a.to) (d.T a.frm) a.frm a.wt = d.T a.to
 ·have hT := hU.T
  have hlg' := hU.lg
  have hque := hU.que
  have hqd := hU.qd
  rw [if_pos hm] at hT hlg' hqd
  rw [if_pos (.inl hm)] at hque
  have hid : updL d.T a.to (mergeL (d.T a.to) (d.T a.frm) a.frm a.wt) = d.T := by
   funext v
   by_cases e : v = a.to
   ·subst e; rw [updL_at, hm]
   ·rw [updL_ne _ _ e]
  rw [hid] at hp
  refine ⟨?_, by rw [hqd, hque]; exact q.fl, by rw [hque]; exact q.qin, by rw [hque, hT]; exact q.qa, ⟨es, by rw [hlg', hlg], by rw [hT]; exact hel, by rw [hT, hU.N]; exact hun⟩, by rw [hque]; exact q.il, hU.N.trans q.N, by rw [hqd]; exact q.ql⟩
  rw [hT, hque]
  refine hp.mono fun b _ _ _ hb => ?_
  rcases hb with ⟨hb | hb, hne⟩ | ⟨_, hc⟩
  ·exact .inl hb
  ·exact .inr ⟨hb, hne⟩
  ·exact absurd hm hc
 ·have hT := hU.T
  have hlg' := hU.lg
  have hque := hU.que
  have hqd := hU.qd
  rw [if_neg hm] at hT hlg' hqd
  have hlt := labAbs_lt (merge_le (d.T a.to) (d.T a.frm) a.frm a.wt) (hb a.to).1 (mergeL_len _ _ _ _) (hb a.to).2.2.1 (fun t ht => ((hb a.to).2.1 t ht).1) hm
  have hab := absT_upd (T := d.T) (l := mergeL (d.T a.to) (d.T a.frm) a.frm a.wt) (inR_mem he.1) (Nat.le_of_lt hlt)
  rw [← hT] at hab
  have hnum : (evs ps)[num ps a.to]? = some a.to := evs_num he.1
  -- the old queue is part of the new one, and the event is in it
  have hpre : ∀ (j : Nat) x, d.que[j]? = some x → d'.que[j]? = some x := fun j x hx => by
   rw [hque]
   split
   ·exact hx
   ·rw [List.getElem?_append_left (getElem?_lt hx)]; exact hx
  have hin : ∃ j, i ≤ j ∧ d'.que[j]? = some (num ps a.to : Int) := by
   by_cases hq : d.qd[num ps a.to]? = some true
   ·obtain ⟨j, h1, h2⟩ := q.fl _ hq
    exact ⟨j, h1, hpre j _ h2⟩
   ·rw [if_neg (by rintro (h | h); exact hm h; exact hq h)] at hque
    exact ⟨d.que.length, q.il, by rw [hque]; simp⟩
  have hql : d'.que.length ≤ d.que.length + 1 := by rw [hque]; split <;> simp
  have hql2 : d.que.length ≤ d'.que.length := by rw [hque]; split <;> simp
  have hqa := q.qa
  have hil := q.il
  refine ⟨?_, fun e hq => ?_, fun j x hx => ?_, by omega, ⟨es ++ [⟨(num ps a.to : Int), false, d.T a.to⟩], by rw [hlg', hlg, List.append_assoc], by simp; omega, ?_⟩, by omega, hU.N.trans q.N, by rw [hqd, List.length_set]; exact q.ql⟩
  ·rw [hT]
   refine hp.mono fun b _ _ _ hb => ?_
   rcases hb with ⟨⟨j, hj, hx⟩ | hb, hne⟩ | ⟨hf, _⟩
   ·exact .inl ⟨j, hj, hpre j _ hx⟩
   ·exact .inr ⟨hb, hne⟩
   ·rw [hf]; exact .inl hin
  ·rw [hqd, List.getElem?_set] at hq
   by_cases e2 : num ps a.to = e
   ·subst e2; exact hin
   ·rw [if_neg e2] at hq
    obtain ⟨j, h1, h2⟩ := q.fl _ hq
    exact ⟨j, h1, hpre j _ h2⟩
  ·rw [hque] at hx
   by_cases hc : mergeL (d.T a.to) (d.T a.frm) a.frm a.wt = d.T a.to ∨ d.qd[num ps a.to]? = some true
   ·rw [if_pos hc] at hx; exact q.qin j x hx
   ·rw [if_neg hc] at hx
    rcases Nat.lt_or_ge j d.que.length with hj | hj
    ·rw [List.getElem?_append_left hj] at hx; exact q.qin j x hx
    ·rw [List.getElem?_append_right hj] at hx
     have := getElem?_lt hx
     obtain rfl : j = d.que.length := by simp at this; omega
     simp at hx
     exact ⟨a.to, he, hx.symm⟩
  ·rw [List.reverse_append, List.reverse_cons, List.reverse_nil, List.nil_append, List.cons_append, List.nil_append]
   refine ⟨⟨num ps a.to, rfl, num_lt he.1, fun h => by cases h⟩, ?_⟩
   have e1 : undo1 (evs ps) ⟨(num ps a.to : Int), false, d.T a.to⟩ (d'.T, d'.N) = (d.T, d.N) := by
    unfold undo1
    rw [if_neg (by simp)]
    simp only [Int.toNat_natCast, hnum, Option.getD_some]
    rw [hT, updL_back, hU.N]
   rw [e1]; exact hun
theorem QSt.pop (q : QSt ps at_ n D L (fun _ => False) i lg0 a0 st0 d) {u : Ref} (hu : Ev ps at_ u) (hx : d.que[i]? = some (num ps u : Int)) (hi : ∀ a ∈ arcsD ps D, InR ps a.frm) : QSt ps at_ n D L (fun b => b.frm = u) (i + 1) lg0 a0 st0 { d with qd := d.qd.set (num ps u) false } := by
 refine ⟨q.prt.mono fun b hb _ _ hp => ?_, fun e hq => ?_, q.qin, q.qa, q.lg, getElem?_lt hx, q.N, by show (d.qd.set _ _).length = _; rw [List.length_set]; exact q.ql⟩
 ·rcases hp with ⟨j, hj, hjx⟩ | hp
  ·by_cases e : j = i
   ·subst e
    rw [hx] at hjx
    injection hjx with hjx
    exact .inr (num_inj (hi b hb) hu.1 (by omega))
   ·exact .inl ⟨j, by omega, hjx⟩
  ·exact hp.elim
 ·have hq : (d.qd.set (num ps u) false)[e]? = some true := hq
  rw [List.getElem?_set] at hq
  by_cases e2 : num ps u = e
  ·rw [if_pos e2] at hq; split at hq <;> simp at hq
  ·rw [if_neg e2] at hq
   obtain ⟨j, hj, hjx⟩ := q.fl e hq
   refine ⟨j, ?_, hjx⟩
   by_cases e3 : j = i
   ·subst e3
    rw [hx] at hjx
    injection hjx with hjx
    exact absurd (by omega) e2
   ·omega
theorem QSt.done (h : Topo ps at_ D L) (q : QSt ps at_ n D L (fun _ => False) i lg0 a0 st0 d) (hi : d.que.length ≤ i) : d.T = labS ps at_ n D L ∧ ∀ e : Nat, d.qd[e]? ≠ some true := by
 refine ⟨funext fun u => q.prt.done h (fun a _ _ _ hp => ?_) u, fun e hq => ?_⟩
 ·rcases hp with ⟨j, hj, hx⟩ | hp
  ·have := getElem?_lt hx; omega
  ·exact hp
 ·obtain ⟨j, hj, hx⟩ := q.fl e hq
  have := getElem?_lt hx; omega
def Row (ps : List (List Stage)) (D : List RArc) (u : Ref) (m : Nat) (b : RArc) : Prop := b ∈ (rowD ps D (num ps u)).drop m
theorem QSt.rows {u : Ref} (q : QSt ps at_ n D L (fun b => b.frm = u ∧ b ∉ chainR ps) i lg0 a0 st0 d) : QSt ps at_ n D L (Row ps D u 0) i lg0 a0 st0 d :=
 q.mono fun b hb _ _ hr => by
  unfold Row rowD
  rw [List.drop_zero, List.mem_filter]
  rcases List.mem_append.1 hb with hb | hb
  ·exact absurd hb hr.2
  ·exact ⟨hb, by simp [hr.1]⟩
theorem QSt.rowStep {u : Ref} {m : Nat} {b0 : RArc} (hb : (rowD ps D (num ps u))[m]? = some b0) (q : QSt ps at_ n D L (fun b => Row ps D u m b ∧ b ≠ b0) i lg0 a0 st0 d) : QSt ps at_ n D L (Row ps D u (m + 1)) i lg0 a0 st0 d :=
 q.mono fun b _ _ _ hr => by
  have hm := getElem?_lt hb
  have h1 : b ∈ (rowD ps D (num ps u)).drop m := hr.1
  rw [List.drop_eq_getElem_cons hm] at h1
  rcases List.mem_cons.1 h1 with h1 | h1
  ·rw [List.getElem?_eq_getElem hm] at hb
   injection hb with hb
   exact absurd (h1.trans hb) hr.2
  ·exact h1
theorem QSt.rowEnd {u : Ref} {m : Nat} (hm : (rowD ps D (num ps u)).length ≤ m) (q : QSt ps at_ n D L (Row ps D u m) i lg0 a0 st0 d) : QSt ps at_ n D L (fun _ => False) i lg0 a0 st0 d :=
 q.mono fun b _ _ _ hr => by unfold Row at hr; rw [List.drop_of_length_le hm] at hr; simp at hr
theorem row_arc (hD : DOk ps at_ D) {u : Ref} (hu : InR ps u) {m : Nat} {b0 : RArc} (hb : (rowD ps D (num ps u))[m]? = some b0) : b0 ∈ D ∧ b0.frm = u ∧ b0 = ⟨u, b0.to, 0⟩ := by
 have h1 := List.mem_of_getElem? hb
 unfold rowD at h1
 rw [List.mem_filter] at h1
 have h2 := num_inj (hD.frm b0 h1.1).1 hu (by simpa using h1.2)
 exact ⟨h1.1, h2, by rw [← h2, ← hD.wt b0 h1.1]⟩
theorem QSt.start {D' : List RArc} {L' L1 : List Ref} {x y : Ref} {l : Lab} (h : Topo ps at_ D' L') (h1 : Topo ps at_ (D' ++ [arc0 x y]) L1) (hx : InR ps x) (hT : d.T = labS ps at_ n D' L') (hN : d.N = nextD ps (D' ++ [arc0 x y])) (hlg : d.lg = lg0 ++ [⟨(num ps x : Int), true, l⟩]) (hq : d.que = []) (hqd : ∀ e : Nat, d.qd[e]? ≠ some true) (hql : d.qd.length = (evs ps).length) :
  QSt ps at_ n (D' ++ [arc0 x y]) L1 (fun b => b = arc0 x y) 0 lg0 (absT d.T (evs ps)) (d.T, nextD ps D') d := by
 refine ⟨?_, fun e he => absurd he (hqd e), fun j x hj => by rw [hq] at hj; simp at hj, by rw [hq]; simp, ⟨_, hlg, by simp; omega, ?_⟩, Nat.zero_le _, hN, hql⟩
 ·rw [hT]
  exact (Prt.start h h1).mono fun b _ _ _ hb => .inr hb
 ·have e1 : undo1 (evs ps) ⟨(num ps x : Int), true, l⟩ (d.T, d.N) = (d.T, nextD ps D') := by
   unfold undo1
   rw [if_pos rfl]
   simp only [Int.toNat_natCast]
   have hlt := num_lt hx
   have hpu := nextD_push ps D' (arc0 x y) hlt
   rw [hN, hpu]
   have hx2 : num ps (arc0 x y).frm = num ps x := rfl
   rw [hx2, List.getElem?_set_self (by rw [nextD_len]; exact hlt), Option.getD_some, List.dropLast_concat, List.set_set]
   congr 1
   apply List.ext_getElem?
   intro j
   rw [List.getElem?_set]
   by_cases e : num ps x = j
   ·subst e; rw [if_pos rfl, if_pos (by rw [nextD_len]; exact hlt), nextD_at _ _ hlt]
   ·rw [if_neg e]
  refine ⟨⟨num ps x, rfl, num_lt hx, fun _ => ⟨(rowD ps D' (num ps x)).map (fun b => (num ps b.to : Int)), (num ps y : Int), ?_⟩⟩, e1⟩
  rw [hN, nextD_push0 ps D' x y (num_lt hx), List.getElem?_set_self (by rw [nextD_len]; exact num_lt hx)]
end

structure SOk (s : GS) : Prop where
 v : valid s.ps = true
 g : Gd s.ps s.at_
 n : 0 ≤ s.now ∧ s.now ≤ 4194304
structure GP (s : GS) (D : List RArc) (d : GD) : Prop where
 dok : DOk s.ps s.at_ D
 ho : ∀ a ∈ D, doneR s.at_ a.to = false
 fl : ∀ e : Nat, d.qd[e]? ≠ some true
 ex : ∃ D' L, Topo s.ps s.at_ D L ∧ Eff s.ps s.at_ D' D L ∧ d.T = labS s.ps s.at_ s.now D L ∧ d.N = nextD s.ps D' ∧ D'.length ≤ D.length ∧ d.lg.length ≤ absT d.T (evs s.ps) + D'.length
section
variable {s : GS} {D : List RArc} {d : GD}
theorem labS_bounds (hs : SOk s) (hD : DOk s.ps s.at_ D) {L : List Ref} (h : Topo s.ps s.at_ D L) (v : Ref) : (labS s.ps s.at_ s.now D L v).bef.length = 10 ∧ (∀ t, t < 10 → -1 ≤ (labS s.ps s.at_ s.now D L v).bf t ∧ (labS s.ps s.at_ s.now D L v).bf t ≤ 64) ∧ -1 ≤ (labS s.ps s.at_ s.now D L v).sec ∧ (labS s.ps s.at_ s.now D L v).sec ≤ 3000000000 := by
 have hL := topo_len hs.v h
 have hsb := secS_bd (n := s.now) (L := L) hs.v hD hs.n v
 refine ⟨labS_len v, fun t ht => ?_, hsb.1, ?_⟩
 ·rw [labS_bf ht]; exact befS_bd hs.v h _ v
 ·show secS s.ps s.at_ s.now D L v ≤ 3000000000
  omega
theorem GP.bounds (hs : SOk s) (h : GP s D d) (v : Ref) : (d.T v).bef.length = 10 ∧ (∀ t, t < 10 → -1 ≤ (d.T v).bf t ∧ (d.T v).bf t ≤ 64) ∧ -1 ≤ (d.T v).sec ∧ (d.T v).sec ≤ 3000000000 := by
 obtain ⟨D', L, h1, _, h3, _⟩ := h.ex
 rw [h3]; exact labS_bounds hs h.dok h1 v
theorem labS_abs (hs : SOk s) (hD : DOk s.ps s.at_ D) {L : List Ref} (h : Topo s.ps s.at_ D L) : absT (labS s.ps s.at_ s.now D L) (evs s.ps) ≤ 1780000000000 := by
 have hst : Prt s.ps s.at_ s.now D L (fun _ => False) (labS s.ps s.at_ s.now D L) := by
  have hs1 := solS_sol (base := baseN s.ps s.at_ s.now) (ph := phS) (init := initR s.at_ s.now) h
  have hb := fun t : Int => solS_sol (base := fun _ => -1) (ph := phB t) (init := fun _ => -1) h
  refine ⟨fun u => labS_len u, fun e he => ⟨hs1.base e he, fun t ht => by rw [labS_bf ht]; exact (hb (t : Int)).base e he⟩, fun a ha he hf => .inr ?_, fun e he => ⟨Int.le_refl _, fun t ht => by rw [labS_bf ht]; exact Int.le_refl _⟩, fun _ _ => rfl⟩
  refine (sat_iff (labS_len _)).2 ⟨hs1.arc a ha he hf, fun t ht => ?_⟩
  rw [labS_bf ht, labS_bf ht]
  exact (hb (t : Int)).arc a ha he hf
 exact hst.abs hs.v hD hs.n h
theorem GP.lgb (hs : SOk s) (h : GP s D d) (hl : D.length ≤ 100000000) : d.lg.length ≤ 1780000000000 + 100000000 := by
 obtain ⟨D', L, h1, _, h3, _, h5, h6⟩ := h.ex
 have := labS_abs hs h.dok h1
 rw [h3] at h6
 omega
theorem nextD_row {ps : List (List Stage)} {D : List RArc} {i : Nat} {l : List Int} (h : (nextD ps D)[i]? = some l) : l = (rowD ps D i).map (fun a => (num ps a.to : Int)) ∧ l.length ≤ D.length := by
 have hi := getElem?_lt h
 rw [nextD_len] at hi
 rw [nextD_at _ _ hi] at h
 injection h with h
 refine ⟨h.symm, ?_⟩
 rw [← h, List.length_map]
 exact List.length_filter_le _ _
theorem evs_le (hs : SOk s) : s.n ≤ 650 := by
 have h2 := fst_le (fun p hp => ((valid_lens hs.v).2 p hp).2) s.ps.length (Nat.le_refl _)
 rw [fst_len] at h2
 have := (valid_lens hs.v).1
 show (evs s.ps).length ≤ 650
 omega
theorem labS_indep {ps : List (List Stage)} {at_ : List Int} {n : Int} {L L' : List Ref} (h : Topo ps at_ D L) (h' : Topo ps at_ D L') : labS ps at_ n D L = labS ps at_ n D L' := by
 funext u
 unfold labS secS befS
 rw [solS_indep phS_mono h h' u]
 congr 1
 exact List.map_congr_left fun t _ => solS_indep (phB_mono (t : Int)) h h' u
theorem ho_snoc {at_ : List Int} (ho : ∀ a ∈ D, doneR at_ a.to = false) {x y : Ref} (hy : doneR at_ y = false) : ∀ a ∈ D ++ [arc0 x y], doneR at_ a.to = false := fun a ha => by
 rcases List.mem_append.1 ha with ha | ha
 ·exact ho a ha
 ·obtain rfl : a = arc0 x y := by simpa using ha
  exact hy
theorem GP.skip (hs : SOk s) (h : GP s D d) {x y : Ref} {L1 : List Ref} (hx : Ev s.ps s.at_ x) (hy : Ev s.ps s.at_ y) (hne : x.tr ≠ y.tr) (hl : leadsL d.T x y = true) (h1 : Topo s.ps s.at_ (D ++ [arc0 x y]) L1) : GP s (D ++ [arc0 x y]) d := by
 obtain ⟨D', L, hL, hE, hT, hN, hDl, hlg⟩ := h.ex
 have hD1 := h.dok.snoc hx hy.1 hne
 have hsub : ∀ a ∈ D, a ∈ D ++ [arc0 x y] := fun a ha => List.mem_append_left _ ha
 have hL1 := topo_sub hsub h1
 rw [hT, leadsL_eq hs.v hx.1] at hl
 have hl1 : leadsS s.ps s.at_ D L1 x y = true := leads_sub (fun _ h => h) hL hL1 hl
 have hE1 : Eff s.ps s.at_ D (D ++ [arc0 x y]) L1 := (Eff.refl D L1).skip hl1
 have hE2 : Eff s.ps s.at_ D' (D ++ [arc0 x y]) L1 := by
  have e1 := hE.any (topo_sub hE.sub hL) (topo_sub hE.sub hL1)
  refine e1.skip ?_
  have e2 := eff_lab (n := s.now) hs.v h.dok hL1 e1
  have e3 : leadsL (labS s.ps s.at_ s.now D' L1) x y = true := by rw [e2, leadsL_eq hs.v hx.1]; exact hl1
  rw [leadsL_eq hs.v hx.1] at e3
  exact e3
 refine ⟨hD1, ho_snoc h.ho hy.2, h.fl, D', L1, h1, hE2, ?_, hN, by simp; omega, hlg⟩
 rw [hT, labS_indep hL hL1]
 exact eff_lab hs.v hD1 h1 hE1
theorem GP.add (hs : SOk s) (h : GP s D d) {d' : GD} {D' : List RArc} {L L1 : List Ref} {x y : Ref} {i : Nat} (hL : Topo s.ps s.at_ D L) (hE : Eff s.ps s.at_ D' D L) (_hT : d.T = labS s.ps s.at_ s.now D L) (hN : d.N = nextD s.ps D') (hDl : D'.length ≤ D.length) (hlg : d.lg.length ≤ absT d.T (evs s.ps) + D'.length)
  (hx : Ev s.ps s.at_ x) (hy : Ev s.ps s.at_ y) (hne : x.tr ≠ y.tr) (h1 : Topo s.ps s.at_ (D ++ [arc0 x y]) L1) (q : QSt s.ps s.at_ s.now (D' ++ [arc0 x y]) L1 (fun _ => False) i d.lg (absT d.T (evs s.ps)) (d.T, nextD s.ps D') d') (hi : d'.que.length ≤ i) :
  GP s (D ++ [arc0 x y]) d' ∧ ∃ es, d'.lg = d.lg ++ es ∧ UndoR (evs s.ps) (d.T, d.N) es.reverse (d'.T, d'.N) := by
 have hsub : ∀ a ∈ D, a ∈ D ++ [arc0 x y] := fun a ha => List.mem_append_left _ ha
 have hsub' : ∀ a ∈ D' ++ [arc0 x y], a ∈ D ++ [arc0 x y] := fun a ha => by
  rcases List.mem_append.1 ha with ha | ha
  ·exact List.mem_append_left _ (hE.sub a ha)
  ·exact List.mem_append_right _ ha
 have h2 := topo_sub hsub' h1
 have hD1 := h.dok.snoc hx hy.1 hne
 have hE1 : Eff s.ps s.at_ (D' ++ [arc0 x y]) (D ++ [arc0 x y]) L1 := hE.snoc (topo_sub hE.sub hL) h2
 obtain ⟨hT1, hq1⟩ := q.done h2 hi
 obtain ⟨es, e1, e2, e3⟩ := q.lg
 refine ⟨⟨hD1, ho_snoc h.ho hy.2, hq1, D' ++ [arc0 x y], L1, h1, hE1, ?_, q.N, by simp; omega, ?_⟩, es, e1, by rw [hN]; exact e3⟩
 ·rw [hT1]
  exact eff_lab hs.v hD1 h1 hE1
 ·rw [e1]; simp; omega
end

def lastU (pre : List Ref) (t : Int) : Option Ref := (pre.filter fun u => decide (u.tr = t)).getLast?
theorem lastU_nil (t : Int) : lastU [] t = none := rfl
theorem lastU_snoc (pre : List Ref) (v : Ref) (t : Int) : lastU (pre ++ [v]) t = if v.tr = t then some v else lastU pre t := by
 unfold lastU
 by_cases h : v.tr = t
 ·simp [List.filter_append, h]
 ·simp [List.filter_append, h]
theorem lastU_mem {pre : List Ref} {t : Int} {u : Ref} (h : lastU pre t = some u) : u ∈ pre ∧ u.tr = t := by
 unfold lastU at h
 have := List.mem_of_getLast? h
 rw [List.mem_filter] at this
 exact ⟨this.1, by simpa using this.2⟩
def idxU (l : List Ref) (v : Ref) : Int := idxF (fun u => decide (u = v)) l
theorem idxU_mem {l : List Ref} {v : Ref} (h : v ∈ l) : ∃ i : Nat, idxU l v = (i : Int) ∧ l[i]? = some v := by
 unfold idxU idxF
 cases e : l.findIdx? (fun u => decide (u = v)) with
 | none => rw [List.findIdx?_eq_none_iff] at e; have := e v h; simp at this
 | some i =>
  rw [List.findIdx?_eq_some_iff_getElem] at e
  obtain ⟨hi, h1, _⟩ := e
  exact ⟨i, rfl, by rw [List.getElem?_eq_getElem hi]; simpa using h1⟩
theorem idxU_no {l : List Ref} {v : Ref} (h : v ∉ l) : idxU l v = -1 := idxF_none fun y hy => by simp; rintro rfl; exact h hy
def lastI (l pre : List Ref) (t : Int) : Int := match lastU pre t with
 | none => -1
 | some u => idxU l u
def lastsL (n : Nat) (l pre : List Ref) : List Int := (List.range n).map fun t : Nat => lastI l pre (t : Int)
theorem lastsL_len (n : Nat) (l pre : List Ref) : (lastsL n l pre).length = n := by simp [lastsL]
theorem lastsL_at {n : Nat} (l pre : List Ref) {t : Nat} (h : t < n) : (lastsL n l pre)[t]? = some (lastI l pre (t : Int)) := by simp [lastsL, h]
theorem lastsL_nil (n : Nat) (l : List Ref) : lastsL n l [] = List.replicate n (-1) := by
 unfold lastsL
 rw [List.eq_replicate_iff]
 simp [lastI, lastU_nil]
theorem lastsL_snoc (n : Nat) (l pre : List Ref) (v : Ref) {t : Nat} (ht : v.tr = (t : Int)) : lastsL n l (pre ++ [v]) = (lastsL n l pre).set t (idxU l v) := by
 apply List.ext_getElem?
 intro j
 rw [List.getElem?_set]
 by_cases hj : j < n
 ·rw [lastsL_at _ _ hj, lastsL_at _ _ hj, lastsL_len]
  unfold lastI
  rw [lastU_snoc, ht]
  by_cases e : t = j
  ·subst e; simp [hj]
  ·have : ¬ (t : Int) = (j : Int) := by omega
   simp [e, this]
 ·have h1 : (lastsL n l (pre ++ [v]))[j]? = none := List.getElem?_eq_none (by rw [lastsL_len]; omega)
  have h2 : (lastsL n l pre)[j]? = none := List.getElem?_eq_none (by rw [lastsL_len]; omega)
  rw [h1, h2, lastsL_len]
  by_cases e : t = j
  ·rw [if_pos e, if_neg (by omega)]
  ·rw [if_neg e]
def arcT (ps : List (List Stage)) (r : Int) (pre : List Ref) (v : Ref) (t : Nat) : List RArc := if (t : Int) = v.tr then [] else match lastU pre (t : Int) with
 | none => []
 | some u => [arc0 (relOf ps r u) v]
def arcsTo (ps : List (List Stage)) (r : Int) (pre : List Ref) (v : Ref) : Nat → List RArc
 | 0 => []
 | t + 1 => arcsTo ps r pre v t ++ arcT ps r pre v t
theorem arcT_len (ps : List (List Stage)) (r : Int) (pre : List Ref) (v : Ref) (t : Nat) : (arcT ps r pre v t).length ≤ 1 := by
 unfold arcT
 split
 ·simp
 ·split <;> simp
theorem arcsTo_len (ps : List (List Stage)) (r : Int) (pre : List Ref) (v : Ref) : ∀ t, (arcsTo ps r pre v t).length ≤ t
 | 0 => by simp [arcsTo]
 | t + 1 => by
  have := arcsTo_len ps r pre v t
  have := arcT_len ps r pre v t
  rw [arcsTo, List.length_append]
  omega
def okSeq (ps : List (List Stage)) (at_ : List Int) (D : List RArc) : List RArc → Bool
 | [] => true
 | a :: l => okD ps at_ (D ++ [a]) && okSeq ps at_ (D ++ [a]) l
theorem okSeq_app (ps : List (List Stage)) (at_ : List Int) : ∀ (xs ys D : List RArc), okSeq ps at_ D (xs ++ ys) = (okSeq ps at_ D xs && okSeq ps at_ (D ++ xs) ys)
 | [], ys, D => by simp [okSeq]
 | a :: xs, ys, D => by
  rw [List.cons_append, okSeq, okSeq, okSeq_app ps at_ xs ys, List.append_assoc, List.singleton_append, Bool.and_assoc]
theorem okSeq_to_le {ps : List (List Stage)} {at_ : List Int} {D : List RArc} {r : Int} {pre : List Ref} {v : Ref} {t : Nat} (h : okSeq ps at_ D (arcsTo ps r pre v t) = false) : ∀ k, okSeq ps at_ D (arcsTo ps r pre v (t + k)) = false
 | 0 => h
 | k + 1 => by rw [show t + (k + 1) = (t + k) + 1 from rfl, arcsTo, okSeq_app, okSeq_to_le h k, Bool.false_and]
def folBad (l pre : List Ref) (v : Ref) : Bool := decide (idxU l v < 0) || decide (idxU l v ≤ lastI l pre v.tr)
def folF (ps : List (List Stage)) (at_ : List Int) (r : Int) (l : List Ref) : List Ref → List Ref → List RArc → Option (List RArc)
 | _, [], D => some D
 | pre, v :: rest, D => if folBad l pre v = true then none else if okSeq ps at_ D (arcsTo ps r pre v ps.length) = true then folF ps at_ r l (pre ++ [v]) rest (D ++ arcsTo ps r pre v ps.length) else none
def folQ (ps : List (List Stage)) (at_ : List Int) (r : Int) (l o : List Ref) (D : List RArc) : Option (List RArc) := if o.length = l.length then folF ps at_ r l [] o D else none

end Go.Proofs.Ytilbbpbjhoidhaa
