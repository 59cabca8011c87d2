/- Contract of newGraph of chapter 37. Conditions: as each theorem says. -/
import Derived.Test.YtilbbpbjhoidhaaE25
import Derived.Deep.Cut
namespace Go.Proofs.Ytilbbpbjhoidhaa
open Go.RowKit

def NewG (w : World) (v : PV) (p : Pb) (e : Ending) (w' : World) : Prop :=
 ∃ (s : GS) (d : GD), e = .returned (.pointer (some ⟨s.gb, 0, none⟩)) ∧ s.ps = p.ps ∧ s.at_ = p.at_ ∧ s.now = p.now ∧ GSP s w v p.due p.wgt ∧ Gm s w w' d ∧ GP s [] d ∧ d.lg = [] ∧ d.T = labS p.ps p.at_ p.now [] ((evs p.ps).filter fun u => !doneR p.at_ u)

set_option maxRecDepth 100000 in
set_option maxHeartbeats 4000000 in
theorem newG_any (p : Pb) (v : PV) (w : World) (h : RPb w (Old w) v p) (hok : checkP p = true) :
  Calls Try.prog 38 #[.agg (v.cs p)] w (NewG w v p) := by
 have H := Lib.hid h
 have hcs : v.cs p = #[.slice v.A p.ps.length v.c, .slice v.A2 p.at_.length v.c2, .slice v.A3 p.due.length v.c3, .slice v.A4 p.wgt.length v.c4, .int .i64 p.now] := rfl
 have HP := Lib.hid (checkP_ok hok)
 have HGD : Hid (Gd p.ps p.at_) := by
  have h1 := (checkP_iff.1 hok).1
  show Gd _ _
  rw [← good_Gd]
  unfold checkState at h1
  by_cases g : (valid p.ps && good p.ps p.at_) = false
  ·rw [if_pos g] at h1; cases h1
  ·rw [Bool.not_eq_false, Bool.and_eq_true] at g; exact g.2
 have hl10 := (valid_lens HP.out.v).1
 have HLN : Hid (∀ l ∈ p.ps, l.length ≤ 64) := fun l hl => ((valid_lens HP.out.v).2 l hl).2
 have hevl : (evs p.ps).length ≤ 650 := by
  have := fst_le HLN.out p.ps.length (Nat.le_refl _)
  rw [fst_len] at this; omega
 rw [hcs]
 clear h hok hcs
 go_enter Try.func38, Try.ntmps38
 go_wp2
 generalize hW1 : World.alloc w _ = w1
 have HB0 : Hid (Blk w1 w.heap.size 25 #[.slice v.A p.ps.length v.c, .slice v.A2 p.at_.length v.c2, .slice v.A3 p.due.length v.c3, .slice v.A4 p.wgt.length v.c4, .int .i64 p.now]) := by subst hW1; exact Blk.new _ _ _
 have K1 : Hid (KeepsAll w w1) := by subst hW1; exact Lib.hid ((Keeps.refl _ _).alloc _)
 have hz1 : w.heap.size + 1 = w1.heap.size := by subst hW1; simp
 have HZ1 := Lib.hid hz1
 rw [hz1]
 clear hW1 hz1
 generalize hW : World.alloc w1 _ = W
 have HP1 : Hid (Pd1 w1 W (.slice v.A p.ps.length v.c) (.slice v.A2 p.at_.length v.c2) (.slice v.A3 p.due.length v.c3) (.slice v.A4 p.wgt.length v.c4) (.int .i64 p.now) (.slice none 0 0) (.slice none 0 0) ((firsts p.ps).take 0) (evs (p.ps.take 0))) := by
  subst hW
  exact ⟨Blk.new _ _ _, OwnL.nil, OwnL.nil, (Keeps.refl _ _).alloc _⟩
 clear hW
 go_loopw [18] (fun i wr => ∃ (t : Nat) (v2 v3 : Value), t ≤ p.ps.length ∧ i = .int .i64 t ∧ Pd1 w1 wr (.slice v.A p.ps.length v.c) (.slice v.A2 p.at_.length v.c2) (.slice v.A3 p.due.length v.c3) (.slice v.A4 p.wgt.length v.c4) (.int .i64 p.now) v2 v3 ((firsts p.ps).take t) (evs (p.ps.take t))) (fun i _ => p.ps.length - (intOf i).toNat)
 case atStart => exact ⟨0, _, _, Nat.zero_le _, rfl, HP1.out⟩
 case round =>
  obtain ⟨t, v2, v3, ht, rfl, hp1⟩ := hrel
  clear HP1
  have KR := Lib.hid (K1.out.tr hp1.k)
  by_cases hlt : t < p.ps.length
  ·have hlt' : decide (t < p.ps.length) = true := decide_eq_true hlt
   obtain ⟨b, o, l, A', c', hA, hb, hp, k1, hr⟩ := RSS.atK KR.out H.out.P hlt
   have hpl := HLN.out l (List.mem_of_getElem? hp)
   have hft := fst_le HLN.out t ht
   have HEV := Lib.hid (evs_succ hp)
   have HFS := Lib.hid (firsts_takeD hlt)
   obtain ⟨B2, d2, rfl, hd2, hd22⟩ := hp1.f.form
   obtain ⟨B3, d3, rfl, hd3, hd33⟩ := hp1.e.form
   have e2 := hp1.b.cell 5
   have e3 := hp1.b.cell 6
   simp only [List.getElem?_toArray, List.getElem?_cons_succ, List.getElem?_cons_zero] at e2 e3
   have hfl : ((firsts p.ps).take t).length = t := by rw [List.length_take, firsts_len]; omega
   have hel : (evs (p.ps.take t)).length = fst p.ps t := rfl
   rw [hfl] at hd2 e2 hp1
   rw [hel] at hd3 e3 hp1
   have FAR : Hid (∀ b, b < w1.heap.size + 1 → ¬ ((Value.slice B2 t d2).ownBlock = some b)) := fun b hb e => by have := hp1.f.lt e; omega
   have HP1 := Lib.hid hp1
   have hgz := hp1.b.lt
   have HL5 : Hid (((firsts p.ps).take t ++ [(fst p.ps t : Int)]).length = t + 1) := by show _ = _; rw [List.length_append, hfl]; rfl
   have hL0 : (evs (p.ps.take t)).length ≤ 650 := by rw [hel]; omega
   rw [hA]
   have HA := Lib.hid hA
   clear hp1 hp hr hfl hel hA
   go_wp2
   refine wp_region_lex (fun w' => ∃ x : ExtC (fun b => (Value.slice B2 t d2).ownBlock = some b) wr, w' = x.val) [0, 1, 2, 3, 4, 5, 6, 7, 8, 9, 10, 11, 12, 13, 14] (by kernel_rfl) (by kernel_rfl) (ExtC.start _ _) ?_
   have x2 := ExtC.cell (C := fun b => (Value.slice B2 t d2).ownBlock = some b) e2 (FAR.out _ (by simp))
   have x3 := ExtC.cell (C := fun b => (Value.slice B2 t d2).ownBlock = some b) e3 (FAR.out _ (by simp))
   iterate 2 (refine lex_q _ rfl rfl rfl ?_; go_big_quiet_step (fail); refine wpQuiet_nil ?_)
   refine lex_nil _ rfl _ rfl rfl _ rfl ?_; go_simp
   iterate 3 (refine lex_q _ rfl rfl rfl ?_; go_big_quiet_step (fail); refine wpQuiet_nil ?_)
   refine lex_nil _ rfl _ rfl rfl _ rfl ?_; go_simp
   iterate 3 (refine lex_q _ rfl rfl rfl ?_; go_big_quiet_step (fail); refine wpQuiet_nil ?_)
   refine lex_a _ rfl rfl true (by kernel_rfl) ?_
   go_wp2
   refine ⟨fun _ => ⟨⟨_, ((Keeps.refl _ _).alloc _).drew⟩, rfl⟩, ?_⟩
   generalize hWb : World.drew (World.alloc wr _) = Wb
   have KB : KeepsAll wr Wb := by subst hWb; exact ((Keeps.refl _ _).alloc _).drew
   have HBX : Hid (Blk Wb wr.heap.size 3 [.int .i64 (fst p.ps t : Int)].toArray) := by subst hWb; exact Blk.new wr _ _
   have HPB := Lib.hid (HP1.out.keep KB)
   have KB2 := Lib.hid KB
   have hzb := HPB.out.b.lt
   clear hWb KB
   refine lex_a _ rfl rfl true (by kernel_rfl) ?_
   go_wp2_with (at_builtin; refine wpList_append_L tyInt RInt.ok rfl (.tmp 27) (.tmp 33) rfl HPB.out.f rfl _ [.int .i64 (fst p.ps t : Int)] rfl HBX.out rfl (fst p.ps t : Int) (S := fun _ => False) rfl (fun _ h => h.elim) (by simp [Value.oneCell']) (by simp; omega) (by simp; omega) (by omega) ?_; intro v5 w5 HO5 HK5 HA5; obtain ⟨A5, c5, hv5, hv51, hv52⟩ := HO5.form; rw [HL5.out] at hv5; subst hv5)
   have HPU := Lib.hid (HPB.out.pushF HO5 HK5)
   have K5 : Keeps (fun b => (Value.slice B2 t d2).ownBlock = some b) wr w5 := (KB2.out.mono (fun _ _ h => h.elim)).trans HK5 (fun _ _ h => h)
   have hc5 : w5.cell? ⟨w1.heap.size, 5, none⟩ = some (.slice B2 t d2) := (K5.cell (p := ⟨w1.heap.size, 5, none⟩) hgz (FAR.out _ (by simp))).trans e2
   have hf5 : w5.frozen? ⟨w1.heap.size, 5, none⟩ = false := (HP1.out.b.kept K5 (FAR.out _ (by simp))).frozen 5
   refine ⟨fun _ => ⟨⟨_, K5⟩, rfl⟩, ?_⟩
   clear K5 HO5 HK5 HA5
   refine lex_nil _ rfl _ rfl rfl _ rfl ?_; go_simp
   refine lex_q _ rfl rfl rfl ?_; go_big_quiet_step (fail); refine wpQuiet_nil ?_
   refine lex_a _ rfl rfl false (by kernel_rfl) ?_
   go_wp2
   (try refine ⟨fun h => (by cases h), ?_⟩)
   simp only [wpLex]
   refine NoPanic.normal ?_
   generalize hWc : World.setCell w5 _ _ = Wc
   rw [hWc] at HPU
   rw [← HFS.out] at HPU
   have HPI : Hid (Pd1 w1 Wc (.slice v.A p.ps.length v.c) (.slice v.A2 p.at_.length v.c2) (.slice v.A3 p.due.length v.c3) (.slice v.A4 p.wgt.length v.c4) (.int .i64 p.now) (.slice A5 (t + 1) c5) (.slice B3 (fst p.ps t) d3) ((firsts p.ps).take (t + 1)) (evs (p.ps.take t) ++ (List.range 0).map fun k : Nat => ⟨(t : Int), (k : Int)⟩)) := by
    show Pd1 _ _ _ _ _ _ _ _ _ _ _
    simpa using HPU.out
   clear hWc HPU hc5 hf5 e2 e3 x2 x3 HBX HPB KB2
   go_wp2
   go_loopw [40] (fun i wr => ∃ (k : Nat) (v3 : Value), k ≤ l.length + 1 ∧ i = .int .i64 k ∧ Pd1 w1 wr (.slice v.A p.ps.length v.c) (.slice v.A2 p.at_.length v.c2) (.slice v.A3 p.due.length v.c3) (.slice v.A4 p.wgt.length v.c4) (.int .i64 p.now) (.slice A5 (t + 1) c5) v3 ((firsts p.ps).take (t + 1)) (evs (p.ps.take t) ++ (List.range k).map fun k : Nat => ⟨(t : Int), (k : Int)⟩)) (fun i _ => l.length + 1 - (intOf i).toNat)
   case atStart => exact ⟨0, _, Nat.zero_le _, rfl, HPI.out⟩
   case round =>
    obtain ⟨k, v3, hk, rfl, hp1⟩ := hrel
    clear HPI
    by_cases hlt2 : k < l.length + 1
    ·have hlt2' : decide ((k : Int) < (l.length : Int) + 1) = true := by simp; omega
     have HLS : Hid (evs (p.ps.take t) ++ (List.range (k + 1)).map (fun k : Nat => (⟨(t : Int), (k : Int)⟩ : Ref)) = (evs (p.ps.take t) ++ (List.range k).map fun k : Nat => ⟨(t : Int), (k : Int)⟩) ++ [⟨(t : Int), (k : Int)⟩]) := by
      show _ = _
      rw [List.range_succ, List.map_append, List.append_assoc]; rfl
     have hLl : (evs (p.ps.take t) ++ (List.range k).map fun k : Nat => (⟨(t : Int), (k : Int)⟩ : Ref)).length ≤ 1000 := by rw [List.length_append, List.length_map, List.length_range]; omega
     generalize (evs (p.ps.take t) ++ (List.range k).map fun k : Nat => (⟨(t : Int), (k : Int)⟩ : Ref)) = L at hp1 HLS hLl
     obtain ⟨B6, d6, rfl, hd6, hd66⟩ := hp1.e.form
     have e3 := hp1.b.cell 6
     simp only [List.getElem?_toArray, List.getElem?_cons_succ, List.getElem?_cons_zero] at e3
     have hgz2 := hp1.b.lt
     have HP2 := Lib.hid hp1; clear hp1
     go_wp2_with (at_builtin; refine wpList_append_L tyRef RRef.ok rfl (.tmp 47) (.tmp 51) rfl (HP2.out.e.alloc RRef.ok _) rfl _ [.int .i64 (t : Int), .int .i64 (k : Int)] rfl (Blk.new' _ _ _ (by simp)) rfl ⟨(t : Int), (k : Int)⟩ (S := fun _ => False) rfl (fun _ h => h.elim) (by simp [Value.oneCell']) (by omega) (by omega) (by simp; omega) ?_; intro v7 w7 HO7 HK7 HA7; obtain ⟨A7, c7, hv7, hv71, hv72⟩ := HO7.form; rw [List.length_append, List.length_singleton] at hv7; subst hv7; have HPU := Lib.hid ((HP2.out.keep ((Keeps.refl _ _).alloc _)).pushE HO7 HK7); have K7 : ¬ ((Value.slice B6 L.length d6).ownBlock = some w1.heap.size) := (fun e => (by have := HP2.out.e.lt e; omega)); have hc7 := (((HP2.out.b.alloc _).kept HK7 K7).cell 6); have hf7 := (((HP2.out.b.alloc _).kept HK7 K7).frozen 6); simp only [List.getElem?_toArray, List.getElem?_cons_succ, List.getElem?_cons_zero] at hc7; clear HO7 HK7 HA7 K7)
     go_roundw
     case rel => exact ⟨k + 1, _, by omega, by go_num, by rw [HLS.out]; exact HPU.out⟩
     case measure => simp [intOf]; omega
    ·have hlt2' : decide ((k : Int) < (l.length : Int) + 1) = false := by simp; omega
     obtain rfl : k = l.length + 1 := by omega
     rw [← HEV.out] at hp1
     have HP2 := Lib.hid hp1; clear hp1
     go_wp2
     go_roundw
     case rel => exact ⟨t + 1, _, _, by omega, by go_num, by have h5 := HP2.out; rw [HA.out] at h5; exact h5⟩
     case measure => simp [intOf]; omega
  ·have hlt' : decide (t < p.ps.length) = false := decide_eq_false hlt
   obtain rfl : t = p.ps.length := by omega
   have ef : (firsts p.ps).take p.ps.length = firsts p.ps := List.take_of_length_le (by rw [firsts_len]; omega)
   rw [ef, List.take_length] at hp1
   clear ef
   obtain ⟨B2, d2, rfl, hd2, hd22⟩ := hp1.f.form
   obtain ⟨B3, d3, rfl, hd3, hd33⟩ := hp1.e.form
   have e3 := hp1.b.cell 6
   have e7 := hp1.b.cell 7
   have e8 := hp1.b.cell 8
   have e11 := hp1.b.cell 11
   have f7 := hp1.b.frozen 7
   have f8 := hp1.b.frozen 8
   have f11 := hp1.b.frozen 11
   simp only [List.getElem?_toArray, List.getElem?_cons_succ, List.getElem?_cons_zero] at e3 e7 e8 e11
   have hgz := hp1.b.lt
   have HPE := Lib.hid hp1
   have hmk1 := mkLabs (evs p.ps) (evs p.ps).length rfl (by omega)
   have hmk2 := mkRowsI (evs p.ps).length (by omega)
   have hmk3 := mkBoolsG (evs p.ps).length (by omega)
   clear hp1
   have HNE : ∃ n, n = (evs p.ps).length := ⟨_, rfl⟩
   obtain ⟨n, hne⟩ := HNE
   rw [← hne] at e3 hmk1 hmk2 hmk3 hevl
   have HNN := Lib.hid hne
   clear hne
   have HPD : Hid (Pd2 w1 wr #[.slice v.A p.ps.length v.c, .slice v.A2 p.at_.length v.c2, .slice v.A3 p.due.length v.c3, .slice v.A4 p.wgt.length v.c4, .int .i64 p.now, .slice B2 (firsts p.ps).length d2, .slice B3 (evs p.ps).length d3, .slice none 0 0, .slice none 0 0, .slice none 0 0, .slice none 0 0, .slice none 0 0] (.slice B2 (firsts p.ps).length d2) (.slice B3 (evs p.ps).length d3) (firsts p.ps) (evs p.ps)) := Lib.hid ⟨HPE.out.b, HPE.out.f, HPE.out.e, HPE.out.k⟩
   clear HPE
   go_upto_region 13 with (fail)
   have hPa := (HPD.out.set_ 7 (.slice (some ⟨wr.heap.size, 0, none⟩) n n)).keep ((Keeps.refl _ _).alloc (.cells (labsC (evs p.ps) fun _ => labZ) 130))
   have hLa : Blk ((wr.setCell ⟨w1.heap.size, 7, none⟩ (.slice (some ⟨wr.heap.size, 0, none⟩) n n)).alloc (.cells (labsC (evs p.ps) fun _ => labZ) 130)) wr.heap.size 130 (labsC (evs p.ps) fun _ => labZ) := Blk.new' _ _ _ (by simp [World.setCell])
   have hsa : wr.heap.size + 1 = ((wr.setCell ⟨w1.heap.size, 7, none⟩ (.slice (some ⟨wr.heap.size, 0, none⟩) n n)).alloc (.cells (labsC (evs p.ps) fun _ => labZ) 130)).heap.size := by simp [World.setCell]
   generalize hWa : World.alloc _ _ = Wa
   rw [hWa] at hPa hLa hsa
   have HPa := Lib.hid hPa
   have HLa := Lib.hid hLa
   have e3 := hPa.b.cell 6
   have e8 := hPa.b.cell 8
   have f8 := hPa.b.frozen 8
   simp at e3 e8
   rw [← HNN.out] at e3
   have hgz := hPa.b.lt
   clear hWa hPa hLa e7 e11 f7 f11 hmk1 HPD
   generalize wr.heap.size = lb at *
   have HSA := Lib.hid hsa
   clear hsa
   go_upto_region 14 with (fail)
   have hPb := (HPa.out.set_ 8 (.slice (some ⟨Wa.heap.size, 0, none⟩) n n)).keep ((Keeps.refl _ _).alloc (.cells (Array.replicate n (Value.slice none 0 0)) 22))
   have hLb := (HLa.out.kept ((Keeps.refl (fun b => b = w1.heap.size) Wa).setCell (p := ⟨w1.heap.size, 8, none⟩) (fun _ => rfl) (.slice (some ⟨Wa.heap.size, 0, none⟩) n n)) (by omega)).alloc (.cells (Array.replicate n (Value.slice none 0 0)) 22)
   have hNb : Blk ((Wa.setCell ⟨w1.heap.size, 8, none⟩ (.slice (some ⟨Wa.heap.size, 0, none⟩) n n)).alloc (.cells (Array.replicate n (Value.slice none 0 0)) 22)) Wa.heap.size 22 (Array.replicate n (Value.slice none 0 0)) := Blk.new' _ _ _ (by simp [World.setCell])
   have hsb : Wa.heap.size + 1 = ((Wa.setCell ⟨w1.heap.size, 8, none⟩ (.slice (some ⟨Wa.heap.size, 0, none⟩) n n)).alloc (.cells (Array.replicate n (Value.slice none 0 0)) 22)).heap.size := by simp [World.setCell]
   generalize hWb : World.alloc _ _ = Wb
   rw [hWb] at hPb hLb hNb hsb
   have HPb := Lib.hid hPb
   have HLb := Lib.hid hLb
   have HNb := Lib.hid hNb
   have HSB := Lib.hid hsb
   have e3 := hPb.b.cell 6
   have e11 := hPb.b.cell 11
   have f11 := hPb.b.frozen 11
   have hgzb := hPb.b.lt
   simp at e3 e11
   rw [← HNN.out] at e3
   clear hWb hPb hLb hNb hsb e8 f8 hmk2 HPa HLa
   generalize Wa.heap.size = nb at *
   go_upto_region 15 with (fail)
   have hPc := (HPb.out.set_ 11 (.slice (some ⟨Wb.heap.size, 0, none⟩) n n)).keep ((Keeps.refl _ _).alloc (.cells (boolsC (List.replicate n false)) 4))
   have hk11 := (Keeps.refl (fun b => b = w1.heap.size) Wb).setCell (p := ⟨w1.heap.size, 11, none⟩) (fun _ => rfl) (.slice (some ⟨Wb.heap.size, 0, none⟩) n n)
   have hLc := (HLb.out.kept hk11 (by omega)).alloc (.cells (boolsC (List.replicate n false)) 4)
   have hNc := (HNb.out.kept hk11 (by have := HSA.out; omega)).alloc (.cells (boolsC (List.replicate n false)) 4)
   have hQc : Blk ((Wb.setCell ⟨w1.heap.size, 11, none⟩ (.slice (some ⟨Wb.heap.size, 0, none⟩) n n)).alloc (.cells (boolsC (List.replicate n false)) 4)) Wb.heap.size 4 (boolsC (List.replicate n false)) := Blk.new' _ _ _ (by simp [World.setCell])
   have hsc : Wb.heap.size + 1 = ((Wb.setCell ⟨w1.heap.size, 11, none⟩ (.slice (some ⟨Wb.heap.size, 0, none⟩) n n)).alloc (.cells (boolsC (List.replicate n false)) 4)).heap.size := by simp [World.setCell]
   have hHB := (((HB0.out.kept (HPb.out.k) (by simp)).kept hk11 (by have := HZ1.out; omega)).alloc (.cells (boolsC (List.replicate n false)) 4))
   generalize hWc : World.alloc _ _ = Wc
   rw [hWc] at hPc hLc hNc hQc hsc hHB
   obtain ⟨s, hs⟩ : ∃ s : GS, s = ⟨p.ps, p.at_, p.now, .slice v.A p.ps.length v.c, .slice v.A2 p.at_.length v.c2, .slice v.A3 p.due.length v.c3, .slice v.A4 p.wgt.length v.c4, .slice B2 (firsts p.ps).length d2, .slice B3 (evs p.ps).length d3, w1.heap.size, lb, nb, Wb.heap.size, Wc.heap.size, fun b => b = w.heap.size, Wc⟩ := ⟨_, rfl⟩
   have hgm : Gm s w Wc (gd0 n fun _ => labZ) := by
    have hsz1 := HZ1.out
    have hsa := HSA.out
    have hsb := HSB.out
    have kw := K1.out.tr hPc.k
    have hfl : ∀ {α : Type} {t size : Nat} {E : Rd α} {x : Value} {l : List α}, OwnL t size E Wc (w1.heap.size + 1) (w1.heap.size + 1) x l → ∀ b, x.ownBlock = some b → b < Wc.heap.size := fun h b hb => (h.lt hb).2
    subst hs
    unfold gd0
    refine ⟨?_, kw.rd RPaths.ok H.out.P (fun b hb => ⟨hb, by simp⟩) (fun _ h => h), kw.rd RInts.ok H.out.A (fun b hb => ⟨hb, by simp⟩) (fun _ h => h), hPc.f.base_lo RInt.ok (by omega) (by omega), hfl hPc.f, hPc.e.base_lo RRef.ok (by omega) (by omega), hfl hPc.e, hLc, ?_, ?_, OwnL.nil, OwnL.nil, hQc, ?_, ?_, ⟨by show _ ≤ w1.heap.size; omega, by show _ ≤ lb; omega, by show _ ≤ nb; omega, by show _ ≤ Wb.heap.size; omega⟩, ⟨by show w1.heap.size < Wc.heap.size; omega, by show lb < Wc.heap.size; omega, by show Wb.heap.size < Wc.heap.size; omega⟩, Nat.le_refl _, kw, fun b hb => ⟨by have hb : b = w.heap.size := hb; show b < Wc.heap.size; omega, rfl⟩, Nat.le_refl _, fun b hb hz => ?_⟩
    ·have h1 := hPc.b
     simp at h1
     show Blk Wc w1.heap.size _ _
     have hn2 : GS.n ⟨p.ps, p.at_, p.now, .slice v.A p.ps.length v.c, .slice v.A2 p.at_.length v.c2, .slice v.A3 p.due.length v.c3, .slice v.A4 p.wgt.length v.c4, .slice B2 (firsts p.ps).length d2, .slice B3 (evs p.ps).length d3, w1.heap.size, lb, nb, Wb.heap.size, Wc.heap.size, fun b => b = w.heap.size, Wc⟩ = n := HNN.out.symm
     rw [hn2]
     exact h1
    ·exact Rows.new n (by simpa using hNc) (by show nb < Wc.heap.size; omega)
    ·show (List.replicate n _).length = _; rw [List.length_replicate]; exact HNN.out
    ·show (List.replicate n _).length = _; rw [List.length_replicate]; exact HNN.out
    ·intro i u b hu hb
     simp [List.getElem?_replicate] at hu
     obtain ⟨_, rfl⟩ := hu
     simp [Value.ownBlock] at hb
    ·have hz : b = w.heap.size := hz
     rcases hb with e | e | e | e | e | e | ⟨i, u, hu, e⟩
     ·have e : b = w1.heap.size := e; omega
     ·have e : b = lb := e; omega
     ·have e : b = nb := e; omega
     ·have e : b = Wb.heap.size := e; omega
     ·simp [Value.ownBlock] at e
     ·simp [Value.ownBlock] at e
     ·simp [List.getElem?_replicate] at hu
      obtain ⟨_, rfl⟩ := hu
      simp [Value.ownBlock] at e
   have HGM := Lib.hid hgm
   have HSE := Lib.hid hs
   have hL0 := topo_nil p.ps p.at_
   have HL0 := Lib.hid hL0
   have egb : w1.heap.size = s.gb := by rw [hs]
   have hsps : s.ps = p.ps := by rw [hs]
   have hsat : s.at_ = p.at_ := by rw [hs]
   have hsnow : s.now = p.now := by rw [hs]
   have hszb : Blk s.wz w.heap.size 25 #[.slice v.A p.ps.length v.c, .slice v.A2 p.at_.length v.c2, .slice v.A3 p.due.length v.c3, .slice v.A4 p.wgt.length v.c4, .int .i64 p.now] := by rw [hs]; exact hHB
   have hszz : s.Z w.heap.size := by rw [hs]
   have hsfv : s.vp = .slice v.A p.ps.length v.c := by rw [hs]
   have hsn : s.n = n := by rw [HNN.out]; unfold GS.n; rw [hsps]
   have HSZ := Lib.hid (And.intro hszz hszb)
   have HSS := Lib.hid (And.intro hsps (And.intro hsat (And.intro hsnow (And.intro hsfv hsn))))
   rw [egb] at e3 ⊢
   have e3c := HGM.out.c6
   rw [show s.ev = .slice B3 (evs p.ps).length d3 by rw [hs], ← HNN.out] at e3c
   clear hPc hLc hNc hQc hsc hHB hk11 e3 e11 f11 hgzb hmk3 HPb HLb HNb hWc hgm hs hL0 egb hsps hsat hsnow hszb hszz hsfv hsn
   generalize hLS : labS p.ps p.at_ p.now [] ((evs p.ps).filter fun u => !doneR p.at_ u) = LS
   have HLS := Lib.hid hLS
   clear hLS
   go_wp2
   go_loopw [89] (fun i wr => ∃ (e : Nat) (T : LTab), e ≤ n ∧ i = .int .i64 (e : Int) ∧ Gm s w wr (gd0 n T) ∧ (∀ u, (T u).bef.length = 10) ∧ (∀ (j : Nat) u, j < e → (evs p.ps)[j]? = some u → T u = LS u)) (fun i _ => n - (intOf i).toNat)
   case atStart => exact ⟨0, _, Nat.zero_le _, rfl, HGM.out, fun _ => rfl, fun j u hj => by omega⟩
   case round =>
    obtain ⟨e, T, he, rfl, hg, hTl, hTd⟩ := hrel
    have HG := Lib.hid hg
    have HTL := Lib.hid hTl
    have HTD := Lib.hid hTd
    by_cases hlte : e < n
    ·have hlte' : decide (e < n) = true := decide_eq_true hlte
     obtain ⟨t, k, l, _, hpt, hk, hek⟩ := evs_inv p.ps.length (Nat.le_refl _) (i := e) (by rw [fst_len, ← HNN.out]; exact hlte)
     have hev : (evs s.ps)[e]? = some ⟨(t : Int), (k : Int)⟩ := by rw [HSS.out.1, hek]; exact evs_at hpt hk
     obtain ⟨eb, ce, hse, q0, q1⟩ := hg.evc hev
     rw [show s.ev = .slice B3 (evs p.ps).length d3 by rw [HSE.out]] at hse
     injection hse with hB3 hnq hce
     subst hB3 hce
     clear hnq
     have c7 := hg.c7
     rw [HSS.out.2.2.2.2] at c7
     have hbx := hg.zblk HSZ.out.1 HSZ.out.2
     have x4 := hbx.cell 4
     simp at x4
     have hlb0 := hg.lab hev 0 _ rfl
     rw [Nat.add_zero] at hlb0
     have hlf0 := hg.l.frozen (e * 11)
     have hEV := Lib.hid hev
     have hPT := Lib.hid (And.intro hpt hek)
     have hgz := hg.b.lt
     have hxz := hbx.lt
     have hlz := hg.l.lt
     have hez := World.block_lt_of_cell? wr ⟨eb, e * 2, none⟩ q0
     simp only at q0 q1
     have HT1 := Lib.hid (hg.stSec hev p.now)
     clear hev hpt hek hg hTl hTd hbx
     go_wp2
     generalize hWd : World.alloc _ _ = Wd
     have HG1 : Hid (Gm s w Wd (gd0 n (updL T ⟨(t : Int), (k : Int)⟩ (setSec (T ⟨(t : Int), (k : Int)⟩) p.now)))) := by rw [← hWd]; exact Lib.hid (HT1.out.keep ((Keeps.refl _ _).alloc _))
     have BU : Hid (Blk Wd wr.heap.size 46 #[.int .i64 (t : Int), .int .i64 (k : Int)]) := by rw [← hWd]; exact Lib.hid (Blk.new' _ _ _ (by simp [World.setCell]))
     clear hWd HT1 x4 hlb0 hlf0 c7 q0 q1 hgz hxz hlz hez
     generalize wr.heap.size = zb at *
     have hnb : zb ≠ s.lb := Blk.ne_ BU.out HG1.out.l (by decide)
     go_loopw [105] (fun i wq => ∃ (m : Nat) (X : Lab), m ≤ 10 ∧ i = .int .i64 (m : Int) ∧ Gm s w wq (gd0 n (updL T ⟨(t : Int), (k : Int)⟩ X)) ∧ X.sec = p.now ∧ X.bef.length = 10 ∧ (∀ j, j < m → X.bf j = -1) ∧ Blk wq zb 46 #[.int .i64 (t : Int), .int .i64 (k : Int)]) (fun i _ => 10 - (intOf i).toNat)
     case atStart => exact ⟨0, _, Nat.zero_le _, rfl, HG1.out, rfl, HTL.out _, fun j hj => by omega, BU.out⟩
     case round =>
      obtain ⟨m, X, hm, rfl, hg, hX1, hX2, hX3, hbu⟩ := hrel
      have HGm := Lib.hid hg
      have HX := Lib.hid (And.intro hX1 (And.intro hX2 hX3))
      have HBU := Lib.hid hbu
      by_cases hltm : m < 10
      ·have hltm' : decide ((m : Int) < 10) = true := by simp; omega
       have hst := hg.stBf hEV.out hltm (by show (updL T ⟨(t : Int), (k : Int)⟩ X ⟨(t : Int), (k : Int)⟩).bef.length = 10; rw [updL_at]; exact hX2) (-1)
       have hst2 : Gm s w (wr.setCell ⟨s.lb, e * 11 + (1 + m), none⟩ (.int .i8 (-1))) (gd0 n (updL T ⟨(t : Int), (k : Int)⟩ (setBf X m (-1)))) := by
        have e1 : updL (updL T ⟨(t : Int), (k : Int)⟩ X) ⟨(t : Int), (k : Int)⟩ (setBf ((updL T ⟨(t : Int), (k : Int)⟩ X) ⟨(t : Int), (k : Int)⟩) m (-1)) = updL T ⟨(t : Int), (k : Int)⟩ (setBf X m (-1)) := by rw [updL_at, updL_twice]
        have h1 := hst
        show Gm s w (wr.setCell ⟨s.lb, e * 11 + (1 + m), none⟩ (.int .i8 (-1))) ⟨updL T ⟨(t : Int), (k : Int)⟩ (setBf X m (-1)), _, _, _, _, _, _, _⟩
        rw [← e1]; exact h1
       have hcell := hg.lab hEV.out (1 + m) _ (labC_at _ hltm)
       have hfrz := hg.l.frozen (e * 11 + (1 + m))
       have hbs := hbu.far (p := ⟨s.lb, e * 11 + (1 + m), none⟩) hnb (.int .i8 (-1))
       rw [← Nat.add_assoc] at hst2 hcell hfrz hbs
       have HST2 := Lib.hid hst2
       have HBS := Lib.hid hbs
       have HX2 : Hid ((setBf X m (-1)).sec = p.now ∧ (setBf X m (-1)).bef.length = 10 ∧ ∀ j, j < m + 1 → (setBf X m (-1)).bf j = -1) := by
        refine Lib.hid ⟨hX1, by unfold setBf; simp [hX2], fun j hj => ?_⟩
        rw [setBf_bf hX2 hltm]
        by_cases e2 : m = j
        ·rw [if_pos e2]
        ·rw [if_neg e2]; exact hX3 j (by omega)
       clear hst hst2 hbs hg hX1 hX2 hX3 hbu
       go_wp2
       go_roundw
       case rel => exact ⟨m + 1, _, by omega, by go_num, HST2.out, HX2.out.1, HX2.out.2.1, HX2.out.2.2, HBS.out⟩
       case measure => simp [intOf]; omega
      ·have hltm' : decide ((m : Int) < 10) = false := by simp; omega
       obtain rfl : m = 10 := by omega
       obtain rfl : X = labB p.now := Lab.ext10 hX2 (by simp [labB]) hX1 (fun j hj => by rw [hX3 j hj, labB_bf _ hj])
       have hbx := hg.zblk HSZ.out.1 HSZ.out.2
       have htl := getElem?_lt hPT.out.1
       obtain ⟨bp, op, l', Al, cl, hA, hbp, hpl, p0, hrl⟩ := RSS.atK hg.k H.out.P htl
       rw [hPT.out.1] at hpl
       obtain rfl : l = l' := by injection hpl
       have x0 := hbx.cell 0
       simp at x0
       rw [hA] at x0
       have b0 := hbu.cell 0
       have b1 := hbu.cell 1
       simp at b0 b1
       have hxz := hbx.lt
       have hbz := hbu.lt
       have HRL0 := Lib.hid hrl
       have HRL := Lib.hid hrl
       have HA := Lib.hid hA
       clear hX1 hX2 hX3 hbx hpl hrl hA HX hg hbu
       have HBASE : ∃ base : Int, base = baseS p.ps p.now ⟨(t : Int), (k : Int)⟩ := ⟨_, rfl⟩
       obtain ⟨base, hbase⟩ := HBASE
       have HBE := Lib.hid hbase
       have hbb := baseS_bd HP.out.v HP.out.n ⟨(t : Int), (k : Int)⟩
       rw [← hbase] at hbb
       have hbase2 : base = (if h : k < l.length then max p.now (l[k]'h).nt else p.now) := by
        rw [hbase]
        unfold baseS
        simp only [Int.toNat_natCast, hPT.out.1, Option.getD_some]
        by_cases h : k < l.length
        ·rw [List.getElem?_eq_getElem h, dif_pos h]; rfl
        ·rw [List.getElem?_eq_none (by omega), dif_neg h]; rfl
       clear hbase
       by_cases hkl : k < l.length
       ·have hkl' : decide (k < l.length) = true := decide_eq_true hkl
        rw [dif_pos hkl] at hbase2
        obtain ⟨b3, o3, st, A3, c3, hA3, hb3, hst, m0, m1, m2, m3, _⟩ := RPath.atK HGm.out.k HRL.out hkl
        rw [List.getElem?_eq_getElem hkl] at hst
        injection hst with hst
        rw [hst] at hbase2
        subst hA3
        have c0 := HGm.out.lab hEV.out 0 _ rfl
        rw [Nat.add_zero] at c0
        have e1 : (gd0 n (updL T ⟨(t : Int), (k : Int)⟩ (labB p.now))).T ⟨(t : Int), (k : Int)⟩ = labB p.now := updL_at _ _ _
        rw [e1] at c0
        simp [labC, labB] at c0
        have hlz := HGm.out.l.lt
        clear e1 hst m0 m1 m2
        have hm9 : max p.now st.nt = base := hbase2.symm
        have HB2 := Lib.hid hm9
        clear hbase2 hm9
        go_wp2
        refine wp_region_lex (fun w' => ∃ x : Ext wr, w' = x.val) [0, 1, 2, 3, 4, 5, 6, 7, 8, 9, 10, 11, 12, 13, 14] (by kernel_rfl) (by kernel_rfl) ⟨⟨_, (Keeps.refl _ _).drew⟩, rfl⟩ ?_
        have y0 := Ext.cell c0
        have y1 := Ext.cell b1
        have y3 := Ext.cell m3
        iterate 2 (refine lex_q _ rfl rfl rfl ?_; go_big_quiet_step (fail); refine wpQuiet_nil ?_)
        refine lex_nil _ rfl _ rfl rfl _ rfl ?_; go_simp
        iterate 9 (refine lex_q _ rfl rfl rfl ?_; go_big_quiet_step (fail); refine wpQuiet_nil ?_)
        refine lex_nil _ rfl _ rfl rfl _ rfl ?_; go_simp
        refine lex_q _ rfl rfl rfl ?_; go_big_quiet_step (fail); refine wpQuiet_nil ?_
        refine lex_a _ rfl rfl false (by kernel_rfl) ?_
        have KE : KeepsAll wr wr.drew := (Keeps.refl _ _).drew
        have c0e := KE.cellK (p := ⟨s.lb, e * 11, none⟩) hlz c0
        have f0e := (HGm.out.keep KE).l.frozen (e * 11)
        have hst := (HGm.out.keep KE).stSec hEV.out base
        have HBU2 := Lib.hid ((HBU.out.kept KE (by simp)).far (p := ⟨s.lb, e * 11, none⟩) hnb (.int .i64 base))
        have hst2 : Gm s w (wr.drew.setCell ⟨s.lb, e * 11, none⟩ (.int .i64 base)) (gd0 n (updL T ⟨(t : Int), (k : Int)⟩ (labB base))) := by
         have e1 : updL (updL T ⟨(t : Int), (k : Int)⟩ (labB p.now)) ⟨(t : Int), (k : Int)⟩ (setSec ((updL T ⟨(t : Int), (k : Int)⟩ (labB p.now)) ⟨(t : Int), (k : Int)⟩) base) = updL T ⟨(t : Int), (k : Int)⟩ (labB base) := by rw [updL_at, updL_twice]; rfl
         show Gm s w (wr.drew.setCell ⟨s.lb, e * 11, none⟩ (.int .i64 base)) ⟨updL T ⟨(t : Int), (k : Int)⟩ (labB base), _, _, _, _, _, _, _⟩
         rw [← e1]; exact hst
        have HGB := Lib.hid hst2
        rw [HB2.out]
        clear hst hst2 KE y0 y1 y3 c0 b0 b1 m3 x0 p0
        generalize wr.drew = We at *
        go_wp2
        (try refine ⟨fun h => (by cases h), ?_⟩)
        simp only [wpLex]
        refine NoPanic.normal ?_
        generalize hWx : World.setCell We _ _ = Wx
        rw [hWx] at HGB HBU2
        clear hWx c0e f0e
        go_wp2_with fail
        have hln := lab_nil (n := p.now) hPT.out.1 hk HL0.out
        rw [HLS.out, baseN_eq, ← HBE.out] at hln
        have hal : s.at_.length = s.ps.length := by rw [HSS.out.1, HSS.out.2.1]; exact HGD.out.1
        have hpt2 : s.ps[t]? = some l := by rw [HSS.out.1]; exact hPT.out.1
        have hek2 : e = fst s.ps t + k := by rw [HSS.out.1]; exact hPT.out.2
        have HEND : Hid (∀ (Wq : World) (X : Lab), X = LS ⟨(t : Int), (k : Int)⟩ → Gm s w Wq (gd0 n (updL T ⟨(t : Int), (k : Int)⟩ X)) → ∃ (e' : Nat) (T' : LTab), e' ≤ n ∧ Value.int .i64 ((e : Int) + 1) = .int .i64 (e' : Int) ∧ Gm s w Wq (gd0 n T') ∧ (∀ u, (T' u).bef.length = 10) ∧ (∀ (j : Nat) u, j < e' → (evs p.ps)[j]? = some u → T' u = LS u)) := by
         refine Lib.hid fun Wq X hX hg => ⟨e + 1, _, by omega, rfl, hg, fun u => ?_, fun j u hj hu => ?_⟩
         ·by_cases e3 : u = ⟨(t : Int), (k : Int)⟩
          ·rw [e3, updL_at, hX, ← HLS.out]; exact labS_len _
          ·rw [updL_ne _ _ e3]; exact HTL.out u
         ·by_cases e3 : u = ⟨(t : Int), (k : Int)⟩
          ·rw [e3, updL_at, hX]
          ·rw [updL_ne _ _ e3]
           refine HTD.out j u ?_ hu
           have h1 := hEV.out
           rw [HSS.out.1] at h1
           by_cases e4 : j = e
           ·subst e4; rw [hu] at h1; injection h1 with h1; exact absurd h1 e3
           ·omega
        have HDN := Lib.hid (dhappened_any s w Wx _ HGB.out e t k l hpt2 hk hek2 hal)
        have hAT := HSS.out.2.1
        rw [hAT] at HDN
        have HLN2 := Lib.hid hln
        have HQ := Lib.hid (And.intro hal (And.intro hpt2 hek2))
        clear hln hal hpt2 hek2 hAT
        refine HDN.out.mono ?_
        rintro r w4 ⟨rfl, q, rfl⟩
        have HG4 := Lib.hid (HGB.out.keep ((Keeps.refl _ _).drewN q))
        have HBU4 := Lib.hid (HBU2.out.kept ((Keeps.refl (fun _ => False) _).drewN q) (by simp))
        clear HDN HGB HBU2
        generalize World.drewN Wx q = W4 at *
        have t0 : (gd0 n (updL T ⟨(t : Int), (k : Int)⟩ (labB base))).T ⟨(t : Int), (k : Int)⟩ = labB base := updL_at _ _ _
        have STS : Hid (∀ (Wq : World) (x : Int), Gm s w Wq (gd0 n (updL T ⟨(t : Int), (k : Int)⟩ (labB base))) → Gm s w (Wq.setCell ⟨s.lb, e * 11, none⟩ (.int .i64 x)) (gd0 n (updL T ⟨(t : Int), (k : Int)⟩ (labB x)))) := by
         refine Lib.hid fun Wq x hg => ?_
         have h1 := hg.stSec hEV.out x
         have e1 : updL (updL T ⟨(t : Int), (k : Int)⟩ (labB base)) ⟨(t : Int), (k : Int)⟩ (setSec ((updL T ⟨(t : Int), (k : Int)⟩ (labB base)) ⟨(t : Int), (k : Int)⟩) x) = updL T ⟨(t : Int), (k : Int)⟩ (labB x) := by rw [updL_at, updL_twice]; rfl
         show Gm s w (Wq.setCell ⟨s.lb, e * 11, none⟩ (.int .i64 x)) ⟨updL T ⟨(t : Int), (k : Int)⟩ (labB x), _, _, _, _, _, _, _⟩
         rw [← e1]; exact h1
        have c0 := HG4.out.lab hEV.out 0 _ rfl
        rw [Nat.add_zero, t0] at c0
        simp [labC, labB] at c0
        have f0 := HG4.out.l.frozen (e * 11)
        have b1 := HBU4.out.cell 1
        simp at b1
        have hlz4 := HG4.out.l.lt
        have HT0 := Lib.hid t0
        clear t0
        by_cases hd : doneR p.at_ ⟨(t : Int), (k : Int)⟩ = true
        ·have hfin := HLN2.out
         rw [if_pos hd] at hfin
         have HF := Lib.hid (HEND.out _ (labB (-1)) hfin.symm (STS.out W4 (-1) HG4.out))
         rw [hd]
         clear hd hfin HLN2 HEND STS
         go_wp2
         go_roundw
         case rel => exact HF.out
         case measure => simp [intOf]; omega
        ·have hd' : doneR p.at_ ⟨(t : Int), (k : Int)⟩ = false := by simpa using hd
         have hfin := HLN2.out
         rw [if_neg hd] at hfin
         by_cases hk0 : k = 0
         ·have hk0' : ((k : Int) == 0) = true := by simp [hk0]
          rw [if_pos (.inl hk0), if_neg (by omega)] at hfin
          have HF := Lib.hid (HEND.out _ (labB base) hfin.symm HG4.out)
          rw [hd']
          clear hd hd' hfin HLN2 HEND STS
          go_wp2
          go_roundw
          case rel => exact HF.out
          case measure => simp [intOf]; omega
         ·have hk0' : ((k : Int) == 0) = false := by simp; omega
          obtain ⟨k1, hk1⟩ : ∃ k1, k = k1 + 1 := ⟨k - 1, by omega⟩
          obtain ⟨e1, he1⟩ : ∃ e1, e = e1 + 1 := ⟨e - 1, by have := HQ.out.2.2; omega⟩
          have hc2 : (k : Int) - 1 = (k1 : Int) := by omega
          have hc1 : (e : Int) - 1 = (e1 : Int) := by omega
          have hkm : k - 1 = k1 := by omega
          rw [hc2, hkm] at hfin
          have hD2 := dhappened_any s w W4 _ HG4.out e1 t k1 l HQ.out.2.1 (by omega) (by have := HQ.out.2.2; omega) HQ.out.1
          rw [HSS.out.2.1, ← hc1] at hD2
          have HDN2 := Lib.hid hD2
          have HFI := Lib.hid hfin
          have HC := Lib.hid (And.intro hc1 (And.intro hc2 (And.intro hk1 he1)))
          rw [hd']
          have HD0 := Lib.hid hd'
          have hege : 1 ≤ e := by omega
          have hkge : 1 ≤ k := by omega
          clear hd hd' hfin HLN2 hD2 hc1 hc2 hkm hk1 he1
          go_wp2_with fail
          with_reducible refine HDN2.out.mono ?_
          rintro r w5 ⟨rfl, q2, rfl⟩
          have HG5 := Lib.hid (HG4.out.keep ((Keeps.refl _ _).drewN q2))
          have HBU5 := Lib.hid (HBU4.out.kept ((Keeps.refl (fun _ => False) _).drewN q2) (by simp))
          clear HDN2 HG4 HBU4 c0 f0 b1 hlz4
          generalize W4.drewN q2 = W5 at *
          have c0 := HG5.out.lab hEV.out 0 _ rfl
          rw [Nat.add_zero, HT0.out] at c0
          simp [labC, labB] at c0
          have b1 := HBU5.out.cell 1
          simp at b1
          have hbx := HG5.out.zblk HSZ.out.1 HSZ.out.2
          have x4 := hbx.cell 4
          simp at x4
          have hkl1 : k1 < l.length := by have := HC.out.2.2.1; omega
          have hRL := HG5.out.k.rd RPath.ok HRL0.out (fun b hb => ⟨hb, by simp⟩) (fun _ h => h)
          obtain ⟨b3, o3, st, A3, c3, hA3, _, hst, m0, m1, m2, m3, _⟩ := RPath.at_ hRL hkl1
          have hmn := (valid_clk HP.out.v hPT.out.1 hst).1
          have hmA : mnAt p.ps t k1 = st.mn := by unfold mnAt; rw [hPT.out.1]; simp only [Option.getD_some]; rw [hst]; rfl
          have hlz5 := HG5.out.l.lt
          have hl64 := HLN.out l (List.mem_of_getElem? hPT.out.1)
          have hw1 : IntKind.i64.wrap ((k : Int) - 1) = (k1 : Int) := by rw [IntWalk.i64_in _ (by omega)]; exact HC.out.2.1
          have hnow := HP.out.n
          first | subst hA3 | (injection hA3 with hA3; injection hA3 with q1 q2; subst q1 q2)
          by_cases hd2 : doneR p.at_ ⟨(t : Int), (k1 : Int)⟩ = true
          ·have hfin := HFI.out
           have hnow2 : (k1 : Int) = nowAt p.at_ t := by
            have h1 := HD0.out
            have h2 := hd2
            unfold doneR at h1 h2
            simp only [decide_eq_false_iff_not, decide_eq_true_eq, Int.toNat_natCast] at h1 h2
            have := HC.out.2.2.1
            omega
           rw [if_pos (.inr hd2), if_pos ⟨by omega, hnow2⟩, hmA] at hfin
           have HF0 := Lib.hid hfin
           have hw2 : IntKind.i64.wrap (p.now + st.mn) = p.now + st.mn := IntWalk.i64_in _ (by omega)
           rw [hd2]
           clear hd2 hfin hnow2 hRL hst m0 m1 m3 hbx hmA HFI HRL
           go_wp2
           refine wp_region_lex (fun w' => ∃ x : Ext W5, w' = x.val) [0, 1, 2, 3, 4, 5, 6, 7, 8, 9, 10, 11, 12, 13, 14, 15, 16, 17, 18] (by kernel_rfl) (by kernel_rfl) ⟨⟨_, (Keeps.refl _ _).drew⟩, rfl⟩ ?_
           have y0 := Ext.cell c0
           have y1 := Ext.cell b1
           have y2 := Ext.cell m2
           have y4 := Ext.cell x4
           iterate 2 (refine lex_q _ rfl rfl rfl ?_; go_big_quiet_step (fail); refine wpQuiet_nil ?_)
           refine lex_nil _ rfl _ rfl rfl _ rfl ?_; go_simp
           iterate 13 (refine lex_q _ rfl rfl rfl ?_; go_big_quiet_step (fail); refine wpQuiet_nil ?_)
           refine lex_nil _ rfl _ rfl rfl _ rfl ?_; go_simp
           refine lex_q _ rfl rfl rfl ?_; go_big_quiet_step (fail); refine wpQuiet_nil ?_
           refine lex_a _ rfl rfl false (by kernel_rfl) ?_
           have KE : KeepsAll W5 W5.drew := (Keeps.refl _ _).drew
           have c0e := KE.cellK (p := ⟨s.lb, e * 11, none⟩) hlz5 c0
           have f0e := (HG5.out.keep KE).l.frozen (e * 11)
           have HF := Lib.hid (HEND.out _ (labB (max base (p.now + st.mn))) HF0.out.symm (STS.out _ (max base (p.now + st.mn)) (HG5.out.keep KE)))
           clear y0 y1 y2 y4 c0 b1 m2 x4 hw1 hw2 HEND STS KE
           generalize W5.drew = We at *
           go_wp2
           (try refine ⟨fun h => (by cases h), ?_⟩)
           simp only [wpLex]
           refine NoPanic.normal ?_
           generalize hWx : World.setCell We _ _ = Wx
           rw [hWx] at HF
           clear hWx c0e f0e
           go_wp2
           go_roundw
           case rel => exact HF.out
           case measure => simp [intOf]; omega
          ·have hd2' : doneR p.at_ ⟨(t : Int), (k1 : Int)⟩ = false := by simpa using hd2
           have hfin := HFI.out
           have hnow2 : ¬ (0 < k ∧ (k1 : Int) = nowAt p.at_ t) := fun h => by
            have h2 := hd2'
            unfold doneR at h2
            simp only [decide_eq_false_iff_not, Int.toNat_natCast] at h2
            omega
           rw [if_neg (fun h => h.elim (by omega) hd2), if_neg hnow2, hmA] at hfin
           have HF0 := Lib.hid hfin
           have hev1 : (evs s.ps)[e1]? = some ⟨(t : Int), (k1 : Int)⟩ := by
            have h1 := evs_at HQ.out.2.1 (k := k1) (by omega)
            rw [show e1 = fst s.ps t + k1 by have := HQ.out.2.2; have := HC.out.2.2; omega]; exact h1
           have hT1 : (gd0 n (updL T ⟨(t : Int), (k : Int)⟩ (labB base))).T ⟨(t : Int), (k1 : Int)⟩ = LS ⟨(t : Int), (k1 : Int)⟩ := by
            show updL T _ _ _ = _
            rw [updL_ne _ _ (fun e => by injection e with _ e; have := HC.out.2.2.1; omega)]
            exact HTD.out e1 _ (by have := HC.out.2.2.2; omega) (by rw [← HSS.out.1]; exact hev1)
           have hsok : SOk s := ⟨by rw [HSS.out.1]; exact HP.out.v, by rw [HSS.out.1, HSS.out.2.1]; exact HGD.out, by rw [HSS.out.2.2.1]; exact HP.out.n⟩
           have hLb := labS_bounds hsok (dok_nil s.ps s.at_) (by rw [HSS.out.1, HSS.out.2.1]; exact HL0.out) ⟨(t : Int), (k1 : Int)⟩
           rw [HSS.out.1, HSS.out.2.1, HSS.out.2.2.1, HLS.out] at hLb
           have HMG : Hid (∀ W, KeepsAll W5 W → Calls Try.prog 68 #[.pointer (some ⟨s.gb, 0, none⟩), .agg #[.int .i64 base, .int .i8 (-1), .int .i8 (-1), .int .i8 (-1), .int .i8 (-1), .int .i8 (-1), .int .i8 (-1), .int .i8 (-1), .int .i8 (-1), .int .i8 (-1), .int .i8 (-1)], .int .i64 (e1 : Int), .int .i64 st.mn] W fun r w' => r = .returned (labV (LS ⟨(t : Int), (k : Int)⟩)) ∧ KeepsAll W w') := by
            refine Lib.hid fun W hW => ?_
            have hgW := HG5.out.keep hW
            obtain ⟨eb', ce', hse', g0', g1'⟩ := hgW.evc hev1
            have c6' := hgW.c6
            rw [hse'] at c6'
            have hlabW := hgW.lab hev1
            rw [hT1] at hlabW
            have h1 := merged_any W s.gb s.lb eb' ce' s.n e1 t k1 (labB base) (LS ⟨(t : Int), (k1 : Int)⟩) st.mn hgW.c7 c6' hlabW g0' g1' (getElem?_lt hev1) (evs_le hsok) (by have := getElem?_lt hPT.out.1; omega) (by have := HLN.out l (List.mem_of_getElem? hPT.out.1); omega) (by simp [labB]) (fun j hj => by rw [labB_bf _ hj]; exact Int.le_refl _) ⟨hLb.2.2.1, hLb.2.2.2⟩ hmn
            rw [← HF0.out] at h1
            exact h1
           have hLL := HG5.out.lab hEV.out
           rw [HT0.out] at hLL
           have l0 := hLL 0 _ rfl
           have l1 := hLL 1 _ rfl
           have l2 := hLL 2 _ rfl
           have l3 := hLL 3 _ rfl
           have l4 := hLL 4 _ rfl
           have l5 := hLL 5 _ rfl
           have l6 := hLL 6 _ rfl
           have l7 := hLL 7 _ rfl
           have l8 := hLL 8 _ rfl
           have l9 := hLL 9 _ rfl
           have l10 := hLL 10 _ rfl
           simp [labC, b8, labB, Lab.bf] at l0 l1 l2 l3 l4 l5 l6 l7 l8 l9 l10
           have hw3 : IntKind.i64.wrap ((e : Int) - 1) = (e1 : Int) := by rw [IntWalk.i64_in _ (by omega)]; exact HC.out.1
           rw [hd2']
           clear hd2 hd2' hfin hnow2 hRL hst m0 m1 m3 hbx hmA HFI HRL hev1 hT1 hLb hLL c0 x4
           go_wp2
           refine wp_region_lex (fun w' => ∃ x : Ext W5, w' = x.val) [0, 1, 2, 3, 4, 5, 6, 7, 8, 9, 10, 11, 12, 13, 14, 15, 16] (by kernel_rfl) (by kernel_rfl) ⟨⟨_, (Keeps.refl _ _).drew⟩, rfl⟩ ?_
           have y1 := Ext.cell b1
           have y2 := Ext.cell m2
           have z0 := Ext.cell l0
           have z1 := Ext.cell l1
           have z2 := Ext.cell l2
           have z3 := Ext.cell l3
           have z4 := Ext.cell l4
           have z5 := Ext.cell l5
           have z6 := Ext.cell l6
           have z7 := Ext.cell l7
           have z8 := Ext.cell l8
           have z9 := Ext.cell l9
           have z10 := Ext.cell l10
           iterate 3 (refine lex_q _ rfl rfl rfl ?_; go_big_quiet_step (fail); refine wpQuiet_nil ?_)
           refine lex_nil _ rfl _ rfl rfl _ rfl ?_; go_simp
           iterate 10 (refine lex_q _ rfl rfl rfl ?_; go_big_quiet_step (fail); refine wpQuiet_nil ?_)
           refine lex_a _ rfl rfl true (by kernel_rfl) ?_
           go_wp2_with fail
           refine (HMG.out _ ((Keeps.refl _ _).drew)).mono ?_
           rintro r w6 ⟨rfl, k6⟩
           have K6 : KeepsAll W5 w6 := ((Keeps.refl _ _).drew).tr k6
           simp only [labV, labC, b8]
           go_wp2
           refine ⟨fun _ => ⟨⟨_, K6⟩, rfl⟩, ?_⟩
           have HG6 := Lib.hid (HG5.out.keep K6)
           clear K6 k6 y1 y2 z0 z1 z2 z3 z4 z5 z6 z7 z8 z9 z10 l0 l1 l2 l3 l4 l5 l6 l7 l8 l9 l10 b1 m2 hw1 hw3 HMG
           refine lex_nil _ rfl _ rfl rfl _ rfl ?_; go_simp
           refine lex_a _ rfl rfl false (by kernel_rfl) ?_
           have hLL := HG6.out.lab hEV.out
           rw [HT0.out] at hLL
           have l0 := hLL 0 _ rfl
           have l1 := hLL 1 _ rfl
           have l2 := hLL 2 _ rfl
           have l3 := hLL 3 _ rfl
           have l4 := hLL 4 _ rfl
           have l5 := hLL 5 _ rfl
           have l6 := hLL 6 _ rfl
           have l7 := hLL 7 _ rfl
           have l8 := hLL 8 _ rfl
           have l9 := hLL 9 _ rfl
           have l10 := hLL 10 _ rfl
           simp [labC, b8, labB, Lab.bf] at l0 l1 l2 l3 l4 l5 l6 l7 l8 l9 l10
           have f0 := HG6.out.l.frozen (e * 11)
           have f1 := HG6.out.l.frozen (e * 11 + 1)
           have f2 := HG6.out.l.frozen (e * 11 + 2)
           have f3 := HG6.out.l.frozen (e * 11 + 3)
           have f4 := HG6.out.l.frozen (e * 11 + 4)
           have f5 := HG6.out.l.frozen (e * 11 + 5)
           have f6 := HG6.out.l.frozen (e * 11 + 6)
           have f7 := HG6.out.l.frozen (e * 11 + 7)
           have f8 := HG6.out.l.frozen (e * 11 + 8)
           have f9 := HG6.out.l.frozen (e * 11 + 9)
           have f10 := HG6.out.l.frozen (e * 11 + 10)
           have hst9 := HG6.out.setLab hEV.out (LS ⟨(t : Int), (k : Int)⟩)
           have hst8 : Gm s w (storeLab w6 s.lb (e * 11) (LS ⟨(t : Int), (k : Int)⟩)) (gd0 n (updL T ⟨(t : Int), (k : Int)⟩ (LS ⟨(t : Int), (k : Int)⟩))) := by
            have e5 : updL (updL T ⟨(t : Int), (k : Int)⟩ (labB base)) ⟨(t : Int), (k : Int)⟩ (LS ⟨(t : Int), (k : Int)⟩) = updL T ⟨(t : Int), (k : Int)⟩ (LS ⟨(t : Int), (k : Int)⟩) := updL_twice _ _ _ _
            show Gm s w (storeLab w6 s.lb (e * 11) (LS ⟨(t : Int), (k : Int)⟩)) ⟨updL T ⟨(t : Int), (k : Int)⟩ (LS ⟨(t : Int), (k : Int)⟩), _, _, _, _, _, _, _⟩
            rw [← e5]; exact hst9
           have hf9 := HEND.out _ _ rfl hst8
           simp only [storeLab] at hf9
           have HF := Lib.hid hf9
           clear hLL hst9 hst8 hf9 HEND STS
           go_wp2
           (try refine ⟨fun h => (by cases h), ?_⟩)
           simp only [wpLex]
           refine NoPanic.normal ?_
           clear l0 l1 l2 l3 l4 l5 l6 l7 l8 l9 l10 f0 f1 f2 f3 f4 f5 f6 f7 f8 f9 f10
           generalize hWx : World.setCell _ _ _ = Wx
           rw [hWx] at HF
           clear hWx
           go_wp2
           go_roundw
           case rel => exact HF.out
           case measure => simp [intOf]; omega
       ·have hkl' : decide (k < l.length) = false := decide_eq_false hkl
        rw [dif_neg hkl] at hbase2
        have HGB : Hid (Gm s w wr (gd0 n (updL T ⟨(t : Int), (k : Int)⟩ (labB base)))) := by rw [hbase2]; exact HGm
        have HBU2 := HBU
        clear hbase2
        go_wp2_with fail
        have hln := lab_nil (n := p.now) hPT.out.1 hk HL0.out
        rw [HLS.out, baseN_eq, ← HBE.out] at hln
        have hal : s.at_.length = s.ps.length := by rw [HSS.out.1, HSS.out.2.1]; exact HGD.out.1
        have hpt2 : s.ps[t]? = some l := by rw [HSS.out.1]; exact hPT.out.1
        have hek2 : e = fst s.ps t + k := by rw [HSS.out.1]; exact hPT.out.2
        have HEND : Hid (∀ (Wq : World) (X : Lab), X = LS ⟨(t : Int), (k : Int)⟩ → Gm s w Wq (gd0 n (updL T ⟨(t : Int), (k : Int)⟩ X)) → ∃ (e' : Nat) (T' : LTab), e' ≤ n ∧ Value.int .i64 ((e : Int) + 1) = .int .i64 (e' : Int) ∧ Gm s w Wq (gd0 n T') ∧ (∀ u, (T' u).bef.length = 10) ∧ (∀ (j : Nat) u, j < e' → (evs p.ps)[j]? = some u → T' u = LS u)) := by
         refine Lib.hid fun Wq X hX hg => ⟨e + 1, _, by omega, rfl, hg, fun u => ?_, fun j u hj hu => ?_⟩
         ·by_cases e3 : u = ⟨(t : Int), (k : Int)⟩
          ·rw [e3, updL_at, hX, ← HLS.out]; exact labS_len _
          ·rw [updL_ne _ _ e3]; exact HTL.out u
         ·by_cases e3 : u = ⟨(t : Int), (k : Int)⟩
          ·rw [e3, updL_at, hX]
          ·rw [updL_ne _ _ e3]
           refine HTD.out j u ?_ hu
           have h1 := hEV.out
           rw [HSS.out.1] at h1
           by_cases e4 : j = e
           ·subst e4; rw [hu] at h1; injection h1 with h1; exact absurd h1 e3
           ·omega
        have HDN := Lib.hid (dhappened_any s w wr _ HGB.out e t k l hpt2 hk hek2 hal)
        have hAT := HSS.out.2.1
        rw [hAT] at HDN
        have HLN2 := Lib.hid hln
        have HQ := Lib.hid (And.intro hal (And.intro hpt2 hek2))
        clear hln hal hpt2 hek2 hAT
        refine HDN.out.mono ?_
        rintro r w4 ⟨rfl, q, rfl⟩
        have HG4 := Lib.hid (HGB.out.keep ((Keeps.refl _ _).drewN q))
        have HBU4 := Lib.hid (HBU2.out.kept ((Keeps.refl (fun _ => False) _).drewN q) (by simp))
        clear HDN HGB HBU2
        generalize World.drewN wr q = W4 at *
        have t0 : (gd0 n (updL T ⟨(t : Int), (k : Int)⟩ (labB base))).T ⟨(t : Int), (k : Int)⟩ = labB base := updL_at _ _ _
        have STS : Hid (∀ (Wq : World) (x : Int), Gm s w Wq (gd0 n (updL T ⟨(t : Int), (k : Int)⟩ (labB base))) → Gm s w (Wq.setCell ⟨s.lb, e * 11, none⟩ (.int .i64 x)) (gd0 n (updL T ⟨(t : Int), (k : Int)⟩ (labB x)))) := by
         refine Lib.hid fun Wq x hg => ?_
         have h1 := hg.stSec hEV.out x
         have e1 : updL (updL T ⟨(t : Int), (k : Int)⟩ (labB base)) ⟨(t : Int), (k : Int)⟩ (setSec ((updL T ⟨(t : Int), (k : Int)⟩ (labB base)) ⟨(t : Int), (k : Int)⟩) x) = updL T ⟨(t : Int), (k : Int)⟩ (labB x) := by rw [updL_at, updL_twice]; rfl
         show Gm s w (Wq.setCell ⟨s.lb, e * 11, none⟩ (.int .i64 x)) ⟨updL T ⟨(t : Int), (k : Int)⟩ (labB x), _, _, _, _, _, _, _⟩
         rw [← e1]; exact h1
        have c0 := HG4.out.lab hEV.out 0 _ rfl
        rw [Nat.add_zero, t0] at c0
        simp [labC, labB] at c0
        have f0 := HG4.out.l.frozen (e * 11)
        have b1 := HBU4.out.cell 1
        simp at b1
        have hlz4 := HG4.out.l.lt
        have HT0 := Lib.hid t0
        clear t0
        by_cases hd : doneR p.at_ ⟨(t : Int), (k : Int)⟩ = true
        ·have hfin := HLN2.out
         rw [if_pos hd] at hfin
         have HF := Lib.hid (HEND.out _ (labB (-1)) hfin.symm (STS.out W4 (-1) HG4.out))
         rw [hd]
         clear hd hfin HLN2 HEND STS
         go_wp2
         go_roundw
         case rel => exact HF.out
         case measure => simp [intOf]; omega
        ·have hd' : doneR p.at_ ⟨(t : Int), (k : Int)⟩ = false := by simpa using hd
         have hfin := HLN2.out
         rw [if_neg hd] at hfin
         by_cases hk0 : k = 0
         ·have hk0' : ((k : Int) == 0) = true := by simp [hk0]
          rw [if_pos (.inl hk0), if_neg (by omega)] at hfin
          have HF := Lib.hid (HEND.out _ (labB base) hfin.symm HG4.out)
          rw [hd']
          clear hd hd' hfin HLN2 HEND STS
          go_wp2
          go_roundw
          case rel => exact HF.out
          case measure => simp [intOf]; omega
         ·have hk0' : ((k : Int) == 0) = false := by simp; omega
          obtain ⟨k1, hk1⟩ : ∃ k1, k = k1 + 1 := ⟨k - 1, by omega⟩
          obtain ⟨e1, he1⟩ : ∃ e1, e = e1 + 1 := ⟨e - 1, by have := HQ.out.2.2; omega⟩
          have hc2 : (k : Int) - 1 = (k1 : Int) := by omega
          have hc1 : (e : Int) - 1 = (e1 : Int) := by omega
          have hkm : k - 1 = k1 := by omega
          rw [hc2, hkm] at hfin
          have hD2 := dhappened_any s w W4 _ HG4.out e1 t k1 l HQ.out.2.1 (by omega) (by have := HQ.out.2.2; omega) HQ.out.1
          rw [HSS.out.2.1, ← hc1] at hD2
          have HDN2 := Lib.hid hD2
          have HFI := Lib.hid hfin
          have HC := Lib.hid (And.intro hc1 (And.intro hc2 (And.intro hk1 he1)))
          rw [hd']
          have HD0 := Lib.hid hd'
          have hege : 1 ≤ e := by omega
          have hkge : 1 ≤ k := by omega
          clear hd hd' hfin HLN2 hD2 hc1 hc2 hkm hk1 he1
          go_wp2_with fail
          with_reducible refine HDN2.out.mono ?_
          rintro r w5 ⟨rfl, q2, rfl⟩
          have HG5 := Lib.hid (HG4.out.keep ((Keeps.refl _ _).drewN q2))
          have HBU5 := Lib.hid (HBU4.out.kept ((Keeps.refl (fun _ => False) _).drewN q2) (by simp))
          clear HDN2 HG4 HBU4 c0 f0 b1 hlz4
          generalize W4.drewN q2 = W5 at *
          have c0 := HG5.out.lab hEV.out 0 _ rfl
          rw [Nat.add_zero, HT0.out] at c0
          simp [labC, labB] at c0
          have b1 := HBU5.out.cell 1
          simp at b1
          have hbx := HG5.out.zblk HSZ.out.1 HSZ.out.2
          have x4 := hbx.cell 4
          simp at x4
          have hkl1 : k1 < l.length := by have := HC.out.2.2.1; omega
          have hRL := HG5.out.k.rd RPath.ok HRL0.out (fun b hb => ⟨hb, by simp⟩) (fun _ h => h)
          obtain ⟨b3, o3, st, A3, c3, hA3, _, hst, m0, m1, m2, m3, _⟩ := RPath.at_ hRL hkl1
          have hmn := (valid_clk HP.out.v hPT.out.1 hst).1
          have hmA : mnAt p.ps t k1 = st.mn := by unfold mnAt; rw [hPT.out.1]; simp only [Option.getD_some]; rw [hst]; rfl
          have hlz5 := HG5.out.l.lt
          have hl64 := HLN.out l (List.mem_of_getElem? hPT.out.1)
          have hw1 : IntKind.i64.wrap ((k : Int) - 1) = (k1 : Int) := by rw [IntWalk.i64_in _ (by omega)]; exact HC.out.2.1
          have hnow := HP.out.n
          first | subst hA3 | (injection hA3 with hA3; injection hA3 with q1 q2; subst q1 q2)
          by_cases hd2 : doneR p.at_ ⟨(t : Int), (k1 : Int)⟩ = true
          ·have hfin := HFI.out
           have hnow2 : (k1 : Int) = nowAt p.at_ t := by
            have h1 := HD0.out
            have h2 := hd2
            unfold doneR at h1 h2
            simp only [decide_eq_false_iff_not, decide_eq_true_eq, Int.toNat_natCast] at h1 h2
            have := HC.out.2.2.1
            omega
           rw [if_pos (.inr hd2), if_pos ⟨by omega, hnow2⟩, hmA] at hfin
           have HF0 := Lib.hid hfin
           have hw2 : IntKind.i64.wrap (p.now + st.mn) = p.now + st.mn := IntWalk.i64_in _ (by omega)
           rw [hd2]
           clear hd2 hfin hnow2 hRL hst m0 m1 m3 hbx hmA HFI HRL
           go_wp2
           refine wp_region_lex (fun w' => ∃ x : Ext W5, w' = x.val) [0, 1, 2, 3, 4, 5, 6, 7, 8, 9, 10, 11, 12, 13, 14, 15, 16, 17, 18] (by kernel_rfl) (by kernel_rfl) ⟨⟨_, (Keeps.refl _ _).drew⟩, rfl⟩ ?_
           have y0 := Ext.cell c0
           have y1 := Ext.cell b1
           have y2 := Ext.cell m2
           have y4 := Ext.cell x4
           iterate 2 (refine lex_q _ rfl rfl rfl ?_; go_big_quiet_step (fail); refine wpQuiet_nil ?_)
           refine lex_nil _ rfl _ rfl rfl _ rfl ?_; go_simp
           iterate 13 (refine lex_q _ rfl rfl rfl ?_; go_big_quiet_step (fail); refine wpQuiet_nil ?_)
           refine lex_nil _ rfl _ rfl rfl _ rfl ?_; go_simp
           refine lex_q _ rfl rfl rfl ?_; go_big_quiet_step (fail); refine wpQuiet_nil ?_
           refine lex_a _ rfl rfl false (by kernel_rfl) ?_
           have KE : KeepsAll W5 W5.drew := (Keeps.refl _ _).drew
           have c0e := KE.cellK (p := ⟨s.lb, e * 11, none⟩) hlz5 c0
           have f0e := (HG5.out.keep KE).l.frozen (e * 11)
           have HF := Lib.hid (HEND.out _ (labB (max base (p.now + st.mn))) HF0.out.symm (STS.out _ (max base (p.now + st.mn)) (HG5.out.keep KE)))
           clear y0 y1 y2 y4 c0 b1 m2 x4 hw1 hw2 HEND STS KE
           generalize W5.drew = We at *
           go_wp2
           (try refine ⟨fun h => (by cases h), ?_⟩)
           simp only [wpLex]
           refine NoPanic.normal ?_
           generalize hWx : World.setCell We _ _ = Wx
           rw [hWx] at HF
           clear hWx c0e f0e
           go_wp2
           go_roundw
           case rel => exact HF.out
           case measure => simp [intOf]; omega
          ·have hd2' : doneR p.at_ ⟨(t : Int), (k1 : Int)⟩ = false := by simpa using hd2
           have hfin := HFI.out
           have hnow2 : ¬ (0 < k ∧ (k1 : Int) = nowAt p.at_ t) := fun h => by
            have h2 := hd2'
            unfold doneR at h2
            simp only [decide_eq_false_iff_not, Int.toNat_natCast] at h2
            omega
           rw [if_neg (fun h => h.elim (by omega) hd2), if_neg hnow2, hmA] at hfin
           have HF0 := Lib.hid hfin
           have hev1 : (evs s.ps)[e1]? = some ⟨(t : Int), (k1 : Int)⟩ := by
            have h1 := evs_at HQ.out.2.1 (k := k1) (by omega)
            rw [show e1 = fst s.ps t + k1 by have := HQ.out.2.2; have := HC.out.2.2; omega]; exact h1
           have hT1 : (gd0 n (updL T ⟨(t : Int), (k : Int)⟩ (labB base))).T ⟨(t : Int), (k1 : Int)⟩ = LS ⟨(t : Int), (k1 : Int)⟩ := by
            show updL T _ _ _ = _
            rw [updL_ne _ _ (fun e => by injection e with _ e; have := HC.out.2.2.1; omega)]
            exact HTD.out e1 _ (by have := HC.out.2.2.2; omega) (by rw [← HSS.out.1]; exact hev1)
           have hsok : SOk s := ⟨by rw [HSS.out.1]; exact HP.out.v, by rw [HSS.out.1, HSS.out.2.1]; exact HGD.out, by rw [HSS.out.2.2.1]; exact HP.out.n⟩
           have hLb := labS_bounds hsok (dok_nil s.ps s.at_) (by rw [HSS.out.1, HSS.out.2.1]; exact HL0.out) ⟨(t : Int), (k1 : Int)⟩
           rw [HSS.out.1, HSS.out.2.1, HSS.out.2.2.1, HLS.out] at hLb
           have HMG : Hid (∀ W, KeepsAll W5 W → Calls Try.prog 68 #[.pointer (some ⟨s.gb, 0, none⟩), .agg #[.int .i64 base, .int .i8 (-1), .int .i8 (-1), .int .i8 (-1), .int .i8 (-1), .int .i8 (-1), .int .i8 (-1), .int .i8 (-1), .int .i8 (-1), .int .i8 (-1), .int .i8 (-1)], .int .i64 (e1 : Int), .int .i64 st.mn] W fun r w' => r = .returned (labV (LS ⟨(t : Int), (k : Int)⟩)) ∧ KeepsAll W w') := by
            refine Lib.hid fun W hW => ?_
            have hgW := HG5.out.keep hW
            obtain ⟨eb', ce', hse', g0', g1'⟩ := hgW.evc hev1
            have c6' := hgW.c6
            rw [hse'] at c6'
            have hlabW := hgW.lab hev1
            rw [hT1] at hlabW
            have h1 := merged_any W s.gb s.lb eb' ce' s.n e1 t k1 (labB base) (LS ⟨(t : Int), (k1 : Int)⟩) st.mn hgW.c7 c6' hlabW g0' g1' (getElem?_lt hev1) (evs_le hsok) (by have := getElem?_lt hPT.out.1; omega) (by have := HLN.out l (List.mem_of_getElem? hPT.out.1); omega) (by simp [labB]) (fun j hj => by rw [labB_bf _ hj]; exact Int.le_refl _) ⟨hLb.2.2.1, hLb.2.2.2⟩ hmn
            rw [← HF0.out] at h1
            exact h1
           have hLL := HG5.out.lab hEV.out
           rw [HT0.out] at hLL
           have l0 := hLL 0 _ rfl
           have l1 := hLL 1 _ rfl
           have l2 := hLL 2 _ rfl
           have l3 := hLL 3 _ rfl
           have l4 := hLL 4 _ rfl
           have l5 := hLL 5 _ rfl
           have l6 := hLL 6 _ rfl
           have l7 := hLL 7 _ rfl
           have l8 := hLL 8 _ rfl
           have l9 := hLL 9 _ rfl
           have l10 := hLL 10 _ rfl
           simp [labC, b8, labB, Lab.bf] at l0 l1 l2 l3 l4 l5 l6 l7 l8 l9 l10
           have hw3 : IntKind.i64.wrap ((e : Int) - 1) = (e1 : Int) := by rw [IntWalk.i64_in _ (by omega)]; exact HC.out.1
           rw [hd2']
           clear hd2 hd2' hfin hnow2 hRL hst m0 m1 m3 hbx hmA HFI HRL hev1 hT1 hLb hLL c0 x4
           go_wp2
           refine wp_region_lex (fun w' => ∃ x : Ext W5, w' = x.val) [0, 1, 2, 3, 4, 5, 6, 7, 8, 9, 10, 11, 12, 13, 14, 15, 16] (by kernel_rfl) (by kernel_rfl) ⟨⟨_, (Keeps.refl _ _).drew⟩, rfl⟩ ?_
           have y1 := Ext.cell b1
           have y2 := Ext.cell m2
           have z0 := Ext.cell l0
           have z1 := Ext.cell l1
           have z2 := Ext.cell l2
           have z3 := Ext.cell l3
           have z4 := Ext.cell l4
           have z5 := Ext.cell l5
           have z6 := Ext.cell l6
           have z7 := Ext.cell l7
           have z8 := Ext.cell l8
           have z9 := Ext.cell l9
           have z10 := Ext.cell l10
           iterate 3 (refine lex_q _ rfl rfl rfl ?_; go_big_quiet_step (fail); refine wpQuiet_nil ?_)
           refine lex_nil _ rfl _ rfl rfl _ rfl ?_; go_simp
           iterate 10 (refine lex_q _ rfl rfl rfl ?_; go_big_quiet_step (fail); refine wpQuiet_nil ?_)
           refine lex_a _ rfl rfl true (by kernel_rfl) ?_
           go_wp2_with fail
           refine (HMG.out _ ((Keeps.refl _ _).drew)).mono ?_
           rintro r w6 ⟨rfl, k6⟩
           have K6 : KeepsAll W5 w6 := ((Keeps.refl _ _).drew).tr k6
           simp only [labV, labC, b8]
           go_wp2
           refine ⟨fun _ => ⟨⟨_, K6⟩, rfl⟩, ?_⟩
           have HG6 := Lib.hid (HG5.out.keep K6)
           clear K6 k6 y1 y2 z0 z1 z2 z3 z4 z5 z6 z7 z8 z9 z10 l0 l1 l2 l3 l4 l5 l6 l7 l8 l9 l10 b1 m2 hw1 hw3 HMG
           refine lex_nil _ rfl _ rfl rfl _ rfl ?_; go_simp
           refine lex_a _ rfl rfl false (by kernel_rfl) ?_
           have hLL := HG6.out.lab hEV.out
           rw [HT0.out] at hLL
           have l0 := hLL 0 _ rfl
           have l1 := hLL 1 _ rfl
           have l2 := hLL 2 _ rfl
           have l3 := hLL 3 _ rfl
           have l4 := hLL 4 _ rfl
           have l5 := hLL 5 _ rfl
           have l6 := hLL 6 _ rfl
           have l7 := hLL 7 _ rfl
           have l8 := hLL 8 _ rfl
           have l9 := hLL 9 _ rfl
           have l10 := hLL 10 _ rfl
           simp [labC, b8, labB, Lab.bf] at l0 l1 l2 l3 l4 l5 l6 l7 l8 l9 l10
           have f0 := HG6.out.l.frozen (e * 11)
           have f1 := HG6.out.l.frozen (e * 11 + 1)
           have f2 := HG6.out.l.frozen (e * 11 + 2)
           have f3 := HG6.out.l.frozen (e * 11 + 3)
           have f4 := HG6.out.l.frozen (e * 11 + 4)
           have f5 := HG6.out.l.frozen (e * 11 + 5)
           have f6 := HG6.out.l.frozen (e * 11 + 6)
           have f7 := HG6.out.l.frozen (e * 11 + 7)
           have f8 := HG6.out.l.frozen (e * 11 + 8)
           have f9 := HG6.out.l.frozen (e * 11 + 9)
           have f10 := HG6.out.l.frozen (e * 11 + 10)
           have hst9 := HG6.out.setLab hEV.out (LS ⟨(t : Int), (k : Int)⟩)
           have hst8 : Gm s w (storeLab w6 s.lb (e * 11) (LS ⟨(t : Int), (k : Int)⟩)) (gd0 n (updL T ⟨(t : Int), (k : Int)⟩ (LS ⟨(t : Int), (k : Int)⟩))) := by
            have e5 : updL (updL T ⟨(t : Int), (k : Int)⟩ (labB base)) ⟨(t : Int), (k : Int)⟩ (LS ⟨(t : Int), (k : Int)⟩) = updL T ⟨(t : Int), (k : Int)⟩ (LS ⟨(t : Int), (k : Int)⟩) := updL_twice _ _ _ _
            show Gm s w (storeLab w6 s.lb (e * 11) (LS ⟨(t : Int), (k : Int)⟩)) ⟨updL T ⟨(t : Int), (k : Int)⟩ (LS ⟨(t : Int), (k : Int)⟩), _, _, _, _, _, _, _⟩
            rw [← e5]; exact hst9
           have hf9 := HEND.out _ _ rfl hst8
           simp only [storeLab] at hf9
           have HF := Lib.hid hf9
           clear hLL hst9 hst8 hf9 HEND STS
           go_wp2
           (try refine ⟨fun h => (by cases h), ?_⟩)
           simp only [wpLex]
           refine NoPanic.normal ?_
           clear l0 l1 l2 l3 l4 l5 l6 l7 l8 l9 l10 f0 f1 f2 f3 f4 f5 f6 f7 f8 f9 f10
           generalize hWx : World.setCell _ _ _ = Wx
           rw [hWx] at HF
           clear hWx
           go_wp2
           go_roundw
           case rel => exact HF.out
           case measure => simp [intOf]; omega
    ·have hlte' : decide (e < n) = false := decide_eq_false hlte
     obtain rfl : e = n := by omega
     have hfin : Gm { s with Z := fun _ => False, wz := wr } w wr (gd0 e LS) := (hg.congrT (T := LS) (fun u hu => by
      rw [HSS.out.1] at hu
      obtain ⟨j, hj⟩ := List.mem_iff_getElem?.1 hu
      have hjl := getElem?_lt hj
      exact (hTd j u (by rw [HNN.out]; exact hjl) hj).symm)).rezone (fun _ => False) (fun _ h => h.elim)
     have HFIN := Lib.hid hfin
     clear hfin hg hTl hTd
     go_wp2
     go_ret
     have hN0 : nextD p.ps [] = List.replicate e [] := by
      unfold nextD rowD
      rw [← HNN.out]
      apply List.ext_getElem?
      intro i
      by_cases hi : i < e
      ·rw [List.getElem?_map, List.getElem?_range hi, List.getElem?_replicate, if_pos hi]; rfl
      ·rw [List.getElem?_eq_none (by simp; omega), List.getElem?_eq_none (by simp; omega)]
     refine ⟨{ s with Z := fun _ => False, wz := wr }, gd0 e LS, rfl, HSS.out.1, HSS.out.2.1, HSS.out.2.2.1, ⟨?_, ?_, ?_, ?_, ?_⟩, HFIN.out, ⟨dok_nil _ _, by simp, fun i hi => ?_, [], (evs p.ps).filter fun u => !doneR p.at_ u, ?_, Eff.refl _ _, ?_, ?_, by simp, by simp [gd0]⟩, rfl, HLS.out.symm⟩
     ·show s.vp = .slice v.A s.ps.length v.c; rw [HSE.out]
     ·show s.va = .slice v.A2 s.at_.length v.c2; rw [HSE.out]
     ·show s.vd = _; rw [HSE.out]
     ·show s.vw = _; rw [HSE.out]
     ·have h1 := H.out
      have e1 : GS.pb { s with Z := fun _ => False, wz := wr } p.due p.wgt = p := by unfold GS.pb; simp only; rw [HSS.out.1, HSS.out.2.1, HSS.out.2.2.1]
      rw [e1]; exact h1
     ·have hi : (List.replicate e false)[i]? = some true := hi
      simp [List.getElem?_replicate] at hi
     ·show Topo s.ps s.at_ [] _
      rw [HSS.out.1, HSS.out.2.1]; exact HL0.out
     ·show LS = labS s.ps s.at_ s.now [] _
      rw [HSS.out.1, HSS.out.2.1, HSS.out.2.2.1]; exact HLS.out.symm
     ·show List.replicate e [] = nextD s.ps []
      rw [HSS.out.1, hN0]

end Go.Proofs.Ytilbbpbjhoidhaa
