/- Contract of uses of the graph of chapter 37. Conditions: as each theorem says. -/
import Derived.Test.YtilbbpbjhoidhaaE18
import Derived.Test.YtilbbpbjhoidhaaE21
namespace Go.Proofs.Ytilbbpbjhoidhaa
open Go.RowKit

def RUse : Rd Use := fun _ _ cs x => cs = [.int .i64 x.u.tr, .int .i64 x.u.st, .int .i64 x.en, .int .i64 x.rl]
theorem RUse.ok : Rd.Ok RUse := ⟨fun h _ _ => h⟩
theorem RUse.flat : Rd.Flat RUse := fun _ _ _ _ _ _ h => h
abbrev RUses := RSlice 4 RUse
abbrev RUsess := RSlice 1 RUses
theorem RUses.ok : Rd.Ok RUses := RSlice.ok RUse.ok
theorem RUsess.ok : Rd.Ok RUsess := RSlice.ok RUses.ok
theorem tyUse : ElemTy Try.prog 101 133 4 32 := .mk' Try.underlying101 (z := .agg #[.int .i64 0, .int .i64 0, .int .i64 0, .int .i64 0]) (by kernel_rfl) rfl (by omega)
def usesP (ps : List (List Stage)) (at_ : List Int) : List (List Use) := (List.range 144).map fun r : Nat => (openA ps at_ (r : Int)).map (useOf ps (r : Int))
theorem usesP_len (ps : List (List Stage)) (at_ : List Int) : (usesP ps at_).length = 144 := by simp [usesP]
theorem usesP_at (ps : List (List Stage)) (at_ : List Int) {r : Nat} (hr : r < 144) : (usesP ps at_)[r]? = some ((openA ps at_ (r : Int)).map (useOf ps (r : Int))) := by simp [usesP, hr]
theorem usOf_done {ps : List (List Stage)} {at_ : List Int} (hv : valid ps = true) (q : List Stage) : usOf ps (opTo ps at_ ps.length q 0) = usesP ps at_ := by
 unfold usOf usesP
 exact List.map_congr_left fun r _ => by rw [opTo_all hv]
theorem mkUses (W : World) : (Instr.makeSlice 80 (.int .i64 144) (.int .i64 144)).run Try.prog W = .ok (.slice (some ⟨W.heap.size, 0, none⟩) 144 144) (W.alloc (.cells (List.replicate 144 (Value.slice none 0 0)).toArray 101)) := by
 have h := run_make_row' (P := Try.prog) 80 101 (.slice none 0 0) 24 Try.underlying80 (by kernel_rfl) rfl .i64 .i64 144 (by omega) (by omega) W
 rw [madeCells_one] at h; exact h
structure UsS (ps : List (List Stage)) (w wr : World) (vs : List Value) (pre : List (Int × Ref)) : Prop where
 rows : Rows 101 133 4 RUse wr (w.heap.size + 1) w.heap.size vs (usOf ps pre)
 k : KeepsAll w wr
 sz : w.heap.size + 1 ≤ wr.heap.size
structure UsB (ps : List (List Stage)) (w wr : World) (vs : List Value) (pre : List (Int × Ref)) (zs z : Nat) (cs cu : Array Value) : Prop where
 s : UsS ps w wr vs pre
 bs : Blk wr zs 99 cs
 bu : Blk wr z 133 cu
 ow : ∀ (i : Nat) v, vs[i]? = some v → v.ownBlock ≠ some z
 lo : w.heap.size < zs ∧ w.heap.size < z
section
variable {ps : List (List Stage)} {w wr w' : World} {vs : List Value} {pre : List (Int × Ref)} {zs z : Nat} {cs cu : Array Value}
theorem UsS.keep (h : UsS ps w wr vs pre) (k : KeepsAll wr w') : UsS ps w w' vs pre := ⟨h.rows.keeps RUse.flat k (by simp) (by simp), h.k.tr k, Nat.le_trans h.sz k.size⟩
theorem UsB.keep (h : UsB ps w wr vs pre zs z cs cu) (k : KeepsAll wr w') : UsB ps w w' vs pre zs z cs cu := ⟨h.s.keep k, h.bs.kept k (by simp), h.bu.kept k (by simp), h.ow, h.lo⟩
theorem UsB.setU (h : UsB ps w wr vs pre zs z cs cu) (i : Nat) (x : Value) : UsB ps w (wr.setCell ⟨z, i, none⟩ x) vs pre zs z cs (cu.setIfInBounds i x) := by
 have hk : Keeps (fun b => b = z) wr (wr.setCell ⟨z, i, none⟩ x) := (Keeps.refl (fun b => b = z) wr).setCell (p := ⟨z, i, none⟩) (fun _ => rfl) x
 have hne : zs ≠ z := Blk.ne_ h.bs h.bu (by decide)
 refine ⟨⟨⟨h.s.rows.blk.kept hk (by have := h.lo.2; omega), h.s.rows.len, fun i v l hv hl => (h.s.rows.own i v l hv hl).keepsF RUse.flat hk (fun b hb e => h.ow i v hv (by rw [← e]; exact hb)), h.s.rows.ne, h.s.rows.nb⟩, h.s.k.trans hk (fun b hb e => by have := h.lo.2; omega), Nat.le_trans h.s.sz hk.size⟩, h.bs.kept hk hne, h.bu.set_ i x, h.ow, h.lo⟩
theorem UsB.push (h : UsB ps w wr vs pre zs z cs cu) {n : Nat} (hn : n < 144) {u : Ref} {v v' : Value} (hv : vs[n]? = some v) (ho : OwnL 133 4 RUse w' (w.heap.size + 1) (w.heap.size + 1) v' ((lsAt pre (n : Int)).map (useOf ps (n : Int)) ++ [useOf ps (n : Int) u])) (hk : Keeps (fun b => v.ownBlock = some b) wr w') (ha : v'.ownBlock = v.ownBlock ∨ v'.ownBlock = some wr.heap.size) :
  UsB ps w (w'.setCell ⟨w.heap.size, n, none⟩ v') (vs.set n v') (pre ++ [((n : Int), u)]) zs z cs cu := by
 have hl := usOf_at ps pre hn
 have hrow := h.s.rows.own n v _ hv hl
 have hL : ∀ b, v.ownBlock = some b → w.heap.size + 1 ≤ b := fun b hb => (hrow.lt hb).1
 have hk2 : Keeps (fun b => b = w.heap.size) w' (w'.setCell ⟨w.heap.size, n, none⟩ v') := (Keeps.refl (fun b => b = w.heap.size) w').setCell (p := ⟨w.heap.size, n, none⟩) (fun _ => rfl) v'
 have hK : Keeps (fun b => w.heap.size ≤ b) wr (w'.setCell ⟨w.heap.size, n, none⟩ v') := (hk.mono (C := fun b => w.heap.size ≤ b) (fun b _ e => by have := hL b e; show w.heap.size ≤ b; omega)).trans hk2 (fun b _ e => by have e : b = w.heap.size := e; show w.heap.size ≤ b; omega)
 refine ⟨⟨?_, h.s.k.trans hK (fun b hb e => by have e : w.heap.size ≤ b := e; omega), Nat.le_trans h.s.sz hK.size⟩, ?_, ?_, fun i u' hu e => ?_, h.lo⟩
 ·rw [usOf_push ps pre hn u]
  exact h.s.rows.push RUse.flat hv hl h.s.sz ho hk ha
 ·exact (h.bs.kept hk (fun e => by exact hrow.ne_blk h.bs (by decide) e)).kept hk2 (by have := h.lo.1; omega)
 ·exact (h.bu.kept hk (fun e => h.ow n v hv e)).kept hk2 (by have := h.lo.2; omega)
 ·by_cases q : n = i
  ·subst q
   rw [List.getElem?_set_self (getElem?_lt hv)] at hu
   injection hu with hu
   subst hu
   rcases ha with ha | ha
   ·rw [ha] at e; exact h.ow n v hv e
   ·rw [ha] at e
    injection e with e
    have := h.bu.lt
    omega
  ·rw [List.getElem?_set_ne q] at hu
   exact h.ow i u' hu e
theorem UsS.row (h : UsS ps w wr vs pre) {n : Nat} (hn : n < 144) : ∃ A c, vs[n]? = some (.slice A (lsAt pre (n : Int)).length c) ∧ OwnL 133 4 RUse wr (w.heap.size + 1) (w.heap.size + 1) (.slice A (lsAt pre (n : Int)).length c) ((lsAt pre (n : Int)).map (useOf ps (n : Int))) ∧ wr.cell? ⟨w.heap.size, n, none⟩ = some (.slice A (lsAt pre (n : Int)).length c) ∧ wr.frozen? ⟨w.heap.size, n, none⟩ = false := by
 obtain ⟨v, l, hv, hl, ho, hc, hf⟩ := h.rows.get (i := n) (by rw [usOf_len]; exact hn)
 rw [usOf_at ps pre hn] at hl
 injection hl with hl
 subst hl
 obtain ⟨A, c, hv', _, _⟩ := ho.form
 rw [List.length_map] at hv'
 subst hv'
 exact ⟨A, c, hv, ho, hc, hf⟩
end

set_option maxRecDepth 100000 in
set_option maxHeartbeats 2000000 in
theorem guses_any (s : GS) (w0 w : World) (d : GD) (v : PV) (due wgt : List Int) (hsp : GSP s w0 v due wgt) (hs : SOk s) (h : Gm s w0 w d) :
  Calls Try.prog 39 #[.pointer (some ⟨s.gb, 0, none⟩)] w fun e w' => ∃ g, e = .returned (.slice (some ⟨g, 0, none⟩) 144 144) ∧ RUsess w' (Fresh w w') [.slice (some ⟨g, 0, none⟩) 144 144] (usesP s.ps s.at_) ∧ KeepsAll w w' := by
 have H := Lib.hid h
 have HSP := Lib.hid hsp
 have HS := Lib.hid hs
 have hps10 := (valid_lens hs.v).1
 have hn650 := evs_le hs
 have c0 := h.c0
 rw [hsp.vp] at c0
 have hgz := h.b.lt
 have hmk := mkUses
 clear h hsp hs
 go_enter Try.func39, Try.ntmps39
 go_wp2
 generalize hW : World.alloc w _ = W
 have hE0 : UsS s.ps w W (List.replicate 144 (.slice none 0 0)) [] := by
  subst hW
  exact ⟨by rw [usOf_nil]; exact Rows.new _ (Blk.new _ _ _) (Nat.lt_succ_self _), (Keeps.refl _ _).alloc _, by simp⟩
 have HE0 := Lib.hid hE0
 clear hW hE0 hmk
 go_loopw [18] (fun i wr => ∃ (k : Nat) (vs : List Value), k ≤ s.ps.length ∧ i = .int .i64 (k : Int) ∧ UsS s.ps w wr vs (opTo s.ps s.at_ k [] 0)) (fun i _ => s.ps.length - (intOf i).toNat)
 case atStart => exact ⟨0, _, by omega, rfl, by rw [opTo_zero]; exact HE0.out⟩
 case round =>
  obtain ⟨t, vs, hk, rfl, he⟩ := hrel
  have HE := Lib.hid he
  by_cases hlt : t < s.ps.length
  ·have hlt' : decide (t < s.ps.length) = true := decide_eq_true hlt
   obtain ⟨p, hpl⟩ : ∃ p, s.ps[t]? = some p := ⟨_, List.getElem?_eq_getElem hlt⟩
   obtain ⟨bp, op, Al, cl, hAp, hbp, p0w, hrp⟩ := H.out.path HSP.out.vp hpl
   have p0 := he.k.cellK (p := ⟨bp, op + t, none⟩) hbp p0w
   have hp64 := ((valid_lens HS.out.v).2 p (List.mem_of_getElem? hpl)).2
   have HPL := Lib.hid hpl
   obtain ⟨bf, cf, hfv, hbf, f0⟩ := H.out.first hlt
   have HFV := Lib.hid hfv
   have HRP := Lib.hid hrp
   have KR := Lib.hid he.k
   rw [hAp]
   clear hpl he hfv hrp p0w
   go_wp2
   go_loopw [25] (fun i wr' => ∃ (k : Nat) (vs : List Value), k ≤ p.length ∧ i = .int .i64 (k : Int) ∧ UsS s.ps w wr' vs (opTo s.ps s.at_ t p k)) (fun i _ => p.length - (intOf i).toNat)
   case atStart => exact ⟨0, vs, by omega, rfl, by rw [opTo_start s.ps s.at_ t p []]; exact HE.out⟩
   case round =>
    obtain ⟨k, vs, hk, rfl, he⟩ := hrel
    have HEK := Lib.hid he
    by_cases hltk : k < p.length
    ·have hltk' : decide (k < p.length) = true := decide_eq_true hltk
     obtain ⟨b3, o3, st, A3, c3, hA3, hb3, hst, m0, m1, m2, m3, hpts⟩ := RPath.at_ HRP.out hltk
     subst hA3
     have hb3w : b3 < w.heap.size := World.block_lt_of_cell? w ⟨b3, o3 + k * 4, none⟩ m0
     replace m0 := he.k.cellK (p := ⟨b3, o3 + k * 4, none⟩) hb3w m0
     replace m1 := he.k.cellK (p := ⟨b3, o3 + k * 4 + 1, none⟩) hb3w m1
     replace m2 := he.k.cellK (p := ⟨b3, o3 + k * 4 + 2, none⟩) hb3w m2
     replace m3 := he.k.cellK (p := ⟨b3, o3 + k * 4 + 3, none⟩) hb3w m3
     have hok := valid_stage HS.out.v (List.mem_of_getElem? HPL.out) (List.mem_of_getElem? hst)
     obtain ⟨n, hn, hn144⟩ := isRes_nat (stageOk_sec hok)
     rw [hn] at m0
     have HN := Lib.hid hn
     clear hn
     have hr := H.out.keep he.k
     have c5 := hr.c5
     rw [HFV.out] at c5
     have f0r := he.k.cellK (p := ⟨bf, t, none⟩) hbf f0
     have hev : (evs s.ps)[fst s.ps t + k]? = some ⟨(t : Int), (k : Int)⟩ := evs_at HPL.out (by omega)
     have hfn : fst s.ps t + k < s.n := getElem?_lt hev
     have HST := Lib.hid hst
     have HPT := Lib.hid hpts
     have HOK := Lib.hid hok
     have hpt2 : st.pts.length ≤ 2 := by
      have := hok
      simp only [stageOk, Bool.and_eq_true, decide_eq_true_eq] at this
      exact this.1.1.2
     have hgr := hr.b.lt
     have hsz := he.sz
     have hbfr : bf < wr.heap.size := by omega
     have hb3r : b3 < wr.heap.size := by omega
     have hw1 : IntKind.i64.wrap ((fst s.ps t : Int) + (k : Int)) = ((fst s.ps t + k : Nat) : Int) := by rw [IntWalk.i64_in _ (by omega)]; rfl
     clear he hst hpts hok hr hev
     go_wp2_with fail
     rw [← Int.natCast_add]
     generalize hWb : World.alloc _ _ = Wb
     have KB : KeepsAll wr Wb := by subst hWb; exact ((Keeps.refl _ _).alloc _).alloc _
     have hub : UsB s.ps w Wb vs (opTo s.ps s.at_ t p k) wr.heap.size (wr.heap.size + 1) #[.int .i64 (n : Int), .slice A3 st.pts.length c3, .int .i64 st.mn, .int .i64 st.nt] #[.int .i64 (t : Int), .int .i64 (k : Int), .int .i64 ((fst s.ps t + k : Nat) : Int), .int .i64 (((fst s.ps t + k : Nat) : Int) + 1)] := by
      refine ⟨HEK.out.keep KB, ?_, ?_, fun i v hv e => ?_, by omega⟩
      ·subst hWb; exact (Blk.new wr _ _).alloc _
      ·subst hWb; exact Blk.new' _ _ _ (by simp)
      ·have hi := getElem?_lt hv
       have hl := usOf_at s.ps (opTo s.ps s.at_ t p k) (n := i) (by have := HEK.out.rows.len; rw [usOf_len] at this; omega)
       have := (HEK.out.rows.own i v _ hv hl).lt e
       omega
     have hHH1 : ∀ W, KeepsAll w W → Calls Try.prog 67 #[.pointer (some ⟨s.gb, 0, none⟩), .int .i64 (((fst s.ps t + k : Nat) : Int) + 1)] W fun e w' => e = .returned (.bool (doneR s.at_ ⟨(t : Int), (k : Int) + 1⟩)) ∧ ∃ n, w' = W.drewN n := fun W hW => dhappened_any s w0 W d (H.out.keep hW) (fst s.ps t + k + 1) t (k + 1) p HPL.out hltk (by omega) HS.out.g.1
     have hHH2 : ∀ W, KeepsAll w W → Calls Try.prog 67 #[.pointer (some ⟨s.gb, 0, none⟩), .int .i64 ((fst s.ps t + k : Nat) : Int)] W fun e w' => e = .returned (.bool (doneR s.at_ ⟨(t : Int), (k : Int)⟩)) ∧ ∃ n, w' = W.drewN n := fun W hW => dhappened_any s w0 W d (H.out.keep hW) (fst s.ps t + k) t k p HPL.out (by omega) (by omega) HS.out.g.1
     have HH1 := Lib.hid hHH1
     have HH2 := Lib.hid hHH2
     have HUS := Lib.hid (useOf_sec HPL.out HST.out)
     rw [HN.out] at HUS
     have HUP : Hid (∀ x, x ≠ st.sec → useOf s.ps x ⟨(t : Int), (k : Int)⟩ = ⟨⟨(t : Int), (k : Int)⟩, ((fst s.ps t + k : Nat) : Int), ((fst s.ps t + k : Nat) : Int)⟩) := Lib.hid fun x hx => useOf_pt HPL.out HST.out hx
     have HUB := Lib.hid hub
     have hzz : w.heap.size < wr.heap.size := by omega
     clear hub hHH1 hHH2 hWb KB m0 m1 m2 m3 c5 f0r hbfr hb3r hgr
     generalize wr.heap.size = zs at *
     generalize fst s.ps t + k = e at *
     refine (HH1.out Wb HUB.out.s.k).mono ?_
     rintro r w1 ⟨rfl, q, rfl⟩
     have HUB1 := Lib.hid (HUB.out.keep ((Keeps.refl _ _).drewN q))
     clear HUB
     generalize Wb.drewN q = W1 at *
     have hlen0 := opTo_le (at_ := s.at_) HS.out.v HPL.out (k := k) (by omega)
     by_cases hd : doneR s.at_ ⟨(t : Int), (k : Int) + 1⟩ = true
     ·have hP0 := opPt_zero (at_ := s.at_) HPL.out HST.out
      rw [if_pos hd, List.append_nil] at hP0
      have HUB2 : Hid (UsB s.ps w W1 vs (opPt s.ps s.at_ t p k st 0) zs (zs + 1) #[.int .i64 (n : Int), .slice A3 st.pts.length c3, .int .i64 st.mn, .int .i64 st.nt] #[.int .i64 (t : Int), .int .i64 (k : Int), .int .i64 (e : Int), .int .i64 ((e : Int) + 1)]) := by
       show UsB _ _ _ _ _ _ _ _ _
       rw [hP0]; exact HUB1.out
      rw [hd]
      clear HUB1 hd hP0
      have u2 := HUB2.out.bu.cell 2
      have u3 := HUB2.out.bu.cell 3
      have uf := HUB2.out.bu.frozen 3
      have uz := HUB2.out.bu.lt
      simp at u2 u3
      have s1 := HUB2.out.bs.cell 1
      simp at s1
      go_wp2
      generalize hWd : World.setCell _ _ _ = Wd
      obtain ⟨vs3, HUB3⟩ : ∃ vs3, Hid (UsB s.ps w Wd vs3 (opPt s.ps s.at_ t p k st 0) zs (zs + 1) #[.int .i64 (n : Int), .slice A3 st.pts.length c3, .int .i64 st.mn, .int .i64 st.nt] #[.int .i64 (t : Int), .int .i64 (k : Int), .int .i64 (e : Int), .int .i64 (e : Int)]) := by
       rw [← hWd]
       exact ⟨_, Lib.hid (HUB2.out.setU 3 (.int .i64 (e : Int)))⟩
      clear hWd HUB2 u2 u3 uf uz s1
      go_loopw [70] (fun i wr' => ∃ (m : Nat) (vs : List Value), m ≤ st.pts.length ∧ i = .int .i64 (m : Int) ∧ UsB s.ps w wr' vs (opPt s.ps s.at_ t p k st m) zs (zs + 1) #[.int .i64 (n : Int), .slice A3 st.pts.length c3, .int .i64 st.mn, .int .i64 st.nt] #[.int .i64 (t : Int), .int .i64 (k : Int), .int .i64 (e : Int), .int .i64 (e : Int)]) (fun i _ => st.pts.length - (intOf i).toNat)
      case atStart => exact ⟨0, _, by omega, rfl, HUB3.out⟩
      case round =>
       obtain ⟨m, vs, hm, rfl, hub⟩ := hrel
       have HUM := Lib.hid hub
       by_cases hltm : m < st.pts.length
       ·have hltm' : decide (m < st.pts.length) = true := decide_eq_true hltm
        obtain ⟨b4, o4, x, hA4, hb4, hx, x0⟩ := HPT.out.at_ hltm
        subst hA4
        have hb4w : b4 < w.heap.size := World.block_lt_of_cell? w ⟨b4, o4 + m, none⟩ x0
        replace x0 := hub.s.k.cellK (p := ⟨b4, o4 + m, none⟩) hb4w x0
        have hxm := List.mem_of_getElem? hx
        obtain ⟨n2, hn2, hn2144⟩ := isRes_nat (stageOk_pts HOK.out x hxm)
        have hxs : x ≠ st.sec := fun e => by
         have h1 := stageOk_nodup HOK.out
         unfold stUses at h1
         exact (List.nodup_cons.1 h1).1 (e ▸ hxm)
        have hP := opPt_succ (at_ := s.at_) HPL.out HST.out hx hxs
        have HUX := Lib.hid (HUP.out x hxs)
        subst hn2
        have hlenm := opPt_le (at_ := s.at_) (m := m) HS.out.v HPL.out HST.out
        have HPS := Lib.hid hP
        have v3 := hub.bu.cell 3
        simp at v3
        clear hx hxm hxs hP hub
        go_wp2_with fail
        refine (HH2.out _ HUM.out.s.k).mono ?_
        rintro r w3 ⟨rfl, q, rfl⟩
        have HU1 := Lib.hid (HUM.out.keep ((Keeps.refl _ _).drewN q))
        clear HUM x0 v3
        generalize hW3 : World.drewN _ q = W3 at *
        clear hW3
        by_cases hd : doneR s.at_ ⟨(t : Int), (k : Int)⟩ = true
        ·have hP := HPS.out
         rw [if_pos hd, List.append_nil] at hP
         have HP := Lib.hid hP
         rw [hd]
         clear hd hP HPS
         go_wp2
         go_roundw
         case rel => exact ⟨m + 1, vs, by omega, by go_num, by rw [HP.out]; exact HU1.out⟩
         case measure => simp [intOf]; omega
        ·have hd' : doneR s.at_ ⟨(t : Int), (k : Int)⟩ = false := by simpa using hd
         have hP := HPS.out
         rw [if_neg hd] at hP
         have HP := Lib.hid hP
         obtain ⟨Ar, cr, hvr, hown, hcell, hfrz⟩ := HU1.out.s.row hn2144
         have hl9 := lsAt_len (opPt s.ps s.at_ t p k st m) (n2 : Int)
         have HVR := Lib.hid hvr
         have HOWN := Lib.hid hown
         generalize hll : (lsAt (opPt s.ps s.at_ t p k st m) (n2 : Int)).length = ln at *
         have HLL := Lib.hid hll
         have FAR : Hid (∀ b, b < w.heap.size + 1 → ¬ ((Value.slice Ar ln cr).ownBlock = some b)) := fun b hb e => by have := HOWN.out.lt e; omega
         have hNz : ¬ ((Value.slice Ar ln cr).ownBlock = some (zs + 1)) := fun e => HU1.out.ow n2 _ HVR.out e
         have u0 := HU1.out.bu.cell 0
         have u1 := HU1.out.bu.cell 1
         have u2 := HU1.out.bu.cell 2
         have u3 := HU1.out.bu.cell 3
         simp at u0 u1 u2 u3
         have hBr : w.heap.size < W3.heap.size := by have := HU1.out.s.sz; omega
         have hblk := Lib.hid HU1.out.s.rows.blk
         rw [hd']
         clear hd hd' hP HPS hvr hown hll
         go_wp2
         refine wp_region_lex (fun w' => ∃ x : ExtC (fun b => (Value.slice Ar ln cr).ownBlock = some b) W3, w' = x.val) [0, 1, 2, 3, 4, 5, 6, 7, 8, 9, 10] (by kernel_rfl) (by kernel_rfl) (ExtC.start _ _) ?_
         have x0 := ExtC.cell (C := fun b => (Value.slice Ar ln cr).ownBlock = some b) u0 hNz
         have x1 := ExtC.cell (C := fun b => (Value.slice Ar ln cr).ownBlock = some b) u1 hNz
         have x2 := ExtC.cell (C := fun b => (Value.slice Ar ln cr).ownBlock = some b) u2 hNz
         have x3 := ExtC.cell (C := fun b => (Value.slice Ar ln cr).ownBlock = some b) u3 hNz
         have xr := ExtC.cell (C := fun b => (Value.slice Ar ln cr).ownBlock = some b) hcell (FAR.out _ (Nat.lt_succ_self _))
         iterate 7 (refine lex_q _ rfl rfl rfl ?_; go_big_quiet_step (fail); refine wpQuiet_nil ?_)
         refine lex_a _ rfl rfl true (by kernel_rfl) ?_
         go_wp2
         refine ⟨fun _ => ⟨⟨_, ((Keeps.refl _ _).alloc _).drew⟩, rfl⟩, ?_⟩
         generalize hWb : World.drew (World.alloc W3 _) = Wb
         have KB : KeepsAll W3 Wb := by subst hWb; exact ((Keeps.refl _ _).alloc _).drew
         have HBX : Hid (Blk Wb W3.heap.size 133 [.int .i64 (t : Int), .int .i64 (k : Int), .int .i64 (e : Int), .int .i64 (e : Int)].toArray) := by subst hWb; exact Blk.new W3 _ _
         have HEB := Lib.hid (HU1.out.keep KB)
         have HOB := Lib.hid (HOWN.out.keeps RUse.ok KB (fun _ _ h => h.elim))
         have hzb := HEB.out.s.sz
         have KB2 := Lib.hid KB
         clear hWb KB
         refine lex_a _ rfl rfl true (by kernel_rfl) ?_
         go_wp2_with (at_builtin; go_loud (refine wpList_append_L tyUse RUse.ok rfl (.tmp 84) (.tmp 86) rfl HOB.out rfl _ [.int .i64 (t : Int), .int .i64 (k : Int), .int .i64 (e : Int), .int .i64 (e : Int)] rfl HBX.out rfl (useOf s.ps (n2 : Int) ⟨(t : Int), (k : Int)⟩) (S := fun _ => False) (by rw [HUX.out]; rfl) (fun _ h => h.elim) (by simp [Value.oneCell']) (by rw [List.length_map, HLL.out]; omega) (by rw [List.length_map, HLL.out]; omega) hzb ?_; intro v5 w5 HO5 HK5 HA5; obtain ⟨A5, c5', hv5, hv51, hv52⟩ := HO5.form; rw [List.length_append, List.length_singleton, List.length_map, HLL.out] at hv5; subst hv5))
         have HPU := HEB.out.push hn2144 HVR.out HO5 HK5 HA5
         rw [← HP.out] at HPU
         have HUB2 := Lib.hid HPU
         clear HPU
         have K5 : Keeps (fun b => (Value.slice Ar ln cr).ownBlock = some b) W3 w5 := (KB2.out.mono (fun _ _ h => h.elim)).trans HK5 (fun _ _ h => h)
         have hc5 : w5.cell? ⟨w.heap.size, n2, none⟩ = some (.slice Ar ln cr) := (K5.cell (p := ⟨w.heap.size, n2, none⟩) hBr (FAR.out _ (Nat.lt_succ_self _))).trans hcell
         have hf5 : w5.frozen? ⟨w.heap.size, n2, none⟩ = false := (hblk.out.kept K5 (FAR.out _ (Nat.lt_succ_self _))).frozen n2
         refine ⟨fun _ => ⟨⟨_, K5⟩, rfl⟩, ?_⟩
         clear K5 HO5 HK5 HA5
         refine lex_q _ rfl rfl rfl ?_; go_big_quiet_step (fail); refine wpQuiet_nil ?_
         refine lex_a _ rfl rfl false (by kernel_rfl) ?_
         go_wp2
         (try refine ⟨fun h => (by cases h), ?_⟩)
         simp only [wpLex]
         refine NoPanic.normal ?_
         generalize hWc : World.setCell w5 _ _ = Wc
         rw [hWc] at HUB2
         clear hWc hc5 hf5 x0 x1 x2 x3 xr hv51 hv52 HEB HOB HBX KB2 hzb u0 u1 u2 u3 hcell hfrz HU1
         go_wp2
         go_roundw
         case rel => exact ⟨m + 1, _, by omega, by go_num, HUB2.out⟩
         case measure => simp [intOf]; omega
       ·have hltm' : decide (m < st.pts.length) = false := decide_eq_false hltm
        obtain rfl : m = st.pts.length := by omega
        have hfin := hub.s
        rw [opPt_all HST.out] at hfin
        have HFIN := Lib.hid hfin
        clear hfin hub
        go_wp2
        go_roundw
        case rel => exact ⟨k + 1, vs, by omega, by go_num, HFIN.out⟩
        case measure => simp [intOf]; omega
     ·have hd' : doneR s.at_ ⟨(t : Int), (k : Int) + 1⟩ = false := by simpa using hd
      have hP0 := opPt_zero (at_ := s.at_) HPL.out HST.out
      rw [if_neg hd, HN.out] at hP0
      obtain ⟨Ar, cr, hvr, hown, hcell, hfrz⟩ := HUB1.out.s.row hn144
      have hl9 := lsAt_len (opTo s.ps s.at_ t p k) (n : Int)
      have HVR := Lib.hid hvr
      have HOWN := Lib.hid hown
      have HP0 := Lib.hid hP0
      generalize hll : (lsAt (opTo s.ps s.at_ t p k) (n : Int)).length = ln at *
      have HLL := Lib.hid hll
      have FAR : Hid (∀ b, b < w.heap.size + 1 → ¬ ((Value.slice Ar ln cr).ownBlock = some b)) := fun b hb e => by have := HOWN.out.lt e; omega
      have hNs : ¬ ((Value.slice Ar ln cr).ownBlock = some zs) := fun e => HOWN.out.ne_blk HUB1.out.bs (by decide) e
      have hNz : ¬ ((Value.slice Ar ln cr).ownBlock = some (zs + 1)) := fun e => HUB1.out.ow n _ HVR.out e
      have b0 := HUB1.out.bs.cell 0
      have u0 := HUB1.out.bu.cell 0
      have u1 := HUB1.out.bu.cell 1
      have u2 := HUB1.out.bu.cell 2
      have u3 := HUB1.out.bu.cell 3
      simp at b0 u0 u1 u2 u3
      have hBr : w.heap.size < W1.heap.size := by have := HUB1.out.s.sz; omega
      have hblk := Lib.hid HUB1.out.s.rows.blk
      rw [hd']
      clear hd hd' hP0 hvr hown hll
      go_wp2
      refine wp_region_lex (fun w' => ∃ x : ExtC (fun b => (Value.slice Ar ln cr).ownBlock = some b) W1, w' = x.val) [0, 1, 2, 3, 4, 5, 6, 7, 8, 9, 10, 11, 12] (by kernel_rfl) (by kernel_rfl) (ExtC.start _ _) ?_
      have xb := ExtC.cell (C := fun b => (Value.slice Ar ln cr).ownBlock = some b) b0 hNs
      have x0 := ExtC.cell (C := fun b => (Value.slice Ar ln cr).ownBlock = some b) u0 hNz
      have x1 := ExtC.cell (C := fun b => (Value.slice Ar ln cr).ownBlock = some b) u1 hNz
      have x2 := ExtC.cell (C := fun b => (Value.slice Ar ln cr).ownBlock = some b) u2 hNz
      have x3 := ExtC.cell (C := fun b => (Value.slice Ar ln cr).ownBlock = some b) u3 hNz
      have xr := ExtC.cell (C := fun b => (Value.slice Ar ln cr).ownBlock = some b) hcell (FAR.out _ (Nat.lt_succ_self _))
      iterate 9 (refine lex_q _ rfl rfl rfl ?_; go_big_quiet_step (fail); refine wpQuiet_nil ?_)
      refine lex_a _ rfl rfl true (by kernel_rfl) ?_
      go_wp2
      refine ⟨fun _ => ⟨⟨_, ((Keeps.refl _ _).alloc _).drew⟩, rfl⟩, ?_⟩
      generalize hWb : World.drew (World.alloc W1 _) = Wb
      have KB : KeepsAll W1 Wb := by subst hWb; exact ((Keeps.refl _ _).alloc _).drew
      have HBX : Hid (Blk Wb W1.heap.size 133 [.int .i64 (t : Int), .int .i64 (k : Int), .int .i64 (e : Int), .int .i64 ((e : Int) + 1)].toArray) := by subst hWb; exact Blk.new W1 _ _
      have HEB := Lib.hid (HUB1.out.keep KB)
      have HOB := Lib.hid (HOWN.out.keeps RUse.ok KB (fun _ _ h => h.elim))
      have hzb := HEB.out.s.sz
      have KB2 := Lib.hid KB
      clear hWb KB
      refine lex_a _ rfl rfl true (by kernel_rfl) ?_
      go_wp2_with (at_builtin; go_loud (refine wpList_append_L tyUse RUse.ok rfl (.tmp 59) (.tmp 61) rfl HOB.out rfl _ [.int .i64 (t : Int), .int .i64 (k : Int), .int .i64 (e : Int), .int .i64 ((e : Int) + 1)] rfl HBX.out rfl (useOf s.ps (n : Int) ⟨(t : Int), (k : Int)⟩) (S := fun _ => False) (by rw [HUS.out]; rfl) (fun _ h => h.elim) (by simp [Value.oneCell']) (by rw [List.length_map, HLL.out]; omega) (by rw [List.length_map, HLL.out]; omega) hzb ?_; intro v5 w5 HO5 HK5 HA5; obtain ⟨A5, c5', hv5, hv51, hv52⟩ := HO5.form; rw [List.length_append, List.length_singleton, List.length_map, HLL.out] at hv5; subst hv5))
      have HPU := HEB.out.push hn144 HVR.out HO5 HK5 HA5
      rw [← HP0.out] at HPU
      have HUB2 := Lib.hid HPU
      clear HPU
      have K5 : Keeps (fun b => (Value.slice Ar ln cr).ownBlock = some b) W1 w5 := (KB2.out.mono (fun _ _ h => h.elim)).trans HK5 (fun _ _ h => h)
      have hc5 : w5.cell? ⟨w.heap.size, n, none⟩ = some (.slice Ar ln cr) := (K5.cell (p := ⟨w.heap.size, n, none⟩) hBr (FAR.out _ (Nat.lt_succ_self _))).trans hcell
      have hf5 : w5.frozen? ⟨w.heap.size, n, none⟩ = false := (hblk.out.kept K5 (FAR.out _ (Nat.lt_succ_self _))).frozen n
      refine ⟨fun _ => ⟨⟨_, K5⟩, rfl⟩, ?_⟩
      clear K5 HO5 HK5 HA5
      refine lex_q _ rfl rfl rfl ?_; go_big_quiet_step (fail); refine wpQuiet_nil ?_
      refine lex_a _ rfl rfl false (by kernel_rfl) ?_
      go_wp2
      (try refine ⟨fun h => (by cases h), ?_⟩)
      simp only [wpLex]
      refine NoPanic.normal ?_
      generalize hWc : World.setCell w5 _ _ = Wc
      rw [hWc] at HUB2
      clear hWc hc5 hf5 xb x0 x1 x2 x3 xr hv51 hv52 HEB HOB HBX KB2 hzb b0 u0 u1 u2 u3 hcell hfrz HUB1
      have u2 := HUB2.out.bu.cell 2
      have u3 := HUB2.out.bu.cell 3
      have uf := HUB2.out.bu.frozen 3
      have uz := HUB2.out.bu.lt
      simp at u2 u3
      have s1 := HUB2.out.bs.cell 1
      simp at s1
      go_wp2
      generalize hWd : World.setCell _ _ _ = Wd
      obtain ⟨vs3, HUB3⟩ : ∃ vs3, Hid (UsB s.ps w Wd vs3 (opPt s.ps s.at_ t p k st 0) zs (zs + 1) #[.int .i64 (n : Int), .slice A3 st.pts.length c3, .int .i64 st.mn, .int .i64 st.nt] #[.int .i64 (t : Int), .int .i64 (k : Int), .int .i64 (e : Int), .int .i64 (e : Int)]) := by
       rw [← hWd]
       exact ⟨_, Lib.hid (HUB2.out.setU 3 (.int .i64 (e : Int)))⟩
      clear hWd HUB2 u2 u3 uf uz s1
      go_loopw [70] (fun i wr' => ∃ (m : Nat) (vs : List Value), m ≤ st.pts.length ∧ i = .int .i64 (m : Int) ∧ UsB s.ps w wr' vs (opPt s.ps s.at_ t p k st m) zs (zs + 1) #[.int .i64 (n : Int), .slice A3 st.pts.length c3, .int .i64 st.mn, .int .i64 st.nt] #[.int .i64 (t : Int), .int .i64 (k : Int), .int .i64 (e : Int), .int .i64 (e : Int)]) (fun i _ => st.pts.length - (intOf i).toNat)
      case atStart => exact ⟨0, _, by omega, rfl, HUB3.out⟩
      case round =>
       obtain ⟨m, vs, hm, rfl, hub⟩ := hrel
       have HUM := Lib.hid hub
       by_cases hltm : m < st.pts.length
       ·have hltm' : decide (m < st.pts.length) = true := decide_eq_true hltm
        obtain ⟨b4, o4, x, hA4, hb4, hx, x0⟩ := HPT.out.at_ hltm
        subst hA4
        have hb4w : b4 < w.heap.size := World.block_lt_of_cell? w ⟨b4, o4 + m, none⟩ x0
        replace x0 := hub.s.k.cellK (p := ⟨b4, o4 + m, none⟩) hb4w x0
        have hxm := List.mem_of_getElem? hx
        obtain ⟨n2, hn2, hn2144⟩ := isRes_nat (stageOk_pts HOK.out x hxm)
        have hxs : x ≠ st.sec := fun e => by
         have h1 := stageOk_nodup HOK.out
         unfold stUses at h1
         exact (List.nodup_cons.1 h1).1 (e ▸ hxm)
        have hP := opPt_succ (at_ := s.at_) HPL.out HST.out hx hxs
        have HUX := Lib.hid (HUP.out x hxs)
        subst hn2
        have hlenm := opPt_le (at_ := s.at_) (m := m) HS.out.v HPL.out HST.out
        have HPS := Lib.hid hP
        have v3 := hub.bu.cell 3
        simp at v3
        clear hx hxm hxs hP hub
        go_wp2_with fail
        refine (HH2.out _ HUM.out.s.k).mono ?_
        rintro r w3 ⟨rfl, q, rfl⟩
        have HU1 := Lib.hid (HUM.out.keep ((Keeps.refl _ _).drewN q))
        clear HUM x0 v3
        generalize hW3 : World.drewN _ q = W3 at *
        clear hW3
        by_cases hd : doneR s.at_ ⟨(t : Int), (k : Int)⟩ = true
        ·have hP := HPS.out
         rw [if_pos hd, List.append_nil] at hP
         have HP := Lib.hid hP
         rw [hd]
         clear hd hP HPS
         go_wp2
         go_roundw
         case rel => exact ⟨m + 1, vs, by omega, by go_num, by rw [HP.out]; exact HU1.out⟩
         case measure => simp [intOf]; omega
        ·have hd' : doneR s.at_ ⟨(t : Int), (k : Int)⟩ = false := by simpa using hd
         have hP := HPS.out
         rw [if_neg hd] at hP
         have HP := Lib.hid hP
         obtain ⟨Ar, cr, hvr, hown, hcell, hfrz⟩ := HU1.out.s.row hn2144
         have hl9 := lsAt_len (opPt s.ps s.at_ t p k st m) (n2 : Int)
         have HVR := Lib.hid hvr
         have HOWN := Lib.hid hown
         generalize hll : (lsAt (opPt s.ps s.at_ t p k st m) (n2 : Int)).length = ln at *
         have HLL := Lib.hid hll
         have FAR : Hid (∀ b, b < w.heap.size + 1 → ¬ ((Value.slice Ar ln cr).ownBlock = some b)) := fun b hb e => by have := HOWN.out.lt e; omega
         have hNz : ¬ ((Value.slice Ar ln cr).ownBlock = some (zs + 1)) := fun e => HU1.out.ow n2 _ HVR.out e
         have u0 := HU1.out.bu.cell 0
         have u1 := HU1.out.bu.cell 1
         have u2 := HU1.out.bu.cell 2
         have u3 := HU1.out.bu.cell 3
         simp at u0 u1 u2 u3
         have hBr : w.heap.size < W3.heap.size := by have := HU1.out.s.sz; omega
         have hblk := Lib.hid HU1.out.s.rows.blk
         rw [hd']
         clear hd hd' hP HPS hvr hown hll
         go_wp2
         refine wp_region_lex (fun w' => ∃ x : ExtC (fun b => (Value.slice Ar ln cr).ownBlock = some b) W3, w' = x.val) [0, 1, 2, 3, 4, 5, 6, 7, 8, 9, 10] (by kernel_rfl) (by kernel_rfl) (ExtC.start _ _) ?_
         have x0 := ExtC.cell (C := fun b => (Value.slice Ar ln cr).ownBlock = some b) u0 hNz
         have x1 := ExtC.cell (C := fun b => (Value.slice Ar ln cr).ownBlock = some b) u1 hNz
         have x2 := ExtC.cell (C := fun b => (Value.slice Ar ln cr).ownBlock = some b) u2 hNz
         have x3 := ExtC.cell (C := fun b => (Value.slice Ar ln cr).ownBlock = some b) u3 hNz
         have xr := ExtC.cell (C := fun b => (Value.slice Ar ln cr).ownBlock = some b) hcell (FAR.out _ (Nat.lt_succ_self _))
         iterate 7 (refine lex_q _ rfl rfl rfl ?_; go_big_quiet_step (fail); refine wpQuiet_nil ?_)
         refine lex_a _ rfl rfl true (by kernel_rfl) ?_
         go_wp2
         refine ⟨fun _ => ⟨⟨_, ((Keeps.refl _ _).alloc _).drew⟩, rfl⟩, ?_⟩
         generalize hWb : World.drew (World.alloc W3 _) = Wb
         have KB : KeepsAll W3 Wb := by subst hWb; exact ((Keeps.refl _ _).alloc _).drew
         have HBX : Hid (Blk Wb W3.heap.size 133 [.int .i64 (t : Int), .int .i64 (k : Int), .int .i64 (e : Int), .int .i64 (e : Int)].toArray) := by subst hWb; exact Blk.new W3 _ _
         have HEB := Lib.hid (HU1.out.keep KB)
         have HOB := Lib.hid (HOWN.out.keeps RUse.ok KB (fun _ _ h => h.elim))
         have hzb := HEB.out.s.sz
         have KB2 := Lib.hid KB
         clear hWb KB
         refine lex_a _ rfl rfl true (by kernel_rfl) ?_
         go_wp2_with (at_builtin; go_loud (refine wpList_append_L tyUse RUse.ok rfl (.tmp 84) (.tmp 86) rfl HOB.out rfl _ [.int .i64 (t : Int), .int .i64 (k : Int), .int .i64 (e : Int), .int .i64 (e : Int)] rfl HBX.out rfl (useOf s.ps (n2 : Int) ⟨(t : Int), (k : Int)⟩) (S := fun _ => False) (by rw [HUX.out]; rfl) (fun _ h => h.elim) (by simp [Value.oneCell']) (by rw [List.length_map, HLL.out]; omega) (by rw [List.length_map, HLL.out]; omega) hzb ?_; intro v5 w5 HO5 HK5 HA5; obtain ⟨A5, c5', hv5, hv51, hv52⟩ := HO5.form; rw [List.length_append, List.length_singleton, List.length_map, HLL.out] at hv5; subst hv5))
         have HPU := HEB.out.push hn2144 HVR.out HO5 HK5 HA5
         rw [← HP.out] at HPU
         have HUB2 := Lib.hid HPU
         clear HPU
         have K5 : Keeps (fun b => (Value.slice Ar ln cr).ownBlock = some b) W3 w5 := (KB2.out.mono (fun _ _ h => h.elim)).trans HK5 (fun _ _ h => h)
         have hc5 : w5.cell? ⟨w.heap.size, n2, none⟩ = some (.slice Ar ln cr) := (K5.cell (p := ⟨w.heap.size, n2, none⟩) hBr (FAR.out _ (Nat.lt_succ_self _))).trans hcell
         have hf5 : w5.frozen? ⟨w.heap.size, n2, none⟩ = false := (hblk.out.kept K5 (FAR.out _ (Nat.lt_succ_self _))).frozen n2
         refine ⟨fun _ => ⟨⟨_, K5⟩, rfl⟩, ?_⟩
         clear K5 HO5 HK5 HA5
         refine lex_q _ rfl rfl rfl ?_; go_big_quiet_step (fail); refine wpQuiet_nil ?_
         refine lex_a _ rfl rfl false (by kernel_rfl) ?_
         go_wp2
         (try refine ⟨fun h => (by cases h), ?_⟩)
         simp only [wpLex]
         refine NoPanic.normal ?_
         generalize hWc : World.setCell w5 _ _ = Wc
         rw [hWc] at HUB2
         clear hWc hc5 hf5 x0 x1 x2 x3 xr hv51 hv52 HEB HOB HBX KB2 hzb u0 u1 u2 u3 hcell hfrz HU1
         go_wp2
         go_roundw
         case rel => exact ⟨m + 1, _, by omega, by go_num, HUB2.out⟩
         case measure => simp [intOf]; omega
       ·have hltm' : decide (m < st.pts.length) = false := decide_eq_false hltm
        obtain rfl : m = st.pts.length := by omega
        have hfin := hub.s
        rw [opPt_all HST.out] at hfin
        have HFIN := Lib.hid hfin
        clear hfin hub
        go_wp2
        go_roundw
        case rel => exact ⟨k + 1, vs, by omega, by go_num, HFIN.out⟩
        case measure => simp [intOf]; omega
    ·have hltk' : decide (k < p.length) = false := decide_eq_false hltk
     obtain rfl : k = p.length := by omega
     rw [opTo_next HPL.out []] at he
     have HN := Lib.hid he
     clear he
     go_wp2
     go_roundw
     case rel => exact ⟨t + 1, vs, by omega, by go_num, HN.out⟩
     case measure => simp [intOf]; omega
  ·have hlt' : decide (t < s.ps.length) = false := decide_eq_false hlt
   obtain rfl : t = s.ps.length := by omega
   clear he
   go_wp2
   go_ret
   refine ⟨_, rfl, ?_, HE.out.k⟩
   have h1 := HE.out.rows
   rw [usOf_done HS.out.v] at h1
   have h2 := h1.read RUse.ok RUse.flat (S := Fresh w _) (by rw [usesP_len]; omega) ⟨Nat.le_refl _, HE.out.sz⟩ (fun b hb hb2 => ⟨by omega, hb2⟩)
   rw [usesP_len] at h2
   exact h2

end Go.Proofs.Ytilbbpbjhoidhaa
