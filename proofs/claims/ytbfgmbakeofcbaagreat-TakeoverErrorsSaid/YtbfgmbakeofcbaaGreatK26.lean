/- Contract of the graph's line. Conditions: as the theorem says. -/
import Derived.Test.YtbfgmbakeofcbaaGreatK25
namespace Go.Proofs.YtbfgmbakeofcbaaGreat
open Go.RowKit

theorem doneL_at {ps : List (List Stage)} {now : List Int} {t k : Nat} {p : List Stage} (hp : ps[t]? = some p) (hk : k ≤ p.length) : (doneL ps now)[fst ps t + k]? = some (decide ((k : Int) ≤ nowAt now t)) := by
  unfold doneL; rw [List.getElem?_map, evs_at hp hk]; rfl
theorem fst_inj {ps : List (List Stage)} {t u k m : Nat} {p q : List Stage} (hp : ps[t]? = some p) (hq : ps[u]? = some q) (hk : k ≤ p.length) (hm : m ≤ q.length) (h : fst ps t + k = fst ps u + m) : t = u ∧ k = m := by
  have h1 := evs_at hp hk
  have h2 := evs_at hq hm
  rw [h, h2] at h1
  injection h1 with h1; injection h1 with h1 h3
  omega
theorem doneL_set {ps : List (List Stage)} {now : List Int} {t en : Nat} (hg : Gd ps now) (ht : t < ps.length) (hl : nowAt now t < lenAt ps t) (hen : (fst ps t : Int) + nowAt now t + 1 = (en : Int)) : doneL ps (now.set t (nowAt now t + 1)) = (doneL ps now).set en true := by
  have hp : ps[t]? = some ps[t] := List.getElem?_eq_getElem ht
  have hlp := lenAt_of hp
  have hG := hg.2 t ht
  obtain ⟨k0, hk0⟩ := Int.eq_ofNat_of_zero_le (by omega : 0 ≤ nowAt now t + 1)
  apply List.ext_getElem?
  intro i
  by_cases hi : i < (evs ps).length
  · obtain ⟨u, m, q, _, hq, hm, rfl⟩ := evs_inv ps.length (Nat.le_refl _) (by rw [fst_len]; exact hi)
    rw [doneL_at hq hm, List.getElem?_set, doneL_len]
    rw [nowAt_set (by rw [hg.1]; exact ht)]
    by_cases e : en = fst ps u + m
    · have := fst_inj hp hq (by omega : k0 ≤ ps[t].length) hm (by omega)
      obtain ⟨rfl, rfl⟩ := this
      rw [if_pos e, if_pos rfl, if_pos (by omega)]
      simp; omega
    · rw [if_neg e, doneL_at hq hm]
      by_cases e2 : t = u
      · subst e2
        rw [if_pos rfl]
        congr 1
        rw [decide_eq_decide]
        omega
      · rw [if_neg e2]
  · have h1 : (doneL ps (now.set t (nowAt now t + 1)))[i]? = none := List.getElem?_eq_none (by rw [doneL_len]; omega)
    have h2 : ((doneL ps now).set en true)[i]? = none := List.getElem?_eq_none (by rw [List.length_set, doneL_len]; omega)
    rw [h1, h2]
theorem nextL_set {ps : List (List Stage)} {now : List Int} {t en : Nat} (hg : Gd ps now) (ht : t < ps.length) (hen : (fst ps t : Int) + nowAt now t + 1 = (en : Int)) : nextL ps (now.set t (nowAt now t + 1)) = (nextL ps now).set t ((en : Int) + 1) := by
  apply List.ext_getElem?
  intro i
  rw [List.getElem?_set, nextL_len]
  by_cases hi : i < ps.length
  · rw [nextL_at hi, nextL_at hi, nowAt_set (by rw [hg.1]; exact ht)]
    by_cases e : t = i
    · subst e; rw [if_pos rfl, if_pos rfl, if_pos ht]; congr 1; omega
    · rw [if_neg e, if_neg e]
  · have h1 : (nextL ps (now.set t (nowAt now t + 1)))[i]? = none := List.getElem?_eq_none (by rw [nextL_len]; omega)
    have h2 : (nextL ps now)[i]? = none := List.getElem?_eq_none (by rw [nextL_len]; omega)
    rw [h1, h2]
    by_cases e : t = i
    · omega
    · rw [if_neg e]
def numI (ps : List (List Stage)) (u : Ref) : Int := (num ps u : Nat)
theorem mkBools (n : Nat) (hn : n ≤ 1000000) (W : World) : (Instr.makeSlice 126 (.int .i64 (n : Int)) (.int .i64 (n : Int))).run Tryz.prog W = .ok (.slice (some ⟨W.heap.size, 0, none⟩) n n) (W.alloc (.cells (cellsB' (List.replicate n false)) 4)) := by
  have h := run_make_row' (P := Tryz.prog) 126 4 (.bool false) 1 Tryz.underlying126 (by kernel_rfl) rfl .i64 .i64 n (by omega) (by omega) W
  rw [madeCells_one] at h
  rw [h]; simp [cellsB']
def slLen : Value → Nat | .slice _ n _ => n | _ => 0
/-- one more of a list that is filled from the left -/
theorem fill_at {α : Type} (l : List α) (z : α) {k : Nat} (hk : k < l.length) : (l.take k ++ List.replicate (l.length - k) z)[k]? = some z := by
  rw [List.getElem?_append_right (by simp; omega), List.length_take, Nat.min_eq_left (by omega), Nat.sub_self, List.getElem?_replicate, if_pos (by omega)]
theorem fill_set {α : Type} (l : List α) (z x : α) {k : Nat} (hx : l[k]? = some x) : (l.take k ++ List.replicate (l.length - k) z).set k x = l.take (k + 1) ++ List.replicate (l.length - (k + 1)) z := by
  have hk := getElem?_lt hx
  have hl : (l.take k).length = k := by rw [List.length_take]; omega
  rw [List.set_append_right _ _ (by omega), hl, Nat.sub_self, show l.length - k = (l.length - (k + 1)) + 1 from by omega, List.replicate_succ, List.set_cons_zero, List.take_add_one, hx, Option.toList_some, List.append_assoc]; rfl
theorem fill_done {α : Type} (l : List α) (z : α) : l.take l.length ++ List.replicate (l.length - l.length) z = l := by simp

/-- the state of the search: done in block D, next in block N -/
structure LInv (w wr : World) (D N : Nat) (dl : List Bool) (nl : List Int) : Prop where
  d : Blk wr D 4 (cellsB' dl)
  n : Blk wr N 3 (cellsI nl)
  ne : D ≠ N
  hd : w.heap.size ≤ D
  hn : w.heap.size ≤ N
  k : KeepsAll w wr
section
variable {w wr w' : World} {D N : Nat} {dl : List Bool} {nl : List Int}
theorem LInv.keep {C : Foot} (h : LInv w wr D N dl nl) (k : Keeps C wr w') (h1 : ¬ C D) (h2 : ¬ C N) (hC : ∀ b, b < w.heap.size → ¬ C b) : LInv w w' D N dl nl :=
  ⟨h.d.kept k h1, h.n.kept k h2, h.ne, h.hd, h.hn, h.k.trans k (fun x hx e => hC x hx e)⟩
theorem LInv.setD (h : LInv w wr D N dl nl) (i : Nat) (x : Bool) : LInv w (wr.setCell ⟨D, i, none⟩ (.bool x)) D N (dl.set i x) nl :=
  ⟨by rw [← cellsB'_set']; exact h.d.set_ i _, h.n.far (fun e => h.ne e.symm) _, h.ne, h.hd, h.hn, h.k.setCell (fun e => by have e : D < w.heap.size := e; have := h.hd; omega) _⟩
theorem LInv.setN (h : LInv w wr D N dl nl) (i : Nat) (x : Int) : LInv w (wr.setCell ⟨N, i, none⟩ (.int .i64 x)) D N dl (nl.set i x) :=
  ⟨h.d.far h.ne _, by rw [← cellsI_set]; exact h.n.set_ i _, h.ne, h.hd, h.hn, h.k.setCell (fun e => by have e : N < w.heap.size := e; have := h.hn; omega) _⟩
end

/-- what the search has still to do -/
def LRest (ps : List (List Stage)) (go : List Int → Option Nat) (at_ : List Int) (acc : List Ref) (now : List Int) : Prop :=
  Gd ps now ∧ acc.length + total ps now = total ps at_ ∧ lineFrom go 1000 at_ = (acc ++ (lineFrom go (1000 - acc.length) now).1, (lineFrom go (1000 - acc.length) now).2)
theorem LRest.stop {ps : List (List Stage)} {go : List Int → Option Nat} {at_ : List Int} {acc : List Ref} {now : List Int} (h : LRest ps go at_ acc now) (hl : acc.length ≤ 650) (hn : go now = none) : lineFrom go 1000 at_ = (acc, now) := by
  rw [h.2.2, show 1000 - acc.length = (999 - acc.length) + 1 from by omega]
  simp [lineFrom, hn]
theorem LRest.step {ps : List (List Stage)} {go : List Int → Option Nat} {at_ : List Int} {acc : List Ref} {now : List Int} {t : Nat} (hs : Sound ps go) (h : LRest ps go at_ acc now) (hl : acc.length ≤ 650) (hn : go now = some t) : LRest ps go at_ (acc ++ [⟨(t : Int), nowAt now t + 1⟩]) (now.set t (nowAt now t + 1)) := by
  obtain ⟨h1, h2⟩ := hs now t hn
  have h3 := total_step h.1 h1 h2
  refine ⟨h.1.step h1 h2, by have := h.2.1; simp; omega, ?_⟩
  rw [h.2.2, show 1000 - acc.length = (999 - acc.length) + 1 from by omega]
  have e : 1000 - (acc ++ [(⟨(t : Int), nowAt now t + 1⟩ : Ref)]).length = 999 - acc.length := by simp; try omega
  rw [e]
  simp [lineFrom, hn]

set_option maxRecDepth 100000 in
set_option maxHeartbeats 4000000 in
theorem line_any (w : World) (g : Nat) (ps : List (List Stage)) (at_ : List Int) (adds : List (Nat × GArc)) (hv : valid ps = true) (hg : GrR w g ps at_ adds) (hgd : Gd ps at_) (hir : InRange (evs ps).length adds) :
    Calls Tryz.prog 77 #[.pointer (some ⟨g, 0, none⟩)] w fun e w' => ∃ vl vd, e = .returned (.tuple #[vl, vd]) ∧ RInts w' (Fresh w w') [vl] ((lineFrom (readyP ps (arcsOf (evs ps).length adds)) 1000 at_).1.map (numI ps)) ∧
      RBools w' (Fresh w w') [vd] (doneL ps (lineFrom (readyP ps (arcsOf (evs ps).length adds)) 1000 at_).2) ∧ KeepsAll w w' := by
  have hl10 := (valid_lens hv).1
  have HLN : Hid (∀ p ∈ ps, p.length ≤ 64) := fun p hp => ((valid_lens hv).2 p hp).2
  have hevl : (evs ps).length ≤ 650 := by
    have := fst_le HLN.out ps.length (Nat.le_refl _)
    rw [fst_len] at this; omega
  have HG := Lib.hid hg
  obtain ⟨v0, v1, v2, v3, v4, hb, ha⟩ := hg
  obtain ⟨A0, c0, rfl, hc0, hc02⟩ := hb.rp.val
  obtain ⟨A1, c1, rfl, hc1, hc12⟩ := hb.ra.val
  obtain ⟨A2, c2, rfl, hc2, hc22⟩ := hb.rf.val
  obtain ⟨A3, c3, rfl, hc3, hc32⟩ := hb.re.val
  rw [firsts_len] at hc2 hb
  have e0 := hb.b.cell 0
  have e3 := hb.b.cell 3
  simp only [List.getElem?_toArray, List.getElem?_cons_succ, List.getElem?_cons_zero] at e0 e3
  have HB := Lib.hid hb; clear hb ha
  have HGD := Lib.hid hgd
  have HIR := Lib.hid hir; clear hir
  have HV := Lib.hid hv
  have hal : at_.length = ps.length := hgd.1
  have hal1 : at_.length ≤ ps.length := by omega
  have hal2 : ps.length ≤ at_.length := by omega
  have hgz := HB.out.b.lt
  clear hgd hal
  have hmkb := mkBools (evs ps).length (by omega)
  go_enter Tryz.func77, Tryz.ntmps77
  go_wp2
  generalize hW : World.alloc w _ = W
  have HD0 : Hid (Blk W w.heap.size 4 (cellsB' ((doneL ps at_).take 0 ++ List.replicate ((doneL ps at_).length - 0) false)) ∧ KeepsAll w W) := by
    subst hW
    exact ⟨by rw [doneL_len]; simpa using Blk.new _ _ _, (Keeps.refl _ _).alloc _⟩
  clear hW hmkb e0 e3
  go_loopw [16] (fun i wr => ∃ k : Nat, k ≤ (doneL ps at_).length ∧ i = .int .i64 k ∧ Blk wr w.heap.size 4 (cellsB' ((doneL ps at_).take k ++ List.replicate ((doneL ps at_).length - k) false)) ∧ KeepsAll w wr) (fun i _ => (evs ps).length - (intOf i).toNat)
  case atStart => exact ⟨0, Nat.zero_le _, rfl, HD0.out.1, HD0.out.2⟩
  case round =>
    obtain ⟨k, hk, rfl, hbd, hkr⟩ := hrel
    clear HD0
    rw [doneL_len] at hk
    have KR := Lib.hid hkr; clear hkr
    by_cases hlt : k < (evs ps).length
    · obtain ⟨t, m, p, _, hp, hm, hkm⟩ := evs_inv ps.length (Nat.le_refl _) (by rw [fst_len]; exact hlt : k < fst ps ps.length)
      have htl := getElem?_lt hp
      have hx : at_[t]? = some (at_[t]'(by omega)) := List.getElem?_eq_getElem (by omega)
      have hev : (evs ps)[k]? = some ⟨(t : Int), (m : Int)⟩ := by rw [hkm]; exact evs_at hp hm
      have HDA : Hid ((doneL ps at_)[k]? = some (decide ((m : Int) ≤ (at_[t]'(by omega))))) := by
        show _ = _
        rw [hkm, doneL_at hp hm, nowAt_of hx]
      have HH := Lib.hid (happened_any wr g ps at_ _ _ _ _ _ (HB.out.all KR.out) k t m _ hev hx)
      generalize (decide ((m : Int) ≤ (at_[t]'(by omega)))) = x at HDA HH
      have q0 := hbd.cell k
      have q1 := hbd.frozen k
      have qz := hbd.lt
      rw [cellsB'_at (fill_at (doneL ps at_) false (by rw [doneL_len]; exact hlt))] at q0
      have HN : Hid (∀ n, Blk ((wr.drewN n).setCell ⟨w.heap.size, k, none⟩ (.bool x)) w.heap.size 4 (cellsB' ((doneL ps at_).take (k + 1) ++ List.replicate ((doneL ps at_).length - (k + 1)) false)) ∧ KeepsAll w ((wr.drewN n).setCell ⟨w.heap.size, k, none⟩ (.bool x))) := fun n => by
        refine ⟨?_, (KR.out.drewN n).setCell (fun h => absurd h (by simp)) _⟩
        have h1 : Blk (wr.drewN n) w.heap.size 4 _ := hbd
        have := h1.set_ k (.bool x)
        rw [cellsB'_set', fill_set _ _ _ HDA.out] at this
        exact this
      clear hbd hp hx hev hkm
      cases x
      all_goals
        go_wp2_with (go_at_call 101; refine HH.out.mono ?_; rintro e w7 ⟨rfl, n7, rfl⟩)
        go_roundw
        case rel => exact ⟨k + 1, by rw [doneL_len]; omega, by go_num, (HN.out _).1, (HN.out _).2⟩
        case measure => simp [intOf]; omega
    · have hkk : k = (doneL ps at_).length := by rw [doneL_len]; omega
      rw [hkk, fill_done] at hbd
      clear hkk
      have hmk := mkInts ps.length (by omega)
      have e0 := (HB.out.all KR.out).b.cell 0
      simp only [List.getElem?_toArray, List.getElem?_cons_zero] at e0
      have HBD := Lib.hid hbd; clear hbd
      have hdz := HBD.out.lt
      go_wp2
      generalize hW2 : World.alloc wr _ = W2
      have HI : Hid (LInv w W2 w.heap.size wr.heap.size (doneL ps at_) ((nextL ps at_).take 0 ++ List.replicate ((nextL ps at_).length - 0) 0)) := by
        subst hW2
        exact ⟨HBD.out.alloc _, by rw [nextL_len]; simpa using Blk.new _ _ _, by omega, by omega, by omega, KR.out.alloc _⟩
      have hNz : wr.heap.size < W2.heap.size := HI.out.n.lt
      clear hW2 hmk e0 HBD KR
      generalize wr.heap.size = N at *
      go_loopw [34] (fun i wr => ∃ t : Nat, t ≤ ps.length ∧ i = .int .i64 t ∧ LInv w wr w.heap.size N (doneL ps at_) ((nextL ps at_).take t ++ List.replicate ((nextL ps at_).length - t) 0)) (fun i _ => ps.length - (intOf i).toNat)
      case atStart => exact ⟨0, Nat.zero_le _, rfl, HI.out⟩
      case round =>
        obtain ⟨t, ht, rfl, hi⟩ := hrel
        clear HI
        by_cases hlt2 : t < ps.length
        · have hGt := HGD.out.2 t hlt2
          have hll := lenAt_le HV.out t
          have hft := fst_le HLN.out t ht
          obtain ⟨bf, of, y, hbo, hbf, hy, f0⟩ := RInts.atK hi.k HB.out.rf (k := t) (by rw [firsts_len]; exact hlt2)
          subst hbo
          rw [firsts_at hlt2] at hy; injection hy with hy; subst hy
          obtain ⟨ba, oa, x, hbo, hba, hx, a0⟩ := RInts.atK hi.k HB.out.ra (k := t) (by omega)
          subst hbo
          have hgb := (HB.out.all hi.k).b
          have e1 := hgb.cell 1
          have e2 := hgb.cell 2
          simp only [List.getElem?_toArray, List.getElem?_cons_succ, List.getElem?_cons_zero] at e1 e2
          have q0 := hi.n.cell t
          have q1 := hi.n.frozen t
          rw [cellsI_at (fill_at (nextL ps at_) 0 (by rw [nextL_len]; exact hlt2))] at q0
          have hnx := nextL_at (ps := ps) (now := at_) hlt2
          rw [nowAt_of hx] at hGt hnx
          have HN : Hid (LInv w ((wr.drew).setCell ⟨N, t, none⟩ (.int .i64 ((fst ps t : Int) + x + 1))) w.heap.size N (doneL ps at_) ((nextL ps at_).take (t + 1) ++ List.replicate ((nextL ps at_).length - (t + 1)) 0)) := by
            have h1 := (hi.keep ((Keeps.refl (fun _ => False) wr).drew) (by simp) (by simp) (by simp)).setN t ((fst ps t : Int) + x + 1)
            rw [fill_set _ _ _ hnx] at h1; exact h1
          have hwn := hi.n.lt
          have hs1 : IntKind.i64.wrap ((fst ps t : Int) + x) = (fst ps t : Int) + x := IntWalk.i64_in _ (by omega)
          have hs2 : IntKind.i64.wrap ((fst ps t : Int) + x + 1) = (fst ps t : Int) + x + 1 := IntWalk.i64_in _ (by omega)
          clear hi hx hgb hnx
          go_wp2
          refine wp_region_lex (fun w' => ∃ x : Ext wr, w' = x.val) [0, 1, 2, 3, 4, 5, 6, 7, 8, 9, 10, 11, 12, 13, 14, 15, 16, 17, 18, 19] (by kernel_rfl) (by kernel_rfl) ⟨⟨_, (Keeps.refl _ _).drew⟩, rfl⟩ ?_
          have x1 := Ext.cell e1
          have x2 := Ext.cell e2
          have x3 := Ext.cell f0
          have x4 := Ext.cell a0
          iterate 3 (refine lex_q _ rfl rfl rfl ?_; go_big_quiet_step (fail); refine wpQuiet_nil ?_)
          refine lex_nil _ rfl _ rfl rfl _ rfl ?_; go_simp
          iterate 6 (refine lex_q _ rfl rfl rfl ?_; go_big_quiet_step (fail); refine wpQuiet_nil ?_)
          refine lex_nil _ rfl _ rfl rfl _ rfl ?_; go_simp
          iterate 8 (refine lex_q _ rfl rfl rfl ?_; go_big_quiet_step (fail); refine wpQuiet_nil ?_)
          refine lex_a _ rfl rfl false (by kernel_rfl) ?_
          go_wp2
          (try refine ⟨fun h => (by cases h), ?_⟩)
          refine (by assumption : ∀ (a : Act) (w : World), Code.wp Tryz.prog (Code.region 12 _ _) _ a w → _) _ _ ?_
          clear hs1 hs2
          go_wp2
          go_roundw
          case rel => exact ⟨t + 1, by omega, by go_num, HN.out⟩
          case measure => simp [intOf]; omega
        · obtain rfl : t = ps.length := by omega
          have e := fill_done (nextL ps at_) (0 : Int)
          rw [nextL_len] at e
          rw [nextL_len, e] at hi
          clear e
          have hwz := hi.n.lt
          have hne := hi.ne
          have hhn := hi.hn
          have HI := Lib.hid hi; clear hi
          have HR0 : Hid (LRest ps (readyP ps (arcsOf (evs ps).length adds)) at_ [] at_) := ⟨HGD.out, by simp, by simp⟩
          have htot := total_le HV.out HGD.out
          obtain ⟨wo, hwo⟩ : ∃ wo : World, wo = wr := ⟨_, rfl⟩
          clear hwo
          go_wp2
          go_loopw [2, 3] (fun vl vd wr => ∃ (acc : List Ref) (now : List Int), vd = .slice (some ⟨w.heap.size, 0, none⟩) (evs ps).length (evs ps).length ∧ LInv w wr w.heap.size N (doneL ps now) (nextL ps now) ∧ OwnL 3 1 RInt wr (N + 1) (N + 1) vl (acc.map (numI ps)) ∧ LRest ps (readyP ps (arcsOf (evs ps).length adds)) at_ acc now) (fun vl _ _ => 1000 - slLen vl)
          case atStart => exact ⟨[], at_, rfl, HI.out, OwnL.nil, HR0.out⟩
          case round =>
            obtain ⟨acc, now, rfl, hi, ho, hlr⟩ := hrel
            clear HI HR0 hwz
            have hal := hlr.2.1
            have hacc : acc.length ≤ 650 := by omega
            clear hal
            obtain ⟨Al, cl, rfl, hcl, hcl2⟩ := ho.form
            rw [List.length_map] at hcl ho ⊢
            have HI := Lib.hid hi
            have HO := Lib.hid ho
            have HLR := Lib.hid hlr
            have hwz := hi.n.lt
            have HRN : Hid (RInts wr (Old wr) [.slice (some ⟨N, 0, none⟩) ps.length ps.length] (nextL ps now)) := by
              have := hi.n.ints (S := Old wr) hi.n.lt (by rw [nextL_len]; omega)
              rw [nextL_len] at this; exact this
            have HRD : Hid (RBools wr (Old wr) [.slice (some ⟨w.heap.size, 0, none⟩) (evs ps).length (evs ps).length] (doneL ps now)) := by
              have := hi.d.bools (S := Old wr) hi.d.lt (by rw [doneL_len]; omega)
              rw [doneL_len] at this; exact this
            have HRY := Lib.hid (ready_any wr g ps at_ adds now _ _ _ _ HV.out (HG.out.keep HI.out.k) HLR.out.1 HIR.out HRN.out HRD.out)
            clear hi ho hlr
            go_wp2_with fail
            with_reducible refine HRY.out.mono ?_
            rintro e w2 ⟨rfl, hk2⟩
            have HI2 := Lib.hid (HI.out.keep hk2 (by simp) (by simp) (by simp))
            have HO2 := Lib.hid (HO.out.keeps RInt.ok hk2 (by simp))
            have hwz2 := HI2.out.n.lt
            clear hk2 HI HO HRN HRD
            cases hgo : readyP ps (arcsOf (evs ps).length adds) now with
            | none =>
              have Q := Lib.hid (HLR.out.stop hacc hgo)
              have eg : goI none = -1 := rfl
              rw [eg]
              clear hgo eg
              go_wp2
              go_ret2
              rw [Q.out]
              refine ⟨_, _, rfl, HO2.out.readF RInt.ok RInt.flat (fun b hb => by have := HO2.out.lt hb; exact ⟨by omega, by omega⟩), ?_, HI2.out.k⟩
              have := HI2.out.d.bools (S := Fresh w w2) ⟨Nat.le_refl _, HI2.out.d.lt⟩ (by rw [doneL_len]; omega)
              rw [doneL_len] at this; exact this
            | some t =>
              obtain ⟨htl, hnl⟩ := readyP_sound ps (arcsOf (evs ps).length adds) now t hgo
              have HNX := Lib.hid (HLR.out.step (readyP_sound ps _) hacc hgo)
              have hGt := HLR.out.1.2 t htl
              have hft := fst_le HLN.out t (by omega)
              have hll := lenAt_le HV.out t
              have hfe : fst ps t + lenAt ps t < (evs ps).length := by
                have hp : ps[t]? = some ps[t] := List.getElem?_eq_getElem htl
                have := fst_lt hp htl (Nat.le_refl _)
                rw [fst_len] at this; rw [lenAt_of hp]; exact this
              obtain ⟨en, hen⟩ := Int.eq_ofNat_of_zero_le (by omega : 0 ≤ (fst ps t : Int) + nowAt now t + 1)
              have hel : en < (evs ps).length := by omega
              have HDS := Lib.hid (doneL_set HLR.out.1 htl hnl hen)
              have HNS := Lib.hid (nextL_set HLR.out.1 htl hen)
              have HNUM : Hid ((acc ++ [(⟨(t : Int), nowAt now t + 1⟩ : Ref)]).map (numI ps) = acc.map (numI ps) ++ [(en : Int)]) := by
                show _ = _
                rw [List.map_append]
                have : numI ps ⟨(t : Int), nowAt now t + 1⟩ = (en : Int) := by unfold numI num; simp; omega
                simp [this]
              have HNA : Hid ((nextL ps now)[t]? = some (en : Int)) := by show _ = _; rw [nextL_at htl, hen]
              have HDA : Hid (∃ x, (doneL ps now)[en]? = some x) := ⟨_, List.getElem?_eq_getElem (by rw [doneL_len]; exact hel)⟩
              have n2 := HI2.out.n.cell t
              rw [cellsI_at HNA.out] at n2
              have eg : goI (some t) = (t : Int) := rfl
              rw [eg]
              have hLl : (acc.map (numI ps)).length ≤ 650 := by rw [List.length_map]; exact hacc
              have ecl : acc.length = (acc.map (numI ps)).length := by rw [List.length_map]
              rw [ecl] at HO2 hcl ⊢
              generalize acc.map (numI ps) = LL at *
              have hacc' := ecl
              clear hgo eg hen hnl hGt ecl
              obtain ⟨x, hxd⟩ := HDA.out
              have HXD := Lib.hid hxd
              clear hxd HDA
              go_wp2_with (at_builtin; refine wpList_append_L tyInt RInt.ok rfl (.tmp 65) (.tmp 70) rfl (HO2.out.alloc RInt.ok _) rfl _ [.int .i64 (en : Int)] rfl (Blk.new' _ _ _ (by simp)) rfl (en : Int) (S := fun _ => False) rfl (fun _ h => h.elim) (by simp [Value.oneCell']) (by omega) (by omega) (by simp; omega) ?_; intro v5 w5 HO5 HK5 HA5; obtain ⟨A5, c5, hv5, hv51, hv52⟩ := HO5.form; rw [List.length_append, List.length_singleton] at hv5; subst hv5; have FAR : ∀ b, b ≤ N → ¬ ((Value.slice Al LL.length cl).ownBlock = some b) := (fun b hb e => (by have := HO2.out.lt e; omega)); have HI5 := Lib.hid (((HI2.out.keep ((Keeps.refl (fun _ => False) w2).alloc _) (by simp) (by simp) (by simp))).keep HK5 (FAR _ (by omega)) (FAR _ (by omega)) (fun b hb => FAR b (by omega))); have n5 := HI5.out.n.cell t; have nf5 := HI5.out.n.frozen t; have d5 := HI5.out.d.cell en; have df5 := HI5.out.d.frozen en; rw [cellsI_at HNA.out] at n5; rw [cellsB'_at HXD.out] at d5; have HO5' := Lib.hid HO5; clear HO5 HK5 HA5 FAR)
              generalize hWF : World.setCell (World.setCell w5 _ _) _ _ = WF
              have HF : Hid (LInv w WF w.heap.size N ((doneL ps now).set en true) ((nextL ps now).set t ((en : Int) + 1))) := by subst hWF; exact (HI5.out.setD en true).setN t ((en : Int) + 1)
              have KF : Keeps (fun b => b = w.heap.size ∨ b = N) w5 WF := by
                subst hWF
                exact ((Keeps.refl (fun b => b = w.heap.size ∨ b = N) w5).setCell (p := ⟨w.heap.size, en, none⟩) (fun _ => .inl rfl) _).setCell (p := ⟨N, t, none⟩) (fun _ => .inr rfl) _
              have HOF := Lib.hid (HO5'.out.keepsF RInt.flat KF (fun b hb e => by have := HO5'.out.lt hb; omega))
              clear hWF KF
              go_roundw
              case rel => exact ⟨_, _, rfl, by rw [HDS.out, HNS.out]; exact HF.out, by rw [HNUM.out]; exact HOF.out, HNX.out⟩
              case measure => simp [slLen]; omega

end Go.Proofs.YtbfgmbakeofcbaaGreat
