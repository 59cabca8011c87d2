/- Contracts of the graph's ready and of what it calls. Conditions: as each theorem says. Contract of the graph's ready. Conditions: as the theorem says. -/
import Derived.Test.YtbfgmbakeofcbaaGreatK24
import Derived.Test.YtbfgmbakeofcbaaGreatK17
namespace Go.Proofs.YtbfgmbakeofcbaaGreat
open Go.RowKit

abbrev RBools := RSlice 1 RBool
theorem RBools.ok : Rd.Ok RBools := RSlice.ok RBool.ok
theorem RBools.at_ {w : World} {S : Foot} {A : Option Addr} {n c : Nat} {l : List Bool} (h : RBools w S [.slice A n c] l) {k : Nat} (hk : k < l.length) :
    ∃ b o x, A = some ⟨b, o, none⟩ ∧ S b ∧ l[k]? = some x ∧ w.cell? ⟨b, o + k, none⟩ = some (.bool x) := by
  obtain ⟨b, o, x, es, rfl, hb, hx, h1, h2, h3⟩ := h.get hk
  refine ⟨b, o, x, rfl, hb, hx, ?_⟩
  cases h2
  simpa using h3 0 _ rfl
theorem Blk.bools {w : World} {S : Foot} {b : Nat} {t : TypeId} {l : List Bool} (hb : Blk w b t (cellsB' l)) (hS : S b) (hl : l.length ≤ 9223372036854775807) : RBools w S [.slice (some ⟨b, 0, none⟩) l.length l.length] l := by
  refine RSlice.ofBlk hb hS (l.map fun x => [.bool x]) l ?_ ?_ hl
  · clear hb hl hS
    unfold cellsB'
    induction l with
    | nil => rfl
    | cons a l ih => simp only [List.map_cons, List.flatten_cons, List.singleton_append] at ih ⊢; rw [← ih]
  · clear hb hl hS
    induction l with
    | nil => trivial
    | cons a l ih => exact ⟨⟨rfl, rfl⟩, ih⟩
def notDone (dl : List Bool) (a : GArc) : Bool := !((dl[a.frm.toNat]?).getD false)
theorem ready1_any (dl : List Bool) (a : GArc) (cb : Nat) (A : Option Addr) (c : Nat) (w : World) (hb : w.cell? ⟨cb, 0, none⟩ = some (.slice A dl.length c)) (h : RBools w (Old w) [.slice A dl.length c] dl) (i : Nat) (hi : a.frm = (i : Int)) (hil : i < dl.length) :
    Calls Tryz.prog 115 #[.agg #[.int .i64 a.frm, .int .i64 a.wt], .pointer (some ⟨cb, 0, none⟩)] w fun e w' => e = .returned (.bool (notDone dl a)) ∧ KeepsAll w w' := by
  obtain ⟨frm, wt⟩ := a
  simp only [] at hi; subst hi
  have hc := h.caps
  obtain ⟨b, o, x, rfl, hb', hx, h1⟩ := h.at_ hil
  have HQ : Hid (notDone dl ⟨(i : Int), wt⟩ = !x) := by show notDone dl _ = _; simp [notDone, hx]
  have hbw : b < w.heap.size := hb'
  have hcb : cb < w.heap.size := World.block_lt_of_cell? w ⟨cb, 0, none⟩ hb
  clear h hx
  cases x
  all_goals
    go_enter Tryz.func115, Tryz.ntmps115
    go_wp2
    go_ret
    exact ⟨by rw [HQ.out]; rfl, (Keeps.refl _ _).alloc _⟩

/-- the first element that answers yes, or -1 -/
def idxF {α : Type} (pr : α → Bool) (l : List α) : Int := match l.findIdx? pr with | some i => (i : Int) | none => -1
theorem idxF_stop {α : Type} {pr : α → Bool} {l : List α} {k : Nat} {x : α} (hx : l[k]? = some x) (h1 : pr x = true) (hn : ∀ y ∈ l.take k, pr y = false) : idxF pr l = k := by
  have hk := getElem?_lt hx
  have : l.findIdx? pr = some k := by
    rw [List.findIdx?_eq_some_iff_getElem]
    refine ⟨hk, ?_, fun j hj => ?_⟩
    · rw [List.getElem?_eq_getElem hk] at hx; injection hx with hx; rw [hx]; exact h1
    · have : l[j] ∈ l.take k := List.mem_take_iff_getElem.2 ⟨j, by omega, rfl⟩
      simp [hn _ this]
  simp [idxF, this]
theorem idxF_none {α : Type} {pr : α → Bool} {l : List α} (hn : ∀ y ∈ l, pr y = false) : idxF pr l = -1 := by
  have : l.findIdx? pr = none := by rw [List.findIdx?_eq_none_iff]; exact hn
  simp [idxF, this]
theorem idxF_ge {α : Type} (pr : α → Bool) (l : List α) : decide (idxF pr l ≥ 0) = l.any pr := by
  cases h : l.any pr with
  | true =>
    obtain ⟨x, hx, hp⟩ := List.any_eq_true.1 h
    unfold idxF
    cases e : l.findIdx? pr with
    | none => rw [List.findIdx?_eq_none_iff] at e; simp [e x hx] at hp
    | some i => simp
  | false =>
    rw [idxF_none (fun y hy => by simpa using (List.any_eq_false.1 h) y hy)]; rfl
/-- a call of F enters F -/
def Enters (F : Nat) : Prop := ∀ (args : Array Value) (w : World), (callFunc F args).run Tryz.prog w = .ok (.enter F args) w
theorem enters_ready1 : Enters 115 := fun _ _ => by kernel_rfl
/-- a closure that tests an arc -/
def TestsArc (F cb : Nat) (w : World) (l : List GArc) (pr : GArc → Bool) : Prop := ∀ a ∈ l, ∀ W, KeepsAll w W → Calls Tryz.prog F #[.agg #[.int .i64 a.frm, .int .i64 a.wt], .pointer (some ⟨cb, 0, none⟩)] W fun e w' => e = .returned (.bool (pr a)) ∧ KeepsAll W w'

set_option maxRecDepth 100000 in
set_option maxHeartbeats 1000000 in
theorem IndexFunc_any (F cb : Nat) (l : List GArc) (pr : GArc → Bool) (A : Option Addr) (c : Nat) (w : World) (h : RArcs w (Old w) [.slice A l.length c] l) (hE : Enters F) (hF : TestsArc F cb w l pr) :
    Calls Tryz.prog 117 #[.slice A l.length c, .func (.func F) #[] #[.pointer (some ⟨cb, 0, none⟩)]] w fun e w' => e = .returned (.int .i64 (idxF pr l)) ∧ KeepsAll w w' := by
  have hc := h.caps
  have H := Lib.hid h; clear h
  have HF := Lib.hid hF; clear hF
  have hcf : ∀ (args : Array Value) (w : World), (callFunc F args).run Tryz.prog w = .ok (.enter F args) w := hE
  clear hE
  go_enter Tryz.func117, Tryz.ntmps117
  go_wp2
  go_loopw [8] (fun i wr => ∃ k : Nat, k ≤ l.length ∧ i = .int .i64 k ∧ (∀ y ∈ l.take k, pr y = false) ∧ KeepsAll w wr) (fun i _ => l.length - (intOf i).toNat)
  case atStart => exact ⟨0, Nat.zero_le _, rfl, by simp, Keeps.refl _ _⟩
  case round =>
    obtain ⟨k, hk, rfl, hno, hkr⟩ := hrel
    have HNO := Lib.hid hno; clear hno
    have KR := Lib.hid hkr; clear hkr
    by_cases hlt : k < l.length
    · obtain ⟨b, o, a, rfl, hb, ha, m0, m1⟩ := RArcs.atK KR.out H.out hlt
      have HC := Lib.hid (HF.out a (List.mem_of_getElem? ha) wr KR.out)
      have HAA := Lib.hid ha; clear ha
      go_wp2_with fail
      refine HC.out.mono ?_
      rintro e w2 ⟨rfl, hk2⟩
      have K2 := Lib.hid (KR.out.tr hk2); clear hk2
      by_cases g : pr a = true
      · have Q := Lib.hid (idxF_stop HAA.out g HNO.out)
        rw [g]; clear g
        go_wp2
        go_ret
        exact ⟨by rw [Q.out]; rfl, K2.out⟩
      · have g' : pr a = false := by simpa using g
        have Q : Hid (∀ y ∈ l.take (k + 1), pr y = false) := fun y hy => by
          rw [List.take_add_one, HAA.out] at hy; simp at hy
          rcases hy with hy | rfl
          · exact HNO.out y hy
          · exact g'
        rw [g']; clear g g'
        go_wp2
        go_roundw
        case rel => exact ⟨k + 1, by omega, by go_num, Q.out, K2.out⟩
        case measure => simp [intOf]; omega
    · obtain rfl : k = l.length := by omega
      have Q : Hid (idxF pr l = -1) := by
        have := HNO.out; rw [List.take_length] at this
        exact idxF_none this
      go_wp2
      go_ret
      exact ⟨by rw [Q.out]; rfl, KR.out⟩
theorem ContainsFunc_any (F cb : Nat) (l : List GArc) (pr : GArc → Bool) (A : Option Addr) (c : Nat) (w : World) (h : RArcs w (Old w) [.slice A l.length c] l) (hE : Enters F) (hF : TestsArc F cb w l pr) :
    Calls Tryz.prog 114 #[.slice A l.length c, .func (.func F) #[] #[.pointer (some ⟨cb, 0, none⟩)]] w fun e w' => e = .returned (.bool (l.any pr)) ∧ KeepsAll w w' := by
  have Q := Lib.hid (idxF_ge pr l)
  have I := Lib.hid (IndexFunc_any F cb l pr A c w h hE hF)
  clear h hF hE
  go_enter Tryz.func114, Tryz.ntmps114
  go_wp2_with fail
  refine I.out.mono ?_
  rintro e w' ⟨rfl, hk⟩
  go_wp2
  go_ret
  exact ⟨by rw [← Q.out]; rfl, hk⟩

def nextL (ps : List (List Stage)) (now : List Int) : List Int := (List.range ps.length).map fun t => (fst ps t : Int) + nowAt now t + 1
def doneL (ps : List (List Stage)) (now : List Int) : List Bool := (evs ps).map (doneR now)
theorem nextL_len (ps : List (List Stage)) (now : List Int) : (nextL ps now).length = ps.length := by simp [nextL]
theorem doneL_len (ps : List (List Stage)) (now : List Int) : (doneL ps now).length = (evs ps).length := by simp [doneL]
theorem nextL_at {ps : List (List Stage)} {now : List Int} {t : Nat} (h : t < ps.length) : (nextL ps now)[t]? = some ((fst ps t : Int) + nowAt now t + 1) := by simp [nextL, h]
theorem notDone_eq {ps : List (List Stage)} {now : List Int} {a : GArc} {i : Nat} (hi : a.frm = (i : Int)) (hil : i < (evs ps).length) : notDone (doneL ps now) a = !doneR now (evAt ps a.frm.toNat) := by
  unfold notDone doneL evAt
  rw [hi, Int.toNat_natCast, List.getElem?_map, List.getElem?_eq_getElem hil]; rfl
def InRange (n : Nat) (adds : List (Nat × GArc)) : Prop := ∀ q ∈ adds, ∃ i : Nat, q.2.frm = (i : Int) ∧ i < n
def goI (o : Option Nat) : Int := match o with | some t => (t : Int) | none => -1
theorem readyP_stop {ps : List (List Stage)} {arcs : List (List GArc)} {now : List Int} {t : Nat} (ht : t < ps.length) (hn : ∀ u, u < t → canGo ps arcs now u = false) (hc : canGo ps arcs now t = true) : readyP ps arcs now = some t := by
  unfold readyP
  rw [List.find?_eq_some_iff_append]
  refine ⟨hc, List.range t, (List.range (ps.length - (t + 1))).map (· + (t + 1)), ?_, fun a ha => by simp [hn a (List.mem_range.1 ha)]⟩
  have e : ps.length = t + (1 + (ps.length - (t + 1))) := by omega
  conv => lhs; rw [e, List.range_add]
  congr 1
  rw [List.range_add, List.map_append, List.map_map]
  have : List.range 1 = [0] := rfl
  rw [this]
  simp only [List.map_cons, List.map_nil, Nat.add_zero, List.singleton_append, List.cons.injEq, true_and]
  apply List.map_congr_left
  intro a _
  simp only [Function.comp]
  omega
theorem readyP_none {ps : List (List Stage)} {arcs : List (List GArc)} {now : List Int} (hn : ∀ u, u < ps.length → canGo ps arcs now u = false) : readyP ps arcs now = none := by
  unfold readyP
  rw [List.find?_eq_none]
  intro u hu
  simp [hn u (List.mem_range.1 hu)]

set_option maxRecDepth 100000 in
set_option maxHeartbeats 1000000 in
theorem ready_any (w : World) (g : Nat) (ps : List (List Stage)) (at_ : List Int) (adds : List (Nat × GArc)) (now : List Int) (An Ad : Option Addr) (cn cd : Nat) (hv : valid ps = true) (hg : GrR w g ps at_ adds) (hgd : Gd ps now) (hir : InRange (evs ps).length adds)
    (hx : RInts w (Old w) [.slice An ps.length cn] (nextL ps now)) (hd : RBools w (Old w) [.slice Ad (evs ps).length cd] (doneL ps now)) :
    Calls Tryz.prog 102 #[.pointer (some ⟨g, 0, none⟩), .slice An ps.length cn, .slice Ad (evs ps).length cd] w fun e w' => e = .returned (.int .i64 (goI (readyP ps (arcsOf (evs ps).length adds) now))) ∧ KeepsAll w w' := by
  have hcn := hx.caps
  rw [nextL_len] at hcn
  have hl10 := (valid_lens hv).1
  have HLN : Hid (∀ p ∈ ps, p.length ≤ 64) := fun p hp => ((valid_lens hv).2 p hp).2
  have hevl : (evs ps).length ≤ 650 := by
    have := fst_le HLN.out ps.length (Nat.le_refl _)
    rw [fst_len] at this; omega
  obtain ⟨v0, v1, v2, v3, v4, hb, ha⟩ := hg
  obtain ⟨A0, c0, rfl, hc0, hc02⟩ := hb.rp.val
  obtain ⟨A2, c2, rfl, hc2, hc22⟩ := hb.rf.val
  obtain ⟨A4, c4, rfl, hc4, hc42⟩ := ha.val
  rw [firsts_len] at hc2 hb
  rw [arcsOf_len] at hc4 ha hb
  have HB := Lib.hid hb; clear hb
  have HA := Lib.hid ha; clear ha
  have HX := Lib.hid hx; clear hx
  have HD := Lib.hid hd; clear hd
  have HGD := Lib.hid hgd; clear hgd
  have HIR := Lib.hid hir; clear hir
  have hmf : ∀ (fn : Fn) (first cap : Array Value) (w : World), (Instr.makeFunc fn first cap).run Tryz.prog w = .ok (.func fn first cap) w := fun _ _ _ _ => rfl
  go_enter Tryz.func102, Tryz.ntmps102
  go_wp2
  generalize hW : World.alloc w _ = W
  have BX : Hid (Blk W w.heap.size 126 #[.slice Ad (evs ps).length cd]) := by subst hW; exact Blk.new _ _ _
  have KW : Hid (KeepsAll w W) := by subst hW; exact (Keeps.refl _ _).alloc _
  clear hW
  go_loopw [11] (fun i wr => ∃ t : Nat, t ≤ ps.length ∧ i = .int .i64 t ∧ KeepsAll W wr ∧ ∀ u, u < t → canGo ps (arcsOf (evs ps).length adds) now u = false) (fun i _ => ps.length - (intOf i).toNat)
  case atStart => exact ⟨0, Nat.zero_le _, rfl, Keeps.refl _ _, fun u hu => by omega⟩
  case round =>
    obtain ⟨t, ht, rfl, hkr, hno⟩ := hrel
    have KR := Lib.hid (KW.out.tr hkr)
    have KWR := Lib.hid hkr
    have HNO := Lib.hid hno
    clear hkr hno
    by_cases hlt : t < ps.length
    · have hGt := HGD.out.2 t hlt
      have hp : ps[t]? = some ps[t] := List.getElem?_eq_getElem hlt
      have hpl := HLN.out ps[t] (List.getElem_mem _)
      have hft := fst_le HLN.out t ht
      have hfe : fst ps t + lenAt ps t < (evs ps).length := by
        have := fst_lt hp hlt (Nat.le_refl _)
        rw [fst_len] at this; rw [lenAt_of hp]; exact this
      have hlp := lenAt_of hp
      obtain ⟨bn, on, x, hbo, hbn, hx, n0⟩ := RInts.atK KR.out HX.out (k := t) (by rw [nextL_len]; exact hlt)
      subst hbo
      rw [nextL_at hlt] at hx; injection hx with hx; subst hx
      obtain ⟨en, hen⟩ := Int.eq_ofNat_of_zero_le (by omega : 0 ≤ (fst ps t : Int) + nowAt now t + 1)
      obtain ⟨bf, of, y, hbo, hbf, hy, f0⟩ := RInts.atK KR.out HB.out.rf (k := t) (by rw [firsts_len]; exact hlt)
      subst hbo
      rw [firsts_at hlt] at hy; injection hy with hy; subst hy
      obtain ⟨bp, op, p', A', c', hbo, hbp, hp', p0, hpr⟩ := RSS.atK KR.out HB.out.rp hlt
      subst hbo
      obtain rfl := same_of hp' hp
      rw [← hlp] at p0
      rw [← hlp] at hpl
      have hgb := (HB.out.all KR.out).b
      have e0 := hgb.cell 0
      have e2 := hgb.cell 2
      have e4 := hgb.cell 4
      simp only [List.getElem?_toArray, List.getElem?_cons_succ, List.getElem?_cons_zero] at e0 e2 e4
      have HCG : Hid (canGo ps (arcsOf (evs ps).length adds) now t = (decide (nowAt now t < lenAt ps t) && (arcsAt (arcsOf (evs ps).length adds) en).all fun a => doneR now (evAt ps a.frm.toNat))) := by
        show canGo _ _ _ _ = _
        unfold canGo
        rw [hen, Int.toNat_natCast]
      rw [hen] at n0
      have hs1 : IntKind.i64.wrap ((fst ps t : Int) + (lenAt ps t : Int)) = (fst ps t : Int) + (lenAt ps t : Int) := IntWalk.i64_in _ (by omega)
      have hdt : decide ((t : Int) < (ps.length : Int)) = true := by simp; omega
      clear hp hp' hpr hlp hgb
      by_cases g1 : nowAt now t < lenAt ps t
      · have g1' : decide ((en : Int) > (fst ps t : Int) + (lenAt ps t : Int)) = false := by simp; omega
        have hel : en < (evs ps).length := by omega
        obtain ⟨ba, oa, row, Ar, cr, hbo, hba, hrow, a0, harc⟩ := RSS.atK KR.out HA.out (k := en) (by rw [arcsOf_len]; exact hel)
        subst hbo
        have HROW := Lib.hid hrow
        have HCG2 : Hid (canGo ps (arcsOf (evs ps).length adds) now t = !(row.any (notDone (doneL ps now)))) := by
          show canGo _ _ _ _ = _
          rw [HCG.out, decide_eq_true g1, Bool.true_and]
          have e : arcsAt (arcsOf (evs ps).length adds) en = row := by simp [arcsAt, HROW.out]
          rw [e, List.not_any_eq_all_not]
          rw [Bool.eq_iff_iff, List.all_eq_true, List.all_eq_true]
          constructor
          · intro h a ha
            obtain ⟨i, hi, hil⟩ := HIR.out _ ((mem_arcsOf HROW.out).1 ha)
            simp only [] at hi
            rw [notDone_eq hi hil, h a ha]; rfl
          · intro h a ha
            obtain ⟨i, hi, hil⟩ := HIR.out _ ((mem_arcsOf HROW.out).1 ha)
            simp only [] at hi
            have := h a ha
            rw [notDone_eq hi hil] at this; simpa using this
        have HCF : Hid (∀ wx, KeepsAll wr wx → Calls Tryz.prog 114 #[.slice Ar row.length cr, .func (.func 115) #[] #[.pointer (some ⟨w.heap.size, 0, none⟩)]] wx fun e w' => e = .returned (.bool (row.any (notDone (doneL ps now)))) ∧ KeepsAll wx w') := fun wx hwx => by
          have K2 := KR.out.tr hwx
          refine ContainsFunc_any _ w.heap.size row _ Ar cr wx (K2.rdo' RArcs.ok harc) enters_ready1 (fun a ha W2 hW2 => ?_)
          obtain ⟨i, hi, hil⟩ := HIR.out _ ((mem_arcsOf HROW.out).1 ha)
          have K3 := K2.tr hW2
          have hbx := (BX.out.kept ((KWR.out.tr hwx).tr hW2) (by simp)).cell 0
          have hdd := K3.rdo' RBools.ok HD.out
          rw [← doneL_len ps now] at hdd hbx
          exact ready1_any (doneL ps now) a w.heap.size Ad cd W2 hbx hdd i hi (by rw [doneL_len]; exact hil)
        clear hrow harc g1 HCG
        go_wp2
        go_quiet (fail)
        clear hs1
        go_wp2_with fail
        refine (HCF.out _ ((Keeps.refl _ _).drewN _)).mono ?_
        rintro e w2 ⟨rfl, hk2⟩
        have K2 := Lib.hid ((KWR.out.drewN _).tr hk2)
        have K2' := Lib.hid ((KR.out.drewN _).tr hk2)
        clear hk2
        by_cases g2 : row.any (notDone (doneL ps now)) = true
        · have Q : Hid (∀ u, u < t + 1 → canGo ps (arcsOf (evs ps).length adds) now u = false) := fun u hu => by
            by_cases e : u = t
            · subst e; rw [HCG2.out, g2]; rfl
            · exact HNO.out u (by omega)
          rw [g2]
          clear g2 HCG2
          go_wp2
          go_roundw
          case rel => exact ⟨t + 1, by omega, by go_num, K2.out, Q.out⟩
          case measure => simp [intOf]; omega
        · have g2' : row.any (notDone (doneL ps now)) = false := by simpa using g2
          have Q := Lib.hid (readyP_stop hlt HNO.out (by rw [HCG2.out, g2']; rfl))
          rw [g2']
          clear g2 g2' HCG2
          go_wp2
          go_ret
          exact ⟨by rw [Q.out]; rfl, K2'.out⟩
      · have g1' : decide ((en : Int) > (fst ps t : Int) + (lenAt ps t : Int)) = true := by simp; omega
        have Q : Hid (∀ u, u < t + 1 → canGo ps (arcsOf (evs ps).length adds) now u = false) := fun u hu => by
          by_cases e : u = t
          · subst e; rw [HCG.out, decide_eq_false g1]; rfl
          · exact HNO.out u (by omega)
        clear g1 HCG
        go_wp2
        go_quiet (fail)
        clear hs1
        go_wp2
        go_roundw
        case rel => exact ⟨t + 1, by omega, by go_num, KWR.out.drewN _, Q.out⟩
        case measure => simp [intOf]; omega
    · obtain rfl : t = ps.length := by omega
      have Q := Lib.hid (readyP_none HNO.out)
      go_wp2
      go_ret
      exact ⟨by rw [Q.out]; rfl, KR.out⟩

end Go.Proofs.YtbfgmbakeofcbaaGreat
