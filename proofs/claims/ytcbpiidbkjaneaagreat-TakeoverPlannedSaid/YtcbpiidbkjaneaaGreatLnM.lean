/- Contracts of the graph's ready and of what it calls. Conditions: as each theorem says. Contract of the graph's ready. Conditions: as the theorem says. Contract of the graph's line. Conditions: as the theorem says. -/
import Derived.Test.YtcbpiidbkjaneaaGreatGraphD
import Derived.Test.YtcbpiidbkjaneaaGreatLineP
namespace Go.Proofs.YtcbpiidbkjaneaaGreat
open Go.RowKit

abbrev RBools := RSlice 1 RBool
theorem RBools.ok : Rd.Ok RBools := RSlice.ok RBool.ok
theorem RBools.at_ {w : World} {S : Foot} {A : Option Addr} {n c : Nat} {l : List Bool} (h : RBools w S [.slice A n c] l) {k : Nat} (hk : k < l.length) :
    ∃ b o x, A = some ⟨b, o, none⟩ ∧ S b ∧ l[k]? = some x ∧ w.cell? ⟨b, o + k, none⟩ = some (.bool x) := by
  obtain ⟨b, o, x, es, rfl, hb, hx, h1, h2, h3⟩ := h.get hk
  refine ⟨b, o, x, rfl, hb, hx, ?_⟩
  cases h2
  simpa using h3 0 _ rfl
theorem Blk.bools {w : World} {S : Foot} {b : Nat} {t : TypeId} {l : List Bool} (hb : Blk w b t (cellsB' l)) (hS : S b) (hl : l.length ≤ 9223372036854775807) : RBools w S [.slice (some ⟨b, 0, none⟩) l.length l.length] l := by
  refine RSlice.ofBlk hb hS (l.map fun x => [.bool x]) l ?_ ?_ hl
  · clear hb hl hS
    unfold cellsB'
    induction l with
    | nil => rfl
    | cons a l ih => simp only [List.map_cons, List.flatten_cons, List.singleton_append] at ih ⊢; rw [← ih]
  · clear hb hl hS
    induction l with
    | nil => trivial
    | cons a l ih => exact ⟨⟨rfl, rfl⟩, ih⟩
def notDone (dl : List Bool) (a : GArc) : Bool := !((dl[a.frm.toNat]?).getD false)
theorem ready1_any (dl : List Bool) (a : GArc) (cb : Nat) (A : Option Addr) (c : Nat) (w : World) (hb : w.cell? ⟨cb, 0, none⟩ = some (.slice A dl.length c)) (h : RBools w (Old w) [.slice A dl.length c] dl) (i : Nat) (hi : a.frm = (i : Int)) (hil : i < dl.length) :
    Calls Tryz.prog 115 #[.agg #[.int .i64 a.frm, .int .i64 a.wt], .pointer (some ⟨cb, 0, none⟩)] w fun e w' => e = .returned (.bool (notDone dl a)) ∧ KeepsAll w w' := by
  obtain ⟨frm, wt⟩ := a
  simp only [] at hi; subst hi
  have hc := h.caps
  obtain ⟨b, o, x, rfl, hb', hx, h1⟩ := h.at_ hil
  have HQ : Hid (notDone dl ⟨(i : Int), wt⟩ = !x) := by show notDone dl _ = _; simp [notDone, hx]
  have hbw : b < w.heap.size := hb'
  have hcb : cb < w.heap.size := World.block_lt_of_cell? w ⟨cb, 0, none⟩ hb
  clear h hx
  cases x
  all_goals
    go_enter Tryz.func115, Tryz.ntmps115
    go_wp2
    go_ret
    exact ⟨by rw [HQ.out]; rfl, (Keeps.refl _ _).alloc _⟩

/-- the first element that answers yes, or -1 -/
def idxF {α : Type} (pr : α → Bool) (l : List α) : Int := match l.findIdx? pr with | some i => (i : Int) | none => -1
theorem idxF_stop {α : Type} {pr : α → Bool} {l : List α} {k : Nat} {x : α} (hx : l[k]? = some x) (h1 : pr x = true) (hn : ∀ y ∈ l.take k, pr y = false) : idxF pr l = k := by
  have hk := getElem?_lt hx
  have : l.findIdx? pr = some k := by
    rw [List.findIdx?_eq_some_iff_getElem]
    refine ⟨hk, ?_, fun j hj => ?_⟩
    · rw [List.getElem?_eq_getElem hk] at hx; injection hx with hx; rw [hx]; exact h1
    · have : l[j] ∈ l.take k := List.mem_take_iff_getElem.2 ⟨j, by omega, rfl⟩
      simp [hn _ this]
  simp [idxF, this]
theorem idxF_none {α : Type} {pr : α → Bool} {l : List α} (hn : ∀ y ∈ l, pr y = false) : idxF pr l = -1 := by
  have : l.findIdx? pr = none := by rw [List.findIdx?_eq_none_iff]; exact hn
  simp [idxF, this]
theorem idxF_ge {α : Type} (pr : α → Bool) (l : List α) : decide (idxF pr l ≥ 0) = l.any pr := by
  cases h : l.any pr with
  | true =>
    obtain ⟨x, hx, hp⟩ := List.any_eq_true.1 h
    unfold idxF
    cases e : l.findIdx? pr with
    | none => rw [List.findIdx?_eq_none_iff] at e; simp [e x hx] at hp
    | some i => simp
  | false =>
    rw [idxF_none (fun y hy => by simpa using (List.any_eq_false.1 h) y hy)]; rfl
/-- a call of F enters F -/
def Enters (F : Nat) : Prop := ∀ (args : Array Value) (w : World), (callFunc F args).run Tryz.prog w = .ok (.enter F args) w
theorem enters_ready1 : Enters 115 := fun _ _ => by kernel_rfl
/-- a closure that tests an arc -/
def TestsArc (F cb : Nat) (w : World) (l : List GArc) (pr : GArc → Bool) : Prop := ∀ a ∈ l, ∀ W, KeepsAll w W → Calls Tryz.prog F #[.agg #[.int .i64 a.frm, .int .i64 a.wt], .pointer (some ⟨cb, 0, none⟩)] W fun e w' => e = .returned (.bool (pr a)) ∧ KeepsAll W w'

set_option maxRecDepth 100000 in
set_option maxHeartbeats 1000000 in
theorem IndexFunc_any (F cb : Nat) (l : List GArc) (pr : GArc → Bool) (A : Option Addr) (c : Nat) (w : World) (h : RArcs w (Old w) [.slice A l.length c] l) (hE : Enters F) (hF : TestsArc F cb w l pr) :
    Calls Tryz.prog 117 #[.slice A l.length c, .func (.func F) #[] #[.pointer (some ⟨cb, 0, none⟩)]] w fun e w' => e = .returned (.int .i64 (idxF pr l)) ∧ KeepsAll w w' := by
  have hc := h.caps
  have H := Lib.hid h; clear h
  have HF := Lib.hid hF; clear hF
  have hcf : ∀ (args : Array Value) (w : World), (callFunc F args).run Tryz.prog w = .ok (.enter F args) w := hE
  clear hE
  go_enter Tryz.func117, Tryz.ntmps117
  go_wp2
  go_loopw [8] (fun i wr => ∃ k : Nat, k ≤ l.length ∧ i = .int .i64 k ∧ (∀ y ∈ l.take k, pr y = false) ∧ KeepsAll w wr) (fun i _ => l.length - (intOf i).toNat)
  case atStart => exact ⟨0, Nat.zero_le _, rfl, by simp, Keeps.refl _ _⟩
  case round =>
    obtain ⟨k, hk, rfl, hno, hkr⟩ := hrel
    have HNO := Lib.hid hno; clear hno
    have KR := Lib.hid hkr; clear hkr
    by_cases hlt : k < l.length
    · obtain ⟨b, o, a, rfl, hb, ha, m0, m1⟩ := RArcs.atK KR.out H.out hlt
      have HC := Lib.hid (HF.out a (List.mem_of_getElem? ha) wr KR.out)
      have HAA := Lib.hid ha; clear ha
      go_wp2_with fail
      refine HC.out.mono ?_
      rintro e w2 ⟨rfl, hk2⟩
      have K2 := Lib.hid (KR.out.tr hk2); clear hk2
      by_cases g : pr a = true
      · have Q := Lib.hid (idxF_stop HAA.out g HNO.out)
        rw [g]; clear g
        go_wp2
        go_ret
        exact ⟨by rw [Q.out]; rfl, K2.out⟩
      · have g' : pr a = false := by simpa using g
        have Q : Hid (∀ y ∈ l.take (k + 1), pr y = false) := fun y hy => by
          rw [List.take_add_one, HAA.out] at hy; simp at hy
          rcases hy with hy | rfl
          · exact HNO.out y hy
          · exact g'
        rw [g']; clear g g'
        go_wp2
        go_roundw
        case rel => exact ⟨k + 1, by omega, by go_num, Q.out, K2.out⟩
        case measure => simp [intOf]; omega
    · obtain rfl : k = l.length := by omega
      have Q : Hid (idxF pr l = -1) := by
        have := HNO.out; rw [List.take_length] at this
        exact idxF_none this
      go_wp2
      go_ret
      exact ⟨by rw [Q.out]; rfl, KR.out⟩
theorem ContainsFunc_any (F cb : Nat) (l : List GArc) (pr : GArc → Bool) (A : Option Addr) (c : Nat) (w : World) (h : RArcs w (Old w) [.slice A l.length c] l) (hE : Enters F) (hF : TestsArc F cb w l pr) :
    Calls Tryz.prog 114 #[.slice A l.length c, .func (.func F) #[] #[.pointer (some ⟨cb, 0, none⟩)]] w fun e w' => e = .returned (.bool (l.any pr)) ∧ KeepsAll w w' := by
  have Q := Lib.hid (idxF_ge pr l)
  have I := Lib.hid (IndexFunc_any F cb l pr A c w h hE hF)
  clear h hF hE
  go_enter Tryz.func114, Tryz.ntmps114
  go_wp2_with fail
  refine I.out.mono ?_
  rintro e w' ⟨rfl, hk⟩
  go_wp2
  go_ret
  exact ⟨by rw [← Q.out]; rfl, hk⟩





def nextL (ps : List (List Stage)) (now : List Int) : List Int := (List.range ps.length).map fun t => (fst ps t : Int) + nowAt now t + 1
def doneL (ps : List (List Stage)) (now : List Int) : List Bool := (evs ps).map (doneR now)
theorem nextL_len (ps : List (List Stage)) (now : List Int) : (nextL ps now).length = ps.length := by simp [nextL]
theorem doneL_len (ps : List (List Stage)) (now : List Int) : (doneL ps now).length = (evs ps).length := by simp [doneL]
theorem nextL_at {ps : List (List Stage)} {now : List Int} {t : Nat} (h : t < ps.length) : (nextL ps now)[t]? = some ((fst ps t : Int) + nowAt now t + 1) := by simp [nextL, h]
theorem notDone_eq {ps : List (List Stage)} {now : List Int} {a : GArc} {i : Nat} (hi : a.frm = (i : Int)) (hil : i < (evs ps).length) : notDone (doneL ps now) a = !doneR now (evAt ps a.frm.toNat) := by
  unfold notDone doneL evAt
  rw [hi, Int.toNat_natCast, List.getElem?_map, List.getElem?_eq_getElem hil]; rfl
def InRange (n : Nat) (adds : List (Nat × GArc)) : Prop := ∀ q ∈ adds, ∃ i : Nat, q.2.frm = (i : Int) ∧ i < n
def goI (o : Option Nat) : Int := match o with | some t => (t : Int) | none => -1
theorem readyP_stop {ps : List (List Stage)} {arcs : List (List GArc)} {now : List Int} {t : Nat} (ht : t < ps.length) (hn : ∀ u, u < t → canGo ps arcs now u = false) (hc : canGo ps arcs now t = true) : readyP ps arcs now = some t := by
  unfold readyP
  rw [List.find?_eq_some_iff_append]
  refine ⟨hc, List.range t, (List.range (ps.length - (t + 1))).map (· + (t + 1)), ?_, fun a ha => by simp [hn a (List.mem_range.1 ha)]⟩
  have e : ps.length = t + (1 + (ps.length - (t + 1))) := by omega
  conv => lhs; rw [e, List.range_add]
  congr 1
  rw [List.range_add, List.map_append, List.map_map]
  have : List.range 1 = [0] := rfl
  rw [this]
  simp only [List.map_cons, List.map_nil, Nat.add_zero, List.singleton_append, List.cons.injEq, true_and]
  apply List.map_congr_left
  intro a _
  simp only [Function.comp]
  omega
theorem readyP_none {ps : List (List Stage)} {arcs : List (List GArc)} {now : List Int} (hn : ∀ u, u < ps.length → canGo ps arcs now u = false) : readyP ps arcs now = none := by
  unfold readyP
  rw [List.find?_eq_none]
  intro u hu
  simp [hn u (List.mem_range.1 hu)]

set_option maxRecDepth 100000 in
set_option maxHeartbeats 1000000 in
theorem ready_any (w : World) (g : Nat) (ps : List (List Stage)) (at_ : List Int) (adds : List (Nat × GArc)) (now : List Int) (An Ad : Option Addr) (cn cd : Nat) (hv : valid ps = true) (hg : GrR w g ps at_ adds) (hgd : Gd ps now) (hir : InRange (evs ps).length adds)
    (hx : RInts w (Old w) [.slice An ps.length cn] (nextL ps now)) (hd : RBools w (Old w) [.slice Ad (evs ps).length cd] (doneL ps now)) :
    Calls Tryz.prog 102 #[.pointer (some ⟨g, 0, none⟩), .slice An ps.length cn, .slice Ad (evs ps).length cd] w fun e w' => e = .returned (.int .i64 (goI (readyP ps (arcsOf (evs ps).length adds) now))) ∧ KeepsAll w w' := by
  have hcn := hx.caps
  rw [nextL_len] at hcn
  have hl10 := (valid_lens hv).1
  have HLN : Hid (∀ p ∈ ps, p.length ≤ 64) := fun p hp => ((valid_lens hv).2 p hp).2
  have hevl : (evs ps).length ≤ 650 := by
    have := fst_le HLN.out ps.length (Nat.le_refl _)
    rw [fst_len] at this; omega
  obtain ⟨v0, v1, v2, v3, v4, hb, ha⟩ := hg
  obtain ⟨A0, c0, rfl, hc0, hc02⟩ := hb.rp.val
  obtain ⟨A2, c2, rfl, hc2, hc22⟩ := hb.rf.val
  obtain ⟨A4, c4, rfl, hc4, hc42⟩ := ha.val
  rw [firsts_len] at hc2 hb
  rw [arcsOf_len] at hc4 ha hb
  have HB := Lib.hid hb; clear hb
  have HA := Lib.hid ha; clear ha
  have HX := Lib.hid hx; clear hx
  have HD := Lib.hid hd; clear hd
  have HGD := Lib.hid hgd; clear hgd
  have HIR := Lib.hid hir; clear hir
  have hmf : ∀ (fn : Fn) (first cap : Array Value) (w : World), (Instr.makeFunc fn first cap).run Tryz.prog w = .ok (.func fn first cap) w := fun _ _ _ _ => rfl
  go_enter Tryz.func102, Tryz.ntmps102
  go_wp2
  generalize hW : World.alloc w _ = W
  have BX : Hid (Blk W w.heap.size 126 #[.slice Ad (evs ps).length cd]) := by subst hW; exact Blk.new _ _ _
  have KW : Hid (KeepsAll w W) := by subst hW; exact (Keeps.refl _ _).alloc _
  clear hW
  go_loopw [11] (fun i wr => ∃ t : Nat, t ≤ ps.length ∧ i = .int .i64 t ∧ KeepsAll W wr ∧ ∀ u, u < t → canGo ps (arcsOf (evs ps).length adds) now u = false) (fun i _ => ps.length - (intOf i).toNat)
  case atStart => exact ⟨0, Nat.zero_le _, rfl, Keeps.refl _ _, fun u hu => by omega⟩
  case round =>
    obtain ⟨t, ht, rfl, hkr, hno⟩ := hrel
    have KR := Lib.hid (KW.out.tr hkr)
    have KWR := Lib.hid hkr
    have HNO := Lib.hid hno
    clear hkr hno
    by_cases hlt : t < ps.length
    · have hGt := HGD.out.2 t hlt
      have hp : ps[t]? = some ps[t] := List.getElem?_eq_getElem hlt
      have hpl := HLN.out ps[t] (List.getElem_mem _)
      have hft := fst_le HLN.out t ht
      have hfe : fst ps t + lenAt ps t < (evs ps).length := by
        have := fst_lt hp hlt (Nat.le_refl _)
        rw [fst_len] at this; rw [lenAt_of hp]; exact this
      have hlp := lenAt_of hp
      obtain ⟨bn, on, x, hbo, hbn, hx, n0⟩ := RInts.atK KR.out HX.out (k := t) (by rw [nextL_len]; exact hlt)
      subst hbo
      rw [nextL_at hlt] at hx; injection hx with hx; subst hx
      obtain ⟨en, hen⟩ := Int.eq_ofNat_of_zero_le (by omega : 0 ≤ (fst ps t : Int) + nowAt now t + 1)
      obtain ⟨bf, of, y, hbo, hbf, hy, f0⟩ := RInts.atK KR.out HB.out.rf (k := t) (by rw [firsts_len]; exact hlt)
      subst hbo
      rw [firsts_at hlt] at hy; injection hy with hy; subst hy
      obtain ⟨bp, op, p', A', c', hbo, hbp, hp', p0, hpr⟩ := RSS.atK KR.out HB.out.rp hlt
      subst hbo
      obtain rfl := same_of hp' hp
      rw [← hlp] at p0
      rw [← hlp] at hpl
      have hgb := (HB.out.all KR.out).b
      have e0 := hgb.cell 0
      have e2 := hgb.cell 2
      have e4 := hgb.cell 4
      simp only [List.getElem?_toArray, List.getElem?_cons_succ, List.getElem?_cons_zero] at e0 e2 e4
      have HCG : Hid (canGo ps (arcsOf (evs ps).length adds) now t = (decide (nowAt now t < lenAt ps t) && (arcsAt (arcsOf (evs ps).length adds) en).all fun a => doneR now (evAt ps a.frm.toNat))) := by
        show canGo _ _ _ _ = _
        unfold canGo
        rw [hen, Int.toNat_natCast]
      rw [hen] at n0
      have hs1 : IntKind.i64.wrap ((fst ps t : Int) + (lenAt ps t : Int)) = (fst ps t : Int) + (lenAt ps t : Int) := IntWalk.i64_in _ (by omega)
      have hdt : decide ((t : Int) < (ps.length : Int)) = true := by simp; omega
      clear hp hp' hpr hlp hgb
      by_cases g1 : nowAt now t < lenAt ps t
      · have g1' : decide ((en : Int) > (fst ps t : Int) + (lenAt ps t : Int)) = false := by simp; omega
        have hel : en < (evs ps).length := by omega
        obtain ⟨ba, oa, row, Ar, cr, hbo, hba, hrow, a0, harc⟩ := RSS.atK KR.out HA.out (k := en) (by rw [arcsOf_len]; exact hel)
        subst hbo
        have HROW := Lib.hid hrow
        have HCG2 : Hid (canGo ps (arcsOf (evs ps).length adds) now t = !(row.any (notDone (doneL ps now)))) := by
          show canGo _ _ _ _ = _
          rw [HCG.out, decide_eq_true g1, Bool.true_and]
          have e : arcsAt (arcsOf (evs ps).length adds) en = row := by simp [arcsAt, HROW.out]
          rw [e, List.not_any_eq_all_not]
          rw [Bool.eq_iff_iff, List.all_eq_true, List.all_eq_true]
          constructor
          · intro h a ha
            obtain ⟨i, hi, hil⟩ := HIR.out _ ((mem_arcsOf HROW.out).1 ha)
            simp only [] at hi
            rw [notDone_eq hi hil, h a ha]; rfl
          · intro h a ha
            obtain ⟨i, hi, hil⟩ := HIR.out _ ((mem_arcsOf HROW.out).1 ha)
            simp only [] at hi
            have := h a ha
            rw [notDone_eq hi hil] at this; simpa using this
        have HCF : Hid (∀ wx, KeepsAll wr wx → Calls Tryz.prog 114 #[.slice Ar row.length cr, .func (.func 115) #[] #[.pointer (some ⟨w.heap.size, 0, none⟩)]] wx fun e w' => e = .returned (.bool (row.any (notDone (doneL ps now)))) ∧ KeepsAll wx w') := fun wx hwx => by
          have K2 := KR.out.tr hwx
          refine ContainsFunc_any _ w.heap.size row _ Ar cr wx (K2.rdo' RArcs.ok harc) enters_ready1 (fun a ha W2 hW2 => ?_)
          obtain ⟨i, hi, hil⟩ := HIR.out _ ((mem_arcsOf HROW.out).1 ha)
          have K3 := K2.tr hW2
          have hbx := (BX.out.kept ((KWR.out.tr hwx).tr hW2) (by simp)).cell 0
          have hdd := K3.rdo' RBools.ok HD.out
          rw [← doneL_len ps now] at hdd hbx
          exact ready1_any (doneL ps now) a w.heap.size Ad cd W2 hbx hdd i hi (by rw [doneL_len]; exact hil)
        clear hrow harc g1 HCG
        go_wp2
        go_quiet (fail)
        clear hs1
        go_wp2_with fail
        refine (HCF.out _ ((Keeps.refl _ _).drewN _)).mono ?_
        rintro e w2 ⟨rfl, hk2⟩
        have K2 := Lib.hid ((KWR.out.drewN _).tr hk2)
        have K2' := Lib.hid ((KR.out.drewN _).tr hk2)
        clear hk2
        by_cases g2 : row.any (notDone (doneL ps now)) = true
        · have Q : Hid (∀ u, u < t + 1 → canGo ps (arcsOf (evs ps).length adds) now u = false) := fun u hu => by
            by_cases e : u = t
            · subst e; rw [HCG2.out, g2]; rfl
            · exact HNO.out u (by omega)
          rw [g2]
          clear g2 HCG2
          go_wp2
          go_roundw
          case rel => exact ⟨t + 1, by omega, by go_num, K2.out, Q.out⟩
          case measure => simp [intOf]; omega
        · have g2' : row.any (notDone (doneL ps now)) = false := by simpa using g2
          have Q := Lib.hid (readyP_stop hlt HNO.out (by rw [HCG2.out, g2']; rfl))
          rw [g2']
          clear g2 g2' HCG2
          go_wp2
          go_ret
          exact ⟨by rw [Q.out]; rfl, K2'.out⟩
      · have g1' : decide ((en : Int) > (fst ps t : Int) + (lenAt ps t : Int)) = true := by simp; omega
        have Q : Hid (∀ u, u < t + 1 → canGo ps (arcsOf (evs ps).length adds) now u = false) := fun u hu => by
          by_cases e : u = t
          · subst e; rw [HCG.out, decide_eq_false g1]; rfl
          · exact HNO.out u (by omega)
        clear g1 HCG
        go_wp2
        go_quiet (fail)
        clear hs1
        go_wp2
        go_roundw
        case rel => exact ⟨t + 1, by omega, by go_num, KWR.out.drewN _, Q.out⟩
        case measure => simp [intOf]; omega
    · obtain rfl : t = ps.length := by omega
      have Q := Lib.hid (readyP_none HNO.out)
      go_wp2
      go_ret
      exact ⟨by rw [Q.out]; rfl, KR.out⟩





theorem doneL_at {ps : List (List Stage)} {now : List Int} {t k : Nat} {p : List Stage} (hp : ps[t]? = some p) (hk : k ≤ p.length) : (doneL ps now)[fst ps t + k]? = some (decide ((k : Int) ≤ nowAt now t)) := by
  unfold doneL; rw [List.getElem?_map, evs_at hp hk]; rfl
theorem fst_inj {ps : List (List Stage)} {t u k m : Nat} {p q : List Stage} (hp : ps[t]? = some p) (hq : ps[u]? = some q) (hk : k ≤ p.length) (hm : m ≤ q.length) (h : fst ps t + k = fst ps u + m) : t = u ∧ k = m := by
  have h1 := evs_at hp hk
  have h2 := evs_at hq hm
  rw [h, h2] at h1
  injection h1 with h1; injection h1 with h1 h3
  omega
theorem doneL_set {ps : List (List Stage)} {now : List Int} {t en : Nat} (hg : Gd ps now) (ht : t < ps.length) (hl : nowAt now t < lenAt ps t) (hen : (fst ps t : Int) + nowAt now t + 1 = (en : Int)) : doneL ps (now.set t (nowAt now t + 1)) = (doneL ps now).set en true := by
  have hp : ps[t]? = some ps[t] := List.getElem?_eq_getElem ht
  have hlp := lenAt_of hp
  have hG := hg.2 t ht
  obtain ⟨k0, hk0⟩ := Int.eq_ofNat_of_zero_le (by omega : 0 ≤ nowAt now t + 1)
  apply List.ext_getElem?
  intro i
  by_cases hi : i < (evs ps).length
  · obtain ⟨u, m, q, _, hq, hm, rfl⟩ := evs_inv ps.length (Nat.le_refl _) (by rw [fst_len]; exact hi)
    rw [doneL_at hq hm, List.getElem?_set, doneL_len]
    rw [nowAt_set (by rw [hg.1]; exact ht)]
    by_cases e : en = fst ps u + m
    · have := fst_inj hp hq (by omega : k0 ≤ ps[t].length) hm (by omega)
      obtain ⟨rfl, rfl⟩ := this
      rw [if_pos e, if_pos rfl, if_pos (by omega)]
      simp; omega
    · rw [if_neg e, doneL_at hq hm]
      by_cases e2 : t = u
      · subst e2
        rw [if_pos rfl]
        congr 1
        rw [decide_eq_decide]
        omega
      · rw [if_neg e2]
  · have h1 : (doneL ps (now.set t (nowAt now t + 1)))[i]? = none := List.getElem?_eq_none (by rw [doneL_len]; omega)
    have h2 : ((doneL ps now).set en true)[i]? = none := List.getElem?_eq_none (by rw [List.length_set, doneL_len]; omega)
    rw [h1, h2]
theorem nextL_set {ps : List (List Stage)} {now : List Int} {t en : Nat} (hg : Gd ps now) (ht : t < ps.length) (hen : (fst ps t : Int) + nowAt now t + 1 = (en : Int)) : nextL ps (now.set t (nowAt now t + 1)) = (nextL ps now).set t ((en : Int) + 1) := by
  apply List.ext_getElem?
  intro i
  rw [List.getElem?_set, nextL_len]
  by_cases hi : i < ps.length
  · rw [nextL_at hi, nextL_at hi, nowAt_set (by rw [hg.1]; exact ht)]
    by_cases e : t = i
    · subst e; rw [if_pos rfl, if_pos rfl, if_pos ht]; congr 1; omega
    · rw [if_neg e, if_neg e]
  · have h1 : (nextL ps (now.set t (nowAt now t + 1)))[i]? = none := List.getElem?_eq_none (by rw [nextL_len]; omega)
    have h2 : (nextL ps now)[i]? = none := List.getElem?_eq_none (by rw [nextL_len]; omega)
    rw [h1, h2]
    by_cases e : t = i
    · omega
    · rw [if_neg e]
def numI (ps : List (List Stage)) (u : Ref) : Int := (num ps u : Nat)
theorem mkBools (n : Nat) (hn : n ≤ 1000000) (W : World) : (Instr.makeSlice 126 (.int .i64 (n : Int)) (.int .i64 (n : Int))).run Tryz.prog W = .ok (.slice (some ⟨W.heap.size, 0, none⟩) n n) (W.alloc (.cells (cellsB' (List.replicate n false)) 4)) := by
  have h := run_make_row' (P := Tryz.prog) 126 4 (.bool false) 1 Tryz.underlying126 (by kernel_rfl) rfl .i64 .i64 n (by omega) (by omega) W
  rw [madeCells_one] at h
  rw [h]; simp [cellsB']
def slLen : Value → Nat | .slice _ n _ => n | _ => 0
/-- one more of a list that is filled from the left -/
theorem fill_at {α : Type} (l : List α) (z : α) {k : Nat} (hk : k < l.length) : (l.take k ++ List.replicate (l.length - k) z)[k]? = some z := by
  rw [List.getElem?_append_right (by simp; omega), List.length_take, Nat.min_eq_left (by omega), Nat.sub_self, List.getElem?_replicate, if_pos (by omega)]
theorem fill_set {α : Type} (l : List α) (z x : α) {k : Nat} (hx : l[k]? = some x) : (l.take k ++ List.replicate (l.length - k) z).set k x = l.take (k + 1) ++ List.replicate (l.length - (k + 1)) z := by
  have hk := getElem?_lt hx
  have hl : (l.take k).length = k := by rw [List.length_take]; omega
  rw [List.set_append_right _ _ (by omega), hl, Nat.sub_self, show l.length - k = (l.length - (k + 1)) + 1 from by omega, List.replicate_succ, List.set_cons_zero, List.take_add_one, hx, Option.toList_some, List.append_assoc]; rfl
theorem fill_done {α : Type} (l : List α) (z : α) : l.take l.length ++ List.replicate (l.length - l.length) z = l := by simp

/-- the state of the search: done in block D, next in block N -/
structure LInv (w wr : World) (D N : Nat) (dl : List Bool) (nl : List Int) : Prop where
  d : Blk wr D 4 (cellsB' dl)
  n : Blk wr N 3 (cellsI nl)
  ne : D ≠ N
  hd : w.heap.size ≤ D
  hn : w.heap.size ≤ N
  k : KeepsAll w wr
section
variable {w wr w' : World} {D N : Nat} {dl : List Bool} {nl : List Int}
theorem LInv.keep {C : Foot} (h : LInv w wr D N dl nl) (k : Keeps C wr w') (h1 : ¬ C D) (h2 : ¬ C N) (hC : ∀ b, b < w.heap.size → ¬ C b) : LInv w w' D N dl nl :=
  ⟨h.d.kept k h1, h.n.kept k h2, h.ne, h.hd, h.hn, h.k.trans k (fun x hx e => hC x hx e)⟩
theorem LInv.setD (h : LInv w wr D N dl nl) (i : Nat) (x : Bool) : LInv w (wr.setCell ⟨D, i, none⟩ (.bool x)) D N (dl.set i x) nl :=
  ⟨by rw [← cellsB'_set']; exact h.d.set_ i _, h.n.far (fun e => h.ne e.symm) _, h.ne, h.hd, h.hn, h.k.setCell (fun e => by have e : D < w.heap.size := e; have := h.hd; omega) _⟩
theorem LInv.setN (h : LInv w wr D N dl nl) (i : Nat) (x : Int) : LInv w (wr.setCell ⟨N, i, none⟩ (.int .i64 x)) D N dl (nl.set i x) :=
  ⟨h.d.far h.ne _, by rw [← cellsI_set]; exact h.n.set_ i _, h.ne, h.hd, h.hn, h.k.setCell (fun e => by have e : N < w.heap.size := e; have := h.hn; omega) _⟩
end


/-- what the search has still to do -/
def LRest (ps : List (List Stage)) (go : List Int → Option Nat) (at_ : List Int) (acc : List Ref) (now : List Int) : Prop :=
  Gd ps now ∧ acc.length + total ps now = total ps at_ ∧ lineFrom go 1000 at_ = (acc ++ (lineFrom go (1000 - acc.length) now).1, (lineFrom go (1000 - acc.length) now).2)
theorem LRest.stop {ps : List (List Stage)} {go : List Int → Option Nat} {at_ : List Int} {acc : List Ref} {now : List Int} (h : LRest ps go at_ acc now) (hl : acc.length ≤ 650) (hn : go now = none) : lineFrom go 1000 at_ = (acc, now) := by
  rw [h.2.2, show 1000 - acc.length = (999 - acc.length) + 1 from by omega]
  simp [lineFrom, hn]
theorem LRest.step {ps : List (List Stage)} {go : List Int → Option Nat} {at_ : List Int} {acc : List Ref} {now : List Int} {t : Nat} (hs : Sound ps go) (h : LRest ps go at_ acc now) (hl : acc.length ≤ 650) (hn : go now = some t) : LRest ps go at_ (acc ++ [⟨(t : Int), nowAt now t + 1⟩]) (now.set t (nowAt now t + 1)) := by
  obtain ⟨h1, h2⟩ := hs now t hn
  have h3 := total_step h.1 h1 h2
  refine ⟨h.1.step h1 h2, by have := h.2.1; simp; omega, ?_⟩
  rw [h.2.2, show 1000 - acc.length = (999 - acc.length) + 1 from by omega]
  have e : 1000 - (acc ++ [(⟨(t : Int), nowAt now t + 1⟩ : Ref)]).length = 999 - acc.length := by simp; try omega
  rw [e]
  simp [lineFrom, hn]

set_option maxRecDepth 100000 in
set_option maxHeartbeats 4000000 in
theorem line_any (w : World) (g : Nat) (ps : List (List Stage)) (at_ : List Int) (adds : List (Nat × GArc)) (hv : valid ps = true) (hg : GrR w g ps at_ adds) (hgd : Gd ps at_) (hir : InRange (evs ps).length adds) :
    Calls Tryz.prog 77 #[.pointer (some ⟨g, 0, none⟩)] w fun e w' => ∃ vl vd, e = .returned (.tuple #[vl, vd]) ∧ RInts w' (Fresh w w') [vl] ((lineFrom (readyP ps (arcsOf (evs ps).length adds)) 1000 at_).1.map (numI ps)) ∧
      RBools w' (Fresh w w') [vd] (doneL ps (lineFrom (readyP ps (arcsOf (evs ps).length adds)) 1000 at_).2) ∧ KeepsAll w w' := by
  have hl10 := (valid_lens hv).1
  have HLN : Hid (∀ p ∈ ps, p.length ≤ 64) := fun p hp => ((valid_lens hv).2 p hp).2
  have hevl : (evs ps).length ≤ 650 := by
    have := fst_le HLN.out ps.length (Nat.le_refl _)
    rw [fst_len] at this; omega
  have HG := Lib.hid hg
  obtain ⟨v0, v1, v2, v3, v4, hb, ha⟩ := hg
  obtain ⟨A0, c0, rfl, hc0, hc02⟩ := hb.rp.val
  obtain ⟨A1, c1, rfl, hc1, hc12⟩ := hb.ra.val
  obtain ⟨A2, c2, rfl, hc2, hc22⟩ := hb.rf.val
  obtain ⟨A3, c3, rfl, hc3, hc32⟩ := hb.re.val
  rw [firsts_len] at hc2 hb
  have e0 := hb.b.cell 0
  have e3 := hb.b.cell 3
  simp only [List.getElem?_toArray, List.getElem?_cons_succ, List.getElem?_cons_zero] at e0 e3
  have HB := Lib.hid hb; clear hb ha
  have HGD := Lib.hid hgd
  have HIR := Lib.hid hir; clear hir
  have HV := Lib.hid hv
  have hal : at_.length = ps.length := hgd.1
  have hal1 : at_.length ≤ ps.length := by omega
  have hal2 : ps.length ≤ at_.length := by omega
  have hgz := HB.out.b.lt
  clear hgd hal
  have hmkb := mkBools (evs ps).length (by omega)
  go_enter Tryz.func77, Tryz.ntmps77
  go_wp2
  generalize hW : World.alloc w _ = W
  have HD0 : Hid (Blk W w.heap.size 4 (cellsB' ((doneL ps at_).take 0 ++ List.replicate ((doneL ps at_).length - 0) false)) ∧ KeepsAll w W) := by
    subst hW
    exact ⟨by rw [doneL_len]; simpa using Blk.new _ _ _, (Keeps.refl _ _).alloc _⟩
  clear hW hmkb e0 e3
  go_loopw [16] (fun i wr => ∃ k : Nat, k ≤ (doneL ps at_).length ∧ i = .int .i64 k ∧ Blk wr w.heap.size 4 (cellsB' ((doneL ps at_).take k ++ List.replicate ((doneL ps at_).length - k) false)) ∧ KeepsAll w wr) (fun i _ => (evs ps).length - (intOf i).toNat)
  case atStart => exact ⟨0, Nat.zero_le _, rfl, HD0.out.1, HD0.out.2⟩
  case round =>
    obtain ⟨k, hk, rfl, hbd, hkr⟩ := hrel
    clear HD0
    rw [doneL_len] at hk
    have KR := Lib.hid hkr; clear hkr
    by_cases hlt : k < (evs ps).length
    · obtain ⟨t, m, p, _, hp, hm, hkm⟩ := evs_inv ps.length (Nat.le_refl _) (by rw [fst_len]; exact hlt : k < fst ps ps.length)
      have htl := getElem?_lt hp
      have hx : at_[t]? = some (at_[t]'(by omega)) := List.getElem?_eq_getElem (by omega)
      have hev : (evs ps)[k]? = some ⟨(t : Int), (m : Int)⟩ := by rw [hkm]; exact evs_at hp hm
      have HDA : Hid ((doneL ps at_)[k]? = some (decide ((m : Int) ≤ (at_[t]'(by omega))))) := by
        show _ = _
        rw [hkm, doneL_at hp hm, nowAt_of hx]
      have HH := Lib.hid (happened_any wr g ps at_ _ _ _ _ _ (HB.out.all KR.out) k t m _ hev hx)
      generalize (decide ((m : Int) ≤ (at_[t]'(by omega)))) = x at HDA HH
      have q0 := hbd.cell k
      have q1 := hbd.frozen k
      have qz := hbd.lt
      rw [cellsB'_at (fill_at (doneL ps at_) false (by rw [doneL_len]; exact hlt))] at q0
      have HN : Hid (∀ n, Blk ((wr.drewN n).setCell ⟨w.heap.size, k, none⟩ (.bool x)) w.heap.size 4 (cellsB' ((doneL ps at_).take (k + 1) ++ List.replicate ((doneL ps at_).length - (k + 1)) false)) ∧ KeepsAll w ((wr.drewN n).setCell ⟨w.heap.size, k, none⟩ (.bool x))) := fun n => by
        refine ⟨?_, (KR.out.drewN n).setCell (fun h => absurd h (by simp)) _⟩
        have h1 : Blk (wr.drewN n) w.heap.size 4 _ := hbd
        have := h1.set_ k (.bool x)
        rw [cellsB'_set', fill_set _ _ _ HDA.out] at this
        exact this
      clear hbd hp hx hev hkm
      cases x
      all_goals
        go_wp2_with (go_at_call 101; refine HH.out.mono ?_; rintro e w7 ⟨rfl, n7, rfl⟩)
        go_roundw
        case rel => exact ⟨k + 1, by rw [doneL_len]; omega, by go_num, (HN.out _).1, (HN.out _).2⟩
        case measure => simp [intOf]; omega
    · have hkk : k = (doneL ps at_).length := by rw [doneL_len]; omega
      rw [hkk, fill_done] at hbd
      clear hkk
      have hmk := mkInts ps.length (by omega)
      have e0 := (HB.out.all KR.out).b.cell 0
      simp only [List.getElem?_toArray, List.getElem?_cons_zero] at e0
      have HBD := Lib.hid hbd; clear hbd
      have hdz := HBD.out.lt
      go_wp2
      generalize hW2 : World.alloc wr _ = W2
      have HI : Hid (LInv w W2 w.heap.size wr.heap.size (doneL ps at_) ((nextL ps at_).take 0 ++ List.replicate ((nextL ps at_).length - 0) 0)) := by
        subst hW2
        exact ⟨HBD.out.alloc _, by rw [nextL_len]; simpa using Blk.new _ _ _, by omega, by omega, by omega, KR.out.alloc _⟩
      have hNz : wr.heap.size < W2.heap.size := HI.out.n.lt
      clear hW2 hmk e0 HBD KR
      generalize wr.heap.size = N at *
      go_loopw [34] (fun i wr => ∃ t : Nat, t ≤ ps.length ∧ i = .int .i64 t ∧ LInv w wr w.heap.size N (doneL ps at_) ((nextL ps at_).take t ++ List.replicate ((nextL ps at_).length - t) 0)) (fun i _ => ps.length - (intOf i).toNat)
      case atStart => exact ⟨0, Nat.zero_le _, rfl, HI.out⟩
      case round =>
        obtain ⟨t, ht, rfl, hi⟩ := hrel
        clear HI
        by_cases hlt2 : t < ps.length
        · have hGt := HGD.out.2 t hlt2
          have hll := lenAt_le HV.out t
          have hft := fst_le HLN.out t ht
          obtain ⟨bf, of, y, hbo, hbf, hy, f0⟩ := RInts.atK hi.k HB.out.rf (k := t) (by rw [firsts_len]; exact hlt2)
          subst hbo
          rw [firsts_at hlt2] at hy; injection hy with hy; subst hy
          obtain ⟨ba, oa, x, hbo, hba, hx, a0⟩ := RInts.atK hi.k HB.out.ra (k := t) (by omega)
          subst hbo
          have hgb := (HB.out.all hi.k).b
          have e1 := hgb.cell 1
          have e2 := hgb.cell 2
          simp only [List.getElem?_toArray, List.getElem?_cons_succ, List.getElem?_cons_zero] at e1 e2
          have q0 := hi.n.cell t
          have q1 := hi.n.frozen t
          rw [cellsI_at (fill_at (nextL ps at_) 0 (by rw [nextL_len]; exact hlt2))] at q0
          have hnx := nextL_at (ps := ps) (now := at_) hlt2
          rw [nowAt_of hx] at hGt hnx
          have HN : Hid (LInv w ((wr.drew).setCell ⟨N, t, none⟩ (.int .i64 ((fst ps t : Int) + x + 1))) w.heap.size N (doneL ps at_) ((nextL ps at_).take (t + 1) ++ List.replicate ((nextL ps at_).length - (t + 1)) 0)) := by
            have h1 := (hi.keep ((Keeps.refl (fun _ => False) wr).drew) (by simp) (by simp) (by simp)).setN t ((fst ps t : Int) + x + 1)
            rw [fill_set _ _ _ hnx] at h1; exact h1
          have hwn := hi.n.lt
          have hs1 : IntKind.i64.wrap ((fst ps t : Int) + x) = (fst ps t : Int) + x := IntWalk.i64_in _ (by omega)
          have hs2 : IntKind.i64.wrap ((fst ps t : Int) + x + 1) = (fst ps t : Int) + x + 1 := IntWalk.i64_in _ (by omega)
          clear hi hx hgb hnx
          go_wp2
          refine wp_region_lex (fun w' => ∃ x : Ext wr, w' = x.val) [0, 1, 2, 3, 4, 5, 6, 7, 8, 9, 10, 11, 12, 13, 14, 15, 16, 17, 18, 19] (by kernel_rfl) (by kernel_rfl) ⟨⟨_, (Keeps.refl _ _).drew⟩, rfl⟩ ?_
          have x1 := Ext.cell e1
          have x2 := Ext.cell e2
          have x3 := Ext.cell f0
          have x4 := Ext.cell a0
          iterate 3 (refine lex_q _ rfl rfl rfl ?_; go_big_quiet_step (fail); refine wpQuiet_nil ?_)
          refine lex_nil _ rfl _ rfl rfl _ rfl ?_; go_simp
          iterate 6 (refine lex_q _ rfl rfl rfl ?_; go_big_quiet_step (fail); refine wpQuiet_nil ?_)
          refine lex_nil _ rfl _ rfl rfl _ rfl ?_; go_simp
          iterate 8 (refine lex_q _ rfl rfl rfl ?_; go_big_quiet_step (fail); refine wpQuiet_nil ?_)
          refine lex_a _ rfl rfl false (by kernel_rfl) ?_
          go_wp2
          (try refine ⟨fun h => (by cases h), ?_⟩)
          refine (by assumption : ∀ (a : Act) (w : World), Code.wp Tryz.prog (Code.region 12 _ _) _ a w → _) _ _ ?_
          clear hs1 hs2
          go_wp2
          go_roundw
          case rel => exact ⟨t + 1, by omega, by go_num, HN.out⟩
          case measure => simp [intOf]; omega
        · obtain rfl : t = ps.length := by omega
          have e := fill_done (nextL ps at_) (0 : Int)
          rw [nextL_len] at e
          rw [nextL_len, e] at hi
          clear e
          have hwz := hi.n.lt
          have hne := hi.ne
          have hhn := hi.hn
          have HI := Lib.hid hi; clear hi
          have HR0 : Hid (LRest ps (readyP ps (arcsOf (evs ps).length adds)) at_ [] at_) := ⟨HGD.out, by simp, by simp⟩
          have htot := total_le HV.out HGD.out
          obtain ⟨wo, hwo⟩ : ∃ wo : World, wo = wr := ⟨_, rfl⟩
          clear hwo
          go_wp2
          go_loopw [2, 3] (fun vl vd wr => ∃ (acc : List Ref) (now : List Int), vd = .slice (some ⟨w.heap.size, 0, none⟩) (evs ps).length (evs ps).length ∧ LInv w wr w.heap.size N (doneL ps now) (nextL ps now) ∧ OwnL 3 1 RInt wr (N + 1) (N + 1) vl (acc.map (numI ps)) ∧ LRest ps (readyP ps (arcsOf (evs ps).length adds)) at_ acc now) (fun vl _ _ => 1000 - slLen vl)
          case atStart => exact ⟨[], at_, rfl, HI.out, OwnL.nil, HR0.out⟩
          case round =>
            obtain ⟨acc, now, rfl, hi, ho, hlr⟩ := hrel
            clear HI HR0 hwz
            have hal := hlr.2.1
            have hacc : acc.length ≤ 650 := by omega
            clear hal
            obtain ⟨Al, cl, rfl, hcl, hcl2⟩ := ho.form
            rw [List.length_map] at hcl ho ⊢
            have HI := Lib.hid hi
            have HO := Lib.hid ho
            have HLR := Lib.hid hlr
            have hwz := hi.n.lt
            have HRN : Hid (RInts wr (Old wr) [.slice (some ⟨N, 0, none⟩) ps.length ps.length] (nextL ps now)) := by
              have := hi.n.ints (S := Old wr) hi.n.lt (by rw [nextL_len]; omega)
              rw [nextL_len] at this; exact this
            have HRD : Hid (RBools wr (Old wr) [.slice (some ⟨w.heap.size, 0, none⟩) (evs ps).length (evs ps).length] (doneL ps now)) := by
              have := hi.d.bools (S := Old wr) hi.d.lt (by rw [doneL_len]; omega)
              rw [doneL_len] at this; exact this
            have HRY := Lib.hid (ready_any wr g ps at_ adds now _ _ _ _ HV.out (HG.out.keep HI.out.k) HLR.out.1 HIR.out HRN.out HRD.out)
            clear hi ho hlr
            go_wp2_with fail
            with_reducible refine HRY.out.mono ?_
            rintro e w2 ⟨rfl, hk2⟩
            have HI2 := Lib.hid (HI.out.keep hk2 (by simp) (by simp) (by simp))
            have HO2 := Lib.hid (HO.out.keeps RInt.ok hk2 (by simp))
            have hwz2 := HI2.out.n.lt
            clear hk2 HI HO HRN HRD
            cases hgo : readyP ps (arcsOf (evs ps).length adds) now with
            | none =>
              have Q := Lib.hid (HLR.out.stop hacc hgo)
              have eg : goI none = -1 := rfl
              rw [eg]
              clear hgo eg
              go_wp2
              go_ret2
              rw [Q.out]
              refine ⟨_, _, rfl, HO2.out.readF RInt.ok RInt.flat (fun b hb => by have := HO2.out.lt hb; exact ⟨by omega, by omega⟩), ?_, HI2.out.k⟩
              have := HI2.out.d.bools (S := Fresh w w2) ⟨Nat.le_refl _, HI2.out.d.lt⟩ (by rw [doneL_len]; omega)
              rw [doneL_len] at this; exact this
            | some t =>
              obtain ⟨htl, hnl⟩ := readyP_sound ps (arcsOf (evs ps).length adds) now t hgo
              have HNX := Lib.hid (HLR.out.step (readyP_sound ps _) hacc hgo)
              have hGt := HLR.out.1.2 t htl
              have hft := fst_le HLN.out t (by omega)
              have hll := lenAt_le HV.out t
              have hfe : fst ps t + lenAt ps t < (evs ps).length := by
                have hp : ps[t]? = some ps[t] := List.getElem?_eq_getElem htl
                have := fst_lt hp htl (Nat.le_refl _)
                rw [fst_len] at this; rw [lenAt_of hp]; exact this
              obtain ⟨en, hen⟩ := Int.eq_ofNat_of_zero_le (by omega : 0 ≤ (fst ps t : Int) + nowAt now t + 1)
              have hel : en < (evs ps).length := by omega
              have HDS := Lib.hid (doneL_set HLR.out.1 htl hnl hen)
              have HNS := Lib.hid (nextL_set HLR.out.1 htl hen)
              have HNUM : Hid ((acc ++ [(⟨(t : Int), nowAt now t + 1⟩ : Ref)]).map (numI ps) = acc.map (numI ps) ++ [(en : Int)]) := by
                show _ = _
                rw [List.map_append]
                have : numI ps ⟨(t : Int), nowAt now t + 1⟩ = (en : Int) := by unfold numI num; simp; omega
                simp [this]
              have HNA : Hid ((nextL ps now)[t]? = some (en : Int)) := by show _ = _; rw [nextL_at htl, hen]
              have HDA : Hid (∃ x, (doneL ps now)[en]? = some x) := ⟨_, List.getElem?_eq_getElem (by rw [doneL_len]; exact hel)⟩
              have n2 := HI2.out.n.cell t
              rw [cellsI_at HNA.out] at n2
              have eg : goI (some t) = (t : Int) := rfl
              rw [eg]
              have hLl : (acc.map (numI ps)).length ≤ 650 := by rw [List.length_map]; exact hacc
              have ecl : acc.length = (acc.map (numI ps)).length := by rw [List.length_map]
              rw [ecl] at HO2 hcl ⊢
              generalize acc.map (numI ps) = LL at *
              have hacc' := ecl
              clear hgo eg hen hnl hGt ecl
              obtain ⟨x, hxd⟩ := HDA.out
              have HXD := Lib.hid hxd
              clear hxd HDA
              go_wp2_with (at_builtin; refine wpList_append_L tyInt RInt.ok rfl (.tmp 65) (.tmp 70) rfl (HO2.out.alloc RInt.ok _) rfl _ [.int .i64 (en : Int)] rfl (Blk.new' _ _ _ (by simp)) rfl (en : Int) (S := fun _ => False) rfl (fun _ h => h.elim) (by simp [Value.oneCell']) (by omega) (by omega) (by simp; omega) ?_; intro v5 w5 HO5 HK5 HA5; obtain ⟨A5, c5, hv5, hv51, hv52⟩ := HO5.form; rw [List.length_append, List.length_singleton] at hv5; subst hv5; have FAR : ∀ b, b ≤ N → ¬ ((Value.slice Al LL.length cl).ownBlock = some b) := (fun b hb e => (by have := HO2.out.lt e; omega)); have HI5 := Lib.hid (((HI2.out.keep ((Keeps.refl (fun _ => False) w2).alloc _) (by simp) (by simp) (by simp))).keep HK5 (FAR _ (by omega)) (FAR _ (by omega)) (fun b hb => FAR b (by omega))); have n5 := HI5.out.n.cell t; have nf5 := HI5.out.n.frozen t; have d5 := HI5.out.d.cell en; have df5 := HI5.out.d.frozen en; rw [cellsI_at HNA.out] at n5; rw [cellsB'_at HXD.out] at d5; have HO5' := Lib.hid HO5; clear HO5 HK5 HA5 FAR)
              generalize hWF : World.setCell (World.setCell w5 _ _) _ _ = WF
              have HF : Hid (LInv w WF w.heap.size N ((doneL ps now).set en true) ((nextL ps now).set t ((en : Int) + 1))) := by subst hWF; exact (HI5.out.setD en true).setN t ((en : Int) + 1)
              have KF : Keeps (fun b => b = w.heap.size ∨ b = N) w5 WF := by
                subst hWF
                exact ((Keeps.refl (fun b => b = w.heap.size ∨ b = N) w5).setCell (p := ⟨w.heap.size, en, none⟩) (fun _ => .inl rfl) _).setCell (p := ⟨N, t, none⟩) (fun _ => .inr rfl) _
              have HOF := Lib.hid (HO5'.out.keepsF RInt.flat KF (fun b hb e => by have := HO5'.out.lt hb; omega))
              clear hWF KF
              go_roundw
              case rel => exact ⟨_, _, rfl, by rw [HDS.out, HNS.out]; exact HF.out, by rw [HNUM.out]; exact HOF.out, HNX.out⟩
              case measure => simp [slLen]; omega


end Go.Proofs.YtcbpiidbkjaneaaGreat
