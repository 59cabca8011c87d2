/- Contracts of the graph's agrees, refs and complete. Conditions: as each theorem says. Contracts of the graph's refs and complete, and of precedence.Line. Conditions: as each theorem says. -/
import Derived.Test.YtbfgmbakeofcbaaGreatK26
namespace Go.Proofs.YtbfgmbakeofcbaaGreat
open Go.RowKit

/-- every arc comes from an event -/
theorem useAdds_range {ps : List (List Stage)} {r : Int} : ∀ (l : List Ref) (rel : List Int), (∀ u ∈ l, u ∈ allU ps r) → (∀ x ∈ rel, x < 0 ∨ ∃ i : Nat, x = (i : Int) ∧ i < (evs ps).length) → InRange (evs ps).length (useAdds ps r l rel)
  | [], _, _, _ => by intro q hq; simp [useAdds] at hq
  | v :: l, rel, hl, hr => by
    obtain ⟨t, k, p, s, hp, hs, _, rfl⟩ := mem_allU.1 (hl v (by simp))
    have hkl := getElem?_lt hs
    have hfe := fst_lt hp (getElem?_lt hp) (Nat.le_refl _)
    rw [fst_len] at hfe
    intro q hq
    rw [useAdds, List.mem_append] at hq
    rcases hq with hq | hq
    · unfold relArcs at hq
      rw [List.mem_flatMap] at hq
      obtain ⟨⟨x, i⟩, hx, hq⟩ := hq
      simp only at hq
      split at hq
      · rename_i hc
        simp at hq; subst hq
        rcases hr x (List.mem_of_getElem? (List.mem_zipIdx_iff_getElem?.1 hx)) with h | h
        · omega
        · exact h
      · simp at hq
    · refine useAdds_range l _ (fun u hu => hl u (by simp [hu])) (fun x hx => ?_) q hq
      rcases List.mem_or_eq_of_mem_set hx with h | rfl
      · exact hr x h
      · refine .inr ⟨_, rfl, ?_⟩
        unfold num relOf
        split <;> simp <;> omega
theorem gAdds_range {ps : List (List Stage)} {os : List Order} (h : checkO ps os = true) : InRange (evs ps).length (gAdds ps os) := by
  intro q hq
  unfold gAdds at hq
  rw [List.mem_append] at hq
  rcases hq with hq | hq
  · unfold chainAdds at hq
    rw [List.mem_flatMap] at hq
    obtain ⟨⟨p, t⟩, hp, hq⟩ := hq
    have hp := List.mem_zipIdx_iff_getElem?.1 hp
    unfold chainP at hq
    rw [List.mem_map] at hq
    obtain ⟨⟨s, k⟩, hs, rfl⟩ := hq
    have hs := List.mem_zipIdx_iff_getElem?.1 hs
    have hfe := fst_lt hp (getElem?_lt hp) (Nat.le_refl _)
    rw [fst_len] at hfe
    have := getElem?_lt hs
    exact ⟨_, rfl, by omega⟩
  · rw [List.mem_flatMap] at hq
    obtain ⟨o, ho, hq⟩ := hq
    exact useAdds_range o.uses _ ((checkO_facts h).2.2 o ho).1 (by intro x hx; simp at hx; exact .inl (by omega)) q hq

theorem happenedE (w : World) (g : Nat) (ps : List (List Stage)) (at_ : List Int) (v0 v1 v2 v3 v4 : Value) (h : GrB w (Old w) g ps at_ v0 v1 v2 v3 v4) (hgd : Gd ps at_) (i : Nat) (hi : i < (evs ps).length) :
    Calls Tryz.prog 101 #[.pointer (some ⟨g, 0, none⟩), .int .i64 (i : Int)] w fun e w' => e = .returned (.bool (doneR at_ (evAt ps i))) ∧ ∃ n, w' = w.drewN n := by
  obtain ⟨t, m, p, htl, hp, hm, hkm⟩ := evs_inv ps.length (Nat.le_refl _) (by rw [fst_len]; exact hi : i < fst ps ps.length)
  have hev : (evs ps)[i]? = some ⟨(t : Int), (m : Int)⟩ := by rw [hkm]; exact evs_at hp hm
  have hx : at_[t]? = some (at_[t]'(by rw [hgd.1]; exact htl)) := List.getElem?_eq_getElem _
  have e : doneR at_ (evAt ps i) = decide ((m : Int) ≤ at_[t]'(by rw [hgd.1]; exact htl)) := by
    unfold doneR evAt
    rw [hev]
    simp [nowAt_of hx]
  rw [e]
  exact happened_any w g ps at_ v0 v1 v2 v3 v4 h i t m _ hev hx

def agreesB (ps : List (List Stage)) (at_ : List Int) (arcs : List (List GArc)) : Bool := (List.range (evs ps).length).all fun i => (arcsAt arcs i).all fun a => !(doneR at_ (evAt ps i) && !doneR at_ (evAt ps a.frm.toNat))
def rowOk (ps : List (List Stage)) (at_ : List Int) (i : Nat) (a : GArc) : Bool := !(doneR at_ (evAt ps i) && !doneR at_ (evAt ps a.frm.toNat))
theorem agreesB_bad {ps : List (List Stage)} {at_ : List Int} {arcs : List (List GArc)} {i : Nat} {row : List GArc} {a : GArc} (hi : i < (evs ps).length) (hr : arcs[i]? = some row) (ha : a ∈ row) (hb : rowOk ps at_ i a = false) : agreesB ps at_ arcs = false := by
  unfold agreesB
  rw [List.all_eq_false]
  refine ⟨i, List.mem_range.2 hi, ?_⟩
  have e : arcsAt arcs i = row := by simp [arcsAt, hr]
  rw [e, Bool.not_eq_true, List.all_eq_false]
  exact ⟨a, ha, by unfold rowOk at hb; simp [hb]⟩

set_option maxRecDepth 100000 in
set_option maxHeartbeats 1000000 in
theorem agrees_any (w : World) (g : Nat) (ps : List (List Stage)) (at_ : List Int) (adds : List (Nat × GArc)) (hv : valid ps = true) (hg : GrR w g ps at_ adds) (hgd : Gd ps at_) (hir : InRange (evs ps).length adds) :
    Calls Tryz.prog 79 #[.pointer (some ⟨g, 0, none⟩)] w fun e w' => e = .returned (.bool (agreesB ps at_ (arcsOf (evs ps).length adds))) ∧ KeepsAll w w' := by
  have hevl : (evs ps).length ≤ 650 := by
    have h1 := fst_le (fun p hp => ((valid_lens hv).2 p hp).2) ps.length (Nat.le_refl _)
    have h2 := (valid_lens hv).1
    rw [fst_len] at h1; omega
  obtain ⟨v0, v1, v2, v3, v4, hb, ha⟩ := hg
  obtain ⟨A4, c4, rfl, hc4, hc42⟩ := ha.val
  rw [arcsOf_len] at hc4 ha hb
  have e4 := hb.b.cell 4
  simp only [List.getElem?_toArray, List.getElem?_cons_succ, List.getElem?_cons_zero] at e4
  have HB := Lib.hid hb; clear hb
  have HA := Lib.hid ha; clear ha
  have HGD := Lib.hid hgd; clear hgd
  have HIR := Lib.hid hir; clear hir
  go_enter Tryz.func79, Tryz.ntmps79
  go_wp2
  clear e4
  go_loopw [12] (fun v wr => ∃ i : Nat, i ≤ (evs ps).length ∧ v = .int .i64 i ∧ KeepsAll w wr ∧ ∀ j, j < i → ∀ a ∈ arcsAt (arcsOf (evs ps).length adds) j, rowOk ps at_ j a = true) (fun v _ => (evs ps).length - (intOf v).toNat)
  case atStart => exact ⟨0, Nat.zero_le _, rfl, Keeps.refl _ _, fun j hj => by omega⟩
  case round =>
    obtain ⟨i, hi, rfl, hkr, hall⟩ := hrel
    have KR := Lib.hid hkr; clear hkr
    have HALL := Lib.hid hall; clear hall
    by_cases hlt : i < (evs ps).length
    · obtain ⟨ba, oa, row, Ar, cr, hbo, hba, hrow, a0, harc⟩ := RSS.atK KR.out HA.out (k := i) (by rw [arcsOf_len]; exact hlt)
      subst hbo
      have hcr := harc.caps
      have HROW := Lib.hid hrow; clear hrow
      have HARC := Lib.hid harc; clear harc
      have hdi : decide ((i : Int) < ((evs ps).length : Int)) = true := by simp; omega
      have hwr := KR.out
      obtain ⟨wo, rfl⟩ : ∃ wo : World, wo = wr := ⟨_, rfl⟩
      clear hwr
      go_wp2
      go_loopw [19] (fun v wr => ∃ j : Nat, j ≤ row.length ∧ v = .int .i64 j ∧ KeepsAll w wr ∧ ∀ a ∈ row.take j, rowOk ps at_ i a = true) (fun v _ => row.length - (intOf v).toNat)
      case atStart => exact ⟨0, Nat.zero_le _, rfl, KR.out, by simp⟩
      case round =>
        obtain ⟨j, hj, rfl, hkr, hrw⟩ := hrel
        have KR2 := Lib.hid hkr; clear hkr
        have HRW := Lib.hid hrw; clear hrw
        by_cases hlt2 : j < row.length
        · obtain ⟨b, o, a, hbo, hb, haa, m0, m1⟩ := RArcs.atK KR2.out HARC.out hlt2
          subst hbo
          have HAA := Lib.hid haa
          obtain ⟨f, hf, hfl⟩ := HIR.out _ ((mem_arcsOf HROW.out).1 (List.mem_of_getElem? haa))
          simp only [] at hf
          rw [hf] at m0
          have HF := Lib.hid hf
          clear haa hf
          go_wp2_with fail
          generalize hW : World.alloc wr _ = W
          have KW : KeepsAll w W := by subst hW; exact KR2.out.alloc _
          have BX : Blk W wr.heap.size 124 #[.int .i64 (f : Int), .int .i64 a.wt] := by subst hW; exact Blk.new _ _ _
          have q0 := BX.cell 0
          simp at q0
          have hz := BX.lt
          have HH := Lib.hid (fun i hi => happenedE W g ps at_ _ _ _ _ _ (HB.out.all KW) HGD.out i hi)
          have KW' := Lib.hid KW
          have HRO : Hid (rowOk ps at_ i a = !(doneR at_ (evAt ps i) && !doneR at_ (evAt ps f))) := by show rowOk _ _ _ _ = _; unfold rowOk; rw [HF.out, Int.toNat_natCast]
          clear hW m0 m1 BX KW
          refine (HH.out i hlt).mono ?_
          rintro e w2 ⟨rfl, n2, rfl⟩
          cases hd1 : doneR at_ (evAt ps i) with
          | false =>
            have Q : Hid (∀ a ∈ row.take (j + 1), rowOk ps at_ i a = true) := fun y hy => by
              rw [List.take_add_one, HAA.out] at hy; simp at hy
              rcases hy with hy | rfl
              · exact HRW.out y hy
              · rw [HRO.out, hd1]; rfl
            clear hd1 HRO
            go_wp2
            go_roundw
            case rel => exact ⟨j + 1, by omega, by go_num, KW'.out.drewN _, Q.out⟩
            case measure => simp [intOf]; omega
          | true =>
            have HH2 : Hid (Calls Tryz.prog 101 #[.pointer (some ⟨g, 0, none⟩), .int .i64 (f : Int)] (W.drewN n2) fun e w' => e = .returned (.bool (doneR at_ (evAt ps f))) ∧ ∃ n, w' = (W.drewN n2).drewN n) := happenedE (W.drewN n2) g ps at_ _ _ _ _ _ ((HB.out.all KW'.out).all ((Keeps.refl _ _).drewN _)) HGD.out f hfl
            cases hd2 : doneR at_ (evAt ps f) with
            | true =>
              have Q : Hid (∀ a ∈ row.take (j + 1), rowOk ps at_ i a = true) := fun y hy => by
                rw [List.take_add_one, HAA.out] at hy; simp at hy
                rcases hy with hy | rfl
                · exact HRW.out y hy
                · rw [HRO.out, hd1, hd2]; rfl
              rw [hd2] at HH2
              clear hd1 hd2 HRO
              go_wp2_with fail
              refine HH2.out.mono ?_
              rintro e w3 ⟨rfl, n3, rfl⟩
              go_wp2
              go_roundw
              case rel => exact ⟨j + 1, by omega, by go_num, KW'.out.drewN _, Q.out⟩
              case measure => simp [intOf]; omega
            | false =>
              have Q := Lib.hid (agreesB_bad hlt HROW.out (List.mem_of_getElem? HAA.out) (by rw [HRO.out, hd1, hd2]; rfl))
              rw [hd2] at HH2
              clear hd1 hd2 HRO
              go_wp2_with fail
              refine HH2.out.mono ?_
              rintro e w3 ⟨rfl, n3, rfl⟩
              go_wp2
              go_ret
              exact ⟨by rw [Q.out]; rfl, KW'.out.drewN _⟩
        · obtain rfl : j = row.length := by omega
          have Q : Hid (∀ m, m < i + 1 → ∀ a ∈ arcsAt (arcsOf (evs ps).length adds) m, rowOk ps at_ m a = true) := fun m hm a ha => by
            by_cases e : m = i
            · subst e
              have e2 : arcsAt (arcsOf (evs ps).length adds) m = row := by simp [arcsAt, HROW.out]
              rw [e2] at ha
              have := HRW.out; rw [List.take_length] at this
              exact this a ha
            · exact HALL.out m (by omega) a ha
          go_wp2
          go_roundw
          case rel => exact ⟨i + 1, by omega, by go_num, KR2.out, Q.out⟩
          case measure => simp [intOf]; omega
    · obtain rfl : i = (evs ps).length := by omega
      have Q : Hid (agreesB ps at_ (arcsOf (evs ps).length adds) = true) := by
        show agreesB _ _ _ = true
        unfold agreesB
        rw [List.all_eq_true]
        intro i hi
        rw [List.all_eq_true]
        intro a ha
        exact HALL.out i (List.mem_range.1 hi) a ha
      go_wp2
      go_ret
      exact ⟨by rw [Q.out]; rfl, KR.out⟩

/-- blocks of references -/
def cellsR (l : List Ref) : Array Value := ((l.map fun u => [Value.int .i64 u.tr, Value.int .i64 u.st]).flatten).toArray
theorem cellsR_at {l : List Ref} {i : Nat} {u : Ref} (h : l[i]? = some u) : (cellsR l)[i * 2]? = some (.int .i64 u.tr) ∧ (cellsR l)[i * 2 + 1]? = some (.int .i64 u.st) := by
  have hsz : ∀ es ∈ l.map (fun u => [Value.int .i64 u.tr, Value.int .i64 u.st]), es.length = 2 := by
    intro es hes; obtain ⟨x, _, rfl⟩ := List.mem_map.1 hes; rfl
  have he : (l.map (fun u => [Value.int .i64 u.tr, Value.int .i64 u.st]))[i]? = some [Value.int .i64 u.tr, Value.int .i64 u.st] := by simp [h]
  have h0 := flatten_at hsz he (i := 0) (by omega)
  have h1 := flatten_at hsz he (i := 1) (by omega)
  exact ⟨by simpa [cellsR] using h0, by simpa [cellsR] using h1⟩
theorem cellsR_set (l : List Ref) : ∀ (i : Nat) (u : Ref), ((cellsR l).setIfInBounds (i * 2) (.int .i64 u.tr)).setIfInBounds (i * 2 + 1) (.int .i64 u.st) = cellsR (l.set i u) := by
  have key : ∀ (l : List Ref) (i : Nat) (u : Ref), ((((l.map fun u => [Value.int .i64 u.tr, Value.int .i64 u.st]).flatten).set (i * 2) (.int .i64 u.tr)).set (i * 2 + 1) (.int .i64 u.st)) = (((l.set i u).map fun u => [Value.int .i64 u.tr, Value.int .i64 u.st]).flatten) := by
    intro l
    induction l with
    | nil => intro i u; simp
    | cons a l ih =>
      intro i u
      cases i with
      | zero => simp
      | succ i =>
        have := ih i u
        rw [show (i + 1) * 2 = i * 2 + 2 from by omega]
        simp only [List.map_cons, List.flatten_cons, List.cons_append, List.nil_append, List.set_cons_succ]
        rw [this]
  intro i u
  unfold cellsR
  simp only [List.setIfInBounds_toArray]
  rw [key]
theorem cellsR_rep (n : Nat) : cellsR (List.replicate n ⟨0, 0⟩) = (List.replicate (n * 2) (Value.int .i64 0)).toArray := by
  unfold cellsR
  congr 1
  induction n with
  | zero => rfl
  | succ n ih => rw [List.replicate_succ, List.map_cons, List.flatten_cons, ih, show (n + 1) * 2 = n * 2 + 1 + 1 from by omega, List.replicate_succ, List.replicate_succ]; rfl
theorem Blk.refs {w : World} {S : Foot} {b : Nat} {t : TypeId} {l : List Ref} (hb : Blk w b t (cellsR l)) (hS : S b) (hl : l.length ≤ 9223372036854775807) : RRefs w S [.slice (some ⟨b, 0, none⟩) l.length l.length] l := by
  refine RSlice.ofBlk hb hS (l.map fun u => [.int .i64 u.tr, .int .i64 u.st]) l rfl ?_ hl
  clear hb hl hS
  induction l with
  | nil => trivial
  | cons a l ih => exact ⟨⟨rfl, rfl⟩, ih⟩
theorem madeCells_two (z : Value) (n : Nat) : madeCells #[z, z] n = (List.replicate n z).toArray := by
  apply Array.ext
  · simp [madeCells]
  · intro i h1 h2
    have : i % 2 = 0 ∨ i % 2 = 1 := by omega
    rcases this with h | h <;> simp [madeCells, h]
theorem mkRefs (n : Nat) (hn : n ≤ 1000000) (W : World) : (Instr.makeSlice 41 (.int .i64 (n : Int)) (.int .i64 (n : Int))).run Tryz.prog W = .ok (.slice (some ⟨W.heap.size, 0, none⟩) n n) (W.alloc (.cells (cellsR (List.replicate n ⟨0, 0⟩)) 69)) := by
  obtain ⟨i, z, h1, h2, h3, h4, h5⟩ := tyRef.info
  have hz : z = .agg #[.int .i64 0, .int .i64 0] := by
    have hk : (Tryz.prog.info? 69).map (fun i => i.zero) = some (some (.agg #[.int .i64 0, .int .i64 0])) := by kernel_rfl
    rw [h1] at hk
    simp only [Option.map_some, Option.some.injEq] at hk
    rw [h2] at hk; injection hk
  subst hz
  have h := run_make (P := Tryz.prog) W 41 69 i _ Tryz.underlying41 h1 h2 .i64 .i64 (n : Int) (n : Int) (by omega) (by omega) (by rw [h4]; omega) (by omega)
  rw [Int.toNat_natCast, h3] at h
  rw [h, cellsR_rep]
  have : (Value.agg #[.int .i64 0, .int .i64 0]).cells = #[.int .i64 0, .int .i64 0] := rfl
  rw [this, madeCells_two]

set_option maxRecDepth 100000 in
set_option maxHeartbeats 1000000 in
theorem refs_any (w : World) (g : Nat) (ps : List (List Stage)) (at_ : List Int) (v0 v1 v2 v3 v4 : Value) (A : Option Addr) (c : Nat) (l : List Int) (h : GrB w (Old w) g ps at_ v0 v1 v2 v3 v4) (hl : RInts w (Old w) [.slice A l.length c] l) (hin : ∀ x ∈ l, ∃ i : Nat, x = (i : Int) ∧ i < (evs ps).length) (hll : l.length ≤ 1000000) :
    Calls Tryz.prog 57 #[.pointer (some ⟨g, 0, none⟩), .slice A l.length c] w fun e w' => ∃ v, e = .returned v ∧ RRefs w' (Fresh w w') [v] (l.map fun x => evAt ps x.toNat) ∧ KeepsAll w w' := by
  have hc := hl.caps
  obtain ⟨A3, c3, rfl, hc3, hc32⟩ := h.re.val
  have HB := Lib.hid h; clear h
  have HL := Lib.hid hl; clear hl
  have HIN := Lib.hid hin; clear hin
  have hmk := mkRefs l.length (by omega)
  have HOL : Hid ((l.map fun x => evAt ps x.toNat).length = l.length) := by show _ = _; simp
  go_enter Tryz.func57, Tryz.ntmps57
  go_wp2
  generalize hW : World.alloc w _ = W
  have HI : Hid (Blk W w.heap.size 69 (cellsR ((l.map fun x => evAt ps x.toNat).take 0 ++ List.replicate ((l.map fun x => evAt ps x.toNat).length - 0) ⟨0, 0⟩)) ∧ KeepsAll w W) := by
    subst hW
    exact ⟨by rw [HOL.out]; simpa using Blk.new _ _ _, (Keeps.refl _ _).alloc _⟩
  clear hW hmk
  go_loopw [13] (fun i wr => ∃ k : Nat, k ≤ l.length ∧ i = .int .i64 k ∧ Blk wr w.heap.size 69 (cellsR ((l.map fun x => evAt ps x.toNat).take k ++ List.replicate ((l.map fun x => evAt ps x.toNat).length - k) ⟨0, 0⟩)) ∧ KeepsAll w wr) (fun i _ => l.length - (intOf i).toNat)
  case atStart => exact ⟨0, Nat.zero_le _, rfl, HI.out.1, HI.out.2⟩
  case round =>
    obtain ⟨k, hk, rfl, hbd, hkr⟩ := hrel
    clear HI
    have KR := Lib.hid hkr; clear hkr
    by_cases hlt : k < l.length
    · obtain ⟨b, o, x, hbo, hb, hx, m0⟩ := RInts.atK KR.out HL.out hlt
      subst hbo
      obtain ⟨i, rfl, hil⟩ := HIN.out x (List.mem_of_getElem? hx)
      obtain ⟨b3, o3, u, hbo, hb3, hu, n0, n1⟩ := RRefs.atK KR.out HB.out.re hil
      subst hbo
      have HOX : Hid ((l.map fun x => evAt ps x.toNat)[k]? = some u) := by
        show _ = _
        rw [List.getElem?_map, hx]; simp [evAt, hu]
      have e3 := (HB.out.all KR.out).b.cell 3
      simp only [List.getElem?_toArray, List.getElem?_cons_succ, List.getElem?_cons_zero] at e3
      have hfa := fill_at (l.map fun x => evAt ps x.toNat) (⟨0, 0⟩ : Ref) (k := k) (by rw [HOL.out]; exact hlt)
      have q0 := hbd.cell (k * 2)
      have q1 := hbd.cell (k * 2 + 1)
      have f0 := hbd.frozen (k * 2)
      have f1 := hbd.frozen (k * 2 + 1)
      rw [(cellsR_at hfa).1] at q0
      rw [(cellsR_at hfa).2] at q1
      have qz := hbd.lt
      have HN : Hid (Blk ((wr.setCell ⟨w.heap.size, k * 2, none⟩ (.int .i64 u.tr)).setCell ⟨w.heap.size, k * 2 + 1, none⟩ (.int .i64 u.st)) w.heap.size 69 (cellsR ((l.map fun x => evAt ps x.toNat).take (k + 1) ++ List.replicate ((l.map fun x => evAt ps x.toNat).length - (k + 1)) ⟨0, 0⟩)) ∧ KeepsAll w ((wr.setCell ⟨w.heap.size, k * 2, none⟩ (.int .i64 u.tr)).setCell ⟨w.heap.size, k * 2 + 1, none⟩ (.int .i64 u.st))) := by
        refine ⟨?_, (KR.out.setCell (fun h => absurd h (by simp)) _).setCell (fun h => absurd h (by simp)) _⟩
        have := (hbd.set_ (k * 2) (.int .i64 u.tr)).set_ (k * 2 + 1) (.int .i64 u.st)
        rw [cellsR_set, fill_set _ _ _ HOX.out] at this
        exact this
      clear hbd hx hu hfa
      go_wp2
      go_roundw
      case rel => exact ⟨k + 1, by omega, by go_num, HN.out.1, HN.out.2⟩
      case measure => simp [intOf]; omega
    · obtain rfl : k = l.length := by omega
      have e : (l.map fun x => evAt ps x.toNat).take l.length ++ List.replicate ((l.map fun x => evAt ps x.toNat).length - l.length) (⟨0, 0⟩ : Ref) = (l.map fun x => evAt ps x.toNat) := by
        have := fill_done (l.map fun x => evAt ps x.toNat) (⟨0, 0⟩ : Ref)
        rw [HOL.out] at this ⊢; exact this
      rw [e] at hbd
      clear e
      have HBD := Lib.hid hbd; clear hbd
      go_wp2
      go_ret
      refine ⟨_, rfl, ?_, KR.out⟩
      have := HBD.out.refs (S := Fresh w wr) ⟨Nat.le_refl _, HBD.out.lt⟩ (by rw [HOL.out]; omega)
      rw [HOL.out] at this; exact this

def idxB (l : List Bool) (x : Bool) : Int := idxF (fun y => x == y) l
set_option maxHeartbeats 400000 in
theorem IndexBool_any (l : List Bool) (x : Bool) (A : Option Addr) (c : Nat) (w : World) (S : Foot) (h : RBools w S [.slice A l.length c] l) :
    Calls Tryz.prog 103 #[.slice A l.length c, .bool x] w fun e w' => e = .returned (.int .i64 (idxB l x)) ∧ w = w' := by
  have hc := h.caps
  have H := Lib.hid h; clear h
  go_enter Tryz.func103, Tryz.ntmps103
  go_wp2
  go_loop [8] (fun i => ∃ k : Nat, k ≤ l.length ∧ i = .int .i64 k ∧ ∀ y ∈ l.take k, (x == y) = false) (fun i => l.length - (intOf i).toNat)
  case atStart => exact ⟨0, Nat.zero_le _, rfl, by simp⟩
  case round =>
    obtain ⟨k, hk, rfl, hno⟩ := hrel
    have HNO := Lib.hid hno; clear hno
    by_cases hlt : k < l.length
    · obtain ⟨b, o, y, rfl, _, hy, k1⟩ := H.out.at_ hlt
      by_cases g : (x == y) = true
      · have Q : Hid (idxB l x = k) := idxF_stop hy g HNO.out
        clear hy
        go_wp2
        go_ret
        exact ⟨by rw [Q.out]; rfl, rfl⟩
      · have g' : (x == y) = false := by simpa using g
        have Q : Hid (∀ y ∈ l.take (k + 1), (x == y) = false) := fun z hz => by
          rw [List.take_add_one, hy] at hz; simp at hz
          rcases hz with hz | rfl
          · exact HNO.out z hz
          · exact g'
        clear hy
        go_wp2
        go_round
        case rel => exact ⟨k + 1, by omega, by go_num, Q.out⟩
        case measure => simp [intOf]; omega
    · obtain rfl : k = l.length := by omega
      have Q : Hid (idxB l x = -1) := by
        have := HNO.out; rw [List.take_length] at this
        exact idxF_none this
      go_wp2
      go_ret
      exact ⟨by rw [Q.out]; rfl, rfl⟩
theorem ContainsBool_any (l : List Bool) (x : Bool) (A : Option Addr) (c : Nat) (w : World) (S : Foot) (h : RBools w S [.slice A l.length c] l) :
    Calls Tryz.prog 78 #[.slice A l.length c, .bool x] w fun e w' => e = .returned (.bool (l.any fun y => x == y)) ∧ w = w' := by
  have Q := Lib.hid (idxF_ge (fun y => x == y) l)
  have I := Lib.hid (IndexBool_any l x A c w S h)
  clear h
  go_enter Tryz.func78, Tryz.ntmps78
  go_wp2_with fail
  refine I.out.mono ?_
  rintro e w' ⟨rfl, rfl⟩
  go_wp2
  go_ret
  exact ⟨by rw [← Q.out]; rfl, rfl⟩

end Go.Proofs.YtbfgmbakeofcbaaGreat
