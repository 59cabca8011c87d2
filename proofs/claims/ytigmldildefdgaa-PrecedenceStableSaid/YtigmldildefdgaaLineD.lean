/- Contracts of the graph's agrees, refs and complete. Conditions: as each theorem says. -/
import Derived.Test.YtigmldildefdgaaLineC
namespace Go.Proofs.Ytigmldildefdgaa
open Go.RowKit

/-- every arc comes from an event -/
theorem useAdds_range {ps : List (List Stage)} {r : Int} : ∀ (l : List Ref) (rel : List Int), (∀ u ∈ l, u ∈ allU ps r) → (∀ x ∈ rel, x < 0 ∨ ∃ i : Nat, x = (i : Int) ∧ i < (evs ps).length) → InRange (evs ps).length (useAdds ps r l rel)
  | [], _, _, _ => by intro q hq; simp [useAdds] at hq
  | v :: l, rel, hl, hr => by
    obtain ⟨t, k, p, s, hp, hs, _, rfl⟩ := mem_allU.1 (hl v (by simp))
    have hkl := getElem?_lt hs
    have hfe := fst_lt hp (getElem?_lt hp) (Nat.le_refl _)
    rw [fst_len] at hfe
    intro q hq
    rw [useAdds, List.mem_append] at hq
    rcases hq with hq | hq
    · unfold relArcs at hq
      rw [List.mem_flatMap] at hq
      obtain ⟨⟨x, i⟩, hx, hq⟩ := hq
      simp only at hq
      split at hq
      · rename_i hc
        simp at hq; subst hq
        rcases hr x (List.mem_of_getElem? (List.mem_zipIdx_iff_getElem?.1 hx)) with h | h
        · omega
        · exact h
      · simp at hq
    · refine useAdds_range l _ (fun u hu => hl u (by simp [hu])) (fun x hx => ?_) q hq
      rcases List.mem_or_eq_of_mem_set hx with h | rfl
      · exact hr x h
      · refine .inr ⟨_, rfl, ?_⟩
        unfold num relOf
        split <;> simp <;> omega
theorem gAdds_range {ps : List (List Stage)} {os : List Order} (h : checkO ps os = true) : InRange (evs ps).length (gAdds ps os) := by
  intro q hq
  unfold gAdds at hq
  rw [List.mem_append] at hq
  rcases hq with hq | hq
  · unfold chainAdds at hq
    rw [List.mem_flatMap] at hq
    obtain ⟨⟨p, t⟩, hp, hq⟩ := hq
    have hp := List.mem_zipIdx_iff_getElem?.1 hp
    unfold chainP at hq
    rw [List.mem_map] at hq
    obtain ⟨⟨s, k⟩, hs, rfl⟩ := hq
    have hs := List.mem_zipIdx_iff_getElem?.1 hs
    have hfe := fst_lt hp (getElem?_lt hp) (Nat.le_refl _)
    rw [fst_len] at hfe
    have := getElem?_lt hs
    exact ⟨_, rfl, by omega⟩
  · rw [List.mem_flatMap] at hq
    obtain ⟨o, ho, hq⟩ := hq
    exact useAdds_range o.uses _ ((checkO_facts h).2.2 o ho).1 (by intro x hx; simp at hx; exact .inl (by omega)) q hq

theorem happenedE (w : World) (g : Nat) (ps : List (List Stage)) (at_ : List Int) (v0 v1 v2 v3 v4 : Value) (h : GrB w (Old w) g ps at_ v0 v1 v2 v3 v4) (hgd : Gd ps at_) (i : Nat) (hi : i < (evs ps).length) :
    Calls Try.prog 83 #[.pointer (some ⟨g, 0, none⟩), .int .i64 (i : Int)] w fun e w' => e = .returned (.bool (doneR at_ (evAt ps i))) ∧ ∃ n, w' = w.drewN n := by
  obtain ⟨t, m, p, htl, hp, hm, hkm⟩ := evs_inv ps.length (Nat.le_refl _) (by rw [fst_len]; exact hi : i < fst ps ps.length)
  have hev : (evs ps)[i]? = some ⟨(t : Int), (m : Int)⟩ := by rw [hkm]; exact evs_at hp hm
  have hx : at_[t]? = some (at_[t]'(by rw [hgd.1]; exact htl)) := List.getElem?_eq_getElem _
  have e : doneR at_ (evAt ps i) = decide ((m : Int) ≤ at_[t]'(by rw [hgd.1]; exact htl)) := by
    unfold doneR evAt
    rw [hev]
    simp [nowAt_of hx]
  rw [e]
  exact happened_any w g ps at_ v0 v1 v2 v3 v4 h i t m _ hev hx

def agreesB (ps : List (List Stage)) (at_ : List Int) (arcs : List (List GArc)) : Bool := (List.range (evs ps).length).all fun i => (arcsAt arcs i).all fun a => !(doneR at_ (evAt ps i) && !doneR at_ (evAt ps a.frm.toNat))
def rowOk (ps : List (List Stage)) (at_ : List Int) (i : Nat) (a : GArc) : Bool := !(doneR at_ (evAt ps i) && !doneR at_ (evAt ps a.frm.toNat))
theorem agreesB_bad {ps : List (List Stage)} {at_ : List Int} {arcs : List (List GArc)} {i : Nat} {row : List GArc} {a : GArc} (hi : i < (evs ps).length) (hr : arcs[i]? = some row) (ha : a ∈ row) (hb : rowOk ps at_ i a = false) : agreesB ps at_ arcs = false := by
  unfold agreesB
  rw [List.all_eq_false]
  refine ⟨i, List.mem_range.2 hi, ?_⟩
  have e : arcsAt arcs i = row := by simp [arcsAt, hr]
  rw [e, Bool.not_eq_true, List.all_eq_false]
  exact ⟨a, ha, by unfold rowOk at hb; simp [hb]⟩

set_option maxRecDepth 100000 in
set_option maxHeartbeats 1000000 in
theorem agrees_any (w : World) (g : Nat) (ps : List (List Stage)) (at_ : List Int) (adds : List (Nat × GArc)) (hv : valid ps = true) (hg : GrR w g ps at_ adds) (hgd : Gd ps at_) (hir : InRange (evs ps).length adds) :
    Calls Try.prog 101 #[.pointer (some ⟨g, 0, none⟩)] w fun e w' => e = .returned (.bool (agreesB ps at_ (arcsOf (evs ps).length adds))) ∧ KeepsAll w w' := by
  have hevl : (evs ps).length ≤ 650 := by
    have h1 := fst_le (fun p hp => ((valid_lens hv).2 p hp).2) ps.length (Nat.le_refl _)
    have h2 := (valid_lens hv).1
    rw [fst_len] at h1; omega
  obtain ⟨v0, v1, v2, v3, v4, hb, ha⟩ := hg
  obtain ⟨A4, c4, rfl, hc4, hc42⟩ := ha.val
  rw [arcsOf_len] at hc4 ha hb
  have e4 := hb.b.cell 4
  simp only [List.getElem?_toArray, List.getElem?_cons_succ, List.getElem?_cons_zero] at e4
  have HB := Lib.hid hb; clear hb
  have HA := Lib.hid ha; clear ha
  have HGD := Lib.hid hgd; clear hgd
  have HIR := Lib.hid hir; clear hir
  go_enter Try.func101, Try.ntmps101
  go_wp2
  clear e4
  go_loopw [12] (fun v wr => ∃ i : Nat, i ≤ (evs ps).length ∧ v = .int .i64 i ∧ KeepsAll w wr ∧ ∀ j, j < i → ∀ a ∈ arcsAt (arcsOf (evs ps).length adds) j, rowOk ps at_ j a = true) (fun v _ => (evs ps).length - (intOf v).toNat)
  case atStart => exact ⟨0, Nat.zero_le _, rfl, Keeps.refl _ _, fun j hj => by omega⟩
  case round =>
    obtain ⟨i, hi, rfl, hkr, hall⟩ := hrel
    have KR := Lib.hid hkr; clear hkr
    have HALL := Lib.hid hall; clear hall
    by_cases hlt : i < (evs ps).length
    · obtain ⟨ba, oa, row, Ar, cr, hbo, hba, hrow, a0, harc⟩ := RSS.atK KR.out HA.out (k := i) (by rw [arcsOf_len]; exact hlt)
      subst hbo
      have hcr := harc.caps
      have HROW := Lib.hid hrow; clear hrow
      have HARC := Lib.hid harc; clear harc
      have hdi : decide ((i : Int) < ((evs ps).length : Int)) = true := by simp; omega
      have hwr := KR.out
      obtain ⟨wo, rfl⟩ : ∃ wo : World, wo = wr := ⟨_, rfl⟩
      clear hwr
      go_wp2
      go_loopw [19] (fun v wr => ∃ j : Nat, j ≤ row.length ∧ v = .int .i64 j ∧ KeepsAll w wr ∧ ∀ a ∈ row.take j, rowOk ps at_ i a = true) (fun v _ => row.length - (intOf v).toNat)
      case atStart => exact ⟨0, Nat.zero_le _, rfl, KR.out, by simp⟩
      case round =>
        obtain ⟨j, hj, rfl, hkr, hrw⟩ := hrel
        have KR2 := Lib.hid hkr; clear hkr
        have HRW := Lib.hid hrw; clear hrw
        by_cases hlt2 : j < row.length
        · obtain ⟨b, o, a, hbo, hb, haa, m0, m1⟩ := RArcs.atK KR2.out HARC.out hlt2
          subst hbo
          have HAA := Lib.hid haa
          obtain ⟨f, hf, hfl⟩ := HIR.out _ ((mem_arcsOf HROW.out).1 (List.mem_of_getElem? haa))
          simp only [] at hf
          rw [hf] at m0
          have HF := Lib.hid hf
          clear haa hf
          go_wp2_with fail
          generalize hW : World.alloc wr _ = W
          have KW : KeepsAll w W := by subst hW; exact KR2.out.alloc _
          have BX : Blk W wr.heap.size 119 #[.int .i64 (f : Int), .int .i64 a.wt] := by subst hW; exact Blk.new _ _ _
          have q0 := BX.cell 0
          simp at q0
          have hz := BX.lt
          have HH := Lib.hid (fun i hi => happenedE W g ps at_ _ _ _ _ _ (HB.out.all KW) HGD.out i hi)
          have KW' := Lib.hid KW
          have HRO : Hid (rowOk ps at_ i a = !(doneR at_ (evAt ps i) && !doneR at_ (evAt ps f))) := by show rowOk _ _ _ _ = _; unfold rowOk; rw [HF.out, Int.toNat_natCast]
          clear hW m0 m1 BX KW
          refine (HH.out i hlt).mono ?_
          rintro e w2 ⟨rfl, n2, rfl⟩
          cases hd1 : doneR at_ (evAt ps i) with
          | false =>
            have Q : Hid (∀ a ∈ row.take (j + 1), rowOk ps at_ i a = true) := fun y hy => by
              rw [List.take_add_one, HAA.out] at hy; simp at hy
              rcases hy with hy | rfl
              · exact HRW.out y hy
              · rw [HRO.out, hd1]; rfl
            clear hd1 HRO
            go_wp2
            go_roundw
            case rel => exact ⟨j + 1, by omega, by go_num, KW'.out.drewN _, Q.out⟩
            case measure => simp [intOf]; omega
          | true =>
            have HH2 : Hid (Calls Try.prog 83 #[.pointer (some ⟨g, 0, none⟩), .int .i64 (f : Int)] (W.drewN n2) fun e w' => e = .returned (.bool (doneR at_ (evAt ps f))) ∧ ∃ n, w' = (W.drewN n2).drewN n) := happenedE (W.drewN n2) g ps at_ _ _ _ _ _ ((HB.out.all KW'.out).all ((Keeps.refl _ _).drewN _)) HGD.out f hfl
            cases hd2 : doneR at_ (evAt ps f) with
            | true =>
              have Q : Hid (∀ a ∈ row.take (j + 1), rowOk ps at_ i a = true) := fun y hy => by
                rw [List.take_add_one, HAA.out] at hy; simp at hy
                rcases hy with hy | rfl
                · exact HRW.out y hy
                · rw [HRO.out, hd1, hd2]; rfl
              rw [hd2] at HH2
              clear hd1 hd2 HRO
              go_wp2_with fail
              refine HH2.out.mono ?_
              rintro e w3 ⟨rfl, n3, rfl⟩
              go_wp2
              go_roundw
              case rel => exact ⟨j + 1, by omega, by go_num, KW'.out.drewN _, Q.out⟩
              case measure => simp [intOf]; omega
            | false =>
              have Q := Lib.hid (agreesB_bad hlt HROW.out (List.mem_of_getElem? HAA.out) (by rw [HRO.out, hd1, hd2]; rfl))
              rw [hd2] at HH2
              clear hd1 hd2 HRO
              go_wp2_with fail
              refine HH2.out.mono ?_
              rintro e w3 ⟨rfl, n3, rfl⟩
              go_wp2
              go_ret
              exact ⟨by rw [Q.out]; rfl, KW'.out.drewN _⟩
        · obtain rfl : j = row.length := by omega
          have Q : Hid (∀ m, m < i + 1 → ∀ a ∈ arcsAt (arcsOf (evs ps).length adds) m, rowOk ps at_ m a = true) := fun m hm a ha => by
            by_cases e : m = i
            · subst e
              have e2 : arcsAt (arcsOf (evs ps).length adds) m = row := by simp [arcsAt, HROW.out]
              rw [e2] at ha
              have := HRW.out; rw [List.take_length] at this
              exact this a ha
            · exact HALL.out m (by omega) a ha
          go_wp2
          go_roundw
          case rel => exact ⟨i + 1, by omega, by go_num, KR2.out, Q.out⟩
          case measure => simp [intOf]; omega
    · obtain rfl : i = (evs ps).length := by omega
      have Q : Hid (agreesB ps at_ (arcsOf (evs ps).length adds) = true) := by
        show agreesB _ _ _ = true
        unfold agreesB
        rw [List.all_eq_true]
        intro i hi
        rw [List.all_eq_true]
        intro a ha
        exact HALL.out i (List.mem_range.1 hi) a ha
      go_wp2
      go_ret
      exact ⟨by rw [Q.out]; rfl, KR.out⟩

end Go.Proofs.Ytigmldildefdgaa
