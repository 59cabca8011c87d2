/- Contract of precedence.Check: it returns what the reference's Check returns. Conditions: as the theorem says. -/
import Derived.Test.YtbfgmbakeofcbaaGreatK21
import Derived.Test.YtbfgmbakeofcbaaGreatK22
import Derived.Test.YtbfgmbakeofcbaaGreatK05
namespace Go.Proofs.YtbfgmbakeofcbaaGreat
open Go.RowKit

def cntF (U : List Int) : Int → Option Value := fun r => if r ∈ U then some (.int .i64 (U.count r : Int)) else none
def keysU (U : List Int) : List Int := U.foldl (fun ks x => if x ∈ ks then ks else ks ++ [x]) []
theorem keysU_snoc (U : List Int) (x : Int) : keysU (U ++ [x]) = if x ∈ keysU U then keysU U else keysU U ++ [x] := by
  unfold keysU; rw [List.foldl_append]; rfl
theorem cntF_get (U : List Int) (r : Int) : (cntF U r).getD (.int .i64 0) = .int .i64 (U.count r : Int) := by
  unfold cntF
  by_cases h : r ∈ U
  · simp [h]
  · simp [h, List.count_eq_zero.2 h]
theorem cntF_snoc (U : List Int) (x : Int) : setF (cntF U) x (.int .i64 ((U.count x : Int) + 1)) = cntF (U ++ [x]) := by
  funext r
  unfold setF cntF
  by_cases h : r = x
  · subst h; simp [List.count_append]
  · have : (U ++ [x]).count r = U.count r := by
      have h0 : [x].count r = 0 := List.count_eq_zero.2 (by simpa using h)
      rw [List.count_append]; omega
    simp [h, this]
theorem mem_keysU_aux (x : Int) : ∀ (U ks : List Int), x ∈ U.foldl (fun ks x => if x ∈ ks then ks else ks ++ [x]) ks ↔ x ∈ ks ∨ x ∈ U
  | [], ks => by simp
  | a :: U, ks => by
    simp only [List.foldl_cons, mem_keysU_aux x U]
    by_cases h : a ∈ ks
    · simp only [h, if_true, List.mem_cons]
      constructor
      · rintro (h1 | h1)
        · exact .inl h1
        · exact .inr (.inr h1)
      · rintro (h1 | rfl | h1)
        · exact .inl h1
        · exact .inl h
        · exact .inr h1
    · simp only [h, if_false, List.mem_append, List.mem_cons, List.not_mem_nil, or_false, or_assoc]
theorem mem_keysU (x : Int) (U : List Int) : x ∈ keysU U ↔ x ∈ U := by unfold keysU; rw [mem_keysU_aux]; simp
theorem keysU_nodup (U : List Int) : (keysU U).Nodup := by
  have : ∀ (U ks : List Int), ks.Nodup → (U.foldl (fun ks x => if x ∈ ks then ks else ks ++ [x]) ks).Nodup := by
    intro U
    induction U with
    | nil => intro ks h; exact h
    | cons a U ih =>
      intro ks h
      simp only [List.foldl_cons]
      apply ih
      split
      · exact h
      · rename_i hn
        exact List.nodup_append.2 ⟨h, by simp, fun y hy z hz => by simp at hz; subst hz; rintro rfl; exact hn hy⟩
  exact this U [] List.nodup_nil
theorem resTo_nodup (ps : List (List Stage)) (n : Nat) : (resTo ps n).Nodup := (resTo_pw ps n).imp (fun h => by omega)
theorem keysU_len {ps : List (List Stage)} (hv : valid ps = true) : (keysU (usesAll ps)).length = (resTo ps 144).length := by
  have hm : ∀ x, x ∈ keysU (usesAll ps) ↔ x ∈ resTo ps 144 := fun x => by
    rw [mem_keysU, mem_resTo]
    constructor
    · intro h; have := valid_use hv h; exact ⟨h, this.1, by omega⟩
    · exact fun h => h.1
  have h1 := nodup_le (keysU_nodup (usesAll ps)) (fun x hx => (hm x).1 hx)
  have h2 := nodup_le (resTo_nodup ps 144) (fun x hx => (hm x).2 hx)
  omega

/-- what the program's loop over the orders has seen -/
def CpInv (ps : List (List Stage)) (os : List Order) (i : Nat) : Prop :=
  ((os.take i).map (·.res)).Pairwise (· < ·) ∧ ∀ o ∈ os.take i, o.res ∈ usesAll ps ∧ exactlyB o.uses (allU ps o.res) = true
theorem CpInv.step {ps : List (List Stage)} {os : List Order} {i : Nat} {o : Order} (h : CpInv ps os i) (ho : os[i]? = some o) (hl : ∀ q, 0 < i → os[i - 1]? = some q → q.res < o.res) (hu : o.res ∈ usesAll ps) (hx : exactlyB o.uses (allU ps o.res) = true) : CpInv ps os (i + 1) := by
  have e : os.take (i + 1) = os.take i ++ [o] := by rw [List.take_add_one, ho]; rfl
  refine ⟨?_, fun x hx' => ?_⟩
  · rw [e, List.map_append, List.pairwise_append]
    refine ⟨h.1, by simp, fun a ha b hb => ?_⟩
    simp at hb; subst hb
    by_cases hi : i = 0
    · subst hi; simp at ha
    · have hi1 : i - 1 < os.length := by have := getElem?_lt ho; omega
      have hq := hl _ (by omega) (List.getElem?_eq_getElem hi1)
      have e2 : os.take i = os.take (i - 1) ++ [os[i - 1]] := by
        conv => lhs; rw [show i = (i - 1) + 1 from by omega]
        rw [List.take_add_one, List.getElem?_eq_getElem hi1]; rfl
      have h1 := h.1
      rw [e2, List.map_append] at h1 ha
      rcases List.mem_append.1 ha with ha | ha
      · have := (List.pairwise_append.1 h1).2.2 a ha os[i - 1].res (by simp)
        omega
      · simp at ha; subst ha; exact hq
  · rw [e] at hx'
    rcases List.mem_append.1 hx' with h' | h'
    · exact h.2 x h'
    · simp at h'; subst h'; exact ⟨hu, hx⟩
theorem CpInv.done {ps : List (List Stage)} {os : List Order} (hv : valid ps = true) (hl : os.length = (keysU (usesAll ps)).length) (h : CpInv ps os os.length) : checkO ps os = true := by
  have h1 := h.1; have h2 := h.2
  rw [List.take_length] at h1 h2
  have hnd : (os.map (·.res)).Nodup := h1.imp (fun h => by omega)
  have hsub : ∀ x ∈ os.map (·.res), x ∈ resTo ps 144 := fun x hx => by
    obtain ⟨o, ho, rfl⟩ := List.mem_map.1 hx
    have hu := (h2 o ho).1
    have := valid_use hv hu
    exact (mem_resTo 144).2 ⟨hu, this.1, by omega⟩
  have hle : (resTo ps 144).length ≤ (os.map (·.res)).length := by rw [← keysU_len hv, List.length_map]; omega
  have e := pw_ext _ _ h1 (resTo_pw ps 144) (fun x => ⟨hsub x, nodup_full hnd hsub hle (resTo_nodup ps 144) x⟩)
  have h3 : os.all (fun o => exactlyB o.uses (allU ps o.res)) = true := List.all_eq_true.2 fun o ho => (h2 o ho).2
  simp [checkO, hv, e, h3]
theorem checkO_desc {ps : List (List Stage)} {os : List Order} {i : Nat} {o q : Order} (ho : os[i]? = some o) (hq : os[i - 1]? = some q) (hi : 0 < i) (hle : o.res ≤ q.res) : checkO ps os = false := by
  rcases Bool.eq_false_or_eq_true (checkO ps os) with e | e
  · simp only [checkO, Bool.and_eq_true, decide_eq_true_eq] at e
    have hp := resTo_pw ps 144
    rw [← e.1.2] at hp
    have := pw_take_bad (R := (· < ·)) (l := os.map (·.res)) (j := i - 1) (k := i) (x := q.res) (y := o.res) (by rw [List.getElem?_map, hq]; rfl) (by rw [List.getElem?_map, ho]; rfl) (by omega) (by omega)
    exact absurd hp this
  · exact e
theorem checkO_none {ps : List (List Stage)} {os : List Order} {i : Nat} {o : Order} (ho : os[i]? = some o) (hn : o.res ∉ usesAll ps) : checkO ps os = false := by
  rcases Bool.eq_false_or_eq_true (checkO ps os) with e | e
  · simp only [checkO, Bool.and_eq_true, decide_eq_true_eq] at e
    have : o.res ∈ os.map (·.res) := List.mem_map.2 ⟨o, List.mem_of_getElem? ho, rfl⟩
    rw [e.1.2, mem_resTo] at this
    exact absurd this.1 hn
  · exact e
theorem checkO_len {ps : List (List Stage)} {os : List Order} (hv : valid ps = true) (hl : os.length ≠ (keysU (usesAll ps)).length) : checkO ps os = false := by
  rcases Bool.eq_false_or_eq_true (checkO ps os) with e | e
  · simp only [checkO, Bool.and_eq_true, decide_eq_true_eq] at e
    have := congrArg List.length e.1.2
    rw [← keysU_len hv, List.length_map] at this
    exact absurd this hl
  · exact e
/-- lengths of the uses -/
theorem stUses_len {s : Stage} (h : stageOk s = true) : (stUses s).length ≤ 3 := by
  simp only [stageOk, Bool.and_eq_true, decide_eq_true_eq] at h
  simp [stUses]; omega
theorem flat_len : ∀ (l : List Stage), (∀ s ∈ l, stageOk s = true) → (l.flatMap stUses).length ≤ l.length * 3
  | [], _ => by simp
  | s :: l, h => by
    have h1 := stUses_len (h s (by simp))
    have h2 := flat_len l (fun x hx => h x (by simp [hx]))
    simp only [List.flatMap_cons, List.length_append, List.length_cons]; omega
theorem usesAll_succ {ps : List (List Stage)} {t : Nat} {p : List Stage} (h : ps[t]? = some p) : usesAll (ps.take (t + 1)) = usesAll (ps.take t) ++ p.flatMap stUses := by
  unfold usesAll
  rw [List.take_add_one, h, Option.toList_some, List.flatten_append, List.flatMap_append]; simp
theorem usesAll_le {ps : List (List Stage)} (hv : valid ps = true) : ∀ t : Nat, t ≤ ps.length → (usesAll (ps.take t)).length ≤ t * 192
  | 0, _ => by simp [usesAll]
  | t + 1, ht => by
    have hp : ps[t]? = some ps[t] := List.getElem?_eq_getElem (by omega)
    rw [usesAll_succ hp, List.length_append]
    have h1 := usesAll_le hv t (by omega)
    have h2 := flat_len ps[t] (fun s hs => valid_stage hv (List.getElem_mem _) hs)
    have h3 := ((valid_lens hv).2 ps[t] (List.getElem_mem _)).2
    omega
theorem flat_succ {p : List Stage} {k : Nat} {s : Stage} (h : p[k]? = some s) : (p.take (k + 1)).flatMap stUses = (p.take k).flatMap stUses ++ stUses s := by
  rw [List.take_add_one, h, Option.toList_some, List.flatMap_append]; simp
theorem zeroInt (w : World) : (zeroValue 3).run Tryz.prog w = .ok (.int .i64 0) w := by kernel_rfl

structure CMap (w1 wr : World) (U : List Int) : Prop where
  m : MapIs wr w1.heap.size (keysU U) (cntF U)
  k : KeepsAll w1 wr
theorem CMap.keep {w1 wr w' : World} {U : List Int} (h : CMap w1 wr U) (k : KeepsAll wr w') : CMap w1 w' U := ⟨h.m.kept k (by simp), h.k.tr k⟩
theorem CMap.push {w1 wr : World} {U : List Int} (h : CMap w1 wr U) (x : Int) : ∃ w', (Instr.mapUpdate 86 (.map (some w1.heap.size)) (.int .i64 x) (.int .i64 ((U.count x : Int) + 1))).run Tryz.prog wr = .ok () w' ∧ CMap w1 w' (U ++ [x]) ∧ Keeps (· = w1.heap.size) wr w' := by
  obtain ⟨w', hr, hm, hk, hz⟩ := h.m.update (P := Tryz.prog) (t := 86) (E := 3) Tryz.underlying86 Tryz.underlying3 x (.int .i64 ((U.count x : Int) + 1))
  refine ⟨w', hr, ⟨?_, h.k.trans hk (fun y hy e => by omega)⟩, hk⟩
  rw [cntF_snoc] at hm
  rw [keysU_snoc]; exact hm
theorem CMap.look {w1 wr : World} {U : List Int} (h : CMap w1 wr U) (x : Int) : (Instr.lookup 86 (.map (some w1.heap.size)) (.int .i64 x) false).run Tryz.prog wr = .ok (.int .i64 (U.count x : Int)) wr := by
  have := (h.m.lookup (P := Tryz.prog) (t := 86) (E := 3) Tryz.underlying86 Tryz.underlying3 (zeroInt _) x).1
  rw [cntF_get] at this; exact this
theorem CMap.look2 {w1 wr : World} {U : List Int} (h : CMap w1 wr U) (x : Int) : (Instr.lookup 86 (.map (some w1.heap.size)) (.int .i64 x) true).run Tryz.prog wr = .ok (.tuple #[.int .i64 (U.count x : Int), .bool (decide (x ∈ U))]) wr := by
  have := (h.m.lookup (P := Tryz.prog) (t := 86) (E := 3) Tryz.underlying86 Tryz.underlying3 (zeroInt _) x).2
  rw [cntF_get] at this
  have e : (cntF U x).isSome = decide (x ∈ U) := by unfold cntF; by_cases h : x ∈ U <;> simp [h]
  rw [e] at this; exact this

set_option maxRecDepth 100000 in
set_option maxHeartbeats 2000000 in
theorem Check_any (ps : List (List Stage)) (os : List Order) (A A2 : Option Addr) (c c2 : Nat) (w : World) (h : RPaths w (Old w) [.slice A ps.length c] ps) (h2 : ROrders w (Old w) [.slice A2 os.length c2] os) :
    Calls Tryz.prog 28 #[.slice A ps.length c, .slice A2 os.length c2] w fun e w' => e = .returned (.bool (checkO ps os)) ∧ KeepsAll w w' := by
  have hc := h.caps
  have hc2 := h2.caps
  have H := Lib.hid h; clear h
  have H2 := Lib.hid h2; clear h2
  have hmm := @run_makeMap Tryz.prog
  by_cases g1 : valid ps = true
  · have HV := Lib.hid g1
    have hl10 := (valid_lens g1).1
    go_enter Tryz.func28, Tryz.ntmps28
    go_wp2_with fail
    refine (Valid_any ps A c w H.out).mono ?_
    rintro e w1 ⟨rfl, k1⟩
    have K1 := Lib.hid k1; clear k1
    go_wp2
    generalize hW : World.alloc w1 _ = W
    have HM : Hid (CMap w1 W []) := by
      subst hW
      have e2 : cntF [] = fun _ => none := by funext k; simp [cntF]
      exact ⟨by rw [e2]; exact MapIs.new _, (Keeps.refl _ _).alloc _⟩
    clear hW
    go_loopw [22] (fun i wr => ∃ t : Nat, t ≤ ps.length ∧ i = .int .i64 t ∧ CMap w1 wr (usesAll (ps.take t))) (fun i _ => ps.length - (intOf i).toNat)
    case atStart => exact ⟨0, Nat.zero_le _, rfl, HM.out⟩
    case round =>
      obtain ⟨t, ht, rfl, hm⟩ := hrel
      clear HM
      have KR := Lib.hid (K1.out.tr hm.k)
      by_cases hlt : t < ps.length
      · obtain ⟨b, o, p, A', c', rfl, hb, hp, k1, hr⟩ := RSS.atK KR.out H.out hlt
        have hcp := hr.caps
        have HPR := Lib.hid hr; clear hr
        have HQ := Lib.hid (usesAll_succ hp)
        have HST : Hid (∀ s ∈ p, stageOk s = true) := fun s hs => valid_stage g1 (List.mem_of_getElem? hp) hs
        have hpl := ((valid_lens g1).2 p (List.mem_of_getElem? hp)).2
        have hDl := usesAll_le g1 t ht
        clear hp
        generalize usesAll (ps.take t) = D at hm HQ hDl
        have HM := Lib.hid hm; clear hm
        have hdt : decide ((t : Int) < (ps.length : Int)) = true := by simp; omega
        obtain ⟨wo, rfl⟩ : ∃ wo : World, wo = wr := ⟨_, rfl⟩
        go_wp2
        go_loopw [28] (fun i wr => ∃ k : Nat, k ≤ p.length ∧ i = .int .i64 k ∧ CMap w1 wr (D ++ (p.take k).flatMap stUses)) (fun i _ => p.length - (intOf i).toNat)
        case atStart => exact ⟨0, Nat.zero_le _, rfl, by simpa using HM.out⟩
        case round =>
          obtain ⟨k, hk, rfl, hm⟩ := hrel
          clear HM
          have KR2 := Lib.hid (K1.out.tr hm.k)
          by_cases hlt2 : k < p.length
          · obtain ⟨b2, o2, s, A2, c2, rfl, hb2, hs, m0, m1, m2, m3, hpts⟩ := RPath.atK KR2.out HPR.out hlt2
            have hcs := hpts.caps
            have hsl := stUses_len (HST.out s (List.mem_of_getElem? hs))
            have hspl : s.pts.length ≤ 2 := by simp [stUses] at hsl; omega
            have hEl : (D ++ (p.take k).flatMap stUses).length ≤ 10000 := by
              have h1 := flat_len (p.take k) (fun s hs => HST.out s (List.mem_of_mem_take hs))
              have h2 : (p.take k).length ≤ k := by simp; omega
              rw [List.length_append]; omega
            have HQ2 : Hid (D ++ (p.take (k + 1)).flatMap stUses = (D ++ (p.take k).flatMap stUses) ++ s.sec :: s.pts) := by
              show _ = _
              rw [flat_succ hs, List.append_assoc]; rfl
            generalize D ++ (p.take k).flatMap stUses = E at hm HQ2 hEl
            have HPT := Lib.hid hpts; clear hpts hs hsl
            have hdk : decide ((k : Int) < (p.length : Int)) = true := by simp; omega
            obtain ⟨W2, hW2⟩ : ∃ W2, W2 = wr.alloc (.cells #[.int .i64 s.sec, .slice A2 s.pts.length c2, .int .i64 s.mn, .int .i64 s.nt] 51) := ⟨_, rfl⟩
            have hm2 : CMap w1 W2 E := by subst hW2; exact hm.keep ((Keeps.refl _ _).alloc _)
            have B2 : Blk W2 wr.heap.size 51 #[.int .i64 s.sec, .slice A2 s.pts.length c2, .int .i64 s.mn, .int .i64 s.nt] := by subst hW2; exact Blk.new _ _ _
            have hwz := hm.m.lt
            obtain ⟨w3, hrun, hm3, hk3⟩ := hm2.push s.sec
            have B3 := B2.kept hk3 (by omega)
            have q1 := B3.cell 1
            simp at q1
            have hz3 := B3.lt
            have hlk := hm2.look s.sec
            have hcn : E.count s.sec ≤ 10000 := Nat.le_trans List.count_le_length hEl
            have HM3 := Lib.hid hm3
            clear hm hm2 B2 B3 hm3 hk3
            subst hW2
            go_wp2
            clear q1 hrun hlk
            have HM3' : Hid (CMap w1 w3 (E ++ s.sec :: s.pts.take 0)) := by show CMap w1 w3 (E ++ s.sec :: s.pts.take 0); simpa using HM3.out
            clear HM3
            obtain ⟨wp, hwp⟩ : ∃ wp : World, wp = wr := ⟨_, rfl⟩
            clear hwp
            go_loopw [40] (fun i wr => ∃ j : Nat, j ≤ s.pts.length ∧ i = .int .i64 j ∧ CMap w1 wr (E ++ s.sec :: s.pts.take j)) (fun i _ => s.pts.length - (intOf i).toNat)
            case atStart => exact ⟨0, Nat.zero_le _, rfl, HM3'.out⟩
            case round =>
              obtain ⟨j, hj, rfl, hm⟩ := hrel
              clear HM3'
              have KR4 := Lib.hid (K1.out.tr hm.k)
              by_cases hlt3 : j < s.pts.length
              · obtain ⟨b4, o4, x, rfl, hb4, hx, n0⟩ := RInts.atK KR4.out HPT.out hlt3
                have HQ3 : Hid (E ++ s.sec :: s.pts.take (j + 1) = (E ++ s.sec :: s.pts.take j) ++ [x]) := by
                  show _ = _
                  rw [List.take_add_one, hx, List.append_assoc]; rfl
                have hFl : (E ++ s.sec :: s.pts.take j).length ≤ 20000 := by simp; omega
                generalize E ++ s.sec :: s.pts.take j = F at hm HQ3 hFl
                clear hx
                obtain ⟨w5, hrun, hm5, hk5⟩ := hm.push x
                have hlk := hm.look x
                have hcn : F.count x ≤ 20000 := Nat.le_trans List.count_le_length hFl
                have HM5 := Lib.hid hm5
                clear hm hm5 hk5
                go_wp2
                go_roundw
                case rel => exact ⟨j + 1, by omega, by go_num, by rw [HQ3.out]; exact HM5.out⟩
                case measure => simp [intOf]; omega
              · obtain rfl : j = s.pts.length := by omega
                rw [List.take_length] at hm
                have HM := Lib.hid hm; clear hm
                go_wp2
                go_roundw
                case rel => exact ⟨k + 1, by omega, by go_num, by rw [HQ2.out]; exact HM.out⟩
                case measure => simp [intOf]; omega
          · obtain rfl : k = p.length := by omega
            rw [List.take_length] at hm
            have HM := Lib.hid hm; clear hm
            go_wp2
            go_roundw
            case rel => exact ⟨t + 1, by omega, by go_num, by rw [HQ.out]; exact HM.out⟩
            case measure => simp [intOf]; omega
      · obtain rfl : t = ps.length := by omega
        rw [List.take_length] at hm
        have hln := hm.m.len (P := Tryz.prog) (t := 86) Tryz.underlying86
        have HM := Lib.hid hm; clear hm
        have hkl : (keysU (usesAll ps)).length ≤ 100000 := by
          have h1 := nodup_le (keysU_nodup (usesAll ps)) (fun x hx => (mem_keysU x _).1 hx)
          have h2 := usesAll_le g1 ps.length (Nat.le_refl _)
          rw [List.take_length] at h2
          omega
        by_cases g2 : os.length = (keysU (usesAll ps)).length
        · have g2' : ((os.length : Int) != ((keysU (usesAll ps)).length : Int)) = false := by simp; omega
          have G2 := Lib.hid g2; clear g2
          go_wp2
          clear hln
          obtain ⟨wo, hwo⟩ : ∃ wo : World, wo = wr := ⟨_, rfl⟩
          clear hwo
          have hbig : ∀ r, (usesAll ps).count r ≤ 100000 := fun r => by
            have h1 : (usesAll ps).count r ≤ (usesAll ps).length := List.count_le_length
            have h2 := usesAll_le g1 ps.length (Nat.le_refl _)
            rw [List.take_length] at h2
            omega
          have HBIG := Lib.hid hbig; clear hbig
          go_loopw [58] (fun v wr => ∃ i : Nat, i ≤ os.length ∧ v = .int .i64 i ∧ CMap w1 wr (usesAll ps) ∧ CpInv ps os i) (fun v _ => os.length - (intOf v).toNat)
          case atStart => exact ⟨0, Nat.zero_le _, rfl, HM.out, by simp, by simp⟩
          case round =>
            obtain ⟨i, hi, rfl, hm, hcpi⟩ := hrel
            clear HM KR
            have HCP := Lib.hid hcpi; clear hcpi
            have KR2 := Lib.hid (K1.out.tr hm.k)
            have HM := Lib.hid hm; clear hm
            by_cases hlt2 : i < os.length
            · obtain ⟨b, o, x, A', c', rfl, hb, hx, m0, m1, hus⟩ := ROrders.atK KR2.out H2.out hlt2
              have hcu := hus.caps
              have HX := Lib.hid hx; clear hx
              have HUS := Lib.hid hus; clear hus
              have hbx := HBIG.out x.res
              go_wp2
              generalize hW2 : World.alloc wr _ = W2
              have B2 : Blk W2 wr.heap.size 66 #[.int .i64 x.res, .slice A' x.uses.length c'] := by subst hW2; exact Blk.new _ _ _
              have HM2 : Hid (CMap w1 W2 (usesAll ps)) := by subst hW2; exact HM.out.keep ((Keeps.refl _ _).alloc _)
              have e0 := B2.cell 0
              have e1 := B2.cell 1
              simp at e0 e1
              have hz2 := B2.lt
              clear hW2 m0 m1 B2 HM KR2 hb
              by_cases hi0 : 0 < i
              · obtain ⟨b', o', q, A3, c3, hbo, hb3, hq, n0, _, _⟩ := ROrders.atK (K1.out.tr HM2.out.k) H2.out (k := i - 1) (by omega)
                injection hbo with hbo; injection hbo with hb1 hb2; subst hb1 hb2
                by_cases g3 : x.res ≤ q.res
                · have g3' : decide (x.res ≤ q.res) = true := by simpa using g3
                  have Q := Lib.hid (checkO_desc (ps := ps) HX.out hq hi0 g3)
                  clear hq g3
                  go_quiet (fail)
                  go_wp2
                  go_ret
                  exact ⟨by rw [Q.out]; rfl, (K1.out.tr HM2.out.k).drewN _⟩
                · have g3' : decide (x.res ≤ q.res) = false := by simpa using g3
                  have ASC : Hid (∀ q, 0 < i → os[i - 1]? = some q → q.res < x.res) := fun q' _ hq' => by
                    rw [hq] at hq'; injection hq' with hq'; subst hq'; omega
                  clear hq g3
                  go_quiet (fail)
                  clear n0
                  generalize hW3 : World.drewN W2 _ = W3
                  have KW3 : KeepsAll W2 W3 := by subst hW3; exact (Keeps.refl _ _).drewN _
                  replace e0 := KW3.cellK (p := ⟨wr.heap.size, 0, none⟩) hz2 e0
                  replace e1 := KW3.cellK (p := ⟨wr.heap.size, 1, none⟩) hz2 e1
                  have HM3 := Lib.hid (HM2.out.keep KW3)
                  have K3 := Lib.hid (K1.out.tr HM3.out.k)
                  have hlk := HM3.out.look2 x.res
                  clear hW3 KW3 HM2
                  by_cases g4 : x.res ∈ usesAll ps
                  · have g4' : decide (x.res ∈ usesAll ps) = true := by simpa using g4
                    have G4 := Lib.hid g4; clear g4
                    rw [g4'] at hlk
                    by_cases g5 : x.uses.length = (usesAll ps).count x.res
                    · have g5' : ((x.uses.length : Int) != ((usesAll ps).count x.res : Int)) = false := by simp; omega
                      have HXL : Hid (exactlyB x.uses (allU ps x.res) = properB ps x) := by
                        show exactlyB x.uses (allU ps x.res) = properB ps x
                        rw [exactly_proper, ← valid_count g1, decide_eq_true g5, Bool.true_and]
                      clear g5
                      go_wp2_with fail
                      refine (proper_any ps x A A' c c' W3 (by omega) (K3.out.rdo' RPaths.ok H.out) (K3.out.rdo' RRefs.ok HUS.out)).mono ?_
                      rintro e w4 ⟨rfl, hk4⟩
                      by_cases g6 : properB ps x = true
                      · rw [g6]
                        have HM4 := Lib.hid (HM3.out.keep hk4)
                        have Q := Lib.hid (HCP.out.step HX.out ASC.out G4.out (by rw [HXL.out]; exact g6))
                        clear hk4 g6 hlk
                        go_wp2
                        go_roundw
                        case rel => exact ⟨i + 1, by omega, by go_num, HM4.out, Q.out⟩
                        case measure => simp [intOf]; omega
                      · have g6' : properB ps x = false := by simpa using g6
                        rw [g6']
                        have Q := Lib.hid (checkO_bad HX.out (by rw [HXL.out]; exact g6'))
                        have K4 := Lib.hid (K3.out.tr hk4)
                        clear hk4 g6 hlk
                        go_wp2
                        go_ret
                        exact ⟨by rw [Q.out]; rfl, K4.out⟩
                    · have g5' : ((x.uses.length : Int) != ((usesAll ps).count x.res : Int)) = true := by simp; omega
                      have Q := Lib.hid (checkO_bad (ps := ps) HX.out (by rw [exactly_proper, ← valid_count g1, decide_eq_false g5, Bool.false_and]))
                      clear g5
                      go_wp2
                      go_ret
                      exact ⟨by rw [Q.out]; rfl, K3.out⟩
                  · have g4' : decide (x.res ∈ usesAll ps) = false := by simpa using g4
                    have Q := Lib.hid (checkO_none HX.out g4)
                    rw [g4'] at hlk
                    clear g4
                    go_wp2
                    go_ret
                    exact ⟨by rw [Q.out]; rfl, K3.out⟩
              · have hi1 : i < 1 := by omega
                go_quiet (fail)
                generalize hW3 : World.drewN W2 _ = W3
                have KW3 : KeepsAll W2 W3 := by subst hW3; exact (Keeps.refl _ _).drewN _
                replace e0 := KW3.cellK (p := ⟨wr.heap.size, 0, none⟩) hz2 e0
                replace e1 := KW3.cellK (p := ⟨wr.heap.size, 1, none⟩) hz2 e1
                have HM3 := Lib.hid (HM2.out.keep KW3)
                have K3 := Lib.hid (K1.out.tr HM3.out.k)
                have hlk := HM3.out.look2 x.res
                clear hW3 KW3 HM2
                by_cases g4 : x.res ∈ usesAll ps
                · have g4' : decide (x.res ∈ usesAll ps) = true := by simpa using g4
                  have G4 := Lib.hid g4; clear g4
                  rw [g4'] at hlk
                  by_cases g5 : x.uses.length = (usesAll ps).count x.res
                  · have g5' : ((x.uses.length : Int) != ((usesAll ps).count x.res : Int)) = false := by simp; omega
                    have HXL : Hid (exactlyB x.uses (allU ps x.res) = properB ps x) := by
                      show exactlyB x.uses (allU ps x.res) = properB ps x
                      rw [exactly_proper, ← valid_count g1, decide_eq_true g5, Bool.true_and]
                    clear g5
                    go_wp2_with fail
                    refine (proper_any ps x A A' c c' W3 (by omega) (K3.out.rdo' RPaths.ok H.out) (K3.out.rdo' RRefs.ok HUS.out)).mono ?_
                    rintro e w4 ⟨rfl, hk4⟩
                    by_cases g6 : properB ps x = true
                    · rw [g6]
                      have HM4 := Lib.hid (HM3.out.keep hk4)
                      have Q := Lib.hid (HCP.out.step HX.out (fun _ h _ => absurd h hi0) G4.out (by rw [HXL.out]; exact g6))
                      clear hk4 g6 hlk
                      go_wp2
                      go_roundw
                      case rel => exact ⟨i + 1, by omega, by go_num, HM4.out, Q.out⟩
                      case measure => simp [intOf]; omega
                    · have g6' : properB ps x = false := by simpa using g6
                      rw [g6']
                      have Q := Lib.hid (checkO_bad HX.out (by rw [HXL.out]; exact g6'))
                      have K4 := Lib.hid (K3.out.tr hk4)
                      clear hk4 g6 hlk
                      go_wp2
                      go_ret
                      exact ⟨by rw [Q.out]; rfl, K4.out⟩
                  · have g5' : ((x.uses.length : Int) != ((usesAll ps).count x.res : Int)) = true := by simp; omega
                    have Q := Lib.hid (checkO_bad (ps := ps) HX.out (by rw [exactly_proper, ← valid_count g1, decide_eq_false g5, Bool.false_and]))
                    clear g5
                    go_wp2
                    go_ret
                    exact ⟨by rw [Q.out]; rfl, K3.out⟩
                · have g4' : decide (x.res ∈ usesAll ps) = false := by simpa using g4
                  have Q := Lib.hid (checkO_none HX.out g4)
                  rw [g4'] at hlk
                  clear g4
                  go_wp2
                  go_ret
                  exact ⟨by rw [Q.out]; rfl, K3.out⟩
            · obtain rfl : i = os.length := by omega
              have Q := Lib.hid (HCP.out.done g1 G2.out)
              go_wp2
              go_ret
              exact ⟨by rw [Q.out]; rfl, KR2.out⟩
        · have g2' : ((os.length : Int) != ((keysU (usesAll ps)).length : Int)) = true := by simp; omega
          have Q := Lib.hid (checkO_len g1 g2)
          clear g2
          go_wp2
          go_ret
          exact ⟨by rw [Q.out]; rfl, KR.out⟩
  · have g1' : valid ps = false := by simpa using g1
    have Q : Hid (checkO ps os = false) := by show checkO ps os = false; simp [checkO, g1']
    go_enter Tryz.func28, Tryz.ntmps28
    go_wp2_with (go_at_call 22; refine (Valid_any ps A c w H.out).mono ?_; rintro e w1 ⟨rfl, k1⟩)
    go_ret
    exact ⟨by rw [Q.out]; rfl, k1⟩

end Go.Proofs.YtbfgmbakeofcbaaGreat
