/- Trains that follow their orders: after any number of events of a line the rest of it is the line, and no two trains hold the same section. No program in sight. Contract of takeover.Orders where the planned orders have a line. Conditions: as the theorem says. Contracts of the reference's ready, LineOf and Line. Conditions: as each theorem says. -/
import Derived.Test.YtbfgmbakeofcbaaK31
import Derived.Test.YtbfgmbakeofcbaaK28
import Derived.Test.YtbfgmbakeofcbaaK13
import Derived.Test.YtbfgmbakeofcbaaK15
import Derived.Test.YtbfgmbakeofcbaaK30
namespace Go.Proofs.Ytbfgmbakeofcbaa
open Go.RowKit

theorem lineFrom_take (go : List Int → Option Nat) : ∀ (m f : Nat) (now : List Int), m ≤ f →
    (lineFrom go f now).1.take m = (lineFrom go m now).1 ∧ (lineFrom go f now).2 = (lineFrom go (f - m) (lineFrom go m now).2).2 ∧ (lineFrom go f now).1 = (lineFrom go m now).1 ++ (lineFrom go (f - m) (lineFrom go m now).2).1
  | 0, f, now, _ => by simp [lineFrom]
  | m + 1, 0, now, h => by omega
  | m + 1, f + 1, now, h => by
    simp only [lineFrom]
    cases e : go now with
    | none =>
      simp only [List.take_nil, List.nil_append, true_and]
      have : ∀ k, lineFrom go k now = ([], now) := fun k => by
        cases k with
        | zero => rfl
        | succ k => simp only [lineFrom, e]
      rw [this]; exact ⟨rfl, rfl⟩
    | some t =>
      obtain ⟨i1, i2, i3⟩ := lineFrom_take go m f (now.set t (nowAt now t + 1)) (by omega)
      simp only [List.take_succ_cons, List.cons_append, i1, Nat.add_sub_add_right]
      exact ⟨trivial, i2, by rw [← i3]⟩

/-- no arc leads from an event that has not happened to one that has -/
def AgreeP (ps : List (List Stage)) (os : List Order) (now : List Int) : Prop := ∀ (t k : Nat) (p : List Stage), ps[t]? = some p → k ≤ p.length → (k : Int) ≤ nowAt now t → ∀ a ∈ rowG ps os ⟨(t : Int), (k : Int)⟩, doneR now (evAt ps a.frm.toNat) = true
theorem evAt_fst {ps : List (List Stage)} {t k : Nat} {p : List Stage} (hp : ps[t]? = some p) (hk : k ≤ p.length) : evAt ps (fst ps t + k) = ⟨(t : Int), (k : Int)⟩ := by unfold evAt; rw [evs_at hp hk]; rfl
theorem agreesB_iff {ps : List (List Stage)} {os : List Order} {now : List Int} : agreesB ps now (arcsOf (evs ps).length (gAdds ps os)) = true ↔ AgreeP ps os now := by
  unfold agreesB AgreeP
  simp only [List.all_eq_true, List.mem_range, Bool.not_eq_true', Bool.and_eq_false_iff, Bool.not_eq_false']
  constructor
  · intro h t k p hp hk hd a ha
    have hlt := (evAt_num hp hk).2
    have hn : num ps ⟨(t : Int), (k : Int)⟩ = fst ps t + k := by simp [num]
    have := h _ hlt a ha
    rw [hn, evAt_fst hp hk] at this
    rcases this with h1 | h1
    · unfold doneR at h1; simp at h1; omega
    · exact h1
  · intro h i hi a ha
    obtain ⟨t, k, p, _, hp, hk, rfl⟩ := evs_inv ps.length (Nat.le_refl _) (i := i) (by rw [fst_len]; exact hi)
    rw [evAt_fst hp hk]
    by_cases hd : (k : Int) ≤ nowAt now t
    · exact .inr (h t k p hp hk hd a (by unfold rowG; rw [show num ps ⟨(t : Int), (k : Int)⟩ = fst ps t + k from by simp [num]]; exact ha))
    · left; unfold doneR; simp; omega
theorem evAt_tr (ps : List (List Stage)) (i : Nat) : 0 ≤ (evAt ps i).tr := by
  unfold evAt
  cases h : (evs ps)[i]? with
  | none => simp
  | some u =>
    have hm := List.mem_of_getElem? h
    unfold evs at hm
    obtain ⟨q, _, hq⟩ := List.mem_flatMap.1 hm
    obtain ⟨k, _, rfl⟩ := List.mem_map.1 hq
    simp
theorem AgreeP.step {ps : List (List Stage)} {os : List Order} {now : List Int} (hg : Gd ps now) (h : AgreeP ps os now) {t : Nat} (ht : t < ps.length) (hc : canGo ps (arcsOf (evs ps).length (gAdds ps os)) now t = true) : AgreeP ps os (now.set t (nowAt now t + 1)) := by
  have hl : t < now.length := by rw [hg.1]; exact ht
  have hG := hg.2 t ht
  intro u k p hp hk hd a ha
  have hd2 : doneR (now.set t (nowAt now t + 1)) ⟨(u : Int), (k : Int)⟩ = true := by unfold doneR; simpa using hd
  have hdone : doneR now (evAt ps a.frm.toNat) = true := by
    rcases (done_set hl (by simp)).1 hd2 with h1 | h1
    · exact h u k p hp hk (by unfold doneR at h1; simpa using h1) a ha
    · simp only [Ref.mk.injEq] at h1
      have hu : u = t := by omega
      subst hu
      simp only [canGo, Bool.and_eq_true, decide_eq_true_eq, List.all_eq_true] at hc
      refine hc.2 a ?_
      unfold rowG num at ha
      simp only [Int.toNat_natCast] at ha
      rw [show ((fst ps u : Int) + nowAt now u + 1).toNat = fst ps u + k from by omega]
      exact ha
  exact (done_set hl (evAt_tr _ _)).2 (.inl hdone)
theorem line_agree {ps : List (List Stage)} {os : List Order} : ∀ (f : Nat) (now : List Int), Gd ps now → AgreeP ps os now → AgreeP ps os (lineFrom (readyP ps (arcsOf (evs ps).length (gAdds ps os))) f now).2
  | 0, now, _, h => h
  | f + 1, now, hg, h => by
    simp only [lineFrom]
    cases e : readyP ps (arcsOf (evs ps).length (gAdds ps os)) now with
    | none => exact h
    | some t =>
      obtain ⟨h1, h2⟩ := readyP_sound ps (arcsOf (evs ps).length (gAdds ps os)) now t e
      have hcan : canGo ps (arcsOf (evs ps).length (gAdds ps os)) now t = true := by
        unfold readyP at e; exact List.find?_some e
      exact line_agree f _ (hg.step h1 h2) (h.step hg h1 hcan)

theorem nodup_leR {l m : List Ref} (hl : l.Nodup) (h : ∀ x ∈ l, x ∈ m) : l.length ≤ m.length := by
  induction l generalizing m with
  | nil => simp
  | cons a l ih =>
    obtain ⟨ha, hl⟩ := List.nodup_cons.1 hl
    have hm := h a (by simp)
    have := ih (m := m.erase a) hl (fun x hx => by
      have hx' := h x (by simp [hx])
      exact (List.mem_erase_of_ne (by rintro rfl; exact ha hx)).2 hx')
    rw [List.length_erase_of_mem hm] at this
    have := List.length_pos_of_mem hm
    simp; omega
theorem nodup_fullR {l m : List Ref} (hl : l.Nodup) (h : ∀ x ∈ l, x ∈ m) (hlen : m.length ≤ l.length) : ∀ x ∈ m, x ∈ l := by
  intro x hx
  rcases Classical.em (x ∈ l) with h' | h'
  · exact h'
  · have := nodup_leR (l := x :: l) (m := m) (List.nodup_cons.2 ⟨h', hl⟩) (fun y hy => by
      rcases List.mem_cons.1 hy with rfl | hy
      · exact hx
      · exact h y hy)
    simp at this; omega
theorem secAt_some {p : List Stage} {a : Int} (h : 0 ≤ secAt p a) : ∃ (k : Nat) (s : Stage), a = (k : Int) ∧ p[k]? = some s ∧ secAt p a = s.sec := by
  unfold secAt at h ⊢
  by_cases g : a < 0
  · rw [if_pos g] at h; omega
  · rw [if_neg g] at h ⊢
    cases e : p[a.toNat]? with
    | none => rw [e] at h; simp at h
    | some s => exact ⟨a.toNat, s, by omega, e, rfl⟩
/-- where no arc is against the positions, no two trains hold the same section -/
theorem agree_excl {ps : List (List Stage)} {os : List Order} {now : List Int} (hck : checkO ps os = true) (_hg : Gd ps now) (h : AgreeP ps os now) {t u k m : Nat} {p q : List Stage} {s s' : Stage} (htu : t ≠ u) (hp : ps[t]? = some p) (hq : ps[u]? = some q)
    (hs : p[k]? = some s) (hs' : q[m]? = some s') (hsec : s.sec = s'.sec) (hk : nowAt now t = (k : Int)) (hm : nowAt now u = (m : Int)) : False := by
  have key : ∀ (t u k m : Nat) (p q : List Stage) (s s' : Stage), t ≠ u → ps[t]? = some p → ps[u]? = some q → p[k]? = some s → q[m]? = some s' → s.sec = s'.sec → nowAt now t = (k : Int) → nowAt now u = (m : Int) →
      ∀ o ∈ os, o.res = s.sec → ∀ (i j : Nat), i < j → o.uses[i]? = some ⟨(t : Int), (k : Int)⟩ → o.uses[j]? = some ⟨(u : Int), (m : Int)⟩ → False := by
    intro t u k m p q s s' htu hp hq hs hs' hsec hk hm o ho hr i j hij hi hj
    obtain ⟨_, _, hf⟩ := checkO_facts hck
    obtain ⟨hin, _, hbef⟩ := hf o ho
    have hvm : (⟨(t : Int), (k : Int)⟩ : Ref) ∈ o.uses.take j := List.mem_of_getElem? (by rw [List.getElem?_take_of_lt hij]; exact hi)
    obtain ⟨w, hL, hwt, hws⟩ := last_of (o.uses.take j) (fun x hx => hin x (List.mem_of_mem_take hx)) _ hvm
    obtain ⟨tr', kr, pr, hpr, hkr, hrel, htr⟩ := rel_event (hin w (List.mem_of_mem_take hL.1))
    have hrs := relOf_le (ps := ps) (r := o.res) hwt.symm hws
    have hvr : (relOf ps o.res ⟨(t : Int), (k : Int)⟩).st = (k : Int) + 1 := by
      unfold relOf secOf
      simp only [Int.toNat_natCast, hp, Option.getD_some, hs, Option.elim_some]
      rw [if_pos hr.symm]
    simp only at hwt hws
    rw [hrel, hvr] at hrs
    simp only at hrs
    have : tr' = t := by omega
    subst this
    have lm := getElem?_lt hs'
    have harc := (mem_rowG hck hq (k := m) (by omega)).2 (.inr ⟨o, ho, j, w, hj, hL, by omega, rfl⟩)
    have hd := h u m q hq (by omega) (by omega) _ harc
    simp only [] at hd
    rw [hrel, evAt_num' hpr hkr] at hd
    unfold doneR at hd
    simp at hd
    omega
  have hckf := hck
  simp only [checkO, Bool.and_eq_true, decide_eq_true_eq, List.all_eq_true] at hckf
  obtain ⟨⟨hv, hr⟩, ha⟩ := hckf
  have hu1 : s.sec ∈ usesAll ps := mem_usesAll.2 ⟨t, k, p, s, hp, hs, by simp [stUses]⟩
  have hb := valid_use hv hu1
  have hres : s.sec ∈ resTo ps 144 := (mem_resTo 144).2 ⟨hu1, hb.1, by omega⟩
  rw [← hr] at hres
  obtain ⟨o, ho, hor⟩ := List.mem_map.1 hres
  have hex := ha o ho
  simp only [exactlyB, Bool.and_eq_true, decide_eq_true_eq, List.all_eq_true] at hex
  have hnd : o.uses.Nodup := hex.2.imp fun h => h.1
  have hfull : ∀ x ∈ allU ps o.res, x ∈ o.uses := by
    have hsub : ∀ x ∈ o.uses, x ∈ allU ps o.res := hex.1.2
    exact nodup_fullR hnd hsub (by omega)
  obtain ⟨i, hi⟩ := List.mem_iff_getElem?.1 (hfull ⟨(t : Int), (k : Int)⟩ (mem_allU.2 ⟨t, k, p, s, hp, hs, by rw [hor]; simp [stUses], rfl⟩))
  obtain ⟨j, hj⟩ := List.mem_iff_getElem?.1 (hfull ⟨(u : Int), (m : Int)⟩ (mem_allU.2 ⟨u, m, q, s', hq, hs', by rw [hor, hsec]; simp [stUses], rfl⟩))
  rcases Nat.lt_trichotomy i j with h1 | h1 | h1
  · exact key t u k m p q s s' htu hp hq hs hs' hsec hk hm o ho hor i j h1 hi hj
  · subst h1
    rw [hi] at hj
    injection hj with hj
    simp only [Ref.mk.injEq] at hj
    omega
  · exact key u t m k q p s' s (fun e => htu e.symm) hq hp hs' hs hsec.symm hm hk o ho (by rw [hor, hsec]) j i h1 hj hi

theorem checkState_zero {ps : List (List Stage)} {at_ : List Int} (h : checkState ps at_ = 0) : valid ps = true ∧ good ps at_ = true ∧ (heldOf ps at_).Nodup := by
  unfold checkState at h
  by_cases g : (valid ps && good ps at_) = false
  · rw [if_pos g] at h; omega
  · rw [if_neg g] at h
    have g' : (valid ps && good ps at_) = true := by simpa using g
    rw [Bool.and_eq_true] at g'
    by_cases g2 : (heldOf ps at_).Nodup
    · exact ⟨g'.1, g'.2, g2⟩
    · rw [if_neg g2] at h; omega

set_option maxRecDepth 100000 in
set_option maxHeartbeats 1000000 in
theorem TOrders_line (ps : List (List Stage)) (os : List Order) (at_ : List Int) (budget : Int) (A A2 A3 : Option Addr) (c c2 c3 : Nat) (w : World) (h : RPaths w (Old w) [.slice A ps.length c] ps) (h2 : ROrders w (Old w) [.slice A2 os.length c2] os) (h3 : RInts w (Old w) [.slice A3 at_.length c3] at_)
    (hck : checkO ps os = true) (hcs : checkState ps at_ = 0) (hb : 1 ≤ budget ∧ budget ≤ 1048576) (hok : okP ps os at_ = true) :
    Calls Try.prog 10 #[.slice A ps.length c, .slice A2 os.length c2, .slice A3 at_.length c3, .int .i64 budget] w fun e w' => ∃ v, e = .returned (.tuple #[v, .int .i64 0, .int .i64 0]) ∧ ROrders w' (Old w') [v] (restP ps os at_) ∧ KeepsAll w w' := by
  have HCK := Lib.hid (Check_any ps os A A2 c c2 w h h2)
  have Q : Hid ((lineP ps os at_).2 = true) := by show _ = _; unfold lineP; rw [hck, (checkState_zero hcs).2.1, hok]; rfl
  have H := Lib.hid h; have H2 := Lib.hid h2; have H3 := Lib.hid h3
  have b1 : decide (budget < 1) = false := by simp; omega
  have b2 : decide (budget > 1048576) = false := by simp; omega
  rw [hck] at HCK
  clear h h2 h3 hok hck
  go_enter Try.func10, Try.ntmps10
  go_wp2_with fail
  refine HCK.out.mono ?_
  rintro e w1 ⟨rfl, k1⟩
  have K1 := Lib.hid k1; clear k1 HCK
  go_wp2_with fail
  refine (DCheck_any ps at_ A A3 c c3 w1 (K1.out.rdo' RPaths.ok H.out) (K1.out.rdo' RInts.ok H3.out)).mono ?_
  rintro e w2 ⟨rfl, k2⟩
  rw [hcs]
  have K2 := Lib.hid (K1.out.tr k2); clear k2 K1 hcs
  go_wp2_with fail
  refine (Rest_any ps os at_ A A2 A3 c c2 c3 w2 (K2.out.rdo' RPaths.ok H.out) (K2.out.rdo' ROrders.ok H2.out) (K2.out.rdo' RInts.ok H3.out)).mono ?_
  rintro e w3 ⟨v3, rfl, r3, k3⟩
  have K3 := Lib.hid (K2.out.tr k3)
  have R3 := Lib.hid r3
  clear k3 r3 K2
  go_wp2_with fail
  refine (Line_any ps os at_ A A2 A3 c c2 c3 w3 (K3.out.rdo' RPaths.ok H.out) (K3.out.rdo' ROrders.ok H2.out) (K3.out.rdo' RInts.ok H3.out)).mono ?_
  rintro e w4 ⟨v4, rfl, r4, k4⟩
  rw [Q.out]
  have K4 := Lib.hid (K3.out.tr k4)
  have R4 := Lib.hid (k4.rdo' ROrders.ok R3.out)
  clear k4 r4 K3 R3
  go_wp2
  go_ret3
  exact ⟨_, rfl, R4.out, K4.out⟩

set_option maxRecDepth 100000 in
set_option maxHeartbeats 1000000 in
theorem RefReady_any (arcs : List RArc) (now : List Int) (A A2 : Option Addr) (c c2 : Nat) (u : Ref) (w : World) (h : RRArcs w (Old w) [.slice A arcs.length c] arcs) (h2 : RInts w (Old w) [.slice A2 now.length c2] now) (hin : ∀ a ∈ arcs, 0 ≤ a.frm.tr ∧ a.frm.tr < now.length) :
    Calls Try.prog 61 #[.slice A arcs.length c, .slice A2 now.length c2, .agg #[.int .i64 u.tr, .int .i64 u.st]] w fun e w' => e = .returned (.bool (rdyR arcs now u)) ∧ KeepsAll w w' := by
  have hc := h.caps
  have hc2 := h2.caps
  have H := Lib.hid h; clear h
  have H2 := Lib.hid h2; clear h2
  have HIN := Lib.hid hin; clear hin
  go_enter Try.func61, Try.ntmps61
  go_wp2
  generalize hW : World.alloc w _ = W
  have KW : Hid (KeepsAll w W) := by subst hW; exact (Keeps.refl _ _).alloc _
  have BU : Hid (Blk W w.heap.size 46 #[.int .i64 u.tr, .int .i64 u.st]) := by subst hW; exact Blk.new _ _ _
  clear hW
  generalize w.heap.size = zu at *
  go_loopw [11] (fun i wr => ∃ k : Nat, k ≤ arcs.length ∧ i = .int .i64 k ∧ KeepsAll W wr ∧ rdyR (arcs.take k) now u = true) (fun i _ => arcs.length - (intOf i).toNat)
  case atStart => exact ⟨0, Nat.zero_le _, rfl, Keeps.refl _ _, by simp [rdyR]⟩
  case round =>
    obtain ⟨k, hk, rfl, hkr, hall⟩ := hrel
    have KR := Lib.hid hkr; clear hkr
    have HALL := Lib.hid hall; clear hall
    by_cases hlt : k < arcs.length
    · obtain ⟨b, o, a, hbo, hb, ha, m0, m1, m2, m3, m4⟩ := RRArcs.atK (KW.out.tr KR.out) H.out hlt
      subst hbo
      have hai := HIN.out a (List.mem_of_getElem? ha)
      obtain ⟨tf, htf⟩ := Int.eq_ofNat_of_zero_le hai.1
      have htl : tf < now.length := by omega
      obtain ⟨b3, o3, x, hbo, hb3, hx, q0⟩ := RInts.atK (KW.out.tr KR.out) H2.out htl
      subst hbo
      have BUr := BU.out.kept KR.out (by simp)
      have e0 := BUr.cell 0
      have e1 := BUr.cell 1
      simp at e0 e1
      have hzu := BUr.lt
      have HD : Hid (doneR now a.frm = decide (a.frm.st ≤ x)) := by
        show doneR _ _ = _
        unfold doneR
        rw [htf, Int.toNat_natCast, nowAt_of hx]
      have HQ : Hid (rdyR (arcs.take (k + 1)) now u = (rdyR (arcs.take k) now u && !(decide (a.to = u) && !doneR now a.frm))) := by
        show _ = _
        unfold rdyR
        rw [List.take_add_one, ha]
        simp
      have HBAD : Hid ((decide (a.to = u) && !doneR now a.frm) = true → rdyR arcs now u = false) := fun hb => by
        unfold rdyR
        rw [List.all_eq_false]
        exact ⟨a, List.mem_of_getElem? ha, by rw [hb]; simp⟩
      clear ha hx hai BUr
      have hdk : decide ((k : Int) < (arcs.length : Int)) = true := by simp; omega
      rw [htf] at m0
      go_wp2
      generalize hW2 : World.alloc wr _ = W2
      have KW2 : KeepsAll wr W2 := by subst hW2; exact (Keeps.refl _ _).alloc _
      have BA : Blk W2 wr.heap.size 111 #[.int .i64 (tf : Int), .int .i64 a.frm.st, .int .i64 a.to.tr, .int .i64 a.to.st, .int .i64 a.wt] := by subst hW2; exact Blk.new _ _ _
      have a0 := BA.cell 0
      have a1 := BA.cell 1
      have a2 := BA.cell 2
      have a3 := BA.cell 3
      simp at a0 a1 a2 a3
      have hza := BA.lt
      replace e0 := KW2.cellK (p := ⟨zu, 0, none⟩) hzu e0
      replace e1 := KW2.cellK (p := ⟨zu, 1, none⟩) hzu e1
      replace q0 := KW2.cellK (p := ⟨b3, o3 + tf, none⟩) hb3 q0
      have K2 := Lib.hid (KR.out.tr KW2)
      clear hW2 KW2 BA m0 m1 m2 m3 m4 hb hb3 hzu
      generalize wr.heap.size = za at *
      by_cases g1 : a.to = u
      · have g1' : a.to.tr = u.tr := by rw [g1]
        have g1'' : a.to.st = u.st := by rw [g1]
        rw [g1'] at a2
        rw [g1''] at a3
        by_cases g2 : a.frm.st ≤ x
        · have Q : Hid (rdyR (arcs.take (k + 1)) now u = true) := by show _ = _; rw [HQ.out, HALL.out, HD.out, decide_eq_true g2]; simp
          have g2' : decide (x < a.frm.st) = false := by simp; omega
          clear g1 g1' g1'' g2 HQ HD HBAD
          go_quiet (fail)
          go_wp2
          go_roundw
          case rel => exact ⟨k + 1, by omega, by go_num, K2.out.drewN _, Q.out⟩
          case measure => simp [intOf]; omega
        · have Q : Hid (rdyR arcs now u = false) := HBAD.out (by rw [HD.out]; simp [g1]; omega)
          have g2' : decide (x < a.frm.st) = true := by simp; omega
          clear g1 g1' g1'' g2 HQ HD HBAD
          go_quiet (fail)
          go_wp2
          go_ret
          exact ⟨by rw [Q.out]; rfl, (KW.out.tr K2.out).drewN _⟩
      · have Q : Hid (rdyR (arcs.take (k + 1)) now u = true) := by show _ = _; rw [HQ.out, HALL.out]; simp [g1]
        have g1n : ¬ (a.to.tr = u.tr ∧ a.to.st = u.st) := fun h => g1 (Ref.eq_of h.1 h.2)
        clear g1 HQ HD HBAD
        by_cases g3 : a.to.tr = u.tr
        · have g4 : ¬ a.to.st = u.st := fun h => g1n ⟨g3, h⟩
          have g4' : (a.to.st == u.st) = false := by simpa using g4
          rw [g3] at a2
          clear g1n g3
          go_quiet (fail)
          go_wp2
          go_roundw
          case rel => exact ⟨k + 1, by omega, by go_num, K2.out.drewN _, Q.out⟩
          case measure => simp [intOf]; omega
        · have g3' : (a.to.tr == u.tr) = false := by simpa using g3
          clear g1n
          go_quiet (fail)
          go_wp2
          go_roundw
          case rel => exact ⟨k + 1, by omega, by go_num, K2.out.drewN _, Q.out⟩
          case measure => simp [intOf]; omega
    · obtain rfl : k = arcs.length := by omega
      rw [List.take_length] at HALL
      go_wp2
      go_ret
      exact ⟨by rw [HALL.out]; rfl, KW.out.tr KR.out⟩

end Go.Proofs.Ytbfgmbakeofcbaa
