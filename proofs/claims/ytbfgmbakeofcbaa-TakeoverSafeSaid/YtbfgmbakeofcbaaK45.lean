/- A run of all trains that agrees with orders gives them a line; orders completed by the uses that are over. No program in sight. -/
import Derived.Test.YtbfgmbakeofcbaaK39
import Derived.Test.YtbfgmbakeofcbaaK28
namespace Go.Proofs.Ytbfgmbakeofcbaa
open Go.RowKit

theorem sub_take {l : List Ref} {u v : Ref} : [u, v].Sublist l ↔ ∃ j : Nat, l[j]? = some v ∧ u ∈ l.take j := by
  constructor
  · intro h
    induction l with
    | nil => simp at h
    | cons a l ih =>
      cases h with
      | cons _ h => obtain ⟨j, h1, h2⟩ := ih h; exact ⟨j + 1, by simpa using h1, by simp [h2]⟩
      | cons_cons _ h =>
        have hv : v ∈ l := List.singleton_sublist.1 h
        obtain ⟨j, hj⟩ := List.mem_iff_getElem?.1 hv
        exact ⟨j + 1, by simpa using hj, by simp⟩
  · rintro ⟨j, h1, h2⟩
    have e : l = l.take j ++ v :: l.drop (j + 1) := by
      conv => lhs; rw [← List.take_append_drop j l, drop_cons' h1]
    rw [e]
    exact (List.singleton_sublist.2 h2).append (List.singleton_sublist.2 (by simp))
theorem sub_append {l m : List Ref} {u v : Ref} (h : [u, v].Sublist (l ++ m)) : u ∈ l ∨ [u, v].Sublist m := by
  obtain ⟨a, b, e, h1, h2⟩ := List.sublist_append_iff.1 h
  cases a with
  | nil => right; rw [List.nil_append] at e; rw [e]; exact h2
  | cons x a =>
    injection e with e1 e2
    left
    subst e1
    exact h1.subset (by simp)

/-- no later use has begun where an earlier one of another train is not over -/
def AgreeS (ps : List (List Stage)) (os : List Order) (now : List Int) : Prop := ∀ o ∈ os, ∀ u v : Ref, [u, v].Sublist o.uses → u.tr ≠ v.tr → doneR now v = true → doneR now (relOf ps o.res u) = true
section
variable {ps : List (List Stage)} {os : List Order} {at_ now q : List Int}
theorem agreeS_arcs {t k : Nat} (h : AgreeS ps os now) (hd : doneR now ⟨(t : Int), (k : Int)⟩ = true) : ∀ a ∈ refArcs ps os, a.to = ⟨(t : Int), (k : Int)⟩ → doneR now a.frm = true := by
  intro a ha hto
  unfold refArcs at ha
  rcases List.mem_append.1 ha with ha | ha
  · obtain ⟨t', k', p', s', hp', hs', rfl⟩ := mem_chainR.1 ha
    injection hto with h1 h2
    have : t' = t := by omega
    subst this
    unfold doneR at hd ⊢
    simp at hd ⊢
    omega
  · obtain ⟨o, ho, ha⟩ := List.mem_flatMap.1 ha
    obtain ⟨j, v, u, hv, hu, hne, rfl⟩ := mem_orderR.1 ha
    simp only [betw] at hto ⊢
    exact h o ho u v (sub_take.2 ⟨j, hv, hu⟩) hne (by rw [hto]; exact hd)
theorem agree_iff (hck : checkO ps os = true) (hg : Gd ps now) : AgreeP ps os now ↔ AgreeS ps os now := by
  obtain ⟨_, _, hf⟩ := checkO_facts hck
  constructor
  · intro h o ho u v hs hne hd
    obtain ⟨j, hv, hu⟩ := sub_take.1 hs
    obtain ⟨t, k, p, s, hp, hk, _, rfl⟩ := mem_allU.1 ((hf o ho).1 v (List.mem_of_getElem? hv))
    have hkl := getElem?_lt hk
    have h1 := (arcs_agree hck hg hp (k := k) (by omega)).1 (h t k p hp (by omega) (by unfold doneR at hd; simpa using hd))
    exact h1 (betw ps o.res u ⟨(t : Int), (k : Int)⟩) (List.mem_append_right _ (List.mem_flatMap.2 ⟨o, ho, mem_orderR.2 ⟨j, _, u, hv, hu, hne, rfl⟩⟩)) rfl
  · intro h t k p hp hk hd
    exact (arcs_agree hck hg hp hk).2 (agreeS_arcs h (by unfold doneR; simpa using hd))
theorem lineFrom_ge {go : List Int → Option Nat} (hs : Sound ps go) (u : Nat) : ∀ (f : Nat) (now : List Int), Gd ps now → nowAt now u ≤ nowAt (lineFrom go f now).2 u
  | 0, _, _ => Int.le_refl _
  | f + 1, now, hg => by
    simp only [lineFrom]
    cases e : go now with
    | none => exact Int.le_refl _
    | some t =>
      obtain ⟨h1, h2⟩ := hs now t e
      have h3 := lineFrom_ge hs u f _ (hg.step h1 h2)
      have h4 : nowAt now u ≤ nowAt (now.set t (nowAt now t + 1)) u := by
        rw [nowAt_set (by rw [hg.1]; exact h1)]
        split
        · rename_i e; subst e; omega
        · exact Int.le_refl _
      exact Int.le_trans h4 h3
/-- a run of all trains that agrees with the orders at each step: they have a line -/
theorem ok_of_run (hck : checkO ps os = true) (hg : Gd ps at_) (hl : Legal ps at_ q) (hf : leftB ps (runM at_ q) = true) (hag : ∀ k, k ≤ q.length → AgreeS ps os (runM at_ (q.take k))) : okP ps os at_ = true := by
  have hv := (checkO_facts hck).1
  have hs := readyP_sound ps (arcsOf (evs ps).length (gAdds ps os))
  have hinv := lineFrom_inv hs 1000 at_ hg
  have hst := hinv.2.2 (by have := total_le hv hg; omega)
  have hge := fun u => lineFrom_ge hs u 1000 at_ hg
  have hgf := hinv.1
  have h0 := hag 0 (Nat.zero_le _)
  simp only [List.take_zero] at h0
  unfold okP
  rw [Bool.and_eq_true]
  refine ⟨?_, agreesB_iff.2 ((agree_iff hck hg).2 h0)⟩
  rw [Bool.not_eq_true']
  unfold runP
  generalize (lineFrom (readyP ps (arcsOf (evs ps).length (gAdds ps os))) 1000 at_).2 = now at *
  rw [doneL_total hgf, total_zero hgf]
  have hno : ∀ t, t < ps.length → nowAt now t < lenAt ps t → ¬ ∀ a ∈ refArcs ps os, a.to = ⟨(t : Int), nowAt now t + 1⟩ → doneR now a.frm = true := fun t ht hlt hall => by
    have hc : canGo ps (arcsOf (evs ps).length (gAdds ps os)) now t = false := by
      unfold readyP at hst
      have := List.find?_eq_none.1 hst t (List.mem_range.2 ht)
      simpa using this
    have hG := hgf.2 t ht
    have hp : ps[t]? = some ps[t] := List.getElem?_eq_getElem ht
    rw [lenAt_of hp] at hlt
    obtain ⟨k, hk⟩ := Int.eq_ofNat_of_zero_le (by omega : 0 ≤ nowAt now t + 1)
    rw [hk] at hall
    have h1 := (arcs_agree hck hgf hp (k := k) (by omega)).2 hall
    have : canGo ps (arcsOf (evs ps).length (gAdds ps os)) now t = true := by
      simp only [canGo, Bool.and_eq_true, decide_eq_true_eq, List.all_eq_true]
      refine ⟨by rw [lenAt_of hp]; exact hlt, fun a ha => h1 a ?_⟩
      have e : num ps ⟨(t : Int), (k : Int)⟩ = fst ps t + k := by simp [num]
      rw [e]
      rw [show ((fst ps t : Int) + nowAt now t + 1).toNat = fst ps t + k from by omega] at ha
      exact ha
    rw [hc] at this; cases this
  have key : ∀ k, k ≤ q.length → ∀ u, nowAt (runM at_ (q.take k)) u ≤ nowAt now u := by
    intro k
    induction k with
    | zero => intro _ u; exact hge u
    | succ k ih =>
      intro hk u
      have ih := ih (by omega)
      have hx : q[k]? = some q[k] := List.getElem?_eq_getElem (by omega)
      obtain ⟨g1, t, ht, htl, hcm⟩ := legal_at q at_ hg hl k _ hx
      have hA := hag (k + 1) hk
      rw [run_take_succ hx, ht, Int.toNat_natCast] at hA ⊢
      have hlen : t < (runM at_ (q.take k)).length := by rw [g1.1]; exact htl
      rw [nowAt_step hlen]
      split
      · rename_i e
        subst e
        have h1 := ih t
        rcases Int.lt_or_le (nowAt (runM at_ (q.take k)) t) (nowAt now t) with h2 | h2
        · omega
        · exfalso
          have heq : nowAt (runM at_ (q.take k)) t = nowAt now t := by omega
          have hclt := canMv_lt hcm
          rw [heq] at hclt
          have hgt := hgf.2 t htl
          refine hno t htl hclt fun a ha hto => ?_
          unfold refArcs at ha
          rcases List.mem_append.1 ha with ha | ha
          · obtain ⟨t', k', p', s', hp', hs', rfl⟩ := mem_chainR.1 ha
            injection hto with h3 h4
            have : t' = t := by omega
            subst this
            unfold doneR
            simp
            omega
          · obtain ⟨o, ho, ha⟩ := List.mem_flatMap.1 ha
            obtain ⟨j, v, u, hv', hu, hne, rfl⟩ := mem_orderR.1 ha
            simp only [betw] at hto ⊢
            have h3 := hA o ho u v (sub_take.2 ⟨j, hv', hu⟩) hne (by
              rw [hto]
              unfold doneR
              rw [decide_eq_true_eq]
              simp only [Int.toNat_natCast]
              rw [nowAt_step hlen, if_pos rfl, heq]
              exact Int.le_refl _)
            have hin := (checkO_facts hck).2.2 o ho
            obtain ⟨tu, ku, pu, su, hpu, hku, _, rfl⟩ := mem_allU.1 (hin.1 u (List.mem_of_mem_take hu))
            unfold doneR at h3 ⊢
            rw [decide_eq_true_eq] at h3 ⊢
            rw [relOf_tr] at h3 ⊢
            simp only [Int.toNat_natCast] at h3 ⊢
            rw [hto] at hne
            simp only at hne
            rw [nowAt_step hlen, if_neg (by omega)] at h3
            have := ih tu
            omega
      · exact ih u
  intro t ht
  have h1 := key q.length (Nat.le_refl _) t
  rw [List.take_length, leftB_at (legal_gd q at_ hg hl) hf ht] at h1
  have := hgf.2 t ht
  omega
/-- orders with a line: a run that agrees with them at each step -/
theorem run_of_ok (hck : checkO ps os = true) (hg : Gd ps at_) (hok : okP ps os at_ = true) : ∃ q, Legal ps at_ q ∧ leftB ps (runM at_ q) = true ∧ ∀ k, k ≤ q.length → AgreeS ps os (runM at_ (q.take k)) := by
  have hl := okP_left (checkO_facts hck).1 hg hok
  have hs := readyP_sound ps (arcsOf (evs ps).length (gAdds ps os))
  unfold okP at hok
  rw [Bool.and_eq_true] at hok
  have hag := agreesB_iff.1 hok.2
  obtain ⟨h1, h2⟩ := line_legal hck 1000 at_ hg hag
  refine ⟨_, h1, by rw [h2]; exact hl, fun k hk => ?_⟩
  rw [List.length_map] at hk
  have hlen := (lineFrom_inv hs 1000 at_ hg).2.1
  have ht := total_le (checkO_facts hck).1 hg
  have h3 := (lineFrom_take (readyP ps (arcsOf (evs ps).length (gAdds ps os))) k 1000 at_ (by omega)).1
  rw [← List.map_take, h3, (line_legal hck k at_ hg hag).2]
  have hgk := (lineFrom_inv hs k at_ hg).1
  exact (agree_iff hck hgk).1 (line_agree k at_ hg hag)
end

/-- the uses of a resource that are over, by stages -/
def wholeU (ps : List (List Stage)) (at_ : List Int) (r : Int) (n : Nat) : List Ref := (List.range n).flatMap fun k : Nat => (allU ps r).filter fun u => decide (u.st = (k : Int)) && overB ps at_ u r
def restOf (l : List Order) (r : Int) : List Ref := l.flatMap fun x => if x.res = r then x.uses else []
def wholeO (ps : List (List Stage)) (at_ : List Int) (l : List Order) (r : Int) : Order := ⟨r, wholeU ps at_ r 8 ++ restOf l r⟩
def wholeTo (ps : List (List Stage)) (at_ : List Int) (l : List Order) : Nat → List Order
  | 0 => []
  | n + 1 => wholeTo ps at_ l n ++ (if 0 < (wholeO ps at_ l (n : Int)).uses.length then [wholeO ps at_ l (n : Int)] else [])
theorem wholeTo_mem {ps : List (List Stage)} {at_ : List Int} {l : List Order} {o : Order} : ∀ {n : Nat}, o ∈ wholeTo ps at_ l n → ∃ r : Nat, r < n ∧ o = wholeO ps at_ l (r : Int)
  | 0, h => by simp [wholeTo] at h
  | n + 1, h => by
    rw [wholeTo, List.mem_append] at h
    rcases h with h | h
    · obtain ⟨r, h1, h2⟩ := wholeTo_mem h
      exact ⟨r, by omega, h2⟩
    · split at h
      · simp at h; exact ⟨n, by omega, h⟩
      · simp at h
theorem before_nodup {l : List Ref} (h : l.Pairwise Before) : l.Nodup := h.imp fun h e => by subst e; have := h rfl; omega
section
variable {ps : List (List Stage)} {os : List Order} {at_ : List Int} {r : Int}
theorem wholeU_mem {n : Nat} {u : Ref} : u ∈ wholeU ps at_ r n ↔ u ∈ allU ps r ∧ overB ps at_ u r = true ∧ ∃ k, k < n ∧ u.st = (k : Int) := by
  unfold wholeU
  simp only [List.mem_flatMap, List.mem_range, List.mem_filter, Bool.and_eq_true, decide_eq_true_eq]
  constructor
  · rintro ⟨k, hk, h1, h2, h3⟩; exact ⟨h1, h3, k, hk, h2⟩
  · rintro ⟨h1, h3, k, hk, h2⟩; exact ⟨k, hk, h1, h2, h3⟩
theorem wholeU_before : ∀ n : Nat, (wholeU ps at_ r n).Pairwise Before
  | 0 => by simp [wholeU]
  | n + 1 => by
    have e : wholeU ps at_ r (n + 1) = wholeU ps at_ r n ++ (allU ps r).filter fun u => decide (u.st = (n : Int)) && overB ps at_ u r := by
      unfold wholeU; rw [List.range_succ, List.flatMap_append]; simp
    rw [e, List.pairwise_append]
    refine ⟨wholeU_before n, ?_, fun a ha b hb => ?_⟩
    · refine (((allU_lex ps r).imp fun {a b} h => ?_).sublist (List.filter_sublist ..))
      intro e; unfold Lex at h; omega
    · obtain ⟨_, _, k, hk, h1⟩ := wholeU_mem.1 ha
      have h2 := (List.mem_filter.1 hb).2
      simp only [Bool.and_eq_true, decide_eq_true_eq] at h2
      intro _; omega
/-- what is appended: uses that are not over -/
structure RestR (ps : List (List Stage)) (at_ : List Int) (r : Int) (R : List Ref) : Prop where
  perm : R.Perm (openU ps at_ r (allU ps r))
  bef : R.Pairwise Before
theorem whole_exact (h8 : ∀ p ∈ ps, p.length ≤ 8) {R : List Ref} (h : RestR ps at_ r R) : exactlyB (wholeU ps at_ r 8 ++ R) (allU ps r) = true := by
  have hb : (wholeU ps at_ r 8 ++ R).Pairwise Before := by
    rw [List.pairwise_append]
    refine ⟨wholeU_before 8, h.bef, fun a ha b hb e => ?_⟩
    obtain ⟨_, h1, _⟩ := wholeU_mem.1 ha
    have h2 := h.perm.mem_iff.1 hb
    unfold openU at h2
    have h3 := (List.mem_filter.1 h2).2
    rcases Int.lt_or_le a.st b.st with h4 | h4
    · exact h4
    · exfalso
      have h5 := relOf_le (ps := ps) (r := r) e.symm h4
      unfold overB at h1 h3
      simp only [Bool.not_eq_true', decide_eq_true_eq, decide_eq_false_iff_not] at h1 h3
      rw [e] at h1
      omega
  have hnd := before_nodup hb
  have hnd2 : (allU ps r).Nodup := (allU_lex ps r).imp fun h e => by subst e; unfold Lex at h; omega
  have hm : ∀ x, x ∈ wholeU ps at_ r 8 ++ R ↔ x ∈ allU ps r := fun x => by
    rw [List.mem_append, wholeU_mem, h.perm.mem_iff]
    unfold openU
    rw [List.mem_filter]
    constructor
    · rintro (h | h) <;> exact h.1
    · intro hx
      cases ho : overB ps at_ x r with
      | true =>
        left
        obtain ⟨t, k, p, s, hp, hs, _, rfl⟩ := mem_allU.1 hx
        exact ⟨hx, rfl, k, by have := getElem?_lt hs; have := h8 p (List.mem_of_getElem? hp); omega, rfl⟩
      | false => right; exact ⟨hx, by simp⟩
  have hperm := (List.perm_ext_iff_of_nodup hnd hnd2).2 hm
  simp only [exactlyB, Bool.and_eq_true, decide_eq_true_eq, List.all_eq_true]
  exact ⟨⟨hperm.length_eq, fun x hx => (hm x).1 hx⟩, pairOk_before.2 hb⟩
/-- the completed orders are proper -/
theorem whole_check (hv : valid ps = true) (h8 : ∀ p ∈ ps, p.length ≤ 8) {l : List Order} (h : ∀ r : Nat, r < 144 → RestR ps at_ (r : Int) (restOf l (r : Int))) : checkO ps (wholeTo ps at_ l 144) = true := by
  have hex : ∀ r : Nat, r < 144 → exactlyB (wholeO ps at_ l (r : Int)).uses (allU ps (r : Int)) = true := fun r hr => whole_exact h8 (h r hr)
  have hlen : ∀ r : Nat, r < 144 → (wholeO ps at_ l (r : Int)).uses.length = (allU ps (r : Int)).length := fun r hr => by
    have := hex r hr
    simp only [exactlyB, Bool.and_eq_true, decide_eq_true_eq] at this
    exact this.1.1
  have hres : ∀ n : Nat, n ≤ 144 → (wholeTo ps at_ l n).map (·.res) = resTo ps n := by
    intro n
    induction n with
    | zero => intro _; rfl
    | succ n ih =>
      intro hn
      have h1 := hlen n (by omega)
      have h2 := allU_nil_iff (ps := ps) (r := (n : Int))
      simp only [wholeTo, resTo, List.map_append, ih (by omega)]
      congr 1
      by_cases g : 0 < (wholeO ps at_ l (n : Int)).uses.length
      · rw [if_pos g]
        have : (n : Int) ∈ usesAll ps := by
          rcases Classical.em ((n : Int) ∈ usesAll ps) with h3 | h3
          · exact h3
          · rw [h2.2 h3, List.length_nil] at h1; omega
        simp [this, wholeO]
      · rw [if_neg g]
        have : (n : Int) ∉ usesAll ps := h2.1 (List.eq_nil_of_length_eq_zero (by omega))
        simp [this]
  simp only [checkO, Bool.and_eq_true, decide_eq_true_eq, List.all_eq_true]
  refine ⟨⟨hv, hres 144 (Nat.le_refl _)⟩, fun o ho => ?_⟩
  obtain ⟨r, hr, rfl⟩ := wholeTo_mem ho
  exact hex r hr
/-- what the rest of orders holds of a resource -/
theorem restOf_eq (F : Order → Order) (hF : ∀ o, (F o).res = o.res) (hF0 : ∀ r, (F ⟨r, []⟩).uses = []) : ∀ (os : List Order), (os.map (·.res)).Pairwise (· < ·) →
    (∀ r, r ∉ os.map (·.res) → restOf ((os.flatMap (restO ps at_)).map F) r = []) ∧ ∀ o ∈ os, restOf ((os.flatMap (restO ps at_)).map F) o.res = (F ⟨o.res, openU ps at_ o.res o.uses⟩).uses
  | [], _ => ⟨fun _ _ => rfl, fun o h => by simp at h⟩
  | a :: os, h => by
    rw [List.map_cons, List.pairwise_cons] at h
    obtain ⟨i1, i2⟩ := restOf_eq F hF hF0 os h.2
    have e : ∀ r, restOf (((a :: os).flatMap (restO ps at_)).map F) r = (if a.res = r then (F ⟨a.res, openU ps at_ a.res a.uses⟩).uses else []) ++ restOf ((os.flatMap (restO ps at_)).map F) r := fun r => by
      unfold restOf
      rw [List.flatMap_cons, List.map_append, List.flatMap_append]
      congr 1
      unfold restO
      split
      · rename_i g
        have g := List.eq_nil_of_length_eq_zero g
        rw [g, hF0]
        simp
      · simp [hF]
    refine ⟨fun r hr => ?_, fun o ho => ?_⟩
    · rw [List.map_cons, List.mem_cons, not_or] at hr
      rw [e, i1 r hr.2, if_neg (fun e => hr.1 e.symm)]; rfl
    · rcases List.mem_cons.1 ho with rfl | ho
      · rw [e, if_pos rfl, i1 _ (fun hm => by have := h.1 _ hm; omega), List.append_nil]
      · rw [e, if_neg (fun e => by have := h.1 _ (List.mem_map.2 ⟨o, ho, rfl⟩); omega), List.nil_append]
        exact i2 o ho
/-- the rest of proper orders, each list permuted so that trains keep their stages in order -/
theorem rest_rows (hck : checkO ps os = true) (hgd : good ps at_ = true) (F : Order → Order) (hF : ∀ o, (F o).res = o.res) (hF0 : ∀ r, (F ⟨r, []⟩).uses = []) (hF1 : ∀ o ∈ os, (F ⟨o.res, openU ps at_ o.res o.uses⟩).uses.Perm (openU ps at_ o.res o.uses) ∧ (F ⟨o.res, openU ps at_ o.res o.uses⟩).uses.Pairwise Before) (r : Nat) (hr : r < 144) :
    RestR ps at_ (r : Int) (restOf ((restP ps os at_).map F) (r : Int)) ∧ ((∃ o ∈ os, o.res = (r : Int) ∧ restOf ((restP ps os at_).map F) (r : Int) = (F ⟨o.res, openU ps at_ o.res o.uses⟩).uses) ∨ restOf ((restP ps os at_).map F) (r : Int) = []) := by
  have hos := hck
  simp only [checkO, Bool.and_eq_true, decide_eq_true_eq, List.all_eq_true] at hos
  obtain ⟨i1, i2⟩ := restOf_eq (ps := ps) (at_ := at_) F hF hF0 os (by rw [hos.1.2]; exact resTo_pw ps 144)
  have e : restP ps os at_ = os.flatMap (restO ps at_) := by unfold restP; rw [hck, hgd]; rfl
  rw [e]
  by_cases g : (r : Int) ∈ os.map (·.res)
  · obtain ⟨o, ho, hor⟩ := List.mem_map.1 g
    have h2 := i2 o ho
    obtain ⟨h3, h4⟩ := hF1 o ho
    have h5 := (perm_of_exactly (hos.2 o ho)).filter (fun u => !overB ps at_ u o.res)
    rw [hor] at h2 h3 h4 h5
    refine ⟨⟨?_, ?_⟩, .inl ⟨o, ho, hor, by rw [hor]; exact h2⟩⟩
    · rw [h2]; exact h3.trans h5
    · rw [h2]; exact h4
  · have h2 := i1 _ g
    have h3 : allU ps (r : Int) = [] := allU_nil_iff.2 fun h => g (by rw [hos.1.2]; exact (mem_resTo 144).2 ⟨h, by omega, by omega⟩)
    rw [h2]
    exact ⟨⟨by rw [h3]; exact List.Perm.nil, List.Pairwise.nil⟩, .inr rfl⟩
end

section
variable {ps : List (List Stage)} {os : List Order} {at_ mv : List Int}
theorem over_done {now : List Int} {u : Ref} {r : Int} (h : overB ps at_ u r = true) (hm : nowAt at_ u.tr.toNat ≤ nowAt now u.tr.toNat) : doneR now (relOf ps r u) = true := by
  unfold overB at h
  unfold doneR
  rw [relOf_tr]
  rw [decide_eq_true_eq] at *
  omega
/-- agreement of completed orders -/
theorem whole_agree {l : List Order} {now : List Int} (hm : ∀ u, nowAt at_ u ≤ nowAt now u) (h : ∀ r : Nat, r < 144 → ∀ u v : Ref, [u, v].Sublist (restOf l (r : Int)) → u.tr ≠ v.tr → doneR now v = true → doneR now (relOf ps (r : Int) u) = true) : AgreeS ps (wholeTo ps at_ l 144) now := by
  intro o ho u v hs hne hd
  obtain ⟨r, hr, rfl⟩ := wholeTo_mem ho
  rcases sub_append hs with h1 | h1
  · exact over_done (wholeU_mem.1 h1).2.1 (hm _)
  · exact h r hr u v h1 hne hd
theorem openU_before {r : Int} {l : List Ref} (h : l.Pairwise Before) : (openU ps at_ r l).Pairwise Before := h.sublist (List.filter_sublist ..)
/-- the planned orders: what is left of them, completed, has a line if they have one -/
theorem whole_planned (h8 : ∀ p ∈ ps, p.length ≤ 8) (hck : checkO ps os = true) (hgd : good ps at_ = true) (hok : okP ps os at_ = true) : checkO ps (wholeTo ps at_ (restP ps os at_) 144) = true ∧ okP ps (wholeTo ps at_ (restP ps os at_) 144) at_ = true := by
  obtain ⟨hv, _, hf⟩ := checkO_facts hck
  have hg := good_Gd.1 hgd
  have hR := rest_rows hck hgd id (fun _ => rfl) (fun _ => rfl) (fun o ho => ⟨List.Perm.refl _, openU_before (hf o ho).2.2⟩)
  simp only [List.map_id, id_eq] at hR
  have hwc := whole_check hv h8 fun r hr => (hR r hr).1
  obtain ⟨q, h1, h2, h3⟩ := run_of_ok hck hg hok
  refine ⟨hwc, ok_of_run hwc hg h1 h2 fun k hk => whole_agree (fun u => run_mono hg h1 (i := 0) u k (Nat.zero_le _) hk) fun r hr u v hs hne hd => ?_⟩
  rcases (hR r hr).2 with ⟨o, ho, hor, e⟩ | e
  · rw [e] at hs
    have := h3 k hk o ho u v (hs.trans (List.filter_sublist ..)) hne hd
    rw [hor] at this
    exact this
  · rw [e] at hs; simp at hs
/-- orders sorted by the moves of a run, completed, have a line -/
theorem whole_moves (hmd : psMade ps) (hck : checkO ps os = true) (hcs : checkState ps at_ = 0) (hl : Legal ps at_ mv) (hf : leftB ps (runM at_ mv) = true) :
    checkO ps (wholeTo ps at_ ((restP ps os at_).map (sortTO (entL ps at_ mv))) 144) = true ∧ okP ps (wholeTo ps at_ ((restP ps os at_).map (sortTO (entL ps at_ mv))) 144) at_ = true := by
  obtain ⟨hv, hgd, _⟩ := checkState_zero hcs
  have hg := good_Gd.1 hgd
  obtain ⟨_, _, hfc⟩ := checkO_facts hck
  have hos := hck
  simp only [checkO, Bool.and_eq_true, decide_eq_true_eq, List.all_eq_true] at hos
  have hFu : ∀ o : Order, (sortTO (entL ps at_ mv) o).uses = sortR (entL ps at_ mv) o.uses := fun o => sortT_eq _ _
  have hmemo : ∀ o ∈ os, ∀ u, u ∈ sortR (entL ps at_ mv) (openU ps at_ o.res o.uses) → u ∈ openU ps at_ o.res (allU ps o.res) := fun o ho u hu =>
    ((perm_of_exactly (hos.2 o ho)).filter _).mem_iff.1 ((sortR_perm _ _).mem_iff.1 hu)
  have hlt : ∀ o ∈ os, ∀ u v, [u, v].Sublist (sortR (entL ps at_ mv) (openU ps at_ o.res o.uses)) → enAt (entL ps at_ mv) u < enAt (entL ps at_ mv) v := fun o ho u v hs => by
    have h1 := List.pairwise_iff_forall_sublist.1 (sortR_asc (entL ps at_ mv) (openU ps at_ o.res o.uses)) hs
    rcases Int.lt_or_eq_of_le h1 with h2 | h2
    · exact h2
    · exfalso
      have he := entL_ne hcs hl hf (hmemo o ho u (hs.subset (by simp))) (hmemo o ho v (hs.subset (by simp))) h2
      subst he
      have hnd : (sortR (entL ps at_ mv) (openU ps at_ o.res o.uses)).Nodup := (sortR_perm _ _).nodup_iff.2 (before_nodup (openU_before (hfc o ho).2.2))
      exact (List.pairwise_iff_forall_sublist.1 hnd hs) rfl
  have hR := rest_rows hck hgd (sortTO (entL ps at_ mv)) (fun _ => rfl) (fun _ => rfl) (fun o ho => by
    rw [hFu]
    refine ⟨sortR_perm _ _, ?_⟩
    refine List.pairwise_iff_forall_sublist.2 fun {a b} hs e => ?_
    have h1 := hlt o ho a b hs
    have ha := hmemo o ho a (hs.subset (by simp))
    have hb := hmemo o ho b (hs.subset (by simp))
    unfold openU at ha hb
    obtain ⟨t, k, p, s, hp, hk, _, rfl⟩ := mem_allU.1 (List.mem_filter.1 ha).1
    obtain ⟨t', k', p', s', hp', hk', _, rfl⟩ := mem_allU.1 (List.mem_filter.1 hb).1
    simp only at e ⊢
    have : t = t' := by omega
    subst this
    rcases Nat.lt_or_ge k k' with h2 | h2
    · omega
    · rw [hp] at hp'; injection hp' with hp'; subst hp'
      rcases Nat.lt_or_eq_of_le h2 with h3 | h3
      · have := entL_mono hg hl hf hp (getElem?_lt hk) h3; omega
      · subst h3; omega)
  have hwc := whole_check hv (fun p hp => by have := (hmd.2.2 p hp).2.1; omega) fun r hr => (hR r hr).1
  refine ⟨hwc, ok_of_run hwc hg hl hf fun k hk => whole_agree (fun u => run_mono hg hl (i := 0) u k (Nat.zero_le _) hk) fun r hr u v hs hne hd => ?_⟩
  rcases (hR r hr).2 with ⟨o, ho, hor, e⟩ | e
  · rw [e, hFu] at hs
    have h1 := hlt o ho u v hs
    have hu := hmemo o ho u (hs.subset (by simp))
    have hv' := hmemo o ho v (hs.subset (by simp))
    unfold openU at hu hv'
    obtain ⟨tu, ku, pu, su, hpu, hku, hru, rfl⟩ := mem_allU.1 (List.mem_filter.1 hu).1
    obtain ⟨tv, kv, pv, sv, hpv, hkv, hrv, rfl⟩ := mem_allU.1 (List.mem_filter.1 hv').1
    have lu := getElem?_lt hku
    have lv := getElem?_lt hkv
    have hd' : (kv : Int) ≤ nowAt (runM at_ (mv.take k)) tv := by unfold doneR at hd; simpa using hd
    by_cases gv : (kv : Int) ≤ nowAt at_ tv
    · rw [entL_old hg hl hpv lv gv] at h1
      by_cases gu : (ku : Int) ≤ nowAt at_ tu
      · rw [entL_old hg hl hpu lu gu] at h1; omega
      · obtain ⟨i, e1, _⟩ := entL_new hg hl hf hpu lu (by omega)
        rw [e1] at h1; omega
    · obtain ⟨j, e1, m1, n1⟩ := entL_new hg hl hf hpv lv (by omega)
      have hjl := getElem?_lt m1
      have hjk : j < k := by
        rcases Nat.lt_or_ge j k with h2 | h2
        · exact h2
        · have := run_mono hg hl (i := k) tv j h2 (by omega); omega
      -- the earlier use has begun at step j
      have hub : (ku : Int) ≤ nowAt (runM at_ (mv.take j)) tu := by
        by_cases gu : (ku : Int) ≤ nowAt at_ tu
        · have := run_mono hg hl (i := 0) tu j (Nat.zero_le _) (by omega)
          simp only [List.take_zero] at this
          have e0 : runM at_ [] = at_ := rfl
          rw [e0] at this; omega
        · obtain ⟨i, e2, m2, n2⟩ := entL_new hg hl hf hpu lu (by omega)
          rw [e1, e2] at h1
          have hil := getElem?_lt m2
          have h3 := run_mono hg hl (i := i + 1) tu j (by omega) (by omega)
          obtain ⟨g1, t', ht', htl, _⟩ := legal_at mv at_ hg hl i _ m2
          have : tu = t' := by omega
          subst this
          rw [run_take_succ m2, Int.toNat_natCast, nowAt_step (by rw [g1.1]; exact htl), if_pos rfl] at h3
          omega
      have hmk := run_mono hg hl (i := j) tu k (by omega) hk
      unfold doneR
      rw [relOf_tr]
      rw [decide_eq_true_eq]
      simp only [Int.toNat_natCast]
      unfold relOf
      have hsu : secOf ps ⟨(tu : Int), (ku : Int)⟩ = su.sec := by unfold secOf; simp [hpu, hku]
      rw [hsu]
      by_cases gs : su.sec = (r : Int)
      · rw [if_pos gs]
        simp only
        -- the move of step j enters the section
        obtain ⟨g1, t', ht', htl, hcm⟩ := legal_at mv at_ hg hl j _ m1
        have : tv = t' := by omega
        subst this
        simp only [canMv, Bool.and_eq_true, decide_eq_true_eq, Bool.not_eq_true'] at hcm
        have hbl := hcm.2
        unfold blockedB at hbl
        rw [hpv, Option.getD_some, show (nowAt (runM at_ (mv.take j)) tv + 1).toNat = kv from by omega, hkv] at hbl
        simp only [List.any_eq_false, List.mem_range, Bool.and_eq_true, decide_eq_true_eq, not_and] at hbl
        have h4 := hbl tu (getElem?_lt hpu) (by simp only at hne; omega)
        have hsv : sv.sec = (r : Int) := by
          have hmu := (hmd.2.2 pu (List.mem_of_getElem? hpu)).2.2.1 su (List.mem_of_getElem? hku)
          have hmv := (hmd.2.2 pv (List.mem_of_getElem? hpv)).2.2.1 sv (List.mem_of_getElem? hkv)
          unfold stMade at hmu hmv
          unfold stUses at hrv
          rw [hor] at hrv
          rcases List.mem_cons.1 hrv with h5 | h5
          · exact h5.symm
          · rcases hmv.2.2.1 with h6 | h6 | h6 <;> rw [h6] at h5 <;> simp at h5 <;> omega
        rcases Int.lt_or_le (ku : Int) (nowAt (runM at_ (mv.take j)) tu) with h5 | h5
        · omega
        · exfalso
          refine h4 ?_
          unfold secNow secAt
          rw [hpu, Option.getD_some, show nowAt (runM at_ (mv.take j)) tu = (ku : Int) from by omega, if_neg (by omega), Int.toNat_natCast, hku]
          simp only
          rw [gs, hsv]
      · rw [if_neg gs]
        simp only
        omega
  · rw [e] at hs; simp at hs
/-- the law: what Orders returns, completed, is proper and has a line -/
theorem take_line (hmd : psMade ps) (hck : checkO ps os = true) {budget : Int} (h : (takeP ps os at_ budget).2.2 = 0) :
    checkO ps (wholeTo ps at_ (takeP ps os at_ budget).1 144) = true ∧ okP ps (wholeTo ps at_ (takeP ps os at_ budget).1 144) at_ = true := by
  unfold takeP at h ⊢
  rw [if_neg (by simp [hck])] at h ⊢
  by_cases g0 : checkState ps at_ = 0
  · rw [if_neg (by simpa using g0)] at h ⊢
    obtain ⟨_, hgd, _⟩ := checkState_zero g0
    by_cases g1 : budget < 1 ∨ 1048576 < budget
    · rw [if_pos g1] at h; simp at h
    · rw [if_neg g1] at h ⊢
      by_cases g2 : okP ps os at_ = true
      · rw [if_pos g2]
        exact whole_planned (fun p hp => by have := (hmd.2.2 p hp).2.1; omega) hck hgd g2
      · rw [if_neg g2] at h ⊢
        by_cases g3 : (searchP ps at_ budget).2.2 = 0
        · rw [if_neg (by simpa using g3)]
          obtain ⟨h1, h2⟩ := searchP_ok (good_Gd.1 hgd) g3
          exact whole_moves hmd hck g0 h1 h2
        · rw [if_pos g3] at h
          exact absurd h g3
  · rw [if_pos g0] at h
    exact absurd h g0
/-- the error of a search of made paths with the greatest budget -/
theorem search_code (hmd : psMade ps) (hcs : checkState ps at_ = 0) {budget : Int} (hb : 216 < budget ∧ budget ≤ 1048576) : (searchP ps at_ budget).2.2 = 0 ∨ (searchP ps at_ budget).2.2 = 19 := by
  obtain ⟨_, hgd, _⟩ := checkState_zero hcs
  have hg := good_Gd.1 hgd
  have h1 := exam_made hmd hg (budget := budget.toNat) (by omega)
  have h2 := (exam_ok (ps := ps) (budget := budget.toNat) (total ps at_ + 1) at_ hg (by omega) [] []).code
  unfold searchP
  rw [if_neg (by simpa using hcs), if_neg (by omega)]
  rcases h2 with h2 | h2 | h2
  · rw [if_pos h2]; exact .inl rfl
  · exact absurd h2 h1
  · rw [if_neg (by omega), if_pos h2]; exact .inr rfl
/-- orders succeed exactly where the search does -/
theorem take_code (hmd : psMade ps) (hck : checkO ps os = true) (hcs : checkState ps at_ = 0) {budget : Int} (hb : 216 < budget ∧ budget ≤ 1048576) : (takeP ps os at_ budget).2.2 = (searchP ps at_ budget).2.2 := by
  obtain ⟨_, hgd, _⟩ := checkState_zero hcs
  have hg := good_Gd.1 hgd
  unfold takeP
  rw [if_neg (by simp [hck]), if_neg (by simpa using hcs), if_neg (by omega)]
  by_cases g : okP ps os at_ = true
  · rw [if_pos g]
    obtain ⟨q, h1, h2⟩ := okP_legal hck hg g
    have h3 := exam_complete (budget := budget.toNat) hg h1 h2
    rcases search_code hmd hcs hb with h4 | h4
    · exact h4.symm
    · exfalso
      unfold searchP at h4
      rw [if_neg (by simpa using hcs), if_neg (by omega)] at h4
      rw [if_neg h3] at h4
      split at h4 <;> simp at h4
  · rw [if_neg g]
    by_cases g3 : (searchP ps at_ budget).2.2 = 0
    · rw [if_neg (by simpa using g3), g3]
    · rw [if_pos g3]
/-- the codes of orders at made paths with the greatest budget -/
theorem take_codes (hmd : psMade ps) (hck : checkO ps os = true) (hgd : good ps at_ = true) : (takeP ps os at_ 1048576).2.2 = 0 ∨ (takeP ps os at_ 1048576).2.2 = 19 ∨ ((takeP ps os at_ 1048576).2.2 = 17 ∧ checkState ps at_ = 17) := by
  by_cases g : checkState ps at_ = 0
  · rw [take_code hmd hck g ⟨by omega, by omega⟩]
    rcases search_code hmd g (budget := 1048576) ⟨by omega, by omega⟩ with h | h
    · exact .inl h
    · exact .inr (.inl h)
  · have e : checkState ps at_ = 17 := by
      unfold checkState at g ⊢
      rw [if_neg (by simp [(checkO_facts hck).1, hgd])] at g ⊢
      by_cases g2 : (heldOf ps at_).Nodup
      · rw [if_pos g2] at g; exact absurd rfl g
      · rw [if_neg g2]
    right; right
    refine ⟨?_, e⟩
    unfold takeP
    rw [if_neg (by simp [hck]), if_pos (by simpa using g)]
    exact e
theorem take_bounds {budget : Int} (hck : checkO ps os = true) : (takeP ps os at_ budget).1.length ≤ 144 ∧ ∀ o ∈ (takeP ps os at_ budget).1, o.uses.length ≤ 640 := by
  obtain ⟨_, h1, h2⟩ := checkO_facts hck
  have hr : (restP ps os at_).length ≤ 144 ∧ ∀ o ∈ restP ps os at_, o.uses.length ≤ 640 := by
    unfold restP
    split
    · refine ⟨by have := rest_len ps at_ os; omega, fun o ho => ?_⟩
      obtain ⟨o', ho', hm⟩ := List.mem_flatMap.1 ho
      unfold restO at hm
      split at hm
      · simp at hm
      · simp at hm
        subst hm
        have h3 := openU_len ps at_ o'.res o'.uses
        have h4 := (h2 o' ho').2.1
        simp only
        omega
    · exact ⟨by simp, fun o ho => by simp at ho⟩
  unfold takeP
  split
  · exact ⟨by simp, fun o ho => by simp at ho⟩
  · split
    · exact ⟨by simp, fun o ho => by simp at ho⟩
    · split
      · exact ⟨by simp, fun o ho => by simp at ho⟩
      · split
        · exact hr
        · split
          · exact ⟨by simp, fun o ho => by simp at ho⟩
          · refine ⟨by rw [List.length_map]; exact hr.1, fun o ho => ?_⟩
            obtain ⟨o', ho', rfl⟩ := List.mem_map.1 ho
            unfold sortTO
            rw [sortT_eq, (sortR_perm _ _).length_eq]
            exact hr.2 o' ho'
end

end Go.Proofs.Ytbfgmbakeofcbaa
