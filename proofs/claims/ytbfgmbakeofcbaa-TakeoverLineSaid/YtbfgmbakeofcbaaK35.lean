/- The search of chapter 36 as a plain function, and what it finds. No program in sight. -/
import Derived.Test.YtbfgmbakeofcbaaK32
namespace Go.Proofs.Ytbfgmbakeofcbaa
open Go.RowKit

def secNow (ps : List (List Stage)) (now : List Int) (t : Nat) : Int := secAt ((ps[t]?).getD []) (nowAt now t)
/-- the next section of a train is held by another one -/
def blockedB (ps : List (List Stage)) (now : List Int) (t : Nat) : Bool := match ((ps[t]?).getD [])[(nowAt now t + 1).toNat]? with
  | none => false
  | some s => (List.range ps.length).any fun u => decide (u ≠ t) && decide (secNow ps now u = s.sec)
def canMv (ps : List (List Stage)) (now : List Int) (t : Nat) : Bool := decide (nowAt now t < lenAt ps t) && !blockedB ps now t
def stepN (now : List Int) (t : Nat) : List Int := now.set t (nowAt now t + 1)
abbrev SOut := Int × List (List Int) × List Int
def tryT (ps : List (List Stage)) (rc : List Int → List (List Int) → List Int → SOut) (now : List Int) : List Nat → List (List Int) → List Int → SOut
  | [], seen, mv => (19, seen, mv)
  | t :: ts, seen, mv => if (canMv ps now t && !decide (stepN now t ∈ seen)) = true then
      (if (rc (stepN now t) seen (mv ++ [(t : Int)])).1 = 19 then tryT ps rc now ts (rc (stepN now t) seen (mv ++ [(t : Int)])).2.1 mv else rc (stepN now t) seen (mv ++ [(t : Int)]))
    else tryT ps rc now ts seen mv
def exam (ps : List (List Stage)) (budget : Nat) : Nat → List Int → List (List Int) → List Int → SOut
  | 0, _, seen, mv => (19, seen, mv)
  | f + 1, now, seen, mv => if seen.length = budget then (15, seen, mv) else if leftB ps now = true then (0, seen ++ [now], mv) else tryT ps (exam ps budget f) now (List.range ps.length) (seen ++ [now]) mv
def searchP (ps : List (List Stage)) (at_ : List Int) (budget : Int) : List Int × Int × Int :=
  if checkState ps at_ ≠ 0 then ([], 0, checkState ps at_)
  else if budget < 1 ∨ 1048576 < budget then ([], 0, 4)
  else if (exam ps budget.toNat (total ps at_ + 1) at_ [] []).1 = 0 then ((exam ps budget.toNat (total ps at_ + 1) at_ [] []).2.2, ((exam ps budget.toNat (total ps at_ + 1) at_ [] []).2.1.length : Int), 0)
  else if (exam ps budget.toNat (total ps at_ + 1) at_ [] []).1 = 19 then ([], ((exam ps budget.toNat (total ps at_ + 1) at_ [] []).2.1.length : Int), 19)
  else ([], 0, 15)

/-- a sequence of moves, each of which can be made -/
def Legal (ps : List (List Stage)) : List Int → List Int → Prop
  | _, [] => True
  | now, x :: r => ∃ t : Nat, x = (t : Int) ∧ t < ps.length ∧ canMv ps now t = true ∧ Legal ps (stepN now t) r
def runM (now : List Int) (l : List Int) : List Int := l.foldl (fun n x => stepN n x.toNat) now
theorem canMv_lt {ps : List (List Stage)} {now : List Int} {t : Nat} (h : canMv ps now t = true) : nowAt now t < lenAt ps t := by
  simp only [canMv, Bool.and_eq_true, decide_eq_true_eq] at h; exact h.1

section
variable {ps : List (List Stage)} {budget : Nat}
/-- what a call of exam gives -/
structure ExOk (ps : List (List Stage)) (budget : Nat) (now : List Int) (seen : List (List Int)) (mv : List Int) (r : SOut) : Prop where
  code : r.1 = 0 ∨ r.1 = 15 ∨ r.1 = 19
  pre : ∃ l, r.2.1 = seen ++ l
  found : r.1 = 0 → ∃ q, r.2.2 = mv ++ q ∧ Legal ps now q ∧ leftB ps (runM now q) = true
  stuck : r.1 = 19 → now ∈ r.2.1 ∧ ∀ x ∈ r.2.1, x ∈ seen ∨ (leftB ps x = false ∧ ∀ t, t < ps.length → canMv ps x t = true → stepN x t ∈ r.2.1)
  nd : seen.Nodup → now ∉ seen → r.2.1.Nodup
  gd : (∀ x ∈ seen, Gd ps x) → ∀ x ∈ r.2.1, Gd ps x
  le : seen.length ≤ budget → r.2.1.length ≤ budget
  full : r.1 = 15 → seen.length ≤ budget → r.2.1.length = budget
structure TrOk (ps : List (List Stage)) (budget : Nat) (now : List Int) (ts : List Nat) (seen : List (List Int)) (mv : List Int) (r : SOut) : Prop where
  code : r.1 = 0 ∨ r.1 = 15 ∨ r.1 = 19
  pre : ∃ l, r.2.1 = seen ++ l
  found : r.1 = 0 → ∃ q, r.2.2 = mv ++ q ∧ Legal ps now q ∧ leftB ps (runM now q) = true
  stuck : r.1 = 19 → (∀ t ∈ ts, canMv ps now t = true → stepN now t ∈ r.2.1) ∧ ∀ x ∈ r.2.1, x ∈ seen ∨ (leftB ps x = false ∧ ∀ t, t < ps.length → canMv ps x t = true → stepN x t ∈ r.2.1)
  nd : seen.Nodup → r.2.1.Nodup
  gd : (∀ x ∈ seen, Gd ps x) → ∀ x ∈ r.2.1, Gd ps x
  le : seen.length ≤ budget → r.2.1.length ≤ budget
  full : r.1 = 15 → seen.length ≤ budget → r.2.1.length = budget
theorem tryT_ok {rc : List Int → List (List Int) → List Int → SOut} {now : List Int} (hrc : ∀ t, t < ps.length → canMv ps now t = true → ∀ seen mv, ExOk ps budget (stepN now t) seen mv (rc (stepN now t) seen mv)) :
    ∀ (ts : List Nat), (∀ t ∈ ts, t < ps.length) → ∀ seen mv, TrOk ps budget now ts seen mv (tryT ps rc now ts seen mv)
  | [], _, seen, mv => ⟨.inr (.inr rfl), ⟨[], by simp [tryT]⟩, fun h => by simp [tryT] at h, fun _ => ⟨by simp, fun x hx => .inl hx⟩, fun h => h, fun h => h, fun h => h, fun h => by simp [tryT] at h⟩
  | t :: ts, hts, seen, mv => by
    have ht := hts t (by simp)
    have ih := fun seen mv => tryT_ok hrc ts (fun u hu => hts u (by simp [hu])) seen mv
    simp only [tryT]
    by_cases g : (canMv ps now t && !decide (stepN now t ∈ seen)) = true
    · rw [if_pos g]
      simp only [Bool.and_eq_true, Bool.not_eq_true', decide_eq_false_iff_not] at g
      have hr := hrc t ht g.1 seen (mv ++ [(t : Int)])
      generalize rc (stepN now t) seen (mv ++ [(t : Int)]) = r at *
      by_cases g2 : r.1 = 19
      · rw [if_pos g2]
        have h2 := ih r.2.1 mv
        generalize tryT ps rc now ts r.2.1 mv = r2 at *
        obtain ⟨l1, e1⟩ := hr.pre
        obtain ⟨l2, e2⟩ := h2.pre
        have hsub : ∀ x ∈ r.2.1, x ∈ r2.2.1 := fun x hx => by rw [e2]; exact List.mem_append_left _ hx
        obtain ⟨s1, s2⟩ := hr.stuck g2
        refine ⟨h2.code, ⟨l1 ++ l2, by rw [e2, e1, List.append_assoc]⟩, h2.found, fun h => ?_, fun h => h2.nd (hr.nd h g.2), fun h => h2.gd (hr.gd h), fun h => h2.le (hr.le h), fun h h' => h2.full h (hr.le h')⟩
        obtain ⟨q1, q2⟩ := h2.stuck h
        refine ⟨fun u hu hc => ?_, fun x hx => ?_⟩
        · rcases List.mem_cons.1 hu with rfl | hu
          · exact hsub _ s1
          · exact q1 u hu hc
        · rcases q2 x hx with h3 | h3
          · rcases s2 x h3 with h4 | ⟨h4, h5⟩
            · exact .inl h4
            · exact .inr ⟨h4, fun u hu hc => hsub _ (h5 u hu hc)⟩
          · exact .inr h3
      · rw [if_neg g2]
        refine ⟨hr.code, hr.pre, fun h => ?_, fun h => absurd h g2, fun h => hr.nd h g.2, hr.gd, hr.le, hr.full⟩
        obtain ⟨q, h1, h2, h3⟩ := hr.found h
        refine ⟨(t : Int) :: q, by rw [h1]; simp, ⟨t, rfl, ht, g.1, h2⟩, ?_⟩
        have : runM now ((t : Int) :: q) = runM (stepN now t) q := by simp [runM]
        rw [this]; exact h3
    · rw [if_neg g]
      have h2 := ih seen mv
      refine ⟨h2.code, h2.pre, h2.found, fun h => ?_, h2.nd, h2.gd, h2.le, h2.full⟩
      obtain ⟨q1, q2⟩ := h2.stuck h
      obtain ⟨l2, e2⟩ := h2.pre
      refine ⟨fun u hu hc => ?_, q2⟩
      rcases List.mem_cons.1 hu with rfl | hu
      · rw [hc] at g
        simp at g
        rw [e2]; exact List.mem_append_left _ g
      · exact q1 u hu hc
theorem exam_ok : ∀ (f : Nat) (now : List Int), Gd ps now → total ps now < f → ∀ seen mv, ExOk ps budget now seen mv (exam ps budget f now seen mv)
  | 0, _, _, h, _, _ => by omega
  | f + 1, now, hg, hf, seen, mv => by
    simp only [exam]
    by_cases g1 : seen.length = budget
    · rw [if_pos g1]
      exact ⟨.inr (.inl rfl), ⟨[], by simp⟩, fun h => by simp at h, fun h => by simp at h, fun h _ => h, fun h => h, fun h => h, fun _ _ => g1⟩
    · rw [if_neg g1]
      by_cases g2 : leftB ps now = true
      · rw [if_pos g2]
        refine ⟨.inl rfl, ⟨[now], rfl⟩, fun _ => ⟨[], by simp, trivial, g2⟩, fun h => by simp at h, fun h1 h2 => List.nodup_append.2 ⟨h1, by simp, fun a ha b hb => by simp at hb; subst hb; rintro rfl; exact h2 ha⟩, fun h x hx => ?_, fun h => by simp; omega, fun h => by simp at h⟩
        rcases List.mem_append.1 hx with hx | hx
        · exact h x hx
        · simp at hx; subst hx; exact hg
      · rw [if_neg g2]
        have h := tryT_ok (rc := exam ps budget f) (now := now) (fun t ht hc seen mv => exam_ok f (stepN now t) (hg.step ht (canMv_lt hc)) (by have := total_step hg ht (canMv_lt hc); unfold stepN; omega) seen mv) (List.range ps.length) (fun t ht => List.mem_range.1 ht) (seen ++ [now]) mv
        generalize tryT ps (exam ps budget f) now (List.range ps.length) (seen ++ [now]) mv = r at *
        obtain ⟨l, e⟩ := h.pre
        refine ⟨h.code, ⟨now :: l, by rw [e]; simp⟩, h.found, fun hs => ?_, fun h1 h2 => h.nd (List.nodup_append.2 ⟨h1, by simp, fun a ha b hb => by simp at hb; subst hb; rintro rfl; exact h2 ha⟩), fun hh => h.gd (fun x hx => ?_), fun hl => h.le (by simp; omega), fun hc hl => h.full hc (by simp; omega)⟩
        · obtain ⟨q1, q2⟩ := h.stuck hs
          refine ⟨by rw [e]; simp, fun x hx => ?_⟩
          rcases q2 x hx with h3 | h3
          · rcases List.mem_append.1 h3 with h3 | h3
            · exact .inl h3
            · simp at h3; subst h3
              exact .inr ⟨by simpa using g2, fun t ht hc => q1 t (List.mem_range.2 ht) hc⟩
          · exact .inr h3
        · rcases List.mem_append.1 hx with hx | hx
          · exact hh x hx
          · simp at hx; subst hx; exact hg
/-- what is closed under moves holds all that moves lead to -/
theorem closed_run {S : List (List Int)} (hS : ∀ x ∈ S, leftB ps x = false ∧ ∀ t, t < ps.length → canMv ps x t = true → stepN x t ∈ S) : ∀ (q now : List Int), now ∈ S → Legal ps now q → leftB ps (runM now q) = false
  | [], now, hn, _ => (hS now hn).1
  | x :: q, now, hn, h => by
    obtain ⟨t, rfl, ht, hc, hr⟩ := h
    have : runM now ((t : Int) :: q) = runM (stepN now t) q := by simp [runM]
    rw [this]
    exact closed_run hS q _ ((hS now hn).2 t ht hc) hr

/-- all positions -/
def allPos : List (List Stage) → List (List Int)
  | [] => [[]]
  | p :: ps => (List.range (p.length + 2)).flatMap fun k : Nat => (allPos ps).map fun l => ((k : Int) - 1) :: l
theorem mem_allPos : ∀ (ps : List (List Stage)) (l : List Int), Gd ps l → l ∈ allPos ps
  | [], l, h => by have := h.1; simp at this; subst this; simp [allPos]
  | p :: ps, [], h => by have := h.1; simp at this
  | p :: ps, a :: l, h => by
    have h0 := h.2 0 (by simp)
    simp [nowAt, lenAt] at h0
    simp only [allPos, List.mem_flatMap, List.mem_range, List.mem_map]
    refine ⟨(a + 1).toNat, by omega, l, mem_allPos ps l ⟨by have := h.1; simpa using this, fun t ht => ?_⟩, by congr 1; omega⟩
    have := h.2 (t + 1) (by simp; omega)
    simpa [nowAt, lenAt] using this
theorem allPos_len : ∀ (ps : List (List Stage)), (∀ p ∈ ps, p.length ≤ 4) → (allPos ps).length ≤ 6 ^ ps.length
  | [], _ => by simp [allPos]
  | p :: ps, h => by
    have ih := allPos_len ps (fun q hq => h q (by simp [hq]))
    have hp := h p (by simp)
    have : (allPos (p :: ps)).length = (p.length + 2) * (allPos ps).length := by
      simp only [allPos, List.length_flatMap, List.length_map]
      rw [List.map_const', List.sum_replicate_nat]
      simp
    rw [this, List.length_cons, Nat.pow_succ, Nat.mul_comm]
    exact Nat.mul_le_mul ih (by omega)
theorem nodup_leL {l m : List (List Int)} (hl : l.Nodup) (h : ∀ x ∈ l, x ∈ m) : l.length ≤ m.length := by
  induction l generalizing m with
  | nil => simp
  | cons a l ih =>
    obtain ⟨ha, hl⟩ := List.nodup_cons.1 hl
    have hm := h a (by simp)
    have := ih (m := m.erase a) hl (fun x hx => by
      have hx' := h x (by simp [hx])
      exact (List.mem_erase_of_ne (by rintro rfl; exact ha hx)).2 hx')
    rw [List.length_erase_of_mem hm] at this
    have := List.length_pos_of_mem hm
    simp; omega
/-- the search of made paths never runs out of a great budget, and it finds moves if there are any -/
theorem exam_made (hm : psMade ps) {at_ : List Int} (hg : Gd ps at_) (hb : 216 < budget) : (exam ps budget (total ps at_ + 1) at_ [] []).1 ≠ 15 := by
  have h := exam_ok (ps := ps) (budget := budget) (total ps at_ + 1) at_ hg (by omega) [] []
  intro e
  have h1 := h.full e (by simp)
  have h2 := nodup_leL (h.nd (by simp) (by simp)) (m := allPos ps) (fun x hx => mem_allPos ps x (h.gd (by simp) x hx))
  have h3 := allPos_len ps (fun p hp => (hm.2.2 p hp).2.1)
  have h4 : 6 ^ ps.length ≤ 6 ^ 3 := Nat.pow_le_pow_right (by omega) hm.2.1
  omega
theorem exam_complete {at_ : List Int} (hg : Gd ps at_) {q : List Int} (hq : Legal ps at_ q) (hl : leftB ps (runM at_ q) = true) : (exam ps budget (total ps at_ + 1) at_ [] []).1 ≠ 19 := by
  have h := exam_ok (ps := ps) (budget := budget) (total ps at_ + 1) at_ hg (by omega) [] []
  intro e
  obtain ⟨h1, h2⟩ := h.stuck e
  have := closed_run (S := (exam ps budget (total ps at_ + 1) at_ [] []).2.1) (fun x hx => by
    rcases h2 x hx with h3 | h3
    · simp at h3
    · exact h3) q at_ h1 hq
  rw [hl] at this; cases this
end

/-- where a train can go in the orders, it can move -/
theorem canGo_canMv {ps : List (List Stage)} {os : List Order} {now : List Int} {t : Nat} (hck : checkO ps os = true) (hg : Gd ps now) (h : AgreeP ps os now) (ht : t < ps.length) (hc : canGo ps (arcsOf (evs ps).length (gAdds ps os)) now t = true) : canMv ps now t = true := by
  have hn := h.step hg ht hc
  simp only [canGo, Bool.and_eq_true, decide_eq_true_eq] at hc
  have hG := hg.2 t ht
  have hp : ps[t]? = some ps[t] := List.getElem?_eq_getElem ht
  simp only [canMv, Bool.and_eq_true, decide_eq_true_eq, Bool.not_eq_true']
  refine ⟨hc.1, ?_⟩
  unfold blockedB
  simp only [hp, Option.getD_some]
  cases e : (ps[t])[(nowAt now t + 1).toNat]? with
  | none => rfl
  | some s =>
    simp only [List.any_eq_false, List.mem_range, Bool.and_eq_true, decide_eq_true_eq, not_and]
    intro u hu hut hsec
    have hq : ps[u]? = some ps[u] := List.getElem?_eq_getElem hu
    unfold secNow at hsec
    simp only [hq, Option.getD_some] at hsec
    have hv := (checkO_facts hck).1
    have h0 : 0 ≤ s.sec := by
      have := valid_stage hv (List.mem_of_getElem? hp) (List.mem_of_getElem? e)
      simp only [stageOk, Bool.and_eq_true, isRes, decide_eq_true_eq] at this
      omega
    obtain ⟨m, s', hm, hs', e2⟩ := secAt_some (p := ps[u]) (a := nowAt now u) (by omega)
    have hl : t < now.length := by rw [hg.1]; exact ht
    refine agree_excl hck (hg.step ht hc.1) hn (t := u) (u := t) (k := m) (m := (nowAt now t + 1).toNat) hut hq hp hs' e (by omega) ?_ ?_
    · rw [nowAt_set hl, if_neg (fun e => hut e.symm)]; exact hm
    · rw [nowAt_set hl, if_pos rfl]; omega
theorem line_legal {ps : List (List Stage)} {os : List Order} (hck : checkO ps os = true) : ∀ (f : Nat) (now : List Int), Gd ps now → AgreeP ps os now →
    Legal ps now ((lineFrom (readyP ps (arcsOf (evs ps).length (gAdds ps os))) f now).1.map (·.tr)) ∧ runM now ((lineFrom (readyP ps (arcsOf (evs ps).length (gAdds ps os))) f now).1.map (·.tr)) = (lineFrom (readyP ps (arcsOf (evs ps).length (gAdds ps os))) f now).2
  | 0, now, _, _ => by simp [lineFrom, Legal, runM]
  | f + 1, now, hg, h => by
    simp only [lineFrom]
    cases e : readyP ps (arcsOf (evs ps).length (gAdds ps os)) now with
    | none => simp [Legal, runM]
    | some t =>
      obtain ⟨h1, h2⟩ := readyP_sound ps (arcsOf (evs ps).length (gAdds ps os)) now t e
      have hcan : canGo ps (arcsOf (evs ps).length (gAdds ps os)) now t = true := by
        unfold readyP at e; exact List.find?_some e
      obtain ⟨i1, i2⟩ := line_legal hck f _ (hg.step h1 h2) (h.step hg h1 hcan)
      refine ⟨⟨t, rfl, h1, canGo_canMv hck hg h h1 hcan, i1⟩, ?_⟩
      have : ∀ q : List Int, runM now ((t : Int) :: q) = runM (now.set t (nowAt now t + 1)) q := fun q => by simp [runM, stepN]
      simp only [List.map_cons]
      rw [this, i2]
/-- orders with a line: all trains can leave -/
theorem okP_legal {ps : List (List Stage)} {os : List Order} {at_ : List Int} (hck : checkO ps os = true) (hg : Gd ps at_) (h : okP ps os at_ = true) : ∃ q, Legal ps at_ q ∧ leftB ps (runM at_ q) = true := by
  have hl := okP_left (checkO_facts hck).1 hg h
  unfold okP at h
  rw [Bool.and_eq_true] at h
  obtain ⟨h1, h2⟩ := line_legal hck 1000 at_ hg (agreesB_iff.1 h.2)
  exact ⟨_, h1, by rw [h2]; exact hl⟩

end Go.Proofs.Ytbfgmbakeofcbaa
