/- Chapter 37, plain: a run of all trains gives a consistent choice; Solve finds one where the search does. No program in sight. Contracts of the reference's blocker and movable. Conditions: as each theorem says. Contract of the reference's Moves. Conditions: as the theorem says. -/
import Derived.Test.YtilbbpbjhoidhaaS49
import Derived.Test.YtilbbpbjhoidhaaS48
import Derived.Test.YtilbbpbjhoidhaaS07
import Derived.Test.YtilbbpbjhoidhaaS15
import Derived.Deep.Cut
namespace Go.Proofs.Ytilbbpbjhoidhaa
open Go.RowKit

theorem first_step {f : Nat → Bool} : ∀ (b a : Nat), a ≤ b → f a = false → f b = true → ∃ j, a ≤ j ∧ j < b ∧ f j = false ∧ f (j + 1) = true
 | 0, a, h, h1, h2 => by (obtain rfl : a = 0 := by omega); rw [h1] at h2; cases h2
 | b + 1, a, h, h1, h2 => by
  by_cases e : a = b + 1
  ·subst e; rw [h1] at h2; cases h2
  ·cases hb : f b with
   | false => exact ⟨b, by omega, by omega, hb, h2⟩
   | true =>
    obtain ⟨j, g1, g2, g3⟩ := first_step b a (by omega) h1 hb
    exact ⟨j, g1, by omega, g3⟩
theorem lineFrom_geR {ps : List (List Stage)} {go : List Int → Option Nat} (hs : Sound ps go) (u : Nat) : ∀ (f : Nat) (now : List Int), Gd ps now → nowAt now u ≤ nowAt (lineFrom go f now).2 u
 | 0, _, _ => Int.le_refl _
 | f + 1, now, hg => by
  simp only [lineFrom]
  cases e : go now with
  | none => exact Int.le_refl _
  | some t =>
   obtain ⟨h1, h2⟩ := hs now t e
   have h3 := lineFrom_geR hs u f _ (hg.step h1 h2)
   have h4 : nowAt now u ≤ nowAt (now.set t (nowAt now t + 1)) u := by
    rw [nowAt_set (by rw [hg.1]; exact h1)]
    split
    ·rename_i e; subst e; omega
    ·exact Int.le_refl _
   exact Int.le_trans h4 h3
section
variable {ps : List (List Stage)} {at_ q : List Int} {D : List RArc}
/-- a run of all trains that agrees with arcs at each step -/
theorem okD_of_run (hDk : DOk ps at_ D) (hg : Gd ps at_) (hl : Legal ps at_ q) (hf : leftB ps (runM at_ q) = true) (hag : ∀ k, k ≤ q.length → AgD D (runM at_ (q.take k))) : okD ps at_ D = true := by
 have hs := goR_sound ps (arcsD ps D)
 have hinv := lineFrom_inv hs (total ps at_) at_ hg
 have hst := hinv.2.2 (Nat.le_refl _)
 have hge := fun u => lineFrom_geR hs u (total ps at_) at_ hg
 have hgf := hinv.1
 have h0 := hag 0 (Nat.zero_le _)
 simp only [List.take_zero] at h0
 have h0 : AgD D at_ := h0
 unfold okD lineR
 rw [if_neg]
 ·rw [if_pos]
  generalize (lineFrom (goR ps (arcsD ps D)) (total ps at_) at_).2 = now at *
  rw [total_zero hgf]
  have hno : ∀ t, t < ps.length → nowAt now t < lenAt ps t → rdyR (arcsD ps D) now ⟨(t : Int), nowAt now t + 1⟩ = false := fun t ht hlt => by
   unfold goR at hst
   have := List.find?_eq_none.1 hst t (List.mem_range.2 ht)
   unfold goC at this
   simpa [hlt] using this
  have key : ∀ k, k ≤ q.length → ∀ u, nowAt (runM at_ (q.take k)) u ≤ nowAt now u := by
   intro k
   induction k with
   | zero => intro _ u; exact hge u
   | succ k ih =>
    intro hk u
    have ih := ih (by omega)
    have hx : q[k]? = some q[k] := List.getElem?_eq_getElem (by omega)
    obtain ⟨g1, t, ht, htl, hcm⟩ := legal_at q at_ hg hl k _ hx
    have hA := hag (k + 1) hk
    rw [run_take_succ hx, ht, Int.toNat_natCast] at hA ⊢
    have hlen : t < (runM at_ (q.take k)).length := by rw [g1.1]; exact htl
    rw [nowAt_step hlen]
    split
    ·rename_i e
     subst e
     have h1 := ih t
     rcases Int.lt_or_le (nowAt (runM at_ (q.take k)) t) (nowAt now t) with h2 | h2
     ·omega
     ·exfalso
      have heq : nowAt (runM at_ (q.take k)) t = nowAt now t := by omega
      have hclt := canMv_lt hcm
      rw [heq] at hclt
      have hgt := hgf.2 t htl
      have hr := hno t htl hclt
      have : rdyR (arcsD ps D) now ⟨(t : Int), nowAt now t + 1⟩ = true := by
       unfold rdyR
       rw [List.all_eq_true]
       intro a ha
       by_cases hto : a.to = ⟨(t : Int), nowAt now t + 1⟩
       ·have hfr : doneR now a.frm = true := by
         rcases List.mem_append.1 ha with ha | ha
         ·obtain ⟨t', k', p', s', hp', hs', rfl⟩ := mem_chainR.1 ha
          injection hto with h3 h4
          have : t' = t := by omega
          subst this
          unfold doneR
          simp
          omega
         ·have h3 := hA a ha (by
           rw [hto]
           unfold doneR
           rw [decide_eq_true_eq]
           simp only [Int.toNat_natCast]
           rw [nowAt_step hlen, if_pos rfl]
           omega)
          unfold doneR at h3 ⊢
          rw [decide_eq_true_eq] at h3 ⊢
          rw [nowAt_step hlen] at h3
          split at h3
          ·rename_i e5
           obtain ⟨⟨t', k', p', _, _, e6⟩, _⟩ := hDk.frm a ha
           refine absurd ?_ (hDk.ne a ha)
           rw [hto, e6]
           rw [e6] at e5
           simp only [Int.toNat_natCast] at e5
           rw [e5]
          ·exact Int.le_trans h3 (ih _)
        simp [hfr]
       ·simp [hto]
      rw [hr] at this
      cases this
    ·exact ih u
  intro t ht
  have h1 := key q.length (Nat.le_refl _) t
  rw [List.take_length] at h1
  have h2 : Gd ps (runM at_ q) := legal_gd q at_ hg hl
  have h3 := leftB_at h2 hf ht
  have h4 := hgf.2 t ht
  omega
 ·rw [Bool.not_eq_true, List.any_eq_false]
  intro a ha
  unfold badArc
  simp only [Bool.and_eq_true, Bool.not_eq_true', not_and, Bool.not_eq_false]
  intro hd
  rcases List.mem_append.1 ha with ha | ha
  ·obtain ⟨t', k', p', s', hp', hs', rfl⟩ := mem_chainR.1 ha
   unfold doneR at hd ⊢
   simp at hd ⊢
   omega
  ·exact h0 a ha hd
end
/-- two trains, one of which moves at each step: the section's uses in their order -/
theorem seq_mono {a : Nat → Int} {n : Nat} (h : ∀ j, j < n → a j ≤ a (j + 1)) : ∀ (k i : Nat), i ≤ k → k ≤ n → a i ≤ a k
 | 0, i, h1, _ => by (obtain rfl : i = 0 := by omega); exact Int.le_refl _
 | k + 1, i, h1, h2 => by
  by_cases e : i = k + 1
  ·subst e; exact Int.le_refl _
  ·have := seq_mono h k i (by omega) (by omega)
   have := h k (by omega)
   omega
theorem seq_sec {a b : Nat → Int} {n : Nat} {ku kv : Int} (hs : ∀ j, j < n → (a (j + 1) = a j ∧ b (j + 1) = b j) ∨ (a (j + 1) = a j + 1 ∧ b (j + 1) = b j) ∨ (a (j + 1) = a j ∧ b (j + 1) = b j + 1)) (hex : ∀ k, k ≤ n → ¬ (a k = ku ∧ b k = kv)) (h0 : a 0 ≤ ku) (hnb : kv + 1 ≤ b n)
  (hB : ∀ k, k ≤ n → ku + 1 ≤ a k → kv ≤ b k) : ∀ k, k ≤ n → ku ≤ a k → kv + 1 ≤ b k := by
 intro k hk h1
 have ma := seq_mono (a := a) (n := n) (fun j hj => by rcases hs j hj with h | h | h <;> omega)
 have mb := seq_mono (a := b) (n := n) (fun j hj => by rcases hs j hj with h | h | h <;> omega)
 refine Classical.byContradiction fun hno => ?_
 rcases Int.lt_or_le (b k) kv with h2 | h2
 ·have h3 : a k = ku := by
   rcases Int.lt_or_le (a k) (ku + 1) with h4 | h4
   ·omega
   ·have := hB k hk h4; omega
  obtain ⟨j, j1, j2, j3, j4⟩ := first_step (f := fun j => decide (kv ≤ b j)) n k hk (by simpa using h2) (by simp; omega)
  simp only [decide_eq_false_iff_not, decide_eq_true_eq] at j3 j4
  have h5 := ma j k j1 (by omega)
  have h6 : a j ≤ ku := by
   rcases Int.lt_or_le (a j) (ku + 1) with h4 | h4
   ·omega
   ·have := hB j (by omega) h4; omega
  refine hex (j + 1) (by omega) ?_
  rcases hs j j2 with h | h | h <;> omega
 ·have h3 : ku + 1 ≤ a k := by
   have := hex k hk
   omega
  obtain ⟨j, j1, j2, j3, j4⟩ := first_step (f := fun j => decide (ku + 1 ≤ a j)) k 0 (by omega) (by simp; omega) (by simp; omega)
  simp only [decide_eq_false_iff_not, decide_eq_true_eq] at j3 j4
  have h5 := hB (j + 1) (by omega) j4
  have h6 := mb k (j + 1) (by omega) hk
  refine hex j (by omega) ?_
  rcases hs j (by omega) with h | h | h <;> omega
section
variable {p : Pb} {q : List Int}
/-- the choice that a run makes -/
def runB (p : Pb) (q : List Int) (x : Pr) : Bool := (List.range (q.length + 1)).any fun k => doneR (runM p.at_ (q.take k)) (relOf p.ps x.res x.u) && !doneR (runM p.at_ (q.take k)) x.v
theorem runB_iff {x : Pr} : runB p q x = true ↔ ∃ k, k ≤ q.length ∧ doneR (runM p.at_ (q.take k)) (relOf p.ps x.res x.u) = true ∧ doneR (runM p.at_ (q.take k)) x.v = false := by
 unfold runB
 rw [List.any_eq_true]
 constructor
 ·rintro ⟨k, h1, h2⟩
  rw [Bool.and_eq_true, Bool.not_eq_true'] at h2
  exact ⟨k, by have := List.mem_range.1 h1; omega, h2⟩
 ·rintro ⟨k, h1, h2⟩
  exact ⟨k, List.mem_range.2 (by omega), by rw [Bool.and_eq_true, Bool.not_eq_true']; exact h2⟩
theorem run_mono' (hg : Gd p.ps p.at_) (hl : Legal p.ps p.at_ q) {i j : Nat} (h : i ≤ j) (hj : j ≤ q.length) {e : Ref} (hd : doneR (runM p.at_ (q.take i)) e = true) : doneR (runM p.at_ (q.take j)) e = true := by
 have := run_mono hg hl (i := i) e.tr.toNat j h hj
 unfold doneR at hd ⊢
 rw [decide_eq_true_eq] at hd ⊢
 omega
theorem run_two (hg : Gd p.ps p.at_) (hl : Legal p.ps p.at_ q) {t u : Nat} (hne : t ≠ u) : ∀ j, j < q.length → (nowAt (runM p.at_ (q.take (j + 1))) t = nowAt (runM p.at_ (q.take j)) t ∧ nowAt (runM p.at_ (q.take (j + 1))) u = nowAt (runM p.at_ (q.take j)) u) ∨ (nowAt (runM p.at_ (q.take (j + 1))) t = nowAt (runM p.at_ (q.take j)) t + 1 ∧ nowAt (runM p.at_ (q.take (j + 1))) u = nowAt (runM p.at_ (q.take j)) u) ∨ (nowAt (runM p.at_ (q.take (j + 1))) t = nowAt (runM p.at_ (q.take j)) t ∧ nowAt (runM p.at_ (q.take (j + 1))) u = nowAt (runM p.at_ (q.take j)) u + 1) := by
 intro j hj
 have hx : q[j]? = some q[j] := List.getElem?_eq_getElem hj
 obtain ⟨g1, x, hxt, hxl, _⟩ := legal_at q p.at_ hg hl j _ hx
 rw [run_take_succ hx, hxt, Int.toNat_natCast]
 have hlen : x < (runM p.at_ (q.take j)).length := by rw [g1.1]; exact hxl
 rw [nowAt_step hlen, nowAt_step hlen]
 by_cases e1 : x = t
 ·subst e1
  rw [if_pos rfl, if_neg hne]
  exact .inr (.inl ⟨rfl, rfl⟩)
 ·rw [if_neg e1]
  by_cases e2 : x = u
  ·subst e2
   rw [if_pos rfl]
   exact .inr (.inr ⟨rfl, rfl⟩)
  ·rw [if_neg e2]
   exact .inl ⟨rfl, rfl⟩
theorem run_agD (hc : checkP p = true) (hm : psMade p.ps) (hl : Legal p.ps p.at_ q) (hf : leftB p.ps (runM p.at_ q) = true) : ∀ k, k ≤ q.length → AgD (decs p.ps (xs p) ((xs p).map (runB p q))) (runM p.at_ (q.take k)) := by
 have hg := checkP_Gd hc
 have hcs := (checkP_iff.1 hc).1
 intro k hk a ha hd
 have hex : ∃ x ∈ xs p, a = dArc p.ps x (runB p q x) := by
  unfold decs at ha
  rw [List.zipWith_map_right, List.zipWith_self] at ha
  obtain ⟨x, h1, h2⟩ := List.mem_map.1 ha
  exact ⟨x, h1, h2.symm⟩
 obtain ⟨x, hx, rfl⟩ := hex
 obtain ⟨mu, mv, hlt⟩ := mem_pairs hx
 have hsep := made_sep hm (r := x.res) (l := openA p.ps p.at_ x.res) (fun _ h => (List.mem_filter.1 h).1)
 unfold dArc at hd ⊢
 cases hb : runB p q x with
 | true =>
  rw [hb, if_pos rfl] at hd
  rw [if_pos rfl]
  obtain ⟨k0, h1, h2, h3⟩ := runB_iff.1 hb
  show doneR _ (relOf p.ps x.res x.u) = true
  have hd : doneR (runM p.at_ (q.take k)) x.v = true := hd
  rcases Nat.lt_or_ge k k0 with g | g
  ·have := run_mono' hg hl (Nat.le_of_lt g) h1 hd
   rw [h3] at this; cases this
  ·exact run_mono' hg hl g hk h2
 | false =>
  rw [hb, if_neg (by simp)] at hd
  rw [if_neg (by simp)]
  show doneR _ (relOf p.ps x.res x.v) = true
  have hd : doneR (runM p.at_ (q.take k)) x.u = true := hd
  have hB : ∀ k, k ≤ q.length → doneR (runM p.at_ (q.take k)) (relOf p.ps x.res x.u) = true → doneR (runM p.at_ (q.take k)) x.v = true := fun k hk h1 => by
   cases h2 : doneR (runM p.at_ (q.take k)) x.v with
   | true => rfl
   | false =>
    have := runB_iff.2 ⟨k, hk, h1, h2⟩
    rw [hb] at this; cases this
  rcases hsep with hs | hs
  ·have ou := (List.mem_filter.1 mu).2
   have ov := (List.mem_filter.1 mv).2
   obtain ⟨t, ku, pt, st, hpt, hku, _, eu⟩ := mem_allU.1 (List.mem_filter.1 mu).1
   obtain ⟨t', kv, pt', st', hpt', hkv, _, ev⟩ := mem_allU.1 (List.mem_filter.1 mv).1
   have hu := hs _ mu
   have hv := hs _ mv
   have ru : relOf p.ps x.res x.u = ⟨x.u.tr, x.u.st + 1⟩ := by unfold relOf; rw [if_pos hu]
   have rv : relOf p.ps x.res x.v = ⟨x.v.tr, x.v.st + 1⟩ := by unfold relOf; rw [if_pos hv]
   have eu1 : secOf p.ps x.u = st.sec := by rw [eu]; unfold secOf; simp [hpt, hku]
   have ev1 : secOf p.ps x.v = st'.sec := by rw [ev]; unfold secOf; simp [hpt', hkv]
   unfold overB at ou ov
   rw [ru] at ou hB
   rw [rv] at ov ⊢
   rw [eu] at hlt hd ou hB
   rw [ev] at hlt hB ov ⊢
   unfold doneR at hd hB ⊢
   simp only [Int.toNat_natCast, decide_eq_true_eq, Bool.not_eq_true', decide_eq_false_iff_not] at hd hB ou ov hlt ⊢
   have htne : t ≠ t' := by omega
   have hst0 : 0 ≤ st.sec := by
    have := valid_stage (psMade.valid hm) (List.mem_of_getElem? hpt) (List.mem_of_getElem? hku)
    simp only [stageOk, Bool.and_eq_true, isRes, decide_eq_true_eq] at this
    omega
   refine seq_sec (a := fun j => nowAt (runM p.at_ (q.take j)) t) (b := fun j => nowAt (runM p.at_ (q.take j)) t') (n := q.length) (run_two hg hl htne) ?_ ?_ ?_ hB k hk hd
   ·rintro j hj ⟨e1, e2⟩
    have e1 : nowAt (runM p.at_ (q.take j)) t = (ku : Int) := e1
    have e2 : nowAt (runM p.at_ (q.take j)) t' = (kv : Int) := e2
    have s1 : secNow p.ps (runM p.at_ (q.take j)) t = st.sec := by unfold secNow secAt; rw [hpt, e1, if_neg (by omega)]; simp [hku]
    have s2 : secNow p.ps (runM p.at_ (q.take j)) t' = st'.sec := by unfold secNow secAt; rw [hpt', e2, if_neg (by omega)]; simp [hkv]
    refine state_excl (run_state q p.at_ hcs hl j) (getElem?_lt hpt) (getElem?_lt hpt') htne (by rw [s1]; exact hst0) ?_
    rw [s1, s2, ← eu1, ← ev1, hu, hv]
   ·show nowAt (runM p.at_ (q.take 0)) t ≤ _
    have : runM p.at_ (q.take 0) = p.at_ := rfl
    rw [this]
    omega
   ·show _ ≤ nowAt (runM p.at_ (q.take q.length)) t'
    rw [List.take_length, leftB_at (legal_gd q p.at_ hg hl) hf (getElem?_lt hpt'), lenAt_of hpt']
    have := getElem?_lt hkv
    omega
  ·have ru : relOf p.ps x.res x.u = x.u := by unfold relOf; rw [if_neg (hs _ mu)]
   have rv : relOf p.ps x.res x.v = x.v := by unfold relOf; rw [if_neg (hs _ mv)]
   rw [rv]
   rw [ru] at hB
   exact hB k hk hd
/-- a run gives a consistent choice -/
theorem run_choice (hc : checkP p = true) (hm : psMade p.ps) (hl : Legal p.ps p.at_ q) (hf : leftB p.ps (runM p.at_ q) = true) : ((xs p).map (runB p q)).length = (xs p).length ∧ okB p ((xs p).map (runB p q)) = true :=
 ⟨by simp, okD_of_run (decs_ok _) (checkP_Gd hc) hl hf (run_agD hc hm hl hf)⟩
theorem allD_sol {bs : List Bool} (hl : bs.length = (xs p).length) {D : List RArc} (hs : ∀ a, a ∈ decs p.ps (xs p) bs → a ∈ D) : AllD p.ps p.at_ D := fun r hr u hu v hv hne => by
 have := dec_all (ps := p.ps) (at_ := p.at_) hl hr hu hv hne
 exact this.imp (hs _) (hs _)
/-- Solve finds orders exactly where the search finds moves -/
theorem safe_law (hc : checkP p = true) (hm : psMade p.ps) {b : Int} (hb : 1 ≤ b ∧ b ≤ 1048576) :
  (solveP b p).2.2 = 15 ∨ ((solveP b p).2.2 = 19 ∧ ¬ (searchP p.ps p.at_ 1048576).2.2 = 0) ∨
  ((solveP b p).2.2 = 0 ∧ (searchP p.ps p.at_ 1048576).2.2 = 0 ∧ okS p.ps p.at_ (solveP b p).1.os = true ∧ okD p.ps p.at_ (fulS p.ps (solveP b p).1.os) = true ∧ LnOk p.ps p.at_ (lineR p.ps (refArcs p.ps (solveP b p).1.os) p.at_).1) := by
 have hg := checkP_Gd hc
 have hv := psMade.valid hm
 have hcs := (checkP_iff.1 hc).1
 obtain ⟨g1, g2⟩ := search_ok hc b.toNat
 rcases solve_cases hc hb with ⟨_, e⟩ | ⟨f, e, e2⟩ | ⟨bs, c, f, best, e⟩
 ·left; rw [e]
 ·right; left
  rw [e2]
  refine ⟨rfl, fun h0 => ?_⟩
  obtain ⟨h1, h2⟩ := searchP_ok hg h0
  obtain ⟨k1, k2⟩ := run_choice hc hm h1 h2
  obtain ⟨b', c', hb', _⟩ := g2 f _ k1 k2
  rw [e] at hb'; cases hb'
 ·right; right
  obtain ⟨l1, o1, c1⟩ := g1 bs c best
  rw [e]
  have hk := sol_okD hc hm l1 o1
  have hD : DOk p.ps p.at_ (fulS p.ps (ordB p bs)) := dok_ful (sol_okS hc hm l1 o1)
  have hL : LnOk p.ps p.at_ (lineR p.ps (arcsD p.ps (fulS p.ps (ordB p bs))) p.at_).1 := line_ok hv hg (allD_sol l1 fun a ha => (sol_arcs hc hm l1 o1 a).2 ha) hD.to hk
  refine ⟨rfl, ?_, sol_okS hc hm l1 o1, hk, hL⟩
  obtain ⟨q, h1, h2⟩ := LnOk.legal _ _ hL
  have h3 := exam_complete (ps := p.ps) (budget := (1048576 : Int).toNat) hg h1 h2
  have h4 := exam_made hm hg (budget := (1048576 : Int).toNat) (by omega)
  have h5 := (exam_ok (ps := p.ps) (budget := (1048576 : Int).toNat) (total p.ps p.at_ + 1) p.at_ hg (by omega) [] []).code
  unfold searchP
  rw [if_neg (by simpa using hcs), if_neg (by omega)]
  rcases h5 with h5 | h5 | h5
  ·rw [if_pos h5]
  ·exact absurd h5 h4
  ·exact absurd h5 h3
end

/-- the first other train that holds a section -/
def blkF (ps : List (List Stage)) (now : List Int) (t : Nat) (s : Int) : Option Nat := (List.range ps.length).find? fun u => decide (u ≠ t) && decide (secNow ps now u = s)
def blkP (ps : List (List Stage)) (now : List Int) (t : Nat) : Int := match ((ps[t]?).getD [])[(nowAt now t + 1).toNat]? with
 | none => -1
 | some s => match blkF ps now t s.sec with | none => -1 | some u => (u : Int)
theorem blkP_mv (ps : List (List Stage)) (now : List Int) (t : Nat) : (decide (nowAt now t < lenAt ps t) && decide (blkP ps now t < 0)) = canMv ps now t := by
 unfold canMv
 congr 1
 rw [Bool.eq_iff_iff, decide_eq_true_eq, Bool.not_eq_true']
 unfold blkP blockedB
 cases e : ((ps[t]?).getD [])[(nowAt now t + 1).toNat]? with
 | none => simp
 | some s =>
  simp only []
  cases hf : blkF ps now t s.sec with
  | none =>
   unfold blkF at hf
   have : ((List.range ps.length).any fun u => decide (u ≠ t) && decide (secNow ps now u = s.sec)) = false := by
    rw [List.any_eq_false]
    exact List.find?_eq_none.1 hf
   rw [this]; simp
  | some u =>
   unfold blkF at hf
   have : ((List.range ps.length).any fun u => decide (u ≠ t) && decide (secNow ps now u = s.sec)) = true := List.any_eq_true.2 ⟨u, List.mem_of_find?_eq_some hf, by have h1 := List.find?_some hf; simpa using h1⟩
   rw [this]
   simp
def NoneTo (ps : List (List Stage)) (now : List Int) (t : Nat) (s : Int) (k : Nat) : Prop := ∀ u, u < k → (decide (u ≠ t) && decide (secNow ps now u = s)) = false
theorem NoneTo.stop {ps : List (List Stage)} {now : List Int} {t : Nat} {s : Int} {k : Nat} (h : NoneTo ps now t s k) (hk : k < ps.length) (h1 : k ≠ t) (h2 : secNow ps now k = s) : blkF ps now t s = some k := by
 unfold blkF
 rw [List.find?_range_eq_some]
 refine ⟨by simp [h1, h2], by simpa using hk, fun j hj => ?_⟩
 rw [h j hj]; rfl
theorem NoneTo.done {ps : List (List Stage)} {now : List Int} {t : Nat} {s : Int} (h : NoneTo ps now t s ps.length) : blkF ps now t s = none := by
 unfold blkF
 rw [List.find?_eq_none]
 intro u hu
 rw [h u (List.mem_range.1 hu)]; simp

section
variable (ps : List (List Stage)) (now : List Int) (A A2 : Option Addr) (c c2 : Nat) (w : World) (t : Nat)
set_option maxRecDepth 100000 in
set_option maxHeartbeats 1000000 in
theorem blocker_any (h : RPaths w (Old w) [.slice A ps.length c] ps) (h2 : RInts w (Old w) [.slice A2 now.length c2] now) (hv : valid ps = true) (hg : Gd ps now) (ht : t < ps.length) (hlt : nowAt now t < lenAt ps t) :
  Calls Try.prog 84 #[.slice A ps.length c, .slice A2 now.length c2, .int .i64 (t : Int)] w fun e w' => e = .returned (.int .i64 (blkP ps now t)) ∧ KeepsAll w w' := by
 have hc := h.caps
 have hc2 := h2.caps
 have H := Lib.hid h
 have H2 := Lib.hid h2
 have HG := Lib.hid hg
 have hnl : now.length = ps.length := hg.1
 have al1 : now.length ≤ ps.length := by omega
 have al2 : ps.length ≤ now.length := by omega
 obtain ⟨b, o, p, A', c', hbo, hbl, hp, k1, hr⟩ := RSS.atK (Keeps.refl _ _) h ht
 subst hbo
 obtain ⟨b2, o2, a, hbo, hb2l, ha, k2⟩ := RInts.atK (Keeps.refl _ _) h2 (k := t) (by omega)
 subst hbo
 have hcp := hr.caps
 have hG := hg.2 t ht
 have h64 := lenAt_le hv t
 rw [lenAt_of hp] at hG h64 hlt
 rw [nowAt_of ha] at hG hlt
 have HBP : Hid (blkP ps now t = match p[(a + 1).toNat]? with | none => -1 | some s => match blkF ps now t s.sec with | none => -1 | some u => (u : Int)) := by show _ = _; unfold blkP; rw [hp, nowAt_of ha]; rfl
 have hw2 : IntKind.i64.wrap (a + 1) = a + 1 := IntWalk.i64_in _ (by omega)
 obtain ⟨k, hk⟩ := Int.eq_ofNat_of_zero_le (by omega : 0 ≤ a + 1)
 rw [hk] at hw2
 by_cases g1 : k < p.length
 ·have g1' : decide (p.length ≤ k) = false := by simp; omega
  obtain ⟨b3, o3, s, As, cs, hbo, hb3l, hs, m0, m1, m2, m3, hpts⟩ := RPath.atK (Keeps.refl _ _) hr g1
  subst hbo
  rw [hk, Int.toNat_natCast, hs] at HBP
  simp only [] at HBP
  clear h h2 hg hr hpts hs hp ha m1 m2 m3 hnl
  generalize s.sec = sv at *
  go_enter Try.func84, Try.ntmps84
  go_wp2
  go_quiet (fail)
  go_wp2
  go_quiet (fail)
  go_wp2
  generalize hWx : World.drewN w _ = wx
  have KX : Hid (KeepsAll w wx) := by subst hWx; exact (Keeps.refl _ _).drewN _
  clear hWx k1 k2 m0 hbl hb2l hb3l
  go_loopw [34] (fun v wr => ∃ j : Nat, j ≤ ps.length ∧ v = .int .i64 (j : Int) ∧ NoneTo ps now t sv j ∧ KeepsAll w wr) (fun v _ => ps.length - (intOf v).toNat)
  case atStart => exact ⟨0, Nat.zero_le _, rfl, fun u hu => by omega, KX.out⟩
  case round =>
   clear KX
   obtain ⟨j, hj, rfl, hno, hkr⟩ := hrel
   have KR := Lib.hid hkr
   have HNO := Lib.hid hno
   clear hno hkr
   by_cases hlj : j < ps.length
   ·have hdj : decide ((j : Int) < (ps.length : Int)) = true := by simp; omega
    by_cases g2 : j = t
    ·have g2' : ((j : Int) != (t : Int)) = false := by simp; omega
     have HN : Hid (NoneTo ps now t sv (j + 1)) := fun u hu => by
      by_cases e : u = j
      ·subst e; simp [g2]
      ·exact HNO.out u (by omega)
     clear g2
     go_wp2
     go_roundw
     case rel => exact ⟨j + 1, by omega, by go_num, HN.out, KR.out⟩
     case measure => simp [intOf]; omega
    ·have g2' : ((j : Int) != (t : Int)) = true := by simp; omega
     have hq : ps[j]? = some ps[j] := List.getElem?_eq_getElem hlj
     have hb : now[j]? = some (now[j]'(by omega)) := List.getElem?_eq_getElem _
     have HSC := Lib.hid (Section_any ps now (some ⟨b, o, none⟩) (some ⟨b2, o2, none⟩) c c2 wr (Old wr) (Old wr) (KR.out.rdo' RPaths.ok H.out) (KR.out.rdo' RInts.ok H2.out) j _ _ hq hb)
     have HSN : Hid (secNow ps now j = secAt ps[j] (now[j]'(by omega))) := by show _ = _; unfold secNow; rw [hq, nowAt_of hb]; rfl
     rw [← HSN.out] at HSC
     clear hq hb HSN
     go_wp2_with fail
     refine HSC.out.mono ?_
     rintro e w3 ⟨rfl, n3, rfl⟩
     clear HSC
     by_cases g3 : secNow ps now j = sv
     ·have g3' : (secNow ps now j == sv) = true := by simpa using g3
      have Q : Hid (blkP ps now t = (j : Int)) := by show _ = _; rw [HBP.out, HNO.out.stop hlj g2 g3]
      clear g3 g2 HNO
      generalize secNow ps now j = sj at *
      go_wp2
      go_ret
      exact ⟨by rw [Q.out]; rfl, KR.out.drewN _⟩
     ·have g3' : (secNow ps now j == sv) = false := by simpa using g3
      have HN : Hid (NoneTo ps now t sv (j + 1)) := fun u hu => by
       by_cases e : u = j
       ·subst e; simp [g3]
       ·exact HNO.out u (by omega)
      clear g3 g2 HNO
      go_wp2
      go_roundw
      case rel => exact ⟨j + 1, by omega, by go_num, HN.out, KR.out.drewN _⟩
      case measure => simp [intOf]; omega
   ·obtain rfl : j = ps.length := by omega
    have hdj : decide ((ps.length : Int) < (ps.length : Int)) = false := by simp
    have Q : Hid (blkP ps now t = -1) := by show _ = _; rw [HBP.out, HNO.out.done]
    go_wp2
    go_ret
    exact ⟨by rw [Q.out]; rfl, KR.out⟩
 ·have g1' : decide (p.length ≤ k) = true := by simp; omega
  have Q : Hid (blkP ps now t = -1) := by show _ = _; rw [HBP.out, List.getElem?_eq_none (by omega)]
  clear h h2 hg hr hp ha HBP hnl
  go_enter Try.func84, Try.ntmps84
  go_wp2
  go_quiet (fail)
  go_wp2
  go_ret
  exact ⟨by rw [Q.out]; rfl, (Keeps.refl _ _).drewN _⟩
set_option maxRecDepth 100000 in
set_option maxHeartbeats 1000000 in
theorem movable_any (h : RPaths w (Old w) [.slice A ps.length c] ps) (h2 : RInts w (Old w) [.slice A2 now.length c2] now) (hv : valid ps = true) (hg : Gd ps now) (ht : t < ps.length) :
  Calls Try.prog 65 #[.slice A ps.length c, .slice A2 now.length c2, .int .i64 (t : Int)] w fun e w' => e = .returned (.bool (canMv ps now t)) ∧ KeepsAll w w' := by
 have hc := h.caps
 have hc2 := h2.caps
 have hnl : now.length = ps.length := hg.1
 have al1 : now.length ≤ ps.length := by omega
 have al2 : ps.length ≤ now.length := by omega
 have HM := Lib.hid (blkP_mv ps now t)
 have HB : Hid (∀ W, KeepsAll w W → nowAt now t < lenAt ps t → _) := fun W hW hl => blocker_any ps now A A2 c c2 W t (hW.rdo' RPaths.ok h) (hW.rdo' RInts.ok h2) hv hg ht hl
 obtain ⟨b, o, p, A', c', hbo, hbl, hp, k1, hr⟩ := RSS.atK (Keeps.refl _ _) h ht
 subst hbo
 obtain ⟨b2, o2, a, hbo, hb2l, ha, k2⟩ := RInts.atK (Keeps.refl _ _) h2 (k := t) (by omega)
 subst hbo
 have hcp := hr.caps
 rw [lenAt_of hp, nowAt_of ha] at HM HB
 clear h h2 hr hp ha hnl hg
 by_cases g1 : a < (p.length : Int)
 ·have g1' : decide (a < (p.length : Int)) = true := by simpa using g1
  have HB2 : Hid (∀ W, KeepsAll w W → _) := fun W hW => HB.out W hW g1
  rw [g1'] at HM
  clear HB g1
  generalize blkP ps now t = z at *
  go_enter Try.func65, Try.ntmps65
  go_wp2
  refine wp_region_lex (fun w' => ∃ x : Ext w, w' = x.val) [0, 1, 2, 3, 4, 5, 6, 7, 8, 9, 10, 11, 12, 13, 14, 15, 16, 17] (by kernel_rfl) (by kernel_rfl) ⟨⟨_, (Keeps.refl _ _).drew⟩, rfl⟩ ?_
  have x1 := Ext.cell k1
  have x2 := Ext.cell k2
  iterate 14 (refine lex_q _ rfl rfl rfl ?_; go_big_quiet_step (fail); refine wpQuiet_nil ?_)
  refine lex_a _ rfl rfl true (by kernel_rfl) ?_
  go_wp2_with (go_at_call 84; refine (HB2.out _ ((Keeps.refl _ _).drew)).mono ?_; rintro e w6 ⟨rfl, HK6⟩)
  have K6 : KeepsAll w w6 := ((Keeps.refl _ _).drew).tr HK6
  refine ⟨fun _ => ⟨⟨_, K6⟩, rfl⟩, ?_⟩
  have K6' := Lib.hid K6
  clear K6 HK6
  iterate 3 (refine lex_q _ rfl rfl rfl ?_; go_big_quiet_step (fail); refine wpQuiet_nil ?_)
  simp only [wpLex]
  refine NoPanic.normal ?_
  go_wp2
  go_ret
  exact ⟨by rw [← HM.out]; rfl, K6'.out⟩
 ·have g1' : decide (a < (p.length : Int)) = false := by simpa using g1
  rw [g1'] at HM
  clear HB g1
  go_enter Try.func65, Try.ntmps65
  go_wp2
  go_quiet (fail)
  go_wp2
  go_ret
  exact ⟨by rw [← HM.out]; rfl, (Keeps.refl _ _).drewN _⟩
end

/-- the trains that can move -/
def mvL (ps : List (List Stage)) (now : List Int) (n : Nat) : List Int := ((List.range n).filter fun t => canMv ps now t).map fun t : Nat => (t : Int)
theorem mvL_succ (ps : List (List Stage)) (now : List Int) (n : Nat) : mvL ps now (n + 1) = mvL ps now n ++ (if canMv ps now n = true then [(n : Int)] else []) := by
 unfold mvL
 rw [List.range_succ, List.filter_append, List.map_append]
 congr 1
 by_cases h : canMv ps now n = true
 ·rw [if_pos h]; simp [h]
 ·rw [if_neg h]; simp [h]
theorem mvL_len (ps : List (List Stage)) (now : List Int) (n : Nat) : (mvL ps now n).length ≤ n := by
 unfold mvL
 rw [List.length_map]
 have := List.length_filter_le (fun t => canMv ps now t) (List.range n)
 rwa [List.length_range] at this
theorem mem_mvL {ps : List (List Stage)} {now : List Int} {n : Nat} {x : Int} : x ∈ mvL ps now n ↔ ∃ t : Nat, t < n ∧ canMv ps now t = true ∧ x = (t : Int) := by
 unfold mvL
 rw [List.mem_map]
 constructor
 ·rintro ⟨t, h, rfl⟩
  obtain ⟨h1, h2⟩ := List.mem_filter.1 h
  exact ⟨t, List.mem_range.1 h1, h2, rfl⟩
 ·rintro ⟨t, h1, h2, rfl⟩
  exact ⟨t, List.mem_filter.2 ⟨List.mem_range.2 h1, h2⟩, rfl⟩

set_option maxRecDepth 100000 in
set_option maxHeartbeats 1000000 in
theorem RMoves_any (ps : List (List Stage)) (now : List Int) (A A2 : Option Addr) (c c2 : Nat) (w : World) (h : RPaths w (Old w) [.slice A ps.length c] ps) (h2 : RInts w (Old w) [.slice A2 now.length c2] now) (hcs : checkState ps now = 0) :
  Calls Try.prog 31 #[.slice A ps.length c, .slice A2 now.length c2] w fun e w' => ∃ A3 c3, e = .returned (.slice A3 (mvL ps now ps.length).length c3) ∧ RInts w' (Fresh w w') [.slice A3 (mvL ps now ps.length).length c3] (mvL ps now ps.length) ∧ KeepsAll w w' := by
 have hvg : valid ps = true ∧ good ps now = true := by
  unfold checkState at hcs
  by_cases g : (valid ps && good ps now) = false
  ·rw [if_pos g] at hcs; cases hcs
  ·rw [Bool.not_eq_false, Bool.and_eq_true] at g; exact g
 have hv := hvg.1
 have hg := good_Gd.1 hvg.2
 have hpl : ps.length ≤ 10 := (valid_lens hv).1
 have HCS : Hid (Calls Try.prog 59 #[.slice A ps.length c, .slice A2 now.length c2] w fun e w' => e = .returned (.int .i64 0) ∧ KeepsAll w w') := by
  have := CheckState_any ps now A A2 c c2 w h h2
  rw [hcs] at this
  exact this
 have HMV : Hid (∀ W, KeepsAll w W → ∀ t : Nat, t < ps.length → Calls Try.prog 65 #[.slice A ps.length c, .slice A2 now.length c2, .int .i64 (t : Int)] W fun e w' => e = .returned (.bool (canMv ps now t)) ∧ KeepsAll W w') := fun W hW t ht => movable_any ps now A A2 c c2 W t (hW.rdo' RPaths.ok h) (hW.rdo' RInts.ok h2) hv hg ht
 clear hcs hvg hv hg h h2
 go_enter Try.func31, Try.ntmps31
 go_wp2_with fail
 refine HCS.out.mono ?_
 rintro e w1 ⟨rfl, k1⟩
 have K1 := Lib.hid k1
 clear k1 HCS
 go_wp2
 go_loopw [5, 13] (fun v i wr => ∃ t : Nat, t ≤ ps.length ∧ i = .int .i64 (t : Int) ∧ OwnL 3 1 RInt wr w.heap.size w.heap.size v (mvL ps now t) ∧ KeepsAll w wr) (fun _ i _ => ps.length - (intOf i).toNat)
 case atStart => exact ⟨0, Nat.zero_le _, rfl, OwnL.nil, K1.out⟩
 case round =>
  obtain ⟨t, ht, rfl, ho, hkr⟩ := hrel
  obtain ⟨Aa, ca, rfl, hca, hca2⟩ := ho.form
  have HO := Lib.hid ho
  have KR := Lib.hid hkr
  have hlen := mvL_len ps now t
  have hsz := hkr.size
  clear ho hkr
  by_cases hlt : t < ps.length
  ·have hs := mvL_succ ps now t
   have HMV1 := Lib.hid (HMV.out wr KR.out t hlt)
   have HSU := Lib.hid hs
   clear hs
   go_upto_region 7 with (fail)
   go_wp2_with fail
   refine HMV1.out.mono ?_
   rintro e w2 ⟨rfl, k2⟩
   have K2 := Lib.hid (KR.out.tr k2)
   have HO2 := Lib.hid (HO.out.keeps RInt.ok k2 (fun _ _ h => h.elim))
   have hsz2 := (KR.out.tr k2).size
   clear k2 HMV1 HO KR
   generalize mvL ps now t = L at *
   cases hcm : canMv ps now t with
   | false =>
    have HSU2 : Hid (mvL ps now (t + 1) = L) := by show _ = _; rw [HSU.out, hcm]; simp
    clear hcm HSU
    go_wp2
    go_roundw
    case rel => exact ⟨t + 1, by omega, by go_num, by rw [HSU2.out]; exact HO2.out, K2.out⟩
    case measure => simp [intOf]; omega
   | true =>
    have HSU2 : Hid (mvL ps now (t + 1) = L ++ [(t : Int)]) := by show _ = _; rw [HSU.out, hcm]; simp
    clear hcm HSU
    go_wp2_with (at_builtin; go_loud (refine wpList_append_L tyInt RInt.ok rfl (.tmp 20) (.tmp 22) rfl (HO2.out.alloc RInt.ok _) rfl _ [.int .i64 (t : Int)] rfl (Blk.new' _ _ _ (by simp)) rfl (t : Int) (S := fun _ => False) rfl (fun _ h => h.elim) (by simp [Value.oneCell']) (by omega) (by omega) (by simp; omega) ?_; intro v5 w5 HO5 HK5 HA5; obtain ⟨A5, c5, hv5, hv51, hv52⟩ := HO5.form; rw [List.length_append, List.length_singleton] at hv5; subst hv5))
    have KF : Hid (KeepsAll w w5) := (K2.out.alloc _).trans HK5 (fun y hy e => (by have := (HO2.out.lt e).1; omega))
    have HOF := Lib.hid HO5
    clear HO5 HK5 HA5 HO2
    go_wp2
    go_roundw
    case rel => exact ⟨t + 1, by omega, by go_num, by rw [HSU2.out]; exact HOF.out, KF.out⟩
    case measure => simp [intOf]; omega
  ·obtain rfl : t = ps.length := by omega
   go_wp2
   go_ret
   exact ⟨_, _, rfl, HO.out.readF RInt.ok RInt.flat (fun b hb => HO.out.lt hb), KR.out⟩

end Go.Proofs.Ytilbbpbjhoidhaa
