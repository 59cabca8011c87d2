/- The graph of chapter 35 as plain lists: events, their numbers, the arcs that lead to each. No program in sight. The order of events of chapter 35 as plain lists: the program's and the reference's are the same. No program in sight. Contracts of the readers of stages and uses: Contains, uses, Uses, holds. Conditions: as each theorem says. -/
import Derived.Test.YtbfgmbakeofcbaaGreatK16
namespace Go.Proofs.YtbfgmbakeofcbaaGreat
open Go.RowKit

structure GArc where
  frm : Int
  wt : Int
  deriving DecidableEq, Inhabited, Repr

def evs (ps : List (List Stage)) : List Ref := ps.zipIdx.flatMap fun q => (List.range (q.1.length + 1)).map fun k : Nat => ⟨(q.2 : Int), (k : Int)⟩
def fst (ps : List (List Stage)) (t : Nat) : Nat := (evs (ps.take t)).length
def firsts (ps : List (List Stage)) : List Int := (List.range ps.length).map fun t : Nat => (fst ps t : Int)
theorem evs_succ {ps : List (List Stage)} {t : Nat} {p : List Stage} (h : ps[t]? = some p) : evs (ps.take (t + 1)) = evs (ps.take t) ++ (List.range (p.length + 1)).map fun k : Nat => ⟨(t : Int), (k : Int)⟩ := by
  unfold evs; rw [zipIdx_take_succ h]; simp
theorem fst_zero (ps : List (List Stage)) : fst ps 0 = 0 := by simp [fst, evs]
theorem fst_succ {ps : List (List Stage)} {t : Nat} {p : List Stage} (h : ps[t]? = some p) : fst ps (t + 1) = fst ps t + (p.length + 1) := by
  unfold fst; rw [evs_succ h]; simp
theorem fst_len (ps : List (List Stage)) : fst ps ps.length = (evs ps).length := by unfold fst; rw [List.take_length]
theorem fst_mono {ps : List (List Stage)} {t : Nat} : ∀ u, t ≤ u → u ≤ ps.length → fst ps t ≤ fst ps u
  | 0, h, _ => by obtain rfl : t = 0 := by omega
                  exact Nat.le_refl _
  | u + 1, h, hu => by
    by_cases e : t = u + 1
    · subst e; exact Nat.le_refl _
    · have := fst_mono (ps := ps) u (t := t) (by omega) (by omega)
      have hp : ps[u]? = some ps[u] := List.getElem?_eq_getElem (by omega)
      rw [fst_succ hp]; omega
theorem fst_lt {ps : List (List Stage)} {t u : Nat} {p : List Stage} (h : ps[t]? = some p) (htu : t < u) (hu : u ≤ ps.length) : fst ps t + p.length < fst ps u := by
  have := fst_mono (ps := ps) (t := t + 1) u htu hu
  rw [fst_succ h] at this; omega
theorem fst_le {ps : List (List Stage)} (hv : ∀ p ∈ ps, p.length ≤ 64) : ∀ t : Nat, t ≤ ps.length → fst ps t ≤ t * 65
  | 0, _ => by rw [fst_zero]; omega
  | t + 1, ht => by
    have hp : ps[t]? = some ps[t] := List.getElem?_eq_getElem (by omega)
    rw [fst_succ hp]
    have h1 := fst_le hv t (by omega)
    have h3 := hv ps[t] (List.getElem_mem _)
    omega
theorem evs_at {ps : List (List Stage)} {t : Nat} {p : List Stage} (h : ps[t]? = some p) {k : Nat} (hk : k ≤ p.length) : (evs ps)[fst ps t + k]? = some ⟨(t : Int), (k : Int)⟩ := by
  have ht := getElem?_lt h
  have e : evs ps = evs (ps.take (t + 1)) ++ (evs ps).drop (fst ps (t + 1)) := by
    have hpre : ∀ m, m ≤ ps.length → (evs ps).take (fst ps m) = evs (ps.take m) := by
      intro m hm
      unfold fst
      have : ∃ l, evs ps = evs (ps.take m) ++ l := by
        have : ps.zipIdx = (ps.take m).zipIdx ++ (ps.drop m).zipIdx m := by
          conv => lhs; rw [← List.take_append_drop m ps]
          rw [List.zipIdx_append]; simp; congr 1; omega
        unfold evs
        rw [this, List.flatMap_append]
        exact ⟨_, rfl⟩
      obtain ⟨l, hl⟩ := this
      rw [hl]; simp
    conv => lhs; rw [← List.take_append_drop (fst ps (t + 1)) (evs ps), hpre (t + 1) (by omega)]
  rw [e, evs_succ h, List.append_assoc]
  rw [List.getElem?_append_right (by show (evs (ps.take t)).length ≤ _; unfold fst; omega)]
  have e2 : fst ps t + k - (evs (ps.take t)).length = k := by unfold fst; omega
  rw [e2, List.getElem?_append_left (by simp; omega)]
  simp [Nat.lt_succ_of_le hk]
theorem firsts_at {ps : List (List Stage)} {t : Nat} (h : t < ps.length) : (firsts ps)[t]? = some (fst ps t : Int) := by
  simp [firsts, h]
theorem firsts_len (ps : List (List Stage)) : (firsts ps).length = ps.length := by simp [firsts]
/-- an event by its number -/
theorem evs_inv {ps : List (List Stage)} : ∀ m : Nat, m ≤ ps.length → ∀ {i : Nat}, i < fst ps m → ∃ (t k : Nat) (p : List Stage), t < m ∧ ps[t]? = some p ∧ k ≤ p.length ∧ i = fst ps t + k
  | 0, _, i, hi => by rw [fst_zero] at hi; omega
  | m + 1, hm, i, hi => by
    have hp : ps[m]? = some ps[m] := List.getElem?_eq_getElem (by omega)
    rw [fst_succ hp] at hi
    by_cases h : i < fst ps m
    · obtain ⟨t, k, p, h1, h2⟩ := evs_inv m (by omega) h
      exact ⟨t, k, p, by omega, h2⟩
    · exact ⟨m, i - fst ps m, ps[m], by omega, hp, by omega, by omega⟩

/-- the arcs, by a list of additions -/
def arcsOf (n : Nat) (adds : List (Nat × GArc)) : List (List GArc) := (List.range n).map fun i => (adds.filter fun q => q.1 == i).map (·.2)
theorem arcsOf_len (n : Nat) (adds : List (Nat × GArc)) : (arcsOf n adds).length = n := by simp [arcsOf]
theorem arcsOf_nil (n : Nat) : arcsOf n [] = List.replicate n [] := by
  apply List.ext_getElem?
  intro i
  simp only [arcsOf, List.getElem?_map, List.getElem?_replicate]
  by_cases h : i < n <;> simp [h]
theorem arcsOf_at (n : Nat) (adds : List (Nat × GArc)) {i : Nat} (hi : i < n) : (arcsOf n adds)[i]? = some ((adds.filter fun q => q.1 == i).map (·.2)) := by simp [arcsOf, hi]
theorem arcsOf_push (n : Nat) (adds : List (Nat × GArc)) {i : Nat} (a : GArc) {l : List GArc} (hl : (arcsOf n adds)[i]? = some l) : arcsOf n (adds ++ [(i, a)]) = (arcsOf n adds).set i (l ++ [a]) := by
  have hi : i < n := by have := getElem?_lt hl; rwa [arcsOf_len] at this
  rw [arcsOf_at n adds hi] at hl
  injection hl with hl
  apply List.ext_getElem?
  intro j
  rw [List.getElem?_set]
  by_cases hj : j < n
  · rw [arcsOf_at n _ hj]
    by_cases e : i = j
    · subst e
      rw [if_pos rfl, if_pos (by rw [arcsOf_len]; exact hi), List.filter_append, List.map_append, hl]
      simp
    · rw [if_neg e, arcsOf_at n adds hj, List.filter_append, List.map_append]
      have : (i == j) = false := by simpa using e
      simp [this]
  · have h1 : (arcsOf n (adds ++ [(i, a)]))[j]? = none := List.getElem?_eq_none (by rw [arcsOf_len]; omega)
    have h2 : (arcsOf n adds)[j]? = none := List.getElem?_eq_none (by rw [arcsOf_len]; omega)
    rw [h1, h2]
    by_cases e : i = j
    · omega
    · rw [if_neg e]
theorem mem_arcsOf {n : Nat} {adds : List (Nat × GArc)} {i : Nat} {l : List GArc} (hl : (arcsOf n adds)[i]? = some l) {a : GArc} : a ∈ l ↔ (i, a) ∈ adds := by
  have hi : i < n := by have := getElem?_lt hl; rwa [arcsOf_len] at this
  rw [arcsOf_at n adds hi] at hl
  injection hl with hl; subst hl
  simp only [List.mem_map, List.mem_filter, beq_iff_eq]
  constructor
  · rintro ⟨⟨j, b⟩, ⟨h1, h2⟩, h3⟩; simp at h2 h3; subst h2 h3; exact h1
  · intro h; exact ⟨(i, a), ⟨h, rfl⟩, rfl⟩

def chainP (f : Nat) (p : List Stage) : List (Nat × GArc) := p.zipIdx.map fun q => (f + q.2 + 1, ⟨((f + q.2 : Nat) : Int), q.1.mn⟩)
def chainAdds (ps : List (List Stage)) : List (Nat × GArc) := ps.zipIdx.flatMap fun q => chainP (fst ps q.2) q.1
/-- the same for the first m paths -/
def chainTo (ps : List (List Stage)) (m : Nat) : List (Nat × GArc) := (ps.take m).zipIdx.flatMap fun q => chainP (fst ps q.2) q.1
theorem chainTo_succ {ps : List (List Stage)} {t : Nat} {p : List Stage} (h : ps[t]? = some p) : chainTo ps (t + 1) = chainTo ps t ++ chainP (fst ps t) p := by
  unfold chainTo; rw [zipIdx_take_succ h]; simp
theorem chainP_succ (f : Nat) {p : List Stage} {k : Nat} {s : Stage} (h : p[k]? = some s) : chainP f (p.take (k + 1)) = chainP f (p.take k) ++ [(f + k + 1, ⟨((f + k : Nat) : Int), s.mn⟩)] := by
  unfold chainP; rw [zipIdx_take_succ h]; simp
theorem chainTo_all (ps : List (List Stage)) : chainTo ps ps.length = chainAdds ps := by unfold chainTo chainAdds; rw [List.take_length]

/-- the number of an event; the event after which a use is over -/
def num (ps : List (List Stage)) (u : Ref) : Nat := fst ps u.tr.toNat + u.st.toNat
def secOf (ps : List (List Stage)) (u : Ref) : Int := (((ps[u.tr.toNat]?).getD [])[u.st.toNat]?).elim (-1) (·.sec)
def relOf (ps : List (List Stage)) (r : Int) (u : Ref) : Ref := if secOf ps u = r then ⟨u.tr, u.st + 1⟩ else u
def relArcs (to : Nat) (tr : Int) (rel : List Int) : List (Nat × GArc) := rel.zipIdx.flatMap fun q => if (q.2 : Int) ≠ tr ∧ 0 ≤ q.1 then [(to, ⟨q.1, 0⟩)] else []
def useAdds (ps : List (List Stage)) (r : Int) : List Ref → List Int → List (Nat × GArc)
  | [], _ => []
  | v :: l, rel => relArcs (num ps v) v.tr rel ++ useAdds ps r l (rel.set v.tr.toNat (num ps (relOf ps r v)))
def orderAdds (ps : List (List Stage)) (o : Order) : List (Nat × GArc) := useAdds ps o.res o.uses (List.replicate ps.length (-1))
def gAdds (ps : List (List Stage)) (os : List Order) : List (Nat × GArc) := chainAdds ps ++ os.flatMap (orderAdds ps)
theorem relArcs_succ (to : Nat) (tr : Int) {rel : List Int} {t : Nat} {x : Int} (h : rel[t]? = some x) : relArcs to tr (rel.take (t + 1)) = relArcs to tr (rel.take t) ++ (if (t : Int) ≠ tr ∧ 0 ≤ x then [(to, ⟨x, 0⟩)] else []) := by
  unfold relArcs; rw [zipIdx_take_succ h]; simp

def nowAt (now : List Int) (t : Nat) : Int := (now[t]?).getD 0
def lenAt (ps : List (List Stage)) (t : Nat) : Nat := ((ps[t]?).getD []).length
theorem lenAt_of {ps : List (List Stage)} {t : Nat} {p : List Stage} (h : ps[t]? = some p) : lenAt ps t = p.length := by simp [lenAt, h]
theorem nowAt_of {now : List Int} {t : Nat} {x : Int} (h : now[t]? = some x) : nowAt now t = x := by simp [nowAt, h]
/-- an event has happened -/
def doneR (now : List Int) (u : Ref) : Bool := decide (u.st ≤ nowAt now u.tr.toNat)
def evAt (ps : List (List Stage)) (i : Nat) : Ref := ((evs ps)[i]?).getD ⟨0, 0⟩
def arcsAt (arcs : List (List GArc)) (i : Nat) : List GArc := (arcs[i]?).getD []
def canGo (ps : List (List Stage)) (arcs : List (List GArc)) (now : List Int) (t : Nat) : Bool :=
  decide (nowAt now t < lenAt ps t) && (arcsAt arcs ((fst ps t : Int) + nowAt now t + 1).toNat).all fun a => doneR now (evAt ps a.frm.toNat)
def readyP (ps : List (List Stage)) (arcs : List (List GArc)) (now : List Int) : Option Nat := (List.range ps.length).find? (canGo ps arcs now)
def lineFrom (go : List Int → Option Nat) : Nat → List Int → List Ref × List Int
  | 0, now => ([], now)
  | f + 1, now => match go now with
    | none => ([], now)
    | some t => (⟨(t : Int), nowAt now t + 1⟩ :: (lineFrom go f (now.set t (nowAt now t + 1))).1, (lineFrom go f (now.set t (nowAt now t + 1))).2)
def total (ps : List (List Stage)) (now : List Int) : Nat := ((List.range ps.length).map fun t => ((lenAt ps t : Int) - nowAt now t).toNat).sum

/-- good positions, as facts -/
def Gd (ps : List (List Stage)) (now : List Int) : Prop := now.length = ps.length ∧ ∀ t, t < ps.length → -1 ≤ nowAt now t ∧ nowAt now t ≤ lenAt ps t
theorem good_Gd {ps : List (List Stage)} {now : List Int} : good ps now = true ↔ Gd ps now := by
  simp only [good, Bool.and_eq_true, decide_eq_true_eq]
  constructor
  · rintro ⟨h1, h2⟩
    refine ⟨h1, fun t ht => ?_⟩
    have hp : ps[t]? = some ps[t] := List.getElem?_eq_getElem ht
    have hn : now[t]? = some (now[t]'(by omega)) := List.getElem?_eq_getElem (by omega)
    have := goodFrom_at ps now h2 t _ _ hp hn
    simp [okPos] at this
    rw [nowAt_of hn, lenAt_of hp]; exact this
  · rintro ⟨h1, h2⟩
    refine ⟨h1, ?_⟩
    clear h1
    induction ps generalizing now with
    | nil => simp [goodFrom]
    | cons p ps ih =>
      cases now with
      | nil => simp [goodFrom]
      | cons a l =>
        simp only [goodFrom, Bool.and_eq_true]
        refine ⟨?_, ih (fun t ht => ?_)⟩
        · have := h2 0 (by simp)
          simp [nowAt, lenAt] at this
          simp [okPos]; exact this
        · have := h2 (t + 1) (by simp; omega)
          simpa [nowAt, lenAt] using this
theorem nowAt_set {now : List Int} {t u : Nat} {x : Int} (ht : t < now.length) : nowAt (now.set t x) u = if t = u then x else nowAt now u := by
  unfold nowAt
  rw [List.getElem?_set]
  by_cases e : t = u
  · subst e; simp [ht]
  · simp [e]
theorem Gd.step {ps : List (List Stage)} {now : List Int} {t : Nat} (h : Gd ps now) (ht : t < ps.length) (hl : nowAt now t < lenAt ps t) : Gd ps (now.set t (nowAt now t + 1)) := by
  refine ⟨by simpa using h.1, fun u hu => ?_⟩
  rw [nowAt_set (by rw [h.1]; exact ht)]
  have h1 := h.2 u hu
  have h2 := h.2 t ht
  by_cases e : t = u
  · subst e; simp; omega
  · simp [e]; exact h1
theorem sum_range_upd {n t : Nat} (ht : t < n) (f g : Nat → Nat) (h1 : ∀ u, u ≠ t → f u = g u) (h2 : f t = g t + 1) : ((List.range n).map f).sum = ((List.range n).map g).sum + 1 := by
  induction n with
  | zero => omega
  | succ n ih =>
    rw [List.range_succ, List.map_append, List.sum_append, List.map_append, List.sum_append]
    simp only [List.map_cons, List.map_nil, List.sum_cons, List.sum_nil]
    by_cases e : t = n
    · subst e
      have : (List.range t).map f = (List.range t).map g := List.map_congr_left fun u hu => h1 u (by have := List.mem_range.1 hu; omega)
      rw [this, h2]; omega
    · rw [ih (by omega), h1 n (fun e' => e e'.symm)]; omega
theorem total_step {ps : List (List Stage)} {now : List Int} {t : Nat} (h : Gd ps now) (ht : t < ps.length) (hl : nowAt now t < lenAt ps t) : total ps now = total ps (now.set t (nowAt now t + 1)) + 1 := by
  unfold total
  refine sum_range_upd ht _ _ (fun u hu => ?_) ?_
  · rw [nowAt_set (by rw [h.1]; exact ht), if_neg (fun e => hu e.symm)]
  · rw [nowAt_set (by rw [h.1]; exact ht), if_pos rfl]
    omega
/-- a chooser that chooses trains with a next event -/
def Sound (ps : List (List Stage)) (go : List Int → Option Nat) : Prop := ∀ now t, go now = some t → t < ps.length ∧ nowAt now t < lenAt ps t
theorem readyP_sound (ps : List (List Stage)) (arcs : List (List GArc)) : Sound ps (readyP ps arcs) := by
  intro now t h
  unfold readyP at h
  have h1 := List.mem_of_find?_eq_some h
  have h2 := List.find?_some h
  simp only [canGo, Bool.and_eq_true, decide_eq_true_eq] at h2
  exact ⟨List.mem_range.1 h1, h2.1⟩
theorem lineFrom_inv {ps : List (List Stage)} {go : List Int → Option Nat} (hs : Sound ps go) : ∀ (f : Nat) (now : List Int), Gd ps now → Gd ps (lineFrom go f now).2 ∧ (lineFrom go f now).1.length + total ps (lineFrom go f now).2 = total ps now ∧ (total ps now ≤ f → go (lineFrom go f now).2 = none)
  | 0, now, h => by
    refine ⟨h, by simp [lineFrom], fun h0 => ?_⟩
    simp only [lineFrom]
    cases e : go now with
    | none => rfl
    | some t =>
      obtain ⟨h1, h2⟩ := hs now t e
      have := total_step h h1 h2; omega
  | f + 1, now, h => by
    simp only [lineFrom]
    cases e : go now with
    | none => exact ⟨h, by simp, fun _ => e⟩
    | some t =>
      obtain ⟨h1, h2⟩ := hs now t e
      have hst := total_step h h1 h2
      obtain ⟨i1, i2, i3⟩ := lineFrom_inv hs f _ (h.step h1 h2)
      exact ⟨i1, by simp; omega, fun hf => i3 (by omega)⟩
theorem lineFrom_congr {ps : List (List Stage)} {go go' : List Int → Option Nat} (hs : Sound ps go) (he : ∀ now, Gd ps now → go now = go' now) : ∀ (f : Nat) (now : List Int), Gd ps now → lineFrom go f now = lineFrom go' f now
  | 0, _, _ => rfl
  | f + 1, now, h => by
    simp only [lineFrom, ← he now h]
    cases e : go now with
    | none => rfl
    | some t =>
      obtain ⟨h1, h2⟩ := hs now t e
      simp only [lineFrom_congr hs he f _ (h.step h1 h2)]
/-- more fuel changes nothing -/
theorem lineFrom_fuel {ps : List (List Stage)} {go : List Int → Option Nat} (hs : Sound ps go) : ∀ (f f' : Nat) (now : List Int), Gd ps now → total ps now ≤ f → total ps now ≤ f' → lineFrom go f now = lineFrom go f' now
  | 0, 0, _, _, _, _ => rfl
  | 0, f' + 1, now, h, h0, _ => by
    simp only [lineFrom]
    cases e : go now with
    | none => rfl
    | some t =>
      obtain ⟨h1, h2⟩ := hs now t e
      have := total_step h h1 h2; omega
  | f + 1, 0, now, h, _, h0 => by
    simp only [lineFrom]
    cases e : go now with
    | none => rfl
    | some t =>
      obtain ⟨h1, h2⟩ := hs now t e
      have := total_step h h1 h2; omega
  | f + 1, f' + 1, now, h, hf, hf' => by
    simp only [lineFrom]
    cases e : go now with
    | none => rfl
    | some t =>
      obtain ⟨h1, h2⟩ := hs now t e
      have := total_step h h1 h2
      simp only [lineFrom_fuel hs f f' _ (h.step h1 h2) (by omega) (by omega)]
theorem sum_zero : ∀ (l : List Nat), l.sum = 0 → ∀ x ∈ l, x = 0
  | [], _, x, hx => by simp at hx
  | a :: l, h, x, hx => by
    simp only [List.sum_cons] at h
    rcases List.mem_cons.1 hx with rfl | hx
    · omega
    · exact sum_zero l (by omega) x hx
theorem total_zero {ps : List (List Stage)} {now : List Int} (h : Gd ps now) : total ps now = 0 ↔ ∀ t, t < ps.length → nowAt now t = lenAt ps t := by
  unfold total
  constructor
  · intro h0 t ht
    have := sum_zero _ h0 (((lenAt ps t : Int) - nowAt now t).toNat) (List.mem_map.2 ⟨t, List.mem_range.2 ht, rfl⟩)
    have := h.2 t ht; omega
  · intro h0
    have : (List.range ps.length).map (fun t => ((lenAt ps t : Int) - nowAt now t).toNat) = (List.range ps.length).map fun _ => 0 := List.map_congr_left fun t ht => by
      rw [h0 t (List.mem_range.1 ht)]; simp
    rw [this]
    induction (List.range ps.length) with
    | nil => rfl
    | cons a l ih => simpa using ih
theorem sum_le_mul (f : Nat → Nat) (B : Nat) : ∀ n, (∀ t, t < n → f t ≤ B) → ((List.range n).map f).sum ≤ n * B
  | 0, _ => by simp
  | n + 1, h => by
    rw [List.range_succ, List.map_append, List.sum_append]
    have h1 := sum_le_mul f B n (fun t ht => h t (by omega))
    have h2 := h n (by omega)
    simp only [List.map_cons, List.map_nil, List.sum_cons, List.sum_nil]
    rw [Nat.succ_mul]; omega
theorem lenAt_le {ps : List (List Stage)} (hv : valid ps = true) (t : Nat) : lenAt ps t ≤ 64 := by
  unfold lenAt
  cases e : ps[t]? with
  | none => simp
  | some p => simpa using ((valid_lens hv).2 p (List.mem_of_getElem? e)).2
theorem total_le {ps : List (List Stage)} (hv : valid ps = true) {now : List Int} (h : Gd ps now) : total ps now ≤ 650 := by
  have h1 := sum_le_mul (fun t => ((lenAt ps t : Int) - nowAt now t).toNat) 65 ps.length (fun t ht => by
    have := h.2 t ht
    have := lenAt_le hv t
    omega)
  have := (valid_lens hv).1
  unfold total; omega

theorem RRefs.at_ {w : World} {S : Foot} {A : Option Addr} {n c : Nat} {l : List Ref} (h : RRefs w S [.slice A n c] l) {k : Nat} (hk : k < l.length) :
    ∃ b o u, A = some ⟨b, o, none⟩ ∧ S b ∧ l[k]? = some u ∧ w.cell? ⟨b, o + k * 2, none⟩ = some (.int .i64 u.tr) ∧ w.cell? ⟨b, o + k * 2 + 1, none⟩ = some (.int .i64 u.st) := by
  obtain ⟨b, o, u, es, rfl, hb, hx, h1, h2, h3⟩ := h.get hk
  cases h2
  exact ⟨b, o, u, rfl, hb, hx, by simpa using h3 0 _ rfl, by simpa [Nat.add_assoc] using h3 1 _ rfl⟩
theorem ROrders.at_ {w : World} {S : Foot} {A : Option Addr} {n c : Nat} {l : List Order} (h : ROrders w S [.slice A n c] l) {k : Nat} (hk : k < l.length) :
    ∃ b o x A' c', A = some ⟨b, o, none⟩ ∧ S b ∧ l[k]? = some x ∧ w.cell? ⟨b, o + k * 2, none⟩ = some (.int .i64 x.res) ∧ w.cell? ⟨b, o + k * 2 + 1, none⟩ = some (.slice A' x.uses.length c') ∧ RRefs w S [.slice A' x.uses.length c'] x.uses := by
  obtain ⟨b, o, x, es, rfl, hb, hx, h1, ⟨v, rfl, hv⟩, h3⟩ := h.get hk
  have hv' := hv
  obtain ⟨A', c', he, _⟩ := hv'
  injection he with he _; subst he
  exact ⟨b, o, x, A', c', rfl, hb, hx, by simpa using h3 0 _ rfl, by simpa [Nat.add_assoc] using h3 1 _ rfl, hv⟩

def idxOf (l : List Int) (x : Int) : Int := if x ∈ l then (l.idxOf x : Int) else -1
theorem idxOf_stop {l : List Int} {k : Nat} {x : Int} (hx : l[k]? = some x) (hn : x ∉ l.take k) : idxOf l x = k := by
  have hm := List.mem_of_getElem? hx
  unfold idxOf
  rw [if_pos hm]
  have hk := getElem?_lt hx
  have e : l = l.take k ++ x :: l.drop (k + 1) := by rw [← drop_cons' hx, List.take_append_drop]
  have : l.idxOf x = k := by
    conv => lhs; rw [e]
    rw [List.idxOf_append, if_neg hn]
    simp; omega
  rw [this]

set_option maxHeartbeats 400000 in
theorem IndexInt_any (l : List Int) (x : Int) (A : Option Addr) (c : Nat) (w : World) (S : Foot) (h : RInts w S [.slice A l.length c] l) :
    Calls Tryz.prog 113 #[.slice A l.length c, .int .i64 x] w fun e w' => e = .returned (.int .i64 (idxOf l x)) ∧ w = w' := by
  have hc := h.caps
  have H := Lib.hid h; clear h
  go_enter Tryz.func113, Tryz.ntmps113
  go_wp2
  go_loop [8] (fun i => ∃ k : Nat, k ≤ l.length ∧ i = .int .i64 k ∧ x ∉ l.take k) (fun i => l.length - (intOf i).toNat)
  case atStart => exact ⟨0, Nat.zero_le _, rfl, by simp⟩
  case round =>
    obtain ⟨k, hk, rfl, hno⟩ := hrel
    have HNO := Lib.hid hno; clear hno
    by_cases hlt : k < l.length
    · obtain ⟨b, o, y, rfl, _, hy, k1⟩ := H.out.at_ hlt
      by_cases g : (x == y) = true
      · have Q : Hid (idxOf l x = k) := by
          have : x = y := by simpa using g
          subst this; exact idxOf_stop hy HNO.out
        clear hy
        go_wp2
        go_ret
        exact ⟨by rw [Q.out]; rfl, rfl⟩
      · have g' : (x == y) = false := by simpa using g
        have Q : Hid (x ∉ l.take (k + 1)) := by
          show ¬ _
          rw [List.take_add_one, hy]; simp
          exact ⟨by simpa using HNO.out, by simpa using g'⟩
        clear hy
        go_wp2
        go_round
        case rel => exact ⟨k + 1, by omega, by go_num, Q.out⟩
        case measure => simp [intOf]; omega
    · obtain rfl : k = l.length := by omega
      have Q : Hid (idxOf l x = -1) := by
        show idxOf l x = -1
        have := HNO.out; rw [List.take_length] at this
        simp [idxOf, this]
      go_wp2
      go_ret
      exact ⟨by rw [Q.out]; rfl, rfl⟩
theorem idxOf_ge (l : List Int) (x : Int) : decide (idxOf l x ≥ 0) = decide (x ∈ l) := by
  unfold idxOf
  by_cases h : x ∈ l
  · simp [h]
  · simp [h]
theorem ContainsInt_any (l : List Int) (x : Int) (A : Option Addr) (c : Nat) (w : World) (S : Foot) (h : RInts w S [.slice A l.length c] l) :
    Calls Tryz.prog 99 #[.slice A l.length c, .int .i64 x] w fun e w' => e = .returned (.bool (decide (x ∈ l))) ∧ w = w' := by
  have Q := Lib.hid (idxOf_ge l x)
  have I := Lib.hid (IndexInt_any l x A c w S h)
  clear h
  go_enter Tryz.func99, Tryz.ntmps99
  go_wp2_with fail
  refine I.out.mono ?_
  rintro e w' ⟨rfl, rfl⟩
  go_wp2
  go_ret
  exact ⟨by rw [← Q.out]; rfl, rfl⟩

/-- the cells of a stage -/
abbrev stC (s : Stage) (Ap : Option Addr) (cp : Nat) : Array Value := #[.int .i64 s.sec, .slice Ap s.pts.length cp, .int .i64 s.mn, .int .i64 s.nt]
theorem mem_stUses (s : Stage) (r : Int) : decide (r ∈ stUses s) = (s.sec == r || decide (r ∈ s.pts)) := by
  rw [Bool.eq_iff_iff]
  simp only [stUses, List.mem_cons, Bool.or_eq_true, beq_iff_eq, decide_eq_true_eq]
  constructor
  · rintro (h | h)
    · exact .inl h.symm
    · exact .inr h
  · rintro (h | h)
    · exact .inl h.symm
    · exact .inr h
set_option maxHeartbeats 400000 in
theorem uses_any (s : Stage) (r : Int) (Ap : Option Addr) (cp : Nat) (w : World) (h : RInts w (Old w) [.slice Ap s.pts.length cp] s.pts) :
    Calls Tryz.prog 75 #[.agg (stC s Ap cp), .int .i64 r] w fun e w' => e = .returned (.bool (decide (r ∈ stUses s))) ∧ KeepsAll w w' := by
  have hc := h.caps
  have HA : Hid (∀ o, RInts (w.alloc o) (Old (w.alloc o)) [.slice Ap s.pts.length cp] s.pts) := fun o => ((Keeps.refl (fun _ => False) w).alloc o).rd RInts.ok h (fun b hb => ⟨hb, by simp⟩) (fun b hb => by have : b < w.heap.size := hb; show b < _; simp; omega)
  have HM := Lib.hid (mem_stUses s r)
  clear h
  by_cases g : (s.sec == r) = true
  · have HM2 : Hid (decide (r ∈ stUses s) = true) := by rw [HM.out, g]; rfl
    clear HM
    go_enter Tryz.func75, Tryz.ntmps75
    go_wp2
    go_ret
    exact ⟨by rw [HM2.out]; rfl, (Keeps.refl _ _).alloc _⟩
  · have g' : (s.sec == r) = false := by simpa using g
    have HM2 : Hid (decide (r ∈ stUses s) = decide (r ∈ s.pts)) := by show decide (r ∈ stUses s) = decide (r ∈ s.pts); rw [HM.out, g', Bool.false_or]
    clear HM
    go_enter Tryz.func75, Tryz.ntmps75
    go_wp2_with fail
    refine (ContainsInt_any s.pts r Ap cp _ _ (HA.out _)).mono ?_
    rintro e w' ⟨rfl, rfl⟩
    go_wp2
    go_ret
    exact ⟨by rw [HM2.out]; rfl, (Keeps.refl _ _).alloc _⟩
set_option maxHeartbeats 400000 in
theorem Uses_any (s : Stage) (r : Int) (Ap : Option Addr) (cp : Nat) (w : World) (h : RInts w (Old w) [.slice Ap s.pts.length cp] s.pts) :
    Calls Tryz.prog 66 #[.agg (stC s Ap cp), .int .i64 r] w fun e w' => e = .returned (.tuple #[.bool (decide (r ∈ stUses s)), .bool (s.sec == r)]) ∧ KeepsAll w w' := by
  have hc := h.caps
  have HA : Hid (∀ o, RInts (w.alloc o) (Old (w.alloc o)) [.slice Ap s.pts.length cp] s.pts) := fun o => ((Keeps.refl (fun _ => False) w).alloc o).rd RInts.ok h (fun b hb => ⟨hb, by simp⟩) (fun b hb => by have : b < w.heap.size := hb; show b < _; simp; omega)
  have HM := Lib.hid (mem_stUses s r)
  clear h
  by_cases g : (s.sec == r) = true
  · have HM2 : Hid (decide (r ∈ stUses s) = true) := by rw [HM.out, g]; rfl
    clear HM
    go_enter Tryz.func66, Tryz.ntmps66
    go_wp2
    go_ret2
    exact ⟨by rw [HM2.out, g]; rfl, (Keeps.refl _ _).alloc _⟩
  · have g' : (s.sec == r) = false := by simpa using g
    have HM2 : Hid (decide (r ∈ stUses s) = decide (r ∈ s.pts)) := by show decide (r ∈ stUses s) = decide (r ∈ s.pts); rw [HM.out, g', Bool.false_or]
    clear HM
    go_enter Tryz.func66, Tryz.ntmps66
    go_wp2
    generalize hW : World.alloc w _ = W
    have HR : Hid (RInts W (Old W) [.slice Ap s.pts.length cp] s.pts) := by subst hW; exact HA.out _
    have KW : Hid (KeepsAll w W) := by subst hW; exact (Keeps.refl _ _).alloc _
    clear hW HA
    go_loop [15] (fun i => ∃ k : Nat, k ≤ s.pts.length ∧ i = .int .i64 k ∧ r ∉ s.pts.take k) (fun i => s.pts.length - (intOf i).toNat)
    case atStart => exact ⟨0, Nat.zero_le _, rfl, by simp⟩
    case round =>
      obtain ⟨k, hk, rfl, hno⟩ := hrel
      have HNO := Lib.hid hno; clear hno
      by_cases hlt : k < s.pts.length
      · obtain ⟨b, o, y, rfl, _, hy, k1⟩ := HR.out.at_ hlt
        by_cases g2 : (y == r) = true
        · have Q : Hid (decide (r ∈ s.pts) = true) := by
            have : y = r := by simpa using g2
            subst this
            show decide (y ∈ s.pts) = true
            simpa using List.mem_of_getElem? hy
          clear hy
          go_wp2
          go_ret2
          exact ⟨by rw [HM2.out, Q.out]; rfl, KW.out⟩
        · have g2' : (y == r) = false := by simpa using g2
          have Q : Hid (r ∉ s.pts.take (k + 1)) := by
            show ¬ _
            rw [List.take_add_one, hy]; simp
            exact ⟨by simpa using HNO.out, fun e => by simp [e] at g2'⟩
          clear hy
          go_wp2
          go_round
          case rel => exact ⟨k + 1, by omega, by go_num, Q.out⟩
          case measure => simp [intOf]; omega
      · obtain rfl : k = s.pts.length := by omega
        have Q : Hid (decide (r ∈ s.pts) = false) := by
          show decide (r ∈ s.pts) = false
          have := HNO.out; rw [List.take_length] at this
          simpa using this
        go_wp2
        go_ret2
        exact ⟨by rw [HM2.out, Q.out]; rfl, KW.out⟩

end Go.Proofs.YtbfgmbakeofcbaaGreat
