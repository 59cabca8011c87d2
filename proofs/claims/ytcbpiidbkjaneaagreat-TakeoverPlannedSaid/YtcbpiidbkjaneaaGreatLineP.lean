/- The order of events of chapter 35 as plain lists: the program's and the reference's are the same. No program in sight. -/
import Derived.Test.YtcbpiidbkjaneaaGreatGraphP
namespace Go.Proofs.YtcbpiidbkjaneaaGreat
open Go.RowKit

def nowAt (now : List Int) (t : Nat) : Int := (now[t]?).getD 0
def lenAt (ps : List (List Stage)) (t : Nat) : Nat := ((ps[t]?).getD []).length
theorem lenAt_of {ps : List (List Stage)} {t : Nat} {p : List Stage} (h : ps[t]? = some p) : lenAt ps t = p.length := by simp [lenAt, h]
theorem nowAt_of {now : List Int} {t : Nat} {x : Int} (h : now[t]? = some x) : nowAt now t = x := by simp [nowAt, h]
/-- an event has happened -/
def doneR (now : List Int) (u : Ref) : Bool := decide (u.st ≤ nowAt now u.tr.toNat)
def evAt (ps : List (List Stage)) (i : Nat) : Ref := ((evs ps)[i]?).getD ⟨0, 0⟩
def arcsAt (arcs : List (List GArc)) (i : Nat) : List GArc := (arcs[i]?).getD []
def canGo (ps : List (List Stage)) (arcs : List (List GArc)) (now : List Int) (t : Nat) : Bool :=
  decide (nowAt now t < lenAt ps t) && (arcsAt arcs ((fst ps t : Int) + nowAt now t + 1).toNat).all fun a => doneR now (evAt ps a.frm.toNat)
def readyP (ps : List (List Stage)) (arcs : List (List GArc)) (now : List Int) : Option Nat := (List.range ps.length).find? (canGo ps arcs now)
def lineFrom (go : List Int → Option Nat) : Nat → List Int → List Ref × List Int
  | 0, now => ([], now)
  | f + 1, now => match go now with
    | none => ([], now)
    | some t => (⟨(t : Int), nowAt now t + 1⟩ :: (lineFrom go f (now.set t (nowAt now t + 1))).1, (lineFrom go f (now.set t (nowAt now t + 1))).2)
def total (ps : List (List Stage)) (now : List Int) : Nat := ((List.range ps.length).map fun t => ((lenAt ps t : Int) - nowAt now t).toNat).sum

/-- good positions, as facts -/
def Gd (ps : List (List Stage)) (now : List Int) : Prop := now.length = ps.length ∧ ∀ t, t < ps.length → -1 ≤ nowAt now t ∧ nowAt now t ≤ lenAt ps t
theorem good_Gd {ps : List (List Stage)} {now : List Int} : good ps now = true ↔ Gd ps now := by
  simp only [good, Bool.and_eq_true, decide_eq_true_eq]
  constructor
  · rintro ⟨h1, h2⟩
    refine ⟨h1, fun t ht => ?_⟩
    have hp : ps[t]? = some ps[t] := List.getElem?_eq_getElem ht
    have hn : now[t]? = some (now[t]'(by omega)) := List.getElem?_eq_getElem (by omega)
    have := goodFrom_at ps now h2 t _ _ hp hn
    simp [okPos] at this
    rw [nowAt_of hn, lenAt_of hp]; exact this
  · rintro ⟨h1, h2⟩
    refine ⟨h1, ?_⟩
    clear h1
    induction ps generalizing now with
    | nil => simp [goodFrom]
    | cons p ps ih =>
      cases now with
      | nil => simp [goodFrom]
      | cons a l =>
        simp only [goodFrom, Bool.and_eq_true]
        refine ⟨?_, ih (fun t ht => ?_)⟩
        · have := h2 0 (by simp)
          simp [nowAt, lenAt] at this
          simp [okPos]; exact this
        · have := h2 (t + 1) (by simp; omega)
          simpa [nowAt, lenAt] using this
theorem nowAt_set {now : List Int} {t u : Nat} {x : Int} (ht : t < now.length) : nowAt (now.set t x) u = if t = u then x else nowAt now u := by
  unfold nowAt
  rw [List.getElem?_set]
  by_cases e : t = u
  · subst e; simp [ht]
  · simp [e]
theorem Gd.step {ps : List (List Stage)} {now : List Int} {t : Nat} (h : Gd ps now) (ht : t < ps.length) (hl : nowAt now t < lenAt ps t) : Gd ps (now.set t (nowAt now t + 1)) := by
  refine ⟨by simpa using h.1, fun u hu => ?_⟩
  rw [nowAt_set (by rw [h.1]; exact ht)]
  have h1 := h.2 u hu
  have h2 := h.2 t ht
  by_cases e : t = u
  · subst e; simp; omega
  · simp [e]; exact h1
theorem sum_range_upd {n t : Nat} (ht : t < n) (f g : Nat → Nat) (h1 : ∀ u, u ≠ t → f u = g u) (h2 : f t = g t + 1) : ((List.range n).map f).sum = ((List.range n).map g).sum + 1 := by
  induction n with
  | zero => omega
  | succ n ih =>
    rw [List.range_succ, List.map_append, List.sum_append, List.map_append, List.sum_append]
    simp only [List.map_cons, List.map_nil, List.sum_cons, List.sum_nil]
    by_cases e : t = n
    · subst e
      have : (List.range t).map f = (List.range t).map g := List.map_congr_left fun u hu => h1 u (by have := List.mem_range.1 hu; omega)
      rw [this, h2]; omega
    · rw [ih (by omega), h1 n (fun e' => e e'.symm)]; omega
theorem total_step {ps : List (List Stage)} {now : List Int} {t : Nat} (h : Gd ps now) (ht : t < ps.length) (hl : nowAt now t < lenAt ps t) : total ps now = total ps (now.set t (nowAt now t + 1)) + 1 := by
  unfold total
  refine sum_range_upd ht _ _ (fun u hu => ?_) ?_
  · rw [nowAt_set (by rw [h.1]; exact ht), if_neg (fun e => hu e.symm)]
  · rw [nowAt_set (by rw [h.1]; exact ht), if_pos rfl]
    omega
/-- a chooser that chooses trains with a next event -/
def Sound (ps : List (List Stage)) (go : List Int → Option Nat) : Prop := ∀ now t, go now = some t → t < ps.length ∧ nowAt now t < lenAt ps t
theorem readyP_sound (ps : List (List Stage)) (arcs : List (List GArc)) : Sound ps (readyP ps arcs) := by
  intro now t h
  unfold readyP at h
  have h1 := List.mem_of_find?_eq_some h
  have h2 := List.find?_some h
  simp only [canGo, Bool.and_eq_true, decide_eq_true_eq] at h2
  exact ⟨List.mem_range.1 h1, h2.1⟩
theorem lineFrom_inv {ps : List (List Stage)} {go : List Int → Option Nat} (hs : Sound ps go) : ∀ (f : Nat) (now : List Int), Gd ps now → Gd ps (lineFrom go f now).2 ∧ (lineFrom go f now).1.length + total ps (lineFrom go f now).2 = total ps now ∧ (total ps now ≤ f → go (lineFrom go f now).2 = none)
  | 0, now, h => by
    refine ⟨h, by simp [lineFrom], fun h0 => ?_⟩
    simp only [lineFrom]
    cases e : go now with
    | none => rfl
    | some t =>
      obtain ⟨h1, h2⟩ := hs now t e
      have := total_step h h1 h2; omega
  | f + 1, now, h => by
    simp only [lineFrom]
    cases e : go now with
    | none => exact ⟨h, by simp, fun _ => e⟩
    | some t =>
      obtain ⟨h1, h2⟩ := hs now t e
      have hst := total_step h h1 h2
      obtain ⟨i1, i2, i3⟩ := lineFrom_inv hs f _ (h.step h1 h2)
      exact ⟨i1, by simp; omega, fun hf => i3 (by omega)⟩
theorem lineFrom_congr {ps : List (List Stage)} {go go' : List Int → Option Nat} (hs : Sound ps go) (he : ∀ now, Gd ps now → go now = go' now) : ∀ (f : Nat) (now : List Int), Gd ps now → lineFrom go f now = lineFrom go' f now
  | 0, _, _ => rfl
  | f + 1, now, h => by
    simp only [lineFrom, ← he now h]
    cases e : go now with
    | none => rfl
    | some t =>
      obtain ⟨h1, h2⟩ := hs now t e
      simp only [lineFrom_congr hs he f _ (h.step h1 h2)]
/-- more fuel changes nothing -/
theorem lineFrom_fuel {ps : List (List Stage)} {go : List Int → Option Nat} (hs : Sound ps go) : ∀ (f f' : Nat) (now : List Int), Gd ps now → total ps now ≤ f → total ps now ≤ f' → lineFrom go f now = lineFrom go f' now
  | 0, 0, _, _, _, _ => rfl
  | 0, f' + 1, now, h, h0, _ => by
    simp only [lineFrom]
    cases e : go now with
    | none => rfl
    | some t =>
      obtain ⟨h1, h2⟩ := hs now t e
      have := total_step h h1 h2; omega
  | f + 1, 0, now, h, _, h0 => by
    simp only [lineFrom]
    cases e : go now with
    | none => rfl
    | some t =>
      obtain ⟨h1, h2⟩ := hs now t e
      have := total_step h h1 h2; omega
  | f + 1, f' + 1, now, h, hf, hf' => by
    simp only [lineFrom]
    cases e : go now with
    | none => rfl
    | some t =>
      obtain ⟨h1, h2⟩ := hs now t e
      have := total_step h h1 h2
      simp only [lineFrom_fuel hs f f' _ (h.step h1 h2) (by omega) (by omega)]
theorem sum_zero : ∀ (l : List Nat), l.sum = 0 → ∀ x ∈ l, x = 0
  | [], _, x, hx => by simp at hx
  | a :: l, h, x, hx => by
    simp only [List.sum_cons] at h
    rcases List.mem_cons.1 hx with rfl | hx
    · omega
    · exact sum_zero l (by omega) x hx
theorem total_zero {ps : List (List Stage)} {now : List Int} (h : Gd ps now) : total ps now = 0 ↔ ∀ t, t < ps.length → nowAt now t = lenAt ps t := by
  unfold total
  constructor
  · intro h0 t ht
    have := sum_zero _ h0 (((lenAt ps t : Int) - nowAt now t).toNat) (List.mem_map.2 ⟨t, List.mem_range.2 ht, rfl⟩)
    have := h.2 t ht; omega
  · intro h0
    have : (List.range ps.length).map (fun t => ((lenAt ps t : Int) - nowAt now t).toNat) = (List.range ps.length).map fun _ => 0 := List.map_congr_left fun t ht => by
      rw [h0 t (List.mem_range.1 ht)]; simp
    rw [this]
    induction (List.range ps.length) with
    | nil => rfl
    | cons a l ih => simpa using ih
theorem sum_le_mul (f : Nat → Nat) (B : Nat) : ∀ n, (∀ t, t < n → f t ≤ B) → ((List.range n).map f).sum ≤ n * B
  | 0, _ => by simp
  | n + 1, h => by
    rw [List.range_succ, List.map_append, List.sum_append]
    have h1 := sum_le_mul f B n (fun t ht => h t (by omega))
    have h2 := h n (by omega)
    simp only [List.map_cons, List.map_nil, List.sum_cons, List.sum_nil]
    rw [Nat.succ_mul]; omega
theorem lenAt_le {ps : List (List Stage)} (hv : valid ps = true) (t : Nat) : lenAt ps t ≤ 64 := by
  unfold lenAt
  cases e : ps[t]? with
  | none => simp
  | some p => simpa using ((valid_lens hv).2 p (List.mem_of_getElem? e)).2
theorem total_le {ps : List (List Stage)} (hv : valid ps = true) {now : List Int} (h : Gd ps now) : total ps now ≤ 650 := by
  have h1 := sum_le_mul (fun t => ((lenAt ps t : Int) - nowAt now t).toNat) 65 ps.length (fun t ht => by
    have := h.2 t ht
    have := lenAt_le hv t
    omega)
  have := (valid_lens hv).1
  unfold total; omega

end Go.Proofs.YtcbpiidbkjaneaaGreat
