/- The reference's order of events agrees with the program's. No program in sight. -/
import Derived.Test.YtcbpiidbkjaneaaGreatRefP
namespace Go.Proofs.YtcbpiidbkjaneaaGreat
open Go.RowKit

def rdyR (arcs : List RArc) (now : List Int) (u : Ref) : Bool := arcs.all fun a => !(decide (a.to = u) && !doneR now a.frm)
def goC (ps : List (List Stage)) (arcs : List RArc) (now : List Int) (t : Nat) : Bool := decide (nowAt now t < lenAt ps t) && rdyR arcs now ⟨(t : Int), nowAt now t + 1⟩
def goR (ps : List (List Stage)) (arcs : List RArc) (now : List Int) : Option Nat := (List.range ps.length).find? (goC ps arcs now)
theorem goR_sound (ps : List (List Stage)) (arcs : List RArc) : Sound ps (goR ps arcs) := by
  intro now t h
  unfold goR at h
  have h1 := List.mem_of_find?_eq_some h
  have h2 := List.find?_some h
  simp only [goC, Bool.and_eq_true, decide_eq_true_eq] at h2
  exact ⟨List.mem_range.1 h1, h2.1⟩
def badArc (at_ : List Int) (a : RArc) : Bool := doneR at_ a.to && !doneR at_ a.frm
def lineR (ps : List (List Stage)) (arcs : List RArc) (at_ : List Int) : List Ref × Bool :=
  if arcs.any (badArc at_) = true then ([], false) else if total ps (lineFrom (goR ps arcs) (total ps at_) at_).2 = 0 then ((lineFrom (goR ps arcs) (total ps at_) at_).1, true) else ([], false)
theorem find?_congr' {α : Type} {f g : α → Bool} : ∀ {l : List α}, (∀ x ∈ l, f x = g x) → l.find? f = l.find? g
  | [], _ => rfl
  | a :: l, h => by
    rw [List.find?_cons, List.find?_cons, h a (by simp), find?_congr' (l := l) (fun x hx => h x (by simp [hx]))]
theorem readyP_goR {ps : List (List Stage)} {os : List Order} (hck : checkO ps os = true) {now : List Int} (hg : Gd ps now) : readyP ps (arcsOf (evs ps).length (gAdds ps os)) now = goR ps (refArcs ps os) now := by
  unfold readyP goR
  apply find?_congr'
  intro t ht
  have ht := List.mem_range.1 ht
  have hp : ps[t]? = some ps[t] := List.getElem?_eq_getElem ht
  unfold canGo goC
  by_cases hl : nowAt now t < lenAt ps t
  · have hG := hg.2 t ht
    have hl' := hl
    rw [lenAt_of hp] at hl'
    obtain ⟨k, hk⟩ := Int.eq_ofNat_of_zero_le (by omega : 0 ≤ nowAt now t + 1)
    have hn : ((fst ps t : Int) + nowAt now t + 1).toNat = num ps ⟨(t : Int), (k : Int)⟩ := by unfold num; simp; omega
    have ha := arcs_agree hck hg hp (k := k) (by omega)
    rw [hk, hn]
    congr 1
    rw [Bool.eq_iff_iff]
    unfold rdyR
    rw [List.all_eq_true, List.all_eq_true, ha]
    constructor
    · intro h a hm
      by_cases e : a.to = ⟨(t : Int), (k : Int)⟩
      · simp [h a hm e]
      · simp [e]
    · intro h a hm e
      have := h a hm
      simpa [e] using this
  · simp [hl]
theorem refArcs_ends {ps : List (List Stage)} {os : List Order} (hck : checkO ps os = true) {a : RArc} (ha : a ∈ refArcs ps os) : (∃ (t k : Nat) (p : List Stage), ps[t]? = some p ∧ k ≤ p.length ∧ a.to = ⟨(t : Int), (k : Int)⟩) ∧ ∃ (t k : Nat) (p : List Stage), ps[t]? = some p ∧ k ≤ p.length ∧ a.frm = ⟨(t : Int), (k : Int)⟩ := by
  obtain ⟨_, _, hf⟩ := checkO_facts hck
  unfold refArcs at ha
  rcases List.mem_append.1 ha with ha | ha
  · obtain ⟨t, k, p, s, hp, hs, rfl⟩ := mem_chainR.1 ha
    have := getElem?_lt hs
    exact ⟨⟨t, k + 1, p, hp, by omega, by simp⟩, ⟨t, k, p, hp, by omega, rfl⟩⟩
  · obtain ⟨o, ho, ha⟩ := List.mem_flatMap.1 ha
    obtain ⟨j, v, u, hv, hu, hne, rfl⟩ := mem_orderR.1 ha
    obtain ⟨hin, _, _⟩ := hf o ho
    obtain ⟨tv, kv, pv, sv, hpv, hsv, _, rfl⟩ := mem_allU.1 (hin v (List.mem_of_getElem? hv))
    obtain ⟨tw, kw, pw, sw, hpw, hsw, _, rfl⟩ := mem_allU.1 (hin u (List.mem_of_mem_take hu))
    have h1 := getElem?_lt hsv
    have h2 := getElem?_lt hsw
    refine ⟨⟨tv, kv, pv, hpv, by omega, rfl⟩, ?_⟩
    have hrel := relOf_range (ps := ps) (r := o.res) (t := tw) (k := kw)
    show ∃ (t k : Nat) (p : List Stage), ps[t]? = some p ∧ k ≤ p.length ∧ relOf ps o.res ⟨(tw : Int), (kw : Int)⟩ = ⟨(t : Int), (k : Int)⟩
    cases hq : relOf ps o.res ⟨(tw : Int), (kw : Int)⟩ with
    | mk x y =>
      rw [hq] at hrel
      simp only at hrel
      obtain ⟨rfl, h | h⟩ := hrel
      · exact ⟨tw, kw, pw, hpw, by omega, by rw [h]⟩
      · exact ⟨tw, kw + 1, pw, hpw, by omega, by rw [h]; simp⟩
theorem agreesB_ref {ps : List (List Stage)} {os : List Order} (hck : checkO ps os = true) {at_ : List Int} (hg : Gd ps at_) : agreesB ps at_ (arcsOf (evs ps).length (gAdds ps os)) = !(refArcs ps os).any (badArc at_) := by
  rw [Bool.eq_iff_iff, Bool.not_eq_true', List.any_eq_false]
  unfold agreesB
  rw [List.all_eq_true]
  constructor
  · intro h a ha
    obtain ⟨⟨t, k, p, hp, hk, hto⟩, _⟩ := refArcs_ends hck ha
    unfold badArc
    rw [hto]
    cases hd : doneR at_ ⟨(t : Int), (k : Int)⟩ with
    | false => simp
    | true =>
      have hx := h (num ps ⟨(t : Int), (k : Int)⟩) (List.mem_range.2 (evAt_num hp hk).2)
      have he : evAt ps (num ps ⟨(t : Int), (k : Int)⟩) = ⟨(t : Int), (k : Int)⟩ := by have := (evAt_num hp hk).1; simpa [numI] using this
      rw [he, hd, List.all_eq_true] at hx
      have := (arcs_agree hck hg hp hk).1 (fun b hb => by have := hx b hb; simpa using this) a ha hto
      simp [this]
  · intro h i hi
    obtain ⟨t, k, p, _, hp, hk, rfl⟩ := evs_inv ps.length (Nat.le_refl _) (i := i) (by rw [fst_len]; exact List.mem_range.1 hi)
    have hnum : num ps ⟨(t : Int), (k : Int)⟩ = fst ps t + k := by simp [num]
    have he : evAt ps (fst ps t + k) = ⟨(t : Int), (k : Int)⟩ := by have := (evAt_num hp hk).1; rw [← hnum]; simpa [numI] using this
    rw [he, List.all_eq_true]
    intro b hb
    cases hd : doneR at_ ⟨(t : Int), (k : Int)⟩ with
    | false => simp
    | true =>
      have := (arcs_agree hck hg hp hk).2 (fun a ha hto => by
        have := h a ha
        unfold badArc at this
        rw [hto, hd] at this
        simpa using this) b (by rw [hnum]; exact hb)
      simp [this]
theorem doneL_total {ps : List (List Stage)} {now : List Int} (hg : Gd ps now) : ((doneL ps now).any fun y => false == y) = false ↔ total ps now = 0 := by
  rw [total_zero hg]
  constructor
  · intro h t ht
    have hp : ps[t]? = some ps[t] := List.getElem?_eq_getElem ht
    have hd := doneL_at (now := now) hp (Nat.le_refl _)
    have := List.any_eq_false.1 h _ (List.mem_of_getElem? hd)
    have hG := hg.2 t ht
    rw [lenAt_of hp] at hG ⊢
    simp at this
    omega
  · intro h
    rw [List.any_eq_false]
    intro y hy
    obtain ⟨i, hi, rfl⟩ := List.getElem_of_mem hy
    have hlen : (doneL ps now).length = (evs ps).length := by simp [doneL]
    obtain ⟨t, k, p, _, hp, hk, rfl⟩ := evs_inv ps.length (Nat.le_refl _) (i := i) (by rw [fst_len]; omega)
    have hd := doneL_at (now := now) hp hk
    rw [List.getElem?_eq_getElem hi] at hd
    injection hd with hd
    rw [hd]
    have := h t (getElem?_lt hp)
    rw [lenAt_of hp] at this
    have : (k : Int) ≤ nowAt now t := by omega
    simp [this]
theorem lineP_ref {ps : List (List Stage)} {os : List Order} (hck : checkO ps os = true) {at_ : List Int} (hgd : good ps at_ = true) : lineP ps os at_ = lineR ps (refArcs ps os) at_ := by
  have hg := good_Gd.1 hgd
  have hv := (checkO_facts hck).1
  have hs := readyP_sound ps (arcsOf (evs ps).length (gAdds ps os))
  have ht := total_le hv hg
  have e1 : runP ps os at_ = lineFrom (goR ps (refArcs ps os)) (total ps at_) at_ := by
    unfold runP
    rw [lineFrom_fuel hs 1000 (total ps at_) at_ hg (by omega) (Nat.le_refl _)]
    exact lineFrom_congr hs (fun now h => readyP_goR hck h) _ _ hg
  have hG2 : Gd ps (lineFrom (goR ps (refArcs ps os)) (total ps at_) at_).2 := (lineFrom_inv (goR_sound ps (refArcs ps os)) _ at_ hg).1
  unfold lineP lineR okP
  rw [hck, hgd, e1, agreesB_ref hck hg]
  by_cases h0 : total ps (lineFrom (goR ps (refArcs ps os)) (total ps at_) at_).2 = 0
  · rw [(doneL_total hG2).2 h0, if_pos h0]
    cases (refArcs ps os).any (badArc at_) <;> simp
  · have : ((doneL ps (lineFrom (goR ps (refArcs ps os)) (total ps at_) at_).2).any fun y => false == y) = true := by
      cases e : ((doneL ps (lineFrom (goR ps (refArcs ps os)) (total ps at_) at_).2).any fun y => false == y) with
      | true => rfl
      | false => exact absurd ((doneL_total hG2).1 e) h0
    rw [this, if_neg h0]
    cases (refArcs ps os).any (badArc at_) <;> simp
/-- the loop of LineOf: so far -/
def LR (go : List Int → Option Nat) (F : Nat) (at_ : List Int) (j : Nat) (acc : List Ref) (now : List Int) : Prop :=
  acc.length = j ∧ j ≤ F ∧ lineFrom go F at_ = (acc ++ (lineFrom go (F - j) now).1, (lineFrom go (F - j) now).2)
theorem LR.start (go : List Int → Option Nat) (F : Nat) (at_ : List Int) : LR go F at_ 0 [] at_ := ⟨rfl, Nat.zero_le _, by simp⟩
theorem LR.step {go : List Int → Option Nat} {F : Nat} {at_ : List Int} {j : Nat} {acc : List Ref} {now : List Int} {t : Nat} (h : LR go F at_ j acc now) (hj : j < F) (hn : go now = some t) : LR go F at_ (j + 1) (acc ++ [⟨(t : Int), nowAt now t + 1⟩]) (now.set t (nowAt now t + 1)) := by
  obtain ⟨h1, h2, h3⟩ := h
  refine ⟨by simp [h1], by omega, ?_⟩
  rw [h3, show F - j = (F - (j + 1)) + 1 from by omega]
  simp [lineFrom, hn]
theorem LR.stuck {go : List Int → Option Nat} {F : Nat} {at_ : List Int} {j : Nat} {acc : List Ref} {now : List Int} (h : LR go F at_ j acc now) (hj : j < F) (hn : go now = none) : lineFrom go F at_ = (acc, now) := by
  obtain ⟨h1, h2, h3⟩ := h
  rw [h3, show F - j = (F - (j + 1)) + 1 from by omega]
  simp [lineFrom, hn]
theorem LR.full {go : List Int → Option Nat} {F : Nat} {at_ : List Int} {acc : List Ref} {now : List Int} (h : LR go F at_ F acc now) : lineFrom go F at_ = (acc, now) := by
  obtain ⟨h1, h2, h3⟩ := h
  rw [h3]; simp [lineFrom]

end Go.Proofs.YtcbpiidbkjaneaaGreat
