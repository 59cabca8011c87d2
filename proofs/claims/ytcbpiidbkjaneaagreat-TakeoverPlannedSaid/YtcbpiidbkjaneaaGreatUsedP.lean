/- Trains that enter the stages in the order of a line use each resource in its order. No program in sight. -/
import Derived.Test.YtcbpiidbkjaneaaGreatArcsP
import Derived.Test.YtcbpiidbkjaneaaGreatLnN
import Derived.Test.YtcbpiidbkjaneaaGreatOverA
namespace Go.Proofs.YtcbpiidbkjaneaaGreat
open Go.RowKit

def play (now : List Int) (l : List Ref) : List Int := l.foldl (fun n u => n.set u.tr.toNat u.st) now
theorem play_snoc (now : List Int) (l : List Ref) (u : Ref) : play now (l ++ [u]) = (play now l).set u.tr.toNat u.st := by unfold play; rw [List.foldl_append]; rfl
/-- a step of the line -/
def StepOk (ps : List (List Stage)) (os : List Order) (now : List Int) (u : Ref) : Prop :=
  ∃ (t k : Nat) (p : List Stage) (x : Int), u = ⟨(t : Int), (k : Int)⟩ ∧ ps[t]? = some p ∧ k ≤ p.length ∧ now[t]? = some x ∧ (k : Int) = x + 1 ∧
    ∀ o ∈ os, ∀ (i : Nat), o.uses[i]? = some u → ∀ w ∈ o.uses.take i, w.tr ≠ (t : Int) → overB ps (now.set t (k : Int)) w o.res = true
theorem canGo_step {ps : List (List Stage)} {os : List Order} {now : List Int} {t : Nat} (hck : checkO ps os = true) (hg : Gd ps now) (ht : t < ps.length) (hc : canGo ps (arcsOf (evs ps).length (gAdds ps os)) now t = true) : StepOk ps os now ⟨(t : Int), nowAt now t + 1⟩ := by
  have hp : ps[t]? = some ps[t] := List.getElem?_eq_getElem ht
  simp only [canGo, Bool.and_eq_true, decide_eq_true_eq, List.all_eq_true] at hc
  obtain ⟨hlt, hall⟩ := hc
  have hG := hg.2 t ht
  rw [lenAt_of hp] at hlt
  obtain ⟨k, hk⟩ := Int.eq_ofNat_of_zero_le (by omega : 0 ≤ nowAt now t + 1)
  have hx : now[t]? = some (now[t]'(by rw [hg.1]; exact ht)) := List.getElem?_eq_getElem _
  have hnx := nowAt_of hx
  refine ⟨t, k, ps[t], _, by rw [hk], hp, by omega, hx, by omega, fun o ho i hi w hw hne => ?_⟩
  rw [hk] at hi
  obtain ⟨_, _, hf⟩ := checkO_facts hck
  obtain ⟨hin, _, hbef⟩ := hf o ho
  have hin2 : ∀ u ∈ o.uses.take i, u ∈ allU ps o.res := fun u hu => hin u (List.mem_of_mem_take hu)
  obtain ⟨w', hL, htr, hst⟩ := last_of (o.uses.take i) hin2 w hw
  obtain ⟨tw, kw, pw, sw, hpw, hsw, _, hwe⟩ := mem_allU.1 (hin2 w' hL.1)
  have harc : (num ps ⟨(t : Int), (k : Int)⟩, (⟨((num ps (relOf ps o.res w') : Nat) : Int), 0⟩ : GArc)) ∈ gAdds ps os := by
    unfold gAdds
    rw [List.mem_append]
    right
    rw [List.mem_flatMap]
    refine ⟨o, ho, ?_⟩
    unfold orderAdds
    rw [mem_useAdds o.uses [] _ (RelOf.nil ps o.res) (by simpa using hbef) (by simpa using hin)]
    exact ⟨i, _, w', hi, rfl, by simpa using hL, by rw [htr]; exact hne, rfl⟩
  have hnum : num ps ⟨(t : Int), (k : Int)⟩ = ((fst ps t : Int) + nowAt now t + 1).toNat := by unfold num; simp; omega
  have hlt2 : num ps ⟨(t : Int), (k : Int)⟩ < (evs ps).length := (evAt_num hp (by omega)).2
  have hrow := arcsOf_at (evs ps).length (gAdds ps os) hlt2
  have hmem := (mem_arcsOf hrow).2 harc
  have hdone := hall ⟨((num ps (relOf ps o.res w') : Nat) : Int), 0⟩ (by
    rw [← hnum]; unfold arcsAt; rw [hrow]; exact hmem)
  simp only [Int.toNat_natCast] at hdone
  have hrel := relOf_range (ps := ps) (r := o.res) (t := tw) (k := kw)
  rw [← hwe] at hrel
  obtain ⟨kr, hkr⟩ : ∃ kr : Nat, (relOf ps o.res w').st = (kr : Int) ∧ kr ≤ pw.length := by
    have := getElem?_lt hsw
    rcases hrel.2 with h | h
    · exact ⟨kw, h, by omega⟩
    · exact ⟨kw + 1, by rw [h]; simp, by omega⟩
  have hre : relOf ps o.res w' = ⟨(tw : Int), (kr : Int)⟩ := by
    have h1 := hrel.1
    cases hq : relOf ps o.res w' with
    | mk a b => rw [hq] at h1 hkr; simp only at h1 hkr; rw [h1, hkr.1]
  rw [hre] at hdone
  have hev := (evAt_num hpw hkr.2).1
  unfold numI at hev
  rw [Int.toNat_natCast] at hev
  rw [hev] at hdone
  unfold doneR at hdone
  simp only [Int.toNat_natCast, decide_eq_true_eq] at hdone
  have hwt : w.tr = (tw : Int) := by rw [← htr, hwe]
  unfold overB
  rw [decide_eq_true_eq, hwt, Int.toNat_natCast, nowAt_set (by rw [hg.1]; exact ht)]
  have hne2 : ¬ (t = tw) := fun e => hne (by rw [hwt, e])
  rw [if_neg hne2]
  have := relOf_le (ps := ps) (r := o.res) htr.symm hst
  rw [hre] at this
  simp only at this
  omega
theorem line_steps {ps : List (List Stage)} {os : List Order} (hck : checkO ps os = true) : ∀ (f : Nat) (now : List Int), Gd ps now →
    (∀ (j : Nat) u, (lineFrom (readyP ps (arcsOf (evs ps).length (gAdds ps os))) f now).1[j]? = some u → StepOk ps os (play now ((lineFrom (readyP ps (arcsOf (evs ps).length (gAdds ps os))) f now).1.take j)) u) ∧
      play now (lineFrom (readyP ps (arcsOf (evs ps).length (gAdds ps os))) f now).1 = (lineFrom (readyP ps (arcsOf (evs ps).length (gAdds ps os))) f now).2
  | 0, now, _ => by simp [lineFrom, play]
  | f + 1, now, hg => by
    simp only [lineFrom]
    cases e : readyP ps (arcsOf (evs ps).length (gAdds ps os)) now with
    | none => simp [play]
    | some t =>
      obtain ⟨h1, h2⟩ := readyP_sound ps (arcsOf (evs ps).length (gAdds ps os)) now t e
      have hcan : canGo ps (arcsOf (evs ps).length (gAdds ps os)) now t = true := by
        unfold readyP at e; exact List.find?_some e
      obtain ⟨i1, i2⟩ := line_steps hck f _ (hg.step h1 h2)
      refine ⟨fun j u hj => ?_, ?_⟩
      · cases j with
        | zero => simp at hj; subst hj; simpa [play] using canGo_step hck hg h1 hcan
        | succ j =>
          have := i1 j u (by simpa using hj)
          simpa [play] using this
      · simpa [play] using i2
/-- all have left -/
theorem okP_left {ps : List (List Stage)} {os : List Order} {at_ : List Int} (hv : valid ps = true) (hg : Gd ps at_) (h : okP ps os at_ = true) : leftB ps (runP ps os at_).2 = true := by
  simp only [okP, Bool.and_eq_true, Bool.not_eq_true'] at h
  unfold leftB
  rw [List.all_eq_true]
  intro t ht
  have ht := List.mem_range.1 ht
  have hp : ps[t]? = some ps[t] := List.getElem?_eq_getElem ht
  have hd := doneL_at (now := (runP ps os at_).2) hp (Nat.le_refl _)
  have := List.any_eq_false.1 h.1 _ (List.mem_of_getElem? hd)
  rw [lenAt_of hp]
  simp at this ⊢
  exact this

end Go.Proofs.YtcbpiidbkjaneaaGreat
