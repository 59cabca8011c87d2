/- The seconds of Times satisfy the equation that the statement PrecedenceTimes checks. No program in sight. -/
import Derived.Test.YtigmldildefdgaaTb
namespace Go.Proofs.Ytigmldildefdgaa
open Go.RowKit

def mnAt (ps : List (List Stage)) (t k : Nat) : Int := (((ps[t]?).getD [])[k]?).elim 0 (·.mn)
def base2 (ps : List (List Stage)) (at_ : List Int) (n : Int) (t k : Nat) : Int := if 0 < k ∧ (k : Int) - 1 = nowAt at_ t then max (baseS ps n ⟨(t : Int), (k : Int)⟩) (n + mnAt ps t (k - 1)) else baseS ps n ⟨(t : Int), (k : Int)⟩
def valL (at_ : List Int) (T : Tab) (u : Ref) (a : RArc) : Option Int := if a.to = u ∧ doneR at_ a.frm = false then some (T a.frm + a.wt) else none
theorem refArcs_wt {ps : List (List Stage)} (hv : valid ps = true) (os : List Order) : ∀ a ∈ refArcs ps os, 0 ≤ a.wt ∧ a.wt ≤ 4194304 := by
  intro a ha
  unfold refArcs at ha
  rcases List.mem_append.1 ha with ha | ha
  · obtain ⟨t, k, p, s, hp, hs, rfl⟩ := mem_chainR.1 ha
    exact (valid_clk hv hp hs).1
  · obtain ⟨o, _, ha⟩ := List.mem_flatMap.1 ha
    obtain ⟨j, v, u, _, _, _, rfl⟩ := mem_orderR.1 ha
    simp [betw]
theorem least_eq {ps : List (List Stage)} {os : List Order} {at_ : List Int} {n : Int} (T : Tab) {t k : Nat} {p : List Stage} (hp : ps[t]? = some p) (hk : k ≤ p.length) :
    stepR ps (refArcs ps os) at_ n T ⟨(t : Int), (k : Int)⟩ = mxo (valL at_ T ⟨(t : Int), (k : Int)⟩) (base2 ps at_ n t k) (refArcs ps os) := by
  unfold stepR
  apply Int.le_antisymm
  · rw [mxo_le]
    refine ⟨Int.le_trans ?_ (mxo_ge _ _ _), fun a ha y hy => ?_⟩
    · unfold base2; split <;> omega
    · unfold valR at hy
      by_cases e : a.to = ⟨(t : Int), (k : Int)⟩
      · rw [if_pos e] at hy
        by_cases hd : doneR at_ a.frm = false
        · rw [if_pos hd] at hy
          exact mxo_mem _ _ _ ha (by unfold valL; rw [if_pos ⟨e, hd⟩]; exact hy)
        · rw [if_neg hd] at hy
          split at hy
          · rename_i hc
            injection hy with hy
            refine Int.le_trans ?_ (mxo_ge _ _ _)
            have ha' := ha
            unfold refArcs at ha'
            rcases List.mem_append.1 ha' with ha' | ha'
            · obtain ⟨t', k', p', s', hp', hs', rfl⟩ := mem_chainR.1 ha'
              injection e with e1 e2
              have ht : t' = t := by omega
              subst ht
              rw [hp] at hp'; injection hp' with hp'; subst hp'
              have hk' : k = k' + 1 := by omega
              subst hk'
              simp only [Int.toNat_natCast] at hc hy
              unfold base2
              rw [if_pos ⟨by omega, by have := hc.2.1; omega⟩]
              have : mnAt ps t' (k' + 1 - 1) = s'.mn := by simp [mnAt, hp, hs']
              rw [this]; omega
            · obtain ⟨o, _, ha'⟩ := List.mem_flatMap.1 ha'
              obtain ⟨j, v, u, _, _, hne, rfl⟩ := mem_orderR.1 ha'
              exfalso
              have e : v = ⟨(t : Int), (k : Int)⟩ := e
              subst e
              apply hne
              have := hc.1
              unfold betw at this
              rw [relOf_tr] at this
              exact this
          · cases hy
      · rw [if_neg e] at hy; cases hy
  · rw [mxo_le]
    refine ⟨?_, fun a ha y hy => ?_⟩
    · unfold base2
      split
      · rename_i hc
        obtain ⟨k', rfl⟩ : ∃ k', k = k' + 1 := ⟨k - 1, by omega⟩
        have hs : p[k']? = some p[k'] := List.getElem?_eq_getElem (by omega)
        have hmn : mnAt ps t (k' + 1 - 1) = p[k'].mn := by simp [mnAt, hp, hs]
        rw [hmn]
        have h1 := mxo_ge (valR at_ n T ⟨(t : Int), ((k' + 1 : Nat) : Int)⟩) (baseS ps n ⟨(t : Int), ((k' + 1 : Nat) : Int)⟩) (refArcs ps os)
        have h2 : n + p[k'].mn ≤ mxo (valR at_ n T ⟨(t : Int), ((k' + 1 : Nat) : Int)⟩) (baseS ps n ⟨(t : Int), ((k' + 1 : Nat) : Int)⟩) (refArcs ps os) := by
          refine mxo_mem _ _ _ (a := ⟨⟨(t : Int), (k' : Int)⟩, ⟨(t : Int), (k' : Int) + 1⟩, p[k'].mn⟩) (List.mem_append_left _ (mem_chainR.2 ⟨t, k', p, _, hp, hs, rfl⟩)) ?_
          have hc2 := hc.2
          unfold valR
          rw [if_pos (by simp)]
          have hd : ¬ doneR at_ ⟨(t : Int), (k' : Int)⟩ = false := by
            unfold doneR
            simp only [decide_eq_false_iff_not, Int.toNat_natCast]
            omega
          rw [if_neg hd, if_pos ⟨rfl, by simp only [Int.toNat_natCast]; omega, by simp⟩]
        omega
      · exact mxo_ge _ _ _
    · unfold valL at hy
      split at hy
      · rename_i hc
        refine mxo_mem _ _ _ ha ?_
        unfold valR
        rw [if_pos hc.1, if_pos hc.2]; exact hy
      · cases hy
/-- what the statement checks of each event -/
theorem times_least {ps : List (List Stage)} {os : List Order} {at_ : List Int} {n : Int} (hck : checkO ps os = true) (hgd : good ps at_ = true) (hok : okP ps os at_ = true) {t k : Nat} {p : List Stage} (hp : ps[t]? = some p) (hk : k ≤ p.length) :
    ((k : Int) ≤ nowAt at_ t → tabG ps os at_ n ⟨(t : Int), (k : Int)⟩ = -1) ∧ (¬ (k : Int) ≤ nowAt at_ t → tabG ps os at_ n ⟨(t : Int), (k : Int)⟩ = mxo (valL at_ (tabG ps os at_ n) ⟨(t : Int), (k : Int)⟩) (base2 ps at_ n t k) (refArcs ps os)) := by
  have hF := full_of hck hgd hok
  refine ⟨fun hd => tabG_done hck hgd hok (by simpa [doneR] using hd), fun hd => ?_⟩
  have hm := hF.all t k p hp hk (by simpa [doneR] using hd)
  rw [← least_eq (os := os) (n := n) _ hp hk]
  exact tabG_fix hck hgd hok _ hm

end Go.Proofs.Ytigmldildefdgaa
