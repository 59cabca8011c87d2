/- The search of chapter 38 as a plain function on lists. No program in sight. -/
import Derived.Test.YtcbpiidbkjaneaaGreatPos
import Derived.Test.YtcbpiidbkjaneaaGreatValid2
namespace Go.Proofs.YtcbpiidbkjaneaaGreat
open Go.RowKit

/-- what the search has found so far -/
structure ISt where
  steps : Nat
  found : Nat
  sum : Int
  best : List Int

def posns (p : List Stage) : List Int := (List.range (p.length + 2)).map fun i : Nat => (i : Int) - 1
def absDiff (a b : Int) : Int := if a - b < b - a then b - a else a - b
def diffSum : List Int → List Int → Int
  | a :: l, b :: m => absDiff a b + diffSum l m
  | _, _ => 0
/-- a complete assignment -/
def complete (exp occ : List Int) (at_ held : List Int) (s : ISt) : ISt :=
  if held.length = occ.length then
    if s.found = 0 ∨ diffSum at_ exp < s.sum then { s with found := 1, sum := diffSum at_ exp, best := at_ }
    else if diffSum at_ exp = s.sum then { s with found := s.found + 1 } else s
  else s
/-- the tries of one train -/
def tries (occ : List Int) (budget : Nat) (f : List Int → List Int → ISt → Bool × ISt) (p : List Stage) (at_ held : List Int) : List Int → ISt → Bool × ISt
  | [], s => (true, s)
  | x :: xs, s =>
    if s.steps = budget then (false, s)
    else if x < 0 ∨ (p.length : Int) ≤ x then
      match f (at_ ++ [x]) held { s with steps := s.steps + 1 } with
      | (false, s') => (false, s')
      | (true, s') => tries occ budget f p at_ held xs s'
    else if secAt p x ∈ occ ∧ secAt p x ∉ held then
      match f (at_ ++ [x]) (held ++ [secAt p x]) { s with steps := s.steps + 1 } with
      | (false, s') => (false, s')
      | (true, s') => tries occ budget f p at_ held xs s'
    else tries occ budget f p at_ held xs { s with steps := s.steps + 1 }
def search (exp occ : List Int) (budget : Nat) : List (List Stage) → List Int → List Int → ISt → Bool × ISt
  | [], at_, held, s => (true, complete exp occ at_ held s)
  | p :: rest, at_, held, s => tries occ budget (search exp occ budget rest) p at_ held (posns p) s

theorem complete_steps (exp occ at_ held : List Int) (s : ISt) : (complete exp occ at_ held s).steps = s.steps := by
  unfold complete; split <;> (try split) <;> (try split) <;> rfl
theorem tries_steps {occ : List Int} {budget : Nat} {f : List Int → List Int → ISt → Bool × ISt} (hf : ∀ a h s, s.steps ≤ budget → (f a h s).2.steps ≤ budget) {p : List Stage} {at_ held : List Int} :
    ∀ (l : List Int) (s : ISt), s.steps ≤ budget → (tries occ budget f p at_ held l s).2.steps ≤ budget
  | [], s, h => h
  | x :: xs, s, h => by
    unfold tries
    split
    · exact h
    · split
      · split
        · rename_i s' e; have := hf (at_ ++ [x]) held { s with steps := s.steps + 1 } (by simp; omega); rw [e] at this; exact this
        · rename_i s' e; have := hf (at_ ++ [x]) held { s with steps := s.steps + 1 } (by simp; omega); rw [e] at this; exact tries_steps hf xs s' this
      · split
        · split
          · rename_i s' e; have := hf (at_ ++ [x]) (held ++ [secAt p x]) { s with steps := s.steps + 1 } (by simp; omega); rw [e] at this; exact this
          · rename_i s' e; have := hf (at_ ++ [x]) (held ++ [secAt p x]) { s with steps := s.steps + 1 } (by simp; omega); rw [e] at this; exact tries_steps hf xs s' this
        · exact tries_steps hf xs _ (by simp; omega)
theorem search_steps (exp occ : List Int) (budget : Nat) : ∀ (ps : List (List Stage)) (a h : List Int) (s : ISt), s.steps ≤ budget → (search exp occ budget ps a h s).2.steps ≤ budget
  | [], a, h, s, hs => by rw [search]; simpa [complete_steps] using hs
  | p :: rest, a, h, s, hs => by rw [search]; exact tries_steps (search_steps exp occ budget rest) _ s hs

/-- what Identify returns: positions, steps, error -/
def ascend : List Int → Bool
  | a :: b :: r => decide (a < b) && ascend (b :: r)
  | _ => true
def identify (ps : List (List Stage)) (exp occ : List Int) (budget : Int) : List Int × Int × Int :=
  if (valid ps && good ps exp) = false then ([], 0, 1)
  else if ascend occ = false then ([], 0, 1)
  else if budget < 1 ∨ 1048576 < budget then ([], 0, 4)
  else match search exp occ budget.toNat ps [] [] ⟨0, 0, 0, []⟩ with
    | (false, _) => ([], 0, 15)
    | (true, s) => if s.found = 0 then ([], s.steps, 6) else if 1 < s.found then ([], s.steps, 13) else (s.best, s.steps, 0)

end Go.Proofs.YtcbpiidbkjaneaaGreat
