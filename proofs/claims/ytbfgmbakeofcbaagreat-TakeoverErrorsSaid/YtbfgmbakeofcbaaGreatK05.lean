/- The search of chapter 38 as a plain function on lists. No program in sight. Maps whose keys are of Go's type int: what a lookup, a store and len do, in terms of the function that the map is. Conditions: as each theorem says. -/
import Derived.Test.YtbfgmbakeofcbaaGreatK03
import Derived.Test.YtbfgmbakeofcbaaGreatK04
import Derived.Test.YtbfgmbakeofcbaaGreatK01
namespace Go.Proofs.YtbfgmbakeofcbaaGreat
open Go.RowKit

/-- what the search has found so far -/
structure ISt where
  steps : Nat
  found : Nat
  sum : Int
  best : List Int

def posns (p : List Stage) : List Int := (List.range (p.length + 2)).map fun i : Nat => (i : Int) - 1
def absDiff (a b : Int) : Int := if a - b < b - a then b - a else a - b
def diffSum : List Int → List Int → Int
  | a :: l, b :: m => absDiff a b + diffSum l m
  | _, _ => 0
/-- a complete assignment -/
def complete (exp occ : List Int) (at_ held : List Int) (s : ISt) : ISt :=
  if held.length = occ.length then
    if s.found = 0 ∨ diffSum at_ exp < s.sum then { s with found := 1, sum := diffSum at_ exp, best := at_ }
    else if diffSum at_ exp = s.sum then { s with found := s.found + 1 } else s
  else s
/-- the tries of one train -/
def tries (occ : List Int) (budget : Nat) (f : List Int → List Int → ISt → Bool × ISt) (p : List Stage) (at_ held : List Int) : List Int → ISt → Bool × ISt
  | [], s => (true, s)
  | x :: xs, s =>
    if s.steps = budget then (false, s)
    else if x < 0 ∨ (p.length : Int) ≤ x then
      match f (at_ ++ [x]) held { s with steps := s.steps + 1 } with
      | (false, s') => (false, s')
      | (true, s') => tries occ budget f p at_ held xs s'
    else if secAt p x ∈ occ ∧ secAt p x ∉ held then
      match f (at_ ++ [x]) (held ++ [secAt p x]) { s with steps := s.steps + 1 } with
      | (false, s') => (false, s')
      | (true, s') => tries occ budget f p at_ held xs s'
    else tries occ budget f p at_ held xs { s with steps := s.steps + 1 }
def search (exp occ : List Int) (budget : Nat) : List (List Stage) → List Int → List Int → ISt → Bool × ISt
  | [], at_, held, s => (true, complete exp occ at_ held s)
  | p :: rest, at_, held, s => tries occ budget (search exp occ budget rest) p at_ held (posns p) s

theorem complete_steps (exp occ at_ held : List Int) (s : ISt) : (complete exp occ at_ held s).steps = s.steps := by
  unfold complete; split <;> (try split) <;> (try split) <;> rfl
theorem tries_steps {occ : List Int} {budget : Nat} {f : List Int → List Int → ISt → Bool × ISt} (hf : ∀ a h s, s.steps ≤ budget → (f a h s).2.steps ≤ budget) {p : List Stage} {at_ held : List Int} :
    ∀ (l : List Int) (s : ISt), s.steps ≤ budget → (tries occ budget f p at_ held l s).2.steps ≤ budget
  | [], s, h => h
  | x :: xs, s, h => by
    unfold tries
    split
    · exact h
    · split
      · split
        · rename_i s' e; have := hf (at_ ++ [x]) held { s with steps := s.steps + 1 } (by simp; omega); rw [e] at this; exact this
        · rename_i s' e; have := hf (at_ ++ [x]) held { s with steps := s.steps + 1 } (by simp; omega); rw [e] at this; exact tries_steps hf xs s' this
      · split
        · split
          · rename_i s' e; have := hf (at_ ++ [x]) (held ++ [secAt p x]) { s with steps := s.steps + 1 } (by simp; omega); rw [e] at this; exact this
          · rename_i s' e; have := hf (at_ ++ [x]) (held ++ [secAt p x]) { s with steps := s.steps + 1 } (by simp; omega); rw [e] at this; exact tries_steps hf xs s' this
        · exact tries_steps hf xs _ (by simp; omega)
theorem search_steps (exp occ : List Int) (budget : Nat) : ∀ (ps : List (List Stage)) (a h : List Int) (s : ISt), s.steps ≤ budget → (search exp occ budget ps a h s).2.steps ≤ budget
  | [], a, h, s, hs => by rw [search]; simpa [complete_steps] using hs
  | p :: rest, a, h, s, hs => by rw [search]; exact tries_steps (search_steps exp occ budget rest) _ s hs

/-- what Identify returns: positions, steps, error -/
def ascend : List Int → Bool
  | a :: b :: r => decide (a < b) && ascend (b :: r)
  | _ => true
def identify (ps : List (List Stage)) (exp occ : List Int) (budget : Int) : List Int × Int × Int :=
  if (valid ps && good ps exp) = false then ([], 0, 1)
  else if ascend occ = false then ([], 0, 1)
  else if budget < 1 ∨ 1048576 < budget then ([], 0, 4)
  else match search exp occ budget.toNat ps [] [] ⟨0, 0, 0, []⟩ with
    | (false, _) => ([], 0, 15)
    | (true, s) => if s.found = 0 then ([], s.steps, 6) else if 1 < s.found then ([], s.steps, 13) else (s.best, s.steps, 0)

def keysOf (es : List MapEntry) (ks : List Int) : Prop := es.map (·.key) = ks.map fun k => Value.int .i64 k
def look : List MapEntry → Int → Option Value
  | [], _ => none
  | e :: es, k => match e.key with | .int .i64 x => if k = x then some e.val else look es k | _ => look es k
/-- block r is a map with keys ks (each once) that is the function f -/
structure MapIs (w : World) (r : Nat) (ks : List Int) (f : Int → Option Value) : Prop where
  ex : ∃ es clock, w.heap[r]? = some (.map es clock) ∧ keysOf es.toList ks ∧ ks.Nodup ∧ ∀ k, look es.toList k = f k

theorem findNow_int (k : Int) : ∀ (es : List MapEntry) (ks : List Int) (i : Nat), keysOf es ks → ∃ j, Instr.findNow (.int .i64) (.int .i64 k) es i = some ((look es k).map fun v => (j, v)) ∧ ((look es k).isSome = true → i ≤ j ∧ j < i + es.length ∧ ∃ e, es[j - i]? = some e ∧ e.key = .int .i64 k)
  | [], ks, i, _ => ⟨0, rfl, fun h => by simp [look] at h⟩
  | e :: es, [], i, h => by simp [keysOf] at h
  | e :: es, x :: ks, i, h => by
    simp only [keysOf, List.map_cons, List.cons.injEq] at h
    obtain ⟨hk, hr⟩ := h
    by_cases hkx : k = x
    · subst hkx
      refine ⟨i, ?_, fun _ => ⟨Nat.le_refl _, by simp, e, by simp, hk⟩⟩
      simp [Instr.findNow, Instr.sameNow, look, hk]
    · obtain ⟨j, h1, h2⟩ := findNow_int k es ks (i + 1) hr
      have hl : look (e :: es) k = look es k := by simp [look, hk, hkx]
      refine ⟨j, ?_, fun hs => ?_⟩
      · rw [hl]
        simp only [Instr.findNow, Instr.sameNow, hk]
        have : (k == x) = false := by simpa using hkx
        simp only [if_true, this]
        exact h1
      · rw [hl] at hs
        obtain ⟨a, b, e', c, d⟩ := h2 hs
        refine ⟨by omega, by simp; omega, e', ?_, d⟩
        have : j - i = (j - (i + 1)) + 1 := by omega
        rw [this]; simpa using c

section
variable {P : Program} {t K E : TypeId} {w : World} {r : Nat} {ks : List Int} {f : Int → Option Value}

theorem MapIs.lt (h : MapIs w r ks f) : r < w.heap.size := by
  obtain ⟨es, clock, h1, _⟩ := h.ex; exact (Array.getElem?_eq_some_iff.1 h1).1
theorem MapIs.kept {C : Foot} {w' : World} (h : MapIs w r ks f) (k : Keeps C w w') (hn : ¬ C r) : MapIs w' r ks f := by
  obtain ⟨es, clock, h1, h2⟩ := h.ex; exact ⟨es, clock, (k.block r h.lt hn).trans h1, h2⟩
theorem MapIs.new (w : World) : MapIs (w.alloc (.map #[] 0)) w.heap.size [] (fun _ => none) :=
  ⟨#[], 0, heap_alloc_new w _, rfl, List.nodup_nil, fun _ => rfl⟩

theorem run_checkKey_int (hK : P.underlying K = some (.int .i64)) (b : Bool) (n : Nat) (k : Int) : (Instr.checkKey b (n + 1) K (.int .i64 k)).run P w = .ok () w := by
  simp [Instr.checkKey, run_underlying hK]

theorem MapIs.lookup (h : MapIs w r ks f) (ht : P.underlying t = some (.map K E)) (hK : P.underlying K = some (.int .i64)) {z : Value} (hz : (zeroValue E).run P w = .ok z w) (k : Int) :
    (Instr.lookup t (.map (some r)) (.int .i64 k) false).run P w = .ok ((f k).getD z) w ∧ (Instr.lookup t (.map (some r)) (.int .i64 k) true).run P w = .ok (.tuple #[(f k).getD z, .bool (f k).isSome]) w := by
  obtain ⟨es, clock, h1, h2, h3, h4⟩ := h.ex
  obtain ⟨j, hj, _⟩ := findNow_int k es.toList ks 0 h2
  rw [h4 k] at hj
  have hc : ∀ b, (Instr.checkKey b 10000 K (.int .i64 k)).run P w = .ok () w := fun b => run_checkKey_int hK b 9999 k
  have hg : (getObj r).run P w = .ok (.map es clock) w := by simp [getObj, Sem.run, h1]
  cases hf : f k with
  | none =>
    rw [hf] at hj
    simp only [Option.map_none] at hj
    constructor <;> simp [Instr.lookup, run_underlying ht, hg, hc, Instr.findKey, run_underlying hK, hj, hz]
  | some v =>
    rw [hf] at hj
    simp only [Option.map_some] at hj
    constructor <;> simp [Instr.lookup, run_underlying ht, hg, hc, Instr.findKey, run_underlying hK, hj]
def setF (f : Int → Option Value) (k : Int) (v : Value) : Int → Option Value := fun x => if x = k then some v else f x

theorem look_append (k : Int) : ∀ (es : List MapEntry) (ks : List Int) (e : MapEntry) (x : Int), keysOf es ks → e.key = .int .i64 x → look (es ++ [e]) k = match look es k with | some v => some v | none => if k = x then some e.val else none
  | [], _, e, x, _, he => by simp [look, he]
  | a :: es, [], e, x, h, _ => by simp [keysOf] at h
  | a :: es, y :: ks, e, x, h, he => by
    simp only [keysOf, List.map_cons, List.cons.injEq] at h
    obtain ⟨hk, hr⟩ := h
    by_cases hky : k = y
    · simp [look, hk, hky]
    · simp only [List.cons_append, look, hk, hky, if_false]
      exact look_append k es ks e x hr he
theorem look_none (k : Int) : ∀ (es : List MapEntry) (ks : List Int), keysOf es ks → (look es k = none ↔ k ∉ ks)
  | [], [], _ => by simp [look]
  | [], _ :: _, h => by simp [keysOf] at h
  | a :: es, [], h => by simp [keysOf] at h
  | a :: es, y :: ks, h => by
    simp only [keysOf, List.map_cons, List.cons.injEq] at h
    obtain ⟨hk, hr⟩ := h
    have ih := look_none k es ks hr
    by_cases hky : k = y
    · simp [look, hk, hky]
    · simp only [look, hk, hky, if_false, ih, List.mem_cons, false_or]
theorem look_modify (k : Int) (v : Value) (k' : Int) : ∀ (es : List MapEntry) (ks : List Int) (j : Nat) (e : MapEntry), keysOf es ks → ks.Nodup → es[j]? = some e → e.key = .int .i64 k →
    look (es.modify j fun e => { e with key := .int .i64 k, val := v }) k' = (if k' = k then some v else look es k') ∧ keysOf (es.modify j fun e => { e with key := .int .i64 k, val := v }) ks
  | [], ks, j, e, _, _, h, _ => by simp at h
  | a :: es, [], j, e, h, _, _, _ => by simp [keysOf] at h
  | a :: es, y :: ks, 0, e, h, hn, he, hek => by
    simp only [keysOf, List.map_cons, List.cons.injEq] at h
    obtain ⟨hk, hr⟩ := h
    simp at he; subst he
    have hyk : y = k := by rw [hk] at hek; injection hek
    subst hyk
    constructor
    · simp only [List.modify_zero_cons, look, hk]
      by_cases h' : k' = y <;> simp [h']
    · simp only [List.modify_zero_cons, keysOf, List.map_cons, List.cons.injEq, true_and]
      exact hr
  | a :: es, y :: ks, j + 1, e, h, hn, he, hek => by
    simp only [keysOf, List.map_cons, List.cons.injEq] at h
    obtain ⟨hk, hr⟩ := h
    have he' : es[j]? = some e := by simpa using he
    obtain ⟨h1, h2⟩ := look_modify k v k' es ks j e hr (List.nodup_cons.1 hn).2 he' hek
    have hne : y ≠ k := by
      rintro rfl
      have hmem : e.key ∈ es.map (·.key) := List.mem_map_of_mem (List.mem_of_getElem? he')
      rw [hr, hek] at hmem
      obtain ⟨z, hz, hzz⟩ := List.mem_map.1 hmem
      injection hzz with _ hzz
      subst hzz
      exact (List.nodup_cons.1 hn).1 hz
    constructor
    · simp only [List.modify_succ_cons, look, hk, h1]
      by_cases h' : k' = y
      · subst h'; simp [hne]
      · simp [h']
    · simp only [List.modify_succ_cons, keysOf, List.map_cons, hk, List.cons.injEq, true_and]
      exact h2

theorem MapIs.update (h : MapIs w r ks f) (ht : P.underlying t = some (.map K E)) (hK : P.underlying K = some (.int .i64)) (k : Int) (v : Value) :
    ∃ w', (Instr.mapUpdate t (.map (some r)) (.int .i64 k) v).run P w = .ok () w' ∧ MapIs w' r (if k ∈ ks then ks else ks ++ [k]) (setF f k v) ∧ Keeps (· = r) w w' ∧ w'.heap.size = w.heap.size := by
  obtain ⟨es, clock, h1, h2, h3, h4⟩ := h.ex
  obtain ⟨j, hj, hj2⟩ := findNow_int k es.toList ks 0 h2
  have hc : ∀ b, (Instr.checkKey b 10000 K (.int .i64 k)).run P w = .ok () w := fun b => run_checkKey_int hK b 9999 k
  have hg : (getObj r).run P w = .ok (.map es clock) w := by simp [getObj, Sem.run, h1]
  have hs : ∀ o, (setObj r o).run P w = .ok () { w with heap := w.heap.setIfInBounds r o } := fun o => by simp [setObj, Sem.run, h1]
  have hlt := h.lt
  have kk : ∀ o, Keeps (· = r) w { w with heap := w.heap.setIfInBounds r o } := fun o => ⟨rfl, rfl, rfl, by simp, fun i _ hn => by simp [Ne.symm hn]⟩
  have hnew : ∀ o, ({ w with heap := w.heap.setIfInBounds r o } : World).heap[r]? = some o := fun o => by simp [hlt]
  have hno := look_none k es.toList ks h2
  cases hl : look es.toList k with
  | none =>
    rw [hl] at hj
    simp only [Option.map_none] at hj
    have hnk := hno.1 hl
    refine ⟨_, by simp [Instr.mapUpdate, run_underlying ht, hg, hc, Instr.findKey, run_underlying hK, hj, hs]; rfl, ⟨_, _, hnew _, ?_, ?_, ?_⟩, kk _, by simp⟩
    · rw [if_neg hnk]; simp only [keysOf, Array.toList_push, List.map_append, List.map_cons, List.map_nil]
      unfold keysOf at h2; rw [h2]
    · rw [if_neg hnk]; exact List.nodup_append.2 ⟨h3, by simp, fun a ha b hb => by simp at hb; subst hb; intro e; subst e; exact hnk ha⟩
    · intro x
      rw [Array.toList_push, look_append x es.toList ks _ k h2 rfl, h4 x]
      unfold setF
      by_cases hx : x = k
      · subst hx; rw [← h4 x, hl]; try simp
      · simp [hx]; try (cases f x <;> rfl)
  | some u =>
    rw [hl] at hj
    simp only [Option.map_some] at hj
    obtain ⟨_, _, e, he, hek⟩ := hj2 (by rw [hl]; rfl)
    simp only [Nat.sub_zero] at he
    have hin : k ∈ ks := by
      rcases Classical.em (k ∈ ks) with h' | h'
      · exact h'
      · rw [hno.2 h'] at hl; cases hl
    have hes : es[j]? = some e := by simpa using he
    have hsb : Instr.sameBits 10000 (.int .i64 k) (.int .i64 k) = true := by simp [Instr.sameBits]
    have hm := fun k' => look_modify k v k' es.toList ks j e h2 h3 he hek
    refine ⟨_, by simp [Instr.mapUpdate, run_underlying ht, hg, hc, Instr.findKey, run_underlying hK, hj, hes, hek, Instr.keyThatStays, hsb, hs]; rfl, ⟨_, _, hnew _, ?_, ?_, ?_⟩, kk _, by simp⟩
    · rw [if_pos hin, Array.toList_modify]; exact (hm 0).2
    · rw [if_pos hin]; exact h3
    · intro x
      rw [Array.toList_modify, (hm x).1, h4 x]; rfl
theorem MapIs.len (h : MapIs w r ks f) (ht : P.underlying t = some (.map K E)) (ty : TypeId) : (Builtin.len_ #[t] ty #[.map (some r)]).run P w = .ok (.int .i64 ks.length) w := by
  obtain ⟨es, clock, h1, h2, _⟩ := h.ex
  have hg : (getObj r).run P w = .ok (.map es clock) w := by simp [getObj, Sem.run, h1]
  have hl : es.size = ks.length := by
    have := congrArg List.length h2; simpa using this
  simp [Builtin.len_, run_underlying ht, hg, hl, goInt]
end

end Go.Proofs.YtbfgmbakeofcbaaGreat
