/- A list of paths in memory of which one cell is written again: it still reads as a list of paths. Conditions: as each theorem says. -/
import Derived.Test.YtcbpiidbkjaneaaGreatGraphA
namespace Go.Proofs.YtcbpiidbkjaneaaGreat
open Go.RowKit

theorem list_choose {α : Type} {P : Nat → α → Prop} : ∀ n : Nat, (∀ j, j < n → ∃ x, P j x) → ∃ l : List α, l.length = n ∧ ∀ (j : Nat) x, l[j]? = some x → P j x
  | 0, _ => ⟨[], rfl, fun j x h => by simp at h⟩
  | n + 1, h => by
    obtain ⟨l, hl, h1⟩ := list_choose (P := P) n (fun j hj => h j (by omega))
    obtain ⟨x, hx⟩ := h n (by omega)
    refine ⟨l ++ [x], by simp [hl], fun j y hy => ?_⟩
    rcases Nat.lt_or_ge j n with hj | hj
    · rw [List.getElem?_append_left (by omega)] at hy; exact h1 j y hy
    · rw [List.getElem?_append_right (by omega)] at hy
      have hj0 : j = n := by have := getElem?_lt hy; simp at this; omega
      subst hj0
      rw [hl, Nat.sub_self] at hy; simp at hy; subst hy; exact hx

/-- u may stand at p: an integer for an integer, a slice of integers for a slice -/
def Fit (w : World) (S : Foot) (p : Addr) (u : Value) : Prop := (∃ a b, w.cell? p = some (.int .i64 a) ∧ u = .int .i64 b) ∨ ∃ A n c, w.cell? p = some (.slice A n c) ∧ ∃ l, RInts (w.setCell p u) S [u] l
theorem Fit.int {w : World} {S : Foot} {p q : Addr} {u : Value} {x : Int} (h : Fit w S p u) (hq : w.cell? q = some (.int .i64 x)) : ∃ y, (w.setCell p u).cell? q = some (.int .i64 y) := by
  by_cases e : p = q
  · subst e
    rcases h with ⟨a, b, h1, rfl⟩ | ⟨A, n, c, h1, _⟩
    · exact ⟨b, World.cell?_setCell_same _ _ _ h1⟩
    · rw [h1] at hq; cases hq
  · exact ⟨x, (World.cell?_setCell_other _ _ _ _ e).trans hq⟩
theorem RInts.write {w : World} {S : Foot} {p : Addr} {u v : Value} {l : List Int} (hf : Fit w S p u) (h : RInts w S [v] l) : ∃ l', l'.length = l.length ∧ RInts (w.setCell p u) S [v] l' := by
  obtain ⟨A, c, he, h1, h2, h3⟩ := h
  injection he with he _; subst he
  by_cases hl : l = []
  · subst hl; exact ⟨[], rfl, A, c, rfl, h1, h2, fun h => absurd rfl h⟩
  · obtain ⟨b, o, rfl, hb, hj⟩ := h3 hl
    obtain ⟨l', hl', h5⟩ := list_choose (P := fun j y => (w.setCell p u).cell? ⟨b, o + j, none⟩ = some (.int .i64 y)) l.length (fun j hj' => by
      obtain ⟨es, e1, e2, e3⟩ := hj j l[j] (List.getElem?_eq_getElem hj')
      cases e2
      exact hf.int (by simpa using e3 0 _ rfl))
    refine ⟨l', hl', some ⟨b, o, none⟩, c, by rw [hl'], by omega, h2, fun _ => ⟨b, o, rfl, hb, fun j x hx => ⟨[.int .i64 x], rfl, rfl, fun i y hy => ?_⟩⟩⟩
    have hi : i = 0 := by
      rcases i with _ | i
      · rfl
      · simp at hy
    subst hi
    simp at hy; subst hy
    simpa using h5 j x hx
theorem RPath.write {w : World} {S : Foot} {p : Addr} {u v : Value} {l : List Stage} (hf : Fit w S p u) (h : RPath w S [v] l) : ∃ l', l'.length = l.length ∧ RPath (w.setCell p u) S [v] l' := by
  obtain ⟨A, c, he, h1, h2, h3⟩ := h
  injection he with he _; subst he
  by_cases hl : l = []
  · subst hl; exact ⟨[], rfl, A, c, rfl, h1, h2, fun h => absurd rfl h⟩
  · obtain ⟨b, o, rfl, hb, hj⟩ := h3 hl
    obtain ⟨l', hl', h5⟩ := list_choose (P := fun j s => ∃ es, es.length = 4 ∧ RStage (w.setCell p u) S es s ∧ ∀ i u', es[i]? = some u' → (w.setCell p u).cell? ⟨b, o + (j * 4 + i), none⟩ = some u') l.length (fun j hj' => by
      obtain ⟨es, e1, ⟨pv, rfl, hpv⟩, e3⟩ := hj j l[j] (List.getElem?_eq_getElem hj')
      obtain ⟨y0, z0⟩ := hf.int (e3 0 _ rfl)
      obtain ⟨y2, z2⟩ := hf.int (e3 2 _ rfl)
      obtain ⟨y3, z3⟩ := hf.int (e3 3 _ rfl)
      have q1 := e3 1 _ rfl
      obtain ⟨pv', l1, w1, r1⟩ : ∃ pv' l1, (w.setCell p u).cell? ⟨b, o + (j * 4 + 1), none⟩ = some pv' ∧ RInts (w.setCell p u) S [pv'] l1 := by
        by_cases e : p = ⟨b, o + (j * 4 + 1), none⟩
        · subst e
          rcases hf with ⟨a, b', h1', rfl⟩ | ⟨A', n', c', h1', l2, hl2⟩
          · rw [h1'] at q1
            obtain ⟨A', c', he', _⟩ := hpv
            injection he' with he' _; subst he'
            cases q1
          · exact ⟨u, l2, World.cell?_setCell_same _ _ _ h1', hl2⟩
        · obtain ⟨l2, _, hl2⟩ := RInts.write hf hpv
          exact ⟨pv, l2, (World.cell?_setCell_other _ _ _ _ e).trans q1, hl2⟩
      refine ⟨⟨y0, l1, y2, y3⟩, [.int .i64 y0, pv', .int .i64 y2, .int .i64 y3], rfl, ⟨pv', rfl, r1⟩, fun i u' hu => ?_⟩
      match i, hu with
      | 0, hu => simp at hu; subst hu; exact z0
      | 1, hu => simp at hu; subst hu; exact w1
      | 2, hu => simp at hu; subst hu; exact z2
      | 3, hu => simp at hu; subst hu; exact z3
      | i + 4, hu => simp at hu)
    exact ⟨l', hl', some ⟨b, o, none⟩, c, by rw [hl'], by omega, h2, fun _ => ⟨b, o, rfl, hb, h5⟩⟩

/-- a path whose stages lie in memory from B on -/
def Soft (w : World) (b : Nat) : Prop := ∃ cur t, Blk w b t cur
theorem Soft.set_ {w : World} {b : Nat} (h : Soft w b) (p : Addr) (u : Value) : Soft (w.setCell p u) b := by
  obtain ⟨cur, t, hb⟩ := h
  by_cases e : b = p.block
  · subst e
    unfold Soft Blk World.setCell at *
    simp only [Array.getElem?_modify, hb]
    simp
  · exact ⟨cur, t, hb.far e u⟩
def RPathN (B : Nat) : Rd (List Stage) := fun w S cs l => RPath w S cs l ∧ ∀ b o s n c, cs = [.slice (some ⟨b, o, s⟩) n c] → B ≤ b ∧ S b ∧ Soft w b
theorem RPathN.ok (B : Nat) : Rd.Ok (RPathN B) := ⟨fun h hS hw => ⟨RPath.ok.mono h.1 hS hw, fun b o s n c hc => by
  obtain ⟨h1, h2, cur, t, h3⟩ := h.2 b o s n c hc
  exact ⟨h1, hS b h2, cur, t, (hw b h2).trans h3⟩⟩⟩
/-- a stage whose points lie below B -/
def RStageB (B : Nat) : Rd Stage := fun w S cs s => RStage w (fun b => S b ∧ b < B) cs s
theorem RStageB.ok (B : Nat) : Rd.Ok (RStageB B) := ⟨fun h hS hw => RStage.ok.mono h (fun b hb => ⟨hS b hb.1, hb.2⟩) (fun b hb => hw b hb.1)⟩
theorem RStageB.one (B : Nat) : Rd.One (RStageB B) := fun w _ es x h u hu => RStage.one w _ es x h u hu

section
variable {α : Type} {t size : Nat} {E : Rd α} {w w' : World} {base lo : Nat} {v : Value} {l : List α}
theorem OwnL.readG {β : Type} {E' : Rd β} (f : α → β) (h : OwnL t size E w base lo v l) {S : Foot} (hE : ∀ es x, E w (fun b => lo ≤ b ∧ b < w.heap.size ∧ v.ownBlock ≠ some b) es x → E' w S es (f x)) (hS : ∀ b, v.ownBlock = some b → S b) : RSlice size E' w S [v] (l.map f) := by
  obtain ⟨ess, h1, h2, h3⟩ := h
  have hall : ∀ es ∈ ess, es.length = size := by
    intro es hes
    obtain ⟨j, hj, e⟩ := List.getElem_of_mem hes
    have hl : j < l.length := by omega
    obtain ⟨es', e1, e2, _⟩ := h3 j l[j] (List.getElem?_eq_getElem hl)
    rw [List.getElem?_eq_getElem hj, e] at e1
    injection e1 with e1; subst e1; exact e2
  rcases h2.2 with ⟨rfl, hn⟩ | ⟨g, cap, cur, rfl, hb, hh, hnc, hcm, hcs, htk⟩
  · have : l = [] := List.eq_nil_of_length_eq_zero hn
    subst this
    exact RSlice.mkNil
  · refine ⟨_, cap, by rw [List.length_map], by rw [List.length_map]; exact hnc, hcm, fun _ => ⟨g, 0, rfl, hS g rfl, fun j y hy => ?_⟩⟩
    rw [List.getElem?_map] at hy
    cases hx : l[j]? with
    | none => rw [hx] at hy; simp at hy
    | some x =>
      rw [hx] at hy; simp at hy; subst hy
      obtain ⟨es, e1, e2, e3⟩ := h3 j x hx
      refine ⟨es, e2, hE es x e3, fun i u hu => ?_⟩
      have hi : i < size := by rw [← e2]; exact (List.getElem?_eq_some_iff.1 hu).1
      have hj : j < l.length := getElem?_lt hx
      have hf := flatten_at hall e1 hi
      rw [hu, ← htk] at hf
      have hk : j * size + i < l.length * size := by
        have : (j + 1) * size ≤ l.length * size := Nat.mul_le_mul_right _ hj
        rw [Nat.succ_mul] at this; omega
      rw [List.getElem?_take_of_lt hk] at hf
      simp only [World.cell?, hh, Option.isSome_none, Nat.zero_add]
      simpa using hf
end
section
variable {t : Nat} {w w' : World} {base : Nat} {v : Value} {ps : List (List Stage)} {B : Nat}
/-- a row of a list of paths that was built by append -/
theorem OwnL.row (h : OwnL t 1 (RPathN B) w base 0 v ps) {j : Nat} {x : List Stage} (hx : ps[j]? = some x) : ∃ g cap A c, v = .slice (some ⟨g, 0, none⟩) ps.length cap ∧ base ≤ g ∧ g < w.heap.size ∧ w.cell? ⟨g, j, none⟩ = some (.slice A x.length c) ∧ w.frozen? ⟨g, j, none⟩ = false ∧
    RPath w (fun b => b < w.heap.size ∧ b ≠ g) [.slice A x.length c] x ∧ (∀ b o s, A = some ⟨b, o, s⟩ → B ≤ b ∧ Soft w b) := by
  have hj := getElem?_lt hx
  obtain ⟨ess, h1, h2, h3⟩ := h
  have hall : ∀ es ∈ ess, es.length = 1 := by
    intro es hes
    obtain ⟨j, hj, e⟩ := List.getElem_of_mem hes
    have hl : j < ps.length := by omega
    obtain ⟨es', e1, e2, _⟩ := h3 j ps[j] (List.getElem?_eq_getElem hl)
    rw [List.getElem?_eq_getElem hj, e] at e1
    injection e1 with e1; subst e1; exact e2
  rcases h2.2 with ⟨rfl, hn⟩ | ⟨g, cap, cur, rfl, hb, hh, hnc, hcm, hcs, htk⟩
  · omega
  · obtain ⟨es, e1, e2, e3, e4⟩ := h3 j x hx
    have hlt := (Array.getElem?_eq_some_iff.1 hh).1
    obtain ⟨A, c, rfl, q⟩ := e3
    have hf := flatten_at hall e1 (i := 0) (by omega)
    rw [← htk, List.getElem?_take_of_lt (by omega)] at hf
    refine ⟨g, cap, A, c, rfl, hb, hlt, ?_, ?_, ?_, fun b o s hA => by have := e4 b o s _ _ (by rw [hA]); exact ⟨this.1, this.2.2⟩⟩
    · simp only [World.cell?, hh, Option.isSome_none]
      simpa using hf
    · simp [World.frozen?, hh]
    · refine RPath.ok.mono ⟨A, c, rfl, q⟩ (fun b hb => ⟨hb.2.1, fun e => hb.2.2 ?_⟩) (fun _ _ => rfl)
      subst e; rfl
/-- one cell of one of its rows is written -/
theorem OwnL.write (h : OwnL t 1 (RPathN B) w base 0 v ps) {p : Addr} {u : Value} (hp : v.ownBlock ≠ some p.block) (hf : Fit w (fun b => b < w.heap.size ∧ v.ownBlock ≠ some b) p u) : ∃ ps', ps'.length = ps.length ∧ OwnL t 1 (RPathN B) (w.setCell p u) base 0 v ps' := by
  obtain ⟨ess, h1, h2, h3⟩ := h
  have hsz : (w.setCell p u).heap.size = w.heap.size := by simp [World.setCell]
  obtain ⟨ps', hl', h5⟩ := list_choose (P := fun j x => ∃ es, ess[j]? = some es ∧ es.length = 1 ∧ RPathN B (w.setCell p u) (fun b => 0 ≤ b ∧ b < (w.setCell p u).heap.size ∧ v.ownBlock ≠ some b) es x) ps.length (fun j hj => by
    obtain ⟨es, e1, e2, e3, e4⟩ := h3 j ps[j] (List.getElem?_eq_getElem hj)
    have e3' := e3
    obtain ⟨A, c, rfl, q⟩ := e3
    have e5 := RPath.ok.mono e3' (S' := fun b => b < w.heap.size ∧ v.ownBlock ≠ some b) (fun b hb => hb.2) (fun _ _ => rfl)
    obtain ⟨l', hl', h6⟩ := RPath.write hf e5
    exact ⟨l', _, e1, rfl, RPath.ok.mono h6 (fun b hb => ⟨Nat.zero_le _, by rw [hsz]; exact hb.1, hb.2⟩) (fun _ _ => rfl), fun b o s n c hc => by
      obtain ⟨a1, a2, a3⟩ := e4 b o s n c hc
      exact ⟨a1, ⟨Nat.zero_le _, by rw [hsz]; exact a2.2.1, a2.2.2⟩, a3.set_ p u⟩⟩)
  refine ⟨ps', hl', ess, by omega, ?_, h5⟩
  rw [hl']
  refine ⟨h2.1, ?_⟩
  rcases h2.2 with hn | ⟨g, cap, cur, e, hb, hh, rest⟩
  · exact .inl hn
  · have hg : g ≠ p.block := fun e' => hp (by rw [e, ← e']; rfl)
    exact .inr ⟨g, cap, cur, e, hb, (Below.heap_setCell w p u g hg).trans hh, rest⟩
end

theorem RPath.toB {w : World} {S : Foot} {v : Value} {l : List Stage} {B : Nat} (h : RPath w S [v] l) (hB : ∀ b, S b → b < B) : RSlice 4 (RStageB B) w S [v] l := by
  obtain ⟨A, c, he, h1, h2, h3⟩ := h
  refine ⟨A, c, he, h1, h2, fun hl => ?_⟩
  obtain ⟨b, o, rfl, hb, hj⟩ := h3 hl
  refine ⟨b, o, rfl, hb, fun j x hx => ?_⟩
  obtain ⟨es, e1, e2, e3⟩ := hj j x hx
  exact ⟨es, e1, RStage.ok.mono e2 (fun b hb => ⟨hb, hB b hb⟩) (fun _ _ => rfl), e3⟩
theorem OwnL.soft {α : Type} {t size : Nat} {E : Rd α} {w : World} {base lo : Nat} {v : Value} {l : List α} (h : OwnL t size E w base lo v l) {b : Nat} (hb : v.ownBlock = some b) : Soft w b := by
  obtain ⟨ess, h1, h2, h3⟩ := h
  rcases h2.2 with ⟨rfl, hn⟩ | ⟨g, cap, cur, rfl, hb', hh, _⟩
  · simp [Value.ownBlock] at hb
  · have : g = b := by simpa [Value.ownBlock] using hb
    subst this
    exact ⟨cur, t, hh⟩

end Go.Proofs.YtcbpiidbkjaneaaGreat
