/- The orders that the reference sorts, as plain lists, and that they are valid. No program in sight. Contract of the reference's Sort. Conditions: as the theorem says. Contract of the maker of entries: what it returns fits the paths and ascends. Conditions: as the theorem says. -/
import Derived.Test.YtilbbpbjhoidhaaK04
import Derived.Test.YtilbbpbjhoidhaaK08
import Derived.Test.YtilbbpbjhoidhaaK06
import Derived.Test.YtilbbpbjhoidhaaK05
namespace Go.Proofs.Ytilbbpbjhoidhaa
open Go.RowKit

/-- the uses in ascending order -/
def Lex (v u : Ref) : Prop := v.tr < u.tr ∨ v.tr = u.tr ∧ v.st < u.st
theorem pathAll_lex (r : Int) (t : Nat) (p : List Stage) : (pathAll r t p).Pairwise Lex := by
  have : ∀ n, n ≤ p.length → (pathAll r t (p.take n)).Pairwise Lex := by
    intro n
    induction n with
    | zero => intro _; simp [pathAll]
    | succ n ih =>
      intro hn
      rw [pathAll_succ r t (List.getElem?_eq_getElem (by omega) : p[n]? = some p[n]), List.pairwise_append]
      refine ⟨ih (by omega), by split <;> simp, fun a ha b hb => ?_⟩
      split at hb
      · simp at hb; subst hb
        obtain ⟨k, s, hk, _, rfl⟩ := mem_pathAll.1 ha
        have := getElem?_lt hk
        rw [List.length_take] at this
        exact .inr ⟨rfl, by show (k : Int) < (n : Int); omega⟩
      · simp at hb
  have h := this p.length (Nat.le_refl _)
  rwa [List.take_length] at h
theorem allU_lex (ps : List (List Stage)) (r : Int) : (allU ps r).Pairwise Lex := by
  have : ∀ n, n ≤ ps.length → (allU (ps.take n) r).Pairwise Lex := by
    intro n
    induction n with
    | zero => intro _; simp [allU]
    | succ n ih =>
      intro hn
      rw [allU_succ r (List.getElem?_eq_getElem (by omega) : ps[n]? = some ps[n]), List.pairwise_append]
      refine ⟨ih (by omega), pathAll_lex r n _, fun a ha b hb => ?_⟩
      obtain ⟨t, k, p, s, ht, _, _, rfl⟩ := mem_allU.1 ha
      obtain ⟨k', s', _, _, rfl⟩ := mem_pathAll.1 hb
      have := getElem?_lt ht
      rw [List.length_take] at this
      exact .inl (by show (t : Int) < (n : Int); omega)
  have h := this ps.length (Nat.le_refl _)
  rwa [List.take_length] at h

theorem tyOrder : ElemTy Try.prog 28 44 2 32 := .mk' Try.underlying28 (z := .agg #[.int .i64 0, .slice none 0 0]) (by kernel_rfl) rfl (by omega)
theorem RSlice.tail {α : Type} {size : Nat} {E : Rd α} {w : World} {S : Foot} {b o n c : Nat} {l : List α} (h : RSlice size E w S [.slice (some ⟨b, o, none⟩) n c] l) {k : Nat} (hk : k ≤ l.length) : RSlice size E w S [.slice (some ⟨b, o + k * size, none⟩) (l.length - k) (c - k)] (l.drop k) := by
  obtain ⟨A', c', he, h1, h2, h3⟩ := h
  injection he with he _; injection he with ha hn hc; subst ha hc
  refine ⟨_, c - k, by rw [List.length_drop], by rw [List.length_drop]; omega, by omega, fun hne => ?_⟩
  obtain ⟨b', o', hA, hb, hj⟩ := h3 (by rintro rfl; simp at hne)
  injection hA with hA; injection hA with hA1 hA2; subst hA1 hA2
  refine ⟨b, o + k * size, rfl, hb, fun j x hx => ?_⟩
  rw [List.getElem?_drop] at hx
  obtain ⟨es, e1, e2, e3⟩ := hj (k + j) x hx
  refine ⟨es, e1, e2, fun i u hu => ?_⟩
  have := e3 i u hu
  rw [Nat.add_mul] at this
  rw [show o + k * size + (j * size + i) = o + (k * size + j * size + i) from by omega]
  exact this
theorem RSlice.head {α : Type} {size : Nat} {E : Rd α} {w : World} {S : Foot} {A : Option Addr} {n c : Nat} {l : List α} (h : RSlice size E w S [.slice A n c] l) {k : Nat} (hk : k ≤ l.length) : RSlice size E w S [.slice A k c] (l.take k) := by
  obtain ⟨A', c', he, h1, h2, h3⟩ := h
  injection he with he _; injection he with ha hn hc; subst ha hc
  have hlt : (l.take k).length = k := by rw [List.length_take]; omega
  refine ⟨A, c, by rw [hlt], by omega, h2, fun hne => ?_⟩
  obtain ⟨b, o, hA, hb, hj⟩ := h3 (by rintro rfl; simp at hne)
  refine ⟨b, o, hA, hb, fun j x hx => ?_⟩
  have hjk : j < k := by have := getElem?_lt hx; omega
  rw [List.getElem?_take_of_lt hjk] at hx
  exact hj j x hx
theorem RSlice.none_ {α : Type} {size : Nat} {E : Rd α} {w : World} {S : Foot} {A : Option Addr} {c : Nat} (hc : c ≤ 9223372036854775807) : RSlice size E w S [.slice A 0 c] ([] : List α) := ⟨A, c, rfl, Nat.zero_le _, hc, fun h => absurd rfl h⟩

theorem OwnL.base_mono {α : Type} {t size : Nat} {E : Rd α} {w : World} {base base' lo : Nat} {v : Value} {l : List α} (h : OwnL t size E w base lo v l) (hb : base' ≤ base) : OwnL t size E w base' lo v l := by
  obtain ⟨ess, h1, h2, h3⟩ := h
  refine ⟨ess, h1, ⟨h2.1, ?_⟩, h3⟩
  rcases h2.2 with hn | ⟨g, cap, cur, e, hb', rest⟩
  · exact .inl hn
  · exact .inr ⟨g, cap, cur, e, Nat.le_trans hb hb', rest⟩

/-- a row of integers that may be written -/
def RIntsU : Rd (List Int) := fun w S cs l => RInts w S cs l ∧ (l ≠ [] → ∀ b o n c, cs = [.slice (some ⟨b, o, none⟩) n c] → ∀ k, w.frozen? ⟨b, k, none⟩ = false)
abbrev RIntssU := RSlice 1 RIntsU
theorem RIntsU.ok : Rd.Ok RIntsU := by
  refine ⟨?_⟩
  intro w w' S S' cs l h hS hw
  refine ⟨RInts.ok.mono h.1 hS hw, fun hn b o n c hc k => ?_⟩
  obtain ⟨A, c', hc', _, _, h3⟩ := h.1
  obtain ⟨b', o', hA, hb, _⟩ := h3 hn
  subst hA
  rw [hc] at hc'
  injection hc' with hc' _
  injection hc' with hc' _ _
  injection hc' with hc'
  injection hc' with hc' _
  subst hc'
  have := h.2 hn b o n c hc k
  unfold World.frozen? at this ⊢
  rw [hw b hb]; exact this
theorem RIntssU.ok : Rd.Ok RIntssU := RSlice.ok RIntsU.ok

end Go.Proofs.Ytilbbpbjhoidhaa
