/- Contracts of the reference's Seconds and Times. Conditions: as each theorem says. -/
import Derived.Test.YtilbbpbjhoidhaaS15
import Derived.Lib.MinMax
namespace Go.Proofs.Ytilbbpbjhoidhaa
open Go.RowKit

/-- a row in a block of its own, by its block and length -/
def RPtr : Rd (Nat × Nat) := fun _ _ cs q => cs = [.slice (some ⟨q.1, 0, none⟩) q.2 q.2]
theorem RPtr.ok : Rd.Ok RPtr := ⟨fun h _ _ => h⟩
theorem RPtr.flat : Rd.Flat RPtr := fun _ _ _ _ _ _ h => h
theorem RPtr.one : Rd.One RPtr := fun _ _ es x h u hu => by rw [h] at hu; simp at hu; subst hu; rfl
def ptrs (ps : List (List Stage)) (gs : Nat → Nat) (m : Nat) : List (Nat × Nat) := (List.range m).map fun t => (gs t, lenAt ps t + 1)
theorem ptrs_succ (ps : List (List Stage)) (gs : Nat → Nat) (m g : Nat) : ptrs ps (gsAdd gs m g) (m + 1) = ptrs ps gs m ++ [(g, lenAt ps m + 1)] := by
 unfold ptrs
 rw [List.range_succ, List.map_append]
 congr 1
 ·apply List.map_congr_left
  intro t ht
  have := List.mem_range.1 ht
  unfold gsAdd; rw [if_neg (by omega)]
 ·unfold gsAdd; simp
structure Tf (ps : List (List Stage)) (w wr : World) (v : Value) (m : Nat) (gs : Nat → Nat) (T : Tab) : Prop where
 o : OwnL 22 1 RPtr wr w.heap.size w.heap.size v (ptrs ps gs m)
 r : ∀ t, t < m → Blk wr (gs t) 3 (cellsI (rowOf ps T t))
 inj : ∀ t u, t < m → u < m → gs t = gs u → t = u
 lo : ∀ t, t < m → w.heap.size ≤ gs t
 k : KeepsAll w wr
section
variable {ps : List (List Stage)} {w wr w' w9 : World} {v v9 : Value} {m : Nat} {gs : Nat → Nat} {T : Tab}
theorem Tf.keep (h : Tf ps w wr v m gs T) (k : KeepsAll wr w') : Tf ps w w' v m gs T :=
 ⟨h.o.keeps RPtr.ok k (fun _ _ h => h.elim), fun t ht => (h.r t ht).kept k (by simp), h.inj, h.lo, h.k.tr k⟩
theorem Tf.add (h : Tf ps w wr v m gs T) (k : KeepsAll wr w') {g : Nat} (hg : wr.heap.size ≤ g) (hb : Blk w' g 3 (cellsI (rowOf ps T m))) (ho : OwnL 22 1 RPtr w9 w.heap.size w.heap.size v9 (ptrs ps gs m ++ [(g, lenAt ps m + 1)])) (hk : Keeps (fun b => v.ownBlock = some b) w' w9) : Tf ps w w9 v9 (m + 1) (gsAdd gs m g) T := by
 have h' := h.keep k
 have hgs : ∀ t, t < m → gs t < wr.heap.size := fun t ht => (h.r t ht).lt
 have hw := h.k.size
 refine ⟨by rw [ptrs_succ]; exact ho, fun t ht => ?_, fun t u ht hu he => ?_, fun t ht => ?_, h'.k.trans hk (fun x hx e => by have := h.o.lt e; omega)⟩
 ·unfold gsAdd
  by_cases e : t = m
  ·subst e; rw [if_pos rfl]; exact hb.kept hk (h'.o.ne_blk hb (by decide))
  ·rw [if_neg e]; exact (h'.r t (by omega)).kept hk (h'.o.ne_blk (h'.r t (by omega)) (by decide))
 ·unfold gsAdd at he
  by_cases e1 : t = m
  ·by_cases e2 : u = m
   ·omega
   ·rw [if_pos e1, if_neg e2] at he
    have := hgs u (by omega); omega
  ·by_cases e2 : u = m
   ·rw [if_neg e1, if_pos e2] at he
    have := hgs t (by omega); omega
   ·rw [if_neg e1, if_neg e2] at he
    exact h.inj t u (by omega) (by omega) he
 ·unfold gsAdd
  by_cases e1 : t = m
  ·rw [if_pos e1]; omega
  ·rw [if_neg e1]; exact h.lo t (by omega)
end

/-- a table of new blocks -/
theorem Tb.readF {ps : List (List Stage)} {w wr : World} {N : Nat} {gs : Nat → Nat} {T : Tab} (h : Tb ps w wr N ps.length gs T) {c : Nat} (hc : ps.length ≤ c) (hc2 : c ≤ 9223372036854775807) (hl : ∀ t, lenAt ps t ≤ 1000000) : RIntss wr (Fresh w wr) [.slice (some ⟨N, 0, none⟩) ps.length c] (tabOf ps T) := by
 refine ⟨_, _, by rw [tabOf_len], by rw [tabOf_len]; exact hc, hc2, fun _ => ⟨N, 0, rfl, ⟨h.nlo, h.nlt⟩, fun j x hx => ?_⟩⟩
 have hj : j < ps.length := by have := getElem?_lt hx; rwa [tabOf_len] at this
 rw [tabOf_at T hj] at hx
 injection hx with hx
 subst hx
 refine ⟨[slT ps gs j], rfl, ?_, fun i u hu => ?_⟩
 ·have := RInts.ofBlk (S := Fresh w wr) (rowOf ps T j) (h.r j hj) ⟨h.lo j hj, (h.r j hj).lt⟩ (by rw [rowOf_len]; have := hl j; omega)
  rw [rowOf_len] at this
  exact this
 ·have : i = 0 := by have := getElem?_lt hu; simp at this; omega
  subst this
  simp at hu; subst hu
  simpa using h.outer hj

end Go.Proofs.Ytilbbpbjhoidhaa
