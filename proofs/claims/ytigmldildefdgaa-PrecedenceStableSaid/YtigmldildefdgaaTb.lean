/- Tables of seconds in memory: a row of rows of integers, each in a block of its own. Conditions: as each theorem says. -/
import Derived.Test.YtigmldildefdgaaTimesP
import Derived.Test.YtigmldildefdgaaRep
namespace Go.Proofs.Ytigmldildefdgaa
open Go.RowKit

def rowOf (ps : List (List Stage)) (T : Tab) (t : Nat) : List Int := (List.range (lenAt ps t + 1)).map fun k : Nat => T ⟨(t : Int), (k : Int)⟩
def tabOf (ps : List (List Stage)) (T : Tab) : List (List Int) := (List.range ps.length).map fun t => rowOf ps T t
theorem rowOf_len (ps : List (List Stage)) (T : Tab) (t : Nat) : (rowOf ps T t).length = lenAt ps t + 1 := by simp [rowOf]
theorem rowOf_at {ps : List (List Stage)} (T : Tab) {t k : Nat} (hk : k ≤ lenAt ps t) : (rowOf ps T t)[k]? = some (T ⟨(t : Int), (k : Int)⟩) := by
  unfold rowOf
  rw [List.getElem?_map, List.getElem?_range (by omega)]; rfl
theorem tabOf_len (ps : List (List Stage)) (T : Tab) : (tabOf ps T).length = ps.length := by simp [tabOf]
theorem tabOf_at {ps : List (List Stage)} (T : Tab) {t : Nat} (ht : t < ps.length) : (tabOf ps T)[t]? = some (rowOf ps T t) := by
  unfold tabOf
  rw [List.getElem?_map, List.getElem?_range ht]; rfl
theorem rowOf_upd_other {ps : List (List Stage)} {T : Tab} {t u k : Nat} {x : Int} (h : u ≠ t) : rowOf ps (upd T ⟨(t : Int), (k : Int)⟩ x) u = rowOf ps T u := by
  unfold rowOf
  apply List.map_congr_left
  intro j _
  unfold upd
  rw [if_neg]
  intro e; injection e with e1 e2; omega
theorem rowOf_upd {ps : List (List Stage)} {T : Tab} {t k : Nat} {x : Int} : rowOf ps (upd T ⟨(t : Int), (k : Int)⟩ x) t = (rowOf ps T t).set k x := by
  apply List.ext_getElem?
  intro j
  rw [List.getElem?_set]
  by_cases hj : j < lenAt ps t + 1
  · rw [rowOf_at _ (by omega)]
    by_cases e : k = j
    · subst e
      rw [if_pos rfl, if_pos (by rw [rowOf_len]; exact hj)]
      unfold upd; rw [if_pos rfl]
    · rw [if_neg e, rowOf_at _ (by omega)]
      unfold upd
      rw [if_neg]
      intro e'; injection e' with e1 e2; omega
  · have h1 : (rowOf ps (upd T ⟨(t : Int), (k : Int)⟩ x) t)[j]? = none := List.getElem?_eq_none (by rw [rowOf_len]; omega)
    have h2 : (rowOf ps T t)[j]? = none := List.getElem?_eq_none (by rw [rowOf_len]; omega)
    rw [h1, h2]
    by_cases e : k = j
    · rw [if_pos e, if_neg (by rw [rowOf_len]; omega)]
    · rw [if_neg e]
theorem rowOf_const (ps : List (List Stage)) (x : Int) (t : Nat) : rowOf ps (fun _ => x) t = List.replicate (lenAt ps t + 1) x := by
  unfold rowOf
  rw [List.map_const']; simp

def slT (ps : List (List Stage)) (gs : Nat → Nat) (t : Nat) : Value := .slice (some ⟨gs t, 0, none⟩) (lenAt ps t + 1) (lenAt ps t + 1)
/-- the first m rows of a table: the outer row is block N -/
structure Tb (ps : List (List Stage)) (w wr : World) (N m : Nat) (gs : Nat → Nat) (T : Tab) : Prop where
  n : ∃ cur, Blk wr N 22 cur ∧ ∀ t, t < m → cur[t]? = some (slT ps gs t)
  r : ∀ t, t < m → Blk wr (gs t) 3 (cellsI (rowOf ps T t))
  inj : ∀ t u, t < m → u < m → gs t = gs u → t = u
  lo : ∀ t, t < m → w.heap.size ≤ gs t
  nlo : w.heap.size ≤ N
  k : KeepsAll w wr
section
variable {ps : List (List Stage)} {w wr w' : World} {N m : Nat} {gs : Nat → Nat} {T : Tab}
theorem Tb.keep (h : Tb ps w wr N m gs T) (k : KeepsAll wr w') : Tb ps w w' N m gs T := by
  obtain ⟨cur, h1, h2⟩ := h.n
  exact ⟨⟨cur, h1.kept k (by simp), h2⟩, fun t ht => (h.r t ht).kept k (by simp), h.inj, h.lo, h.nlo, h.k.tr k⟩
theorem Tb.ne (h : Tb ps w wr N m gs T) {t : Nat} (ht : t < m) : N ≠ gs t := by
  obtain ⟨cur, h1, h2⟩ := h.n
  exact Blk.ne_ h1 (h.r t ht) (by decide)
theorem Tb.outer (h : Tb ps w wr N m gs T) {t : Nat} (ht : t < m) : wr.cell? ⟨N, t, none⟩ = some (slT ps gs t) := by
  obtain ⟨cur, h1, h2⟩ := h.n
  rw [h1.cell, h2 t ht]
theorem Tb.inner (h : Tb ps w wr N m gs T) {t k : Nat} (ht : t < m) (hk : k ≤ lenAt ps t) : wr.cell? ⟨gs t, k, none⟩ = some (.int .i64 (T ⟨(t : Int), (k : Int)⟩)) := by
  rw [(h.r t ht).cell, cellsI_at (rowOf_at T hk)]
theorem Tb.nlt (h : Tb ps w wr N m gs T) : N < wr.heap.size := by obtain ⟨cur, h1, _⟩ := h.n; exact h1.lt
theorem Tb.set (h : Tb ps w wr N m gs T) {t k : Nat} (ht : t < m) (x : Int) : Tb ps w (wr.setCell ⟨gs t, k, none⟩ (.int .i64 x)) N m gs (upd T ⟨(t : Int), (k : Int)⟩ x) := by
  obtain ⟨cur, h1, h2⟩ := h.n
  refine ⟨⟨cur, h1.far (h.ne ht) _, h2⟩, fun u hu => ?_, h.inj, h.lo, h.nlo, h.k.setCell (fun hh => absurd hh (by have := h.lo t ht; simp; omega)) _⟩
  by_cases e : u = t
  · subst e
    rw [rowOf_upd, ← cellsI_set]
    exact (h.r u hu).set_ k _
  · rw [rowOf_upd_other e]
    exact (h.r u hu).far (fun e' => e (h.inj u t hu ht e')) _
theorem Tb.congr {T' : Tab} (h : Tb ps w wr N m gs T) (he : ∀ t, t < m → rowOf ps T t = rowOf ps T' t) : Tb ps w wr N m gs T' :=
  ⟨h.n, fun t ht => by rw [← he t ht]; exact h.r t ht, h.inj, h.lo, h.nlo, h.k⟩
theorem Tb.read (h : Tb ps w wr N ps.length gs T) {c : Nat} (hc : ps.length ≤ c) (hc2 : c ≤ 9223372036854775807) (hl : ∀ t, lenAt ps t ≤ 1000000) : RIntss wr (Old wr) [.slice (some ⟨N, 0, none⟩) ps.length c] (tabOf ps T) := by
  refine ⟨_, _, by rw [tabOf_len], by rw [tabOf_len]; exact hc, hc2, fun _ => ⟨N, 0, rfl, h.nlt, fun j x hx => ?_⟩⟩
  have hj : j < ps.length := by have := getElem?_lt hx; rwa [tabOf_len] at this
  rw [tabOf_at T hj] at hx
  injection hx with hx
  subst hx
  refine ⟨[slT ps gs j], rfl, ?_, fun i u hu => ?_⟩
  · have := RInts.ofBlk (S := Old wr) (rowOf ps T j) (h.r j hj) (h.r j hj).lt (by rw [rowOf_len]; have := hl j; omega)
    rw [rowOf_len] at this
    exact this
  · have : i = 0 := by have := getElem?_lt hu; simp at this; omega
    subst this
    simp at hu; subst hu
    simpa using h.outer hj
/-- one row more -/
def gsAdd (gs : Nat → Nat) (m g : Nat) : Nat → Nat := fun u => if u = m then g else gs u
theorem Tb.add {x : Int} (h : Tb ps w wr N m gs (fun _ => x)) (k : KeepsAll wr w') {g : Nat} (hg : wr.heap.size ≤ g) (hb : Blk w' g 3 (cellsI (List.replicate (lenAt ps m + 1) x))) {cur : Array Value} (hn : Blk w' N 22 cur) (hcur : ∀ t, t < m → cur[t]? = some (slT ps gs t)) (hm : m < cur.size) :
    Tb ps w (w'.setCell ⟨N, m, none⟩ (.slice (some ⟨g, 0, none⟩) (lenAt ps m + 1) (lenAt ps m + 1))) N (m + 1) (gsAdd gs m g) (fun _ => x) := by
  have hgs : ∀ t, t < m → gs t < wr.heap.size := fun t ht => (h.r t ht).lt
  have hw := h.k.size
  have hNg : N ≠ g := by have := h.nlt; omega
  refine ⟨⟨_, hn.set_ m _, fun t ht => ?_⟩, fun t ht => ?_, fun t u ht hu he => ?_, fun t ht => ?_, h.nlo, (h.k.tr k).setCell (fun hh => absurd hh (by have := h.nlo; simp; omega)) _⟩
  · rw [Array.getElem?_setIfInBounds]
    unfold slT gsAdd
    by_cases e : t = m
    · subst e; simp [hm]
    · rw [if_neg (fun e' => e e'.symm), hcur t (by omega)]
      unfold slT
      rw [if_neg e]
  · unfold gsAdd
    by_cases e : t = m
    · subst e; rw [if_pos rfl, rowOf_const]; exact hb.far (fun e => hNg e.symm) _
    · rw [if_neg e]
      exact ((h.r t (by omega)).kept k (by simp)).far (fun e' => h.ne (by omega) e'.symm) _
  · unfold gsAdd at he
    by_cases e1 : t = m
    · by_cases e2 : u = m
      · omega
      · rw [if_pos e1, if_neg e2] at he
        have := hgs u (by omega); omega
    · by_cases e2 : u = m
      · rw [if_neg e1, if_pos e2] at he
        have := hgs t (by omega); omega
      · rw [if_neg e1, if_neg e2] at he
        exact h.inj t u (by omega) (by omega) he
  · unfold gsAdd
    by_cases e1 : t = m
    · rw [if_pos e1]; omega
    · rw [if_neg e1]; exact h.lo t (by omega)
end

/-- bounds of seconds -/
def Bd (T : Tab) (B : Int) : Prop := ∀ x, -1 ≤ T x ∧ T x ≤ B
theorem secs_bd {step : Tab → Ref → Int} {M : Int} (hM : 0 ≤ M) (hs : ∀ (T : Tab) (B : Int) (u : Ref), M ≤ B → Bd T B → -1 ≤ step T u ∧ step T u ≤ B + M) : ∀ (L : List Ref) (T : Tab) (B : Int), M ≤ B → Bd T B → Bd (secs step T L) (B + M * (L.length : Int))
  | [], T, B, _, h => by simpa [secs] using h
  | u :: L, T, B, hB, h => by
    have e : secs step T (u :: L) = secs step (upd T u (step T u)) L := rfl
    have h1 := hs T B u hB h
    have h2 : Bd (upd T u (step T u)) (B + M) := fun x => by
      unfold upd
      split
      · exact h1
      · have := h x; omega
    have := secs_bd hM hs L _ (B + M) (by omega) h2
    rw [e]
    rw [List.length_cons, show B + M * ((L.length + 1 : Nat) : Int) = B + M + M * (L.length : Int) from by rw [Int.natCast_add, Int.mul_add]; simp; omega]
    exact this
theorem baseS_bd {ps : List (List Stage)} (hv : valid ps = true) {n : Int} (hn : 0 ≤ n ∧ n ≤ 4194304) (u : Ref) : 0 ≤ baseS ps n u ∧ baseS ps n u ≤ 4194304 := by
  unfold baseS
  cases e1 : ps[u.tr.toNat]? with
  | none => simp; exact hn
  | some p =>
    simp only [Option.getD_some]
    cases e2 : p[u.st.toNat]? with
    | none => simp; exact hn
    | some s =>
      have := (valid_clk hv e1 e2).2
      simp only [Option.elim_some]
      omega
theorem useAdds_wt (ps : List (List Stage)) (r : Int) : ∀ (l : List Ref) (rel : List Int), ∀ q ∈ useAdds ps r l rel, q.2.wt = 0
  | [], _, q, hq => by simp [useAdds] at hq
  | v :: l, rel, q, hq => by
    rw [useAdds, List.mem_append] at hq
    rcases hq with hq | hq
    · obtain ⟨_, _, _, _, _, rfl⟩ := mem_relArcs.1 hq; rfl
    · exact useAdds_wt ps r l _ q hq
theorem gAdds_wt {ps : List (List Stage)} (hv : valid ps = true) (os : List Order) : ∀ q ∈ gAdds ps os, 0 ≤ q.2.wt ∧ q.2.wt ≤ 4194304 := by
  intro q hq
  unfold gAdds at hq
  rcases List.mem_append.1 hq with hq | hq
  · unfold chainAdds at hq
    obtain ⟨⟨p, t⟩, hp, hq⟩ := List.mem_flatMap.1 hq
    unfold chainP at hq
    obtain ⟨⟨s, k⟩, hs, rfl⟩ := List.mem_map.1 hq
    exact (valid_clk hv (List.mem_zipIdx_iff_getElem?.1 hp) (List.mem_zipIdx_iff_getElem?.1 hs)).1
  · obtain ⟨o, _, hq⟩ := List.mem_flatMap.1 hq
    have := useAdds_wt ps o.res o.uses _ q hq
    omega
theorem rowG_wt {ps : List (List Stage)} (hv : valid ps = true) (os : List Order) (u : Ref) : ∀ a ∈ rowG ps os u, 0 ≤ a.wt ∧ a.wt ≤ 4194304 := by
  intro a ha
  unfold rowG arcsAt at ha
  cases e : (arcsOf (evs ps).length (gAdds ps os))[num ps u]? with
  | none => rw [e] at ha; simp at ha
  | some row =>
    rw [e] at ha
    exact gAdds_wt hv os _ ((mem_arcsOf e).1 ha)
theorem stepG_bd {ps : List (List Stage)} (hv : valid ps = true) (os : List Order) (at_ : List Int) {n : Int} (hn : 0 ≤ n ∧ n ≤ 4194304) (T : Tab) (B : Int) (u : Ref) (hB : 4194304 ≤ B) (h : Bd T B) : -1 ≤ stepG ps os at_ n T u ∧ stepG ps os at_ n T u ≤ B + 4194304 := by
  have hb := baseS_bd hv hn u
  refine ⟨?_, ?_⟩
  · have := mxo_ge (valG ps at_ n T u) (baseS ps n u) (rowG ps os u)
    unfold stepG; omega
  · unfold stepG
    rw [mxo_le]
    refine ⟨by omega, fun a ha y hy => ?_⟩
    have hw := rowG_wt hv os u a ha
    unfold valG at hy
    split at hy
    · injection hy with hy
      have := h (evAt ps a.frm.toNat)
      omega
    · split at hy
      · injection hy with hy; omega
      · cases hy
theorem tabG_bd {ps : List (List Stage)} (hv : valid ps = true) (os : List Order) (at_ : List Int) {n : Int} (hn : 0 ≤ n ∧ n ≤ 4194304) (L : List Ref) : Bd (secs (stepG ps os at_ n) (fun _ => -1) L) (4194304 + 4194304 * (L.length : Int)) :=
  secs_bd (by omega) (fun T B u hB h => stepG_bd hv os at_ hn T B u hB h) L _ 4194304 (Int.le_refl _) (fun x => by omega)
/-- the program's Times -/
def timesP (ps : List (List Stage)) (os : List Order) (at_ : List Int) (n : Int) : List (List Int) × Int :=
  if (checkO ps os && good ps at_ && isClk n) = true then (if okP ps os at_ = true then (tabOf ps (tabG ps os at_ n), 0) else ([], 13)) else ([], 1)

end Go.Proofs.Ytigmldildefdgaa
