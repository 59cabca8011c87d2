/- A list of orders in memory of which one cell is written again: it still reads as a list of orders. Conditions: as each theorem says. -/
import Derived.Test.YtigmldildefdgaaChg2
namespace Go.Proofs.Ytigmldildefdgaa
open Go.RowKit

/-- u may stand at p: an integer for an integer, a slice of refs for a slice -/
def FitO (w : World) (S : Foot) (p : Addr) (u : Value) : Prop := (∃ a b, w.cell? p = some (.int .i64 a) ∧ u = .int .i64 b) ∨ ∃ A n c, w.cell? p = some (.slice A n c) ∧ ∃ l, RRefs (w.setCell p u) S [u] l
theorem FitO.int {w : World} {S : Foot} {p q : Addr} {u : Value} {x : Int} (h : FitO w S p u) (hq : w.cell? q = some (.int .i64 x)) : ∃ y, (w.setCell p u).cell? q = some (.int .i64 y) := by
  by_cases e : p = q
  · subst e
    rcases h with ⟨a, b, h1, rfl⟩ | ⟨A, n, c, h1, _⟩
    · exact ⟨b, World.cell?_setCell_same _ _ _ h1⟩
    · rw [h1] at hq; cases hq
  · exact ⟨x, (World.cell?_setCell_other _ _ _ _ e).trans hq⟩
theorem RRefs.write {w : World} {S : Foot} {p : Addr} {u v : Value} {l : List Ref} (hf : FitO w S p u) (h : RRefs w S [v] l) : ∃ l', l'.length = l.length ∧ RRefs (w.setCell p u) S [v] l' := by
  obtain ⟨A, c, he, h1, h2, h3⟩ := h
  injection he with he _; subst he
  by_cases hl : l = []
  · subst hl; exact ⟨[], rfl, A, c, rfl, h1, h2, fun h => absurd rfl h⟩
  · obtain ⟨b, o, rfl, hb, hj⟩ := h3 hl
    obtain ⟨l', hl', h5⟩ := list_choose (P := fun j y => (w.setCell p u).cell? ⟨b, o + (j * 2 + 0), none⟩ = some (.int .i64 (Ref.tr y)) ∧ (w.setCell p u).cell? ⟨b, o + (j * 2 + 1), none⟩ = some (.int .i64 (Ref.st y))) l.length (fun j hj' => by
      obtain ⟨es, e1, e2, e3⟩ := hj j l[j] (List.getElem?_eq_getElem hj')
      cases e2
      obtain ⟨y0, z0⟩ := hf.int (e3 0 _ rfl)
      obtain ⟨y1, z1⟩ := hf.int (e3 1 _ rfl)
      exact ⟨⟨y0, y1⟩, z0, z1⟩)
    refine ⟨l', hl', some ⟨b, o, none⟩, c, by rw [hl'], by omega, h2, fun _ => ⟨b, o, rfl, hb, fun j x hx => ⟨[.int .i64 x.tr, .int .i64 x.st], rfl, rfl, fun i y hy => ?_⟩⟩⟩
    have h6 := h5 j x hx
    match i, hy with
    | 0, hy => simp at hy; subst hy; exact h6.1
    | 1, hy => simp at hy; subst hy; exact h6.2
    | i + 2, hy => simp at hy
theorem ROrders.write {w : World} {S : Foot} {p : Addr} {u v : Value} {l : List Order} (hf : FitO w S p u) (h : ROrders w S [v] l) : ∃ l', l'.length = l.length ∧ ROrders (w.setCell p u) S [v] l' := by
  obtain ⟨A, c, he, h1, h2, h3⟩ := h
  injection he with he _; subst he
  by_cases hl : l = []
  · subst hl; exact ⟨[], rfl, A, c, rfl, h1, h2, fun h => absurd rfl h⟩
  · obtain ⟨b, o, rfl, hb, hj⟩ := h3 hl
    obtain ⟨l', hl', h5⟩ := list_choose (P := fun j s => ∃ es, es.length = 2 ∧ ROrder (w.setCell p u) S es s ∧ ∀ i u', es[i]? = some u' → (w.setCell p u).cell? ⟨b, o + (j * 2 + i), none⟩ = some u') l.length (fun j hj' => by
      obtain ⟨es, e1, ⟨pv, rfl, hpv⟩, e3⟩ := hj j l[j] (List.getElem?_eq_getElem hj')
      obtain ⟨y0, z0⟩ := hf.int (e3 0 _ rfl)
      have q1 := e3 1 _ rfl
      obtain ⟨pv', l1, w1, r1⟩ : ∃ pv' l1, (w.setCell p u).cell? ⟨b, o + (j * 2 + 1), none⟩ = some pv' ∧ RRefs (w.setCell p u) S [pv'] l1 := by
        by_cases e : p = ⟨b, o + (j * 2 + 1), none⟩
        · subst e
          rcases hf with ⟨a, b', h1', rfl⟩ | ⟨A', n', c', h1', l2, hl2⟩
          · rw [h1'] at q1
            obtain ⟨A', c', he', _⟩ := hpv
            injection he' with he' _; subst he'
            cases q1
          · exact ⟨u, l2, World.cell?_setCell_same _ _ _ h1', hl2⟩
        · obtain ⟨l2, _, hl2⟩ := RRefs.write hf hpv
          exact ⟨pv, l2, (World.cell?_setCell_other _ _ _ _ e).trans q1, hl2⟩
      refine ⟨⟨y0, l1⟩, [.int .i64 y0, pv'], rfl, ⟨pv', rfl, r1⟩, fun i u' hu => ?_⟩
      match i, hu with
      | 0, hu => simp at hu; subst hu; exact z0
      | 1, hu => simp at hu; subst hu; exact w1
      | i + 2, hu => simp at hu)
    exact ⟨l', hl', some ⟨b, o, none⟩, c, by rw [hl'], by omega, h2, fun _ => ⟨b, o, rfl, hb, h5⟩⟩
/-- the same, read by all blocks -/
theorem ROrders.writeO {w : World} {p : Addr} {u v : Value} {l : List Order} (hf : FitO w (Old w) p u) (h : ROrders w (Old w) [v] l) : ∃ l', l'.length = l.length ∧ ROrders (w.setCell p u) (Old (w.setCell p u)) [v] l' := by
  obtain ⟨l', hl, h'⟩ := ROrders.write hf h
  have hsz : (w.setCell p u).heap.size = w.heap.size := by simp [World.setCell]
  exact ⟨l', hl, ROrders.ok.mono h' (fun b hb => by show b < _; rw [hsz]; exact hb) (fun _ _ => rfl)⟩
/-- two cells of integers written, each for an integer -/
theorem ROrders.writeI {w : World} {p : Addr} {x y : Int} {v : Value} {l : List Order} (hp : w.cell? p = some (.int .i64 x)) (h : ROrders w (Old w) [v] l) : ∃ l', l'.length = l.length ∧ ROrders (w.setCell p (.int .i64 y)) (Old (w.setCell p (.int .i64 y))) [v] l' :=
  ROrders.writeO (.inl ⟨x, y, hp, rfl⟩) h
theorem cell_writeI {w : World} {p q : Addr} {x y z : Int} (hp : w.cell? p = some (.int .i64 x)) (hq : w.cell? q = some (.int .i64 z)) : ∃ z', (w.setCell p (.int .i64 y)).cell? q = some (.int .i64 z') :=
  FitO.int (S := Old w) (.inl ⟨x, y, hp, rfl⟩) hq
/-- a slice without its first element -/
theorem RRefs.tail {w : World} {S : Foot} {b o n c : Nat} {l : List Ref} (h : RRefs w S [.slice (some ⟨b, o, none⟩) n c] l) {o' : Nat} (ho : o' = o + 2) : RRefs w S [.slice (some ⟨b, o', none⟩) (n - 1) (c - 1)] (l.drop 1) := by
  subst ho
  obtain ⟨A', c', he, h1, h2, h3⟩ := h
  injection he with he _; injection he with ha hn hc; subst hc hn
  refine ⟨_, _, by rw [List.length_drop], by rw [List.length_drop]; omega, by omega, fun hne => ?_⟩
  obtain ⟨b', o', hA, hb, hj⟩ := h3 (by rintro rfl; simp at hne)
  rw [hA] at ha; injection ha with ha; injection ha with ha hb'; subst ha hb'
  refine ⟨_, _, rfl, hb, fun j x hx => ?_⟩
  rw [List.getElem?_drop] at hx
  obtain ⟨es, e1, e2, e3⟩ := hj (1 + j) x hx
  refine ⟨es, e1, e2, fun i u hu => ?_⟩
  have := e3 i u hu
  rw [show o + 2 + (j * 2 + i) = o + ((1 + j) * 2 + i) from by omega]
  exact this

theorem flatten_set2 : ∀ (ess : List (List Value)) (k : Nat) (a b b' : Value), (∀ es ∈ ess, es.length = 2) → ess[k]? = some [a, b] → (ess.set k [a, b']).flatten = ess.flatten.set (k * 2 + 1) b'
  | [], k, a, b, b', _, h => by simp at h
  | e :: rest, 0, a, b, b', _, h => by simp at h; subst h; simp
  | e :: rest, k + 1, a, b, b', hl, h => by
    have ih := flatten_set2 rest k a b b' (fun es hes => hl es (List.mem_cons_of_mem _ hes)) (by simpa using h)
    obtain ⟨p, q, rfl⟩ : ∃ p q, e = [p, q] := by
      have := hl e (List.mem_cons_self ..)
      match e, this with
      | [p, q], _ => exact ⟨p, q, rfl⟩
    rw [List.set_cons_succ, List.flatten_cons, List.flatten_cons, ih, show (k + 1) * 2 + 1 = (k * 2 + 1) + 1 + 1 from by omega]
    rfl
/-- a row of orders that was built by append, of which the uses of one order are written again -/
theorem OwnL.setUses {t : Nat} {w : World} {base lo : Nat} {g n c : Nat} {l : List Order} (h : OwnL t 2 ROrder w base lo (.slice (some ⟨g, 0, none⟩) n c) l) {k : Nat} {x : Order} (hx : l[k]? = some x) {nv : Value} {us : List Ref} (hr : RRefs w (fun b => lo ≤ b ∧ b < w.heap.size ∧ b ≠ g) [nv] us) :
    OwnL t 2 ROrder (w.setCell ⟨g, k * 2 + 1, none⟩ nv) base lo (.slice (some ⟨g, 0, none⟩) n c) (l.set k ⟨x.res, us⟩) := by
  have hsz : (w.setCell ⟨g, k * 2 + 1, none⟩ nv).heap.size = w.heap.size := by simp [World.setCell]
  obtain ⟨ess, h1, h2, h3⟩ := h
  have hk := getElem?_lt hx
  obtain ⟨es, e1, e2, e3⟩ := h3 k x hx
  have hall : ∀ es ∈ ess, es.length = 2 := by
    intro es hes
    obtain ⟨j, hj, e⟩ := List.getElem_of_mem hes
    have hl : j < l.length := by omega
    obtain ⟨es', e1, e2, _⟩ := h3 j l[j] (List.getElem?_eq_getElem hl)
    rw [List.getElem?_eq_getElem hj, e] at e1
    injection e1 with e1; subst e1; exact e2
  obtain ⟨v, rfl, hv⟩ := e3
  rcases h2.2 with ⟨hh, _⟩ | ⟨g', cap, cur, he, hb, hh, hnc, hcm, hcs, htk⟩
  · cases hh
  injection he with he hn hc
  injection he with he; injection he with he; subst he hc hn
  have hS : ∀ b, (lo ≤ b ∧ b < w.heap.size ∧ (Value.slice (some ⟨g, 0, none⟩) l.length c).ownBlock ≠ some b) → b ≠ g := fun b hb e => hb.2.2 (by rw [e]; rfl)
  have hlt : k * 2 + 1 < l.length * 2 := by omega
  refine ⟨ess.set k [.int .i64 x.res, nv], by simp [h1], ⟨?_, .inr ⟨g, c, cur.setIfInBounds (k * 2 + 1) nv, by rw [List.length_set], hb, Blk.set_ (t := t) (cs := cur) hh (k * 2 + 1) nv, by rw [List.length_set]; exact hnc, hcm, by simpa using hcs, ?_⟩⟩, fun j y hy => ?_⟩
  · rw [flatten_set2 ess k _ _ nv hall e1, List.length_set, List.length_set, h2.1]
  · rw [flatten_set2 ess k _ _ nv hall e1, List.length_set, Array.toList_setIfInBounds, List.take_set, htk]
  · rw [List.getElem?_set] at hy
    have hlen : ess.length = l.length := h1
    by_cases e : k = j
    · subst e
      rw [if_pos rfl, if_pos hk] at hy
      injection hy with hy; subst hy
      refine ⟨[.int .i64 x.res, nv], by rw [List.getElem?_set_self (by omega)], rfl, nv, rfl, ?_⟩
      exact RRefs.ok.mono hr (fun b hb => ⟨hb.1, by rw [hsz]; exact hb.2.1, fun e => hb.2.2 (by simpa [Value.ownBlock] using e.symm)⟩) (fun b hb => Below.heap_setCell w ⟨g, k * 2 + 1, none⟩ nv b hb.2.2)
    · rw [if_neg e] at hy
      obtain ⟨es, f1, f2, f3⟩ := h3 j y hy
      refine ⟨es, by rw [List.getElem?_set_ne e]; exact f1, f2, ?_⟩
      exact ROrder.ok.mono f3 (fun b hb => ⟨hb.1, by rw [hsz]; exact hb.2.1, hb.2.2⟩) (fun b hb => Below.heap_setCell w ⟨g, k * 2 + 1, none⟩ nv b (hS b hb))

end Go.Proofs.Ytigmldildefdgaa
