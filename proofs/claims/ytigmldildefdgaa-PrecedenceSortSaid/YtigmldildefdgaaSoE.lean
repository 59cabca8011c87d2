/- The lists that Sort fills, in memory. Conditions: as each theorem says. -/
import Derived.Test.YtigmldildefdgaaSoM
import Derived.Test.YtigmldildefdgaaSoC
import Derived.Test.YtigmldildefdgaaLaw35c
import Derived.Deep.MidRow
namespace Go.Proofs.Ytigmldildefdgaa
open Go.RowKit

/-- the lists under construction: world w2 is the one in which the array was made, in block B -/
structure LsInv (w2 wr : World) (B : Nat) (vs : List Value) (pre : List (Int × Ref)) : Prop where
  k : Keeps (fun b => b = B) w2 wr
  rows : Rows 133 48 2 RRef wr w2.heap.size B vs (lsOf pre)
theorem LsInv.keep {w2 wr w' : World} {B : Nat} {vs : List Value} {pre : List (Int × Ref)} (h : LsInv w2 wr B vs pre) (k : KeepsAll wr w') : LsInv w2 w' B vs pre :=
  ⟨h.k.trans k (fun _ _ h => h.elim), h.rows.keeps RRef.flat k (by simp) (by simp)⟩
theorem LsInv.lt {w2 wr : World} {B : Nat} {vs : List Value} {pre : List (Int × Ref)} (h : LsInv w2 wr B vs pre) : B < w2.heap.size ∧ w2.heap.size ≤ wr.heap.size := ⟨h.rows.nb, h.k.size⟩
theorem lsAt_le (pre : List (Int × Ref)) (r : Int) : (lsAt pre r).length ≤ pre.length := by
  unfold lsAt; rw [List.length_map]; exact List.length_filter_le _ _
theorem LsInv.row {w2 wr : World} {B : Nat} {vs : List Value} {pre : List (Int × Ref)} (h : LsInv w2 wr B vs pre) {n : Nat} (hn : n < 144) :
    ∃ Ar cr, vs[n]? = some (.slice Ar (lsAt pre (n : Int)).length cr) ∧ OwnL 48 2 RRef wr w2.heap.size w2.heap.size (.slice Ar (lsAt pre (n : Int)).length cr) (lsAt pre (n : Int)) ∧ wr.cell? ⟨B, n, none⟩ = some (.slice Ar (lsAt pre (n : Int)).length cr) ∧ wr.frozen? ⟨B, n, none⟩ = false ∧ (lsAt pre (n : Int)).length ≤ cr ∧ cr ≤ 9223372036854775807 := by
  obtain ⟨v, l, hv, hl, ho, hc, hf⟩ := h.rows.get (i := n) (by rw [lsOf_len]; exact hn)
  rw [lsOf_at pre hn] at hl
  injection hl with hl
  subst hl
  obtain ⟨A, c, rfl, h1, h2⟩ := ho.form
  exact ⟨A, c, hv, ho, hc, hf, h1, h2⟩
theorem LsInv.push {w2 wr w' : World} {B : Nat} {vs : List Value} {pre : List (Int × Ref)} (h : LsInv w2 wr B vs pre) {n : Nat} (hn : n < 144) {v v' : Value} {u : Ref} (hv : vs[n]? = some v)
    (ho : OwnL 48 2 RRef w' w2.heap.size w2.heap.size v' (lsAt pre (n : Int) ++ [u])) (hk : Keeps (fun b => v.ownBlock = some b) wr w') (hA : v'.ownBlock = v.ownBlock ∨ v'.ownBlock = some wr.heap.size) :
    LsInv w2 (w'.setCell ⟨B, n, none⟩ v') B (vs.set n v') (pre ++ [((n : Int), u)]) := by
  have hr := h.rows.push RRef.flat hv (lsOf_at pre hn) h.k.size ho hk hA
  rw [← lsOf_push pre hn u] at hr
  have hown := h.rows.own n v _ hv (lsOf_at pre hn)
  exact ⟨(h.k.trans hk (fun x hx e => by have := hown.lt e; omega)).setCell (p := ⟨B, n, none⟩) (fun _ => rfl) _, hr⟩
theorem lists_nil : (List.replicate 144 (Value.slice none 0 0)).toArray = Try.zeroCells133 := by rfl
theorem LsInv.new (wr : World) : LsInv (wr.alloc (.cells Try.zeroCells133 133)) (wr.alloc (.cells Try.zeroCells133 133)) wr.heap.size (List.replicate 144 (.slice none 0 0)) [] := by
  refine ⟨Keeps.refl _ _, ?_⟩
  rw [lsOf_nil]
  refine Rows.new 144 ?_ (by simp)
  rw [lists_nil]
  exact Blk.new _ _ _
theorem stAdds_le {s : Stage} (h : stageOk s = true) (t k : Nat) : (stAdds t k s).length ≤ 3 := by
  simp only [stageOk, Bool.and_eq_true, decide_eq_true_eq] at h
  unfold stAdds stUses
  have := h.1.1.2
  simp; omega
theorem pAdds_le (t : Nat) : ∀ (p : List Stage) (n : Nat), (∀ s ∈ p, stageOk s = true) → n ≤ p.length → (pAdds t (p.take n)).length ≤ 3 * n
  | p, 0, _, _ => by simp [pAdds]
  | p, n + 1, h, hn => by
    have hs : p[n]? = some p[n] := List.getElem?_eq_getElem (by omega)
    rw [pAdds_succ t hs, List.length_append]
    have h1 := pAdds_le t p n h (by omega)
    have h2 := stAdds_le (h _ (List.getElem_mem (by omega : n < p.length))) t n
    omega
theorem aAdds_le : ∀ (ps : List (List Stage)) (n : Nat), (∀ p ∈ ps, p.length ≤ 64 ∧ ∀ s ∈ p, stageOk s = true) → n ≤ ps.length → (aAdds (ps.take n)).length ≤ 192 * n
  | ps, 0, _, _ => by simp [aAdds]
  | ps, n + 1, h, hn => by
    have hp : ps[n]? = some ps[n] := List.getElem?_eq_getElem (by omega)
    rw [aAdds_succ hp, List.length_append]
    have h1 := aAdds_le ps n h (by omega)
    obtain ⟨a, b⟩ := h _ (List.getElem_mem (by omega : n < ps.length))
    have h2 := pAdds_le n ps[n] ps[n].length b (Nat.le_refl _)
    rw [List.take_length] at h2
    omega
theorem stageOk_secN {s : Stage} (h : stageOk s = true) : ∃ n : Nat, s.sec = (n : Int) ∧ n < 144 := by
  simp only [stageOk, isRes, Bool.and_eq_true, decide_eq_true_eq] at h
  have h1 := h.1.1.1
  exact ⟨s.sec.toNat, by omega, by omega⟩
theorem stageOk_pt {s : Stage} (h : stageOk s = true) {x : Int} (hx : x ∈ s.pts) : ∃ n : Nat, x = (n : Int) ∧ n < 144 := by
  simp only [stageOk, Bool.and_eq_true, decide_eq_true_eq] at h
  have h1 := ptsFrom_res _ _ h.1.2 x hx
  simp only [isRes, Bool.and_eq_true, decide_eq_true_eq] at h1
  exact ⟨x.toNat, by omega, by omega⟩
def ptAdds (t k : Nat) (l : List Int) : List (Int × Ref) := l.map fun r => (r, (⟨(t : Int), (k : Int)⟩ : Ref))
theorem ptAdds_succ (t k : Nat) {l : List Int} {m : Nat} {x : Int} (h : l[m]? = some x) : ptAdds t k (l.take (m + 1)) = ptAdds t k (l.take m) ++ [(x, ⟨(t : Int), (k : Int)⟩)] := by
  unfold ptAdds; rw [List.take_add_one, h]; simp
theorem stAdds_eq (t k : Nat) (s : Stage) : stAdds t k s = (s.sec, (⟨(t : Int), (k : Int)⟩ : Ref)) :: ptAdds t k s.pts := rfl

/-- an order whose uses lie in a list of values -/
def ROV (vs : List Value) : Rd Order := fun _ _ cs o => ∃ n : Nat, o.res = (n : Int) ∧ ∃ v, vs[n]? = some v ∧ cs = [.int .i64 (n : Int), v]
theorem ROV.flat (vs : List Value) : Rd.Flat (ROV vs) := fun _ _ _ _ _ _ h => h
theorem ROV.ok (vs : List Value) : Rd.Ok (ROV vs) := ⟨fun h _ _ => h⟩
theorem ordersTo_memN {ps : List (List Stage)} {en : List (List Int)} : ∀ {n : Nat} {o : Order}, o ∈ ordersTo ps en n → ∃ r : Nat, r < n ∧ o = ⟨(r : Int), sortR en (allU ps r)⟩
  | 0, o, h => by simp [ordersTo] at h
  | n + 1, o, h => by
    rw [ordersTo, List.mem_append] at h
    rcases h with h | h
    · obtain ⟨r, h1, h2⟩ := ordersTo_memN h
      exact ⟨r, by omega, h2⟩
    · split at h
      · simp at h; exact ⟨n, by omega, h⟩
      · simp at h
/-- the rows while they are sorted: those below r are; w3: the world before the first of them -/
structure FRows (w2 w3 wr : World) (en : List (List Int)) (ps : List (List Stage)) (vs : List Value) (r : Nat) : Prop where
  k : Keeps (fun b => w2.heap.size ≤ b ∧ b < w3.heap.size) w3 wr
  len : vs.length = 144
  own : ∀ (i : Nat) u b, vs[i]? = some u → u.ownBlock = some b → w2.heap.size ≤ b ∧ b < w3.heap.size
  ne : ∀ (i j : Nat) u v b, i ≠ j → vs[i]? = some u → vs[j]? = some v → u.ownBlock = some b → v.ownBlock ≠ some b
  todo : ∀ (i : Nat) u, r ≤ i → vs[i]? = some u → OwnL 48 2 RRef wr w2.heap.size w2.heap.size u (allU ps i)
  done : ∀ (i : Nat) u, i < r → vs[i]? = some u → RRefs wr (fun b => u.ownBlock = some b) [u] (sortR en (allU ps i))
section
variable {w2 w3 wr w' : World} {en : List (List Int)} {ps : List (List Stage)} {vs : List Value} {r : Nat}
theorem LsInv.rowsF {B : Nat} (h : LsInv w2 w3 B vs (aAdds ps)) (hv : valid ps = true) : FRows w2 w3 w3 en ps vs 0 := by
  have hat : ∀ (i : Nat) u, vs[i]? = some u → OwnL 48 2 RRef w3 w2.heap.size w2.heap.size u (allU ps i) := fun i u hu => by
    have hi : i < 144 := by have := getElem?_lt hu; have h2 := h.rows.len; rw [lsOf_len] at h2; omega
    rw [← lsAt_all hv]
    exact h.rows.own i u _ hu (lsOf_at _ hi)
  exact ⟨Keeps.refl _ _, by rw [h.rows.len, lsOf_len], fun i u b hu hb => (hat i u hu).lt hb, h.rows.ne, fun i u _ hu => hat i u hu, fun i u hi => by omega⟩
theorem FRows.keep (h : FRows w2 w3 wr en ps vs r) {C : Foot} (k : Keeps C wr w') (hC : ∀ b, C b → w3.heap.size ≤ b) : FRows w2 w3 w' en ps vs r := by
  have hz := h.k.size
  refine ⟨h.k.trans k (fun x hx hc => by have := hC x hc; omega), h.len, h.own, h.ne, fun i u hi hu => (h.todo i u hi hu).keepsF RRef.flat k (fun b hb hc => by have := h.own i u b hu hb; have := hC b hc; omega), fun i u hi hu => ?_⟩
  exact k.rd RRefs.ok (h.done i u hi hu) (fun b hb => ⟨by have := h.own i u b hu hb; omega, fun hc => by have := h.own i u b hu hb; have := hC b hc; omega⟩) (fun _ h => h)
theorem RfAt.read {w : World} {g : Nat} {l : List Ref} {c : Nat} {S : Foot} (h : RfAt w g 0 l) (h1 : l.length ≤ c) (h2 : c ≤ 9223372036854775807) (hS : S g) : RRefs w S [.slice (some ⟨g, 0, none⟩) l.length c] l := by
  refine ⟨_, c, rfl, h1, h2, fun _ => ⟨g, 0, rfl, hS, fun j x hx => ⟨[.int .i64 x.tr, .int .i64 x.st], rfl, rfl, fun i u hu => ?_⟩⟩⟩
  obtain ⟨a, b⟩ := h j x hx
  rcases i with _ | _ | i
  · simp at hu; subst hu; simpa using a
  · simp at hu; subst hu; simpa [Nat.add_assoc] using b
  · simp at hu
theorem RRefs.rfAt {w : World} {g n : Nat} {l : List Ref} {c : Nat} {S : Foot} (h : RRefs w S [.slice (some ⟨g, 0, none⟩) n c] l) : RfAt w g 0 l := by
  intro k u hk
  obtain ⟨b, o, u', es, e, hb, hx, h1, h2, h3⟩ := h.get (getElem?_lt hk)
  injection e with e; injection e with e1 e2; subst e1 e2
  rw [hk] at hx; injection hx with hx; subst hx
  cases h2
  exact ⟨by simpa using h3 0 _ rfl, by simpa [Nat.add_assoc] using h3 1 _ rfl⟩
theorem FRows.sorted (h : FRows w2 w3 wr en ps vs r) {g c : Nat} {l : List Ref} (hu : vs[r]? = some (.slice (some ⟨g, 0, none⟩) (allU ps r).length c)) (k : Keeps (fun b => b = g) wr w') (hl : l = sortR en (allU ps r)) (hf : RfAt w' g 0 l) (h1 : (allU ps r).length ≤ c) (h2 : c ≤ 9223372036854775807) : FRows w2 w3 w' en ps vs (r + 1) := by
  subst hl
  have hz := h.k.size
  have ho := h.own r _ g hu rfl
  have hn : (sortR en (allU ps r)).length = (allU ps r).length := (sortR_perm en _).length_eq
  refine ⟨h.k.trans k (fun x hx hc => by subst hc; exact ho), h.len, h.own, h.ne, fun i u hi hu' => ?_, fun i u hi hu' => ?_⟩
  · exact (h.todo i u (by omega) hu').keepsF RRef.flat k (fun b hb hc => by subst hc; exact h.ne i r u _ b (by omega) hu' hu hb rfl)
  · by_cases e : i = r
    · subst e
      rw [hu] at hu'; injection hu' with hu'; subst hu'
      have := hf.read (by rw [hn]; exact h1) h2 (S := fun b => (Value.slice (some ⟨g, 0, none⟩) (allU ps i).length c).ownBlock = some b) rfl
      rw [hn] at this
      exact this
    · exact k.rd RRefs.ok (h.done i u (by omega) hu') (fun b hb => ⟨by have := h.own i u b hu' hb; omega, fun hc => by subst hc; exact h.ne i r u _ b e hu' hu hb rfl⟩) (fun _ h => h)
theorem FRows.empty (h : FRows w2 w3 wr en ps vs r) (he : (allU ps r).length = 0) : FRows w2 w3 wr en ps vs (r + 1) := by
  refine ⟨h.k, h.len, h.own, h.ne, fun i u hi hu => h.todo i u (by omega) hu, fun i u hi hu => ?_⟩
  by_cases e : i = r
  · subst e
    have h1 := h.todo i u (Nat.le_refl _) hu
    have e1 : allU ps i = [] := List.eq_nil_of_length_eq_zero he
    rw [e1] at h1 ⊢
    exact h1.readF RRef.ok RRef.flat (fun b hb => hb)
  · exact h.done i u (by omega) hu
theorem FRows.orders (h : FRows w2 w3 wr en ps vs 144) {v : Value} (ho : OwnL 45 2 (ROV vs) wr w3.heap.size w3.heap.size v (ordersTo ps en 144)) : ROrders wr (Old wr) [v] (ordersTo ps en 144) := by
  have hz := h.k.size
  obtain ⟨A, c, he, h1, h2, h3⟩ := ho.readF (ROV.ok vs) (ROV.flat vs) (S := Old wr) (fun b hb => (ho.lt hb).2)
  refine ⟨A, c, he, h1, h2, fun hp => ?_⟩
  obtain ⟨b, o, hA, hb, hx⟩ := h3 hp
  refine ⟨b, o, hA, hb, fun j x hj => ?_⟩
  obtain ⟨es, e1, e2, e3⟩ := hx j x hj
  refine ⟨es, e1, ?_, e3⟩
  obtain ⟨n, hn, u, hu, rfl⟩ := e2
  obtain ⟨n', hn', rfl⟩ := ordersTo_memN (List.mem_of_getElem? hj)
  obtain rfl : n' = n := by have : (n' : Int) = (n : Int) := hn; omega
  have hd := h.done n' u hn' hu
  exact ⟨u, rfl, RRefs.ok.mono (S' := Old wr) hd (fun b hb => by have := h.own n' u b hu hb; show b < wr.heap.size; omega) (fun _ _ => rfl)⟩
end

theorem allU_le4 (r : Int) : ∀ (ps : List (List Stage)) (n : Nat), (∀ p ∈ ps, p.length ≤ 4) → n ≤ ps.length → (allU (ps.take n) r).length ≤ 4 * n
  | ps, 0, _, _ => by simp [allU]
  | ps, n + 1, h, hn => by
    have hp : ps[n]? = some ps[n] := List.getElem?_eq_getElem (by omega)
    have h1 := allU_le4 r ps n h (by omega)
    have h2 := pathAll_le r n ps[n]
    have h3 := h _ (List.getElem_mem (by omega : n < ps.length))
    rw [allU_succ r hp, List.length_append]
    omega
theorem psMade.uses {ps : List (List Stage)} (h : psMade ps) (r : Int) : (allU ps r).length ≤ 12 := by
  have h1 := allU_le4 r ps ps.length (fun p hp => (h.2.2 p hp).2.1) (Nat.le_refl _)
  rw [List.take_length] at h1
  have := h.2.1; omega
theorem idx_row (cs : List Value) {n : Nat} {v : Value} (h : cs[n]? = some v) (hn : n < 144) (W : World) : (Instr.index 133 (.agg cs.toArray) (.int .i64 (n : Int))).run Try.prog W = .ok v W := by
  have h1 : (0 : Int) ≤ (n : Int) ∧ (n : Int) < (144 : Nat) := ⟨by omega, by omega⟩
  have hs : (Go.sizeOf 43).run Try.prog W = .ok 1 W := by kernel_rfl
  simp [Instr.index, run_underlying Try.underlying133, asIntOf, Sem.run_bind, h1, hs, part, h, go_sem]
  intro h; omega

end Go.Proofs.Ytigmldildefdgaa
