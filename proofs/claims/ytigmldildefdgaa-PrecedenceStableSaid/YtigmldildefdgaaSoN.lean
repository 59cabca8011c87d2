/- The lists that Sort fills, in memory. Conditions: as each theorem says. Contract of precedence.Sort at made paths. Conditions: as the theorem says. -/
import Derived.Test.YtigmldildefdgaaSoM
import Derived.Test.YtigmldildefdgaaSoC
import Derived.Test.YtigmldildefdgaaLaw35c
import Derived.Deep.MidRow
namespace Go.Proofs.Ytigmldildefdgaa
open Go.RowKit

/-- the lists under construction: world w2 is the one in which the array was made, in block B -/
structure LsInv (w2 wr : World) (B : Nat) (vs : List Value) (pre : List (Int × Ref)) : Prop where
  k : Keeps (fun b => b = B) w2 wr
  rows : Rows 133 48 2 RRef wr w2.heap.size B vs (lsOf pre)
theorem LsInv.keep {w2 wr w' : World} {B : Nat} {vs : List Value} {pre : List (Int × Ref)} (h : LsInv w2 wr B vs pre) (k : KeepsAll wr w') : LsInv w2 w' B vs pre :=
  ⟨h.k.trans k (fun _ _ h => h.elim), h.rows.keeps RRef.flat k (by simp) (by simp)⟩
theorem LsInv.lt {w2 wr : World} {B : Nat} {vs : List Value} {pre : List (Int × Ref)} (h : LsInv w2 wr B vs pre) : B < w2.heap.size ∧ w2.heap.size ≤ wr.heap.size := ⟨h.rows.nb, h.k.size⟩
theorem lsAt_le (pre : List (Int × Ref)) (r : Int) : (lsAt pre r).length ≤ pre.length := by
  unfold lsAt; rw [List.length_map]; exact List.length_filter_le _ _
theorem LsInv.row {w2 wr : World} {B : Nat} {vs : List Value} {pre : List (Int × Ref)} (h : LsInv w2 wr B vs pre) {n : Nat} (hn : n < 144) :
    ∃ Ar cr, vs[n]? = some (.slice Ar (lsAt pre (n : Int)).length cr) ∧ OwnL 48 2 RRef wr w2.heap.size w2.heap.size (.slice Ar (lsAt pre (n : Int)).length cr) (lsAt pre (n : Int)) ∧ wr.cell? ⟨B, n, none⟩ = some (.slice Ar (lsAt pre (n : Int)).length cr) ∧ wr.frozen? ⟨B, n, none⟩ = false ∧ (lsAt pre (n : Int)).length ≤ cr ∧ cr ≤ 9223372036854775807 := by
  obtain ⟨v, l, hv, hl, ho, hc, hf⟩ := h.rows.get (i := n) (by rw [lsOf_len]; exact hn)
  rw [lsOf_at pre hn] at hl
  injection hl with hl
  subst hl
  obtain ⟨A, c, rfl, h1, h2⟩ := ho.form
  exact ⟨A, c, hv, ho, hc, hf, h1, h2⟩
theorem LsInv.push {w2 wr w' : World} {B : Nat} {vs : List Value} {pre : List (Int × Ref)} (h : LsInv w2 wr B vs pre) {n : Nat} (hn : n < 144) {v v' : Value} {u : Ref} (hv : vs[n]? = some v)
    (ho : OwnL 48 2 RRef w' w2.heap.size w2.heap.size v' (lsAt pre (n : Int) ++ [u])) (hk : Keeps (fun b => v.ownBlock = some b) wr w') (hA : v'.ownBlock = v.ownBlock ∨ v'.ownBlock = some wr.heap.size) :
    LsInv w2 (w'.setCell ⟨B, n, none⟩ v') B (vs.set n v') (pre ++ [((n : Int), u)]) := by
  have hr := h.rows.push RRef.flat hv (lsOf_at pre hn) h.k.size ho hk hA
  rw [← lsOf_push pre hn u] at hr
  have hown := h.rows.own n v _ hv (lsOf_at pre hn)
  exact ⟨(h.k.trans hk (fun x hx e => by have := hown.lt e; omega)).setCell (p := ⟨B, n, none⟩) (fun _ => rfl) _, hr⟩
theorem lists_nil : (List.replicate 144 (Value.slice none 0 0)).toArray = Try.zeroCells133 := by rfl
theorem LsInv.new (wr : World) : LsInv (wr.alloc (.cells Try.zeroCells133 133)) (wr.alloc (.cells Try.zeroCells133 133)) wr.heap.size (List.replicate 144 (.slice none 0 0)) [] := by
  refine ⟨Keeps.refl _ _, ?_⟩
  rw [lsOf_nil]
  refine Rows.new 144 ?_ (by simp)
  rw [lists_nil]
  exact Blk.new _ _ _
theorem stAdds_le {s : Stage} (h : stageOk s = true) (t k : Nat) : (stAdds t k s).length ≤ 3 := by
  simp only [stageOk, Bool.and_eq_true, decide_eq_true_eq] at h
  unfold stAdds stUses
  have := h.1.1.2
  simp; omega
theorem pAdds_le (t : Nat) : ∀ (p : List Stage) (n : Nat), (∀ s ∈ p, stageOk s = true) → n ≤ p.length → (pAdds t (p.take n)).length ≤ 3 * n
  | p, 0, _, _ => by simp [pAdds]
  | p, n + 1, h, hn => by
    have hs : p[n]? = some p[n] := List.getElem?_eq_getElem (by omega)
    rw [pAdds_succ t hs, List.length_append]
    have h1 := pAdds_le t p n h (by omega)
    have h2 := stAdds_le (h _ (List.getElem_mem (by omega : n < p.length))) t n
    omega
theorem aAdds_le : ∀ (ps : List (List Stage)) (n : Nat), (∀ p ∈ ps, p.length ≤ 64 ∧ ∀ s ∈ p, stageOk s = true) → n ≤ ps.length → (aAdds (ps.take n)).length ≤ 192 * n
  | ps, 0, _, _ => by simp [aAdds]
  | ps, n + 1, h, hn => by
    have hp : ps[n]? = some ps[n] := List.getElem?_eq_getElem (by omega)
    rw [aAdds_succ hp, List.length_append]
    have h1 := aAdds_le ps n h (by omega)
    obtain ⟨a, b⟩ := h _ (List.getElem_mem (by omega : n < ps.length))
    have h2 := pAdds_le n ps[n] ps[n].length b (Nat.le_refl _)
    rw [List.take_length] at h2
    omega
theorem stageOk_secN {s : Stage} (h : stageOk s = true) : ∃ n : Nat, s.sec = (n : Int) ∧ n < 144 := by
  simp only [stageOk, isRes, Bool.and_eq_true, decide_eq_true_eq] at h
  have h1 := h.1.1.1
  exact ⟨s.sec.toNat, by omega, by omega⟩
theorem stageOk_pt {s : Stage} (h : stageOk s = true) {x : Int} (hx : x ∈ s.pts) : ∃ n : Nat, x = (n : Int) ∧ n < 144 := by
  simp only [stageOk, Bool.and_eq_true, decide_eq_true_eq] at h
  have h1 := ptsFrom_res _ _ h.1.2 x hx
  simp only [isRes, Bool.and_eq_true, decide_eq_true_eq] at h1
  exact ⟨x.toNat, by omega, by omega⟩
def ptAdds (t k : Nat) (l : List Int) : List (Int × Ref) := l.map fun r => (r, (⟨(t : Int), (k : Int)⟩ : Ref))
theorem ptAdds_succ (t k : Nat) {l : List Int} {m : Nat} {x : Int} (h : l[m]? = some x) : ptAdds t k (l.take (m + 1)) = ptAdds t k (l.take m) ++ [(x, ⟨(t : Int), (k : Int)⟩)] := by
  unfold ptAdds; rw [List.take_add_one, h]; simp
theorem stAdds_eq (t k : Nat) (s : Stage) : stAdds t k s = (s.sec, (⟨(t : Int), (k : Int)⟩ : Ref)) :: ptAdds t k s.pts := rfl

/-- an order whose uses lie in a list of values -/
def ROV (vs : List Value) : Rd Order := fun _ _ cs o => ∃ n : Nat, o.res = (n : Int) ∧ ∃ v, vs[n]? = some v ∧ cs = [.int .i64 (n : Int), v]
theorem ROV.flat (vs : List Value) : Rd.Flat (ROV vs) := fun _ _ _ _ _ _ h => h
theorem ROV.ok (vs : List Value) : Rd.Ok (ROV vs) := ⟨fun h _ _ => h⟩
theorem ordersTo_memN {ps : List (List Stage)} {en : List (List Int)} : ∀ {n : Nat} {o : Order}, o ∈ ordersTo ps en n → ∃ r : Nat, r < n ∧ o = ⟨(r : Int), sortR en (allU ps r)⟩
  | 0, o, h => by simp [ordersTo] at h
  | n + 1, o, h => by
    rw [ordersTo, List.mem_append] at h
    rcases h with h | h
    · obtain ⟨r, h1, h2⟩ := ordersTo_memN h
      exact ⟨r, by omega, h2⟩
    · split at h
      · simp at h; exact ⟨n, by omega, h⟩
      · simp at h
/-- the rows while they are sorted: those below r are; w3: the world before the first of them -/
structure FRows (w2 w3 wr : World) (en : List (List Int)) (ps : List (List Stage)) (vs : List Value) (r : Nat) : Prop where
  k : Keeps (fun b => w2.heap.size ≤ b ∧ b < w3.heap.size) w3 wr
  len : vs.length = 144
  own : ∀ (i : Nat) u b, vs[i]? = some u → u.ownBlock = some b → w2.heap.size ≤ b ∧ b < w3.heap.size
  ne : ∀ (i j : Nat) u v b, i ≠ j → vs[i]? = some u → vs[j]? = some v → u.ownBlock = some b → v.ownBlock ≠ some b
  todo : ∀ (i : Nat) u, r ≤ i → vs[i]? = some u → OwnL 48 2 RRef wr w2.heap.size w2.heap.size u (allU ps i)
  done : ∀ (i : Nat) u, i < r → vs[i]? = some u → RRefs wr (fun b => u.ownBlock = some b) [u] (sortR en (allU ps i))
section
variable {w2 w3 wr w' : World} {en : List (List Int)} {ps : List (List Stage)} {vs : List Value} {r : Nat}
theorem LsInv.rowsF {B : Nat} (h : LsInv w2 w3 B vs (aAdds ps)) (hv : valid ps = true) : FRows w2 w3 w3 en ps vs 0 := by
  have hat : ∀ (i : Nat) u, vs[i]? = some u → OwnL 48 2 RRef w3 w2.heap.size w2.heap.size u (allU ps i) := fun i u hu => by
    have hi : i < 144 := by have := getElem?_lt hu; have h2 := h.rows.len; rw [lsOf_len] at h2; omega
    rw [← lsAt_all hv]
    exact h.rows.own i u _ hu (lsOf_at _ hi)
  exact ⟨Keeps.refl _ _, by rw [h.rows.len, lsOf_len], fun i u b hu hb => (hat i u hu).lt hb, h.rows.ne, fun i u _ hu => hat i u hu, fun i u hi => by omega⟩
theorem FRows.keep (h : FRows w2 w3 wr en ps vs r) {C : Foot} (k : Keeps C wr w') (hC : ∀ b, C b → w3.heap.size ≤ b) : FRows w2 w3 w' en ps vs r := by
  have hz := h.k.size
  refine ⟨h.k.trans k (fun x hx hc => by have := hC x hc; omega), h.len, h.own, h.ne, fun i u hi hu => (h.todo i u hi hu).keepsF RRef.flat k (fun b hb hc => by have := h.own i u b hu hb; have := hC b hc; omega), fun i u hi hu => ?_⟩
  exact k.rd RRefs.ok (h.done i u hi hu) (fun b hb => ⟨by have := h.own i u b hu hb; omega, fun hc => by have := h.own i u b hu hb; have := hC b hc; omega⟩) (fun _ h => h)
theorem RfAt.read {w : World} {g : Nat} {l : List Ref} {c : Nat} {S : Foot} (h : RfAt w g 0 l) (h1 : l.length ≤ c) (h2 : c ≤ 9223372036854775807) (hS : S g) : RRefs w S [.slice (some ⟨g, 0, none⟩) l.length c] l := by
  refine ⟨_, c, rfl, h1, h2, fun _ => ⟨g, 0, rfl, hS, fun j x hx => ⟨[.int .i64 x.tr, .int .i64 x.st], rfl, rfl, fun i u hu => ?_⟩⟩⟩
  obtain ⟨a, b⟩ := h j x hx
  rcases i with _ | _ | i
  · simp at hu; subst hu; simpa using a
  · simp at hu; subst hu; simpa [Nat.add_assoc] using b
  · simp at hu
theorem RRefs.rfAt {w : World} {g n : Nat} {l : List Ref} {c : Nat} {S : Foot} (h : RRefs w S [.slice (some ⟨g, 0, none⟩) n c] l) : RfAt w g 0 l := by
  intro k u hk
  obtain ⟨b, o, u', es, e, hb, hx, h1, h2, h3⟩ := h.get (getElem?_lt hk)
  injection e with e; injection e with e1 e2; subst e1 e2
  rw [hk] at hx; injection hx with hx; subst hx
  cases h2
  exact ⟨by simpa using h3 0 _ rfl, by simpa [Nat.add_assoc] using h3 1 _ rfl⟩
theorem FRows.sorted (h : FRows w2 w3 wr en ps vs r) {g c : Nat} {l : List Ref} (hu : vs[r]? = some (.slice (some ⟨g, 0, none⟩) (allU ps r).length c)) (k : Keeps (fun b => b = g) wr w') (hl : l = sortR en (allU ps r)) (hf : RfAt w' g 0 l) (h1 : (allU ps r).length ≤ c) (h2 : c ≤ 9223372036854775807) : FRows w2 w3 w' en ps vs (r + 1) := by
  subst hl
  have hz := h.k.size
  have ho := h.own r _ g hu rfl
  have hn : (sortR en (allU ps r)).length = (allU ps r).length := (sortR_perm en _).length_eq
  refine ⟨h.k.trans k (fun x hx hc => by subst hc; exact ho), h.len, h.own, h.ne, fun i u hi hu' => ?_, fun i u hi hu' => ?_⟩
  · exact (h.todo i u (by omega) hu').keepsF RRef.flat k (fun b hb hc => by subst hc; exact h.ne i r u _ b (by omega) hu' hu hb rfl)
  · by_cases e : i = r
    · subst e
      rw [hu] at hu'; injection hu' with hu'; subst hu'
      have := hf.read (by rw [hn]; exact h1) h2 (S := fun b => (Value.slice (some ⟨g, 0, none⟩) (allU ps i).length c).ownBlock = some b) rfl
      rw [hn] at this
      exact this
    · exact k.rd RRefs.ok (h.done i u (by omega) hu') (fun b hb => ⟨by have := h.own i u b hu' hb; omega, fun hc => by subst hc; exact h.ne i r u _ b e hu' hu hb rfl⟩) (fun _ h => h)
theorem FRows.empty (h : FRows w2 w3 wr en ps vs r) (he : (allU ps r).length = 0) : FRows w2 w3 wr en ps vs (r + 1) := by
  refine ⟨h.k, h.len, h.own, h.ne, fun i u hi hu => h.todo i u (by omega) hu, fun i u hi hu => ?_⟩
  by_cases e : i = r
  · subst e
    have h1 := h.todo i u (Nat.le_refl _) hu
    have e1 : allU ps i = [] := List.eq_nil_of_length_eq_zero he
    rw [e1] at h1 ⊢
    exact h1.readF RRef.ok RRef.flat (fun b hb => hb)
  · exact h.done i u (by omega) hu
theorem FRows.orders (h : FRows w2 w3 wr en ps vs 144) {v : Value} (ho : OwnL 45 2 (ROV vs) wr w3.heap.size w3.heap.size v (ordersTo ps en 144)) : ROrders wr (Old wr) [v] (ordersTo ps en 144) := by
  have hz := h.k.size
  obtain ⟨A, c, he, h1, h2, h3⟩ := ho.readF (ROV.ok vs) (ROV.flat vs) (S := Old wr) (fun b hb => (ho.lt hb).2)
  refine ⟨A, c, he, h1, h2, fun hp => ?_⟩
  obtain ⟨b, o, hA, hb, hx⟩ := h3 hp
  refine ⟨b, o, hA, hb, fun j x hj => ?_⟩
  obtain ⟨es, e1, e2, e3⟩ := hx j x hj
  refine ⟨es, e1, ?_, e3⟩
  obtain ⟨n, hn, u, hu, rfl⟩ := e2
  obtain ⟨n', hn', rfl⟩ := ordersTo_memN (List.mem_of_getElem? hj)
  obtain rfl : n' = n := by have : (n' : Int) = (n : Int) := hn; omega
  have hd := h.done n' u hn' hu
  exact ⟨u, rfl, RRefs.ok.mono (S' := Old wr) hd (fun b hb => by have := h.own n' u b hu hb; show b < wr.heap.size; omega) (fun _ _ => rfl)⟩
end

theorem allU_le4 (r : Int) : ∀ (ps : List (List Stage)) (n : Nat), (∀ p ∈ ps, p.length ≤ 4) → n ≤ ps.length → (allU (ps.take n) r).length ≤ 4 * n
  | ps, 0, _, _ => by simp [allU]
  | ps, n + 1, h, hn => by
    have hp : ps[n]? = some ps[n] := List.getElem?_eq_getElem (by omega)
    have h1 := allU_le4 r ps n h (by omega)
    have h2 := pathAll_le r n ps[n]
    have h3 := h _ (List.getElem_mem (by omega : n < ps.length))
    rw [allU_succ r hp, List.length_append]
    omega
theorem psMade.uses {ps : List (List Stage)} (h : psMade ps) (r : Int) : (allU ps r).length ≤ 12 := by
  have h1 := allU_le4 r ps ps.length (fun p hp => (h.2.2 p hp).2.1) (Nat.le_refl _)
  rw [List.take_length] at h1
  have := h.2.1; omega
theorem idx_row (cs : List Value) {n : Nat} {v : Value} (h : cs[n]? = some v) (hn : n < 144) (W : World) : (Instr.index 133 (.agg cs.toArray) (.int .i64 (n : Int))).run Try.prog W = .ok v W := by
  have h1 : (0 : Int) ≤ (n : Int) ∧ (n : Int) < (144 : Nat) := ⟨by omega, by omega⟩
  have hs : (Go.sizeOf 43).run Try.prog W = .ok 1 W := by kernel_rfl
  simp [Instr.index, run_underlying Try.underlying133, asIntOf, Sem.run_bind, h1, hs, part, h, go_sem]
  intro h; omega





set_option maxRecDepth 100000 in
set_option maxHeartbeats 4000000 in
theorem PSort_any (ps : List (List Stage)) (en : List (List Int)) (A A2 : Option Addr) (c c2 : Nat) (w : World) (hm : psMade ps) (h : RPaths w (Old w) [.slice A ps.length c] ps) (h2 : RIntss w (Old w) [.slice A2 en.length c2] en) :
    Calls Try.prog 50 #[.slice A ps.length c, .slice A2 en.length c2] w fun e w' => ∃ v, e = .returned (.tuple #[v, .int .i64 (sortO ps en).2]) ∧ ROrders w' (Old w') [v] (sortO ps en).1 ∧ KeepsAll w w' := by
  have hc := h.caps
  have hc2 := h2.caps
  have hv := hm.valid
  have H := Lib.hid h; clear h
  have H2 := Lib.hid h2; clear h2
  have HV := Lib.hid hv
  have M := Lib.hid hm
  have hps3 := hm.2.1
  clear hm
  by_cases g2 : en.length = ps.length
  · have g2' : ((en.length : Int) != (ps.length : Int)) = false := by simp; omega
    have l1 : en.length ≤ ps.length := by omega
    have l2 : ps.length ≤ en.length := by omega
    have HG2 := Lib.hid g2
    clear g2
    go_enter Try.func50, Try.ntmps50
    go_wp2_with fail
    generalize hW0 : World.alloc w _ = W0
    have KW0 : KeepsAll w W0 := by subst hW0; exact (Keeps.refl _ _).alloc _
    have BE : Hid (Blk W0 w.heap.size 61 #[.slice A2 en.length c2]) := by subst hW0; exact Blk.new _ _ _
    have K0 := Lib.hid KW0
    clear hW0 KW0
    generalize w.heap.size = ze at *
    refine (Valid_any ps A c W0 (K0.out.rdo' RPaths.ok H.out)).mono ?_
    rintro e w1 ⟨rfl, k1⟩
    rw [hv]
    have K1 := Lib.hid (K0.out.tr k1)
    have BE1 := Lib.hid (BE.out.kept k1 (by simp))
    have e0 := BE1.out.cell 0
    simp at e0
    have hze := BE1.out.lt
    clear k1 K0 BE hv
    go_wp2
    clear e0 hze
    go_loopw [30] (fun i wr => ∃ t : Nat, t ≤ ps.length ∧ i = .int .i64 t ∧ KeepsAll w1 wr ∧ ∀ u p l, u < t → ps[u]? = some p → en[u]? = some l → l.length = p.length ∧ rowAsc l = true) (fun i _ => ps.length - (intOf i).toNat)
    case atStart => exact ⟨0, Nat.zero_le _, rfl, Keeps.refl _ _, fun u p l hu => by omega⟩
    case round =>
      obtain ⟨t, ht, rfl, hkr, hall⟩ := hrel
      have HALL := Lib.hid hall; clear hall
      have KR := Lib.hid hkr
      have KT := Lib.hid (K1.out.tr hkr)
      have BER := Lib.hid (BE1.out.kept hkr (by simp))
      clear hkr
      have e0 := BER.out.cell 0
      simp at e0
      have hze := BER.out.lt
      by_cases hlt : t < ps.length
      · obtain ⟨b, o, l, A', c', hbo, hb, hl, k1, hr⟩ := RSS.atK KT.out H2.out (k := t) (by omega)
        subst hbo
        have hcr := hr.caps
        obtain ⟨bp, op, p, Ap, cp, hbo, hbp, hp, p1, hpr⟩ := RSS.atK KT.out H.out (k := t) hlt
        subst hbo
        have hcpp := hpr.caps
        have HL := Lib.hid hl; have HP := Lib.hid hp; have HR := Lib.hid (KT.out.rdo' RInts.ok hr)
        clear hl hp hr hpr
        have BADR : Hid (¬ (l.length = p.length ∧ rowAsc l = true) → sortO ps en = ([], 1)) := fun hn => by
          rcases Bool.eq_false_or_eq_true (sortOk ps en) with e | e
          · simp only [sortOk, Bool.and_eq_true, decide_eq_true_eq] at e
            exact absurd (rowsOk_at ps en e.2 t p l HP.out HL.out) hn
          · unfold sortO; rw [e]; rfl
        by_cases g3 : l.length = p.length
        · have g3' : ((l.length : Int) != (p.length : Int)) = false := by simp; omega
          have G3 := Lib.hid g3; clear g3
          have HS := Lib.hid (IsSorted_any l A' c' wr HR.out)
          clear hcr
          cases hq : rowAsc l with
          | true =>
            rw [hq] at HS
            have Q : Hid (∀ u p l, u < t + 1 → ps[u]? = some p → en[u]? = some l → l.length = p.length ∧ rowAsc l = true) := fun u p' l' hu hp' hl' => by
              by_cases e : u = t
              · subst e
                rw [HP.out] at hp'; injection hp' with hp'; subst hp'
                rw [HL.out] at hl'; injection hl' with hl'; subst hl'
                exact ⟨G3.out, hq⟩
              · exact HALL.out u p' l' (by omega) hp' hl'
            clear hq
            go_wp2_with (go_at_call 88; refine HS.out.mono ?_; rintro e w3 ⟨rfl, k3⟩)
            go_roundw
            case rel => exact ⟨t + 1, by omega, by go_num, KR.out.tr k3, Q.out⟩
            case measure => simp [intOf]; omega
          | false =>
            rw [hq] at HS
            have Q := Lib.hid (BADR.out (fun hh => by rw [hq] at hh; cases hh.2))
            clear hq
            go_wp2_with (go_at_call 88; refine HS.out.mono ?_; rintro e w3 ⟨rfl, k3⟩)
            go_ret2
            rw [Q.out]
            exact ⟨_, rfl, RSlice.mkNil, KT.out.tr k3⟩
        · have g3' : ((l.length : Int) != (p.length : Int)) = true := by simp; omega
          have Q := Lib.hid (BADR.out (fun hh => g3 hh.1))
          clear g3
          go_wp2
          go_ret2
          rw [Q.out]
          exact ⟨_, rfl, RSlice.mkNil, KT.out⟩
      · obtain rfl : t = ps.length := by omega
        have hok : sortOk ps en = true := by
          simp only [sortOk, Bool.and_eq_true, decide_eq_true_eq]
          exact ⟨⟨HV.out, HG2.out⟩, rowsOk_of ps en (fun u p l hp hl => HALL.out u p l (getElem?_lt hp) hp hl)⟩
        have Q : Hid (sortO ps en = (ordersTo ps en 144, 0)) := by show _ = _; unfold sortO; rw [hok]; rfl
        have HOK := Lib.hid hok
        clear hok HALL BE1 K1 e0 hze
        go_wp2
        generalize hW2 : World.alloc wr _ = w2
        have HL0 : Hid (LsInv w2 w2 wr.heap.size (List.replicate 144 (.slice none 0 0)) (aAdds (ps.take 0))) := by subst hW2; exact LsInv.new wr
        have KW2 : Hid (KeepsAll w w2) := by subst hW2; exact KT.out.alloc _
        have BE2 : Hid (Blk w2 ze 61 #[.slice A2 en.length c2]) := by subst hW2; exact BER.out.alloc _
        have hze := BER.out.lt
        have hB2 : w.heap.size ≤ wr.heap.size := KT.out.size
        clear hW2 BER KT KR
        generalize wr.heap.size = B at *
        have HKW : Hid (∀ W, Keeps (fun b => b = B) w2 W → KeepsAll w W) := fun W hW => KW2.out.trans hW (fun x hx e => by omega)
        have HPO : Hid (∀ p ∈ ps, p.length ≤ 64 ∧ ∀ s ∈ p, stageOk s = true) := fun p hp => ⟨((valid_lens HV.out).2 p hp).2, fun s hs => valid_stage HV.out hp hs⟩
        go_loopw [54] (fun i wr => ∃ (t : Nat) (vs : List Value), t ≤ ps.length ∧ i = .int .i64 t ∧ LsInv w2 wr B vs (aAdds (ps.take t))) (fun i _ => ps.length - (intOf i).toNat)
        case atStart => exact ⟨0, _, Nat.zero_le _, rfl, HL0.out⟩
        case round =>
          obtain ⟨t, vs, ht, rfl, hi⟩ := hrel
          clear HL0
          have KR := Lib.hid (HKW.out _ hi.k)
          have HI := Lib.hid hi; clear hi
          by_cases hlt : t < ps.length
          · obtain ⟨b, o, p, A', c', rfl, hb, hp, k1, hr⟩ := RSS.atK KR.out H.out hlt
            have hcp := hr.caps
            obtain ⟨hpl, hst⟩ := HPO.out p (List.mem_of_getElem? hp)
            have hal := aAdds_le ps t HPO.out ht
            have HST := Lib.hid hst
            have HRP := Lib.hid hr
            have HAS := Lib.hid (aAdds_succ hp)
            have HPT := Lib.hid hp
            clear hp hr hst
            have hdt : decide ((t : Int) < (ps.length : Int)) = true := by simp; omega
            go_wp2
            have HI0 : Hid (LsInv w2 wr B vs (aAdds (ps.take t) ++ pAdds t (p.take 0))) := by
              show LsInv _ _ _ _ _
              have e : pAdds t (p.take 0) = [] := rfl
              rw [e, List.append_nil]; exact HI.out
            clear HI
            go_loopw [61] (fun i wr => ∃ (k : Nat) (vs : List Value), k ≤ p.length ∧ i = .int .i64 k ∧ LsInv w2 wr B vs (aAdds (ps.take t) ++ pAdds t (p.take k))) (fun i _ => p.length - (intOf i).toNat)
            case atStart => exact ⟨0, _, Nat.zero_le _, rfl, HI0.out⟩
            case round =>
              obtain ⟨k, vs, hk, rfl, hi⟩ := hrel
              clear HI0
              have KR := Lib.hid (HKW.out _ hi.k)
              by_cases hlt2 : k < p.length
              · obtain ⟨b2, o2, s, As, cs, hbo, hb2, hs, m0, m1, m2, m3, hpts⟩ := RPath.atK KR.out HRP.out hlt2
                subst hbo
                have hsc := hpts.caps
                have HSO := Lib.hid (HST.out s (List.mem_of_getElem? hs))
                obtain ⟨ns, hns, hns2⟩ := stageOk_secN HSO.out
                rw [hns] at m0
                have hpal := pAdds_le t p k HST.out hk
                have HPS := Lib.hid (pAdds_succ t hs)
                have HPTS := Lib.hid hpts
                have HNS := Lib.hid hns
                clear hpts hs hns
                generalize hpre : aAdds (ps.take t) ++ pAdds t (p.take k) = pre at *
                have hprl : pre.length ≤ 192 * t + 3 * k := by rw [← hpre, List.length_append]; omega
                have HPRE := Lib.hid hpre
                clear hpre
                have HI := Lib.hid hi; clear hi
                have hdk : decide ((k : Int) < (p.length : Int)) = true := by simp; omega
                go_wp2
                generalize hWq : World.alloc wr _ = wq
                have KQ : KeepsAll wr wq := by subst hWq; exact (Keeps.refl _ _).alloc _
                have BQ : Hid (Blk wq wr.heap.size 65 #[.int .i64 (ns : Int), .slice As s.pts.length cs, .int .i64 s.mn, .int .i64 s.nt]) := by subst hWq; exact Blk.new _ _ _
                have hqz : wr.heap.size < wq.heap.size := BQ.out.lt
                obtain ⟨Ar, cr, hvs, hown0, hcell0, hfrz0, hcr, hcr2⟩ := HI.out.row hns2
                have hrl := lsAt_le pre (ns : Int)
                have hBl := HI.out.lt
                have hrn : ∀ b, wr.heap.size ≤ b ∨ b < w2.heap.size → ¬ ((Value.slice Ar (lsAt pre (ns : Int)).length cr).ownBlock = some b) := fun b hb e => by have := hown0.lt e; omega
                have HRN := Lib.hid hrn
                have HIQ := Lib.hid (HI.out.keep KQ)
                have HOWN := Lib.hid (hown0.keeps RRef.ok KQ (fun _ _ h => h.elim))
                have hcell := KQ.cellK (p := ⟨B, ns, none⟩) (by show B < _; omega) hcell0
                have HVS := Lib.hid hvs
                have KQ' := Lib.hid (KR.out.tr KQ)
                have z0 := BQ.out.cell 0
                have z1 := BQ.out.cell 1
                simp at z0 z1
                clear hWq KQ hvs hown0 hcell0 hfrz0 hrn m0 m1 m2 m3
                obtain ⟨L, hL⟩ : ∃ L, L = lsAt pre (ns : Int) := ⟨_, rfl⟩
                rw [← hL] at hcr hrl hcell HRN HOWN HVS
                have HL := Lib.hid hL; clear hL
                generalize hq0 : wr.heap.size = q at *
                have HI := HIQ
                refine wp_region_lex (fun w' => ∃ x : ExtC (fun b => (Value.slice Ar L.length cr).ownBlock = some b) wq, w' = x.val) [0, 1, 2, 3, 4, 5, 6, 7, 8, 9, 10, 11, 12] (by kernel_rfl) (by kernel_rfl) (ExtC.start _ _) ?_
                have xc := ExtC.cell (C := fun b => (Value.slice Ar L.length cr).ownBlock = some b) hcell (HRN.out B (.inr hBl.1))
                have xz0 := ExtC.cell (C := fun b => (Value.slice Ar L.length cr).ownBlock = some b) z0 (HRN.out q (.inl (Nat.le_refl _)))
                iterate 9 (refine lex_q _ rfl rfl rfl ?_; go_big_quiet_step (fail); refine wpQuiet_nil ?_)
                refine lex_a _ rfl rfl true (by kernel_rfl) ?_
                go_wp2
                refine ⟨fun _ => ⟨⟨_, ((Keeps.refl _ _).alloc _).drew⟩, rfl⟩, ?_⟩
                generalize hWb : World.drew (World.alloc wq _) = Wb
                have KB : KeepsAll wq Wb := by subst hWb; exact ((Keeps.refl _ _).alloc _).drew
                have HBX : Hid (Blk Wb wq.heap.size 48 [.int .i64 (t : Int), .int .i64 (k : Int)].toArray) := by subst hWb; exact Blk.new wq _ _
                have HIB := Lib.hid (HIQ.out.keep KB)
                have HOB := Lib.hid (HOWN.out.keeps RRef.ok KB (fun _ _ h => h.elim))
                have hzb := HIB.out.lt
                have KB2 := Lib.hid KB
                clear hWb KB
                refine lex_a _ rfl rfl true (by kernel_rfl) ?_
                have hLb : L.length ≤ 1000 := by omega
                go_wp2_with ((at_builtin; refine wpList_append_L tyRef RRef.ok rfl (.tmp 71) (.tmp 75) rfl HOB.out rfl _ [.int .i64 (t : Int), .int .i64 (k : Int)] rfl HBX.out rfl ⟨(t : Int), (k : Int)⟩ (S := fun _ => False) rfl (fun _ h => h.elim) (by simp [Value.oneCell']) (by omega) (by omega) (by omega) ?_; intro v5 w5 HO5 HK5 HA5; obtain ⟨A5, c5, hv5, hv51, hv52⟩ := HO5.form; rw [List.length_append, List.length_singleton] at hv5; subst hv5))
                have HPU := Lib.hid (HIB.out.push hns2 HVS.out (by rw [← HL.out]; exact HO5) HK5 HA5)
                have K5 : Keeps (fun b => (Value.slice Ar L.length cr).ownBlock = some b) wq w5 := (KB2.out.mono (fun _ _ h => h.elim)).trans HK5 (fun _ _ h => h)
                have hc5 : w5.cell? ⟨B, ns, none⟩ = some (.slice Ar L.length cr) := (K5.cell (p := ⟨B, ns, none⟩) (by show B < _; omega) (HRN.out B (.inr hBl.1))).trans hcell
                have hf5 : w5.frozen? ⟨B, ns, none⟩ = false := (HIQ.out.rows.blk.kept K5 (HRN.out B (.inr hBl.1))).frozen ns
                have BQ5 := Lib.hid ((BQ.out.kept K5 (HRN.out q (.inl (Nat.le_refl _)))).far (p := ⟨B, ns, none⟩) (by show _ ≠ B; omega) (.slice A5 (L.length + 1) c5))
                refine ⟨fun _ => ⟨⟨_, K5⟩, rfl⟩, ?_⟩
                clear K5 HO5 HK5 HA5
                refine lex_q _ rfl rfl rfl ?_; go_big_quiet_step (fail); refine wpQuiet_nil ?_
                refine lex_a _ rfl rfl false (by kernel_rfl) ?_
                go_wp2
                (try refine ⟨fun h => (by cases h), ?_⟩)
                refine (by assumption : ∀ (a : Act) (w : World), Code.wp Try.prog (Code.seq (Code.region 17 _ _) _) _ a w → _) _ _ ?_
                generalize hWc : World.setCell w5 _ _ = Wc
                rw [hWc] at HPU BQ5
                have y1 := BQ5.out.cell 1
                simp at y1
                have HPI : Hid (LsInv w2 Wc B (vs.set ns (.slice A5 (L.length + 1) c5)) (pre ++ [((ns : Int), ⟨(t : Int), (k : Int)⟩)] ++ ptAdds t k (s.pts.take 0))) := by
                  show LsInv _ _ _ _ _
                  have e : ptAdds t k (s.pts.take 0) = [] := rfl
                  rw [e, List.append_nil]; exact HPU.out
                have hy5 := BQ5.out.lt
                have hptl := stAdds_le HSO.out t k
                rw [stAdds_eq] at hptl
                have HSQ := Lib.hid (stAdds_eq t k s)
                have hpt2 : s.pts.length ≤ 2 := by unfold ptAdds at hptl; simp at hptl; omega
                clear hWc HPU BQ5 BQ HBX HIB HOB KB2 HIQ HI hc5 hf5 xc xz0 z0 z1 hcell HOWN HVS HL HRN hptl
                generalize hpre2 : pre ++ [((ns : Int), (⟨(t : Int), (k : Int)⟩ : Ref))] = pre2 at *
                have hprl2 : pre2.length ≤ 192 * t + 3 * k + 1 := by rw [← hpre2, List.length_append, List.length_singleton]; omega
                have HPRE2 := Lib.hid hpre2
                clear hpre2
                obtain ⟨wo, hwo⟩ : ∃ wo : World, wo = wr := ⟨_, rfl⟩
                clear hwo
                go_wp2
                clear y1
                go_loopw [81] (fun i wr => ∃ (m : Nat) (vs : List Value), m ≤ s.pts.length ∧ i = .int .i64 m ∧ LsInv w2 wr B vs (pre2 ++ ptAdds t k (s.pts.take m))) (fun i _ => s.pts.length - (intOf i).toNat)
                case atStart => exact ⟨0, _, Nat.zero_le _, rfl, HPI.out⟩
                case round =>
                  obtain ⟨m, vs, hm, rfl, hi⟩ := hrel
                  clear HPI
                  have KR := Lib.hid (HKW.out _ hi.k)
                  by_cases hlt3 : m < s.pts.length
                  · obtain ⟨b4, o4, x, hbo, hb4, hx, q1⟩ := RInts.atK KR.out HPTS.out hlt3
                    subst hbo
                    obtain ⟨nx, rfl, hnx⟩ := stageOk_pt HSO.out (List.mem_of_getElem? hx)
                    have HPX := Lib.hid (ptAdds_succ t k hx)
                    have hpl2 : (ptAdds t k (s.pts.take m)).length ≤ 2 := by unfold ptAdds; simp; omega
                    generalize hpre3 : pre2 ++ ptAdds t k (s.pts.take m) = pre3 at *
                    have hprl3 : pre3.length ≤ 192 * t + 3 * k + 3 := by rw [← hpre3, List.length_append]; omega
                    have HNX : Hid (pre2 ++ ptAdds t k (s.pts.take (m + 1)) = pre3 ++ [((nx : Int), ⟨(t : Int), (k : Int)⟩)]) := by
                      show _ = _
                      rw [HPX.out, ← List.append_assoc, hpre3]
                    clear hx hpre3 HPX
                    obtain ⟨Ar, cr, hvs, hown, hcell, hfrz, hcr, hcr2⟩ := hi.row hnx
                    have hrl := lsAt_le pre3 (nx : Int)
                    have hBl := hi.lt
                    obtain ⟨L3, hL⟩ : ∃ L, L = lsAt pre3 (nx : Int) := ⟨_, rfl⟩
                    rw [← hL] at hcr hrl hcell hown hvs
                    have HL := Lib.hid hL; clear hL
                    have HI := Lib.hid hi; clear hi
                    have HVS := Lib.hid hvs; clear hvs
                    have HOWN := Lib.hid hown; clear hown
                    have hLb : L3.length ≤ 1000 := by omega
                    have hdm : decide ((m : Int) < (s.pts.length : Int)) = true := by simp; omega
                    go_wp2_with (at_builtin; refine wpList_append_L tyRef RRef.ok rfl (.tmp 88) (.tmp 92) rfl (HOWN.out.alloc RRef.ok _) rfl _ [.int .i64 (t : Int), .int .i64 (k : Int)] rfl (Blk.new' _ _ _ (by simp)) rfl ⟨(t : Int), (k : Int)⟩ (S := fun _ => False) rfl (fun _ h => h.elim) (by simp [Value.oneCell']) (by omega) (by omega) (by simp; omega) ?_; intro v7 w7 HO7 HK7 HA7; obtain ⟨A7, c7, hv7, hv71, hv72⟩ := HO7.form; rw [List.length_append, List.length_singleton] at hv7; subst hv7; have HPU := Lib.hid ((HI.out.keep ((Keeps.refl _ _).alloc _)).push hnx HVS.out (by rw [← HL.out]; exact HO7) HK7 HA7); have K7 : ¬ ((Value.slice Ar L3.length cr).ownBlock = some B) := (fun e => (by have := HOWN.out.lt e; omega)); have hc7 : w7.cell? ⟨B, nx, none⟩ = some (.slice Ar L3.length cr) := (HK7.cell (p := ⟨B, nx, none⟩) (by show B < _; simp; omega) K7).trans (((Keeps.refl (fun _ => False) _).alloc _).cellK (p := ⟨B, nx, none⟩) (by show B < _; omega) hcell); have hf7 := (((HI.out.rows.blk.alloc _).kept HK7 K7).frozen nx); clear HO7 HK7 HA7 K7)
                    go_roundw
                    case rel => exact ⟨m + 1, _, by omega, by go_num, by rw [HNX.out]; exact HPU.out⟩
                    case measure => simp [intOf]; omega
                  · obtain rfl : m = s.pts.length := by omega
                    rw [List.take_length] at hi
                    have HF : Hid (LsInv w2 wr B vs (aAdds (ps.take t) ++ pAdds t (p.take (k + 1)))) := by
                      show LsInv _ _ _ _ _
                      rw [HPS.out, HSQ.out, HNS.out, ← List.append_assoc, HPRE.out]
                      have := hi
                      rw [← HPRE2.out, List.append_assoc] at this
                      exact this
                    clear hi
                    go_wp2
                    go_roundw
                    case rel => exact ⟨k + 1, _, by omega, by go_num, HF.out⟩
                    case measure => simp [intOf]; omega
              · obtain rfl : k = p.length := by omega
                rw [List.take_length, ← HAS.out] at hi
                have HI := Lib.hid hi; clear hi
                go_wp2
                go_roundw
                case rel => exact ⟨t + 1, _, by omega, by go_num, HI.out⟩
                case measure => simp [intOf]; omega
          · obtain rfl : t = ps.length := by omega
            rw [List.take_length] at HI
            clear ht
            have hvl : vs.length = 144 := by rw [HI.out.rows.len, lsOf_len]
            have HRG : Hid (World.rangeAt wr B 0 vs) := fun j v hv => by
              rw [Nat.zero_add, HI.out.rows.blk.cell j]; simpa using hv
            have HSZ : Hid ((Try.prog.info? 133).map (·.size) = some vs.length) := by
              show _ = _
              rw [hvl]; kernel_rfl
            have HFR := Lib.hid (HI.out.rowsF (en := en) HV.out)
            have hBl := HI.out.lt
            have BE3 := Lib.hid (BE2.out.kept HI.out.k (by omega))
            clear hvl
            go_wp2_with (refine wpList_load_mid rfl 133 (.tmp 8) rfl B 0 rfl vs (.array 144 43) HRG.out Try.underlying133 rfl HSZ.out ?_)
            clear HRG HSZ HI
            obtain ⟨w3, hw3⟩ : ∃ w3 : World, w3 = wr := ⟨_, rfl⟩
            rw [← hw3] at KR HFR BE3 hBl ⊢
            clear hw3
            have HKW3 : Hid (∀ W, Keeps (fun b => w2.heap.size ≤ b ∧ b < w3.heap.size) w3 W → KeepsAll w W) := fun W hW => KR.out.trans hW (fun x hx e => by omega)
            have HAL : Hid (∀ r : Int, (allU ps r).length ≤ 12) := fun r => M.out.uses r
            go_loopw [15, 99] (fun v vr wr => ∃ r : Nat, r ≤ 144 ∧ vr = .int .i64 r ∧ FRows w2 w3 wr en ps vs r ∧ OwnL 45 2 (ROV vs) wr w3.heap.size w3.heap.size v (ordersTo ps en r)) (fun _ vr _ => 144 - (intOf vr).toNat)
            case atStart => exact ⟨0, by omega, rfl, HFR.out, OwnL.nil⟩
            case round =>
              obtain ⟨r, hr, rfl, hfr, ho⟩ := hrel
              clear HFR
              have KR3 := Lib.hid (HKW3.out _ hfr.k)
              have hol : (ordersTo ps en r).length ≤ 144 := by
                have h1 := congrArg List.length (ordersTo_res ps en r)
                rw [List.length_map] at h1
                have := resTo_le144 ps r; omega
              obtain ⟨Ao, co, rfl, hco, hco2⟩ := ho.form
              have BEr := Lib.hid (BE3.out.kept hfr.k (by omega))
              have hzr := hfr.k.size
              have HF := Lib.hid hfr
              have HO := Lib.hid ho
              clear hfr ho
              by_cases hlt : r < 144
              · have hdr : decide ((r : Int) < 144) = true := by simp; omega
                have hu : vs[r]? = some (vs[r]'(by rw [HF.out.len]; exact hlt)) := List.getElem?_eq_getElem _
                generalize vs[r]'_ = u at hu
                have hown := HF.out.todo r u (Nat.le_refl _) hu
                obtain ⟨Ar, cr, rfl, hcr, hcr2⟩ := hown.form
                have hidx := idx_row vs hu hlt
                have hal := HAL.out (r : Int)
                have HU := Lib.hid hu
                have HOW := Lib.hid hown
                clear hu hown
                by_cases g6 : 0 < (allU ps r).length
                · have HQ2 : Hid (ordersTo ps en (r + 1) = ordersTo ps en r ++ [⟨(r : Int), sortR en (allU ps (r : Int))⟩]) := by show _ = _; rw [ordersTo, if_pos g6]
                  obtain ⟨g, hAg, hgl, hgz, hfz⟩ : ∃ g, Ar = some ⟨g, 0, none⟩ ∧ w2.heap.size ≤ g ∧ g < wr.heap.size ∧ ∀ k, wr.frozen? ⟨g, k, none⟩ = false := by
                    obtain ⟨ess, _, hrow, _⟩ := HOW.out
                    rcases hrow.2 with ⟨_, hn⟩ | ⟨g, cap, cur, he, hb, hh, _⟩
                    · omega
                    · injection he with he
                      exact ⟨g, he, hb, (Array.getElem?_eq_some_iff.1 hh).1, fun k => by simp [World.frozen?, hh]⟩
                  subst hAg
                  have HSF : Hid (Calls Try.prog 89 #[.slice (some ⟨g, 0, none⟩) (allU ps (r : Int)).length cr, .func (.func 90) #[] #[.pointer (some ⟨ze, 0, none⟩)]] wr fun e w' => e = .returned (.tuple #[]) ∧ RfAt w' g 0 (sortR en (allU ps (r : Int))) ∧ Keeps (fun b => b = g) wr w') := by
                    have hEN : ∀ u ∈ allU ps (r : Int), HasEn en u := fun u hu => by
                      obtain ⟨tu, ku, row, e1, e2, e3⟩ := sortOk_en HOK.out (allU_refs hu)
                      exact ⟨tu, ku, row, _, e1, e2, e3⟩
                    have h0 := SortFunc_any 90 ze (cmpU en) g 0 (allU ps (r : Int)) cr wr hal hcr hcr2 (RRefs.rfAt (HOW.out.readF RRef.ok RRef.flat (S := fun _ => True) (fun _ _ => trivial))) hfz hgz (fun _ _ => by kernel_rfl) (fun W hW u hu v hv => Sort1_any en u v ze A2 c2 W (by have := (BEr.out.kept hW (by omega)).cell 0; simpa using this) ((KR3.out.trans hW (fun x hx e => by omega)).rdo' RIntss.ok H2.out) (hEN u hu) (hEN v hv))
                    have e1 : sortB (fun u v => decide (cmpU en u v < 0)) (allU ps (r : Int)) = sortR en (allU ps (r : Int)) := sortB_sortR _ (allU_lex ps r)
                    rw [e1] at h0
                    exact h0
                  have hon : ∀ b, (Value.slice Ao (ordersTo ps en r).length co).ownBlock = some b → w3.heap.size ≤ b := fun b hb => (HO.out.lt hb).1
                  have hg3 := HF.out.own r _ g HU.out rfl
                  have HON := Lib.hid hon
                  have e6 : (((allU ps (r : Int)).length : Int) == 0) = false := by simp; intro h; rw [h] at g6; simp at g6
                  clear hon hfz
                  generalize hOS : ordersTo ps en r = OS at *
                  generalize hAL : allU ps (r : Int) = AL at *
                  have HALE := Lib.hid hAL
                  clear hOS hAL
                  go_wp2_with (first | (go_at_call 89; refine HSF.out.mono ?_; rintro e w4 ⟨rfl, hrf, k4⟩; have HF4 : Hid (FRows w2 w3 w4 en ps vs (r + 1)) := (HF.out.sorted (g := g) (c := cr) (by rw [HALE.out]; exact HU.out) k4 (by rw [HALE.out]) hrf (by rw [HALE.out]; exact hcr) hcr2); have HO4 := Lib.hid (HO.out.keepsF (ROV.flat vs) k4 (fun b hb e => (by have := HON.out b hb; omega))); have hz4 := k4.size; clear hrf k4) | (at_builtin; refine wpList_append_L tyOrder (ROV.ok vs) rfl (.tmp 109) (.tmp 113) rfl (HO4.out.alloc (ROV.ok vs) _) rfl _ [.int .i64 (r : Int), .slice (some ⟨g, 0, none⟩) AL.length cr] rfl (Blk.new' _ _ _ (by simp)) rfl ⟨(r : Int), sortR en AL⟩ (S := fun _ => False) ⟨r, rfl, _, HU.out, rfl⟩ (fun _ h => h.elim) (by simp [Value.oneCell']) (by omega) (by omega) (by simp; omega) ?_; intro v7 w7 HO7 HK7 HA7; obtain ⟨A7, c7, hv7, hv71, hv72⟩ := HO7.form; rw [List.length_append, List.length_singleton] at hv7; subst hv7))
                  go_roundw
                  case rel => exact ⟨r + 1, by omega, by go_num, (HF4.out.keep ((Keeps.refl (fun _ => False) _).alloc _) (fun _ h => h.elim)).keep HK7 HON.out, by rw [HQ2.out]; exact HO7⟩
                  case measure => simp [intOf]; omega
                · have e6 : (allU ps (r : Int)).length = 0 := by omega
                  have HQ2 : Hid (ordersTo ps en (r + 1) = ordersTo ps en r) := by show _ = _; rw [ordersTo, if_neg g6, List.append_nil]
                  have HF2 := Lib.hid (HF.out.empty e6)
                  rw [e6] at hidx
                  go_wp2
                  go_roundw
                  case rel => exact ⟨r + 1, by omega, by go_num, HF2.out, by rw [HQ2.out]; exact HO.out⟩
                  case measure => simp [intOf]; omega
              · obtain rfl : r = 144 := by omega
                go_wp2
                go_ret2
                rw [Q.out]
                exact ⟨_, rfl, HF.out.orders HO.out, KR3.out⟩
  · have Q : Hid (sortO ps en = ([], 1)) := by
      show _ = _
      unfold sortO sortOk
      rw [decide_eq_false g2]; simp
    have g2' : ((en.length : Int) != (ps.length : Int)) = true := by simp; omega
    clear g2
    go_enter Try.func50, Try.ntmps50
    go_wp2_with fail
    generalize hW0 : World.alloc w _ = W0
    have KW0 : KeepsAll w W0 := by subst hW0; exact (Keeps.refl _ _).alloc _
    have BE : Hid (Blk W0 w.heap.size 61 #[.slice A2 en.length c2]) := by subst hW0; exact Blk.new _ _ _
    have K0 := Lib.hid KW0
    clear hW0 KW0
    generalize w.heap.size = ze at *
    refine (Valid_any ps A c W0 (K0.out.rdo' RPaths.ok H.out)).mono ?_
    rintro e w1 ⟨rfl, k1⟩
    rw [hv]
    have K1 := Lib.hid (K0.out.tr k1)
    have BE1 := Lib.hid (BE.out.kept k1 (by simp))
    have e0 := BE1.out.cell 0
    simp at e0
    have hze := BE1.out.lt
    clear k1 K0 BE hv
    go_wp2
    go_ret2
    rw [Q.out]
    exact ⟨_, rfl, RSlice.mkNil, K1.out⟩

end Go.Proofs.Ytigmldildefdgaa
