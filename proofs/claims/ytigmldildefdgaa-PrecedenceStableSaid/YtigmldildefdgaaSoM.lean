/- Insertion by the order (second, train, stage) gives what the reference sorts. No program in sight. The lists of uses that Sort fills, as plain lists. No program in sight. Contracts of Go's cmp.Less, cmp.Compare, cmp.Or at integers, of slices.IsSorted and of math/bits.Len at small numbers. Conditions: as each theorem says. Contracts of Sort's comparison and of Go's insertion sort, at most 12 elements. Conditions: as each theorem says. -/
import Derived.Test.YtigmldildefdgaaSortP
import Derived.Test.YtigmldildefdgaaSortA
import Derived.Test.YtigmldildefdgaaRep
import Derived.BigRegion
namespace Go.Proofs.Ytigmldildefdgaa
open Go.RowKit

def cmpI (a b : Int) : Int := if a < b then -1 else if a > b then 1 else 0
def orI (a b c : Int) : Int := if a ≠ 0 then a else if b ≠ 0 then b else c
def cmpU (en : List (List Int)) (u v : Ref) : Int := orI (cmpI (enAt en u) (enAt en v)) (cmpI u.tr v.tr) (cmpI u.st v.st)
def ltU (en : List (List Int)) (u v : Ref) : Bool := decide (cmpU en u v < 0)
theorem cmpI_neg {a b : Int} : cmpI a b < 0 ↔ a < b := by unfold cmpI; split <;> (try split) <;> omega
theorem cmpI_zero {a b : Int} : cmpI a b = 0 ↔ a = b := by unfold cmpI; split <;> (try split) <;> omega
theorem ltU_iff {en : List (List Int)} {u v : Ref} : ltU en u v = true ↔ enAt en u < enAt en v ∨ enAt en u = enAt en v ∧ Lex u v := by
  unfold ltU cmpU orI Lex
  rw [decide_eq_true_eq]
  by_cases h1 : cmpI (enAt en u) (enAt en v) = 0
  · have h1' := cmpI_zero.1 h1
    rw [if_neg (by simpa using h1)]
    by_cases h2 : cmpI u.tr v.tr = 0
    · have h2' := cmpI_zero.1 h2
      rw [if_neg (by simpa using h2), cmpI_neg]
      omega
    · have h2' : ¬ u.tr = v.tr := fun e => h2 (cmpI_zero.2 e)
      rw [if_pos h2, cmpI_neg]
      omega
  · have h1' : ¬ enAt en u = enAt en v := fun e => h1 (cmpI_zero.2 e)
    rw [if_pos h1, cmpI_neg]
    omega
/-- the place of u by a comparison: from the end on, past those that come later -/
def plK (lt : Ref → Ref → Bool) (u : Ref) (l : List Ref) : Nat → Nat
  | 0 => 0
  | k + 1 => match l[k]? with
    | some v => if lt u v = true then plK lt u l k else k + 1
    | none => k + 1
def plU (lt : Ref → Ref → Bool) (u : Ref) (l : List Ref) : List Ref := l.take (plK lt u l l.length) ++ u :: l.drop (plK lt u l l.length)
def sortB (lt : Ref → Ref → Bool) (l : List Ref) : List Ref := l.foldl (fun acc u => plU lt u acc) []
theorem plK_insK {en : List (List Int)} {u : Ref} {l : List Ref} (h : ∀ v ∈ l, Lex v u) : ∀ k, plK (ltU en) u l k = insK en u l k
  | 0 => rfl
  | k + 1 => by
    unfold plK insK
    cases e : l[k]? with
    | none => rfl
    | some v =>
      simp only []
      have hv := h v (List.mem_of_getElem? e)
      have hiff : ltU en u v = true ↔ enAt en u < enAt en v := by
        rw [ltU_iff]
        constructor
        · rintro (h1 | ⟨h1, h2⟩)
          · exact h1
          · unfold Lex at hv h2; omega
        · exact .inl
      by_cases hc : enAt en u < enAt en v
      · rw [if_pos (hiff.2 hc), if_pos hc]; exact plK_insK h k
      · rw [if_neg (fun h' => hc (hiff.1 h')), if_neg hc]
theorem sortB_snoc (lt : Ref → Ref → Bool) (l : List Ref) (u : Ref) : sortB lt (l ++ [u]) = plU lt u (sortB lt l) := by unfold sortB; rw [List.foldl_append]; rfl
theorem sortB_sortR {en : List (List Int)} : ∀ (l : List Ref), l.Pairwise Lex → sortB (ltU en) l = sortR en l := by
  intro l
  have key : ∀ n, n ≤ l.length → l.Pairwise Lex → sortB (ltU en) (l.take n) = sortR en (l.take n) := by
    intro n
    induction n with
    | zero => intro _ _; rfl
    | succ n ih =>
      intro hn hp
      have hx : l[n]? = some l[n] := List.getElem?_eq_getElem (by omega)
      have ht : l.take (n + 1) = l.take n ++ [l[n]] := by rw [List.take_add_one, hx]; rfl
      rw [ht, sortB_snoc, sortR_snoc, ih (by omega) hp]
      have hb : ∀ v ∈ sortR en (l.take n), Lex v l[n] := fun v hv => by
        have hv2 := (sortR_perm en (l.take n)).mem_iff.1 hv
        have hp2 : (l.take (n + 1)).Pairwise Lex := hp.sublist (List.take_sublist _ _)
        rw [ht, List.pairwise_append] at hp2
        exact hp2.2.2 v hv2 _ (by simp)
      unfold plU insU
      rw [plK_insK hb]
  intro hp
  have := key l.length (Nat.le_refl _) hp
  rwa [List.take_length] at this





def lsAt (pre : List (Int × Ref)) (r : Int) : List Ref := (pre.filter fun q => q.1 == r).map (·.2)
def lsOf (pre : List (Int × Ref)) : List (List Ref) := (List.range 144).map fun r : Nat => lsAt pre (r : Int)
theorem lsOf_len (pre : List (Int × Ref)) : (lsOf pre).length = 144 := by simp [lsOf]
theorem lsOf_at (pre : List (Int × Ref)) {n : Nat} (hn : n < 144) : (lsOf pre)[n]? = some (lsAt pre (n : Int)) := by simp [lsOf, hn]
theorem lsAt_append (a b : List (Int × Ref)) (r : Int) : lsAt (a ++ b) r = lsAt a r ++ lsAt b r := by simp [lsAt]
theorem lsOf_nil : lsOf [] = List.replicate 144 [] := by
  apply List.ext_getElem?
  intro i
  by_cases h : i < 144
  · rw [lsOf_at _ h, List.getElem?_replicate, if_pos h]; rfl
  · rw [List.getElem?_eq_none (by rw [lsOf_len]; omega), List.getElem?_eq_none (by simp; omega)]
theorem lsOf_push (pre : List (Int × Ref)) {n : Nat} (hn : n < 144) (u : Ref) : lsOf (pre ++ [((n : Int), u)]) = (lsOf pre).set n (lsAt pre (n : Int) ++ [u]) := by
  apply List.ext_getElem?
  intro i
  rw [List.getElem?_set]
  by_cases h : i < 144
  · rw [lsOf_at _ h, lsAt_append]
    by_cases e : n = i
    · subst e
      rw [if_pos rfl, if_pos (by rw [lsOf_len]; exact hn)]
      simp [lsAt]
    · rw [if_neg e, lsOf_at _ h]
      have : ((n : Int) == (i : Int)) = false := by simp; omega
      simp [lsAt, this]
  · rw [List.getElem?_eq_none (by rw [lsOf_len]; omega)]
    by_cases e : n = i
    · omega
    · rw [if_neg e, List.getElem?_eq_none (by rw [lsOf_len]; omega)]
def stAdds (t k : Nat) (s : Stage) : List (Int × Ref) := (stUses s).map fun r => (r, (⟨(t : Int), (k : Int)⟩ : Ref))
def pAdds (t : Nat) (p : List Stage) : List (Int × Ref) := p.zipIdx.flatMap fun q => stAdds t q.2 q.1
def aAdds (ps : List (List Stage)) : List (Int × Ref) := ps.zipIdx.flatMap fun q => pAdds q.2 q.1
theorem pAdds_succ (t : Nat) {p : List Stage} {k : Nat} {s : Stage} (h : p[k]? = some s) : pAdds t (p.take (k + 1)) = pAdds t (p.take k) ++ stAdds t k s := by
  unfold pAdds; rw [zipIdx_take_succ h]; simp
theorem aAdds_succ {ps : List (List Stage)} {t : Nat} {p : List Stage} (h : ps[t]? = some p) : aAdds (ps.take (t + 1)) = aAdds (ps.take t) ++ pAdds t p := by
  unfold aAdds; rw [zipIdx_take_succ h]; simp
theorem filter_eq_nodup {l : List Int} (h : l.Nodup) (r : Int) : l.filter (fun x => x == r) = if r ∈ l then [r] else [] := by
  induction l with
  | nil => simp
  | cons a l ih =>
    rw [List.nodup_cons] at h
    rw [List.filter_cons]
    by_cases e : a = r
    · subst e
      rw [if_pos (by simp), ih h.2, if_neg h.1, if_pos (by simp)]
    · rw [if_neg (by simpa using e), ih h.2]
      have : r ∈ a :: l ↔ r ∈ l := by
        rw [List.mem_cons]
        exact ⟨fun h => h.elim (fun h => absurd h.symm e) id, .inr⟩
      by_cases hm : r ∈ l
      · rw [if_pos hm, if_pos (this.2 hm)]
      · rw [if_neg hm, if_neg (fun h => hm (this.1 h))]
theorem lsAt_st {s : Stage} (h : (stUses s).Nodup) (t k : Nat) (r : Int) : lsAt (stAdds t k s) r = if r ∈ stUses s then [⟨(t : Int), (k : Int)⟩] else [] := by
  unfold lsAt stAdds
  rw [List.filter_map, List.map_map]
  have e : ((fun q : Int × Ref => q.1 == r) ∘ fun r' : Int => (r', (⟨(t : Int), (k : Int)⟩ : Ref))) = fun x : Int => x == r := by funext x; rfl
  rw [e, filter_eq_nodup h]
  split <;> simp
theorem lsAt_p (t : Nat) (r : Int) : ∀ (p : List Stage) (n : Nat), (∀ s ∈ p, (stUses s).Nodup) → n ≤ p.length → lsAt (pAdds t (p.take n)) r = pathAll r t (p.take n)
  | p, 0, _, _ => by simp [pAdds, pathAll, lsAt]
  | p, n + 1, h, hn => by
    have hs : p[n]? = some p[n] := List.getElem?_eq_getElem (by omega)
    rw [pAdds_succ t hs, lsAt_append, lsAt_p t r p n h (by omega), pathAll_succ r t hs, lsAt_st (h _ (List.getElem_mem _))]
theorem lsAt_a (r : Int) : ∀ (ps : List (List Stage)) (n : Nat), (∀ p ∈ ps, ∀ s ∈ p, (stUses s).Nodup) → n ≤ ps.length → lsAt (aAdds (ps.take n)) r = allU (ps.take n) r
  | ps, 0, _, _ => by simp [aAdds, allU, lsAt]
  | ps, n + 1, h, hn => by
    have hp : ps[n]? = some ps[n] := List.getElem?_eq_getElem (by omega)
    have h2 := lsAt_p n r ps[n] ps[n].length (h _ (List.getElem_mem _)) (Nat.le_refl _)
    rw [List.take_length] at h2
    rw [aAdds_succ hp, lsAt_append, lsAt_a r ps n h (by omega), allU_succ r hp, h2]
theorem lsAt_all {ps : List (List Stage)} (hv : valid ps = true) (r : Int) : lsAt (aAdds ps) r = allU ps r := by
  have := lsAt_a r ps ps.length (fun p hp s hs => stageOk_nodup (valid_stage hv hp hs)) (Nat.le_refl _)
  rwa [List.take_length] at this





theorem isNaN_any (a : Int) (w : World) : Calls Try.prog 108 #[.int .i64 a] w fun e w' => e = .returned (.bool false) ∧ w = w' := by
  go_enter Try.func108, Try.ntmps108
  go_wp2
  go_ret
  exact ⟨by simp, rfl⟩
theorem Less_any (a b : Int) (w : World) : Calls Try.prog 105 #[.int .i64 a, .int .i64 b] w fun e w' => e = .returned (.bool (decide (a < b))) ∧ w = w' := by
  go_enter Try.func105, Try.ntmps105
  go_wp2_with (go_at_call 108; refine (isNaN_any _ _).mono ?_; rintro e w' ⟨rfl, rfl⟩)
  go_ret
  exact ⟨rfl, rfl⟩
theorem Compare_any (a b : Int) (w : World) : Calls Try.prog 92 #[.int .i64 a, .int .i64 b] w fun e w' => e = .returned (.int .i64 (cmpI a b)) ∧ w = w' := by
  by_cases h1 : a < b
  · have Q : Hid (cmpI a b = -1) := by show _ = _; unfold cmpI; rw [if_pos h1]
    go_enter Try.func92, Try.ntmps92
    go_wp2_with (go_at_call 108; refine (isNaN_any _ _).mono ?_; rintro e w' ⟨rfl, rfl⟩)
    go_ret
    exact ⟨by rw [Q.out]; rfl, rfl⟩
  · by_cases h2 : a > b
    · have Q : Hid (cmpI a b = 1) := by show _ = _; unfold cmpI; rw [if_neg h1, if_pos h2]
      go_enter Try.func92, Try.ntmps92
      go_wp2_with (go_at_call 108; refine (isNaN_any _ _).mono ?_; rintro e w' ⟨rfl, rfl⟩)
      go_ret
      exact ⟨by rw [Q.out]; rfl, rfl⟩
    · have Q : Hid (cmpI a b = 0) := by show _ = _; unfold cmpI; rw [if_neg h1, if_neg h2]
      go_enter Try.func92, Try.ntmps92
      go_wp2_with (go_at_call 108; refine (isNaN_any _ _).mono ?_; rintro e w' ⟨rfl, rfl⟩)
      go_ret
      exact ⟨by rw [Q.out]; rfl, rfl⟩
set_option maxHeartbeats 1000000 in
theorem Or3_any (a b c : Int) (g : Nat) (w : World) (hb : Blk w g 3 #[.int .i64 a, .int .i64 b, .int .i64 c]) : Calls Try.prog 91 #[.slice (some ⟨g, 0, none⟩) 3 3] w fun e w' => e = .returned (.int .i64 (orI a b c)) ∧ w = w' := by
  have e0 := hb.cell 0
  have e1 := hb.cell 1
  have e2 := hb.cell 2
  simp at e0 e1 e2
  have hgl := hb.lt
  clear hb
  go_enter Try.func91, Try.ntmps91
  go_wp2
  go_loop [8] (fun i => ∃ k : Nat, k ≤ 3 ∧ i = .int .i64 (k : Int) ∧ (0 < k → a = 0) ∧ (1 < k → b = 0) ∧ (2 < k → c = 0)) (fun i => 3 - (intOf i).toNat)
  case atStart => exact ⟨0, by omega, rfl, by omega, by omega, by omega⟩
  case round =>
    obtain ⟨k, hk, rfl, ha, hb, hc⟩ := hrel
    have hk4 : k = 0 ∨ k = 1 ∨ k = 2 ∨ k = 3 := by omega
    rcases hk4 with rfl | rfl | rfl | rfl
    · clear ha hb hc
      by_cases g : a = 0
      · have g' : (a != 0) = false := by simpa using g
        have G := Lib.hid g
        clear g
        go_wp2
        go_round
        case rel => exact ⟨1, by omega, by go_num, fun _ => G.out, by omega, by omega⟩
        case measure => simp [intOf]
      · have g' : (a != 0) = true := by simpa using g
        have Q : Hid (orI a b c = a) := by show _ = _; unfold orI; rw [if_pos g]
        clear g
        go_wp2
        go_ret
        exact ⟨by rw [Q.out]; rfl, rfl⟩
    · have HA := Lib.hid (ha (by omega))
      clear ha hb hc
      by_cases g : b = 0
      · have g' : (b != 0) = false := by simpa using g
        have G := Lib.hid g
        clear g
        go_wp2
        go_round
        case rel => exact ⟨2, by omega, by go_num, fun _ => HA.out, fun _ => G.out, by omega⟩
        case measure => simp [intOf]
      · have g' : (b != 0) = true := by simpa using g
        have Q : Hid (orI a b c = b) := by show _ = _; unfold orI; rw [if_neg (by simpa using HA.out), if_pos g]
        clear g
        go_wp2
        go_ret
        exact ⟨by rw [Q.out]; rfl, rfl⟩
    · have HA := Lib.hid (ha (by omega))
      have HB := Lib.hid (hb (by omega))
      clear ha hb hc
      by_cases g : c = 0
      · have g' : (c != 0) = false := by simpa using g
        have G := Lib.hid g
        clear g
        go_wp2
        go_round
        case rel => exact ⟨3, by omega, by go_num, fun _ => HA.out, fun _ => HB.out, fun _ => G.out⟩
        case measure => simp [intOf]
      · have g' : (c != 0) = true := by simpa using g
        have Q : Hid (orI a b c = c) := by show _ = _; unfold orI; rw [if_neg (by simpa using HA.out), if_neg (by simpa using HB.out)]
        clear g
        go_wp2
        go_ret
        exact ⟨by rw [Q.out]; rfl, rfl⟩
    · have Q : Hid (orI a b c = 0) := by
        show _ = _
        unfold orI
        rw [if_neg (by simpa using ha (by omega)), if_neg (by simpa using hb (by omega))]
        exact hc (by omega)
      clear ha hb hc
      go_wp2
      go_ret
      exact ⟨by rw [Q.out]; rfl, rfl⟩
set_option maxHeartbeats 1000000 in
theorem IsSorted_any (l : List Int) (A : Option Addr) (c : Nat) (w : World) (h : RInts w (Old w) [.slice A l.length c] l) : Calls Try.prog 88 #[.slice A l.length c] w fun e w' => e = .returned (.bool (rowAsc l)) ∧ KeepsAll w w' := by
  have hc := h.caps
  have H := Lib.hid h; clear h
  have hs1 : IntKind.i64.wrap ((l.length : Int) - 1) = (l.length : Int) - 1 := IntWalk.i64_in _ (by omega)
  go_enter Try.func88, Try.ntmps88
  go_wp2
  clear hs1
  go_loopw [3] (fun v wr => ∃ k : Int, -1 ≤ k ∧ k < l.length ∧ v = .int .i64 k ∧ KeepsAll w wr ∧ ∀ (j : Nat) x y, k ≤ (j : Int) → l[j]? = some x → l[j + 1]? = some y → x ≤ y) (fun v _ => (intOf v + 1).toNat)
  case atStart => exact ⟨(l.length : Int) - 1, by omega, by omega, rfl, Keeps.refl _ _, fun j x y hj hx hy => by have := getElem?_lt hy; omega⟩
  case round =>
    obtain ⟨k, hk1, hk2, rfl, hkr, hasc⟩ := hrel
    have KR := Lib.hid hkr
    have HASC := Lib.hid hasc
    clear hkr hasc
    by_cases hlt : 0 < k
    · obtain ⟨j, hj⟩ := Int.eq_ofNat_of_zero_le (by omega : 0 ≤ k - 1)
      obtain rfl : k = (j : Int) + 1 := by omega
      obtain ⟨b, o, x, hbo, hb, hx, q0⟩ := RInts.atK KR.out H.out (k := j) (by omega)
      subst hbo
      obtain ⟨b', o', y, hbo, hb', hy, q1⟩ := RInts.atK KR.out H.out (k := j + 1) (by omega)
      injection hbo with hbo; injection hbo with e1 e2; subst e1 e2
      have hs2 : IntKind.i64.wrap ((j : Int) + 1 - 1) = (j : Int) := by rw [IntWalk.i64_in _ (by omega)]; omega
      have HCL : Hid (∀ xx : Ext wr, Calls Try.prog 105 #[.int .i64 y, .int .i64 x] xx.val fun e w'' => e = .returned (.bool (decide (y < x))) ∧ ∃ z : Ext wr, w'' = z.val) := fun xx => ext_call xx ((Less_any y x xx.val).mono (fun e w' ⟨h1, h2⟩ => ⟨h1, by rw [← h2]; exact Keeps.refl _ _⟩))
      clear hj
      have hjl : j + 1 < l.length := by omega
      go_wp2
      refine wp_region_ext (by kernel_rfl) (by kernel_rfl) ?_
      have y0 := Ext.cell q0
      have y1 := Ext.cell q1
      repeat (go_big_quiet_step ((go_at_call 105; exact HCL.out _)))
      refine wpQuiet_nil ?_
      rintro _ ⟨X, rfl⟩
      have KX := Lib.hid (KR.out.tr X.keeps)
      clear y0 y1 q0 q1 HCL
      generalize X.val = WX at *
      by_cases g : y < x
      · have Q : Hid (rowAsc l = false) := by
          show _ = _
          cases hr : rowAsc l with
          | false => rfl
          | true => have := rowAsc_at l hr j (j + 1) x y (by omega) hx hy; omega
        clear hx hy
        go_wp2
        go_ret
        exact ⟨by rw [Q.out]; rfl, KX.out⟩
      · have Q : Hid (∀ (i : Nat) x y, (j : Int) ≤ (i : Int) → l[i]? = some x → l[i + 1]? = some y → x ≤ y) := fun i x' y' hi hx' hy' => by
          by_cases e : i = j
          · subst e
            rw [hx] at hx'; injection hx' with hx'
            rw [hy] at hy'; injection hy' with hy'
            omega
          · exact HASC.out i x' y' (by omega) hx' hy'
        clear hx hy
        go_wp2
        go_roundw
        case rel => exact ⟨(j : Int), by omega, by omega, by first | rfl | (congr 1; omega) | simp, KX.out, Q.out⟩
        case measure => simp [intOf]; omega
    · have hlt' : decide (k > 0) = false := by simp; omega
      have Q : Hid (rowAsc l = true) := rowAsc_of l (fun j x y hx hy => HASC.out j x y (by omega) hx hy)
      go_wp2
      go_ret
      exact ⟨by rw [Q.out]; rfl, KR.out⟩
set_option maxRecDepth 100000 in
set_option maxHeartbeats 2000000 in
theorem Len64_any (n : Nat) (hn : n ≤ 12) (w : World) : Calls Try.prog 124 #[.int .u64 (n : Int)] w fun e w' => ∃ m : Int, e = .returned (.int .i64 m) ∧ w = w' := by
  have hn13 : n = 0 ∨ n = 1 ∨ n = 2 ∨ n = 3 ∨ n = 4 ∨ n = 5 ∨ n = 6 ∨ n = 7 ∨ n = 8 ∨ n = 9 ∨ n = 10 ∨ n = 11 ∨ n = 12 := by omega
  rcases hn13 with rfl | rfl | rfl | rfl | rfl | rfl | rfl | rfl | rfl | rfl | rfl | rfl | rfl
  all_goals
    go_enter Try.func124, Try.ntmps124
    go_wp2
    go_ret
    exact ⟨_, rfl, rfl⟩
theorem Len_any (n : Nat) (hn : n ≤ 12) (w : World) : Calls Try.prog 107 #[.int .u64 (n : Int)] w fun e w' => ∃ m : Int, e = .returned (.int .i64 m) ∧ w = w' := by
  have HL := Lib.hid (Len64_any n hn w)
  go_enter Try.func107, Try.ntmps107
  go_wp2_with fail
  refine HL.out.mono ?_
  rintro e w' ⟨m, rfl, rfl⟩
  go_wp2
  go_ret
  exact ⟨m, rfl, rfl⟩





/-- a position that enter has -/
def HasEn (en : List (List Int)) (u : Ref) : Prop := ∃ (t k : Nat) (l : List Int) (x : Int), u = ⟨(t : Int), (k : Int)⟩ ∧ en[t]? = some l ∧ l[k]? = some x
set_option maxRecDepth 100000 in
set_option maxHeartbeats 2000000 in
theorem Sort1_any (en : List (List Int)) (u v : Ref) (cb : Nat) (A : Option Addr) (c : Nat) (w : World) (hcb : w.cell? ⟨cb, 0, none⟩ = some (.slice A en.length c)) (h : RIntss w (Old w) [.slice A en.length c] en) (hu : HasEn en u) (hv : HasEn en v) :
    Calls Try.prog 90 #[.agg #[.int .i64 u.tr, .int .i64 u.st], .agg #[.int .i64 v.tr, .int .i64 v.st], .pointer (some ⟨cb, 0, none⟩)] w fun e w' => e = .returned (.int .i64 (cmpU en u v)) ∧ KeepsAll w w' := by
  have hc := h.caps
  obtain ⟨tu, ku, lu, xu, rfl, hlu, hxu⟩ := hu
  obtain ⟨tv, kv, lv, xv, rfl, hlv, hxv⟩ := hv
  have HQ : Hid (cmpU en ⟨(tu : Int), (ku : Int)⟩ ⟨(tv : Int), (kv : Int)⟩ = orI (cmpI xu xv) (cmpI (tu : Int) (tv : Int)) (cmpI (ku : Int) (kv : Int))) := by
    show cmpU _ _ _ = _
    unfold cmpU enAt
    simp [hlu, hxu, hlv, hxv]
  have htu := getElem?_lt hlu
  have htv := getElem?_lt hlv
  have hku := getElem?_lt hxu
  have hkv := getElem?_lt hxv
  obtain ⟨b, o, lu', Au, cu, hbo, hb, hlu', m0, hru⟩ := RSS.at_ h htu
  subst hbo
  obtain rfl := same_of hlu' hlu
  have hcu := hru.caps
  obtain ⟨b2, o2, xu', hbo, hb2, hxu', m1⟩ := RInts.at_ hru hku
  subst hbo
  obtain rfl := same_of hxu' hxu
  obtain ⟨b3, o3, lv', Av, cv, hbo, hb3, hlv', n0, hrv⟩ := RSS.at_ h htv
  injection hbo with hbo; injection hbo with e1 e2; subst e1 e2
  obtain rfl := same_of hlv' hlv
  have hcv := hrv.caps
  obtain ⟨b4, o4, xv', hbo, hb4, hxv', n1⟩ := RInts.at_ hrv hkv
  subst hbo
  obtain rfl := same_of hxv' hxv
  have hcbz : cb < w.heap.size := World.block_lt_of_cell? w ⟨cb, 0, none⟩ hcb
  clear h hru hrv hlu hlv hxu hxv hlu' hlv' hxu' hxv'
  go_enter Try.func90, Try.ntmps90
  go_wp2
  generalize hW : World.alloc (World.alloc w _) _ = W
  have KW : KeepsAll w W := by subst hW; exact ((Keeps.refl _ _).alloc _).alloc _
  have B0 : Blk W w.heap.size 48 #[.int .i64 (tu : Int), .int .i64 (ku : Int)] := by subst hW; exact (Blk.new _ _ _).alloc _
  have B1 : Blk W (w.heap.size + 1) 48 #[.int .i64 (tv : Int), .int .i64 (kv : Int)] := by subst hW; exact Blk.new' _ _ _ (by simp)
  have u0 := B0.cell 0
  have u1 := B0.cell 1
  have v0 := B1.cell 0
  have v1 := B1.cell 1
  simp at u0 u1 v0 v1
  replace hcb := KW.cellK (p := ⟨cb, 0, none⟩) hcbz hcb
  replace m0 := KW.cellK (p := ⟨b, o + tu, none⟩) hb m0
  replace m1 := KW.cellK (p := ⟨b2, o2 + ku, none⟩) hb2 m1
  replace n0 := KW.cellK (p := ⟨b, o + tv, none⟩) hb3 n0
  replace n1 := KW.cellK (p := ⟨b4, o4 + kv, none⟩) hb4 n1
  have hz0 := B0.lt
  have hz1 := B1.lt
  have HKW := Lib.hid KW
  clear hW KW B0 B1 hb hb2 hb3 hb4 hcbz
  refine wp_region_lex (fun w' => ∃ x : Ext W, w' = x.val) [0, 1, 2, 3, 4, 5, 6, 7, 8, 9, 10, 11, 12, 13, 14, 15, 16, 17, 19, 20, 21, 22, 24, 25, 26, 27, 18, 23, 28, 29, 30, 31] (by kernel_rfl) (by kernel_rfl) ⟨⟨_, (Keeps.refl _ _).drew⟩, rfl⟩ ?_
  have x0 := Ext.cell hcb
  have x1 := Ext.cell m0
  have x2 := Ext.cell m1
  have x3 := Ext.cell n0
  have x4 := Ext.cell n1
  have x5 := Ext.cell u0
  have x6 := Ext.cell u1
  have x7 := Ext.cell v0
  have x8 := Ext.cell v1
  iterate 26 (refine lex_q _ rfl rfl rfl ?_; go_big_quiet_step (fail); refine wpQuiet_nil ?_)
  clear x0 x1 x2 x3 x4 x5 x6 x7 x8
  iterate 3 (refine lex_a _ rfl rfl true (by kernel_rfl) ?_; go_wp2_with fail; refine (Compare_any _ _ _).mono ?_; rintro e w' ⟨rfl, rfl⟩; go_wp2; refine ⟨fun _ => ⟨⟨_, (Keeps.refl _ _).drew⟩, rfl⟩, ?_⟩)
  generalize cmpI xu' xv' = ca at *
  generalize cmpI (tu : Int) (tv : Int) = cb' at *
  generalize cmpI (ku : Int) (kv : Int) = cc at *
  refine lex_a _ rfl rfl true (by kernel_rfl) ?_
  go_wp2
  refine ⟨fun _ => ⟨⟨_, ((Keeps.refl _ _).alloc _).drew⟩, rfl⟩, ?_⟩
  generalize hW9 : World.drew (World.alloc W _) = W9
  have KW9 : KeepsAll W W9 := by subst hW9; exact ((Keeps.refl _ _).alloc _).drew
  have B9 : Blk W9 W.heap.size 3 #[.int .i64 ca, .int .i64 cb', .int .i64 cc] := by subst hW9; exact Blk.new _ _ _
  have HOR := Lib.hid (Or3_any ca cb' cc W.heap.size W9 B9)
  have K9 := Lib.hid (HKW.out.tr KW9)
  have HK9 := Lib.hid KW9
  clear hW9 KW9 B9
  refine lex_a _ rfl rfl true (by kernel_rfl) ?_
  go_wp2_with fail
  refine HOR.out.mono ?_
  rintro e w' ⟨rfl, rfl⟩
  go_wp2
  refine ⟨fun _ => ⟨⟨_, HK9.out⟩, rfl⟩, ?_⟩
  refine lex_q _ rfl rfl rfl ?_; go_big_quiet_step (fail); refine wpQuiet_nil ?_
  refine (by assumption : ∀ (a : Act) (w : World), Code.wp Try.prog Code.ret _ a w → _) _ _ ?_
  go_wp2
  go_ret
  exact ⟨by rw [HQ.out]; rfl, K9.out⟩

end Go.Proofs.Ytigmldildefdgaa
