/- Contracts of the graph's complete and of precedence.Line. Conditions: as each theorem says. Contract of keep.Same at references. Conditions: as the theorem says. The orders that the reference sorts, as plain lists, and that they are valid. No program in sight. -/
import Derived.Test.YtbfgmbakeofcbaaGreatK27
import Derived.Test.YtbfgmbakeofcbaaGreatK17
namespace Go.Proofs.YtbfgmbakeofcbaaGreat
open Go.RowKit

theorem lineFrom_refs {ps : List (List Stage)} {go : List Int → Option Nat} (hs : Sound ps go) : ∀ (f : Nat) (now : List Int), Gd ps now → ∀ u ∈ (lineFrom go f now).1, ∃ (t k : Nat) (p : List Stage), ps[t]? = some p ∧ k ≤ p.length ∧ u = ⟨(t : Int), (k : Int)⟩
  | 0, _, _, u, hu => by simp [lineFrom] at hu
  | f + 1, now, h, u, hu => by
    simp only [lineFrom] at hu
    cases e : go now with
    | none => rw [e] at hu; simp at hu
    | some t =>
      rw [e] at hu
      obtain ⟨h1, h2⟩ := hs now t e
      simp only [List.mem_cons] at hu
      rcases hu with rfl | hu
      · have hp : ps[t]? = some ps[t] := List.getElem?_eq_getElem h1
        have hg := h.2 t h1
        rw [lenAt_of hp] at h2
        obtain ⟨k, hk⟩ := Int.eq_ofNat_of_zero_le (by omega : 0 ≤ nowAt now t + 1)
        exact ⟨t, k, ps[t], hp, by omega, by rw [hk]⟩
      · exact lineFrom_refs hs f _ (h.step h1 h2) u hu
theorem evAt_num {ps : List (List Stage)} {t k : Nat} {p : List Stage} (hp : ps[t]? = some p) (hk : k ≤ p.length) : evAt ps (numI ps ⟨(t : Int), (k : Int)⟩).toNat = ⟨(t : Int), (k : Int)⟩ ∧ num ps ⟨(t : Int), (k : Int)⟩ < (evs ps).length := by
  have e : num ps ⟨(t : Int), (k : Int)⟩ = fst ps t + k := by simp [num]
  refine ⟨?_, ?_⟩
  · unfold numI evAt
    rw [e, Int.toNat_natCast, evs_at hp hk]; rfl
  · have := fst_lt hp (getElem?_lt hp) (Nat.le_refl _)
    rw [fst_len] at this; omega

/-- the program's Line -/
def runP (ps : List (List Stage)) (os : List Order) (at_ : List Int) : List Ref × List Int := lineFrom (readyP ps (arcsOf (evs ps).length (gAdds ps os))) 1000 at_
def okP (ps : List (List Stage)) (os : List Order) (at_ : List Int) : Bool := !((doneL ps (runP ps os at_).2).any fun y => false == y) && agreesB ps at_ (arcsOf (evs ps).length (gAdds ps os))
def lineP (ps : List (List Stage)) (os : List Order) (at_ : List Int) : List Ref × Bool := if (checkO ps os && good ps at_ && okP ps os at_) = true then ((runP ps os at_).1, true) else ([], false)

theorem runP_len {ps : List (List Stage)} {os : List Order} {at_ : List Int} (hv : valid ps = true) (hg : Gd ps at_) : (runP ps os at_).1.length ≤ 650 := by
  have h1 := (lineFrom_inv (readyP_sound ps (arcsOf (evs ps).length (gAdds ps os))) 1000 at_ hg).2.1
  have h2 := total_le hv hg
  unfold runP; omega

set_option maxRecDepth 100000 in
set_option maxHeartbeats 1000000 in
theorem complete_any (w : World) (g : Nat) (ps : List (List Stage)) (os : List Order) (at_ : List Int) (hck : checkO ps os = true) (hgd : Gd ps at_) (hg : GrR w g ps at_ (gAdds ps os)) :
    Calls Tryz.prog 56 #[.pointer (some ⟨g, 0, none⟩)] w fun e w' => ∃ vl, e = .returned (.tuple #[vl, .bool (okP ps os at_)]) ∧ RInts w' (Old w') [vl] ((runP ps os at_).1.map (numI ps)) ∧ KeepsAll w w' := by
  have hv := (checkO_facts hck).1
  have hir := gAdds_range hck
  have HG := Lib.hid hg; clear hg
  have HL := Lib.hid (line_any w g ps at_ (gAdds ps os) hv HG.out hgd hir)
  have HAG : Hid (∀ W, KeepsAll w W → _) := fun W hW => agrees_any W g ps at_ (gAdds ps os) hv (HG.out.keep hW) hgd hir
  clear hir hv hgd hck
  go_enter Tryz.func56, Tryz.ntmps56
  go_wp2_with fail
  refine HL.out.mono ?_
  rintro e w2 ⟨vl, vd, rfl, rl, rd, hk2⟩
  have RL : Hid (RInts w2 (Old w2) [vl] ((runP ps os at_).1.map (numI ps))) := RInts.ok.mono rl (fun b hb => hb.2) (fun _ _ => rfl)
  have RD : Hid (RBools w2 (Old w2) [vd] (doneL ps (runP ps os at_).2)) := RBools.ok.mono rd (fun b hb => hb.2) (fun _ _ => rfl)
  obtain ⟨Al, cl, rfl, _, _⟩ := rl.val
  obtain ⟨Ad, cd, rfl, _, _⟩ := rd.val
  have K2 := Lib.hid hk2
  have HOK : Hid (okP ps os at_ = (!((doneL ps (runP ps os at_).2).any fun y => false == y) && agreesB ps at_ (arcsOf (evs ps).length (gAdds ps os)))) := rfl
  have HAG2 := Lib.hid (HAG.out w2 hk2)
  have HCB := Lib.hid (ContainsBool_any (doneL ps (runP ps os at_).2) false Ad cd w2 (Old w2) RD.out)
  have e1 : (lineFrom (readyP ps (arcsOf (evs ps).length (gAdds ps os))) 1000 at_).2 = (runP ps os at_).2 := rfl
  have e2 : (lineFrom (readyP ps (arcsOf (evs ps).length (gAdds ps os))) 1000 at_).1 = (runP ps os at_).1 := rfl
  rw [e1, e2]
  rw [e2] at RL
  rw [e1] at RD
  generalize hLL : ((runP ps os at_).1.map (numI ps)) = LL at RL ⊢
  have HLL := Lib.hid hLL; clear hLL
  generalize (doneL ps (runP ps os at_).2) = DL at RD HCB HOK ⊢
  clear rl rd hk2 HL HAG e1 e2
  go_wp2_with fail
  refine HCB.out.mono ?_
  rintro e w3 ⟨rfl, rfl⟩
  by_cases g1 : (DL.any fun y => false == y) = true
  · have Q : Hid (okP ps os at_ = false) := by rw [HOK.out, g1]; rfl
    rw [g1]
    clear g1 HOK
    go_wp2
    go_ret2
    exact ⟨_, by rw [Q.out]; rfl, by rw [HLL.out]; exact RL.out, K2.out⟩
  · have g1' : (DL.any fun y => false == y) = false := by simpa using g1
    have Q : Hid (okP ps os at_ = agreesB ps at_ (arcsOf (evs ps).length (gAdds ps os))) := by
      show _ = _
      rw [HOK.out, g1']; rfl
    rw [g1']
    clear g1 g1' HOK
    go_wp2_with fail
    refine HAG2.out.mono ?_
    rintro e w4 ⟨rfl, hk4⟩
    go_wp2
    go_ret2
    exact ⟨_, by rw [Q.out]; rfl, by rw [HLL.out]; exact hk4.rdo' RInts.ok RL.out, K2.out.tr hk4⟩

set_option maxRecDepth 100000 in
set_option maxHeartbeats 1000000 in
theorem Line_any (ps : List (List Stage)) (os : List Order) (at_ : List Int) (A A2 A3 : Option Addr) (c c2 c3 : Nat) (w : World) (h : RPaths w (Old w) [.slice A ps.length c] ps) (h2 : ROrders w (Old w) [.slice A2 os.length c2] os) (h3 : RInts w (Old w) [.slice A3 at_.length c3] at_) :
    Calls Tryz.prog 31 #[.slice A ps.length c, .slice A2 os.length c2, .slice A3 at_.length c3] w fun e w' => ∃ v, e = .returned (.tuple #[v, .bool (lineP ps os at_).2]) ∧ RRefs w' (Old w') [v] (lineP ps os at_).1 ∧ KeepsAll w w' := by
  by_cases g1 : (checkO ps os && good ps at_) = true
  · have g2 := g1
    rw [Bool.and_eq_true] at g2
    obtain ⟨hck, hgd⟩ := g2
    have hG := good_Gd.1 hgd
    have hv := (checkO_facts hck).1
    have HN := Lib.hid (newGraph_yes ps os at_ A A2 A3 c c2 c3 w h h2 h3 hck hgd)
    have HCP : Hid (∀ W g, GrR W g ps at_ (gAdds ps os) → _) := fun W g hW => complete_any W g ps os at_ hck hG hW
    have HRL : Hid (∀ u ∈ (runP ps os at_).1, _) := lineFrom_refs (readyP_sound ps (arcsOf (evs ps).length (gAdds ps os))) 1000 at_ hG
    have hrl := runP_len (os := os) hv hG
    clear h h2 h3 hgd hG hv hck
    by_cases g3 : okP ps os at_ = true
    · have Q : Hid (lineP ps os at_ = ((runP ps os at_).1, true)) := by show _ = _; unfold lineP; rw [g1, g3]; rfl
      clear g1
      go_enter Tryz.func31, Tryz.ntmps31
      go_wp2_with fail
      refine HN.out.mono ?_
      rintro e w1 ⟨g, rfl, hgr, k1⟩
      have K1 := Lib.hid k1
      have HGR := Lib.hid hgr
      clear k1 hgr HN
      go_wp2_with fail
      refine (HCP.out w1 g HGR.out).mono ?_
      rintro e w2 ⟨vl, rfl, rl, k2⟩
      rw [g3]
      have HE : Hid (((runP ps os at_).1.map (numI ps)).map (fun x => evAt ps x.toNat) = (runP ps os at_).1) := by
        show _ = _
        rw [List.map_map]
        conv => rhs; rw [← List.map_id (runP ps os at_).1]
        apply List.map_congr_left
        intro u hu
        obtain ⟨t, k, p, hp, hk, rfl⟩ := HRL.out u hu
        exact (evAt_num hp hk).1
      have HIX : Hid (∀ x ∈ (runP ps os at_).1.map (numI ps), ∃ i : Nat, x = (i : Int) ∧ i < (evs ps).length) := fun x hx => by
        obtain ⟨u, hu, rfl⟩ := List.mem_map.1 hx
        obtain ⟨t, k, p, hp, hk, rfl⟩ := HRL.out u hu
        exact ⟨_, rfl, (evAt_num hp hk).2⟩
      have hLl : ((runP ps os at_).1.map (numI ps)).length ≤ 650 := by rw [List.length_map]; exact hrl
      generalize (runP ps os at_).1.map (numI ps) = LL at rl HE HIX hLl
      obtain ⟨Al, cl, rfl, _, _⟩ := rl.val
      have RL := Lib.hid rl
      have K2 := Lib.hid (K1.out.tr k2)
      have HGR2 := Lib.hid (HGR.out.keep k2)
      clear rl k2 HGR HCP g3
      obtain ⟨v0, v1, v2, v3, v4, hb, _⟩ := HGR2.out
      have HRF := Lib.hid (refs_any w2 g ps at_ _ _ _ _ _ Al cl LL hb RL.out HIX.out (by omega))
      clear hb
      go_wp2_with fail
      refine HRF.out.mono ?_
      rintro e w3 ⟨v, rfl, rv, k3⟩
      rw [HE.out] at rv
      have RV := Lib.hid (RRefs.ok.mono rv (S' := Old w3) (fun b hb => hb.2) (fun _ _ => rfl))
      have K3 := Lib.hid (K2.out.tr k3)
      clear rv k3 HRF
      go_wp2
      go_ret2
      rw [Q.out]
      exact ⟨_, rfl, RV.out, K3.out⟩
    · have g3' : okP ps os at_ = false := by simpa using g3
      have Q : Hid (lineP ps os at_ = ([], false)) := by show _ = _; unfold lineP; rw [g1, g3']; rfl
      clear g1
      go_enter Tryz.func31, Tryz.ntmps31
      go_wp2_with fail
      refine HN.out.mono ?_
      rintro e w1 ⟨g, rfl, hgr, k1⟩
      have K1 := Lib.hid k1
      have HGR := Lib.hid hgr
      clear k1 hgr HN
      go_wp2_with fail
      refine (HCP.out w1 g HGR.out).mono ?_
      rintro e w2 ⟨vl, rfl, rl, k2⟩
      rw [g3']
      have K2 := Lib.hid (K1.out.tr k2)
      clear rl k2 g3 g3'
      go_wp2
      go_ret2
      rw [Q.out]
      exact ⟨_, rfl, RSlice.mkNil, K2.out⟩
  · have g1' : (checkO ps os && good ps at_) = false := by simpa using g1
    have Q : Hid (lineP ps os at_ = ([], false)) := by show _ = _; unfold lineP; rw [g1']; rfl
    have HN := Lib.hid (newGraph_no ps os at_ A A2 A3 c c2 c3 w h h2 h3 g1')
    clear h h2 h3 g1 g1'
    go_enter Tryz.func31, Tryz.ntmps31
    go_wp2_with fail
    refine HN.out.mono ?_
    rintro e w1 ⟨rfl, k1⟩
    have K1 := Lib.hid k1; clear k1
    go_wp2
    go_ret2
    rw [Q.out]
    exact ⟨_, rfl, RSlice.mkNil, K1.out⟩

set_option maxHeartbeats 400000 in
theorem SameRef_any (x y : List Ref) (A A2 : Option Addr) (c c2 : Nat) (w : World) (S S2 : Foot) (h : RRefs w S [.slice A x.length c] x) (h2 : RRefs w S2 [.slice A2 y.length c2] y) :
    Calls Tryz.prog 42 #[.slice A x.length c, .slice A2 y.length c2] w fun e w' => e = .returned (.bool (decide (x = y))) ∧ ∃ n, w' = w.drewN n := by
  have hc := h.caps
  have hc2 := h2.caps
  have H := Lib.hid h; clear h
  have H2 := Lib.hid h2; clear h2
  by_cases g1 : x.length = y.length
  · have g1' : ((x.length : Int) != (y.length : Int)) = false := by simp; omega
    have G1 := Lib.hid g1; clear g1
    have l1 : x.length ≤ y.length := by rw [G1.out]; exact Nat.le_refl _
    have l2 : y.length ≤ x.length := by rw [G1.out]; exact Nat.le_refl _
    go_enter Tryz.func42, Tryz.ntmps42
    go_wp2
    go_loopw [13] (fun i wr => ∃ k : Nat, k ≤ x.length ∧ i = .int .i64 k ∧ x.take k = y.take k ∧ ∃ n, wr = w.drewN n) (fun i _ => x.length - (intOf i).toNat)
    case atStart => exact ⟨0, Nat.zero_le _, rfl, rfl, 0, rfl⟩
    case round =>
      obtain ⟨k, hk, rfl, hinv, n, rfl⟩ := hrel
      have HI := Lib.hid hinv; clear hinv
      by_cases hlt : k < x.length
      · obtain ⟨b, o, u, rfl, _, hu, k1, k1'⟩ := RRefs.at_ H.out hlt
        obtain ⟨b2, o2, v, rfl, _, hv, k2, k2'⟩ := RRefs.at_ H2.out (k := k) (by omega)
        by_cases g2 : u = v
        · have Q : Hid (x.take (k + 1) = y.take (k + 1)) := by
            show x.take (k + 1) = y.take (k + 1)
            rw [List.take_add_one, List.take_add_one, HI.out, hu, hv, g2]
          subst g2
          clear hu hv
          go_wp2
          go_quiet (fail)
          go_wp2
          go_roundw
          case rel => exact ⟨k + 1, by omega, by go_num, Q.out, _, rfl⟩
          case measure => simp [intOf]; omega
        · have Q : Hid (decide (x = y) = false) := by
            show decide (x = y) = false
            simp only [decide_eq_false_iff_not]; rintro rfl
            exact g2 (same_of hu hv)
          have g3 : ¬ (u.tr = v.tr ∧ u.st = v.st) := fun h => g2 (by cases u; cases v; simp_all)
          clear hu hv g2
          by_cases g4 : u.tr = v.tr
          · have g5 : ¬ (u.st = v.st) := fun h => g3 ⟨g4, h⟩
            clear g3
            go_wp2
            go_quiet (fail)
            go_wp2
            go_ret
            exact ⟨by rw [Q.out]; rfl, _, drewNN _ _ _⟩
          · clear g3
            go_wp2
            go_quiet (fail)
            go_wp2
            go_ret
            exact ⟨by rw [Q.out]; rfl, _, drewNN _ _ _⟩
      · have Q : Hid (decide (x = y) = true) := by
          show decide (x = y) = true
          have := HI.out
          rw [List.take_of_length_le (by omega), List.take_of_length_le (by omega)] at this
          simpa using this
        go_wp2
        go_ret
        exact ⟨by rw [Q.out]; rfl, _, rfl⟩
  · have g1' : ((x.length : Int) != (y.length : Int)) = true := by simp; omega
    have Q : Hid (decide (x = y) = false) := by
      show decide (x = y) = false
      simp only [decide_eq_false_iff_not]; rintro rfl; exact g1 rfl
    go_enter Tryz.func42, Tryz.ntmps42
    go_wp2
    go_ret
    exact ⟨by rw [Q.out]; rfl, 0, rfl⟩

def enAt (en : List (List Int)) (u : Ref) : Int := (((en[u.tr.toNat]?).getD [])[u.st.toNat]?).getD 0
/-- the place of u: behind the last element that does not come later -/
def insK (en : List (List Int)) (u : Ref) (l : List Ref) : Nat → Nat
  | 0 => 0
  | k + 1 => match l[k]? with
    | some v => if enAt en u < enAt en v then insK en u l k else k + 1
    | none => k + 1
def insU (en : List (List Int)) (u : Ref) (l : List Ref) : List Ref := l.take (insK en u l l.length) ++ u :: l.drop (insK en u l l.length)
def sortR (en : List (List Int)) (l : List Ref) : List Ref := l.foldl (fun acc u => insU en u acc) []
def ordersTo (ps : List (List Stage)) (en : List (List Int)) : Nat → List Order
  | 0 => []
  | n + 1 => ordersTo ps en n ++ (if 0 < (allU ps n).length then [⟨(n : Int), sortR en (allU ps n)⟩] else [])
def rowAsc : List Int → Bool
  | a :: b :: r => decide (a ≤ b) && rowAsc (b :: r)
  | _ => true
def rowsOk : List (List Stage) → List (List Int) → Bool
  | p :: ps, l :: en => decide (l.length = p.length) && rowAsc l && rowsOk ps en
  | _, _ => true
def sortOk (ps : List (List Stage)) (en : List (List Int)) : Bool := valid ps && decide (en.length = ps.length) && rowsOk ps en
def sortO (ps : List (List Stage)) (en : List (List Int)) : List Order × Int := if sortOk ps en = true then (ordersTo ps en 144, 0) else ([], 1)

theorem insK_le (en : List (List Int)) (u : Ref) (l : List Ref) : ∀ k, insK en u l k ≤ k
  | 0 => Nat.le_refl _
  | k + 1 => by
    simp only [insK]
    split
    · split
      · have := insK_le en u l k; omega
      · exact Nat.le_refl _
    · exact Nat.le_refl _
theorem insK_after {en : List (List Int)} {u : Ref} {l : List Ref} : ∀ k, ∀ (j : Nat) v, insK en u l k ≤ j → j < k → l[j]? = some v → enAt en u < enAt en v
  | 0, j, v, _, h, _ => by omega
  | k + 1, j, v, h1, h2, hv => by
    simp only [insK] at h1
    cases e : l[k]? with
    | none =>
      rw [e] at h1; simp only [] at h1; omega
    | some x =>
      rw [e] at h1
      simp only [] at h1
      by_cases hx : enAt en u < enAt en x
      · rw [if_pos hx] at h1
        by_cases hj : j = k
        · subst hj; rw [e] at hv; injection hv with hv; subst hv; exact hx
        · exact insK_after k j v h1 (by omega) hv
      · rw [if_neg hx] at h1; omega
theorem insU_perm (en : List (List Int)) (u : Ref) (l : List Ref) : (insU en u l).Perm (l ++ [u]) := by
  unfold insU
  have h : (l.take (insK en u l l.length) ++ u :: l.drop (insK en u l l.length)).Perm (l.take (insK en u l l.length) ++ (l.drop (insK en u l l.length) ++ [u])) :=
    List.Perm.append_left _ (by
      have := List.perm_append_comm (l₁ := [u]) (l₂ := l.drop (insK en u l l.length))
      simpa using this)
  rw [← List.append_assoc, List.take_append_drop] at h
  exact h
theorem sortR_snoc (en : List (List Int)) (l : List Ref) (u : Ref) : sortR en (l ++ [u]) = insU en u (sortR en l) := by
  unfold sortR; rw [List.foldl_append]; rfl
theorem sortR_perm (en : List (List Int)) (l : List Ref) : (sortR en l).Perm l := by
  have : ∀ n, n ≤ l.length → (sortR en (l.take n)).Perm (l.take n) := by
    intro n
    induction n with
    | zero => intro _; simp [sortR]
    | succ n ih =>
      intro hn
      have e : l.take (n + 1) = l.take n ++ [l[n]] := by rw [List.take_add_one, List.getElem?_eq_getElem (by omega)]; rfl
      rw [e, sortR_snoc]
      exact (insU_perm en _ _).trans ((ih (by omega)).append_right _)
  have h := this l.length (Nat.le_refl _)
  rwa [List.take_length] at h
/-- u stays behind all that does not come later -/
theorem insU_pw {R : Ref → Ref → Prop} {en : List (List Int)} {u : Ref} {l : List Ref} (h1 : l.Pairwise R) (h2 : ∀ v ∈ l, enAt en v ≤ enAt en u → R v u) (h3 : ∀ v ∈ l, enAt en u < enAt en v → R v u ∧ R u v) : (insU en u l).Pairwise R := by
  unfold insU
  have hk := insK_le en u l l.length
  have ha := insK_after (en := en) (u := u) (l := l) l.length
  generalize insK en u l l.length = k at hk ha
  have hs : (l.take k ++ l.drop k).Pairwise R := by rw [List.take_append_drop]; exact h1
  obtain ⟨s1, s2, s3⟩ := List.pairwise_append.1 hs
  rw [List.pairwise_append]
  refine ⟨s1, List.pairwise_cons.2 ⟨fun v hv => ?_, s2⟩, fun a ha' b hb => ?_⟩
  · obtain ⟨j, hj⟩ := List.mem_iff_getElem?.1 hv
    rw [List.getElem?_drop] at hj
    exact (h3 v (List.mem_of_getElem? hj) (ha (k + j) v (by omega) (getElem?_lt hj) hj)).2
  · rcases List.mem_cons.1 hb with rfl | hb
    · have hm := List.mem_of_mem_take ha'
      by_cases hle : enAt en a ≤ enAt en b
      · exact h2 a hm hle
      · exact (h3 a hm (by omega)).1
    · exact s3 a ha' b hb

/-- rows in ascending order -/
theorem rowAsc_at : ∀ (l : List Int), rowAsc l = true → ∀ (i j : Nat) x y, i ≤ j → l[i]? = some x → l[j]? = some y → x ≤ y
  | [], _, i, j, x, y, _, h, _ => by simp at h
  | [a], _, i, j, x, y, hij, hx, hy => by
    have := getElem?_lt hx; have := getElem?_lt hy
    simp at *
    have hi : i = 0 := by omega
    have hj : j = 0 := by omega
    subst hi hj
    simp at hx hy; omega
  | a :: b :: r, h, i, j, x, y, hij, hx, hy => by
    simp only [rowAsc, Bool.and_eq_true, decide_eq_true_eq] at h
    cases j with
    | zero =>
      obtain rfl : i = 0 := by omega
      rw [hx] at hy; injection hy with hy; omega
    | succ j =>
      cases i with
      | zero =>
        simp at hx; subst hx
        have := rowAsc_at (b :: r) h.2 0 j b y (by omega) (by simp) (by simpa using hy)
        omega
      | succ i => exact rowAsc_at (b :: r) h.2 i j x y (by omega) (by simpa using hx) (by simpa using hy)
theorem rowsOk_at : ∀ (ps : List (List Stage)) (en : List (List Int)), rowsOk ps en = true → ∀ (t : Nat) p l, ps[t]? = some p → en[t]? = some l → l.length = p.length ∧ rowAsc l = true
  | [], _, _, t, p, l, h, _ => by simp at h
  | _ :: _, [], _, t, p, l, _, h => by simp at h
  | q :: ps, m :: en, h, t, p, l, hp, hl => by
    simp only [rowsOk, Bool.and_eq_true, decide_eq_true_eq] at h
    cases t with
    | zero => simp at hp hl; subst hp hl; exact h.1
    | succ t => exact rowsOk_at ps en h.2 t p l (by simpa using hp) (by simpa using hl)
theorem enAt_mono {ps : List (List Stage)} {en : List (List Int)} (hl : en.length = ps.length) (h : rowsOk ps en = true) {t k m : Nat} {p : List Stage} (hp : ps[t]? = some p) (hkm : k ≤ m) (hm : m < p.length) : enAt en ⟨(t : Int), (k : Int)⟩ ≤ enAt en ⟨(t : Int), (m : Int)⟩ := by
  have ht := getElem?_lt hp
  have he : en[t]? = some (en[t]'(by omega)) := List.getElem?_eq_getElem (by omega)
  obtain ⟨h1, h2⟩ := rowsOk_at ps en h t p _ hp he
  unfold enAt
  simp only [Int.toNat_natCast, he, Option.getD_some]
  generalize en[t]'(by omega) = l at h1 h2
  have a1 : l[k]? = some (l[k]'(by omega)) := List.getElem?_eq_getElem (by omega)
  have a2 : l[m]? = some (l[m]'(by omega)) := List.getElem?_eq_getElem (by omega)
  rw [a1, a2]
  exact rowAsc_at l h2 k m _ _ hkm a1 a2
/-- the uses in ascending order -/
def Lex (v u : Ref) : Prop := v.tr < u.tr ∨ v.tr = u.tr ∧ v.st < u.st
theorem pathAll_lex (r : Int) (t : Nat) (p : List Stage) : (pathAll r t p).Pairwise Lex := by
  have : ∀ n, n ≤ p.length → (pathAll r t (p.take n)).Pairwise Lex := by
    intro n
    induction n with
    | zero => intro _; simp [pathAll]
    | succ n ih =>
      intro hn
      rw [pathAll_succ r t (List.getElem?_eq_getElem (by omega) : p[n]? = some p[n]), List.pairwise_append]
      refine ⟨ih (by omega), by split <;> simp, fun a ha b hb => ?_⟩
      split at hb
      · simp at hb; subst hb
        obtain ⟨k, s, hk, _, rfl⟩ := mem_pathAll.1 ha
        have := getElem?_lt hk
        rw [List.length_take] at this
        exact .inr ⟨rfl, by show (k : Int) < (n : Int); omega⟩
      · simp at hb
  have h := this p.length (Nat.le_refl _)
  rwa [List.take_length] at h
theorem allU_lex (ps : List (List Stage)) (r : Int) : (allU ps r).Pairwise Lex := by
  have : ∀ n, n ≤ ps.length → (allU (ps.take n) r).Pairwise Lex := by
    intro n
    induction n with
    | zero => intro _; simp [allU]
    | succ n ih =>
      intro hn
      rw [allU_succ r (List.getElem?_eq_getElem (by omega) : ps[n]? = some ps[n]), List.pairwise_append]
      refine ⟨ih (by omega), pathAll_lex r n _, fun a ha b hb => ?_⟩
      obtain ⟨t, k, p, s, ht, _, _, rfl⟩ := mem_allU.1 ha
      obtain ⟨k', s', _, _, rfl⟩ := mem_pathAll.1 hb
      have := getElem?_lt ht
      rw [List.length_take] at this
      exact .inl (by show (t : Int) < (n : Int); omega)
  have h := this ps.length (Nat.le_refl _)
  rwa [List.take_length] at h
/-- what is sorted keeps the stages of a train in order -/
theorem sortR_before {ps : List (List Stage)} {en : List (List Int)} (hl : en.length = ps.length) (h : rowsOk ps en = true) (r : Int) : (sortR en (allU ps r)).Pairwise Before := by
  have hlex := allU_lex ps r
  have key : ∀ n, n ≤ (allU ps r).length → (sortR en ((allU ps r).take n)).Pairwise Before := by
    intro n
    induction n with
    | zero => intro _; simp [sortR]
    | succ n ih =>
      intro hn
      have hx : (allU ps r)[n]? = some (allU ps r)[n] := List.getElem?_eq_getElem (by omega)
      have e : (allU ps r).take (n + 1) = (allU ps r).take n ++ [(allU ps r)[n]] := by rw [List.take_add_one, hx]; rfl
      rw [e, sortR_snoc]
      have hmem : ∀ v ∈ sortR en ((allU ps r).take n), v ∈ (allU ps r).take n := fun v hv => (sortR_perm en _).mem_iff.1 hv
      have hlx : ∀ v ∈ (allU ps r).take n, Lex v (allU ps r)[n] := fun v hv => by
        obtain ⟨i, hi⟩ := List.mem_iff_getElem?.1 hv
        have hin : i < n := by have := getElem?_lt hi; rw [List.length_take] at this; omega
        rw [List.getElem?_take_of_lt hin] at hi
        have := List.pairwise_iff_getElem.1 hlex i n (by omega) (by omega) hin
        rw [List.getElem?_eq_getElem (by omega : i < (allU ps r).length)] at hi
        injection hi with hi; rw [hi] at this; exact this
      refine insU_pw (ih (by omega)) (fun v hv _ he => ?_) (fun v hv hlt => ?_)
      · rcases hlx v (hmem v hv) with h' | h'
        · omega
        · exact h'.2
      · have hvm := List.mem_of_mem_take (hmem v hv)
        have hum := List.mem_of_getElem? hx
        have hL := hlx v (hmem v hv)
        have hne : v.tr ≠ ((allU ps r)[n]).tr := by
          intro e
          obtain ⟨t, k, p, s, hp, hk, _, hv'⟩ := mem_allU.1 hvm
          obtain ⟨t', k', p', s', hp', hk', _, hu'⟩ := mem_allU.1 hum
          rw [hv', hu'] at e hL hlt
          simp only at e
          have : t = t' := by omega
          subst this
          rw [hp] at hp'; injection hp' with hp'; subst hp'
          rcases hL with hL | hL
          · simp at hL
          · have := enAt_mono hl h hp (by have := hL.2; simp at this; omega : k ≤ k') (getElem?_lt hk')
            omega
        exact ⟨fun e => absurd e hne, fun e => absurd e.symm hne⟩
  have h2 := key (allU ps r).length (Nat.le_refl _)
  rwa [List.take_length] at h2
theorem ordersTo_res (ps : List (List Stage)) (en : List (List Int)) : ∀ n, (ordersTo ps en n).map (·.res) = resTo ps n
  | 0 => rfl
  | n + 1 => by
    rw [ordersTo, resTo, List.map_append, ordersTo_res ps en n]
    congr 1
    by_cases h : (n : Int) ∈ usesAll ps
    · have : allU ps n ≠ [] := fun e => allU_nil_iff.1 e h
      rw [if_pos h, if_pos (List.length_pos_iff.2 this)]; rfl
    · have := allU_nil_iff.2 h
      rw [if_neg h, this]; rfl
theorem ordersTo_mem {ps : List (List Stage)} {en : List (List Int)} {o : Order} : ∀ n, o ∈ ordersTo ps en n → o.uses = sortR en (allU ps o.res)
  | 0, h => by simp [ordersTo] at h
  | n + 1, h => by
    rw [ordersTo, List.mem_append] at h
    rcases h with h | h
    · exact ordersTo_mem n h
    · split at h
      · simp at h; subst h; rfl
      · simp at h
theorem sortO_check {ps : List (List Stage)} {en : List (List Int)} (h : sortOk ps en = true) : checkO ps (ordersTo ps en 144) = true := by
  simp only [sortOk, Bool.and_eq_true, decide_eq_true_eq] at h
  obtain ⟨⟨hv, hl⟩, hr⟩ := h
  simp only [checkO, Bool.and_eq_true, decide_eq_true_eq, List.all_eq_true]
  refine ⟨⟨hv, ordersTo_res ps en 144⟩, fun o ho => ?_⟩
  rw [exactly_proper, Bool.and_eq_true, decide_eq_true_eq, properB_iff, ordersTo_mem 144 ho]
  exact ⟨(sortR_perm en _).length_eq, fun u hu => (sortR_perm en _).mem_iff.1 hu, sortR_before hl hr o.res⟩

end Go.Proofs.YtbfgmbakeofcbaaGreat
