/- Contracts of the graph's complete and of precedence.Line. Conditions: as each theorem says. -/
import Derived.Test.YtigmldildefdgaaLineE
namespace Go.Proofs.Ytigmldildefdgaa
open Go.RowKit

theorem lineFrom_refs {ps : List (List Stage)} {go : List Int → Option Nat} (hs : Sound ps go) : ∀ (f : Nat) (now : List Int), Gd ps now → ∀ u ∈ (lineFrom go f now).1, ∃ (t k : Nat) (p : List Stage), ps[t]? = some p ∧ k ≤ p.length ∧ u = ⟨(t : Int), (k : Int)⟩
  | 0, _, _, u, hu => by simp [lineFrom] at hu
  | f + 1, now, h, u, hu => by
    simp only [lineFrom] at hu
    cases e : go now with
    | none => rw [e] at hu; simp at hu
    | some t =>
      rw [e] at hu
      obtain ⟨h1, h2⟩ := hs now t e
      simp only [List.mem_cons] at hu
      rcases hu with rfl | hu
      · have hp : ps[t]? = some ps[t] := List.getElem?_eq_getElem h1
        have hg := h.2 t h1
        rw [lenAt_of hp] at h2
        obtain ⟨k, hk⟩ := Int.eq_ofNat_of_zero_le (by omega : 0 ≤ nowAt now t + 1)
        exact ⟨t, k, ps[t], hp, by omega, by rw [hk]⟩
      · exact lineFrom_refs hs f _ (h.step h1 h2) u hu
theorem evAt_num {ps : List (List Stage)} {t k : Nat} {p : List Stage} (hp : ps[t]? = some p) (hk : k ≤ p.length) : evAt ps (numI ps ⟨(t : Int), (k : Int)⟩).toNat = ⟨(t : Int), (k : Int)⟩ ∧ num ps ⟨(t : Int), (k : Int)⟩ < (evs ps).length := by
  have e : num ps ⟨(t : Int), (k : Int)⟩ = fst ps t + k := by simp [num]
  refine ⟨?_, ?_⟩
  · unfold numI evAt
    rw [e, Int.toNat_natCast, evs_at hp hk]; rfl
  · have := fst_lt hp (getElem?_lt hp) (Nat.le_refl _)
    rw [fst_len] at this; omega

/-- the program's Line -/
def runP (ps : List (List Stage)) (os : List Order) (at_ : List Int) : List Ref × List Int := lineFrom (readyP ps (arcsOf (evs ps).length (gAdds ps os))) 1000 at_
def okP (ps : List (List Stage)) (os : List Order) (at_ : List Int) : Bool := !((doneL ps (runP ps os at_).2).any fun y => false == y) && agreesB ps at_ (arcsOf (evs ps).length (gAdds ps os))
def lineP (ps : List (List Stage)) (os : List Order) (at_ : List Int) : List Ref × Bool := if (checkO ps os && good ps at_ && okP ps os at_) = true then ((runP ps os at_).1, true) else ([], false)

theorem runP_len {ps : List (List Stage)} {os : List Order} {at_ : List Int} (hv : valid ps = true) (hg : Gd ps at_) : (runP ps os at_).1.length ≤ 650 := by
  have h1 := (lineFrom_inv (readyP_sound ps (arcsOf (evs ps).length (gAdds ps os))) 1000 at_ hg).2.1
  have h2 := total_le hv hg
  unfold runP; omega

set_option maxRecDepth 100000 in
set_option maxHeartbeats 1000000 in
theorem complete_any (w : World) (g : Nat) (ps : List (List Stage)) (os : List Order) (at_ : List Int) (hck : checkO ps os = true) (hgd : Gd ps at_) (hg : GrR w g ps at_ (gAdds ps os)) :
    Calls Try.prog 65 #[.pointer (some ⟨g, 0, none⟩)] w fun e w' => ∃ vl, e = .returned (.tuple #[vl, .bool (okP ps os at_)]) ∧ RInts w' (Old w') [vl] ((runP ps os at_).1.map (numI ps)) ∧ KeepsAll w w' := by
  have hv := (checkO_facts hck).1
  have hir := gAdds_range hck
  have HG := Lib.hid hg; clear hg
  have HL := Lib.hid (line_any w g ps at_ (gAdds ps os) hv HG.out hgd hir)
  have HAG : Hid (∀ W, KeepsAll w W → _) := fun W hW => agrees_any W g ps at_ (gAdds ps os) hv (HG.out.keep hW) hgd hir
  clear hir hv hgd hck
  go_enter Try.func65, Try.ntmps65
  go_wp2_with fail
  refine HL.out.mono ?_
  rintro e w2 ⟨vl, vd, rfl, rl, rd, hk2⟩
  have RL : Hid (RInts w2 (Old w2) [vl] ((runP ps os at_).1.map (numI ps))) := RInts.ok.mono rl (fun b hb => hb.2) (fun _ _ => rfl)
  have RD : Hid (RBools w2 (Old w2) [vd] (doneL ps (runP ps os at_).2)) := RBools.ok.mono rd (fun b hb => hb.2) (fun _ _ => rfl)
  obtain ⟨Al, cl, rfl, _, _⟩ := rl.val
  obtain ⟨Ad, cd, rfl, _, _⟩ := rd.val
  have K2 := Lib.hid hk2
  have HOK : Hid (okP ps os at_ = (!((doneL ps (runP ps os at_).2).any fun y => false == y) && agreesB ps at_ (arcsOf (evs ps).length (gAdds ps os)))) := rfl
  have HAG2 := Lib.hid (HAG.out w2 hk2)
  have HCB := Lib.hid (ContainsBool_any (doneL ps (runP ps os at_).2) false Ad cd w2 (Old w2) RD.out)
  have e1 : (lineFrom (readyP ps (arcsOf (evs ps).length (gAdds ps os))) 1000 at_).2 = (runP ps os at_).2 := rfl
  have e2 : (lineFrom (readyP ps (arcsOf (evs ps).length (gAdds ps os))) 1000 at_).1 = (runP ps os at_).1 := rfl
  rw [e1, e2]
  rw [e2] at RL
  rw [e1] at RD
  generalize hLL : ((runP ps os at_).1.map (numI ps)) = LL at RL ⊢
  have HLL := Lib.hid hLL; clear hLL
  generalize (doneL ps (runP ps os at_).2) = DL at RD HCB HOK ⊢
  clear rl rd hk2 HL HAG e1 e2
  go_wp2_with fail
  refine HCB.out.mono ?_
  rintro e w3 ⟨rfl, rfl⟩
  by_cases g1 : (DL.any fun y => false == y) = true
  · have Q : Hid (okP ps os at_ = false) := by rw [HOK.out, g1]; rfl
    rw [g1]
    clear g1 HOK
    go_wp2
    go_ret2
    exact ⟨_, by rw [Q.out]; rfl, by rw [HLL.out]; exact RL.out, K2.out⟩
  · have g1' : (DL.any fun y => false == y) = false := by simpa using g1
    have Q : Hid (okP ps os at_ = agreesB ps at_ (arcsOf (evs ps).length (gAdds ps os))) := by
      show _ = _
      rw [HOK.out, g1']; rfl
    rw [g1']
    clear g1 g1' HOK
    go_wp2_with fail
    refine HAG2.out.mono ?_
    rintro e w4 ⟨rfl, hk4⟩
    go_wp2
    go_ret2
    exact ⟨_, by rw [Q.out]; rfl, by rw [HLL.out]; exact hk4.rdo' RInts.ok RL.out, K2.out.tr hk4⟩

set_option maxRecDepth 100000 in
set_option maxHeartbeats 1000000 in
theorem Line_any (ps : List (List Stage)) (os : List Order) (at_ : List Int) (A A2 A3 : Option Addr) (c c2 c3 : Nat) (w : World) (h : RPaths w (Old w) [.slice A ps.length c] ps) (h2 : ROrders w (Old w) [.slice A2 os.length c2] os) (h3 : RInts w (Old w) [.slice A3 at_.length c3] at_) :
    Calls Try.prog 31 #[.slice A ps.length c, .slice A2 os.length c2, .slice A3 at_.length c3] w fun e w' => ∃ v, e = .returned (.tuple #[v, .bool (lineP ps os at_).2]) ∧ RRefs w' (Old w') [v] (lineP ps os at_).1 ∧ KeepsAll w w' := by
  by_cases g1 : (checkO ps os && good ps at_) = true
  · have g2 := g1
    rw [Bool.and_eq_true] at g2
    obtain ⟨hck, hgd⟩ := g2
    have hG := good_Gd.1 hgd
    have hv := (checkO_facts hck).1
    have HN := Lib.hid (newGraph_yes ps os at_ A A2 A3 c c2 c3 w h h2 h3 hck hgd)
    have HCP : Hid (∀ W g, GrR W g ps at_ (gAdds ps os) → _) := fun W g hW => complete_any W g ps os at_ hck hG hW
    have HRL : Hid (∀ u ∈ (runP ps os at_).1, _) := lineFrom_refs (readyP_sound ps (arcsOf (evs ps).length (gAdds ps os))) 1000 at_ hG
    have hrl := runP_len (os := os) hv hG
    clear h h2 h3 hgd hG hv hck
    by_cases g3 : okP ps os at_ = true
    · have Q : Hid (lineP ps os at_ = ((runP ps os at_).1, true)) := by show _ = _; unfold lineP; rw [g1, g3]; rfl
      clear g1
      go_enter Try.func31, Try.ntmps31
      go_wp2_with fail
      refine HN.out.mono ?_
      rintro e w1 ⟨g, rfl, hgr, k1⟩
      have K1 := Lib.hid k1
      have HGR := Lib.hid hgr
      clear k1 hgr HN
      go_wp2_with fail
      refine (HCP.out w1 g HGR.out).mono ?_
      rintro e w2 ⟨vl, rfl, rl, k2⟩
      rw [g3]
      have HE : Hid (((runP ps os at_).1.map (numI ps)).map (fun x => evAt ps x.toNat) = (runP ps os at_).1) := by
        show _ = _
        rw [List.map_map]
        conv => rhs; rw [← List.map_id (runP ps os at_).1]
        apply List.map_congr_left
        intro u hu
        obtain ⟨t, k, p, hp, hk, rfl⟩ := HRL.out u hu
        exact (evAt_num hp hk).1
      have HIX : Hid (∀ x ∈ (runP ps os at_).1.map (numI ps), ∃ i : Nat, x = (i : Int) ∧ i < (evs ps).length) := fun x hx => by
        obtain ⟨u, hu, rfl⟩ := List.mem_map.1 hx
        obtain ⟨t, k, p, hp, hk, rfl⟩ := HRL.out u hu
        exact ⟨_, rfl, (evAt_num hp hk).2⟩
      have hLl : ((runP ps os at_).1.map (numI ps)).length ≤ 650 := by rw [List.length_map]; exact hrl
      generalize (runP ps os at_).1.map (numI ps) = LL at rl HE HIX hLl
      obtain ⟨Al, cl, rfl, _, _⟩ := rl.val
      have RL := Lib.hid rl
      have K2 := Lib.hid (K1.out.tr k2)
      have HGR2 := Lib.hid (HGR.out.keep k2)
      clear rl k2 HGR HCP g3
      obtain ⟨v0, v1, v2, v3, v4, hb, _⟩ := HGR2.out
      have HRF := Lib.hid (refs_any w2 g ps at_ _ _ _ _ _ Al cl LL hb RL.out HIX.out (by omega))
      clear hb
      go_wp2_with fail
      refine HRF.out.mono ?_
      rintro e w3 ⟨v, rfl, rv, k3⟩
      rw [HE.out] at rv
      have RV := Lib.hid (RRefs.ok.mono rv (S' := Old w3) (fun b hb => hb.2) (fun _ _ => rfl))
      have K3 := Lib.hid (K2.out.tr k3)
      clear rv k3 HRF
      go_wp2
      go_ret2
      rw [Q.out]
      exact ⟨_, rfl, RV.out, K3.out⟩
    · have g3' : okP ps os at_ = false := by simpa using g3
      have Q : Hid (lineP ps os at_ = ([], false)) := by show _ = _; unfold lineP; rw [g1, g3']; rfl
      clear g1
      go_enter Try.func31, Try.ntmps31
      go_wp2_with fail
      refine HN.out.mono ?_
      rintro e w1 ⟨g, rfl, hgr, k1⟩
      have K1 := Lib.hid k1
      have HGR := Lib.hid hgr
      clear k1 hgr HN
      go_wp2_with fail
      refine (HCP.out w1 g HGR.out).mono ?_
      rintro e w2 ⟨vl, rfl, rl, k2⟩
      rw [g3']
      have K2 := Lib.hid (K1.out.tr k2)
      clear rl k2 g3 g3'
      go_wp2
      go_ret2
      rw [Q.out]
      exact ⟨_, rfl, RSlice.mkNil, K2.out⟩
  · have g1' : (checkO ps os && good ps at_) = false := by simpa using g1
    have Q : Hid (lineP ps os at_ = ([], false)) := by show _ = _; unfold lineP; rw [g1']; rfl
    have HN := Lib.hid (newGraph_no ps os at_ A A2 A3 c c2 c3 w h h2 h3 g1')
    clear h h2 h3 g1 g1'
    go_enter Try.func31, Try.ntmps31
    go_wp2_with fail
    refine HN.out.mono ?_
    rintro e w1 ⟨rfl, k1⟩
    have K1 := Lib.hid k1; clear k1
    go_wp2
    go_ret2
    rw [Q.out]
    exact ⟨_, rfl, RSlice.mkNil, K1.out⟩

end Go.Proofs.Ytigmldildefdgaa
