/- Chapter 37, plain: what Solve's search gives; a later second or a heavier weight never lowers the cost. No program in sight. The statement DispatchLater: its function returns true. No condition beyond the arguments' reading. Chapter 37, plain: no solution costs less than Bound; without pairs Bound is reached. No program in sight. Contract of the reference's CheckProblem of chapter 37. Conditions: as the theorem says. Contract of the reference's Cost of chapter 37. Conditions: as the theorem says. -/
import Derived.Test.YtilbbpbjhoidhaaL39
import Derived.Test.YtilbbpbjhoidhaaL45
import Derived.Deep.Cut
import Derived.Test.YtilbbpbjhoidhaaL26
import Derived.Test.YtilbbpbjhoidhaaL16
namespace Go.Proofs.Ytilbbpbjhoidhaa
open Go.RowKit

theorem checkP_Gd {p : Pb} (h : checkP p = true) : Gd p.ps p.at_ := by
 have h1 := (checkP_iff.1 h).1
 rw [← good_Gd]
 unfold checkState at h1
 by_cases g : (valid p.ps && good p.ps p.at_) = false
 ·rw [if_pos g] at h1; cases h1
 ·rw [Bool.not_eq_false, Bool.and_eq_true] at g; exact g.2
theorem checkP_wgt {p : Pb} (h : checkP p = true) (t : Nat) : 0 ≤ nowAt p.wgt t := by
 obtain ⟨_, _, _, _, h5, _⟩ := checkP_iff.1 h
 by_cases ht : t < p.wgt.length
 ·exact (h5 _ (nowAt_mem ht)).1
 ·unfold nowAt
  rw [List.getElem?_eq_none (by omega)]
  exact Int.le_refl _
/-- a whole search -/
theorem search_ok {p : Pb} (h : checkP p = true) (budget : Nat) : BestOk p (searchD budget p).2 ∧ ((searchD budget p).1 = true → ∀ cs : List Bool, cs.length = (xs p).length → okB p cs = true → ∃ b c, (searchD budget p).2.best = some (b, c) ∧ c ≤ costB p cs) := by
 have hok : okB p [] = true := by
  unfold okB
  have : decs p.ps (xs p) [] = [] := by unfold decs; cases xs p <;> rfl
  rw [this]
  exact okD_nil (checkP_Gd h)
 have := decF_ok (p := p) (checkP_Gd h) (checkP_wgt h) budget (xs p).length [] ⟨0, none⟩ (by simp) hok (by intro b c e; cases e)
 rw [searchD_eq]
 refine ⟨this.ok (by intro b c e; cases e), fun h1 cs hl hk => ?_⟩
 have h2 := this.cov h1 cs hl
 rw [List.nil_append] at h2
 exact h2 hk
theorem solve_cases {p : Pb} (h : checkP p = true) {b : Int} (hb : 1 ≤ b ∧ b ≤ 1048576) :
  ((searchD b.toNat p).1 = false ∧ solveP b p = (sol0, 0, 15)) ∨ ((searchD b.toNat p).1 = true ∧ (searchD b.toNat p).2.best = none ∧ solveP b p = (sol0, ((searchD b.toNat p).2.steps : Int), 19)) ∨
  ∃ bs c, (searchD b.toNat p).1 = true ∧ (searchD b.toNat p).2.best = some (bs, c) ∧ solveP b p = (⟨ordB p bs, entB p bs, c⟩, ((searchD b.toNat p).2.steps : Int), 0) := by
 unfold solveP
 rw [if_neg (by rw [h]; simp), if_neg (by omega)]
 cases e : (searchD b.toNat p).1 with
 | false => left; exact ⟨rfl, by rw [if_pos rfl]⟩
 | true =>
  right
  rw [if_neg (by simp)]
  cases f : (searchD b.toNat p).2.best with
  | none => left; exact ⟨rfl, rfl, rfl⟩
  | some x => right; exact ⟨x.1, x.2, rfl, rfl, rfl⟩
theorem base_mono {ps : List (List Stage)} {at_ : List Int} {n n' : Int} (h : n ≤ n') (u : Ref) : baseN ps at_ n u ≤ baseN ps at_ n' u := by
 unfold baseN base2
 have h1 : baseS ps n ⟨(u.tr.toNat : Int), (u.st.toNat : Int)⟩ ≤ baseS ps n' ⟨(u.tr.toNat : Int), (u.st.toNat : Int)⟩ := by
  unfold baseS
  cases ((ps[(⟨(u.tr.toNat : Int), (u.st.toNat : Int)⟩ : Ref).tr.toNat]?).getD [])[(⟨(u.tr.toNat : Int), (u.st.toNat : Int)⟩ : Ref).st.toNat]? with
  | none => exact h
  | some s => simp only [Option.elim_some]; omega
 split <;> omega

theorem made_open {p : Pb} (h : psMade p.ps) : ∀ r : Nat, r < 144 → (openA p.ps p.at_ (r : Int)).length ≤ 12 := fun r _ => by
 have h1 : ∀ (t : Nat) (q : List Stage), (pathAll (r : Int) t q).length ≤ q.length := fun t q => by
  have : ∀ n, n ≤ q.length → (pathAll (r : Int) t (q.take n)).length ≤ n := by
   intro n
   induction n with
   | zero => intro _; simp [pathAll]
   | succ n ih =>
    intro hn
    rw [pathAll_succ (r : Int) t (List.getElem?_eq_getElem (by omega) : q[n]? = some q[n]), List.length_append]
    have := ih (by omega)
    split <;> simp <;> omega
  have := this q.length (Nat.le_refl _)
  rwa [List.take_length] at this
 have h2 : ∀ n, n ≤ p.ps.length → (allU (p.ps.take n) (r : Int)).length ≤ n * 4 := by
  intro n
  induction n with
  | zero => intro _; simp [allU]
  | succ n ih =>
   intro hn
   rw [allU_succ (r : Int) (List.getElem?_eq_getElem (by omega) : p.ps[n]? = some p.ps[n]), List.length_append]
   have h3 := ih (by omega)
   have h4 := h1 n p.ps[n]
   have h5 := (h.2.2 p.ps[n] (List.getElem_mem _)).2.1
   omega
 have h3 := h2 p.ps.length (Nat.le_refl _)
 rw [List.take_length] at h3
 have h4 := openA_len p.ps p.at_ (r : Int)
 have h5 := h.2.1
 omega

theorem bound_law {p : Pb} (hc : checkP p = true) {b : Int} (hb : 1 ≤ b ∧ b ≤ 1048576) :
  ((solveP b p).2.2 = 0 ∧ costD p [] ≤ (solveP b p).1.cost ∨ ¬ (solveP b p).2.2 = 0) ∧ ((xs p).length = 0 → (solveP b p).2.2 = 0 ∧ (solveP b p).1.cost = costD p []) := by
 have hd0 : ∀ q : List Bool, (xs p).length = 0 → decs p.ps (xs p) q = [] := fun q h0 => by
  rw [List.length_eq_zero_iff.1 h0]
  unfold decs
  cases q <;> rfl
 have hde : decs p.ps (xs p) [] = [] := by unfold decs; cases xs p <;> rfl
 obtain ⟨g1, g2⟩ := search_ok hc b.toNat
 refine ⟨?_, fun h0 => ?_⟩
 ·rcases solve_cases hc hb with ⟨_, e⟩ | ⟨_, _, e⟩ | ⟨bs, c, f, best, e⟩
  ·right; rw [e]; simp
  ·right; rw [e]; simp
  ·left
   rw [e]
   refine ⟨rfl, ?_⟩
   show costD p [] ≤ c
   obtain ⟨_, o1, c1⟩ := g1 bs c best
   have h1 := costB_pre (bs := []) (cs := bs) (checkP_Gd hc) (checkP_wgt hc) (by rw [List.nil_append]; exact o1)
   rw [List.nil_append] at h1
   rw [c1]
   have h2 : costB p [] = costD p [] := by unfold costB; rw [hde]
   omega
 ·have hs : searchD b.toNat p = (true, ⟨0, some ([], costD p [])⟩) := by
   rw [searchD_eq, h0]
   show (true, (⟨0, some ([], costD p (decs p.ps (xs p) []))⟩ : SSt)) = _
   rw [hde]
  rcases solve_cases hc hb with ⟨e1, _⟩ | ⟨_, e1, _⟩ | ⟨bs, c, f, best, e⟩
  ·rw [hs] at e1; cases e1
  ·rw [hs] at e1; cases e1
  ·rw [hs] at best
   injection best with best
   injection best with b1 b2
   rw [e]
   exact ⟨rfl, b2.symm⟩

set_option maxHeartbeats 1000000 in
theorem RDspCheck_any (p : Pb) (v : PV) (w : World) (h : RPb w (Old w) v p) :
  Calls Try.prog 21 #[.agg (v.cs p)] w fun e w' => e = .returned (.bool (checkP p)) ∧ KeepsAll w w' := by
 have HC := Lib.hid (fun W (hW : KeepsAll w W) => CheckState_any p.ps p.at_ v.A v.A2 v.c v.c2 W (h.kept hW).P (h.kept hW).A)
 have H := Lib.hid h
 clear h
 unfold PV.cs
 have KB : KeepsAll w (w.alloc (.cells #[.slice v.A p.ps.length v.c, .slice v.A2 p.at_.length v.c2, .slice v.A3 p.due.length v.c3, .slice v.A4 p.wgt.length v.c4, .int .i64 p.now] 25)) := (Keeps.refl _ _).alloc _
 have KBH := Lib.hid KB
 have BB : Hid (Blk (w.alloc (.cells #[.slice v.A p.ps.length v.c, .slice v.A2 p.at_.length v.c2, .slice v.A3 p.due.length v.c3, .slice v.A4 p.wgt.length v.c4, .int .i64 p.now] 25)) w.heap.size 25 #[.slice v.A p.ps.length v.c, .slice v.A2 p.at_.length v.c2, .slice v.A3 p.due.length v.c3, .slice v.A4 p.wgt.length v.c4, .int .i64 p.now]) := Blk.new _ _ _
 have CALL : Hid (∀ Q : Ending → World → Prop, (∀ w1, KeepsAll w w1 → Blk w1 w.heap.size 25 #[.slice v.A p.ps.length v.c, .slice v.A2 p.at_.length v.c2, .slice v.A3 p.due.length v.c3, .slice v.A4 p.wgt.length v.c4, .int .i64 p.now] → Q (.returned (.int .i64 (checkState p.ps p.at_))) w1) → Calls Try.prog 59 #[.slice v.A p.ps.length v.c, .slice v.A2 p.at_.length v.c2] (w.alloc (.cells #[.slice v.A p.ps.length v.c, .slice v.A2 p.at_.length v.c2, .slice v.A3 p.due.length v.c3, .slice v.A4 p.wgt.length v.c4, .int .i64 p.now] 25)) Q) := Lib.hid fun Q hQ => (HC.out _ KBH.out).mono (by rintro e w1 ⟨rfl, k1⟩; exact hQ w1 (KBH.out.tr k1) (BB.out.kept k1 (by simp)))
 clear KB
 by_cases g0 : checkState p.ps p.at_ = 0
 ·by_cases g1 : p.due.length = p.ps.length
  ·by_cases g2 : p.wgt.length = p.ps.length
   ·have G := Lib.hid (And.intro g0 (And.intro g1 g2))
    have g1' : ((p.due.length : Int) != (p.ps.length : Int)) = false := by rw [g1]; simp
    have g2' : ((p.wgt.length : Int) != (p.ps.length : Int)) = false := by rw [g2]; simp
    clear g1 g2
    cases q5 : isClk p.now with
    | false =>
     have QQ : Hid (checkP p = false) := by
      show _ = _
      cases e : checkP p with
      | false => rfl
      | true =>
       have h6 := (checkP_iff.1 e).2.2.2.2.2
       unfold isClk at q5
       rw [decide_eq_true h6.1, decide_eq_true h6.2] at q5
       cases q5
     go_enter Try.func21, Try.ntmps21
     go_wp2_with fail
     refine CALL.out _ fun w1 k1 hb => ?_
     rw [g0]
     clear g0
     have c0 := hb.cell 0
     have c2 := hb.cell 2
     have c3 := hb.cell 3
     have c4 := hb.cell 4
     simp at c0 c2 c3 c4
     have K1 := Lib.hid k1
     clear k1 hb
     go_wp2_with fail
     refine (seconds_any p.now w1).mono ?_
     rintro e w2 ⟨rfl, rfl⟩
     rw [q5]
     go_wp2
     go_ret
     exact ⟨by rw [QQ.out]; rfl, K1.out⟩
    | true =>
    have HQ5 : Hid (0 ≤ p.now ∧ p.now ≤ 4194304) := by
     show _ ∧ _
     unfold isClk at q5
     rw [Bool.and_eq_true, decide_eq_true_eq, decide_eq_true_eq] at q5
     exact q5
    go_enter Try.func21, Try.ntmps21
    go_wp2_with fail
    refine CALL.out _ fun w1 k1 hb => ?_
    rw [g0]
    clear g0
    have K1 := Lib.hid k1
    have HB := Lib.hid hb
    have H1 := Lib.hid (H.out.kept k1)
    have c0 := hb.cell 0
    have c1 := hb.cell 1
    have c2 := hb.cell 2
    have c3 := hb.cell 3
    have c4 := hb.cell 4
    have hz := hb.lt
    simp at c0 c1 c2 c3 c4
    clear k1 hb
    generalize w.heap.size = z at *
    have hps10 := (valid_lens (checkState_valid G.out.1)).1
    go_wp2_with fail
    refine (seconds_any p.now w1).mono ?_
    rintro e w2 ⟨rfl, rfl⟩
    rw [q5]
    clear q5
    go_wp2
    go_loop [37] (fun i => ∃ k : Nat, k ≤ p.ps.length ∧ i = .int .i64 (k : Int) ∧ (∀ x ∈ p.due.take k, 0 ≤ x ∧ x ≤ 16777216) ∧ (∀ x ∈ p.wgt.take k, 0 ≤ x ∧ x ≤ 1048576)) (fun i => p.ps.length - (intOf i).toNat)
    case atStart => exact ⟨0, by omega, rfl, by simp, by simp⟩
    case round =>
     obtain ⟨k, hk, rfl, hr1, hr2⟩ := hrel
     have HR := Lib.hid (And.intro hr1 hr2)
     clear hr1 hr2
     by_cases hlt : k < p.ps.length
     ·have hlt' : decide (k < p.ps.length) = true := decide_eq_true hlt
      have hkd : k < p.due.length := by rw [G.out.2.1]; exact hlt
      have hkw : k < p.wgt.length := by rw [G.out.2.2]; exact hlt
      obtain ⟨b3, o3, d, hA3, _, hdx, d3⟩ := H1.out.D.at_ hkd
      obtain ⟨b4, o4, g, hA4, _, hgx, d4⟩ := H1.out.W.at_ hkw
      rw [hA3] at c2
      rw [hA4] at c3
      have BAD : Hid (¬ (0 ≤ d ∧ d ≤ 16777216 ∧ 0 ≤ g ∧ g ≤ 1048576) → checkP p = false) := Lib.hid fun hn => by
       cases e : checkP p with
       | false => rfl
       | true =>
        have h1 := (checkP_iff.1 e).2.2.2.1 d (List.mem_of_getElem? hdx)
        have h2 := (checkP_iff.1 e).2.2.2.2.1 g (List.mem_of_getElem? hgx)
        exact absurd ⟨h1.1, h1.2, h2.1, h2.2⟩ hn
      have HX := Lib.hid (And.intro hdx hgx)
      clear hdx hgx hA3 hA4
      by_cases q1 : d < 0
      ·have q1' : decide (d < 0) = true := decide_eq_true q1
       have QQ := Lib.hid (BAD.out (by omega))
       go_wp2
       go_ret
       exact ⟨by rw [QQ.out]; rfl, K1.out⟩
      ·have q1' : decide (d < 0) = false := decide_eq_false q1
       by_cases q2 : d > 16777216
       ·have q2' : decide (d > 16777216) = true := decide_eq_true q2
        have QQ := Lib.hid (BAD.out (by omega))
        go_wp2
        go_ret
        exact ⟨by rw [QQ.out]; rfl, K1.out⟩
       ·have q2' : decide (d > 16777216) = false := decide_eq_false q2
        by_cases q3 : g < 0
        ·have q3' : decide (g < 0) = true := decide_eq_true q3
         have QQ := Lib.hid (BAD.out (by omega))
         go_wp2
         go_ret
         exact ⟨by rw [QQ.out]; rfl, K1.out⟩
        ·have q3' : decide (g < 0) = false := decide_eq_false q3
         by_cases q4 : g > 1048576
         ·have q4' : decide (g > 1048576) = true := decide_eq_true q4
          have QQ := Lib.hid (BAD.out (by omega))
          go_wp2
          go_ret
          exact ⟨by rw [QQ.out]; rfl, K1.out⟩
         ·have q4' : decide (g > 1048576) = false := decide_eq_false q4
          have HN : Hid ((∀ x ∈ p.due.take (k + 1), 0 ≤ x ∧ x ≤ 16777216) ∧ (∀ x ∈ p.wgt.take (k + 1), 0 ≤ x ∧ x ≤ 1048576)) := by
           refine Lib.hid ⟨fun x hx => ?_, fun x hx => ?_⟩
           ·rw [List.take_add_one, HX.out.1] at hx
            rcases List.mem_append.1 hx with hx | hx
            ·exact HR.out.1 x hx
            ·simp at hx; subst hx; omega
           ·rw [List.take_add_one, HX.out.2] at hx
            rcases List.mem_append.1 hx with hx | hx
            ·exact HR.out.2 x hx
            ·simp at hx; subst hx; omega
          go_wp2
          go_round
          case rel => exact ⟨k + 1, by omega, by go_num, HN.out.1, HN.out.2⟩
          case measure => simp [intOf]; omega
     ·have hlt' : decide (k < p.ps.length) = false := decide_eq_false hlt
      obtain rfl : k = p.ps.length := by omega
      have HALL : Hid ((∀ x ∈ p.due, 0 ≤ x ∧ x ≤ 16777216) ∧ (∀ x ∈ p.wgt, 0 ≤ x ∧ x ≤ 1048576)) := by
       have h1 := HR.out.1
       have h2 := HR.out.2
       rw [← G.out.2.1, List.take_length] at h1
       rw [← G.out.2.2, List.take_length] at h2
       exact Lib.hid ⟨h1, h2⟩
      have QQ : Hid (checkP p = true) := by
       show _ = _
       rw [checkP_iff]
       exact ⟨G.out.1, G.out.2.1, G.out.2.2, HALL.out.1, HALL.out.2, HQ5.out.1, HQ5.out.2⟩
      go_wp2
      go_ret
      exact ⟨by rw [QQ.out]; rfl, K1.out⟩
   ·have QQ : Hid (checkP p = false) := by
     show _ = _
     cases e : checkP p with
     | false => rfl
     | true => exact absurd (checkP_iff.1 e).2.2.1 g2
    have g1' : ((p.due.length : Int) != (p.ps.length : Int)) = false := by rw [g1]; simp
    have g2' : ((p.wgt.length : Int) != (p.ps.length : Int)) = true := by simp; omega
    clear g1 g2
    go_enter Try.func21, Try.ntmps21
    go_wp2_with fail
    refine CALL.out _ fun w1 k1 hb => ?_
    rw [g0]
    clear g0
    have c0 := hb.cell 0
    have c2 := hb.cell 2
    have c3 := hb.cell 3
    simp at c0 c2 c3
    have K1 := Lib.hid k1
    clear k1 hb
    go_wp2
    go_ret
    exact ⟨by rw [QQ.out]; rfl, K1.out⟩
  ·have QQ : Hid (checkP p = false) := by
    show _ = _
    cases e : checkP p with
    | false => rfl
    | true => exact absurd (checkP_iff.1 e).2.1 g1
   have g1' : ((p.due.length : Int) != (p.ps.length : Int)) = true := by simp; omega
   clear g1
   go_enter Try.func21, Try.ntmps21
   go_wp2_with fail
   refine CALL.out _ fun w1 k1 hb => ?_
   rw [g0]
   clear g0
   have c0 := hb.cell 0
   have c2 := hb.cell 2
   simp at c0 c2
   have K1 := Lib.hid k1
   clear k1 hb
   go_wp2
   go_ret
   exact ⟨by rw [QQ.out]; rfl, K1.out⟩
 ·have QQ : Hid (checkP p = false) := by
   show _ = _
   cases e : checkP p with
   | false => rfl
   | true => exact absurd (checkP_iff.1 e).1 g0
  have g0' : (checkState p.ps p.at_ != 0) = true := by simpa using g0
  clear g0
  go_enter Try.func21, Try.ntmps21
  go_wp2_with fail
  refine CALL.out _ fun w1 k1 hb => ?_
  generalize checkState p.ps p.at_ = x at *
  have K1 := Lib.hid k1
  clear k1 hb
  go_wp2
  go_ret
  exact ⟨by rw [QQ.out]; rfl, K1.out⟩

set_option maxRecDepth 100000 in
set_option maxHeartbeats 1000000 in
theorem RDspCost_any (p : Pb) (v : PV) (w : World) (h : RPb w (Old w) v p) (en : List (List Int)) (A : Option Addr) (c : Nat) (hE : RIntss w (Old w) [.slice A en.length c] en) :
  Calls Try.prog 26 #[.agg (v.cs p), .slice A en.length c] w fun e w' => e = .returned (.int .i64 (costE p en)) ∧ KeepsAll w w' := by
 have KB : KeepsAll w (w.alloc (.cells #[.slice v.A p.ps.length v.c, .slice v.A2 p.at_.length v.c2, .slice v.A3 p.due.length v.c3, .slice v.A4 p.wgt.length v.c4, .int .i64 p.now] 25)) := (Keeps.refl _ _).alloc _
 have BB : Hid (Blk (w.alloc (.cells #[.slice v.A p.ps.length v.c, .slice v.A2 p.at_.length v.c2, .slice v.A3 p.due.length v.c3, .slice v.A4 p.wgt.length v.c4, .int .i64 p.now] 25)) w.heap.size 25 (v.cs p)) := Blk.new _ _ _
 have CALL : Hid (∀ Q : Ending → World → Prop, (∀ w1, KeepsAll w w1 → Blk w1 w.heap.size 25 (v.cs p) → Q (.returned (.bool (checkP p))) w1) → Calls Try.prog 21 #[.agg #[.slice v.A p.ps.length v.c, .slice v.A2 p.at_.length v.c2, .slice v.A3 p.due.length v.c3, .slice v.A4 p.wgt.length v.c4, .int .i64 p.now]] (w.alloc (.cells #[.slice v.A p.ps.length v.c, .slice v.A2 p.at_.length v.c2, .slice v.A3 p.due.length v.c3, .slice v.A4 p.wgt.length v.c4, .int .i64 p.now] 25)) Q) := Lib.hid fun Q hQ => (RDspCheck_any p v _ (h.kept KB)).mono (by rintro e w1 ⟨rfl, k1⟩; exact hQ w1 (KB.tr k1) (BB.out.kept k1 (by simp)))
 have H := Lib.hid h
 have HE := Lib.hid hE
 clear h hE KB BB
 have hcs : Hid (v.cs p = #[.slice v.A p.ps.length v.c, .slice v.A2 p.at_.length v.c2, .slice v.A3 p.due.length v.c3, .slice v.A4 p.wgt.length v.c4, .int .i64 p.now]) := Lib.hid rfl
 rw [hcs.out]
 cases g0 : checkP p with
 | false =>
  have QQ := Lib.hid (costE_no (en := en) (.inl g0))
  go_enter Try.func26, Try.ntmps26
  go_wp2_with fail
  refine CALL.out _ fun w1 k1 hb => ?_
  rw [g0]
  have K1 := Lib.hid k1
  clear k1 hb g0
  go_wp2
  go_ret
  exact ⟨by rw [QQ.out]; rfl, K1.out⟩
 | true =>
  have HO := Lib.hid (checkP_ok g0)
  have hps10 := (valid_lens HO.out.v).1
  by_cases g1 : en.length = p.ps.length
  ·have g1' : ((en.length : Int) != (p.ps.length : Int)) = false := by rw [g1]; simp
   have G1 := Lib.hid g1
   have G0 := Lib.hid g0
   go_enter Try.func26, Try.ntmps26
   go_wp2_with fail
   refine CALL.out _ fun w1 k1 hb => ?_
   rw [g0]
   have K1 := Lib.hid k1
   have H1 := Lib.hid (H.out.kept k1)
   have HE1 := Lib.hid (k1.rdo' (RSlice.ok RInts.ok) HE.out)
   have HB := Lib.hid hb
   rw [hcs.out] at hb
   have c0 := hb.cell 0
   simp at c0
   have hz := hb.lt
   clear k1 hb g0 g1
   generalize w.heap.size = z at *
   go_wp2
   go_loopw [24, 5] (fun i sm wr => ∃ k : Nat, k ≤ en.length ∧ i = .int .i64 (k : Int) ∧ sm = .int .i64 (costEn p en k) ∧ KeepsAll w1 wr ∧ (∀ t, t < k → enOk p en t = true)) (fun i _ _ => en.length - (intOf i).toNat)
   case atStart => exact ⟨0, by omega, rfl, rfl, Keeps.refl _ _, fun t ht => by omega⟩
   case round =>
    obtain ⟨k, hk, rfl, rfl, kr, hall⟩ := hrel
    have KR := Lib.hid kr
    have HALL := Lib.hid hall
    have hbd := costEn_bd HO.out k (by rw [← G1.out]; exact hk) (fun t ht => (enOk_last (hall t ht)).2)
    clear hall
    by_cases hlt0 : k < en.length
    ·have hlt : k < p.ps.length := by rw [← G1.out]; exact hlt0
     have hlt' : decide (k < en.length) = true := decide_eq_true hlt0
     obtain ⟨bp, op, l, Al, cl, hAp, hbp, hpl, p0, _⟩ := RSS.atK kr H1.out.P hlt
     obtain ⟨be, oe, r, Ar, cr, hAe, hbe, her, e0, hrr⟩ := RSS.atK kr HE1.out (show k < en.length by rw [G1.out]; exact hlt)
     have hll : lenAt p.ps k = l.length := by unfold lenAt; rw [hpl]; rfl
     have hvc : v.A = some ⟨bp, op, none⟩ := hAp
     have HLL := Lib.hid hll
     have HER := Lib.hid her
     have HRR := Lib.hid (kr.rdo' RInts.ok hrr)
     have hl64 := ((valid_lens HO.out.v).2 l (List.mem_of_getElem? hpl)).2
     have hke : k < en.length := by rw [G1.out]; exact hlt
     have HBR := Lib.hid (HB.out.kept kr (by simp))
     have H1R := Lib.hid (H1.out.kept kr)
     subst hAe
     have hbr := HBR.out
     rw [hcs.out] at hbr
     have b0 := hbr.cell 0
     have b1 := hbr.cell 1
     have b2 := hbr.cell 2
     have b3 := hbr.cell 3
     have b5 := hbr.cell 4
     simp at b0 b1 b2 b3 b5
     rw [hvc] at b0
     have hbz := hbr.lt
     clear hpl hll her hrr c0 hAp hvc hbr
     have EN : Hid (enOk p en k = (decide (r.length = l.length + 1) && r.all secOk)) := by
      show _ = _
      unfold enOk
      rw [HER.out, ← HLL.out]
     by_cases g3 : r.length = l.length + 1
     ·have g3' : ((r.length : Int) != (l.length : Int) + 1) = false := by rw [g3]; simp
      have G3 := Lib.hid g3
      clear g3
      go_wp2
      go_loop [41] (fun i => ∃ m : Nat, m ≤ r.length ∧ i = .int .i64 (m : Int) ∧ (∀ x ∈ r.take m, secOk x = true)) (fun i => r.length - (intOf i).toNat)
      case atStart => exact ⟨0, by omega, rfl, by simp⟩
      case round =>
       obtain ⟨m, hm, rfl, hsec⟩ := hrel
       have HSEC := Lib.hid hsec
       clear hsec
       by_cases hlt2 : m < r.length
       ·have hlt2' : decide (m < r.length) = true := decide_eq_true hlt2
        obtain ⟨b4, o4, x, hA4, _, hx, x0⟩ := HRR.out.at_ hlt2
        subst hA4
        have HX := Lib.hid hx
        clear hx
        have hbad : Hid (secOk x = false → costE p en = 0) := Lib.hid fun hs => costE_no (.inr (.inr ⟨k, hlt, by
         rw [EN.out]
         rw [Bool.and_eq_false_iff]
         right
         rw [List.all_eq_false]
         exact ⟨x, List.mem_of_getElem? HX.out, by rw [hs]; simp⟩⟩))
        by_cases q1 : x < -1
        ·have q1' : decide (x < -1) = true := decide_eq_true q1
         have QQ := Lib.hid (hbad.out (by unfold secOk; rw [decide_eq_false (show ¬ -1 ≤ x by omega)]; rfl))
         go_wp2
         go_ret
         exact ⟨by rw [QQ.out]; rfl, K1.out.tr KR.out⟩
        ·have q1' : decide (x < -1) = false := decide_eq_false q1
         by_cases q2 : x > 4294967296
         ·have q2' : decide (x > 4294967296) = true := decide_eq_true q2
          have QQ := Lib.hid (hbad.out (by unfold secOk; rw [decide_eq_false (show ¬ x ≤ 4294967296 by omega)]; simp))
          go_wp2
          go_ret
          exact ⟨by rw [QQ.out]; rfl, K1.out.tr KR.out⟩
         ·have q2' : decide (x > 4294967296) = false := decide_eq_false q2
          have HS2 : Hid (∀ y ∈ r.take (m + 1), secOk y = true) := Lib.hid fun y hy => by
           rw [List.take_add_one, HX.out] at hy
           rcases List.mem_append.1 hy with hy | hy
           ·exact HSEC.out y hy
           ·simp at hy
            subst hy
            unfold secOk
            rw [decide_eq_true (show -1 ≤ y by omega), decide_eq_true (show y ≤ 4294967296 by omega)]; rfl
          have hr65 : r.length ≤ 65 := by rw [G3.out]; omega
          go_wp2
          go_round
          case rel => exact ⟨m + 1, by omega, by go_num, HS2.out⟩
          case measure => simp [intOf]; omega
       ·have hlt2' : decide (m < r.length) = false := decide_eq_false hlt2
        obtain rfl : m = r.length := by omega
        have hok : enOk p en k = true := by
         rw [EN.out, decide_eq_true G3.out, Bool.true_and, List.all_eq_true]
         have := HSEC.out
         rwa [List.take_length] at this
        have HOK := Lib.hid hok
        have hlast := enOk_last hok
        have hlx : lastOf p en k = (r[l.length]?).getD 0 := by unfold lastOf; rw [HER.out, HLL.out]; rfl
        obtain ⟨b4, o4, x, hA4, hb4, hx, x0⟩ := HRR.out.at_ (k := r.length - 1) (by rw [G3.out]; omega)
        subst hA4
        have hx1 : r[l.length]? = some x := by have := hx; rw [G3.out] at this; exact this
        rw [hx1] at hlx
        have hlx : lastOf p en k = x := hlx
        rw [hlx] at hlast
        have HLX := Lib.hid hlx
        have hb4' : b4 < wr.heap.size := hb4
        have hrl : 1 ≤ r.length := by rw [G3.out]; omega
        have hrl2 : r.length ≤ 65 := by rw [G3.out]; omega
        have hd1 := HO.out.d k hlt
        have hd2 := HO.out.w k hlt
        have hlb := lateP_bd HO.out hlt hlast.2
        have hkd : k < p.due.length := by rw [HO.out.l.1]; exact hlt
        have hkw : k < p.wgt.length := by rw [HO.out.l.2]; exact hlt
        obtain ⟨b6, o6, dd, hA6, hb6, hdx, d0⟩ := H1R.out.D.at_ hkd
        obtain ⟨b7, o7, gg, hA7, hb7, hgx, g0⟩ := H1R.out.W.at_ hkw
        have hb6' : b6 < wr.heap.size := hb6
        have hb7' : b7 < wr.heap.size := hb7
        rw [hA6] at b2
        rw [hA7] at b3
        have hnd : nowAt p.due k = dd := by unfold nowAt; rw [hdx]; rfl
        have hng : nowAt p.wgt k = gg := by unfold nowAt; rw [hgx]; rfl
        rw [hnd] at hd1
        rw [hng] at hd2
        have HLT : Hid (lateP p k x = if x < dd then 0 else gg * (x - dd)) := by show _ = _; unfold lateP; rw [hnd, hng]
        have HSUM : Hid (costEn p en (k + 1) = costEn p en k + lateP p k x) := by show _ = _; rw [← HLX.out]; rfl
        have HALL2 : Hid (∀ t, t < k + 1 → enOk p en t = true) := Lib.hid fun t ht => by
         by_cases e : t = k
         ·subst e; exact HOK.out
         ·exact HALL.out t (by omega)
        have hke2 : k < en.length := hlt0
        clear hok hx hx1 hlx hA6 hA7 hdx hgx hnd hng
        by_cases hgt : x > dd
        ·have hgt' : decide (x > dd) = true := decide_eq_true hgt
         have hlv : lateP p k x = gg * (x - dd) := by rw [HLT.out, if_neg (by omega)]
         rw [hlv] at hlb
         have hws : IntKind.i64.wrap (x - dd) = x - dd := IntWalk.i64_in _ (by omega)
         have hwm : IntKind.i64.wrap (gg * (x - dd)) = gg * (x - dd) := IntWalk.i64_in _ (by omega)
         have hwa : IntKind.i64.wrap (costEn p en k + gg * (x - dd)) = costEn p en k + gg * (x - dd) := IntWalk.i64_in _ (by omega)
         have HV := Lib.hid hlv
         clear hlv
         go_wp2
         go_quiet (fail)
         go_wp2
         go_roundw
         case rel => exact ⟨k + 1, by omega, by go_num, by rw [HSUM.out, HV.out], by first | exact KR.out | exact KR.out.drewN _, HALL2.out⟩
         case measure => simp [intOf]; omega
        ·have hgt' : decide (x > dd) = false := decide_eq_false hgt
         have HV : Hid (lateP p k x = 0) := by
          show _ = _
          rw [HLT.out]
          split
          ·rfl
          ·rw [show x - dd = 0 by omega, Int.mul_zero]
         go_wp2
         go_roundw
         case rel => exact ⟨k + 1, by omega, by go_num, by rw [HSUM.out, HV.out, Int.add_zero], KR.out, HALL2.out⟩
         case measure => simp [intOf]; omega
     ·have g3' : ((r.length : Int) != (l.length : Int) + 1) = true := by simp; omega
      have QQ := Lib.hid (costE_no (.inr (.inr ⟨k, hlt, by rw [EN.out, decide_eq_false g3]; rfl⟩)))
      clear g3
      go_wp2
      go_ret
      exact ⟨by rw [QQ.out]; rfl, K1.out.tr KR.out⟩
    ·have hlt' : decide (k < en.length) = false := decide_eq_false hlt0
     obtain rfl : k = p.ps.length := by have := G1.out; omega
     have QQ := Lib.hid (costE_yes G0.out G1.out HALL.out)
     clear kr
     go_wp2
     go_ret
     exact ⟨by rw [QQ.out]; rfl, K1.out.tr KR.out⟩
  ·have g1' : ((en.length : Int) != (p.ps.length : Int)) = true := by simp; omega
   have QQ := Lib.hid (costE_no (p := p) (en := en) (.inr (.inl g1)))
   go_enter Try.func26, Try.ntmps26
   go_wp2_with fail
   refine CALL.out _ fun w1 k1 hb => ?_
   rw [g0]
   have K1 := Lib.hid k1
   rw [hcs.out] at hb
   have c0 := hb.cell 0
   simp at c0
   clear k1 hb g0 g1
   go_wp2
   go_ret
   exact ⟨by rw [QQ.out]; rfl, K1.out⟩

end Go.Proofs.Ytilbbpbjhoidhaa
