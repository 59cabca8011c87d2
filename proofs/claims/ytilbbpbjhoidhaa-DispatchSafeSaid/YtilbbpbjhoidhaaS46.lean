/- Chapter 37, plain: what Solve's search gives; a later second or a heavier weight never lowers the cost. No program in sight. The statement DispatchLater: its function returns true. No condition beyond the arguments' reading. The orders of a complete choice of chapter 37: the program's and the reference's. No program in sight. Contract of the reference's CheckProblem of chapter 37. Conditions: as the theorem says. Contract of the reference's Cost of chapter 37. Conditions: as the theorem says. Contract of the reference's Open of chapter 37. Conditions: as the theorem says. Contract of the reference's Pairs of chapter 37. Conditions: as the theorem says. The reference's search of chapter 37 in memory; contract of chosen. Conditions: as each theorem says. -/
import Derived.Test.YtilbbpbjhoidhaaS39
import Derived.Test.YtilbbpbjhoidhaaS45
import Derived.Deep.Cut
import Derived.Test.YtilbbpbjhoidhaaS19
import Derived.Test.YtilbbpbjhoidhaaS26
import Derived.Test.YtilbbpbjhoidhaaS15
import Derived.Test.YtilbbpbjhoidhaaS41
import Derived.Test.YtilbbpbjhoidhaaS13
import Derived.Test.YtilbbpbjhoidhaaS09
import Derived.Test.YtilbbpbjhoidhaaS35
namespace Go.Proofs.Ytilbbpbjhoidhaa
open Go.RowKit

theorem checkP_Gd {p : Pb} (h : checkP p = true) : Gd p.ps p.at_ := by
 have h1 := (checkP_iff.1 h).1
 rw [← good_Gd]
 unfold checkState at h1
 by_cases g : (valid p.ps && good p.ps p.at_) = false
 ·rw [if_pos g] at h1; cases h1
 ·rw [Bool.not_eq_false, Bool.and_eq_true] at g; exact g.2
theorem checkP_wgt {p : Pb} (h : checkP p = true) (t : Nat) : 0 ≤ nowAt p.wgt t := by
 obtain ⟨_, _, _, _, h5, _⟩ := checkP_iff.1 h
 by_cases ht : t < p.wgt.length
 ·exact (h5 _ (nowAt_mem ht)).1
 ·unfold nowAt
  rw [List.getElem?_eq_none (by omega)]
  exact Int.le_refl _
/-- a whole search -/
theorem search_ok {p : Pb} (h : checkP p = true) (budget : Nat) : BestOk p (searchD budget p).2 ∧ ((searchD budget p).1 = true → ∀ cs : List Bool, cs.length = (xs p).length → okB p cs = true → ∃ b c, (searchD budget p).2.best = some (b, c) ∧ c ≤ costB p cs) := by
 have hok : okB p [] = true := by
  unfold okB
  have : decs p.ps (xs p) [] = [] := by unfold decs; cases xs p <;> rfl
  rw [this]
  exact okD_nil (checkP_Gd h)
 have := decF_ok (p := p) (checkP_Gd h) (checkP_wgt h) budget (xs p).length [] ⟨0, none⟩ (by simp) hok (by intro b c e; cases e)
 rw [searchD_eq]
 refine ⟨this.ok (by intro b c e; cases e), fun h1 cs hl hk => ?_⟩
 have h2 := this.cov h1 cs hl
 rw [List.nil_append] at h2
 exact h2 hk
theorem solve_cases {p : Pb} (h : checkP p = true) {b : Int} (hb : 1 ≤ b ∧ b ≤ 1048576) :
  ((searchD b.toNat p).1 = false ∧ solveP b p = (sol0, 0, 15)) ∨ ((searchD b.toNat p).1 = true ∧ (searchD b.toNat p).2.best = none ∧ solveP b p = (sol0, ((searchD b.toNat p).2.steps : Int), 19)) ∨
  ∃ bs c, (searchD b.toNat p).1 = true ∧ (searchD b.toNat p).2.best = some (bs, c) ∧ solveP b p = (⟨ordB p bs, entB p bs, c⟩, ((searchD b.toNat p).2.steps : Int), 0) := by
 unfold solveP
 rw [if_neg (by rw [h]; simp), if_neg (by omega)]
 cases e : (searchD b.toNat p).1 with
 | false => left; exact ⟨rfl, by rw [if_pos rfl]⟩
 | true =>
  right
  rw [if_neg (by simp)]
  cases f : (searchD b.toNat p).2.best with
  | none => left; exact ⟨rfl, rfl, rfl⟩
  | some x => right; exact ⟨x.1, x.2, rfl, rfl, rfl⟩
theorem base_mono {ps : List (List Stage)} {at_ : List Int} {n n' : Int} (h : n ≤ n') (u : Ref) : baseN ps at_ n u ≤ baseN ps at_ n' u := by
 unfold baseN base2
 have h1 : baseS ps n ⟨(u.tr.toNat : Int), (u.st.toNat : Int)⟩ ≤ baseS ps n' ⟨(u.tr.toNat : Int), (u.st.toNat : Int)⟩ := by
  unfold baseS
  cases ((ps[(⟨(u.tr.toNat : Int), (u.st.toNat : Int)⟩ : Ref).tr.toNat]?).getD [])[(⟨(u.tr.toNat : Int), (u.st.toNat : Int)⟩ : Ref).st.toNat]? with
  | none => exact h
  | some s => simp only [Option.elim_some]; omega
 split <;> omega

theorem made_open {p : Pb} (h : psMade p.ps) : ∀ r : Nat, r < 144 → (openA p.ps p.at_ (r : Int)).length ≤ 12 := fun r _ => by
 have h1 : ∀ (t : Nat) (q : List Stage), (pathAll (r : Int) t q).length ≤ q.length := fun t q => by
  have : ∀ n, n ≤ q.length → (pathAll (r : Int) t (q.take n)).length ≤ n := by
   intro n
   induction n with
   | zero => intro _; simp [pathAll]
   | succ n ih =>
    intro hn
    rw [pathAll_succ (r : Int) t (List.getElem?_eq_getElem (by omega) : q[n]? = some q[n]), List.length_append]
    have := ih (by omega)
    split <;> simp <;> omega
  have := this q.length (Nat.le_refl _)
  rwa [List.take_length] at this
 have h2 : ∀ n, n ≤ p.ps.length → (allU (p.ps.take n) (r : Int)).length ≤ n * 4 := by
  intro n
  induction n with
  | zero => intro _; simp [allU]
  | succ n ih =>
   intro hn
   rw [allU_succ (r : Int) (List.getElem?_eq_getElem (by omega) : p.ps[n]? = some p.ps[n]), List.length_append]
   have h3 := ih (by omega)
   have h4 := h1 n p.ps[n]
   have h5 := (h.2.2 p.ps[n] (List.getElem_mem _)).2.1
   omega
 have h3 := h2 p.ps.length (Nat.le_refl _)
 rw [List.take_length] at h3
 have h4 := openA_len p.ps p.at_ (r : Int)
 have h5 := h.2.1
 omega

theorem plK_congr {lt lt' : Ref → Ref → Bool} {u : Ref} {l : List Ref} (h : ∀ v ∈ l, lt u v = lt' u v) : ∀ k, plK lt u l k = plK lt' u l k
 | 0 => rfl
 | k + 1 => by
  unfold plK
  rw [plK_congr h k]
  cases e : l[k]? with
  | none => rfl
  | some v => simp only [h v (List.mem_of_getElem? e)]
theorem sortB_congr {lt lt' : Ref → Ref → Bool} {M : List Ref} (h : ∀ u ∈ M, ∀ v ∈ M, lt u v = lt' u v) : sortB lt M = sortB lt' M := by
 unfold sortB
 have key : ∀ (l acc : List Ref), (∀ u ∈ l, u ∈ M) → (∀ u ∈ acc, u ∈ M) → l.foldl (fun acc u => plU lt u acc) acc = l.foldl (fun acc u => plU lt' u acc) acc := by
  intro l
  induction l with
  | nil => intro _ _ _; rfl
  | cons a l ih =>
   intro acc h1 h2
   have e : plU lt a acc = plU lt' a acc := by
    unfold plU
    rw [plK_congr (fun v hv => h a (h1 a (by simp)) v (h2 v hv))]
   simp only [List.foldl_cons]
   rw [e]
   refine ih _ (fun u hu => h1 u (by simp [hu])) (fun u hu => ?_)
   have := (plU_permR lt' a acc).mem_iff.1 hu
   rcases List.mem_append.1 this with hm | hm
   ·exact h2 u hm
   ·simp at hm; subst hm; exact h1 u (by simp)
 exact key M [] (fun _ h => h) (by simp)
section
variable {ps : List (List Stage)} {at_ : List Int} {D : List RArc} {L : List Ref} {n r : Int} {l : List Ref}
/-- what leads to a use's entry leads to its release -/
theorem bef_rel (h : Topo ps at_ D L) {v : Ref} (hv : v ∈ openA ps at_ r) (hd : doneR at_ v = false) (t : Int) : befS ps at_ D L t v ≤ befS ps at_ D L t (relOf ps r v) := by
 unfold relOf
 split
 ·have hev := (open_use hv).2
  unfold openA openU at hv
  obtain ⟨hv, _⟩ := List.mem_filter.1 hv
  obtain ⟨tt, k, p, s, hp, hs, _, rfl⟩ := mem_allU.1 hv
  have hm : (⟨⟨(tt : Int), (k : Int)⟩, ⟨(tt : Int), (k : Int) + 1⟩, s.mn⟩ : RArc) ∈ arcsD ps D := List.mem_append_left _ (mem_chainR.2 ⟨tt, k, p, s, hp, hs, rfl⟩)
  have he : Ev ps at_ ⟨(tt : Int), (k : Int) + 1⟩ := by
   refine ⟨⟨tt, k + 1, p, hp, getElem?_lt hs, by simp⟩, ?_⟩
   unfold doneR at hd ⊢
   simp at hd ⊢
   omega
  exact (befS_arc h hm he hd t).1
 ·exact Int.le_refl _
theorem prec_lab (hvv : valid ps = true) (h : Topo ps at_ D L) (ho : ∀ a ∈ D, doneR at_ a.to = false) (hd : Dec ps at_ D r l) {u v : Ref} (hu : u ∈ l) (hv : v ∈ l) : decide (cmpL ps at_ (labS ps at_ n D L) r u v < 0) = precD ps D r u v := by
 unfold cmpL precD precL
 by_cases e : u = v
 ·subst e; simp
 ·rw [if_neg e]
  by_cases ht : u.tr = v.tr
  ·rw [if_pos ht, if_pos ht]
   by_cases hs : u.st < v.st <;> simp [hs]
  ·rw [if_neg ht, if_neg ht]
   have huo := hd.use u hu
   have hvo := hd.use v hv
   rw [leadsL_eq hvv (open_use huo).2.1]
   by_cases ha : arc0 (relOf ps r u) v ∈ D
   ·have hdn : doneR at_ v = false := ho _ ha
    have := (befS_arc h (List.mem_append_right _ ha) ⟨(open_use hvo).1, hdn⟩ (open_use huo).2.2 (relOf ps r u).tr).2 rfl
    have hl : leadsS ps at_ D L (relOf ps r u) v = true := by unfold leadsS; rw [decide_eq_true_eq]; exact this
    simp [hdn, hl, ha]
   ·have hb : arc0 (relOf ps r v) u ∈ D := (hd.all u hu v hv ht).resolve_left ha
    have hud : doneR at_ u = false := ho _ hb
    have hno : (!doneR at_ v && leadsS ps at_ D L (relOf ps r u) v) = false := by
     by_cases hvd : doneR at_ v = true
     ·rw [hvd]; rfl
     ·have hvd : doneR at_ v = false := by simpa using hvd
      cases hl : leadsS ps at_ D L (relOf ps r u) v with
      | false => rw [Bool.and_false]
      | true =>
       have h2 : Topo ps at_ (D ++ [arc0 (relOf ps r v) u]) L := ⟨h.nd, h.mem, fun a hm he => by
        rw [arcsD_snoc] at hm
        rcases List.mem_append.1 hm with hm | hm
        ·exact h.ord a hm he
        ·simp at hm; subst hm; exact h.ord _ (List.mem_append_right _ hb) he⟩
       have h3 := topo_bad h h2 (open_use hvo).2 ⟨(open_use huo).1, hud⟩
       have h4 := bef_rel h hvo hvd u.tr
       have h5 : u.st ≤ (relOf ps r u).st := by unfold relOf; split; (show u.st ≤ u.st + 1; omega); exact Int.le_refl _
       have h6 := relOf_tr ps r u
       unfold leadsS at hl h3
       rw [decide_eq_true_eq, h6] at hl
       rw [decide_eq_false_iff_not] at h3
       omega
    rw [hno]
    simp [ha]
end

set_option maxHeartbeats 1000000 in
theorem RDspCheck_any (p : Pb) (v : PV) (w : World) (h : RPb w (Old w) v p) :
  Calls Try.prog 21 #[.agg (v.cs p)] w fun e w' => e = .returned (.bool (checkP p)) ∧ KeepsAll w w' := by
 have HC := Lib.hid (fun W (hW : KeepsAll w W) => CheckState_any p.ps p.at_ v.A v.A2 v.c v.c2 W (h.kept hW).P (h.kept hW).A)
 have H := Lib.hid h
 clear h
 unfold PV.cs
 have KB : KeepsAll w (w.alloc (.cells #[.slice v.A p.ps.length v.c, .slice v.A2 p.at_.length v.c2, .slice v.A3 p.due.length v.c3, .slice v.A4 p.wgt.length v.c4, .int .i64 p.now] 25)) := (Keeps.refl _ _).alloc _
 have KBH := Lib.hid KB
 have BB : Hid (Blk (w.alloc (.cells #[.slice v.A p.ps.length v.c, .slice v.A2 p.at_.length v.c2, .slice v.A3 p.due.length v.c3, .slice v.A4 p.wgt.length v.c4, .int .i64 p.now] 25)) w.heap.size 25 #[.slice v.A p.ps.length v.c, .slice v.A2 p.at_.length v.c2, .slice v.A3 p.due.length v.c3, .slice v.A4 p.wgt.length v.c4, .int .i64 p.now]) := Blk.new _ _ _
 have CALL : Hid (∀ Q : Ending → World → Prop, (∀ w1, KeepsAll w w1 → Blk w1 w.heap.size 25 #[.slice v.A p.ps.length v.c, .slice v.A2 p.at_.length v.c2, .slice v.A3 p.due.length v.c3, .slice v.A4 p.wgt.length v.c4, .int .i64 p.now] → Q (.returned (.int .i64 (checkState p.ps p.at_))) w1) → Calls Try.prog 59 #[.slice v.A p.ps.length v.c, .slice v.A2 p.at_.length v.c2] (w.alloc (.cells #[.slice v.A p.ps.length v.c, .slice v.A2 p.at_.length v.c2, .slice v.A3 p.due.length v.c3, .slice v.A4 p.wgt.length v.c4, .int .i64 p.now] 25)) Q) := Lib.hid fun Q hQ => (HC.out _ KBH.out).mono (by rintro e w1 ⟨rfl, k1⟩; exact hQ w1 (KBH.out.tr k1) (BB.out.kept k1 (by simp)))
 clear KB
 by_cases g0 : checkState p.ps p.at_ = 0
 ·by_cases g1 : p.due.length = p.ps.length
  ·by_cases g2 : p.wgt.length = p.ps.length
   ·have G := Lib.hid (And.intro g0 (And.intro g1 g2))
    have g1' : ((p.due.length : Int) != (p.ps.length : Int)) = false := by rw [g1]; simp
    have g2' : ((p.wgt.length : Int) != (p.ps.length : Int)) = false := by rw [g2]; simp
    clear g1 g2
    cases q5 : isClk p.now with
    | false =>
     have QQ : Hid (checkP p = false) := by
      show _ = _
      cases e : checkP p with
      | false => rfl
      | true =>
       have h6 := (checkP_iff.1 e).2.2.2.2.2
       unfold isClk at q5
       rw [decide_eq_true h6.1, decide_eq_true h6.2] at q5
       cases q5
     go_enter Try.func21, Try.ntmps21
     go_wp2_with fail
     refine CALL.out _ fun w1 k1 hb => ?_
     rw [g0]
     clear g0
     have c0 := hb.cell 0
     have c2 := hb.cell 2
     have c3 := hb.cell 3
     have c4 := hb.cell 4
     simp at c0 c2 c3 c4
     have K1 := Lib.hid k1
     clear k1 hb
     go_wp2_with fail
     refine (seconds_any p.now w1).mono ?_
     rintro e w2 ⟨rfl, rfl⟩
     rw [q5]
     go_wp2
     go_ret
     exact ⟨by rw [QQ.out]; rfl, K1.out⟩
    | true =>
    have HQ5 : Hid (0 ≤ p.now ∧ p.now ≤ 4194304) := by
     show _ ∧ _
     unfold isClk at q5
     rw [Bool.and_eq_true, decide_eq_true_eq, decide_eq_true_eq] at q5
     exact q5
    go_enter Try.func21, Try.ntmps21
    go_wp2_with fail
    refine CALL.out _ fun w1 k1 hb => ?_
    rw [g0]
    clear g0
    have K1 := Lib.hid k1
    have HB := Lib.hid hb
    have H1 := Lib.hid (H.out.kept k1)
    have c0 := hb.cell 0
    have c1 := hb.cell 1
    have c2 := hb.cell 2
    have c3 := hb.cell 3
    have c4 := hb.cell 4
    have hz := hb.lt
    simp at c0 c1 c2 c3 c4
    clear k1 hb
    generalize w.heap.size = z at *
    have hps10 := (valid_lens (checkState_valid G.out.1)).1
    go_wp2_with fail
    refine (seconds_any p.now w1).mono ?_
    rintro e w2 ⟨rfl, rfl⟩
    rw [q5]
    clear q5
    go_wp2
    go_loop [37] (fun i => ∃ k : Nat, k ≤ p.ps.length ∧ i = .int .i64 (k : Int) ∧ (∀ x ∈ p.due.take k, 0 ≤ x ∧ x ≤ 16777216) ∧ (∀ x ∈ p.wgt.take k, 0 ≤ x ∧ x ≤ 1048576)) (fun i => p.ps.length - (intOf i).toNat)
    case atStart => exact ⟨0, by omega, rfl, by simp, by simp⟩
    case round =>
     obtain ⟨k, hk, rfl, hr1, hr2⟩ := hrel
     have HR := Lib.hid (And.intro hr1 hr2)
     clear hr1 hr2
     by_cases hlt : k < p.ps.length
     ·have hlt' : decide (k < p.ps.length) = true := decide_eq_true hlt
      have hkd : k < p.due.length := by rw [G.out.2.1]; exact hlt
      have hkw : k < p.wgt.length := by rw [G.out.2.2]; exact hlt
      obtain ⟨b3, o3, d, hA3, _, hdx, d3⟩ := H1.out.D.at_ hkd
      obtain ⟨b4, o4, g, hA4, _, hgx, d4⟩ := H1.out.W.at_ hkw
      rw [hA3] at c2
      rw [hA4] at c3
      have BAD : Hid (¬ (0 ≤ d ∧ d ≤ 16777216 ∧ 0 ≤ g ∧ g ≤ 1048576) → checkP p = false) := Lib.hid fun hn => by
       cases e : checkP p with
       | false => rfl
       | true =>
        have h1 := (checkP_iff.1 e).2.2.2.1 d (List.mem_of_getElem? hdx)
        have h2 := (checkP_iff.1 e).2.2.2.2.1 g (List.mem_of_getElem? hgx)
        exact absurd ⟨h1.1, h1.2, h2.1, h2.2⟩ hn
      have HX := Lib.hid (And.intro hdx hgx)
      clear hdx hgx hA3 hA4
      by_cases q1 : d < 0
      ·have q1' : decide (d < 0) = true := decide_eq_true q1
       have QQ := Lib.hid (BAD.out (by omega))
       go_wp2
       go_ret
       exact ⟨by rw [QQ.out]; rfl, K1.out⟩
      ·have q1' : decide (d < 0) = false := decide_eq_false q1
       by_cases q2 : d > 16777216
       ·have q2' : decide (d > 16777216) = true := decide_eq_true q2
        have QQ := Lib.hid (BAD.out (by omega))
        go_wp2
        go_ret
        exact ⟨by rw [QQ.out]; rfl, K1.out⟩
       ·have q2' : decide (d > 16777216) = false := decide_eq_false q2
        by_cases q3 : g < 0
        ·have q3' : decide (g < 0) = true := decide_eq_true q3
         have QQ := Lib.hid (BAD.out (by omega))
         go_wp2
         go_ret
         exact ⟨by rw [QQ.out]; rfl, K1.out⟩
        ·have q3' : decide (g < 0) = false := decide_eq_false q3
         by_cases q4 : g > 1048576
         ·have q4' : decide (g > 1048576) = true := decide_eq_true q4
          have QQ := Lib.hid (BAD.out (by omega))
          go_wp2
          go_ret
          exact ⟨by rw [QQ.out]; rfl, K1.out⟩
         ·have q4' : decide (g > 1048576) = false := decide_eq_false q4
          have HN : Hid ((∀ x ∈ p.due.take (k + 1), 0 ≤ x ∧ x ≤ 16777216) ∧ (∀ x ∈ p.wgt.take (k + 1), 0 ≤ x ∧ x ≤ 1048576)) := by
           refine Lib.hid ⟨fun x hx => ?_, fun x hx => ?_⟩
           ·rw [List.take_add_one, HX.out.1] at hx
            rcases List.mem_append.1 hx with hx | hx
            ·exact HR.out.1 x hx
            ·simp at hx; subst hx; omega
           ·rw [List.take_add_one, HX.out.2] at hx
            rcases List.mem_append.1 hx with hx | hx
            ·exact HR.out.2 x hx
            ·simp at hx; subst hx; omega
          go_wp2
          go_round
          case rel => exact ⟨k + 1, by omega, by go_num, HN.out.1, HN.out.2⟩
          case measure => simp [intOf]; omega
     ·have hlt' : decide (k < p.ps.length) = false := decide_eq_false hlt
      obtain rfl : k = p.ps.length := by omega
      have HALL : Hid ((∀ x ∈ p.due, 0 ≤ x ∧ x ≤ 16777216) ∧ (∀ x ∈ p.wgt, 0 ≤ x ∧ x ≤ 1048576)) := by
       have h1 := HR.out.1
       have h2 := HR.out.2
       rw [← G.out.2.1, List.take_length] at h1
       rw [← G.out.2.2, List.take_length] at h2
       exact Lib.hid ⟨h1, h2⟩
      have QQ : Hid (checkP p = true) := by
       show _ = _
       rw [checkP_iff]
       exact ⟨G.out.1, G.out.2.1, G.out.2.2, HALL.out.1, HALL.out.2, HQ5.out.1, HQ5.out.2⟩
      go_wp2
      go_ret
      exact ⟨by rw [QQ.out]; rfl, K1.out⟩
   ·have QQ : Hid (checkP p = false) := by
     show _ = _
     cases e : checkP p with
     | false => rfl
     | true => exact absurd (checkP_iff.1 e).2.2.1 g2
    have g1' : ((p.due.length : Int) != (p.ps.length : Int)) = false := by rw [g1]; simp
    have g2' : ((p.wgt.length : Int) != (p.ps.length : Int)) = true := by simp; omega
    clear g1 g2
    go_enter Try.func21, Try.ntmps21
    go_wp2_with fail
    refine CALL.out _ fun w1 k1 hb => ?_
    rw [g0]
    clear g0
    have c0 := hb.cell 0
    have c2 := hb.cell 2
    have c3 := hb.cell 3
    simp at c0 c2 c3
    have K1 := Lib.hid k1
    clear k1 hb
    go_wp2
    go_ret
    exact ⟨by rw [QQ.out]; rfl, K1.out⟩
  ·have QQ : Hid (checkP p = false) := by
    show _ = _
    cases e : checkP p with
    | false => rfl
    | true => exact absurd (checkP_iff.1 e).2.1 g1
   have g1' : ((p.due.length : Int) != (p.ps.length : Int)) = true := by simp; omega
   clear g1
   go_enter Try.func21, Try.ntmps21
   go_wp2_with fail
   refine CALL.out _ fun w1 k1 hb => ?_
   rw [g0]
   clear g0
   have c0 := hb.cell 0
   have c2 := hb.cell 2
   simp at c0 c2
   have K1 := Lib.hid k1
   clear k1 hb
   go_wp2
   go_ret
   exact ⟨by rw [QQ.out]; rfl, K1.out⟩
 ·have QQ : Hid (checkP p = false) := by
   show _ = _
   cases e : checkP p with
   | false => rfl
   | true => exact absurd (checkP_iff.1 e).1 g0
  have g0' : (checkState p.ps p.at_ != 0) = true := by simpa using g0
  clear g0
  go_enter Try.func21, Try.ntmps21
  go_wp2_with fail
  refine CALL.out _ fun w1 k1 hb => ?_
  generalize checkState p.ps p.at_ = x at *
  have K1 := Lib.hid k1
  clear k1 hb
  go_wp2
  go_ret
  exact ⟨by rw [QQ.out]; rfl, K1.out⟩

def RPr : Rd Pr := fun _ _ cs x => cs = [.int .i64 x.res, .int .i64 x.u.tr, .int .i64 x.u.st, .int .i64 x.v.tr, .int .i64 x.v.st]
theorem RPr.ok : Rd.Ok RPr := ⟨fun h _ _ => h⟩
theorem RPr.flat : Rd.Flat RPr := fun _ _ _ _ _ _ h => h

/-- the list of pairs grows while the uses of a resource stay -/
structure PrI (wo w2 wr : World) (vv : Value) : Prop where
 k : Keeps (fun b => b < wo.heap.size) w2 wr
 ow : ∀ b, vv.ownBlock = some b → b < wo.heap.size ∨ w2.heap.size ≤ b
theorem PrI.keep {wo w2 wr w' : World} {vv : Value} (h : PrI wo w2 wr vv) (k : KeepsAll wr w') : PrI wo w2 w' vv := ⟨h.k.trans k (fun _ _ e => e.elim), h.ow⟩
theorem PrI.push {wo w2 wr w9 : World} {vv v9 : Value} (h : PrI wo w2 wr vv) (k : Keeps (fun b => vv.ownBlock = some b) wr w9) (hn : v9.ownBlock = vv.ownBlock ∨ v9.ownBlock = some wr.heap.size) : PrI wo w2 w9 v9 := by
 refine ⟨h.k.trans k (fun b hb e => ?_), fun b hb => ?_⟩
 ·rcases h.ow b e with h1 | h1
  ·exact h1
  ·omega
 ·rcases hn with hn | hn
  ·exact h.ow b (by rw [← hn]; exact hb)
  ·rw [hn] at hb
   injection hb with hb
   have := h.k.size
   exact .inr (by omega)
theorem PrI.rd {wo w2 wr : World} {vv : Value} (h : PrI wo w2 wr vv) {α : Type} {E : Rd α} (hE : Rd.Ok E) {cs : List Value} {x : α} (hr : E w2 (Fresh wo w2) cs x) : E wr (Old wr) cs x :=
 hE.mono hr (fun b hb => Nat.lt_of_lt_of_le hb.2 h.k.size) (fun b hb => h.k.block b hb.2 (by have := hb.1; show ¬ b < _; omega))

abbrev RPrs := RSlice 5 RPr
theorem RPrs.ok : Rd.Ok RPrs := RSlice.ok RPr.ok
theorem RPrs.at_ {w : World} {S : Foot} {A : Option Addr} {n c : Nat} {l : List Pr} (h : RPrs w S [.slice A n c] l) {k : Nat} (hk : k < l.length) :
  ∃ b o x, A = some ⟨b, o, none⟩ ∧ S b ∧ l[k]? = some x ∧ w.cell? ⟨b, o + k * 5, none⟩ = some (.int .i64 x.res) ∧ w.cell? ⟨b, o + k * 5 + 1, none⟩ = some (.int .i64 x.u.tr) ∧ w.cell? ⟨b, o + k * 5 + 2, none⟩ = some (.int .i64 x.u.st) ∧ w.cell? ⟨b, o + k * 5 + 3, none⟩ = some (.int .i64 x.v.tr) ∧ w.cell? ⟨b, o + k * 5 + 4, none⟩ = some (.int .i64 x.v.st) := by
 obtain ⟨b, o, x, es, rfl, hb, hx, h1, h2, h3⟩ := h.get hk
 cases h2
 exact ⟨b, o, x, rfl, hb, hx, by simpa using h3 0 _ rfl, by simpa [Nat.add_assoc] using h3 1 _ rfl, by simpa [Nat.add_assoc] using h3 2 _ rfl, by simpa [Nat.add_assoc] using h3 3 _ rfl, by simpa [Nat.add_assoc] using h3 4 _ rfl⟩
def rdC (v : PV) (p : Pb) (Ap : Option Addr) (cp budget used : Nat) (vf : Value) (fd : Bool) (vb : Value) (vc : Int) (ve : Value) : Array Value :=
 #[.slice v.A p.ps.length v.c, .slice v.A2 p.at_.length v.c2, .slice v.A3 p.due.length v.c3, .slice v.A4 p.wgt.length v.c4, .int .i64 p.now, .slice Ap (xs p).length cp, .int .i64 (budget : Int), .int .i64 (used : Int), vf, .bool fd, vb, .int .i64 vc, ve]
/-- the best choice so far -/
def RBest (w : World) (S : Foot) (p : Pb) (best : Option (List Bool × Int)) (fd : Bool) (vb : Value) (vc : Int) (ve : Value) : Prop :=
 match best with
 | none => fd = false
 | some b => fd = true ∧ vc = b.2 ∧ RBools w S [vb] b.1 ∧ RIntss w S [ve] (entB p b.1)
theorem RBest.mono {w w' : World} {S S' : Foot} {p : Pb} {best : Option (List Bool × Int)} {fd : Bool} {vb : Value} {vc : Int} {ve : Value} (h : RBest w S p best fd vb vc ve) (hS : ∀ b, S b → S' b) (hw : ∀ b, S b → w'.heap[b]? = w.heap[b]?) : RBest w' S' p best fd vb vc ve := by
 unfold RBest at *
 cases best with
 | none => exact h
 | some b => exact ⟨h.1, h.2.1, RBools.ok.mono h.2.2.1 hS hw, RIntss.ok.mono h.2.2.2 hS hw⟩
def SBt (rb : Nat) (w : World) (vf : Value) : Foot := fun b => rb < b ∧ b < w.heap.size ∧ vf.ownBlock ≠ some b
/-- the search in memory -/
structure RDs (w0 : World) (rb : Nat) (v : PV) (p : Pb) (Ap : Option Addr) (cp budget : Nat) (w : World) (bs : List Bool) (st : SSt) : Prop where
 k : KeepsAll w0 w
 P : RPb w0 (Old w0) v p
 lo : w0.heap.size ≤ rb
 pr : RPrs w (fun b => b < rb) [.slice Ap (xs p).length cp] (xs p)
 b : ∃ vf fd vb vc ve, Blk w rb 90 (rdC v p Ap cp budget st.steps vf fd vb vc ve) ∧ OwnL 4 1 RBool w (rb + 1) (rb + 1) vf bs ∧ RBest w (SBt rb w vf) p st.best fd vb vc ve
section
variable {w0 w w' : World} {rb : Nat} {v : PV} {p : Pb} {Ap : Option Addr} {cp budget : Nat} {bs : List Bool} {st : SSt}
theorem RDs.rlt (h : RDs w0 rb v p Ap cp budget w bs st) : rb < w.heap.size := by obtain ⟨_, _, _, _, _, hb, _⟩ := h.b; exact hb.lt
theorem RDs.keep (h : RDs w0 rb v p Ap cp budget w bs st) (k : KeepsAll w w') : RDs w0 rb v p Ap cp budget w' bs st := by
 obtain ⟨vf, fd, vb, vc, ve, h1, h2, h3⟩ := h.b
 have hz := h.rlt
 refine ⟨h.k.tr k, h.P, h.lo, RPrs.ok.mono h.pr (fun _ hb => hb) (fun b hb => k.block b (by have : b < rb := hb; omega) (by simp)), vf, fd, vb, vc, ve, h1.kept k (by simp), h2.keepsF RBool.flat k (by simp), h3.mono (fun b hb => ⟨hb.1, Nat.lt_of_lt_of_le hb.2.1 k.size, hb.2.2⟩) (fun b hb => k.block b hb.2.1 (by simp))⟩
/-- what the functions read -/
theorem RDs.rpb (h : RDs w0 rb v p Ap cp budget w bs st) : RPb w (Old w) v p := h.P.kept h.k
end

end Go.Proofs.Ytilbbpbjhoidhaa
