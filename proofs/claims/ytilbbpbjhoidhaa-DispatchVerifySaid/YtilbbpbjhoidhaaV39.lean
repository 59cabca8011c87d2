/- Chapter 37, plain: what Solve's search gives; a later second or a heavier weight never lowers the cost. No program in sight. The statement DispatchLater: its function returns true. No condition beyond the arguments' reading. The orders of a complete choice of chapter 37: the program's and the reference's. No program in sight. Contract of the reference's CheckProblem of chapter 37. Conditions: as the theorem says. Contract of the reference's Cost of chapter 37. Conditions: as the theorem says. Contract of the reference's Open of chapter 37. Conditions: as the theorem says. Contract of the reference's Pairs of chapter 37. Conditions: as the theorem says. -/
import Derived.Test.YtilbbpbjhoidhaaV32
import Derived.Test.YtilbbpbjhoidhaaV38
import Derived.Deep.Cut
import Derived.Test.YtilbbpbjhoidhaaV17
import Derived.Test.YtilbbpbjhoidhaaV22
import Derived.Test.YtilbbpbjhoidhaaV14
import Derived.Test.YtilbbpbjhoidhaaV35
namespace Go.Proofs.Ytilbbpbjhoidhaa
open Go.RowKit

theorem checkP_Gd {p : Pb} (h : checkP p = true) : Gd p.ps p.at_ := by
 have h1 := (checkP_iff.1 h).1
 rw [← good_Gd]
 unfold checkState at h1
 by_cases g : (valid p.ps && good p.ps p.at_) = false
 ·rw [if_pos g] at h1; cases h1
 ·rw [Bool.not_eq_false, Bool.and_eq_true] at g; exact g.2
theorem checkP_wgt {p : Pb} (h : checkP p = true) (t : Nat) : 0 ≤ nowAt p.wgt t := by
 obtain ⟨_, _, _, _, h5, _⟩ := checkP_iff.1 h
 by_cases ht : t < p.wgt.length
 ·exact (h5 _ (nowAt_mem ht)).1
 ·unfold nowAt
  rw [List.getElem?_eq_none (by omega)]
  exact Int.le_refl _
theorem search_ok {p : Pb} (h : checkP p = true) (budget : Nat) : BestOk p (searchD budget p).2 ∧ ((searchD budget p).1 = true → ∀ cs : List Bool, cs.length = (xs p).length → okB p cs = true → ∃ b c, (searchD budget p).2.best = some (b, c) ∧ c ≤ costB p cs) := by
 have hok : okB p [] = true := by
  unfold okB
  have : decs p.ps (xs p) [] = [] := by unfold decs; cases xs p <;> rfl
  rw [this]
  exact okD_nil (checkP_Gd h)
 have := decF_ok (p := p) (checkP_Gd h) (checkP_wgt h) budget (xs p).length [] ⟨0, none⟩ (by simp) hok (by intro b c e; cases e)
 rw [searchD_eq]
 refine ⟨this.ok (by intro b c e; cases e), fun h1 cs hl hk => ?_⟩
 have h2 := this.cov h1 cs hl
 rw [List.nil_append] at h2
 exact h2 hk
theorem solve_cases {p : Pb} (h : checkP p = true) {b : Int} (hb : 1 ≤ b ∧ b ≤ 1048576) :
  ((searchD b.toNat p).1 = false ∧ solveP b p = (sol0, 0, 15)) ∨ ((searchD b.toNat p).1 = true ∧ (searchD b.toNat p).2.best = none ∧ solveP b p = (sol0, ((searchD b.toNat p).2.steps : Int), 19)) ∨
  ∃ bs c, (searchD b.toNat p).1 = true ∧ (searchD b.toNat p).2.best = some (bs, c) ∧ solveP b p = (⟨ordB p bs, entB p bs, c⟩, ((searchD b.toNat p).2.steps : Int), 0) := by
 unfold solveP
 rw [if_neg (by rw [h]; simp), if_neg (by omega)]
 cases e : (searchD b.toNat p).1 with
 | false => left; exact ⟨rfl, by rw [if_pos rfl]⟩
 | true =>
  right
  rw [if_neg (by simp)]
  cases f : (searchD b.toNat p).2.best with
  | none => left; exact ⟨rfl, rfl, rfl⟩
  | some x => right; exact ⟨x.1, x.2, rfl, rfl, rfl⟩
theorem base_mono {ps : List (List Stage)} {at_ : List Int} {n n' : Int} (h : n ≤ n') (u : Ref) : baseN ps at_ n u ≤ baseN ps at_ n' u := by
 unfold baseN base2
 have h1 : baseS ps n ⟨(u.tr.toNat : Int), (u.st.toNat : Int)⟩ ≤ baseS ps n' ⟨(u.tr.toNat : Int), (u.st.toNat : Int)⟩ := by
  unfold baseS
  cases ((ps[(⟨(u.tr.toNat : Int), (u.st.toNat : Int)⟩ : Ref).tr.toNat]?).getD [])[(⟨(u.tr.toNat : Int), (u.st.toNat : Int)⟩ : Ref).st.toNat]? with
  | none => exact h
  | some s => simp only [Option.elim_some]; omega
 split <;> omega

theorem made_open {p : Pb} (h : psMade p.ps) : ∀ r : Nat, r < 144 → (openA p.ps p.at_ (r : Int)).length ≤ 12 := fun r _ => by
 have h1 : ∀ (t : Nat) (q : List Stage), (pathAll (r : Int) t q).length ≤ q.length := fun t q => by
  have : ∀ n, n ≤ q.length → (pathAll (r : Int) t (q.take n)).length ≤ n := by
   intro n
   induction n with
   | zero => intro _; simp [pathAll]
   | succ n ih =>
    intro hn
    rw [pathAll_succ (r : Int) t (List.getElem?_eq_getElem (by omega) : q[n]? = some q[n]), List.length_append]
    have := ih (by omega)
    split <;> simp <;> omega
  have := this q.length (Nat.le_refl _)
  rwa [List.take_length] at this
 have h2 : ∀ n, n ≤ p.ps.length → (allU (p.ps.take n) (r : Int)).length ≤ n * 4 := by
  intro n
  induction n with
  | zero => intro _; simp [allU]
  | succ n ih =>
   intro hn
   rw [allU_succ (r : Int) (List.getElem?_eq_getElem (by omega) : p.ps[n]? = some p.ps[n]), List.length_append]
   have h3 := ih (by omega)
   have h4 := h1 n p.ps[n]
   have h5 := (h.2.2 p.ps[n] (List.getElem_mem _)).2.1
   omega
 have h3 := h2 p.ps.length (Nat.le_refl _)
 rw [List.take_length] at h3
 have h4 := openA_len p.ps p.at_ (r : Int)
 have h5 := h.2.1
 omega
theorem RPb.mono_ {w w' : World} {S S' : Foot} {v : PV} {p : Pb} (h : RPb w S v p) (hS : ∀ b, S b → S' b) (hw : ∀ b, S b → w'.heap[b]? = w.heap[b]?) : RPb w' S' v p :=
 ⟨RPaths.ok.mono h.P hS hw, RInts.ok.mono h.A hS hw, RInts.ok.mono h.D hS hw, RInts.ok.mono h.W hS hw⟩
theorem solve_err {b : Int} {p : Pb} (h : (solveP b p).2.2 = 0) : checkP p = true := by
 cases hc : checkP p with
 | true => rfl
 | false => unfold solveP at h; rw [if_pos hc] at h; cases h

theorem plK_congr {lt lt' : Ref → Ref → Bool} {u : Ref} {l : List Ref} (h : ∀ v ∈ l, lt u v = lt' u v) : ∀ k, plK lt u l k = plK lt' u l k
 | 0 => rfl
 | k + 1 => by
  unfold plK
  rw [plK_congr h k]
  cases e : l[k]? with
  | none => rfl
  | some v => simp only [h v (List.mem_of_getElem? e)]
theorem sortB_congr {lt lt' : Ref → Ref → Bool} {M : List Ref} (h : ∀ u ∈ M, ∀ v ∈ M, lt u v = lt' u v) : sortB lt M = sortB lt' M := by
 unfold sortB
 have key : ∀ (l acc : List Ref), (∀ u ∈ l, u ∈ M) → (∀ u ∈ acc, u ∈ M) → l.foldl (fun acc u => plU lt u acc) acc = l.foldl (fun acc u => plU lt' u acc) acc := by
  intro l
  induction l with
  | nil => intro _ _ _; rfl
  | cons a l ih =>
   intro acc h1 h2
   have e : plU lt a acc = plU lt' a acc := by
    unfold plU
    rw [plK_congr (fun v hv => h a (h1 a (by simp)) v (h2 v hv))]
   simp only [List.foldl_cons]
   rw [e]
   refine ih _ (fun u hu => h1 u (by simp [hu])) (fun u hu => ?_)
   have := (plU_permR lt' a acc).mem_iff.1 hu
   rcases List.mem_append.1 this with hm | hm
   ·exact h2 u hm
   ·simp at hm; subst hm; exact h1 u (by simp)
 exact key M [] (fun _ h => h) (by simp)
section
variable {ps : List (List Stage)} {at_ : List Int} {D : List RArc} {L : List Ref} {n r : Int} {l : List Ref}
theorem bef_rel (h : Topo ps at_ D L) {v : Ref} (hv : v ∈ openA ps at_ r) (hd : doneR at_ v = false) (t : Int) : befS ps at_ D L t v ≤ befS ps at_ D L t (relOf ps r v) := by
 unfold relOf
 split
 ·have hev := (open_use hv).2
  unfold openA openU at hv
  obtain ⟨hv, _⟩ := List.mem_filter.1 hv
  obtain ⟨tt, k, p, s, hp, hs, _, rfl⟩ := mem_allU.1 hv
  have hm : (⟨⟨(tt : Int), (k : Int)⟩, ⟨(tt : Int), (k : Int) + 1⟩, s.mn⟩ : RArc) ∈ arcsD ps D := List.mem_append_left _ (mem_chainR.2 ⟨tt, k, p, s, hp, hs, rfl⟩)
  have he : Ev ps at_ ⟨(tt : Int), (k : Int) + 1⟩ := by
   refine ⟨⟨tt, k + 1, p, hp, getElem?_lt hs, by simp⟩, ?_⟩
   unfold doneR at hd ⊢
   simp at hd ⊢
   omega
  exact (befS_arc h hm he hd t).1
 ·exact Int.le_refl _
theorem prec_lab (hvv : valid ps = true) (h : Topo ps at_ D L) (ho : ∀ a ∈ D, doneR at_ a.to = false) (hd : Dec ps at_ D r l) {u v : Ref} (hu : u ∈ l) (hv : v ∈ l) : decide (cmpL ps at_ (labS ps at_ n D L) r u v < 0) = precD ps D r u v := by
 unfold cmpL precD precL
 by_cases e : u = v
 ·subst e; simp
 ·rw [if_neg e]
  by_cases ht : u.tr = v.tr
  ·rw [if_pos ht, if_pos ht]
   by_cases hs : u.st < v.st <;> simp [hs]
  ·rw [if_neg ht, if_neg ht]
   have huo := hd.use u hu
   have hvo := hd.use v hv
   rw [leadsL_eq hvv (open_use huo).2.1]
   by_cases ha : arc0 (relOf ps r u) v ∈ D
   ·have hdn : doneR at_ v = false := ho _ ha
    have := (befS_arc h (List.mem_append_right _ ha) ⟨(open_use hvo).1, hdn⟩ (open_use huo).2.2 (relOf ps r u).tr).2 rfl
    have hl : leadsS ps at_ D L (relOf ps r u) v = true := by unfold leadsS; rw [decide_eq_true_eq]; exact this
    simp [hdn, hl, ha]
   ·have hb : arc0 (relOf ps r v) u ∈ D := (hd.all u hu v hv ht).resolve_left ha
    have hud : doneR at_ u = false := ho _ hb
    have hno : (!doneR at_ v && leadsS ps at_ D L (relOf ps r u) v) = false := by
     by_cases hvd : doneR at_ v = true
     ·rw [hvd]; rfl
     ·have hvd : doneR at_ v = false := by simpa using hvd
      cases hl : leadsS ps at_ D L (relOf ps r u) v with
      | false => rw [Bool.and_false]
      | true =>
       have h2 : Topo ps at_ (D ++ [arc0 (relOf ps r v) u]) L := ⟨h.nd, h.mem, fun a hm he => by
        rw [arcsD_snoc] at hm
        rcases List.mem_append.1 hm with hm | hm
        ·exact h.ord a hm he
        ·simp at hm; subst hm; exact h.ord _ (List.mem_append_right _ hb) he⟩
       have h3 := topo_bad h h2 (open_use hvo).2 ⟨(open_use huo).1, hud⟩
       have h4 := bef_rel h hvo hvd u.tr
       have h5 : u.st ≤ (relOf ps r u).st := by unfold relOf; split; (show u.st ≤ u.st + 1; omega); exact Int.le_refl _
       have h6 := relOf_tr ps r u
       unfold leadsS at hl h3
       rw [decide_eq_true_eq, h6] at hl
       rw [decide_eq_false_iff_not] at h3
       omega
    rw [hno]
    simp [ha]
end

set_option maxHeartbeats 1000000 in
theorem RDspCheck_any (p : Pb) (v : PV) (w : World) (h : RPb w (Old w) v p) :
  Calls Try.prog 21 #[.agg (v.cs p)] w fun e w' => e = .returned (.bool (checkP p)) ∧ KeepsAll w w' := by
 have HC := Lib.hid (fun W (hW : KeepsAll w W) => CheckState_any p.ps p.at_ v.A v.A2 v.c v.c2 W (h.kept hW).P (h.kept hW).A)
 have H := Lib.hid h
 clear h
 unfold PV.cs
 have KB : KeepsAll w (w.alloc (.cells #[.slice v.A p.ps.length v.c, .slice v.A2 p.at_.length v.c2, .slice v.A3 p.due.length v.c3, .slice v.A4 p.wgt.length v.c4, .int .i64 p.now] 25)) := (Keeps.refl _ _).alloc _
 have KBH := Lib.hid KB
 have BB : Hid (Blk (w.alloc (.cells #[.slice v.A p.ps.length v.c, .slice v.A2 p.at_.length v.c2, .slice v.A3 p.due.length v.c3, .slice v.A4 p.wgt.length v.c4, .int .i64 p.now] 25)) w.heap.size 25 #[.slice v.A p.ps.length v.c, .slice v.A2 p.at_.length v.c2, .slice v.A3 p.due.length v.c3, .slice v.A4 p.wgt.length v.c4, .int .i64 p.now]) := Blk.new _ _ _
 have CALL : Hid (∀ Q : Ending → World → Prop, (∀ w1, KeepsAll w w1 → Blk w1 w.heap.size 25 #[.slice v.A p.ps.length v.c, .slice v.A2 p.at_.length v.c2, .slice v.A3 p.due.length v.c3, .slice v.A4 p.wgt.length v.c4, .int .i64 p.now] → Q (.returned (.int .i64 (checkState p.ps p.at_))) w1) → Calls Try.prog 59 #[.slice v.A p.ps.length v.c, .slice v.A2 p.at_.length v.c2] (w.alloc (.cells #[.slice v.A p.ps.length v.c, .slice v.A2 p.at_.length v.c2, .slice v.A3 p.due.length v.c3, .slice v.A4 p.wgt.length v.c4, .int .i64 p.now] 25)) Q) := Lib.hid fun Q hQ => (HC.out _ KBH.out).mono (by rintro e w1 ⟨rfl, k1⟩; exact hQ w1 (KBH.out.tr k1) (BB.out.kept k1 (by simp)))
 clear KB
 by_cases g0 : checkState p.ps p.at_ = 0
 ·by_cases g1 : p.due.length = p.ps.length
  ·by_cases g2 : p.wgt.length = p.ps.length
   ·have G := Lib.hid (And.intro g0 (And.intro g1 g2))
    have g1' : ((p.due.length : Int) != (p.ps.length : Int)) = false := by rw [g1]; simp
    have g2' : ((p.wgt.length : Int) != (p.ps.length : Int)) = false := by rw [g2]; simp
    clear g1 g2
    cases q5 : isClk p.now with
    | false =>
     have QQ : Hid (checkP p = false) := by
      show _ = _
      cases e : checkP p with
      | false => rfl
      | true =>
       have h6 := (checkP_iff.1 e).2.2.2.2.2
       unfold isClk at q5
       rw [decide_eq_true h6.1, decide_eq_true h6.2] at q5
       cases q5
     go_enter Try.func21, Try.ntmps21
     go_wp2_with fail
     refine CALL.out _ fun w1 k1 hb => ?_
     rw [g0]
     clear g0
     have c0 := hb.cell 0
     have c2 := hb.cell 2
     have c3 := hb.cell 3
     have c4 := hb.cell 4
     simp at c0 c2 c3 c4
     have K1 := Lib.hid k1
     clear k1 hb
     go_wp2_with fail
     refine (seconds_any p.now w1).mono ?_
     rintro e w2 ⟨rfl, rfl⟩
     rw [q5]
     go_wp2
     go_ret
     exact ⟨by rw [QQ.out]; rfl, K1.out⟩
    | true =>
    have HQ5 : Hid (0 ≤ p.now ∧ p.now ≤ 4194304) := by
     show _ ∧ _
     unfold isClk at q5
     rw [Bool.and_eq_true, decide_eq_true_eq, decide_eq_true_eq] at q5
     exact q5
    go_enter Try.func21, Try.ntmps21
    go_wp2_with fail
    refine CALL.out _ fun w1 k1 hb => ?_
    rw [g0]
    clear g0
    have K1 := Lib.hid k1
    have HB := Lib.hid hb
    have H1 := Lib.hid (H.out.kept k1)
    have c0 := hb.cell 0
    have c1 := hb.cell 1
    have c2 := hb.cell 2
    have c3 := hb.cell 3
    have c4 := hb.cell 4
    have hz := hb.lt
    simp at c0 c1 c2 c3 c4
    clear k1 hb
    generalize w.heap.size = z at *
    have hps10 := (valid_lens (checkState_valid G.out.1)).1
    go_wp2_with fail
    refine (seconds_any p.now w1).mono ?_
    rintro e w2 ⟨rfl, rfl⟩
    rw [q5]
    clear q5
    go_wp2
    go_loop [37] (fun i => ∃ k : Nat, k ≤ p.ps.length ∧ i = .int .i64 (k : Int) ∧ (∀ x ∈ p.due.take k, 0 ≤ x ∧ x ≤ 16777216) ∧ (∀ x ∈ p.wgt.take k, 0 ≤ x ∧ x ≤ 1048576)) (fun i => p.ps.length - (intOf i).toNat)
    case atStart => exact ⟨0, by omega, rfl, by simp, by simp⟩
    case round =>
     obtain ⟨k, hk, rfl, hr1, hr2⟩ := hrel
     have HR := Lib.hid (And.intro hr1 hr2)
     clear hr1 hr2
     by_cases hlt : k < p.ps.length
     ·have hlt' : decide (k < p.ps.length) = true := decide_eq_true hlt
      have hkd : k < p.due.length := by rw [G.out.2.1]; exact hlt
      have hkw : k < p.wgt.length := by rw [G.out.2.2]; exact hlt
      obtain ⟨b3, o3, d, hA3, _, hdx, d3⟩ := H1.out.D.at_ hkd
      obtain ⟨b4, o4, g, hA4, _, hgx, d4⟩ := H1.out.W.at_ hkw
      rw [hA3] at c2
      rw [hA4] at c3
      have BAD : Hid (¬ (0 ≤ d ∧ d ≤ 16777216 ∧ 0 ≤ g ∧ g ≤ 1048576) → checkP p = false) := Lib.hid fun hn => by
       cases e : checkP p with
       | false => rfl
       | true =>
        have h1 := (checkP_iff.1 e).2.2.2.1 d (List.mem_of_getElem? hdx)
        have h2 := (checkP_iff.1 e).2.2.2.2.1 g (List.mem_of_getElem? hgx)
        exact absurd ⟨h1.1, h1.2, h2.1, h2.2⟩ hn
      have HX := Lib.hid (And.intro hdx hgx)
      clear hdx hgx hA3 hA4
      by_cases q1 : d < 0
      ·have q1' : decide (d < 0) = true := decide_eq_true q1
       have QQ := Lib.hid (BAD.out (by omega))
       go_wp2
       go_ret
       exact ⟨by rw [QQ.out]; rfl, K1.out⟩
      ·have q1' : decide (d < 0) = false := decide_eq_false q1
       by_cases q2 : d > 16777216
       ·have q2' : decide (d > 16777216) = true := decide_eq_true q2
        have QQ := Lib.hid (BAD.out (by omega))
        go_wp2
        go_ret
        exact ⟨by rw [QQ.out]; rfl, K1.out⟩
       ·have q2' : decide (d > 16777216) = false := decide_eq_false q2
        by_cases q3 : g < 0
        ·have q3' : decide (g < 0) = true := decide_eq_true q3
         have QQ := Lib.hid (BAD.out (by omega))
         go_wp2
         go_ret
         exact ⟨by rw [QQ.out]; rfl, K1.out⟩
        ·have q3' : decide (g < 0) = false := decide_eq_false q3
         by_cases q4 : g > 1048576
         ·have q4' : decide (g > 1048576) = true := decide_eq_true q4
          have QQ := Lib.hid (BAD.out (by omega))
          go_wp2
          go_ret
          exact ⟨by rw [QQ.out]; rfl, K1.out⟩
         ·have q4' : decide (g > 1048576) = false := decide_eq_false q4
          have HN : Hid ((∀ x ∈ p.due.take (k + 1), 0 ≤ x ∧ x ≤ 16777216) ∧ (∀ x ∈ p.wgt.take (k + 1), 0 ≤ x ∧ x ≤ 1048576)) := by
           refine Lib.hid ⟨fun x hx => ?_, fun x hx => ?_⟩
           ·rw [List.take_add_one, HX.out.1] at hx
            rcases List.mem_append.1 hx with hx | hx
            ·exact HR.out.1 x hx
            ·simp at hx; subst hx; omega
           ·rw [List.take_add_one, HX.out.2] at hx
            rcases List.mem_append.1 hx with hx | hx
            ·exact HR.out.2 x hx
            ·simp at hx; subst hx; omega
          go_wp2
          go_round
          case rel => exact ⟨k + 1, by omega, by go_num, HN.out.1, HN.out.2⟩
          case measure => simp [intOf]; omega
     ·have hlt' : decide (k < p.ps.length) = false := decide_eq_false hlt
      obtain rfl : k = p.ps.length := by omega
      have HALL : Hid ((∀ x ∈ p.due, 0 ≤ x ∧ x ≤ 16777216) ∧ (∀ x ∈ p.wgt, 0 ≤ x ∧ x ≤ 1048576)) := by
       have h1 := HR.out.1
       have h2 := HR.out.2
       rw [← G.out.2.1, List.take_length] at h1
       rw [← G.out.2.2, List.take_length] at h2
       exact Lib.hid ⟨h1, h2⟩
      have QQ : Hid (checkP p = true) := by
       show _ = _
       rw [checkP_iff]
       exact ⟨G.out.1, G.out.2.1, G.out.2.2, HALL.out.1, HALL.out.2, HQ5.out.1, HQ5.out.2⟩
      go_wp2
      go_ret
      exact ⟨by rw [QQ.out]; rfl, K1.out⟩
   ·have QQ : Hid (checkP p = false) := by
     show _ = _
     cases e : checkP p with
     | false => rfl
     | true => exact absurd (checkP_iff.1 e).2.2.1 g2
    have g1' : ((p.due.length : Int) != (p.ps.length : Int)) = false := by rw [g1]; simp
    have g2' : ((p.wgt.length : Int) != (p.ps.length : Int)) = true := by simp; omega
    clear g1 g2
    go_enter Try.func21, Try.ntmps21
    go_wp2_with fail
    refine CALL.out _ fun w1 k1 hb => ?_
    rw [g0]
    clear g0
    have c0 := hb.cell 0
    have c2 := hb.cell 2
    have c3 := hb.cell 3
    simp at c0 c2 c3
    have K1 := Lib.hid k1
    clear k1 hb
    go_wp2
    go_ret
    exact ⟨by rw [QQ.out]; rfl, K1.out⟩
  ·have QQ : Hid (checkP p = false) := by
    show _ = _
    cases e : checkP p with
    | false => rfl
    | true => exact absurd (checkP_iff.1 e).2.1 g1
   have g1' : ((p.due.length : Int) != (p.ps.length : Int)) = true := by simp; omega
   clear g1
   go_enter Try.func21, Try.ntmps21
   go_wp2_with fail
   refine CALL.out _ fun w1 k1 hb => ?_
   rw [g0]
   clear g0
   have c0 := hb.cell 0
   have c2 := hb.cell 2
   simp at c0 c2
   have K1 := Lib.hid k1
   clear k1 hb
   go_wp2
   go_ret
   exact ⟨by rw [QQ.out]; rfl, K1.out⟩
 ·have QQ : Hid (checkP p = false) := by
   show _ = _
   cases e : checkP p with
   | false => rfl
   | true => exact absurd (checkP_iff.1 e).1 g0
  have g0' : (checkState p.ps p.at_ != 0) = true := by simpa using g0
  clear g0
  go_enter Try.func21, Try.ntmps21
  go_wp2_with fail
  refine CALL.out _ fun w1 k1 hb => ?_
  generalize checkState p.ps p.at_ = x at *
  have K1 := Lib.hid k1
  clear k1 hb
  go_wp2
  go_ret
  exact ⟨by rw [QQ.out]; rfl, K1.out⟩

set_option maxRecDepth 100000 in
set_option maxHeartbeats 1000000 in
theorem RDspCost_any (p : Pb) (v : PV) (w : World) (h : RPb w (Old w) v p) (en : List (List Int)) (A : Option Addr) (c : Nat) (hE : RIntss w (Old w) [.slice A en.length c] en) :
  Calls Try.prog 26 #[.agg (v.cs p), .slice A en.length c] w fun e w' => e = .returned (.int .i64 (costE p en)) ∧ KeepsAll w w' := by
 have KB : KeepsAll w (w.alloc (.cells #[.slice v.A p.ps.length v.c, .slice v.A2 p.at_.length v.c2, .slice v.A3 p.due.length v.c3, .slice v.A4 p.wgt.length v.c4, .int .i64 p.now] 25)) := (Keeps.refl _ _).alloc _
 have BB : Hid (Blk (w.alloc (.cells #[.slice v.A p.ps.length v.c, .slice v.A2 p.at_.length v.c2, .slice v.A3 p.due.length v.c3, .slice v.A4 p.wgt.length v.c4, .int .i64 p.now] 25)) w.heap.size 25 (v.cs p)) := Blk.new _ _ _
 have CALL : Hid (∀ Q : Ending → World → Prop, (∀ w1, KeepsAll w w1 → Blk w1 w.heap.size 25 (v.cs p) → Q (.returned (.bool (checkP p))) w1) → Calls Try.prog 21 #[.agg #[.slice v.A p.ps.length v.c, .slice v.A2 p.at_.length v.c2, .slice v.A3 p.due.length v.c3, .slice v.A4 p.wgt.length v.c4, .int .i64 p.now]] (w.alloc (.cells #[.slice v.A p.ps.length v.c, .slice v.A2 p.at_.length v.c2, .slice v.A3 p.due.length v.c3, .slice v.A4 p.wgt.length v.c4, .int .i64 p.now] 25)) Q) := Lib.hid fun Q hQ => (RDspCheck_any p v _ (h.kept KB)).mono (by rintro e w1 ⟨rfl, k1⟩; exact hQ w1 (KB.tr k1) (BB.out.kept k1 (by simp)))
 have H := Lib.hid h
 have HE := Lib.hid hE
 clear h hE KB BB
 have hcs : Hid (v.cs p = #[.slice v.A p.ps.length v.c, .slice v.A2 p.at_.length v.c2, .slice v.A3 p.due.length v.c3, .slice v.A4 p.wgt.length v.c4, .int .i64 p.now]) := Lib.hid rfl
 rw [hcs.out]
 cases g0 : checkP p with
 | false =>
  have QQ := Lib.hid (costE_no (en := en) (.inl g0))
  go_enter Try.func26, Try.ntmps26
  go_wp2_with fail
  refine CALL.out _ fun w1 k1 hb => ?_
  rw [g0]
  have K1 := Lib.hid k1
  clear k1 hb g0
  go_wp2
  go_ret
  exact ⟨by rw [QQ.out]; rfl, K1.out⟩
 | true =>
  have HO := Lib.hid (checkP_ok g0)
  have hps10 := (valid_lens HO.out.v).1
  by_cases g1 : en.length = p.ps.length
  ·have g1' : ((en.length : Int) != (p.ps.length : Int)) = false := by rw [g1]; simp
   have G1 := Lib.hid g1
   have G0 := Lib.hid g0
   go_enter Try.func26, Try.ntmps26
   go_wp2_with fail
   refine CALL.out _ fun w1 k1 hb => ?_
   rw [g0]
   have K1 := Lib.hid k1
   have H1 := Lib.hid (H.out.kept k1)
   have HE1 := Lib.hid (k1.rdo' (RSlice.ok RInts.ok) HE.out)
   have HB := Lib.hid hb
   rw [hcs.out] at hb
   have c0 := hb.cell 0
   simp at c0
   have hz := hb.lt
   clear k1 hb g0 g1
   generalize w.heap.size = z at *
   go_wp2
   go_loopw [24, 5] (fun i sm wr => ∃ k : Nat, k ≤ en.length ∧ i = .int .i64 (k : Int) ∧ sm = .int .i64 (costEn p en k) ∧ KeepsAll w1 wr ∧ (∀ t, t < k → enOk p en t = true)) (fun i _ _ => en.length - (intOf i).toNat)
   case atStart => exact ⟨0, by omega, rfl, rfl, Keeps.refl _ _, fun t ht => by omega⟩
   case round =>
    obtain ⟨k, hk, rfl, rfl, kr, hall⟩ := hrel
    have KR := Lib.hid kr
    have HALL := Lib.hid hall
    have hbd := costEn_bd HO.out k (by rw [← G1.out]; exact hk) (fun t ht => (enOk_last (hall t ht)).2)
    clear hall
    by_cases hlt0 : k < en.length
    ·have hlt : k < p.ps.length := by rw [← G1.out]; exact hlt0
     have hlt' : decide (k < en.length) = true := decide_eq_true hlt0
     obtain ⟨bp, op, l, Al, cl, hAp, hbp, hpl, p0, _⟩ := RSS.atK kr H1.out.P hlt
     obtain ⟨be, oe, r, Ar, cr, hAe, hbe, her, e0, hrr⟩ := RSS.atK kr HE1.out (show k < en.length by rw [G1.out]; exact hlt)
     have hll : lenAt p.ps k = l.length := by unfold lenAt; rw [hpl]; rfl
     have hvc : v.A = some ⟨bp, op, none⟩ := hAp
     have HLL := Lib.hid hll
     have HER := Lib.hid her
     have HRR := Lib.hid (kr.rdo' RInts.ok hrr)
     have hl64 := ((valid_lens HO.out.v).2 l (List.mem_of_getElem? hpl)).2
     have hke : k < en.length := by rw [G1.out]; exact hlt
     have HBR := Lib.hid (HB.out.kept kr (by simp))
     have H1R := Lib.hid (H1.out.kept kr)
     subst hAe
     have hbr := HBR.out
     rw [hcs.out] at hbr
     have b0 := hbr.cell 0
     have b1 := hbr.cell 1
     have b2 := hbr.cell 2
     have b3 := hbr.cell 3
     have b5 := hbr.cell 4
     simp at b0 b1 b2 b3 b5
     rw [hvc] at b0
     have hbz := hbr.lt
     clear hpl hll her hrr c0 hAp hvc hbr
     have EN : Hid (enOk p en k = (decide (r.length = l.length + 1) && r.all secOk)) := by
      show _ = _
      unfold enOk
      rw [HER.out, ← HLL.out]
     by_cases g3 : r.length = l.length + 1
     ·have g3' : ((r.length : Int) != (l.length : Int) + 1) = false := by rw [g3]; simp
      have G3 := Lib.hid g3
      clear g3
      go_wp2
      go_loop [41] (fun i => ∃ m : Nat, m ≤ r.length ∧ i = .int .i64 (m : Int) ∧ (∀ x ∈ r.take m, secOk x = true)) (fun i => r.length - (intOf i).toNat)
      case atStart => exact ⟨0, by omega, rfl, by simp⟩
      case round =>
       obtain ⟨m, hm, rfl, hsec⟩ := hrel
       have HSEC := Lib.hid hsec
       clear hsec
       by_cases hlt2 : m < r.length
       ·have hlt2' : decide (m < r.length) = true := decide_eq_true hlt2
        obtain ⟨b4, o4, x, hA4, _, hx, x0⟩ := HRR.out.at_ hlt2
        subst hA4
        have HX := Lib.hid hx
        clear hx
        have hbad : Hid (secOk x = false → costE p en = 0) := Lib.hid fun hs => costE_no (.inr (.inr ⟨k, hlt, by
         rw [EN.out]
         rw [Bool.and_eq_false_iff]
         right
         rw [List.all_eq_false]
         exact ⟨x, List.mem_of_getElem? HX.out, by rw [hs]; simp⟩⟩))
        by_cases q1 : x < -1
        ·have q1' : decide (x < -1) = true := decide_eq_true q1
         have QQ := Lib.hid (hbad.out (by unfold secOk; rw [decide_eq_false (show ¬ -1 ≤ x by omega)]; rfl))
         go_wp2
         go_ret
         exact ⟨by rw [QQ.out]; rfl, K1.out.tr KR.out⟩
        ·have q1' : decide (x < -1) = false := decide_eq_false q1
         by_cases q2 : x > 4294967296
         ·have q2' : decide (x > 4294967296) = true := decide_eq_true q2
          have QQ := Lib.hid (hbad.out (by unfold secOk; rw [decide_eq_false (show ¬ x ≤ 4294967296 by omega)]; simp))
          go_wp2
          go_ret
          exact ⟨by rw [QQ.out]; rfl, K1.out.tr KR.out⟩
         ·have q2' : decide (x > 4294967296) = false := decide_eq_false q2
          have HS2 : Hid (∀ y ∈ r.take (m + 1), secOk y = true) := Lib.hid fun y hy => by
           rw [List.take_add_one, HX.out] at hy
           rcases List.mem_append.1 hy with hy | hy
           ·exact HSEC.out y hy
           ·simp at hy
            subst hy
            unfold secOk
            rw [decide_eq_true (show -1 ≤ y by omega), decide_eq_true (show y ≤ 4294967296 by omega)]; rfl
          have hr65 : r.length ≤ 65 := by rw [G3.out]; omega
          go_wp2
          go_round
          case rel => exact ⟨m + 1, by omega, by go_num, HS2.out⟩
          case measure => simp [intOf]; omega
       ·have hlt2' : decide (m < r.length) = false := decide_eq_false hlt2
        obtain rfl : m = r.length := by omega
        have hok : enOk p en k = true := by
         rw [EN.out, decide_eq_true G3.out, Bool.true_and, List.all_eq_true]
         have := HSEC.out
         rwa [List.take_length] at this
        have HOK := Lib.hid hok
        have hlast := enOk_last hok
        have hlx : lastOf p en k = (r[l.length]?).getD 0 := by unfold lastOf; rw [HER.out, HLL.out]; rfl
        obtain ⟨b4, o4, x, hA4, hb4, hx, x0⟩ := HRR.out.at_ (k := r.length - 1) (by rw [G3.out]; omega)
        subst hA4
        have hx1 : r[l.length]? = some x := by have := hx; rw [G3.out] at this; exact this
        rw [hx1] at hlx
        have hlx : lastOf p en k = x := hlx
        rw [hlx] at hlast
        have HLX := Lib.hid hlx
        have hb4' : b4 < wr.heap.size := hb4
        have hrl : 1 ≤ r.length := by rw [G3.out]; omega
        have hrl2 : r.length ≤ 65 := by rw [G3.out]; omega
        have hd1 := HO.out.d k hlt
        have hd2 := HO.out.w k hlt
        have hlb := lateP_bd HO.out hlt hlast.2
        have hkd : k < p.due.length := by rw [HO.out.l.1]; exact hlt
        have hkw : k < p.wgt.length := by rw [HO.out.l.2]; exact hlt
        obtain ⟨b6, o6, dd, hA6, hb6, hdx, d0⟩ := H1R.out.D.at_ hkd
        obtain ⟨b7, o7, gg, hA7, hb7, hgx, g0⟩ := H1R.out.W.at_ hkw
        have hb6' : b6 < wr.heap.size := hb6
        have hb7' : b7 < wr.heap.size := hb7
        rw [hA6] at b2
        rw [hA7] at b3
        have hnd : nowAt p.due k = dd := by unfold nowAt; rw [hdx]; rfl
        have hng : nowAt p.wgt k = gg := by unfold nowAt; rw [hgx]; rfl
        rw [hnd] at hd1
        rw [hng] at hd2
        have HLT : Hid (lateP p k x = if x < dd then 0 else gg * (x - dd)) := by show _ = _; unfold lateP; rw [hnd, hng]
        have HSUM : Hid (costEn p en (k + 1) = costEn p en k + lateP p k x) := by show _ = _; rw [← HLX.out]; rfl
        have HALL2 : Hid (∀ t, t < k + 1 → enOk p en t = true) := Lib.hid fun t ht => by
         by_cases e : t = k
         ·subst e; exact HOK.out
         ·exact HALL.out t (by omega)
        have hke2 : k < en.length := hlt0
        clear hok hx hx1 hlx hA6 hA7 hdx hgx hnd hng
        by_cases hgt : x > dd
        ·have hgt' : decide (x > dd) = true := decide_eq_true hgt
         have hlv : lateP p k x = gg * (x - dd) := by rw [HLT.out, if_neg (by omega)]
         rw [hlv] at hlb
         have hws : IntKind.i64.wrap (x - dd) = x - dd := IntWalk.i64_in _ (by omega)
         have hwm : IntKind.i64.wrap (gg * (x - dd)) = gg * (x - dd) := IntWalk.i64_in _ (by omega)
         have hwa : IntKind.i64.wrap (costEn p en k + gg * (x - dd)) = costEn p en k + gg * (x - dd) := IntWalk.i64_in _ (by omega)
         have HV := Lib.hid hlv
         clear hlv
         go_wp2
         go_quiet (fail)
         go_wp2
         go_roundw
         case rel => exact ⟨k + 1, by omega, by go_num, by rw [HSUM.out, HV.out], by first | exact KR.out | exact KR.out.drewN _, HALL2.out⟩
         case measure => simp [intOf]; omega
        ·have hgt' : decide (x > dd) = false := decide_eq_false hgt
         have HV : Hid (lateP p k x = 0) := by
          show _ = _
          rw [HLT.out]
          split
          ·rfl
          ·rw [show x - dd = 0 by omega, Int.mul_zero]
         go_wp2
         go_roundw
         case rel => exact ⟨k + 1, by omega, by go_num, by rw [HSUM.out, HV.out, Int.add_zero], KR.out, HALL2.out⟩
         case measure => simp [intOf]; omega
     ·have g3' : ((r.length : Int) != (l.length : Int) + 1) = true := by simp; omega
      have QQ := Lib.hid (costE_no (.inr (.inr ⟨k, hlt, by rw [EN.out, decide_eq_false g3]; rfl⟩)))
      clear g3
      go_wp2
      go_ret
      exact ⟨by rw [QQ.out]; rfl, K1.out.tr KR.out⟩
    ·have hlt' : decide (k < en.length) = false := decide_eq_false hlt0
     obtain rfl : k = p.ps.length := by have := G1.out; omega
     have QQ := Lib.hid (costE_yes G0.out G1.out HALL.out)
     clear kr
     go_wp2
     go_ret
     exact ⟨by rw [QQ.out]; rfl, K1.out.tr KR.out⟩
  ·have g1' : ((en.length : Int) != (p.ps.length : Int)) = true := by simp; omega
   have QQ := Lib.hid (costE_no (p := p) (en := en) (.inr (.inl g1)))
   go_enter Try.func26, Try.ntmps26
   go_wp2_with fail
   refine CALL.out _ fun w1 k1 hb => ?_
   rw [g0]
   have K1 := Lib.hid k1
   rw [hcs.out] at hb
   have c0 := hb.cell 0
   simp at c0
   clear k1 hb g0 g1
   go_wp2
   go_ret
   exact ⟨by rw [QQ.out]; rfl, K1.out⟩

set_option maxRecDepth 100000 in
set_option maxHeartbeats 1000000 in
theorem ROpen_any (p : Pb) (v : PV) (w : World) (r : Int) (h : RPb w (Old w) v p) (hv : valid p.ps = true) (hal : p.at_.length = p.ps.length) :
  Calls Try.prog 56 #[.agg (v.cs p), .int .i64 r] w fun e w' => ∃ A c, e = .returned (.slice A (openA p.ps p.at_ r).length c) ∧ RRefs w' (Fresh w w') [.slice A (openA p.ps p.at_ r).length c] (openA p.ps p.at_ r) ∧ KeepsAll w w' := by
 have H := Lib.hid h
 have HV := Lib.hid hv
 have HAL := Lib.hid hal
 clear h hal
 unfold PV.cs
 go_enter Try.func56, Try.ntmps56
 go_wp2_with fail
 generalize hW1 : World.alloc w _ = W1
 have k1 : KeepsAll w W1 := by subst hW1; exact (Keeps.refl _ _).alloc _
 have hb1 : Blk W1 w.heap.size 25 #[.slice v.A p.ps.length v.c, .slice v.A2 p.at_.length v.c2, .slice v.A3 p.due.length v.c3, .slice v.A4 p.wgt.length v.c4, .int .i64 p.now] := by subst hW1; exact Blk.new _ _ _
 have HB1 := Lib.hid hb1
 have K1 := Lib.hid k1
 clear hW1 k1 hb1
 refine (All_any p.ps r v.A v.c W1 hv (H.out.kept K1.out).P).mono ?_
 rintro e w2 ⟨v2, rfl, hall, k2⟩
 obtain ⟨Ax, cx, hv2, hcx, hcx2⟩ := hall.form
 subst hv2
 have hlen := allU_640 HV.out r
 have HL : Hid (RRefs w2 (Old w2) [.slice Ax (allU p.ps r).length cx] (allU p.ps r)) := hall.readF RRef.ok RRef.flat (fun b hb => (hall.lt hb).2)
 have K2 := Lib.hid (K1.out.tr k2)
 have HB2 := Lib.hid (HB1.out.kept k2 (by simp))
 have HR2 := Lib.hid (H.out.kept K2.out)
 have hsz := K2.out.size
 have HSZ := Lib.hid hsz
 clear hall k2 HB1 K1 hv hsz
 generalize w.heap.size = zp at *
 go_wp2
 go_loopw [5, 15] (fun vv i wr => ∃ b : Nat, b ≤ (allU p.ps r).length ∧ i = .int .i64 (b : Int) ∧ OwnL 46 2 RRef wr w2.heap.size w2.heap.size vv (openU p.ps p.at_ r ((allU p.ps r).take b)) ∧ KeepsAll w2 wr) (fun _ i _ => (allU p.ps r).length - (intOf i).toNat)
 case atStart => exact ⟨0, Nat.zero_le _, rfl, OwnL.nil, Keeps.refl _ _⟩
 case round =>
  obtain ⟨b, hb, rfl, ho, hkr⟩ := hrel
  obtain ⟨Ab, cb, rfl, hcb, hcb2⟩ := ho.form
  have HO4 := Lib.hid ho; clear ho
  have KB := Lib.hid hkr; clear hkr
  have hszb := KB.out.size
  have hEl : (openU p.ps p.at_ r ((allU p.ps r).take b)).length ≤ 640 := by
   have h1 := openU_len p.ps p.at_ r ((allU p.ps r).take b)
   have h2 : ((allU p.ps r).take b).length ≤ (allU p.ps r).length := by simp; omega
   omega
  have hbp := HB2.out.kept KB.out (by simp)
  have f0 := hbp.cell 0
  have f1 := hbp.cell 1
  simp at f0 f1
  have hzo := hbp.lt
  have HBP := Lib.hid hbp
  clear hbp
  by_cases hltb : b < (allU p.ps r).length
  ·obtain ⟨bx, ox, u, hbo, hbxl, hu, m0, m1⟩ := RRefs.atK KB.out HL.out hltb
   subst hbo
   obtain ⟨tw, kw, pw, sw, hpw, hsw, _, hwe⟩ := mem_allU.1 (List.mem_of_getElem? hu)
   subst hwe
   simp only [] at m0 m1
   have HQ2 : Hid (openU p.ps p.at_ r ((allU p.ps r).take (b + 1)) = openU p.ps p.at_ r ((allU p.ps r).take b) ++ (if overB p.ps p.at_ ⟨(tw : Int), (kw : Int)⟩ r = true then [] else [⟨(tw : Int), (kw : Int)⟩])) := by
    show _ = _
    rw [List.take_add_one, hu, Option.toList_some, openU_snoc]
   have htw := getElem?_lt hpw
   obtain ⟨xw, hxw⟩ : ∃ x, p.at_[tw]? = some x := ⟨_, List.getElem?_eq_getElem (by rw [HAL.out]; exact htw)⟩
   have HCL : Hid (∀ W, KeepsAll w2 W → Calls Try.prog 78 #[.slice v.A p.ps.length v.c, .slice v.A2 p.at_.length v.c2, .agg #[.int .i64 (tw : Int), .int .i64 (kw : Int)], .int .i64 r] W fun e w' => e = .returned (.bool (overB p.ps p.at_ ⟨(tw : Int), (kw : Int)⟩ r)) ∧ KeepsAll W w') := fun W hW =>
    Over_any p.ps p.at_ r v.A v.A2 v.c v.c2 W (HR2.out.kept hW).P (HR2.out.kept hW).A tw kw pw sw xw hpw hsw hxw
   clear hu hpw hsw hxw
   generalize openU p.ps p.at_ r ((allU p.ps r).take b) = E at HO4 HQ2 hEl hcb ⊢
   go_wp2_with fail
   generalize hW4 : World.alloc wr _ = W4
   have KW4 : KeepsAll wr W4 := by subst hW4; exact (Keeps.refl _ _).alloc _
   have BV : Hid (Blk W4 wr.heap.size 46 #[.int .i64 (tw : Int), .int .i64 (kw : Int)]) := by subst hW4; exact Blk.new _ _ _
   have KB4 := Lib.hid (KB.out.tr KW4)
   have HO5 := Lib.hid (HO4.out.keeps RRef.ok KW4 (fun _ _ h => h.elim))
   clear hW4 KW4 m0 m1 f0 f1 hbxl hzo HO4
   generalize wr.heap.size = zv at *
   refine (HCL.out W4 KB4.out).mono ?_
   rintro e w6 ⟨rfl, k6⟩
   have K6 := Lib.hid (KB4.out.tr k6)
   have HO6 := Lib.hid (HO5.out.keeps RRef.ok k6 (fun _ _ h => h.elim))
   have bv := BV.out.kept k6 (by simp)
   have e0 := bv.cell 0
   have e1 := bv.cell 1
   simp at e0 e1
   have hzv := bv.lt
   have hz6 := K6.out.size
   clear k6 bv BV HO5 KB4 HCL
   by_cases gov : overB p.ps p.at_ ⟨(tw : Int), (kw : Int)⟩ r = true
   ·rw [gov]
    have Q2 : Hid (openU p.ps p.at_ r ((allU p.ps r).take (b + 1)) = E) := by show _ = _; rw [HQ2.out, if_pos gov, List.append_nil]
    clear gov HQ2
    go_wp2
    go_roundw
    case rel => exact ⟨b + 1, by omega, by go_num, by rw [Q2.out]; exact HO6.out, K6.out⟩
    case measure => simp [intOf]; omega
   ·have gov' : overB p.ps p.at_ ⟨(tw : Int), (kw : Int)⟩ r = false := by simpa using gov
    rw [gov']
    have Q2 : Hid (openU p.ps p.at_ r ((allU p.ps r).take (b + 1)) = E ++ [⟨(tw : Int), (kw : Int)⟩]) := by show _ = _; rw [HQ2.out, if_neg gov]
    clear gov gov' HQ2
    go_wp2_with (at_builtin; refine wpList_append_L tyRef RRef.ok rfl (.tmp 27) (.tmp 29) rfl (HO6.out.alloc RRef.ok _) rfl _ [.int .i64 (tw : Int), .int .i64 (kw : Int)] rfl (Blk.new' _ _ _ (by simp)) rfl ⟨(tw : Int), (kw : Int)⟩ (S := fun _ => False) rfl (fun _ h => h.elim) (by simp [Value.oneCell']) (by omega) (by omega) (by simp; omega) ?_; intro v9 w9 HO9 HK9 HA9; obtain ⟨A9, c9, hv9, _, _⟩ := HO9.form; rw [List.length_append, List.length_singleton] at hv9; subst hv9)
    go_roundw
    case rel => exact ⟨b + 1, by omega, by go_num, by rw [Q2.out]; exact HO9, ((K6.out.alloc _).trans HK9 (fun x hx e => (by have := HO6.out.lt e; omega)))⟩
    case measure => simp [intOf]; omega
  ·obtain rfl : b = (allU p.ps r).length := by omega
   rw [List.take_length] at HO4 hEl hcb ⊢
   have HE : Hid (openU p.ps p.at_ r (allU p.ps r) = openA p.ps p.at_ r) := rfl
   rw [HE.out] at HO4 ⊢
   go_wp2
   go_ret
   exact ⟨_, _, rfl, HO4.out.readF RRef.ok RRef.flat (fun b hb => ⟨by have := (HO4.out.lt hb).1; have := K2.out.size; omega, (HO4.out.lt hb).2⟩), K2.out.tr KB.out⟩

def RPr : Rd Pr := fun _ _ cs x => cs = [.int .i64 x.res, .int .i64 x.u.tr, .int .i64 x.u.st, .int .i64 x.v.tr, .int .i64 x.v.st]
theorem RPr.ok : Rd.Ok RPr := ⟨fun h _ _ => h⟩
theorem RPr.flat : Rd.Flat RPr := fun _ _ _ _ _ _ h => h

structure PrI (wo w2 wr : World) (vv : Value) : Prop where
 k : Keeps (fun b => b < wo.heap.size) w2 wr
 ow : ∀ b, vv.ownBlock = some b → b < wo.heap.size ∨ w2.heap.size ≤ b
theorem PrI.keep {wo w2 wr w' : World} {vv : Value} (h : PrI wo w2 wr vv) (k : KeepsAll wr w') : PrI wo w2 w' vv := ⟨h.k.trans k (fun _ _ e => e.elim), h.ow⟩
theorem PrI.push {wo w2 wr w9 : World} {vv v9 : Value} (h : PrI wo w2 wr vv) (k : Keeps (fun b => vv.ownBlock = some b) wr w9) (hn : v9.ownBlock = vv.ownBlock ∨ v9.ownBlock = some wr.heap.size) : PrI wo w2 w9 v9 := by
 refine ⟨h.k.trans k (fun b hb e => ?_), fun b hb => ?_⟩
 ·rcases h.ow b e with h1 | h1
  ·exact h1
  ·omega
 ·rcases hn with hn | hn
  ·exact h.ow b (by rw [← hn]; exact hb)
  ·rw [hn] at hb
   injection hb with hb
   have := h.k.size
   exact .inr (by omega)
theorem PrI.rd {wo w2 wr : World} {vv : Value} (h : PrI wo w2 wr vv) {α : Type} {E : Rd α} (hE : Rd.Ok E) {cs : List Value} {x : α} (hr : E w2 (Fresh wo w2) cs x) : E wr (Old wr) cs x :=
 hE.mono hr (fun b hb => Nat.lt_of_lt_of_le hb.2 h.k.size) (fun b hb => h.k.block b hb.2 (by have := hb.1; show ¬ b < _; omega))

end Go.Proofs.Ytilbbpbjhoidhaa
