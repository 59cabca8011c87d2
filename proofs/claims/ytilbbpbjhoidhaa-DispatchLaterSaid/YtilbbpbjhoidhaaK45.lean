/- Chapter 37, plain: what Solve's search gives; a later second or a heavier weight never lowers the cost. No program in sight. The statement DispatchLater: its function returns true. No condition beyond the arguments' reading. From a row's argument that is a slice of integers to its reading. No condition. -/
import Derived.Test.YtilbbpbjhoidhaaK38
import Derived.Test.YtilbbpbjhoidhaaK44
import Derived.Deep.Cut
import Derived.Test.YtilbbpbjhoidhaaK01
import Derived.Test.YtilbbpbjhoidhaaRows
import Derived.ProofKit
import Derived.OpenShut
import Derived.ShutString
import Derived.ChangeOld
import Derived.Below
namespace Go.Proofs.Ytilbbpbjhoidhaa
open Go.RowKit

theorem checkP_Gd {p : Pb} (h : checkP p = true) : Gd p.ps p.at_ := by
  have h1 := (checkP_iff.1 h).1
  rw [← good_Gd]
  unfold checkState at h1
  by_cases g : (valid p.ps && good p.ps p.at_) = false
  · rw [if_pos g] at h1; cases h1
  · rw [Bool.not_eq_false, Bool.and_eq_true] at g; exact g.2
theorem checkP_wgt {p : Pb} (h : checkP p = true) (t : Nat) : 0 ≤ nowAt p.wgt t := by
  obtain ⟨_, _, _, _, h5, _⟩ := checkP_iff.1 h
  by_cases ht : t < p.wgt.length
  · exact (h5 _ (nowAt_mem ht)).1
  · unfold nowAt
    rw [List.getElem?_eq_none (by omega)]
    exact Int.le_refl _
/-- a whole search -/
theorem search_ok {p : Pb} (h : checkP p = true) (budget : Nat) : BestOk p (searchD budget p).2 ∧ ((searchD budget p).1 = true → ∀ cs : List Bool, cs.length = (xs p).length → okB p cs = true → ∃ b c, (searchD budget p).2.best = some (b, c) ∧ c ≤ costB p cs) := by
  have hok : okB p [] = true := by
    unfold okB
    have : decs p.ps (xs p) [] = [] := by unfold decs; cases xs p <;> rfl
    rw [this]
    exact okD_nil (checkP_Gd h)
  have := decF_ok (p := p) (checkP_Gd h) (checkP_wgt h) budget (xs p).length [] ⟨0, none⟩ (by simp) hok (by intro b c e; cases e)
  rw [searchD_eq]
  refine ⟨this.ok (by intro b c e; cases e), fun h1 cs hl hk => ?_⟩
  have h2 := this.cov h1 cs hl
  rw [List.nil_append] at h2
  exact h2 hk
theorem solve_cases {p : Pb} (h : checkP p = true) {b : Int} (hb : 1 ≤ b ∧ b ≤ 1048576) :
    ((searchD b.toNat p).1 = false ∧ solveP b p = (sol0, 0, 15)) ∨ ((searchD b.toNat p).1 = true ∧ (searchD b.toNat p).2.best = none ∧ solveP b p = (sol0, ((searchD b.toNat p).2.steps : Int), 19)) ∨
    ∃ bs c, (searchD b.toNat p).1 = true ∧ (searchD b.toNat p).2.best = some (bs, c) ∧ solveP b p = (⟨ordB p bs, entB p bs, c⟩, ((searchD b.toNat p).2.steps : Int), 0) := by
  unfold solveP
  rw [if_neg (by rw [h]; simp), if_neg (by omega)]
  cases e : (searchD b.toNat p).1 with
  | false => left; exact ⟨rfl, by rw [if_pos rfl]⟩
  | true =>
    right
    rw [if_neg (by simp)]
    cases f : (searchD b.toNat p).2.best with
    | none => left; exact ⟨rfl, rfl, rfl⟩
    | some x => right; exact ⟨x.1, x.2, rfl, rfl, rfl⟩
theorem base_mono {ps : List (List Stage)} {at_ : List Int} {n n' : Int} (h : n ≤ n') (u : Ref) : baseN ps at_ n u ≤ baseN ps at_ n' u := by
  unfold baseN base2
  have h1 : baseS ps n ⟨(u.tr.toNat : Int), (u.st.toNat : Int)⟩ ≤ baseS ps n' ⟨(u.tr.toNat : Int), (u.st.toNat : Int)⟩ := by
    unfold baseS
    cases ((ps[(⟨(u.tr.toNat : Int), (u.st.toNat : Int)⟩ : Ref).tr.toNat]?).getD [])[(⟨(u.tr.toNat : Int), (u.st.toNat : Int)⟩ : Ref).st.toNat]? with
    | none => exact h
    | some s => simp only [Option.elim_some]; omega
  split <;> omega
theorem sec_mono {ps : List (List Stage)} {at_ : List Int} {n n' : Int} {D : List RArc} {L : List Ref} (ht : Topo ps at_ D L) (h : n ≤ n') {u : Ref} (hu : InR ps u) : secS ps at_ n D L u ≤ secS ps at_ n' D L u := by
  by_cases hd : doneR at_ u = true
  · have h1 : ¬ Ev ps at_ u := fun e => by rw [e.2] at hd; cases hd
    unfold secS
    rw [solS_out ht h1, solS_out ht h1]
    unfold initR
    rw [if_pos hd, if_pos hd]
    exact Int.le_refl _
  · have he : Ev ps at_ u := ⟨hu, by simpa using hd⟩
    refine solS_least ht phS_mono ?_ he
    have hs := solS_sol (base := baseN ps at_ n') (ph := phS) (init := initR at_ n') ht
    exact ⟨fun e hev => Int.le_trans (base_mono h e) (hs.base e hev), hs.arc⟩
theorem late_mono2 {p y : Pb} {t : Nat} (hd : y.due = p.due) (hw : nowAt p.wgt t ≤ nowAt y.wgt t) (h0 : 0 ≤ nowAt p.wgt t) {s s' : Int} (h : s ≤ s') : lateP p t s ≤ lateP y t s' := by
  unfold lateP
  rw [hd]
  split
  · split
    · exact Int.le_refl _
    · exact Int.mul_nonneg (by omega) (by omega)
  · rw [if_neg (by omega)]
    exact Int.mul_le_mul hw (by omega) (by omega) (by omega)
theorem later_cost {p y : Pb} (hc : checkP p = true) (e1 : y.ps = p.ps) (e2 : y.at_ = p.at_) (e3 : y.due = p.due) (e4 : p.now ≤ y.now) (e5 : ∀ t, nowAt p.wgt t ≤ nowAt y.wgt t) {cs : List Bool} (hk : okB p cs = true) : costB p cs ≤ costB y cs := by
  have ex : xs y = xs p := by unfold xs; rw [e1, e2]
  unfold costB costD
  rw [ex, e1]
  have hk' : okD p.ps p.at_ (decs p.ps (xs p) cs) = true := hk
  have hD : DOk p.ps p.at_ (decs p.ps (xs p) cs) := decs_ok cs
  obtain ⟨_, ht⟩ := topo_of_ok (checkP_Gd hc) hD hk'
  have hsec : ∀ u, InR p.ps u → secD p (decs p.ps (xs p) cs) u ≤ secD y (decs p.ps (xs p) cs) u := fun u hu => by
    unfold secD lineD
    rw [e1, e2]
    exact sec_mono ht e4 hu
  generalize decs p.ps (xs p) cs = D at *
  have key : ∀ n, n ≤ p.ps.length → costT p (secD p D) n ≤ costT y (secD y D) n := by
    intro n
    induction n with
    | zero => intro _; exact Int.le_refl _
    | succ n ih =>
      intro hn
      have h1 := ih (by omega)
      have h2 : InR p.ps ⟨(n : Int), (lenAt p.ps n : Int)⟩ := ⟨n, lenAt p.ps n, p.ps[n], List.getElem?_eq_getElem (by omega), by unfold lenAt; rw [List.getElem?_eq_getElem (by omega)]; exact Nat.le_refl _, rfl⟩
      have h3 := late_mono2 (p := p) (y := y) (t := n) e3 (e5 n) (checkP_wgt hc n) (hsec _ h2)
      simp only [costT]
      rw [e1]
      omega
  exact key _ (Nat.le_refl _)
/-- a later second, or a heavier weight, never lowers the cost -/
theorem later_law {p y : Pb} (hp : checkP p = true) (hy : checkP y = true) (e1 : y.ps = p.ps) (e2 : y.at_ = p.at_) (e3 : y.due = p.due) (e4 : p.now ≤ y.now) (e5 : ∀ t, nowAt p.wgt t ≤ nowAt y.wgt t) {b1 b2 : Int} (h1 : 1 ≤ b1 ∧ b1 ≤ 1048576) (h2 : 1 ≤ b2 ∧ b2 ≤ 1048576) (h : (solveP b1 p).2.2 = 0) :
    (solveP b2 y).2.2 = 15 ∨ (solveP b2 y).2.2 = 0 ∧ (solveP b1 p).1.cost ≤ (solveP b2 y).1.cost := by
  have ex : xs y = xs p := by unfold xs; rw [e1, e2]
  have hok : ∀ cs, okB y cs = okB p cs := fun cs => by unfold okB; rw [ex, e1, e2]
  obtain ⟨gp1, gp2⟩ := search_ok hp b1.toNat
  obtain ⟨gy1, gy2⟩ := search_ok hy b2.toNat
  rcases solve_cases hp h1 with ⟨_, e⟩ | ⟨_, _, e⟩ | ⟨bp, cp, fp, bestp, ep⟩
  · rw [e] at h; cases h
  · rw [e] at h; cases h
  · obtain ⟨l1, o1, _⟩ := gp1 bp cp bestp
    rcases solve_cases hy h2 with ⟨_, e⟩ | ⟨fy, e, _⟩ | ⟨by', cy, fy, besty, ey⟩
    · left; rw [e]
    · obtain ⟨b, c, hb, _⟩ := gy2 fy bp (by rw [ex]; exact l1) (by rw [hok]; exact o1)
      rw [e] at hb; cases hb
    · right
      obtain ⟨l2, o2, c2⟩ := gy1 by' cy besty
      obtain ⟨b, c, hb, hle⟩ := gp2 fp by' (by rw [← ex]; exact l2) (by rw [← hok]; exact o2)
      rw [bestp] at hb
      injection hb with hb
      injection hb with hb1 hb2
      rw [ep, ey]
      refine ⟨rfl, ?_⟩
      show cp ≤ cy
      have := later_cost hp e1 e2 e3 e4 e5 (cs := by') (by rw [← hok]; exact o2)
      omega

theorem made_open {p : Pb} (h : psMade p.ps) : ∀ r : Nat, r < 144 → (openA p.ps p.at_ (r : Int)).length ≤ 12 := fun r _ => by
  have h1 : ∀ (t : Nat) (q : List Stage), (pathAll (r : Int) t q).length ≤ q.length := fun t q => by
    have : ∀ n, n ≤ q.length → (pathAll (r : Int) t (q.take n)).length ≤ n := by
      intro n
      induction n with
      | zero => intro _; simp [pathAll]
      | succ n ih =>
        intro hn
        rw [pathAll_succ (r : Int) t (List.getElem?_eq_getElem (by omega) : q[n]? = some q[n]), List.length_append]
        have := ih (by omega)
        split <;> simp <;> omega
    have := this q.length (Nat.le_refl _)
    rwa [List.take_length] at this
  have h2 : ∀ n, n ≤ p.ps.length → (allU (p.ps.take n) (r : Int)).length ≤ n * 4 := by
    intro n
    induction n with
    | zero => intro _; simp [allU]
    | succ n ih =>
      intro hn
      rw [allU_succ (r : Int) (List.getElem?_eq_getElem (by omega) : p.ps[n]? = some p.ps[n]), List.length_append]
      have h3 := ih (by omega)
      have h4 := h1 n p.ps[n]
      have h5 := (h.2.2 p.ps[n] (List.getElem_mem _)).2.1
      omega
  have h3 := h2 p.ps.length (Nat.le_refl _)
  rw [List.take_length] at h3
  have h4 := openA_len p.ps p.at_ (r : Int)
  have h5 := h.2.1
  omega
theorem ownB_some {b o n c b' : Nat} (h : (Value.slice (some ⟨b, o, none⟩) n c).ownBlock = some b') : b = b' := by injection h
theorem RPb.mono_ {w w' : World} {S S' : Foot} {v : PV} {p : Pb} (h : RPb w S v p) (hS : ∀ b, S b → S' b) (hw : ∀ b, S b → w'.heap[b]? = w.heap[b]?) : RPb w' S' v p :=
  ⟨RPaths.ok.mono h.P hS hw, RInts.ok.mono h.A hS hw, RInts.ok.mono h.D hS hw, RInts.ok.mono h.W hS hw⟩
theorem solve_err {b : Int} {p : Pb} (h : (solveP b p).2.2 = 0) : checkP p = true := by
  cases hc : checkP p with
  | true => rfl
  | false => unfold solveP at h; rw [if_pos hc] at h; cases h

set_option maxRecDepth 100000 in
set_option maxHeartbeats 4000000 in
theorem DispatchLater_any (lp la ld : List Int) (Ap Aa Ad : Option Addr) (cp ca cd : Nat) (now by_ train : Int) (w : World) (h : RInts w (Old w) [.slice Ap lp.length cp] lp) (h2 : RInts w (Old w) [.slice Aa la.length ca] la) (h3 : RInts w (Old w) [.slice Ad ld.length cd] ld) :
    Calls Try.prog 10 #[.slice Ap lp.length cp, .slice Aa la.length ca, .slice Ad ld.length cd, .int .i64 now, .int .i64 by_, .int .i64 train] w fun e w' => e = .returned (.bool true) ∧ KeepsAll w w' := by
  have H := Lib.hid h
  have H2 := Lib.hid h2
  have H3 := Lib.hid h3
  clear h h2 h3
  go_enter Try.func10, Try.ntmps10
  go_wp2_with fail
  refine (small37_any lp la ld Ap Aa Ad cp ca cd now w H.out H2.out H3.out).mono ?_
  rintro e w1 ⟨v, p, rfl, hr, hm, hp2, k1⟩
  have hr1 := hr.old
  have HR := Lib.hid hr1
  have HM := Lib.hid hm
  have K1 := Lib.hid k1
  have hps1 := hm.ps.1
  clear hr hr1 hm k1 H H2 H3
  unfold PV.cs
  go_wp2_with fail
  generalize hW2 : World.alloc w1 _ = W2
  have k2 : KeepsAll w1 W2 := by subst hW2; exact (Keeps.refl _ _).alloc _
  have hbx : Blk W2 w1.heap.size 25 #[.slice v.A p.ps.length v.c, .slice v.A2 p.at_.length v.c2, .slice v.A3 p.due.length v.c3, .slice v.A4 p.wgt.length v.c4, .int .i64 p.now] := by subst hW2; exact Blk.new _ _ _
  have HR2 := Lib.hid (HR.out.kept k2)
  have HBX2 := Lib.hid hbx
  have K2 := Lib.hid (K1.out.tr k2)
  clear hW2 k2 hbx HR K1
  generalize w1.heap.size = zx at *
  have HS1 : Hid (Calls Try.prog 13 #[.agg #[.slice v.A p.ps.length v.c, .slice v.A2 p.at_.length v.c2, .slice v.A3 p.due.length v.c3, .slice v.A4 p.wgt.length v.c4, .int .i64 p.now], .int .i64 5000] W2 (SolvePost 5000 p W2)) := DspSolve_any p v W2 5000 HR2.out (fun _ => made_open HM.out.ps)
  refine HS1.out.mono ?_
  rintro e w3 ⟨a, b, c, rfl, rs, k3⟩
  obtain ⟨Ao, co, Ae, ce, rfl, rfl, rfl, ro, re⟩ := rs.form
  have K3 := Lib.hid (K2.out.tr k3)
  have HR3 := Lib.hid (HR2.out.kept k3)
  have HBX3 := Lib.hid (HBX2.out.kept k3 (by simp))
  have HLAW : Hid ((solveP 5000 p).2.2 = 0 → ∀ y : Pb, checkP y = true → y.ps = p.ps → y.at_ = p.at_ → y.due = p.due → p.now ≤ y.now → (∀ t, nowAt p.wgt t ≤ nowAt y.wgt t) → (solveP 20000 y).2.2 = 15 ∨ (solveP 20000 y).2.2 = 0 ∧ (solveP 5000 p).1.cost ≤ (solveP 20000 y).1.cost) :=
    fun h0 y hy e1 e2 e3 e4 e5 => later_law (solve_err h0) hy e1 e2 e3 e4 e5 (by omega) (by omega) h0
  have HCP : Hid ((solveP 5000 p).2.2 = 0 → checkP p = true) := solve_err
  clear k3 HR2 HBX2 K2 HS1 rs ro re
  simp only []
  generalize (solveP 5000 p).2.2 = er at *
  generalize (solveP 5000 p).1.cost = cost1 at *
  generalize (solveP 5000 p).1.os.length = ol1 at *
  generalize (solveP 5000 p).1.en.length = el1 at *
  generalize (solveP 5000 p).2.1 = st1 at *
  go_upto_region 3 with (fail)
  generalize hW4 : World.alloc w3 _ = W4
  have k4 : KeepsAll w3 W4 := by subst hW4; exact (Keeps.refl _ _).alloc _
  have hbs : Blk W4 w3.heap.size 31 #[.slice Ao ol1 co, .slice Ae el1 ce, .int .i64 cost1] := by subst hW4; exact Blk.new _ _ _
  have HR4 := Lib.hid (HR3.out.kept k4)
  have HBX4 := Lib.hid (HBX3.out.kept k4 (by simp))
  have HBS4 := Lib.hid hbs
  have K4 := Lib.hid (K3.out.tr k4)
  clear hW4 k4 hbs HR3 HBX3 K3
  generalize w3.heap.size = z14 at *
  by_cases her : er = 0
  · subst her
    have HCK := Lib.hid (HCP.out rfl)
    have HLW := Lib.hid (HLAW.out rfl)
    clear HCP HLAW
    have x0 := HBX4.out.cell 0
    have x1 := HBX4.out.cell 1
    have x2 := HBX4.out.cell 2
    have x3 := HBX4.out.cell 3
    have x4 := HBX4.out.cell 4
    simp at x0 x1 x2 x3 x4
    go_upto_region 6 with (fail)
    generalize hW5 : World.alloc W4 _ = W5
    have k5 : KeepsAll W4 W5 := by subst hW5; exact (Keeps.refl _ _).alloc _
    have hby : Blk W5 W4.heap.size 25 #[.slice v.A p.ps.length v.c, .slice v.A2 p.at_.length v.c2, .slice v.A3 p.due.length v.c3, .slice v.A4 p.wgt.length v.c4, .int .i64 p.now] := by subst hW5; exact Blk.new _ _ _
    have HR5 : Hid (RPb W5 (fun b => b < W4.heap.size) v p) := HR4.out.mono_ (fun _ hb => hb) (fun b hb => k5.block b hb (by simp))
    have HBX5 := Lib.hid (HBX4.out.kept k5 (by simp))
    have HBS5 := Lib.hid (HBS4.out.kept k5 (by simp))
    have HBY5 := Lib.hid hby
    have K5 := Lib.hid (K4.out.tr k5)
    have hzz : zx < W4.heap.size ∧ z14 < W4.heap.size ∧ w.heap.size ≤ W4.heap.size := ⟨HBX4.out.lt, HBS4.out.lt, K4.out.size⟩
    have HZZ := Lib.hid hzz
    clear hW5 k5 hby HR4 HBX4 HBS4 K4 x0 x1 x2 x3 x4 hzz
    generalize W4.heap.size = zy at *
    have y4 := HBY5.out.cell 4
    have f4 := HBY5.out.frozen 4
    simp at y4
    have hzy := HBY5.out.lt
    have hnow := HM.out.n
    have hq := pick_range by_ 100 (by omega)
    have HPK := Lib.hid (Pick_any by_ 100 · (by omega) (by omega))
    generalize pick by_ 100 = q1 at *
    have hwr : IntKind.i64.wrap (p.now + q1) = p.now + q1 := IntWalk.i64_in _ (by omega)
    refine wp_region_lex (fun w' => ∃ x : Ext W5, w' = x.val) [0, 1, 2, 3, 4, 5, 6] (by kernel_rfl) (by kernel_rfl) ⟨⟨_, (Keeps.refl _ _).drew⟩, rfl⟩ ?_
    have e4 := Ext.cell y4
    iterate 3 (refine lex_q _ rfl rfl rfl ?_; go_big_quiet_step (fail); refine wpQuiet_nil ?_)
    refine lex_a _ rfl rfl true (by kernel_rfl) ?_
    go_wp2_with fail
    refine (HPK.out _).mono ?_
    rintro e w6 ⟨rfl, rfl⟩
    go_wp2
    refine ⟨fun _ => ⟨⟨_, (Keeps.refl _ _).drew⟩, rfl⟩, ?_⟩
    iterate 2 (refine lex_q _ rfl rfl rfl ?_; go_big_quiet_step (fail); refine wpQuiet_nil ?_)
    clear e4
    refine lex_a _ rfl rfl false (by kernel_rfl) ?_
    go_wp2
    (try refine ⟨fun h => (by cases h), ?_⟩)
    simp only [wpLex]
    refine NoPanic.normal ?_
    generalize hW6 : World.drew (World.setCell W5 _ _) = W6
    have k6 : Keeps (fun b => b = zy) W5 W6 := by subst hW6; exact ((Keeps.refl (fun b => b = zy) W5).setCell (p := ⟨zy, 4, none⟩) (fun _ => rfl) _).drew
    have HBY6 : Hid (Blk W6 zy 25 #[.slice v.A p.ps.length v.c, .slice v.A2 p.at_.length v.c2, .slice v.A3 p.due.length v.c3, .slice v.A4 p.wgt.length v.c4, .int .i64 (p.now + q1)]) := by subst hW6; exact (HBY5.out.set_ 4 _).drew_
    have HBX6 := Lib.hid (HBX5.out.kept k6 (by have := HZZ.out; show ¬ zx = zy; omega))
    have HBS6 := Lib.hid (HBS5.out.kept k6 (by have := HZZ.out; show ¬ z14 = zy; omega))
    have HR6 : Hid (RPb W6 (fun b => b < zy) v p) := HR5.out.mono_ (fun _ hb => hb) (fun b hb => k6.block b (by have : b < zy := hb; omega) (by have : b < zy := hb; show ¬ b = zy; omega))
    have K6 : Hid (KeepsAll w W6) := K5.out.trans k6 (fun b hb e => by have e : b = zy := e; have := HZZ.out; omega)
    clear hW6 k6 HR5 HBX5 HBS5 HBY5 K5 y4 f4 hzy hwr HPK
    have x3 := HBX6.out.cell 3
    simp at x3
    have y3 := HBY6.out.cell 3
    have hzy6 := HBY6.out.lt
    have f3 := HBY6.out.frozen 3
    simp at y3
    have hwl : p.wgt.length = p.ps.length := HM.out.wl
    have hwl1 : p.wgt.length ≤ 2 := by omega
    have hwl2 : 1 ≤ p.wgt.length := by omega
    clear hwl
    go_wp2_with (at_builtin; refine wpList_append_M tyInt RInt.ok RInt.one rfl (.const (.slice none 0 0)) (.tmp 43) rfl (OwnL.nil (base := W6.heap.size) (lo := W6.heap.size)) rfl rfl (S := fun b => b < zy) (S2 := fun _ => False) HR6.out.W (fun _ _ h => h) (fun _ h => h.elim) (by simp; omega) (by simp; omega) (Nat.le_refl _) ?_; intro v7 w7 HO7 HK7 HA7; rw [List.nil_append] at HO7; have K7 : KeepsAll W6 w7 := HK7.mono (fun _ _ h => (by simp [Value.ownBlock] at h)); obtain ⟨A7, c7, hv7, hc7, hc77⟩ := HO7.form; subst hv7; have HO7' := Lib.hid HO7; have K7' := Lib.hid K7; have y37 := K7.cellK (p := ⟨zy, 3, none⟩) hzy6 y3; have f37 := (HBY6.out.kept K7 (by simp)).frozen 3; clear HO7 HK7 HA7 K7)
    generalize hW8 : World.setCell w7 _ _ = W8
    obtain ⟨b7, hA7, hb7⟩ := HO7'.out.some_ (by omega)
    subst hA7
    have k8 : Keeps (fun b => b = zy) w7 W8 := by subst hW8; exact (Keeps.refl (fun b => b = zy) w7).setCell (p := ⟨zy, 3, none⟩) (fun _ => rfl) _
    have HBY8 : Hid (Blk W8 zy 25 #[.slice v.A p.ps.length v.c, .slice v.A2 p.at_.length v.c2, .slice v.A3 p.due.length v.c3, .slice (some ⟨b7, 0, none⟩) p.wgt.length c7, .int .i64 (p.now + q1)]) := by subst hW8; exact (HBY6.out.kept K7'.out (by simp)).set_ 3 _
    have hzyb : zy ≠ b7 := by have := HO7'.out.lt rfl; omega
    have HO8 := Lib.hid (HO7'.out.keepsF RInt.flat k8 (fun b hb e => hzyb (ownB_some hb ▸ e : b7 = zy).symm))
    have k68 : Keeps (fun b => b = zy) W6 W8 := (K7'.out.mono (C := fun b => b = zy) (fun _ _ e => e.elim)).trans k8 (fun _ _ e => e)
    have HBS8 := Lib.hid (HBS6.out.kept k68 (by have := HZZ.out; show ¬ z14 = zy; omega))
    have HR8 : Hid (RPb W8 (fun b => b < zy) v p) := HR6.out.mono_ (fun _ hb => hb) (fun b hb => k68.block b (by have : b < zy := hb; omega) (by have : b < zy := hb; show ¬ b = zy; omega))
    have K8 : Hid (KeepsAll w W8) := K6.out.trans k68 (fun b hb e => by have e : b = zy := e; have := HZZ.out; omega)
    have hb78 : zy < b7 := by have := HO7'.out.lt rfl; omega
    clear hW8 k8 k68 HR6 HBX6 HBS6 HBY6 K6 x3 y3 hzy6 f3 HO7' K7' y37 f37 hb7
    have y3 := HBY8.out.cell 3
    simp at y3
    have hzy8 := HBY8.out.lt
    have hq2 := pick_range train p.wgt.length (by omega)
    have HPK2 := Lib.hid (Pick_any train p.wgt.length · (by omega) (by omega))
    obtain ⟨kt, hkt⟩ := Int.eq_ofNat_of_zero_le hq2.1
    rw [hkt] at HPK2 hq2
    have hktl : kt < p.wgt.length := by omega
    clear hkt
    have hq3 := pick_range by_ 3 (by omega)
    have HPK3 := Lib.hid (Pick_any by_ 3 · (by omega) (by omega))
    generalize pick by_ 3 = q3 at *
    obtain ⟨x, hx⟩ : ∃ x, p.wgt[kt]? = some x := ⟨_, List.getElem?_eq_getElem hktl⟩
    have hxr := HM.out.w x (List.mem_of_getElem? hx)
    have HX := Lib.hid hx
    clear hx
    have o7 : RInts W8 (fun b => b = b7) [.slice (some ⟨b7, 0, none⟩) p.wgt.length c7] p.wgt := HO8.out.readF RInt.ok RInt.flat (fun b hb => (ownB_some hb).symm)
    obtain ⟨b', o', x', hA', _, hx', ox⟩ := RInts.at_ o7 hktl
    injection hA' with hA'
    injection hA' with e1 e2 _
    subst e1 e2
    rw [HX.out] at hx'
    injection hx' with hx'
    subst hx'
    rw [Nat.zero_add] at ox
    have of_ := HO8.out.frz kt
    have hzb7 := (HO8.out.lt rfl).2
    have hwx : IntKind.i64.wrap (x + q3) = x + q3 := IntWalk.i64_in _ (by omega)
    clear o7
    refine wp_region_lex (fun w' => ∃ x : Ext W8, w' = x.val) [0, 1, 2, 3, 4, 5, 9, 6, 7, 8, 10, 11, 12, 13] (by kernel_rfl) (by kernel_rfl) ⟨⟨_, (Keeps.refl _ _).drew⟩, rfl⟩ ?_
    have e3 := Ext.cell y3
    have ex := Ext.cell ox
    iterate 7 (refine lex_q _ rfl rfl rfl ?_; go_big_quiet_step (fail); refine wpQuiet_nil ?_)
    refine lex_a _ rfl rfl true (by kernel_rfl) ?_
    go_wp2_with fail
    refine (HPK2.out _).mono ?_
    rintro e w9 ⟨rfl, rfl⟩
    go_wp2
    refine ⟨fun _ => ⟨⟨_, (Keeps.refl _ _).drew⟩, rfl⟩, ?_⟩
    iterate 2 (refine lex_q _ rfl rfl rfl ?_; go_big_quiet_step (fail); refine wpQuiet_nil ?_)
    refine lex_a _ rfl rfl true (by kernel_rfl) ?_
    go_wp2_with fail
    refine (HPK3.out _).mono ?_
    rintro e w9 ⟨rfl, rfl⟩
    go_wp2
    refine ⟨fun _ => ⟨⟨_, (Keeps.refl _ _).drew⟩, rfl⟩, ?_⟩
    iterate 2 (refine lex_q _ rfl rfl rfl ?_; go_big_quiet_step (fail); refine wpQuiet_nil ?_)
    clear e3 ex
    refine lex_a _ rfl rfl false (by kernel_rfl) ?_
    go_wp2
    (try refine ⟨fun h => (by cases h), ?_⟩)
    simp only [wpLex]
    refine NoPanic.normal ?_
    generalize hW9 : World.drew (World.setCell W8 _ _) = W9
    have k9 : Keeps (fun b => b = b7) W8 W9 := by subst hW9; exact ((Keeps.refl (fun b => b = b7) W8).setCell (p := ⟨b7, kt, none⟩) (fun _ => rfl) _).drew
    have HO9 : Hid (OwnL 3 1 RInt W9 W6.heap.size W6.heap.size (.slice (some ⟨b7, 0, none⟩) p.wgt.length c7) (p.wgt.set kt (x + q3))) := by subst hW9; exact (HO8.out.setI kt (x + q3)).drew RInt.ok
    have HBY9 := Lib.hid (HBY8.out.kept k9 hzyb)
    have HBS9 := Lib.hid (HBS8.out.kept k9 (by have := HZZ.out; show ¬ z14 = b7; omega))
    have HR9 : Hid (RPb W9 (fun b => b < zy) v p) := HR8.out.mono_ (fun _ hb => hb) (fun b hb => k9.block b (by have : b < zy := hb; omega) (by have : b < zy := hb; show ¬ b = b7; omega))
    have K9 : Hid (KeepsAll w W9) := K8.out.trans k9 (fun b hb e => by have e : b = b7 := e; have := HZZ.out; omega)
    clear hW9 k9 HR8 HBS8 HBY8 K8 HO8 y3 hzy8 ox of_ hzb7 hwx HPK2 HPK3
    have HRY : Hid (RPb W9 (Old W9) ⟨v.A, v.c, v.A2, v.c2, v.A3, v.c3, some ⟨b7, 0, none⟩, c7⟩ ⟨p.ps, p.at_, p.due, p.wgt.set kt (x + q3), p.now + q1⟩) := by
      have hz9 := HBY9.out.lt
      refine ⟨RPaths.ok.mono HR9.out.P (fun b hb => ?_) (fun _ _ => rfl), RInts.ok.mono HR9.out.A (fun b hb => ?_) (fun _ _ => rfl), RInts.ok.mono HR9.out.D (fun b hb => ?_) (fun _ _ => rfl), ?_⟩
      · have : b < zy := hb; show b < _; omega
      · have : b < zy := hb; show b < _; omega
      · have : b < zy := hb; show b < _; omega
      · show RInts W9 (Old W9) [.slice (some ⟨b7, 0, none⟩) (p.wgt.set kt (x + q3)).length c7] _
        rw [List.length_set]
        exact HO9.out.readF RInt.ok RInt.flat (fun b hb => (HO9.out.lt hb).2)
    have hcy : checkP ⟨p.ps, p.at_, p.due, p.wgt.set kt (x + q3), p.now + q1⟩ = true := by
      obtain ⟨g1, g2, g3, g4, g5, g6, g7⟩ := checkP_iff.1 HCK.out
      rw [checkP_iff]
      refine ⟨g1, g2, by rw [List.length_set]; exact g3, g4, fun z hz => ?_, by show 0 ≤ p.now + q1; omega, by show p.now + q1 ≤ 4194304; omega⟩
      rcases List.mem_or_eq_of_mem_set hz with hz | rfl
      · exact g5 z hz
      · omega
    have HLY := Lib.hid (HLW.out ⟨p.ps, p.at_, p.due, p.wgt.set kt (x + q3), p.now + q1⟩ hcy rfl rfl rfl (by show p.now ≤ p.now + q1; omega) (fun t => by
      show nowAt p.wgt t ≤ nowAt (p.wgt.set kt (x + q3)) t
      unfold nowAt
      rw [List.getElem?_set]
      by_cases e : kt = t
      · subst e
        rw [if_pos rfl, if_pos hktl, HX.out]
        show x ≤ x + q3
        omega
      · rw [if_neg e]; exact Int.le_refl _))
    have HS2 : Hid (Calls Try.prog 13 #[.agg #[.slice v.A p.ps.length v.c, .slice v.A2 p.at_.length v.c2, .slice v.A3 p.due.length v.c3, .slice (some ⟨b7, 0, none⟩) p.wgt.length c7, .int .i64 (p.now + q1)], .int .i64 20000] W9 (SolvePost 20000 ⟨p.ps, p.at_, p.due, p.wgt.set kt (x + q3), p.now + q1⟩ W9)) := by
      have := DspSolve_any _ _ W9 20000 HRY.out (fun _ => made_open (p := ⟨p.ps, p.at_, p.due, p.wgt.set kt (x + q3), p.now + q1⟩) HM.out.ps)
      unfold PV.cs at this
      simp only [List.length_set] at this
      exact this
    clear hcy HLW HCK HX hxr HO9
    generalize (⟨p.ps, p.at_, p.due, p.wgt.set kt (x + q3), p.now + q1⟩ : Pb) = y at *
    have t0 := HBY9.out.cell 0
    have t1 := HBY9.out.cell 1
    have t2 := HBY9.out.cell 2
    have t3 := HBY9.out.cell 3
    have t4 := HBY9.out.cell 4
    simp at t0 t1 t2 t3 t4
    go_wp2_with fail
    refine HS2.out.mono ?_
    rintro e w10 ⟨a2, b2, c2, rfl, rs, k10⟩
    obtain ⟨Ao2, co2, Ae2, ce2, rfl, rfl, rfl, ro, re⟩ := rs.form
    have HBS10 := Lib.hid (HBS9.out.kept k10 (by simp))
    have K10 := Lib.hid (K9.out.tr k10)
    clear t0 t1 t2 t3 t4 HS2 HBY9 HBS9 K9 rs ro re k10 HRY HR9
    simp only []
    generalize (solveP 20000 y).2.2 = er2 at *
    generalize (solveP 20000 y).1.cost = cost2 at *
    generalize (solveP 20000 y).1.os.length = ol2 at *
    generalize (solveP 20000 y).1.en.length = el2 at *
    generalize (solveP 20000 y).2.1 = st2 at *
    go_upto_region 10 with (fail)
    generalize hW11 : World.alloc w10 _ = W11
    have k11 : KeepsAll w10 W11 := by subst hW11; exact (Keeps.refl _ _).alloc _
    have hb11 : Blk W11 w10.heap.size 31 #[.slice Ao2 ol2 co2, .slice Ae2 el2 ce2, .int .i64 cost2] := by subst hW11; exact Blk.new _ _ _
    have HB11 := Lib.hid hb11
    have HBS11 := Lib.hid (HBS10.out.kept k11 (by simp))
    have K11 := Lib.hid (K10.out.tr k11)
    clear hW11 k11 hb11 HBS10 K10
    generalize w10.heap.size = z18 at *
    go_wp2_with fail
    refine (awake37_any W11).mono ?_
    rintro e w12 ⟨rfl, k12⟩
    have s2 := (HBS11.out.kept k12 (by simp)).cell 2
    have s22 := (HB11.out.kept k12 (by simp)).cell 2
    simp at s2 s22
    have K12 := Lib.hid (K11.out.tr k12)
    clear k12
    rcases HLY.out with rfl | ⟨rfl, hle⟩
    · go_wp2
      go_ret
      exact ⟨rfl, K12.out⟩
    · have hle' : decide (cost2 ≥ cost1) = true := by simpa using hle
      go_wp2
      go_ret
      exact ⟨rfl, K12.out⟩
  · have her' : (er != 0) = true := by simpa using her
    go_wp2_with fail
    refine (awake37_any W4).mono ?_
    rintro e w5 ⟨rfl, k5⟩
    have K5 := Lib.hid (K4.out.tr k5)
    clear k5
    go_wp2
    go_ret
    exact ⟨rfl, K5.out⟩

open Go.ChangeShapes Go.WideShapes Go.ChangeAt Go.RowKit

theorem rowOwn : ownKnob Try.prog.godebug = none := by kernel_rfl
theorem rowLaid : laidOutB Try.prog = true := by kernel_rfl

theorem cell_lt {w : World} {p : Addr} {v : Value} (h : w.cell? p = some v) : p.block < w.heap.size := by
  rcases Nat.lt_or_ge p.block w.heap.size with h1 | h1
  · exact h1
  · have : w.heap[p.block]? = none := Array.getElem?_eq_none h1
    simp [World.cell?, this] at h

theorem ints_of_row {W : World} {a : Option Addr} {len cap : Nat} {zs : List Int}
    (h : (a = none ∧ len = 0 ∧ cap = 0 ∧ zs = []) ∨ ∃ x, a = some x ∧ len ≤ cap ∧ cap ≤ maxLen ∧ zs.length = cap ∧ (∀ i, i < zs.length → W.cell? (x.add i) = some (.int .i64 (zs.getD i 0)))) :
    ∃ l : List Int, len = l.length ∧ RInts W (Old W) [.slice a l.length cap] l := by
  rcases h with ⟨rfl, rfl, rfl, rfl⟩ | ⟨x, rfl, hl, hm, hz, hc⟩
  · exact ⟨[], rfl, RSlice.mkNil⟩
  · have hlen : (zs.take len).length = len := by simp; omega
    refine ⟨zs.take len, hlen.symm, some x, cap, rfl, by omega, by simpa [maxLen] using hm, fun hne => ?_⟩
    have hpos : 0 < len := by
      rcases Nat.eq_zero_or_pos len with h0 | h0
      · subst h0; simp at hne
      · exact h0
    have h0 := hc 0 (by omega)
    obtain ⟨b, o, spot⟩ := x
    have hspot : spot = none := by simpa [Addr.add] using World.cell?_spot h0
    subst hspot
    refine ⟨b, o, rfl, by have := cell_lt h0; show b < _; simpa [Addr.add] using this, fun j y hy => ?_⟩
    have hj := (List.getElem?_eq_some_iff.1 hy).1
    have hj2 : j < len := by omega
    refine ⟨[.int .i64 y], rfl, rfl, fun i u hu => ?_⟩
    have hi : i = 0 := by
      rcases i with _ | i
      · rfl
      · simp at hu
    subst hi
    simp at hu; subst hu
    have := hc j (by omega)
    rw [List.getElem?_take_of_lt hj2] at hy
    rw [List.getD_eq_getElem?_getD, hy] at this
    rcases j with _ | j
    · simpa [Addr.add] using this
    · simpa [Addr.add] using this

theorem trod_ints {H : Type} {enc : TypeId × Value → H} {W : World} {a : Option Addr} {len cap : Nat} {d : DataW H} {p : List MemPlace} (h : DataW.Trod enc Try.prog W 0 (fun _ => true) true 22 (.slice a len cap) d p) :
    ∃ l : List Int, len = l.length ∧ RInts W (Old W) [.slice a l.length cap] l := by
  obtain ⟨fuel, hf⟩ := h
  rcases open_ints Try.underlying22 Try.underlying3 (by kernel_rfl) hf with ⟨hcs, _⟩ | ⟨x, l, c, zs, hcs, _, hl, hm, hz, _, hcell, hwz⟩
  · simp [Value.cells] at hcs
    obtain ⟨rfl, rfl, rfl⟩ := hcs
    exact ints_of_row (zs := []) (.inl ⟨rfl, rfl, rfl, rfl⟩)
  · simp [Value.cells] at hcs
    obtain ⟨rfl, rfl, rfl⟩ := hcs
    exact ints_of_row (zs := zs) (.inr ⟨_, rfl, hl, hm, by simpa using hz, hcell⟩)

end Go.Proofs.Ytilbbpbjhoidhaa
