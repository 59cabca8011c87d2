/- The statement PrecedenceSort: its function returns true. No condition. -/
import Derived.Test.YtigmldildefdgaaSoD
import Derived.Test.YtigmldildefdgaaSameA
namespace Go.Proofs.Ytigmldildefdgaa
open Go.RowKit

theorem lists_of {P : Nat → List Int → Prop} (n : Nat) (h : ∀ j, j < n → ∃ l, P j l) : ∃ ll : List (List Int), ll.length = n ∧ ∀ j l, ll[j]? = some l → P j l := by
  induction n with
  | zero => exact ⟨[], rfl, fun j l h => by simp at h⟩
  | succ n ih =>
    obtain ⟨ll, h1, h2⟩ := ih (fun j hj => h j (by omega))
    obtain ⟨x, hx⟩ := h n (by omega)
    refine ⟨ll ++ [x], by simp [h1], fun j l hj => ?_⟩
    by_cases e : j < n
    · rw [List.getElem?_append_left (by omega)] at hj; exact h2 j l hj
    · rw [List.getElem?_append_right (by omega)] at hj
      have : j = n := by have := getElem?_lt hj; simp at this; omega
      subst this
      rw [h1] at hj; simp at hj; subst hj; exact hx
/-- a store of an integer over an integer leaves integers -/
theorem RInts.store {w : World} {S : Foot} {cs : List Value} {l : List Int} (h : RInts w S cs l) {p : Addr} {x y : Int} (hp : w.cell? p = some (.int .i64 y)) : ∃ l', l'.length = l.length ∧ RInts (w.setCell p (.int .i64 x)) S cs l' := by
  obtain ⟨A, c, rfl, h1, h2, h3⟩ := h
  by_cases e : l = []
  · subst e; exact ⟨[], rfl, A, c, rfl, h1, h2, fun h => absurd rfl h⟩
  · obtain ⟨b, o, rfl, hS, hx⟩ := h3 e
    refine ⟨l.mapIdx fun j z => if (⟨b, o + j, none⟩ : Addr) = p then x else z, by simp, some ⟨b, o, none⟩, c, by simp, by simpa using h1, h2, fun _ => ⟨b, o, rfl, hS, fun j z hj => ?_⟩⟩
    rw [List.getElem?_mapIdx] at hj
    cases hl : l[j]? with
    | none => rw [hl] at hj; simp at hj
    | some v =>
      rw [hl] at hj
      simp only [Option.map_some, Option.some.injEq] at hj
      obtain ⟨es, e1, e2, e3⟩ := hx j v hl
      refine ⟨[.int .i64 z], rfl, rfl, fun i u hu => ?_⟩
      have hi : i = 0 := by
        rcases i with _ | i
        · rfl
        · simp at hu
      subst hi
      simp at hu
      subst hu
      have e4 := e3 0 (.int .i64 v) (by rw [e2]; rfl)
      simp only [Nat.mul_one, Nat.add_zero] at e4 ⊢
      by_cases hpe : (⟨b, o + j, none⟩ : Addr) = p
      · rw [if_pos hpe] at hj; subst hj
        rw [hpe]; exact World.cell?_setCell_same _ _ _ hp
      · rw [if_neg hpe] at hj; subst hj
        rw [World.cell?_setCell_other _ _ _ _ (fun e => hpe e.symm)]; exact e4
theorem RIntss.store {w : World} {S : Foot} {cs : List Value} {en : List (List Int)} (h : RIntss w S cs en) {p : Addr} {x y : Int} (hp : w.cell? p = some (.int .i64 y)) : ∃ en', en'.length = en.length ∧ RIntss (w.setCell p (.int .i64 x)) S cs en' := by
  obtain ⟨A, c, rfl, h1, h2, h3⟩ := h
  by_cases e : en = []
  · subst e; exact ⟨[], rfl, A, c, rfl, h1, h2, fun h => absurd rfl h⟩
  · obtain ⟨b, o, rfl, hS, hx⟩ := h3 e
    obtain ⟨en', hl, hen⟩ := lists_of (P := fun j l' => ∃ es : List Value, es.length = 1 ∧ RInts (w.setCell p (.int .i64 x)) S es l' ∧ ∀ (i : Nat) u, es[i]? = some u → (w.setCell p (.int .i64 x)).cell? ⟨b, o + (j * 1 + i), none⟩ = some u) en.length (fun j hj => by
      obtain ⟨es, e1, e2, e3⟩ := hx j _ (List.getElem?_eq_getElem hj)
      obtain ⟨l', _, h5⟩ := RInts.store e2 (x := x) hp
      refine ⟨l', es, e1, h5, fun i u hu => ?_⟩
      obtain ⟨A', c', rfl, _⟩ := e2
      have e6 := e3 i u hu
      have hne : p ≠ ⟨b, o + (j * 1 + i), none⟩ := fun he => by
        rw [← he, hp] at e6
        rcases i with _ | i
        · simp at hu; subst hu; simp at e6
        · simp at hu
      rw [World.cell?_setCell_other _ _ _ _ hne]; exact e6)
    exact ⟨en', hl, some ⟨b, o, none⟩, c, by rw [hl], by rw [hl]; exact h1, h2, fun _ => ⟨b, o, rfl, hS, fun j l hj => hen j l hj⟩⟩

set_option maxRecDepth 100000 in
set_option maxHeartbeats 4000000 in
theorem PrecedenceSort_any (lp le : List Int) (lr : List (List Int)) (A A2 A3 : Option Addr) (c c2 c3 : Nat) (how aa vv : Int) (w : World) (h : RInts w (Old w) [.slice A lp.length c] lp) (h2 : RInts w (Old w) [.slice A2 le.length c2] le) (h3 : RIntss w (Old w) [.slice A3 lr.length c3] lr) :
    Calls Try.prog 13 #[.slice A lp.length c, .slice A2 le.length c2, .slice A3 lr.length c3, .int .i64 how, .int .i64 aa, .int .i64 vv] w fun e w' => e = .returned (.bool true) ∧ KeepsAll w w' := by
  have H := Lib.hid h; clear h
  have H2 := Lib.hid h2; clear h2
  have H3 := Lib.hid h3; clear h3
  go_enter Try.func13, Try.ntmps13
  go_wp2_with fail
  refine (Paths_any lp A c w H.out).mono ?_
  rintro e w1 ⟨v, ps, rfl, rp, hm, k1⟩
  obtain ⟨B, d, rfl⟩ := rp.form
  have K1 := Lib.hid k1
  have M := Lib.hid hm
  have P1 := Lib.hid (RPaths.ok.mono rp (S' := Old w1) (fun b hb => hb.2) (fun _ _ => rfl))
  clear rp hm k1
  go_wp2_with fail
  refine (Enter_fresh ps le B A2 d c2 w1 P1.out (K1.out.rdo' RInts.ok H2.out) (by have := M.out.2.1; omega) (fun p hp => by have := (M.out.2.2 p hp).2.1; omega)).mono ?_
  rintro e w2 ⟨v, en, rfl, re, hen, k2⟩
  obtain ⟨B2, d2, rfl⟩ := re.form
  have K2 := Lib.hid (K1.out.tr k2)
  have P2 := Lib.hid (k2.rdo' RPaths.ok P1.out)
  have E2 := Lib.hid re
  have HEN := Lib.hid hen
  have k12 := k2.size
  have K12 := Lib.hid k2
  have k11 := K1.out.size
  clear re hen k2
  go_wp2_with fail
  refine (Pick_any _ _ _ (by omega) (by omega)).mono ?_
  rintro e w' ⟨rfl, rfl⟩
  by_cases g : pick how 3 = 0
  · have g' : (pick how 3 == 0) = true := by simpa using g
    have henl := HEN.out.1
    have hps1 := M.out.1
    have hps2 := M.out.2.1
    clear g
    obtain ⟨q1, q2⟩ := pick_range aa (en.length : Int) (by omega)
    obtain ⟨t, ht⟩ := Int.eq_ofNat_of_zero_le q1
    rw [ht] at q2
    have hte : t < en.length := by omega
    have HCT : Hid (∀ W, Calls Try.prog 18 #[.int .i64 aa, .int .i64 (en.length : Int)] W fun e w' => e = .returned (.int .i64 (t : Int)) ∧ W = w') := fun W => by
      rw [← ht]; exact Pick_any aa (en.length : Int) W (by omega) (by omega)
    clear q1 q2 ht
    obtain ⟨b, o, l, es, hbo, hbf, hl, he1, he2, he3⟩ := E2.out.get hte
    subst hbo
    obtain ⟨A', c', hes, hcl1, hcl2, _⟩ := he2.1
    subst hes
    have hk1 : w2.cell? ⟨b, o + t, none⟩ = some (.slice A' l.length c') := by simpa using he3 0 _ rfl
    obtain ⟨p, hp⟩ : ∃ p, ps[t]? = some p := ⟨_, List.getElem?_eq_getElem (by omega)⟩
    have hlp := (rowsOk_at ps en HEN.out.2.1 t p l hp hl).1
    have hpm := M.out.2.2 p (List.mem_of_getElem? hp)
    have hp1 := hpm.1
    have hp2 := hpm.2.1
    have hll1 : 1 ≤ l.length := by omega
    have hll2 : l.length ≤ 4 := by omega
    obtain ⟨q1, q2⟩ := pick_range (wrap64 (aa.tdiv 8)) (l.length : Int) (by omega)
    obtain ⟨i, hi⟩ := Int.eq_ofNat_of_zero_le q1
    rw [hi] at q2
    have hil : i < l.length := by omega
    have HCI : Hid (∀ W, Calls Try.prog 18 #[.int .i64 (wrap64 (aa.tdiv 8)), .int .i64 (l.length : Int)] W fun e w' => e = .returned (.int .i64 (i : Int)) ∧ W = w') := fun W => by
      rw [← hi]; exact Pick_any _ (l.length : Int) W (by omega) (by omega)
    have HCV : Hid (∀ W, Calls Try.prog 18 #[.int .i64 vv, .int .i64 60] W fun e w' => e = .returned (.int .i64 (pick vv 60)) ∧ W = w') := fun W => Pick_any vv 60 W (by omega) (by omega)
    generalize pick vv 60 = y at HCV
    clear q1 q2 hi hp hpm hlp
    have HENL := Lib.hid henl; clear henl
    obtain ⟨b3, o3, x, hbo, hb3, hx, hc3⟩ := he2.1.at_ hil
    subst hbo
    have hf3 := he2.2 (fun e => by rw [e] at hil; simp at hil) b3 o3 _ _ rfl (o3 + i)
    have hb3' : w1.heap.size ≤ b3 ∧ b3 < w2.heap.size := hb3
    have hbf' : b < w2.heap.size := hbf.2
    clear hx hl he1 he2 he3 hbf hb3
    go_wp2_with fail
    refine (HCT.out _).mono ?_
    rintro e w' ⟨rfl, rfl⟩
    go_wp2_with fail
    refine wp_region_lex (fun w' => ∃ x : Ext w2, w' = x.val) [0, 1, 2, 3, 4, 5, 6, 7, 8, 9, 10, 12, 11, 13, 14, 15] (by kernel_rfl) (by kernel_rfl) ⟨⟨_, (Keeps.refl _ _).drew⟩, rfl⟩ ?_
    have x1 := Ext.cell hk1
    iterate 12 (refine lex_q _ rfl rfl rfl ?_; go_big_quiet_step (fail); refine wpQuiet_nil ?_)
    refine lex_a _ rfl rfl true (by kernel_rfl) ?_
    go_wp2_with (go_at_call 18; refine (HCI.out _).mono ?_; rintro e w' ⟨rfl, rfl⟩)
    refine ⟨fun _ => ⟨⟨_, (Keeps.refl _ _).drew⟩, rfl⟩, ?_⟩
    refine lex_a _ rfl rfl true (by kernel_rfl) ?_
    go_wp2_with (go_at_call 18; refine (HCV.out _).mono ?_; rintro e w' ⟨rfl, rfl⟩)
    refine ⟨fun _ => ⟨⟨_, (Keeps.refl _ _).drew⟩, rfl⟩, ?_⟩
    refine lex_q _ rfl rfl rfl ?_; go_big_quiet_step (fail); refine wpQuiet_nil ?_
    refine lex_a _ rfl rfl false (by kernel_rfl) ?_
    obtain ⟨wd, hwd⟩ : ∃ wd : World, wd = w2.drew := ⟨_, rfl⟩
    have KD : KeepsAll w2 wd := by subst hwd; exact (Keeps.refl _ _).drew
    have hcd : wd.cell? ⟨b3, o3 + i, none⟩ = some (.int .i64 x) := by subst hwd; exact hc3
    have hfd : wd.frozen? ⟨b3, o3 + i, none⟩ = false := by subst hwd; exact hf3
    have hsd : wd.heap.size = w2.heap.size := by subst hwd; rfl
    rw [← hwd]
    clear hwd
    go_wp2
    (try refine ⟨fun h => (by cases h), ?_⟩)
    generalize hW5 : World.setCell wd _ _ = w5
    obtain ⟨en', hel, he5⟩ : ∃ en', en'.length = en.length ∧ RIntss w5 (Old w5) [.slice (some ⟨b, o, none⟩) en.length d2] en' := by
      have h1 := KD.rdo' RIntss.ok (RIntss.ok.mono (S' := Old w2) E2.out.plain (fun _ hb => hb.2) (fun _ _ => rfl))
      obtain ⟨en', e1, e2⟩ := RIntss.store h1 (x := y) hcd
      rw [hW5] at e2
      refine ⟨en', e1, ?_⟩
      have hs5 : w5.heap.size = wd.heap.size := by subst hW5; simp [World.setCell]
      exact RIntss.ok.mono (S' := Old w5) e2 (fun b hb => by have : b < wd.heap.size := hb; show b < w5.heap.size; omega) (fun _ _ => rfl)
    rw [← hel]
    rw [← hel] at he5
    have E5 := Lib.hid he5
    have K15 : Keeps (fun b => b3 = b) w2 w5 := by subst hW5; exact (KD.mono (fun _ _ h => h.elim)).setCell (p := ⟨b3, o3 + i, none⟩) (fun _ => rfl) _
    have K5 : Hid (KeepsAll w w5) := K2.out.trans K15 (fun b hb e => by omega)
    have P5 : Hid (RPaths w5 (Old w5) [.slice B ps.length d] ps) := by
      have hs5 := K15.size
      have h1 : RPaths w2 (Old w1) [.slice B ps.length d] ps := K12.out.rd RPaths.ok P1.out (fun b hb => ⟨hb, by simp⟩) (fun _ h => h)
      exact K15.rd RPaths.ok h1 (fun b hb => ⟨by have : b < w1.heap.size := hb; omega, fun e => by have : b < w1.heap.size := hb; omega⟩) (fun b hb => by have : b < w1.heap.size := hb; show b < w5.heap.size; omega)
    clear hel hte he5 K15 KD hcd hfd hsd hW5 x1 hc3 hf3 hk1 E2 K2 P2 P1 K1 HEN HENL HCI HCV HCT K12
    generalize en' = en2 at *
    refine (by assumption : ∀ (a : Act) (w : World), Code.wp Try.prog (Code.seq (Code.region 6 _ _) _) _ a w → _) _ _ ?_
    go_wp2_with fail
    with_reducible refine (PSort_any ps en2 B (some ⟨b, o, none⟩) d d2 w5 M.out P5.out E5.out).mono ?_
    rintro e w6 ⟨v, rfl, r6, k6⟩
    obtain ⟨B6, d6, rfl, _, _⟩ := r6.val
    have R6 := Lib.hid r6; have K6 := Lib.hid k6
    clear r6 k6
    go_wp2_with fail
    refine (RefSort_any ps en2 B (some ⟨b, o, none⟩) d d2 w6 (K6.out.rdo' RPaths.ok P5.out) (K6.out.rdo' RIntss.ok E5.out)).mono ?_
    rintro e w7 ⟨v, rfl, r7, k7⟩
    obtain ⟨B7, d7, rfl, _, _⟩ := r7.val
    have R7 := Lib.hid r7; have K7 := Lib.hid (K6.out.tr k7)
    have S7 := Lib.hid (k7.rdo' ROrders.ok R6.out)
    clear r7 k7 R6 K6
    generalize (sortO ps en2).2 = x1 at *
    generalize (sortO ps en2).1 = y1 at *
    go_wp2_with fail
    refine (PSort_any ps lr B A3 d c3 w7 M.out (K7.out.rdo' RPaths.ok P5.out) ((K5.out.tr K7.out).rdo' RIntss.ok H3.out)).mono ?_
    rintro e w8 ⟨v, rfl, r8, k8⟩
    obtain ⟨B8, d8, rfl, _, _⟩ := r8.val
    have R8 := Lib.hid (k8.rdo' ROrders.ok R7.out); have K8 := Lib.hid (K7.out.tr k8)
    have S8 := Lib.hid (k8.rdo' ROrders.ok S7.out)
    have T8 := Lib.hid r8
    clear r8 k8 R7 S7 K7
    go_wp2_with fail
    refine (RefSort_any ps lr B A3 d c3 w8 (K8.out.rdo' RPaths.ok P5.out) ((K5.out.tr K8.out).rdo' RIntss.ok H3.out)).mono ?_
    rintro e w9 ⟨v, rfl, r9, k9⟩
    obtain ⟨B9, d9, rfl, _, _⟩ := r9.val
    have R9 := Lib.hid (k9.rdo' ROrders.ok R8.out); have K9 := Lib.hid (K5.out.tr (K8.out.tr k9))
    have S9 := Lib.hid (k9.rdo' ROrders.ok S8.out)
    have T9 := Lib.hid (k9.rdo' ROrders.ok T8.out)
    have U9 := Lib.hid r9
    clear r9 k9 R8 S8 T8 K8
    generalize (sortO ps lr).2 = x2 at *
    generalize (sortO ps lr).1 = y2 at *
    have hx1 : (x1 == x1) = true := by simp
    have hx2 : (x2 == x2) = true := by simp
    go_wp2_with fail
    refine (awake35_any w9).mono ?_
    rintro e w10 ⟨rfl, k10⟩
    have K10 := Lib.hid k10; clear k10
    go_wp2_with fail
    refine (SameOrders_same y1 B6 B7 d6 d7 w10 (K10.out.rdo' ROrders.ok S9.out) (K10.out.rdo' ROrders.ok R9.out)).mono ?_
    rintro e w11 ⟨rfl, k11⟩
    have K11 := Lib.hid (K10.out.tr k11); clear k11 K10
    go_wp2_with fail
    refine (SameOrders_same y2 B8 B9 d8 d9 w11 (K11.out.rdo' ROrders.ok T9.out) (K11.out.rdo' ROrders.ok U9.out)).mono ?_
    rintro e w12 ⟨rfl, k12⟩
    go_wp2
    go_ret
    exact ⟨rfl, K9.out.tr (K11.out.tr k12)⟩
  · have g' : (pick how 3 == 0) = false := by simpa using g
    clear g
    obtain ⟨w5, hw5⟩ : ∃ w5 : World, w5 = w2 := ⟨_, rfl⟩
    rw [← hw5] at E2 P2 K2 ⊢
    clear hw5 k12 k11
    have E5 : Hid (RIntss w5 (Old w5) [.slice B2 en.length d2] en) := RIntss.ok.mono (S' := Old w5) E2.out.plain (fun _ hb => hb.2) (fun _ _ => rfl)
    have K5 := K2
    have P5 := P2
    clear E2 K2 P2 P1 K1 HEN K12
    go_wp2_with fail
    with_reducible refine (PSort_any ps en B B2 d d2 w5 M.out P5.out E5.out).mono ?_
    rintro e w6 ⟨v, rfl, r6, k6⟩
    obtain ⟨B6, d6, rfl, _, _⟩ := r6.val
    have R6 := Lib.hid r6; have K6 := Lib.hid k6
    clear r6 k6
    go_wp2_with fail
    refine (RefSort_any ps en B B2 d d2 w6 (K6.out.rdo' RPaths.ok P5.out) (K6.out.rdo' RIntss.ok E5.out)).mono ?_
    rintro e w7 ⟨v, rfl, r7, k7⟩
    obtain ⟨B7, d7, rfl, _, _⟩ := r7.val
    have R7 := Lib.hid r7; have K7 := Lib.hid (K6.out.tr k7)
    have S7 := Lib.hid (k7.rdo' ROrders.ok R6.out)
    clear r7 k7 R6 K6
    generalize (sortO ps en).2 = x1 at *
    generalize (sortO ps en).1 = y1 at *
    go_wp2_with fail
    refine (PSort_any ps lr B A3 d c3 w7 M.out (K7.out.rdo' RPaths.ok P5.out) ((K5.out.tr K7.out).rdo' RIntss.ok H3.out)).mono ?_
    rintro e w8 ⟨v, rfl, r8, k8⟩
    obtain ⟨B8, d8, rfl, _, _⟩ := r8.val
    have R8 := Lib.hid (k8.rdo' ROrders.ok R7.out); have K8 := Lib.hid (K7.out.tr k8)
    have S8 := Lib.hid (k8.rdo' ROrders.ok S7.out)
    have T8 := Lib.hid r8
    clear r8 k8 R7 S7 K7
    go_wp2_with fail
    refine (RefSort_any ps lr B A3 d c3 w8 (K8.out.rdo' RPaths.ok P5.out) ((K5.out.tr K8.out).rdo' RIntss.ok H3.out)).mono ?_
    rintro e w9 ⟨v, rfl, r9, k9⟩
    obtain ⟨B9, d9, rfl, _, _⟩ := r9.val
    have R9 := Lib.hid (k9.rdo' ROrders.ok R8.out); have K9 := Lib.hid (K5.out.tr (K8.out.tr k9))
    have S9 := Lib.hid (k9.rdo' ROrders.ok S8.out)
    have T9 := Lib.hid (k9.rdo' ROrders.ok T8.out)
    have U9 := Lib.hid r9
    clear r9 k9 R8 S8 T8 K8
    generalize (sortO ps lr).2 = x2 at *
    generalize (sortO ps lr).1 = y2 at *
    have hx1 : (x1 == x1) = true := by simp
    have hx2 : (x2 == x2) = true := by simp
    go_wp2_with fail
    refine (awake35_any w9).mono ?_
    rintro e w10 ⟨rfl, k10⟩
    have K10 := Lib.hid k10; clear k10
    go_wp2_with fail
    refine (SameOrders_same y1 B6 B7 d6 d7 w10 (K10.out.rdo' ROrders.ok S9.out) (K10.out.rdo' ROrders.ok R9.out)).mono ?_
    rintro e w11 ⟨rfl, k11⟩
    have K11 := Lib.hid (K10.out.tr k11); clear k11 K10
    go_wp2_with fail
    refine (SameOrders_same y2 B8 B9 d8 d9 w11 (K11.out.rdo' ROrders.ok T9.out) (K11.out.rdo' ROrders.ok U9.out)).mono ?_
    rintro e w12 ⟨rfl, k12⟩
    go_wp2
    go_ret
    exact ⟨rfl, K9.out.tr (K11.out.tr k12)⟩

end Go.Proofs.Ytigmldildefdgaa
