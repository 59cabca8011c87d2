/- The program's comparison of uses at a complete choice is the decisions' order. No program in sight. Contract of decide of chapter 37: a complete choice. Conditions: as the theorem says. What a step of decide of chapter 37 needs: a pair in memory, choose at a pair, bounds. Conditions: as each theorem says. More moves for a region that draws its order: operations behind a guard, other operations in the first phase. No condition. The state of decide's loop of chapter 37 within a round. No program in sight but the state in memory. -/
import Derived.Test.YtilbbpbjhoidhaaE15
import Derived.Test.YtilbbpbjhoidhaaE27
import Derived.Test.YtilbbpbjhoidhaaE28
import Derived.Deep.CutRange
namespace Go.Proofs.Ytilbbpbjhoidhaa
open Go.RowKit

theorem plK_congr {lt lt' : Ref → Ref → Bool} {u : Ref} {l : List Ref} (h : ∀ v ∈ l, lt u v = lt' u v) : ∀ k, plK lt u l k = plK lt' u l k
 | 0 => rfl
 | k + 1 => by
  unfold plK
  rw [plK_congr h k]
  cases e : l[k]? with
  | none => rfl
  | some v => simp only [h v (List.mem_of_getElem? e)]
theorem sortB_congr {lt lt' : Ref → Ref → Bool} {M : List Ref} (h : ∀ u ∈ M, ∀ v ∈ M, lt u v = lt' u v) : sortB lt M = sortB lt' M := by
 unfold sortB
 have key : ∀ (l acc : List Ref), (∀ u ∈ l, u ∈ M) → (∀ u ∈ acc, u ∈ M) → l.foldl (fun acc u => plU lt u acc) acc = l.foldl (fun acc u => plU lt' u acc) acc := by
  intro l
  induction l with
  | nil => intro _ _ _; rfl
  | cons a l ih =>
   intro acc h1 h2
   have e : plU lt a acc = plU lt' a acc := by
    unfold plU
    rw [plK_congr (fun v hv => h a (h1 a (by simp)) v (h2 v hv))]
   simp only [List.foldl_cons]
   rw [e]
   refine ih _ (fun u hu => h1 u (by simp [hu])) (fun u hu => ?_)
   have := (plU_permR lt' a acc).mem_iff.1 hu
   rcases List.mem_append.1 this with hm | hm
   ·exact h2 u hm
   ·simp at hm; subst hm; exact h1 u (by simp)
 exact key M [] (fun _ h => h) (by simp)
section
variable {ps : List (List Stage)} {at_ : List Int} {D : List RArc} {L : List Ref} {n r : Int} {l : List Ref}
theorem bef_rel (h : Topo ps at_ D L) {v : Ref} (hv : v ∈ openA ps at_ r) (hd : doneR at_ v = false) (t : Int) : befS ps at_ D L t v ≤ befS ps at_ D L t (relOf ps r v) := by
 unfold relOf
 split
 ·have hev := (open_use hv).2
  unfold openA openU at hv
  obtain ⟨hv, _⟩ := List.mem_filter.1 hv
  obtain ⟨tt, k, p, s, hp, hs, _, rfl⟩ := mem_allU.1 hv
  have hm : (⟨⟨(tt : Int), (k : Int)⟩, ⟨(tt : Int), (k : Int) + 1⟩, s.mn⟩ : RArc) ∈ arcsD ps D := List.mem_append_left _ (mem_chainR.2 ⟨tt, k, p, s, hp, hs, rfl⟩)
  have he : Ev ps at_ ⟨(tt : Int), (k : Int) + 1⟩ := by
   refine ⟨⟨tt, k + 1, p, hp, getElem?_lt hs, by simp⟩, ?_⟩
   unfold doneR at hd ⊢
   simp at hd ⊢
   omega
  exact (befS_arc h hm he hd t).1
 ·exact Int.le_refl _
theorem prec_lab (hvv : valid ps = true) (h : Topo ps at_ D L) (ho : ∀ a ∈ D, doneR at_ a.to = false) (hd : Dec ps at_ D r l) {u v : Ref} (hu : u ∈ l) (hv : v ∈ l) : decide (cmpL ps at_ (labS ps at_ n D L) r u v < 0) = precD ps D r u v := by
 unfold cmpL precD precL
 by_cases e : u = v
 ·subst e; simp
 ·rw [if_neg e]
  by_cases ht : u.tr = v.tr
  ·rw [if_pos ht, if_pos ht]
   by_cases hs : u.st < v.st <;> simp [hs]
  ·rw [if_neg ht, if_neg ht]
   have huo := hd.use u hu
   have hvo := hd.use v hv
   rw [leadsL_eq hvv (open_use huo).2.1]
   by_cases ha : arc0 (relOf ps r u) v ∈ D
   ·have hdn : doneR at_ v = false := ho _ ha
    have := (befS_arc h (List.mem_append_right _ ha) ⟨(open_use hvo).1, hdn⟩ (open_use huo).2.2 (relOf ps r u).tr).2 rfl
    have hl : leadsS ps at_ D L (relOf ps r u) v = true := by unfold leadsS; rw [decide_eq_true_eq]; exact this
    simp [hdn, hl, ha]
   ·have hb : arc0 (relOf ps r v) u ∈ D := (hd.all u hu v hv ht).resolve_left ha
    have hud : doneR at_ u = false := ho _ hb
    have hno : (!doneR at_ v && leadsS ps at_ D L (relOf ps r u) v) = false := by
     by_cases hvd : doneR at_ v = true
     ·rw [hvd]; rfl
     ·have hvd : doneR at_ v = false := by simpa using hvd
      cases hl : leadsS ps at_ D L (relOf ps r u) v with
      | false => rw [Bool.and_false]
      | true =>
       have h2 : Topo ps at_ (D ++ [arc0 (relOf ps r v) u]) L := ⟨h.nd, h.mem, fun a hm he => by
        rw [arcsD_snoc] at hm
        rcases List.mem_append.1 hm with hm | hm
        ·exact h.ord a hm he
        ·simp at hm; subst hm; exact h.ord _ (List.mem_append_right _ hb) he⟩
       have h3 := topo_bad h h2 (open_use hvo).2 ⟨(open_use huo).1, hud⟩
       have h4 := bef_rel h hvo hvd u.tr
       have h5 : u.st ≤ (relOf ps r u).st := by unfold relOf; split; (show u.st ≤ u.st + 1; omega); exact Int.le_refl _
       have h6 := relOf_tr ps r u
       unfold leadsS at hl h3
       rw [decide_eq_true_eq, h6] at hl
       rw [decide_eq_false_iff_not] at h3
       omega
    rw [hno]
    simp [ha]
end
theorem openA_len (ps : List (List Stage)) (at_ : List Int) (r : Int) : (openA ps at_ r).length ≤ (allU ps r).length := List.length_filter_le _ _
theorem allU_640 {ps : List (List Stage)} (hv : valid ps = true) (r : Int) : (allU ps r).length ≤ 640 := by
 have hl := valid_lens hv
 have h1 : ∀ (t : Nat) (p : List Stage), (pathAll r t p).length ≤ p.length := fun t p => by
  have : ∀ n, n ≤ p.length → (pathAll r t (p.take n)).length ≤ n := by
   intro n
   induction n with
   | zero => intro _; simp [pathAll]
   | succ n ih =>
    intro hn
    rw [pathAll_succ r t (List.getElem?_eq_getElem (by omega) : p[n]? = some p[n]), List.length_append]
    have := ih (by omega)
    split <;> simp <;> omega
  have := this p.length (Nat.le_refl _)
  rwa [List.take_length] at this
 have h2 : ∀ n, n ≤ ps.length → (allU (ps.take n) r).length ≤ n * 64 := by
  intro n
  induction n with
  | zero => intro _; simp [allU]
  | succ n ih =>
   intro hn
   rw [allU_succ r (List.getElem?_eq_getElem (by omega) : ps[n]? = some ps[n]), List.length_append]
   have h3 := ih (by omega)
   have h4 := h1 n ps[n]
   have h5 := (hl.2 ps[n] (List.getElem_mem _)).2
   omega
 have h3 := h2 ps.length (Nat.le_refl _)
 rw [List.take_length] at h3
 omega
theorem open_len {ps : List (List Stage)} {at_ : List Int} (hv : valid ps = true) : ∀ r : Nat, r < 144 → (openA ps at_ (r : Int)).length ≤ 640 := fun _ _ => Nat.le_trans (openA_len ps at_ _) (allU_640 hv _)
theorem Tot.congr {lt lt' : Ref → Ref → Bool} {l : List Ref} (h : Tot lt l) (he : ∀ u ∈ l, ∀ v ∈ l, lt' u v = lt u v) : Tot lt' l :=
  ⟨fun u hu v hv hne => by rw [he u hu v hv, he v hv u hu]; exact h.tot u hu v hv hne,
   fun u hu v hv h1 => by rw [he u hu v hv] at h1; rw [he v hv u hu]; exact h.asym u hu v hv h1,
   fun u hu v hv w hw h1 h2 => by rw [he u hu v hv] at h1; rw [he v hv w hw] at h2; rw [he u hu w hw]; exact h.trans u hu v hv w hw h1 h2⟩

theorem Gm.own_lt {s : GS} {w0 w : World} {d : GD} (h : Gm s w0 w d) {b : Nat} (hb : GOwn s d b) : b < w.heap.size := by
 rcases hb with rfl | rfl | rfl | rfl | hb | hb | ⟨i, v, hv, hb⟩
 ·exact h.b.lt
 ·exact h.l.lt
 ·exact h.nr.blk.lt
 ·exact h.qd.lt
 ·exact (h.lg.lt hb).2
 ·exact (h.q.lt hb).2
 ·have hl : i < d.N.length := by rw [← h.nr.len]; exact getElem?_lt hv
  exact ((h.nr.own i v _ hv (List.getElem?_eq_getElem hl)).lt hb).2
theorem GP.bd {s : GS} {D : List RArc} {d : GD} (hs : SOk s) (h : GP s D d) (v : Ref) : (∀ t, t < 10 → -1 ≤ (d.T v).bf t ∧ (d.T v).bf t ≤ 64) ∧ -1 ≤ (d.T v).sec ∧ (d.T v).sec ≤ 3000000000 := by
 obtain ⟨D', L, ht, _, hT, _⟩ := h.ex
 have := labS_bounds hs h.dok ht v
 rw [← hT] at this
 exact this.2
structure SrOk (s : GS) (w0 : World) (v : PV) (due wgt : List Int) (budget : Nat) : Prop where
 so : SOk s
 sp : GSP s w0 v due wgt
 p : PbOk (s.pb due wgt)
 b : budget ≤ 1048576
 al : s.at_.length = s.ps.length
 n : s.ps.length ≤ 10
def DecPost (X : Foot) (s : GS) (w0 : World) (p : Pb) (budget zb : Nat) (au ap : Option Addr) (cu cp : Nat) (w : World) (d : GD) (r : Bool × SSt) (e : Ending) (w' : World) : Prop :=
 e = .returned (.bool r.1) ∧ ∃ d', Srch X s w0 p budget zb au ap cu cp w' d' r.2 ∧ Frm s zb w d w' d' ∧ (r.1 = true → d'.T = d.T ∧ d'.N = d.N ∧ d'.lg = d.lg ∧ d'.qd = d.qd)

set_option maxRecDepth 100000 in
set_option maxHeartbeats 4000000 in
theorem decide_leaf (X : Foot) (s : GS) (w0 w : World) (v : PV) (due wgt : List Int) (budget zb : Nat) (au ap : Option Addr) (cu cp : Nat) (d : GD) (bs : List Bool) (st : SSt) (hk : SrOk s w0 v due wgt budget) (hl : bs.length = (xs (s.pb due wgt)).length)
  (h : Srch X s w0 (s.pb due wgt) budget zb au ap cu cp w d st) (hg : GP s (decs s.ps (xs (s.pb due wgt)) bs) d) :
  Calls Try.prog 41 #[.pointer (some ⟨zb, 0, none⟩), .int .i64 (bs.length : Int)] w (DecPost X s w0 (s.pb due wgt) budget zb au ap cu cp w d (decF budget (s.pb due wgt) 0 bs st)) := by
 have hnp : (prLs (usesP s.ps s.at_) 144).length = bs.length := by rw [hl, prLs_pairs s.ps s.at_ 144 (Nat.le_refl _), List.length_map]; rfl
 have HF : Hid (∀ w' d', Srch X s w0 (s.pb due wgt) budget zb au ap cu cp w' d' ⟨st.steps, some (bs, costD (s.pb due wgt) (decs s.ps (xs (s.pb due wgt)) bs))⟩ → d' = d → Frm s zb w d w' d' → DecPost X s w0 (s.pb due wgt) budget zb au ap cu cp w d (decF budget (s.pb due wgt) 0 bs st) (.returned (.bool true)) w') := fun w' d' h1 h2 h3 => ⟨rfl, d', h1, h3, fun _ => by subst h2; exact ⟨rfl, rfl, rfl, rfl⟩⟩
 have HTT : Hid (∀ r : Nat, r < 144 → (openA s.ps s.at_ (r : Int)).length ≤ 640 ∧ (openA s.ps s.at_ (r : Int)).Nodup ∧ Tot (fun u v => decide (cmpL s.ps s.at_ d.T (r : Int) u v < 0)) (openA s.ps s.at_ (r : Int))) := fun r hr => by
  obtain ⟨D', L, ht, _, hTT, _⟩ := hg.ex
  have hd : Dec s.ps s.at_ (decs s.ps (xs (s.pb due wgt)) bs) (r : Int) (openA s.ps s.at_ (r : Int)) := made_dec hk.so.v hl hr
  refine ⟨open_len hk.so.v r hr, openA_nd _ _ _, (prec_tot ht hg.ho hd).congr fun u hu v hv => ?_⟩
  rw [hTT]
  exact prec_lab hk.so.v ht hg.ho hd hu hv
 have hT := hg.T_eq hk.so
 have hOU : ∀ W, KeepsAll w W → RUsess W (Old W) [.slice au 144 cu] (usesP s.ps s.at_) := fun W hW => RUsess.ok.mono h.u (fun b hb => Nat.lt_of_lt_of_le hb.1.1 hW.size) (fun b hb => hW.block b hb.1.1 (by simp))
 have HO : Hid (∀ W, KeepsAll w W → Calls Try.prog 69 #[.pointer (some ⟨s.gb, 0, none⟩), .slice au 144 cu] W fun e w' => ∃ v, e = .returned v ∧ ROrders w' (Fresh W w') [v] (ordB (s.pb due wgt) bs) ∧ KeepsAll W w') := fun W hW => by
  have := gorders_any s w0 W d (h.g.keep hW) au cu (hOU W hW) hk.al hk.n (fun v => (hg.bd hk.so v).1) HTT.out
  rw [hT] at this
  exact this
 have HE : Hid (∀ W, KeepsAll w W → Calls Try.prog 53 #[.pointer (some ⟨s.gb, 0, none⟩)] W fun e w' => ∃ v, e = .returned v ∧ RIntss w' (Fresh W w') [v] (entB (s.pb due wgt) bs) ∧ KeepsAll W w') := fun W hW => by
  have := genter_any s w0 W d v due wgt hk.sp hk.p (h.g.keep hW)
  rw [hT] at this
  exact this.mono (by rintro e w' ⟨A, h1, h2, h3⟩; exact ⟨_, h1, h2, h3⟩)
 have HC : Hid (∀ W, KeepsAll w W → Calls Try.prog 63 #[.pointer (some ⟨s.gb, 0, none⟩)] W fun e w' => e = .returned (.int .i64 (costD (s.pb due wgt) (decs s.ps (xs (s.pb due wgt)) bs))) ∧ KeepsAll W w') := fun W hW => by
  have := gcost_any s w0 W d v due wgt hk.sp hk.p (h.g.keep hW) (fun u => by have := (hg.bd hk.so u).2; omega)
  rw [hT] at this
  exact this
 have HOL : Hid (∀ b, GOwn s d b → b < w.heap.size) := fun b hb => h.g.own_lt hb
 obtain ⟨vo, ve, vc, fd, hb, hbest⟩ := h.b
 have HS := Lib.hid h
 have HB := Lib.hid hb
 have hzl := hb.lt
 rw [hnp] at HB
 clear h hb hbest hT hOU hg hl hk HTT
 have HST : Hid (Srch X s w0 (s.pb due wgt) budget zb au ap cu cp w d st) := HS.out
 have HBV : Hid (∀ w3 vo' ve', KeepsAll w w3 → ROrders w3 (Fresh w w3) [vo'] (ordB (s.pb due wgt) bs) → RIntss w3 (Fresh w w3) [ve'] (entB (s.pb due wgt) bs) → ∀ w4, Keeps (fun b => b = zb) w3 w4 → Blk w4 zb 83 (srC s au ap cu cp bs.length budget st.steps vo' ve' (costD (s.pb due wgt) (decs s.ps (xs (s.pb due wgt)) bs)) true) → DecPost X s w0 (s.pb due wgt) budget zb au ap cu cp w d (decF budget (s.pb due wgt) 0 bs st) (.returned (.bool true)) w4) := by
  intro w3 vo' ve' k3 hr1 hr2 w4 k4 hb4
  have hS : ∀ b, Fresh w w3 b → SFX X s w4 d zb b := fun b hb => ⟨⟨Nat.lt_of_lt_of_le hb.2 k4.size, fun e => by have := HOL.out b e; have := hb.1; omega, fun e => by have := hb.1; omega⟩, fun e => by have := HST.out.xo b e; have := hb.1; omega⟩
  have hW : ∀ b, Fresh w w3 b → w4.heap[b]? = w3.heap[b]? := fun b hb => k4.block b hb.2 (fun e => by have := hb.1; omega)
  refine HF.out w4 d ((HST.out.keep k3).own k4 ⟨vo', ve', _, true, by rw [hnp]; exact hb4, rfl, rfl, ROrders.ok.mono hr1 hS hW, RIntss.ok.mono hr2 hS hW⟩) rfl ((Frm.keep k3).trans (Frm.own k4))
 clear HF HST HS HOL hnp
 generalize ordB (s.pb due wgt) bs = OB at *
 generalize entB (s.pb due wgt) bs = EB at *
 generalize costD (s.pb due wgt) (decs s.ps (xs (s.pb due wgt)) bs) = cd at *
 generalize DecPost X s w0 (s.pb due wgt) budget zb au ap cu cp w d (decF budget (s.pb due wgt) 0 bs st) = PP at *
 unfold srC at HB HBV
 have f0 := HB.out.cell 0
 have f1 := HB.out.cell 1
 have f2 := HB.out.cell 2
 simp at f0 f1 f2
 generalize s.gb = gb at *
 generalize bs.length = nb at *
 generalize st.steps = ns at *
 go_enter Try.func41, Try.ntmps41
 go_wp2_with fail
 refine wp_region_lex (fun w' => ∃ x : Ext w, w' = x.val) [0, 1, 2, 3, 4, 5, 6, 7, 8, 10, 11, 12, 13, 15, 16, 17, 18, 9, 14, 19, 20, 21, 22, 23] (by kernel_rfl) (by kernel_rfl) ⟨⟨_, (Keeps.refl _ _).drew⟩, rfl⟩ ?_
 have y0 := Ext.cell f0
 have y1 := Ext.cell f1
 iterate 17 (first | (refine lex_q _ rfl rfl rfl ?_; go_big_quiet_step (fail); refine wpQuiet_nil ?_) | (refine lex_nil _ rfl _ rfl rfl _ rfl ?_; go_simp))
 refine lex_a _ rfl rfl true (by kernel_rfl) ?_
 go_wp2_with fail
 have K0 : KeepsAll w w.drew := (Keeps.refl _ _).drew
 refine (HO.out _ K0).mono ?_
 rintro e w1 ⟨v1, rfl, r1, k1⟩
 have K1 := Lib.hid (K0.tr k1)
 obtain ⟨A1, c1, hv1, -⟩ := id r1
 injection hv1 with hv1
 subst hv1
 have R1 := Lib.hid r1
 clear k1 r1 K0
 go_wp2
 refine ⟨fun _ => ⟨⟨_, K1.out⟩, rfl⟩, ?_⟩
 refine lex_a _ rfl rfl true (by kernel_rfl) ?_
 go_wp2_with fail
 refine (HE.out _ K1.out).mono ?_
 rintro e w2 ⟨v2, rfl, r2, k2⟩
 have K2 := Lib.hid (K1.out.tr k2)
 have K12 := Lib.hid k2
 obtain ⟨A2, c2, hv2, -⟩ := id r2
 injection hv2 with hv2
 subst hv2
 have R2 := Lib.hid r2
 clear k2 r2
 go_wp2
 refine ⟨fun _ => ⟨⟨_, K2.out⟩, rfl⟩, ?_⟩
 refine lex_a _ rfl rfl true (by kernel_rfl) ?_
 go_wp2_with fail
 refine (HC.out _ K2.out).mono ?_
 rintro e w3 ⟨rfl, k3⟩
 have K3 := Lib.hid (K2.out.tr k3)
 have K23 := Lib.hid k3
 clear k3
 go_wp2
 refine ⟨fun _ => ⟨⟨_, K3.out⟩, rfl⟩, ?_⟩
 refine lex_q _ rfl rfl rfl ?_; go_big_quiet_step (fail); refine wpQuiet_nil ?_
 refine lex_nil _ rfl _ rfl rfl _ rfl ?_; go_simp
 refine lex_q _ rfl rfl rfl ?_; go_big_quiet_step (fail); refine wpQuiet_nil ?_
 refine lex_a _ rfl rfl false (by kernel_rfl) ?_
 have HB3 := Lib.hid (HB.out.kept K3.out (by simp))
 have z5 := HB3.out.cell 5
 have z6 := HB3.out.cell 6
 have z7 := HB3.out.cell 7
 have e5 := HB3.out.frozen 5
 have e6 := HB3.out.frozen 6
 have e7 := HB3.out.frozen 7
 simp at z5 z6 z7
 clear y0 y1 f0 f1 f2
 go_wp2
 (try refine ⟨fun h => (by cases h), ?_⟩)
 simp only [wpLex]
 refine NoPanic.normal ?_
 generalize hW4 : World.setCell (World.setCell (World.setCell w3 _ _) _ _) _ _ = W4
 have HB4 : Hid (Blk W4 zb 83 #[.pointer (some ⟨gb, 0, none⟩), .slice au 144 cu, .slice ap nb cp, .int .i64 (budget : Int), .int .i64 (ns : Int), .slice A1 OB.length c1, .slice A2 EB.length c2, .int .i64 cd, .bool fd]) := by subst hW4; exact ((HB3.out.set_ 5 _).set_ 6 _).set_ 7 _
 have K4 : Hid (Keeps (fun b => b = zb) w3 W4) := by subst hW4; exact (((Keeps.refl (fun b => b = zb) w3).setCell (p := ⟨zb, 5, none⟩) (fun _ => rfl) _).setCell (p := ⟨zb, 6, none⟩) (fun _ => rfl) _).setCell (p := ⟨zb, 7, none⟩) (fun _ => rfl) _
 clear hW4 z5 z6 z7 e5 e6 e7 HB3
 have z8 := HB4.out.cell 8
 have e8 := HB4.out.frozen 8
 simp at z8
 have hz4 := HB4.out.lt
 go_wp2
 have hr1 : ROrders w3 (Fresh w w3) [.slice A1 OB.length c1] OB := ROrders.ok.mono R1.out (fun b hb => ⟨hb.1, Nat.lt_of_lt_of_le hb.2 (Nat.le_trans K12.out.size K23.out.size)⟩) (fun b hb => (K12.out.tr K23.out).block b hb.2 (by simp))
 have hr2 : RIntss w3 (Fresh w w3) [.slice A2 EB.length c2] EB := RIntss.ok.mono R2.out (fun b hb => ⟨Nat.le_trans K1.out.size hb.1, Nat.lt_of_lt_of_le hb.2 K23.out.size⟩) (fun b hb => K23.out.block b hb.2 (by simp))
 exact HBV.out w3 _ _ K3.out hr1 hr2 _ (K4.out.setCell (p := ⟨zb, 8, none⟩) (fun _ => rfl) _) (HB4.out.set_ 8 _)

theorem RPUs.at_ {w : World} {S : Foot} {A : Option Addr} {n c : Nat} {l : List (Use × Use)} (h : RPUs w S [.slice A n c] l) {k : Nat} (hk : k < l.length) : ∃ b o x, A = some ⟨b, o, none⟩ ∧ S b ∧ l[k]? = some x ∧
  w.cell? ⟨b, o + k * 8, none⟩ = some (.int .i64 x.1.u.tr) ∧ w.cell? ⟨b, o + k * 8 + 1, none⟩ = some (.int .i64 x.1.u.st) ∧ w.cell? ⟨b, o + k * 8 + 2, none⟩ = some (.int .i64 x.1.en) ∧ w.cell? ⟨b, o + k * 8 + 3, none⟩ = some (.int .i64 x.1.rl) ∧
  w.cell? ⟨b, o + k * 8 + 4, none⟩ = some (.int .i64 x.2.u.tr) ∧ w.cell? ⟨b, o + k * 8 + 5, none⟩ = some (.int .i64 x.2.u.st) ∧ w.cell? ⟨b, o + k * 8 + 6, none⟩ = some (.int .i64 x.2.en) ∧ w.cell? ⟨b, o + k * 8 + 7, none⟩ = some (.int .i64 x.2.rl) := by
 obtain ⟨b, o, x, es, hb, hS, hx, h1, h2, h3⟩ := h.get hk
 cases h2
 exact ⟨b, o, x, hb, hS, hx, by simpa using h3 0 _ rfl, by simpa [Nat.add_assoc] using h3 1 _ rfl, by simpa [Nat.add_assoc] using h3 2 _ rfl, by simpa [Nat.add_assoc] using h3 3 _ rfl, by simpa [Nat.add_assoc] using h3 4 _ rfl, by simpa [Nat.add_assoc] using h3 5 _ rfl, by simpa [Nat.add_assoc] using h3 6 _ rfl, by simpa [Nat.add_assoc] using h3 7 _ rfl⟩
theorem choose_pr (s : GS) (w0 w : World) (D : List RArc) (d : GD) (hs : SOk s) (h : Gm s w0 w d) (hp : GP s D d) (hDl : D.length ≤ 90000000) (r : Int) (u v : Ref) (hu : InR s.ps (relOf s.ps r u)) (hd : doneR s.at_ (relOf s.ps r u) = false) (hv : InR s.ps v) (hne : u.tr ≠ v.tr) :
  Calls Try.prog 70 #[.pointer (some ⟨s.gb, 0, none⟩), .agg (u4 (evF s.ps r) u).toArray, .agg (u4 (evF s.ps r) v).toArray] w fun e w' => e = .returned (.bool (okD s.ps s.at_ (D ++ [arc0 (relOf s.ps r u) v]))) ∧ ChPost s w0 D (arc0 (relOf s.ps r u) v) d w' := by
 have htr := relOf_tr s.ps r u
 obtain ⟨tx, kx, px, hpx, hkx, e1⟩ := hu
 obtain ⟨ty, ky, py, hpy, hky, rfl⟩ := hv
 have n1 : num s.ps (relOf s.ps r u) = fst s.ps tx + kx := by rw [e1]; unfold num; simp
 have n2 : num s.ps ⟨(ty : Int), (ky : Int)⟩ = fst s.ps ty + ky := by unfold num; simp
 have hn : tx ≠ ty := fun e => hne (by rw [← htr, e1, e])
 have := choose_any s w0 w D d hs h hp hDl tx kx ty ky px py hpx hkx hpy hky (by rw [← e1]; exact hd) hn u.tr u.st (num s.ps u : Int) (ty : Int) (ky : Int) (num s.ps (relOf s.ps r ⟨(ty : Int), (ky : Int)⟩) : Int) _ _ n1 n2
 rw [← e1] at this
 exact this
theorem filter_len_ {α : Type} (q : α → Bool) (l : List α) : (l.filter q).length ≤ l.length := List.length_filter_le q l
theorem pairsL_len (r : Int) {l : List Ref} (hl : l.length ≤ 640) : (pairsL r l).length ≤ 409600 := by
 have h : ∀ m : List Ref, (m.flatMap fun u => (l.filter fun v => decide (u.tr < v.tr)).map fun v => (⟨r, u, v⟩ : Pr)).length ≤ m.length * 640 := by
  intro m
  induction m with
  | nil => simp
  | cons a m ih =>
   have := filter_len_ (fun v : Ref => decide (a.tr < v.tr)) l
   simp only [List.flatMap_cons, List.length_append, List.length_map, List.length_cons] at ih ⊢
   omega
 have := h l
 unfold pairsL
 omega
theorem pairsTo_len (ps : List (List Stage)) (at_ : List Int) (h : ∀ r : Nat, r < 144 → (openA ps at_ (r : Int)).length ≤ 640) : ∀ n, n ≤ 144 → (pairsTo ps at_ n).length ≤ n * 409600
 | 0, _ => by simp [pairsTo]
 | n + 1, hn => by
  have e : pairsTo ps at_ (n + 1) = pairsTo ps at_ n ++ pairsL (n : Int) (openA ps at_ (n : Int)) := by
   unfold pairsTo
   rw [List.range_succ, List.flatMap_append]
   simp
  have h1 := pairsTo_len ps at_ h n (by omega)
  have h2 := pairsL_len (n : Int) (h n (by omega))
  rw [e, List.length_append]
  omega
theorem SrOk.xs_len {s : GS} {w0 : World} {v : PV} {due wgt : List Int} {budget : Nat} (h : SrOk s w0 v due wgt budget) : (xs (s.pb due wgt)).length ≤ 58982400 := pairsTo_len s.ps s.at_ (open_len h.so.v) 144 (Nat.le_refl _)
theorem decs_len (ps : List (List Stage)) (xs : List Pr) (bs : List Bool) : (decs ps xs bs).length ≤ bs.length := by
 unfold decs
 rw [List.length_zipWith]
 exact Nat.min_le_right _ _

theorem GP.congr {s : GS} {D : List RArc} {d d' : GD} (h : GP s D d) (hT : d'.T = d.T) (hN : d'.N = d.N) (hl : d'.lg = d.lg) (hq : d'.qd = d.qd) : GP s D d' :=
 ⟨h.dok, h.ho, by rw [hq]; exact h.fl, by rw [hT, hN, hl]; exact h.ex⟩
theorem GP.lg_len {s : GS} {D : List RArc} {d : GD} (hs : SOk s) (h : GP s D d) : d.lg.length ≤ 1780000000000 + D.length := by
 obtain ⟨D', L, ht, _, hT, _, hl, hb⟩ := h.ex
 have := labS_abs hs h.dok ht
 rw [← hT] at this
 omega
def XX (X : Foot) (z5 z6 : Nat) : Foot := fun b => X b ∨ b = z5 ∨ b = z6
structure DcL (X : Foot) (s : GS) (w0 : World) (p : Pb) (budget zb : Nat) (au ap : Option Addr) (cu cp : Nat) (w : World) (d : GD) (D : List RArc) (bs : List Bool) (k : Nat) (st : SSt) (z5 z6 : Nat) (i : Nat) (wr : World) (d' : GD) (st' : SSt) : Prop where
 sr : Srch X s w0 p budget zb au ap cu cp wr d' st'
 le : st'.steps ≤ budget
 gp : GP s D d'
 eq : d'.T = d.T ∧ d'.N = d.N ∧ d'.lg = d.lg ∧ d'.qd = d.qd
 fr : Frm s zb w d wr d'
 n5 : ¬ GOwn s d' z5 ∧ z5 ≠ zb
 n6 : ¬ GOwn s d' z6 ∧ z6 ≠ zb
 res : decF budget p (k + 1) bs st = decT budget p (decF budget p k) bs ([true, false].drop i) st'
section
variable {X : Foot} {s : GS} {w0 : World} {p : Pb} {budget zb : Nat} {au ap : Option Addr} {cu cp : Nat} {w wr w' : World} {d d' d'' : GD} {D : List RArc} {bs : List Bool} {k : Nat} {st st' : SSt} {z5 z6 i : Nat}
theorem DcL.start (h : Srch X s w0 p budget zb au ap cu cp w d st) (hl : st.steps ≤ budget) (hg : GP s D d) (hk : KeepsAll w wr) (h5 : w.heap.size ≤ z5) (h6 : w.heap.size ≤ z6) (g5 : z5 < wr.heap.size) (g6 : z6 < wr.heap.size) : DcL (XX X z5 z6) s w0 p budget zb au ap cu cp w d D bs k st z5 z6 0 wr d st :=
 ⟨h.more hk (fun b hb => hb.elim .inl (fun e => .inr (by omega))), hl, hg, ⟨rfl, rfl, rfl, rfl⟩, Frm.keep hk, ⟨fun e => by have := h.g.own_lt e; omega, by have := h.zlt; omega⟩, ⟨fun e => by have := h.g.own_lt e; omega, by have := h.zlt; omega⟩, rfl⟩
theorem DcL.far (h : DcL X s w0 p budget zb au ap cu cp w d D bs k st z5 z6 i wr d' st') {z : Nat} (kk : Keeps (fun b => b = z) wr w') (hX : X z) (hn : ¬ GOwn s d' z ∧ z ≠ zb) (hs : s.bs ≤ z) (hw : w.heap.size ≤ z) : DcL X s w0 p budget zb au ap cu cp w d D bs k st z5 z6 i w' d' st' :=
 ⟨h.sr.farX kk hX hn.1 hn.2 hs, h.le, h.gp, h.eq, h.fr.new kk hw, h.n5, h.n6, h.res⟩
theorem DcL.keep (h : DcL X s w0 p budget zb au ap cu cp w d D bs k st z5 z6 i wr d' st') (K : KeepsAll wr w') : DcL X s w0 p budget zb au ap cu cp w d D bs k st z5 z6 i w' d' st' :=
 ⟨h.sr.keep K, h.le, h.gp, h.eq, h.fr.trans (Frm.keep K), h.n5, h.n6, h.res⟩
theorem DecPost.less {Y : Foot} {r : Bool × SSt} {e : Ending} (h : DecPost Y s w0 p budget zb au ap cu cp w d r e w') (hY : ∀ b, X b → Y b) : DecPost X s w0 p budget zb au ap cu cp w d r e w' := by
 obtain ⟨h1, d', h2, h3, h4⟩ := h
 exact ⟨h1, d', h2.less hY, h3, h4⟩
theorem DcL.out (h : DcL X s w0 p budget zb au ap cu cp w d D bs k st z5 z6 i wr d' st') (hi : i < 2) (hs : st'.steps = budget) : DecPost X s w0 p budget zb au ap cu cp w d (decF budget p (k + 1) bs st) (.returned (.bool false)) wr ∧ (decF budget p (k + 1) bs st).2.steps ≤ budget := by
 have e : decF budget p (k + 1) bs st = (false, st') := by
  rw [h.res]
  have : ∃ b l, [true, false].drop i = b :: l := by
   rcases (show i = 0 ∨ i = 1 by omega) with rfl | rfl
   ·exact ⟨true, [false], rfl⟩
   ·exact ⟨false, [], rfl⟩
  obtain ⟨b, l, e⟩ := this
  rw [e, decT, if_pos hs]
 rw [e]
 exact ⟨⟨rfl, d', h.sr, h.fr, fun e => by cases e⟩, h.le⟩
theorem DcL.all (h : DcL X s w0 p budget zb au ap cu cp w d D bs k st z5 z6 2 wr d' st') : DecPost X s w0 p budget zb au ap cu cp w d (decF budget p (k + 1) bs st) (.returned (.bool true)) wr ∧ (decF budget p (k + 1) bs st).2.steps ≤ budget := by
 have e : decF budget p (k + 1) bs st = (true, st') := h.res
 rw [e]
 exact ⟨⟨rfl, d', h.sr, h.fr, fun _ => h.eq⟩, h.le⟩
theorem DcL.next (h : DcL X s w0 p budget zb au ap cu cp w d D bs k st z5 z6 i wr d' st') {st'' : SSt} (hsr : Srch X s w0 p budget zb au ap cu cp w' d'' st'') (hle : st''.steps ≤ budget) (heq : d''.T = d'.T ∧ d''.N = d'.N ∧ d''.lg = d'.lg ∧ d''.qd = d'.qd) (hfr : Frm s zb wr d' w' d'') (h5 : z5 < wr.heap.size) (h6 : z6 < wr.heap.size)
  (hres : decT budget p (decF budget p k) bs ([true, false].drop i) st' = decT budget p (decF budget p k) bs ([true, false].drop (i + 1)) st'') : DcL X s w0 p budget zb au ap cu cp w d D bs k st z5 z6 (i + 1) w' d'' st'' :=
 ⟨hsr, hle, h.gp.congr heq.1 heq.2.1 heq.2.2.1 heq.2.2.2, ⟨heq.1.trans h.eq.1, heq.2.1.trans h.eq.2.1, heq.2.2.1.trans h.eq.2.2.1, heq.2.2.2.trans h.eq.2.2.2⟩, h.fr.trans hfr,
  ⟨(hfr.bl z5 ⟨h5, h.n5.1, h.n5.2⟩).2, h.n5.2⟩, ⟨(hfr.bl z6 ⟨h6, h.n6.1, h.n6.2⟩).2, h.n6.2⟩, h.res.trans hres⟩
end

section
variable {P : Program} {l : List Oper} {Q : Exit → Act → World → Prop} {K : Act → World → Prop} {C : World → Prop} {need : Nat → Bool}
theorem lexK_nilg {i : Nat} {r : List Nat} {a : Act} {w : World} (o : Oper) (ho : l[i]? = some o) (x : Operand) (hx : o.op = .nilCheck x) (hg : Region.wanted o (yielded l.toArray a.tmps) = true) (ad : Addr) (he : a.eval x = .pointer (some ad))
  (h : wpLexK P l.toArray Q K C (actAt l) need r (a.put o.dst (.pointer (some ad))) w) : wpLexK P l.toArray Q K C (actAt l) need (i :: r) a w := by
 have haf : actAt l i = false := by simp [actAt, ho, hx, actOp]
 simp only [wpLexK, haf]
 rw [if_neg (by simp)]
 exact ⟨o, _, by simpa using ho, .inl ⟨hg, fun w' _ => exec_nil hx he w'⟩, h⟩
theorem lexK_skip {i : Nat} {r : List Nat} {a : Act} {w : World} (o : Oper) (ho : l[i]? = some o) (ha : actOp o.op = false) (hg : Region.wanted o (yielded l.toArray a.tmps) = false)
  (h : wpLexK P l.toArray Q K C (actAt l) need r (a.put o.dst undef) w) : wpLexK P l.toArray Q K C (actAt l) need (i :: r) a w := by
 have haf : actAt l i = false := by simp [actAt, ho, ha]
 simp only [wpLexK, haf]
 rw [if_neg (by simp)]
 exact ⟨o, _, by simpa using ho, .inr ⟨hg, rfl⟩, h⟩
theorem lex_skip {i : Nat} {r : List Nat} {a : Act} {w : World} (o : Oper) (ho : l[i]? = some o) (ha : actOp o.op = false) (hg : Region.wanted o (yielded l.toArray a.tmps) = false)
  (h : wpLex P l.toArray Q C (actAt l) need r (a.put o.dst undef) w) : wpLex P l.toArray Q C (actAt l) need (i :: r) a w := by
 have haf : actAt l i = false := by simp [actAt, ho, ha]
 simp only [wpLex, haf]
 rw [if_neg (by simp)]
 exact ⟨o, _, by simpa using ho, .inr ⟨hg, rfl⟩, h⟩
theorem lexK_a {i : Nat} {r : List Nat} {a : Act} {w : World} (o : Oper) (ho : l[i]? = some o) (ha : actOp o.op = true) (b : Bool) (hb : need i = b)
  (h : wpList P l.toArray (lexPost b C (wpLexK P l.toArray Q K C (actAt l) need r)) [o] a w) : wpLexK P l.toArray Q K C (actAt l) need (i :: r) a w := by
 subst hb
 have hQ : LetsOut (lexPost (need i) C (wpLexK P l.toArray Q K C (actAt l) need r)) → LetsOut Q := fun ⟨_, _, h⟩ => h.elim
 have haf : actAt l i = true := by simp [actAt, ho, ha]
 simp only [wpLexK, haf, if_true]
 unfold wpOp
 simp only [List.getElem?_toArray, ho]
 simp only [wpList] at h
 by_cases hw : Region.wanted o (yielded l.toArray a.tmps) = true
 ·rw [if_pos hw] at h ⊢
  rcases h with h | ⟨h1, h2⟩
  ·refine .inl ?_
   unfold Oper.wp at h ⊢
   generalize (execOp a.eval o).run P w = res at h ⊢
   cases res with
   | ok n w' =>
    cases n <;> simp only [Oper.upon] at h ⊢
    case value u => exact h
    case skip => exact h
    case defer d => exact h
    case enter f args =>
     refine Calls.mono h fun e w'' he => ?_
     cases e with
     | returned u => exact he
     | panicked c => exact he.elim
     | outgrown => exact hQ he
    case row row args => exact h
   | halt x w' =>
    cases x <;> simp only [Oper.upon] at h ⊢
    case panic u => exact h.elim
  ·exact .inr ⟨h1, hQ h2⟩
 ·rw [if_neg hw] at h ⊢
  exact h
theorem lexK_skipa {i : Nat} {r : List Nat} {a : Act} {w : World} (o : Oper) (ho : l[i]? = some o) (ha : actOp o.op = true) (hg : Region.wanted o (yielded l.toArray a.tmps) = false) (hC : C w)
  (h : wpLexK P l.toArray Q K C (actAt l) need r (a.put o.dst undef) w) : wpLexK P l.toArray Q K C (actAt l) need (i :: r) a w := by
 have haf : actAt l i = true := by simp [actAt, ho, ha]
 simp only [wpLexK, haf, if_true]
 unfold wpOp
 simp only [List.getElem?_toArray, ho]
 rw [if_neg (by rw [hg]; simp)]
 exact ⟨fun _ => hC, h⟩
theorem lex_skipa {i : Nat} {r : List Nat} {a : Act} {w : World} (o : Oper) (ho : l[i]? = some o) (ha : actOp o.op = true) (hg : Region.wanted o (yielded l.toArray a.tmps) = false) (hC : C w)
  (h : wpLex P l.toArray Q C (actAt l) need r (a.put o.dst undef) w) : wpLex P l.toArray Q C (actAt l) need (i :: r) a w := by
 have haf : actAt l i = true := by simp [actAt, ho, ha]
 simp only [wpLex, haf, if_true]
 unfold wpOp
 simp only [List.getElem?_toArray, ho]
 rw [if_neg (by rw [hg]; simp)]
 exact ⟨fun _ => hC, h⟩
end

structure DcM (X : Foot) (s : GS) (w0 : World) (p : Pb) (budget zb : Nat) (au ap : Option Addr) (cu cp : Nat) (w : World) (d : GD) (D : List RArc) (bs : List Bool) (k : Nat) (st : SSt) (z5 z6 : Nat) (i : Nat) (wr : World) (d' : GD) (st' : SSt) : Prop where
 sr : Srch X s w0 p budget zb au ap cu cp wr d' ⟨st'.steps + 1, st'.best⟩
 le : st'.steps < budget
 gp : GP s D d'
 eq : d'.T = d.T ∧ d'.N = d.N ∧ d'.lg = d.lg ∧ d'.qd = d.qd
 fr : Frm s zb w d wr d'
 n5 : ¬ GOwn s d' z5 ∧ z5 ≠ zb
 n6 : ¬ GOwn s d' z6 ∧ z6 ≠ zb
 res : decF budget p (k + 1) bs st = decT budget p (decF budget p k) bs ([true, false].drop i) st'
def DcT (X : Foot) (s : GS) (w0 : World) (p : Pb) (budget zb : Nat) (au ap : Option Addr) (cu cp : Nat) (w : World) (d : GD) (bs : List Bool) (k : Nat) (st : SSt) (z5 z6 : Nat) (i : Nat) (c5 c6 : Array Value) (b : Bool) (wx : World) : Prop :=
 (b = true → DecPost X s w0 p budget zb au ap cu cp w d (decF budget p (k + 1) bs st) (.returned (.bool false)) wx ∧ (decF budget p (k + 1) bs st).2.steps ≤ budget) ∧
 (b = false → ∃ d' st', Srch X s w0 p budget zb au ap cu cp wx d' st' ∧ st'.steps ≤ budget ∧ Frm s zb w d wx d' ∧ UnS s d.lg (d.T, d.N) d.qd d' ∧ d'.lg.length ≤ 3000000000000 ∧ (¬ GOwn s d' z5 ∧ z5 ≠ zb) ∧ (¬ GOwn s d' z6 ∧ z6 ≠ zb) ∧ Blk wx z5 133 c5 ∧ Blk wx z6 133 c6 ∧
  decF budget p (k + 1) bs st = decT budget p (decF budget p k) bs ([true, false].drop (i + 1)) st')
section
variable {X : Foot} {s : GS} {w0 : World} {p : Pb} {budget zb : Nat} {au ap : Option Addr} {cu cp : Nat} {w wr wq w1 w2 w3 w' : World} {d d' d1 d'' : GD} {D : List RArc} {bs : List Bool} {k : Nat} {st st' : SSt} {z5 z6 i : Nat} {c5 c6 : Array Value}
theorem DcL.step (h : DcL X s w0 p budget zb au ap cu cp w d D bs k st z5 z6 i wr d' st') (hlt : st'.steps ≠ budget) (K : KeepsAll wr wq) :
  DcM X s w0 p budget zb au ap cu cp w d D bs k st z5 z6 i (wq.setCell ⟨zb, 4, none⟩ (.int .i64 ((st'.steps : Int) + 1))) d' st' :=
 ⟨(h.sr.keep K).step, by have := h.le; omega, h.gp, h.eq, h.fr.trans ((Frm.keep (s := s) (zb := zb) (d := d') K).trans (Frm.own (d := d') ((Keeps.refl (fun b => b = zb) wq).setCell (p := ⟨zb, 4, none⟩) (fun _ => rfl) (.int .i64 ((st'.steps : Int) + 1))))), h.n5, h.n6, h.res⟩
theorem DcM.keep (h : DcM X s w0 p budget zb au ap cu cp w d D bs k st z5 z6 i wq d' st') (K : KeepsAll wq w') : DcM X s w0 p budget zb au ap cu cp w d D bs k st z5 z6 i w' d' st' :=
 ⟨h.sr.keep K, h.le, h.gp, h.eq, h.fr.trans (Frm.keep K), h.n5, h.n6, h.res⟩
theorem DcM.choose (hs : SOk s) (h : DcM X s w0 p budget zb au ap cu cp w d D bs k st z5 z6 i wq d' st') {a : RArc} (hc : ChPost (s.fr wq d') w0 D a d' w1) (hl : D.length + 1 ≤ 90000000) :
  ∃ d1, Srch X s w0 p budget zb au ap cu cp w1 d1 ⟨st'.steps + 1, st'.best⟩ ∧ Frm s zb wq d' w1 d1 ∧ Keeps (GOwn s d') wq w1 ∧ UnS s d.lg (d.T, d.N) d.qd d1 ∧ d1.lg.length ≤ 3000000000000 ∧ (okD s.ps s.at_ (D ++ [a]) = true → GP s (D ++ [a]) d1) := by
 obtain ⟨d1, hg, hy, hn⟩ := hc
 have hfr : Frm s zb wq d' w1 d1 := Frm.move hg
 have hk : Keeps (GOwn s d') wq w1 := by
  have k1 := h.sr.g.k
  have k2 := hg.k
  exact ⟨k2.os.trans k1.os.symm, k2.tape.trans k1.tape.symm, k2.output.trans k1.output.symm, hg.zs, fun b hb hn => (hg.frk hb hn).1⟩
 refine ⟨d1, h.sr.move hg, hfr, hk, ?_, ?_, fun e => (hy e).1.unfr⟩
 ·cases e : okD s.ps s.at_ (D ++ [a]) with
  | false =>
   obtain rfl := hn e
   exact ⟨⟨[], by simp [h.eq.2.2.1], by show _ = _; rw [h.eq.1, h.eq.2.1]⟩, h.eq.2.2.2⟩
  | true =>
   obtain ⟨hp, es, h1, h2⟩ := hy e
   refine ⟨⟨es, by rw [h1, h.eq.2.2.1], by rw [← h.eq.1, ← h.eq.2.1]; exact h2⟩, ?_⟩
   rw [← h.eq.2.2.2]
   have l1 : d1.qd.length = s.n := hg.ql
   have l2 := h.sr.g.ql
   refine List.ext_getElem? fun j => ?_
   have g1 := hp.fl j
   have g2 := h.gp.fl j
   by_cases hj : j < s.n
   ·rw [List.getElem?_eq_getElem (by omega)] at g1 ⊢
    rw [List.getElem?_eq_getElem (by omega)] at g2 ⊢
    generalize d1.qd[j]'_ = x at *
    generalize d'.qd[j]'_ = y at *
    cases x <;> cases y <;> simp_all
   ·rw [List.getElem?_eq_none (by omega), List.getElem?_eq_none (by omega)]
 ·cases e : okD s.ps s.at_ (D ++ [a]) with
  | false =>
   obtain rfl := hn e
   have := h.gp.lg_len hs
   omega
  | true =>
   have := (hy e).1.unfr.lg_len hs
   rw [List.length_append] at this
   simp at this
   omega
theorem DcM.no (h : DcM X s w0 p budget zb au ap cu cp w d D bs k st z5 z6 i wq d' st') {b : Bool} (hb : [true, false].drop i = b :: [true, false].drop (i + 1)) (hgo : goOn p (bs ++ [b]) st' = false)
  (hs1 : Srch X s w0 p budget zb au ap cu cp w1 d1 ⟨st'.steps + 1, st'.best⟩) (hf1 : Frm s zb wq d' w1 d1) (hu : UnS s d.lg (d.T, d.N) d.qd d1) (hl : d1.lg.length ≤ 3000000000000) (h5 : Blk wq z5 133 c5) (h6 : Blk wq z6 133 c6) (K : KeepsAll w1 w2) :
  DcT X s w0 p budget zb au ap cu cp w d bs k st z5 z6 i c5 c6 false w2 := by
 refine ⟨fun e => (by cases e), fun _ => ⟨d1, _, hs1.keep K, h.le, h.fr.trans (hf1.trans (Frm.keep K)), hu, hl, ⟨(hf1.blk h5 h.n5.1 h.n5.2).2, h.n5.2⟩, ⟨(hf1.blk h6 h.n6.1 h.n6.2).2, h.n6.2⟩, (hf1.blk h5 h.n5.1 h.n5.2).1.kept K (by simp), (hf1.blk h6 h.n6.1 h.n6.2).1.kept K (by simp), ?_⟩⟩
 have := h.le
 rw [h.res, hb, decT, if_neg (by omega), hgo, if_neg (by simp)]
theorem DcM.yes (h : DcM X s w0 p budget zb au ap cu cp w d D bs k st z5 z6 i wq d' st') {b : Bool} (hb : [true, false].drop i = b :: [true, false].drop (i + 1)) (hgo : goOn p (bs ++ [b]) st' = true)
  (hf1 : Frm s zb wq d' w1 d1) (hu : UnS s d.lg (d.T, d.N) d.qd d1) (hl : d1.lg.length ≤ 3000000000000) (h5 : Blk wq z5 133 c5) (h6 : Blk wq z6 133 c6) (K : KeepsAll w1 w2) {e : Ending}
  (hp : DecPost X s w0 p budget zb au ap cu cp w2 d1 (decF budget p k (bs ++ [b]) ⟨st'.steps + 1, st'.best⟩) e w3 ∧ (decF budget p k (bs ++ [b]) ⟨st'.steps + 1, st'.best⟩).2.steps ≤ budget) :
  ∃ r : Bool, e = .returned (.bool r) ∧ DcT X s w0 p budget zb au ap cu cp w d bs k st z5 z6 i c5 c6 (!r) w3 := by
 obtain ⟨⟨he, d2, hs2, hf2, hq⟩, hle⟩ := hp
 have hlt := h.le
 have hres := h.res
 rw [hb, decT, if_neg (by omega), if_pos hgo] at hres
 have hf := h.fr.trans (hf1.trans ((Frm.keep K).trans hf2))
 refine ⟨_, he, fun e1 => ?_, fun e1 => ?_⟩
 ·have e1 : (decF budget p k (bs ++ [b]) ⟨st'.steps + 1, st'.best⟩).1 = false := by simpa using e1
  rw [e1, if_neg (by simp)] at hres
  rw [hres]
  exact ⟨⟨rfl, d2, hs2, hf, fun e => (by cases e)⟩, hle⟩
 ·have e1 : (decF budget p k (bs ++ [b]) ⟨st'.steps + 1, st'.best⟩).1 = true := by simpa using e1
  rw [e1, if_pos rfl] at hres
  obtain ⟨q1, q2, q3, q4⟩ := hq e1
  have m5 := (hf1.blk h5 h.n5.1 h.n5.2)
  have m6 := (hf1.blk h6 h.n6.1 h.n6.2)
  have p5 := hf2.blk (m5.1.kept K (by simp)) m5.2 h.n5.2
  have p6 := hf2.blk (m6.1.kept K (by simp)) m6.2 h.n6.2
  refine ⟨d2, _, hs2, hle, hf, ⟨?_, q4.trans hu.qd⟩, by rw [q3]; exact hl, ⟨p5.2, h.n5.2⟩, ⟨p6.2, h.n6.2⟩, p5.1, p6.1, hres⟩
  obtain ⟨es, u1, u2⟩ := hu.ex
  exact ⟨es, q3.trans u1, by rw [q1, q2]; exact u2⟩
theorem DcL.undone {w4 : World} {d4 : GD} (hsr : Srch X s w0 p budget zb au ap cu cp wr d' st') (hle : st'.steps ≤ budget) (hf : Frm s zb w d wr d') (n5 : ¬ GOwn s d' z5 ∧ z5 ≠ zb) (n6 : ¬ GOwn s d' z6 ∧ z6 ≠ zb) (b5 : Blk wr z5 133 c5) (b6 : Blk wr z6 133 c6)
  (hres : decF budget p (k + 1) bs st = decT budget p (decF budget p k) bs ([true, false].drop i) st') (hgp : GP s D d) (hg : Gm (s.fr wr d') w0 w4 d4) (e : d4.lg = d.lg ∧ d4.T = d.T ∧ d4.N = d.N ∧ d4.qd = d.qd) :
  DcL X s w0 p budget zb au ap cu cp w d D bs k st z5 z6 i w4 d4 st' ∧ Blk w4 z5 133 c5 ∧ Blk w4 z6 133 c6 := by
 have m : Frm s zb wr d' w4 d4 := Frm.move hg
 have p5 := m.blk b5 n5.1 n5.2
 have p6 := m.blk b6 n6.1 n6.2
 exact ⟨⟨hsr.move hg, hle, hgp.congr e.2.1 e.2.2.1 e.1 e.2.2.2, ⟨e.2.1, e.2.2.1, e.1, e.2.2.2⟩, hf.trans m, ⟨p5.2, n5.2⟩, ⟨p6.2, n6.2⟩, hres⟩, p5.1, p6.1⟩
theorem DcL.swap {w4 : World} {d4 : GD} {f : Ref → Int × Int} {ua ub : Ref} (h : DcL X s w0 p budget zb au ap cu cp w d D bs k st z5 z6 i w4 d4 st') (b5 : Blk w4 z5 133 (u4 f ua).toArray) (b6 : Blk w4 z6 133 (u4 f ub).toArray) (h5 : X z5) (h6 : X z6) (hs : s.bs ≤ w.heap.size) (g5 : w.heap.size ≤ z5) (g6 : w.heap.size ≤ z6) (hne : z5 ≠ z6) {W : World}
  (hW : W = ((((((((w4.setCell ⟨z5, 0, none⟩ (.int .i64 ub.tr)).setCell ⟨z5, 1, none⟩ (.int .i64 ub.st)).setCell ⟨z5, 2, none⟩ (.int .i64 (f ub).1)).setCell ⟨z5, 3, none⟩ (.int .i64 (f ub).2)).setCell ⟨z6, 0, none⟩ (.int .i64 ua.tr)).setCell ⟨z6, 1, none⟩ (.int .i64 ua.st)).setCell ⟨z6, 2, none⟩ (.int .i64 (f ua).1)).setCell ⟨z6, 3, none⟩ (.int .i64 (f ua).2))) :
  DcL X s w0 p budget zb au ap cu cp w d D bs k st z5 z6 i W d4 st' ∧ Blk W z5 133 (u4 f ub).toArray ∧ Blk W z6 133 (u4 f ua).toArray := by
 subst hW
 have k5 : Keeps (fun b => b = z5) w4 ((((w4.setCell ⟨z5, 0, none⟩ (.int .i64 ub.tr)).setCell ⟨z5, 1, none⟩ (.int .i64 ub.st)).setCell ⟨z5, 2, none⟩ (.int .i64 (f ub).1)).setCell ⟨z5, 3, none⟩ (.int .i64 (f ub).2)) :=
  ((((Keeps.refl (fun b => b = z5) w4).setCell (p := ⟨z5, 0, none⟩) (fun _ => rfl) _).setCell (p := ⟨z5, 1, none⟩) (fun _ => rfl) _).setCell (p := ⟨z5, 2, none⟩) (fun _ => rfl) _).setCell (p := ⟨z5, 3, none⟩) (fun _ => rfl) _
 have q5 : Blk ((((w4.setCell ⟨z5, 0, none⟩ (.int .i64 ub.tr)).setCell ⟨z5, 1, none⟩ (.int .i64 ub.st)).setCell ⟨z5, 2, none⟩ (.int .i64 (f ub).1)).setCell ⟨z5, 3, none⟩ (.int .i64 (f ub).2)) z5 133 (u4 f ub).toArray := (((b5.set_ 0 _).set_ 1 _).set_ 2 _).set_ 3 _
 have h1 := h.far k5 h5 h.n5 (Nat.le_trans hs g5) g5
 have b6' := b6.kept k5 (fun e => hne e.symm)
 generalize ((((w4.setCell ⟨z5, 0, none⟩ (.int .i64 ub.tr)).setCell ⟨z5, 1, none⟩ (.int .i64 ub.st)).setCell ⟨z5, 2, none⟩ (.int .i64 (f ub).1)).setCell ⟨z5, 3, none⟩ (.int .i64 (f ub).2)) = w5 at *
 have k6 : Keeps (fun b => b = z6) w5 ((((w5.setCell ⟨z6, 0, none⟩ (.int .i64 ua.tr)).setCell ⟨z6, 1, none⟩ (.int .i64 ua.st)).setCell ⟨z6, 2, none⟩ (.int .i64 (f ua).1)).setCell ⟨z6, 3, none⟩ (.int .i64 (f ua).2)) :=
  ((((Keeps.refl (fun b => b = z6) w5).setCell (p := ⟨z6, 0, none⟩) (fun _ => rfl) _).setCell (p := ⟨z6, 1, none⟩) (fun _ => rfl) _).setCell (p := ⟨z6, 2, none⟩) (fun _ => rfl) _).setCell (p := ⟨z6, 3, none⟩) (fun _ => rfl) _
 exact ⟨h1.far k6 h6 h1.n6 (Nat.le_trans hs g6) g6, q5.kept k6 hne, (((b6'.set_ 0 _).set_ 1 _).set_ 2 _).set_ 3 _⟩
end

end Go.Proofs.Ytilbbpbjhoidhaa
