/- Contract of deadlock.Search: it returns what searchP says. Conditions: as the theorem says. Contract of takeover.Orders at made paths: it returns takeP. Conditions: as each theorem says. -/
import Derived.Test.YtbfgmbakeofcbaaGreatK44
import Derived.Test.YtbfgmbakeofcbaaGreatK41
import Derived.Test.YtbfgmbakeofcbaaGreatK35
import Derived.Test.YtbfgmbakeofcbaaGreatK43
namespace Go.Proofs.YtbfgmbakeofcbaaGreat
open Go.RowKit

set_option maxRecDepth 100000 in
set_option maxHeartbeats 4000000 in
theorem DSearch_any (ps : List (List Stage)) (at_ : List Int) (budget : Int) (A A2 : Option Addr) (c c2 : Nat) (w : World) (h : RPaths w (Old w) [.slice A ps.length c] ps) (h2 : RInts w (Old w) [.slice A2 at_.length c2] at_) :
    Calls Tryz.prog 32 #[.slice A ps.length c, .slice A2 at_.length c2, .int .i64 budget] w fun e w' => ∃ v, e = .returned (.tuple #[v, .int .i64 (searchP ps at_ budget).2.1, .int .i64 (searchP ps at_ budget).2.2]) ∧ RInts w' (Fresh w w') [v] (searchP ps at_ budget).1 ∧ KeepsAll w w' := by
  have HCK := Lib.hid (DCheck_any ps at_ A A2 c c2 w h h2)
  have H := Lib.hid h
  have H2 := Lib.hid h2
  clear h h2
  by_cases g0 : checkState ps at_ = 0
  · rw [g0] at HCK
    obtain ⟨hv, hgd, _⟩ := checkState_zero g0
    have HV := Lib.hid hv
    have HG := Lib.hid (good_Gd.1 hgd)
    have HC := Lib.hid g0
    by_cases g1 : budget < 1
    · have g1' : decide (budget < 1) = true := by simpa using g1
      have Q : Hid (searchP ps at_ budget = ([], 0, 4)) := by show _ = _; unfold searchP; rw [if_neg (by simp [g0]), if_pos (.inl g1)]
      clear g0 g1
      go_enter Tryz.func32, Tryz.ntmps32
      go_wp2_with fail
      refine HCK.out.mono ?_
      rintro e w1 ⟨rfl, k1⟩
      have K1 := Lib.hid k1; clear k1
      go_wp2
      go_ret3
      rw [Q.out]
      exact ⟨_, rfl, RSlice.mkNil, K1.out⟩
    · have g1' : decide (budget < 1) = false := by simpa using g1
      by_cases g2 : 1048576 < budget
      · have g2' : decide (budget > 1048576) = true := by simpa using g2
        have Q : Hid (searchP ps at_ budget = ([], 0, 4)) := by show _ = _; unfold searchP; rw [if_neg (by simp [g0]), if_pos (.inr g2)]
        clear g0 g1 g2
        go_enter Tryz.func32, Tryz.ntmps32
        go_wp2_with fail
        refine HCK.out.mono ?_
        rintro e w1 ⟨rfl, k1⟩
        have K1 := Lib.hid k1; clear k1
        go_wp2
        go_ret3
        rw [Q.out]
        exact ⟨_, rfl, RSlice.mkNil, K1.out⟩
      · have g2' : decide (budget > 1048576) = false := by simpa using g2
        obtain ⟨b, rfl⟩ := Int.eq_ofNat_of_zero_le (by omega : 0 ≤ budget)
        have HQ : Hid (searchP ps at_ (b : Int) = if (exam ps b (total ps at_ + 1) at_ [] []).1 = 0 then ((exam ps b (total ps at_ + 1) at_ [] []).2.2, ((exam ps b (total ps at_ + 1) at_ [] []).2.1.length : Int), 0) else if (exam ps b (total ps at_ + 1) at_ [] []).1 = 19 then ([], ((exam ps b (total ps at_ + 1) at_ [] []).2.1.length : Int), 19) else ([], 0, 15)) := by
          show _ = _; unfold searchP; rw [if_neg (by simp [g0]), if_neg (by omega), Int.toNat_natCast]
        have HEX : Hid (∀ (w0 : World) (sb g mr : Nat), RPaths w0 (Old w0) [.slice A ps.length c] ps → ∀ (W : World) (hd : Nat → Int), Sr w0 W sb g mr A c ps b at_ hd [] (.slice none 0 0) [] → _) := fun w0 sb g mr hP W hd hS => examine_any w0 sb g mr A c ps b hP HV.out (by omega) (total ps at_ + 1) W at_ hd [] (.slice none 0 0) [] (by omega) hS (by simp) (by have := total_le HV.out HG.out; simp; omega) (by simp)
        have HCODE := Lib.hid (exam_ok (ps := ps) (budget := b) (total ps at_ + 1) at_ HG.out (by omega) [] []).code
        have HLEN : Hid ((exam ps b (total ps at_ + 1) at_ [] []).2.1.length ≤ b) := (exam_ok (ps := ps) (budget := b) (total ps at_ + 1) at_ HG.out (by omega) [] []).le (by simp)
        generalize exam ps b (total ps at_ + 1) at_ [] [] = r at *
        have hb1 : b ≤ 1048576 := by omega
        clear g0 g1 g2
        go_enter Tryz.func32, Tryz.ntmps32
        go_wp2_with fail
        refine HCK.out.mono ?_
        rintro e w1 ⟨rfl, k1⟩
        have K1 := Lib.hid k1
        have P1 := Lib.hid (k1.rdo' RPaths.ok H.out)
        have A1 := Lib.hid (k1.rdo' RInts.ok H2.out)
        clear k1 HCK
        go_wp2_with fail
        refine (newState_any ps at_ A A2 c c2 w1 P1.out A1.out HC.out).mono ?_
        rintro e w2 ⟨g, hd, rfl, hds, hhd⟩
        have HDS := Lib.hid hds
        have HHD := Lib.hid hhd
        have hgz := hds.lt
        clear hds hhd
        have hmm := @run_makeMap Tryz.prog
        go_wp2_with fail
        clear hmm
        generalize hW3 : World.alloc (World.alloc w2 _) _ = W3
        have HSR : Hid (Sr w1 W3 (w2.heap.size + 1) g w2.heap.size A c ps b at_ hd [] (.slice none 0 0) []) := by
          subst hW3
          refine ⟨(HDS.out.keep ((Keeps.refl _ _).alloc _)).keep ((Keeps.refl _ _).alloc _), HHD.out, HG.out, Blk.new' _ _ _ (by simp), (PMap.new w2 ps.length).kept ((Keeps.refl (fun _ => False) _).alloc _) (by simp), OwnL.nil, by omega, by omega, HDS.out.k.size, by omega⟩
        clear hW3
        generalize w2.heap.size = mr at *
        refine (HEX.out w1 (mr + 1) g mr P1.out W3 hd HSR.out).mono ?_
        rintro e w5 ⟨n5, hd5, v5, rfl, h5, -⟩
        obtain ⟨e5, s5, m5⟩ := r
        simp only [] at h5 HQ HCODE HLEN ⊢
        have H5 := Lib.hid h5
        have b1 := h5.b.cell 1
        simp at b1
        have hsz := h5.b.lt
        have K5 := Lib.hid (K1.out.tr h5.d.k)
        have XLEN : ∀ (x : Ext w5) (ty : TypeId), (Builtin.len_ #[99] ty #[.map (some mr)]).run Tryz.prog x.val = .ok (.int .i64 (s5.length : Int)) x.val := fun x ty => PMap.lenRun (H5.out.m.kept x.keeps (by simp)) ty
        have XLEN0 : ∀ (ty : TypeId), (Builtin.len_ #[99] ty #[.map (some mr)]).run Tryz.prog w5 = .ok (.int .i64 (s5.length : Int)) w5 := fun ty => PMap.lenRun H5.out.m ty
        have hlen := HLEN.out
        clear h5 HEX HSR HDS HHD hgz
        rcases HCODE.out with hc | hc | hc
        · subst hc
          have Q : Hid (searchP ps at_ (b : Int) = (m5, (s5.length : Int), 0)) := by show _ = _; rw [HQ.out, if_pos rfl]
          obtain ⟨A5, c5, rfl, hc51, hc52⟩ := H5.out.mv.form
          have b3 := H5.out.b.cell 3
          simp at b3
          have HRD : Hid (RInts w5 (Fresh w w5) [.slice A5 m5.length c5] m5) := H5.out.mv.read RInt.ok (by omega) (S := Fresh w w5) (fun bb h1 h2 => ⟨by have := K1.out.size; have := H5.out.lm; have := H5.out.ms; omega, h2⟩) (fun bb h1 h2 => ⟨by have := K1.out.size; have := H5.out.lm; have := H5.out.ms; omega, h2⟩)
          clear HQ HCODE XLEN0
          go_wp2
          refine wp_region_lex (fun w' => ∃ x : Ext w5, w' = x.val) [0, 1, 2, 3, 4, 5, 6, 7, 8, 9, 10, 11] (by kernel_rfl) (by kernel_rfl) ⟨⟨_, (Keeps.refl _ _).drew⟩, rfl⟩ ?_
          have x1 := Ext.cell b1
          have x3 := Ext.cell b3
          refine lex_q _ rfl rfl rfl ?_; go_big_quiet_step (fail); refine wpQuiet_nil ?_
          refine lex_nil _ rfl _ rfl rfl _ rfl ?_; go_simp
          iterate 3 (refine lex_q _ rfl rfl rfl ?_; go_big_quiet_step (fail); refine wpQuiet_nil ?_)
          refine lex_nil _ rfl _ rfl rfl _ rfl ?_; go_simp
          iterate 6 (refine lex_q _ rfl rfl rfl ?_; go_big_quiet_step (fail); refine wpQuiet_nil ?_)
          simp only [wpLex]
          refine NoPanic.normal ?_
          go_wp2
          go_ret3
          rw [Q.out]
          exact ⟨_, rfl, RInts.ok.mono (S' := Fresh w w5.drew) ((Keeps.refl (fun _ => False) w5).drew.rd RInts.ok HRD.out (fun bb hb => ⟨hb.2, by simp⟩) (fun _ h => h)) (fun _ h => h) (fun _ _ => rfl), K5.out.drew⟩
        · subst hc
          have Q : Hid (searchP ps at_ (b : Int) = ([], 0, 15)) := by show _ = _; rw [HQ.out, if_neg (by omega), if_neg (by omega)]
          clear HQ HCODE XLEN XLEN0
          go_wp2
          go_ret3
          rw [Q.out]
          exact ⟨_, rfl, RSlice.mkNil, K5.out⟩
        · subst hc
          have Q : Hid (searchP ps at_ (b : Int) = ([], (s5.length : Int), 19)) := by show _ = _; rw [HQ.out, if_neg (by omega), if_pos rfl]
          clear HQ HCODE XLEN
          go_wp2
          go_ret3
          rw [Q.out]
          exact ⟨_, rfl, RSlice.mkNil, K5.out⟩
  · have g0' : (checkState ps at_ != 0) = true := by simpa using g0
    have Q : Hid (searchP ps at_ budget = ([], 0, checkState ps at_)) := by show _ = _; unfold searchP; rw [if_pos (by simpa using g0)]
    clear g0
    go_enter Tryz.func32, Tryz.ntmps32
    go_wp2_with fail
    refine HCK.out.mono ?_
    rintro e w1 ⟨rfl, k1⟩
    have K1 := Lib.hid k1; clear k1 HCK
    generalize checkState ps at_ = cs at *
    go_wp2
    go_ret3
    rw [Q.out]
    exact ⟨_, rfl, RSlice.mkNil, K1.out⟩

theorem Te.rebase {ps : List (List Stage)} {w w5 wr : World} {N m : Nat} {gs : Nat → Nat} {T : Tab} (h : Te ps w5 wr N m gs T) (k : KeepsAll w w5) : Te ps w wr N m gs T :=
  ⟨h.n, h.r, h.inj, fun t ht => by have := h.lo t ht; have := k.size; omega, by have := h.nlo; have := k.size; omega, k.tr h.k⟩
theorem Te.keepC {ps : List (List Stage)} {w wr w' : World} {N m : Nat} {gs : Nat → Nat} {T : Tab} {C : Foot} (h : Te ps w wr N m gs T) (k : Keeps C wr w') (hN : ¬ C N) (hg : ∀ t, t < m → ¬ C (gs t)) (hw : ∀ b, C b → w.heap.size ≤ b) : Te ps w w' N m gs T := by
  obtain ⟨cur, h1, h2⟩ := h.n
  exact ⟨⟨cur, h1.kept k hN, h2⟩, fun t ht => (h.r t ht).kept k (hg t ht), h.inj, h.lo, h.nlo, h.k.trans k (fun b hb hc => by have := hw b hc; omega)⟩

/-- the lists of uses while they are sorted: those below r are; w1: the world before the first of them -/
structure SRow (w1 wr : World) (I : List (Order × Nat × Nat)) (en : List (List Int)) (r : Nat) : Prop where
  k : Keeps (fun b => ∃ x ∈ I, b = x.2.1) w1 wr
  todo : ∀ (i : Nat) x, r ≤ i → I[i]? = some x → RfAt wr x.2.1 0 x.1.uses ∧ ∀ j, wr.frozen? ⟨x.2.1, j, none⟩ = false
  done : ∀ (i : Nat) x, i < r → I[i]? = some x → RfAt wr x.2.1 0 (sortT en x.1.uses)
section
variable {w0 w1 wr w' : World} {v : Value} {I : List (Order × Nat × Nat)} {en : List (List Int)} {r : Nat}
theorem SRow.start (h : ROw w0 w1 v I) : SRow w1 w1 I en 0 :=
  ⟨Keeps.refl _ _, fun i x _ hx => ⟨(h.rows x (List.mem_of_getElem? hx)).2.2.2.2.2.1, (h.rows x (List.mem_of_getElem? hx)).2.2.2.2.2.2.1⟩, fun i x hi => by omega⟩
theorem SRow.keep (h : SRow w1 wr I en r) (hI : ∀ x ∈ I, x.2.1 < w1.heap.size) (k : KeepsAll wr w') : SRow w1 w' I en r := by
  have hz := h.k.size
  refine ⟨h.k.trans k (fun _ _ hc => hc.elim), fun i x hi hx => ?_, fun i x hi hx => ?_⟩
  · have hl := hI x (List.mem_of_getElem? hx)
    obtain ⟨h1, h2⟩ := h.todo i x hi hx
    exact ⟨h1.kept k (by omega) (by simp), fun j => by rw [k.frz (by omega) (by simp)]; exact h2 j⟩
  · have hl := hI x (List.mem_of_getElem? hx)
    exact (h.done i x hi hx).kept k (by omega) (by simp)
theorem SRow.sorted (h : SRow w1 wr I en r) (hnd : (I.map fun x => x.2.1).Nodup) (hI : ∀ x ∈ I, x.2.1 < w1.heap.size) {x : Order × Nat × Nat} (hx : I[r]? = some x) (k : Keeps (fun b => b = x.2.1) wr w') (hf : RfAt w' x.2.1 0 (sortT en x.1.uses)) : SRow w1 w' I en (r + 1) := by
  have hz := h.k.size
  have hmx := List.mem_of_getElem? hx
  have hne : ∀ (i : Nat) y, i ≠ r → I[i]? = some y → y.2.1 ≠ x.2.1 := fun i y hi hy e => by
    have l1 := getElem?_lt hy
    have l2 := getElem?_lt hx
    rw [List.getElem?_eq_getElem l1] at hy
    rw [List.getElem?_eq_getElem l2] at hx
    injection hy with hy; injection hx with hx
    rcases Nat.lt_or_gt_of_ne hi with hlt | hlt
    · have q := List.pairwise_iff_getElem.1 hnd i r (by simpa using l1) (by simpa using l2) hlt
      simp only [List.getElem_map, hy, hx] at q
      exact q e
    · have q := List.pairwise_iff_getElem.1 hnd r i (by simpa using l2) (by simpa using l1) hlt
      simp only [List.getElem_map, hy, hx] at q
      exact q e.symm
  refine ⟨h.k.trans k (fun b _ hc => ⟨x, hmx, hc⟩), fun i y hi hy => ?_, fun i y hi hy => ?_⟩
  · have hl := hI y (List.mem_of_getElem? hy)
    obtain ⟨h1, h2⟩ := h.todo i y (by omega) hy
    have hn := hne i y (by omega) hy
    exact ⟨h1.kept k (by omega) hn, fun j => by rw [k.frz (by omega) hn]; exact h2 j⟩
  · by_cases e : i = r
    · subst e
      rw [hx] at hy; injection hy with hy; subst hy
      exact hf
    · have hl := hI y (List.mem_of_getElem? hy)
      exact (h.done i y (by omega) hy).kept k (by omega) (hne i y e hy)
theorem SRow.orders (h : SRow w1 wr I en I.length) (h0 : ROw w0 w1 v I) : ROrders wr (Old wr) [v] (I.map fun x => sortTO en x.1) := by
  have hz := h.k.size
  have ho : OwnL 66 2 RPO wr w0.heap.size w0.heap.size v I := h0.own.keepsF RPO.flat h.k (fun b hb hc => by
    obtain ⟨x, hx, rfl⟩ := hc
    exact (h0.rows x hx).2.2.1 hb)
  obtain ⟨A, c, he, h1, h2, h3⟩ := ho.readF RPO.ok RPO.flat (S := Old wr) (fun b hb => (ho.lt hb).2)
  refine ⟨A, c, by rw [List.length_map]; exact he, by rw [List.length_map]; exact h1, h2, fun hp => ?_⟩
  obtain ⟨b, o, hA, hb, hx⟩ := h3 (by intro e; exact hp (by rw [e]; rfl))
  refine ⟨b, o, hA, hb, fun j y hj => ?_⟩
  rw [List.getElem?_map] at hj
  obtain ⟨x, hxj, rfl⟩ := Option.map_eq_some_iff.1 hj
  obtain ⟨es, e1, e2, e3⟩ := hx j x hxj
  have hm := List.mem_of_getElem? hxj
  obtain ⟨r1, r2, r3, r4, r5, _⟩ := h0.rows x hm
  refine ⟨es, e1, ?_, e3⟩
  cases e2
  refine ⟨_, rfl, ?_⟩
  have hd := h.done j x (getElem?_lt hxj) hxj
  have hl : (sortT en x.1.uses).length = x.1.uses.length := sortB_len _ _
  have := hd.read (S := Old wr) (c := x.2.2) (by rw [hl]; exact r4) r5 (show x.2.1 < wr.heap.size by omega)
  rw [hl] at this
  exact this
end
theorem rest_mem {ps : List (List Stage)} {os : List Order} {at_ : List Int} {o : Order} (h : o ∈ restP ps os at_) : ∃ o' ∈ os, o = ⟨o'.res, openU ps at_ o'.res o'.uses⟩ := by
  unfold restP at h
  split at h
  · obtain ⟨o', ho', h⟩ := List.mem_flatMap.1 h
    unfold restO at h
    split at h
    · simp at h
    · simp at h; exact ⟨o', ho', h⟩
  · simp at h
theorem rest_use {ps : List (List Stage)} {os : List Order} {at_ : List Int} (hm : psMade ps) (hck : checkO ps os = true) {o : Order} (h : o ∈ restP ps os at_) : o.uses.length ≤ 12 ∧ ∀ u ∈ o.uses, ∃ r, u ∈ allU ps r := by
  obtain ⟨o', ho', rfl⟩ := rest_mem h
  simp only [checkO, Bool.and_eq_true, decide_eq_true_eq, List.all_eq_true] at hck
  have h2 := hck.2 o' ho'
  simp only [exactlyB, Bool.and_eq_true, decide_eq_true_eq, List.all_eq_true] at h2
  refine ⟨?_, fun u hu => ⟨o'.res, h2.1.2 u ((List.mem_filter.1 hu).1)⟩⟩
  have h3 := openU_len ps at_ o'.res o'.uses
  have h4 := hm.uses o'.res
  simp only
  omega
theorem entL_has {ps : List (List Stage)} {at_ mv : List Int} {r : Int} {u : Ref} (h : u ∈ allU ps r) : HasEn (entL ps at_ mv) u := by
  obtain ⟨t, k, p, s, hp, hs, _, rfl⟩ := mem_allU.1 h
  refine ⟨t, k, _, _, rfl, tabS_at _ (getElem?_lt hp), rowS_at _ (by rw [lenAt_of hp]; exact getElem?_lt hs)⟩

set_option maxRecDepth 100000 in
set_option maxHeartbeats 4000000 in
theorem TOrders_moves (ps : List (List Stage)) (os : List Order) (at_ : List Int) (budget : Int) (A A2 A3 : Option Addr) (c c2 c3 : Nat) (w : World) (hm : psMade ps) (h : RPaths w (Old w) [.slice A ps.length c] ps) (h2 : ROrders w (Old w) [.slice A2 os.length c2] os) (h3 : RInts w (Old w) [.slice A3 at_.length c3] at_)
    (hck : checkO ps os = true) (hcs : checkState ps at_ = 0) (hb : 1 ≤ budget ∧ budget ≤ 1048576) (hok : okP ps os at_ = false) (hsr : (searchP ps at_ budget).2.2 = 0) :
    Calls Tryz.prog 9 #[.slice A ps.length c, .slice A2 os.length c2, .slice A3 at_.length c3, .int .i64 budget] w fun e w' => ∃ v, e = .returned (.tuple #[v, .int .i64 (searchP ps at_ budget).2.1, .int .i64 0]) ∧ ROrders w' (Old w') [v] ((restP ps os at_).map (sortTO (entL ps at_ (searchP ps at_ budget).1))) ∧ KeepsAll w w' := by
  have HCK := Lib.hid (Check_any ps os A A2 c c2 w h h2)
  obtain ⟨hv, hgd, _⟩ := checkState_zero hcs
  have HV := Lib.hid hv
  have HGD := Lib.hid hgd
  have HG := Lib.hid (good_Gd.1 hgd)
  have HOC := Lib.hid hck
  have Q : Hid ((lineP ps os at_).2 = false) := by show _ = _; unfold lineP; rw [hck, hgd, hok]; rfl
  have H := Lib.hid h; have H2 := Lib.hid h2; have H3 := Lib.hid h3
  have b1 : decide (budget < 1) = false := by simp; omega
  have b2 : decide (budget > 1048576) = false := by simp; omega
  have HMV := Lib.hid (searchP_ok (good_Gd.1 hgd) hsr)
  have HRU : Hid (∀ o ∈ restP ps os at_, o.uses.length ≤ 12 ∧ ∀ u ∈ o.uses, ∃ r, u ∈ allU ps r) := fun o ho => rest_use hm hck ho
  have HSR := Lib.hid (DSearch_any ps at_ budget A A3 c c3)
  rw [hsr] at HSR
  rw [hck] at HCK
  generalize (searchP ps at_ budget).1 = mv at *
  generalize (searchP ps at_ budget).2.1 = sn at *
  have hps3 := hm.2.1
  have HML : Hid (mv.length ≤ 1000) := by
    have h1 := legal_len mv at_ HG.out HMV.out.1
    have h2 := total_le hv HG.out
    show _ ≤ _
    omega
  clear h h2 h3 hok hck hv hgd hsr hm
  go_enter Tryz.func9, Tryz.ntmps9
  go_wp2_with fail
  refine HCK.out.mono ?_
  rintro e w1 ⟨rfl, k1⟩
  have K1 := Lib.hid k1; clear k1 HCK
  go_wp2_with fail
  refine (DCheck_any ps at_ A A3 c c3 w1 (K1.out.rdo' RPaths.ok H.out) (K1.out.rdo' RInts.ok H3.out)).mono ?_
  rintro e w2 ⟨rfl, k2⟩
  rw [hcs]
  have K2 := Lib.hid (K1.out.tr k2); clear k2 K1 hcs
  go_wp2_with fail
  refine (Rest_own ps os at_ A A2 A3 c c2 c3 w2 (K2.out.rdo' RPaths.ok H.out) (K2.out.rdo' ROrders.ok H2.out) (K2.out.rdo' RInts.ok H3.out) HOC.out HGD.out).mono ?_
  rintro e w3 ⟨v3, I, rfl, r3, hI⟩
  have K3 := Lib.hid (K2.out.tr r3.k)
  have K23 := K2.out.size
  have R3 := Lib.hid r3
  have HI := Lib.hid hI
  clear r3 hI
  go_wp2_with fail
  refine (Line_any ps os at_ A A2 A3 c c2 c3 w3 (K3.out.rdo' RPaths.ok H.out) (K3.out.rdo' ROrders.ok H2.out) (K3.out.rdo' RInts.ok H3.out)).mono ?_
  rintro e w4 ⟨v4, rfl, r4, k4⟩
  rw [Q.out]
  have K4 := Lib.hid (K3.out.tr k4)
  have R4 := Lib.hid (R3.out.keep k4)
  clear k4 r4 K3 R3
  go_wp2_with fail
  refine (HSR.out w4 (K4.out.rdo' RPaths.ok H.out) (K4.out.rdo' RInts.ok H3.out)).mono ?_
  rintro e w5 ⟨v5, rfl, r5, k5⟩
  obtain ⟨B5, d5, rfl, hd51, hd52⟩ := r5.val
  have K5 := Lib.hid (K4.out.tr k5)
  have R5 := Lib.hid (R4.out.keep k5)
  have M5 := Lib.hid (RInts.ok.mono r5 (S' := Old w5) (fun b hb => hb.2) (fun _ _ => rfl))
  clear k5 r5 K4 R4
  go_wp2_with fail
  refine (entries_any ps at_ mv A A3 B5 c c3 d5 w5 (K5.out.rdo' RPaths.ok H.out) (K5.out.rdo' RInts.ok H3.out) M5.out HV.out HG.out HMV.out.1 HML.out).mono ?_
  rintro e w6 ⟨N, gs, rfl, hte⟩
  have HTE := Lib.hid (hte.rebase K5.out)
  have R6 := Lib.hid (R5.out.keep hte.k)
  have HLO : Hid (∀ b, (b = N ∨ ∃ t, t < ps.length ∧ b = gs t) → w5.heap.size ≤ b) := fun b hb => by
    rcases hb with rfl | ⟨t, ht, rfl⟩
    · exact hte.nlo
    · exact hte.lo t ht
  have HIL : Hid (∀ x ∈ I, w.heap.size ≤ x.2.1 ∧ x.2.1 < w5.heap.size) := fun x hx => by
    have := R5.out.rows x hx
    exact ⟨by have := this.1; omega, this.2.1⟩
  have hz56 := hte.k.size
  clear hte R5 K5 M5 HSR
  obtain ⟨A9, c9, rfl, hc91, hc92⟩ := R6.out.own.form
  have HIP : Hid (I.length ≤ 144) := by
    have h1 := rest_len ps at_ os
    have h2 := (checkO_facts HOC.out).2.1
    have h3 : I.length = (restP ps os at_).length := by rw [← HI.out]; simp
    have h4 : restP ps os at_ = os.flatMap (restO ps at_) := by unfold restP; rw [HOC.out, HGD.out]; rfl
    show _ ≤ _
    rw [h3, h4]; omega
  have hI144 := HIP.out
  go_wp2
  generalize hW7 : World.alloc w6 _ = w7
  have KW7 : Hid (KeepsAll w6 w7) := by subst hW7; exact (Keeps.refl _ _).alloc _
  have BE : Hid (Blk w7 w6.heap.size 35 #[.slice (some ⟨N, 0, none⟩) ps.length ps.length]) := by subst hW7; exact Blk.new _ _ _
  have HTE7 := Lib.hid (HTE.out.keep KW7.out)
  have R7 := Lib.hid (R6.out.keep KW7.out)
  clear hW7 KW7 HTE R6
  generalize hcb : w6.heap.size = cb at *
  have HIW : Hid (∀ x ∈ I, x.2.1 < w7.heap.size) := fun x hx => (R7.out.rows x hx).2.1
  have hen : (entL ps at_ mv).length = ps.length := tabS_len _ _
  have HCB : Hid (w5.heap.size ≤ cb) := hz56
  clear hcb hz56 K23
  -- the reading of the table and of its cell, from any world in which only lists of uses were changed
  have HEN : Hid (∀ W, Keeps (fun b => ∃ x ∈ I, b = x.2.1) w7 W → RIntss W (Old W) [.slice (some ⟨N, 0, none⟩) (entL ps at_ mv).length ps.length] (entL ps at_ mv) ∧ W.cell? ⟨cb, 0, none⟩ = some (.slice (some ⟨N, 0, none⟩) (entL ps at_ mv).length ps.length)) := fun W hW => by
    have hn : ∀ b, w5.heap.size ≤ b → ¬ ∃ x ∈ I, b = x.2.1 := fun b hb => by
      rintro ⟨x, hx, rfl⟩
      have := (HIL.out x hx).2; omega
    rw [hen]
    refine ⟨?_, ?_⟩
    · have := HTE7.out.keepC hW (hn _ (HLO.out N (.inl rfl))) (fun t ht => hn _ (HLO.out _ (.inr ⟨t, ht, rfl⟩))) (fun b ⟨x, hx, e⟩ => by rw [e]; exact (HIL.out x hx).1)
      exact this.read (Nat.le_refl _) (by omega) (fun t => by have := lenAt_le HV.out t; omega)
    · have := (BE.out.kept hW (hn _ HCB.out)).cell 0
      simpa using this
  have HKW : Hid (∀ W, Keeps (fun b => ∃ x ∈ I, b = x.2.1) w7 W → KeepsAll w W) := fun W hW => HTE7.out.k.trans hW (fun b hb ⟨x, hx, e⟩ => by have := (HIL.out x hx).1; omega)
  clear hps3
  go_loopw [67] (fun i wr => ∃ r : Nat, r ≤ I.length ∧ i = .int .i64 (r : Int) ∧ SRow w7 wr I (entL ps at_ mv) r) (fun i _ => I.length - (intOf i).toNat)
  case atStart => exact ⟨0, Nat.zero_le _, rfl, SRow.start R7.out⟩
  case round =>
    obtain ⟨r, hr, rfl, hs⟩ := hrel
    have HS := Lib.hid hs
    have hz7 := hs.k.size
    clear hs
    by_cases hlt : r < I.length
    · have hdr : decide ((r : Int) < (I.length : Int)) = true := by simp; omega
      have hx : I[r]? = some I[r] := List.getElem?_eq_getElem hlt
      generalize I[r] = x at hx
      have HX := Lib.hid hx
      have hmx := List.mem_of_getElem? hx
      have HRX := Lib.hid (R7.out.rows x hmx)
      have hul := (HRU.out x.1 (by rw [← HI.out]; exact List.mem_map.2 ⟨x, hmx, rfl⟩)).1
      have HUS := Lib.hid (HRU.out x.1 (by rw [← HI.out]; exact List.mem_map.2 ⟨x, hmx, rfl⟩)).2
      have hown : OwnL 66 2 RPO wr w2.heap.size w2.heap.size (.slice A9 I.length c9) I := R7.out.own.keepsF RPO.flat HS.out.k (fun b hb ⟨y, hy, e⟩ => by subst e; exact (R7.out.rows y hy).2.2.1 hb)
      obtain ⟨bo, oo, x', es, hbo, hbol, hxx, hel, hes, hcell⟩ := (hown.readF RPO.ok RPO.flat (S := Old wr) (fun b hb => (hown.lt hb).2)).get hlt
      subst hbo
      rw [hx] at hxx; injection hxx with hxx; subst hxx
      cases hes
      have m0 := hcell 0 _ rfl
      have m1 := hcell 1 _ rfl
      simp only [Nat.add_zero] at m0
      rw [← Nat.add_assoc] at m1
      clear hcell hown hx hel
      obtain ⟨⟨xr, xu⟩, xg, xc⟩ := x
      simp only at m0 m1 hul HUS HRX
      have hxg7 : xg < w7.heap.size := HRX.out.2.1
      have hxcl : xu.length ≤ xc := HRX.out.2.2.2.1
      have hxc2 : xc ≤ 9223372036854775807 := HRX.out.2.2.2.2.1
      clear hmx hen
      change bo < wr.heap.size at hbol
      go_wp2_with fail
      generalize hW8 : World.alloc wr _ = w8
      have KW8 : KeepsAll wr w8 := by subst hW8; exact (Keeps.refl _ _).alloc _
      have BO : Hid (Blk w8 wr.heap.size 66 #[.int .i64 xr, .slice (some ⟨xg, 0, none⟩) xu.length xc]) := by subst hW8; exact Blk.new _ _ _
      have HS8 := Lib.hid (HS.out.keep HIW.out KW8)
      have f1 := BO.out.cell 1
      simp at f1
      have hzo := BO.out.lt
      clear hW8 KW8 m0 m1 HS
      have HSF : Hid (Calls Tryz.prog 34 #[.slice (some ⟨xg, 0, none⟩) xu.length xc, .func (.func 35) #[] #[.pointer (some ⟨cb, 0, none⟩)]] w8 fun e w' => e = .returned (.tuple #[]) ∧ RfAt w' xg 0 (sortT (entL ps at_ mv) xu) ∧ Keeps (fun b => b = xg) w8 w') := by
        obtain ⟨t1, t2⟩ := HS8.out.todo r _ (Nat.le_refl _) HX.out
        exact SortFunc_any 35 cb (fun u v => cmpI (enAt (entL ps at_ mv) u) (enAt (entL ps at_ mv) v)) xg 0 xu xc w8 hul hxcl hxc2 t1 t2 (by have := HS8.out.k.size; omega) (fun _ _ => by kernel_rfl) (fun W hW u hu v hv => by
          have hKW : Keeps (fun b => ∃ x ∈ I, b = x.2.1) w7 W := HS8.out.k.trans hW (fun b _ e => ⟨_, List.mem_of_getElem? HX.out, e⟩)
          obtain ⟨e1, e2⟩ := HEN.out W hKW
          obtain ⟨r1, hu1⟩ := HUS.out u hu
          obtain ⟨r2, hv1⟩ := HUS.out v hv
          exact Orders1_any (entL ps at_ mv) u v cb _ _ W e2 e1 (entL_has hu1) (entL_has hv1))
      clear hbol
      generalize wr.heap.size = zo at *
      refine HSF.out.mono ?_
      rintro e w9 ⟨rfl, hrf, k9⟩
      have HS9 := Lib.hid (HS8.out.sorted R7.out.nd HIW.out HX.out k9 hrf)
      clear hrf k9
      go_wp2
      go_roundw
      case rel => exact ⟨r + 1, by omega, by go_num, HS9.out⟩
      case measure => simp [intOf]; omega
    · obtain rfl : r = I.length := by omega
      have hdr : decide ((I.length : Int) < (I.length : Int)) = false := by simp
      have HF := Lib.hid (HS.out.orders R7.out)
      have HKF := Lib.hid (HKW.out wr HS.out.k)
      have QI : Hid ((I.map fun x => sortTO (entL ps at_ mv) x.1) = (restP ps os at_).map (sortTO (entL ps at_ mv))) := by show _ = _; rw [← HI.out, List.map_map]; rfl
      clear HS
      go_wp2
      go_ret3
      exact ⟨_, rfl, by rw [← QI.out]; exact HF.out, HKF.out⟩

end Go.Proofs.YtbfgmbakeofcbaaGreat
