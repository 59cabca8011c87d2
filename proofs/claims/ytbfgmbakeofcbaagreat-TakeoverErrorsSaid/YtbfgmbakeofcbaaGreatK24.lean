/- Contract of newGraph. Conditions: as each theorem says. -/
import Derived.Test.YtbfgmbakeofcbaaGreatK20
import Derived.Test.YtbfgmbakeofcbaaGreatK23
namespace Go.Proofs.YtbfgmbakeofcbaaGreat
open Go.RowKit

/-- the first phase: events and the numbers of the first ones -/
structure P1 (w1 wr : World) (v0 v1 v2 v3 : Value) (fs : List Int) (es : List Ref) : Prop where
  b : Blk wr w1.heap.size 121 #[v0, v1, v2, v3, .slice none 0 0]
  f : OwnL 3 1 RInt wr (w1.heap.size + 1) (w1.heap.size + 1) v2 fs
  e : OwnL 69 2 RRef wr (w1.heap.size + 1) (w1.heap.size + 1) v3 es
  ne : ∀ b, v2.ownBlock = some b → v3.ownBlock ≠ some b
  k : KeepsAll w1 wr
section
variable {w1 wr w' : World} {v0 v1 v2 v3 v : Value} {fs : List Int} {es : List Ref}
theorem P1.keep (h : P1 w1 wr v0 v1 v2 v3 fs es) (k : KeepsAll wr w') : P1 w1 w' v0 v1 v2 v3 fs es :=
  ⟨h.b.kept k (by simp), h.f.keeps RInt.ok k (by simp), h.e.keeps RRef.ok k (by simp), h.ne, h.k.tr k⟩
theorem P1.pushF {x : Int} (h : P1 w1 wr v0 v1 v2 v3 fs es) (ho : OwnL 3 1 RInt w' (w1.heap.size + 1) (w1.heap.size + 1) v (fs ++ [x])) (hk : Keeps (fun b => v2.ownBlock = some b) wr w') (hn : v.ownBlock = v2.ownBlock ∨ v.ownBlock = some wr.heap.size) :
    P1 w1 (w'.setCell ⟨w1.heap.size, 2, none⟩ v) v0 v1 v v3 (fs ++ [x]) es := by
  have hg : ¬ (v2.ownBlock = some w1.heap.size) := fun e => by have := h.f.lt e; omega
  have k2 : Keeps (fun b => b = w1.heap.size) w' (w'.setCell ⟨w1.heap.size, 2, none⟩ v) := (Keeps.refl (fun b => b = w1.heap.size) w').setCell (p := ⟨w1.heap.size, 2, none⟩) (fun _ => rfl) _
  refine ⟨(h.b.kept hk hg).set_ 2 v, ho.keepsF RInt.flat k2 (fun b hb e => by have := ho.lt hb; omega), ?_, fun b hb he => ?_, ?_⟩
  · have h1 := h.e.keepsF RRef.flat hk (fun b hb e => h.ne b e hb)
    exact h1.keepsF RRef.flat k2 (fun b hb e => by have := h1.lt hb; omega)
  · rcases hn with hn | hn
    · exact h.ne b (by rw [← hn]; exact hb) he
    · rw [hn] at hb; injection hb with hb; subst hb; have := h.e.lt he; omega
  · exact ((h.k.trans hk (fun x hx e => by have := h.f.lt e; omega)).setCell (fun h => by simp at h) _)
theorem P1.pushE {u : Ref} (h : P1 w1 wr v0 v1 v2 v3 fs es) (ho : OwnL 69 2 RRef w' (w1.heap.size + 1) (w1.heap.size + 1) v (es ++ [u])) (hk : Keeps (fun b => v3.ownBlock = some b) wr w') (hn : v.ownBlock = v3.ownBlock ∨ v.ownBlock = some wr.heap.size) :
    P1 w1 (w'.setCell ⟨w1.heap.size, 3, none⟩ v) v0 v1 v2 v fs (es ++ [u]) := by
  have hg : ¬ (v3.ownBlock = some w1.heap.size) := fun e => by have := h.e.lt e; omega
  have k2 : Keeps (fun b => b = w1.heap.size) w' (w'.setCell ⟨w1.heap.size, 3, none⟩ v) := (Keeps.refl (fun b => b = w1.heap.size) w').setCell (p := ⟨w1.heap.size, 3, none⟩) (fun _ => rfl) _
  refine ⟨(h.b.kept hk hg).set_ 3 v, ?_, ho.keepsF RRef.flat k2 (fun b hb e => by have := ho.lt hb; omega), fun b hb he => ?_, ?_⟩
  · have h1 := h.f.keepsF RInt.flat hk (fun b hb e => h.ne b hb e)
    exact h1.keepsF RInt.flat k2 (fun b hb e => by have := h1.lt hb; omega)
  · rcases hn with hn | hn
    · exact h.ne b hb (by rw [← hn]; exact he)
    · rw [hn] at he; injection he with he; subst he; have := h.f.lt hb; omega
  · exact ((h.k.trans hk (fun x hx e => by have := h.e.lt e; omega)).setCell (fun h => by simp at h) _)
end
theorem GSt.push {w2 wr w' : World} {g B : Nat} {ps : List (List Stage)} {at_ : List Int} {v0 v1 v2 v3 : Value} {vs : List Value} {adds : List (Nat × GArc)} {i : Nat} {v v' : Value} {l : List GArc} {a : GArc} (h : GSt w2 wr g B ps at_ v0 v1 v2 v3 vs adds) (hv : vs[i]? = some v) (hl : (arcsOf (evs ps).length adds)[i]? = some l)
    (ho : OwnL 124 2 RGArc w' w2.heap.size w2.heap.size v' (l ++ [a])) (hk : Keeps (fun b => v.ownBlock = some b) wr w') (hn : v'.ownBlock = v.ownBlock ∨ v'.ownBlock = some wr.heap.size) :
    GSt w2 (w'.setCell ⟨B, i, none⟩ v') g B ps at_ v0 v1 v2 v3 (vs.set i v') (adds ++ [(i, a)]) := by
  have hr := h.rows.push RGArc.flat hv hl h.k.size ho hk hn
  rw [← arcsOf_push _ _ _ hl] at hr
  exact ⟨h.gb, h.ne, (h.k.trans hk (fun x hx e => by have := (h.rows.own i v l hv hl).lt e; omega)).setCell (fun _ => rfl) _, hr⟩
theorem firsts_take {ps : List (List Stage)} {t : Nat} (h : t < ps.length) : (firsts ps).take (t + 1) = (firsts ps).take t ++ [(fst ps t : Int)] := by
  rw [List.take_add_one, firsts_at h]; rfl
theorem useAdds_le (ps : List (List Stage)) (r : Int) : ∀ (l : List Ref) (rel : List Int), rel.length ≤ 10 → (useAdds ps r l rel).length ≤ l.length * 10
  | [], _, _ => by simp [useAdds]
  | v :: l, rel, h => by
    have h1 := useAdds_le ps r l (rel.set v.tr.toNat (num ps (relOf ps r v))) (by simpa using h)
    have h2 := relArcs_le (num ps v) v.tr rel
    simp only [useAdds, List.length_append, List.length_cons]; omega
theorem resTo_len (ps : List (List Stage)) : ∀ n, (resTo ps n).length ≤ n
  | 0 => by simp [resTo]
  | n + 1 => by have := resTo_len ps n; simp only [resTo, List.length_append]; split <;> simp <;> omega
/-- what a valid list of orders has -/
theorem checkO_facts {ps : List (List Stage)} {os : List Order} (h : checkO ps os = true) : valid ps = true ∧ os.length ≤ 144 ∧ ∀ o ∈ os, (∀ u ∈ o.uses, u ∈ allU ps o.res) ∧ o.uses.length ≤ 640 ∧ o.uses.Pairwise Before := by
  simp only [checkO, Bool.and_eq_true, decide_eq_true_eq, List.all_eq_true] at h
  obtain ⟨⟨hv, hr⟩, ha⟩ := h
  refine ⟨hv, ?_, fun o ho => ?_⟩
  · have := congrArg List.length hr
    rw [List.length_map] at this
    have := resTo_len ps 144; omega
  · have := ha o ho
    rw [exactly_proper, Bool.and_eq_true, decide_eq_true_eq, properB_iff] at this
    refine ⟨this.2.1, ?_, this.2.2⟩
    rw [this.1]
    have h1 := allU_le (fun p hp => ((valid_lens hv).2 p hp).2) o.res ps.length (Nat.le_refl _)
    rw [List.take_length] at h1
    have := (valid_lens hv).1; omega
theorem chain_len (ps : List (List Stage)) (hv : valid ps = true) : (chainAdds ps).length ≤ 640 := by
  have h2 : ∀ t, t ≤ ps.length → (chainTo ps t).length ≤ t * 64 := by
    intro t
    induction t with
    | zero => intro _; simp [chainTo]
    | succ t ih =>
      intro ht
      have hp : ps[t]? = some ps[t] := List.getElem?_eq_getElem (by omega)
      rw [chainTo_succ hp, List.length_append]
      have h1 := ih (by omega)
      have h3 := ((valid_lens hv).2 ps[t] (List.getElem_mem _)).2
      have h4 : (chainP (fst ps t) ps[t]).length = ps[t].length := by simp [chainP]
      omega
  have h1 := h2 ps.length (Nat.le_refl _)
  rw [chainTo_all] at h1
  have := (valid_lens hv).1; omega
theorem orders_len {ps : List (List Stage)} {os : List Order} (h : checkO ps os = true) : ∀ i, i ≤ os.length → ((os.take i).flatMap (orderAdds ps)).length ≤ i * 6400
  | 0, _ => by simp
  | i + 1, hi => by
    have ho : os[i]? = some os[i] := List.getElem?_eq_getElem (by omega)
    rw [List.take_add_one, ho, Option.toList_some, List.flatMap_append, List.length_append]
    have h1 := orders_len h i (by omega)
    obtain ⟨hv, _, hf⟩ := checkO_facts h
    have h2 := (hf os[i] (List.getElem_mem _)).2.1
    have h3 := useAdds_le ps os[i].res os[i].uses (List.replicate ps.length (-1)) (by have := (valid_lens hv).1; simp; omega)
    simp only [List.flatMap_cons, List.flatMap_nil, List.append_nil]
    have h4 : (orderAdds ps os[i]).length ≤ os[i].uses.length * 10 := h3
    omega
/-- a finished graph -/
def GrR (w : World) (g : Nat) (ps : List (List Stage)) (at_ : List Int) (adds : List (Nat × GArc)) : Prop :=
  ∃ v0 v1 v2 v3 v4, GrB w (Old w) g ps at_ v0 v1 v2 v3 v4 ∧ RArcss w (Old w) [v4] (arcsOf (evs ps).length adds)
theorem GrR.keep {w w' : World} {g : Nat} {ps : List (List Stage)} {at_ : List Int} {adds : List (Nat × GArc)} (h : GrR w g ps at_ adds) (k : KeepsAll w w') : GrR w' g ps at_ adds := by
  obtain ⟨v0, v1, v2, v3, v4, h1, h2⟩ := h
  exact ⟨v0, v1, v2, v3, v4, h1.all k, k.rdo' RArcss.ok h2⟩
theorem mkArcs (n : Nat) (hn : n ≤ 1000000) (W : World) : (Instr.makeSlice 119 (.int .i64 (n : Int)) (.int .i64 (n : Int))).run Tryz.prog W = .ok (.slice (some ⟨W.heap.size, 0, none⟩) n n) (W.alloc (.cells (List.replicate n (Value.slice none 0 0)).toArray 122)) := by
  have h := run_make_row' (P := Tryz.prog) 119 122 (.slice none 0 0) 24 Tryz.underlying119 (by kernel_rfl) rfl .i64 .i64 n (by omega) (by omega) W
  rw [madeCells_one] at h; exact h

set_option maxRecDepth 100000 in
set_option maxHeartbeats 1000000 in
theorem newGraph_no (ps : List (List Stage)) (os : List Order) (at_ : List Int) (A A2 A3 : Option Addr) (c c2 c3 : Nat) (w : World) (h : RPaths w (Old w) [.slice A ps.length c] ps) (h2 : ROrders w (Old w) [.slice A2 os.length c2] os) (h3 : RInts w (Old w) [.slice A3 at_.length c3] at_)
    (hno : (checkO ps os && good ps at_) = false) :
    Calls Tryz.prog 55 #[.slice A ps.length c, .slice A2 os.length c2, .slice A3 at_.length c3] w fun e w' => e = .returned (.tuple #[.pointer none, .bool false]) ∧ KeepsAll w w' := by
  have H := Lib.hid h; clear h
  have H2 := Lib.hid h2; clear h2
  have H3 := Lib.hid h3; clear h3
  have HNO := Lib.hid hno; clear hno
  go_enter Tryz.func55, Tryz.ntmps55
  go_wp2_with fail
  refine (Check_any ps os A A2 c c2 w H.out H2.out).mono ?_
  rintro e w1 ⟨rfl, k1⟩
  have K1 := Lib.hid k1; clear k1
  by_cases g1 : checkO ps os = true
  · have g2 : good ps at_ = false := by have := HNO.out; rw [g1] at this; simpa using this
    rw [g1]
    clear g1
    go_wp2_with (go_at_call 53; refine (pgood_any ps at_ A A3 c c3 _ (Old w1) (Old w1) (K1.out.rdo' RPaths.ok H.out) (K1.out.rdo' RInts.ok H3.out)).mono ?_; rintro e w2 ⟨rfl, rfl⟩; rw [g2])
    go_ret2
    exact ⟨rfl, K1.out⟩
  · have g1' : checkO ps os = false := by simpa using g1
    rw [g1']
    clear g1
    go_wp2
    go_ret2
    exact ⟨rfl, K1.out⟩

set_option maxRecDepth 100000 in
set_option maxHeartbeats 4000000 in
theorem newGraph_yes (ps : List (List Stage)) (os : List Order) (at_ : List Int) (A A2 A3 : Option Addr) (c c2 c3 : Nat) (w : World) (h : RPaths w (Old w) [.slice A ps.length c] ps) (h2 : ROrders w (Old w) [.slice A2 os.length c2] os) (h3 : RInts w (Old w) [.slice A3 at_.length c3] at_)
    (hck : checkO ps os = true) (hgd : good ps at_ = true) :
    Calls Tryz.prog 55 #[.slice A ps.length c, .slice A2 os.length c2, .slice A3 at_.length c3] w fun e w' => ∃ g, e = .returned (.tuple #[.pointer (some ⟨g, 0, none⟩), .bool true]) ∧ GrR w' g ps at_ (gAdds ps os) ∧ KeepsAll w w' := by
  have hc := h.caps
  have hc2 := h2.caps
  have hc3 := h3.caps
  have H := Lib.hid h; clear h
  have H2 := Lib.hid h2; clear h2
  have H3 := Lib.hid h3; clear h3
  have HCK := Lib.hid hck
  have HGD := Lib.hid hgd
  have HV := Lib.hid (checkO_facts hck).1
  have hl10 := (valid_lens HV.out).1
  have hos := (checkO_facts hck).2.1
  have HLN : Hid (∀ p ∈ ps, p.length ≤ 64) := fun p hp => ((valid_lens HV.out).2 p hp).2
  have hevl : (evs ps).length ≤ 650 := by
    have := fst_le HLN.out ps.length (Nat.le_refl _)
    rw [fst_len] at this; omega
  go_enter Tryz.func55, Tryz.ntmps55
  go_wp2_with fail
  refine (Check_any ps os A A2 c c2 w H.out H2.out).mono ?_
  rintro e w1 ⟨rfl, k1⟩
  have K1 := Lib.hid k1; clear k1
  rw [hck]
  clear hck
  go_wp2_with (go_at_call 53; refine (pgood_any ps at_ A A3 c c3 _ (Old w1) (Old w1) (K1.out.rdo' RPaths.ok H.out) (K1.out.rdo' RInts.ok H3.out)).mono ?_; rintro e w2 ⟨rfl, rfl⟩; rw [hgd])
  clear hgd
  generalize hW : World.alloc w1 _ = W
  have HP1 : Hid (P1 w1 W (.slice A ps.length c) (.slice A3 at_.length c3) (.slice none 0 0) (.slice none 0 0) ((firsts ps).take 0) (evs (ps.take 0))) := by
    subst hW
    exact ⟨Blk.new _ _ _, OwnL.nil, OwnL.nil, fun b hb => by simp [Value.ownBlock] at hb, (Keeps.refl _ _).alloc _⟩
  clear hW
  have hz1 := K1.out.size
  go_loopw [35] (fun i wr => ∃ (t : Nat) (v2 v3 : Value), t ≤ ps.length ∧ i = .int .i64 t ∧ P1 w1 wr (.slice A ps.length c) (.slice A3 at_.length c3) v2 v3 ((firsts ps).take t) (evs (ps.take t))) (fun i _ => ps.length - (intOf i).toNat)
  case atStart => exact ⟨0, _, _, Nat.zero_le _, rfl, HP1.out⟩
  case round =>
    obtain ⟨t, v2, v3, ht, rfl, hp1⟩ := hrel
    clear HP1
    have KR := Lib.hid (K1.out.tr hp1.k)
    by_cases hlt : t < ps.length
    · obtain ⟨b, o, p, A', c', rfl, hb, hp, k1, hr⟩ := RSS.atK KR.out H.out hlt
      have hcp := hr.caps
      have hpl := HLN.out p (List.mem_of_getElem? hp)
      have hft := fst_le HLN.out t ht
      have HEV := Lib.hid (evs_succ hp)
      have HFS := Lib.hid (firsts_take hlt)
      obtain ⟨B2, d2, rfl, hd2, hd22⟩ := hp1.f.form
      obtain ⟨B3, d3, rfl, hd3, hd33⟩ := hp1.e.form
      have e2 := hp1.b.cell 2
      have e3 := hp1.b.cell 3
      simp only [List.getElem?_toArray, List.getElem?_cons_succ, List.getElem?_cons_zero] at e2 e3
      have hfl : ((firsts ps).take t).length = t := by rw [List.length_take, firsts_len]; omega
      have hel : (evs (ps.take t)).length = fst ps t := rfl
      rw [hfl] at hd2 e2 hp1
      rw [hel] at hd3 e3 hp1
      have FAR : Hid (∀ b, b < w1.heap.size + 1 → ¬ ((Value.slice B2 t d2).ownBlock = some b)) := fun b hb e => by have := hp1.f.lt e; omega
      have HP1 := Lib.hid hp1
      have hgz := hp1.b.lt
      have HL5 : Hid (((firsts ps).take t ++ [(fst ps t : Int)]).length = t + 1) := by show _ = _; rw [List.length_append, hfl]; rfl
      have hL0 : (evs (ps.take t)).length ≤ 650 := by rw [hel]; omega
      clear hp1 hp hr hfl hel
      have hdt : decide ((t : Int) < (ps.length : Int)) = true := by simp; omega
      go_wp2
      refine wp_region_lex (fun w' => ∃ x : ExtC (fun b => (Value.slice B2 t d2).ownBlock = some b) wr, w' = x.val) [0, 1, 2, 3, 4, 5, 6, 7, 8, 9, 10, 11, 12, 13, 14] (by kernel_rfl) (by kernel_rfl) (ExtC.start _ _) ?_
      have x2 := ExtC.cell (C := fun b => (Value.slice B2 t d2).ownBlock = some b) e2 (FAR.out _ (by simp))
      have x3 := ExtC.cell (C := fun b => (Value.slice B2 t d2).ownBlock = some b) e3 (FAR.out _ (by simp))
      iterate 2 (refine lex_q _ rfl rfl rfl ?_; go_big_quiet_step (fail); refine wpQuiet_nil ?_)
      refine lex_nil _ rfl _ rfl rfl _ rfl ?_; go_simp
      iterate 3 (refine lex_q _ rfl rfl rfl ?_; go_big_quiet_step (fail); refine wpQuiet_nil ?_)
      refine lex_nil _ rfl _ rfl rfl _ rfl ?_; go_simp
      iterate 3 (refine lex_q _ rfl rfl rfl ?_; go_big_quiet_step (fail); refine wpQuiet_nil ?_)
      refine lex_a _ rfl rfl true (by kernel_rfl) ?_
      go_wp2
      refine ⟨fun _ => ⟨⟨_, ((Keeps.refl _ _).alloc _).drew⟩, rfl⟩, ?_⟩
      generalize hWb : World.drew (World.alloc wr _) = Wb
      have KB : KeepsAll wr Wb := by subst hWb; exact ((Keeps.refl _ _).alloc _).drew
      have HBX : Hid (Blk Wb wr.heap.size 3 [.int .i64 (fst ps t : Int)].toArray) := by subst hWb; exact Blk.new wr _ _
      have HPB := Lib.hid (HP1.out.keep KB)
      have KB2 := Lib.hid KB
      have hzb := HPB.out.b.lt
      clear hWb KB
      refine lex_a _ rfl rfl true (by kernel_rfl) ?_
      go_wp2_with (at_builtin; refine wpList_append_L tyInt RInt.ok rfl (.tmp 44) (.tmp 50) rfl HPB.out.f rfl _ [.int .i64 (fst ps t : Int)] rfl HBX.out rfl (fst ps t : Int) (S := fun _ => False) rfl (fun _ h => h.elim) (by simp [Value.oneCell']) (by simp; omega) (by simp; omega) (by omega) ?_; intro v5 w5 HO5 HK5 HA5; obtain ⟨A5, c5, hv5, hv51, hv52⟩ := HO5.form; rw [HL5.out] at hv5; subst hv5)
      have HPU := Lib.hid (HPB.out.pushF HO5 HK5 HA5)
      have K5 : Keeps (fun b => (Value.slice B2 t d2).ownBlock = some b) wr w5 := (KB2.out.mono (fun _ _ h => h.elim)).trans HK5 (fun _ _ h => h)
      have hc5 : w5.cell? ⟨w1.heap.size, 2, none⟩ = some (.slice B2 t d2) := (K5.cell (p := ⟨w1.heap.size, 2, none⟩) hgz (FAR.out _ (by simp))).trans e2
      have hf5 : w5.frozen? ⟨w1.heap.size, 2, none⟩ = false := (HP1.out.b.kept K5 (FAR.out _ (by simp))).frozen 2
      refine ⟨fun _ => ⟨⟨_, K5⟩, rfl⟩, ?_⟩
      clear K5 HO5 HK5 HA5
      refine lex_nil _ rfl _ rfl rfl _ rfl ?_; go_simp
      refine lex_q _ rfl rfl rfl ?_; go_big_quiet_step (fail); refine wpQuiet_nil ?_
      refine lex_a _ rfl rfl false (by kernel_rfl) ?_
      go_wp2
      refine ⟨fun h => (by cases h), ?_⟩
      generalize hWc : World.setCell w5 _ _ = Wc
      rw [hWc] at HPU
      rw [← HFS.out] at HPU
      have HPI : Hid (P1 w1 Wc (.slice (some ⟨b, o, none⟩) ps.length c) (.slice A3 at_.length c3) (.slice A5 (t + 1) c5) (.slice B3 (fst ps t) d3) ((firsts ps).take (t + 1)) (evs (ps.take t) ++ (List.range 0).map fun k : Nat => ⟨(t : Int), (k : Int)⟩)) := by
        show P1 _ _ _ _ _ _ _ _
        simpa using HPU.out
      clear hWc HPU hc5 hf5 e2 e3 x2 x3 HBX HPB KB2
      obtain ⟨wo, hwo⟩ : ∃ wo : World, wo = wr := ⟨_, rfl⟩
      clear hwo
      refine (by assumption : ∀ (a : Act) (w : World), Code.wp Tryz.prog (Code.seq (Code.region 8 _ _) _) _ a w → _) _ _ ?_
      go_wp2
      go_loopw [57] (fun i wr => ∃ (k : Nat) (v3 : Value), k ≤ p.length + 1 ∧ i = .int .i64 k ∧ P1 w1 wr (.slice (some ⟨b, o, none⟩) ps.length c) (.slice A3 at_.length c3) (.slice A5 (t + 1) c5) v3 ((firsts ps).take (t + 1)) (evs (ps.take t) ++ (List.range k).map fun k : Nat => ⟨(t : Int), (k : Int)⟩)) (fun i _ => p.length + 1 - (intOf i).toNat)
      case atStart => exact ⟨0, _, Nat.zero_le _, rfl, HPI.out⟩
      case round =>
        obtain ⟨k, v3, hk, rfl, hp1⟩ := hrel
        clear HPI
        by_cases hlt2 : k < p.length + 1
        · have HLS : Hid (evs (ps.take t) ++ (List.range (k + 1)).map (fun k : Nat => (⟨(t : Int), (k : Int)⟩ : Ref)) = (evs (ps.take t) ++ (List.range k).map fun k : Nat => ⟨(t : Int), (k : Int)⟩) ++ [⟨(t : Int), (k : Int)⟩]) := by
            show _ = _
            rw [List.range_succ, List.map_append, List.append_assoc]; rfl
          have hLl : (evs (ps.take t) ++ (List.range k).map fun k : Nat => (⟨(t : Int), (k : Int)⟩ : Ref)).length ≤ 1000 := by rw [List.length_append, List.length_map, List.length_range]; omega
          generalize (evs (ps.take t) ++ (List.range k).map fun k : Nat => (⟨(t : Int), (k : Int)⟩ : Ref)) = L at hp1 HLS hLl
          obtain ⟨B6, d6, rfl, hd6, hd66⟩ := hp1.e.form
          have e3 := hp1.b.cell 3
          simp only [List.getElem?_toArray, List.getElem?_cons_succ, List.getElem?_cons_zero] at e3
          have hgz2 := hp1.b.lt
          have HP := Lib.hid hp1; clear hp1
          go_wp2_with (at_builtin; refine wpList_append_L tyRef RRef.ok rfl (.tmp 64) (.tmp 68) rfl (HP.out.e.alloc RRef.ok _) rfl _ [.int .i64 (t : Int), .int .i64 (k : Int)] rfl (Blk.new' _ _ _ (by simp)) rfl ⟨(t : Int), (k : Int)⟩ (S := fun _ => False) rfl (fun _ h => h.elim) (by simp [Value.oneCell']) (by omega) (by omega) (by simp; omega) ?_; intro v7 w7 HO7 HK7 HA7; obtain ⟨A7, c7, hv7, hv71, hv72⟩ := HO7.form; rw [List.length_append, List.length_singleton] at hv7; subst hv7; have HPU := Lib.hid ((HP.out.keep ((Keeps.refl _ _).alloc _)).pushE HO7 HK7 HA7); have K7 : ¬ ((Value.slice B6 L.length d6).ownBlock = some w1.heap.size) := (fun e => (by have := HP.out.e.lt e; omega)); have hc7 := (((HP.out.b.alloc _).kept HK7 K7).cell 3); have hf7 := (((HP.out.b.alloc _).kept HK7 K7).frozen 3); simp only [List.getElem?_toArray, List.getElem?_cons_succ, List.getElem?_cons_zero] at hc7; clear HO7 HK7 HA7 K7)
          go_roundw
          case rel => exact ⟨k + 1, _, by omega, by go_num, by rw [HLS.out]; exact HPU.out⟩
          case measure => simp [intOf]; omega
        · obtain rfl : k = p.length + 1 := by omega
          rw [← HEV.out] at hp1
          have HP := Lib.hid hp1; clear hp1
          go_wp2
          go_roundw
          case rel => exact ⟨t + 1, _, _, by omega, by go_num, HP.out⟩
          case measure => simp [intOf]; omega
    · obtain rfl : t = ps.length := by omega
      have ef : (firsts ps).take ps.length = firsts ps := List.take_of_length_le (by rw [firsts_len]; omega)
      rw [ef, List.take_length] at hp1
      clear ef
      obtain ⟨B2, d2, rfl, hd2, hd22⟩ := hp1.f.form
      obtain ⟨B3, d3, rfl, hd3, hd33⟩ := hp1.e.form
      rw [firsts_len] at hd2 hp1
      have e3 := hp1.b.cell 3
      have e4 := hp1.b.cell 4
      have f4 := hp1.b.frozen 4
      simp only [List.getElem?_toArray, List.getElem?_cons_succ, List.getElem?_cons_zero] at e3 e4
      have hgz := hp1.b.lt
      have hmk := mkArcs (evs ps).length (by omega)
      have HP1 := Lib.hid hp1; clear hp1
      go_wp2
      generalize hW2 : World.alloc (World.setCell wr _ _) _ = w2
      have HZ2 : Hid (w2.heap.size = wr.heap.size + 1) := by show _ = _; rw [← hW2]; simp [World.setCell]
      have KW2 : Hid (KeepsAll w w2) := by
        subst hW2; exact (KR.out.setCell (p := ⟨w1.heap.size, 4, none⟩) (fun h => (by have h : w1.heap.size < w.heap.size := h; omega)) _).alloc _
      have HG : Hid (GSt w2 w2 w1.heap.size wr.heap.size ps at_ (.slice A ps.length c) (.slice A3 at_.length c3) (.slice B2 ps.length d2) (.slice B3 (evs ps).length d3) (List.replicate (evs ps).length (.slice none 0 0)) (chainTo ps 0)) := by
        have hz := HZ2.out
        have k2 : Keeps (fun b => b = w1.heap.size) wr w2 := by
          subst hW2; exact ((Keeps.refl (fun b => b = w1.heap.size) wr).setCell (p := ⟨w1.heap.size, 4, none⟩) (fun _ => rfl) _).alloc _
        have hS : ∀ b, Old w b → (b < w2.heap.size ∧ b ≠ wr.heap.size) := fun b hb => by
          have : b < w.heap.size := hb
          omega
        refine ⟨⟨?_, KW2.out.rd RPaths.ok H.out (fun b hb => ⟨hb, by simp⟩) hS, KW2.out.rd RInts.ok H3.out (fun b hb => ⟨hb, by simp⟩) hS, ?_, ?_⟩, by omega, Keeps.refl _ _, ?_⟩
        · subst hW2
          exact (HP1.out.b.set_ 4 (.slice (some ⟨wr.heap.size, 0, none⟩) (evs ps).length (evs ps).length)).alloc _
        · have h1 := HP1.out.f.keepsF RInt.flat k2 (fun b hb e => by have := HP1.out.f.lt hb; omega)
          exact h1.readF RInt.ok RInt.flat (fun b hb => by have := HP1.out.f.lt hb; exact ⟨by omega, by omega⟩)
        · have h1 := HP1.out.e.keepsF RRef.flat k2 (fun b hb e => by have := HP1.out.e.lt hb; omega)
          exact h1.readF RRef.ok RRef.flat (fun b hb => by have := HP1.out.e.lt hb; exact ⟨by omega, by omega⟩)
        · have e0 : chainTo ps 0 = [] := rfl
          rw [e0, arcsOf_nil]
          refine Rows.new _ ?_ (by omega)
          subst hW2
          rw [List.toArray_replicate]
          exact Blk.new' _ _ _ (by simp [World.setCell])
      have hB2 : w.heap.size ≤ wr.heap.size := KR.out.size
      have hB1 : wr.heap.size < w2.heap.size := by rw [HZ2.out]; omega
      have hg1 : w1.heap.size < w2.heap.size := by omega
      clear hW2 hmk e3 e4 f4 HP1 HZ2 KR
      generalize wr.heap.size = B at *
      generalize w1.heap.size = g at *
      have HKW : Hid (∀ W, Keeps (fun b => b = B) w2 W → KeepsAll w W) := fun W hW => KW2.out.trans hW (fun x hx e => by omega)
      go_loopw [85] (fun i wr => ∃ (t : Nat) (vs : List Value), t ≤ ps.length ∧ i = .int .i64 t ∧ GSt w2 wr g B ps at_ (.slice A ps.length c) (.slice A3 at_.length c3) (.slice B2 ps.length d2) (.slice B3 (evs ps).length d3) vs (chainTo ps t)) (fun i _ => ps.length - (intOf i).toNat)
      case atStart => exact ⟨0, _, Nat.zero_le _, rfl, HG.out⟩
      case round =>
        obtain ⟨t, vs, ht, rfl, hi⟩ := hrel
        clear HG
        have KR := Lib.hid (HKW.out _ hi.k)
        by_cases hlt : t < ps.length
        · obtain ⟨b, o, p, A', c', rfl, hb, hp, k1, hr⟩ := RSS.atK KR.out H.out hlt
          have hcp := hr.caps
          have hpl := HLN.out p (List.mem_of_getElem? hp)
          have hft := fst_le HLN.out t ht
          have hfe : fst ps t + p.length < (evs ps).length := by
            have := fst_lt hp hlt (Nat.le_refl _)
            rw [fst_len] at this; exact this
          have HCH := Lib.hid (chainTo_succ hp)
          have HPR := Lib.hid hr
          have hDl : (chainTo ps t).length ≤ 640 := by
            have h1 := chain_len ps HV.out
            have h2 : (chainTo ps t).length ≤ (chainAdds ps).length := by
              have h3 : ps.zipIdx = (ps.take t).zipIdx ++ (ps.drop t).zipIdx t := by
                conv => lhs; rw [← List.take_append_drop t ps]
                rw [List.zipIdx_append]; simp; congr 1; omega
              unfold chainTo chainAdds
              rw [h3, List.flatMap_append, List.length_append]; omega
            omega
          obtain ⟨bf, of, xf, hbf0, hbf, hxf, nf⟩ := hi.grb.rf.at_ (k := t) (by rw [firsts_len]; exact hlt)
          subst hbf0
          rw [firsts_at hlt] at hxf; injection hxf with hxf; subst hxf
          clear nf hbf hp hr
          have HI : Hid (GSt w2 wr g B ps at_ (.slice (some ⟨b, o, none⟩) ps.length c) (.slice A3 at_.length c3) (.slice (some ⟨bf, of, none⟩) ps.length d2) (.slice B3 (evs ps).length d3) vs (chainTo ps t ++ chainP (fst ps t) (p.take 0))) := by
            show GSt _ _ _ _ _ _ _ _ _ _ _ _
            have e : chainP (fst ps t) (p.take 0) = [] := rfl
            rw [e, List.append_nil]; exact hi
          clear hi
          have hdt : decide ((t : Int) < (ps.length : Int)) = true := by simp; omega
          obtain ⟨wo, hwo⟩ : ∃ wo : World, wo = wr := ⟨_, rfl⟩
          clear hwo
          go_wp2
          go_loopw [92] (fun i wr => ∃ (k : Nat) (vs : List Value), k ≤ p.length ∧ i = .int .i64 k ∧ GSt w2 wr g B ps at_ (.slice (some ⟨b, o, none⟩) ps.length c) (.slice A3 at_.length c3) (.slice (some ⟨bf, of, none⟩) ps.length d2) (.slice B3 (evs ps).length d3) vs (chainTo ps t ++ chainP (fst ps t) (p.take k))) (fun i _ => p.length - (intOf i).toNat)
          case atStart => exact ⟨0, _, Nat.zero_le _, rfl, HI.out⟩
          case round =>
            obtain ⟨k, vs, hk, rfl, hi⟩ := hrel
            clear HI
            have KR2 := Lib.hid (HKW.out _ hi.k)
            by_cases hlt2 : k < p.length
            · obtain ⟨b2, o2, s, A5, c5, rfl, hb2, hs, m0, m1, m2, m3, hpts⟩ := RPath.atK KR2.out HPR.out hlt2
              have Q : Hid (chainTo ps t ++ chainP (fst ps t) (p.take (k + 1)) = (chainTo ps t ++ chainP (fst ps t) (p.take k)) ++ [(fst ps t + k + 1, ⟨((fst ps t + k : Nat) : Int), s.mn⟩)]) := by
                show _ = _
                rw [chainP_succ _ hs, List.append_assoc]
              have hLl : (chainTo ps t ++ chainP (fst ps t) (p.take k)).length ≤ 1000000000 := by
                rw [List.length_append]; simp [chainP]; omega
              generalize chainTo ps t ++ chainP (fst ps t) (p.take k) = L at hi Q hLl
              obtain ⟨bf', of', xf, hbf0, hbf, hxf, nf⟩ := hi.grb.rf.at_ (k := t) (by rw [firsts_len]; exact hlt)
              injection hbf0 with hbf0; injection hbf0 with hbf1 hbf2; subst hbf1 hbf2
              rw [firsts_at hlt] at hxf; injection hxf with hxf; subst hxf
              have hbf' : bf < wr.heap.size := hbf
              have e2 := hi.grb.b.cell 2
              simp only [List.getElem?_toArray, List.getElem?_cons_succ, List.getElem?_cons_zero] at e2
              have hgr : g < wr.heap.size := by have := hi.k.size; omega
              have HI := Lib.hid hi
              clear hi hs hpts hbf
              obtain ⟨Ar, cr, l, hvs, hll, hown, hcell0, hfrz, hl9, hcr, hcr2⟩ := HI.out.row (i := fst ps t + k + 1) (by omega) hLl
              have HVS := Lib.hid hvs; have HLL := Lib.hid hll; have HOWN := Lib.hid hown
              have FAR : Hid (∀ b, b < w2.heap.size ∨ b = wr.heap.size → ¬ ((Value.slice Ar l.length cr).ownBlock = some b)) := fun b hb e => by
                have := HOWN.out.lt e; omega
              have hei1 : fst ps t + k + 1 < (evs ps).length := by omega
              clear hvs hll hown
              go_wp2
              generalize hW3 : World.alloc wr _ = W3
              have KW3 : KeepsAll wr W3 := by subst hW3; exact (Keeps.refl _ _).alloc _
              have B3 : Blk W3 wr.heap.size 51 #[.int .i64 s.sec, .slice A5 s.pts.length c5, .int .i64 s.mn, .int .i64 s.nt] := by subst hW3; exact Blk.new _ _ _
              have q2 := B3.cell 2
              simp at q2
              have hz3 := B3.lt
              have HI3 := Lib.hid (HI.out.keep KW3)
              have HOW3 := Lib.hid (HOWN.out.keeps RGArc.ok KW3 (fun _ _ h => h.elim))
              have hBr : B < wr.heap.size := by have := HI.out.k.size; omega
              have hcell := KW3.cellK (p := ⟨B, fst ps t + k + 1, none⟩) hBr hcell0
              have e4 := HI3.out.grb.b.cell 4
              simp only [List.getElem?_toArray, List.getElem?_cons_succ, List.getElem?_cons_zero] at e4
              have hei : (fst ps t : Int) + (k : Int) = ((fst ps t + k : Nat) : Int) := by omega
              rw [hei]
              generalize hee : fst ps t + k = ei at *
              have hei650 : ei ≤ 1000 := by omega
              clear hW3 KW3 m0 m1 m2 m3 nf e2 hei hee hcell0 hfrz
              have hs1 : IntKind.i64.wrap ((ei : Int) + 1) = (ei : Int) + 1 := IntWalk.i64_in _ (by omega)
              have hs2 : (0 : Int) ≤ (ei : Int) + 1 := by omega
              have hs3 : ((ei : Int) + 1).toNat = ei + 1 := by omega
              refine wp_region_lex (fun w' => ∃ x : ExtC (fun b => (Value.slice Ar l.length cr).ownBlock = some b) W3, w' = x.val) [0, 1, 2, 3, 4, 5, 6, 7, 8, 9, 10, 11, 12, 13, 14, 15, 16, 17, 18, 19, 20, 21] (by kernel_rfl) (by kernel_rfl) (ExtC.start _ _) ?_
              have xe4 := ExtC.cell (C := fun b => (Value.slice Ar l.length cr).ownBlock = some b) e4 (FAR.out _ (.inl hg1))
              have xc := ExtC.cell (C := fun b => (Value.slice Ar l.length cr).ownBlock = some b) hcell (FAR.out _ (.inl hB1))
              have xq := ExtC.cell (C := fun b => (Value.slice Ar l.length cr).ownBlock = some b) q2 (FAR.out _ (.inr rfl))
              refine lex_q _ rfl rfl rfl ?_; go_big_quiet_step (fail); refine wpQuiet_nil ?_
              refine lex_nil _ rfl _ rfl rfl _ rfl ?_; go_simp
              iterate 5 (refine lex_q _ rfl rfl rfl ?_; go_big_quiet_step (fail); refine wpQuiet_nil ?_)
              refine lex_nil _ rfl _ rfl rfl _ rfl ?_; go_simp
              iterate 10 (refine lex_q _ rfl rfl rfl ?_; go_big_quiet_step (fail); refine wpQuiet_nil ?_)
              refine lex_a _ rfl rfl true (by kernel_rfl) ?_
              go_wp2
              refine ⟨fun _ => ⟨⟨_, ((Keeps.refl _ _).alloc _).drew⟩, rfl⟩, ?_⟩
              generalize hWb : World.drew (World.alloc W3 _) = Wb
              have KB : KeepsAll W3 Wb := by subst hWb; exact ((Keeps.refl _ _).alloc _).drew
              have HBX : Hid (Blk Wb W3.heap.size 124 [.int .i64 (ei : Int), .int .i64 s.mn].toArray) := by subst hWb; exact Blk.new W3 _ _
              have HIB := Lib.hid (HI3.out.keep KB)
              have HOB := Lib.hid (HOW3.out.keeps RGArc.ok KB (fun _ _ h => h.elim))
              have hzb := HIB.out.lt.2.2
              have KB2 := Lib.hid KB
              clear hWb KB
              refine lex_a _ rfl rfl true (by kernel_rfl) ?_
              go_wp2_with (at_builtin; refine wpList_append_L tyGArc RGArc.ok rfl (.tmp 119) (.tmp 124) rfl HOB.out rfl _ [.int .i64 (ei : Int), .int .i64 s.mn] rfl HBX.out rfl ⟨(ei : Int), s.mn⟩ (S := fun _ => False) rfl (fun _ h => h.elim) (by simp [Value.oneCell']) (by omega) (by omega) hzb ?_; intro v5 w5 HO5 HK5 HA5; obtain ⟨A6, c6, hv5, hv51, hv52⟩ := HO5.form; rw [List.length_append, List.length_singleton] at hv5; subst hv5)
              have HPU := Lib.hid (HIB.out.push HVS.out HLL.out HO5 HK5 HA5)
              have K5 : Keeps (fun b => (Value.slice Ar l.length cr).ownBlock = some b) W3 w5 := (KB2.out.mono (fun _ _ h => h.elim)).trans HK5 (fun _ _ h => h)
              have hc5 : w5.cell? ⟨B, ei + 1, none⟩ = some (.slice Ar l.length cr) := (K5.cell (p := ⟨B, ei + 1, none⟩) (by show B < _; omega) (FAR.out _ (.inl hB1))).trans hcell
              have hf5 : w5.frozen? ⟨B, ei + 1, none⟩ = false := (HI3.out.rows.blk.kept K5 (FAR.out _ (.inl hB1))).frozen (ei + 1)
              refine ⟨fun _ => ⟨⟨_, K5⟩, rfl⟩, ?_⟩
              clear K5 HO5 HK5 HA5
              refine lex_q _ rfl rfl rfl ?_; go_big_quiet_step (fail); refine wpQuiet_nil ?_
              refine lex_a _ rfl rfl false (by kernel_rfl) ?_
              go_wp2
              (try refine ⟨fun h => (by cases h), ?_⟩)
              refine (by assumption : ∀ (a : Act) (w : World), Code.wp Tryz.prog (Code.region 23 _ _) _ a w → _) _ _ ?_
              clear hs1 hs2 hs3
              go_wp2
              go_roundw
              case rel => exact ⟨k + 1, _, by omega, by go_num, by rw [Q.out]; exact HPU.out⟩
              case measure => simp [intOf]; omega
            · obtain rfl : k = p.length := by omega
              rw [List.take_length, ← HCH.out] at hi
              have HI := Lib.hid hi; clear hi
              go_wp2
              go_roundw
              case rel => exact ⟨t + 1, vs, by omega, by go_num, HI.out⟩
              case measure => simp [intOf]; omega
        · obtain rfl : t = ps.length := by omega
          have hi0 : GSt w2 wr g B ps at_ (.slice A ps.length c) (.slice A3 at_.length c3) (.slice B2 ps.length d2) (.slice B3 (evs ps).length d3) vs (chainAdds ps ++ (os.take 0).flatMap (orderAdds ps)) := by
            rw [chainTo_all] at hi
            simpa using hi
          have HI := Lib.hid hi0
          clear hi hi0
          obtain ⟨wo, hwo⟩ : ∃ wo : World, wo = wr := ⟨_, rfl⟩
          clear hwo
          go_wp2
          go_loopw [131] (fun v wr => ∃ (i : Nat) (vs : List Value), i ≤ os.length ∧ v = .int .i64 i ∧ GSt w2 wr g B ps at_ (.slice A ps.length c) (.slice A3 at_.length c3) (.slice B2 ps.length d2) (.slice B3 (evs ps).length d3) vs (chainAdds ps ++ (os.take i).flatMap (orderAdds ps))) (fun v _ => os.length - (intOf v).toNat)
          case atStart => exact ⟨0, _, Nat.zero_le _, rfl, HI.out⟩
          case round =>
            obtain ⟨i, vs, hi, rfl, hg⟩ := hrel
            clear HI
            have KR2 := Lib.hid (HKW.out _ hg.k)
            have HI := Lib.hid hg; clear hg
            by_cases hlt2 : i < os.length
            · obtain ⟨b, o, x, A', c', hbo, hb, hx, m0, m1, hus⟩ := ROrders.atK KR2.out H2.out hlt2
              subst hbo
              have hcu := hus.caps
              obtain ⟨hv0, _, hfx⟩ := checkO_facts HCK.out
              obtain ⟨hf1, hf2, _⟩ := hfx x (List.mem_of_getElem? hx)
              have hsz : (chainAdds ps ++ (os.take i).flatMap (orderAdds ps)).length + x.uses.length * 10 ≤ 1000000 := by
                have h1 := chain_len ps hv0
                have h2 := orders_len HCK.out i (by omega)
                rw [List.length_append]; omega
              have Q : Hid (chainAdds ps ++ (os.take (i + 1)).flatMap (orderAdds ps) = (chainAdds ps ++ (os.take i).flatMap (orderAdds ps)) ++ orderAdds ps x) := by
                show _ = _
                rw [List.take_add_one, hx, Option.toList_some, List.flatMap_append, List.append_assoc]; simp
              have HUS : Hid (RRefs w2 (fun b => b < w2.heap.size ∧ b ≠ B) [.slice A' x.uses.length c'] x.uses) := KW2.out.rd RRefs.ok hus (fun b hb => ⟨hb, by simp⟩) (fun b hb => by have : b < w.heap.size := hb; exact ⟨by omega, by omega⟩)
              have HF1 := Lib.hid hf1
              generalize chainAdds ps ++ (os.take i).flatMap (orderAdds ps) = L at HI Q hsz
              clear hx hus hfx hf1 hv0
              go_wp2_with fail
              generalize hW3 : World.alloc wr _ = W3
              have HI3 : Hid (GSt w2 W3 g B ps at_ (.slice A ps.length c) (.slice A3 at_.length c3) (.slice B2 ps.length d2) (.slice B3 (evs ps).length d3) vs L) := by subst hW3; exact HI.out.keep ((Keeps.refl _ _).alloc _)
              clear hW3 m0 m1
              refine (addOrder_any w2 W3 g B ps at_ _ _ _ _ vs L x A' c' HV.out HI3.out HUS.out HF1.out hsz).mono ?_
              rintro e w4 ⟨rfl, vs4, h4⟩
              have H4 := Lib.hid h4; clear h4
              go_wp2
              go_roundw
              case rel => exact ⟨i + 1, vs4, by omega, by go_num, by rw [Q.out]; exact H4.out⟩
              case measure => simp [intOf]; omega
            · obtain rfl : i = os.length := by omega
              rw [List.take_length] at HI
              go_wp2
              go_ret2
              refine ⟨g, rfl, ⟨_, _, _, _, _, HI.out.grb, ?_⟩, KR2.out⟩
              have hr := HI.out.rows.read RGArc.ok RGArc.flat (S := Old wr) (by rw [arcsOf_len]; omega) (by have := HI.out.k.size; show B < _; omega) (fun _ _ h => h)
              rw [arcsOf_len] at hr
              exact hr

end Go.Proofs.YtbfgmbakeofcbaaGreat
