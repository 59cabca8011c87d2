/- What precedence.Rest returns, with the blocks in which its lists lie. Conditions: as each theorem says. Contract of the comparison of takeover.Orders. Conditions: as the theorem says. -/
import Derived.Test.YtbfgmbakeofcbaaGreatK34
import Derived.Test.YtbfgmbakeofcbaaGreatK42
import Derived.Test.YtbfgmbakeofcbaaGreatK32
namespace Go.Proofs.YtbfgmbakeofcbaaGreat
open Go.RowKit

/-- an order, the block of its uses and their capacity -/
def RPO : Rd (Order × Nat × Nat) := fun _ _ cs x => cs = [.int .i64 x.1.res, .slice (some ⟨x.2.1, 0, none⟩) x.1.uses.length x.2.2]
theorem RPO.flat : Rd.Flat RPO := fun _ _ _ _ _ _ h => h
theorem RPO.ok : Rd.Ok RPO := ⟨fun h _ _ => h⟩
def RowO (w0 w : World) (v : Value) (x : Order × Nat × Nat) : Prop := w0.heap.size ≤ x.2.1 ∧ x.2.1 < w.heap.size ∧ v.ownBlock ≠ some x.2.1 ∧ x.1.uses.length ≤ x.2.2 ∧ x.2.2 ≤ 9223372036854775807 ∧ RfAt w x.2.1 0 x.1.uses ∧ (∀ i, w.frozen? ⟨x.2.1, i, none⟩ = false) ∧ x.1.uses ≠ []
structure ROw (w0 w : World) (v : Value) (I : List (Order × Nat × Nat)) : Prop where
  own : OwnL 66 2 RPO w w0.heap.size w0.heap.size v I
  rows : ∀ x ∈ I, RowO w0 w v x
  nd : (I.map fun x => x.2.1).Nodup
  k : KeepsAll w0 w
section
variable {w0 w w' : World} {v v' : Value} {I : List (Order × Nat × Nat)} {x : Order × Nat × Nat}
theorem RfAt.kept {g o : Nat} {m : List Ref} {C : Foot} (h : RfAt w g o m) (k : Keeps C w w') (hg : g < w.heap.size) (hn : ¬ C g) : RfAt w' g o m := fun i u hu => by
  obtain ⟨h1, h2⟩ := h i u hu
  exact ⟨(k.cell (p := ⟨g, o + i * 2, none⟩) hg hn).trans h1, (k.cell (p := ⟨g, o + i * 2 + 1, none⟩) hg hn).trans h2⟩
theorem RowO.kept {C : Foot} (h : RowO w0 w v x) (k : Keeps C w w') (hn : ¬ C x.2.1) (hv : v'.ownBlock ≠ some x.2.1) : RowO w0 w' v' x :=
  ⟨h.1, Nat.lt_of_lt_of_le h.2.1 k.size, hv, h.2.2.2.1, h.2.2.2.2.1, h.2.2.2.2.2.1.kept k h.2.1 hn, fun i => by rw [k.frz h.2.1 hn]; exact h.2.2.2.2.2.2.1 i, h.2.2.2.2.2.2.2⟩
theorem ROw.nil (k : KeepsAll w0 w) : ROw w0 w (.slice none 0 0) [] := ⟨OwnL.nil, by simp, by simp, k⟩
theorem ROw.keep (h : ROw w0 w v I) (k : KeepsAll w w') : ROw w0 w' v I :=
  ⟨h.own.keeps RPO.ok k (fun _ _ h => h.elim), fun x hx => (h.rows x hx).kept k (by simp) (h.rows x hx).2.2.1, h.nd, h.k.tr k⟩
theorem ROw.push (h : ROw w0 w v I) (ho : OwnL 66 2 RPO w' w0.heap.size w0.heap.size v' (I ++ [x])) (hk : Keeps (fun b => v.ownBlock = some b) w w') (ha : v'.ownBlock = v.ownBlock ∨ v'.ownBlock = some w.heap.size) (hx : RowO w0 w v x) (hn : ∀ y ∈ I, y.2.1 ≠ x.2.1) : ROw w0 w' v' (I ++ [x]) := by
  have hv : ∀ y, RowO w0 w v y → v'.ownBlock ≠ some y.2.1 := fun y hy e => by
    rcases ha with ha | ha
    · rw [ha] at e; exact hy.2.2.1 e
    · rw [ha] at e; injection e with e; have := hy.2.1; omega
  refine ⟨ho, fun y hy => ?_, ?_, h.k.trans hk (fun b hb e => by have := h.own.lt e; omega)⟩
  · rcases List.mem_append.1 hy with hy | hy
    · exact (h.rows y hy).kept hk (fun e => (h.rows y hy).2.2.1 e) (hv y (h.rows y hy))
    · simp at hy; subst hy; exact hx.kept hk (fun e => hx.2.2.1 e) (hv y hx)
  · rw [List.map_append, List.nodup_append]
    refine ⟨h.nd, by simp, fun a ha b hb => ?_⟩
    obtain ⟨y, hy, rfl⟩ := List.mem_map.1 ha
    simp at hb
    subst hb
    exact hn y hy
end

set_option maxRecDepth 100000 in
set_option maxHeartbeats 2000000 in
theorem Rest_own (ps : List (List Stage)) (os : List Order) (at_ : List Int) (A A2 A3 : Option Addr) (c c2 c3 : Nat) (w : World) (h : RPaths w (Old w) [.slice A ps.length c] ps) (h2 : ROrders w (Old w) [.slice A2 os.length c2] os) (h3 : RInts w (Old w) [.slice A3 at_.length c3] at_) (g1 : checkO ps os = true) (g2 : good ps at_ = true) :
    Calls Tryz.prog 30 #[.slice A ps.length c, .slice A2 os.length c2, .slice A3 at_.length c3] w fun e w' => ∃ v I, e = .returned v ∧ ROw w w' v I ∧ I.map (·.1) = restP ps os at_ := by
  have hc3 := h3.caps
  have H := Lib.hid h; clear h
  have H2 := Lib.hid h2; clear h2
  have H3 := Lib.hid h3; clear h3
  have hf := checkO_facts g1
  have hol := hf.2.1
  have HF := Lib.hid hf.2.2
  have HV := Lib.hid hf.1
  clear hf
  have hc2 := H2.out.caps
  have Q : Hid (restP ps os at_ = os.flatMap (restO ps at_)) := by show _ = _; unfold restP; rw [g1, g2]; rfl
  have hal := (good_Gd.1 g2).1
  have al1 : at_.length ≤ ps.length := by omega
  have al2 : ps.length ≤ at_.length := by omega
  clear hal
  go_enter Tryz.func30, Tryz.ntmps30
  go_wp2_with fail
  refine (Check_any ps os A A2 c c2 w H.out H2.out).mono ?_
  rintro e w1 ⟨rfl, k1⟩
  rw [g1]
  have K1 := Lib.hid k1; clear k1
  go_wp2_with (go_at_call 53; refine (pgood_any ps at_ A A3 c c3 _ (Old w1) (Old w1) (K1.out.rdo' RPaths.ok H.out) (K1.out.rdo' RInts.ok H3.out)).mono ?_; rintro e w2 ⟨rfl, rfl⟩; rw [g2])
  go_loopw [7, 25] (fun v i wr => ∃ (a : Nat) (I : List (Order × Nat × Nat)), a ≤ os.length ∧ i = .int .i64 (a : Int) ∧ ROw w wr v I ∧ I.map (·.1) = (os.take a).flatMap (restO ps at_)) (fun _ i _ => os.length - (intOf i).toNat)
  case atStart => exact ⟨0, [], Nat.zero_le _, rfl, ROw.nil K1.out, rfl⟩
  case round =>
    obtain ⟨a, I, ha, rfl, ho, hI⟩ := hrel
    obtain ⟨Aa, ca, rfl, hca, hca2⟩ := ho.own.form
    have HO1 := Lib.hid ho
    have KR := Lib.hid ho.k
    have HI := Lib.hid hI
    clear ho hI
    have hsz := KR.out.size
    have hDl : I.length ≤ 144 := by
      have h1 := rest_len ps at_ (os.take a)
      have h2 : (os.take a).length ≤ os.length := by simp; omega
      have h3 : I.length = ((os.take a).flatMap (restO ps at_)).length := by rw [← HI.out]; simp
      omega
    by_cases hlt : a < os.length
    · obtain ⟨bo, oo, o, Au, cu, hbo, hbol, hoo, m0, m1, hus⟩ := ROrders.atK KR.out H2.out hlt
      subst hbo
      have hcu := hus.caps
      have HUS := Lib.hid hus
      have hof := HF.out o (List.mem_of_getElem? hoo)
      have HIN := Lib.hid hof.1
      have hul := hof.2.1
      have HQ : Hid ((os.take (a + 1)).flatMap (restO ps at_) = (os.take a).flatMap (restO ps at_) ++ restO ps at_ o) := by show _ = _; rw [List.take_add_one, hoo]; simp
      clear hof hoo hus
      rw [← HI.out] at HQ
      have hda : decide ((a : Int) < (os.length : Int)) = true := by simp; omega
      go_wp2
      generalize hW3 : World.alloc wr _ = W3
      have KW3 : Hid (KeepsAll w W3) := by subst hW3; exact KR.out.alloc _
      have BO : Hid (Blk W3 wr.heap.size 66 #[.int .i64 o.res, .slice Au o.uses.length cu]) := by subst hW3; exact Blk.new _ _ _
      have HO3 : Hid (ROw w W3 (.slice Aa I.length ca) I) := by subst hW3; exact HO1.out.keep ((Keeps.refl _ _).alloc _)
      clear hW3 m0 m1 hbol HO1
      generalize wr.heap.size = zo at *
      go_loopw [10, 32] (fun v i wr => ∃ b : Nat, b ≤ o.uses.length ∧ i = .int .i64 (b : Int) ∧ OwnL 69 2 RRef wr W3.heap.size W3.heap.size v (openU ps at_ o.res (o.uses.take b)) ∧ KeepsAll W3 wr) (fun _ i _ => o.uses.length - (intOf i).toNat)
      case atStart => exact ⟨0, Nat.zero_le _, rfl, OwnL.nil, Keeps.refl _ _⟩
      case round =>
        obtain ⟨b, hb, rfl, ho, hkr⟩ := hrel
        obtain ⟨Ab, cb, rfl, hcb, hcb2⟩ := ho.form
        have HO4 := Lib.hid ho; clear ho
        have KB := Lib.hid hkr; clear hkr
        have hszb := KB.out.size
        have hEl : (openU ps at_ o.res (o.uses.take b)).length ≤ 640 := by
          have h1 := openU_len ps at_ o.res (o.uses.take b)
          have h2 : (o.uses.take b).length ≤ o.uses.length := by simp; omega
          omega
        have hbo := BO.out.kept KB.out (by simp)
        have f0 := hbo.cell 0
        have f1 := hbo.cell 1
        simp at f0 f1
        have hzo := hbo.lt
        have HBO := Lib.hid hbo
        clear hbo
        by_cases hltb : b < o.uses.length
        · obtain ⟨bx, ox, v, hbo, hbxl, hv, m0, m1⟩ := RRefs.atK (KW3.out.tr KB.out) HUS.out hltb
          subst hbo
          obtain ⟨tw, kw, pw, sw, hpw, hsw, _, hwe⟩ := mem_allU.1 (HIN.out v (List.mem_of_getElem? hv))
          subst hwe
          simp only [] at m0 m1
          have HQ2 : Hid (openU ps at_ o.res (o.uses.take (b + 1)) = openU ps at_ o.res (o.uses.take b) ++ (if overB ps at_ ⟨(tw : Int), (kw : Int)⟩ o.res = true then [] else [⟨(tw : Int), (kw : Int)⟩])) := by
            show _ = _
            rw [List.take_add_one, hv, Option.toList_some, openU_snoc]
          have htw := getElem?_lt hpw
          have hkw : kw ≤ 1000000 := by
            have h1 := getElem?_lt hsw
            have h2 := ((valid_lens HV.out).2 pw (List.mem_of_getElem? hpw)).2
            omega
          have HPW := Lib.hid hpw
          have HSW := Lib.hid hsw
          clear hv hpw hsw
          generalize openU ps at_ o.res (o.uses.take b) = E at HO4 HQ2 hEl hcb ⊢
          have hdb : decide ((b : Int) < (o.uses.length : Int)) = true := by simp; omega
          obtain ⟨b3, o3, xw, hbo, hb3, hxw, q0⟩ := RInts.atK (KW3.out.tr KB.out) H3.out (k := tw) (by omega)
          subst hbo
          have HOB : Hid (overB ps at_ ⟨(tw : Int), (kw : Int)⟩ o.res = decide ((relOf ps o.res ⟨(tw : Int), (kw : Int)⟩).st ≤ xw)) := by
            show overB _ _ _ _ = _
            unfold overB
            rw [Int.toNat_natCast, nowAt_of hxw]
          have HCL : Hid (∀ W, KeepsAll w W → Calls Tryz.prog 54 #[.slice A ps.length c, .int .i64 o.res, .agg #[.int .i64 (tw : Int), .int .i64 (kw : Int)]] W fun e w' => e = .returned (.agg #[.int .i64 (tw : Int), .int .i64 (relOf ps o.res ⟨(tw : Int), (kw : Int)⟩).st]) ∧ KeepsAll W w') := fun W hW => release_any ps o.res A c W (hW.rdo' RPaths.ok H.out) tw kw pw sw HPW.out HSW.out hkw
          generalize (relOf ps o.res ⟨(tw : Int), (kw : Int)⟩).st = ks at HOB HCL
          clear hxw
          go_wp2
          generalize hW4 : World.alloc wr _ = W4
          have KW4 : KeepsAll wr W4 := by subst hW4; exact (Keeps.refl _ _).alloc _
          have BV : Hid (Blk W4 wr.heap.size 69 #[.int .i64 (tw : Int), .int .i64 (kw : Int)]) := by subst hW4; exact Blk.new _ _ _
          have KB4 := Lib.hid (KB.out.tr KW4)
          have HO5 := Lib.hid (HO4.out.keeps RRef.ok KW4 (fun _ _ h => h.elim))
          replace q0 := KW4.cellK (p := ⟨b3, o3 + tw, none⟩) hb3 q0
          replace f0 := KW4.cellK (p := ⟨zo, 0, none⟩) hzo f0
          have e0 := BV.out.cell 0
          have e1 := BV.out.cell 1
          simp at e0 e1
          have HCX : Hid (∀ xx : Ext W4, Calls Tryz.prog 54 #[.slice A ps.length c, .int .i64 o.res, .agg #[.int .i64 (tw : Int), .int .i64 (kw : Int)]] xx.val fun e w'' => e = .returned (.agg #[.int .i64 (tw : Int), .int .i64 ks]) ∧ ∃ y : Ext W4, w'' = y.val) := fun xx => ext_call xx (HCL.out xx.val ((KW3.out.tr KB4.out).tr xx.keeps))
          clear hW4 KW4 m0 m1 f1 hbxl HO4 hb3 HCL
          generalize wr.heap.size = zv at *
          refine wp_region_ext (by kernel_rfl) (by kernel_rfl) ?_
          have y0 := Ext.cell q0
          have y1 := Ext.cell f0
          have y2 := Ext.cell e0
          have y3 := Ext.cell e1
          have hfld := field1 (tw : Int) ks
          repeat (go_big_quiet_step ((go_at_call 54; exact HCX.out _)))
          refine wpQuiet_nil ?_
          rintro _ ⟨X, rfl⟩
          have K6 := Lib.hid (KB4.out.tr X.keeps)
          have HO6 := Lib.hid (HO5.out.keeps RRef.ok X.keeps (fun _ _ h => h.elim))
          have bv := BV.out.kept X.keeps (by simp)
          clear y0 y1 y2 y3 e0 e1 q0 f0 hzo
          have e0 := bv.cell 0
          have e1 := bv.cell 1
          simp at e0 e1
          have hzv := bv.lt
          have hz6 := K6.out.size
          clear bv BV HO5 KB4 HCX
          generalize X.val = w6 at *
          by_cases gov : ks ≤ xw
          · have gov' : ¬ xw < ks := by omega
            have Q2 : Hid (openU ps at_ o.res (o.uses.take (b + 1)) = E) := by show _ = _; rw [HQ2.out, HOB.out, decide_eq_true gov, if_pos rfl, List.append_nil]
            clear gov HQ2 HOB
            go_wp2
            go_roundw
            case rel => exact ⟨b + 1, by omega, by go_num, by rw [Q2.out]; exact HO6.out, K6.out⟩
            case measure => simp [intOf]; omega
          · have gov' : xw < ks := by omega
            have Q2 : Hid (openU ps at_ o.res (o.uses.take (b + 1)) = E ++ [⟨(tw : Int), (kw : Int)⟩]) := by show _ = _; rw [HQ2.out, HOB.out, decide_eq_false gov, if_neg (by simp)]
            clear gov HQ2 HOB
            go_wp2_with (at_builtin; refine wpList_append_L tyRef RRef.ok rfl (.tmp 48) (.tmp 50) rfl (HO6.out.alloc RRef.ok _) rfl _ [.int .i64 (tw : Int), .int .i64 (kw : Int)] rfl (Blk.new' _ _ _ (by simp)) rfl ⟨(tw : Int), (kw : Int)⟩ (S := fun _ => False) rfl (fun _ h => h.elim) (by simp [Value.oneCell']) (by omega) (by omega) (by simp; omega) ?_; intro v9 w9 HO9 HK9 HA9; obtain ⟨A9, c9, hv9, _, _⟩ := HO9.form; rw [List.length_append, List.length_singleton] at hv9; subst hv9)
            go_roundw
            case rel => exact ⟨b + 1, by omega, by go_num, by rw [Q2.out]; exact HO9, ((K6.out.alloc _).trans HK9 (fun x hx e => (by have := HO6.out.lt e; omega)))⟩
            case measure => simp [intOf]; omega
        · obtain rfl : b = o.uses.length := by omega
          rw [List.take_length] at HO4 hEl hcb ⊢
          have HRO : Hid (restO ps at_ o = if (openU ps at_ o.res o.uses).length = 0 then [] else [⟨o.res, openU ps at_ o.res o.uses⟩]) := rfl
          generalize openU ps at_ o.res o.uses = E at HO4 HRO hEl hcb ⊢
          have hdb : decide ((o.uses.length : Int) < (o.uses.length : Int)) = false := by simp
          have HO5 := Lib.hid (HO3.out.keep KB.out)
          have KF := Lib.hid (KW3.out.tr KB.out)
          have hszf := KF.out.size
          have hsz3 := KW3.out.size
          by_cases hE0 : E.length = 0
          · have Q2 : Hid ((os.take (a + 1)).flatMap (restO ps at_) = I.map (·.1)) := by show _ = _; rw [HQ.out, HRO.out, if_pos hE0, List.append_nil]
            have hE0' : decide (0 < E.length) = false := decide_eq_false (by omega)
            clear hE0 HRO HQ
            go_wp2
            go_roundw
            case rel => exact ⟨a + 1, I, by omega, by go_num, HO5.out, Q2.out.symm⟩
            case measure => simp [intOf]; omega
          · have hE0' : 0 < E.length := by omega
            obtain ⟨gE, rfl, hgE⟩ := HO4.out.some_ hE0'
            have Q2 : Hid ((os.take (a + 1)).flatMap (restO ps at_) = (I ++ [((⟨o.res, E⟩ : Order), gE, cb)]).map (·.1)) := by show _ = _; rw [HQ.out, HRO.out, if_neg hE0]; simp
            have hgl := HO4.out.lt (b := gE) rfl
            have HPU : Hid (∀ (ob : Obj) (v9 : Value) (w9 : World), OwnL 66 2 RPO w9 w.heap.size w.heap.size v9 (I ++ [((⟨o.res, E⟩ : Order), gE, cb)]) → Keeps (fun b => (Value.slice Aa I.length ca).ownBlock = some b) (wr.alloc ob) w9 → (v9.ownBlock = (Value.slice Aa I.length ca).ownBlock ∨ v9.ownBlock = some (wr.alloc ob).heap.size) → ROw w w9 v9 (I ++ [((⟨o.res, E⟩ : Order), gE, cb)])) := fun ob v9 w9 ho hk ha => by
              have kk : KeepsAll wr (wr.alloc ob) := (Keeps.refl _ _).alloc _
              have ho4 := HO4.out.keeps RRef.ok kk (fun _ _ h => h.elim)
              have hrd : RRefs (wr.alloc ob) (Old (wr.alloc ob)) [.slice (some ⟨gE, 0, none⟩) E.length cb] E := ho4.read RRef.ok (by omega) (S := Old (wr.alloc ob)) (fun _ _ h => h) (fun _ _ h => h)
              have hgl4 := ho4.lt (b := gE) rfl
              refine (HO5.out.keep kk).push ho hk ha ⟨(show w.heap.size ≤ gE by omega), hgl4.2, fun e => by have := (HO3.out.own.lt (b := gE) e).2; omega, hcb, hcb2, hrd.rfAt, fun i => ho4.frz i, fun e => by have e' : E = [] := e; rw [e'] at hE0'; simp at hE0'⟩ (fun y hy => ?_)
              have := (HO3.out.rows y hy).2.1
              show y.2.1 ≠ gE
              omega
            clear hE0 HRO HQ
            go_wp2_with (at_builtin; refine wpList_append_L tyOrder RPO.ok rfl (.tmp 56) (.tmp 61) rfl ((HO5.out.own).alloc RPO.ok _) rfl _ [.int .i64 o.res, .slice (some ⟨gE, 0, none⟩) E.length cb] rfl (Blk.new' _ _ _ (by simp)) rfl (⟨o.res, E⟩, gE, cb) (S := fun _ => False) rfl (fun _ h => h.elim) (by simp [Value.oneCell']) (by omega) (by omega) (by simp; omega) ?_; intro v9 w9 HO9 HK9 HA9; obtain ⟨A9, c9, hv9, _, _⟩ := HO9.form; rw [List.length_append, List.length_singleton] at hv9; subst hv9; have HR9 := Lib.hid (HPU.out _ _ w9 HO9 HK9 HA9); clear HO9 HK9 HA9)
            go_roundw
            case rel => exact ⟨a + 1, _, by omega, by go_num, HR9.out, Q2.out.symm⟩
            case measure => simp [intOf]; omega
    · obtain rfl : a = os.length := by omega
      have hda : decide ((os.length : Int) < (os.length : Int)) = false := by simp
      have QI : Hid (I.map (·.1) = restP ps os at_) := by show _ = _; rw [HI.out, List.take_length, Q.out]
      go_wp2
      go_ret
      exact ⟨_, I, rfl, HO1.out, QI.out⟩

set_option maxRecDepth 100000 in
set_option maxHeartbeats 2000000 in
theorem Orders1_any (en : List (List Int)) (u v : Ref) (cb : Nat) (A : Option Addr) (c : Nat) (w : World) (hcb : w.cell? ⟨cb, 0, none⟩ = some (.slice A en.length c)) (h : RIntss w (Old w) [.slice A en.length c] en) (hu : HasEn en u) (hv : HasEn en v) :
    Calls Tryz.prog 35 #[.agg #[.int .i64 u.tr, .int .i64 u.st], .agg #[.int .i64 v.tr, .int .i64 v.st], .pointer (some ⟨cb, 0, none⟩)] w fun e w' => e = .returned (.int .i64 (cmpI (enAt en u) (enAt en v))) ∧ KeepsAll w w' := by
  have hc := h.caps
  obtain ⟨tu, ku, lu, xu, rfl, hlu, hxu⟩ := hu
  obtain ⟨tv, kv, lv, xv, rfl, hlv, hxv⟩ := hv
  have HQ : Hid (cmpI (enAt en ⟨(tu : Int), (ku : Int)⟩) (enAt en ⟨(tv : Int), (kv : Int)⟩) = cmpI xu xv) := by
    show cmpI _ _ = _
    unfold enAt
    simp [hlu, hxu, hlv, hxv]
  have htu := getElem?_lt hlu
  have htv := getElem?_lt hlv
  have hku := getElem?_lt hxu
  have hkv := getElem?_lt hxv
  obtain ⟨b, o, lu', Au, cu, hbo, hb, hlu', m0, hru⟩ := RSS.at_ h htu
  subst hbo
  obtain rfl := same_of hlu' hlu
  have hcu := hru.caps
  obtain ⟨b2, o2, xu', hbo, hb2, hxu', m1⟩ := RInts.at_ hru hku
  subst hbo
  obtain rfl := same_of hxu' hxu
  obtain ⟨b3, o3, lv', Av, cv, hbo, hb3, hlv', n0, hrv⟩ := RSS.at_ h htv
  injection hbo with hbo; injection hbo with e1 e2; subst e1 e2
  obtain rfl := same_of hlv' hlv
  have hcv := hrv.caps
  obtain ⟨b4, o4, xv', hbo, hb4, hxv', n1⟩ := RInts.at_ hrv hkv
  subst hbo
  obtain rfl := same_of hxv' hxv
  have hcbz : cb < w.heap.size := World.block_lt_of_cell? w ⟨cb, 0, none⟩ hcb
  clear h hru hrv hlu hlv hxu hxv hlu' hlv' hxu' hxv'
  go_enter Tryz.func35, Tryz.ntmps35
  go_wp2
  generalize hW : World.alloc (World.alloc w _) _ = W
  have KW : KeepsAll w W := by subst hW; exact ((Keeps.refl _ _).alloc _).alloc _
  have B0 : Blk W w.heap.size 69 #[.int .i64 (tu : Int), .int .i64 (ku : Int)] := by subst hW; exact (Blk.new _ _ _).alloc _
  have B1 : Blk W (w.heap.size + 1) 69 #[.int .i64 (tv : Int), .int .i64 (kv : Int)] := by subst hW; exact Blk.new' _ _ _ (by simp)
  have u0 := B0.cell 0
  have u1 := B0.cell 1
  have v0 := B1.cell 0
  have v1 := B1.cell 1
  simp at u0 u1 v0 v1
  replace hcb := KW.cellK (p := ⟨cb, 0, none⟩) hcbz hcb
  replace m0 := KW.cellK (p := ⟨b, o + tu, none⟩) hb m0
  replace m1 := KW.cellK (p := ⟨b2, o2 + ku, none⟩) hb2 m1
  replace n0 := KW.cellK (p := ⟨b, o + tv, none⟩) hb3 n0
  replace n1 := KW.cellK (p := ⟨b4, o4 + kv, none⟩) hb4 n1
  have hz0 := B0.lt
  have hz1 := B1.lt
  have HKW := Lib.hid KW
  clear hW KW B0 B1 hb hb2 hb3 hb4 hcbz
  refine wp_region_lex (fun w' => ∃ x : Ext W, w' = x.val) [0, 1, 2, 3, 4, 5, 6, 7, 8, 9, 10, 11, 12, 13, 14, 15, 16, 17, 18, 19] (by kernel_rfl) (by kernel_rfl) ⟨⟨_, (Keeps.refl _ _).drew⟩, rfl⟩ ?_
  have x0 := Ext.cell hcb
  have x1 := Ext.cell m0
  have x2 := Ext.cell m1
  have x3 := Ext.cell n0
  have x4 := Ext.cell n1
  have x5 := Ext.cell u0
  have x6 := Ext.cell u1
  have x7 := Ext.cell v0
  have x8 := Ext.cell v1
  iterate 18 (refine lex_q _ rfl rfl rfl ?_; go_big_quiet_step (fail); refine wpQuiet_nil ?_)
  clear x0 x1 x2 x3 x4 x5 x6 x7 x8
  refine lex_a _ rfl rfl true (by kernel_rfl) ?_
  go_wp2_with (go_at_call 36; refine (Compare_any _ _ _).mono ?_; rintro e w' ⟨rfl, rfl⟩)
  refine ⟨fun _ => ⟨⟨_, (Keeps.refl _ _).drew⟩, rfl⟩, ?_⟩
  refine lex_q _ rfl rfl rfl ?_; go_big_quiet_step (fail); refine wpQuiet_nil ?_
  simp only [wpLex]
  refine NoPanic.normal ?_
  go_wp2
  go_ret
  exact ⟨by rw [HQ.out]; rfl, HKW.out.drew⟩

end Go.Proofs.YtbfgmbakeofcbaaGreat
