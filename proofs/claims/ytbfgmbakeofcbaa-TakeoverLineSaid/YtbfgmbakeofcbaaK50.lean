/- Contract of whole of the law's file: it returns wholeTo. Conditions: as each theorem says. -/
import Derived.Test.YtbfgmbakeofcbaaK45
import Derived.Test.YtbfgmbakeofcbaaK41
import Derived.Test.YtbfgmbakeofcbaaK18
namespace Go.Proofs.Ytbfgmbakeofcbaa
open Go.RowKit

theorem ROw.orders {w0 w1 : World} {v : Value} {I : List (Order × Nat × Nat)} (h0 : ROw w0 w1 v I) : ROrders w1 (Old w1) [v] (I.map (·.1)) := by
  have ho := h0.own
  obtain ⟨A, c, he, h1, h2, h3⟩ := ho.readF RPO.ok RPO.flat (S := Old w1) (fun b hb => (ho.lt hb).2)
  refine ⟨A, c, by rw [List.length_map]; exact he, by rw [List.length_map]; exact h1, h2, fun hp => ?_⟩
  obtain ⟨b, o, hA, hb, hx⟩ := h3 (by intro e; exact hp (by rw [e]; rfl))
  refine ⟨b, o, hA, hb, fun j y hj => ?_⟩
  rw [List.getElem?_map] at hj
  obtain ⟨x, hxj, rfl⟩ := Option.map_eq_some_iff.1 hj
  obtain ⟨es, e1, e2, e3⟩ := hx j x hxj
  obtain ⟨r1, r2, r3, r4, r5, r6, _⟩ := h0.rows x (List.mem_of_getElem? hxj)
  refine ⟨es, e1, ?_, e3⟩
  cases e2
  exact ⟨_, rfl, r6.read (S := Old w1) (c := x.2.2) r4 r5 r2⟩
/-- an order under construction, in block zo; W2: the world in which it was made -/
structure WSt (W2 wr : World) (zo : Nat) (r : Int) (vu : Value) (U : List Ref) : Prop where
  b : Blk wr zo 59 #[.int .i64 r, vu]
  o : OwnL 46 2 RRef wr W2.heap.size W2.heap.size vu U
  k : Keeps (fun b => b = zo) W2 wr
  z : zo < W2.heap.size
section
variable {W2 wr w' : World} {zo : Nat} {r : Int} {vu v' : Value} {U X : List Ref}
theorem WSt.keep (h : WSt W2 wr zo r vu U) (k : KeepsAll wr w') : WSt W2 w' zo r vu U :=
  ⟨h.b.kept k (by simp), h.o.keeps RRef.ok k (fun _ _ h => h.elim), h.k.trans k (fun _ _ h => h.elim), h.z⟩
theorem WSt.own (h : WSt W2 wr zo r vu U) : ¬ vu.ownBlock = some zo := fun e => by have := h.o.lt e; have := h.z; omega
theorem WSt.cell (h : WSt W2 wr zo r vu U) (hk : Keeps (fun b => vu.ownBlock = some b) wr w') : w'.cell? ⟨zo, 1, none⟩ = some vu ∧ w'.frozen? ⟨zo, 1, none⟩ = false ∧ zo < w'.heap.size := by
  have hb := h.b.kept hk h.own
  refine ⟨?_, hb.frozen 1, hb.lt⟩
  have := hb.cell 1
  simpa using this
theorem WSt.push (h : WSt W2 wr zo r vu U) (ho : OwnL 46 2 RRef w' W2.heap.size W2.heap.size v' X) (hk : Keeps (fun b => vu.ownBlock = some b) wr w') : WSt W2 (w'.setCell ⟨zo, 1, none⟩ v') zo r v' X := by
  have hz := h.z
  have ks : Keeps (fun b => b = zo) w' (w'.setCell ⟨zo, 1, none⟩ v') := (Keeps.refl (fun b => b = zo) w').setCell (p := ⟨zo, 1, none⟩) (fun _ => rfl) v'
  refine ⟨(h.b.kept hk h.own).set_ 1 v', ho.keeps RRef.ok ks (fun b _ e => by have e' : b = zo := e; omega), ?_, hz⟩
  exact (h.k.trans hk (fun x hx e => by have := h.o.lt e; omega)).trans ks (fun _ _ e => e)
end
theorem wholeU_succ (ps : List (List Stage)) (at_ : List Int) (r : Int) (n : Nat) : wholeU ps at_ r (n + 1) = wholeU ps at_ r n ++ (allU ps r).filter fun u => decide (u.st = (n : Int)) && overB ps at_ u r := by
  unfold wholeU; rw [List.range_succ, List.flatMap_append]; simp
theorem wholeU_len (ps : List (List Stage)) (at_ : List Int) (r : Int) : ∀ n : Nat, (wholeU ps at_ r n).length ≤ n * (allU ps r).length
  | 0 => by simp [wholeU]
  | n + 1 => by
    rw [wholeU_succ, List.length_append, Nat.succ_mul]
    have h1 := wholeU_len ps at_ r n
    have h2 := List.length_filter_le (fun u => decide (u.st = (n : Int)) && overB ps at_ u r) (allU ps r)
    omega
theorem restOf_len {l : List Order} (h : ∀ o ∈ l, o.uses.length ≤ 640) (r : Int) : ∀ n : Nat, n ≤ l.length → (restOf (l.take n) r).length ≤ n * 640
  | 0, _ => by simp [restOf]
  | n + 1, hn => by
    have hx : l[n]? = some l[n] := List.getElem?_eq_getElem (by omega)
    have h1 := restOf_len h r n (by omega)
    have h2 := h l[n] (List.getElem_mem _)
    have e : restOf (l.take (n + 1)) r = restOf (l.take n) r ++ (if l[n].res = r then l[n].uses else []) := by
      unfold restOf; rw [List.take_add_one, hx, Option.toList_some, List.flatMap_append]; simp
    have h3 : (if l[n].res = r then l[n].uses else []).length ≤ 640 := by
      split
      · exact h2
      · exact Nat.zero_le _
    rw [e, List.length_append, Nat.succ_mul]
    exact Nat.add_le_add h1 h3
theorem restOf_succ {l : List Order} {n : Nat} {o : Order} (h : l[n]? = some o) (r : Int) : restOf (l.take (n + 1)) r = restOf (l.take n) r ++ (if o.res = r then o.uses else []) := by
  unfold restOf; rw [List.take_add_one, h, Option.toList_some, List.flatMap_append]; simp
theorem wholeTo_len (ps : List (List Stage)) (at_ : List Int) (l : List Order) : ∀ n, (wholeTo ps at_ l n).length ≤ n
  | 0 => by simp [wholeTo]
  | n + 1 => by
    have := wholeTo_len ps at_ l n
    simp only [wholeTo, List.length_append]
    split <;> simp <;> omega

set_option maxRecDepth 100000 in
set_option maxHeartbeats 4000000 in
theorem Whole_any (ps : List (List Stage)) (at_ : List Int) (l : List Order) (A A2 A3 : Option Addr) (c c2 c3 : Nat) (w : World) (h : RPaths w (Old w) [.slice A ps.length c] ps) (h2 : RInts w (Old w) [.slice A2 at_.length c2] at_) (h3 : ROrders w (Old w) [.slice A3 l.length c3] l)
    (hv : valid ps = true) (hg : Gd ps at_) (hll : l.length ≤ 144) (hlu : ∀ o ∈ l, o.uses.length ≤ 640) :
    Calls Try.prog 13 #[.slice A ps.length c, .slice A2 at_.length c2, .slice A3 l.length c3] w fun e w' => ∃ v, e = .returned v ∧ ROrders w' (Old w') [v] (wholeTo ps at_ l 144) ∧ KeepsAll w w' := by
  have hc3 := h3.caps
  have HAU : Hid (∀ r, (allU ps r).length ≤ 640) := fun r => by
    have h1 := allU_le (fun p hp => ((valid_lens hv).2 p hp).2) r ps.length (Nat.le_refl _)
    rw [List.take_length] at h1
    have := (valid_lens hv).1
    omega
  have HRL : Hid (∀ (r : Int) (n : Nat), n ≤ l.length → (restOf (l.take n) r).length ≤ n * 640) := fun r n hn => restOf_len hlu r n hn
  have HLU := Lib.hid hlu
  have H := Lib.hid h; have H2 := Lib.hid h2; have H3 := Lib.hid h3
  have HV := Lib.hid hv
  have HG := Lib.hid hg
  clear h h2 h3 hlu hv hg
  go_enter Try.func13, Try.ntmps13
  go_wp2
  go_loopw [7, 8] (fun v i wr => ∃ (r : Nat) (I : List (Order × Nat × Nat)), r ≤ 144 ∧ i = .int .i64 (r : Int) ∧ ROw w wr v I ∧ I.map (·.1) = wholeTo ps at_ l r) (fun _ i _ => 144 - (intOf i).toNat)
  case atStart => exact ⟨0, [], by omega, rfl, ROw.nil (Keeps.refl _ _), rfl⟩
  case round =>
    obtain ⟨r, I, hr, rfl, ho, hI⟩ := hrel
    obtain ⟨Aa, ca, rfl, hca, hca2⟩ := ho.own.form
    have HO := Lib.hid ho
    have KR := Lib.hid ho.k
    have hIl : I.length ≤ 144 := by
      have h1 := wholeTo_len ps at_ l r
      rw [← hI] at h1
      simp at h1; omega
    have HI := Lib.hid hI
    clear ho hI
    by_cases hlt : r < 144
    · have hdr : decide ((r : Int) < 144) = true := by simp; omega
      go_wp2_with fail
      refine (All_any ps (r : Int) A c wr HV.out (KR.out.rdo' RPaths.ok H.out)).mono ?_
      rintro e w1 ⟨v1, rfl, ho1, k1⟩
      obtain ⟨A1, c1, rfl, hc11, hc12⟩ := ho1.form
      have HRA : Hid (RRefs w1 (Old w1) [.slice A1 (allU ps (r : Int)).length c1] (allU ps (r : Int))) := ho1.read RRef.ok (by omega) (S := Old w1) (fun _ _ h => h) (fun _ _ h => h)
      have K1 := Lib.hid (KR.out.tr k1)
      have HO1 := Lib.hid (HO.out.keep k1)
      have hal := HAU.out (r : Int)
      clear ho1 k1 KR HO
      go_wp2
      generalize hW2 : World.alloc w1 _ = W2
      have HW0 : Hid (WSt W2 W2 w1.heap.size (r : Int) (.slice none 0 0) (wholeU ps at_ (r : Int) 0)) := by
        subst hW2
        exact ⟨Blk.new _ _ _, OwnL.nil, Keeps.refl _ _, (Blk.new w1 59 _).lt⟩
      have KW2 : KeepsAll w1 W2 := by subst hW2; exact (Keeps.refl _ _).alloc _
      have HK2 : Hid (∀ wr vu U, WSt W2 wr w1.heap.size (r : Int) vu U → KeepsAll w wr) := fun wr vu U hs => (K1.out.tr KW2).trans hs.k (fun b hb e => by have := K1.out.size; omega)
      have HOF : Hid (∀ wr vu U, WSt W2 wr w1.heap.size (r : Int) vu U → ROw w wr (.slice Aa I.length ca) I) := fun wr vu U hs => by
        have hO := HO1.out.keep KW2
        refine ⟨hO.own.keepsF RPO.flat hs.k (fun b hb e => by have := HO1.out.own.lt hb; omega), fun x hx => ?_, hO.nd, HK2.out wr vu U hs⟩
        have h1 := HO1.out.rows x hx
        have h2 := hO.rows x hx
        exact h2.kept hs.k (fun e => by have := h1.2.1; omega) h2.2.2.1
      have HRF : Hid (∀ wr vu U, WSt W2 wr w1.heap.size (r : Int) vu U → RRefs wr (Old w1) [.slice A1 (allU ps (r : Int)).length c1] (allU ps (r : Int))) := fun wr vu U hs =>
        ((KW2.mono (fun _ _ h => h.elim)).trans hs.k (fun _ _ e => e) : Keeps (fun b => b = w1.heap.size) w1 wr).rd RRefs.ok HRA.out (fun b hb => ⟨hb, fun e => by have : b < w1.heap.size := hb; omega⟩) (fun _ h => h)
      have HSZ : Hid (∀ wr vu U, WSt W2 wr w1.heap.size (r : Int) vu U → w1.heap.size < wr.heap.size) := fun wr vu U hs => hs.b.lt
      have HIB : Hid (∀ b, (Value.slice Aa I.length ca).ownBlock = some b ∨ (∃ y ∈ I, y.2.1 = b) → b < W2.heap.size) := fun b hb => by
        have h1 := KW2.size
        rcases hb with hb | ⟨y, hy, rfl⟩
        · have := (HO1.out.own.lt hb).2; omega
        · have := (HO1.out.rows y hy).2.1; omega
      have HWW : Hid (w.heap.size ≤ W2.heap.size) := Nat.le_trans K1.out.size KW2.size
      clear hW2 KW2 HRA HO1 K1
      generalize hzo : w1.heap.size = zo at *
      have HZO := Lib.hid hzo; clear hzo
      generalize hAL : allU ps (r : Int) = AL at *
      have HAL := Lib.hid hAL; clear hAL
      go_loopw [11] (fun i wr => ∃ (k : Nat) (vu : Value), k ≤ 8 ∧ i = .int .i64 (k : Int) ∧ WSt W2 wr zo (r : Int) vu (wholeU ps at_ (r : Int) k)) (fun i _ => 8 - (intOf i).toNat)
      case atStart => exact ⟨0, _, by omega, rfl, HW0.out⟩
      case round =>
        clear HW0
        obtain ⟨k, vu, hk, rfl, hs⟩ := hrel
        have HS := Lib.hid hs; clear hs
        by_cases hltk : k < 8
        · have hdk : decide ((k : Int) < 8) = true := by simp; omega
          have HUN : Hid (wholeU ps at_ (r : Int) (k + 1) = wholeU ps at_ (r : Int) k ++ AL.filter fun u => decide (u.st = (k : Int)) && overB ps at_ u (r : Int)) := by show _ = _; rw [wholeU_succ, HAL.out]
          have hul : (wholeU ps at_ (r : Int) k).length ≤ 8 * 640 := by
            have h1 := wholeU_len ps at_ (r : Int) k
            rw [HAL.out] at h1
            have h2 : k * AL.length ≤ 8 * 640 := Nat.mul_le_mul (by omega) hal
            omega
          generalize wholeU ps at_ (r : Int) k = U0 at *
          go_wp2
          go_loopw [31] (fun i wr => ∃ (j : Nat) (vu : Value), j ≤ AL.length ∧ i = .int .i64 (j : Int) ∧ WSt W2 wr zo (r : Int) vu (U0 ++ (AL.take j).filter fun u => decide (u.st = (k : Int)) && overB ps at_ u (r : Int))) (fun i _ => AL.length - (intOf i).toNat)
          case atStart => exact ⟨0, vu, Nat.zero_le _, rfl, by simpa using HS.out⟩
          case round =>
            clear HS
            obtain ⟨j, vu, hj, rfl, hs⟩ := hrel
            obtain ⟨Au, cu, rfl, hcu, hcu2⟩ := hs.o.form
            have HS := Lib.hid hs
            have KJ := Lib.hid (HK2.out _ _ _ hs)
            have hzw := HSZ.out _ _ _ hs
            have hRj := HRF.out _ _ _ hs
            clear hs
            by_cases hltj : j < AL.length
            · obtain ⟨b3, o3, u, hbo, hb3, hu, n0, n1⟩ := RRefs.at_ hRj hltj
              subst hbo
              have hb3' : b3 < wr.heap.size := by have : b3 < w1.heap.size := hb3; have := HZO.out; omega
              obtain ⟨tw, kw, pw, sw, hpw, hsw, _, hwe⟩ := mem_allU.1 (by rw [HAL.out]; exact List.mem_of_getElem? hu : u ∈ allU ps (r : Int))
              subst hwe
              simp only [] at n0 n1
              have hxw : at_[tw]? = some (nowAt at_ tw) := by
                have h1 : tw < at_.length := by rw [HG.out.1]; exact getElem?_lt hpw
                rw [List.getElem?_eq_getElem h1]
                unfold nowAt
                rw [List.getElem?_eq_getElem h1]; rfl
              have HOV : Hid (∀ W, KeepsAll w W → Calls Try.prog 38 #[.slice A ps.length c, .slice A2 at_.length c2, .agg #[.int .i64 (tw : Int), .int .i64 (kw : Int)], .int .i64 (r : Int)] W fun e w' => e = .returned (.bool (overB ps at_ ⟨(tw : Int), (kw : Int)⟩ (r : Int))) ∧ KeepsAll W w') := fun W hW => Over_any ps at_ (r : Int) A A2 c c2 W (hW.rdo' RPaths.ok H.out) (hW.rdo' RInts.ok H2.out) tw kw pw sw _ hpw hsw hxw
              have HFL : Hid ((AL.take (j + 1)).filter (fun u => decide (u.st = (k : Int)) && overB ps at_ u (r : Int)) = (AL.take j).filter (fun u => decide (u.st = (k : Int)) && overB ps at_ u (r : Int)) ++ (if (decide ((kw : Int) = (k : Int)) && overB ps at_ ⟨(tw : Int), (kw : Int)⟩ (r : Int)) = true then [(⟨(tw : Int), (kw : Int)⟩ : Ref)] else [])) := by
                show _ = _
                rw [List.take_add_one, hu, Option.toList_some, List.filter_append]
                congr 1
                simp only [List.filter_cons, List.filter_nil]
              have hfl : ((AL.take j).filter (fun u => decide (u.st = (k : Int)) && overB ps at_ u (r : Int))).length ≤ 640 := by
                have h1 := List.length_filter_le (fun u : Ref => decide (u.st = (k : Int)) && overB ps at_ u (r : Int)) (AL.take j)
                have h2 : (AL.take j).length ≤ AL.length := by simp; omega
                omega
              generalize (AL.take j).filter (fun u => decide (u.st = (k : Int)) && overB ps at_ u (r : Int)) = F0 at *
              have hUF : (U0 ++ F0).length ≤ 9 * 640 := by rw [List.length_append]; omega
              have HUF := Lib.hid (List.append_assoc U0 F0)
              generalize hUU : U0 ++ F0 = UU at *
              have hdj : decide ((j : Int) < (AL.length : Int)) = true := by simp; omega
              clear hpw hsw hxw hu hRj
              by_cases gk : kw = k
              · subst gk
                generalize overB ps at_ ⟨(tw : Int), (kw : Int)⟩ (r : Int) = ov at HOV HFL
                cases ov with
                | true =>
                  have HN : Hid (U0 ++ (AL.take (j + 1)).filter (fun u => decide (u.st = (kw : Int)) && overB ps at_ u (r : Int)) = UU ++ [⟨(tw : Int), (kw : Int)⟩]) := by
                    show _ = _
                    rw [HFL.out]; simp; rw [← hUU, List.append_assoc]
                  clear HFL HUF hUU
                  go_wp2_with fail
                  generalize hW4 : World.alloc wr _ = W4
                  have KW4 : KeepsAll wr W4 := by subst hW4; exact (Keeps.refl _ _).alloc _
                  have BV : Hid (Blk W4 wr.heap.size 46 #[.int .i64 (tw : Int), .int .i64 (kw : Int)]) := by subst hW4; exact Blk.new _ _ _
                  have HS4 := Lib.hid (HS.out.keep KW4)
                  clear hW4 n0 n1 hb3'
                  generalize wr.heap.size = zv at *
                  refine (HOV.out W4 (KJ.out.tr KW4)).mono ?_
                  rintro e w5 ⟨rfl, k5⟩
                  have HS5 := Lib.hid (HS4.out.keep k5)
                  have bv := BV.out.kept k5 (by simp)
                  have e0 := bv.cell 0
                  have e1 := bv.cell 1
                  simp at e0 e1
                  have hzv := bv.lt
                  obtain ⟨y1, y2, y3⟩ := HS5.out.cell (Keeps.refl _ _)
                  have hz5 := HS5.out.k.size
                  clear bv BV k5 KW4 HS HS4 KJ
                  go_wp2_with (at_builtin; refine wpList_append_L tyRef RRef.ok rfl (.tmp 47) (.tmp 49) rfl (HS5.out.o.alloc RRef.ok _) rfl _ [.int .i64 (tw : Int), .int .i64 (kw : Int)] rfl (Blk.new' _ _ _ (by simp)) rfl ⟨(tw : Int), (kw : Int)⟩ (S := fun _ => False) rfl (fun _ h => h.elim) (by simp [Value.oneCell']) (by omega) (by omega) (by simp; omega) ?_; intro v9 w9 HO9 HK9 HA9; obtain ⟨A9, c9, hv9, _, _⟩ := HO9.form; rw [List.length_append, List.length_singleton] at hv9; subst hv9; have HP9 := Lib.hid ((HS5.out.keep ((Keeps.refl _ _).alloc _)).push HO9 HK9); obtain ⟨x1, x2, x3⟩ := (HS5.out.keep ((Keeps.refl _ _).alloc _)).cell HK9; clear HO9 HK9 HA9)
                  go_roundw
                  case rel => exact ⟨j + 1, _, by omega, by go_num, by rw [HN.out]; exact HP9.out⟩
                  case measure => simp [intOf]; omega
                | false =>
                  have HN : Hid (U0 ++ (AL.take (j + 1)).filter (fun u => decide (u.st = (kw : Int)) && overB ps at_ u (r : Int)) = UU) := by
                    show _ = _
                    rw [HFL.out]; simp; exact hUU
                  clear HFL HUF hUU
                  go_wp2_with fail
                  generalize hW4 : World.alloc wr _ = W4
                  have KW4 : KeepsAll wr W4 := by subst hW4; exact (Keeps.refl _ _).alloc _
                  have HS4 := Lib.hid (HS.out.keep KW4)
                  clear hW4 n0 n1 hb3'
                  refine (HOV.out W4 (KJ.out.tr KW4)).mono ?_
                  rintro e w5 ⟨rfl, k5⟩
                  have HS5 := Lib.hid (HS4.out.keep k5)
                  go_wp2
                  go_roundw
                  case rel => exact ⟨j + 1, _, by omega, by go_num, by rw [HN.out]; exact HS5.out⟩
                  case measure => simp [intOf]; omega
              · have HN : Hid (U0 ++ (AL.take (j + 1)).filter (fun u => decide (u.st = (k : Int)) && overB ps at_ u (r : Int)) = UU) := by
                  show _ = _
                  rw [HFL.out, decide_eq_false (by omega : ¬ ((kw : Int) = (k : Int)))]; simp; exact hUU
                have gk' : ((kw : Int) == (k : Int)) = false := by simp; omega
                have HS4 := Lib.hid (HS.out.keep ((Keeps.refl _ _).alloc (.cells #[.int .i64 (tw : Int), .int .i64 (kw : Int)] 46)))
                clear HFL HUF hUU
                go_wp2
                go_roundw
                case rel => exact ⟨j + 1, _, by omega, by go_num, by rw [HN.out]; exact HS4.out⟩
                case measure => simp [intOf]; omega
            · obtain rfl : j = AL.length := by omega
              have HS9 : Hid (WSt W2 wr zo (r : Int) (.slice Au (U0 ++ (AL.take AL.length).filter fun u => decide (u.st = (k : Int)) && overB ps at_ u (r : Int)).length cu) (wholeU ps at_ (r : Int) (k + 1))) := by
                show WSt _ _ _ _ _ _
                rw [HUN.out]
                have := HS.out
                rw [List.take_length] at this ⊢
                exact this
              go_wp2
              go_roundw
              case rel => exact ⟨k + 1, _, by omega, by go_num, HS9.out⟩
              case measure => simp [intOf]; omega
        · obtain rfl : k = 8 := by omega
          rw [show ((8 : Nat) : Int) = 8 from rfl]
          have hul : (wholeU ps at_ (r : Int) 8).length ≤ 8 * 640 := by
            have h1 := wholeU_len ps at_ (r : Int) 8
            rw [HAL.out] at h1
            omega
          have HWO : Hid (wholeO ps at_ l (r : Int) = ⟨(r : Int), wholeU ps at_ (r : Int) 8 ++ restOf l (r : Int)⟩) := rfl
          generalize wholeU ps at_ (r : Int) 8 = U0 at *
          go_wp2
          go_loopw [55] (fun i wr => ∃ (j : Nat) (vu : Value), j ≤ l.length ∧ i = .int .i64 (j : Int) ∧ WSt W2 wr zo (r : Int) vu (U0 ++ restOf (l.take j) (r : Int))) (fun i _ => l.length - (intOf i).toNat)
          case atStart => exact ⟨0, vu, Nat.zero_le _, rfl, by simpa [restOf] using HS.out⟩
          case round =>
            clear HS
            obtain ⟨j, vu, hj, rfl, hs⟩ := hrel
            obtain ⟨Au, cu, rfl, hcu, hcu2⟩ := hs.o.form
            have HS := Lib.hid hs
            have KJ := Lib.hid (HK2.out _ _ _ hs)
            have hzw := HSZ.out _ _ _ hs
            clear hs
            have hrl := HRL.out (r : Int) j hj
            by_cases hltj : j < l.length
            · obtain ⟨bo, oo, o, Au2, cu2, hbo, hbol, hoo, m0, m1, hus⟩ := ROrders.atK KJ.out H3.out hltj
              subst hbo
              have hcu3 := hus.caps
              have hou := HLU.out o (List.mem_of_getElem? hoo)
              have HNX := Lib.hid (restOf_succ hoo (r : Int))
              have HUS := Lib.hid hus
              clear hus hoo
              generalize restOf (l.take j) (r : Int) = R0 at *
              have hUF : (U0 ++ R0).length ≤ 160 * 640 := by
                rw [List.length_append]
                have : j * 640 ≤ 144 * 640 := Nat.mul_le_mul_right _ (by omega)
                omega
              have HUA : Hid (∀ X, U0 ++ (R0 ++ X) = (U0 ++ R0) ++ X) := fun X => (List.append_assoc _ _ _).symm
              generalize U0 ++ R0 = UU at *
              have hdj : decide ((j : Int) < (l.length : Int)) = true := by simp; omega
              by_cases gr : o.res = (r : Int)
              · have gr' : (o.res == (r : Int)) = true := by simpa using gr
                rw [if_pos gr] at HNX
                clear gr
                obtain ⟨y1, y2, y3⟩ := HS.out.cell (Keeps.refl _ _)
                have hz2 := HS.out.k.size
                go_wp2_with (at_builtin; refine wpList_append_M tyRef RRef.ok RRef.one rfl (.tmp 64) (.tmp 66) rfl (HS.out.o.alloc RRef.ok _) rfl rfl (S := Old (World.alloc wr _)) (S2 := fun _ => False) ((KJ.out.alloc _).rdo' RRefs.ok HUS.out) (fun _ _ h => h) (fun _ h => h.elim) (by omega) (by omega) (by simp; omega) ?_; intro v9 w9 HO9 HK9 HA9; obtain ⟨A9, c9, hv9, _, _⟩ := HO9.form; rw [List.length_append] at hv9; subst hv9; have HP9 := Lib.hid ((HS.out.keep ((Keeps.refl _ _).alloc _)).push HO9 HK9); obtain ⟨x1, x2, x3⟩ := (HS.out.keep ((Keeps.refl _ _).alloc _)).cell HK9; clear HO9 HK9 HA9)
                go_roundw
                case rel => exact ⟨j + 1, _, by omega, by go_num, by rw [HNX.out, HUA.out]; exact HP9.out⟩
                case measure => simp [intOf]; omega
              · have gr' : (o.res == (r : Int)) = false := by simpa using gr
                rw [if_neg gr] at HNX
                have HS4 := Lib.hid (HS.out.keep ((Keeps.refl _ _).alloc (.cells #[.int .i64 o.res, .slice Au2 o.uses.length cu2] 59)))
                have HN : Hid (U0 ++ restOf (l.take (j + 1)) (r : Int) = UU) := by show _ = _; rw [HNX.out, HUA.out, List.append_nil]
                clear gr HNX HUA
                go_wp2
                go_roundw
                case rel => exact ⟨j + 1, _, by omega, by go_num, by rw [HN.out]; exact HS4.out⟩
                case measure => simp [intOf]; omega
            · obtain rfl : j = l.length := by omega
              rw [List.take_length] at HS hcu hrl
              have hUF : (U0 ++ restOf l (r : Int)).length ≤ 160 * 640 := by
                rw [List.length_append]
                have : l.length * 640 ≤ 144 * 640 := Nat.mul_le_mul_right _ (by omega)
                omega
              have HTN : Hid (wholeTo ps at_ l (r + 1) = wholeTo ps at_ l r ++ (if 0 < (wholeO ps at_ l (r : Int)).uses.length then [wholeO ps at_ l (r : Int)] else [])) := rfl
              rw [HWO.out] at HTN
              clear HWO hrl
              generalize U0 ++ restOf l (r : Int) = E at *
              have HO5 := Lib.hid (HOF.out _ _ _ HS.out)
              obtain ⟨y1, y2, y3⟩ := HS.out.cell (Keeps.refl _ _)
              have y0 := HS.out.b.cell 0
              simp at y0
              have hszw := KJ.out.size
              have hdj : decide ((l.length : Int) < (l.length : Int)) = false := by simp
              by_cases hE0 : E.length = 0
              · have Q2 : Hid (I.map (·.1) = wholeTo ps at_ l (r + 1)) := by show _ = _; rw [HTN.out, if_neg (by simp only []; omega), List.append_nil]; exact HI.out
                have hE0' : decide (0 < E.length) = false := decide_eq_false (by omega)
                clear hE0 HTN
                go_wp2
                go_roundw
                case rel => exact ⟨r + 1, I, by omega, by go_num, HO5.out, Q2.out⟩
                case measure => simp [intOf]; omega
              · have hE0' : 0 < E.length := by omega
                obtain ⟨gE, rfl, hgE⟩ := HS.out.o.some_ hE0'
                have Q2 : Hid ((I ++ [((⟨(r : Int), E⟩ : Order), gE, cu)]).map (·.1) = wholeTo ps at_ l (r + 1)) := by show _ = _; rw [HTN.out, if_pos (by simpa using hE0')]; simp [HI.out]
                have HPU : Hid (∀ (ob : Obj) (v9 : Value) (w9 : World), OwnL 59 2 RPO w9 w.heap.size w.heap.size v9 (I ++ [((⟨(r : Int), E⟩ : Order), gE, cu)]) → Keeps (fun b => (Value.slice Aa I.length ca).ownBlock = some b) (wr.alloc ob) w9 → (v9.ownBlock = (Value.slice Aa I.length ca).ownBlock ∨ v9.ownBlock = some (wr.alloc ob).heap.size) → ROw w w9 v9 (I ++ [((⟨(r : Int), E⟩ : Order), gE, cu)])) := fun ob v9 w9 ho hk ha => by
                  have kk : KeepsAll wr (wr.alloc ob) := (Keeps.refl _ _).alloc _
                  have ho4 := HS.out.o.keeps RRef.ok kk (fun _ _ h => h.elim)
                  have hrd : RRefs (wr.alloc ob) (Old (wr.alloc ob)) [.slice (some ⟨gE, 0, none⟩) E.length cu] E := ho4.read RRef.ok (by omega) (S := Old (wr.alloc ob)) (fun _ _ h => h) (fun _ _ h => h)
                  have hgl4 := ho4.lt (b := gE) rfl
                  have hz := HS.out.z
                  have hzz := HZO.out
                  have hgi : ∀ b, (Value.slice Aa I.length ca).ownBlock = some b ∨ (∃ y ∈ I, y.2.1 = b) → b < W2.heap.size := HIB.out
                  have hwW : w.heap.size ≤ W2.heap.size := HWW.out
                  refine (HO5.out.keep kk).push ho hk ha ⟨(show w.heap.size ≤ gE by omega), hgl4.2, fun e => by have h8 : gE < W2.heap.size := hgi _ (.inl e); omega, hcu, hcu2, hrd.rfAt, fun i => ho4.frz i, fun e => by have e' : E = [] := e; rw [e'] at hE0'; simp at hE0'⟩ (fun y hy => ?_)
                  have := hgi y.2.1 (.inr ⟨y, hy, rfl⟩)
                  show y.2.1 ≠ gE
                  omega
                clear hE0 HTN
                go_wp2_with (at_builtin; refine wpList_append_L tyOrder RPO.ok rfl (.tmp 74) (.tmp 76) rfl ((HO5.out.own).alloc RPO.ok _) rfl _ [.int .i64 (r : Int), .slice (some ⟨gE, 0, none⟩) E.length cu] rfl (Blk.new' _ _ _ (by simp)) rfl (⟨(r : Int), E⟩, gE, cu) (S := fun _ => False) rfl (fun _ h => h.elim) (by simp [Value.oneCell']) (by omega) (by omega) (by simp; omega) ?_; intro v9 w9 HO9 HK9 HA9; obtain ⟨A9, c9, hv9, _, _⟩ := HO9.form; rw [List.length_append, List.length_singleton] at hv9; subst hv9; have HR9 := Lib.hid (HPU.out _ _ w9 HO9 HK9 HA9); clear HO9 HK9 HA9)
                go_roundw
                case rel => exact ⟨r + 1, _, by omega, by go_num, HR9.out, Q2.out⟩
                case measure => simp [intOf]; omega
    · obtain rfl : r = 144 := by omega
      have hdr : decide ((144 : Int) < 144) = false := by simp
      have HF := Lib.hid HO.out.orders
      rw [HI.out] at HF
      go_wp2
      go_ret
      exact ⟨_, rfl, HF.out, KR.out⟩

end Go.Proofs.Ytbfgmbakeofcbaa
