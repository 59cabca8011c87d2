/- Contract of the reference's Sort. Conditions: as the theorem says. -/
import Derived.Test.YtbfgmbakeofcbaaGreatK28
import Derived.Test.YtbfgmbakeofcbaaGreatK21
import Derived.Test.YtbfgmbakeofcbaaGreatK11
import Derived.Test.YtbfgmbakeofcbaaGreatK18
namespace Go.Proofs.YtbfgmbakeofcbaaGreat
open Go.RowKit

theorem tyOrder : ElemTy Tryz.prog 24 66 2 32 := .mk' Tryz.underlying24 (z := .agg #[.int .i64 0, .slice none 0 0]) (by kernel_rfl) rfl (by omega)
theorem rowAsc_of : ∀ (l : List Int), (∀ (k : Nat) x y, l[k]? = some x → l[k + 1]? = some y → x ≤ y) → rowAsc l = true
  | [], _ => rfl
  | [_], _ => rfl
  | a :: b :: r, h => by
    simp only [rowAsc, Bool.and_eq_true, decide_eq_true_eq]
    exact ⟨h 0 a b rfl rfl, rowAsc_of (b :: r) (fun k x y hx hy => h (k + 1) x y (by simpa using hx) (by simpa using hy))⟩
theorem rowsOk_of : ∀ (ps : List (List Stage)) (en : List (List Int)), (∀ (t : Nat) p l, ps[t]? = some p → en[t]? = some l → l.length = p.length ∧ rowAsc l = true) → rowsOk ps en = true
  | [], _, _ => by simp [rowsOk]
  | _ :: _, [], _ => by simp [rowsOk]
  | q :: ps, m :: en, h => by
    simp only [rowsOk, Bool.and_eq_true, decide_eq_true_eq]
    exact ⟨h 0 q m rfl rfl, rowsOk_of ps en (fun t p l hp hl => h (t + 1) p l (by simpa using hp) (by simpa using hl))⟩
theorem RSlice.tail {α : Type} {size : Nat} {E : Rd α} {w : World} {S : Foot} {b o n c : Nat} {l : List α} (h : RSlice size E w S [.slice (some ⟨b, o, none⟩) n c] l) {k : Nat} (hk : k ≤ l.length) : RSlice size E w S [.slice (some ⟨b, o + k * size, none⟩) (l.length - k) (c - k)] (l.drop k) := by
  obtain ⟨A', c', he, h1, h2, h3⟩ := h
  injection he with he _; injection he with ha hn hc; subst ha hc
  refine ⟨_, c - k, by rw [List.length_drop], by rw [List.length_drop]; omega, by omega, fun hne => ?_⟩
  obtain ⟨b', o', hA, hb, hj⟩ := h3 (by rintro rfl; simp at hne)
  injection hA with hA; injection hA with hA1 hA2; subst hA1 hA2
  refine ⟨b, o + k * size, rfl, hb, fun j x hx => ?_⟩
  rw [List.getElem?_drop] at hx
  obtain ⟨es, e1, e2, e3⟩ := hj (k + j) x hx
  refine ⟨es, e1, e2, fun i u hu => ?_⟩
  have := e3 i u hu
  rw [Nat.add_mul] at this
  rw [show o + k * size + (j * size + i) = o + (k * size + j * size + i) from by omega]
  exact this
theorem RSlice.head {α : Type} {size : Nat} {E : Rd α} {w : World} {S : Foot} {A : Option Addr} {n c : Nat} {l : List α} (h : RSlice size E w S [.slice A n c] l) {k : Nat} (hk : k ≤ l.length) : RSlice size E w S [.slice A k c] (l.take k) := by
  obtain ⟨A', c', he, h1, h2, h3⟩ := h
  injection he with he _; injection he with ha hn hc; subst ha hc
  have hlt : (l.take k).length = k := by rw [List.length_take]; omega
  refine ⟨A, c, by rw [hlt], by omega, h2, fun hne => ?_⟩
  obtain ⟨b, o, hA, hb, hj⟩ := h3 (by rintro rfl; simp at hne)
  refine ⟨b, o, hA, hb, fun j x hx => ?_⟩
  have hjk : j < k := by have := getElem?_lt hx; omega
  rw [List.getElem?_take_of_lt hjk] at hx
  exact hj j x hx
theorem RSlice.none_ {α : Type} {size : Nat} {E : Rd α} {w : World} {S : Foot} {A : Option Addr} {c : Nat} (hc : c ≤ 9223372036854775807) : RSlice size E w S [.slice A 0 c] ([] : List α) := ⟨A, c, rfl, Nat.zero_le _, hc, fun h => absurd rfl h⟩

/-- all places of stages -/
def usesRefs (ps : List (List Stage)) : List Ref := ps.zipIdx.flatMap fun q => (List.range q.1.length).map fun k : Nat => ⟨(q.2 : Int), (k : Int)⟩
theorem mem_usesRefs {ps : List (List Stage)} {u : Ref} : u ∈ usesRefs ps ↔ ∃ (t k : Nat) (p : List Stage), ps[t]? = some p ∧ k < p.length ∧ u = ⟨(t : Int), (k : Int)⟩ := by
  unfold usesRefs
  rw [List.mem_flatMap]
  constructor
  · rintro ⟨⟨p, t⟩, hq, hu⟩
    obtain ⟨k, hk, rfl⟩ := List.mem_map.1 hu
    exact ⟨t, k, p, List.mem_zipIdx_iff_getElem?.1 hq, List.mem_range.1 hk, rfl⟩
  · rintro ⟨t, k, p, hp, hk, rfl⟩
    exact ⟨(p, t), List.mem_zipIdx_iff_getElem?.2 hp, List.mem_map.2 ⟨k, List.mem_range.2 hk, rfl⟩⟩
theorem allU_refs {ps : List (List Stage)} {r : Int} {u : Ref} (h : u ∈ allU ps r) : u ∈ usesRefs ps := by
  obtain ⟨t, k, p, s, hp, hs, _, rfl⟩ := mem_allU.1 h
  exact mem_usesRefs.2 ⟨t, k, p, hp, getElem?_lt hs, rfl⟩
theorem sortOk_en {ps : List (List Stage)} {en : List (List Int)} (h : sortOk ps en = true) {u : Ref} (hu : u ∈ usesRefs ps) : ∃ (tu ku : Nat) (row : List Int), u = ⟨(tu : Int), (ku : Int)⟩ ∧ en[tu]? = some row ∧ row[ku]? = some (enAt en u) := by
  simp only [sortOk, Bool.and_eq_true, decide_eq_true_eq] at h
  obtain ⟨t, k, p, hp, hk, rfl⟩ := mem_usesRefs.1 hu
  have ht := getElem?_lt hp
  have he : en[t]? = some (en[t]'(by omega)) := List.getElem?_eq_getElem (by omega)
  obtain ⟨h1, _⟩ := rowsOk_at ps en h.2 t p _ hp he
  refine ⟨t, k, _, rfl, he, ?_⟩
  unfold enAt
  simp only [Int.toNat_natCast, he, Option.getD_some]
  rw [List.getElem?_eq_getElem (by omega)]; rfl
theorem resTo_le144 (ps : List (List Stage)) : ∀ n, (resTo ps n).length ≤ n
  | 0 => by simp [resTo]
  | n + 1 => by have := resTo_le144 ps n; simp only [resTo, List.length_append]; split <;> simp <;> omega
theorem OwnL.base_mono {α : Type} {t size : Nat} {E : Rd α} {w : World} {base base' lo : Nat} {v : Value} {l : List α} (h : OwnL t size E w base lo v l) (hb : base' ≤ base) : OwnL t size E w base' lo v l := by
  obtain ⟨ess, h1, h2, h3⟩ := h
  refine ⟨ess, h1, ⟨h2.1, ?_⟩, h3⟩
  rcases h2.2 with hn | ⟨g, cap, cur, e, hb', rest⟩
  · exact .inl hn
  · exact .inr ⟨g, cap, cur, e, Nat.le_trans hb hb', rest⟩

set_option maxRecDepth 100000 in
set_option maxHeartbeats 4000000 in
theorem RefSort_any (ps : List (List Stage)) (en : List (List Int)) (A A2 : Option Addr) (c c2 : Nat) (w : World) (h : RPaths w (Old w) [.slice A ps.length c] ps) (h2 : RIntss w (Old w) [.slice A2 en.length c2] en) :
    Calls Tryz.prog 12 #[.slice A ps.length c, .slice A2 en.length c2] w fun e w' => ∃ v, e = .returned (.tuple #[v, .int .i64 (sortO ps en).2]) ∧ ROrders w' (Old w') [v] (sortO ps en).1 ∧ KeepsAll w w' := by
  have hc := h.caps
  have hc2 := h2.caps
  have H := Lib.hid h; clear h
  have H2 := Lib.hid h2; clear h2
  have BAD : Hid (sortOk ps en = false → sortO ps en = ([], 1)) := fun hb => by unfold sortO; rw [hb]; rfl
  by_cases g1 : valid ps = true
  · have HV := Lib.hid g1
    go_enter Tryz.func12, Tryz.ntmps12
    go_wp2_with fail
    refine (RefValid_any ps A c w H.out).mono ?_
    rintro e w1 ⟨rfl, k1⟩
    rw [g1]
    have K1 := Lib.hid k1; clear k1
    by_cases g2 : en.length = ps.length
    · have g2' : ((en.length : Int) != (ps.length : Int)) = false := by simp; omega
      have G2 := Lib.hid g2
      have l1 : en.length ≤ ps.length := by omega
      have l2 : ps.length ≤ en.length := by omega
      clear g2
      go_wp2
      go_loopw [29] (fun i wr => ∃ (t m : Nat), t ≤ en.length ∧ i = .int .i64 t ∧ wr = w1.drewN m ∧ ∀ u p l, u < t → ps[u]? = some p → en[u]? = some l → l.length = p.length ∧ rowAsc l = true) (fun i _ => en.length - (intOf i).toNat)
      case atStart => exact ⟨0, 0, Nat.zero_le _, rfl, rfl, fun u p l hu => by omega⟩
      case round =>
        obtain ⟨t, m, ht, rfl, rfl, hall⟩ := hrel
        have HALL := Lib.hid hall; clear hall
        by_cases hlt : t < en.length
        · obtain ⟨b, o, l, A', c', hbo, hb, hl, k1, hr⟩ := RSS.atK K1.out H2.out hlt
          subst hbo
          have hcr := hr.caps
          obtain ⟨bp, op, p, Ap, cp, hbo, hbp, hp, p1, hpr⟩ := RSS.atK K1.out H.out (k := t) (by omega)
          subst hbo
          have hcpp := hpr.caps
          have HL := Lib.hid hl; have HP := Lib.hid hp; have HR := Lib.hid hr
          clear hl hp hr hpr
          have BADR : Hid (¬ (l.length = p.length ∧ rowAsc l = true) → sortOk ps en = false) := fun hn => by
            rcases Bool.eq_false_or_eq_true (sortOk ps en) with e | e
            · simp only [sortOk, Bool.and_eq_true, decide_eq_true_eq] at e
              exact absurd (rowsOk_at ps en e.2 t p l HP.out HL.out) hn
            · exact e
          have hdt : decide ((t : Int) < (en.length : Int)) = true := by simp; omega
          by_cases g3 : l.length = p.length
          · have g3' : ((l.length : Int) != (p.length : Int)) = false := by simp; omega
            have G3 := Lib.hid g3; clear g3
            go_wp2
            go_loopw [8] (fun i wr => ∃ (k m : Nat), 1 ≤ k ∧ (k ≤ l.length ∨ k = 1) ∧ i = .int .i64 k ∧ wr = w1.drewN m ∧ ∀ (j : Nat) x y, j + 1 < k → l[j]? = some x → l[j + 1]? = some y → x ≤ y) (fun i _ => l.length - (intOf i).toNat)
            case atStart => exact ⟨1, m, Nat.le_refl _, .inr rfl, rfl, rfl, fun j x y hj => by omega⟩
            case round =>
              obtain ⟨k, m, hk1, hkl, rfl, rfl, hasc⟩ := hrel
              have HASC := Lib.hid hasc; clear hasc
              by_cases hlt2 : k < l.length
              · obtain ⟨b4, o4, y, hbo, hb4, hy, q1⟩ := RInts.atK K1.out HR.out hlt2
                subst hbo
                obtain ⟨b5, o5, x, hbo, hb5, hx, q0⟩ := RInts.atK K1.out HR.out (k := k - 1) (by omega)
                injection hbo with hbo; injection hbo with hb1 hb2; subst hb1 hb2
                have hdk : decide (k < l.length) = true := by simp; omega
                by_cases g4 : y < x
                · have g4' : decide (y < x) = true := by simpa using g4
                  have Q := Lib.hid (BAD.out (BADR.out (fun hh => by
                    have := rowAsc_at l hh.2 (k - 1) k x y (by omega) hx hy
                    omega)))
                  clear hx hy g4
                  go_wp2
                  go_quiet (fail)
                  go_wp2
                  go_ret2
                  rw [Q.out]
                  exact ⟨_, rfl, RSlice.mkNil, (K1.out.drewN _).drewN _⟩
                · have g4' : decide (y < x) = false := by simpa using g4
                  have Q : Hid (∀ (j : Nat) x' y', j + 1 < k + 1 → l[j]? = some x' → l[j + 1]? = some y' → x' ≤ y') := fun j x' y' hj hx' hy' => by
                    by_cases e : j + 1 = k
                    · have ej : j = k - 1 := by omega
                      subst ej
                      rw [hx] at hx'; injection hx' with hx'
                      rw [e, hy] at hy'; injection hy' with hy'
                      omega
                    · exact HASC.out j x' y' (by omega) hx' hy'
                  clear hx hy g4
                  go_wp2
                  go_quiet (fail)
                  go_wp2
                  go_roundw
                  case rel => exact ⟨k + 1, _, by omega, .inl (by omega), by go_num, rfl, Q.out⟩
                  case measure => simp [intOf]; omega
              · have Q : Hid (∀ u p l, u < t + 1 → ps[u]? = some p → en[u]? = some l → l.length = p.length ∧ rowAsc l = true) := fun u p' l' hu hp' hl' => by
                  by_cases e : u = t
                  · subst e
                    rw [HP.out] at hp'; injection hp' with hp'; subst hp'
                    rw [HL.out] at hl'; injection hl' with hl'; subst hl'
                    exact ⟨G3.out, rowAsc_of l (fun k' x y hx hy => HASC.out k' x y (by have := getElem?_lt hy; omega) hx hy)⟩
                  · exact HALL.out u p' l' (by omega) hp' hl'
                go_wp2
                go_roundw
                case rel => exact ⟨t + 1, m, by omega, by go_num, rfl, Q.out⟩
                case measure => simp [intOf]; omega
          · have g3' : ((l.length : Int) != (p.length : Int)) = true := by simp; omega
            have Q := Lib.hid (BAD.out (BADR.out (fun hh => g3 hh.1)))
            clear g3
            go_wp2
            go_ret2
            rw [Q.out]
            exact ⟨_, rfl, RSlice.mkNil, K1.out.drewN _⟩
        · obtain rfl : t = en.length := by omega
          have hok : sortOk ps en = true := by
            simp only [sortOk, Bool.and_eq_true, decide_eq_true_eq]
            exact ⟨⟨HV.out, G2.out⟩, rowsOk_of ps en (fun u p l hp hl => HALL.out u p l (getElem?_lt hl) hp hl)⟩
          have Q : Hid (sortO ps en = (ordersTo ps en 144, 0)) := by show _ = _; unfold sortO; rw [hok]; rfl
          have HOK := Lib.hid hok
          clear hok HALL
          have KM := Lib.hid (K1.out.drewN m)
          generalize w1.drewN m = wm at KM ⊢
          have hl10 := (valid_lens HV.out).1
          have HLN : Hid (∀ p ∈ ps, p.length ≤ 64) := fun p hp => ((valid_lens HV.out).2 p hp).2
          have HEN : Hid (∀ u ∈ usesRefs ps, ∃ (tu ku : Nat) (row : List Int), u = ⟨(tu : Int), (ku : Int)⟩ ∧ en[tu]? = some row ∧ row[ku]? = some (enAt en u)) := fun u hu => sortOk_en HOK.out hu
          go_wp2
          go_loopw [9, 10] (fun v vr wr => ∃ r : Nat, r ≤ 144 ∧ vr = .int .i64 r ∧ OwnL 66 2 ROrder wr wm.heap.size wm.heap.size v (ordersTo ps en r) ∧ KeepsAll wm wr) (fun _ vr _ => 144 - (intOf vr).toNat)
          case atStart => exact ⟨0, by omega, rfl, OwnL.nil, Keeps.refl _ _⟩
          case round =>
            obtain ⟨r, hr, rfl, ho, hkr⟩ := hrel
            obtain ⟨Ao, co, rfl, hco, hco2⟩ := ho.form
            have hol : (ordersTo ps en r).length ≤ 144 := by
              have h1 := congrArg List.length (ordersTo_res ps en r)
              rw [List.length_map] at h1
              have := resTo_le144 ps r; omega
            have HO := Lib.hid ho
            have KR := Lib.hid hkr
            have hzr := hkr.size
            clear ho hkr
            by_cases hlt : r < 144
            · have hdr : decide ((r : Int) < 144) = true := by simp; omega
              go_wp2_with fail
              refine (All_any ps r A c wr HV.out ((KM.out.tr KR.out).rdo' RPaths.ok H.out)).mono ?_
              rintro e w2 ⟨va, rfl, hoa, hk2⟩
              obtain ⟨Aa, ca, rfl, hca, hca2⟩ := hoa.form
              have RA := Lib.hid (hoa.read RRef.ok (by omega) (S := Old w2) (fun _ _ h => h) (fun _ _ h => h))
              have HO2 := Lib.hid (HO.out.keeps ROrder.ok hk2 (fun _ _ h => h.elim))
              have KR2 := Lib.hid (KR.out.tr hk2)
              have hz2 := hk2.size
              have HQ : Hid (ordersTo ps en (r + 1) = ordersTo ps en r ++ (if 0 < (allU ps r).length then [⟨(r : Int), sortR en (allU ps r)⟩] else [])) := rfl
              have hal : (allU ps r).length ≤ 640 := by
                have h1 := allU_le HLN.out r ps.length (Nat.le_refl _)
                rw [List.take_length] at h1; omega
              have HUR : Hid (∀ u ∈ allU ps r, u ∈ usesRefs ps) := fun u hu => allU_refs hu
              generalize allU ps r = AU at *
              generalize ordersTo ps en r = OS at *
              clear hoa hk2 HO KR
              obtain ⟨wo, hwo⟩ : ∃ wo : World, wo = wr := ⟨_, rfl⟩
              clear hwo
              go_wp2
              go_loopw [11, 68] (fun v vi wr => ∃ i : Nat, i ≤ AU.length ∧ vi = .int .i64 i ∧ OwnL 69 2 RRef wr w2.heap.size w2.heap.size v (sortR en (AU.take i)) ∧ KeepsAll w2 wr) (fun _ vi _ => AU.length - (intOf vi).toNat)
              case atStart => exact ⟨0, Nat.zero_le _, rfl, OwnL.nil, Keeps.refl _ _⟩
              case round =>
                obtain ⟨i, hi, rfl, hol2, hk3⟩ := hrel
                obtain ⟨Al, cl, rfl, hcl, hcl2⟩ := hol2.form
                have hsl : (sortR en (AU.take i)).length ≤ 640 := by rw [(sortR_perm en _).length_eq, List.length_take]; omega
                have K3 := Lib.hid hk3
                have HOL := Lib.hid hol2
                have hz3 := hk3.size
                clear hol2 hk3
                by_cases hlt2 : i < AU.length
                · obtain ⟨bu, ou, u, hbo, hbu, hu, n0, n1⟩ := RRefs.atK K3.out RA.out hlt2
                  subst hbo
                  obtain ⟨tu, ku, rowu, hue, hru, hku⟩ := HEN.out u (HUR.out u (List.mem_of_getElem? hu))
                  subst hue
                  simp only [] at n0 n1
                  have HNX : Hid (sortR en (AU.take (i + 1)) = insU en ⟨(tu : Int), (ku : Int)⟩ (sortR en (AU.take i))) := by
                    show _ = _
                    have e : AU.take (i + 1) = AU.take i ++ [⟨(tu : Int), (ku : Int)⟩] := by rw [List.take_add_one, hu]; rfl
                    rw [e, sortR_snoc]
                  have HAR : Hid (∀ v ∈ sortR en (AU.take i), v ∈ usesRefs ps) := fun v hv => HUR.out v (List.mem_of_mem_take ((sortR_perm en _).mem_iff.1 hv))
                  generalize sortR en (AU.take i) = acc at *
                  generalize hxu : enAt en ⟨(tu : Int), (ku : Int)⟩ = xu at hku
                  have HXU := Lib.hid hxu
                  have HRU := Lib.hid hru; have HKU := Lib.hid hku
                  clear hu hru hku hxu
                  have hdi : decide ((i : Int) < (AU.length : Int)) = true := by simp; omega
                  go_wp2
                  generalize hW : World.alloc wr _ = W
                  have B2 : Blk W wr.heap.size 69 #[.int .i64 (tu : Int), .int .i64 (ku : Int)] := by subst hW; exact Blk.new _ _ _
                  have KW : KeepsAll wr W := by subst hW; exact (Keeps.refl _ _).alloc _
                  have e0 := B2.cell 0
                  have e1 := B2.cell 1
                  simp at e0 e1
                  have hzB := Lib.hid B2.lt
                  have K2W := Lib.hid (K3.out.tr KW)
                  have hzW : Hid (w2.heap.size ≤ W.heap.size) := K2W.out.size
                  have HOW := Lib.hid (HOL.out.keeps RRef.ok KW (fun _ _ h => h.elim))
                  have KWW := Lib.hid ((KM.out.tr KR2.out).tr K2W.out)
                  have RACC : Hid (RRefs W (Old W) [.slice Al acc.length cl] acc) := HOW.out.read RRef.ok (by omega) (S := Old W) (fun _ _ h => h) (fun _ _ h => h)
                  clear hW n0 n1 KW B2 HOL
                  obtain ⟨bx, ox, rw_, Ax, cx, hbx, hbxl, hrx, r0, hrr⟩ := RSS.atK KWW.out H2.out (k := tu) (getElem?_lt HRU.out)
                  subst hbx
                  obtain rfl := same_of hrx HRU.out
                  have hcx := hrr.caps
                  obtain ⟨by_, oy, y, hby, hbyl, hy, r1⟩ := RInts.atK KWW.out hrr (getElem?_lt HKU.out)
                  subst hby
                  obtain rfl := same_of HKU.out hy
                  have htul := getElem?_lt HRU.out
                  have hkul := getElem?_lt HKU.out
                  clear hrx hrr hy
                  generalize wr.heap.size = zb at *
                  go_loopw [15] (fun vk wr => ∃ (k m : Nat), k ≤ acc.length ∧ vk = .int .i64 k ∧ wr = W.drewN m ∧ insK en ⟨(tu : Int), (ku : Int)⟩ acc acc.length = insK en ⟨(tu : Int), (ku : Int)⟩ acc k) (fun vk _ => (intOf vk).toNat)
                  case atStart => exact ⟨acc.length, 0, Nat.le_refl _, rfl, rfl, rfl⟩
                  case round =>
                    obtain ⟨k, m, hkl, rfl, rfl, hik⟩ := hrel
                    have HIK0 := Lib.hid hik; clear hik
                    by_cases hk0 : 0 < k
                    · obtain ⟨bl, ol, v, hbl, hbll, hv, a0, a1⟩ := RRefs.at_ RACC.out (k := k - 1) (by omega)
                      subst hbl
                      obtain ⟨tv, kv, rowv, hve, hrv, hkv⟩ := HEN.out v (HAR.out v (List.mem_of_getElem? hv))
                      have HIS : Hid (insK en ⟨(tu : Int), (ku : Int)⟩ acc k = if xu < enAt en v then insK en ⟨(tu : Int), (ku : Int)⟩ acc (k - 1) else k) := by
                        show _ = _
                        conv => lhs; rw [show k = (k - 1) + 1 from by omega]
                        simp only [insK, hv, HXU.out]
                        rw [show k - 1 + 1 = k from by omega]
                      subst hve
                      simp only [] at a0 a1
                      generalize enAt en ⟨(tv : Int), (kv : Int)⟩ = xv at *
                      obtain ⟨bz, oz, rwz, Az, cz, hbz, hbzl, hrz, s0, hrrz⟩ := RSS.atK KWW.out H2.out (k := tv) (getElem?_lt hrv)
                      injection hbz with hbz; injection hbz with hz1' hz2'; subst hz1' hz2'
                      obtain rfl := same_of hrz hrv
                      have hcz := hrrz.caps
                      obtain ⟨bq, oq, yq, hbq, hbql, hyq, s1⟩ := RInts.atK KWW.out hrrz (getElem?_lt hkv)
                      subst hbq
                      obtain rfl := same_of hyq hkv
                      have htvl := getElem?_lt hrv
                      have hkvl := getElem?_lt hkv
                      clear hv hrv hkv hrz hrrz hyq
                      by_cases g5 : xu < yq
                      · have g5' : decide (yq > xu) = true := by simpa using g5
                        have Q5 : Hid (insK en ⟨(tu : Int), (ku : Int)⟩ acc acc.length = insK en ⟨(tu : Int), (ku : Int)⟩ acc (k - 1)) := by
                          show _ = _
                          rw [HIK0.out, HIS.out, if_pos g5]
                        clear g5
                        go_wp2
                        go_quiet (fail)
                        go_wp2
                        go_roundw
                        case rel => exact ⟨k - 1, _, by omega, by go_num, rfl, Q5.out⟩
                        case measure => simp [intOf]; omega
                      · have g5' : decide (yq > xu) = false := by simpa using g5
                        have HIK : Hid (insK en ⟨(tu : Int), (ku : Int)⟩ acc acc.length = k) := by
                          show _ = _
                          rw [HIK0.out, HIS.out, if_neg g5]
                        clear g5
                        go_wp2
                        go_quiet (fail)
                        clear a0 a1 s0 s1
                        generalize hWD : World.drewN (World.drewN W _) _ = WD
                        have KWD : KeepsAll W WD := by subst hWD; exact ((Keeps.refl _ _).drewN _).drewN _
                        replace e0 := KWD.cellK (p := ⟨zb, 0, none⟩) hzB.out e0
                        replace e1 := KWD.cellK (p := ⟨zb, 1, none⟩) hzB.out e1
                        have hzD : Hid (zb < WD.heap.size) := Nat.lt_of_lt_of_le hzB.out KWD.size
                        have hz2D : Hid (w2.heap.size ≤ WD.heap.size) := Nat.le_trans hzW.out KWD.size
                        have K2D := Lib.hid (K2W.out.tr KWD)
                        have HOD := Lib.hid (HOW.out.keeps RRef.ok KWD (fun _ _ h => h.elim))
                        have RACD := Lib.hid (KWD.rdo' RRefs.ok RACC.out)
                        have hkl4 : k ≤ acc.length := hkl
                        have hk640 : k ≤ 640 := by omega
                        have HT1 : Hid ((acc.take k).length = k) := by show _ = _; rw [List.length_take]; omega
                        have HT2 : Hid ((acc.drop k).length = acc.length - k) := by show _ = _; rw [List.length_drop]
                        have HT3 : Hid ((acc.take k ++ [(⟨(tu : Int), (ku : Int)⟩ : Ref)] ++ acc.drop k).length = acc.length + 1) := by show _ = _; rw [List.length_append, List.length_append, HT1.out, HT2.out, List.length_singleton]; omega
                        clear hWD KWD r0 r1
                        obtain rfl : ol = 0 := by
                          obtain ⟨ess, _, hrow, _⟩ := HOD.out
                          rcases hrow.2 with ⟨he, _⟩ | ⟨g, _, _, he, _⟩
                          · cases he
                          · injection he with he; injection he with he; injection he
                        have SRC1 : Hid (RRefs WD (Old WD) [.slice (some ⟨bl, 0, none⟩) (acc.take k).length cl] (acc.take k)) := by
                          have := RSlice.head RACD.out hkl4
                          rw [HT1.out]; exact this
                        by_cases hcl3 : k < cl
                        · have SRC2 : Hid (RRefs WD (Old WD) [.slice (some ⟨bl, k * 2, none⟩) (acc.drop k).length (cl - k)] (acc.drop k)) := by
                            have := RSlice.tail RACD.out hkl4
                            rw [Nat.zero_add] at this
                            rw [HT2.out]; exact this
                          go_wp2_with (first | (at_builtin; refine wpList_append_M tyRef RRef.ok RRef.one rfl (.const (.slice none 0 0)) (.tmp 109) rfl (OwnL.nil (base := WD.heap.size) (lo := WD.heap.size)) rfl (S := Old WD) (S2 := fun _ => False) (by rw [HT1.out]; rfl) SRC1.out (fun _ _ h => h) (fun _ h => h.elim) (by have := HT1.out; simp only [List.length_nil]; omega) (by have := HT1.out; simp only [List.length_nil]; omega) (Nat.le_refl _) ?_; intro v5 w5 HO5 HK5 HA5; rw [List.nil_append] at HO5; have K5 : KeepsAll WD w5 := HK5.mono (fun _ _ h => (by simp [Value.ownBlock] at h)); obtain ⟨A5, c5, hv5, hc5, hc55⟩ := HO5.form; rw [HT1.out] at hv5; subst hv5; have HO5' := Lib.hid HO5; have K5' := Lib.hid K5; have hz5 := K5.size; have d0 := K5.cellK (p := ⟨zb, 0, none⟩) hzD.out e0; have d1 := K5.cellK (p := ⟨zb, 1, none⟩) hzD.out e1; clear HO5 HK5 HA5 K5) | (at_builtin; refine wpList_append_L tyRef RRef.ok rfl (.tmp 111) (.tmp 113) rfl (HO5'.out.alloc RRef.ok _) rfl _ [.int .i64 (tu : Int), .int .i64 (ku : Int)] rfl (Blk.new' _ _ _ (by simp)) rfl ⟨(tu : Int), (ku : Int)⟩ (S := fun _ => False) rfl (fun _ h => h.elim) (by simp [Value.oneCell']) (by have := HT1.out; omega) (by have := HT1.out; omega) (by simp; omega) ?_; intro v6 w6 HO6 HK6 HA6; have K6 : KeepsAll WD w6 := ((K5'.out.alloc _).trans HK6 (fun x hx e => (by have := HO5'.out.lt e; omega))); obtain ⟨A6, c6, hv6, hc6, hc66⟩ := HO6.form; rw [List.length_append, List.length_singleton, HT1.out] at hv6; subst hv6; have HO6' := Lib.hid HO6; have K6' := Lib.hid K6; have hz6 := K6.size; have SRC3 := Lib.hid (K6.rdo' RRefs.ok SRC2.out); clear HO6 HK6 HA6 K6) | (at_builtin; refine wpList_append_M tyRef RRef.ok RRef.one rfl (.tmp 115) (.tmp 118) rfl HO6'.out rfl (S := Old w6) (S2 := fun _ => False) (by rw [HT2.out]; rfl) SRC3.out (fun _ _ h => h) (fun _ h => h.elim) (by have h1 := HT1.out; have h2 := HT2.out; rw [List.length_append, List.length_singleton]; omega) (by have h1 := HT1.out; have h2 := HT2.out; rw [List.length_append, List.length_singleton]; omega) (by omega) ?_; intro v7 w7 HO7 HK7 HA7; have K7 : KeepsAll WD w7 := (K6'.out.trans HK7 (fun x hx e => (by have := HO6'.out.lt e; omega))); obtain ⟨A7, c7, hv7, hc7, hc77⟩ := HO7.form; rw [HT3.out] at hv7; subst hv7; have HO7' := Lib.hid HO7; have K7' := Lib.hid K7; clear HO7 HK7 HA7 K7))
                          have HF : Hid (OwnL 69 2 RRef w7 w2.heap.size w2.heap.size (.slice A7 (acc.length + 1) c7) (sortR en (AU.take (i + 1)))) := by
                            show OwnL _ _ _ _ _ _ _ _
                            rw [HNX.out]
                            unfold insU
                            rw [HIK.out]
                            have h1 := (HO7'.out.lo_mono RRef.ok hz2D.out).base_mono hz2D.out
                            rw [List.append_assoc] at h1
                            exact h1
                          go_roundw
                          case rel => exact ⟨i + 1, by omega, by go_num, HF.out, K2D.out.tr K7'.out⟩
                          case measure => simp [intOf]; omega
                        · have SRC2 : Hid (RRefs WD (Old WD) [.slice (some ⟨bl, 0, none⟩) (acc.drop k).length (cl - k)] (acc.drop k)) := by
                            have e : acc.drop k = [] := List.drop_of_length_le (by omega)
                            rw [e]; exact RSlice.none_ (by omega)
                          go_wp2_with (first | (at_builtin; refine wpList_append_M tyRef RRef.ok RRef.one rfl (.const (.slice none 0 0)) (.tmp 109) rfl (OwnL.nil (base := WD.heap.size) (lo := WD.heap.size)) rfl (S := Old WD) (S2 := fun _ => False) (by rw [HT1.out]; rfl) SRC1.out (fun _ _ h => h) (fun _ h => h.elim) (by have := HT1.out; simp only [List.length_nil]; omega) (by have := HT1.out; simp only [List.length_nil]; omega) (Nat.le_refl _) ?_; intro v5 w5 HO5 HK5 HA5; rw [List.nil_append] at HO5; have K5 : KeepsAll WD w5 := HK5.mono (fun _ _ h => (by simp [Value.ownBlock] at h)); obtain ⟨A5, c5, hv5, hc5, hc55⟩ := HO5.form; rw [HT1.out] at hv5; subst hv5; have HO5' := Lib.hid HO5; have K5' := Lib.hid K5; have hz5 := K5.size; have d0 := K5.cellK (p := ⟨zb, 0, none⟩) hzD.out e0; have d1 := K5.cellK (p := ⟨zb, 1, none⟩) hzD.out e1; clear HO5 HK5 HA5 K5) | (at_builtin; refine wpList_append_L tyRef RRef.ok rfl (.tmp 111) (.tmp 113) rfl (HO5'.out.alloc RRef.ok _) rfl _ [.int .i64 (tu : Int), .int .i64 (ku : Int)] rfl (Blk.new' _ _ _ (by simp)) rfl ⟨(tu : Int), (ku : Int)⟩ (S := fun _ => False) rfl (fun _ h => h.elim) (by simp [Value.oneCell']) (by have := HT1.out; omega) (by have := HT1.out; omega) (by simp; omega) ?_; intro v6 w6 HO6 HK6 HA6; have K6 : KeepsAll WD w6 := ((K5'.out.alloc _).trans HK6 (fun x hx e => (by have := HO5'.out.lt e; omega))); obtain ⟨A6, c6, hv6, hc6, hc66⟩ := HO6.form; rw [List.length_append, List.length_singleton, HT1.out] at hv6; subst hv6; have HO6' := Lib.hid HO6; have K6' := Lib.hid K6; have hz6 := K6.size; have SRC3 := Lib.hid (K6.rdo' RRefs.ok SRC2.out); clear HO6 HK6 HA6 K6) | (at_builtin; refine wpList_append_M tyRef RRef.ok RRef.one rfl (.tmp 115) (.tmp 118) rfl HO6'.out rfl (S := Old w6) (S2 := fun _ => False) (by rw [HT2.out]; rfl) SRC3.out (fun _ _ h => h) (fun _ h => h.elim) (by have h1 := HT1.out; have h2 := HT2.out; rw [List.length_append, List.length_singleton]; omega) (by have h1 := HT1.out; have h2 := HT2.out; rw [List.length_append, List.length_singleton]; omega) (by omega) ?_; intro v7 w7 HO7 HK7 HA7; have K7 : KeepsAll WD w7 := (K6'.out.trans HK7 (fun x hx e => (by have := HO6'.out.lt e; omega))); obtain ⟨A7, c7, hv7, hc7, hc77⟩ := HO7.form; rw [HT3.out] at hv7; subst hv7; have HO7' := Lib.hid HO7; have K7' := Lib.hid K7; clear HO7 HK7 HA7 K7))
                          have HF : Hid (OwnL 69 2 RRef w7 w2.heap.size w2.heap.size (.slice A7 (acc.length + 1) c7) (sortR en (AU.take (i + 1)))) := by
                            show OwnL _ _ _ _ _ _ _ _
                            rw [HNX.out]
                            unfold insU
                            rw [HIK.out]
                            have h1 := (HO7'.out.lo_mono RRef.ok hz2D.out).base_mono hz2D.out
                            rw [List.append_assoc] at h1
                            exact h1
                          go_roundw
                          case rel => exact ⟨i + 1, by omega, by go_num, HF.out, K2D.out.tr K7'.out⟩
                          case measure => simp [intOf]; omega
                    · have hk1 : k = 0 := by omega
                      subst hk1
                      have HIK : Hid (insK en ⟨(tu : Int), (ku : Int)⟩ acc acc.length = 0) := by show _ = _; rw [HIK0.out]; rfl
                      go_wp2
                      go_quiet (fail)
                      generalize hWD : World.drewN (World.drewN W _) _ = WD
                      have KWD : KeepsAll W WD := by subst hWD; exact ((Keeps.refl _ _).drewN _).drewN _
                      replace e0 := KWD.cellK (p := ⟨zb, 0, none⟩) hzB.out e0
                      replace e1 := KWD.cellK (p := ⟨zb, 1, none⟩) hzB.out e1
                      have hzD : Hid (zb < WD.heap.size) := Nat.lt_of_lt_of_le hzB.out KWD.size
                      have hz2D : Hid (w2.heap.size ≤ WD.heap.size) := Nat.le_trans hzW.out KWD.size
                      have K2D := Lib.hid (K2W.out.tr KWD)
                      have HOD := Lib.hid (HOW.out.keeps RRef.ok KWD (fun _ _ h => h.elim))
                      have RACD := Lib.hid (KWD.rdo' RRefs.ok RACC.out)
                      have hkl4 : 0 ≤ acc.length := hkl
                      have hk640 : 0 ≤ 640 := by omega
                      have HT1 : Hid ((acc.take 0).length = 0) := by show _ = _; rw [List.length_take]; omega
                      have HT2 : Hid ((acc.drop 0).length = acc.length - 0) := by show _ = _; rw [List.length_drop]
                      have HT3 : Hid ((acc.take 0 ++ [(⟨(tu : Int), (ku : Int)⟩ : Ref)] ++ acc.drop 0).length = acc.length + 1) := by show _ = _; rw [List.length_append, List.length_append, HT1.out, HT2.out, List.length_singleton]; omega
                      clear hWD KWD r0 r1
                      cases Al with
                      | none =>
                        have hnil : acc = [] ∧ cl = 0 := by
                          obtain ⟨ess, _, hrow, _⟩ := HOD.out
                          rcases hrow.2 with ⟨he, hn⟩ | ⟨_, _, _, he, _⟩
                          · injection he with _ _ he3
                            exact ⟨List.eq_nil_of_length_eq_zero hn, he3⟩
                          · cases he
                        obtain ⟨hacc0, hcl0⟩ := hnil
                        subst hcl0
                        have hl0 : acc.length = 0 := by rw [hacc0]; rfl
                        have SRC1 : Hid (RRefs WD (Old WD) [.slice none (acc.take 0).length 0] (acc.take 0)) := by rw [List.take_zero]; exact RSlice.mkNil
                        have SRC2 : Hid (RRefs WD (Old WD) [.slice none (acc.drop 0).length 0] (acc.drop 0)) := by rw [hacc0]; exact RSlice.mkNil
                        rw [hl0] at HT2 HT3 ⊢
                        clear hacc0 hl0
                        go_wp2_with (first | (at_builtin; refine wpList_append_M tyRef RRef.ok RRef.one rfl (.const (.slice none 0 0)) (.tmp 109) rfl (OwnL.nil (base := WD.heap.size) (lo := WD.heap.size)) rfl (S := Old WD) (S2 := fun _ => False) (by rw [HT1.out]; rfl) SRC1.out (fun _ _ h => h) (fun _ h => h.elim) (by have := HT1.out; simp only [List.length_nil]; omega) (by have := HT1.out; simp only [List.length_nil]; omega) (Nat.le_refl _) ?_; intro v5 w5 HO5 HK5 HA5; rw [List.nil_append] at HO5; have K5 : KeepsAll WD w5 := HK5.mono (fun _ _ h => (by simp [Value.ownBlock] at h)); obtain ⟨A5, c5, hv5, hc5, hc55⟩ := HO5.form; rw [HT1.out] at hv5; subst hv5; have HO5' := Lib.hid HO5; have K5' := Lib.hid K5; have hz5 := K5.size; have d0 := K5.cellK (p := ⟨zb, 0, none⟩) hzD.out e0; have d1 := K5.cellK (p := ⟨zb, 1, none⟩) hzD.out e1; clear HO5 HK5 HA5 K5) | (at_builtin; refine wpList_append_L tyRef RRef.ok rfl (.tmp 111) (.tmp 113) rfl (HO5'.out.alloc RRef.ok _) rfl _ [.int .i64 (tu : Int), .int .i64 (ku : Int)] rfl (Blk.new' _ _ _ (by simp)) rfl ⟨(tu : Int), (ku : Int)⟩ (S := fun _ => False) rfl (fun _ h => h.elim) (by simp [Value.oneCell']) (by have := HT1.out; omega) (by have := HT1.out; omega) (by simp; omega) ?_; intro v6 w6 HO6 HK6 HA6; have K6 : KeepsAll WD w6 := ((K5'.out.alloc _).trans HK6 (fun x hx e => (by have := HO5'.out.lt e; omega))); obtain ⟨A6, c6, hv6, hc6, hc66⟩ := HO6.form; rw [List.length_append, List.length_singleton, HT1.out] at hv6; subst hv6; have HO6' := Lib.hid HO6; have K6' := Lib.hid K6; have hz6 := K6.size; have SRC3 := Lib.hid (K6.rdo' RRefs.ok SRC2.out); clear HO6 HK6 HA6 K6) | (at_builtin; refine wpList_append_M tyRef RRef.ok RRef.one rfl (.tmp 115) (.tmp 118) rfl HO6'.out rfl (S := Old w6) (S2 := fun _ => False) (by rw [HT2.out]; rfl) SRC3.out (fun _ _ h => h) (fun _ h => h.elim) (by have h1 := HT1.out; have h2 := HT2.out; rw [List.length_append, List.length_singleton]; omega) (by have h1 := HT1.out; have h2 := HT2.out; rw [List.length_append, List.length_singleton]; omega) (by omega) ?_; intro v7 w7 HO7 HK7 HA7; have K7 : KeepsAll WD w7 := (K6'.out.trans HK7 (fun x hx e => (by have := HO6'.out.lt e; omega))); obtain ⟨A7, c7, hv7, hc7, hc77⟩ := HO7.form; rw [HT3.out] at hv7; subst hv7; have HO7' := Lib.hid HO7; have K7' := Lib.hid K7; clear HO7 HK7 HA7 K7))
                        have HF : Hid (OwnL 69 2 RRef w7 w2.heap.size w2.heap.size (.slice A7 (0 + 1) c7) (sortR en (AU.take (i + 1)))) := by
                          show OwnL _ _ _ _ _ _ _ _
                          rw [HNX.out]
                          unfold insU
                          rw [HIK.out]
                          have h1 := (HO7'.out.lo_mono RRef.ok hz2D.out).base_mono hz2D.out
                          rw [List.append_assoc] at h1
                          exact h1
                        go_roundw
                        case rel => exact ⟨i + 1, by omega, by go_num, HF.out, K2D.out.tr K7'.out⟩
                        case measure => simp [intOf]; omega
                      | some al =>
                        obtain ⟨bl, rfl⟩ : ∃ bl, al = ⟨bl, 0, none⟩ := by
                          obtain ⟨ess, _, hrow, _⟩ := HOD.out
                          rcases hrow.2 with ⟨he, _⟩ | ⟨g, _, _, he, _⟩
                          · cases he
                          · injection he with he; injection he with he; exact ⟨g, he⟩
                        have SRC1 : Hid (RRefs WD (Old WD) [.slice (some ⟨bl, 0, none⟩) (acc.take 0).length cl] (acc.take 0)) := by
                          have := RSlice.head RACD.out hkl4
                          rw [HT1.out]; exact this
                        by_cases hcl3 : 0 < cl
                        · have SRC2 : Hid (RRefs WD (Old WD) [.slice (some ⟨bl, 0 * 2, none⟩) (acc.drop 0).length (cl - 0)] (acc.drop 0)) := by
                            have := RSlice.tail RACD.out hkl4
                            rw [Nat.zero_add] at this
                            rw [HT2.out]; exact this
                          go_wp2_with (first | (at_builtin; refine wpList_append_M tyRef RRef.ok RRef.one rfl (.const (.slice none 0 0)) (.tmp 109) rfl (OwnL.nil (base := WD.heap.size) (lo := WD.heap.size)) rfl (S := Old WD) (S2 := fun _ => False) (by rw [HT1.out]; rfl) SRC1.out (fun _ _ h => h) (fun _ h => h.elim) (by have := HT1.out; simp only [List.length_nil]; omega) (by have := HT1.out; simp only [List.length_nil]; omega) (Nat.le_refl _) ?_; intro v5 w5 HO5 HK5 HA5; rw [List.nil_append] at HO5; have K5 : KeepsAll WD w5 := HK5.mono (fun _ _ h => (by simp [Value.ownBlock] at h)); obtain ⟨A5, c5, hv5, hc5, hc55⟩ := HO5.form; rw [HT1.out] at hv5; subst hv5; have HO5' := Lib.hid HO5; have K5' := Lib.hid K5; have hz5 := K5.size; have d0 := K5.cellK (p := ⟨zb, 0, none⟩) hzD.out e0; have d1 := K5.cellK (p := ⟨zb, 1, none⟩) hzD.out e1; clear HO5 HK5 HA5 K5) | (at_builtin; refine wpList_append_L tyRef RRef.ok rfl (.tmp 111) (.tmp 113) rfl (HO5'.out.alloc RRef.ok _) rfl _ [.int .i64 (tu : Int), .int .i64 (ku : Int)] rfl (Blk.new' _ _ _ (by simp)) rfl ⟨(tu : Int), (ku : Int)⟩ (S := fun _ => False) rfl (fun _ h => h.elim) (by simp [Value.oneCell']) (by have := HT1.out; omega) (by have := HT1.out; omega) (by simp; omega) ?_; intro v6 w6 HO6 HK6 HA6; have K6 : KeepsAll WD w6 := ((K5'.out.alloc _).trans HK6 (fun x hx e => (by have := HO5'.out.lt e; omega))); obtain ⟨A6, c6, hv6, hc6, hc66⟩ := HO6.form; rw [List.length_append, List.length_singleton, HT1.out] at hv6; subst hv6; have HO6' := Lib.hid HO6; have K6' := Lib.hid K6; have hz6 := K6.size; have SRC3 := Lib.hid (K6.rdo' RRefs.ok SRC2.out); clear HO6 HK6 HA6 K6) | (at_builtin; refine wpList_append_M tyRef RRef.ok RRef.one rfl (.tmp 115) (.tmp 118) rfl HO6'.out rfl (S := Old w6) (S2 := fun _ => False) (by rw [HT2.out]; rfl) SRC3.out (fun _ _ h => h) (fun _ h => h.elim) (by have h1 := HT1.out; have h2 := HT2.out; rw [List.length_append, List.length_singleton]; omega) (by have h1 := HT1.out; have h2 := HT2.out; rw [List.length_append, List.length_singleton]; omega) (by omega) ?_; intro v7 w7 HO7 HK7 HA7; have K7 : KeepsAll WD w7 := (K6'.out.trans HK7 (fun x hx e => (by have := HO6'.out.lt e; omega))); obtain ⟨A7, c7, hv7, hc7, hc77⟩ := HO7.form; rw [HT3.out] at hv7; subst hv7; have HO7' := Lib.hid HO7; have K7' := Lib.hid K7; clear HO7 HK7 HA7 K7))
                          have HF : Hid (OwnL 69 2 RRef w7 w2.heap.size w2.heap.size (.slice A7 (acc.length + 1) c7) (sortR en (AU.take (i + 1)))) := by
                            show OwnL _ _ _ _ _ _ _ _
                            rw [HNX.out]
                            unfold insU
                            rw [HIK.out]
                            have h1 := (HO7'.out.lo_mono RRef.ok hz2D.out).base_mono hz2D.out
                            rw [List.append_assoc] at h1
                            exact h1
                          go_roundw
                          case rel => exact ⟨i + 1, by omega, by go_num, HF.out, K2D.out.tr K7'.out⟩
                          case measure => simp [intOf]; omega
                        · have SRC2 : Hid (RRefs WD (Old WD) [.slice (some ⟨bl, 0, none⟩) (acc.drop 0).length (cl - 0)] (acc.drop 0)) := by
                            have e : acc.drop 0 = [] := List.drop_of_length_le (by omega)
                            rw [e]; exact RSlice.none_ (by omega)
                          go_wp2_with (first | (at_builtin; refine wpList_append_M tyRef RRef.ok RRef.one rfl (.const (.slice none 0 0)) (.tmp 109) rfl (OwnL.nil (base := WD.heap.size) (lo := WD.heap.size)) rfl (S := Old WD) (S2 := fun _ => False) (by rw [HT1.out]; rfl) SRC1.out (fun _ _ h => h) (fun _ h => h.elim) (by have := HT1.out; simp only [List.length_nil]; omega) (by have := HT1.out; simp only [List.length_nil]; omega) (Nat.le_refl _) ?_; intro v5 w5 HO5 HK5 HA5; rw [List.nil_append] at HO5; have K5 : KeepsAll WD w5 := HK5.mono (fun _ _ h => (by simp [Value.ownBlock] at h)); obtain ⟨A5, c5, hv5, hc5, hc55⟩ := HO5.form; rw [HT1.out] at hv5; subst hv5; have HO5' := Lib.hid HO5; have K5' := Lib.hid K5; have hz5 := K5.size; have d0 := K5.cellK (p := ⟨zb, 0, none⟩) hzD.out e0; have d1 := K5.cellK (p := ⟨zb, 1, none⟩) hzD.out e1; clear HO5 HK5 HA5 K5) | (at_builtin; refine wpList_append_L tyRef RRef.ok rfl (.tmp 111) (.tmp 113) rfl (HO5'.out.alloc RRef.ok _) rfl _ [.int .i64 (tu : Int), .int .i64 (ku : Int)] rfl (Blk.new' _ _ _ (by simp)) rfl ⟨(tu : Int), (ku : Int)⟩ (S := fun _ => False) rfl (fun _ h => h.elim) (by simp [Value.oneCell']) (by have := HT1.out; omega) (by have := HT1.out; omega) (by simp; omega) ?_; intro v6 w6 HO6 HK6 HA6; have K6 : KeepsAll WD w6 := ((K5'.out.alloc _).trans HK6 (fun x hx e => (by have := HO5'.out.lt e; omega))); obtain ⟨A6, c6, hv6, hc6, hc66⟩ := HO6.form; rw [List.length_append, List.length_singleton, HT1.out] at hv6; subst hv6; have HO6' := Lib.hid HO6; have K6' := Lib.hid K6; have hz6 := K6.size; have SRC3 := Lib.hid (K6.rdo' RRefs.ok SRC2.out); clear HO6 HK6 HA6 K6) | (at_builtin; refine wpList_append_M tyRef RRef.ok RRef.one rfl (.tmp 115) (.tmp 118) rfl HO6'.out rfl (S := Old w6) (S2 := fun _ => False) (by rw [HT2.out]; rfl) SRC3.out (fun _ _ h => h) (fun _ h => h.elim) (by have h1 := HT1.out; have h2 := HT2.out; rw [List.length_append, List.length_singleton]; omega) (by have h1 := HT1.out; have h2 := HT2.out; rw [List.length_append, List.length_singleton]; omega) (by omega) ?_; intro v7 w7 HO7 HK7 HA7; have K7 : KeepsAll WD w7 := (K6'.out.trans HK7 (fun x hx e => (by have := HO6'.out.lt e; omega))); obtain ⟨A7, c7, hv7, hc7, hc77⟩ := HO7.form; rw [HT3.out] at hv7; subst hv7; have HO7' := Lib.hid HO7; have K7' := Lib.hid K7; clear HO7 HK7 HA7 K7))
                          have HF : Hid (OwnL 69 2 RRef w7 w2.heap.size w2.heap.size (.slice A7 (acc.length + 1) c7) (sortR en (AU.take (i + 1)))) := by
                            show OwnL _ _ _ _ _ _ _ _
                            rw [HNX.out]
                            unfold insU
                            rw [HIK.out]
                            have h1 := (HO7'.out.lo_mono RRef.ok hz2D.out).base_mono hz2D.out
                            rw [List.append_assoc] at h1
                            exact h1
                          go_roundw
                          case rel => exact ⟨i + 1, by omega, by go_num, HF.out, K2D.out.tr K7'.out⟩
                          case measure => simp [intOf]; omega
                · obtain rfl : i = AU.length := by omega
                  rw [List.take_length] at HOL hcl hsl ⊢
                  have hsrl : (sortR en AU).length = AU.length := (sortR_perm en AU).length_eq
                  have HO3 := Lib.hid (HO2.out.keeps ROrder.ok K3.out (fun _ _ h => h.elim))
                  by_cases g6 : 0 < AU.length
                  · have HQ2 : Hid (ordersTo ps en (r + 1) = OS ++ [⟨(r : Int), sortR en AU⟩]) := by show _ = _; rw [HQ.out, if_pos g6]
                    have HRR : Hid (RRefs wr (fun b => w2.heap.size ≤ b ∧ b < wr.heap.size) [.slice Al (sortR en AU).length cl] (sortR en AU)) := HOL.out.read RRef.ok (by omega) (fun _ a b => ⟨a, b⟩) (fun _ a b => ⟨a, b⟩)
                    have g6' : 0 < (sortR en AU).length := by omega
                    have FAR : Hid (∀ b, w2.heap.size ≤ b → (Value.slice Ao OS.length co).ownBlock ≠ some b) := fun b hb e => by have := HO2.out.lt e; omega
                    generalize sortR en AU = SR at *
                    clear hsrl HQ
                    go_wp2_with (at_builtin; refine wpList_append_L tyOrder ROrder.ok rfl (.tmp 124) (.tmp 128) rfl (HO3.out.alloc ROrder.ok _) rfl _ [.int .i64 (r : Int), .slice Al SR.length cl] rfl (Blk.new' _ _ _ (by simp)) rfl ⟨(r : Int), SR⟩ (S := fun b => w2.heap.size ≤ b ∧ b < wr.heap.size) ⟨_, rfl, ((Keeps.refl (fun _ => False) wr).alloc _).rd RRefs.ok HRR.out (fun b hb => ⟨hb.2, by simp⟩) (fun _ h => h)⟩ (fun b hb => ⟨by have := hb.1; omega, by have := hb.2; simp; omega, FAR.out b hb.1⟩) (by simp [Value.oneCell']) (by omega) (by omega) (by simp; omega) ?_; intro v7 w7 HO7 HK7 HA7; obtain ⟨A7, c7, hv7, hv71, hv72⟩ := HO7.form; rw [List.length_append, List.length_singleton] at hv7; subst hv7)
                    go_roundw
                    case rel => exact ⟨r + 1, by omega, by go_num, by rw [HQ2.out]; exact HO7, (((KR2.out.tr K3.out).alloc _).trans HK7 (fun x hx e => by have := HO2.out.lt e; omega))⟩
                    case measure => simp [intOf]; omega
                  · have HQ2 : Hid (ordersTo ps en (r + 1) = OS) := by show _ = _; rw [HQ.out, if_neg g6, List.append_nil]
                    have g6' : (sortR en AU).length ≤ 0 := by omega
                    clear hsrl HQ
                    go_wp2
                    go_roundw
                    case rel => exact ⟨r + 1, by omega, by go_num, by rw [HQ2.out]; exact HO3.out, KR2.out.tr K3.out⟩
                    case measure => simp [intOf]; omega
            · obtain rfl : r = 144 := by omega
              go_wp2
              go_ret2
              rw [Q.out]
              exact ⟨_, rfl, HO.out.read ROrder.ok (by omega) (S := Old wr) (fun _ _ h => h) (fun _ _ h => h), KM.out.tr KR.out⟩
    · have g2' : ((en.length : Int) != (ps.length : Int)) = true := by simp; omega
      have Q := Lib.hid (BAD.out (by simp [sortOk, g2]))
      clear g2
      go_wp2
      go_ret2
      rw [Q.out]
      exact ⟨_, rfl, RSlice.mkNil, K1.out⟩
  · have g1' : valid ps = false := by simpa using g1
    have Q := Lib.hid (BAD.out (by simp [sortOk, g1']))
    go_enter Tryz.func12, Tryz.ntmps12
    go_wp2_with (go_at_call 25; refine (RefValid_any ps A c w H.out).mono ?_; rintro e w1 ⟨rfl, k1⟩; rw [g1'])
    go_ret2
    rw [Q.out]
    exact ⟨_, rfl, RSlice.mkNil, k1⟩

end Go.Proofs.YtbfgmbakeofcbaaGreat
