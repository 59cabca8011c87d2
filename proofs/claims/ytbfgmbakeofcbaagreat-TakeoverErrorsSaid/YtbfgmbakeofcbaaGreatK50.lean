/- Contract of the reference's Orders of chapter 38 at made paths: it returns takeP. Conditions: as each theorem says. -/
import Derived.Test.YtbfgmbakeofcbaaGreatK41
import Derived.Test.YtbfgmbakeofcbaaGreatK35
import Derived.Test.YtbfgmbakeofcbaaGreatK32
import Derived.Test.YtbfgmbakeofcbaaGreatK29
import Derived.Test.YtbfgmbakeofcbaaGreatK36
import Derived.Test.YtbfgmbakeofcbaaGreatK49
namespace Go.Proofs.YtbfgmbakeofcbaaGreat
open Go.RowKit

/-- a row in a block of its own, by its block and length -/
def RPtrE : Rd (Nat × Nat) := fun _ _ cs q => cs = [.slice (some ⟨q.1, 0, none⟩) q.2 q.2]
theorem RPtrE.ok : Rd.Ok RPtrE := ⟨fun h _ _ => h⟩
theorem RPtrE.flat : Rd.Flat RPtrE := fun _ _ _ _ _ _ h => h
theorem tyIntsE : ElemTy Tryz.prog 35 23 1 24 := .mk' Tryz.underlying35 (z := .slice none 0 0) (by kernel_rfl) rfl (by omega)
def ptrsE (ps : List (List Stage)) (gs : Nat → Nat) (m : Nat) : List (Nat × Nat) := (List.range m).map fun t => (gs t, lenAt ps t)
theorem ptrsE_succ (ps : List (List Stage)) (gs : Nat → Nat) (m g : Nat) : ptrsE ps (gsAdd gs m g) (m + 1) = ptrsE ps gs m ++ [(g, lenAt ps m)] := by
  unfold ptrsE
  rw [List.range_succ, List.map_append]
  congr 1
  · apply List.map_congr_left
    intro t ht
    have := List.mem_range.1 ht
    unfold gsAdd; rw [if_neg (by omega)]
  · unfold gsAdd; simp
/-- the first m rows of a table that grows by append -/
structure Tg (ps : List (List Stage)) (w wr : World) (v : Value) (m : Nat) (gs : Nat → Nat) (T : Tab) : Prop where
  o : OwnL 23 1 RPtrE wr w.heap.size w.heap.size v (ptrsE ps gs m)
  r : ∀ t, t < m → Blk wr (gs t) 3 (cellsI (rowS ps T t))
  inj : ∀ t u, t < m → u < m → gs t = gs u → t = u
  lo : ∀ t, t < m → w.heap.size ≤ gs t
  k : KeepsAll w wr
section
variable {ps : List (List Stage)} {w wr w' w9 : World} {v v9 : Value} {m : Nat} {gs : Nat → Nat} {T : Tab}
theorem Tg.keep (h : Tg ps w wr v m gs T) (k : KeepsAll wr w') : Tg ps w w' v m gs T :=
  ⟨h.o.keeps RPtrE.ok k (fun _ _ h => h.elim), fun t ht => (h.r t ht).kept k (by simp), h.inj, h.lo, h.k.tr k⟩
theorem Tg.add (h : Tg ps w wr v m gs T) (k : KeepsAll wr w') {g : Nat} (hg : wr.heap.size ≤ g) (hb : Blk w' g 3 (cellsI (rowS ps T m))) (ho : OwnL 23 1 RPtrE w9 w.heap.size w.heap.size v9 (ptrsE ps gs m ++ [(g, lenAt ps m)])) (hk : Keeps (fun b => v.ownBlock = some b) w' w9) : Tg ps w w9 v9 (m + 1) (gsAdd gs m g) T := by
  have h' := h.keep k
  have hgs : ∀ t, t < m → gs t < wr.heap.size := fun t ht => (h.r t ht).lt
  have hw := h.k.size
  refine ⟨by rw [ptrsE_succ]; exact ho, fun t ht => ?_, fun t u ht hu he => ?_, fun t ht => ?_, h'.k.trans hk (fun x hx e => by have := h.o.lt e; omega)⟩
  · unfold gsAdd
    by_cases e : t = m
    · subst e; rw [if_pos rfl]; exact hb.kept hk (h'.o.ne_blk hb (by decide))
    · rw [if_neg e]; exact (h'.r t (by omega)).kept hk (h'.o.ne_blk (h'.r t (by omega)) (by decide))
  · unfold gsAdd at he
    by_cases e1 : t = m
    · by_cases e2 : u = m
      · omega
      · rw [if_pos e1, if_neg e2] at he
        have := hgs u (by omega); omega
    · by_cases e2 : u = m
      · rw [if_neg e1, if_pos e2] at he
        have := hgs t (by omega); omega
      · rw [if_neg e1, if_neg e2] at he
        exact h.inj t u (by omega) (by omega) he
  · unfold gsAdd
    by_cases e1 : t = m
    · rw [if_pos e1]; omega
    · rw [if_neg e1]; exact h.lo t (by omega)
theorem Tg.toTe (h : Tg ps w wr v ps.length gs T) (h1 : 1 ≤ ps.length) : ∃ N c, v = .slice (some ⟨N, 0, none⟩) ps.length c ∧ ps.length ≤ c ∧ c ≤ 9223372036854775807 ∧ Te ps w wr N ps.length gs T := by
  have hl : (ptrsE ps gs ps.length).length = ps.length := by simp [ptrsE]
  obtain ⟨A, c, rfl, hc1, hc2⟩ := h.o.form
  rw [hl] at hc1
  have ho := h.o
  obtain ⟨ess, h2, h3, h4⟩ := ho
  rcases h3.2 with ⟨e, hn⟩ | ⟨g, cap, cur, e, hb, hh, _⟩
  · omega
  · injection e with e1 e2 e3
    subst e1
    have hr := h.o.readF RPtrE.ok RPtrE.flat (S := fun b => b = g) (fun b hb => by simpa [Value.ownBlock] using hb.symm)
    refine ⟨g, c, by rw [hl], hc1, hc2, ⟨⟨cur, hh, fun t ht => ?_⟩, h.r, h.inj, h.lo, hb, h.k⟩⟩
    obtain ⟨b, o, x, es, hA, _, hx, _, he, hcell⟩ := hr.get (k := t) (by rw [hl]; exact ht)
    injection hA with hA; injection hA with hA1 hA2; subst hA1 hA2
    have hx' : (ptrsE ps gs ps.length)[t]? = some (gs t, lenAt ps t) := by simp [ptrsE, ht]
    rw [hx'] at hx
    injection hx with hx
    subst hx
    cases he
    have hc := hcell 0 _ rfl
    have hB : Blk wr g 23 cur := hh
    rw [hB.cell] at hc
    unfold slE
    simpa using hc
end
theorem fill_zero {l : List Int} {k : Nat} (hx : l[k]? = some 0) : l.take (k + 1) ++ List.replicate (l.length - (k + 1)) 0 = l.take k ++ List.replicate (l.length - k) 0 := by
  have hk := getElem?_lt hx
  rw [List.take_add_one, hx, Option.toList_some, List.append_assoc, show l.length - k = (l.length - (k + 1)) + 1 from by omega, List.replicate_succ]; rfl

set_option maxRecDepth 100000 in
set_option maxHeartbeats 4000000 in
theorem RefOrders_moves (ps : List (List Stage)) (os : List Order) (at_ : List Int) (budget : Int) (A A2 A3 : Option Addr) (c c2 c3 : Nat) (w : World) (h1 : 1 ≤ ps.length) (h : RPaths w (Old w) [.slice A ps.length c] ps) (h2 : ROrders w (Old w) [.slice A2 os.length c2] os) (h3 : RInts w (Old w) [.slice A3 at_.length c3] at_)
    (hck : checkO ps os = true) (hcs : checkState ps at_ = 0) (hb : 1 ≤ budget ∧ budget ≤ 1048576) (hok : okP ps os at_ = false) (hsr : (searchP ps at_ budget).2.2 = 0) :
    Calls Tryz.prog 10 #[.slice A ps.length c, .slice A2 os.length c2, .slice A3 at_.length c3, .int .i64 budget] w fun e w' => ∃ v, e = .returned (.tuple #[v, .int .i64 (searchP ps at_ budget).2.1, .int .i64 0]) ∧ ROrders w' (Old w') [v] ((restP ps os at_).map (sortTO (entL ps at_ (searchP ps at_ budget).1))) ∧ KeepsAll w w' := by
  have HCK := Lib.hid (RefCheck_any ps os A A2 c c2 w h h2)
  obtain ⟨hv, hgd, _⟩ := checkState_zero hcs
  have HV := Lib.hid hv
  have HG := Lib.hid (good_Gd.1 hgd)
  have Q : Hid ((lineP ps os at_).2 = false) := by show _ = _; unfold lineP; rw [hck, hgd, hok]; rfl
  have H := Lib.hid h; have H2 := Lib.hid h2; have H3 := Lib.hid h3
  have hc := h.caps
  have hc3 := h3.caps
  have b1 : decide (budget < 1) = false := by simp; omega
  have b2 : decide (budget > 1048576) = false := by simp; omega
  have hmv := searchP_ok (good_Gd.1 hgd) hsr
  have HSR := Lib.hid (RSearch_any ps at_ budget A A3 c c3)
  rw [hsr] at HSR
  rw [hck] at HCK
  generalize (searchP ps at_ budget).1 = mv at *
  generalize (searchP ps at_ budget).2.1 = sn at *
  have hml : mv.length ≤ 1000 := by
    have h1 := legal_len mv at_ HG.out hmv.1
    have h2 := total_le hv HG.out
    omega
  have HTO := Lib.hid (take_orders hck hcs hmv.1 hmv.2)
  have HES := Lib.hid (entG_same HG.out hmv.1 hmv.2)
  have HLA := Lib.hid (legal_at mv at_ HG.out hmv.1)
  have HLEN := Lib.hid (fun t => lenAt_le hv t)
  have hl10 := (valid_lens hv).1
  have hal : at_.length = ps.length := HG.out.1
  have al1 : at_.length ≤ ps.length := by omega
  have al2 : ps.length ≤ at_.length := by omega
  have HAL := Lib.hid hal
  have hH1 := Lib.hid h1
  clear h h2 h3 hok hck hv hgd hsr hmv hal
  go_enter Tryz.func10, Tryz.ntmps10
  go_wp2_with fail
  refine HCK.out.mono ?_
  rintro e w1 ⟨rfl, k1⟩
  have K1 := Lib.hid k1; clear k1 HCK
  go_wp2_with fail
  refine (CheckState_any ps at_ A A3 c c3 w1 (K1.out.rdo' RPaths.ok H.out) (K1.out.rdo' RInts.ok H3.out)).mono ?_
  rintro e w2 ⟨rfl, k2⟩
  rw [hcs]
  have K2 := Lib.hid (K1.out.tr k2); clear k2 K1 hcs
  go_wp2_with fail
  refine (RefLine_any ps os at_ A A2 A3 c c2 c3 w2 hH1.out (K2.out.rdo' RPaths.ok H.out) (K2.out.rdo' ROrders.ok H2.out) (K2.out.rdo' RInts.ok H3.out)).mono ?_
  rintro e w4 ⟨v4, rfl, r4, k4⟩
  rw [Q.out]
  have K4 := Lib.hid (K2.out.tr k4)
  clear k4 r4 K2
  go_wp2_with fail
  refine (HSR.out w4 (K4.out.rdo' RPaths.ok H.out) (K4.out.rdo' RInts.ok H3.out)).mono ?_
  rintro e w5 ⟨v5, rfl, r5, k5⟩
  obtain ⟨B5, d5, rfl, hd51, hd52⟩ := r5.val
  have K5 := Lib.hid (K4.out.tr k5)
  have M5 := Lib.hid (RInts.ok.mono r5 (S' := Old w5) (fun b hb => hb.2) (fun _ _ => rfl))
  have P5 := Lib.hid (K5.out.rdo' RPaths.ok H.out)
  have A5 := Lib.hid (K5.out.rdo' RInts.ok H3.out)
  clear k5 r5 K4 HSR
  go_wp2
  go_loopw [17, 68] (fun v i wr => ∃ (m : Nat) (gs : Nat → Nat), m ≤ ps.length ∧ i = .int .i64 (m : Int) ∧ Tg ps w5 wr v m gs (T0R at_)) (fun _ i _ => ps.length - (intOf i).toNat)
  case atStart => exact ⟨0, fun _ => 0, Nat.zero_le _, rfl, ⟨OwnL.nil, fun t ht => by omega, fun t u ht => by omega, fun t ht => by omega, Keeps.refl _ _⟩⟩
  case round =>
    obtain ⟨m, gs, hm, rfl, htf⟩ := hrel
    obtain ⟨Aa, ca, rfl, hca, hca2⟩ := htf.o.form
    have hpl : (ptrsE ps gs m).length = m := by simp [ptrsE]
    rw [hpl] at hca ⊢
    have HTF := Lib.hid htf
    have KT := Lib.hid htf.k
    have hsz := htf.k.size
    rw [hpl] at HTF
    clear htf
    by_cases hlt : m < ps.length
    · obtain ⟨b, o, p, A', c', hbo, hb, hp, k1, hr⟩ := RSS.atK KT.out P5.out hlt
      subst hbo
      have hcp := hr.caps
      have el := lenAt_of hp
      have hl64 := HLEN.out m
      rw [el] at hl64
      obtain ⟨ba, oa, xa, hbo, hba, hxa, r0⟩ := A5.out.at_ (k := m) (by omega)
      subst hbo
      have HRW : Hid (∀ k : Nat, k < p.length → (rowS ps (T0R at_) m)[k]? = some (if (k : Int) ≤ xa then -1 else 0)) := fun k hk => by
        rw [rowS_at _ (by rw [el]; exact hk)]
        unfold T0R
        simp only [Int.toNat_natCast, nowAt_of hxa]
      have HRL : Hid ((rowS ps (T0R at_) m).length = p.length) := by show _ = _; rw [rowS_len, el]
      have HEL := Lib.hid el
      have HLP : Hid ((ptrsE ps gs m).length = m) := hpl
      clear hr hp hxa el hpl
      have hmk := mkInts p.length (by omega)
      have hdm : decide ((m : Int) < (ps.length : Int)) = true := by simp; omega
      obtain ⟨w0, rfl⟩ : ∃ w0 : World, w0 = wr := ⟨_, rfl⟩
      go_wp2
      generalize hW3 : World.alloc w0 _ = W3
      have KW3 : Hid (KeepsAll w0 W3) := by subst hW3; exact (Keeps.refl _ _).alloc _
      have BR : Hid (Blk W3 w0.heap.size 3 (cellsI ((rowS ps (T0R at_) m).take 0 ++ List.replicate ((rowS ps (T0R at_) m).length - 0) 0))) := by subst hW3; show Blk _ _ _ _; rw [HRL.out]; simpa using Blk.new _ _ _
      clear hW3 k1 hb hmk
      generalize hz : w0.heap.size = zr at *
      have HZ := Lib.hid hz; clear hz
      generalize hRR : rowS ps (T0R at_) m = RR at *
      have HRR := Lib.hid hRR; clear hRR
      go_loopw [78] (fun v wr => ∃ k : Nat, k ≤ p.length ∧ v = .int .i64 (k : Int) ∧ Blk wr zr 3 (cellsI (RR.take k ++ List.replicate (RR.length - k) 0)) ∧ KeepsAll w0 wr) (fun v _ => p.length - (intOf v).toNat)
      case atStart => exact ⟨0, Nat.zero_le _, rfl, BR.out, KW3.out⟩
      case round =>
        obtain ⟨k, hk, rfl, hbk, hkr⟩ := hrel
        have KR := Lib.hid hkr; clear hkr
        by_cases hltk : k < p.length
        · have hkL : k < RR.length := by rw [HRL.out]; exact hltk
          have hx := HRW.out k (by omega)
          have q0 := hbk.cell k
          have q1 := hbk.frozen k
          have hqz := hbk.lt
          rw [cellsI_at (fill_at RR 0 hkL)] at q0
          have r1 := (KT.out.tr KR.out).cellK (p := ⟨ba, oa + m, none⟩) hba r0
          have hba2 : ba < wr.heap.size := Nat.lt_of_lt_of_le hba (KT.out.tr KR.out).size
          have hdk : decide ((k : Int) < (p.length : Int)) = true := by simp; omega
          by_cases gk : (k : Int) ≤ xa
          · rw [if_pos gk] at hx
            have HN : Hid (Blk (wr.setCell ⟨zr, k, none⟩ (.int .i64 (-1))) zr 3 (cellsI (RR.take (k + 1) ++ List.replicate (RR.length - (k + 1)) 0)) ∧ KeepsAll w0 (wr.setCell ⟨zr, k, none⟩ (.int .i64 (-1)))) := by
              refine ⟨?_, KR.out.setCell (fun h => absurd h (by have := HZ.out; simp; omega)) _⟩
              have q := hbk.set_ k (.int .i64 (-1))
              rw [cellsI_set, fill_set RR 0 _ hx] at q
              exact q
            have gk' : decide ((k : Int) ≤ xa) = true := by simpa using gk
            clear hbk hx gk
            go_wp2
            go_roundw
            case rel => exact ⟨k + 1, by omega, by go_num, HN.out.1, HN.out.2⟩
            case measure => simp [intOf]; omega
          · rw [if_neg gk] at hx
            have HN : Hid (Blk wr zr 3 (cellsI (RR.take (k + 1) ++ List.replicate (RR.length - (k + 1)) 0))) := by
              show Blk _ _ _ _
              rw [fill_zero hx]; exact hbk
            have gk' : decide ((k : Int) ≤ xa) = false := by simpa using gk
            clear hbk hx gk
            go_wp2
            go_roundw
            case rel => exact ⟨k + 1, by omega, by go_num, HN.out, KR.out⟩
            case measure => simp [intOf]; omega
        · obtain rfl : k = p.length := by omega
          have e : RR.take p.length ++ List.replicate (RR.length - p.length) 0 = RR := by rw [← HRL.out]; exact fill_done RR 0
          rw [e, ← HRR.out] at hbk
          have HBK := Lib.hid hbk
          clear hbk e
          have HT2 := Lib.hid (HTF.out.keep KR.out)
          have hzz := KR.out.size
          have HWB : Hid (∀ w9 v9, OwnL 23 1 RPtrE w9 w5.heap.size w5.heap.size v9 (ptrsE ps gs m ++ [(zr, p.length)]) → Keeps (fun b => (Value.slice Aa m ca).ownBlock = some b) (wr.alloc (.cells #[.slice (some ⟨zr, 0, none⟩) p.length p.length] 23)) w9 → Tg ps w5 w9 v9 (m + 1) (gsAdd gs m zr) (T0R at_)) := fun w9 v9 ho hk => by
            rw [← HEL.out] at ho
            exact HTF.out.add (KR.out.alloc _) (g := zr) (by rw [HZ.out]; exact Nat.le_refl _) (HBK.out.alloc _) ho hk
          have hwz : w5.heap.size ≤ wr.heap.size := by have := HZ.out; omega
          have hdk : decide ((p.length : Int) < (p.length : Int)) = false := by simp
          go_wp2_with (at_builtin; refine wpList_append_L tyIntsE RPtrE.ok rfl (.tmp 91) (.tmp 93) rfl (HT2.out.o.alloc RPtrE.ok _) rfl _ [.slice (some ⟨zr, 0, none⟩) p.length p.length] rfl (Blk.new' _ _ _ (by simp)) rfl (zr, p.length) (S := fun _ => False) rfl (fun _ h => h.elim) (by simp [Value.oneCell']) (by have := HLP.out; omega) (by have := HLP.out; omega) (by simp; omega) ?_; intro v9 w9 HO9 HK9 HA9; have HF9 := Lib.hid (HWB.out w9 v9 HO9 HK9); clear HO9 HK9 HA9)
          go_roundw
          case rel => exact ⟨m + 1, _, by omega, by go_num, HF9.out⟩
          case measure => simp [intOf]; omega
    · obtain rfl : m = ps.length := by omega
      obtain ⟨N, cN, hvN, hcN1, hcN2, htb⟩ := HTF.out.toTe hH1.out
      injection hvN with hvN1 _ hvN3
      subst hvN1 hvN3
      have HTB := Lib.hid htb
      have hNw := htb.nlt
      clear htb HTF KT hlt hpl
      have hdm : decide ((ps.length : Int) < (ps.length : Int)) = false := by simp
      obtain ⟨w6, hw6⟩ : ∃ w6 : World, w6 = wr := ⟨_, rfl⟩
      rw [← hw6] at HTB hNw hsz ⊢
      clear hw6
      go_wp2_with (at_builtin; refine wpList_append_M tyInt RInt.ok RInt.one rfl (.const (.slice none 0 0)) (.tmp 96) rfl (OwnL.nil (base := w6.heap.size) (lo := w6.heap.size)) rfl rfl (S := Old w6) (S2 := fun _ => False) (HTB.out.k.rdo' RInts.ok A5.out) (fun _ _ h => h) (fun _ h => h.elim) (by simp; omega) (by simp; omega) (Nat.le_refl _) ?_; intro v7 w7 HO7 HK7 HA7; rw [List.nil_append] at HO7; have K7 : KeepsAll w6 w7 := HK7.mono (fun _ _ h => (by simp [Value.ownBlock] at h)); obtain ⟨A7, c7, hv7, hc71, hc72⟩ := HO7.form; subst hv7; have HO7' := Lib.hid HO7; have K7' := Lib.hid K7; clear HO7 HK7 HA7 K7)
      obtain ⟨g, hg, hgb⟩ := HO7'.out.some_ (by omega)
      subst hg
      have HTB7 := Lib.hid (HTB.out.keep K7'.out)
      have HNG : Hid (N ≠ g ∧ (∀ t, t < ps.length → gs t ≠ g) ∧ w5.heap.size ≤ g) := ⟨by omega, fun t ht => by have := (HTB.out.r t ht).lt; omega, by omega⟩
      go_loopw [100] (fun v wr => ∃ j : Nat, j ≤ mv.length ∧ v = .int .i64 (j : Int) ∧ Te ps w5 wr N ps.length gs (entG ps at_ mv (T0R at_) j) ∧ OwnL 3 1 RInt wr w6.heap.size w6.heap.size (.slice (some ⟨g, 0, none⟩) at_.length c7) (runM at_ (mv.take j))) (fun v _ => mv.length - (intOf v).toNat)
      case atStart => exact ⟨0, Nat.zero_le _, rfl, HTB7.out, HO7'.out⟩
      case round =>
        clear HTB7 HO7'
        obtain ⟨j, hj, rfl, hte, hon⟩ := hrel
        have HTE := Lib.hid hte
        have HON := Lib.hid hon
        clear hte hon
        by_cases hltj : j < mv.length
        · obtain ⟨b3, o3, x, hbo, hb3, hx, k3⟩ := RInts.atK HTE.out.k M5.out hltj
          subst hbo
          obtain ⟨hgn, t, rfl, ht, hcm⟩ := HLA.out j x hx
          have hlt2 := canMv_lt hcm
          have hGt := hgn.2 t ht
          have HRS : Hid (runM at_ (mv.take (j + 1)) = stepN (runM at_ (mv.take j)) t) := by
            show _ = _
            rw [run_take_succ hx]; simp
          have HEN : Hid (entG ps at_ mv (T0R at_) (j + 1) = if nowAt (runM at_ (mv.take j)) t + 1 < lenAt ps t then upd (entG ps at_ mv (T0R at_) j) ⟨(t : Int), nowAt (runM at_ (mv.take j)) t + 1⟩ (j : Int) else entG ps at_ mv (T0R at_) j) := by
            show _ = _
            simp only [entG, hx, Option.getD_some, Int.toNat_natCast]
          obtain ⟨b, o, p, A', c', hbo, hb, hp, k1, hr⟩ := RSS.atK HTE.out.k P5.out ht
          subst hbo
          have hcp := hr.caps
          have hl64 := HLEN.out t
          have HEL := Lib.hid (lenAt_of hp)
          rw [lenAt_of hp] at hlt2 hGt hl64 HEN
          have hnl : t < (runM at_ (mv.take j)).length := by rw [hgn.1]; exact ht
          have htal : t < at_.length := by omega
          obtain ⟨b6, o6, x6, hbo6, _, hx6, r0⟩ := RInts.at_ (HON.out.read RInt.ok (by omega) (S := Old wr) (fun _ _ h => h) (fun _ _ h => h)) hnl
          injection hbo6 with hbo6
          injection hbo6 with e61 e62
          subst e61 e62
          rw [Nat.zero_add, ← nowAt_of hx6] at r0
          have r1 := HON.out.frz t
          have r2 := (HON.out.lt (b := g) rfl).2
          clear hr hx hcm hgn hnl hx6
          generalize hnow : runM at_ (mv.take j) = now at *
          clear hnow
          obtain ⟨q, hq⟩ := Int.eq_ofNat_of_zero_le (by omega : 0 ≤ nowAt now t + 1)
          have hs1 : IntKind.i64.wrap (nowAt now t + 1) = (q : Int) := by rw [hq]; exact IntWalk.i64_in _ (by omega)
          have HST : Hid (stepN now t = now.set t (q : Int)) := by show _ = _; unfold stepN; rw [hq]
          rw [hq] at HEN
          have hq64 : q ≤ 65 := by omega
          have HQ := Lib.hid hq
          clear hq hlt2 hGt
          generalize nowAt now t = nt at *
          have HT1 := Lib.hid (HTE.out.far (p := ⟨g, t, none⟩) HNG.out.1 HNG.out.2.1 HNG.out.2.2 (.int .i64 (q : Int)))
          have HO1 := Lib.hid (HON.out.setI t (q : Int))
          rw [← HST.out, ← HRS.out] at HO1
          have hdk : decide ((j : Int) < (mv.length : Int)) = true := by simp; omega
          go_wp2
          generalize hW1 : World.setCell wr _ _ = w1
          rw [hW1] at HT1 HO1
          have r0' : w1.cell? ⟨g, t, none⟩ = some (.int .i64 (q : Int)) := by rw [← hW1]; exact World.cell?_setCell_same _ _ _ r0
          obtain ⟨b4, o4, p4, A4', c4', hbo4, hb4, hp4, k4, hr4⟩ := RSS.atK HT1.out.k P5.out ht
          injection hbo4 with hbo4
          injection hbo4 with e41 e42
          subst e41 e42
          obtain rfl := same_of hp4 hp
          have hcp4 := hr4.caps
          have hzw1 := HO1.out.lt (b := g) rfl
          clear hW1 HTE HON r0 r1 k1 k3 hb3 hb hp hp4 hr4
          go_quiet (fail)
          generalize hWx : World.drewN w1 _ = wx
          have KX : KeepsAll w1 wx := by subst hWx; exact (Keeps.refl _ _).drewN _
          have HTX := Lib.hid (HT1.out.keep KX)
          have HOX := Lib.hid (HO1.out.keeps RInt.ok KX (fun _ _ h => h.elim))
          replace r0' := KX.cellK (p := ⟨g, t, none⟩) hzw1.2 r0'
          clear hWx KX HT1 HO1 k4 hb4 hzw1
          by_cases g1 : q < p4.length
          · have g1' : decide (q < p4.length) = true := by simpa using g1
            rw [if_pos (by omega)] at HEN
            have e0 := HTX.out.outer ht
            unfold slE at e0
            rw [HEL.out] at e0
            have e1 := HTX.out.inner (k := q) ht (by rw [HEL.out]; exact g1)
            have hzg := (HTX.out.r t ht).lt
            have HN2 : Hid (∀ W, KeepsAll wx W → Te ps w5 (W.setCell ⟨gs t, q, none⟩ (.int .i64 (j : Int))) N ps.length gs (entG ps at_ mv (T0R at_) (j + 1)) ∧ OwnL 3 1 RInt (W.setCell ⟨gs t, q, none⟩ (.int .i64 (j : Int))) w6.heap.size w6.heap.size (.slice (some ⟨g, 0, none⟩) at_.length c7) (runM at_ (mv.take (j + 1))) ∧ W.frozen? ⟨gs t, q, none⟩ = false) := fun W hW => by
              refine ⟨?_, ?_, ((HTX.out.keep hW).r t ht).frozen q⟩
              · rw [HEN.out]; exact (HTX.out.keep hW).set ht (j : Int)
              · exact (HOX.out.keeps RInt.ok hW (fun _ _ h => h.elim)).keepsF RInt.flat ((Keeps.refl (fun b => b = gs t) W).setCell (p := ⟨gs t, q, none⟩) (fun _ => rfl) _) (fun b hb e => by
                  have hb' : g = b := by simpa [Value.ownBlock] using hb
                  exact HNG.out.2.1 t ht (by rw [hb']; exact e.symm))
            go_wp2
            refine wp_region_lex (fun w' => ∃ x : Ext wx, w' = x.val) [0, 1, 2, 3, 4, 5, 6, 7, 8, 9, 10] (by kernel_rfl) (by kernel_rfl) ⟨⟨_, (Keeps.refl _ _).drew⟩, rfl⟩ ?_
            have x0 := Ext.cell r0'
            have x1 := Ext.cell e0
            iterate 10 (refine lex_q _ rfl rfl rfl ?_; go_big_quiet_step (fail); refine wpQuiet_nil ?_)
            refine lex_a _ rfl rfl false (by kernel_rfl) ?_
            obtain ⟨wd, hwd⟩ : ∃ wd : World, wd = wx.drew := ⟨_, rfl⟩
            have KD : KeepsAll wx wd := by subst hwd; exact (Keeps.refl _ _).drew
            replace e1 := KD.cellK (p := ⟨gs t, q, none⟩) hzg e1
            have hzg2 : gs t < wd.heap.size := Nat.lt_of_lt_of_le hzg KD.size
            have HFN := Lib.hid (HN2.out wd KD)
            obtain ⟨-, -, s1⟩ := HN2.out wd KD
            rw [← hwd]
            clear hwd x0 x1 r0' e0 KD HN2
            go_wp2
            (try refine ⟨fun h => (by cases h), ?_⟩)
            simp only [wpLex]
            refine NoPanic.normal ?_
            go_wp2
            go_roundw
            case rel => exact ⟨j + 1, by omega, by go_num, HFN.out.1, HFN.out.2.1⟩
            case measure => simp [intOf]; omega
          · have g1' : decide (q < p4.length) = false := by simpa using g1
            rw [if_neg (by omega)] at HEN
            rw [← HEN.out] at HTX
            clear HEN r0'
            go_wp2
            go_roundw
            case rel => exact ⟨j + 1, by omega, by go_num, HTX.out, HOX.out⟩
            case measure => simp [intOf]; omega
        · obtain rfl : j = mv.length := by omega
          have hdk : decide ((mv.length : Int) < (mv.length : Int)) = false := by simp
          have hen : (entL ps at_ mv).length = ps.length := tabS_len _ _
          have HRD : Hid (RIntss wr (Old wr) [.slice (some ⟨N, 0, none⟩) ps.length ca] (entL ps at_ mv)) := by
            have := HTE.out.read hcN1 hcN2 (fun t => by have := HLEN.out t; omega)
            rw [HES.out] at this
            exact this
          have K9 := Lib.hid (K5.out.tr HTE.out.k)
          have P9 := Lib.hid (HTE.out.k.rdo' RPaths.ok P5.out)
          have A9 := Lib.hid (HTE.out.k.rdo' RInts.ok A5.out)
          have HSO : Hid (Calls Tryz.prog 12 #[.slice A ps.length c, .slice (some ⟨N, 0, none⟩) ps.length ca] wr fun e w' => ∃ v, e = .returned (.tuple #[v, .int .i64 (sortO ps (entL ps at_ mv)).2]) ∧ ROrders w' (Old w') [v] (sortO ps (entL ps at_ mv)).1 ∧ KeepsAll wr w') := by
            show Calls _ _ _ _ _
            have := RefSort_any ps (entL ps at_ mv) A (some ⟨N, 0, none⟩) c ca wr P9.out
            rw [hen] at this
            exact this HRD.out
          clear HTE HON HRD P5 A5 hen
          go_wp2_with fail
          refine HSO.out.mono ?_
          rintro e w10 ⟨v10, rfl, r10, k10⟩
          generalize (sortO ps (entL ps at_ mv)).1 = so at *
          generalize (sortO ps (entL ps at_ mv)).2 = sc at *
          obtain ⟨B10, d10, rfl, _, _⟩ := r10.val
          have R10 := Lib.hid r10
          have K10 := Lib.hid k10
          clear r10 k10 HSO
          go_wp2_with fail
          refine (RefRest_any ps so at_ A B10 A3 c d10 c3 w10 (K10.out.rdo' RPaths.ok P9.out) R10.out (K10.out.rdo' RInts.ok A9.out)).mono ?_
          rintro e w11 ⟨v11, rfl, r11, k11⟩
          rw [HTO.out] at r11
          have R11 := Lib.hid r11
          have K11 := Lib.hid (K9.out.tr (K10.out.tr k11))
          clear r11 k11
          go_wp2
          go_ret3
          exact ⟨_, rfl, R11.out, K11.out⟩

end Go.Proofs.YtbfgmbakeofcbaaGreat
