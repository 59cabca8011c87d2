/- The statement PrecedenceCheck: its function returns true. No condition beyond the arguments' reading. -/
import Derived.Test.YtigmldildefdgaaLaw35c
import Derived.Test.YtigmldildefdgaaChgO
import Derived.BigRegion
namespace Go.Proofs.Ytigmldildefdgaa
open Go.RowKit

theorem checkO_some {ps : List (List Stage)} {os : List Order} (hm : psMade ps) (h : checkO ps os = true) : 1 ≤ os.length ∧ os.length ≤ 144 ∧ ∀ o ∈ os, 1 ≤ o.uses.length ∧ o.uses.length ≤ 640 := by
  have hf := checkO_facts h
  have h' := h
  simp only [checkO, Bool.and_eq_true, decide_eq_true_eq, List.all_eq_true] at h'
  obtain ⟨⟨hv, hr⟩, ha⟩ := h'
  refine ⟨?_, hf.2.1, fun o ho => ⟨?_, (hf.2.2 o ho).2.1⟩⟩
  · have hl := congrArg List.length hr
    rw [List.length_map] at hl
    rw [hl]
    have hn1 := hm.1
    have hpp : ps[0]? = some ps[0] := List.getElem?_eq_getElem (by omega)
    have hp1 := (hm.2.2 ps[0] (List.getElem_mem _)).1
    have hss : (ps[0])[0]? = some (ps[0])[0] := List.getElem?_eq_getElem (by omega)
    have hu : (ps[0])[0].sec ∈ usesAll ps := mem_usesAll.2 ⟨0, 0, _, _, hpp, hss, by simp [stUses]⟩
    have hmem : (ps[0])[0].sec ∈ resTo ps 144 := (mem_resTo 144).2 ⟨hu, valid_use hv hu⟩
    exact List.length_pos_of_mem hmem
  · have h1 := ha o ho
    simp only [exactlyB, Bool.and_eq_true, decide_eq_true_eq] at h1
    rw [h1.1.1]
    have hmem : o.res ∈ resTo ps 144 := by rw [← hr]; exact List.mem_map_of_mem ho
    have hne : allU ps o.res ≠ [] := fun e => allU_nil_iff.1 e ((mem_resTo 144).1 hmem).1
    exact List.length_pos_iff.2 hne
theorem OwnL.blk {α : Type} {t size : Nat} {E : Rd α} {w : World} {base lo : Nat} {A : Option Addr} {n c : Nat} {l : List α} (h : OwnL t size E w base lo (.slice A n c) l) (hl : 1 ≤ l.length) : ∃ g cur, A = some ⟨g, 0, none⟩ ∧ base ≤ g ∧ Blk w g t cur := by
  obtain ⟨ess, _, h2, _⟩ := h
  rcases h2.2 with ⟨e, hn⟩ | ⟨g, cap, cur, e, hb, hh, _⟩
  · omega
  · injection e with e; subst e; exact ⟨g, cur, rfl, hb, hh⟩

set_option maxRecDepth 100000 in
set_option maxHeartbeats 4000000 in
theorem PrecedenceCheck_any (raw : List (List Stage)) (lo : List Order) (lp le : List Int) (A A1 A2 A3 : Option Addr) (c c1 c2 c3 : Nat) (how at_ vv : Int) (w : World) (h : RPaths w (Old w) [.slice A raw.length c] raw) (h1 : ROrders w (Old w) [.slice A1 lo.length c1] lo) (h2 : RInts w (Old w) [.slice A2 lp.length c2] lp) (h3 : RInts w (Old w) [.slice A3 le.length c3] le) :
    Calls Try.prog 6 #[.slice A raw.length c, .slice A1 lo.length c1, .slice A2 lp.length c2, .slice A3 le.length c3, .int .i64 how, .int .i64 at_, .int .i64 vv] w fun e w' => e = .returned (.bool true) ∧ KeepsAll w w' := by
  have HR := Lib.hid h; clear h
  have HO := Lib.hid h1; clear h1
  have H2 := Lib.hid h2; clear h2
  have H3 := Lib.hid h3; clear h3
  go_enter Try.func6, Try.ntmps6
  go_wp2_with fail
  refine (made_any lp le [] A2 A3 none c2 c3 0 w H2.out H3.out RSlice.mkNil).mono ?_
  rintro e w1 ⟨ps, os, at0, v0, v1, v2, rfl, rp, ro, _, hm, hck, _, _, k1⟩
  obtain ⟨B, d, rfl⟩ := rp.form
  obtain ⟨B1, d1, hv1, _, _⟩ := ro.val
  subst hv1
  have hos := checkO_some hm hck
  have hos1 := hos.1
  have hos2 := hos.2.1
  have HU := Lib.hid hos.2.2
  have K1 := Lib.hid k1
  have P1 := Lib.hid rp
  have O1 := Lib.hid ro
  have HCK := Lib.hid hck
  clear rp ro hm hck k1 hos
  go_wp2_with fail
  refine (Check_any ps os _ _ _ _ w1 P1.out O1.out).mono ?_
  rintro e w2 ⟨rfl, k2⟩
  rw [HCK.out]
  have K2 := Lib.hid (K1.out.tr k2)
  have P2 := Lib.hid (k2.rdo' RPaths.ok P1.out)
  have O2 := Lib.hid (k2.rdo' ROrders.ok O1.out)
  have HSO : Hid (∀ b, Old w2 b → 0 ≤ b ∧ b < w2.heap.size ∧ (Value.slice none 0 0).ownBlock ≠ some b) := fun b hb => ⟨Nat.zero_le _, hb, by simp [Value.ownBlock]⟩
  clear k2 K1 P1 O1
  have hcd := O2.out.caps
  go_wp2_with (at_builtin; refine wpList_append_M tyOrder ROrder.ok ROrder.one rfl (.const (.slice none 0 0)) (.tmp 34) rfl (OwnL.nil (base := w2.heap.size) (lo := 0)) rfl (S := Old w2) (S2 := Old w2) rfl O2.out (fun _ _ h => h) HSO.out (by simp; omega) (by simp; omega) (Nat.le_refl _) ?_; intro v3 w3 HO3 HK3 HA3; rw [List.nil_append] at HO3; have K3 : KeepsAll w2 w3 := HK3.mono (fun _ _ h => (by simp [Value.ownBlock] at h)); obtain ⟨A4, c4, hv3, hc3, hc33⟩ := HO3.form; subst hv3; obtain ⟨g, cur, hA4, hbg, hblk⟩ := HO3.blk hos1; subst hA4; have hz3 := K3.size; have HO3' := Lib.hid HO3; have K3' := Lib.hid K3; have HBK := Lib.hid hblk; clear HO3 HK3 HA3 K3 hblk)
  have pr := pick_range at_ os.length (by omega)
  obtain ⟨k, hk⟩ := Int.eq_ofNat_of_zero_le pr.1
  have hkl : k < os.length := by omega
  refine (Pick_any _ _ _ (by omega) (by omega)).mono ?_
  rintro e w' ⟨rfl, rfl⟩
  rw [hk]
  clear hk pr
  have RX := HO3'.out.read ROrder.ok (by omega) (S := Old w3) (fun b _ h => h) (fun b _ h => h)
  obtain ⟨b', o', x0, Au, cu, hbo, _, hx0, q0, q1, hus⟩ := ROrders.at_ RX hkl
  injection hbo with hbo; injection hbo with hbo hoo; subst hbo hoo
  have hul := HU.out x0 (List.mem_of_getElem? hx0)
  have hcu := hus.caps
  have HUS := Lib.hid hus
  have HX0 := Lib.hid hx0
  have f1 := HBK.out.frozen (k * 2 + 1)
  have f0 := HBK.out.frozen (k * 2)
  have hgz := HBK.out.lt
  simp only [Nat.zero_add] at q0 q1
  clear hus hx0 RX
  go_wp2_with (at_builtin; refine wpList_append_M tyRef RRef.ok RRef.one rfl (.const (.slice none 0 0)) (.tmp 46) rfl (OwnL.nil (base := w3.heap.size) (lo := w3.heap.size)) rfl (S := Old w3) (S2 := fun _ => False) rfl HUS.out (fun _ _ h => h) (fun _ h => h.elim) (by simp; omega) (by simp; omega) (Nat.le_refl _) ?_; intro v5 w5 HO5 HK5 HA5; rw [List.nil_append] at HO5; have K5 : KeepsAll w3 w5 := HK5.mono (fun _ _ h => (by simp [Value.ownBlock] at h)); obtain ⟨A5, c5, hv5, hc5, hc55⟩ := HO5.form; subst hv5; obtain ⟨g2, cur2, hA5, hbg2, hblk2⟩ := HO5.blk hul.1; subst hA5; have HO5' := Lib.hid HO5; have K5' := Lib.hid K5; have hz5 := K5.size; have n0 := K5.cellK (p := ⟨g, k * 2, none⟩) hgz q0; have n1 := K5.cellK (p := ⟨g, k * 2 + 1, none⟩) hgz q1; have e1 := (HBK.out.kept K5 (by simp)).frozen (k * 2 + 1); have HBK2 := Lib.hid hblk2; clear HO5 HK5 HA5 K5 hblk2)
  generalize hW6 : World.setCell w5 _ _ = W6
  have HB6 : Hid (∃ cur6, Blk W6 g 45 cur6) := by subst hW6; exact ⟨_, (HBK.out.kept K5'.out (by simp)).set_ _ _⟩
  have hgg : g2 ≠ g := by omega
  have HC6 : Hid (Blk W6 g2 48 cur2) := by subst hW6; exact HBK2.out.far hgg _
  have t0 : W6.cell? ⟨g, k * 2, none⟩ = some (.int .i64 x0.res) := by subst hW6; exact (World.cell?_setCell_other _ _ _ _ (fun h => by injection h; omega)).trans n0
  have t1 : W6.cell? ⟨g, k * 2 + 1, none⟩ = some (.slice (some ⟨g2, 0, none⟩) x0.uses.length c5) := by subst hW6; exact World.cell?_setCell_same _ _ _ n1
  have HU6 : Hid (RRefs W6 (fun b => b = g2) [.slice (some ⟨g2, 0, none⟩) x0.uses.length c5] x0.uses) := by
    subst hW6
    exact RRefs.ok.mono (HO5'.out.readF RRef.ok RRef.flat (S := fun b => b = g2) (fun b hb => by simpa [Value.ownBlock] using hb.symm)) (fun _ h => h) (fun b hb => Below.heap_setCell _ _ _ b (by rw [hb]; exact hgg))
  have K6 : Hid (KeepsAll w2 W6) := by subst hW6; exact (K3'.out.tr K5'.out).setCell (fun h => by have h : g < w2.heap.size := h; omega) _
  have OX : Hid (OwnL 45 2 ROrder W6 w2.heap.size 0 (.slice (some ⟨g, 0, none⟩) os.length c4) (os.set k ⟨x0.res, x0.uses⟩)) := by
    subst hW6
    exact (HO3'.out.keeps ROrder.ok K5'.out (fun _ _ h => h.elim)).setUses HX0.out (RRefs.ok.mono (HO5'.out.readF RRef.ok RRef.flat (S := fun b => b = g2) (fun b hb => by simpa [Value.ownBlock] using hb.symm)) (fun b hb => by have := HBK2.out.lt; exact ⟨Nat.zero_le _, by rw [hb]; exact this, by rw [hb]; exact hgg⟩) (fun _ _ => rfl))
  have hlx : (os.set k ⟨x0.res, x0.uses⟩).length = os.length := List.length_set
  generalize os.set k ⟨x0.res, x0.uses⟩ = x1 at *
  have RX6 : Hid (ROrders W6 (Old W6) [.slice (some ⟨g, 0, none⟩) os.length c4] x1) := OX.out.read ROrder.ok (by omega) (S := Old W6) (fun b _ h => h) (fun b _ h => h)
  have hgz6 : g < W6.heap.size := by obtain ⟨_, hb⟩ := HB6.out; exact hb.lt
  have hg2z6 := HC6.out.lt
  have u0 : W6.frozen? ⟨g, k * 2, none⟩ = false := by obtain ⟨_, hb⟩ := HB6.out; exact hb.frozen _
  have u1 : W6.frozen? ⟨g, k * 2 + 1, none⟩ = false := by obtain ⟨_, hb⟩ := HB6.out; exact hb.frozen _
  have w2f := fun i => HC6.out.frozen i
  have hg2w : w2.heap.size ≤ g2 := by omega
  clear hW6 n0 n1 e1 q0 q1 f0 f1 HBK HBK2 HO5' K5' HO3' K3' HUS HX0 hgz HSO O2 H2 H3 hz3 hz5
  have hwr := pick_range how 5 (by omega)
  go_wp2_with fail
  refine (Pick_any _ _ _ (by omega) (by omega)).mono ?_
  rintro e w' ⟨rfl, rfl⟩
  have hs5 : pick how 5 = 0 ∨ pick how 5 = 1 ∨ pick how 5 = 2 ∨ pick how 5 = 3 ∨ pick how 5 = 4 := by omega
  clear hwr
  rcases hs5 with e | e | e | e | e
  · rw [e]; clear e
    go_wp2_with (go_at_call 18; refine (Pick_any _ _ _ (by omega) (by omega)).mono ?_; rintro e w' ⟨rfl, rfl⟩)
    obtain ⟨x, hxl, hxr⟩ := ROrders.writeI (y := pick vv 8) t0 RX6.out
    have hxo : os.length = x.length := by omega
    have XF := Lib.hid hxr
    have KF := Lib.hid (K6.out.setCell (p := ⟨g, k * 2, none⟩) (fun h => by have h : g < w2.heap.size := h; omega) (.int .i64 (pick vv 8)))
    rw [hxo] at XF ⊢
    clear hxr hxl hxo hlx
    generalize World.setCell _ _ _ = WF at *
    go_wp2_with fail
    refine (awake35_any _).mono ?_
    rintro e w4 ⟨rfl, k4⟩
    have K4 := Lib.hid (KF.out.tr k4)
    have P4 := Lib.hid (K4.out.rdo' RPaths.ok P2.out)
    have X4 := Lib.hid (k4.rdo' ROrders.ok XF.out)
    clear k4 KF XF
    go_wp2_with fail
    refine (Check_any ps x _ _ _ _ w4 P4.out X4.out).mono ?_
    rintro e w5 ⟨rfl, k5⟩
    have K5 := Lib.hid (K4.out.tr k5)
    have P5 := Lib.hid (k5.rdo' RPaths.ok P4.out)
    have X5 := Lib.hid (RefCheck_any ps x _ _ _ _ w5 P5.out (k5.rdo' ROrders.ok X4.out))
    clear k5 K4 P4 X4
    generalize checkO ps x = bx at X5
    go_wp2_with fail
    refine X5.out.mono ?_
    rintro e w6 ⟨rfl, k6⟩
    have K6 := Lib.hid (K5.out.tr k6)
    have P6 := Lib.hid (k6.rdo' RPaths.ok P5.out)
    have O6 := Lib.hid ((K2.out.tr K6.out).rdo' ROrders.ok HO.out)
    clear k6 K5 P5 X5
    have hbx : (bx == bx) = true := by simp
    go_wp2_with fail
    refine (Check_any ps lo _ _ _ _ w6 P6.out O6.out).mono ?_
    rintro e w7 ⟨rfl, k7⟩
    have K7 := Lib.hid (K6.out.tr k7)
    have P7 := Lib.hid (RefCheck_any ps lo _ _ _ _ w7 (k7.rdo' RPaths.ok P6.out) (k7.rdo' ROrders.ok O6.out))
    clear k7 K6 P6 O6
    generalize checkO ps lo = bo at P7
    go_wp2_with fail
    refine P7.out.mono ?_
    rintro e w8 ⟨rfl, k8⟩
    have K8 := Lib.hid ((K2.out.tr K7.out).tr k8)
    have O8 := Lib.hid (K8.out.rdo' ROrders.ok HO.out)
    have R8 := Lib.hid (K8.out.rdo' RPaths.ok HR.out)
    clear k8 K7 P7
    have hbo : (bo == bo) = true := by simp
    go_wp2_with fail
    refine (Check_any raw lo _ _ _ _ w8 R8.out O8.out).mono ?_
    rintro e w9 ⟨rfl, k9⟩
    have K9 := Lib.hid (K8.out.tr k9)
    have P9 := Lib.hid (RefCheck_any raw lo _ _ _ _ w9 (k9.rdo' RPaths.ok R8.out) (k9.rdo' ROrders.ok O8.out))
    clear k9 K8 R8 O8
    generalize checkO raw lo = br at P9
    go_wp2_with fail
    refine P9.out.mono ?_
    rintro e w10 ⟨rfl, k10⟩
    have K10 := Lib.hid (K9.out.tr k10)
    clear k10 K9 P9
    have hbr : (br == br) = true := by simp
    go_wp2
    go_ret
    exact ⟨rfl, K10.out⟩
  · rw [e]; clear e
    have pv := pick_range vv x0.uses.length (by omega)
    obtain ⟨i, hi⟩ := Int.eq_ofNat_of_zero_le pv.1
    have hil : i < x0.uses.length := by omega
    obtain ⟨b7, o7, r7, hb7, hb7z, hr7, m0, m1⟩ := RRefs.at_ HU6.out hil
    injection hb7 with hb7; injection hb7 with hb7 ho7; subst hb7 ho7
    have fz := w2f (i * 2 + 1)
    simp only [Nat.zero_add] at m0 m1
    go_wp2_with fail
    refine wp_region_ext (by kernel_rfl) (by kernel_rfl) ?_
    have y1 := Ext.cell t1
    repeat (go_big_quiet_step ((go_at_call 18; rename_i xx; exact ext_call xx ((Pick_any vv (x0.uses.length : Int) xx.val (by omega) (by omega)).mono (fun e w' ⟨h1, h2⟩ => ⟨h1.trans (by rw [hi]), by rw [← h2]; exact Keeps.refl _ _⟩)))))
    refine wpQuiet_nil ?_
    rintro _ ⟨X, rfl⟩
    have KX := X.keeps
    have RX7 := Lib.hid (KX.rdo' ROrders.ok RX6.out)
    have K7 := Lib.hid (K6.out.tr KX)
    have a1 := KX.cellK (p := ⟨g2, i * 2 + 1, none⟩) hg2z6 m1
    have fz7 := (HC6.out.kept KX (by simp)).frozen (i * 2 + 1)
    have hgx : g2 < X.val.heap.size := Nat.lt_of_lt_of_le hg2z6 KX.size
    clear y1 KX
    generalize X.val = WX at *
    clear t0 t1 u0 u1 w2f fz m0 m1 HB6 HC6 OX RX6 K6 HU6 hgz6 hg2z6
    go_wp2_with (go_at_call 18; refine (Pick_any _ _ _ (by omega) (by omega)).mono ?_; rintro e w' ⟨rfl, rfl⟩)
    generalize pick _ 5 = pv5
    obtain ⟨x, hxl, hxr⟩ := ROrders.writeI (y := pv5) a1 RX7.out
    have hxo : os.length = x.length := by omega
    have XF := Lib.hid hxr
    have KF := Lib.hid (K7.out.setCell (p := ⟨g2, i * 2 + 1, none⟩) (fun h => by have h : g2 < w2.heap.size := h; omega) (.int .i64 pv5))
    rw [hxo] at XF ⊢
    clear hxr hxl hxo hlx
    generalize World.setCell _ _ _ = WF at *
    go_wp2_with fail
    refine (awake35_any _).mono ?_
    rintro e w4 ⟨rfl, k4⟩
    have K4 := Lib.hid (KF.out.tr k4)
    have P4 := Lib.hid (K4.out.rdo' RPaths.ok P2.out)
    have X4 := Lib.hid (k4.rdo' ROrders.ok XF.out)
    clear k4 KF XF
    go_wp2_with fail
    refine (Check_any ps x _ _ _ _ w4 P4.out X4.out).mono ?_
    rintro e w5 ⟨rfl, k5⟩
    have K5 := Lib.hid (K4.out.tr k5)
    have P5 := Lib.hid (k5.rdo' RPaths.ok P4.out)
    have X5 := Lib.hid (RefCheck_any ps x _ _ _ _ w5 P5.out (k5.rdo' ROrders.ok X4.out))
    clear k5 K4 P4 X4
    generalize checkO ps x = bx at X5
    go_wp2_with fail
    refine X5.out.mono ?_
    rintro e w6 ⟨rfl, k6⟩
    have K6 := Lib.hid (K5.out.tr k6)
    have P6 := Lib.hid (k6.rdo' RPaths.ok P5.out)
    have O6 := Lib.hid ((K2.out.tr K6.out).rdo' ROrders.ok HO.out)
    clear k6 K5 P5 X5
    have hbx : (bx == bx) = true := by simp
    go_wp2_with fail
    refine (Check_any ps lo _ _ _ _ w6 P6.out O6.out).mono ?_
    rintro e w7 ⟨rfl, k7⟩
    have K7 := Lib.hid (K6.out.tr k7)
    have P7 := Lib.hid (RefCheck_any ps lo _ _ _ _ w7 (k7.rdo' RPaths.ok P6.out) (k7.rdo' ROrders.ok O6.out))
    clear k7 K6 P6 O6
    generalize checkO ps lo = bo at P7
    go_wp2_with fail
    refine P7.out.mono ?_
    rintro e w8 ⟨rfl, k8⟩
    have K8 := Lib.hid ((K2.out.tr K7.out).tr k8)
    have O8 := Lib.hid (K8.out.rdo' ROrders.ok HO.out)
    have R8 := Lib.hid (K8.out.rdo' RPaths.ok HR.out)
    clear k8 K7 P7
    have hbo : (bo == bo) = true := by simp
    go_wp2_with fail
    refine (Check_any raw lo _ _ _ _ w8 R8.out O8.out).mono ?_
    rintro e w9 ⟨rfl, k9⟩
    have K9 := Lib.hid (K8.out.tr k9)
    have P9 := Lib.hid (RefCheck_any raw lo _ _ _ _ w9 (k9.rdo' RPaths.ok R8.out) (k9.rdo' ROrders.ok O8.out))
    clear k9 K8 R8 O8
    generalize checkO raw lo = br at P9
    go_wp2_with fail
    refine P9.out.mono ?_
    rintro e w10 ⟨rfl, k10⟩
    have K10 := Lib.hid (K9.out.tr k10)
    clear k10 K9 P9
    have hbr : (br == br) = true := by simp
    go_wp2
    go_ret
    exact ⟨rfl, K10.out⟩
  · rw [e]; clear e
    have hgo : ∀ (A' : Option Addr) (n' c' : Nat), (∃ l, RRefs (W6.setCell ⟨g, k * 2 + 1, none⟩ (.slice A' n' c')) (Old W6) [.slice A' n' c'] l) → ∃ x, os.length = x.length ∧ Hid (ROrders (W6.setCell ⟨g, k * 2 + 1, none⟩ (.slice A' n' c')) (Old (W6.setCell ⟨g, k * 2 + 1, none⟩ (.slice A' n' c'))) [.slice (some ⟨g, 0, none⟩) os.length c4] x) ∧ Hid (KeepsAll w2 (W6.setCell ⟨g, k * 2 + 1, none⟩ (.slice A' n' c'))) := fun A' n' c' hl => by
      obtain ⟨x, hxl, hxr⟩ := ROrders.writeO (.inr ⟨_, _, _, t1, hl⟩) RX6.out
      exact ⟨x, by omega, hxr, K6.out.setCell (p := ⟨g, k * 2 + 1, none⟩) (fun h => by have h : g < w2.heap.size := h; omega) _⟩
    have HGO := Lib.hid hgo
    clear hgo
    by_cases hc51 : c5 = 1
    · subst hc51
      have hx01 : x0.uses.length = 1 := by omega
      have hnil : ∀ (A' : Option Addr) (W : World), RRefs W (Old W6) [.slice A' 0 0] [] := fun A' W => ⟨A', 0, rfl, by simp, by omega, fun h => absurd rfl h⟩
      have HNIL := Lib.hid hnil
      clear hnil
      rw [hx01] at *
      go_wp2_with fail
      obtain ⟨x, hxo, XF, KF⟩ := HGO.out (some ⟨g2, 0, none⟩) 0 0 ⟨_, HNIL.out _ _⟩
      rw [hxo] at XF ⊢
      clear hxo hlx HNIL HGO
      generalize World.setCell _ _ _ = WF at *
      go_wp2_with fail
      refine (awake35_any _).mono ?_
      rintro e w4 ⟨rfl, k4⟩
      have K4 := Lib.hid (KF.out.tr k4)
      have P4 := Lib.hid (K4.out.rdo' RPaths.ok P2.out)
      have X4 := Lib.hid (k4.rdo' ROrders.ok XF.out)
      clear k4 KF XF
      go_wp2_with fail
      refine (Check_any ps x _ _ _ _ w4 P4.out X4.out).mono ?_
      rintro e w5 ⟨rfl, k5⟩
      have K5 := Lib.hid (K4.out.tr k5)
      have P5 := Lib.hid (k5.rdo' RPaths.ok P4.out)
      have X5 := Lib.hid (RefCheck_any ps x _ _ _ _ w5 P5.out (k5.rdo' ROrders.ok X4.out))
      clear k5 K4 P4 X4
      generalize checkO ps x = bx at X5
      go_wp2_with fail
      refine X5.out.mono ?_
      rintro e w6 ⟨rfl, k6⟩
      have K6 := Lib.hid (K5.out.tr k6)
      have P6 := Lib.hid (k6.rdo' RPaths.ok P5.out)
      have O6 := Lib.hid ((K2.out.tr K6.out).rdo' ROrders.ok HO.out)
      clear k6 K5 P5 X5
      have hbx : (bx == bx) = true := by simp
      go_wp2_with fail
      refine (Check_any ps lo _ _ _ _ w6 P6.out O6.out).mono ?_
      rintro e w7 ⟨rfl, k7⟩
      have K7 := Lib.hid (K6.out.tr k7)
      have P7 := Lib.hid (RefCheck_any ps lo _ _ _ _ w7 (k7.rdo' RPaths.ok P6.out) (k7.rdo' ROrders.ok O6.out))
      clear k7 K6 P6 O6
      generalize checkO ps lo = bo at P7
      go_wp2_with fail
      refine P7.out.mono ?_
      rintro e w8 ⟨rfl, k8⟩
      have K8 := Lib.hid ((K2.out.tr K7.out).tr k8)
      have O8 := Lib.hid (K8.out.rdo' ROrders.ok HO.out)
      have R8 := Lib.hid (K8.out.rdo' RPaths.ok HR.out)
      clear k8 K7 P7
      have hbo : (bo == bo) = true := by simp
      go_wp2_with fail
      refine (Check_any raw lo _ _ _ _ w8 R8.out O8.out).mono ?_
      rintro e w9 ⟨rfl, k9⟩
      have K9 := Lib.hid (K8.out.tr k9)
      have P9 := Lib.hid (RefCheck_any raw lo _ _ _ _ w9 (k9.rdo' RPaths.ok R8.out) (k9.rdo' ROrders.ok O8.out))
      clear k9 K8 R8 O8
      generalize checkO raw lo = br at P9
      go_wp2_with fail
      refine P9.out.mono ?_
      rintro e w10 ⟨rfl, k10⟩
      have K10 := Lib.hid (K9.out.tr k10)
      clear k10 K9 P9
      have hbr : (br == br) = true := by simp
      go_wp2
      go_ret
      exact ⟨rfl, K10.out⟩
    · have HRT : Hid (RRefs (W6.setCell ⟨g, k * 2 + 1, none⟩ (.slice (some ⟨g2, 2, none⟩) (x0.uses.length - 1) (c5 - 1))) (Old W6) [.slice (some ⟨g2, 2, none⟩) (x0.uses.length - 1) (c5 - 1)] (x0.uses.drop 1)) := RRefs.ok.mono (RRefs.tail HU6.out (o' := 2) (by omega)) (fun b hb => by rw [hb]; exact hg2z6) (fun b hb => Below.heap_setCell _ _ _ b (by rw [hb]; exact hgg))
      go_wp2_with fail
      obtain ⟨x, hxo, XF, KF⟩ := HGO.out _ _ _ ⟨_, HRT.out⟩
      rw [hxo] at XF ⊢
      clear hxo hlx HRT HGO
      generalize World.setCell _ _ _ = WF at *
      go_wp2_with fail
      refine (awake35_any _).mono ?_
      rintro e w4 ⟨rfl, k4⟩
      have K4 := Lib.hid (KF.out.tr k4)
      have P4 := Lib.hid (K4.out.rdo' RPaths.ok P2.out)
      have X4 := Lib.hid (k4.rdo' ROrders.ok XF.out)
      clear k4 KF XF
      go_wp2_with fail
      refine (Check_any ps x _ _ _ _ w4 P4.out X4.out).mono ?_
      rintro e w5 ⟨rfl, k5⟩
      have K5 := Lib.hid (K4.out.tr k5)
      have P5 := Lib.hid (k5.rdo' RPaths.ok P4.out)
      have X5 := Lib.hid (RefCheck_any ps x _ _ _ _ w5 P5.out (k5.rdo' ROrders.ok X4.out))
      clear k5 K4 P4 X4
      generalize checkO ps x = bx at X5
      go_wp2_with fail
      refine X5.out.mono ?_
      rintro e w6 ⟨rfl, k6⟩
      have K6 := Lib.hid (K5.out.tr k6)
      have P6 := Lib.hid (k6.rdo' RPaths.ok P5.out)
      have O6 := Lib.hid ((K2.out.tr K6.out).rdo' ROrders.ok HO.out)
      clear k6 K5 P5 X5
      have hbx : (bx == bx) = true := by simp
      go_wp2_with fail
      refine (Check_any ps lo _ _ _ _ w6 P6.out O6.out).mono ?_
      rintro e w7 ⟨rfl, k7⟩
      have K7 := Lib.hid (K6.out.tr k7)
      have P7 := Lib.hid (RefCheck_any ps lo _ _ _ _ w7 (k7.rdo' RPaths.ok P6.out) (k7.rdo' ROrders.ok O6.out))
      clear k7 K6 P6 O6
      generalize checkO ps lo = bo at P7
      go_wp2_with fail
      refine P7.out.mono ?_
      rintro e w8 ⟨rfl, k8⟩
      have K8 := Lib.hid ((K2.out.tr K7.out).tr k8)
      have O8 := Lib.hid (K8.out.rdo' ROrders.ok HO.out)
      have R8 := Lib.hid (K8.out.rdo' RPaths.ok HR.out)
      clear k8 K7 P7
      have hbo : (bo == bo) = true := by simp
      go_wp2_with fail
      refine (Check_any raw lo _ _ _ _ w8 R8.out O8.out).mono ?_
      rintro e w9 ⟨rfl, k9⟩
      have K9 := Lib.hid (K8.out.tr k9)
      have P9 := Lib.hid (RefCheck_any raw lo _ _ _ _ w9 (k9.rdo' RPaths.ok R8.out) (k9.rdo' ROrders.ok O8.out))
      clear k9 K8 R8 O8
      generalize checkO raw lo = br at P9
      go_wp2_with fail
      refine P9.out.mono ?_
      rintro e w10 ⟨rfl, k10⟩
      have K10 := Lib.hid (K9.out.tr k10)
      clear k10 K9 P9
      have hbr : (br == br) = true := by simp
      go_wp2
      go_ret
      exact ⟨rfl, K10.out⟩
  · rw [e]; clear e
    have pv := pick_range vv x0.uses.length (by omega)
    obtain ⟨i, hi⟩ := Int.eq_ofNat_of_zero_le pv.1
    have hil : i < x0.uses.length := by omega
    have pw := pick_range (wrap64 (vv.tdiv 8)) x0.uses.length (by omega)
    obtain ⟨j, hj⟩ := Int.eq_ofNat_of_zero_le pw.1
    have hjl : j < x0.uses.length := by omega
    obtain ⟨b7, o7, r7, hb7, hb7z, hr7, m0, m1⟩ := RRefs.at_ HU6.out hil
    injection hb7 with hb7; injection hb7 with hb7 ho7; subst hb7 ho7
    obtain ⟨b8, o8, r8, hb8, hb8z, hr8, l0, l1⟩ := RRefs.at_ HU6.out hjl
    injection hb8 with hb8; injection hb8 with hb8 ho8; subst hb8 ho8
    simp only [Nat.zero_add] at m0 m1 l0 l1
    go_wp2_with fail
    refine wp_region_ext (by kernel_rfl) (by kernel_rfl) ?_
    have y1 := Ext.cell t1
    have CP1 : Hid (∀ xx : Ext W6, Calls Try.prog 18 #[.int .i64 vv, .int .i64 (x0.uses.length : Int)] xx.val fun e w'' => e = .returned (.int .i64 (i : Int)) ∧ ∃ y : Ext W6, w'' = y.val) := fun xx => ext_call xx ((Pick_any vv (x0.uses.length : Int) xx.val (by omega) (by omega)).mono (fun e w' ⟨h1, h2⟩ => ⟨h1.trans (by rw [hi]), by rw [← h2]; exact Keeps.refl _ _⟩))
    have CP2 : Hid (∀ xx : Ext W6, Calls Try.prog 18 #[.int .i64 (wrap64 (vv.tdiv 8)), .int .i64 (x0.uses.length : Int)] xx.val fun e w'' => e = .returned (.int .i64 (j : Int)) ∧ ∃ y : Ext W6, w'' = y.val) := fun xx => ext_call xx ((Pick_any (wrap64 (vv.tdiv 8)) (x0.uses.length : Int) xx.val (by omega) (by omega)).mono (fun e w' ⟨h1, h2⟩ => ⟨h1.trans (by rw [hj]), by rw [← h2]; exact Keeps.refl _ _⟩))
    iterate 8 (go_big_quiet_step ((go_at_call 18; exact CP1.out _)))
    iterate 11 (go_big_quiet_step ((go_at_call 18; exact CP2.out _)))
    refine wpQuiet_nil ?_
    rintro _ ⟨X, rfl⟩
    have KX := X.keeps
    have RX7 := Lib.hid (KX.rdo' ROrders.ok RX6.out)
    have K7 := Lib.hid (K6.out.tr KX)
    have a0 := KX.cellK (p := ⟨g2, i * 2, none⟩) hg2z6 m0
    have a1 := KX.cellK (p := ⟨g2, i * 2 + 1, none⟩) hg2z6 m1
    have c0 := KX.cellK (p := ⟨g2, j * 2, none⟩) hg2z6 l0
    have c1 := KX.cellK (p := ⟨g2, j * 2 + 1, none⟩) hg2z6 l1
    have s1 := KX.cellK (p := ⟨g, k * 2 + 1, none⟩) hgz6 t1
    have fz := fun n => (HC6.out.kept KX (by simp)).frozen n
    have fz0 := fz (i * 2)
    have fz1 := fz (i * 2 + 1)
    have fz2 := fz (j * 2)
    have fz3 := fz (j * 2 + 1)
    have hgx : g2 < X.val.heap.size := Nat.lt_of_lt_of_le hg2z6 KX.size
    clear y1 KX CP1 CP2
    generalize X.val = WX at *
    clear t0 t1 u0 u1 w2f fz m0 m1 l0 l1 HB6 HC6 OX RX6 K6 HU6 hgz6 hg2z6 hi hj pv pw
    obtain ⟨x1', hx1', RX8⟩ := ROrders.writeI (y := r8.tr) a0 RX7.out
    obtain ⟨_, d1⟩ := cell_writeI (y := r8.tr) a0 a1
    obtain ⟨_, d2⟩ := cell_writeI (y := r8.tr) a0 c0
    obtain ⟨_, d3⟩ := cell_writeI (y := r8.tr) a0 c1
    obtain ⟨x2', hx2', RX9⟩ := ROrders.writeI (y := r8.st) d1 RX8
    obtain ⟨z0, e2⟩ := cell_writeI (y := r8.st) d1 d2
    obtain ⟨z1, e3⟩ := cell_writeI (y := r8.st) d1 d3
    obtain ⟨x3', hx3', RX10⟩ := ROrders.writeI (y := r7.tr) e2 RX9
    obtain ⟨z2, f3⟩ := cell_writeI (y := r7.tr) e2 e3
    obtain ⟨x, hx4', RX11⟩ := ROrders.writeI (y := r7.st) f3 RX10
    have XF0 := Lib.hid RX11
    have KF0 := Lib.hid ((((K7.out.setCell (p := ⟨g2, i * 2, none⟩) (fun h => by have h : g2 < w2.heap.size := h; omega) (.int .i64 r8.tr)).setCell (p := ⟨g2, i * 2 + 1, none⟩) (fun h => by have h : g2 < w2.heap.size := h; omega) (.int .i64 r8.st)).setCell (p := ⟨g2, j * 2, none⟩) (fun h => by have h : g2 < w2.heap.size := h; omega) (.int .i64 r7.tr)).setCell (p := ⟨g2, j * 2 + 1, none⟩) (fun h => by have h : g2 < w2.heap.size := h; omega) (.int .i64 r7.st))
    have hxo : os.length = x.length := by omega
    clear RX7 RX8 RX9 RX10 RX11 K7 d1 d2 d3 hx1' hx2' hx3' hx4'
    go_wp2_with fail
    go_region
    have XF := Lib.hid (((Keeps.refl (fun _ => False) _).drew).rdo' ROrders.ok XF0.out)
    have KF := Lib.hid KF0.out.drew
    rw [hxo] at XF ⊢
    clear XF0 KF0 hxo hlx e2 e3 f3 a0 a1 c0 c1 s1 fz0 fz1 fz2 fz3 hgx
    generalize World.drew _ = WF at *
    go_wp2_with fail
    refine (awake35_any _).mono ?_
    rintro e w4 ⟨rfl, k4⟩
    have K4 := Lib.hid (KF.out.tr k4)
    have P4 := Lib.hid (K4.out.rdo' RPaths.ok P2.out)
    have X4 := Lib.hid (k4.rdo' ROrders.ok XF.out)
    clear k4 KF XF
    go_wp2_with fail
    refine (Check_any ps x _ _ _ _ w4 P4.out X4.out).mono ?_
    rintro e w5 ⟨rfl, k5⟩
    have K5 := Lib.hid (K4.out.tr k5)
    have P5 := Lib.hid (k5.rdo' RPaths.ok P4.out)
    have X5 := Lib.hid (RefCheck_any ps x _ _ _ _ w5 P5.out (k5.rdo' ROrders.ok X4.out))
    clear k5 K4 P4 X4
    generalize checkO ps x = bx at X5
    go_wp2_with fail
    refine X5.out.mono ?_
    rintro e w6 ⟨rfl, k6⟩
    have K6 := Lib.hid (K5.out.tr k6)
    have P6 := Lib.hid (k6.rdo' RPaths.ok P5.out)
    have O6 := Lib.hid ((K2.out.tr K6.out).rdo' ROrders.ok HO.out)
    clear k6 K5 P5 X5
    have hbx : (bx == bx) = true := by simp
    go_wp2_with fail
    refine (Check_any ps lo _ _ _ _ w6 P6.out O6.out).mono ?_
    rintro e w7 ⟨rfl, k7⟩
    have K7 := Lib.hid (K6.out.tr k7)
    have P7 := Lib.hid (RefCheck_any ps lo _ _ _ _ w7 (k7.rdo' RPaths.ok P6.out) (k7.rdo' ROrders.ok O6.out))
    clear k7 K6 P6 O6
    generalize checkO ps lo = bo at P7
    go_wp2_with fail
    refine P7.out.mono ?_
    rintro e w8 ⟨rfl, k8⟩
    have K8 := Lib.hid ((K2.out.tr K7.out).tr k8)
    have O8 := Lib.hid (K8.out.rdo' ROrders.ok HO.out)
    have R8 := Lib.hid (K8.out.rdo' RPaths.ok HR.out)
    clear k8 K7 P7
    have hbo : (bo == bo) = true := by simp
    go_wp2_with fail
    refine (Check_any raw lo _ _ _ _ w8 R8.out O8.out).mono ?_
    rintro e w9 ⟨rfl, k9⟩
    have K9 := Lib.hid (K8.out.tr k9)
    have P9 := Lib.hid (RefCheck_any raw lo _ _ _ _ w9 (k9.rdo' RPaths.ok R8.out) (k9.rdo' ROrders.ok O8.out))
    clear k9 K8 R8 O8
    generalize checkO raw lo = br at P9
    go_wp2_with fail
    refine P9.out.mono ?_
    rintro e w10 ⟨rfl, k10⟩
    have K10 := Lib.hid (K9.out.tr k10)
    clear k10 K9 P9
    have hbr : (br == br) = true := by simp
    go_wp2
    go_ret
    exact ⟨rfl, K10.out⟩
  · rw [e]; clear e
    go_wp2_with (at_builtin; refine wpList_append_L tyOrder ROrder.ok rfl (.tmp 52) (.tmp 54) rfl (OX.out.alloc ROrder.ok _) rfl _ [.int .i64 7, .slice none 0 0] rfl (Blk.new' _ _ _ (by simp)) rfl ⟨7, []⟩ (S := fun _ => False) ⟨_, rfl, RSlice.mkNil⟩ (fun _ h => h.elim) (by simp [Value.oneCell']) (by omega) (by omega) (by simp; omega) ?_; intro v7 w7 HO7 HK7 HA7; have KF : Hid (KeepsAll w2 w7) := (K6.out.alloc _).trans HK7 (fun x hx e => (by have := OX.out.lt e; omega)); have XF := Lib.hid (HO7.read ROrder.ok (by omega) (S := Old w7) (fun b _ h => h) (fun b _ h => h)); obtain ⟨A7, c7, hv7, hc7, hc77⟩ := HO7.form; subst hv7; generalize x1 ++ [⟨7, []⟩] = x at *; clear HO7 HK7 HA7)
    go_wp2_with fail
    refine (awake35_any _).mono ?_
    rintro e w4 ⟨rfl, k4⟩
    have K4 := Lib.hid (KF.out.tr k4)
    have P4 := Lib.hid (K4.out.rdo' RPaths.ok P2.out)
    have X4 := Lib.hid (k4.rdo' ROrders.ok XF.out)
    clear k4 KF XF
    go_wp2_with fail
    refine (Check_any ps x _ _ _ _ w4 P4.out X4.out).mono ?_
    rintro e w5 ⟨rfl, k5⟩
    have K5 := Lib.hid (K4.out.tr k5)
    have P5 := Lib.hid (k5.rdo' RPaths.ok P4.out)
    have X5 := Lib.hid (RefCheck_any ps x _ _ _ _ w5 P5.out (k5.rdo' ROrders.ok X4.out))
    clear k5 K4 P4 X4
    generalize checkO ps x = bx at X5
    go_wp2_with fail
    refine X5.out.mono ?_
    rintro e w6 ⟨rfl, k6⟩
    have K6 := Lib.hid (K5.out.tr k6)
    have P6 := Lib.hid (k6.rdo' RPaths.ok P5.out)
    have O6 := Lib.hid ((K2.out.tr K6.out).rdo' ROrders.ok HO.out)
    clear k6 K5 P5 X5
    have hbx : (bx == bx) = true := by simp
    go_wp2_with fail
    refine (Check_any ps lo _ _ _ _ w6 P6.out O6.out).mono ?_
    rintro e w7 ⟨rfl, k7⟩
    have K7 := Lib.hid (K6.out.tr k7)
    have P7 := Lib.hid (RefCheck_any ps lo _ _ _ _ w7 (k7.rdo' RPaths.ok P6.out) (k7.rdo' ROrders.ok O6.out))
    clear k7 K6 P6 O6
    generalize checkO ps lo = bo at P7
    go_wp2_with fail
    refine P7.out.mono ?_
    rintro e w8 ⟨rfl, k8⟩
    have K8 := Lib.hid ((K2.out.tr K7.out).tr k8)
    have O8 := Lib.hid (K8.out.rdo' ROrders.ok HO.out)
    have R8 := Lib.hid (K8.out.rdo' RPaths.ok HR.out)
    clear k8 K7 P7
    have hbo : (bo == bo) = true := by simp
    go_wp2_with fail
    refine (Check_any raw lo _ _ _ _ w8 R8.out O8.out).mono ?_
    rintro e w9 ⟨rfl, k9⟩
    have K9 := Lib.hid (K8.out.tr k9)
    have P9 := Lib.hid (RefCheck_any raw lo _ _ _ _ w9 (k9.rdo' RPaths.ok R8.out) (k9.rdo' ROrders.ok O8.out))
    clear k9 K8 R8 O8
    generalize checkO raw lo = br at P9
    go_wp2_with fail
    refine P9.out.mono ?_
    rintro e w10 ⟨rfl, k10⟩
    have K10 := Lib.hid (K9.out.tr k10)
    clear k10 K9 P9
    have hbr : (br == br) = true := by simp
    go_wp2
    go_ret
    exact ⟨rfl, K10.out⟩

end Go.Proofs.Ytigmldildefdgaa
