/- Contract of the statements' changed: it returns some list of paths. Conditions: as the theorem says. -/
import Derived.Test.YtigmldildefdgaaChg
import Derived.Test.YtigmldildefdgaaMade
import Derived.Test.YtigmldildefdgaaSmall
namespace Go.Proofs.Ytigmldildefdgaa
open Go.RowKit

theorem RPath.ownN {w3 : World} {B : Nat} {v : Value} {p : List Stage} {base : Nat} (h : OwnL 65 4 (RStageB B) w3 base 0 v p) (hB : B ≤ base) : RPathN B w3 (fun b => (b < B ∧ b < w3.heap.size) ∨ v.ownBlock = some b) [v] p := by
  have h1 := h.readG (E' := RStage) (S := fun b => (b < B ∧ b < w3.heap.size) ∨ v.ownBlock = some b) id (fun es x hx => RStage.ok.mono hx (fun b hb => .inl ⟨hb.2, hb.1.2.1⟩) (fun _ _ => rfl)) (fun b hb => .inr hb)
  rw [List.map_id] at h1
  refine ⟨h1, fun b o s n c hc => ?_⟩
  injection hc with hc _
  subst hc
  have ho : (Value.slice (some ⟨b, o, s⟩) n c).ownBlock = some b := by
    obtain ⟨ess, _, h2, _⟩ := h
    rcases h2.2 with ⟨e, _⟩ | ⟨g, cap, cur, e, _⟩
    · cases e
    · injection e with e _ _; injection e with e; injection e with e1 e2 e3; subst e1 e2 e3; rfl
  exact ⟨Nat.le_trans hB (h.lt ho).1, .inr ho, h.soft ho⟩

theorem RSlice.cut {α : Type} {size : Nat} {E : Rd α} {w : World} {S : Foot} {A : Option Addr} {n c : Nat} {l : List α} (h : RSlice size E w S [.slice A n c] l) {k : Nat} (hk : k ≤ l.length) : RSlice size E w S [.slice A k c] (l.take k) := by
  obtain ⟨A', c', he, h1, h2, h3⟩ := h
  injection he with he _; injection he with ha hn hc; subst ha hc
  have hlt : (l.take k).length = k := by rw [List.length_take]; omega
  refine ⟨A, c, by rw [hlt], by omega, h2, fun hne => ?_⟩
  obtain ⟨b, o, hA, hb, hj⟩ := h3 (by rintro rfl; simp at hne)
  refine ⟨b, o, hA, hb, fun j x hx => ?_⟩
  have hjk : j < k := by have := getElem?_lt hx; omega
  rw [List.getElem?_take_of_lt hjk] at hx
  exact hj j x hx
theorem OwnL.cutRow {t : Nat} {w : World} {base B : Nat} {g co : Nat} {ps : List (List Stage)} (h : OwnL t 1 (RPathN B) w base 0 (.slice (some ⟨g, 0, none⟩) ps.length co) ps) {j : Nat} {p x : List Stage} {nv : Value} (hp : ps[j]? = some p) (hr : RPath w (fun b => b < w.heap.size ∧ b ≠ g) [nv] x) :
    RPaths (w.setCell ⟨g, j, none⟩ nv) (Old (w.setCell ⟨g, j, none⟩ nv)) [.slice (some ⟨g, 0, none⟩) ps.length co] (ps.set j x) := by
  have hsz : (w.setCell ⟨g, j, none⟩ nv).heap.size = w.heap.size := by simp [World.setCell]
  obtain ⟨A0, c0, he0, hc0, hc1⟩ := h.form
  injection he0 with _ _ he0; subst he0
  have keep : ∀ (v : Value) (y : List Stage), RPath w (fun b => b < w.heap.size ∧ b ≠ g) [v] y → RPath (w.setCell ⟨g, j, none⟩ nv) (Old (w.setCell ⟨g, j, none⟩ nv)) [v] y := fun v y hy =>
    RPath.ok.mono hy (fun b hb => by show b < _; rw [hsz]; exact hb.1) (fun b hb => Below.heap_setCell w ⟨g, j, none⟩ nv b hb.2)
  obtain ⟨g', cap', Ar', cr', hv', _, hgz, hcell, _⟩ := h.row hp
  injection hv' with hv1; injection hv1 with hv1; injection hv1 with hv1; subst hv1
  refine ⟨_, co, by rw [List.length_set], by rw [List.length_set]; exact hc0, hc1, fun _ => ⟨g, 0, rfl, by show g < _; rw [hsz]; exact hgz, fun i y hy => ?_⟩⟩
  rw [List.getElem?_set] at hy
  by_cases e : j = i
  · subst e
    rw [if_pos rfl, if_pos (getElem?_lt hp)] at hy
    injection hy with hy; subst hy
    refine ⟨[nv], rfl, keep nv x hr, fun i u hu => ?_⟩
    have hi : i = 0 := by
      rcases i with _ | i
      · rfl
      · simp at hu
    subst hi
    simp at hu; subst hu
    simpa using World.cell?_setCell_same _ _ _ hcell
  · rw [if_neg e] at hy
    obtain ⟨g2, cap2, A2, c2, hv2, _, _, hcell2, _, hrp2, _⟩ := h.row hy
    injection hv2 with hv2; injection hv2 with hv2; injection hv2 with hv2; subst hv2
    refine ⟨[.slice A2 y.length c2], rfl, keep _ y hrp2, fun i2 u hu => ?_⟩
    have hi : i2 = 0 := by
      rcases i2 with _ | i2
      · rfl
      · simp at hu
    subst hi
    simp at hu; subst hu
    have := (World.cell?_setCell_other w ⟨g, j, none⟩ ⟨g, i, none⟩ nv (fun h => e (by injection h))).trans hcell2
    simpa using this

set_option maxRecDepth 100000 in
set_option maxHeartbeats 4000000 in
theorem changed_any (ps : List (List Stage)) (how at_ vv : Int) (A : Option Addr) (c : Nat) (w : World) (h : RPaths w (Old w) [.slice A ps.length c] ps) (hn1 : 1 ≤ ps.length) (hn2 : ps.length ≤ 1000) (hp : ∀ p ∈ ps, 1 ≤ p.length ∧ p.length ≤ 1000) (hpt : ∀ p ∈ ps, ∀ s ∈ p, s.pts.length ≤ 1000) :
    Calls Try.prog 24 #[.slice A ps.length c, .int .i64 how, .int .i64 at_, .int .i64 vv] w fun e w' => ∃ v x, e = .returned v ∧ RPaths w' (Old w') [v] x ∧ KeepsAll w w' := by
  have hc := h.caps
  have H := Lib.hid h; clear h
  have HP := Lib.hid hp; clear hp
  have HPT := Lib.hid hpt; clear hpt
  go_enter Try.func24, Try.ntmps24
  go_wp2
  go_loopw [9, 17] (fun v i wr => ∃ t : Nat, t ≤ ps.length ∧ i = .int .i64 t ∧ OwnL 36 1 (RPathN w.heap.size) wr w.heap.size 0 v (ps.take t) ∧ KeepsAll w wr) (fun _ i _ => ps.length - (intOf i).toNat)
  case atStart => exact ⟨0, Nat.zero_le _, rfl, OwnL.nil, Keeps.refl _ _⟩
  case round =>
    obtain ⟨t, ht, rfl, ho, hkr⟩ := hrel
    obtain ⟨Ao, co, rfl, hco, hco2⟩ := ho.form
    have HO := Lib.hid ho; clear ho
    have KR := Lib.hid hkr; clear hkr
    have hzr := KR.out.size
    by_cases hlt : t < ps.length
    · obtain ⟨b, o, p, A', c', hbo, hb, hpp, k1, hr⟩ := RSS.atK KR.out H.out hlt
      subst hbo
      have hpl := HP.out p (List.mem_of_getElem? hpp)
      have hcp := hr.caps
      have HQ : Hid (ps.take (t + 1) = ps.take t ++ [p]) := by show _ = _; rw [List.take_add_one, hpp]; rfl
      have hLl : (ps.take t).length ≤ 1000 := by simp; omega
      have HRB : Hid (RSlice 4 (RStageB w.heap.size) wr (Old w) [.slice A' p.length c'] p) := RPath.toB (KR.out.rd RPath.ok hr (fun b hb => ⟨hb, by simp⟩) (fun _ h => h)) (fun _ h => h)
      have HSO : Hid (∀ b, Old w b → 0 ≤ b ∧ b < wr.heap.size ∧ (Value.slice none 0 0).ownBlock ≠ some b) := fun b hb => ⟨Nat.zero_le _, Nat.lt_of_lt_of_le hb hzr, by simp [Value.ownBlock]⟩
      generalize ps.take t = L at *
      clear hr hpp
      go_wp2_with (first | (at_builtin; refine wpList_append_M tyStage (RStageB.ok w.heap.size) (RStageB.one w.heap.size) rfl (.const (.slice none 0 0)) (.tmp 22) rfl (OwnL.nil (base := wr.heap.size) (lo := 0)) rfl (S := Old w) (S2 := Old w) rfl HRB.out (fun _ _ h => h) HSO.out (by simp; omega) (by simp; omega) (Nat.le_refl _) ?_; intro v3 w3 HO3 HK3 HA3; rw [List.nil_append] at HO3; have K3 : KeepsAll wr w3 := HK3.mono (fun _ _ h => (by simp [Value.ownBlock] at h)); have HOW := Lib.hid (HO.out.keeps (RPathN.ok _) K3 (fun _ _ h => h.elim)); obtain ⟨A3, c3, hv3, hc3, hc33⟩ := HO3.form; subst hv3; have HN3 := Lib.hid (RPath.ownN HO3 hzr); have hz3 := K3.size; have HO3' := Lib.hid HO3; have K3' := Lib.hid (KR.out.tr K3); clear HO3 HK3 HA3 K3) | (at_builtin; refine wpList_append_L tyPath (RPathN.ok w.heap.size) rfl (.tmp 21) (.tmp 24) rfl (HOW.out.alloc (RPathN.ok _) _) rfl _ [.slice A3 p.length c3] rfl (Blk.new' _ _ _ (by simp)) rfl p (S := fun b => (b < w.heap.size ∧ b < w3.heap.size) ∨ (Value.slice A3 p.length c3).ownBlock = some b) ?hr ?hS (by simp [Value.oneCell']) (by omega) (by omega) (by simp; omega) ?_))
      case hr =>
        refine (RPathN.ok w.heap.size).mono HN3.out (fun _ h => h) (fun b hb => Below.heap_alloc _ _ b ?_)
        rcases hb with hb | hb
        · exact hb.2
        · exact (HO3'.out.lt hb).2
      case hS =>
        intro b hb
        refine ⟨Nat.zero_le _, ?_, fun e => ?_⟩
        · rcases hb with hb | hb
          · have := hb.2; simp; omega
          · have := (HO3'.out.lt hb).2; simp; omega
        · have h1 := HO.out.lt e
          rcases hb with hb | hb
          · have := hb.1; omega
          · have := HO3'.out.lt hb; omega
      intro v5 w5 HO5 HK5 HA5
      obtain ⟨A5, c5, hv5, hv51, hv52⟩ := HO5.form
      rw [List.length_append, List.length_singleton] at hv5
      subst hv5
      go_wp2
      go_roundw
      case rel => exact ⟨t + 1, by omega, by go_num, by rw [HQ.out]; exact HO5, (K3'.out.alloc _).trans HK5 (fun x hx e => by have := HO.out.lt e; omega)⟩
      case measure => simp [intOf]; omega
    · obtain rfl : t = ps.length := by omega
      rw [List.take_length] at HO hco ⊢
      have pr := pick_range at_ ps.length (by omega)
      obtain ⟨tn, htn⟩ := Int.eq_ofNat_of_zero_le pr.1
      rw [htn] at pr
      have htl : tn < ps.length := by omega
      have hpp : ps[tn]? = some ps[tn] := List.getElem?_eq_getElem htl
      have hpl := HP.out ps[tn] (List.getElem_mem _)
      obtain ⟨g, cap, Ar, cr, hv, hbg, hgz, hcell, hfrz, hrp, hsoft⟩ := HO.out.row hpp
      have HPP := Lib.hid hpp; clear hpp
      generalize ps[tn] = p at *
      injection hv with hv1 hv2 hv3
      subst hv1 hv3
      have hcr := hrp.caps
      go_wp2_with fail
      refine (Pick_any _ _ _ (by omega) (by omega)).mono ?_
      rintro e w' ⟨rfl, rfl⟩
      rw [htn]
      clear htn pr hv2
      go_wp2_with fail
      refine (Pick_any _ _ _ (by omega) (by omega)).mono ?_
      rintro e w' ⟨rfl, rfl⟩
      generalize hkk : pick _ (p.length : Int) = kk
      have kr : 0 ≤ kk ∧ kk < p.length := by rw [← hkk]; exact pick_range _ _ (by omega)
      clear hkk
      obtain ⟨kn, rfl⟩ := Int.eq_ofNat_of_zero_le kr.1
      have hkn : kn < p.length := by omega
      obtain ⟨b4, o4, s, A4, c4, hA, hb4, hs, m0, m1, m2, m3, hpts⟩ := RPath.at_ hrp hkn
      subst hA
      obtain ⟨hB4, cur4, t4, hblk4⟩ := hsoft b4 o4 none rfl
      have f0 := hblk4.frozen (o4 + kn * 4)
      have f1 := hblk4.frozen (o4 + kn * 4 + 1)
      have f2 := hblk4.frozen (o4 + kn * 4 + 2)
      have f3 := hblk4.frozen (o4 + kn * 4 + 3)
      have hb4z := hb4.1
      have hb4g := hb4.2
      have HRP := Lib.hid hrp
      have HPTS := Lib.hid hpts
      have hptl := HPT.out p (List.mem_of_getElem? HPP.out) s (List.mem_of_getElem? hs)
      have hcpt := hpts.caps
      have HB4 := Lib.hid hblk4
      clear hs hrp hpts hsoft hblk4 kr hb4
      have HFIN : Hid (∀ (W : World) (q : Nat) (u : Value), KeepsAll wr W → Fit W (fun b => b < W.heap.size ∧ (Value.slice (some ⟨g, 0, none⟩) ps.length co).ownBlock ≠ some b) ⟨b4, q, none⟩ u → ∃ x, RPaths (W.setCell ⟨b4, q, none⟩ u) (Old (W.setCell ⟨b4, q, none⟩ u)) [.slice (some ⟨g, 0, none⟩) ps.length co] x ∧ KeepsAll w (W.setCell ⟨b4, q, none⟩ u)) := fun W q u hW hf => by
        obtain ⟨ps', hl', h1⟩ := (HO.out.keeps (RPathN.ok _) hW (fun _ _ h => h.elim)).write (p := ⟨b4, q, none⟩) (u := u) (fun e => hb4g (by simpa [Value.ownBlock] using e.symm)) hf
        refine ⟨ps', ?_, (KR.out.tr hW).setCell (fun h => (by have h : b4 < w.heap.size := h; omega)) _⟩
        have h2 := h1.readG (E' := RPath) (S := Old (W.setCell ⟨b4, q, none⟩ u)) id (fun es x hx => RPath.ok.mono hx.1 (fun b hb => hb.2.1) (fun _ _ => rfl)) (fun b hb => (h1.lt hb).2)
        rw [List.map_id] at h2; exact h2
      have hwr := pick_range how 7 (by omega)
      go_wp2_with fail
      refine (Pick_any _ _ _ (by omega) (by omega)).mono ?_
      rintro e w' ⟨rfl, rfl⟩
      have hs7 : pick how 7 = 0 ∨ pick how 7 = 1 ∨ pick how 7 = 2 ∨ pick how 7 = 3 ∨ pick how 7 = 4 ∨ pick how 7 = 5 ∨ pick how 7 = 6 := by omega
      have p9 := pick_range vv 9 (by omega)
      have p4 := pick_range vv 4 (by omega)
      have p2 := pick_range vv 2 (by omega)
      clear hwr
      rcases hs7 with e | e | e | e | e | e | e
      · rw [e]; clear e
        go_wp2_with (go_at_call 18; refine (Pick_any _ _ _ (by omega) (by omega)).mono ?_; rintro e w' ⟨rfl, rfl⟩)
        go_ret
        obtain ⟨x, h1, h2⟩ := HFIN.out wr (o4 + kn * 4) (.int .i64 (pick vv 9 - 1)) (Keeps.refl _ _) (.inl ⟨_, _, m0, rfl⟩)
        exact ⟨_, x, rfl, h1, h2⟩
      · rw [e]; clear e
        go_wp2_with (first | (go_at_call 18; refine (Pick_any _ _ _ (by omega) (by omega)).mono ?_; rintro e w' ⟨rfl, rfl⟩) | (at_builtin; refine wpList_append_M tyInt RInt.ok RInt.one rfl (.const (.slice none 0 0)) (.tmp 67) rfl (OwnL.nil (base := wr.heap.size) (lo := wr.heap.size)) rfl rfl (S := fun b => b < wr.heap.size ∧ b ≠ g) (S2 := fun _ => False) HPTS.out (fun _ _ h => h) (fun _ h => h.elim) (by simp; omega) (by simp; omega) (Nat.le_refl _) ?_; intro v5 w5 HO5 HK5 HA5; rw [List.nil_append] at HO5; have K5 : KeepsAll wr w5 := HK5.mono (fun _ _ h => (by simp [Value.ownBlock] at h)); obtain ⟨A5, c5, hv5, hc5, hc55⟩ := HO5.form; subst hv5; have HO5' := Lib.hid HO5; have K5' := Lib.hid K5; have hz5 := K5.size; clear HO5 HK5 HA5 K5) | (at_builtin; refine wpList_append_L tyInt RInt.ok rfl (.tmp 68) (.tmp 72) rfl (HO5'.out.alloc RInt.ok _) rfl _ [.int .i64 (pick vv 9 - 1)] rfl (Blk.new' _ _ _ (by simp)) rfl (pick vv 9 - 1) (S := fun _ => False) rfl (fun _ h => h.elim) (by simp [Value.oneCell']) (by omega) (by omega) (by simp; omega) ?_; intro v7 w7 HO7 HK7 HA7; have K7 : KeepsAll wr w7 := (K5'.out.alloc _).trans HK7 (fun x hx e => (by have := HO5'.out.lt e; omega)); obtain ⟨A7, c7, hv7, hc7, hc77⟩ := HO7.form; rw [List.length_append, List.length_singleton] at hv7; subst hv7; have n7 := K7.cellK (p := ⟨b4, o4 + kn * 4 + 1, none⟩) hb4z m1; have g7 := (HB4.out.kept K7 (by simp)).frozen (o4 + kn * 4 + 1); have HO7' := Lib.hid HO7; have K7' := Lib.hid K7; clear HO7 HK7 HA7 K7))
        go_ret
        obtain ⟨x, h1, h2⟩ := HFIN.out w7 (o4 + kn * 4 + 1) (.slice A7 (s.pts.length + 1) c7) K7'.out (.inr ⟨_, _, _, n7, s.pts ++ [pick vv 9 - 1], by
          have kk : Keeps (fun b => b = b4) w7 (w7.setCell ⟨b4, o4 + kn * 4 + 1, none⟩ (.slice A7 (s.pts.length + 1) c7)) := (Keeps.refl (fun b => b = b4) w7).setCell (p := ⟨b4, o4 + kn * 4 + 1, none⟩) (fun _ => rfl) _
          refine (HO7'.out.keepsF RInt.flat kk (fun b hb e => by have := HO7'.out.lt hb; omega)).readF RInt.ok RInt.flat (fun b hb => ?_)
          have := HO7'.out.lt hb
          refine ⟨this.2, fun e => ?_⟩
          have : g = b := by simpa [Value.ownBlock] using e
          omega⟩)
        exact ⟨_, x, rfl, h1, h2⟩
      · rw [e]; clear e
        go_wp2_with (go_at_call 18; refine (Pick_any _ _ _ (by omega) (by omega)).mono ?_; rintro e w' ⟨rfl, rfl⟩)
        go_ret
        obtain ⟨x, h1, h2⟩ := HFIN.out wr (o4 + kn * 4 + 2) (.int .i64 (pick vv 4 - 1)) (Keeps.refl _ _) (.inl ⟨_, _, m2, rfl⟩)
        exact ⟨_, x, rfl, h1, h2⟩
      · rw [e]; clear e
        go_wp2_with (go_at_call 18; refine (Pick_any _ _ _ (by omega) (by omega)).mono ?_; rintro e w' ⟨rfl, rfl⟩)
        go_ret
        obtain ⟨x, h1, h2⟩ := HFIN.out wr (o4 + kn * 4 + 3) (.int .i64 (4194304 + pick vv 2)) (Keeps.refl _ _) (.inl ⟨_, _, m3, rfl⟩)
        exact ⟨_, x, rfl, h1, h2⟩
      · rw [e]; clear e
        go_wp2
        go_ret
        exact ⟨_, ps.set tn (p.take kn), rfl, HO.out.cutRow HPP.out (HRP.out.cut (by omega)), KR.out.setCell (fun h => (by have h : g < w.heap.size := h; omega)) _⟩
      · rw [e]; clear e
        go_wp2_with (go_at_call 18; refine (Pick_any _ _ _ (by omega) (by omega)).mono ?_; rintro e w' ⟨rfl, rfl⟩)
        rw [← World.setCell_alloc_past _ _ _ _ hb4z]
        go_ret
        obtain ⟨x, h1, h2⟩ := HFIN.out (wr.alloc (.cells #[.int .i64 5, .int .i64 6, .int .i64 (pick vv 9)] 3)) (o4 + kn * 4 + 1) (.slice (some ⟨wr.heap.size, 0, none⟩) 3 3) ((Keeps.refl _ _).alloc _) (.inr ⟨_, _, _, ((Keeps.refl _ _).alloc _).cellK (a := wr) (p := ⟨b4, o4 + kn * 4 + 1, none⟩) hb4z m1, [5, 6, pick vv 9], by
          refine RInts.ofBlk [5, 6, pick vv 9] ((Blk.new wr _ _).far (by show wr.heap.size ≠ b4; omega) _) ⟨by simp, fun e => ?_⟩ (by simp)
          have : g = wr.heap.size := by simpa [Value.ownBlock] using e
          omega⟩)
        exact ⟨_, x, rfl, h1, h2⟩
      · rw [e]; clear e
        go_wp2_with (go_at_call 18; refine (Pick_any _ _ _ (by omega) (by omega)).mono ?_; rintro e w' ⟨rfl, rfl⟩)
        go_ret
        obtain ⟨x, h1, h2⟩ := HFIN.out wr (o4 + kn * 4) (.int .i64 (144 - pick vv 2)) (Keeps.refl _ _) (.inl ⟨_, _, m0, rfl⟩)
        exact ⟨_, x, rfl, h1, h2⟩

end Go.Proofs.Ytigmldildefdgaa
