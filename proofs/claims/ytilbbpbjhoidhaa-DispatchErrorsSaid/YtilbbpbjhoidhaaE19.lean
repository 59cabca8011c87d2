/- Contract of choose of the graph of chapter 37. Conditions: as each theorem says. -/
import Derived.Test.YtilbbpbjhoidhaaE17
namespace Go.Proofs.Ytilbbpbjhoidhaa
open Go.RowKit

def ChPost (s : GS) (w0 : World) (D : List RArc) (a : RArc) (d : GD) (w' : World) : Prop :=
 ∃ d', Gm s w0 w' d' ∧ (okD s.ps s.at_ (D ++ [a]) = true → GP s (D ++ [a]) d' ∧ ∃ es, d'.lg = d.lg ++ es ∧ UndoR (evs s.ps) (d.T, d.N) es.reverse (d'.T, d'.N)) ∧ (okD s.ps s.at_ (D ++ [a]) = false → d' = d)
theorem ChPost.no {s : GS} {w0 w' : World} {D : List RArc} {a : RArc} {d : GD} (h : okD s.ps s.at_ (D ++ [a]) = false) (hg : Gm s w0 w' d) : ChPost s w0 D a d w' := ⟨d, hg, (fun e => by rw [h] at e; cases e), fun _ => rfl⟩
theorem ChPost.yes {s : GS} {w0 w' : World} {D : List RArc} {a : RArc} {d d' : GD} (h : okD s.ps s.at_ (D ++ [a]) = true) (hg : Gm s w0 w' d') (hp : GP s (D ++ [a]) d' ∧ ∃ es, d'.lg = d.lg ++ es ∧ UndoR (evs s.ps) (d.T, d.N) es.reverse (d'.T, d'.N)) : ChPost s w0 D a d w' := ⟨d', hg, fun _ => hp, fun e => by rw [h] at e; cases e⟩

set_option maxRecDepth 100000 in
set_option maxHeartbeats 4000000 in
theorem choose_any (s : GS) (w0 w : World) (D : List RArc) (d : GD) (hs : SOk s) (h : Gm s w0 w d) (hp : GP s D d) (hDl : D.length ≤ 90000000) (tx kx ty ky : Nat) (px py : List Stage) (hpx : s.ps[tx]? = some px) (hkx : kx ≤ px.length) (hpy : s.ps[ty]? = some py) (hky : ky ≤ py.length)
  (hx : doneR s.at_ ⟨(tx : Int), (kx : Int)⟩ = false) (hne : tx ≠ ty) (a1 a2 a3 b1 b2 b4 : Int) (i j : Nat) (hi : i = fst s.ps tx + kx) (hj : j = fst s.ps ty + ky) :
  Calls Try.prog 70 #[.pointer (some ⟨s.gb, 0, none⟩), .agg #[.int .i64 a1, .int .i64 a2, .int .i64 a3, .int .i64 (i : Int)], .agg #[.int .i64 b1, .int .i64 b2, .int .i64 (j : Int), .int .i64 b4]] w fun e w' =>
   e = .returned (.bool (okD s.ps s.at_ (D ++ [arc0 ⟨(tx : Int), (kx : Int)⟩ ⟨(ty : Int), (ky : Int)⟩]))) ∧ ChPost s w0 D (arc0 ⟨(tx : Int), (kx : Int)⟩ ⟨(ty : Int), (ky : Int)⟩) d w' := by
 have H := Lib.hid h
 have HS := Lib.hid hs
 have HP := Lib.hid hp
 have hrx : InR s.ps ⟨(tx : Int), (kx : Int)⟩ := ⟨tx, kx, px, hpx, hkx, rfl⟩
 have hry : InR s.ps ⟨(ty : Int), (ky : Int)⟩ := ⟨ty, ky, py, hpy, hky, rfl⟩
 have hex : Ev s.ps s.at_ ⟨(tx : Int), (kx : Int)⟩ := ⟨hrx, hx⟩
 have hal : s.at_.length = s.ps.length := hs.g.1
 have HH : Hid (∀ W, KeepsAll w W → Calls Try.prog 67 #[.pointer (some ⟨s.gb, 0, none⟩), .int .i64 (j : Int)] W fun e w' => e = .returned (.bool (doneR s.at_ ⟨(ty : Int), (ky : Int)⟩)) ∧ ∃ n, w' = W.drewN n) := Lib.hid fun W hW => dhappened_any s w0 W d (h.keep hW) j ty ky py hpy hky hj hal
 have hgz := h.b.lt
 have HE := Lib.hid (And.intro hpx (And.intro hpy (And.intro hi hj)))
 clear h hp hi hj hal hx hpx hpy hs
 go_enter Try.func70, Try.ntmps70
 go_wp2
 go_quiet (fail)
 generalize hW : World.drewN _ _ = W
 have K : KeepsAll w W := by subst hW; exact (((Keeps.refl _ _).alloc _).alloc _).drewN _
 clear hW
 go_wp2_with fail
 refine (HH.out W K).mono ?_
 rintro r w1 ⟨rfl, q1, rfl⟩
 by_cases hy : doneR s.at_ ⟨(ty : Int), (ky : Int)⟩ = true
 ·have hbad : okD s.ps s.at_ (D ++ [arc0 ⟨(tx : Int), (kx : Int)⟩ ⟨(ty : Int), (ky : Int)⟩]) = false := choose_late HS.out.g HP.out.dok hex hry (fun e => hne (by have e : (tx : Int) = (ty : Int) := e; omega)) hy
  have HB := Lib.hid hbad
  have H1 := Lib.hid (H.out.keep (K.drewN q1))
  rw [hy]
  clear hbad hy H HH
  go_wp2
  refine bodyPost_ret (v := .bool false) (by simp [results, Try.results70, go_sem]) rfl ?_
  exact ⟨by rw [HB.out], ChPost.no HB.out H1.out⟩
 ·have hy' : doneR s.at_ ⟨(ty : Int), (ky : Int)⟩ = false := by simpa using hy
  have hey : Ev s.ps s.at_ ⟨(ty : Int), (ky : Int)⟩ := ⟨hry, hy'⟩
  have hnt : (⟨(tx : Int), (kx : Int)⟩ : Ref).tr ≠ (⟨(ty : Int), (ky : Int)⟩ : Ref).tr := fun e => hne (by have e : (tx : Int) = (ty : Int) := e; omega)
  obtain ⟨D', L, hL, hE, hT, hN, hDl', hlg⟩ := HP.out.ex
  have htx := getElem?_lt HE.out.1
  have hty := getElem?_lt HE.out.2.1
  have h10 := (valid_lens HS.out.v).1
  have HLL : Hid (∀ W, KeepsAll w W → ∀ (i j t k : Nat) (v : Ref), (evs s.ps)[i]? = some ⟨(t : Int), (k : Int)⟩ → (evs s.ps)[j]? = some v → t < 10 → Calls Try.prog 90 #[.pointer (some ⟨s.gb, 0, none⟩), .int .i64 (i : Int), .int .i64 (j : Int)] W fun e w' => e = .returned (.bool (leadsL d.T ⟨(t : Int), (k : Int)⟩ v)) ∧ KeepsAll W w') := Lib.hid fun W hW i j t k v hi hj ht => dleads_any s w0 W d (H.out.keep hW) i j t k v hi hj ht ((HP.out.bounds HS.out v).2.1 t ht)
  have hevx : Hid ((evs s.ps)[i]? = some ⟨(tx : Int), (kx : Int)⟩) := by show _ = _; rw [HE.out.2.2.1]; exact evs_at HE.out.1 hkx
  have hevy : Hid ((evs s.ps)[j]? = some ⟨(ty : Int), (ky : Int)⟩) := by show _ = _; rw [HE.out.2.2.2]; exact evs_at HE.out.2.1 hky
  have HT := Lib.hid hT
  have HN := Lib.hid hN
  rw [hy']
  clear hy hy' hT hN HH
  have K1 := K.drewN q1
  generalize W.drewN q1 = W1 at *
  clear K
  go_wp2_with fail
  refine (HLL.out W1 K1 j i ty ky _ hevy.out hevx.out (by omega)).mono ?_
  rintro r w2 ⟨rfl, k2⟩
  have K2 := K1.tr k2
  clear K1 k2
  by_cases hl : leadsL d.T ⟨(ty : Int), (ky : Int)⟩ ⟨(tx : Int), (kx : Int)⟩ = true
  ·have hbad : Hid (okD s.ps s.at_ (D ++ [arc0 ⟨(tx : Int), (kx : Int)⟩ ⟨(ty : Int), (ky : Int)⟩]) = false) := choose_bad HS.out.g HP.out.dok hL hex hey hnt (by rw [← leadsL_eq (n := s.now) HS.out.v hry, ← HT.out]; exact hl)
   have H1 := Lib.hid (H.out.keep K2)
   rw [hl]
   clear hl H HLL
   go_wp2
   refine bodyPost_ret (v := .bool false) (by simp [results, Try.results70, go_sem]) rfl ?_
   exact ⟨by rw [hbad.out], ChPost.no hbad.out H1.out⟩
  ·have hl' : leadsL d.T ⟨(ty : Int), (ky : Int)⟩ ⟨(tx : Int), (kx : Int)⟩ = false := by simpa using hl
   obtain ⟨hok, L1, hL1⟩ := choose_ok HS.out.g HP.out.dok HP.out.ho hL hex hey hnt (by rw [← leadsL_eq (n := s.now) HS.out.v hry, ← HT.out]; exact hl')
   have HOK := Lib.hid hok
   rw [hl']
   clear hl hl' hok
   go_wp2_with fail
   refine (HLL.out w2 K2 i j tx kx _ hevx.out hevy.out (by omega)).mono ?_
   rintro r w3 ⟨rfl, k3⟩
   have K3 := K2.tr k3
   clear K2 k3 HLL
   have H3 := Lib.hid (H.out.keep K3)
   clear H
   by_cases hl : leadsL d.T ⟨(tx : Int), (kx : Int)⟩ ⟨(ty : Int), (ky : Int)⟩ = true
   ·have HG := Lib.hid (HP.out.skip HS.out hex hey hnt hl hL1)
    rw [hl]
    clear hl
    go_wp2
    refine bodyPost_ret (v := .bool true) (by simp [results, Try.results70, go_sem]) rfl ?_
    exact ⟨by rw [HOK.out], ChPost.yes HOK.out H3.out ⟨HG.out, [], by simp, rfl⟩⟩
   ·have hl' : leadsL d.T ⟨(tx : Int), (kx : Int)⟩ ⟨(ty : Int), (ky : Int)⟩ = false := by simpa using hl
    rw [hl']
    clear hl hl'
    have hin : i < s.n := getElem?_lt hevx.out
    have hjn : j < s.n := getElem?_lt hevy.out
    have hn650 := evs_le HS.out
    obtain ⟨Ar, cr, l, hvs, hll, hown, hcell, hfrz, hcr, hcr2⟩ := H3.out.row hin
    have hl9 : l.length ≤ 90000000 := by have := (nextD_row (HN.out ▸ hll)).2; omega
    have HVS := Lib.hid hvs; have HLL := Lib.hid hll; have HOWN := Lib.hid hown
    have c8 := H3.out.c8
    have hgb := H3.out.hi.1
    have hnb := H3.out.nr.nb
    have FAR : Hid (∀ b, b < s.bs → ¬ ((Value.slice Ar l.length cr).ownBlock = some b)) := fun b hb e => by have := HOWN.out.lt e; omega
    have hgz3 := H3.out.b.lt
    have hnz3 := H3.out.nr.blk.lt
    clear hvs hll hown hgz
    generalize hnn : s.n = n at *
    have HNN := Lib.hid hnn; clear hnn
    go_wp2
    refine wp_region_lex (fun w' => ∃ x : ExtC (fun b => (Value.slice Ar l.length cr).ownBlock = some b) w3, w' = x.val) [0, 1, 2, 3, 4, 5, 6, 7, 8, 9, 10, 11, 12, 13, 14, 15, 16] (by kernel_rfl) (by kernel_rfl) (ExtC.start _ _) ?_
    have xe8 := ExtC.cell (C := fun b => (Value.slice Ar l.length cr).ownBlock = some b) c8 (FAR.out _ hgb)
    have xc := ExtC.cell (C := fun b => (Value.slice Ar l.length cr).ownBlock = some b) hcell (FAR.out _ hnb)
    refine lex_q _ rfl rfl rfl ?_; go_big_quiet_step (fail); refine wpQuiet_nil ?_
    refine lex_nil _ rfl _ rfl rfl _ rfl ?_; go_simp
    iterate 4 (refine lex_q _ rfl rfl rfl ?_; go_big_quiet_step (fail); refine wpQuiet_nil ?_)
    refine lex_nil _ rfl _ rfl rfl _ rfl ?_; go_simp
    iterate 6 (refine lex_q _ rfl rfl rfl ?_; go_big_quiet_step (fail); refine wpQuiet_nil ?_)
    refine lex_a _ rfl rfl true (by kernel_rfl) ?_
    go_wp2
    refine ⟨fun _ => ⟨⟨_, ((Keeps.refl _ _).alloc _).drew⟩, rfl⟩, ?_⟩
    generalize hWb : World.drew (World.alloc w3 _) = Wb
    have KB : KeepsAll w3 Wb := by subst hWb; exact ((Keeps.refl _ _).alloc _).drew
    have HBX : Hid (Blk Wb w3.heap.size 3 [.int .i64 (j : Int)].toArray) := by subst hWb; exact Blk.new w3 _ _
    have HGB := Lib.hid (H3.out.keep KB)
    have HOB := Lib.hid (HOWN.out.keeps RInt.ok KB (fun _ _ h => h.elim))
    have hzb := HGB.out.bsz
    have KB2 := Lib.hid KB
    clear hWb KB
    refine lex_a _ rfl rfl true (by kernel_rfl) ?_
    go_wp2_with (at_builtin; refine wpList_append_L tyInt RInt.ok rfl (.tmp 44) (.tmp 46) rfl HOB.out rfl _ [.int .i64 (j : Int)] rfl HBX.out rfl (j : Int) (S := fun _ => False) rfl (fun _ h => h.elim) (by simp [Value.oneCell']) (by omega) (by omega) hzb ?_; intro v5 w5 HO5 HK5 HA5; obtain ⟨A5, c5, hv5, hv51, hv52⟩ := HO5.form; rw [List.length_append, List.length_singleton] at hv5; subst hv5)
    have HPU := Lib.hid (HGB.out.setRow HVS.out HLL.out HO5 HK5 HA5)
    have K5 : Keeps (fun b => (Value.slice Ar l.length cr).ownBlock = some b) w3 w5 := (KB2.out.mono (fun _ _ h => h.elim)).trans HK5 (fun _ _ h => h)
    have hc5 : w5.cell? ⟨s.nb, i, none⟩ = some (.slice Ar l.length cr) := (K5.cell (p := ⟨s.nb, i, none⟩) hnz3 (FAR.out _ hnb)).trans hcell
    have hf5 : w5.frozen? ⟨s.nb, i, none⟩ = false := (H3.out.nr.blk.kept K5 (FAR.out _ hnb)).frozen i
    refine ⟨fun _ => ⟨⟨_, K5⟩, rfl⟩, ?_⟩
    clear K5 HO5 HK5 HA5
    refine lex_q _ rfl rfl rfl ?_; go_big_quiet_step (fail); refine wpQuiet_nil ?_
    refine lex_a _ rfl rfl false (by kernel_rfl) ?_
    go_wp2
    (try refine ⟨fun h => (by cases h), ?_⟩)
    simp only [wpLex]
    refine NoPanic.normal ?_
    generalize hWc : World.setCell w5 _ _ = Wc
    rw [hWc] at HPU
    clear hWc hc5 hf5 HGB HOB HBX KB2 hzb H3 HOWN HVS FAR c8 hcell hfrz xe8 xc hgz3 hnz3 hcr hcr2
    have hlg9 := HP.out.lgb HS.out (by omega)
    obtain ⟨AL, cL, hlv, _, _⟩ := HPU.out.lg.form
    simp only at hlv
    have HLV := Lib.hid hlv
    have c9 := HPU.out.c9
    simp only at c9
    rw [hlv] at c9
    have HLG : Hid (OwnL 154 13 RChg Wc s.bs s.bs (.slice AL d.lg.length cL) d.lg) := Lib.hid (hlv ▸ HPU.out.lg)
    obtain ⟨Aq, cq, hqv, _, _⟩ := HPU.out.q.form
    simp only at hqv
    have HQV := Lib.hid hqv
    have c10 := HPU.out.c10
    simp only at c10
    rw [hqv] at c10
    have HQO : Hid (OwnL 3 1 RInt Wc s.bs s.bs (.slice Aq d.que.length cq) d.que) := Lib.hid (hqv ▸ HPU.out.q)
    have FARL : Hid (∀ b, b < s.bs → ¬ ((Value.slice AL d.lg.length cL).ownBlock = some b)) := fun b hb e => by have := HLG.out.lt e; omega
    have hgz := HPU.out.b.lt
    have hbz := HPU.out.bsz
    have bgb := HPU.out.b
    have HBG := Lib.hid bgb
    clear hlv hqv bgb
    go_wp2_with (at_builtin; go_loud (refine wpList_append_L tyChg RChg.ok rfl (.tmp 53) (.tmp 56) rfl (HLG.out.alloc RChg.ok _) rfl _ [.int .i64 (i : Int), .bool true, .int .i64 0, .int .i8 0, .int .i8 0, .int .i8 0, .int .i8 0, .int .i8 0, .int .i8 0, .int .i8 0, .int .i8 0, .int .i8 0, .int .i8 0] rfl (Blk.new' _ _ _ (by simp)) rfl ⟨(i : Int), true, labZ⟩ (S := fun _ => False) rfl (fun _ h => h.elim) (by simp [Value.oneCell']) (by omega) (by omega) (by simp; omega) ?_; intro v9 w9 HO9 HK9 HA9; have HG9 := Lib.hid ((HPU.out.keep ((Keeps.refl _ _).alloc _)).log HO9 (by show Keeps (fun b => d.lgv.ownBlock = some b) _ _; rw [HLV.out]; exact HK9) (.inr (by show _ = d.lgv.ownBlock ∨ _; rw [HLV.out]; exact HA9))); have hb9 := ((HBG.out.alloc _).kept HK9 (FARL.out _ hgb)); have hc9 : w9.cell? ⟨s.gb, 9, none⟩ = some (.slice AL d.lg.length cL) := (hb9.cell 9).trans (by simp [HLV.out]); have hf9 := hb9.frozen 9; have hc10 : w9.cell? ⟨s.gb, 10, none⟩ = some (.slice Aq d.que.length cq) := (hb9.cell 10).trans (by simp [HQV.out]); have hf10 := hb9.frozen 10; obtain ⟨A9, c9', hv9, _, _⟩ := HO9.form; rw [List.length_append, List.length_singleton] at hv9; subst hv9; clear HO9 HK9 HA9 hb9))
    have HQ9 : OwnL 3 1 RInt (w9.setCell ⟨s.gb, 9, none⟩ (.slice A9 (d.lg.length + 1) c9')) s.bs s.bs (.slice Aq 0 cq) [] := by
     have h1 : OwnL 3 1 RInt (w9.setCell ⟨s.gb, 9, none⟩ (.slice A9 (d.lg.length + 1) c9')) s.bs s.bs (.slice Aq d.que.length cq) d.que := HQV.out ▸ HG9.out.q
     refine h1.cut (k := 0) (Nat.zero_le _) ?_
     rcases Aq with _ | Aq
     ·exact .inr ⟨rfl, h1.nilC.2.1⟩
     ·exact .inl (by simp)
    have hiX : i = num s.ps ⟨(tx : Int), (kx : Int)⟩ := by rw [HE.out.2.2.1]; simp [num]
    have hjY : j = num s.ps ⟨(ty : Int), (ky : Int)⟩ := by rw [HE.out.2.2.2]; simp [num]
    have hN1 : d.N.set i (l ++ [(j : Int)]) = nextD s.ps (D' ++ [arc0 ⟨(tx : Int), (kx : Int)⟩ ⟨(ty : Int), (ky : Int)⟩]) := by
     have hll := HLL.out
     rw [HN.out] at hll
     rw [nextD_push0 s.ps D' _ _ (num_lt hrx), HN.out, (nextD_row hll).1, hjY, ← hiX]
    obtain ⟨d1, hd1, q1T, q1N, q1lg, q1que, q1qd⟩ : ∃ d1, Gm s w0 ((w9.setCell ⟨s.gb, 9, none⟩ (.slice A9 (d.lg.length + 1) c9')).setCell ⟨s.gb, 10, none⟩ (.slice Aq 0 cq)) d1 ∧ d1.T = d.T ∧ d1.N = nextD s.ps (D' ++ [arc0 ⟨(tx : Int), (kx : Int)⟩ ⟨(ty : Int), (ky : Int)⟩]) ∧ d1.lg = d.lg ++ [⟨(i : Int), true, labZ⟩] ∧ d1.que = [] ∧ d1.qd = d.qd :=
     ⟨_, HG9.out.setQ HQ9 (Keeps.refl _ _) (.inr (.inl (by show _ = d.qv.ownBlock; rw [HQV.out]; rcases Aq with _ | ⟨_, _, _⟩ <;> rfl))), rfl, hN1, rfl, rfl, rfl⟩
    have HL1' : Topo s.ps s.at_ (D' ++ [arc0 ⟨(tx : Int), (kx : Int)⟩ ⟨(ty : Int), (ky : Int)⟩]) L1 := topo_sub (fun a ha => by
     rcases List.mem_append.1 ha with ha | ha
     ·exact List.mem_append_left _ (hE.sub a ha)
     ·exact List.mem_append_right _ ha) hL1
    have HD1' : DOk s.ps s.at_ (D' ++ [arc0 ⟨(tx : Int), (kx : Int)⟩ ⟨(ty : Int), (ky : Int)⟩]) := (dok_sub hE.sub HP.out.dok).snoc hex hry hnt
    have hT1 : d1.T = labS s.ps s.at_ s.now D' L := by rw [q1T, HT.out]; exact (eff_lab HS.out.v HP.out.dok hL hE).symm
    have Q0 := QSt.start (n := s.now) (lg0 := d.lg) (l := labZ) (topo_sub hE.sub hL) HL1' hrx hT1 q1N (by rw [q1lg, hiX]) q1que (by rw [q1qd]; exact HP.out.fl) (by have := hd1.ql; exact this)
    rw [q1T] at Q0
    have HD1 := Lib.hid hd1
    have hho : Hid (∀ a ∈ D' ++ [arc0 ⟨(tx : Int), (kx : Int)⟩ ⟨(ty : Int), (ky : Int)⟩], doneR s.at_ a.to = false) := ho_snoc (fun a ha => HP.out.ho a (hE.sub a ha)) hey.2
    have hbd := Q0.prt.bounds HS.out.v HD1' HS.out.n HL1'
    have hlg1 : d1.lg.length ≤ 3000000000000 := by rw [q1lg]; simp; omega
    have hq1 : d1.que.length ≤ 3000000000000 := by rw [q1que]; simp
    have HUPD := Lib.hid (dupdate_any s w0 _ d1 hd1 j i tx kx ⟨(ty : Int), (ky : Int)⟩ 0 hevy.out hevx.out (by omega) (by have := (valid_lens HS.out.v).2 px (List.mem_of_getElem? HE.out.1); omega) (by rw [HNN.out]; exact hn650) hbd (by omega) hlg1 hq1)
    have hamem : arc0 ⟨(tx : Int), (kx : Int)⟩ ⟨(ty : Int), (ky : Int)⟩ ∈ arcsD s.ps (D' ++ [arc0 ⟨(tx : Int), (kx : Int)⟩ ⟨(ty : Int), (ky : Int)⟩]) := List.mem_append_right _ (List.mem_append_right _ (by simp))
    clear hl9 HLL hgb hnb hv51 hv52 HPU hlg9 HLV c9 HLG HQV c10 HQO FARL hgz hbz HBG hc9 hf9 hc10 hf10 HG9 HQ9 hN1 hd1 q1T q1N q1lg q1que q1qd hT1 hbd hlg1 hq1
    refine HUPD.out.mono ?_
    rintro r wA ⟨rfl, d2, hd2, hU2⟩
    have Q1 := (Q0.upd HS.out.v HD1' HS.out.n HL1' hamem hey hex (fun e => hnt (congrArg Ref.tr e)) (d' := d2) (by show Upd d1 d2 (num s.ps ⟨(ty : Int), (ky : Int)⟩) _ _; rw [← hjY]; exact hU2)).mono (R' := fun _ => False) (fun b _ _ _ hb => hb.2 hb.1)
    have HG2 := Lib.hid hd2
    clear hd2 hU2 HUPD HD1 Q0 hamem hiX hjY
    generalize hDE : D' ++ [arc0 ⟨(tx : Int), (kx : Int)⟩ ⟨(ty : Int), (ky : Int)⟩] = D1 at *
    have HDE := Lib.hid hDE
    have HQ1 := Lib.hid Q1
    clear hDE Q1
    go_wp2
    go_loopw [9] (fun x9 wr => ∃ (k : Nat) (dk : GD), x9 = .int .i64 (k : Int) ∧ Gm s w0 wr dk ∧ QSt s.ps s.at_ s.now D1 L1 (fun _ => False) k d.lg (absT d.T (evs s.ps)) (d.T, nextD s.ps D') dk) (fun x9 _ => 1790000000000 - (intOf x9).toNat)
    case atStart => exact ⟨0, d2, rfl, HG2.out, HQ1.out⟩
    case round =>
     obtain ⟨k, dk, rfl, hgk, hqk⟩ := hrel
     have HGK := Lib.hid hgk
     have HQK := Lib.hid hqk
     obtain ⟨Aq, cq, hqv, hq1, hq2⟩ := hgk.q.form
     have HQV := Lib.hid hqv
     have c10 := hgk.c10
     rw [hqv] at c10
     have hqb : dk.que.length ≤ 1780000000000 := by
      have h1 := hqk.qa
      have h2 := hqk.prt.abs HS.out.v HD1' HS.out.n HL1'
      omega
     by_cases hlt : k < dk.que.length
     ·obtain ⟨u, hu, hue⟩ := hqk.qin k _ (List.getElem?_eq_getElem hlt)
      have hqx : dk.que[k]? = some (num s.ps u : Int) := by rw [List.getElem?_eq_getElem hlt, hue]
      obtain ⟨t, kk, p, hpt, hkk, hut⟩ := hu.1
      have hue2 : num s.ps u = fst s.ps t + kk := by rw [hut]; simp [num]
      have hev : (evs s.ps)[num s.ps u]? = some ⟨(t : Int), (kk : Int)⟩ := by rw [evs_num hu.1, hut]
      have hpop := (hqk.pop hu hqx (fun a ha => (arcsD_ends HD1' ha).1))
      have hen : num s.ps u < s.n := getElem?_lt hev
      rw [HNN.out] at hen
      obtain ⟨bq, oq, xq, hAq, _, hxq, q0⟩ := RInts.at_ ((hqv ▸ hgk.q : OwnL 3 1 RInt wr s.bs s.bs (.slice Aq dk.que.length cq) dk.que).readF RInt.ok RInt.flat (S := fun _ => True) (fun _ _ => trivial)) hlt
      rw [hqx] at hxq
      obtain rfl : (num s.ps u : Int) = xq := by injection hxq
      subst hAq
      have HU := Lib.hid (And.intro hpt (And.intro hut (And.intro hue2 hev)))
      have HUE := Lib.hid hu
      have HQX := Lib.hid hqx
      obtain ⟨eb, ce, hse, e0, e1⟩ := hgk.evc hev
      simp only at e0 e1
      have c6 := hgk.c6
      have c11 := hgk.c11
      rw [hse, HNN.out] at c6
      rw [HNN.out] at c11
      have hqe : num s.ps u < dk.qd.length := by have := hgk.ql; rw [HNN.out] at this; omega
      have qx := (hgk.qd.cell (num s.ps u)).trans (boolsC_at (List.getElem?_eq_getElem hqe))
      have fx := hgk.qd.frozen (num s.ps u)
      have n3 := hgk.nes.2.2.1
      have n7 : eb ≠ s.qb := fun e => by
       have := hgk.e.ne_blk hgk.qd (by decide)
       rw [hse] at this
       exact this (by show some eb = some s.qb; rw [e])
      have HGP := Lib.hid (hgk.setQd (num s.ps u) false)
      have hlt' : decide (k < dk.que.length) = true := decide_eq_true hlt
      have hsev := Lib.hid hse
      generalize dk.qd[num s.ps u] = b0 at *
      clear hgk hqk hqv hq1 hq2 hue hqx hpt hut hue2 hev hxq hu hse hqe
      generalize hE0 : num s.ps u = e at *
      have HE0 := Lib.hid hE0; clear hE0
      go_wp2
      generalize hWf : World.alloc _ _ = Wf
      have KF : KeepsAll (wr.setCell ⟨s.qb, e, none⟩ (.bool false)) Wf := by subst hWf; exact (Keeps.refl _ _).alloc _
      have HBE : Hid (Blk Wf wr.heap.size 46 #[.int .i64 (t : Int), .int .i64 (kk : Int)]) := by subst hWf; exact Blk.new' _ _ _ (by simp)
      have hGF := HGP.out.keep KF
      clear hWf KF HGP c10 c11 c6 q0 qx fx e0 e1 n3 n7
      generalize wr.heap.size = zb at *
      have HGF := Lib.hid hGF
      have g0 := hGF.c0
      have b0' := HBE.out.cell 0
      have b1' := HBE.out.cell 1
      simp at b0' b1'
      obtain ⟨Ap, cp, hvp, _, _⟩ := hGF.P.val
      rw [hvp] at g0
      have htl := getElem?_lt HU.out.1
      obtain ⟨bp, op, p', Ap', cp', hAp, _, hpx', d0, hrp⟩ := RSS.at_ (hvp ▸ hGF.P : RPaths Wf (Old w0) [.slice Ap s.ps.length cp] s.ps) htl
      rw [HU.out.1] at hpx'
      obtain rfl : p = p' := by injection hpx'
      subst hAp
      have HRP := Lib.hid hrp
      clear hGF hvp hpx' hrp
      go_quiet (fail)
      generalize hWg : World.drewN _ _ = Wg
      have KG : KeepsAll Wf Wg := by subst hWg; exact (Keeps.refl _ _).drewN _
      clear hWg
      have HGG := Lib.hid (HGF.out.keep KG)
      have HBG := Lib.hid (HBE.out.kept KG (by simp))
      have HRG : Hid (RPath Wg (Old w0) [.slice Ap' p.length cp'] p) := Lib.hid (KG.rd RPath.ok HRP.out (fun b hb => ⟨Nat.lt_of_lt_of_le hb HGF.out.k.size, by simp⟩) (fun _ h => h))
      clear HGF HBE HRP g0 b0' b1' d0 KG
      have b0' := HBG.out.cell 0
      have b1' := HBG.out.cell 1
      simp at b0' b1'
      have HUEQ : Hid (Ev s.ps s.at_ ⟨(t : Int), (kk : Int)⟩) := by show Ev _ _ _; rw [← HU.out.2.1]; exact HUE.out
      have hkk64 : kk ≤ 64 := by have := ((valid_lens HS.out.v).2 p (List.mem_of_getElem? HU.out.1)).2; omega
      have ht10 : t < 10 := by have := (valid_lens HS.out.v).1; omega
      have hql : ({ dk with qd := dk.qd.set e false } : GD).que.length ≤ 3000000000000 := by show dk.que.length ≤ _; omega
      have hlgl : ∀ (i' : Nat) (R : RArc → Prop) (dd : GD), QSt s.ps s.at_ s.now D1 L1 R i' d.lg (absT d.T (evs s.ps)) (d.T, nextD s.ps D') dd → dd.lg.length ≤ 3000000000000 ∧ dd.que.length ≤ 3000000000000 := fun i' R dd q => by
       obtain ⟨es, h1, h2, _⟩ := q.lg
       have h3 := q.prt.abs HS.out.v HD1' HS.out.n HL1'
       have h4 := HP.out.lgb HS.out (by omega)
       have h5 := q.qa
       rw [h1, List.length_append]
       omega
      have HLGL := Lib.hid hlgl
      clear hlgl hql
      have HPOP := Lib.hid hpop
      clear hpop
      by_cases hkl : kk < p.length
      ·have hkl' : decide (kk < p.length) = true := decide_eq_true hkl
       obtain ⟨b3, o3, st, A3, c3, hA3, _, hst, m0, m1, m2, m3, _⟩ := RPath.at_ HRG.out hkl
       subst hA3
       have hmn := (valid_clk HS.out.v HU.out.1 hst).1
       have HST := Lib.hid hst
       have hch : (⟨⟨(t : Int), (kk : Int)⟩, ⟨(t : Int), (kk : Int) + 1⟩, st.mn⟩ : RArc) ∈ arcsD s.ps D1 := List.mem_append_left _ (mem_chainR.2 ⟨t, kk, p, st, HU.out.1, hst, rfl⟩)
       have hto : Ev s.ps s.at_ ⟨(t : Int), (kk : Int) + 1⟩ := ⟨⟨t, kk + 1, p, HU.out.1, hkl, by simp⟩, by
        have h1 := HUEQ.out.2
        unfold doneR at h1 ⊢
        simp only [decide_eq_false_iff_not] at h1 ⊢
        omega⟩
       have hnt2 : num s.ps ⟨(t : Int), (kk : Int) + 1⟩ = e + 1 := by
        rw [HU.out.2.2.1]
        unfold num
        simp only [Int.toNat_natCast]
        omega
       have hfe2 : (evs s.ps)[e + 1]? = some ⟨(t : Int), (kk : Int) + 1⟩ := by rw [← hnt2]; exact evs_num hto.1
       have hUP := dupdate_any s w0 Wg _ HGG.out (e + 1) e t kk ⟨(t : Int), (kk : Int) + 1⟩ st.mn hfe2 HU.out.2.2.2 ht10 hkk64 (by rw [HNN.out]; exact hn650) (HPOP.out.prt.bounds HS.out.v HD1' HS.out.n HL1') hmn (HLGL.out _ _ _ HPOP.out).1 (HLGL.out _ _ _ HPOP.out).2
       have HUP : Hid (Calls Try.prog 91 #[.pointer (some ⟨s.gb, 0, none⟩), .int .i64 ((e : Int) + 1), .int .i64 (e : Int), .int .i64 st.mn] Wg _) := Lib.hid hUP
       have HTO := Lib.hid hto
       have HNT2 := Lib.hid hnt2
       have HCH := Lib.hid hch
       clear hst hto hnt2 hfe2 hUP hch
       go_wp2_with fail
       refine HUP.out.mono ?_
       rintro r wB ⟨rfl, dB, hdB, hUB⟩
       have hQ := (HPOP.out.upd HS.out.v HD1' HS.out.n HL1' HCH.out HTO.out HUEQ.out (fun e => by injection e with _ e; omega) (d' := dB) (by show Upd _ _ (num s.ps ⟨(t : Int), (kk : Int) + 1⟩) _ _; rw [HNT2.out]; exact hUB))
       have HQ3 := Lib.hid (hQ.mono (R' := fun b => b.frm = u ∧ b ∉ chainR s.ps) (fun b _ _ _ hb => ⟨hb.1, fun hc => by
        obtain ⟨st', h1, h2⟩ := chain_frm hc HU.out.1 (hb.1.trans HU.out.2.1)
        rw [HST.out] at h1
        injection h1 with h1
        subst h1
        exact hb.2 h2⟩)).rows
       have HG3 := Lib.hid hdB
       clear hdB hUB hQ HUP HTO HNT2 HCH HST m0 m1 m2 m3 hmn hkl' HGG HPOP HBG HRG b0' b1'
       obtain ⟨Ar2, cr2, l2, hv2, hl2, hown2, hcell2, _, _, _⟩ := HG3.out.row (i := e) (by rw [HNN.out]; exact hen)
       have hl2e := (nextD_row (HQ3.out.N ▸ hl2)).1
       have hl2l := (nextD_row (HQ3.out.N ▸ hl2)).2
       have hD1l : D1.length ≤ 90000001 := by rw [← HDE.out]; simp; omega
       have HV2 := Lib.hid hv2
       have HL2 := Lib.hid hl2
       have HL2E := Lib.hid hl2e
       have c8 := HG3.out.c8
       rw [HNN.out] at c8
       clear hv2 hl2 hown2 hl2e
       go_wp2
       go_loopw [134] (fun x wr' => ∃ (m : Nat) (dm : GD), x = .int .i64 (m : Int) ∧ m ≤ l2.length ∧ dm.vs = dB.vs ∧ Gm s w0 wr' dm ∧ QSt s.ps s.at_ s.now D1 L1 (Row s.ps D1 u m) (k + 1) d.lg (absT d.T (evs s.ps)) (d.T, nextD s.ps D') dm) (fun x _ => l2.length - (intOf x).toNat)
       case atStart => exact ⟨0, dB, rfl, Nat.zero_le _, rfl, HG3.out, HQ3.out⟩
       case round =>
        obtain ⟨m, dm, rfl, hml, hvm, hgm, hqm⟩ := hrel
        have HGM := Lib.hid hgm
        have HQM := Lib.hid hqm
        have HVM := Lib.hid hvm
        by_cases hlt2 : m < l2.length
        ·have hlt2' : decide (m < l2.length) = true := decide_eq_true hlt2
         obtain ⟨b0, hb0⟩ : ∃ b0, (rowD s.ps D1 (num s.ps u))[m]? = some b0 := ⟨_, List.getElem?_eq_getElem (by rw [HE0.out]; have := congrArg List.length HL2E.out; simp at this; omega)⟩
         have hlx : l2[m]? = some (num s.ps b0.to : Int) := by rw [HL2E.out, ← HE0.out, List.getElem?_map, hb0]; rfl
         obtain ⟨hr1, hr2, hr3⟩ := row_arc HD1' HUE.out.1 hb0
         have hto : Ev s.ps s.at_ b0.to := ⟨HD1'.to b0 hr1, hho.out b0 hr1⟩
         have hne0 := HD1'.ne b0 hr1
         have hown := hgm.nr.own e _ l2 (by rw [hvm]; exact HV2.out) (by rw [hqm.N, ← HQ3.out.N]; exact HL2.out)
         obtain ⟨b4, o4, x4, hA4, _, hx4, n0⟩ := RInts.at_ (hown.readF RInt.ok RInt.flat (S := fun _ => True) (fun _ _ => trivial)) hlt2
         rw [hlx] at hx4
         obtain rfl : (num s.ps b0.to : Int) = x4 := by injection hx4
         subst hA4
         have hUP := dupdate_any s w0 _ dm hgm (num s.ps b0.to) e t kk b0.to 0 (evs_num hto.1) HU.out.2.2.2 ht10 hkk64 (by rw [HNN.out]; exact hn650) (hqm.prt.bounds HS.out.v HD1' HS.out.n HL1') (by omega) (HLGL.out _ _ _ hqm).1 (HLGL.out _ _ _ hqm).2
         have HUP := Lib.hid hUP
         have HB0 := Lib.hid (And.intro hb0 (And.intro hr1 (And.intro hr2 (And.intro hr3 (And.intro hto hne0)))))
         clear hb0 hlx hr1 hr2 hr3 hto hne0 hown hx4 hUP hgm hqm hvm
         go_wp2_with fail
         refine HUP.out.mono ?_
         rintro r wC ⟨rfl, dC, hdC, hUC⟩
         obtain ⟨hb0, hr1, hr2, hr3, hto, hne0⟩ := HB0.out
         have hQ := (HQM.out.upd HS.out.v HD1' HS.out.n HL1' (a := b0) (List.mem_append_right _ hr1) hto (by rw [hr2]; exact HUE.out) (fun e => hne0 (congrArg Ref.tr e)) (d' := dC) (by rw [hr2, HU.out.2.1, HD1'.wt b0 hr1]; exact hUC)).rowStep hb0
         have HQC := Lib.hid hQ
         have HGC := Lib.hid hdC
         have HVC := Lib.hid (hUC.vs.trans HVM.out)
         clear hb0 hr1 hr2 hr3 hto hne0 hQ hdC hUC HB0 HUP n0 hlt2'
         go_wp2
         go_roundw
         case rel => exact ⟨m + 1, dC, by go_num, by omega, HVC.out, HGC.out, HQC.out⟩
         case measure => simp [intOf]; omega
        ·have hlt2' : decide (m < l2.length) = false := decide_eq_false hlt2
         have HQE := Lib.hid (hqm.rowEnd (by rw [HE0.out]; have := congrArg List.length HL2E.out; simp at this; omega))
         clear hgm hqm hvm
         go_wp2
         go_roundw
         case rel => exact ⟨k + 1, dm, by go_num, HGM.out, HQE.out⟩
         case measure => simp [intOf]; omega
      ·have hkl' : decide (kk < p.length) = false := decide_eq_false hkl
       have HQ3 := Lib.hid (HPOP.out.mono (R' := fun b => b.frm = u ∧ b ∉ chainR s.ps) (fun b _ _ _ hb => ⟨hb, fun hc => by
        obtain ⟨st', h1, h2⟩ := chain_frm hc HU.out.1 (hb.trans HU.out.2.1)
        exact hkl (getElem?_lt h1)⟩)).rows
       obtain ⟨dB, HG3, HQ3⟩ : ∃ dB, Hid (Gm s w0 Wg dB) ∧ Hid (QSt s.ps s.at_ s.now D1 L1 (Row s.ps D1 u 0) (k + 1) d.lg (absT d.T (evs s.ps)) (d.T, nextD s.ps D') dB) := ⟨_, HGG, HQ3⟩
       clear HGG HPOP hkl
       obtain ⟨Ar2, cr2, l2, hv2, hl2, hown2, hcell2, _, _, _⟩ := HG3.out.row (i := e) (by rw [HNN.out]; exact hen)
       have hl2e := (nextD_row (HQ3.out.N ▸ hl2)).1
       have hl2l := (nextD_row (HQ3.out.N ▸ hl2)).2
       have hD1l : D1.length ≤ 90000001 := by rw [← HDE.out]; simp; omega
       have HV2 := Lib.hid hv2
       have HL2 := Lib.hid hl2
       have HL2E := Lib.hid hl2e
       have c8 := HG3.out.c8
       rw [HNN.out] at c8
       clear hv2 hl2 hown2 hl2e
       go_wp2
       go_loopw [134] (fun x wr' => ∃ (m : Nat) (dm : GD), x = .int .i64 (m : Int) ∧ m ≤ l2.length ∧ dm.vs = dB.vs ∧ Gm s w0 wr' dm ∧ QSt s.ps s.at_ s.now D1 L1 (Row s.ps D1 u m) (k + 1) d.lg (absT d.T (evs s.ps)) (d.T, nextD s.ps D') dm) (fun x _ => l2.length - (intOf x).toNat)
       case atStart => exact ⟨0, dB, rfl, Nat.zero_le _, rfl, HG3.out, HQ3.out⟩
       case round =>
        obtain ⟨m, dm, rfl, hml, hvm, hgm, hqm⟩ := hrel
        have HGM := Lib.hid hgm
        have HQM := Lib.hid hqm
        have HVM := Lib.hid hvm
        by_cases hlt2 : m < l2.length
        ·have hlt2' : decide (m < l2.length) = true := decide_eq_true hlt2
         obtain ⟨b0, hb0⟩ : ∃ b0, (rowD s.ps D1 (num s.ps u))[m]? = some b0 := ⟨_, List.getElem?_eq_getElem (by rw [HE0.out]; have := congrArg List.length HL2E.out; simp at this; omega)⟩
         have hlx : l2[m]? = some (num s.ps b0.to : Int) := by rw [HL2E.out, ← HE0.out, List.getElem?_map, hb0]; rfl
         obtain ⟨hr1, hr2, hr3⟩ := row_arc HD1' HUE.out.1 hb0
         have hto : Ev s.ps s.at_ b0.to := ⟨HD1'.to b0 hr1, hho.out b0 hr1⟩
         have hne0 := HD1'.ne b0 hr1
         have hown := hgm.nr.own e _ l2 (by rw [hvm]; exact HV2.out) (by rw [hqm.N, ← HQ3.out.N]; exact HL2.out)
         obtain ⟨b4, o4, x4, hA4, _, hx4, n0⟩ := RInts.at_ (hown.readF RInt.ok RInt.flat (S := fun _ => True) (fun _ _ => trivial)) hlt2
         rw [hlx] at hx4
         obtain rfl : (num s.ps b0.to : Int) = x4 := by injection hx4
         subst hA4
         have hUP := dupdate_any s w0 _ dm hgm (num s.ps b0.to) e t kk b0.to 0 (evs_num hto.1) HU.out.2.2.2 ht10 hkk64 (by rw [HNN.out]; exact hn650) (hqm.prt.bounds HS.out.v HD1' HS.out.n HL1') (by omega) (HLGL.out _ _ _ hqm).1 (HLGL.out _ _ _ hqm).2
         have HUP := Lib.hid hUP
         have HB0 := Lib.hid (And.intro hb0 (And.intro hr1 (And.intro hr2 (And.intro hr3 (And.intro hto hne0)))))
         clear hb0 hlx hr1 hr2 hr3 hto hne0 hown hx4 hUP hgm hqm hvm
         go_wp2_with fail
         refine HUP.out.mono ?_
         rintro r wC ⟨rfl, dC, hdC, hUC⟩
         obtain ⟨hb0, hr1, hr2, hr3, hto, hne0⟩ := HB0.out
         have hQ := (HQM.out.upd HS.out.v HD1' HS.out.n HL1' (a := b0) (List.mem_append_right _ hr1) hto (by rw [hr2]; exact HUE.out) (fun e => hne0 (congrArg Ref.tr e)) (d' := dC) (by rw [hr2, HU.out.2.1, HD1'.wt b0 hr1]; exact hUC)).rowStep hb0
         have HQC := Lib.hid hQ
         have HGC := Lib.hid hdC
         have HVC := Lib.hid (hUC.vs.trans HVM.out)
         clear hb0 hr1 hr2 hr3 hto hne0 hQ hdC hUC HB0 HUP n0 hlt2'
         go_wp2
         go_roundw
         case rel => exact ⟨m + 1, dC, by go_num, by omega, HVC.out, HGC.out, HQC.out⟩
         case measure => simp [intOf]; omega
        ·have hlt2' : decide (m < l2.length) = false := decide_eq_false hlt2
         have HQE := Lib.hid (hqm.rowEnd (by rw [HE0.out]; have := congrArg List.length HL2E.out; simp at this; omega))
         clear hgm hqm hvm
         go_wp2
         go_roundw
         case rel => exact ⟨k + 1, dm, by go_num, HGM.out, HQE.out⟩
         case measure => simp [intOf]; omega
     ·have hle : dk.que.length ≤ k := by omega
      have hlt' : decide (k < dk.que.length) = false := decide_eq_false hlt
      have HFIN := Lib.hid (HP.out.add HS.out (d' := dk) hL hE HT.out HN.out hDl' hlg hex hey hnt hL1 (by rw [HDE.out]; exact hqk) hle)
      clear hgk hqk hqv hlt hq1 hq2
      go_wp2
      refine bodyPost_ret (v := .bool true) (by simp [results, Try.results70, go_sem]) rfl ?_
      exact ⟨by rw [HOK.out], ChPost.yes HOK.out HGK.out HFIN.out⟩

end Go.Proofs.Ytilbbpbjhoidhaa
