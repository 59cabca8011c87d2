/- Contract of takeover.entries. Conditions: as the theorem says. Insertion by the order (second, train, stage) gives what the reference sorts. No program in sight. takeover.Orders as a plain function; what a search that succeeds gives. No program in sight. -/
import Derived.Test.YtbfgmbakeofcbaaK34
import Derived.Test.YtbfgmbakeofcbaaK35
import Derived.Test.YtbfgmbakeofcbaaK07
import Derived.Test.YtbfgmbakeofcbaaK25
import Derived.Test.YtbfgmbakeofcbaaK31
namespace Go.Proofs.Ytbfgmbakeofcbaa
open Go.RowKit

theorem runM_snoc (now l : List Int) (x : Int) : runM now (l ++ [x]) = stepN (runM now l) x.toNat := by unfold runM; rw [List.foldl_append]; rfl
theorem legal_at {ps : List (List Stage)} : ∀ (mv now : List Int), Gd ps now → Legal ps now mv → ∀ (k : Nat) x, mv[k]? = some x → Gd ps (runM now (mv.take k)) ∧ ∃ t : Nat, x = (t : Int) ∧ t < ps.length ∧ canMv ps (runM now (mv.take k)) t = true
  | [], _, _, _, k, x, h => by simp at h
  | y :: mv, now, hg, hl, k, x, h => by
    obtain ⟨t, rfl, ht, hc, hr⟩ := hl
    cases k with
    | zero => simp at h; subst h; exact ⟨hg, t, rfl, ht, hc⟩
    | succ k =>
      have := legal_at mv (stepN now t) (hg.step ht (canMv_lt hc)) hr k x (by simpa using h)
      have e : runM now (((t : Int) :: mv).take (k + 1)) = runM (stepN now t) (mv.take k) := by simp [runM]
      rw [e]; exact this
/-- the number of the move with which each stage is entered -/
def entTo (ps : List (List Stage)) (at_ mv : List Int) : Nat → Tab
  | 0 => fun _ => -1
  | k + 1 => if nowAt (runM at_ (mv.take k)) ((mv[k]?).getD 0).toNat + 1 < lenAt ps ((mv[k]?).getD 0).toNat then upd (entTo ps at_ mv k) ⟨(mv[k]?).getD 0, nowAt (runM at_ (mv.take k)) ((mv[k]?).getD 0).toNat + 1⟩ (k : Int) else entTo ps at_ mv k
def plus1 (l : List Int) : List Int := l.map (· + 1)
theorem plus1_set (l : List Int) (t : Nat) (x : Int) : (plus1 l).set t (x + 1) = plus1 (l.set t x) := by simp [plus1, List.map_set]

theorem Te.far {ps : List (List Stage)} {w wr : World} {N m : Nat} {gs : Nat → Nat} {T : Tab} (h : Te ps w wr N m gs T) {p : Addr} (hN : N ≠ p.block) (hg : ∀ t, t < m → gs t ≠ p.block) (hw : w.heap.size ≤ p.block) (v : Value) : Te ps w (wr.setCell p v) N m gs T := by
  obtain ⟨cur, h1, h2⟩ := h.n
  exact ⟨⟨cur, h1.far hN v, h2⟩, fun t ht => (h.r t ht).far (hg t ht) v, h.inj, h.lo, h.nlo, h.k.setCell (fun hh => absurd hh (by omega)) v⟩
theorem plus1_next {at_ : List Int} {m n : Nat} {a : Int} (ha : at_[m]? = some a) (hn : m < n) : (plus1 (at_.take m) ++ List.replicate (n - m) 0).set m (a + 1) = plus1 (at_.take (m + 1)) ++ List.replicate (n - (m + 1)) 0 := by
  have hl : (plus1 (at_.take m)).length = m := by have := getElem?_lt ha; simp [plus1]; omega
  rw [List.set_append_right _ _ (by omega), hl, Nat.sub_self, show n - m = (n - (m + 1)) + 1 from by omega, List.replicate_succ, List.set_cons_zero]
  have e : at_.take (m + 1) = at_.take m ++ [a] := by rw [List.take_add_one, ha]; rfl
  rw [e]; simp [plus1]

set_option maxRecDepth 100000 in
set_option maxHeartbeats 2000000 in
theorem entries_any (ps : List (List Stage)) (at_ mv : List Int) (A A2 A3 : Option Addr) (c c2 c3 : Nat) (w : World) (h : RPaths w (Old w) [.slice A ps.length c] ps) (h2 : RInts w (Old w) [.slice A2 at_.length c2] at_) (h3 : RInts w (Old w) [.slice A3 mv.length c3] mv)
    (hv : valid ps = true) (hg : Gd ps at_) (hl : Legal ps at_ mv) (hml : mv.length ≤ 1000) :
    Calls Try.prog 29 #[.slice A ps.length c, .slice A2 at_.length c2, .slice A3 mv.length c3] w fun e w' => ∃ N gs, e = .returned (.slice (some ⟨N, 0, none⟩) ps.length ps.length) ∧ Te ps w w' N ps.length gs (entTo ps at_ mv mv.length) := by
  have hc := h.caps
  have hc2 := h2.caps
  have hc3 := h3.caps
  have hl10 := (valid_lens hv).1
  have H := Lib.hid h
  have H2 := Lib.hid h2
  have H3 := Lib.hid h3
  have HV := Lib.hid hv
  have HG := Lib.hid hg
  have HLA := Lib.hid (legal_at mv at_ hg hl)
  have HLEN := Lib.hid (fun t => lenAt_le hv t)
  have HP1 : Hid (∀ (t : Nat) p, ps[t]? = some p → 1 ≤ p.length) := fun t p hp => ((valid_lens hv).2 p (List.mem_of_getElem? hp)).1
  have hal : at_.length = ps.length := hg.1
  have HAL := Lib.hid hal
  have al1 : at_.length ≤ ps.length := by omega
  have al2 : ps.length ≤ at_.length := by omega
  have hmk := mkIntss ps.length (by omega)
  have hmk2 := mkInts ps.length (by omega)
  clear h h2 h3 hv hg hl hal
  go_enter Try.func29, Try.ntmps29
  go_wp2
  generalize hW : World.alloc (World.alloc w _) _ = W
  have HT0 : Hid (Blk W w.heap.size 22 (rowsE ps (fun _ => 0) 0)) := by
    subst hW
    show Blk _ _ _ _
    rw [rowsE_zero]; exact (Blk.new _ _ _).alloc _
  have HN0 : Hid (Blk W (w.heap.size + 1) 3 (cellsI (plus1 (at_.take 0) ++ List.replicate (ps.length - 0) 0))) := by
    subst hW
    show Blk _ _ _ _
    simp only [List.take_zero, Nat.sub_zero]
    exact Blk.new' _ _ _ (by simp)
  have KW : Hid (KeepsAll w W) := by subst hW; exact ((Keeps.refl _ _).alloc _).alloc _
  clear hW hmk hmk2
  generalize hNN : w.heap.size = N at *
  have HNN := Lib.hid hNN; clear hNN
  go_loopw [21] (fun v wr => ∃ (m : Nat) (gs : Nat → Nat), m ≤ ps.length ∧ v = .int .i64 (m : Int) ∧ Te ps w wr N m gs (fun _ => -1) ∧ Blk wr N 22 (rowsE ps gs m) ∧ Blk wr (N + 1) 3 (cellsI (plus1 (at_.take m) ++ List.replicate (ps.length - m) 0)) ∧ ∀ t, t < m → gs t ≠ N + 1) (fun v _ => ps.length - (intOf v).toNat)
  case atStart => exact ⟨0, fun _ => 0, Nat.zero_le _, rfl, ⟨⟨_, HT0.out, fun t ht => by omega⟩, fun t ht => by omega, fun t u ht => by omega, fun t ht => by omega, by rw [HNN.out]; exact Nat.le_refl _, KW.out⟩, HT0.out, HN0.out, fun t ht => by omega⟩
  case round =>
    clear HT0 HN0 KW
    obtain ⟨m, gs, hm, rfl, htb, hbn, hnx, hgs⟩ := hrel
    have HTB := Lib.hid htb
    have HBN := Lib.hid hbn
    have HNX := Lib.hid hnx
    have HGS := Lib.hid hgs
    clear htb hbn hnx hgs
    by_cases hlt : m < ps.length
    · obtain ⟨b, o, p, A', c', hbo, hb, hp, k1, hr⟩ := RSS.atK HTB.out.k H.out hlt
      subst hbo
      obtain ⟨b2, o2, a, hbo, hb2, ha, k2⟩ := RInts.atK HTB.out.k H2.out (k := m) (by omega)
      subst hbo
      have hcp := hr.caps
      have hl64 := HLEN.out m
      have hG := HG.out.2 m hlt
      have hp1 := HP1.out m p hp
      rw [nowAt_of ha] at hG
      rw [lenAt_of hp] at hl64 hG
      have HEL := Lib.hid (lenAt_of hp)
      have HAA := Lib.hid ha
      have HBB := Lib.hid hb2
      clear hr hp ha
      have hs1 : IntKind.i64.wrap (a + 1) = a + 1 := IntWalk.i64_in _ (by omega)
      have hdm : decide ((m : Int) < (ps.length : Int)) = true := by simp; omega
      go_wp2_with fail
      generalize hW3 : World.alloc wr _ = W3
      have KW3 : Hid (KeepsAll wr W3) := by subst hW3; exact (Keeps.refl _ _).alloc _
      have BX : Hid (Blk W3 wr.heap.size 3 #[.int .i64 (-1)]) := by subst hW3; exact Blk.new _ _ _
      have RP : Hid (Calls Try.prog 55 #[.slice (some ⟨wr.heap.size, 0, none⟩) 1 1, .int .i64 (p.length : Int)] W3 fun e w' => ∃ g, e = .returned (.slice (some ⟨g, 0, none⟩) p.length p.length) ∧ W3.heap.size ≤ g ∧ Blk w' g 3 (cellsI (List.replicate p.length (-1))) ∧ KeepsAll W3 w') := Repeat_one (-1) p.length (by omega) (by omega) wr.heap.size W3 (by have := BX.out.cell 0; simpa using this) BX.out.lt
      clear hW3 k1 hb
      refine RP.out.mono ?_
      rintro e w4 ⟨g4, rfl, hg4, hb4, k4⟩
      have K4 := Lib.hid (KW3.out.tr k4)
      have BN4 := HBN.out.kept K4.out (by simp)
      have q0 := BN4.cell m
      have q1 := BN4.frozen m
      rw [rowsE_at _ _ _ hlt, if_neg (by omega)] at q0
      have hN4 := BN4.lt
      have BX4 := HNX.out.kept K4.out (by simp)
      have HF1 : Hid (Te ps w (w4.setCell ⟨N, m, none⟩ (.slice (some ⟨g4, 0, none⟩) p.length p.length)) N (m + 1) (gsAdd gs m g4) (fun _ => -1) ∧ Blk (w4.setCell ⟨N, m, none⟩ (.slice (some ⟨g4, 0, none⟩) p.length p.length)) N 22 (rowsE ps (gsAdd gs m g4) (m + 1))) := by
        have e := HEL.out
        have hz := KW3.out.size
        refine ⟨?_, ?_⟩
        · have q := HTB.out.add K4.out (g := g4) (by omega) (by rw [e]; exact hb4) BN4 (fun t ht => by rw [rowsE_at _ _ _ (by omega), if_pos ht]) (by rw [rowsE_size]; exact hlt)
          rw [e] at q; exact q
        · have q := BN4.set_ m (.slice (some ⟨g4, 0, none⟩) p.length p.length)
          have q2 := rowsE_succ ps gs m g4
          rw [e] at q2
          rw [q2] at q
          exact q
      have BX5 := Lib.hid (BX4.far (p := ⟨N, m, none⟩) (by simp) (.slice (some ⟨g4, 0, none⟩) p.length p.length))
      have r0 := BX5.out.cell m
      have r1 := BX5.out.frozen m
      have hl : (plus1 (at_.take m)).length = m := by simp [plus1]; omega
      rw [cellsI_at (show (plus1 (at_.take m) ++ List.replicate (ps.length - m) 0)[m]? = some 0 from by rw [List.getElem?_append_right (by omega), hl, Nat.sub_self, List.getElem?_replicate, if_pos (by omega)])] at r0
      have r2 := BX5.out.lt
      obtain ⟨b2', o2', a', hbo, hb2', ha', k2'⟩ := RInts.atK HF1.out.1.k H2.out (k := m) (by omega)
      injection hbo with hbo; injection hbo with hbo1 hbo2; subst hbo1 hbo2
      rw [HAA.out] at ha'; injection ha' with ha'; subst ha'
      have HG4 : Hid (g4 ≠ N + 1) := by
        show _ ≠ _
        have := HNX.out.lt
        have := KW3.out.size
        omega
      have HF2 : Hid (Te ps w ((w4.setCell ⟨N, m, none⟩ (.slice (some ⟨g4, 0, none⟩) p.length p.length)).setCell ⟨N + 1, m, none⟩ (.int .i64 (a + 1))) N (m + 1) (gsAdd gs m g4) (fun _ => -1) ∧ Blk ((w4.setCell ⟨N, m, none⟩ (.slice (some ⟨g4, 0, none⟩) p.length p.length)).setCell ⟨N + 1, m, none⟩ (.int .i64 (a + 1))) N 22 (rowsE ps (gsAdd gs m g4) (m + 1)) ∧ Blk ((w4.setCell ⟨N, m, none⟩ (.slice (some ⟨g4, 0, none⟩) p.length p.length)).setCell ⟨N + 1, m, none⟩ (.int .i64 (a + 1))) (N + 1) 3 (cellsI (plus1 (at_.take (m + 1)) ++ List.replicate (ps.length - (m + 1)) 0)) ∧ ∀ t, t < m + 1 → gsAdd gs m g4 t ≠ N + 1) := by
        have hgs : ∀ t, t < m + 1 → gsAdd gs m g4 t ≠ N + 1 := fun t ht => by
          unfold gsAdd
          by_cases e : t = m
          · rw [if_pos e]; exact HG4.out
          · rw [if_neg e]; exact HGS.out t (by omega)
        refine ⟨HF1.out.1.far (by simp) hgs (by rw [HNN.out]; simp) _, HF1.out.2.far (by simp) _, ?_, hgs⟩
        rw [← plus1_next HAA.out hlt, ← cellsI_set]
        exact BX5.out.set_ m _
      clear hb4 k4 BN4 BX4 RP BX HF1 BX5 hl
      go_wp2
      go_roundw
      case rel => exact ⟨m + 1, _, by omega, by go_num, HF2.out.1, HF2.out.2.1, HF2.out.2.2.1, HF2.out.2.2.2⟩
      case measure => simp [intOf]; omega
    · obtain rfl : m = ps.length := by omega
      have hdm : decide ((ps.length : Int) < (ps.length : Int)) = false := by simp
      have HNX0 : Hid (Blk wr (N + 1) 3 (cellsI (plus1 (runM at_ (mv.take 0))))) := by
        have h := HNX.out
        rw [Nat.sub_self, List.replicate_zero, List.append_nil, ← HAL.out, List.take_length] at h
        exact h
      clear HNX HBN hlt hm
      go_wp2
      go_loopw [44] (fun v wr => ∃ k : Nat, k ≤ mv.length ∧ v = .int .i64 (k : Int) ∧ Te ps w wr N ps.length gs (entTo ps at_ mv k) ∧ Blk wr (N + 1) 3 (cellsI (plus1 (runM at_ (mv.take k))))) (fun v _ => mv.length - (intOf v).toNat)
      case atStart => exact ⟨0, Nat.zero_le _, rfl, HTB.out, HNX0.out⟩
      case round =>
        clear HTB HNX0
        obtain ⟨k, hk, rfl, hte, hnx⟩ := hrel
        have HTE := Lib.hid hte
        have HNX := Lib.hid hnx
        clear hte hnx
        by_cases hlt : k < mv.length
        · obtain ⟨b3, o3, x, hbo, hb3, hx, k3⟩ := RInts.atK HTE.out.k H3.out hlt
          subst hbo
          obtain ⟨hgn, t, rfl, ht, hcm⟩ := HLA.out k x hx
          have hlt2 := canMv_lt hcm
          have hGt := hgn.2 t ht
          have HRS : Hid (runM at_ (mv.take (k + 1)) = stepN (runM at_ (mv.take k)) t) := by
            show _ = _
            rw [take_succ' hx, runM_snoc]; simp
          have HES : Hid (entTo ps at_ mv (k + 1) = if nowAt (runM at_ (mv.take k)) t + 1 < lenAt ps t then upd (entTo ps at_ mv k) ⟨(t : Int), nowAt (runM at_ (mv.take k)) t + 1⟩ (k : Int) else entTo ps at_ mv k) := by
            show _ = _
            simp only [entTo, hx, Option.getD_some, Int.toNat_natCast]
          obtain ⟨b, o, p, A', c', hbo, hb, hp, k1, hr⟩ := RSS.atK HTE.out.k H.out ht
          subst hbo
          have hcp := hr.caps
          have hl64 := HLEN.out t
          have HEL := Lib.hid (lenAt_of hp)
          rw [lenAt_of hp] at hlt2 hGt hl64 HES
          have hnl : t < (runM at_ (mv.take k)).length := by rw [hgn.1]; exact ht
          have r0 := HNX.out.cell t
          have r1 := HNX.out.frozen t
          have r2 := HNX.out.lt
          have e0 := HTE.out.outer ht
          unfold slE at e0
          rw [lenAt_of hp] at e0
          have hzN := HTE.out.nlt
          rw [cellsI_at (show (plus1 (runM at_ (mv.take k)))[t]? = some (nowAt (runM at_ (mv.take k)) t + 1) from by
            unfold plus1
            rw [List.getElem?_map, List.getElem?_eq_getElem hnl, nowAt_of (List.getElem?_eq_getElem hnl)]; rfl)] at r0
          clear hr hp hx hcm hgn
          generalize hnow : runM at_ (mv.take k) = now at *
          have HNOW := Lib.hid hnow
          clear hnow
          obtain ⟨j, hj⟩ := Int.eq_ofNat_of_zero_le (by omega : 0 ≤ nowAt now t + 1)
          have HJ := Lib.hid hj
          rw [hj] at r0 HES
          have hj64 : j ≤ 65 := by omega
          have HP2 : Hid (plus1 (stepN now t) = (plus1 now).set t ((j : Int) + 1)) := by
            show _ = _
            unfold stepN
            rw [← plus1_set, HJ.out]
          clear hj hlt2 hGt
          have hs1 : IntKind.i64.wrap ((j : Int) + 1) = (j : Int) + 1 := IntWalk.i64_in _ (by omega)
          have hdk : decide ((k : Int) < (mv.length : Int)) = true := by simp; omega
          by_cases g1 : j < p.length
          · have g1' : decide (j < p.length) = true := by simpa using g1
            rw [if_pos (by omega)] at HES
            have e1 := HTE.out.inner (k := j) ht (by rw [HEL.out]; exact g1)
            have hzg := (HTE.out.r t ht).lt
            have HN2 : Hid (∀ W, KeepsAll wr W → Te ps w ((W.setCell ⟨gs t, j, none⟩ (.int .i64 (k : Int))).setCell ⟨N + 1, t, none⟩ (.int .i64 ((j : Int) + 1))) N ps.length gs (entTo ps at_ mv (k + 1)) ∧ Blk ((W.setCell ⟨gs t, j, none⟩ (.int .i64 (k : Int))).setCell ⟨N + 1, t, none⟩ (.int .i64 ((j : Int) + 1))) (N + 1) 3 (cellsI (plus1 (runM at_ (mv.take (k + 1))))) ∧ (W.setCell ⟨gs t, j, none⟩ (.int .i64 (k : Int))).cell? ⟨N + 1, t, none⟩ = some (.int .i64 (j : Int)) ∧ (W.setCell ⟨gs t, j, none⟩ (.int .i64 (k : Int))).frozen? ⟨N + 1, t, none⟩ = false ∧ W.frozen? ⟨gs t, j, none⟩ = false ∧ N + 1 < (W.setCell ⟨gs t, j, none⟩ (.int .i64 (k : Int))).heap.size) := fun W hW => by
              have hb := (HNX.out.kept hW (by simp)).far (p := ⟨gs t, j, none⟩) (fun e => HGS.out t ht e.symm) (.int .i64 (k : Int))
              refine ⟨?_, ?_, ?_, hb.frozen t, ((HTE.out.keep hW).r t ht).frozen j, hb.lt⟩
              · rw [HES.out]; exact ((HTE.out.keep hW).set ht (k : Int)).far (by simp) HGS.out (by rw [HNN.out]; simp) _
              · rw [HRS.out, HP2.out, ← cellsI_set]; exact hb.set_ t _
              · have hr0 := hW.cellK (p := ⟨N + 1, t, none⟩) r2 r0
                rw [World.cell?_setCell_other _ _ _ _ (fun e => HGS.out t ht (by injection e))]
                exact hr0
            go_wp2
            go_quiet (fail)
            generalize hWx : World.drewN wr _ = wx
            have KX : KeepsAll wr wx := by subst hWx; exact (Keeps.refl _ _).drewN _
            replace r0 := KX.cellK (p := ⟨N + 1, t, none⟩) r2 r0
            replace e0 := KX.cellK (p := ⟨N, t, none⟩) hzN e0
            replace e1 := KX.cellK (p := ⟨gs t, j, none⟩) hzg e1
            have HKX := Lib.hid KX
            clear hWx KX k1 k3 hb hb3 r1
            go_wp2
            refine wp_region_lex (fun w' => ∃ x : Ext wx, w' = x.val) [0, 1, 2, 3, 4, 5, 6, 7, 8, 9, 10] (by kernel_rfl) (by kernel_rfl) ⟨⟨_, (Keeps.refl _ _).drew⟩, rfl⟩ ?_
            have x0 := Ext.cell r0
            have x1 := Ext.cell e0
            iterate 10 (refine lex_q _ rfl rfl rfl ?_; go_big_quiet_step (fail); refine wpQuiet_nil ?_)
            refine lex_a _ rfl rfl false (by kernel_rfl) ?_
            obtain ⟨wd, hwd⟩ : ∃ wd : World, wd = wx.drew := ⟨_, rfl⟩
            have KD : KeepsAll wx wd := by subst hwd; exact (Keeps.refl _ _).drew
            have hzg2 : gs t < wx.heap.size := Nat.lt_of_lt_of_le hzg HKX.out.size
            replace e1 := KD.cellK (p := ⟨gs t, j, none⟩) hzg2 e1
            have HFN := Lib.hid (HN2.out wd (HKX.out.tr KD))
            obtain ⟨-, -, s0, s1, s2, s3⟩ := HN2.out wd (HKX.out.tr KD)
            rw [← hwd]
            clear hwd x0 x1 r0 e0 KD HN2
            go_wp2
            (try refine ⟨fun h => (by cases h), ?_⟩)
            simp only [wpLex]
            refine NoPanic.normal ?_
            go_wp2
            go_roundw
            case rel => exact ⟨k + 1, by omega, by go_num, HFN.out.1, HFN.out.2.1⟩
            case measure => simp [intOf]; omega
          · have g1' : decide (j < p.length) = false := by simpa using g1
            rw [if_neg (by omega)] at HES
            have HN2 : Hid (∀ W, KeepsAll wr W → Te ps w (W.setCell ⟨N + 1, t, none⟩ (.int .i64 ((j : Int) + 1))) N ps.length gs (entTo ps at_ mv (k + 1)) ∧ Blk (W.setCell ⟨N + 1, t, none⟩ (.int .i64 ((j : Int) + 1))) (N + 1) 3 (cellsI (plus1 (runM at_ (mv.take (k + 1)))))) := fun W hW => by
              refine ⟨?_, ?_⟩
              · rw [HES.out]; exact (HTE.out.keep hW).far (by simp) HGS.out (by rw [HNN.out]; simp) _
              · rw [HRS.out, HP2.out, ← cellsI_set]; exact (HNX.out.kept hW (by simp)).set_ t _
            go_wp2
            go_quiet (fail)
            generalize hWx : World.drewN wr _ = wx
            have KX : KeepsAll wr wx := by subst hWx; exact (Keeps.refl _ _).drewN _
            replace r0 := KX.cellK (p := ⟨N + 1, t, none⟩) r2 r0
            have r1' := (HNX.out.kept KX (by simp)).frozen t
            have r2' := (HNX.out.kept KX (by simp)).lt
            have HFN := Lib.hid (HN2.out wx KX)
            clear hWx KX HN2 k1 e0 k3 hb hb3 r1 r2
            go_wp2
            go_roundw
            case rel => exact ⟨k + 1, by omega, by go_num, HFN.out.1, HFN.out.2⟩
            case measure => simp [intOf]; omega
        · obtain rfl : k = mv.length := by omega
          have hdk : decide ((mv.length : Int) < (mv.length : Int)) = false := by simp
          go_wp2
          go_ret
          exact ⟨N, gs, rfl, HTE.out⟩

def cmpI (a b : Int) : Int := if a < b then -1 else if a > b then 1 else 0
theorem cmpI_neg {a b : Int} : cmpI a b < 0 ↔ a < b := by unfold cmpI; split <;> (try split) <;> omega
/-- the place of u by a comparison: from the end on, past those that come later -/
def plK (lt : Ref → Ref → Bool) (u : Ref) (l : List Ref) : Nat → Nat
  | 0 => 0
  | k + 1 => match l[k]? with
    | some v => if lt u v = true then plK lt u l k else k + 1
    | none => k + 1
def plU (lt : Ref → Ref → Bool) (u : Ref) (l : List Ref) : List Ref := l.take (plK lt u l l.length) ++ u :: l.drop (plK lt u l l.length)
def sortB (lt : Ref → Ref → Bool) (l : List Ref) : List Ref := l.foldl (fun acc u => plU lt u acc) []
theorem sortB_snoc (lt : Ref → Ref → Bool) (l : List Ref) (u : Ref) : sortB lt (l ++ [u]) = plU lt u (sortB lt l) := by unfold sortB; rw [List.foldl_append]; rfl

theorem legal_len {ps : List (List Stage)} : ∀ (q now : List Int), Gd ps now → Legal ps now q → q.length + total ps (runM now q) = total ps now
  | [], now, _, _ => by simp [runM]
  | x :: q, now, hg, h => by
    obtain ⟨t, rfl, ht, hc, hr⟩ := h
    have h1 := total_step hg ht (canMv_lt hc)
    have h2 := legal_len q _ (hg.step ht (canMv_lt hc)) hr
    have e : runM now ((t : Int) :: q) = runM (stepN now t) q := by simp [runM]
    rw [e, List.length_cons]
    unfold stepN at h2 ⊢
    omega
theorem legal_gd {ps : List (List Stage)} : ∀ (q now : List Int), Gd ps now → Legal ps now q → Gd ps (runM now q)
  | [], now, h, _ => h
  | x :: q, now, hg, h => by
    obtain ⟨t, rfl, ht, hc, hr⟩ := h
    have e : runM now ((t : Int) :: q) = runM (stepN now t) q := by simp [runM]
    rw [e]
    exact legal_gd q _ (hg.step ht (canMv_lt hc)) hr
theorem searchP_ok {ps : List (List Stage)} {at_ : List Int} {budget : Int} (hg : Gd ps at_) (h : (searchP ps at_ budget).2.2 = 0) : Legal ps at_ (searchP ps at_ budget).1 ∧ leftB ps (runM at_ (searchP ps at_ budget).1) = true := by
  have hx := exam_ok (ps := ps) (budget := budget.toNat) (total ps at_ + 1) at_ hg (by omega) [] []
  unfold searchP at h ⊢
  by_cases g0 : checkState ps at_ = 0
  · rw [if_neg (by simpa using g0)] at h ⊢
    by_cases g1 : budget < 1 ∨ 1048576 < budget
    · rw [if_pos g1] at h; simp at h
    · rw [if_neg g1] at h ⊢
      by_cases g2 : (exam ps budget.toNat (total ps at_ + 1) at_ [] []).1 = 0
      · rw [if_pos g2] at h ⊢
        obtain ⟨q, e, h1, h2⟩ := hx.found g2
        simp only [List.nil_append] at e
        rw [e]; exact ⟨h1, h2⟩
      · rw [if_neg g2] at h
        split at h <;> simp at h
  · rw [if_pos (by simpa using g0)] at h
    exact absurd h g0
/-- the entries of a sequence of moves, as a table -/
def entL (ps : List (List Stage)) (at_ mv : List Int) : List (List Int) := tabS ps (entTo ps at_ mv mv.length)
def sortT (en : List (List Int)) (l : List Ref) : List Ref := sortB (fun u v => decide (cmpI (enAt en u) (enAt en v) < 0)) l
def sortTO (en : List (List Int)) (o : Order) : Order := ⟨o.res, sortT en o.uses⟩
def takeP (ps : List (List Stage)) (os : List Order) (at_ : List Int) (budget : Int) : List Order × Int × Int :=
  if checkO ps os = false then ([], 0, 1)
  else if checkState ps at_ ≠ 0 then ([], 0, checkState ps at_)
  else if budget < 1 ∨ 1048576 < budget then ([], 0, 4)
  else if okP ps os at_ = true then (restP ps os at_, 0, 0)
  else if (searchP ps at_ budget).2.2 ≠ 0 then ([], 0, (searchP ps at_ budget).2.2)
  else ((restP ps os at_).map (sortTO (entL ps at_ (searchP ps at_ budget).1)), (searchP ps at_ budget).2.1, 0)

end Go.Proofs.Ytbfgmbakeofcbaa
