/- Contract of precedence.Cycle. Conditions: as the theorem says. Contract of the reference's IsCycle at a cycle, and the order of events by the arcs that lead to events that have not happened. Conditions: as each theorem says. -/
import Derived.Test.YtigmldildefdgaaCycA
namespace Go.Proofs.Ytigmldildefdgaa
open Go.RowKit

theorem Cycle1_any (dl : List Bool) (a : GArc) (cb : Nat) (A : Option Addr) (c : Nat) (w : World) (hb : w.cell? ⟨cb, 0, none⟩ = some (.slice A dl.length c)) (h : RBools w (Old w) [.slice A dl.length c] dl) (i : Nat) (hi : a.frm = (i : Int)) (hil : i < dl.length) :
    Calls Try.prog 75 #[.agg #[.int .i64 a.frm, .int .i64 a.wt], .pointer (some ⟨cb, 0, none⟩)] w fun e w' => e = .returned (.bool (notDone dl a)) ∧ KeepsAll w w' := by
  obtain ⟨frm, wt⟩ := a
  simp only [] at hi; subst hi
  have hc := h.caps
  obtain ⟨b, o, x, rfl, hb', hx, h1⟩ := h.at_ hil
  have HQ : Hid (notDone dl ⟨(i : Int), wt⟩ = !x) := by show notDone dl _ = _; simp [notDone, hx]
  have hbw : b < w.heap.size := hb'
  have hcb : cb < w.heap.size := World.block_lt_of_cell? w ⟨cb, 0, none⟩ hb
  clear h hx
  cases x
  all_goals
    go_enter Try.func75, Try.ntmps75
    go_wp2
    go_ret
    exact ⟨by rw [HQ.out]; rfl, (Keeps.refl _ _).alloc _⟩
theorem enters_cycle1 : Enters 75 := fun _ _ => by kernel_rfl
/-- numbers as integers -/
def asI (W : List Nat) : List Int := W.map fun x : Nat => (x : Int)
theorem asI_len (W : List Nat) : (asI W).length = W.length := by simp [asI]
theorem asI_at {W : List Nat} {i x : Nat} (h : W[i]? = some x) : (asI W)[i]? = some (x : Int) := by simp [asI, h]
theorem mem_asI {W : List Nat} {e : Nat} : (e : Int) ∈ asI W ↔ e ∈ W := by
  unfold asI
  rw [List.mem_map]
  constructor
  · rintro ⟨x, hx, he⟩; have : x = e := by omega
    subst this; exact hx
  · intro h; exact ⟨e, h, rfl⟩
theorem doneL_open {ps : List (List Stage)} {now : List Int} {x : Nat} (hx : x < (evs ps).length) : (doneL ps now)[x]? = some false ↔ OpenN ps now x := by
  unfold doneL OpenN evAt
  rw [List.getElem?_map, List.getElem?_eq_getElem hx]
  simp [hx]
theorem nodup_lt_len : ∀ (n : Nat) (W : List Nat), W.Nodup → (∀ x ∈ W, x < n) → W.length ≤ n
  | 0, W, _, hlt => by
    cases W with
    | nil => simp
    | cons a W => have := hlt a (by simp); omega
  | n + 1, W, hnd, hlt => by
    have h1 := nodup_lt_len n (W.filter fun x => !(x == n)) (hnd.sublist List.filter_sublist) (fun x hx => by
      obtain ⟨h1, h2⟩ := List.mem_filter.1 hx
      have := hlt x h1
      simp at h2; omega)
    have h2 := List.length_eq_countP_add_countP (fun x => x == n) (l := W)
    have h3 : W.countP (fun x => x == n) ≤ 1 := List.nodup_iff_count.1 hnd n
    rw [← List.countP_eq_length_filter] at h1
    have h4 : W.countP (fun x => decide (¬ (x == n) = true)) = W.countP (fun x => !(x == n)) := by
      congr 1; funext x; cases (x == n) <;> rfl
    omega
/-- where a slice of integers begins later, or ends earlier -/
theorem RInts.dropK {w : World} {S : Foot} {g o n c : Nat} {l : List Int} (h : RInts w S [.slice (some ⟨g, o, none⟩) n c] l) {m : Nat} (hm : m ≤ l.length) : RInts w S [.slice (some ⟨g, o + m, none⟩) (l.length - m) (c - m)] (l.drop m) := by
  obtain ⟨A', c', he, h1, h2, h3⟩ := h
  injection he with he _; injection he with ha hn hc; subst hc
  refine ⟨_, _, by rw [List.length_drop], by rw [List.length_drop]; omega, by omega, fun hne => ?_⟩
  obtain ⟨b', o', hA, hb, hj⟩ := h3 (by rintro rfl; simp at hne)
  rw [hA] at ha; injection ha with ha; injection ha with ha hb'; subst ha hb'
  refine ⟨_, _, rfl, hb, fun j x hx => ?_⟩
  rw [List.getElem?_drop] at hx
  obtain ⟨es, e1, e2, e3⟩ := hj (m + j) x hx
  refine ⟨es, e1, e2, fun i u hu => ?_⟩
  have := e3 i u hu
  rw [show g = g from rfl, show o + m + (j * 1 + i) = o + ((m + j) * 1 + i) from by omega]
  exact this
theorem RInts.takeK {w : World} {S : Foot} {g o n c : Nat} {l : List Int} (h : RInts w S [.slice (some ⟨g, o, none⟩) n c] l) {m : Nat} (hm : m ≤ l.length) : RInts w S [.slice (some ⟨g, o, none⟩) m c] (l.take m) := by
  obtain ⟨A', c', he, h1, h2, h3⟩ := h
  injection he with he _; injection he with ha hn hc; subst hc
  have hl : (l.take m).length = m := by simp; omega
  refine ⟨_, _, by rw [hl], by rw [hl]; omega, by omega, fun hne => ?_⟩
  obtain ⟨b', o', hA, hb, hj⟩ := h3 (by rintro rfl; simp at hne)
  rw [hA] at ha; injection ha with ha; injection ha with ha hb'; subst ha hb'
  refine ⟨_, _, rfl, hb, fun j x hx => ?_⟩
  have hjm : j < m := by have := getElem?_lt hx; omega
  rw [List.getElem?_take_of_lt hjm] at hx
  exact hj j x hx
theorem RInts.ofCells {w : World} {S : Foot} {g o c : Nat} {l : List Int} (hg : S g) (hc : l.length ≤ c) (hc2 : c ≤ 9223372036854775807) (h : ∀ k, k < l.length → w.cell? ⟨g, o + k, none⟩ = some (.int .i64 ((l[k]?).getD 0))) : RInts w S [.slice (some ⟨g, o, none⟩) l.length c] l := by
  refine ⟨_, _, rfl, hc, hc2, fun _ => ⟨g, o, rfl, hg, fun j x hx => ⟨[.int .i64 x], rfl, rfl, fun i u hu => ?_⟩⟩⟩
  have : i = 0 := by have := getElem?_lt hu; simp at this; omega
  subst this
  simp at hu; subst hu
  have := h j (getElem?_lt hx)
  rw [hx] at this
  simpa using this

set_option maxRecDepth 100000 in
set_option maxHeartbeats 4000000 in
theorem Cycle_any (ps : List (List Stage)) (os : List Order) (at_ : List Int) (A A2 A3 : Option Addr) (c c2 c3 : Nat) (w : World) (h : RPaths w (Old w) [.slice A ps.length c] ps) (h2 : ROrders w (Old w) [.slice A2 os.length c2] os) (h3 : RInts w (Old w) [.slice A3 at_.length c3] at_) (hck : checkO ps os = true) (hgd : good ps at_ = true) :
    Calls Try.prog 36 #[.slice A ps.length c, .slice A2 os.length c2, .slice A3 at_.length c3] w fun e w' => ∃ v cy, e = .returned v ∧ RRefs w' (Old w') [v] cy ∧ KeepsAll w w' ∧ ((total ps (runP ps os at_).2 = 0 ∧ cy = []) ∨ (total ps (runP ps os at_).2 ≠ 0 ∧ CycOk ps os at_ cy)) := by
  have hG := good_Gd.1 hgd
  have hv := (checkO_facts hck).1
  have hs := readyP_sound ps (arcsOf (evs ps).length (gAdds ps os))
  have hinv := lineFrom_inv hs 1000 at_ hG
  have hGF : Gd ps (runP ps os at_).2 := hinv.1
  have hstuck : readyP ps (arcsOf (evs ps).length (gAdds ps os)) (runP ps os at_).2 = none := hinv.2.2 (by have := total_le hv hG; omega)
  have HDN : Hid (∀ x : Ref, 0 ≤ x.tr → doneR at_ x = true → doneR (runP ps os at_).2 x = true) := fun x hx hd => ((lineFrom_mem hs 1000 at_ hG).1 x hx).2 (.inl hd)
  have HSA := Lib.hid (fun x (hx : OpenN ps (runP ps os at_).2 x) => stuck_arc hck hGF hstuck hx)
  have HTOT := Lib.hid (doneL_total hGF)
  have hevl : (evs ps).length ≤ 650 := by
    have h1 := fst_le (fun p hp => ((valid_lens hv).2 p hp).2) ps.length (Nat.le_refl _)
    have h2 := (valid_lens hv).1
    rw [fst_len] at h1; omega
  have HIR := Lib.hid (gAdds_range hck)
  have HN := Lib.hid (newGraph_yes ps os at_ A A2 A3 c c2 c3 w h h2 h3 hck hgd)
  have HLN : Hid (∀ W g, GrR W g ps at_ (gAdds ps os) → _) := fun W g hW => line_any W g ps at_ (gAdds ps os) hv hW hG HIR.out
  have HCK := Lib.hid hck
  clear h h2 h3 hgd hG hv hck hs hinv hstuck hGF
  go_enter Try.func36, Try.ntmps36
  go_wp2_with fail
  refine HN.out.mono ?_
  rintro e w1 ⟨g, rfl, hgr, k1⟩
  have K1 := Lib.hid k1
  have HGR := Lib.hid hgr
  clear k1 hgr HN
  go_wp2_with fail
  refine (HLN.out w1 g HGR.out).mono ?_
  rintro e w2 ⟨vl, vd, rfl, rl, rd, k2⟩
  have e1 : (lineFrom (readyP ps (arcsOf (evs ps).length (gAdds ps os))) 1000 at_).2 = (runP ps os at_).2 := rfl
  rw [e1] at rd
  have RD : Hid (RBools w2 (Old w2) [vd] (doneL ps (runP ps os at_).2)) := RBools.ok.mono rd (fun b hb => hb.2) (fun _ _ => rfl)
  obtain ⟨Ad, cd, rfl, hcd1, hcd2⟩ := rd.val
  have HDO : Hid (∀ x, x < (evs ps).length → ((doneL ps (runP ps os at_).2)[x]? = some false ↔ OpenN ps (runP ps os at_).2 x)) := fun x hx => doneL_open hx
  have HDL := Lib.hid (doneL_len ps (runP ps os at_).2)
  have K2 := Lib.hid (K1.out.tr k2)
  have HGR2 := Lib.hid (HGR.out.keep k2)
  clear rl rd k2 HLN e1 HGR K1
  generalize hFN : (runP ps os at_).2 = FN at *
  have HFN := Lib.hid hFN
  clear hFN
  generalize doneL ps FN = DL at *
  go_wp2_with fail
  generalize hW : World.alloc w2 _ = W3
  have KW3 : KeepsAll w2 W3 := by subst hW; exact (Keeps.refl _ _).alloc _
  have BD : Hid (Blk W3 w2.heap.size 111 #[.slice Ad DL.length cd]) := by subst hW; exact Blk.new _ _ _
  have RD3 := Lib.hid (KW3.rdo' RBools.ok RD.out)
  have HGR3 := Lib.hid (HGR2.out.keep KW3)
  have K3 := Lib.hid (K2.out.tr KW3)
  clear hW KW3 RD HGR2 K2
  generalize w2.heap.size = zd at *
  refine (IndexBool_any DL false Ad cd W3 (Old W3) RD3.out).mono ?_
  rintro e w4 ⟨rfl, rfl⟩
  by_cases g1 : (DL.any fun y => false == y) = true
  · have hx : ∃ e0 : Nat, idxB DL false = (e0 : Int) ∧ DL[e0]? = some false := by
      obtain ⟨y, hy, hye⟩ := List.any_eq_true.1 g1
      have hyf : y = false := by cases y <;> simp_all
      subst hyf
      unfold idxB idxF
      cases e : DL.findIdx? (fun y => false == y) with
      | none => rw [List.findIdx?_eq_none_iff] at e; have := e false hy; simp at this
      | some i =>
        obtain ⟨hi, h1, _⟩ := List.findIdx?_eq_some_iff_getElem.1 e
        refine ⟨i, rfl, ?_⟩
        rw [List.getElem?_eq_getElem hi]
        simp at h1
        rw [h1]
    obtain ⟨e0, he0, hd0⟩ := hx
    have HE0 : Hid (OpenN ps FN e0) := (HDO.out e0 (by have := getElem?_lt hd0; have := HDL.out; omega)).1 hd0
    have HT1 : Hid (total ps FN ≠ 0) := fun h0 => by
      have := HTOT.out.2 h0
      rw [g1] at this; cases this
    rw [he0]
    clear he0 hd0 g1 HTOT
    have he00 : decide ((e0 : Int) < 0) = false := by simp
    obtain ⟨v0, v1, v2, v3, v4, hgb, hga⟩ := HGR3.out
    obtain ⟨A4', c4', rfl, hca1, hca2⟩ := hga.val
    rw [arcsOf_len] at hca1 hga hgb
    have HB := Lib.hid hgb
    have HA := Lib.hid hga
    clear hgb hga HGR3
    have hmf : ∀ (fn : Fn) (first cap : Array Value) (w : World), (Instr.makeFunc fn first cap).run Try.prog w = .ok (.func fn first cap) w := fun _ _ _ _ => rfl
    go_wp2
    go_loopw [11, 12] (fun ve vw wr => ∃ (W : List Nat) (e : Nat), ve = .int .i64 (e : Int) ∧ OwnL 3 1 RInt wr W3.heap.size W3.heap.size vw (asI W) ∧ WalkN (ArcN ps os) (W ++ [e]) ∧ W.Nodup ∧ (∀ x ∈ W, OpenN ps FN x) ∧ OpenN ps FN e ∧ KeepsAll W3 wr) (fun _ vw _ => (evs ps).length + 1 - slLen vw)
    case atStart => exact ⟨[], e0, rfl, OwnL.nil, fun i a b h1 h2 => by simp at h2, List.nodup_nil, by simp, HE0.out, Keeps.refl _ _⟩
    case round =>
      obtain ⟨W, e, rfl, ho, hwk, hnd, hop, hoe, hkr⟩ := hrel
      obtain ⟨Aw, cw, rfl, hcw1, hcw2⟩ := ho.form
      have hWl := nodup_lt_len (evs ps).length W hnd (fun x hx => (hop x hx).1)
      have HAL := Lib.hid (asI_len W)
      have hAl : (asI W).length ≤ 650 := by rw [HAL.out]; omega
      have HOx := Lib.hid ho; have HWK := Lib.hid hwk; have HND := Lib.hid hnd; have HOP := Lib.hid hop; have HOE := Lib.hid hoe; have KR := Lib.hid hkr
      have HRW := Lib.hid (ho.read RInt.ok (by omega) (S := Old wr) (fun _ _ h => h) (fun _ _ h => h))
      have hsz := hkr.size
      have hel := hoe.1
      clear ho hwk hnd hop hoe hkr
      by_cases hin : e ∈ W
      · have hc1 : decide ((e : Int) ∈ asI W) = true := by simpa using mem_asI.2 hin
        go_wp2_with fail
        refine (ContainsInt_any (asI W) e Aw cw wr (Old wr) HRW.out).mono ?_
        rintro e' w5 ⟨rfl, rfl⟩
        rw [hc1]
        go_wp2_with fail
        obtain ⟨i0, hi0, hw0⟩ := idxOf_mem' (mem_asI.2 hin)
        have hi0l := getElem?_lt hw0
        have hWi : W[i0]? = some e := by
          have hl : i0 < W.length := by rw [← HAL.out]; exact hi0l
          rw [List.getElem?_eq_getElem hl]
          rw [asI_at (List.getElem?_eq_getElem hl)] at hw0
          injection hw0 with hw0
          congr 1; omega
        have HCY := Lib.hid (CycN.ofWalk HWK.out HND.out HOP.out hWi)
        have HRI : Hid (asI (W.drop i0).reverse = ((asI W).drop i0).reverse) := by show _ = _; simp [asI]
        obtain ⟨gw, hgw, hgwb⟩ := HOx.out.some_ (by omega)
        subst hgw
        have HFZ : Hid (∀ k, wr.frozen? ⟨gw, k, none⟩ = false) := fun k => HOx.out.frz k
        have hgl := HOx.out.lt (b := gw) (by simp [Value.ownBlock])
        have hLD : ((asI W).drop i0).length = (asI W).length - i0 := List.length_drop
        have HREV : Hid (Calls Try.prog 77 #[.slice (some ⟨gw, i0, none⟩) ((asI W).length - i0) (cw - i0)] wr fun e w' => e = .returned (.tuple #[]) ∧ (∀ k, k < ((asI W).drop i0).length → w'.cell? ⟨gw, i0 + k, none⟩ = some (.int .i64 ((((asI W).drop i0)[((asI W).drop i0).length - 1 - k]?).getD 0))) ∧ Keeps (fun b => b = gw) wr w') := by
          have q := Reverse_any gw i0 ((asI W).drop i0) (cw - i0) wr (by rw [hLD]; omega) (fun k hk => by
            rw [hLD] at hk
            obtain ⟨b', o', x, hb', _, hx, m0⟩ := RInts.at_ HRW.out (k := i0 + k) (by omega)
            injection hb' with hb'; injection hb' with e1 e2; subst e1 e2
            rw [Nat.zero_add] at m0
            rw [m0, List.getElem?_drop, hx]; rfl) HFZ.out
          rw [hLD] at q ⊢
          show Calls _ _ _ _ _
          exact q
        refine (IndexInt_any (asI W) e _ cw wr (Old wr) HRW.out).mono ?_
        rintro e' w6 ⟨rfl, rfl⟩
        rw [hi0]
        clear hi0 hw0 hin hc1 hWi
        go_wp2_with fail
        refine HREV.out.mono ?_
        rintro e' w7 ⟨rfl, hc7, hk7⟩
        have K7 : Hid (KeepsAll W3 w7) := KR.out.trans hk7 (fun x hx ee => by omega)
        have hgl7 : gw < w7.heap.size := Nat.lt_of_lt_of_le hgl.2 hk7.size
        have hRL : ((W.drop i0).reverse).length = (asI W).length - i0 := by simp; rw [HAL.out]
        have HRR : Hid (RInts w7 (Old w7) [.slice (some ⟨gw, i0, none⟩) ((asI W).length - i0) (cw - i0)] (asI (W.drop i0).reverse)) := by
          have q := RInts.ofCells (w := w7) (S := Old w7) (g := gw) (o := i0) (c := cw - i0) (l := asI (W.drop i0).reverse) hgl7 (by rw [asI_len, hRL]; omega) (by omega) (fun k hk => by
            rw [asI_len, hRL] at hk
            rw [hc7 k (by rw [hLD]; exact hk), HRI.out, List.getElem?_reverse (by rw [hLD]; exact hk)])
          rw [asI_len, hRL] at q
          exact q
        have hn0 : 0 < (asI W).length - i0 := by omega
        clear hc7 hk7 HREV HRI hLD HOx HWK HND HOP HOE HRW
        have hnRc : (asI W).length - i0 ≤ cw - i0 := by omega
        have hnR : (asI W).length - i0 ≤ 650 := by omega
        have hcR : cw - i0 ≤ 9223372036854775807 := by omega
        generalize (W.drop i0).reverse = R at *
        generalize (asI W).length - i0 = nR at *
        generalize cw - i0 = cR at *
        have HMN : Hid (Calls Try.prog 78 #[.slice (some ⟨gw, i0, none⟩) nR cR] w7 fun e w' => ∃ m ∈ asI R, e = .returned (.int .i64 m) ∧ w7 = w') := by
          have hl : (asI R).length = nR := by rw [asI_len, hRL]
          have q := MinInt_any (asI R) (by omega) (some ⟨gw, i0, none⟩) cR w7 (Old w7) (by rw [hl]; exact HRR.out)
          rw [hl] at q
          exact q
        go_wp2_with fail
        refine HMN.out.mono ?_
        rintro e' w8 ⟨m, hm, rfl, rfl⟩
        obtain ⟨mi, hmi, hmw⟩ := idxOf_mem' hm
        have hmil : mi < nR := by have := getElem?_lt hmw; rw [asI_len, hRL] at this; exact this
        have HIX : Hid (Calls Try.prog 76 #[.slice (some ⟨gw, i0, none⟩) nR cR, .int .i64 m] w7 fun e w' => e = .returned (.int .i64 (mi : Int)) ∧ w7 = w') := by
          have hl : (asI R).length = nR := by rw [asI_len, hRL]
          have q := IndexInt_any (asI R) m (some ⟨gw, i0, none⟩) cR w7 (Old w7) (by rw [hl]; exact HRR.out)
          rw [hl, hmi] at q
          exact q
        clear hm hmi hmw HMN
        go_wp2_with fail
        refine HIX.out.mono ?_
        rintro e' w8 ⟨rfl, rfl⟩
        clear HIX
        go_wp2
        have hlR : (asI R).length = nR := by rw [asI_len, hRL]
        have hD := RInts.dropK HRR.out (m := mi) (by rw [hlR]; omega)
        have hT := RInts.takeK HRR.out (m := mi) (by rw [hlR]; omega)
        rw [hlR] at hD
        have HD := Lib.hid hD
        have HT := Lib.hid hT
        have HLD : Hid (((asI R).drop mi).length = nR - mi) := by show _ = _; rw [List.length_drop, hlR]
        have HLT : Hid (((asI R).take mi).length = mi) := by show _ = _; rw [List.length_take, hlR]; omega
        have HROT : Hid ((asI R).drop mi ++ (asI R).take mi = asI (R.drop mi ++ R.take mi)) := by show _ = _; simp [asI]
        have HCY2 := Lib.hid (HCY.out.rotate (m := mi) (by rw [hRL]; omega))
        have hmic : mi < cR := by omega
        have hmic2 : mi ≤ cR := by omega
        have hmic3 : ¬ (cR = mi) := by omega
        have hmic4 : mi ≤ nR := by omega
        have HNR : Hid ((asI (R.drop mi ++ R.take mi)).length = nR) := by show _ = _; rw [asI_len, List.length_append, List.length_drop, List.length_take, hRL]; omega
        clear hD hT hlR HRR
        refine wp_region_lex (fun _ => True) [0, 1, 2, 3, 4, 5, 6, 7, 8, 9, 10] (by kernel_rfl) (by kernel_rfl) trivial ?_
        iterate 7 (refine lex_q _ rfl rfl rfl ?_; go_big_quiet_step (fail); refine wpQuiet_nil ?_)
        refine lex_a _ rfl rfl true (by kernel_rfl) ?_
        go_wp2
        refine ⟨fun _ => trivial, ?_⟩
        generalize hW9 : World.drew (World.alloc w7 _) = W9
        have KW9 : KeepsAll w7 W9 := by subst hW9; exact ((Keeps.refl _ _).alloc _).drew
        have B9 : Blk W9 w7.heap.size 22 #[.slice (some ⟨gw, i0 + mi, none⟩) (nR - mi) (cR - mi), .slice (some ⟨gw, i0, none⟩) mi cR] := by subst hW9; exact Blk.new _ _ _
        have HCT : Hid (Calls Try.prog 79 #[.slice (some ⟨w7.heap.size, 0, none⟩) 2 2] W9 fun e w' => ∃ v, e = .returned v ∧ RInts w' (Old w') [v] (asI (R.drop mi ++ R.take mi)) ∧ KeepsAll W9 w') := by
          have q := Concat_two ((asI R).drop mi) ((asI R).take mi) w7.heap.size (some ⟨gw, i0 + mi, none⟩) (some ⟨gw, i0, none⟩) (cR - mi) cR W9 (by rw [HLD.out, HLT.out]; exact B9) (by rw [HLD.out]; exact KW9.rdo' RInts.ok HD.out) (by rw [HLT.out]; exact KW9.rdo' RInts.ok HT.out) (by rw [HLD.out, HLT.out]; omega) (by rw [HLD.out, HLT.out]; omega)
          rw [HROT.out] at q
          exact q
        have K9 := Lib.hid (K7.out.tr KW9)
        clear hW9 KW9 B9 HD HT HLD HLT HROT
        generalize w7.heap.size = z9 at *
        refine lex_a _ rfl rfl true (by kernel_rfl) ?_
        go_wp2_with fail
        refine HCT.out.mono ?_
        rintro e' w10 ⟨v10, rfl, rv, k10⟩
        obtain ⟨Av, cv, rfl, hcv1, hcv2⟩ := rv.val
        have K10 := Lib.hid (K9.out.tr k10)
        have HRF := Lib.hid (refs_any w10 g ps at_ _ _ _ _ _ Av cv _ (HB.out.all K10.out) rv (fun x hx => by
          unfold asI at hx
          obtain ⟨y, hy, rfl⟩ := List.mem_map.1 hx
          exact ⟨y, rfl, (HCY2.out.all y hy).1⟩) (by rw [HNR.out]; omega))
        have HME : Hid ((asI (R.drop mi ++ R.take mi)).map (fun x => evAt ps x.toNat) = (R.drop mi ++ R.take mi).map (evAt ps)) := by
          show _ = _
          unfold asI
          rw [List.map_map]
          apply List.map_congr_left
          intro x _
          simp
        rw [HME.out] at HRF
        have HOK := Lib.hid (HCY2.out.toOk HCK.out HDN.out)
        clear rv k10 HCT HME HCY2
        generalize (R.drop mi ++ R.take mi).map (evAt ps) = cy at *
        go_wp2
        refine ⟨fun _ => trivial, ?_⟩
        refine lex_a _ rfl rfl true (by kernel_rfl) ?_
        go_wp2_with fail
        refine HRF.out.mono ?_
        rintro e' w11 ⟨v11, rfl, rw11, k11⟩
        have K11 := Lib.hid (K3.out.tr (K10.out.tr k11))
        have R11 := Lib.hid (RRefs.ok.mono rw11 (S' := Old w11) (fun b hb => hb.2) (fun _ _ => rfl))
        clear rw11 k11 HRF
        go_wp2
        refine ⟨fun _ => trivial, ?_⟩
        refine lex_q _ rfl rfl rfl ?_; go_big_quiet_step (fail); refine wpQuiet_nil ?_
        refine (by assumption : ∀ (a : Act) (w : World), Code.wp Try.prog Code.ret _ a w → _) _ _ ?_
        go_wp2
        go_ret
        exact ⟨_, cy, rfl, R11.out, K11.out, .inr ⟨by rw [HFN.out]; exact HT1.out, HOK.out⟩⟩
      · have hc1 : decide ((e : Int) ∈ asI W) = false := by simpa using fun h => hin (mem_asI.1 h)
        have HNI := Lib.hid hin
        have HAS : Hid (asI (W ++ [e]) = asI W ++ [(e : Int)]) := by show _ = _; simp [asI]
        have hWl2 : W.length < (evs ps).length := by
          have := nodup_lt_len (evs ps).length (W ++ [e]) (by
            rw [List.nodup_append]
            exact ⟨HND.out, by simp, fun a ha b hb => by simp at hb; subst hb; rintro rfl; exact hin ha⟩) (fun x hx => by
            rcases List.mem_append.1 hx with hx | hx
            · exact (HOP.out x hx).1
            · simp at hx; subst hx; exact hel)
          simp at this; omega
        clear hin
        go_wp2_with fail
        refine (ContainsInt_any (asI W) e Aw cw wr (Old wr) HRW.out).mono ?_
        rintro e' w5 ⟨rfl, rfl⟩
        rw [hc1]
        clear hc1
        go_wp2_with (at_builtin; refine wpList_append_L tyInt RInt.ok rfl (.tmp 38) (.tmp 40) rfl (HOx.out.alloc RInt.ok _) rfl _ [.int .i64 (e : Int)] rfl (Blk.new' _ _ _ (by simp)) rfl (e : Int) (S := fun _ => False) rfl (fun _ h => h.elim) (by simp [Value.oneCell']) (by omega) (by omega) (by simp; omega) ?_; intro v6 w6 HO6 HK6 HA6; have K6 : KeepsAll W3 w6 := (KR.out.alloc _).trans HK6 (fun x hx e => (by have := HOx.out.lt e; omega)); obtain ⟨A6, c6, hv6, hc61, hc62⟩ := HO6.form; rw [List.length_append, List.length_singleton] at hv6; subst hv6; have HO6' := Lib.hid HO6; have K6' := Lib.hid K6; have hgb := (HB.out.all K6).b; have g4 := hgb.cell 4; simp only [List.getElem?_toArray, List.getElem?_cons_succ, List.getElem?_cons_zero] at g4; have hgz := hgb.lt; obtain ⟨ba, oa, row, Ar, cr, hbo, hba, hrow, a0, harc⟩ := RSS.atK K6 HA.out (k := e) (by rw [arcsOf_len]; exact hel); subst hbo; clear HO6 HK6 HA6 K6 hgb)
        have HROWM : Hid (∀ a ∈ row, ∃ f : Nat, a.frm = (f : Int) ∧ f < (evs ps).length) := fun a ha => HIR.out _ ((mem_arcsOf hrow).1 ha)
        have HRA : Hid (arcsAt (arcsOf (evs ps).length (gAdds ps os)) e = row) := by show _ = _; unfold arcsAt; rw [hrow]; rfl
        have HARC := Lib.hid harc
        have hcr := harc.caps
        have HIF := Lib.hid (IndexFunc_any 75 zd row (notDone DL) Ar cr w6 (K6'.out.rdo' RArcs.ok harc) enters_cycle1 (fun a ha Wd hWd => by
          obtain ⟨f, hf, hfl⟩ := HROWM.out a ha
          exact Cycle1_any DL a zd Ad cd Wd (by have := (BD.out.kept (K6'.out.tr hWd) (by simp)).cell 0; simpa using this) ((K6'.out.tr hWd).rdo' RBools.ok RD3.out) f hf (by rw [HDL.out]; exact hfl)))
        have hex : ∃ (bi : Nat) (a : GArc) (f : Nat), idxF (notDone DL) row = (bi : Int) ∧ row[bi]? = some a ∧ a.frm = (f : Int) ∧ OpenN ps FN f := by
          obtain ⟨a1, ha1, f1, hf1, hof1⟩ := HSA.out e HOE.out
          rw [HRA.out] at ha1
          have hnd1 : notDone DL a1 = true := by unfold notDone; rw [hf1, Int.toNat_natCast, (HDO.out f1 hof1.1).2 hof1]; rfl
          unfold idxF
          cases hi : row.findIdx? (notDone DL) with
          | none => rw [List.findIdx?_eq_none_iff] at hi; rw [hi a1 ha1] at hnd1; cases hnd1
          | some bi =>
            obtain ⟨hbl, h1, _⟩ := List.findIdx?_eq_some_iff_getElem.1 hi
            obtain ⟨f, hf, hfl⟩ := HROWM.out row[bi] (List.getElem_mem _)
            refine ⟨bi, row[bi], f, rfl, List.getElem?_eq_getElem hbl, hf, ?_⟩
            unfold notDone at h1
            rw [hf, Int.toNat_natCast] at h1
            have hfd : f < DL.length := by rw [HDL.out]; exact hfl
            rw [List.getElem?_eq_getElem hfd] at h1
            simp at h1
            exact (HDO.out f hfl).1 (by rw [List.getElem?_eq_getElem hfd, h1])
        obtain ⟨bi, a, f, hbi, hra, hfa, hof⟩ := hex
        rw [hbi] at HIF
        have hbl := getElem?_lt hra
        have HARCN : Hid (ArcN ps os f e) := ⟨a, by rw [HRA.out]; exact List.mem_of_getElem? hra, hfa⟩
        have HOF := Lib.hid hof
        clear hrow harc hof hbi
        refine HIF.out.mono ?_
        rintro e' w7 ⟨rfl, k7⟩
        have K7 := Lib.hid (K6'.out.tr k7)
        have HO7 := Lib.hid (HO6'.out.keeps RInt.ok k7 (fun _ _ h => h.elim))
        obtain ⟨b2, o2, a', hbo, hb2, ha', m0, m1⟩ := RArcs.atK K7.out HARC.out hbl
        subst hbo
        obtain rfl := same_of ha' hra
        rw [hfa] at m0
        replace g4 := k7.cellK (p := ⟨g, 4, none⟩) hgz g4
        replace a0 := k7.cellK (p := ⟨ba, oa + e, none⟩) hba a0
        have hgz7 : g < w7.heap.size := Nat.lt_of_lt_of_le hgz k7.size
        have hba7 : ba < w7.heap.size := Nat.lt_of_lt_of_le hba k7.size
        have HND2 : Hid ((W ++ [e]).Nodup) := by
          show List.Nodup _
          rw [List.nodup_append]
          exact ⟨HND.out, by simp, fun x hx y hy => by simp at hy; subst hy; rintro rfl; exact HNI.out hx⟩
        have HOP2 : Hid (∀ x ∈ W ++ [e], OpenN ps FN x) := fun x hx => by
          rcases List.mem_append.1 hx with hx | hx
          · exact HOP.out x hx
          · simp at hx; subst hx; exact HOE.out
        clear k7 ha' hra hfa hgz hba HIF
        go_wp2
        go_roundw
        case rel => exact ⟨W ++ [e], f, rfl, by rw [HAS.out]; exact HO7.out, HWK.out.push HARCN.out, HND2.out, HOP2.out, HOF.out, K7.out⟩
        case measure => have := HAL.out; simp [slLen]; omega
  · have g1' : (DL.any fun y => false == y) = false := by simpa using g1
    have HT0 := Lib.hid (HTOT.out.1 g1')
    have hm1 : idxB DL false = -1 := idxF_none (fun y hy => by have := List.any_eq_false.1 g1' y hy; simpa using this)
    rw [hm1]
    clear g1 g1' HTOT hm1
    go_wp2
    go_ret
    exact ⟨_, [], rfl, RSlice.mkNil, K3.out, .inl ⟨by rw [HFN.out]; exact HT0.out, rfl⟩⟩





theorem lineFrom_congr' {go go' : List Int → Option Nat} (I : List Int → Prop) (hI : ∀ now t, I now → go now = some t → I (now.set t (nowAt now t + 1))) (he : ∀ now, I now → go now = go' now) : ∀ (f : Nat) (now : List Int), I now → lineFrom go f now = lineFrom go' f now
  | 0, _, _ => rfl
  | f + 1, now, h => by
    simp only [lineFrom, ← he now h]
    cases e : go now with
    | none => rfl
    | some t => simp only [lineFrom_congr' I hI he f _ (hI now t h e)]
def openArcs (ps : List (List Stage)) (os : List Order) (at_ : List Int) : List RArc := (refArcs ps os).filter fun x => !doneR at_ x.to
theorem lineR_open {ps : List (List Stage)} {os : List Order} {at_ : List Int} (hck : checkO ps os = true) (hgd : good ps at_ = true) : (lineR ps (openArcs ps os at_) at_).2 = decide (total ps (runP ps os at_).2 = 0) := by
  have hg := good_Gd.1 hgd
  have hv := (checkO_facts hck).1
  have hs := readyP_sound ps (arcsOf (evs ps).length (gAdds ps os))
  have ht := total_le hv hg
  have e1 : runP ps os at_ = lineFrom (goR ps (refArcs ps os)) (total ps at_) at_ := by
    unfold runP
    rw [lineFrom_fuel hs 1000 (total ps at_) at_ hg (by omega) (Nat.le_refl _)]
    exact lineFrom_congr hs (fun now h => readyP_goR hck h) _ _ hg
  have e2 : lineFrom (goR ps (openArcs ps os at_)) (total ps at_) at_ = lineFrom (goR ps (refArcs ps os)) (total ps at_) at_ := by
    refine lineFrom_congr' (fun now => Gd ps now ∧ ∀ t, t < ps.length → nowAt at_ t ≤ nowAt now t) (fun now t h hgo => ?_) (fun now h => ?_) _ _ ⟨hg, fun t _ => Int.le_refl _⟩
    · obtain ⟨h1, h2⟩ := goR_sound ps (openArcs ps os at_) now t hgo
      refine ⟨h.1.step h1 h2, fun u hu => ?_⟩
      rw [nowAt_set (by rw [h.1.1]; exact h1)]
      have := h.2 u hu
      split
      · rename_i e; subst e; omega
      · exact this
    · unfold goR
      apply find?_congr'
      intro t ht
      have ht := List.mem_range.1 ht
      unfold goC
      congr 1
      unfold rdyR openArcs
      rw [Bool.eq_iff_iff, List.all_eq_true, List.all_eq_true]
      constructor
      · intro hh a ha
        by_cases hd : doneR at_ a.to = true
        · have hne : a.to ≠ ⟨(t : Int), nowAt now t + 1⟩ := fun e => by
            rw [e] at hd
            unfold doneR at hd
            simp only [Int.toNat_natCast, decide_eq_true_eq] at hd
            have := h.2 t ht
            omega
          simp [hne]
        · exact hh a (List.mem_filter.2 ⟨ha, by simpa using hd⟩)
      · intro hh a ha
        exact hh a (List.mem_filter.1 ha).1
  have hbad : (openArcs ps os at_).any (badArc at_) = false := by
    rw [List.any_eq_false]
    intro a ha
    have := (List.mem_filter.1 ha).2
    unfold badArc
    have hd : doneR at_ a.to = false := by simpa using this
    simp [hd]
  unfold lineR
  rw [if_neg (by rw [hbad]; simp), e2, ← e1]
  by_cases h0 : total ps (runP ps os at_).2 = 0
  · rw [if_pos h0, decide_eq_true h0]
  · rw [if_neg h0, decide_eq_false h0]
theorem RSlice.takeK {α : Type} {size : Nat} {E : Rd α} {w : World} {S : Foot} {A : Option Addr} {n c : Nat} {l : List α} (h : RSlice size E w S [.slice A n c] l) {m : Nat} (hm : m ≤ l.length) : RSlice size E w S [.slice A m c] (l.take m) := by
  obtain ⟨A', c', he, h1, h2, h3⟩ := h
  injection he with he _; injection he with ha hn hc; subst ha hc
  have hl : (l.take m).length = m := by simp; omega
  refine ⟨_, _, by rw [hl], by rw [hl]; omega, h2, fun hne => ?_⟩
  obtain ⟨b', o', rfl, hb, hj⟩ := h3 (by rintro rfl; simp at hne)
  refine ⟨_, _, rfl, hb, fun j x hx => ?_⟩
  have hjm : j < m := by have := getElem?_lt hx; omega
  rw [List.getElem?_take_of_lt hjm] at hx
  exact hj j x hx

set_option maxRecDepth 100000 in
set_option maxHeartbeats 4000000 in
theorem IsCycle_true (ps : List (List Stage)) (os : List Order) (at_ : List Int) (cy : List Ref) (A A2 A3 A4 : Option Addr) (c c2 c3 c4 : Nat) (w : World) (h : RPaths w (Old w) [.slice A ps.length c] ps) (h2 : ROrders w (Old w) [.slice A2 os.length c2] os) (h3 : RInts w (Old w) [.slice A3 at_.length c3] at_) (h4 : RRefs w (Old w) [.slice A4 cy.length c4] cy) (hck : checkO ps os = true) (hg : Gd ps at_) (hok : CycOk ps os at_ cy) :
    Calls Try.prog 37 #[.slice A ps.length c, .slice A2 os.length c2, .slice A3 at_.length c3, .slice A4 cy.length c4] w fun e w' => e = .returned (.bool true) ∧ KeepsAll w w' := by
  have hc := h.caps
  have hc3 := h3.caps
  have hc4 := h4.caps
  have al1 : at_.length ≤ ps.length := by have := hg.1; omega
  have al2 : ps.length ≤ at_.length := by have := hg.1; omega
  have hcyp := hok.1
  have H := Lib.hid h; clear h
  have H2 := Lib.hid h2; clear h2
  have H3 := Lib.hid h3; clear h3
  have H4 := Lib.hid h4; clear h4
  have HOK := Lib.hid hok.2; clear hok
  have HCK := Lib.hid hck; clear hck
  clear hg
  go_enter Try.func37, Try.ntmps37
  go_wp2_with fail
  refine (Arcs_any ps os A A2 c c2 w HCK.out H.out H2.out).mono ?_
  rintro e w1 ⟨v, rfl, ho, hal, k1⟩
  obtain ⟨Aa, ca, rfl, hca1, hca2⟩ := ho.form
  have RA := Lib.hid (ho.read RRArc.ok (by omega) (S := Old w1) (fun _ _ h => h) (fun _ _ h => h))
  have K1 := Lib.hid k1
  have P1 := Lib.hid (k1.rdo' RPaths.ok H.out)
  have I1 := Lib.hid (k1.rdo' RInts.ok H3.out)
  have C1 := Lib.hid (k1.rdo' RRefs.ok H4.out)
  clear ho k1 H H2 H3 H4
  generalize refArcs ps os = arcs at *
  go_wp2
  go_loopw [21] (fun v wr => ∃ i : Nat, i ≤ cy.length ∧ v = .int .i64 (i : Int) ∧ KeepsAll w1 wr) (fun v _ => cy.length - (intOf v).toNat)
  case atStart => exact ⟨0, Nat.zero_le _, rfl, Keeps.refl _ _⟩
  case round =>
    obtain ⟨i, hi, rfl, hkr⟩ := hrel
    have KR := Lib.hid hkr; clear hkr
    by_cases hlt : i < cy.length
    · obtain ⟨b, o, u, hbo, hb, hu, m0, m1⟩ := RRefs.atK KR.out C1.out hlt
      subst hbo
      obtain ⟨⟨t, k, p, hp, hk, hue⟩, hnd, hni, v, hv, a1, ha1, hf1, ht1⟩ := HOK.out i u hu
      subst hue
      simp only [] at m0 m1
      have htl := getElem?_lt hp
      obtain ⟨bp, op, p', Ap, cp, hbo, hbp, hp', p0, hpr⟩ := RSS.atK KR.out P1.out htl
      subst hbo
      obtain rfl := same_of hp' hp
      have hcpp := hpr.caps
      obtain ⟨ba, oa, xa, hbo, hba, hxa, r0⟩ := RInts.atK KR.out I1.out (k := t) (by omega)
      subst hbo
      have hxk : ¬ (k : Int) ≤ xa := by
        unfold doneR at hnd
        simp only [Int.toNat_natCast, nowAt_of hxa, decide_eq_false_iff_not] at hnd
        exact hnd
      have hjl := getElem?_lt hv
      obtain ⟨b', o', v', hbo, hbv, hv', n0, n1⟩ := RRefs.atK KR.out C1.out hjl
      injection hbo with hbo; injection hbo with e1 e2; subst e1 e2
      obtain rfl := same_of hv' hv
      have HANY : Hid (arcs.any (fun a => decide (a.frm = ⟨(t : Int), (k : Int)⟩) && decide (a.to = v')) = true) := List.any_eq_true.2 ⟨a1, ha1, by simp [hf1, ht1]⟩
      have HNI : Hid (decide ((⟨(t : Int), (k : Int)⟩ : Ref) ∈ cy.take i) = false) := by show _ = _; simpa using hni
      have HLT : Hid ((cy.take i).length = i) := by show _ = _; simp; omega
      have HJ : Hid ((i + 1) % cy.length < cy.length) := hjl
      clear hu hp hp' hpr hxa hnd hni hv hv' ha1 hf1 ht1
      generalize hjj : (i + 1) % cy.length = j2 at *
      have HJJ := Lib.hid hjj; clear hjj
      have hdi : decide ((i : Int) < (cy.length : Int)) = true := by simp; omega
      go_wp2
      generalize hW2 : World.alloc wr _ = W2
      have KW2 : KeepsAll wr W2 := by subst hW2; exact (Keeps.refl _ _).alloc _
      have BU : Hid (Blk W2 wr.heap.size 48 #[.int .i64 (t : Int), .int .i64 (k : Int)]) := by subst hW2; exact Blk.new _ _ _
      have u0 := BU.out.cell 0
      have u1 := BU.out.cell 1
      simp at u0 u1
      have hzu := BU.out.lt
      replace p0 := KW2.cellK (p := ⟨bp, op + t, none⟩) hbp p0
      replace r0 := KW2.cellK (p := ⟨ba, oa + t, none⟩) hba r0
      replace n0 := KW2.cellK (p := ⟨b, o + j2 * 2, none⟩) hbv n0
      replace n1 := KW2.cellK (p := ⟨b, o + j2 * 2 + 1, none⟩) hbv n1
      have hbv2 : b < W2.heap.size := Nat.lt_of_lt_of_le hbv KW2.size
      have K2 := Lib.hid (KR.out.tr KW2)
      have HCL : Hid (∀ xx : Ext W2, Calls Try.prog 80 #[.slice (some ⟨b, o, none⟩) i c4, .agg #[.int .i64 (t : Int), .int .i64 (k : Int)]] xx.val fun e w'' => e = .returned (.bool false) ∧ ∃ y : Ext W2, w'' = y.val) := fun xx => ext_call xx (by
        have q := holds_any (cy.take i) ⟨(t : Int), (k : Int)⟩ (some ⟨b, o, none⟩) c4 xx.val (by rw [HLT.out]; exact RSlice.takeK ((K2.out.tr xx.keeps).rdo' RRefs.ok C1.out) (by omega))
        rw [HLT.out, HNI.out] at q
        exact q)
      clear hW2 KW2 m0 m1 hb hbp hba hbv
      generalize wr.heap.size = zu at *
      have g1 : decide ((t : Int) < 0) = false := by simp
      have g2 : decide (ps.length ≤ t) = false := by simp; omega
      have g3 : decide ((k : Int) < 0) = false := by simp
      have g4 : decide (p'.length < k) = false := by simp; omega
      have g5 : decide (xa ≥ (k : Int)) = false := by simp; omega
      have hic : i ≤ c4 := by omega
      refine wp_region_ext (by kernel_rfl) (by kernel_rfl) ?_
      have y0 := Ext.cell u0
      have y1 := Ext.cell u1
      have y2 := Ext.cell p0
      have y3 := Ext.cell r0
      repeat (go_big_quiet_step ((go_at_call 80; exact HCL.out _)))
      refine wpQuiet_nil ?_
      rintro _ ⟨X, rfl⟩
      have KX := Lib.hid (K2.out.tr X.keeps)
      have BX := Lib.hid (BU.out.kept X.keeps (by simp))
      replace n0 := X.keeps.cellK (p := ⟨b, o + j2 * 2, none⟩) hbv2 n0
      replace n1 := X.keeps.cellK (p := ⟨b, o + j2 * 2 + 1, none⟩) hbv2 n1
      have hbv3 : b < X.val.heap.size := Nat.lt_of_lt_of_le hbv2 X.keeps.size
      clear y0 y1 y2 y3 u0 u1 p0 r0 hzu hbv2 HCL BU K2 g1 g2 g3 g4 g5
      generalize X.val = WX at *
      have hs1 : IntKind.i64.wrap ((i : Int) + 1) = (i : Int) + 1 := IntWalk.i64_in _ (by omega)
      have hrem : ((i : Int) + 1).tmod (cy.length : Int) = (j2 : Int) := by
        rw [← HJJ.out, show (i : Int) + 1 = ((i + 1 : Nat) : Int) from by simp, Int.ofNat_tmod]
      have hj2l : j2 < cy.length := HJ.out
      have hcn : ¬ ((cy.length : Int) = 0) := by omega
      go_wp2
      generalize hW4 : World.alloc WX _ = W4
      have KW4 : KeepsAll WX W4 := by subst hW4; exact (Keeps.refl _ _).alloc _
      have BV : Hid (Blk W4 WX.heap.size 48 #[.int .i64 v'.tr, .int .i64 v'.st]) := by subst hW4; exact Blk.new _ _ _
      have BU4 := Lib.hid (BX.out.kept KW4 (by simp))
      have K4 := Lib.hid (KX.out.tr KW4)
      clear hW4 KW4 n0 n1 hbv3 BX KX hs1 hrem
      generalize WX.heap.size = zv at *
      go_loopw [13, 79] (fun vb vi wr => ∃ m : Nat, m ≤ arcs.length ∧ vi = .int .i64 (m : Int) ∧ vb = .bool ((arcs.take m).any (fun a => decide (a.frm = ⟨(t : Int), (k : Int)⟩) && decide (a.to = v'))) ∧ KeepsAll W4 wr) (fun _ vi _ => arcs.length - (intOf vi).toNat)
      case atStart => exact ⟨0, Nat.zero_le _, rfl, by simp, Keeps.refl _ _⟩
      case round =>
        obtain ⟨m, hm, rfl, rfl, hkm⟩ := hrel
        have KM := Lib.hid hkm; clear hkm
        by_cases hltm : m < arcs.length
        · obtain ⟨bA, oA, a, hbo, hbA, ha, c0, c1, c2', c3', c4'⟩ := RRArcs.atK (K4.out.tr KM.out) RA.out hltm
          subst hbo
          have HQ : Hid ((arcs.take (m + 1)).any (fun a => decide (a.frm = ⟨(t : Int), (k : Int)⟩) && decide (a.to = v')) = ((arcs.take m).any (fun a => decide (a.frm = ⟨(t : Int), (k : Int)⟩) && decide (a.to = v')) || (decide (a.frm = ⟨(t : Int), (k : Int)⟩) && decide (a.to = v')))) := by
            show _ = _
            rw [take_succ' ha, List.any_append]; simp
          have bu := BU4.out.kept KM.out (by simp)
          have bv := BV.out.kept KM.out (by simp)
          have u0 := bu.cell 0
          have u1 := bu.cell 1
          have v0 := bv.cell 0
          have v1 := bv.cell 1
          simp at u0 u1 v0 v1
          have hzu := bu.lt
          have hzv := bv.lt
          clear ha bu bv
          generalize (arcs.take m).any (fun a => decide (a.frm = ⟨(t : Int), (k : Int)⟩) && decide (a.to = v')) = bb at *
          have hdm : decide ((m : Int) < (arcs.length : Int)) = true := by simp; omega
          cases bb with
          | true =>
            have Q : Hid ((arcs.take (m + 1)).any (fun a => decide (a.frm = ⟨(t : Int), (k : Int)⟩) && decide (a.to = v')) = true) := by show _ = _; rw [HQ.out]; rfl
            clear HQ
            go_wp2
            go_roundw
            case rel => exact ⟨m + 1, by omega, by go_num, by rw [Q.out], KM.out.alloc _⟩
            case measure => simp [intOf]; omega
          | false =>
            by_cases g1 : a.frm = ⟨(t : Int), (k : Int)⟩
            · have g1' : a.frm.tr = (t : Int) := by rw [g1]
              have g1'' : a.frm.st = (k : Int) := by rw [g1]
              rw [g1'] at c0
              rw [g1''] at c1
              by_cases g2 : a.to = v'
              · have Q : Hid ((arcs.take (m + 1)).any (fun a => decide (a.frm = ⟨(t : Int), (k : Int)⟩) && decide (a.to = v')) = true) := by show _ = _; rw [HQ.out, decide_eq_true g1, decide_eq_true g2]; rfl
                have g2' : a.to.tr = v'.tr := by rw [g2]
                have g2'' : a.to.st = v'.st := by rw [g2]
                rw [g2'] at c2'
                rw [g2''] at c3'
                clear HQ g1 g1' g1'' g2 g2' g2''
                go_wp2
                go_roundw
                case rel => exact ⟨m + 1, by omega, by go_num, by rw [Q.out], KM.out.alloc _⟩
                case measure => simp [intOf]; omega
              · have Q : Hid ((arcs.take (m + 1)).any (fun a => decide (a.frm = ⟨(t : Int), (k : Int)⟩) && decide (a.to = v')) = false) := by show _ = _; rw [HQ.out, decide_eq_false g2]; simp
                have g1n : ¬ (a.to.tr = v'.tr ∧ a.to.st = v'.st) := fun h => g2 (Ref.eq_of h.1 h.2)
                clear HQ g1 g1' g1'' g2
                by_cases g3 : a.to.tr = v'.tr
                · have g4 : ¬ a.to.st = v'.st := fun h => g1n ⟨g3, h⟩
                  rw [g3] at c2'
                  clear g1n g3
                  go_wp2
                  go_roundw
                  case rel => exact ⟨m + 1, by omega, by go_num, by rw [Q.out], KM.out.alloc _⟩
                  case measure => simp [intOf]; omega
                · clear g1n
                  go_wp2
                  go_roundw
                  case rel => exact ⟨m + 1, by omega, by go_num, by rw [Q.out], KM.out.alloc _⟩
                  case measure => simp [intOf]; omega
            · have Q : Hid ((arcs.take (m + 1)).any (fun a => decide (a.frm = ⟨(t : Int), (k : Int)⟩) && decide (a.to = v')) = false) := by show _ = _; rw [HQ.out, decide_eq_false g1]; simp
              have g1n : ¬ (a.frm.tr = (t : Int) ∧ a.frm.st = (k : Int)) := fun h => g1 (Ref.eq_of h.1 h.2)
              clear HQ g1
              by_cases g3 : a.frm.tr = (t : Int)
              · have g4 : ¬ a.frm.st = (k : Int) := fun h => g1n ⟨g3, h⟩
                rw [g3] at c0
                clear g1n g3
                go_wp2
                go_roundw
                case rel => exact ⟨m + 1, by omega, by go_num, by rw [Q.out], KM.out.alloc _⟩
                case measure => simp [intOf]; omega
              · clear g1n
                go_wp2
                go_roundw
                case rel => exact ⟨m + 1, by omega, by go_num, by rw [Q.out], KM.out.alloc _⟩
                case measure => simp [intOf]; omega
        · obtain rfl : m = arcs.length := by omega
          rw [List.take_length, HANY.out]
          have hdm : decide ((arcs.length : Int) < (arcs.length : Int)) = false := by simp
          go_wp2
          go_roundw
          case rel => exact ⟨i + 1, by omega, by go_num, K4.out.tr KM.out⟩
          case measure => simp [intOf]; omega
    · obtain rfl : i = cy.length := by omega
      have hdi : decide ((cy.length : Int) < (cy.length : Int)) = false := by simp
      go_wp2
      go_ret
      exact ⟨rfl, K1.out.tr KR.out⟩

end Go.Proofs.Ytigmldildefdgaa
