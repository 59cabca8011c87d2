/- Contract of operate.Free: the sweep over sorted tenures. Conditions: as the theorem says. From a row's argument that is a slice of integers to its reading. No condition. From a row's argument that is a slice of slices or of structs to its reading. No condition. From a row's argument that is a slice of tenures to its reading. No condition. -/
import Derived.Test.YtcbcegdidlefiaaGreatK11
import Derived.Test.YtcbcegdidlefiaaGreatK01
import Derived.Test.YtcbcegdidlefiaaGreatRows
import Derived.ProofKit
import Derived.OpenShut
import Derived.ShutString
import Derived.ChangeOld
import Derived.Below
import Derived.Test.YtcbcegdidlefiaaGreatK06
import Derived.Deep.Slices
import Derived.ChangeArms
import Derived.DataReads
import Derived.Test.YtcbcegdidlefiaaGreatK09
namespace Go.Proofs.YtcbcegdidlefiaaGreat
open Go.RowKit
theorem ins0_ten (A : Option Addr) (c : Nat) (fv : Value) (w : World) :
    Calls Tryz.prog 253 #[.slice A 0 c, .int .i64 0, .int .i64 0, fv] w fun e w' => e = .returned (.tuple #[]) ∧ w = w' := by
  go_enter Tryz.func253, Tryz.ntmps253
  go_wp2
  refine wp_loop_rounds 1 ?_
  rw [rounds_succ]
  go_wp2
  go_end0
  exact ⟨rfl, rfl⟩
theorem pdq0_ten (A : Option Addr) (c : Nat) (m : Int) (fv : Value) (w : World) :
    Calls Tryz.prog 143 #[.slice A 0 c, .int .i64 0, .int .i64 0, .int .i64 m, fv] w fun e w' => e = .returned (.tuple #[]) ∧ w = w' := by
  go_enter Tryz.func143, Tryz.ntmps143
  go_wp2
  refine wp_loop_rounds 1 ?_
  rw [rounds_succ]
  go_wp2_with (go_at_call 253; refine (ins0_ten _ _ _ _).mono ?_; rintro e w' ⟨rfl, rfl⟩)
  (try simp only [Exit.inBlock, Exit.then]); refine bodyPost_ret (results_none rfl _ _ _) rfl ?_
  exact ⟨rfl, rfl⟩
theorem SortTen_none (A : Option Addr) (c : Nat) (w : World) :
    Calls Tryz.prog 60 #[.slice A 0 c, .func (.func 61) #[] #[]] w fun e w' => e = .returned (.tuple #[]) ∧ KeepsAll w w' := by
  have hlen := fun W => Len_any 0 (by omega) W
  go_enter Tryz.func60, Tryz.ntmps60
  go_wp2_with (first | (go_at_call 144; refine (hlen _).mono ?_; rintro e w' ⟨m, rfl, rfl⟩) | (go_at_call 143; refine (pdq0_ten _ _ _ _ _).mono ?_; rintro e w' ⟨rfl, rfl⟩))
  go_end0
  exact ⟨rfl, Keeps.refl _ _⟩
/-- the pointer to a tenure of the row, or none -/
def PtrT (g : Nat) (l : List Ten) (v : Value) : Option Ten → Prop
  | none => v = .pointer none
  | some x => ∃ j, l[j]? = some x ∧ v = .pointer (some ⟨g, j * 5, none⟩)
def swpStep (s : Swp) (x : Ten) : Swp := if x.to ≤ x.frm then s else swpNext (swpReset s x) x
theorem sweep_step (s : Swp) (l : List Ten) (i : Nat) (x : Ten) (h : l[i]? = some x) (hb : x.frm < x.to → swpBad (swpReset s x) x = false) : sweep s (l.drop i) = sweep (swpStep s x) (l.drop (i + 1)) := by
  rw [sweep_at s l i x h]
  unfold swpStep
  by_cases hle : x.to ≤ x.frm
  · rw [if_pos hle, if_pos hle]
  · rw [if_neg hle, if_neg hle, hb (by omega)]; simp
theorem sweep_stop (s : Swp) (l : List Ten) (i : Nat) (x : Ten) (h : l[i]? = some x) (hlt : x.frm < x.to) (hb : swpBad (swpReset s x) x = true) : sweep s (l.drop i) = none := by
  rw [sweep_at s l i x h, if_neg (by omega), hb]; simp
theorem swpStep_ne {y x : Ten} {s2 : Option Ten} (hle : ¬ x.to ≤ x.frm) (h : ¬ y.res = x.res) : swpStep (some y, s2) x = (some x, none) := by
  unfold swpStep; rw [if_neg hle]; simp [swpReset, swpNext, h]
theorem swpStep_eq {y x : Ten} {s2 : Option Ten} (hle : ¬ x.to ≤ x.frm) (h : y.res = x.res) : swpStep (some y, s2) x = swpNext (some y, s2) x := by
  unfold swpStep; rw [if_neg hle]; simp [swpReset, h]
theorem swpBad_ne {y x : Ten} {s2 : Option Ten} (h : ¬ y.res = x.res) : swpBad (swpReset (some y, s2) x) x = false := by
  simp [swpReset, swpBad, swpRival, h]
theorem swpBad_eq {y x : Ten} {s2 : Option Ten} (h : y.res = x.res) : swpBad (swpReset (some y, s2) x) x = swpBad (some y, s2) x := by
  simp [swpReset, h]
theorem TenC.at_ {w : World} {g : Nat} {cs : Array Value} {l : List Ten} (hb : Blk w g 66 cs) (h : TenC cs l) {k : Nat} {x : Ten} (hx : l[k]? = some x) :
    w.cell? ⟨g, k * 5, none⟩ = some (.int .i64 x.res) ∧ w.cell? ⟨g, k * 5 + 1, none⟩ = some (.int .i64 x.tr) ∧ w.cell? ⟨g, k * 5 + 3, none⟩ = some (.int .i64 x.frm) ∧ w.cell? ⟨g, k * 5 + 4, none⟩ = some (.int .i64 x.to) := by
  refine ⟨?_, ?_, ?_, ?_⟩ <;> rw [hb.cell]
  · exact h k x hx 0 (by omega)
  · exact h k x hx 1 (by omega)
  · exact h k x hx 3 (by omega)
  · exact h k x hx 4 (by omega)
set_option maxRecDepth 100000 in
set_option maxHeartbeats 4000000 in
theorem free_any (l : List Ten) (A : Option Addr) (c : Nat) (w : World) (h : RTens w (Old w) [.slice A l.length c] l) (hl : l.length ≤ 3518437208883) :
    Calls Tryz.prog 21 #[.slice A l.length c] w fun e w' => e = .returned (.bool (decide (freeL l))) ∧ KeepsAll w w' := by
  have hcl := CloneT_any l A c w h hl
  clear h
  go_enter Tryz.func21, Tryz.ntmps21
  go_wp2_with (go_at_call 59; refine hcl.mono ?_; rintro e w1 ⟨A1, c1, rfl, hcl1, hk1⟩)
  have hsort : Calls Tryz.prog 60 #[.slice A1 l.length c1, .func (.func 61) #[] #[]] w1 fun e w' => e = .returned (.tuple #[]) ∧ ∃ l', l'.Perm l ∧ l'.Pairwise tenLe ∧ (1 ≤ l.length → ∃ g cs, A1 = some ⟨g, 0, none⟩ ∧ Blk w' g 66 cs ∧ TenC cs l') ∧ KeepsAll w w' := by
    by_cases hm : 1 ≤ l.length
    · obtain ⟨g, cs, rfl, hg, hb, hc⟩ := hcl1 hm
      refine (SortTen_any g l c1 cs w1 (by omega) hb hc).mono ?_
      rintro e w' ⟨rfl, ⟨l', cs', h1, h2, h3, h4⟩, hk⟩
      exact ⟨rfl, l', h1, h2, fun _ => ⟨g, cs', rfl, h3, h4⟩, hk1.trans hk (fun x hx e => by omega)⟩
    · have h0 : l = [] := List.eq_nil_of_length_eq_zero (by omega)
      subst h0
      refine (SortTen_none A1 c1 w1).mono ?_
      rintro e w' ⟨rfl, hk⟩
      exact ⟨rfl, [], List.Perm.refl _, List.Pairwise.nil, fun h => absurd h (by simp), hk1.tr hk⟩
  clear hcl1 hk1 hcl
  refine hsort.mono ?_
  rintro e w2 ⟨rfl, q, hp, hs, hblk, hk2⟩
  have HR : Hid ((sweep (none, none) q).isSome = decide (freeL l)) := sweep_ok hp hs
  have hql : q.length = l.length := hp.length_eq
  have HK2 := Lib.hid hk2
  clear hsort hp hs hk2
  rw [← hql] at hblk hl ⊢
  clear hql
  obtain ⟨g, cs, hB⟩ : ∃ g cs, 1 ≤ q.length → A1 = some ⟨g, 0, none⟩ ∧ Blk w2 g 66 cs ∧ TenC cs q := by
    by_cases hm : 1 ≤ q.length
    · obtain ⟨g, cs, h⟩ := hblk hm; exact ⟨g, cs, fun _ => h⟩
    · exact ⟨0, #[], fun h => absurd h hm⟩
  have HB := Lib.hid hB
  clear hB hblk
  go_wp2_with fail
  go_loopw [4, 5, 15] (fun v4 v5 i wr => ∃ (n : Nat) (s : Swp), n ≤ q.length ∧ i = .int .i64 (n : Int) ∧ PtrT g q v4 s.1 ∧ PtrT g q v5 s.2 ∧ sweep (none, none) q = sweep s (q.drop n) ∧ KeepsAll w2 wr) (fun _ _ i _ => q.length - (intOf i).toNat)
  case atStart => exact ⟨0, (none, none), Nat.zero_le _, rfl, rfl, rfl, by simp, Keeps.refl _ _⟩
  case round =>
    obtain ⟨n, s, hn, rfl, h4, h5, hsw, hk⟩ := hrel
    have HSW := Lib.hid hsw
    have HK := Lib.hid hk
    clear hsw hk
    by_cases hlt : n < q.length
    · obtain ⟨rfl, hb2, hc2⟩ := HB.out (by omega)
      have HC : Hid (∀ {k : Nat} {x : Ten}, q[k]? = some x → wr.cell? ⟨g, k * 5, none⟩ = some (.int .i64 x.res) ∧ wr.cell? ⟨g, k * 5 + 1, none⟩ = some (.int .i64 x.tr) ∧ wr.cell? ⟨g, k * 5 + 3, none⟩ = some (.int .i64 x.frm) ∧ wr.cell? ⟨g, k * 5 + 4, none⟩ = some (.int .i64 x.to)) := fun {k x} hx => TenC.at_ (hb2.kept HK.out (by simp)) hc2 hx
      clear hb2 hc2
      obtain ⟨x, hx⟩ : ∃ x, q[n]? = some x := ⟨_, List.getElem?_eq_getElem hlt⟩
      obtain ⟨a0, a1, a3, a4⟩ := HC.out hx
      have HX := Lib.hid hx
      clear hx
      have HGO : Hid ((x.frm < x.to → swpBad (swpReset s x) x = false) → sweep (none, none) q = sweep (swpStep s x) (q.drop (n + 1))) := fun hb => HSW.out.trans (sweep_step s q n x HX.out hb)
      have HST : Hid (x.frm < x.to → swpBad (swpReset s x) x = true → decide (freeL l) = false) := fun h1 h2 => by
        rw [← HR.out, HSW.out, sweep_stop s q n x HX.out h1 h2]; rfl
      clear HSW
      have hgz : g < wr.heap.size := World.block_lt_of_cell? wr _ a0
      have hq20 : q.length ≤ 3518437208883 := hl
      obtain ⟨s1, s2⟩ := s
      obtain ⟨xr, xt, xs, xf, xo⟩ := x
      simp only [] at a0 a1 a3 a4 HGO HST h4 h5
      have HXN : Hid (∀ v, v = .pointer (some ⟨g, n * 5, none⟩) → PtrT g q v (some ⟨xr, xt, xs, xf, xo⟩)) := fun v hv => ⟨n, HX.out, hv⟩
      cases s1 with
      | none =>
        cases h4
        have H5 := Lib.hid h5
        clear h5
        go_wp2_with fail
        iterate 7 (all_goals (try (go_quiet (fail); go_wp2_with fail)))
        all_goals first
          | (have hle : xo ≤ xf := by omega
             refine ⟨⟨n + 1, swpStep (none, s2) ⟨xr, xt, xs, xf, xo⟩, by omega, by go_num, ?_, ?_, HGO.out ?_, ?_⟩, by simp [intOf]; omega⟩
             · simp [swpStep, hle]; rfl
             · simp [swpStep, hle]; exact H5.out
             · intro hq; omega
             · repeat refine Keeps.drewN ?_ _
               exact HK.out)
          | (have hle : ¬ xo ≤ xf := by omega
             refine ⟨⟨n + 1, swpStep (none, s2) ⟨xr, xt, xs, xf, xo⟩, by omega, by go_num, ?_, ?_, HGO.out ?_, ?_⟩, by simp [intOf]; omega⟩
             · simp [swpStep, swpNext, swpReset, hle]; exact HXN.out _ rfl
             · simp [swpStep, swpNext, swpReset, hle]; exact H5.out
             · intro hq; simp [swpBad, swpRival, swpReset]
             · repeat refine Keeps.drewN ?_ _
               exact HK.out)
      | some y =>
        obtain ⟨j, hj, rfl⟩ := h4
        obtain ⟨b0, b1, b3, b4⟩ := HC.out hj
        have HJ : Hid (∀ v, v = .pointer (some ⟨g, j * 5, none⟩) → PtrT g q v (some y)) := fun v hv => ⟨j, hj, hv⟩
        clear hj
        obtain ⟨yr, yt, ys, yf, yo⟩ := y
        simp only [] at b0 b1 b3 b4
        by_cases hle : xo ≤ xf
        · have H5 := Lib.hid h5
          clear h5
          go_wp2_with fail
          go_quiet (fail)
          go_wp2_with fail
          refine ⟨⟨n + 1, swpStep (some ⟨yr, yt, ys, yf, yo⟩, s2) ⟨xr, xt, xs, xf, xo⟩, by omega, by go_num, ?_, ?_, HGO.out ?_, ?_⟩, by simp [intOf]; omega⟩
          · simp [swpStep, hle]; exact HJ.out _ rfl
          · simp [swpStep, hle]; exact H5.out
          · intro hq; omega
          · repeat refine Keeps.drewN ?_ _
            exact HK.out
        · cases s2 with
          | none =>
            cases h5
            go_wp2_with fail
            iterate 9 (all_goals (try (go_quiet (fail); go_wp2_with fail)))
            all_goals clear HC HB HR
            all_goals first
              | (refine ⟨⟨n + 1, swpStep (some ⟨yr, yt, ys, yf, yo⟩, none) ⟨xr, xt, xs, xf, xo⟩, by omega, by go_num, ?_, ?_, HGO.out ?_, ?_⟩, by simp [intOf]; omega⟩
                 · by_cases hr : yr = xr
                   · rw [swpStep_eq (by show ¬ xo ≤ xf; omega) hr]
                     unfold swpNext
                     simp only []
                     repeat' split
                     all_goals first | exact HXN.out _ rfl | exact HJ.out _ rfl | rfl | (exfalso; clear HGO HST HX HXN HJ; simp at *; done) | (exfalso; clear HGO HST HX HXN HJ; simp at *; omega)
                   · rw [swpStep_ne (by show ¬ xo ≤ xf; omega) hr]
                     first | exact HXN.out _ rfl | (exfalso; clear HGO HST HX HXN HJ; simp at *; omega)
                 · by_cases hr : yr = xr
                   · rw [swpStep_eq (by show ¬ xo ≤ xf; omega) hr]
                     unfold swpNext
                     simp only []
                     repeat' split
                     all_goals first | exact HXN.out _ rfl | exact HJ.out _ rfl | rfl | (exfalso; clear HGO HST HX HXN HJ; simp at *; done) | (exfalso; clear HGO HST HX HXN HJ; simp at *; omega)
                   · rw [swpStep_ne (by show ¬ xo ≤ xf; omega) hr]
                     first | rfl | (exfalso; clear HGO HST HX HXN HJ; simp at *; omega)
                 · intro hq
                   by_cases hr : yr = xr
                   · rw [swpBad_eq hr]
                     unfold swpBad swpRival
                     simp only []
                     clear HGO HST HX HXN HJ
                     by_cases ht : yt = xt <;> simp [ht] <;> simp_all <;> omega
                   · exact swpBad_ne hr
                 · repeat refine Keeps.drewN ?_ _
                   exact HK.out)
              | (go_ret
                 refine ⟨congrArg (fun b => Ending.returned (Value.bool b)) (HST.out (by omega) ?_).symm, HK2.out.tr ?_⟩
                 · have hr : yr = xr := by clear HGO HST HX HXN HJ; simp_all
                   rw [swpBad_eq hr]
                   unfold swpBad swpRival
                   simp only []
                   clear HGO HST HX HXN HJ
                   by_cases ht : yt = xt <;> simp [ht] <;> simp_all <;> omega
                 · repeat refine Keeps.drewN ?_ _
                   exact HK.out)
          | some z =>
            obtain ⟨i, hi, rfl⟩ := h5
            obtain ⟨d0, d1, d3, d4⟩ := HC.out hi
            have HZ : Hid (∀ v, v = .pointer (some ⟨g, i * 5, none⟩) → PtrT g q v (some z)) := fun v hv => ⟨i, hi, hv⟩
            clear hi
            obtain ⟨zr, zt, zs, zf, zo⟩ := z
            simp only [] at d0 d1 d3 d4
            go_wp2_with fail
            iterate 9 (all_goals (try (go_quiet (fail); go_wp2_with fail)))
            all_goals clear HC HB HR
            all_goals first
              | (refine ⟨⟨n + 1, swpStep (some ⟨yr, yt, ys, yf, yo⟩, some ⟨zr, zt, zs, zf, zo⟩) ⟨xr, xt, xs, xf, xo⟩, by omega, by go_num, ?_, ?_, HGO.out ?_, ?_⟩, by simp [intOf]; omega⟩
                 · by_cases hr : yr = xr
                   · rw [swpStep_eq (by show ¬ xo ≤ xf; omega) hr]
                     unfold swpNext
                     simp only []
                     repeat' split
                     all_goals first | exact HXN.out _ rfl | exact HJ.out _ rfl | rfl | exact HZ.out _ rfl | (exfalso; clear HGO HST HX HXN HJ HZ; simp at *; done) | (exfalso; clear HGO HST HX HXN HJ HZ; simp at *; omega)
                   · rw [swpStep_ne (by show ¬ xo ≤ xf; omega) hr]
                     first | exact HXN.out _ rfl | (exfalso; clear HGO HST HX HXN HJ HZ; simp at *; omega)
                 · by_cases hr : yr = xr
                   · rw [swpStep_eq (by show ¬ xo ≤ xf; omega) hr]
                     unfold swpNext
                     simp only []
                     repeat' split
                     all_goals first | exact HXN.out _ rfl | exact HJ.out _ rfl | rfl | exact HZ.out _ rfl | (exfalso; clear HGO HST HX HXN HJ HZ; simp at *; done) | (exfalso; clear HGO HST HX HXN HJ HZ; simp at *; omega)
                   · rw [swpStep_ne (by show ¬ xo ≤ xf; omega) hr]
                     first | rfl | (exfalso; clear HGO HST HX HXN HJ HZ; simp at *; omega)
                 · intro hq
                   by_cases hr : yr = xr
                   · rw [swpBad_eq hr]
                     unfold swpBad swpRival
                     simp only []
                     clear HGO HST HX HXN HJ HZ
                     by_cases ht : yt = xt <;> simp [ht] <;> simp_all <;> omega
                   · exact swpBad_ne hr
                 · repeat refine Keeps.drewN ?_ _
                   exact HK.out)
              | (go_ret
                 refine ⟨congrArg (fun b => Ending.returned (Value.bool b)) (HST.out (by omega) ?_).symm, HK2.out.tr ?_⟩
                 · have hr : yr = xr := by clear HGO HST HX HXN HJ HZ; simp_all
                   rw [swpBad_eq hr]
                   unfold swpBad swpRival
                   simp only []
                   clear HGO HST HX HXN HJ HZ
                   by_cases ht : yt = xt <;> simp [ht] <;> simp_all <;> omega
                 · repeat refine Keeps.drewN ?_ _
                   exact HK.out)
    · obtain rfl : n = q.length := by omega
      have HE : Hid (decide (freeL l) = true) := by
        show _ = _
        rw [← HR.out, HSW.out, List.drop_length]; rfl
      go_wp2_with fail
      go_ret
      exact ⟨by rw [HE.out]; rfl, HK2.out.tr HK.out⟩

open Go.ChangeShapes Go.WideShapes Go.ChangeAt Go.RowKit

theorem rowOwn : ownKnob Tryz.prog.godebug = none := by kernel_rfl
theorem rowLaid : laidOutB Tryz.prog = true := by kernel_rfl

theorem cell_lt {w : World} {p : Addr} {v : Value} (h : w.cell? p = some v) : p.block < w.heap.size := by
  rcases Nat.lt_or_ge p.block w.heap.size with h1 | h1
  · exact h1
  · have : w.heap[p.block]? = none := Array.getElem?_eq_none h1
    simp [World.cell?, this] at h

theorem ints_of_row {W : World} {a : Option Addr} {len cap : Nat} {zs : List Int}
    (h : (a = none ∧ len = 0 ∧ cap = 0 ∧ zs = []) ∨ ∃ x, a = some x ∧ len ≤ cap ∧ cap ≤ maxLen ∧ zs.length = cap ∧ (∀ i, i < zs.length → W.cell? (x.add i) = some (.int .i64 (zs.getD i 0)))) :
    ∃ l : List Int, len = l.length ∧ RInts W (Old W) [.slice a l.length cap] l := by
  rcases h with ⟨rfl, rfl, rfl, rfl⟩ | ⟨x, rfl, hl, hm, hz, hc⟩
  · exact ⟨[], rfl, RSlice.mkNil⟩
  · have hlen : (zs.take len).length = len := by simp; omega
    refine ⟨zs.take len, hlen.symm, some x, cap, rfl, by omega, by simpa [maxLen] using hm, fun hne => ?_⟩
    have hpos : 0 < len := by
      rcases Nat.eq_zero_or_pos len with h0 | h0
      · subst h0; simp at hne
      · exact h0
    have h0 := hc 0 (by omega)
    obtain ⟨b, o, spot⟩ := x
    have hspot : spot = none := by simpa [Addr.add] using World.cell?_spot h0
    subst hspot
    refine ⟨b, o, rfl, by have := cell_lt h0; show b < _; simpa [Addr.add] using this, fun j y hy => ?_⟩
    have hj := (List.getElem?_eq_some_iff.1 hy).1
    have hj2 : j < len := by omega
    refine ⟨[.int .i64 y], rfl, rfl, fun i u hu => ?_⟩
    have hi : i = 0 := by
      rcases i with _ | i
      · rfl
      · simp at hu
    subst hi
    simp at hu; subst hu
    have := hc j (by omega)
    rw [List.getElem?_take_of_lt hj2] at hy
    rw [List.getD_eq_getElem?_getD, hy] at this
    rcases j with _ | j
    · simpa [Addr.add] using this
    · simpa [Addr.add] using this

theorem trod_ints {H : Type} {enc : TypeId × Value → H} {W : World} {a : Option Addr} {len cap : Nat} {d : DataW H} {p : List MemPlace} (h : DataW.Trod enc Tryz.prog W 0 (fun _ => true) true 22 (.slice a len cap) d p) :
    ∃ l : List Int, len = l.length ∧ RInts W (Old W) [.slice a l.length cap] l := by
  obtain ⟨fuel, hf⟩ := h
  rcases open_ints Tryz.underlying22 Tryz.underlying3 (by kernel_rfl) hf with ⟨hcs, _⟩ | ⟨x, l, c, zs, hcs, _, hl, hm, hz, _, hcell, hwz⟩
  · simp [Value.cells] at hcs
    obtain ⟨rfl, rfl, rfl⟩ := hcs
    exact ints_of_row (zs := []) (.inl ⟨rfl, rfl, rfl, rfl⟩)
  · simp [Value.cells] at hcs
    obtain ⟨rfl, rfl, rfl⟩ := hcs
    exact ints_of_row (zs := zs) (.inr ⟨_, rfl, hl, hm, by simpa using hz, hcell⟩)

open Go.ChangeShapes Go.WideShapes Go.ChangeAt Go.RowKit

section
variable {H : Type} {enc : TypeId × Value → H} {W : World}
/-- the cells of a value of type t read by E -/
def Opens {α : Type} (enc : TypeId × Value → H) (W : World) (t size : Nat) (E : Rd α) : Prop := ∀ (n : Nat) (cs : List Value) (x : DataW H × List MemPlace), DataW.trod enc Tryz.prog W 0 (fun _ => true) true n t cs = some x → cs.length = size ∧ ∃ y, E W (Old W) cs y
theorem add_none (b o j : Nat) : (Addr.mk b o none).add j = ⟨b, o + j, none⟩ := by
  unfold Addr.add; split
  · subst_vars; rfl
  · simp
theorem opens_slice {α : Type} {T t size : Nat} {E : Rd α} (ht : Tryz.prog.underlying T = some (.slice t)) (hsz : Tryz.prog.cellsOf t = size) (hp : 0 < size) (hE : Opens enc W t size E) : Opens enc W T 1 (RSlice size E) := fun n cs x h => by
  rcases Go.Deep.open_slice ht h with ⟨rfl, _⟩ | ⟨a, len, cap, m, n', D, Pl, rfl, _, hl, hm, hmm, _, hel⟩
  · exact ⟨rfl, [], RSlice.mkNil⟩
  · refine ⟨rfl, ?_⟩
    rw [hsz] at hel
    have hmc : m = cap := hmm
    by_cases h0 : len = 0
    · subst h0
      exact ⟨[], some a, cap, rfl, Nat.zero_le _, by simpa [maxLen] using hm, fun h => absurd rfl h⟩
    · obtain ⟨cs0, hc0, _⟩ := hel 0 (by omega)
      obtain ⟨_, hl0, hcell0⟩ := World.cells?_some hc0
      have hcc := hcell0 0 hp
      have hs0 : cs0[0]? = some (cs0[0]'(by omega)) := List.getElem?_eq_getElem _
      rw [hs0] at hcc
      obtain ⟨b, o, spot⟩ := a
      have hspot : spot = none := by simpa [Addr.add] using World.cell?_spot hcc
      subst hspot
      have hblk : b < W.heap.size := by have := cell_lt hcc; simpa [Addr.add] using this
      obtain ⟨l, hl1, hl2⟩ := list_choose (P := fun j y => ∃ es, es.length = size ∧ E W (Old W) es y ∧ ∀ i u, es[i]? = some u → W.cell? ⟨b, o + (j * size + i), none⟩ = some u) len (fun j hj => by
        obtain ⟨cs', hc, htr⟩ := hel j (by omega)
        obtain ⟨_, hlc, hcell⟩ := World.cells?_some hc
        obtain ⟨hl', y, hy⟩ := hE n' cs' _ htr
        refine ⟨y, cs', hl', hy, fun i u hu => ?_⟩
        have hi : i < size := by rw [← hl']; exact getElem?_lt hu
        have := hcell i hi
        rw [add_none, add_none, hu, Nat.add_assoc] at this
        exact this)
      exact ⟨l, some ⟨b, o, none⟩, cap, by rw [hl1], by omega, by simpa [maxLen] using hm, fun _ => ⟨b, o, rfl, hblk, hl2⟩⟩
theorem four {cs : List Value} (h : cs.length = 4) : ∃ a b c d, cs = [a, b, c, d] := by
  match cs, h with
  | [a, b, c, d], _ => exact ⟨a, b, c, d, rfl⟩
theorem two {cs : List Value} (h : cs.length = 2) : ∃ a b, cs = [a, b] := by
  match cs, h with
  | [a, b], _ => exact ⟨a, b, rfl⟩
theorem some_of {α : Type} {xs : List α} {i n : Nat} {z : Option α} (hl : xs.length = n) (hi : i < n) (h : z = xs[i]?) : ∃ x, z = some x := ⟨xs[i]'(by omega), by rw [h]; exact List.getElem?_eq_getElem _⟩

end

open Go.ChangeShapes Go.WideShapes Go.ChangeAt Go.RowKit

section
variable {H : Type} {enc : TypeId × Value → H} {W : World}
theorem five {cs : List Value} (h : cs.length = 5) : ∃ a b c d e, cs = [a, b, c, d, e] := by
  match cs, h with
  | [a, b, c, d, e], _ => exact ⟨a, b, c, d, e, rfl⟩
theorem opens_ten : Opens enc W 66 5 RTen := fun n cs x h => by
  obtain ⟨xs, m, _, _, hl, hxl, hf⟩ := DataW.trod_struct Tryz.underlying66 h
  have hc : Tryz.prog.cellsOf 66 = 5 := by kernel_rfl
  have hci : Tryz.prog.cellsOf 3 = 1 := by kernel_rfl
  rw [hc] at hl
  obtain ⟨a, b, c, d, e, rfl⟩ := five hl
  refine ⟨rfl, ?_⟩
  have q0 : DataW.trod enc Tryz.prog W 0 (fun _ => true) true m 3 (([a, b, c, d, e].drop 0).take (Tryz.prog.cellsOf 3)) = xs[0]? := hf 0 _ rfl
  have q1 : DataW.trod enc Tryz.prog W 0 (fun _ => true) true m 3 (([a, b, c, d, e].drop 1).take (Tryz.prog.cellsOf 3)) = xs[1]? := hf 1 _ rfl
  have q2 : DataW.trod enc Tryz.prog W 0 (fun _ => true) true m 3 (([a, b, c, d, e].drop 2).take (Tryz.prog.cellsOf 3)) = xs[2]? := hf 2 _ rfl
  have q3 : DataW.trod enc Tryz.prog W 0 (fun _ => true) true m 3 (([a, b, c, d, e].drop 3).take (Tryz.prog.cellsOf 3)) = xs[3]? := hf 3 _ rfl
  have q4 : DataW.trod enc Tryz.prog W 0 (fun _ => true) true m 3 (([a, b, c, d, e].drop 4).take (Tryz.prog.cellsOf 3)) = xs[4]? := hf 4 _ rfl
  rw [hci] at q0 q1 q2 q3 q4
  obtain ⟨x0, h0⟩ := some_of hxl (i := 0) (by simp) q0
  obtain ⟨x1, h1⟩ := some_of hxl (i := 1) (by simp) q1
  obtain ⟨x2, h2⟩ := some_of hxl (i := 2) (by simp) q2
  obtain ⟨x3, h3⟩ := some_of hxl (i := 3) (by simp) q3
  obtain ⟨x4, h4⟩ := some_of hxl (i := 4) (by simp) q4
  obtain ⟨z0, e0, _, _⟩ := DataW.trod_int Tryz.underlying3 h0
  obtain ⟨z1, e1, _, _⟩ := DataW.trod_int Tryz.underlying3 h1
  obtain ⟨z2, e2, _, _⟩ := DataW.trod_int Tryz.underlying3 h2
  obtain ⟨z3, e3, _, _⟩ := DataW.trod_int Tryz.underlying3 h3
  obtain ⟨z4, e4, _, _⟩ := DataW.trod_int Tryz.underlying3 h4
  injection e0 with e0; injection e1 with e1; injection e2 with e2; injection e3 with e3; injection e4 with e4
  subst e0 e1 e2 e3 e4
  exact ⟨⟨z0, z1, z2, z3, z4⟩, rfl⟩
theorem opens_tens : Opens enc W 58 1 RTens := opens_slice Tryz.underlying58 (by kernel_rfl) (by omega) opens_ten
/-- with the number of elements of what is read -/
theorem trod_tens {a : Option Addr} {len cap : Nat} {d : DataW H} {p : List MemPlace} (h : DataW.Trod enc Tryz.prog W 0 (fun _ => true) true 58 (.slice a len cap) d p) : ∃ l : List Ten, len = l.length ∧ RTens W (Old W) [.slice a l.length cap] l ∧ (l = [] ∨ ∃ es sp, d = .slice es sp ∧ es.length = l.length) := by
  obtain ⟨fuel, hf⟩ := h
  obtain ⟨_, l, hl⟩ := opens_tens fuel _ _ hf
  have e : (Value.slice a len cap).cells.toList = [.slice a len cap] := rfl
  rw [e] at hl
  have := hl.len; subst this
  refine ⟨l, rfl, hl, ?_⟩
  rcases Go.Deep.open_slice Tryz.underlying58 hf with ⟨h1, _⟩ | ⟨_, len, _, m, _, D, _, h1, _, _, _, _, h2, _⟩
  · rw [e] at h1
    injection h1 with h1
    injection h1 with _ h1 _
    exact .inl (List.eq_nil_of_length_eq_zero h1)
  · rw [e] at h1
    injection h1 with h1
    injection h1 with _ h1 _
    right
    injection h2 with h2 _
    exact ⟨_, _, h2, by simp [h1]⟩
end
end Go.Proofs.YtcbcegdidlefiaaGreat
