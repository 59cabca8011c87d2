/- Contract of precedence.proper. Conditions: as the theorem says. -/
import Derived.Test.YtbfgmbakeofcbaaGreatK18
namespace Go.Proofs.YtbfgmbakeofcbaaGreat
open Go.RowKit

theorem uses_ext {W : World} (x : Ext W) (s : Stage) (r : Int) (Ap : Option Addr) (cp : Nat) (h : RInts W (Old W) [.slice Ap s.pts.length cp] s.pts) :
    Calls Tryz.prog 75 #[.agg (stC s Ap cp), .int .i64 r] x.val fun e w'' => e = .returned (.bool (decide (r ∈ stUses s))) ∧ ∃ y : Ext W, w'' = y.val :=
  ext_call x (uses_any s r Ap cp x.val (x.keeps.rdo' RInts.ok h))

structure PrInv (w wr : World) (o : Order) (Au : Option Addr) (cu : Nat) (last : List Int) : Prop where
  b0 : Blk wr w.heap.size 66 #[.int .i64 o.res, .slice Au o.uses.length cu]
  b1 : Blk wr (w.heap.size + 1) 3 (cellsI last)
  k : KeepsAll w wr
theorem PrInv.keep {w wr w' : World} {o : Order} {Au : Option Addr} {cu : Nat} {last : List Int} (h : PrInv w wr o Au cu last) (k : KeepsAll wr w') : PrInv w w' o Au cu last :=
  ⟨h.b0.kept k (by simp), h.b1.kept k (by simp), h.k.tr k⟩
theorem PrInv.set_ {w wr : World} {o : Order} {Au : Option Addr} {cu : Nat} {last : List Int} (h : PrInv w wr o Au cu last) (n : Nat) (x : Int) : PrInv w (wr.setCell ⟨w.heap.size + 1, n, none⟩ (.int .i64 x)) o Au cu (last.set n x) :=
  ⟨h.b0.far (by simp) _, by rw [← cellsI_set]; exact h.b1.set_ n _, h.k.setCell (by simp) _⟩
def PrSt (ps : List (List Stage)) (o : Order) (j : Nat) (last : List Int) : Prop := last.length = ps.length ∧ (∀ x ∈ last, -1 ≤ x) ∧ properB ps o = properFrom ps o.res (o.uses.drop j) last
theorem PrSt.bad {ps : List (List Stage)} {o : Order} {j : Nat} {last : List Int} {u : Ref} (h : PrSt ps o j last) (hu : o.uses[j]? = some u) (hf : useFits ps o.res last u = false) : properB ps o = false := by
  rw [h.2.2, drop_cons' hu, properFrom, hf]; rfl
theorem PrSt.step {ps : List (List Stage)} {o : Order} {j : Nat} {last : List Int} {u : Ref} (h : PrSt ps o j last) (hu : o.uses[j]? = some u) (hf : useFits ps o.res last u = true) : PrSt ps o (j + 1) (last.set u.tr.toNat u.st) := by
  have hs := ((useFits_iff h.1 h.2.1 u).1 hf).1
  obtain ⟨t, k, _, _, _, _, _, rfl⟩ := mem_allU.1 hs
  refine ⟨by simpa using h.1, fun x hx => ?_, ?_⟩
  · rcases List.mem_or_eq_of_mem_set hx with h' | rfl
    · exact h.2.1 x h'
    · show (-1 : Int) ≤ (k : Int); omega
  · rw [h.2.2, drop_cons' hu, properFrom, hf]; rfl

set_option maxRecDepth 100000 in
set_option maxHeartbeats 1000000 in
theorem proper_any (ps : List (List Stage)) (o : Order) (A Au : Option Addr) (c cu : Nat) (w : World) (hl : ps.length ≤ 1000) (h : RPaths w (Old w) [.slice A ps.length c] ps) (h2 : RRefs w (Old w) [.slice Au o.uses.length cu] o.uses) :
    Calls Tryz.prog 52 #[.slice A ps.length c, .agg #[.int .i64 o.res, .slice Au o.uses.length cu]] w fun e w' => e = .returned (.bool (properB ps o)) ∧ KeepsAll w w' := by
  have hc := h.caps
  have hc2 := h2.caps
  have H := Lib.hid h; clear h
  have H2 := Lib.hid h2; clear h2
  have hmk := mkInts ps.length (by omega)
  go_enter Tryz.func52, Tryz.ntmps52
  go_wp2
  generalize hW : World.alloc (World.alloc w _) _ = W
  have HI : Hid (PrInv w W o Au cu (List.replicate 0 (-1) ++ List.replicate (ps.length - 0) 0)) := by
    subst hW
    exact ⟨(Blk.new _ _ _).alloc _, by simpa using Blk.new' _ _ _ (by simp), ((Keeps.refl _ _).alloc _).alloc _⟩
  clear hW hmk
  go_loopw [14] (fun i wr => ∃ k : Nat, k ≤ ps.length ∧ i = .int .i64 k ∧ PrInv w wr o Au cu (List.replicate k (-1) ++ List.replicate (ps.length - k) 0)) (fun i _ => ps.length - (intOf i).toNat)
  case atStart => exact ⟨0, Nat.zero_le _, rfl, HI.out⟩
  case round =>
    obtain ⟨k, hk, rfl, hi⟩ := hrel
    clear HI
    by_cases hlt : k < ps.length
    · have q0 := hi.b1.cell k
      have q1 := hi.b1.frozen k
      have qz := hi.b1.lt
      have e : (List.replicate k (-1) ++ List.replicate (ps.length - k) (0 : Int))[k]? = some 0 := by
        rw [List.getElem?_append_right (by simp), List.length_replicate, Nat.sub_self, List.getElem?_replicate, if_pos (by omega)]
      rw [cellsI_at e] at q0
      have HN : Hid (PrInv w (wr.setCell ⟨w.heap.size + 1, k, none⟩ (.int .i64 (-1))) o Au cu (List.replicate (k + 1) (-1) ++ List.replicate (ps.length - (k + 1)) 0)) := by
        have := hi.set_ k (-1)
        have e2 : (List.replicate k (-1) ++ List.replicate (ps.length - k) (0 : Int)).set k (-1) = List.replicate (k + 1) (-1) ++ List.replicate (ps.length - (k + 1)) 0 := by
          rw [List.set_append_right _ _ (by simp), List.length_replicate, Nat.sub_self, show ps.length - k = (ps.length - (k + 1)) + 1 from by omega, List.replicate_succ, List.set_cons_zero, List.replicate_succ', List.append_assoc]; rfl
        rw [e2] at this; exact this
      clear hi e
      go_wp2
      go_roundw
      case rel => exact ⟨k + 1, by omega, by go_num, HN.out⟩
      case measure => simp [intOf]; omega
    · obtain rfl : k = ps.length := by omega
      have e : List.replicate ps.length (-1) ++ List.replicate (ps.length - ps.length) (0 : Int) = List.replicate ps.length (-1) := by simp
      rw [e] at hi
      clear e
      have q0 := hi.b0.cell 0
      have q1 := hi.b0.cell 1
      simp at q0 q1
      have HI := Lib.hid hi; clear hi
      have HS : Hid (PrSt ps o 0 (List.replicate ps.length (-1))) := ⟨by simp, by intro x hx; simp at hx; omega, rfl⟩
      generalize List.replicate ps.length (-1 : Int) = last0 at HI HS
      go_wp2
      clear q0 q1
      go_loopw [24] (fun i wr => ∃ (j : Nat) (last : List Int), j ≤ o.uses.length ∧ i = .int .i64 j ∧ PrInv w wr o Au cu last ∧ PrSt ps o j last) (fun i _ => o.uses.length - (intOf i).toNat)
      case atStart => exact ⟨0, last0, Nat.zero_le _, rfl, HI.out, HS.out⟩
      case round =>
        obtain ⟨j, last, hj, rfl, hi, hst⟩ := hrel
        clear HI HS
        have HST := Lib.hid hst
        have hll := hst.1
        have hll1 : last.length ≤ ps.length := by omega
        have hll2 : ps.length ≤ last.length := by omega
        clear hst hll
        by_cases hlt : j < o.uses.length
        · obtain ⟨bu, ou, u, rfl, hbu, hu, n0, n1⟩ := RRefs.atK hi.k H2.out hlt
          have HU := Lib.hid hu; clear hu
          have HBAD : Hid (useFits ps o.res last u = false → properB ps o = false) := fun hf => HST.out.bad HU.out hf
          go_wp2
          generalize hW2 : World.alloc wr _ = W2
          have B2 : Blk W2 wr.heap.size 69 #[.int .i64 u.tr, .int .i64 u.st] := by subst hW2; exact Blk.new _ _ _
          have hi2 : PrInv w W2 o (some ⟨bu, ou, none⟩) cu last := by subst hW2; exact hi.keep ((Keeps.refl _ _).alloc _)
          have e0 := B2.cell 0
          have e1 := B2.cell 1
          simp at e0 e1
          have hz2 := B2.lt
          have hzw := hi2.b1.lt
          clear hW2 hi n0 n1 B2
          have HI2 := Lib.hid hi2; clear hi2
          by_cases g1 : u.tr < 0
          · have g1' : decide (u.tr < 0) = true := by simpa using g1
            have Q := Lib.hid (HBAD.out (by simp [useFits]; omega))
            go_quiet (fail)
            go_wp2
            go_ret
            exact ⟨by rw [Q.out]; rfl, HI2.out.k.drewN _⟩
          have g1' : decide (u.tr < 0) = false := by simpa using g1
          by_cases g2 : (ps.length : Int) ≤ u.tr
          · have g2' : decide (u.tr ≥ (ps.length : Int)) = true := by simpa using g2
            have Q := Lib.hid (HBAD.out (by simp [useFits]; omega))
            go_quiet (fail)
            go_wp2
            go_ret
            exact ⟨by rw [Q.out]; rfl, HI2.out.k.drewN _⟩
          have g2' : decide (u.tr ≥ (ps.length : Int)) = false := by simpa using g2
          obtain ⟨t, ht⟩ := Int.eq_ofNat_of_zero_le (by omega : 0 ≤ u.tr)
          have htl : t < ps.length := by omega
          have hx : last[t]? = some (last[t]'(by omega)) := List.getElem?_eq_getElem (by omega)
          have hx1 := HST.out.2.1 _ (List.mem_of_getElem? hx)
          generalize last[t]'(by omega) = x at hx hx1
          have q0 := HI2.out.b1.cell t
          rw [cellsI_at hx] at q0
          have q1 := HI2.out.b1.frozen t
          obtain ⟨b, ob, p, A', c', rfl, hb, hp, k1, hr⟩ := RSS.atK HI2.out.k H.out htl
          have hcp := hr.caps
          have HR := Lib.hid hr; clear hr
          have HF : Hid (useFits ps o.res last u = (decide (x < u.st) && decide (u.st < p.length) && decide (o.res ∈ (p[u.st.toNat]?).elim [] stUses))) := by
            show useFits ps o.res last u = _
            unfold useFits
            rw [ht]
            simp only [Int.toNat_natCast, hx, hp, Option.getD_some]
            rw [decide_eq_true (by omega : (0 : Int) ≤ (t : Int)), decide_eq_true (by omega : (t : Int) < (ps.length : Int))]
            simp
          have HT := Lib.hid ht; have HX := Lib.hid hx; have HP := Lib.hid hp
          rw [ht] at e0 g1'
          clear ht hx hp g1 g2 g2'
          have g2n : decide (ps.length ≤ t) = false := by simp; omega
          by_cases g3 : u.st ≤ x
          · have g3' : decide (u.st ≤ x) = true := by simpa using g3
            have Q := Lib.hid (HBAD.out (by rw [HF.out]; simp; omega))
            go_quiet (fail)
            go_wp2
            go_ret
            exact ⟨by rw [Q.out]; rfl, HI2.out.k.drewN _⟩
          have g3' : decide (u.st ≤ x) = false := by simpa using g3
          by_cases g4 : (p.length : Int) ≤ u.st
          · have g4' : decide (u.st ≥ (p.length : Int)) = true := by simpa using g4
            have Q := Lib.hid (HBAD.out (by rw [HF.out]; simp; omega))
            go_quiet (fail)
            go_wp2
            go_ret
            exact ⟨by rw [Q.out]; rfl, HI2.out.k.drewN _⟩
          obtain ⟨k, hk⟩ := Int.eq_ofNat_of_zero_le (by omega : 0 ≤ u.st)
          have hkl : k < p.length := by omega
          have g4n : decide (p.length ≤ k) = false := by simp; omega
          obtain ⟨b4, o4, s, A4, c4, rfl, hb4, hs, m0, m1, m2, m3, hpts⟩ := RPath.atK HI2.out.k HR.out hkl
          have HFT : Hid (useFits ps o.res last u = decide (o.res ∈ stUses s)) := by
            show useFits ps o.res last u = _
            rw [HF.out, hk]
            simp only [Int.toNat_natCast, hs, Option.elim_some]
            rw [decide_eq_true (by omega : x < (k : Int)), decide_eq_true (by omega : (k : Int) < (p.length : Int))]
            simp
          rw [hk] at e1 g3'
          have HK := Lib.hid hk
          have HPT := Lib.hid hpts
          have e1' := e1
          clear hk hs hpts g3 g4 HF
          go_quiet (fail)
          go_wp2
          generalize hW3 : World.drewN W2 _ = W3
          have HI3 : Hid (PrInv w W3 o (some ⟨bu, ou, none⟩) cu last) := by subst hW3; exact HI2.out.keep ((Keeps.refl _ _).drewN _)
          have KW3 : KeepsAll W2 W3 := by subst hW3; exact (Keeps.refl _ _).drewN _
          replace e0 := KW3.cellK (p := ⟨wr.heap.size, 0, none⟩) hz2 e0
          replace e1 := KW3.cellK (p := ⟨wr.heap.size, 1, none⟩) hz2 e1
          replace k1 := KW3.cellK (p := ⟨b, ob + t, none⟩) hb k1
          replace m0 := KW3.cellK (p := ⟨b4, o4 + k * 4, none⟩) hb4 m0
          replace m1 := KW3.cellK (p := ⟨b4, o4 + k * 4 + 1, none⟩) hb4 m1
          replace m2 := KW3.cellK (p := ⟨b4, o4 + k * 4 + 2, none⟩) hb4 m2
          replace m3 := KW3.cellK (p := ⟨b4, o4 + k * 4 + 3, none⟩) hb4 m3
          have r0 := HI3.out.b0.cell 0
          simp at r0
          have HPT3 := Lib.hid (HI3.out.k.rdo' RInts.ok HPT.out)
          clear hW3 HI2 q0 q1 e1' HPT KW3 g1' g2n g3' g4n
          refine wp_region_ext (by kernel_rfl) (by kernel_rfl) ?_
          have x0 := Ext.cell e0
          have x1 := Ext.cell e1
          have y1 := Ext.cell k1
          have z0 := Ext.cell m0
          have z1 := Ext.cell m1
          have z2 := Ext.cell m2
          have z3 := Ext.cell m3
          have z4 := Ext.cell r0
          by_cases g5 : o.res ∈ stUses s
          · have g5' : decide (o.res ∈ stUses s) = true := by simpa using g5
            have FT : Hid (PrSt ps o (j + 1) (last.set t (k : Int))) := by
              have := HST.out.step HU.out (by rw [HFT.out]; exact g5')
              rw [HT.out, HK.out, Int.toNat_natCast] at this; exact this
            clear g5 HFT HST
            repeat (go_big_quiet_step ((go_at_call 75; exact uses_ext _ s o.res A4 c4 HPT3.out)))
            refine wpQuiet_nil ?_
            rintro _ ⟨X, rfl⟩
            have x0 := x0 X
            have x1 := x1 X
            have HI4 := HI3.out.keep X.keeps
            have hz4 := X.keeps.size
            clear y1 z0 z1 z2 z3 z4 e0 e1 k1 m0 m1 m2 m3 r0
            generalize X.val = W4 at *
            have q0 := HI4.b1.cell t
            rw [cellsI_at HX.out] at q0
            have q1 := HI4.b1.frozen t
            have hw4 := HI4.b1.lt
            have HI5 := Lib.hid (HI4.set_ t (k : Int))
            clear HI4
            go_wp2
            go_roundw
            case rel => exact ⟨j + 1, last.set t (k : Int), by omega, by go_num, HI5.out, FT.out⟩
            case measure => simp [intOf]; omega
          · have g5' : decide (o.res ∈ stUses s) = false := by simpa using g5
            have Q := Lib.hid (HBAD.out (by rw [HFT.out]; exact g5'))
            clear g5 HFT
            repeat (go_big_quiet_step ((go_at_call 75; exact uses_ext _ s o.res A4 c4 HPT3.out)))
            refine wpQuiet_nil ?_
            rintro _ ⟨X, rfl⟩
            go_wp2
            go_ret
            exact ⟨by rw [Q.out]; rfl, HI3.out.k.tr X.keeps⟩
        · obtain rfl : j = o.uses.length := by omega
          have Q : Hid (properB ps o = true) := by
            show properB ps o = true
            rw [HST.out.2.2, List.drop_length]; rfl
          go_wp2
          go_ret
          exact ⟨by rw [Q.out]; rfl, hi.k⟩

end Go.Proofs.YtbfgmbakeofcbaaGreat
