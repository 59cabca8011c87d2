/- Contracts of the reference's Over and Left. Conditions: as each theorem says. -/
import Derived.Test.YtcbpiidbkjaneaaGreatSameR
import Derived.Test.YtcbpiidbkjaneaaGreatSortA
import Derived.Test.YtcbpiidbkjaneaaGreatEnt
import Derived.Test.YtcbpiidbkjaneaaGreatMadeV
namespace Go.Proofs.YtcbpiidbkjaneaaGreat
open Go.RowKit

theorem Uses_ext {W : World} (x : Ext W) (s : Stage) (r : Int) (Ap : Option Addr) (cp : Nat) (h : RInts W (Old W) [.slice Ap s.pts.length cp] s.pts) :
    Calls Tryz.prog 66 #[.agg (stC s Ap cp), .int .i64 r] x.val fun e w'' => e = .returned (.tuple #[.bool (decide (r ∈ stUses s)), .bool (s.sec == r)]) ∧ ∃ y : Ext W, w'' = y.val :=
  ext_call x (Uses_any s r Ap cp x.val (x.keeps.rdo' RInts.ok h))
/-- a use is over -/
def overB (ps : List (List Stage)) (now : List Int) (u : Ref) (r : Int) : Bool := decide ((relOf ps r u).st ≤ nowAt now u.tr.toNat)
set_option maxRecDepth 100000 in
set_option maxHeartbeats 1000000 in
theorem Over_any (ps : List (List Stage)) (now : List Int) (r : Int) (A A2 : Option Addr) (c c2 : Nat) (w : World) (h : RPaths w (Old w) [.slice A ps.length c] ps) (h2 : RInts w (Old w) [.slice A2 now.length c2] now) (t k : Nat) (p : List Stage) (s : Stage) (x : Int) (hp : ps[t]? = some p) (hs : p[k]? = some s) (hx : now[t]? = some x) :
    Calls Tryz.prog 46 #[.slice A ps.length c, .slice A2 now.length c2, .agg #[.int .i64 (t : Int), .int .i64 (k : Int)], .int .i64 r] w fun e w' => e = .returned (.bool (overB ps now ⟨(t : Int), (k : Int)⟩ r)) ∧ KeepsAll w w' := by
  have hc := h.caps
  have hc2 := h2.caps
  have HQ : Hid (overB ps now ⟨(t : Int), (k : Int)⟩ r = if s.sec = r then decide (x > (k : Int)) else decide (x ≥ (k : Int))) := by
    show overB _ _ _ _ = _
    unfold overB relOf secOf
    simp only [Int.toNat_natCast, hp, hs, Option.getD_some, Option.elim_some, nowAt_of hx]
    split
    · show decide ((k : Int) + 1 ≤ x) = _
      rw [decide_eq_decide]; constructor <;> intro h <;> omega
    · rfl
  have ht := getElem?_lt hp
  have hkl := getElem?_lt hs
  have htx := getElem?_lt hx
  obtain ⟨b, o, p', A', c', hbo, hb, hp', k1, hr⟩ := RSS.at_ h ht
  subst hbo
  obtain rfl := same_of hp' hp
  have hcp := hr.caps
  obtain ⟨b2, o2, s', As, cs, hbo, hb2, hs', m0, m1, m2, m3, hpts⟩ := RPath.at_ hr hkl
  subst hbo
  obtain rfl := same_of hs' hs
  obtain ⟨b3, o3, x', hbo, hb3, hx', q0⟩ := h2.at_ htx
  subst hbo
  obtain rfl := same_of hx' hx
  have HPTS := Lib.hid hpts
  clear h h2 hr hp hp' hs hs' hx hx' hpts
  go_enter Tryz.func46, Tryz.ntmps46
  go_wp2
  generalize hW : World.alloc w _ = W
  have KW : KeepsAll w W := by subst hW; exact (Keeps.refl _ _).alloc _
  have BX : Blk W w.heap.size 69 #[.int .i64 (t : Int), .int .i64 (k : Int)] := by subst hW; exact Blk.new _ _ _
  have e0 := BX.cell 0
  have e1 := BX.cell 1
  simp at e0 e1
  have hz := BX.lt
  replace k1 := KW.cellK (p := ⟨b, o + t, none⟩) hb k1
  replace m0 := KW.cellK (p := ⟨b2, o2 + k * 4, none⟩) hb2 m0
  replace m1 := KW.cellK (p := ⟨b2, o2 + k * 4 + 1, none⟩) hb2 m1
  replace m2 := KW.cellK (p := ⟨b2, o2 + k * 4 + 2, none⟩) hb2 m2
  replace m3 := KW.cellK (p := ⟨b2, o2 + k * 4 + 3, none⟩) hb2 m3
  replace q0 := KW.cellK (p := ⟨b3, o3 + t, none⟩) hb3 q0
  have HP2 := Lib.hid (KW.rdo' RInts.ok HPTS.out)
  have KW' := Lib.hid KW
  clear hW KW BX HPTS
  refine wp_region_ext (by kernel_rfl) (by kernel_rfl) ?_
  have y0 := Ext.cell e0
  have y1 := Ext.cell e1
  have y2 := Ext.cell k1
  have z0 := Ext.cell m0
  have z1 := Ext.cell m1
  have z2 := Ext.cell m2
  have z3 := Ext.cell m3
  have z4 := Ext.cell q0
  repeat (go_big_quiet_step ((go_at_call 66; exact Uses_ext _ s' r As cs HP2.out)))
  refine wpQuiet_nil ?_
  rintro _ ⟨X, rfl⟩
  have f0 := y0 X
  have f1 := y1 X
  have f2 := z4 X
  have KX := Lib.hid (KW'.out.tr X.keeps)
  clear y0 y1 y2 z0 z1 z2 z3 z4 e0 e1 k1 m0 m1 m2 m3 q0
  generalize X.val = WX at *
  by_cases g : s'.sec = r
  · have g' : (s'.sec == r) = true := by simpa using g
    have Q : Hid (overB ps now ⟨(t : Int), (k : Int)⟩ r = decide (x' > (k : Int))) := by show _ = _; rw [HQ.out, if_pos g]
    rw [g']
    clear g g' HQ
    go_wp2
    go_quiet (fail)
    go_wp2
    go_ret
    exact ⟨by rw [Q.out]; rfl, KX.out.drewN _⟩
  · have g' : (s'.sec == r) = false := by simpa using g
    have Q : Hid (overB ps now ⟨(t : Int), (k : Int)⟩ r = decide (x' ≥ (k : Int))) := by show _ = _; rw [HQ.out, if_neg g]
    rw [g']
    clear g g' HQ
    go_wp2
    go_quiet (fail)
    go_wp2
    go_ret
    exact ⟨by rw [Q.out]; rfl, KX.out.drewN _⟩

def leftB (ps : List (List Stage)) (now : List Int) : Bool := (List.range ps.length).all fun t => !decide (nowAt now t < lenAt ps t)
set_option maxHeartbeats 400000 in
theorem Left_any (ps : List (List Stage)) (now : List Int) (A A2 : Option Addr) (c c2 : Nat) (w : World) (h : RPaths w (Old w) [.slice A ps.length c] ps) (h2 : RInts w (Old w) [.slice A2 now.length c2] now) (hl : now.length = ps.length) :
    Calls Tryz.prog 96 #[.slice A ps.length c, .slice A2 now.length c2] w fun e w' => e = .returned (.bool (leftB ps now)) ∧ ∃ n, w' = w.drewN n := by
  have hc := h.caps
  have hc2 := h2.caps
  have l1 : now.length ≤ ps.length := by omega
  have l2 : ps.length ≤ now.length := by omega
  clear hl
  have H := Lib.hid h; clear h
  have H2 := Lib.hid h2; clear h2
  go_enter Tryz.func96, Tryz.ntmps96
  go_wp2
  go_loopw [8] (fun i wr => ∃ t n : Nat, t ≤ ps.length ∧ i = .int .i64 t ∧ wr = w.drewN n ∧ ∀ u, u < t → (lenAt ps u : Int) ≤ nowAt now u) (fun i _ => ps.length - (intOf i).toNat)
  case atStart => exact ⟨0, 0, Nat.zero_le _, rfl, rfl, fun u hu => by omega⟩
  case round =>
    obtain ⟨t, n, ht, rfl, rfl, hall⟩ := hrel
    have HALL := Lib.hid hall; clear hall
    by_cases hlt : t < ps.length
    · obtain ⟨b, o, p, A', c', hbo, hb, hp, k1, hr⟩ := RSS.at_ H.out hlt
      subst hbo
      have hcp := hr.caps
      obtain ⟨b3, o3, x, hbo, hb3, hx, q0⟩ := H2.out.at_ (k := t) (by omega)
      subst hbo
      have en := nowAt_of hx
      have el := lenAt_of hp
      clear hr
      by_cases g : x < p.length
      · have g' : decide (x < (p.length : Int)) = true := by simpa using g
        have Q : Hid (leftB ps now = false) := by
          show leftB ps now = false
          unfold leftB
          rw [List.all_eq_false]
          exact ⟨t, List.mem_range.2 hlt, by rw [en, el]; simpa using g⟩
        clear hx hp en el g
        go_wp2
        go_quiet (fail)
        go_wp2
        go_ret
        exact ⟨by rw [Q.out]; rfl, _, drewNN _ _ _⟩
      · have g' : decide (x < (p.length : Int)) = false := by simpa using g
        have Q : Hid (∀ u, u < t + 1 → (lenAt ps u : Int) ≤ nowAt now u) := fun u hu => by
          by_cases e : u = t
          · subst e; rw [en, el]; omega
          · exact HALL.out u (by omega)
        clear hx hp en el g
        go_wp2
        go_quiet (fail)
        go_wp2
        go_roundw
        case rel => exact ⟨t + 1, _, by omega, by go_num, rfl, Q.out⟩
        case measure => simp [intOf]; omega
    · obtain rfl : t = ps.length := by omega
      have Q : Hid (leftB ps now = true) := by
        show leftB ps now = true
        unfold leftB
        rw [List.all_eq_true]
        intro u hu
        have := HALL.out u (List.mem_range.1 hu)
        simpa using this
      go_wp2
      go_ret
      exact ⟨by rw [Q.out]; rfl, _, rfl⟩

end Go.Proofs.YtcbpiidbkjaneaaGreat
