/- Contracts of the graph's ready and of what it calls. Conditions: as each theorem says. -/
import Derived.Test.YtigmldildefdgaaGraphD
import Derived.Test.YtigmldildefdgaaLineP
namespace Go.Proofs.Ytigmldildefdgaa
open Go.RowKit

abbrev RBools := RSlice 1 RBool
theorem RBools.ok : Rd.Ok RBools := RSlice.ok RBool.ok
theorem RBools.at_ {w : World} {S : Foot} {A : Option Addr} {n c : Nat} {l : List Bool} (h : RBools w S [.slice A n c] l) {k : Nat} (hk : k < l.length) :
    ∃ b o x, A = some ⟨b, o, none⟩ ∧ S b ∧ l[k]? = some x ∧ w.cell? ⟨b, o + k, none⟩ = some (.bool x) := by
  obtain ⟨b, o, x, es, rfl, hb, hx, h1, h2, h3⟩ := h.get hk
  refine ⟨b, o, x, rfl, hb, hx, ?_⟩
  cases h2
  simpa using h3 0 _ rfl
theorem Blk.bools {w : World} {S : Foot} {b : Nat} {t : TypeId} {l : List Bool} (hb : Blk w b t (cellsB' l)) (hS : S b) (hl : l.length ≤ 9223372036854775807) : RBools w S [.slice (some ⟨b, 0, none⟩) l.length l.length] l := by
  refine RSlice.ofBlk hb hS (l.map fun x => [.bool x]) l ?_ ?_ hl
  · clear hb hl hS
    unfold cellsB'
    induction l with
    | nil => rfl
    | cons a l ih => simp only [List.map_cons, List.flatten_cons, List.singleton_append] at ih ⊢; rw [← ih]
  · clear hb hl hS
    induction l with
    | nil => trivial
    | cons a l ih => exact ⟨⟨rfl, rfl⟩, ih⟩
def notDone (dl : List Bool) (a : GArc) : Bool := !((dl[a.frm.toNat]?).getD false)
theorem ready1_any (dl : List Bool) (a : GArc) (cb : Nat) (A : Option Addr) (c : Nat) (w : World) (hb : w.cell? ⟨cb, 0, none⟩ = some (.slice A dl.length c)) (h : RBools w (Old w) [.slice A dl.length c] dl) (i : Nat) (hi : a.frm = (i : Int)) (hil : i < dl.length) :
    Calls Try.prog 112 #[.agg #[.int .i64 a.frm, .int .i64 a.wt], .pointer (some ⟨cb, 0, none⟩)] w fun e w' => e = .returned (.bool (notDone dl a)) ∧ KeepsAll w w' := by
  obtain ⟨frm, wt⟩ := a
  simp only [] at hi; subst hi
  have hc := h.caps
  obtain ⟨b, o, x, rfl, hb', hx, h1⟩ := h.at_ hil
  have HQ : Hid (notDone dl ⟨(i : Int), wt⟩ = !x) := by show notDone dl _ = _; simp [notDone, hx]
  have hbw : b < w.heap.size := hb'
  have hcb : cb < w.heap.size := World.block_lt_of_cell? w ⟨cb, 0, none⟩ hb
  clear h hx
  cases x
  all_goals
    go_enter Try.func112, Try.ntmps112
    go_wp2
    go_ret
    exact ⟨by rw [HQ.out]; rfl, (Keeps.refl _ _).alloc _⟩

/-- the first element that answers yes, or -1 -/
def idxF {α : Type} (pr : α → Bool) (l : List α) : Int := match l.findIdx? pr with | some i => (i : Int) | none => -1
theorem idxF_stop {α : Type} {pr : α → Bool} {l : List α} {k : Nat} {x : α} (hx : l[k]? = some x) (h1 : pr x = true) (hn : ∀ y ∈ l.take k, pr y = false) : idxF pr l = k := by
  have hk := getElem?_lt hx
  have : l.findIdx? pr = some k := by
    rw [List.findIdx?_eq_some_iff_getElem]
    refine ⟨hk, ?_, fun j hj => ?_⟩
    · rw [List.getElem?_eq_getElem hk] at hx; injection hx with hx; rw [hx]; exact h1
    · have : l[j] ∈ l.take k := List.mem_take_iff_getElem.2 ⟨j, by omega, rfl⟩
      simp [hn _ this]
  simp [idxF, this]
theorem idxF_none {α : Type} {pr : α → Bool} {l : List α} (hn : ∀ y ∈ l, pr y = false) : idxF pr l = -1 := by
  have : l.findIdx? pr = none := by rw [List.findIdx?_eq_none_iff]; exact hn
  simp [idxF, this]
theorem idxF_ge {α : Type} (pr : α → Bool) (l : List α) : decide (idxF pr l ≥ 0) = l.any pr := by
  cases h : l.any pr with
  | true =>
    obtain ⟨x, hx, hp⟩ := List.any_eq_true.1 h
    unfold idxF
    cases e : l.findIdx? pr with
    | none => rw [List.findIdx?_eq_none_iff] at e; simp [e x hx] at hp
    | some i => simp
  | false =>
    rw [idxF_none (fun y hy => by simpa using (List.any_eq_false.1 h) y hy)]; rfl
/-- a call of F enters F -/
def Enters (F : Nat) : Prop := ∀ (args : Array Value) (w : World), (callFunc F args).run Try.prog w = .ok (.enter F args) w
theorem enters_ready1 : Enters 112 := fun _ _ => by kernel_rfl
/-- a closure that tests an arc -/
def TestsArc (F cb : Nat) (w : World) (l : List GArc) (pr : GArc → Bool) : Prop := ∀ a ∈ l, ∀ W, KeepsAll w W → Calls Try.prog F #[.agg #[.int .i64 a.frm, .int .i64 a.wt], .pointer (some ⟨cb, 0, none⟩)] W fun e w' => e = .returned (.bool (pr a)) ∧ KeepsAll W w'

set_option maxRecDepth 100000 in
set_option maxHeartbeats 1000000 in
theorem IndexFunc_any (F cb : Nat) (l : List GArc) (pr : GArc → Bool) (A : Option Addr) (c : Nat) (w : World) (h : RArcs w (Old w) [.slice A l.length c] l) (hE : Enters F) (hF : TestsArc F cb w l pr) :
    Calls Try.prog 74 #[.slice A l.length c, .func (.func F) #[] #[.pointer (some ⟨cb, 0, none⟩)]] w fun e w' => e = .returned (.int .i64 (idxF pr l)) ∧ KeepsAll w w' := by
  have hc := h.caps
  have H := Lib.hid h; clear h
  have HF := Lib.hid hF; clear hF
  have hcf : ∀ (args : Array Value) (w : World), (callFunc F args).run Try.prog w = .ok (.enter F args) w := hE
  clear hE
  go_enter Try.func74, Try.ntmps74
  go_wp2
  go_loopw [8] (fun i wr => ∃ k : Nat, k ≤ l.length ∧ i = .int .i64 k ∧ (∀ y ∈ l.take k, pr y = false) ∧ KeepsAll w wr) (fun i _ => l.length - (intOf i).toNat)
  case atStart => exact ⟨0, Nat.zero_le _, rfl, by simp, Keeps.refl _ _⟩
  case round =>
    obtain ⟨k, hk, rfl, hno, hkr⟩ := hrel
    have HNO := Lib.hid hno; clear hno
    have KR := Lib.hid hkr; clear hkr
    by_cases hlt : k < l.length
    · obtain ⟨b, o, a, rfl, hb, ha, m0, m1⟩ := RArcs.atK KR.out H.out hlt
      have HC := Lib.hid (HF.out a (List.mem_of_getElem? ha) wr KR.out)
      have HAA := Lib.hid ha; clear ha
      go_wp2_with fail
      refine HC.out.mono ?_
      rintro e w2 ⟨rfl, hk2⟩
      have K2 := Lib.hid (KR.out.tr hk2); clear hk2
      by_cases g : pr a = true
      · have Q := Lib.hid (idxF_stop HAA.out g HNO.out)
        rw [g]; clear g
        go_wp2
        go_ret
        exact ⟨by rw [Q.out]; rfl, K2.out⟩
      · have g' : pr a = false := by simpa using g
        have Q : Hid (∀ y ∈ l.take (k + 1), pr y = false) := fun y hy => by
          rw [List.take_add_one, HAA.out] at hy; simp at hy
          rcases hy with hy | rfl
          · exact HNO.out y hy
          · exact g'
        rw [g']; clear g g'
        go_wp2
        go_roundw
        case rel => exact ⟨k + 1, by omega, by go_num, Q.out, K2.out⟩
        case measure => simp [intOf]; omega
    · obtain rfl : k = l.length := by omega
      have Q : Hid (idxF pr l = -1) := by
        have := HNO.out; rw [List.take_length] at this
        exact idxF_none this
      go_wp2
      go_ret
      exact ⟨by rw [Q.out]; rfl, KR.out⟩
theorem ContainsFunc_any (F cb : Nat) (l : List GArc) (pr : GArc → Bool) (A : Option Addr) (c : Nat) (w : World) (h : RArcs w (Old w) [.slice A l.length c] l) (hE : Enters F) (hF : TestsArc F cb w l pr) :
    Calls Try.prog 111 #[.slice A l.length c, .func (.func F) #[] #[.pointer (some ⟨cb, 0, none⟩)]] w fun e w' => e = .returned (.bool (l.any pr)) ∧ KeepsAll w w' := by
  have Q := Lib.hid (idxF_ge pr l)
  have I := Lib.hid (IndexFunc_any F cb l pr A c w h hE hF)
  clear h hF hE
  go_enter Try.func111, Try.ntmps111
  go_wp2_with fail
  refine I.out.mono ?_
  rintro e w' ⟨rfl, hk⟩
  go_wp2
  go_ret
  exact ⟨by rw [← Q.out]; rfl, hk⟩

end Go.Proofs.Ytigmldildefdgaa
