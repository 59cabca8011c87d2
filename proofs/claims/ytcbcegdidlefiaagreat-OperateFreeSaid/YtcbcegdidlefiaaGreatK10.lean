/- Contract of operate.Free's comparison. Conditions: as each theorem says. Rows of elements of several cells: copying, making; contract of slices.Repeat at one cell of a run. Conditions: as each theorem says. Contract of slices.Clone at tenures. Conditions: as the theorem says. Small tenures: a table of who holds what in each second answers as freeL does. No program in sight. A row of a table of three, by value. No condition. -/
import Derived.Test.YtcbcegdidlefiaaGreatK06
import Derived.Test.YtcbcegdidlefiaaGreatK09
import Derived.Test.YtcbcegdidlefiaaGreatK08
import Derived.Test.YtcbcegdidlefiaaGreatProg
import Derived.Test.YtcbcegdidlefiaaGreatK01
import Derived.Deep.MidRow
namespace Go.Proofs.YtcbcegdidlefiaaGreat
open Go.RowKit

def orJ (a b : Int) : Int := if a ≠ 0 then a else b
set_option maxHeartbeats 1000000 in
theorem Or2_any (a b : Int) (g : Nat) (w : World) (hb : Blk w g 3 #[.int .i64 a, .int .i64 b]) : Calls Tryz.prog 62 #[.slice (some ⟨g, 0, none⟩) 2 2] w fun e w' => e = .returned (.int .i64 (orJ a b)) ∧ w = w' := by
  have e0 := hb.cell 0
  have e1 := hb.cell 1
  simp at e0 e1
  have hgl := hb.lt
  clear hb
  go_enter Tryz.func62, Tryz.ntmps62
  go_wp2
  go_loop [8] (fun i => ∃ k : Nat, k ≤ 2 ∧ i = .int .i64 (k : Int) ∧ (0 < k → a = 0) ∧ (1 < k → b = 0)) (fun i => 2 - (intOf i).toNat)
  case atStart => exact ⟨0, by omega, rfl, by omega, by omega⟩
  case round =>
    obtain ⟨k, hk, rfl, ha, hb⟩ := hrel
    have hk4 : k = 0 ∨ k = 1 ∨ k = 2 := by omega
    rcases hk4 with rfl | rfl | rfl
    · clear ha hb
      by_cases g : a = 0
      · have g' : (a != 0) = false := by simpa using g
        have G := Lib.hid g
        clear g
        go_wp2
        go_round
        case rel => exact ⟨1, by omega, by go_num, fun _ => G.out, by omega⟩
        case measure => simp [intOf]
      · have g' : (a != 0) = true := by simpa using g
        have Q : Hid (orJ a b = a) := by show _ = _; unfold orJ; rw [if_pos g]
        clear g
        go_wp2
        go_ret
        exact ⟨by rw [Q.out]; rfl, rfl⟩
    · have HA := Lib.hid (ha (by omega))
      clear ha hb
      by_cases g : b = 0
      · have g' : (b != 0) = false := by simpa using g
        have G := Lib.hid g
        clear g
        go_wp2
        go_round
        case rel => exact ⟨2, by omega, by go_num, fun _ => HA.out, fun _ => G.out⟩
        case measure => simp [intOf]
      · have g' : (b != 0) = true := by simpa using g
        have Q : Hid (orJ a b = b) := by show _ = _; unfold orJ; rw [if_neg (by simpa using HA.out)]
        clear g
        go_wp2
        go_ret
        exact ⟨by rw [Q.out]; rfl, rfl⟩
    · have HA := Lib.hid (ha (by omega))
      have HB := Lib.hid (hb (by omega))
      have Q : Hid (orJ a b = 0) := by show _ = _; unfold orJ; rw [if_neg (by simpa using HA.out), HB.out]
      clear ha hb
      go_wp2
      go_ret
      exact ⟨by rw [Q.out]; rfl, rfl⟩
def tenCmp (x y : Ten) : Int := orJ (cmpI x.res y.res) (cmpI x.frm y.frm)
/-- w' is w with new blocks and draws -/
def Grw (w w' : World) : Prop := KeepsAll w w' ∧ w.drawn ≤ w'.drawn
theorem Grw.refl (w : World) : Grw w w := ⟨Keeps.refl _ _, Nat.le_refl _⟩
theorem Grw.alloc {w w' : World} (h : Grw w w') (o : Obj) : Grw w (w'.alloc o) := ⟨h.1.alloc o, h.2⟩
theorem Grw.drew {w w' : World} (h : Grw w w') : Grw w w'.drew := ⟨h.1.drew, Nat.le_succ_of_le h.2⟩
theorem Grw.trans {a b c : World} (h : Grw a b) (k : Grw b c) : Grw a c := ⟨h.1.tr k.1, Nat.le_trans h.2 k.2⟩
structure GExt (w : World) where
  val : World
  grew : Grw w val
instance GExt.some_ (w : World) : Nonempty (GExt w) := ⟨⟨w, Grw.refl w⟩⟩
theorem GExt.cell {w : World} {p : Addr} {v : Value} (h : w.cell? p = some v) (x : GExt w) : x.val.cell? p = some v := (x.grew.1.cell (World.block_lt_of_cell? w p h) (by simp)).trans h
set_option maxRecDepth 100000 in
set_option maxHeartbeats 2000000 in
theorem Free1_any (x y : Ten) (w : World) :
    Calls Tryz.prog 61 #[.agg (tenC x), .agg (tenC y)] w fun e w' => e = .returned (.int .i64 (tenCmp x y)) ∧ Grw w w' := by
  have HQ : Hid (tenCmp x y = orJ (cmpI x.res y.res) (cmpI x.frm y.frm)) := rfl
  unfold tenC
  obtain ⟨xr, xt, xs, xf, xo⟩ := x
  obtain ⟨yr, yt, ys, yf, yo⟩ := y
  simp only [] at HQ ⊢
  go_enter Tryz.func61, Tryz.ntmps61
  go_wp2
  generalize hW : World.alloc (World.alloc w _) _ = W
  have KW : Grw w W := by subst hW; exact ((Grw.refl _).alloc _).alloc _
  have B0 : Blk W w.heap.size 66 #[.int .i64 xr, .int .i64 xt, .int .i64 xs, .int .i64 xf, .int .i64 xo] := by subst hW; exact (Blk.new _ _ _).alloc _
  have B1 : Blk W (w.heap.size + 1) 66 #[.int .i64 yr, .int .i64 yt, .int .i64 ys, .int .i64 yf, .int .i64 yo] := by subst hW; exact Blk.new' _ _ _ (by simp)
  have u0 := B0.cell 0
  have u1 := B0.cell 3
  have v0 := B1.cell 0
  have v1 := B1.cell 3
  simp at u0 u1 v0 v1
  have hz0 := B0.lt
  have hz1 := B1.lt
  have HKW := Lib.hid KW
  clear hW KW B0 B1
  refine wp_region_lex (fun w' => ∃ x : GExt W, w' = x.val) [0, 1, 2, 3, 5, 6, 7, 8, 4, 9, 10, 11, 12] (by kernel_rfl) (by kernel_rfl) ⟨⟨_, (Grw.refl _).drew⟩, rfl⟩ ?_
  have x5 := GExt.cell u0
  have x6 := GExt.cell u1
  have x7 := GExt.cell v0
  have x8 := GExt.cell v1
  iterate 8 (refine lex_q _ rfl rfl rfl ?_; go_big_quiet_step (fail); refine wpQuiet_nil ?_)
  clear x5 x6 x7 x8
  iterate 2 (refine lex_a _ rfl rfl true (by kernel_rfl) ?_; go_wp2_with fail; refine (Compare_any _ _ _).mono ?_; rintro e w' ⟨rfl, rfl⟩; go_wp2; refine ⟨fun _ => ⟨⟨_, (Grw.refl _).drew⟩, rfl⟩, ?_⟩)
  generalize cmpI xr yr = ca at *
  generalize cmpI xf yf = cb' at *
  refine lex_a _ rfl rfl true (by kernel_rfl) ?_
  go_wp2
  refine ⟨fun _ => ⟨⟨_, ((Grw.refl _).alloc _).drew⟩, rfl⟩, ?_⟩
  generalize hW9 : World.drew (World.alloc W _) = W9
  have KW9 : Grw W W9 := by subst hW9; exact ((Grw.refl _).alloc _).drew
  have B9 : Blk W9 W.heap.size 3 #[.int .i64 ca, .int .i64 cb'] := by subst hW9; exact Blk.new _ _ _
  have HOR := Lib.hid (Or2_any ca cb' W.heap.size W9 B9)
  have K9 := Lib.hid (HKW.out.trans KW9)
  have HK9 := Lib.hid KW9
  clear hW9 KW9 B9
  refine lex_a _ rfl rfl true (by kernel_rfl) ?_
  go_wp2_with fail
  refine HOR.out.mono ?_
  rintro e w' ⟨rfl, rfl⟩
  go_wp2
  refine ⟨fun _ => ⟨⟨_, HK9.out⟩, rfl⟩, ?_⟩
  refine lex_q _ rfl rfl rfl ?_; go_big_quiet_step (fail); refine wpQuiet_nil ?_
  refine (by assumption : ∀ (a : Act) (w : World), Code.wp Tryz.prog Code.ret _ a w → _) _ _ ?_
  go_wp2
  go_ret
  exact ⟨by rw [HQ.out]; rfl, K9.out⟩

def encT (x : Ten) : List Value := (tenC x).toList
/-- the tenures of a list, one after the other -/
def TenC (cs : Array Value) (l : List Ten) : Prop := ∀ k x, l[k]? = some x → ∀ c, c < 5 → cs[k * 5 + c]? = some (encT x)[c]!
theorem OwnL.blkT {α : Type} {t size : Nat} {E : Rd α} {w : World} {base lo : Nat} {A : Option Addr} {n c : Nat} {l : List α} (h : OwnL t size E w base lo (.slice A n c) l) (hl : 1 ≤ l.length) : ∃ g cur, A = some ⟨g, 0, none⟩ ∧ base ≤ g ∧ Blk w g t cur := by
  obtain ⟨ess, _, h2, _⟩ := h
  rcases h2.2 with ⟨e, hn⟩ | ⟨g, cap, cur, e, hb, hh, _⟩
  · omega
  · injection e with e; subst e; exact ⟨g, cur, rfl, hb, hh⟩
theorem tyTen : ElemTy Tryz.prog 58 66 5 40 := .mk' Tryz.underlying58 (z := .agg #[.int .i64 0, .int .i64 0, .int .i64 0, .int .i64 0, .int .i64 0]) (by kernel_rfl) rfl (by omega)
theorem RTen.one : Rd.One RTen := fun _ _ es x h u hu => by
  rw [h] at hu
  simp [tenC] at hu
  rcases hu with rfl | rfl | rfl | rfl | rfl <;> rfl
set_option maxHeartbeats 400000 in
theorem CloneT_any (l : List Ten) (A : Option Addr) (c : Nat) (w : World) (h : RTens w (Old w) [.slice A l.length c] l) (hl : l.length ≤ 3518437208883) :
    Calls Tryz.prog 59 #[.slice A l.length c] w fun e w' => ∃ A' c', e = .returned (.slice A' l.length c') ∧ (1 ≤ l.length → ∃ g cs, A' = some ⟨g, 0, none⟩ ∧ w.heap.size ≤ g ∧ Blk w' g 66 cs ∧ TenC cs l) ∧ KeepsAll w w' := by
  have hnil : ∀ W, (binOp .eql 58 (.slice A l.length c) (.slice none 0 0)).run Tryz.prog W = .ok (.bool A.isNone) W := fun W => Lib.run_eql_slice_nil W 58 66 A l.length c 0 0 Tryz.underlying58
  have H := Lib.hid h; clear h
  cases A with
  | none =>
    have hl0 : ¬ 1 ≤ l.length := fun hm => by
      obtain ⟨_, _, he, _, _, h3⟩ := H.out
      injection he with he _; injection he with ha _ _
      obtain ⟨b, o, hb, _⟩ := h3 (by intro e; rw [e] at hm; simp at hm)
      rw [hb] at ha; cases ha
    go_enter Tryz.func59, Tryz.ntmps59
    go_wp2_with fail
    go_ret
    exact ⟨none, 0, by simp; omega, fun hm => absurd hm hl0, Keeps.refl _ _⟩
  | some ad =>
    simp only [Option.isNone_some] at hnil
    go_enter Tryz.func59, Tryz.ntmps59
    go_wp2_with (at_builtin; refine wpList_append_M tyTen RTen.ok RTen.one rfl (.tmp 5) (.tmp 6) rfl (OwnL.empty (base := w.heap.size) (lo := w.heap.size) (Blk.new w _ _) (Nat.le_refl _)) rfl rfl (S := Old w) (S2 := fun _ => False) ((RSlice.ok RTen.ok).mono H.out (fun _ h => h) (fun b hb => Below.heap_alloc w _ b hb)) (fun _ _ h => h) (fun _ h => h.elim) (by simp; omega) (by simp; omega) (by simp) ?_; intro v' w1 ho1 hk1 ha1; rw [List.nil_append] at ho1; obtain ⟨A1, c1, hv1, hc1, hc11⟩ := ho1.form; subst hv1)
    go_ret
    refine ⟨A1, c1, rfl, fun hm => ?_, ((Keeps.refl _ _).alloc _).trans hk1 (fun x hx e => by simp [Value.ownBlock] at e; omega)⟩
    obtain ⟨g, cur, rfl, hg, hbk⟩ := ho1.blkT hm
    refine ⟨g, cur, rfl, hg, hbk, fun k u hu c hc => ?_⟩
    have hr := ho1.readF RTen.ok RTen.flt (S := fun _ => True) (fun _ _ => trivial)
    have hk : k < l.length := getElem?_lt hu
    obtain ⟨b, o, x, he, _, hx, e0, e1, e2, e3, e4⟩ := RTens.at_ hr hk
    injection he with he1; injection he1 with he2 he3
    subst he2 he3
    obtain rfl := same_of hx hu
    rw [hbk.cell] at e0 e1 e2 e3 e4
    simp only [Nat.zero_add] at e0 e1 e2 e3 e4
    have hc5 : c = 0 ∨ c = 1 ∨ c = 2 ∨ c = 3 ∨ c = 4 := by omega
    rcases hc5 with rfl | rfl | rfl | rfl | rfl
    · exact e0
    · exact e1
    · exact e2
    · exact e3
    · exact e4

theorem freeL_iff {l : List Ten} : freeL l ↔ ∀ a ∈ l, ∀ b ∈ l, ¬ clash a b := by
  unfold freeL
  induction l with
  | nil => simp
  | cons x r ih =>
    rw [List.pairwise_cons, ih]
    constructor
    · rintro ⟨h1, h2⟩ a ha b hb hc
      rcases List.mem_cons.1 ha with ea | ha2 <;> rcases List.mem_cons.1 hb with eb | hb2
      · exact hc.2.1 (by rw [ea, eb])
      · subst ea; exact h1 b hb2 hc
      · subst eb; exact h1 a ha2 (clash_symm hc)
      · exact h2 a ha2 b hb2 hc
    · intro h
      exact ⟨fun a ha => h x (by simp) a (by simp [ha]), fun a ha b hb => h a (by simp [ha]) b (by simp [hb])⟩
def holds (x : Ten) (r k t : Nat) : Bool := decide (x.res = (r : Int) ∧ x.tr = (t : Int) ∧ x.frm ≤ (k : Int) ∧ (k : Int) < x.to)
def heldL (l : List Ten) (r k t : Nat) : Bool := l.any fun x => holds x r k t
theorem heldL_snoc (l : List Ten) (x : Ten) (r k t : Nat) : heldL (l ++ [x]) r k t = (heldL l r k t || holds x r k t) := by simp [heldL]
def badAt (h : Nat → Nat → Nat → Bool) (r k : Nat) : Bool := h r k 0 && h r k 1 || h r k 0 && h r k 2 || h r k 1 && h r k 2
def freeTo (h : Nat → Nat → Nat → Bool) (r k : Nat) : Bool := (List.range k).all fun k => !badAt h r k
def freeAll (h : Nat → Nat → Nat → Bool) (r : Nat) : Bool := (List.range r).all fun r => freeTo h r 40
theorem freeTo_succ (h : Nat → Nat → Nat → Bool) (r k : Nat) : freeTo h r (k + 1) = (freeTo h r k && !badAt h r k) := by simp [freeTo, List.range_succ]
theorem freeAll_succ (h : Nat → Nat → Nat → Bool) (r : Nat) : freeAll h (r + 1) = (freeAll h r && freeTo h r 40) := by simp [freeAll, List.range_succ]
structure SmallT (x : Ten) : Prop where
  r0 : 0 ≤ x.res
  r1 : x.res < 3
  t0 : 0 ≤ x.tr
  t1 : x.tr < 3
  f0 : 0 ≤ x.frm
  f1 : x.frm ≤ x.to
  t2 : x.to ≤ 40
theorem small_free {l : List Ten} (hs : ∀ x ∈ l, SmallT x) : freeAll (heldL l) 3 = decide (freeL l) := by
  rw [Bool.eq_iff_iff, decide_eq_true_eq, freeL_iff]
  constructor
  · intro h a ha b hb ⟨c1, c2, c3⟩
    have A := hs a ha
    have B := hs b hb
    have hr := List.all_eq_true.1 h a.res.toNat (List.mem_range.2 (by have := A.r0; have := A.r1; omega))
    have hk := List.all_eq_true.1 hr (max a.frm b.frm).toNat (List.mem_range.2 (by have := A.f0; have := A.t2; omega))
    have ea : ∀ t : Nat, a.tr = (t : Int) → heldL l a.res.toNat (max a.frm b.frm).toNat t = true := fun t ht => by
      refine List.any_eq_true.2 ⟨a, ha, decide_eq_true ⟨by have := A.r0; omega, ht, ?_, ?_⟩⟩ <;> (have := A.f0; omega)
    have eb : ∀ t : Nat, b.tr = (t : Int) → heldL l a.res.toNat (max a.frm b.frm).toNat t = true := fun t ht => by
      refine List.any_eq_true.2 ⟨b, hb, decide_eq_true ⟨by have := A.r0; omega, ht, ?_, ?_⟩⟩ <;> (have := A.f0; omega)
    have ha3 : a.tr = ((0 : Nat) : Int) ∨ a.tr = ((1 : Nat) : Int) ∨ a.tr = ((2 : Nat) : Int) := by have := A.t0; have := A.t1; omega
    have hb3 : b.tr = ((0 : Nat) : Int) ∨ b.tr = ((1 : Nat) : Int) ∨ b.tr = ((2 : Nat) : Int) := by have := B.t0; have := B.t1; omega
    simp only [badAt] at hk
    rcases ha3 with e | e | e <;> rcases hb3 with f | f | f <;> first | (exact absurd (e.trans f.symm) c2) | (have h1 := ea _ e; have h2 := eb _ f; rw [h1, h2] at hk; simp at hk)
  · intro h
    refine List.all_eq_true.2 fun r _ => List.all_eq_true.2 fun k _ => ?_
    have key : ∀ t u : Nat, t ≠ u → heldL l r k t = true → heldL l r k u = true → False := fun t u hne h1 h2 => by
      obtain ⟨a, ha, h1⟩ := List.any_eq_true.1 h1
      obtain ⟨b, hb, h2⟩ := List.any_eq_true.1 h2
      have h1 := of_decide_eq_true h1
      have h2 := of_decide_eq_true h2
      exact h a ha b hb ⟨by omega, by omega, by omega⟩
    cases hb : badAt (heldL l) r k with
    | false => rfl
    | true =>
      exfalso
      simp only [badAt, Bool.or_eq_true, Bool.and_eq_true] at hb
      rcases hb with (⟨h1, h2⟩ | ⟨h1, h2⟩) | ⟨h1, h2⟩
      · exact key 0 1 (by decide) h1 h2
      · exact key 0 2 (by decide) h1 h2
      · exact key 1 2 (by decide) h1 h2

/-- a row of the table, by value -/
def rowH (h : Nat → Nat → Nat → Bool) (r : Nat) : List Value := (List.range 120).map fun j => .bool (h r (j / 3) (j % 3))
theorem rowH_len (h : Nat → Nat → Nat → Bool) (r : Nat) : (rowH h r).length = 120 := by simp [rowH]
theorem rowH_at (h : Nat → Nat → Nat → Bool) (r : Nat) {k t : Nat} (hk : k < 40) (ht : t < 3) : (rowH h r)[k * 3 + t]? = some (.bool (h r k t)) := by
  unfold rowH
  rw [List.getElem?_map, List.getElem?_range (by omega), Option.map_some, show (k * 3 + t) / 3 = k from by omega, show (k * 3 + t) % 3 = t from by omega]
theorem rowH_ext (h : Nat → Nat → Nat → Bool) (r : Nat) {k : Nat} (hk : k < 40) : (rowH h r).toArray.extract (k * 3) (k * 3 + 3) = #[.bool (h r k 0), .bool (h r k 1), .bool (h r k 2)] := by
  have hl := rowH_len h r
  apply Array.ext
  · simp [hl]; omega
  · intro i h1 h2
    have hi : i < 3 := by simpa using h2
    rw [Array.getElem_extract]
    have := rowH_at h r hk hi
    obtain ⟨hb, e⟩ := List.getElem?_eq_some_iff.1 this
    rw [List.getElem_toArray, e]
    match i, hi with
    | 0, _ => rfl
    | 1, _ => rfl
    | 2, _ => rfl
theorem run_index_row (h : Nat → Nat → Nat → Bool) (r : Nat) {k : Nat} (hk : k < 40) (W : World) :
    (Instr.index 62 (.agg (rowH h r).toArray) (.int .i64 (k : Int))).run Tryz.prog W = .ok (.agg #[.bool (h r k 0), .bool (h r k 1), .bool (h r k 2)]) W := by
  have hagg : (isAgg 61).run Tryz.prog W = .ok true W := by
    unfold isAgg
    rw [Sem.run_bind, run_underlying Tryz.underlying61 W]
    rfl
  have hi : (Tryz.prog.info? 61).map (·.size) = some 3 := by kernel_rfl
  have hsz : (sizeOf 61).run Tryz.prog W = .ok 3 W := by
    cases hq : Tryz.prog.info? 61 with
    | none => simp [hq] at hi
    | some i =>
      have hs : i.size = 3 := by simpa [hq] using hi
      simp [sizeOf, typeInfo, hq, hs]
  have hp : (part 61 (rowH h r).toArray (k * 3)).run Tryz.prog W = .ok (.agg #[.bool (h r k 0), .bool (h r k 1), .bool (h r k 2)]) W := by
    unfold part
    simp only [Sem.run_bind, hagg, hsz, Result.andThen_ok, if_true, Sem.run_pure, rowH_ext h r hk]
  have hc : (0 : Int) ≤ (k : Int) ∧ (k : Int) < ((40 : Nat) : Int) := by omega
  unfold Instr.index
  simp only [asIntOf, Sem.run_bind, Sem.run_pure, Result.andThen_ok, run_underlying Tryz.underlying62 W, hc, and_self, if_true, hsz, Int.toNat_natCast, hp]
end Go.Proofs.YtcbcegdidlefiaaGreat
