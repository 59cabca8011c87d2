/- The law OperateFree: its walk, given what it calls. Conditions: as the theorem says. The kit's structure for slices.SortFunc laid at a slice of tenures. No condition. slices.SortFunc over tenures, of any number. Conditions: as each theorem says. -/
import Derived.Test.YtcbcegdidlefiaaGreatK10
import Derived.Test.YtcbcegdidlefiaaGreatK01
import Derived.Test.YtcbcegdidlefiaaGreatProg
import Derived.Shelf.SlLaysF0
import Derived.Shelf.SlSortCmp.WholeK
namespace Go.Proofs.YtcbcegdidlefiaaGreat
open Go.RowKit

/-- the table of who holds what -/
def HeldC (cs : Array Value) (h : Nat → Nat → Nat → Bool) : Prop := ∀ r k t, r < 3 → k < 40 → t < 3 → cs[r * 120 + k * 3 + t]? = some (.bool (h r k t))
theorem zero360 : ((List.range 360).all fun i => match Tryz.zeroCells63[i]? with | some (.bool false) => true | _ => false) = true := by kernel_rfl
theorem HeldC.zero : HeldC Tryz.zeroCells63 (heldL []) := by
  intro r k t hr hk ht
  have := List.all_eq_true.1 zero360 (r * 120 + k * 3 + t) (List.mem_range.2 (by omega))
  split at this
  · rename_i e; exact e
  · cases this
theorem HeldC.set {cs : Array Value} {h : Nat → Nat → Nat → Bool} (H : HeldC cs h) {r0 k0 t0 : Nat} (hr : r0 < 3) (hk : k0 < 40) (ht : t0 < 3) {h' : Nat → Nat → Nat → Bool} (h1 : h' r0 k0 t0 = true) (h2 : ∀ r k t, ¬ (r = r0 ∧ k = k0 ∧ t = t0) → h' r k t = h r k t) :
    HeldC (cs.setIfInBounds (r0 * 120 + k0 * 3 + t0) (.bool true)) h' := by
  intro r k t q1 q2 q3
  have hb := H r0 k0 t0 hr hk ht
  have hlt : r0 * 120 + k0 * 3 + t0 < cs.size := by
    rcases Nat.lt_or_ge (r0 * 120 + k0 * 3 + t0) cs.size with h | h
    · exact h
    · rw [Array.getElem?_eq_none h] at hb; cases hb
  rw [Array.getElem?_setIfInBounds]
  by_cases e : r = r0 ∧ k = k0 ∧ t = t0
  · obtain ⟨rfl, rfl, rfl⟩ := e
    rw [if_pos rfl, if_pos hlt, h1]
  · rw [if_neg (by omega), H r k t q1 q2 q3, h2 r k t e]
structure HInv (w wr : World) (v : Value) (T : List Ten) (rest : List Int) (h : Nat → Nat → Nat → Bool) : Prop where
  k : KeepsAll w wr
  src : Src wr (Old w) w.heap.size rest
  held : ∃ cs, Blk wr (w.heap.size + 1) 63 cs ∧ HeldC cs h
  own : OwnL 66 5 RTen wr (w.heap.size + 2) (w.heap.size + 2) v T
  size : w.heap.size + 2 ≤ wr.heap.size
theorem HInv.next {w wr w2 : World} {v : Value} {T : List Ten} {rest rest' : List Int} {h : Nat → Nat → Nat → Bool} (i : HInv w wr v T rest h) (k : Keeps (· = w.heap.size) wr w2) (hs : Src w2 (Old w) w.heap.size rest') : HInv w w2 v T rest' h := by
  obtain ⟨cs, q1, q2⟩ := i.held
  have hz := i.size
  exact ⟨i.k.trans k (fun x hx e => by omega), hs, ⟨cs, q1.kept k (by omega), q2⟩, i.own.keeps RTen.ok k (fun b _ e => by omega), Nat.le_trans i.size k.size⟩
theorem HInv.alloc {w wr : World} {v : Value} {T : List Ten} {rest : List Int} {h : Nat → Nat → Nat → Bool} (i : HInv w wr v T rest h) (o : Obj) : HInv w (wr.alloc o) v T rest h := by
  obtain ⟨cs, q1, q2⟩ := i.held
  have hz := i.size
  exact ⟨i.k.alloc o, i.src.keeps ((Keeps.refl (fun _ => False) _).alloc o) (fun b hb => ⟨by have : b < w.heap.size := hb; omega, by simp⟩) (by simp), ⟨cs, q1.alloc o, q2⟩, i.own.alloc RTen.ok o, by simp; omega⟩
theorem HInv.grow {w wr w2 : World} {v v' : Value} {T : List Ten} {x : Ten} {rest : List Int} {h : Nat → Nat → Nat → Bool} (i : HInv w wr v T rest h) (ho : OwnL 66 5 RTen w2 (w.heap.size + 2) (w.heap.size + 2) v' (T ++ [x])) (k : Keeps (fun b => v.ownBlock = some b) wr w2) : HInv w w2 v' (T ++ [x]) rest h := by
  obtain ⟨cs, q1, q2⟩ := i.held
  have hz := i.size
  have far : ∀ b, v.ownBlock = some b → w.heap.size + 2 ≤ b := fun b hb => (i.own.lt hb).1
  exact ⟨i.k.trans k (fun x hx e => by have := far _ e; omega), i.src.keeps k (fun b hb => ⟨by have : b < w.heap.size := hb; omega, fun e => by have := far _ e; have : b < w.heap.size := hb; omega⟩) (fun e => by have := far _ e; omega), ⟨cs, q1.kept k (fun e => by have := far _ e; omega), q2⟩, ho, Nat.le_trans i.size k.size⟩
theorem HInv.drew {w wr : World} {v : Value} {T : List Ten} {rest : List Int} {h : Nat → Nat → Nat → Bool} (i : HInv w wr v T rest h) (n : Nat) : HInv w (wr.drewN n) v T rest h := by
  obtain ⟨cs, q1, q2⟩ := i.held
  have hz := i.size
  exact ⟨i.k.drewN n, i.src.keeps ((Keeps.refl (fun _ => False) _).drewN n) (fun b hb => ⟨by have : b < w.heap.size := hb; omega, by simp⟩) (by simp), ⟨cs, q1, q2⟩, i.own.drewN RTen.ok n, i.size⟩
theorem HInv.mark {w wr : World} {v : Value} {T : List Ten} {rest : List Int} {h h' : Nat → Nat → Nat → Bool} (i : HInv w wr v T rest h) {r0 k0 t0 : Nat} (hr : r0 < 3) (hk : k0 < 40) (ht : t0 < 3) (h1 : h' r0 k0 t0 = true) (h2 : ∀ r k t, ¬ (r = r0 ∧ k = k0 ∧ t = t0) → h' r k t = h r k t) :
    HInv w (wr.setCell ⟨w.heap.size + 1, r0 * 120 + k0 * 3 + t0, none⟩ (.bool true)) v T rest h' := by
  obtain ⟨cs, q1, q2⟩ := i.held
  have hz := i.size
  have k : Keeps (· = w.heap.size + 1) wr (wr.setCell ⟨w.heap.size + 1, r0 * 120 + k0 * 3 + t0, none⟩ (.bool true)) := (Keeps.refl (fun x => x = w.heap.size + 1) wr).setCell (p := ⟨w.heap.size + 1, r0 * 120 + k0 * 3 + t0, none⟩) (fun _ => rfl) _
  exact ⟨i.k.trans k (fun x hx e => by omega), i.src.keeps k (fun b hb => ⟨by have : b < w.heap.size := hb; omega, by have : b < w.heap.size := hb; omega⟩) (by omega), ⟨_, q1.set_ _ _, q2.set hr hk ht h1 h2⟩, i.own.keeps RTen.ok k (fun b _ e => by omega), by simp [World.setCell]; exact hz⟩

theorem HeldC.range {w : World} {g : Nat} {ty : TypeId} {cs : Array Value} {h : Nat → Nat → Nat → Bool} (H : HeldC cs h) (hb : Blk w g ty cs) {r : Nat} (hr : r < 3) : w.rangeAt g (r * 120) (rowH h r) := by
  intro j v hv
  have hj : j < 120 := by have := (List.getElem?_eq_some_iff.1 hv).1; rw [rowH_len] at this; exact this
  have := rowH_at h r (k := j / 3) (t := j % 3) (by omega) (by omega)
  rw [show j / 3 * 3 + j % 3 = j from by omega, hv] at this
  cases this
  have := H r (j / 3) (j % 3) hr (by omega) (by omega)
  rw [hb.cell, show r * 120 + j = r * 120 + j / 3 * 3 + j % 3 from by omega]
  exact this
set_option maxRecDepth 100000 in
set_option maxHeartbeats 1000000 in
theorem OperateFree_walk (haw : ∀ w, Calls Tryz.prog 11 #[] w fun e w' => e = .returned (.bool true) ∧ KeepsAll w w')
    (hfree : ∀ (l : List Ten) (A : Option Addr) (c : Nat) (w : World) (_ : RTens w (Old w) [.slice A l.length c] l) (_ : l.length ≤ 3518437208883), Calls Tryz.prog 21 #[.slice A l.length c] w fun e w' => e = .returned (.bool (decide (freeL l))) ∧ KeepsAll w w')
    (hrfree : ∀ (l : List Ten) (A : Option Addr) (c : Nat) (w : World) (_ : RTens w (Old w) [.slice A l.length c] l), Calls Tryz.prog 22 #[.slice A l.length c] w fun e w' => e = .returned (.bool (decide (freeL l))) ∧ KeepsAll w w')
    (l0 : List Ten) (l1 : List Int) (A0 A1 : Option Addr) (c0 c1 : Nat) (w : World) (h0 : RTens w (Old w) [.slice A0 l0.length c0] l0) (h1 : RInts w (Old w) [.slice A1 l1.length c1] l1) (hl : l0.length ≤ 3518437208883) :
    Calls Tryz.prog 5 #[.slice A0 l0.length c0, .slice A1 l1.length c1] w fun e w' => e = .returned (.bool true) ∧ KeepsAll w w' := by
  have H0 := Lib.hid h0; clear h0
  have H1 := Lib.hid h1; clear h1
  have HA := Lib.hid haw; clear haw
  have HF := Lib.hid hfree; clear hfree
  have HR := Lib.hid hrfree; clear hrfree
  go_enter Tryz.func5, Tryz.ntmps5
  go_wp2_with (go_at_call 19; refine (From_any w A1 c1 l1 H1.out).mono ?_; rintro e w1 ⟨rfl, hsrc1, hk1, hz1⟩)
  generalize hW : World.alloc w1 _ = w2
  have i0 : HInv w w2 (.slice none 0 0) [] l1 (heldL []) := by
    subst hW
    refine ⟨hk1.alloc _, hsrc1.keeps ((Keeps.refl (fun _ => False) _).alloc _) (fun b hb => ⟨by have : b < w.heap.size := hb; omega, by simp⟩) (by simp), ⟨_, Blk.new' _ _ _ hz1.symm, HeldC.zero⟩, OwnL.nil, by simp; omega⟩
  clear hW hsrc1 hk1 hz1
  have OLD : Hid (∀ {W : World}, w.heap.size + 2 ≤ W.heap.size → ∀ b, Old w b → b < W.heap.size ∧ b ≠ w.heap.size) := Lib.hid fun h b hb => by have : b < w.heap.size := hb; exact ⟨by omega, by omega⟩
  refine (Next_any _ (Old w) w.heap.size _ _ (by omega) (by omega) i0.src (OLD.out i0.size)).mono ?_
  rintro e w3 ⟨rfl, hs3, hk3, hz3⟩
  have i3 := i0.next hk3 hs3
  have hn := nextV_range l1 6 (by omega)
  generalize nextV l1 6 = n at hn
  obtain ⟨m0, rfl⟩ := Int.eq_ofNat_of_zero_le hn.1
  clear i0 hs3 hk3 hz3
  go_wp2_with fail
  go_loopw [6, 9] (fun v n wr => ∃ (T : List Ten) (m : Nat) (rest : List Int), n = .int .i64 (m : Int) ∧ T.length + m ≤ 5 ∧ (∀ x ∈ T, SmallT x) ∧ HInv w wr v T rest (heldL T)) (fun _ n _ => (intOf n).toNat)
  case atStart => exact ⟨[], m0, _, rfl, by simp; omega, by simp, i3⟩
  case round =>
    obtain ⟨T, m, rest, rfl, hT, hsm, hi⟩ := hrel
    clear i3
    have HSM := Lib.hid hsm; clear hsm
    have HI := Lib.hid hi; clear hi
    by_cases hm : 0 < m
    · go_wp2_with fail
      refine (Next_any _ (Old w) w.heap.size _ _ (by omega) (by omega) HI.out.src (OLD.out HI.out.size)).mono ?_
      rintro e w4 ⟨rfl, hs, hk, hz⟩
      obtain ⟨f, ef⟩ := Int.eq_ofNat_of_zero_le (nextV_range rest 20 (by omega)).1
      have hf := (nextV_range rest 20 (by omega)).2
      rw [ef] at hf ⊢
      have HI4 := Lib.hid (HI.out.next hk hs)
      clear hs hk hz ef
      go_wp2_with fail
      refine (Next_any _ (Old w) w.heap.size _ _ (by omega) (by omega) HI4.out.src (OLD.out HI4.out.size)).mono ?_
      rintro e w5 ⟨rfl, hs, hk, hz⟩
      obtain ⟨r, er⟩ := Int.eq_ofNat_of_zero_le (nextV_range rest.tail 3 (by omega)).1
      have hr := (nextV_range rest.tail 3 (by omega)).2
      rw [er] at hr ⊢
      have HI5 := Lib.hid (HI4.out.next hk hs)
      clear hs hk hz er
      go_wp2_with fail
      refine (Next_any _ (Old w) w.heap.size _ _ (by omega) (by omega) HI5.out.src (OLD.out HI5.out.size)).mono ?_
      rintro e w6 ⟨rfl, hs, hk, hz⟩
      obtain ⟨t, et⟩ := Int.eq_ofNat_of_zero_le (nextV_range rest.tail.tail 3 (by omega)).1
      have ht := (nextV_range rest.tail.tail 3 (by omega)).2
      rw [et] at ht ⊢
      have HI6 := Lib.hid (HI5.out.next hk hs)
      clear hs hk hz et
      go_wp2_with fail
      refine (Next_any _ (Old w) w.heap.size _ _ (by omega) (by omega) HI6.out.src (OLD.out HI6.out.size)).mono ?_
      rintro e w7 ⟨rfl, hs, hk, hz⟩
      obtain ⟨d, ed⟩ := Int.eq_ofNat_of_zero_le (nextV_range rest.tail.tail.tail 12 (by omega)).1
      have hd := (nextV_range rest.tail.tail.tail 12 (by omega)).2
      rw [ed] at hd ⊢
      have HI7 := Lib.hid (HI6.out.next hk hs)
      clear hs hk hz ed
      have hz7 := HI7.out.size
      have hTl : (T.length + 1) * 40 ≤ 140737488355328 := by omega
      have hTl2 : T.length + 1 ≤ 9223372036854775807 := by omega
      have HX8 : Hid (∀ v' w9, HInv w ((w7.alloc (Obj.cells #[.int .i64 (r : Int), .int .i64 (t : Int), .int .i64 0, .int .i64 (f : Int), .int .i64 ((f : Int) + d)] 66)).alloc (Obj.cells #[.int .i64 (r : Int), .int .i64 (t : Int), .int .i64 0, .int .i64 (f : Int), .int .i64 ((f : Int) + d)] 66)) u6 T rest.tail.tail.tail.tail (heldL T) → OwnL 66 5 RTen w9 (w.heap.size + 2) (w.heap.size + 2) v' (T ++ [⟨r, t, 0, f, f + d⟩]) → Keeps (fun b => u6.ownBlock = some b) ((w7.alloc (Obj.cells #[.int .i64 (r : Int), .int .i64 (t : Int), .int .i64 0, .int .i64 (f : Int), .int .i64 ((f : Int) + d)] 66)).alloc (Obj.cells #[.int .i64 (r : Int), .int .i64 (t : Int), .int .i64 0, .int .i64 (f : Int), .int .i64 ((f : Int) + d)] 66)) w9 →
          Blk w9 w7.heap.size 66 #[.int .i64 (r : Int), .int .i64 (t : Int), .int .i64 0, .int .i64 (f : Int), .int .i64 ((f : Int) + d)]) := Lib.hid fun v' w9 _ _ hk =>
        ((Blk.new w7 _ _).alloc _).kept hk (fun e => by have := (HI7.out.own.lt e).2; omega)
      go_wp2_with (at_builtin; refine wpList_append_L tyTen RTen.ok rfl (.tmp 36) (.tmp 38) rfl ((HI7.out.alloc _).alloc _).own rfl _ [.int .i64 (r : Int), .int .i64 (t : Int), .int .i64 0, .int .i64 (f : Int), .int .i64 ((f : Int) + d)] rfl (Blk.new' _ _ _ (by simp)) rfl (⟨r, t, 0, f, f + d⟩ : Ten) (S := fun _ => False) rfl (fun _ h => h.elim) (by simp [Value.oneCell']) hTl hTl2 (by simp; omega) ?_; intro v' w9 ho9 hk9 hat9; have hx9 := HX8.out v' w9 ((HI7.out.alloc _).alloc _) ho9 hk9; have hx93 := hx9.cell 3; have hi9 := ((HI7.out.alloc _).alloc _).grow ho9 hk9; clear ho9 hk9 hat9)
      clear HX8 hTl hTl2
      have hi9' : HInv w w9 v' (T ++ [⟨r, t, 0, f, f + d⟩]) rest.tail.tail.tail.tail (fun r' k' t' => heldL T r' k' t' || (holds ⟨r, t, 0, f, f + d⟩ r' k' t' && decide (k' < f))) := by
        have e : (fun r' k' t' => heldL T r' k' t' || (holds ⟨r, t, 0, f, f + d⟩ r' k' t' && decide (k' < f))) = heldL T := by
          funext r' k' t'
          have : (holds ⟨r, t, 0, f, f + d⟩ r' k' t' && decide (k' < f)) = false := by
            unfold holds
            rw [← Bool.decide_and, decide_eq_false_iff_not]
            simp only []
            omega
          rw [this, Bool.or_false]
        rw [e]; exact hi9
      go_loopw [12] (fun i wb => ∃ k : Nat, f ≤ k ∧ k ≤ f + d ∧ i = .int .i64 (k : Int) ∧ Blk wb w7.heap.size 66 #[.int .i64 (r : Int), .int .i64 (t : Int), .int .i64 0, .int .i64 (f : Int), .int .i64 ((f : Int) + d)] ∧ HInv w wb v' (T ++ [⟨r, t, 0, f, f + d⟩]) rest.tail.tail.tail.tail (fun r' k' t' => heldL T r' k' t' || (holds ⟨r, t, 0, f, f + d⟩ r' k' t' && decide (k' < k)))) (fun i _ => f + d - (intOf i).toNat)
      case atStart => exact ⟨f, Nat.le_refl _, by omega, rfl, hx9, hi9'⟩
      case round =>
        obtain ⟨k, hk1, hk2, rfl, hxb, hib⟩ := hrel
        clear hi9' hi9 hx9 hx93
        have c0 : wr.cell? ⟨w7.heap.size, 0, none⟩ = some (.int .i64 (r : Int)) := hxb.cell 0
        have c1 : wr.cell? ⟨w7.heap.size, 1, none⟩ = some (.int .i64 (t : Int)) := hxb.cell 1
        have c4 : wr.cell? ⟨w7.heap.size, 4, none⟩ = some (.int .i64 ((f : Int) + d)) := hxb.cell 4
        have HXB := Lib.hid hxb; clear hxb
        have HIB := Lib.hid hib; clear hib
        by_cases hlt : k < f + d
        · go_wp2_with fail
          obtain ⟨cs, hgb, hcs⟩ := HIB.out.held
          have hr3 : r < 3 := by omega
          have hk40 : k < 40 := by omega
          have ht3 : t < 3 := by omega
          have cH := (hgb.cell (r * 120 + k * 3 + t)).trans (hcs r k t hr3 hk40 ht3)
          have fH := hgb.frozen (r * 120 + k * 3 + t)
          clear hgb hcs
          refine wp_region_lex (fun w' => ∃ x : Ext wr, w' = x.val) [0, 1, 2, 3, 4, 5, 6, 7, 8] (by kernel_rfl) (by kernel_rfl) ⟨⟨_, (Keeps.refl _ _).drew⟩, rfl⟩ ?_
          have y0 := Ext.cell c0
          have y1 := Ext.cell c1
          iterate 8 (first | (refine lex_q _ rfl rfl rfl ?_; go_big_quiet_step (fail); refine wpQuiet_nil ?_) | (refine lex_nil _ rfl _ rfl rfl _ rfl ?_; go_simp))
          clear y0 y1
          have HMK : Hid (∀ wx, wx = (wr.setCell ⟨w.heap.size + 1, r * 120 + k * 3 + t, none⟩ (.bool true)).drew → Blk wx w7.heap.size 66 #[.int .i64 (r : Int), .int .i64 (t : Int), .int .i64 0, .int .i64 (f : Int), .int .i64 ((f : Int) + d)] ∧ HInv w wx v' (T ++ [⟨r, t, 0, f, f + d⟩]) rest.tail.tail.tail.tail (fun r' k' t' => heldL T r' k' t' || (holds ⟨r, t, 0, f, f + d⟩ r' k' t' && decide (k' < k + 1)))) := Lib.hid fun wx e => by
            subst e
            refine ⟨Blk.far (show Blk wr _ _ _ from HXB.out) (by show w7.heap.size ≠ w.heap.size + 1; omega) _, HInv.drew (HIB.out.mark hr3 hk40 ht3 ?_ ?_) 1⟩
            · have : holds ⟨r, t, 0, f, f + d⟩ r k t = true := decide_eq_true ⟨rfl, rfl, by simp; omega, by simp; omega⟩
              simp only [this, Bool.true_and, Nat.lt_succ_self, decide_true, Bool.or_true]
            · intro r1 k1 t1 hne
              by_cases hh : holds ⟨r, t, 0, f, f + d⟩ r1 k1 t1 = true
              · have h2 := of_decide_eq_true hh
                simp only [] at h2
                have : k1 ≠ k := fun e => hne ⟨by omega, e, by omega⟩
                have e1 : decide (k1 < k + 1) = decide (k1 < k) := by rw [decide_eq_decide]; omega
                rw [e1]
              · have : holds ⟨r, t, 0, f, f + d⟩ r1 k1 t1 = false := by simpa using hh
                rw [this]; simp
          clear HXB HIB
          refine lex_a _ rfl rfl false (by kernel_rfl) ?_
          go_wp2_with fail
          refine ⟨(fun h => by cases h), ?_⟩
          simp only [wpLex]
          refine NoPanic.normal ?_
          obtain ⟨b1, b2⟩ := HMK.out _ rfl
          clear HMK
          go_wp2_with fail
          exact ⟨⟨k + 1, by omega, by omega, by go_num, b1, b2⟩, by simp [intOf]; omega⟩
        · obtain rfl : k = f + d := by omega
          go_wp2_with fail
          have hs : HInv w wr v' (T ++ [⟨r, t, 0, f, f + d⟩]) rest.tail.tail.tail.tail (heldL (T ++ [⟨r, t, 0, f, f + d⟩])) := by
            have e : (fun r' k' t' => heldL T r' k' t' || (holds ⟨r, t, 0, f, f + d⟩ r' k' t' && decide (k' < f + d))) = heldL (T ++ [⟨r, t, 0, f, f + d⟩]) := by
              funext r' k' t'
              rw [heldL_snoc]
              by_cases hh : holds ⟨r, t, 0, f, f + d⟩ r' k' t' = true
              · have h2 := of_decide_eq_true hh
                simp only [] at h2
                have : decide (k' < f + d) = true := decide_eq_true (by omega)
                rw [this, Bool.and_true]
              · have : holds ⟨r, t, 0, f, f + d⟩ r' k' t' = false := by simpa using hh
                rw [this]; simp
            rw [← e]; exact HIB.out
          refine ⟨⟨_, m - 1, _, by go_num, by simp; omega, ?_, hs⟩, by simp [intOf]; omega⟩
          intro x hx
          rcases List.mem_append.1 hx with hx | hx
          · exact HSM.out x hx
          · obtain rfl := List.mem_singleton.1 hx
            exact ⟨by simp, hr, by simp, ht, by simp, by show (f : Int) ≤ f + d; omega, by simp; omega⟩
    · have hTL : T.length ≤ 5 := by omega
      clear hT
      go_wp2_with fail
      go_loopw [8, 56] (fun fr i wz => ∃ k : Nat, k ≤ 3 ∧ i = .int .i64 (k : Int) ∧ fr = .bool (freeAll (heldL T) k) ∧ HInv w wz u6 T rest (heldL T)) (fun _ i _ => 3 - (intOf i).toNat)
      case atStart => exact ⟨0, by omega, rfl, rfl, HI.out⟩
      case round =>
        obtain ⟨k, hk, rfl, rfl, hiz⟩ := hrel
        clear HI
        have HIZ := Lib.hid hiz; clear hiz
        by_cases hlt : k < 3
        · obtain ⟨cs, q1, q2⟩ := HIZ.out.held
          have hrg := q2.range q1 hlt
          clear q1 q2
          go_wp2_with fail
          refine wp_load_mid 62 (.tmp 60) rfl (w.heap.size + 1) (k * 120) rfl (rowH (heldL T) k) _ hrg Tryz.underlying62 rfl (by rw [rowH_len]; kernel_rfl) ?_
          clear hrg
          go_wp2_with fail
          go_loopw [8, 15, 62] (fun fr _ j wy => ∃ k2 : Nat, k2 ≤ 40 ∧ j = .int .i64 (k2 : Int) ∧ fr = .bool (freeAll (heldL T) k && freeTo (heldL T) k k2) ∧ HInv w wy u6 T rest (heldL T)) (fun _ _ j _ => 40 - (intOf j).toNat)
          case atStart => exact ⟨0, by omega, rfl, by simp [freeTo], HIZ.out⟩
          case round =>
            obtain ⟨k2, hk2, rfl, rfl, hiy⟩ := hrel
            clear HIZ
            have HIY := Lib.hid hiy; clear hiy
            by_cases hlt2 : k2 < 40
            · have hix : ∀ W, (Instr.index 62 (.agg (rowH (heldL T) k).toArray) (.int .i64 (k2 : Int))).run Tryz.prog W = .ok (.agg #[.bool (heldL T k k2 0), .bool (heldL T k k2 1), .bool (heldL T k k2 2)]) W := run_index_row (heldL T) k hlt2
              have HFT : Hid (freeTo (heldL T) k (k2 + 1) = (freeTo (heldL T) k k2 && !(heldL T k k2 0 && heldL T k k2 1 || heldL T k k2 0 && heldL T k k2 2 || heldL T k k2 1 && heldL T k k2 2))) := Lib.hid (freeTo_succ _ _ _)
              generalize heldL T k k2 0 = b0 at hix HFT
              generalize heldL T k k2 1 = b1 at hix HFT
              generalize heldL T k k2 2 = b2 at hix HFT
              generalize freeAll (heldL T) k = F1 at *
              generalize freeTo (heldL T) k k2 = F2 at *
              cases b0 <;> cases b1 <;> cases b2 <;> cases F1 <;> cases F2
              all_goals
                go_wp2_with fail
                exact ⟨⟨k2 + 1, by omega, by go_num, by rw [HFT.out]; rfl, HIY.out.alloc _⟩, by simp [intOf]; omega⟩
            · obtain rfl : k2 = 40 := by omega
              go_wp2_with fail
              exact ⟨⟨k + 1, by omega, by go_num, by rw [freeAll_succ], HIY.out⟩, by simp [intOf]; omega⟩
        · obtain rfl : k = 3 := by omega
          rw [show freeAll (heldL T) 3 = decide (freeL T) from small_free HSM.out]
          obtain ⟨Av, cv, rfl, hcv1, hcv2⟩ := HIZ.out.own.form
          have KW := Lib.hid HIZ.out.k
          have HRT : Hid (RTens wr (Old wr) [.slice Av T.length cv] T) := Lib.hid (HIZ.out.own.read RTen.ok (by omega) (fun b _ h => h) (fun b _ h => h))
          clear HIZ
          go_wp2_with fail
          refine (HA.out _).mono ?_
          rintro e wa ⟨rfl, ka⟩
          have HRA : Hid (RTens wa (Old wa) [.slice Av T.length cv] T) := Lib.hid (ka.rdo' (RSlice.ok RTen.ok) HRT.out)
          have KA := Lib.hid (KW.out.tr ka)
          clear ka HRT KW HA
          go_wp2_with fail
          refine (HF.out T Av cv _ HRA.out (by omega)).mono ?_
          rintro e wb ⟨rfl, kb⟩
          have KB := Lib.hid (KA.out.tr kb)
          clear kb HRA KA
          generalize decide (freeL T) = B1
          have HB0 := Lib.hid (KB.out.rdo' (RSlice.ok RTen.ok) H0.out)
          cases B1
          all_goals
            go_wp2_with fail
            refine (HF.out l0 A0 c0 _ HB0.out hl).mono ?_
            rintro e wc ⟨rfl, kc⟩
            have KC := Lib.hid (KB.out.tr kc)
            have HC0 := Lib.hid (kc.rdo' (RSlice.ok RTen.ok) HB0.out)
            clear kc
            go_wp2_with fail
            refine (HR.out l0 A0 c0 _ HC0.out).mono ?_
            rintro e wd ⟨rfl, kd⟩
            have KD := Lib.hid (KC.out.tr kd)
            clear kd
            generalize decide (freeL l0) = B2
            cases B2
            all_goals
              go_wp2_with fail
              go_ret
              exact ⟨rfl, KD.out⟩

open Go.Shelf

def sortTren : Ren := ⟨fun | 6 => 60 | 14 => 143 | 15 => 144 | 20 => 253 | 21 => 254 | 22 => 255 | 23 => 256 | 24 => 257 | 25 => 258 | 26 => 259 | 27 => 260 | 28 => 261 | 29 => 262 | 46 => 375 | 47 => 376 | 48 => 377 | 49 => 378 | 50 => 379 | 57 => 454 | n => n, fun | 0 => 0 | 3 => 3 | 4 => 4 | 5 => 5 | 9 => 9 | 22 => 58 | 25 => 163 | 39 => 112 | 45 => 392 | 46 => 393 | 50 => 335 | 53 => 399 | 55 => 401 | 66 => 510 | 70 => 514 | 76 => 577 | 77 => 578 | 24 => 66 | n => n, fun n => n⟩
set_option maxRecDepth 100000 in
theorem sortTlay : SlLaysF0.n6 Tryz.prog sortTren where
  mixed := by kernel_rfl
  f6 := ⟨"slices.SortFunc[[]railplan/api.Tenure,railplan/api.Tenure]", by decide, Tryz.func60.trans (congrArg some (by kernel_rfl))⟩
  f14 := ⟨"slices.pdqsortCmpFunc[railplan/api.Tenure]", by decide, Tryz.func143.trans (congrArg some (by kernel_rfl))⟩
  f15 := Tryz.func144.trans (congrArg some (by kernel_rfl))
  f20 := ⟨"slices.insertionSortCmpFunc[railplan/api.Tenure]", by decide, Tryz.func253.trans (congrArg some (by kernel_rfl))⟩
  f21 := ⟨"slices.heapSortCmpFunc[railplan/api.Tenure]", by decide, Tryz.func254.trans (congrArg some (by kernel_rfl))⟩
  f22 := ⟨"slices.breakPatternsCmpFunc[railplan/api.Tenure]", by decide, Tryz.func255.trans (congrArg some (by kernel_rfl))⟩
  f23 := ⟨"slices.choosePivotCmpFunc[railplan/api.Tenure]", by decide, Tryz.func256.trans (congrArg some (by kernel_rfl))⟩
  f24 := ⟨"slices.reverseRangeCmpFunc[railplan/api.Tenure]", by decide, Tryz.func257.trans (congrArg some (by kernel_rfl))⟩
  f25 := ⟨"slices.partialInsertionSortCmpFunc[railplan/api.Tenure]", by decide, Tryz.func258.trans (congrArg some (by kernel_rfl))⟩
  f26 := ⟨"slices.partitionEqualCmpFunc[railplan/api.Tenure]", by decide, Tryz.func259.trans (congrArg some (by kernel_rfl))⟩
  f27 := ⟨"slices.partitionCmpFunc[railplan/api.Tenure]", by decide, Tryz.func260.trans (congrArg some (by kernel_rfl))⟩
  f28 := Tryz.func261.trans (congrArg some (by kernel_rfl))
  f29 := Tryz.func262.trans (congrArg some (by kernel_rfl))
  f46 := ⟨"slices.siftDownCmpFunc[railplan/api.Tenure]", by decide, Tryz.func375.trans (congrArg some (by kernel_rfl))⟩
  f47 := Tryz.func376.trans (congrArg some (by kernel_rfl))
  f48 := Tryz.func377.trans (congrArg some (by kernel_rfl))
  f49 := ⟨"slices.medianAdjacentCmpFunc[railplan/api.Tenure]", by decide, Tryz.func378.trans (congrArg some (by kernel_rfl))⟩
  f50 := ⟨"slices.medianCmpFunc[railplan/api.Tenure]", by decide, Tryz.func379.trans (congrArg some (by kernel_rfl))⟩
  f57 := ⟨"slices.order2CmpFunc[railplan/api.Tenure]", by decide, Tryz.func454.trans (congrArg some (by kernel_rfl))⟩
  t0 := Tryz.underlying0
  a0 := Tryz.isAgg0
  z0 := Tryz.sizeOf0
  v0 := Tryz.zeroValue0
  t3 := Tryz.underlying3
  a3 := Tryz.isAgg3
  z3 := Tryz.sizeOf3
  v3 := Tryz.zeroValue3
  t4 := Tryz.underlying4
  a4 := Tryz.isAgg4
  z4 := Tryz.sizeOf4
  v4 := Tryz.zeroValue4
  t5 := Tryz.underlying5
  a5 := Tryz.isAgg5
  z5 := Tryz.sizeOf5
  v5 := Tryz.zeroValue5
  t9 := Tryz.underlying9
  a9 := Tryz.isAgg9
  z9 := Tryz.sizeOf9
  v9 := Tryz.zeroValue9
  t22 := Tryz.underlying58
  a22 := Tryz.isAgg58
  z22 := Tryz.sizeOf58
  v22 := Tryz.zeroValue58
  t25 := Tryz.underlying163
  a25 := Tryz.isAgg163
  z25 := Tryz.sizeOf163
  v25 := Tryz.zeroValue163
  t39 := Tryz.underlying112
  a39 := Tryz.isAgg112
  z39 := Tryz.sizeOf112
  v39 := Tryz.zeroValue112
  t45 := Tryz.underlying392
  a45 := Tryz.isAgg392
  z45 := Tryz.sizeOf392
  v45 := Tryz.zeroValue392
  t46 := Tryz.underlying393
  a46 := Tryz.isAgg393
  z46 := Tryz.sizeOf393
  v46 := Tryz.zeroValue393
  t50 := Tryz.underlying335
  a50 := Tryz.isAgg335
  z50 := Tryz.sizeOf335
  v50 := Tryz.zeroValue335
  t53 := Tryz.underlying399
  a53 := Tryz.isAgg399
  z53 := Tryz.sizeOf399
  v53 := Tryz.zeroValue399
  t55 := Tryz.underlying401
  a55 := Tryz.isAgg401
  z55 := Tryz.sizeOf401
  v55 := Tryz.zeroValue401
  t66 := Tryz.underlying510
  a66 := Tryz.isAgg510
  z66 := Tryz.sizeOf510
  v66 := Tryz.zeroValue510
  t70 := Tryz.underlying514
  a70 := Tryz.isAgg514
  z70 := Tryz.sizeOf514
  v70 := Tryz.zeroValue514
  t76 := Tryz.underlying577
  a76 := Tryz.isAgg577
  z76 := Tryz.sizeOf577
  v76 := Tryz.zeroValue577
  t77 := Tryz.underlying578
  a77 := Tryz.isAgg578
  z77 := Tryz.sizeOf578
  v77 := Tryz.zeroValue578

open Go.RowKit Go.Shelf Go.Sort

theorem tgr_grow {w w' : World} (h : Grw w w') : ∃ q os, w' = Go.Sort.grow (w.drewN q) os := by
  obtain ⟨k, hd⟩ := h
  refine ⟨w'.drawn - w.drawn, w'.heap.extract w.heap.size w'.heap.size, ?_⟩
  have hh : w.heap ++ w'.heap.extract w.heap.size w'.heap.size = w'.heap := by
    apply Array.ext_getElem?
    intro i
    have hs := k.size
    rw [Array.getElem?_append]
    by_cases hi : i < w.heap.size
    · rw [if_pos hi]; exact (k.block i hi (fun h => h)).symm
    · rw [if_neg hi, Array.getElem?_extract]
      by_cases hj : i < w'.heap.size
      · rw [if_pos (by omega), show w.heap.size + (i - w.heap.size) = i from by omega]
      · rw [if_neg (by omega), Array.getElem?_eq_none (by omega)]
  obtain ⟨heap, tape, drawn, os, output⟩ := w
  obtain ⟨heap', tape', drawn', os', output'⟩ := w'
  have h1 := k.os
  have h2 := k.tape
  have h3 := k.output
  simp only at h1 h2 h3 hd hh
  subst h1 h2 h3
  simp only [Go.Sort.grow, World.drewN, hh]
  congr 1
  omega
theorem tblk_putRow {w : World} {g t : Nat} {cs : Array Value} (h : Blk w g t cs) (F : Array Value) : Blk (putRow id w g 0 F) g t (putCells id 0 F cs) := by
  unfold Blk at h ⊢
  unfold putRow mapBlock
  simp only [Array.getElem?_modify, if_true, h, Option.map_some, onCells]
theorem tkeeps_putRow (w : World) (g : Nat) (F : Array Value) : Keeps (fun b => b = g) w (putRow id w g 0 F) := by
  refine ⟨rfl, rfl, rfl, by unfold putRow mapBlock; simp, fun x _ hn => ?_⟩
  unfold putRow mapBlock
  simp only [Array.getElem?_modify]
  rw [if_neg (fun e => hn e.symm)]
theorem tblk_grow {w : World} {g t : Nat} {cs : Array Value} (h : Blk w g t cs) (os : Array Obj) : Blk (Go.Sort.grow w os) g t cs := by
  have hl := h.lt
  unfold Blk at h ⊢
  unfold Go.Sort.grow
  simp only [Array.getElem?_append, if_pos hl, h]
theorem tkeeps_grow {C : Foot} {w w' : World} (h : Keeps C w w') (os : Array Obj) : Keeps C w (Go.Sort.grow w' os) := by
  refine ⟨h.os, h.tape, h.output, by have := h.size; unfold Go.Sort.grow; simp; omega, fun x hx hn => ?_⟩
  have := h.size
  unfold Go.Sort.grow
  simp only [Array.getElem?_append]
  rw [if_pos (by omega)]
  exact h.block x hx hn
theorem tenCmp_neg (x y : Ten) : tenCmp x y < 0 ↔ x.res < y.res ∨ x.res = y.res ∧ x.frm < y.frm := by
  unfold tenCmp orJ cmpI
  split <;> split at * <;> (try split at *) <;> (try split) <;> (try split) <;> omega
theorem tenCmp_swo : SWO (ltOf tenCmp) where
  irrefl x := by unfold ltOf; rw [decide_eq_false_iff_not, tenCmp_neg]; omega
  trans x y z h1 h2 := by
    unfold ltOf at *
    rw [decide_eq_true_eq, tenCmp_neg] at *
    omega
  ntrans x y z h1 h2 := by
    unfold ltOf at *
    rw [decide_eq_false_iff_not, tenCmp_neg] at *
    omega
theorem tsorted {l : List Ten} {d' : Array Ten} (hp : PermIn 0 l.length l.toArray d') (hs : SortedIn (ltOf tenCmp) 0 l.length d') : d'.toList.Perm l ∧ d'.toList.Pairwise tenLe := by
  obtain ⟨h1, _, h3⟩ := hp
  have hsz : d'.size = l.length := by simpa using h1
  constructor
  · have e1 : d'.extract 0 l.length = d' := by rw [← hsz]; simp
    have e2 : l.toArray.extract 0 l.length = l.toArray := by simp
    rw [e1, e2] at h3
    simpa using h3
  · rw [List.pairwise_iff_getElem]
    intro i j hi hj hij
    have hi' : i < d'.size := by simpa using hi
    have hj' : j < d'.size := by simpa using hj
    have q := hs i j (Nat.zero_le _) hij (by rw [← hsz]; exact hj')
    rw [getElem!_pos d' i hi', getElem!_pos d' j hj'] at q
    unfold ltOf at q
    rw [decide_eq_false_iff_not, tenCmp_neg] at q
    simp only [Array.getElem_toList]
    unfold tenLe
    omega
set_option maxHeartbeats 1000000 in
theorem SortTen_any (g : Nat) (l : List Ten) (c : Nat) (cs : Array Value) (w : World) (hl : l.length < 4611686018427387904) (hb : Blk w g 66 cs) (hcl : TenC cs l) :
    Calls Tryz.prog 60 #[.slice (some ⟨g, 0, none⟩) l.length c, .func (.func 61) #[] #[]] w fun e w' => e = .returned (.tuple #[]) ∧ (∃ l' cs', l'.Perm l ∧ l'.Pairwise tenLe ∧ Blk w' g 66 cs' ∧ TenC cs' l') ∧ Keeps (fun b => b = g) w w' := by
  have hE : Enters 61 := enters_of Tryz.func61 (by kernel_rfl) rfl
  have hk5 : ∀ x : Ten, (encT x).length = 5 := fun _ => rfl
  have hone : ∀ x : Ten, ∀ v ∈ encT x, v.oneCell' = true := fun x v hv => by
    unfold encT tenC at hv
    simp at hv
    rcases hv with rfl | rfl | rfl | rfl | rfl <;> rfl
  have hsz : l.toArray.size = l.length := by simp
  have hH : HoldsK encT 5 w g 0 l.toArray := by
    intro j hj
    rw [size_flatK, hsz] at hj
    rw [get_flatK _ _ _ _ (by rw [hsz]; exact hj)]
    refine ⟨?_, hb.frozen _⟩
    rw [hb.cell]
    have hq : j / 5 < l.length := by omega
    have hm : l[j / 5]? = some l[j / 5] := List.getElem?_eq_getElem hq
    have := hcl _ _ hm (j % 5) (by omega)
    rw [show j / 5 * 5 + j % 5 = 0 + j from by omega] at this
    rw [this]
    have e : l.toArray[j / 5]! = l[j / 5] := by
      rw [getElem!_pos l.toArray (j / 5) (by rw [hsz]; exact hq)]
      simp
    show some _ = some (id (encT (l.toArray[j / 5]!))[j % 5]!)
    rw [e]; rfl
  have hcmp : CmpLays Tryz.prog 61 #[] encT 5 tenCmp g 0 l.toArray.size w := fun m os dk hdk x y => by
    refine (Free1_any x y _).mono ?_
    rintro e w' ⟨rfl, hg⟩
    exact ⟨rfl, tgr_grow hg⟩
  have hcon := AnyQ.slices_SortFunc sortTlay 5 Tryz.isAgg66 Tryz.sizeOf66 encT hk5 hone tenCmp tenCmp_swo 61 #[] g 0 c l.toArray w hE hcmp hH hb.lt (by rw [hsz]; omega)
  rw [hsz] at hcon
  change Calls Tryz.prog 60 _ _ _ at hcon
  refine hcon.mono ?_
  rintro e w' ⟨rfl, d', n, os, hp, hs, rfl⟩
  obtain ⟨s1, s2⟩ := tsorted hp hs
  have hds : d'.size = l.length := by rw [hp.1, hsz]
  refine ⟨rfl, ⟨_, _, s1, s2, tblk_grow (tblk_putRow (w := Go.Sort.ahead w n) hb _) os, ?_⟩, ?_⟩
  · intro k x hx c hc
    have hkl : k < d'.size := by simpa using getElem?_lt hx
    have hxk : d'[k]! = x := by
      rw [getElem!_pos d' k hkl]
      have : d'[k]? = some x := by rw [← Array.getElem?_toList]; exact hx
      rw [Array.getElem?_eq_getElem hkl] at this
      exact Option.some.inj this
    have hcs : ∀ i, i < l.length * 5 → i < cs.size := fun i hi => by
      have hq : i / 5 < l.length := by omega
      have := hcl _ _ (List.getElem?_eq_getElem hq) (i % 5) (by omega)
      have := (Array.getElem?_eq_some_iff.1 this).1
      omega
    have hlt : k * 5 + c < l.length * 5 := by omega
    unfold putCells
    rw [Array.getElem?_mapIdx, Array.getElem?_eq_getElem (hcs _ hlt), Option.map_some, if_pos ⟨Nat.zero_le _, by rw [size_flatK, hds]; omega⟩, get_flatK _ _ _ _ (by rw [hds]; omega)]
    rw [show (k * 5 + c - 0) / 5 = k from by omega, show (k * 5 + c - 0) % 5 = c from by omega, hxk]
    rfl
  · unfold sortWorldK putRowK
    refine tkeeps_grow ?_ os
    have h1 : Keeps (fun b => b = g) w (Go.Sort.ahead w n) := (Keeps.refl _ w).drewN n
    exact h1.trans (tkeeps_putRow _ g _) (fun _ _ h => h)
end Go.Proofs.YtcbcegdidlefiaaGreat
