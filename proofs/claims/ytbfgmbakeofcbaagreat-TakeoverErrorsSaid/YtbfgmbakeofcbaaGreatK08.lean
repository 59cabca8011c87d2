/- Contracts of slices.Clone, and of the search of takeover.Identify. Conditions: as each theorem says. Contract of the recursive search of takeover.Identify. Conditions: as each theorem says. -/
import Derived.Test.YtbfgmbakeofcbaaGreatK05
import Derived.Test.YtbfgmbakeofcbaaGreatK06
import Derived.Test.YtbfgmbakeofcbaaGreatK07
namespace Go.Proofs.YtbfgmbakeofcbaaGreat
open Go.RowKit

set_option maxHeartbeats 400000 in
theorem Clone_any (l : List Int) (A : Option Addr) (c : Nat) (w : World) (S : Foot) (h : RInts w S [.slice A l.length c] l) (hS : ∀ b, S b → b < w.heap.size) (hl : l.length ≤ 100000) :
    Calls Tryz.prog 72 #[.slice A l.length c] w fun e w' => ∃ v, e = .returned v ∧ RInts w' (Fresh w w') [v] l ∧ KeepsAll w w' := by
  have hnil : ∀ W, (binOp .eql 23 (.slice A l.length c) (.slice none 0 0)).run Tryz.prog W = .ok (.bool A.isNone) W := fun W => Lib.run_eql_slice_nil W 23 3 A l.length c 0 0 Tryz.underlying23
  have H := Lib.hid h; clear h
  have HS := Lib.hid hS; clear hS
  cases A with
  | none =>
    have e : Hid (l = []) := by
      obtain ⟨_, _, he, _, _, h3⟩ := H.out
      injection he with he _; injection he with ha _ _
      show l = []
      rcases Classical.em (l = []) with h | h
      · exact h
      · obtain ⟨b, o, hb, _⟩ := h3 h; rw [hb] at ha; cases ha
    simp only [Option.isNone_none] at hnil
    go_enter Tryz.func72, Tryz.ntmps72
    go_wp2
    go_ret
    exact ⟨_, rfl, by rw [e.out]; exact RSlice.mkNil, Keeps.refl _ _⟩
  | some ad =>
    simp only [Option.isNone_some] at hnil
    go_enter Tryz.func72, Tryz.ntmps72
    go_wp2_with (at_builtin; refine wpList_append_M tyInt RInt.ok RInt.one rfl (.tmp 5) (.tmp 6) rfl (OwnL.empty (base := w.heap.size) (lo := w.heap.size) (Blk.new w _ _) (Nat.le_refl _)) rfl rfl (S := S) (S2 := fun _ => False) (RInts.ok.mono H.out (fun _ h => h) (fun b hb => Below.heap_alloc w _ b (HS.out b hb))) (fun _ _ h => h) (fun _ h => h.elim) (by simp; omega) (by simp; omega) (by simp) ?_; intro v' w1 ho1 hk1 ha1)
    go_ret
    obtain ⟨A', c', rfl, _, _⟩ := ho1.form
    refine ⟨_, rfl, ?_, ((Keeps.refl _ _).alloc _).trans hk1 (fun x hx e => by simp [Value.ownBlock] at e; omega)⟩
    have := ho1.read RInt.ok (by omega) (S := Fresh w w1) (fun b h1 h2 => ⟨h1, h2⟩) (fun b h1 h2 => ⟨h1, h2⟩)
    simpa using this

theorem nodup_len : ∀ (h o : List Int), h.Nodup → (∀ x ∈ h, x ∈ o) → h.length ≤ o.length
  | [], o, _, _ => by simp
  | x :: t, o, hn, hs => by
    have hx := hs x (by simp)
    have ih := nodup_len t (o.erase x) (List.nodup_cons.1 hn).2 (fun y hy => by
      have hne : y ≠ x := by rintro rfl; exact (List.nodup_cons.1 hn).1 hy
      exact (List.mem_erase_of_ne hne).2 (hs y (by simp [hy])))
    rw [List.length_erase_of_mem hx] at ih
    have : 0 < o.length := List.length_pos_of_mem hx
    simp; omega

/-- the occupied sections, and whether no train holds them yet -/
def freeF (occ held : List Int) : Int → Option Value := fun k => if k ∈ occ then some (.bool (decide (k ∉ held))) else none
/-- the search's struct lies in block g, its map in block g + 1 -/
structure IdSt (w : World) (g : Nat) (A : Option Addr) (c : Nat) (ps : List (List Stage)) (A2 : Option Addr) (c2 : Nat) (exp occ : List Int) (budget : Nat) (at_ held : List Int) (vat : Value) (s : ISt) : Prop where
  blk : ∃ vb, Blk w g 57 #[.slice A ps.length c, .slice A2 exp.length c2, .map (some (g + 1)), .int .i64 ((occ.length : Int) - (held.length : Int)), .int .i64 budget, .int .i64 s.steps, vat, vb, .int .i64 (if s.found = 0 then -1 else s.sum), .bool (decide (s.found = 1))] ∧
    RInts w (fun b => g + 2 ≤ b ∧ b < w.heap.size ∧ vat.ownBlock ≠ some b) [vb] s.best
  map : ∃ ks, MapIs w (g + 1) ks (freeF occ held)
  at_ : OwnL 3 1 RInt w (g + 2) (g + 2) vat at_
  pth : RPaths w (fun b => b < g) [.slice A ps.length c] ps
  ex : RInts w (fun b => b < g) [.slice A2 exp.length c2] exp
  nd : held.Nodup
  sub : ∀ x ∈ held, x ∈ occ
  sums : s.found ≠ 0 → 0 ≤ s.sum ∧ s.sum ≤ 1000
def small (l : List Int) : Prop := l.length ≤ 10 ∧ ∀ x ∈ l, -1 ≤ x ∧ x ≤ 64
theorem absDiff_range (a b : Int) (h : -1 ≤ a ∧ a ≤ 64) (h' : -1 ≤ b ∧ b ≤ 64) : 0 ≤ absDiff a b ∧ absDiff a b ≤ 65 := by unfold absDiff; split <;> omega
theorem diffSum_range : ∀ (l m : List Int), (∀ x ∈ l, -1 ≤ x ∧ x ≤ 64) → (∀ x ∈ m, -1 ≤ x ∧ x ≤ 64) → 0 ≤ diffSum l m ∧ diffSum l m ≤ 65 * l.length
  | [], m, _, _ => by simp [diffSum]
  | a :: l, [], _, _ => by simp [diffSum]; omega
  | a :: l, b :: m, h, h' => by
    have h1 := absDiff_range a b (h a (by simp)) (h' b (by simp))
    have h2 := diffSum_range l m (fun x hx => h x (by simp [hx])) (fun x hx => h' x (by simp [hx]))
    simp only [diffSum, List.length_cons]; omega
theorem diffSum_step : ∀ (l m : List Int) (k : Nat) (a b : Int), l[k]? = some a → m[k]? = some b → diffSum (l.take (k + 1)) (m.take (k + 1)) = diffSum (l.take k) (m.take k) + absDiff a b
  | [], m, k, a, b, h, _ => by simp at h
  | x :: l, [], k, a, b, _, h => by simp at h
  | x :: l, y :: m, 0, a, b, h, h' => by simp at h h'; subst h h'; simp [diffSum]
  | x :: l, y :: m, k + 1, a, b, h, h' => by
    have := diffSum_step l m k a b (by simpa using h) (by simpa using h')
    simp only [List.take_succ_cons, diffSum, this]; omega

section
variable {w w' : World} {g : Nat} {A : Option Addr} {c : Nat} {ps : List (List Stage)} {A2 : Option Addr} {c2 : Nat} {exp occ : List Int} {budget : Nat} {at_ held : List Int} {vat : Value} {s s' : ISt}
theorem IdSt.lt (h : IdSt w g A c ps A2 c2 exp occ budget at_ held vat s) : g + 1 < w.heap.size := by obtain ⟨ks, hm⟩ := h.map; exact hm.lt
theorem IdSt.keeps0 (h : IdSt w g A c ps A2 c2 exp occ budget at_ held vat s) (k : KeepsAll w w') : IdSt w' g A c ps A2 c2 exp occ budget at_ held vat s := by
  have hg := h.lt
  obtain ⟨vb, h1, h2⟩ := h.blk
  obtain ⟨ks, hm⟩ := h.map
  refine ⟨⟨vb, h1.kept k (by simp), k.rd RInts.ok h2 (fun b hb => ⟨hb.2.1, by simp⟩) (fun b hb => ⟨hb.1, Nat.lt_of_lt_of_le hb.2.1 k.size, hb.2.2⟩)⟩, ⟨ks, hm.kept k (by simp)⟩, h.at_.keeps RInt.ok k (fun _ _ h => h.elim), ?_, ?_, h.nd, h.sub, h.sums⟩
  · exact k.rd RPaths.ok h.pth (fun b hb => ⟨by omega, by simp⟩) (fun _ h => h)
  · exact k.rd RInts.ok h.ex (fun b hb => ⟨by omega, by simp⟩) (fun _ h => h)
/-- the struct alone has turned -/
theorem IdSt.set (h : IdSt w g A c ps A2 c2 exp occ budget at_ held vat s) (k : Keeps (· = g) w w') {vb : Value} (hs : s'.found ≠ 0 → 0 ≤ s'.sum ∧ s'.sum ≤ 1000)
    (hb : Blk w' g 57 #[.slice A ps.length c, .slice A2 exp.length c2, .map (some (g + 1)), .int .i64 ((occ.length : Int) - (held.length : Int)), .int .i64 budget, .int .i64 s'.steps, vat, vb, .int .i64 (if s'.found = 0 then -1 else s'.sum), .bool (decide (s'.found = 1))])
    (hr : RInts w (fun b => g + 2 ≤ b ∧ b < w.heap.size ∧ vat.ownBlock ≠ some b) [vb] s'.best) : IdSt w' g A c ps A2 c2 exp occ budget at_ held vat s' := by
  have hg := h.lt
  obtain ⟨ks, hm⟩ := h.map
  refine ⟨⟨vb, hb, k.rd RInts.ok hr (fun b hb => ⟨hb.2.1, by omega⟩) (fun b hb => ⟨hb.1, Nat.lt_of_lt_of_le hb.2.1 k.size, hb.2.2⟩)⟩, ⟨ks, hm.kept k (by omega)⟩, h.at_.keeps RInt.ok k (fun b _ h => by omega), ?_, ?_, h.nd, h.sub, hs⟩
  · exact k.rd RPaths.ok h.pth (fun b hb => ⟨by omega, by omega⟩) (fun _ h => h)
  · exact k.rd RInts.ok h.ex (fun b hb => ⟨by omega, by omega⟩) (fun _ h => h)
end

set_option maxRecDepth 100000 in
set_option maxHeartbeats 1000000 in
theorem compare_any (w : World) (g : Nat) (A : Option Addr) (c : Nat) (ps : List (List Stage)) (A2 : Option Addr) (c2 : Nat) (exp occ : List Int) (budget : Nat) (at_ held : List Int) (vat : Value) (s : ISt)
    (h : IdSt w g A c ps A2 c2 exp occ budget at_ held vat s) (ha : small at_) (he : small exp) (hl : at_.length = exp.length) :
    Calls Tryz.prog 48 #[.pointer (some ⟨g, 0, none⟩)] w fun e w' => e = .returned (.tuple #[]) ∧ IdSt w' g A c ps A2 c2 exp occ budget at_ held vat (complete exp occ at_ held s) ∧ Keeps (fun b => g ≤ b) w w' := by
  obtain ⟨vb, hblk, hbest⟩ := h.blk
  have hlen := nodup_len held occ h.nd h.sub
  obtain ⟨Aa, ca, rfl, hca, hca2⟩ := h.at_.form
  have c3 := hblk.cell 3
  have c6 := hblk.cell 6
  have c1 := hblk.cell 1
  have c8 := hblk.cell 8
  simp at c1 c3 c6 c8
  have hl1 : at_.length ≤ exp.length := by omega
  have hl2 : exp.length ≤ at_.length := by omega
  have HL := Lib.hid hl; clear hl
  have hec := h.ex.caps
  have HR := Lib.hid (h.at_.read RInt.ok (by omega) (S := fun b => b < w.heap.size) (fun _ _ h => h) (fun _ _ h => h))
  have H := Lib.hid h; clear h
  have HB := Lib.hid hblk; clear hblk
  have HBE := Lib.hid hbest; clear hbest
  have HA := Lib.hid ha; clear ha
  have HE := Lib.hid he; clear he
  have ha10 := HA.out.1
  have he10 := HE.out.1
  by_cases g1 : held.length = occ.length
  · have g1' : occ.length ≤ held.length := by omega
    have G1 := Lib.hid g1; clear g1
    go_enter Tryz.func48, Tryz.ntmps48
    go_wp2
    go_loopw [2, 15] (fun v i wr => ∃ k : Nat, k ≤ at_.length ∧ i = .int .i64 k ∧ v = .int .i64 (diffSum (at_.take k) (exp.take k)) ∧ ∃ n, wr = w.drewN n) (fun _ i _ => at_.length - (intOf i).toNat)
    case atStart => exact ⟨0, Nat.zero_le _, rfl, by simp [diffSum], 0, rfl⟩
    case round =>
      obtain ⟨k, hk, rfl, rfl, n, rfl⟩ := hrel
      have hr := diffSum_range (at_.take k) (exp.take k) (fun x hx => HA.out.2 x (List.mem_of_mem_take hx)) (fun x hx => HE.out.2 x (List.mem_of_mem_take hx))
      have hr2 : diffSum (at_.take k) (exp.take k) ≤ 650 := by
        have : (at_.take k).length ≤ 10 := by simp; omega
        omega
      have hr1 := hr.1
      clear hr
      by_cases hlt : k < at_.length
      · obtain ⟨b1, o1, x, rfl, _, hx, k1⟩ := RInts.at_ HR.out hlt
        obtain ⟨b2, o2, y, rfl, _, hy, k2⟩ := H.out.ex.at_ (k := k) (by omega)
        have hxr := HA.out.2 x (List.mem_of_getElem? hx)
        have hyr := HE.out.2 y (List.mem_of_getElem? hy)
        have ST := Lib.hid (diffSum_step at_ exp k x y hx hy)
        clear hx hy
        generalize diffSum (at_.take k) (exp.take k) = D at hr1 hr2 ST
        go_wp2
        go_quiet (fail)
        go_wp2
        go_roundw
        case rel =>
          refine ⟨k + 1, by omega, by go_num, ?_, _, rfl⟩
          rw [ST.out]; rfl
        case measure => simp [intOf]; omega
      · obtain rfl : k = at_.length := by omega
        have e1 : Hid (diffSum (at_.take at_.length) (exp.take at_.length) = diffSum at_ exp) := by
          show _ = _
          rw [List.take_length, HL.out, List.take_length]
        generalize hD : diffSum (at_.take at_.length) (exp.take at_.length) = D at hr1 hr2
        have HD : Hid (diffSum at_ exp = D) := by rw [← e1.out]; exact hD
        clear hD e1
        by_cases g2 : s.found = 0
        · have e8 : (if s.found = 0 then (-1 : Int) else s.sum) = -1 := by simp [g2]
          rw [e8] at c8
          clear e8
          have Q : Hid (complete exp occ at_ held s = { s with found := 1, sum := D, best := at_ }) := by
            show complete exp occ at_ held s = { s with found := 1, sum := D, best := at_ }
            simp [complete, G1.out, g2, HD.out]
          clear g2
          go_wp2_with fail
          refine (Clone_any at_ Aa ca (w.drewN n) (fun b => b < w.heap.size) (by exact HR.out) (by exact fun b hb => hb) (by omega)).mono ?_
          rintro e w2 ⟨vn, rfl, hrn, hkn⟩
          have H2 := Lib.hid (H.out.keeps0 (((Keeps.refl _ w).drewN n).trans hkn (fun _ _ h => h)))
          have hwz : w.heap.size ≤ w2.heap.size := hkn.size
          have hgz := H.out.lt
          obtain ⟨vb2, hblk2, hbest2⟩ := H2.out.blk
          have d7 := hblk2.cell 7
          have d8 := hblk2.cell 8
          have d9 := hblk2.cell 9
          have e7 := hblk2.frozen 7
          have e8 := hblk2.frozen 8
          have e9 := hblk2.frozen 9
          simp at d7 d8 d9
          have HB2 := Lib.hid hblk2; clear hblk2 hbest2
          have hvn : ∃ An cn, vn = .slice An at_.length cn := by obtain ⟨An, cn, he, _⟩ := hrn; injection he with he _; exact ⟨An, cn, he⟩
          obtain ⟨An, cn, rfl⟩ := hvn
          have HRN := Lib.hid hrn; clear hrn
          have HKN := Lib.hid hkn; clear hkn
          have HFAR : Hid (∀ b, w.heap.size ≤ b → (Value.slice Aa at_.length ca).ownBlock ≠ some b) := fun b hb e => by have := H.out.at_.lt e; omega
          go_wp2
          refine bodyPost_end (results_none rfl _ _ _) rfl ?_
          have KK := (((Keeps.refl (· = g) w2).setCell (p := ⟨g, 7, none⟩) (fun _ => rfl) (.slice An at_.length cn)).setCell (p := ⟨g, 8, none⟩) (fun _ => rfl) (.int .i64 D)).setCell (p := ⟨g, 9, none⟩) (fun _ => rfl) (.bool true)
          refine ⟨rfl, ?_, ((((Keeps.refl _ w).drewN n).trans HKN.out (fun _ _ h => h.elim)).trans KK (fun x _ e => by omega))⟩
          rw [Q.out]
          refine H2.out.set KK (fun _ => ⟨hr1, by show D ≤ 1000; omega⟩) (vb := .slice An at_.length cn) ?_ (RInts.ok.mono HRN.out (fun b hb => ⟨by have := hb.1; simp at this; omega, hb.2, HFAR.out b hb.1⟩) (fun _ _ => rfl))
          have := ((HB2.out.set_ 7 (.slice An at_.length cn)).set_ 8 (.int .i64 D)).set_ 9 (.bool true)
          simpa using this
        · have e8 : (if s.found = 0 then (-1 : Int) else s.sum) = s.sum := by simp [g2]
          rw [e8] at c8
          clear e8
          have hss := H.out.sums g2
          by_cases g3 : D < s.sum
          · have Q : Hid (complete exp occ at_ held s = { s with found := 1, sum := D, best := at_ }) := by
              show complete exp occ at_ held s = { s with found := 1, sum := D, best := at_ }
              simp [complete, G1.out, g2, HD.out, g3]
            have g2' : decide (s.sum < 0) = false := by simp; omega
            have G2 := Lib.hid g2; clear g2
            go_wp2_with fail
            refine (Clone_any at_ Aa ca (w.drewN n) (fun b => b < w.heap.size) (by exact HR.out) (by exact fun b hb => hb) (by omega)).mono ?_
            rintro e w2 ⟨vn, rfl, hrn, hkn⟩
            have H2 := Lib.hid (H.out.keeps0 (((Keeps.refl _ w).drewN n).trans hkn (fun _ _ h => h)))
            have hwz : w.heap.size ≤ w2.heap.size := hkn.size
            have hgz := H.out.lt
            obtain ⟨vb2, hblk2, hbest2⟩ := H2.out.blk
            have d7 := hblk2.cell 7
            have d8 := hblk2.cell 8
            have d9 := hblk2.cell 9
            have e7 := hblk2.frozen 7
            have e8 := hblk2.frozen 8
            have e9 := hblk2.frozen 9
            simp at d7 d8 d9
            have HB2 := Lib.hid hblk2; clear hblk2 hbest2
            have hvn : ∃ An cn, vn = .slice An at_.length cn := by obtain ⟨An, cn, he, _⟩ := hrn; injection he with he _; exact ⟨An, cn, he⟩
            obtain ⟨An, cn, rfl⟩ := hvn
            have HRN := Lib.hid hrn; clear hrn
            have HKN := Lib.hid hkn; clear hkn
            have HFAR : Hid (∀ b, w.heap.size ≤ b → (Value.slice Aa at_.length ca).ownBlock ≠ some b) := fun b hb e => by have := H.out.at_.lt e; omega
            go_wp2
            refine bodyPost_end (results_none rfl _ _ _) rfl ?_
            have KK := (((Keeps.refl (· = g) w2).setCell (p := ⟨g, 7, none⟩) (fun _ => rfl) (.slice An at_.length cn)).setCell (p := ⟨g, 8, none⟩) (fun _ => rfl) (.int .i64 D)).setCell (p := ⟨g, 9, none⟩) (fun _ => rfl) (.bool true)
            refine ⟨rfl, ?_, ((((Keeps.refl _ w).drewN n).trans HKN.out (fun _ _ h => h.elim)).trans KK (fun x _ e => by omega))⟩
            rw [Q.out]
            refine H2.out.set KK (fun _ => ⟨hr1, by show D ≤ 1000; omega⟩) (vb := .slice An at_.length cn) ?_ (RInts.ok.mono HRN.out (fun b hb => ⟨by have := hb.1; simp at this; omega, hb.2, HFAR.out b hb.1⟩) (fun _ _ => rfl))
            have := ((HB2.out.set_ 7 (.slice An at_.length cn)).set_ 8 (.int .i64 D)).set_ 9 (.bool true)
            simpa using this
          · have g2' : decide (s.sum < 0) = false := by simp; omega
            have g3' : decide (D < s.sum) = false := by simp; omega
            by_cases g4 : D = s.sum
            · have Q : Hid (complete exp occ at_ held s = { s with found := s.found + 1 }) := by
                show complete exp occ at_ held s = { s with found := s.found + 1 }
                simp [complete, G1.out, g2, HD.out, g4]
              have g4' : (D == s.sum) = true := by simpa using g4
              have d9 := HB.out.cell 9
              have e9 := HB.out.frozen 9
              simp at d9
              have G2 := Lib.hid g2; clear g2 g4
              go_wp2
              refine bodyPost_end (results_none rfl _ _ _) rfl ?_
              have KK := ((Keeps.refl (· = g) w).drewN n).setCell (p := ⟨g, 9, none⟩) (fun _ => rfl) (.bool false)
              refine ⟨rfl, ?_, KK.mono (fun x _ e => by omega)⟩
              rw [Q.out]
              refine H.out.set (s' := { s with found := s.found + 1 }) KK (fun _ => hss) (vb := vb) ?_ HBE.out
              have := (show Blk (w.drewN n) g _ _ from HB.out).set_ 9 (.bool false)
              have hf : decide (s.found + 1 = 1) = false := by simp; exact G2.out
              have hf2 : (if s.found + 1 = 0 then (-1 : Int) else s.sum) = (if s.found = 0 then -1 else s.sum) := by simp [G2.out]
              simp only [hf, hf2]
              simpa using this
            · have Q : Hid (complete exp occ at_ held s = s) := by
                show complete exp occ at_ held s = s
                simp only [complete, G1.out, if_true, HD.out]
                rw [if_neg (by simp [g2]; omega), if_neg g4]
              have g4' : (D == s.sum) = false := by simpa using g4
              have G2 := Lib.hid g2; clear g2
              go_wp2
              refine bodyPost_end (results_none rfl _ _ _) rfl ?_
              refine ⟨rfl, ?_, (Keeps.refl _ _).drewN _⟩
              rw [Q.out]
              exact H.out.keeps0 ((Keeps.refl _ _).drewN _)
  · have g1' : held.length < occ.length := by omega
    have Q : Hid (complete exp occ at_ held s = s) := by show complete exp occ at_ held s = s; simp [complete, g1]
    clear g1
    go_enter Tryz.func48, Tryz.ntmps48
    go_wp2
    refine bodyPost_ret (results_none rfl _ _ _) rfl ?_
    exact ⟨rfl, by rw [Q.out]; exact H.out, Keeps.refl _ _⟩

/-- the search's struct with its fields as they stand -/
structure IdRaw (w : World) (g : Nat) (A : Option Addr) (c : Nat) (ps : List (List Stage)) (A2 : Option Addr) (c2 : Nat) (exp : List Int) (mis : Int) (budget steps : Nat) (f : Int → Option Value) (at_ : List Int) (vat : Value) (best : List Int) (sm : Int) (un : Bool) : Prop where
  blk : ∃ vb, Blk w g 57 #[.slice A ps.length c, .slice A2 exp.length c2, .map (some (g + 1)), .int .i64 mis, .int .i64 budget, .int .i64 steps, vat, vb, .int .i64 sm, .bool un] ∧
    RInts w (fun b => g + 2 ≤ b ∧ b < w.heap.size ∧ vat.ownBlock ≠ some b) [vb] best
  map : ∃ ks, MapIs w (g + 1) ks f
  at_ : OwnL 3 1 RInt w (g + 2) (g + 2) vat at_
  pth : RPaths w (fun b => b < g) [.slice A ps.length c] ps
  ex : RInts w (fun b => b < g) [.slice A2 exp.length c2] exp

section
variable {w w' : World} {g : Nat} {A : Option Addr} {c : Nat} {ps : List (List Stage)} {A2 : Option Addr} {c2 : Nat} {exp occ : List Int} {budget : Nat} {at_ held : List Int} {vat : Value} {s : ISt}
  {mis : Int} {steps : Nat} {f : Int → Option Value} {best : List Int} {sm : Int} {un : Bool}
theorem IdSt.raw (h : IdSt w g A c ps A2 c2 exp occ budget at_ held vat s) : IdRaw w g A c ps A2 c2 exp ((occ.length : Int) - (held.length : Int)) budget s.steps (freeF occ held) at_ vat s.best (if s.found = 0 then -1 else s.sum) (decide (s.found = 1)) := ⟨h.blk, h.map, h.at_, h.pth, h.ex⟩
theorem IdRaw.st (h : IdRaw w g A c ps A2 c2 exp ((occ.length : Int) - (held.length : Int)) budget s.steps (freeF occ held) at_ vat s.best (if s.found = 0 then -1 else s.sum) (decide (s.found = 1))) (h1 : held.Nodup) (h2 : ∀ x ∈ held, x ∈ occ) (h3 : s.found ≠ 0 → 0 ≤ s.sum ∧ s.sum ≤ 1000) :
    IdSt w g A c ps A2 c2 exp occ budget at_ held vat s := ⟨h.blk, h.map, h.at_, h.pth, h.ex, h1, h2, h3⟩
theorem IdRaw.lt (h : IdRaw w g A c ps A2 c2 exp mis budget steps f at_ vat best sm un) : g + 1 < w.heap.size := by obtain ⟨ks, hm⟩ := h.map; exact hm.lt
theorem IdRaw.keeps0 (h : IdRaw w g A c ps A2 c2 exp mis budget steps f at_ vat best sm un) (k : KeepsAll w w') : IdRaw w' g A c ps A2 c2 exp mis budget steps f at_ vat best sm un := by
  have hg := h.lt
  obtain ⟨vb, h1, h2⟩ := h.blk
  obtain ⟨ks, hm⟩ := h.map
  refine ⟨⟨vb, h1.kept k (by simp), k.rd RInts.ok h2 (fun b hb => ⟨hb.2.1, by simp⟩) (fun b hb => ⟨hb.1, Nat.lt_of_lt_of_le hb.2.1 k.size, hb.2.2⟩)⟩, ⟨ks, hm.kept k (by simp)⟩, h.at_.keeps RInt.ok k (fun _ _ h => h.elim), ?_, ?_⟩
  · exact k.rd RPaths.ok h.pth (fun b hb => ⟨by omega, by simp⟩) (fun _ h => h)
  · exact k.rd RInts.ok h.ex (fun b hb => ⟨by omega, by simp⟩) (fun _ h => h)
/-- the struct alone has turned, at is as it was -/
theorem IdRaw.set {mis' : Int} {steps' : Nat} (h : IdRaw w g A c ps A2 c2 exp mis budget steps f at_ vat best sm un) (k : Keeps (· = g) w w')
    (hb : ∀ vb, Blk w g 57 #[.slice A ps.length c, .slice A2 exp.length c2, .map (some (g + 1)), .int .i64 mis, .int .i64 budget, .int .i64 steps, vat, vb, .int .i64 sm, .bool un] → Blk w' g 57 #[.slice A ps.length c, .slice A2 exp.length c2, .map (some (g + 1)), .int .i64 mis', .int .i64 budget, .int .i64 steps', vat, vb, .int .i64 sm, .bool un]) :
    IdRaw w' g A c ps A2 c2 exp mis' budget steps' f at_ vat best sm un := by
  have hg := h.lt
  obtain ⟨vb, h1, h2⟩ := h.blk
  obtain ⟨ks, hm⟩ := h.map
  refine ⟨⟨vb, hb vb h1, k.rd RInts.ok h2 (fun b hb => ⟨hb.2.1, by omega⟩) (fun b hb => ⟨hb.1, Nat.lt_of_lt_of_le hb.2.1 k.size, hb.2.2⟩)⟩, ⟨ks, hm.kept k (by omega)⟩, h.at_.keeps RInt.ok k (fun b _ h => by omega), ?_, ?_⟩
  · exact k.rd RPaths.ok h.pth (fun b hb => ⟨by omega, by omega⟩) (fun _ h => h)
  · exact k.rd RInts.ok h.ex (fun b hb => ⟨by omega, by omega⟩) (fun _ h => h)
theorem IdRaw.setSteps (h : IdRaw w g A c ps A2 c2 exp mis budget steps f at_ vat best sm un) (n : Nat) (k : Nat) : IdRaw ((w.drewN k).setCell ⟨g, 5, none⟩ (.int .i64 n)) g A c ps A2 c2 exp mis budget n f at_ vat best sm un :=
  h.set (((Keeps.refl (· = g) w).drewN k).setCell (p := ⟨g, 5, none⟩) (fun _ => rfl) _) (fun vb hb => by have := (show Blk (w.drewN k) g _ _ from hb).set_ 5 (.int .i64 n); simpa using this)
theorem IdRaw.setMis (h : IdRaw w g A c ps A2 c2 exp mis budget steps f at_ vat best sm un) (n : Int) : IdRaw (w.setCell ⟨g, 3, none⟩ (.int .i64 n)) g A c ps A2 c2 exp n budget steps f at_ vat best sm un :=
  h.set ((Keeps.refl (· = g) w).setCell (p := ⟨g, 3, none⟩) (fun _ => rfl) _) (fun vb hb => by have := hb.set_ 3 (.int .i64 n); simpa using this)
/-- the map alone has turned -/
theorem IdRaw.setMap {f' : Int → Option Value} (h : IdRaw w g A c ps A2 c2 exp mis budget steps f at_ vat best sm un) (k : Keeps (· = g + 1) w w') (hm : ∃ ks, MapIs w' (g + 1) ks f') : IdRaw w' g A c ps A2 c2 exp mis budget steps f' at_ vat best sm un := by
  have hg := h.lt
  obtain ⟨vb, h1, h2⟩ := h.blk
  refine ⟨⟨vb, h1.kept k (by omega), k.rd RInts.ok h2 (fun b hb => ⟨hb.2.1, by omega⟩) (fun b hb => ⟨hb.1, Nat.lt_of_lt_of_le hb.2.1 k.size, hb.2.2⟩)⟩, hm, h.at_.keeps RInt.ok k (fun b _ h => by omega), ?_, ?_⟩
  · exact k.rd RPaths.ok h.pth (fun b hb => ⟨by omega, by omega⟩) (fun _ h => h)
  · exact k.rd RInts.ok h.ex (fun b hb => ⟨by omega, by omega⟩) (fun _ h => h)
theorem IdRaw.push {o : Obj} {vat' : Value} {x : Int} (h : IdRaw w g A c ps A2 c2 exp mis budget steps f at_ vat best sm un) (ho : OwnL 3 1 RInt w' (g + 2) (g + 2) vat' (at_ ++ [x])) (k : Keeps (fun b => vat.ownBlock = some b) (w.alloc o) w')
    (ha : vat'.ownBlock = vat.ownBlock ∨ vat'.ownBlock = some (w.alloc o).heap.size) : IdRaw (w'.setCell ⟨g, 6, none⟩ vat') g A c ps A2 c2 exp mis budget steps f (at_ ++ [x]) vat' best sm un := by
  have hg := h.lt
  obtain ⟨vb, h1, h2⟩ := h.blk
  obtain ⟨ks, hm⟩ := h.map
  have far : ∀ b, b < g + 2 → ¬ (vat.ownBlock = some b) := fun b hb e => by have := h.at_.lt e; omega
  have k2 : Keeps (fun b => vat.ownBlock = some b) w w' := ((Keeps.refl _ w).alloc o).trans k (fun _ _ h => h)
  have k3 : Keeps (fun b => vat.ownBlock = some b ∨ b = g) w (w'.setCell ⟨g, 6, none⟩ vat') := (k2.mono (fun _ _ h => .inl h)).setCell (p := ⟨g, 6, none⟩) (fun _ => .inr rfl) _
  have kg := (Keeps.refl (· = g) w').setCell (p := ⟨g, 6, none⟩) (fun _ => rfl) vat'
  refine ⟨⟨vb, ?_, ?_⟩, ⟨ks, hm.kept k3 (fun e => by rcases e with e | e; exact far _ (by omega) e; omega)⟩, ho.keeps RInt.ok kg (fun b _ e => by omega), ?_, ?_⟩
  · have := (h1.kept k2 (far g (by omega))).set_ 6 vat'; simpa using this
  · refine k3.rd RInts.ok h2 (fun b hb => ⟨hb.2.1, fun e => by rcases e with e | e; exact hb.2.2 e; omega⟩) (fun b hb => ⟨hb.1, Nat.lt_of_lt_of_le hb.2.1 k3.size, fun e => ?_⟩)
    rcases ha with ha | ha
    · exact hb.2.2 (by rw [← ha]; exact e)
    · rw [ha] at e; injection e with e; have := hb.2.1; simp at e; omega
  · exact k3.rd RPaths.ok h.pth (fun b hb => ⟨by omega, fun e => by rcases e with e | e; exact far b (by omega) e; omega⟩) (fun _ h => h)
  · exact k3.rd RInts.ok h.ex (fun b hb => ⟨by omega, fun e => by rcases e with e | e; exact far b (by omega) e; omega⟩) (fun _ h => h)
theorem IdRaw.cut {Aa : Addr} {n cc t : Nat} (h : IdRaw w g A c ps A2 c2 exp mis budget steps f at_ (.slice (some Aa) n cc) best sm un) (ht : t ≤ at_.length) : IdRaw (w.setCell ⟨g, 6, none⟩ (.slice (some Aa) t cc)) g A c ps A2 c2 exp mis budget steps f (at_.take t) (.slice (some Aa) t cc) best sm un := by
  have hg := h.lt
  obtain ⟨vb, h1, h2⟩ := h.blk
  obtain ⟨ks, hm⟩ := h.map
  have k := (Keeps.refl (· = g) w).setCell (p := ⟨g, 6, none⟩) (fun _ => rfl) (.slice (some Aa) t cc)
  refine ⟨⟨vb, by have := h1.set_ 6 (.slice (some Aa) t cc); simpa using this, k.rd RInts.ok h2 (fun b hb => ⟨hb.2.1, by omega⟩) (fun b hb => ⟨hb.1, Nat.lt_of_lt_of_le hb.2.1 k.size, hb.2.2⟩)⟩, ⟨ks, hm.kept k (by omega)⟩, (h.at_.cut ht (.inl (by simp))).keeps RInt.ok k (fun b _ h => by omega), ?_, ?_⟩
  · exact k.rd RPaths.ok h.pth (fun b hb => ⟨by omega, by omega⟩) (fun _ h => h)
  · exact k.rd RInts.ok h.ex (fun b hb => ⟨by omega, by omega⟩) (fun _ h => h)
end

end Go.Proofs.YtbfgmbakeofcbaaGreat
