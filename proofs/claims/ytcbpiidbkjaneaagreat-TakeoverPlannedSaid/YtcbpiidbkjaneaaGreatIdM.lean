/- Contracts of slices.Clone, and of the search of takeover.Identify. Conditions: as each theorem says. Contract of the recursive search of takeover.Identify. Conditions: as each theorem says. Contract of (*identification).assign. Conditions: as the theorem says. Contract of takeover.Identify. Conditions: as the theorem says. -/
import Derived.Test.YtcbpiidbkjaneaaGreatIdentP
import Derived.Test.YtcbpiidbkjaneaaGreatMaps
import Derived.Test.YtcbpiidbkjaneaaGreatMade
import Derived.Test.YtcbpiidbkjaneaaGreatLex
namespace Go.Proofs.YtcbpiidbkjaneaaGreat
open Go.RowKit

set_option maxHeartbeats 400000 in
theorem Clone_any (l : List Int) (A : Option Addr) (c : Nat) (w : World) (S : Foot) (h : RInts w S [.slice A l.length c] l) (hS : ∀ b, S b → b < w.heap.size) (hl : l.length ≤ 100000) :
    Calls Tryz.prog 72 #[.slice A l.length c] w fun e w' => ∃ v, e = .returned v ∧ RInts w' (Fresh w w') [v] l ∧ KeepsAll w w' := by
  have hnil : ∀ W, (binOp .eql 23 (.slice A l.length c) (.slice none 0 0)).run Tryz.prog W = .ok (.bool A.isNone) W := fun W => Lib.run_eql_slice_nil W 23 3 A l.length c 0 0 Tryz.underlying23
  have H := Lib.hid h; clear h
  have HS := Lib.hid hS; clear hS
  cases A with
  | none =>
    have e : Hid (l = []) := by
      obtain ⟨_, _, he, _, _, h3⟩ := H.out
      injection he with he _; injection he with ha _ _
      show l = []
      rcases Classical.em (l = []) with h | h
      · exact h
      · obtain ⟨b, o, hb, _⟩ := h3 h; rw [hb] at ha; cases ha
    simp only [Option.isNone_none] at hnil
    go_enter Tryz.func72, Tryz.ntmps72
    go_wp2
    go_ret
    exact ⟨_, rfl, by rw [e.out]; exact RSlice.mkNil, Keeps.refl _ _⟩
  | some ad =>
    simp only [Option.isNone_some] at hnil
    go_enter Tryz.func72, Tryz.ntmps72
    go_wp2_with (at_builtin; refine wpList_append_M tyInt RInt.ok RInt.one rfl (.tmp 5) (.tmp 6) rfl (OwnL.empty (base := w.heap.size) (lo := w.heap.size) (Blk.new w _ _) (Nat.le_refl _)) rfl rfl (S := S) (S2 := fun _ => False) (RInts.ok.mono H.out (fun _ h => h) (fun b hb => Below.heap_alloc w _ b (HS.out b hb))) (fun _ _ h => h) (fun _ h => h.elim) (by simp; omega) (by simp; omega) (by simp) ?_; intro v' w1 ho1 hk1 ha1)
    go_ret
    obtain ⟨A', c', rfl, _, _⟩ := ho1.form
    refine ⟨_, rfl, ?_, ((Keeps.refl _ _).alloc _).trans hk1 (fun x hx e => by simp [Value.ownBlock] at e; omega)⟩
    have := ho1.read RInt.ok (by omega) (S := Fresh w w1) (fun b h1 h2 => ⟨h1, h2⟩) (fun b h1 h2 => ⟨h1, h2⟩)
    simpa using this

theorem nodup_len : ∀ (h o : List Int), h.Nodup → (∀ x ∈ h, x ∈ o) → h.length ≤ o.length
  | [], o, _, _ => by simp
  | x :: t, o, hn, hs => by
    have hx := hs x (by simp)
    have ih := nodup_len t (o.erase x) (List.nodup_cons.1 hn).2 (fun y hy => by
      have hne : y ≠ x := by rintro rfl; exact (List.nodup_cons.1 hn).1 hy
      exact (List.mem_erase_of_ne hne).2 (hs y (by simp [hy])))
    rw [List.length_erase_of_mem hx] at ih
    have : 0 < o.length := List.length_pos_of_mem hx
    simp; omega

/-- the occupied sections, and whether no train holds them yet -/
def freeF (occ held : List Int) : Int → Option Value := fun k => if k ∈ occ then some (.bool (decide (k ∉ held))) else none
/-- the search's struct lies in block g, its map in block g + 1 -/
structure IdSt (w : World) (g : Nat) (A : Option Addr) (c : Nat) (ps : List (List Stage)) (A2 : Option Addr) (c2 : Nat) (exp occ : List Int) (budget : Nat) (at_ held : List Int) (vat : Value) (s : ISt) : Prop where
  blk : ∃ vb, Blk w g 57 #[.slice A ps.length c, .slice A2 exp.length c2, .map (some (g + 1)), .int .i64 ((occ.length : Int) - (held.length : Int)), .int .i64 budget, .int .i64 s.steps, vat, vb, .int .i64 (if s.found = 0 then -1 else s.sum), .bool (decide (s.found = 1))] ∧
    RInts w (fun b => g + 2 ≤ b ∧ b < w.heap.size ∧ vat.ownBlock ≠ some b) [vb] s.best
  map : ∃ ks, MapIs w (g + 1) ks (freeF occ held)
  at_ : OwnL 3 1 RInt w (g + 2) (g + 2) vat at_
  pth : RPaths w (fun b => b < g) [.slice A ps.length c] ps
  ex : RInts w (fun b => b < g) [.slice A2 exp.length c2] exp
  nd : held.Nodup
  sub : ∀ x ∈ held, x ∈ occ
  sums : s.found ≠ 0 → 0 ≤ s.sum ∧ s.sum ≤ 1000
def small (l : List Int) : Prop := l.length ≤ 10 ∧ ∀ x ∈ l, -1 ≤ x ∧ x ≤ 64
theorem absDiff_range (a b : Int) (h : -1 ≤ a ∧ a ≤ 64) (h' : -1 ≤ b ∧ b ≤ 64) : 0 ≤ absDiff a b ∧ absDiff a b ≤ 65 := by unfold absDiff; split <;> omega
theorem diffSum_range : ∀ (l m : List Int), (∀ x ∈ l, -1 ≤ x ∧ x ≤ 64) → (∀ x ∈ m, -1 ≤ x ∧ x ≤ 64) → 0 ≤ diffSum l m ∧ diffSum l m ≤ 65 * l.length
  | [], m, _, _ => by simp [diffSum]
  | a :: l, [], _, _ => by simp [diffSum]; omega
  | a :: l, b :: m, h, h' => by
    have h1 := absDiff_range a b (h a (by simp)) (h' b (by simp))
    have h2 := diffSum_range l m (fun x hx => h x (by simp [hx])) (fun x hx => h' x (by simp [hx]))
    simp only [diffSum, List.length_cons]; omega
theorem diffSum_step : ∀ (l m : List Int) (k : Nat) (a b : Int), l[k]? = some a → m[k]? = some b → diffSum (l.take (k + 1)) (m.take (k + 1)) = diffSum (l.take k) (m.take k) + absDiff a b
  | [], m, k, a, b, h, _ => by simp at h
  | x :: l, [], k, a, b, _, h => by simp at h
  | x :: l, y :: m, 0, a, b, h, h' => by simp at h h'; subst h h'; simp [diffSum]
  | x :: l, y :: m, k + 1, a, b, h, h' => by
    have := diffSum_step l m k a b (by simpa using h) (by simpa using h')
    simp only [List.take_succ_cons, diffSum, this]; omega

section
variable {w w' : World} {g : Nat} {A : Option Addr} {c : Nat} {ps : List (List Stage)} {A2 : Option Addr} {c2 : Nat} {exp occ : List Int} {budget : Nat} {at_ held : List Int} {vat : Value} {s s' : ISt}
theorem IdSt.lt (h : IdSt w g A c ps A2 c2 exp occ budget at_ held vat s) : g + 1 < w.heap.size := by obtain ⟨ks, hm⟩ := h.map; exact hm.lt
theorem IdSt.keeps0 (h : IdSt w g A c ps A2 c2 exp occ budget at_ held vat s) (k : KeepsAll w w') : IdSt w' g A c ps A2 c2 exp occ budget at_ held vat s := by
  have hg := h.lt
  obtain ⟨vb, h1, h2⟩ := h.blk
  obtain ⟨ks, hm⟩ := h.map
  refine ⟨⟨vb, h1.kept k (by simp), k.rd RInts.ok h2 (fun b hb => ⟨hb.2.1, by simp⟩) (fun b hb => ⟨hb.1, Nat.lt_of_lt_of_le hb.2.1 k.size, hb.2.2⟩)⟩, ⟨ks, hm.kept k (by simp)⟩, h.at_.keeps RInt.ok k (fun _ _ h => h.elim), ?_, ?_, h.nd, h.sub, h.sums⟩
  · exact k.rd RPaths.ok h.pth (fun b hb => ⟨by omega, by simp⟩) (fun _ h => h)
  · exact k.rd RInts.ok h.ex (fun b hb => ⟨by omega, by simp⟩) (fun _ h => h)
/-- the struct alone has turned -/
theorem IdSt.set (h : IdSt w g A c ps A2 c2 exp occ budget at_ held vat s) (k : Keeps (· = g) w w') {vb : Value} (hs : s'.found ≠ 0 → 0 ≤ s'.sum ∧ s'.sum ≤ 1000)
    (hb : Blk w' g 57 #[.slice A ps.length c, .slice A2 exp.length c2, .map (some (g + 1)), .int .i64 ((occ.length : Int) - (held.length : Int)), .int .i64 budget, .int .i64 s'.steps, vat, vb, .int .i64 (if s'.found = 0 then -1 else s'.sum), .bool (decide (s'.found = 1))])
    (hr : RInts w (fun b => g + 2 ≤ b ∧ b < w.heap.size ∧ vat.ownBlock ≠ some b) [vb] s'.best) : IdSt w' g A c ps A2 c2 exp occ budget at_ held vat s' := by
  have hg := h.lt
  obtain ⟨ks, hm⟩ := h.map
  refine ⟨⟨vb, hb, k.rd RInts.ok hr (fun b hb => ⟨hb.2.1, by omega⟩) (fun b hb => ⟨hb.1, Nat.lt_of_lt_of_le hb.2.1 k.size, hb.2.2⟩)⟩, ⟨ks, hm.kept k (by omega)⟩, h.at_.keeps RInt.ok k (fun b _ h => by omega), ?_, ?_, h.nd, h.sub, hs⟩
  · exact k.rd RPaths.ok h.pth (fun b hb => ⟨by omega, by omega⟩) (fun _ h => h)
  · exact k.rd RInts.ok h.ex (fun b hb => ⟨by omega, by omega⟩) (fun _ h => h)
end

set_option maxRecDepth 100000 in
set_option maxHeartbeats 1000000 in
theorem compare_any (w : World) (g : Nat) (A : Option Addr) (c : Nat) (ps : List (List Stage)) (A2 : Option Addr) (c2 : Nat) (exp occ : List Int) (budget : Nat) (at_ held : List Int) (vat : Value) (s : ISt)
    (h : IdSt w g A c ps A2 c2 exp occ budget at_ held vat s) (ha : small at_) (he : small exp) (hl : at_.length = exp.length) :
    Calls Tryz.prog 48 #[.pointer (some ⟨g, 0, none⟩)] w fun e w' => e = .returned (.tuple #[]) ∧ IdSt w' g A c ps A2 c2 exp occ budget at_ held vat (complete exp occ at_ held s) ∧ Keeps (fun b => g ≤ b) w w' := by
  obtain ⟨vb, hblk, hbest⟩ := h.blk
  have hlen := nodup_len held occ h.nd h.sub
  obtain ⟨Aa, ca, rfl, hca, hca2⟩ := h.at_.form
  have c3 := hblk.cell 3
  have c6 := hblk.cell 6
  have c1 := hblk.cell 1
  have c8 := hblk.cell 8
  simp at c1 c3 c6 c8
  have hl1 : at_.length ≤ exp.length := by omega
  have hl2 : exp.length ≤ at_.length := by omega
  have HL := Lib.hid hl; clear hl
  have hec := h.ex.caps
  have HR := Lib.hid (h.at_.read RInt.ok (by omega) (S := fun b => b < w.heap.size) (fun _ _ h => h) (fun _ _ h => h))
  have H := Lib.hid h; clear h
  have HB := Lib.hid hblk; clear hblk
  have HBE := Lib.hid hbest; clear hbest
  have HA := Lib.hid ha; clear ha
  have HE := Lib.hid he; clear he
  have ha10 := HA.out.1
  have he10 := HE.out.1
  by_cases g1 : held.length = occ.length
  · have g1' : occ.length ≤ held.length := by omega
    have G1 := Lib.hid g1; clear g1
    go_enter Tryz.func48, Tryz.ntmps48
    go_wp2
    go_loopw [2, 15] (fun v i wr => ∃ k : Nat, k ≤ at_.length ∧ i = .int .i64 k ∧ v = .int .i64 (diffSum (at_.take k) (exp.take k)) ∧ ∃ n, wr = w.drewN n) (fun _ i _ => at_.length - (intOf i).toNat)
    case atStart => exact ⟨0, Nat.zero_le _, rfl, by simp [diffSum], 0, rfl⟩
    case round =>
      obtain ⟨k, hk, rfl, rfl, n, rfl⟩ := hrel
      have hr := diffSum_range (at_.take k) (exp.take k) (fun x hx => HA.out.2 x (List.mem_of_mem_take hx)) (fun x hx => HE.out.2 x (List.mem_of_mem_take hx))
      have hr2 : diffSum (at_.take k) (exp.take k) ≤ 650 := by
        have : (at_.take k).length ≤ 10 := by simp; omega
        omega
      have hr1 := hr.1
      clear hr
      by_cases hlt : k < at_.length
      · obtain ⟨b1, o1, x, rfl, _, hx, k1⟩ := RInts.at_ HR.out hlt
        obtain ⟨b2, o2, y, rfl, _, hy, k2⟩ := H.out.ex.at_ (k := k) (by omega)
        have hxr := HA.out.2 x (List.mem_of_getElem? hx)
        have hyr := HE.out.2 y (List.mem_of_getElem? hy)
        have ST := Lib.hid (diffSum_step at_ exp k x y hx hy)
        clear hx hy
        generalize diffSum (at_.take k) (exp.take k) = D at hr1 hr2 ST
        go_wp2
        go_quiet (fail)
        go_wp2
        go_roundw
        case rel =>
          refine ⟨k + 1, by omega, by go_num, ?_, _, rfl⟩
          rw [ST.out]; rfl
        case measure => simp [intOf]; omega
      · obtain rfl : k = at_.length := by omega
        have e1 : Hid (diffSum (at_.take at_.length) (exp.take at_.length) = diffSum at_ exp) := by
          show _ = _
          rw [List.take_length, HL.out, List.take_length]
        generalize hD : diffSum (at_.take at_.length) (exp.take at_.length) = D at hr1 hr2
        have HD : Hid (diffSum at_ exp = D) := by rw [← e1.out]; exact hD
        clear hD e1
        by_cases g2 : s.found = 0
        · have e8 : (if s.found = 0 then (-1 : Int) else s.sum) = -1 := by simp [g2]
          rw [e8] at c8
          clear e8
          have Q : Hid (complete exp occ at_ held s = { s with found := 1, sum := D, best := at_ }) := by
            show complete exp occ at_ held s = { s with found := 1, sum := D, best := at_ }
            simp [complete, G1.out, g2, HD.out]
          clear g2
          go_wp2_with fail
          refine (Clone_any at_ Aa ca (w.drewN n) (fun b => b < w.heap.size) (by exact HR.out) (by exact fun b hb => hb) (by omega)).mono ?_
          rintro e w2 ⟨vn, rfl, hrn, hkn⟩
          have H2 := Lib.hid (H.out.keeps0 (((Keeps.refl _ w).drewN n).trans hkn (fun _ _ h => h)))
          have hwz : w.heap.size ≤ w2.heap.size := hkn.size
          have hgz := H.out.lt
          obtain ⟨vb2, hblk2, hbest2⟩ := H2.out.blk
          have d7 := hblk2.cell 7
          have d8 := hblk2.cell 8
          have d9 := hblk2.cell 9
          have e7 := hblk2.frozen 7
          have e8 := hblk2.frozen 8
          have e9 := hblk2.frozen 9
          simp at d7 d8 d9
          have HB2 := Lib.hid hblk2; clear hblk2 hbest2
          have hvn : ∃ An cn, vn = .slice An at_.length cn := by obtain ⟨An, cn, he, _⟩ := hrn; injection he with he _; exact ⟨An, cn, he⟩
          obtain ⟨An, cn, rfl⟩ := hvn
          have HRN := Lib.hid hrn; clear hrn
          have HKN := Lib.hid hkn; clear hkn
          have HFAR : Hid (∀ b, w.heap.size ≤ b → (Value.slice Aa at_.length ca).ownBlock ≠ some b) := fun b hb e => by have := H.out.at_.lt e; omega
          go_wp2
          refine bodyPost_end (results_none rfl _ _ _) rfl ?_
          have KK := (((Keeps.refl (· = g) w2).setCell (p := ⟨g, 7, none⟩) (fun _ => rfl) (.slice An at_.length cn)).setCell (p := ⟨g, 8, none⟩) (fun _ => rfl) (.int .i64 D)).setCell (p := ⟨g, 9, none⟩) (fun _ => rfl) (.bool true)
          refine ⟨rfl, ?_, ((((Keeps.refl _ w).drewN n).trans HKN.out (fun _ _ h => h.elim)).trans KK (fun x _ e => by omega))⟩
          rw [Q.out]
          refine H2.out.set KK (fun _ => ⟨hr1, by show D ≤ 1000; omega⟩) (vb := .slice An at_.length cn) ?_ (RInts.ok.mono HRN.out (fun b hb => ⟨by have := hb.1; simp at this; omega, hb.2, HFAR.out b hb.1⟩) (fun _ _ => rfl))
          have := ((HB2.out.set_ 7 (.slice An at_.length cn)).set_ 8 (.int .i64 D)).set_ 9 (.bool true)
          simpa using this
        · have e8 : (if s.found = 0 then (-1 : Int) else s.sum) = s.sum := by simp [g2]
          rw [e8] at c8
          clear e8
          have hss := H.out.sums g2
          by_cases g3 : D < s.sum
          · have Q : Hid (complete exp occ at_ held s = { s with found := 1, sum := D, best := at_ }) := by
              show complete exp occ at_ held s = { s with found := 1, sum := D, best := at_ }
              simp [complete, G1.out, g2, HD.out, g3]
            have g2' : decide (s.sum < 0) = false := by simp; omega
            have G2 := Lib.hid g2; clear g2
            go_wp2_with fail
            refine (Clone_any at_ Aa ca (w.drewN n) (fun b => b < w.heap.size) (by exact HR.out) (by exact fun b hb => hb) (by omega)).mono ?_
            rintro e w2 ⟨vn, rfl, hrn, hkn⟩
            have H2 := Lib.hid (H.out.keeps0 (((Keeps.refl _ w).drewN n).trans hkn (fun _ _ h => h)))
            have hwz : w.heap.size ≤ w2.heap.size := hkn.size
            have hgz := H.out.lt
            obtain ⟨vb2, hblk2, hbest2⟩ := H2.out.blk
            have d7 := hblk2.cell 7
            have d8 := hblk2.cell 8
            have d9 := hblk2.cell 9
            have e7 := hblk2.frozen 7
            have e8 := hblk2.frozen 8
            have e9 := hblk2.frozen 9
            simp at d7 d8 d9
            have HB2 := Lib.hid hblk2; clear hblk2 hbest2
            have hvn : ∃ An cn, vn = .slice An at_.length cn := by obtain ⟨An, cn, he, _⟩ := hrn; injection he with he _; exact ⟨An, cn, he⟩
            obtain ⟨An, cn, rfl⟩ := hvn
            have HRN := Lib.hid hrn; clear hrn
            have HKN := Lib.hid hkn; clear hkn
            have HFAR : Hid (∀ b, w.heap.size ≤ b → (Value.slice Aa at_.length ca).ownBlock ≠ some b) := fun b hb e => by have := H.out.at_.lt e; omega
            go_wp2
            refine bodyPost_end (results_none rfl _ _ _) rfl ?_
            have KK := (((Keeps.refl (· = g) w2).setCell (p := ⟨g, 7, none⟩) (fun _ => rfl) (.slice An at_.length cn)).setCell (p := ⟨g, 8, none⟩) (fun _ => rfl) (.int .i64 D)).setCell (p := ⟨g, 9, none⟩) (fun _ => rfl) (.bool true)
            refine ⟨rfl, ?_, ((((Keeps.refl _ w).drewN n).trans HKN.out (fun _ _ h => h.elim)).trans KK (fun x _ e => by omega))⟩
            rw [Q.out]
            refine H2.out.set KK (fun _ => ⟨hr1, by show D ≤ 1000; omega⟩) (vb := .slice An at_.length cn) ?_ (RInts.ok.mono HRN.out (fun b hb => ⟨by have := hb.1; simp at this; omega, hb.2, HFAR.out b hb.1⟩) (fun _ _ => rfl))
            have := ((HB2.out.set_ 7 (.slice An at_.length cn)).set_ 8 (.int .i64 D)).set_ 9 (.bool true)
            simpa using this
          · have g2' : decide (s.sum < 0) = false := by simp; omega
            have g3' : decide (D < s.sum) = false := by simp; omega
            by_cases g4 : D = s.sum
            · have Q : Hid (complete exp occ at_ held s = { s with found := s.found + 1 }) := by
                show complete exp occ at_ held s = { s with found := s.found + 1 }
                simp [complete, G1.out, g2, HD.out, g4]
              have g4' : (D == s.sum) = true := by simpa using g4
              have d9 := HB.out.cell 9
              have e9 := HB.out.frozen 9
              simp at d9
              have G2 := Lib.hid g2; clear g2 g4
              go_wp2
              refine bodyPost_end (results_none rfl _ _ _) rfl ?_
              have KK := ((Keeps.refl (· = g) w).drewN n).setCell (p := ⟨g, 9, none⟩) (fun _ => rfl) (.bool false)
              refine ⟨rfl, ?_, KK.mono (fun x _ e => by omega)⟩
              rw [Q.out]
              refine H.out.set (s' := { s with found := s.found + 1 }) KK (fun _ => hss) (vb := vb) ?_ HBE.out
              have := (show Blk (w.drewN n) g _ _ from HB.out).set_ 9 (.bool false)
              have hf : decide (s.found + 1 = 1) = false := by simp; exact G2.out
              have hf2 : (if s.found + 1 = 0 then (-1 : Int) else s.sum) = (if s.found = 0 then -1 else s.sum) := by simp [G2.out]
              simp only [hf, hf2]
              simpa using this
            · have Q : Hid (complete exp occ at_ held s = s) := by
                show complete exp occ at_ held s = s
                simp only [complete, G1.out, if_true, HD.out]
                rw [if_neg (by simp [g2]; omega), if_neg g4]
              have g4' : (D == s.sum) = false := by simpa using g4
              have G2 := Lib.hid g2; clear g2
              go_wp2
              refine bodyPost_end (results_none rfl _ _ _) rfl ?_
              refine ⟨rfl, ?_, (Keeps.refl _ _).drewN _⟩
              rw [Q.out]
              exact H.out.keeps0 ((Keeps.refl _ _).drewN _)
  · have g1' : held.length < occ.length := by omega
    have Q : Hid (complete exp occ at_ held s = s) := by show complete exp occ at_ held s = s; simp [complete, g1]
    clear g1
    go_enter Tryz.func48, Tryz.ntmps48
    go_wp2
    refine bodyPost_ret (results_none rfl _ _ _) rfl ?_
    exact ⟨rfl, by rw [Q.out]; exact H.out, Keeps.refl _ _⟩





/-- the search's struct with its fields as they stand -/
structure IdRaw (w : World) (g : Nat) (A : Option Addr) (c : Nat) (ps : List (List Stage)) (A2 : Option Addr) (c2 : Nat) (exp : List Int) (mis : Int) (budget steps : Nat) (f : Int → Option Value) (at_ : List Int) (vat : Value) (best : List Int) (sm : Int) (un : Bool) : Prop where
  blk : ∃ vb, Blk w g 57 #[.slice A ps.length c, .slice A2 exp.length c2, .map (some (g + 1)), .int .i64 mis, .int .i64 budget, .int .i64 steps, vat, vb, .int .i64 sm, .bool un] ∧
    RInts w (fun b => g + 2 ≤ b ∧ b < w.heap.size ∧ vat.ownBlock ≠ some b) [vb] best
  map : ∃ ks, MapIs w (g + 1) ks f
  at_ : OwnL 3 1 RInt w (g + 2) (g + 2) vat at_
  pth : RPaths w (fun b => b < g) [.slice A ps.length c] ps
  ex : RInts w (fun b => b < g) [.slice A2 exp.length c2] exp

section
variable {w w' : World} {g : Nat} {A : Option Addr} {c : Nat} {ps : List (List Stage)} {A2 : Option Addr} {c2 : Nat} {exp occ : List Int} {budget : Nat} {at_ held : List Int} {vat : Value} {s : ISt}
  {mis : Int} {steps : Nat} {f : Int → Option Value} {best : List Int} {sm : Int} {un : Bool}
theorem IdSt.raw (h : IdSt w g A c ps A2 c2 exp occ budget at_ held vat s) : IdRaw w g A c ps A2 c2 exp ((occ.length : Int) - (held.length : Int)) budget s.steps (freeF occ held) at_ vat s.best (if s.found = 0 then -1 else s.sum) (decide (s.found = 1)) := ⟨h.blk, h.map, h.at_, h.pth, h.ex⟩
theorem IdRaw.st (h : IdRaw w g A c ps A2 c2 exp ((occ.length : Int) - (held.length : Int)) budget s.steps (freeF occ held) at_ vat s.best (if s.found = 0 then -1 else s.sum) (decide (s.found = 1))) (h1 : held.Nodup) (h2 : ∀ x ∈ held, x ∈ occ) (h3 : s.found ≠ 0 → 0 ≤ s.sum ∧ s.sum ≤ 1000) :
    IdSt w g A c ps A2 c2 exp occ budget at_ held vat s := ⟨h.blk, h.map, h.at_, h.pth, h.ex, h1, h2, h3⟩
theorem IdRaw.lt (h : IdRaw w g A c ps A2 c2 exp mis budget steps f at_ vat best sm un) : g + 1 < w.heap.size := by obtain ⟨ks, hm⟩ := h.map; exact hm.lt
theorem IdRaw.keeps0 (h : IdRaw w g A c ps A2 c2 exp mis budget steps f at_ vat best sm un) (k : KeepsAll w w') : IdRaw w' g A c ps A2 c2 exp mis budget steps f at_ vat best sm un := by
  have hg := h.lt
  obtain ⟨vb, h1, h2⟩ := h.blk
  obtain ⟨ks, hm⟩ := h.map
  refine ⟨⟨vb, h1.kept k (by simp), k.rd RInts.ok h2 (fun b hb => ⟨hb.2.1, by simp⟩) (fun b hb => ⟨hb.1, Nat.lt_of_lt_of_le hb.2.1 k.size, hb.2.2⟩)⟩, ⟨ks, hm.kept k (by simp)⟩, h.at_.keeps RInt.ok k (fun _ _ h => h.elim), ?_, ?_⟩
  · exact k.rd RPaths.ok h.pth (fun b hb => ⟨by omega, by simp⟩) (fun _ h => h)
  · exact k.rd RInts.ok h.ex (fun b hb => ⟨by omega, by simp⟩) (fun _ h => h)
/-- the struct alone has turned, at is as it was -/
theorem IdRaw.set {mis' : Int} {steps' : Nat} (h : IdRaw w g A c ps A2 c2 exp mis budget steps f at_ vat best sm un) (k : Keeps (· = g) w w')
    (hb : ∀ vb, Blk w g 57 #[.slice A ps.length c, .slice A2 exp.length c2, .map (some (g + 1)), .int .i64 mis, .int .i64 budget, .int .i64 steps, vat, vb, .int .i64 sm, .bool un] → Blk w' g 57 #[.slice A ps.length c, .slice A2 exp.length c2, .map (some (g + 1)), .int .i64 mis', .int .i64 budget, .int .i64 steps', vat, vb, .int .i64 sm, .bool un]) :
    IdRaw w' g A c ps A2 c2 exp mis' budget steps' f at_ vat best sm un := by
  have hg := h.lt
  obtain ⟨vb, h1, h2⟩ := h.blk
  obtain ⟨ks, hm⟩ := h.map
  refine ⟨⟨vb, hb vb h1, k.rd RInts.ok h2 (fun b hb => ⟨hb.2.1, by omega⟩) (fun b hb => ⟨hb.1, Nat.lt_of_lt_of_le hb.2.1 k.size, hb.2.2⟩)⟩, ⟨ks, hm.kept k (by omega)⟩, h.at_.keeps RInt.ok k (fun b _ h => by omega), ?_, ?_⟩
  · exact k.rd RPaths.ok h.pth (fun b hb => ⟨by omega, by omega⟩) (fun _ h => h)
  · exact k.rd RInts.ok h.ex (fun b hb => ⟨by omega, by omega⟩) (fun _ h => h)
theorem IdRaw.setSteps (h : IdRaw w g A c ps A2 c2 exp mis budget steps f at_ vat best sm un) (n : Nat) (k : Nat) : IdRaw ((w.drewN k).setCell ⟨g, 5, none⟩ (.int .i64 n)) g A c ps A2 c2 exp mis budget n f at_ vat best sm un :=
  h.set (((Keeps.refl (· = g) w).drewN k).setCell (p := ⟨g, 5, none⟩) (fun _ => rfl) _) (fun vb hb => by have := (show Blk (w.drewN k) g _ _ from hb).set_ 5 (.int .i64 n); simpa using this)
theorem IdRaw.setMis (h : IdRaw w g A c ps A2 c2 exp mis budget steps f at_ vat best sm un) (n : Int) : IdRaw (w.setCell ⟨g, 3, none⟩ (.int .i64 n)) g A c ps A2 c2 exp n budget steps f at_ vat best sm un :=
  h.set ((Keeps.refl (· = g) w).setCell (p := ⟨g, 3, none⟩) (fun _ => rfl) _) (fun vb hb => by have := hb.set_ 3 (.int .i64 n); simpa using this)
/-- the map alone has turned -/
theorem IdRaw.setMap {f' : Int → Option Value} (h : IdRaw w g A c ps A2 c2 exp mis budget steps f at_ vat best sm un) (k : Keeps (· = g + 1) w w') (hm : ∃ ks, MapIs w' (g + 1) ks f') : IdRaw w' g A c ps A2 c2 exp mis budget steps f' at_ vat best sm un := by
  have hg := h.lt
  obtain ⟨vb, h1, h2⟩ := h.blk
  refine ⟨⟨vb, h1.kept k (by omega), k.rd RInts.ok h2 (fun b hb => ⟨hb.2.1, by omega⟩) (fun b hb => ⟨hb.1, Nat.lt_of_lt_of_le hb.2.1 k.size, hb.2.2⟩)⟩, hm, h.at_.keeps RInt.ok k (fun b _ h => by omega), ?_, ?_⟩
  · exact k.rd RPaths.ok h.pth (fun b hb => ⟨by omega, by omega⟩) (fun _ h => h)
  · exact k.rd RInts.ok h.ex (fun b hb => ⟨by omega, by omega⟩) (fun _ h => h)
theorem IdRaw.push {o : Obj} {vat' : Value} {x : Int} (h : IdRaw w g A c ps A2 c2 exp mis budget steps f at_ vat best sm un) (ho : OwnL 3 1 RInt w' (g + 2) (g + 2) vat' (at_ ++ [x])) (k : Keeps (fun b => vat.ownBlock = some b) (w.alloc o) w')
    (ha : vat'.ownBlock = vat.ownBlock ∨ vat'.ownBlock = some (w.alloc o).heap.size) : IdRaw (w'.setCell ⟨g, 6, none⟩ vat') g A c ps A2 c2 exp mis budget steps f (at_ ++ [x]) vat' best sm un := by
  have hg := h.lt
  obtain ⟨vb, h1, h2⟩ := h.blk
  obtain ⟨ks, hm⟩ := h.map
  have far : ∀ b, b < g + 2 → ¬ (vat.ownBlock = some b) := fun b hb e => by have := h.at_.lt e; omega
  have k2 : Keeps (fun b => vat.ownBlock = some b) w w' := ((Keeps.refl _ w).alloc o).trans k (fun _ _ h => h)
  have k3 : Keeps (fun b => vat.ownBlock = some b ∨ b = g) w (w'.setCell ⟨g, 6, none⟩ vat') := (k2.mono (fun _ _ h => .inl h)).setCell (p := ⟨g, 6, none⟩) (fun _ => .inr rfl) _
  have kg := (Keeps.refl (· = g) w').setCell (p := ⟨g, 6, none⟩) (fun _ => rfl) vat'
  refine ⟨⟨vb, ?_, ?_⟩, ⟨ks, hm.kept k3 (fun e => by rcases e with e | e; exact far _ (by omega) e; omega)⟩, ho.keeps RInt.ok kg (fun b _ e => by omega), ?_, ?_⟩
  · have := (h1.kept k2 (far g (by omega))).set_ 6 vat'; simpa using this
  · refine k3.rd RInts.ok h2 (fun b hb => ⟨hb.2.1, fun e => by rcases e with e | e; exact hb.2.2 e; omega⟩) (fun b hb => ⟨hb.1, Nat.lt_of_lt_of_le hb.2.1 k3.size, fun e => ?_⟩)
    rcases ha with ha | ha
    · exact hb.2.2 (by rw [← ha]; exact e)
    · rw [ha] at e; injection e with e; have := hb.2.1; simp at e; omega
  · exact k3.rd RPaths.ok h.pth (fun b hb => ⟨by omega, fun e => by rcases e with e | e; exact far b (by omega) e; omega⟩) (fun _ h => h)
  · exact k3.rd RInts.ok h.ex (fun b hb => ⟨by omega, fun e => by rcases e with e | e; exact far b (by omega) e; omega⟩) (fun _ h => h)
theorem IdRaw.cut {Aa : Addr} {n cc t : Nat} (h : IdRaw w g A c ps A2 c2 exp mis budget steps f at_ (.slice (some Aa) n cc) best sm un) (ht : t ≤ at_.length) : IdRaw (w.setCell ⟨g, 6, none⟩ (.slice (some Aa) t cc)) g A c ps A2 c2 exp mis budget steps f (at_.take t) (.slice (some Aa) t cc) best sm un := by
  have hg := h.lt
  obtain ⟨vb, h1, h2⟩ := h.blk
  obtain ⟨ks, hm⟩ := h.map
  have k := (Keeps.refl (· = g) w).setCell (p := ⟨g, 6, none⟩) (fun _ => rfl) (.slice (some Aa) t cc)
  refine ⟨⟨vb, by have := h1.set_ 6 (.slice (some Aa) t cc); simpa using this, k.rd RInts.ok h2 (fun b hb => ⟨hb.2.1, by omega⟩) (fun b hb => ⟨hb.1, Nat.lt_of_lt_of_le hb.2.1 k.size, hb.2.2⟩)⟩, ⟨ks, hm.kept k (by omega)⟩, (h.at_.cut ht (.inl (by simp))).keeps RInt.ok k (fun b _ h => by omega), ?_, ?_⟩
  · exact k.rd RPaths.ok h.pth (fun b hb => ⟨by omega, by omega⟩) (fun _ h => h)
  · exact k.rd RInts.ok h.ex (fun b hb => ⟨by omega, by omega⟩) (fun _ h => h)
end





theorem posns_at (p : List Stage) {j : Nat} (h : j < p.length + 2) : (posns p)[j]? = some ((j : Int) - 1) := by simp [posns, h]
theorem posns_len (p : List Stage) : (posns p).length = p.length + 2 := by simp [posns]
theorem posns_drop (p : List Stage) {j : Nat} (h : j < p.length + 2) : (posns p).drop j = ((j : Int) - 1) :: (posns p).drop (j + 1) := drop_cons' (posns_at p h)
theorem posns_end (p : List Stage) : (posns p).drop (p.length + 2) = [] := List.drop_of_length_le (by rw [posns_len]; omega)

theorem IdRaw.after {w w' : World} {g : Nat} {A : Option Addr} {c : Nat} {ps : List (List Stage)} {A2 : Option Addr} {c2 : Nat} {exp : List Int} {budget : Nat} {at_ : List Int} {vat : Value} {mis : Int} {steps : Nat} {f : Int → Option Value} {best : List Int} {sm : Int} {un : Bool} {o : Obj}
    (h : IdRaw w g A c ps A2 c2 exp mis budget steps f at_ vat best sm un) (k : Keeps (fun b => vat.ownBlock = some b) (w.alloc o) w') : w'.cell? ⟨g, 6, none⟩ = some vat ∧ w'.frozen? ⟨g, 6, none⟩ = false ∧ Keeps (fun b => g ≤ b) w w' := by
  obtain ⟨vb, h1, h2⟩ := h.blk
  have far : ∀ b, b < g + 2 → ¬ (vat.ownBlock = some b) := fun b hb e => by have := h.at_.lt e; omega
  have k2 : Keeps (fun b => vat.ownBlock = some b) w w' := ((Keeps.refl _ w).alloc o).trans k (fun _ _ h => h)
  have hb := h1.kept k2 (far g (by omega))
  refine ⟨by simpa using hb.cell 6, hb.frozen 6, k2.mono (fun x _ e => ?_)⟩
  have := h.at_.lt e; omega
theorem freeF_take {occ held : List Int} {x : Int} (hx : x ∈ occ) : setF (freeF occ held) x (.bool false) = freeF occ (held ++ [x]) := by
  funext k; unfold setF freeF
  by_cases h : k = x
  · subst h; simp [hx]
  · simp [h]
theorem freeF_give {occ held : List Int} {x : Int} (hx : x ∈ occ) (hn : x ∉ held) : setF (freeF occ (held ++ [x])) x (.bool true) = freeF occ held := by
  funext k; unfold setF freeF
  by_cases h : k = x
  · subst h; simp [hx, hn]
  · simp [h]
theorem tries_cons {occ : List Int} {budget : Nat} {f : List Int → List Int → ISt → Bool × ISt} {p : List Stage} {at_ held : List Int} (x : Int) (xs : List Int) (s : ISt) : tries occ budget f p at_ held (x :: xs) s =
    if s.steps = budget then (false, s)
    else if x < 0 ∨ (p.length : Int) ≤ x then
      if (f (at_ ++ [x]) held { s with steps := s.steps + 1 }).1 = true then tries occ budget f p at_ held xs (f (at_ ++ [x]) held { s with steps := s.steps + 1 }).2 else f (at_ ++ [x]) held { s with steps := s.steps + 1 }
    else if secAt p x ∈ occ ∧ secAt p x ∉ held then
      if (f (at_ ++ [x]) (held ++ [secAt p x]) { s with steps := s.steps + 1 }).1 = true then tries occ budget f p at_ held xs (f (at_ ++ [x]) (held ++ [secAt p x]) { s with steps := s.steps + 1 }).2 else f (at_ ++ [x]) (held ++ [secAt p x]) { s with steps := s.steps + 1 }
    else tries occ budget f p at_ held xs { s with steps := s.steps + 1 } := by
  rw [tries]
  split
  · rfl
  · split
    · generalize f (at_ ++ [x]) held { s with steps := s.steps + 1 } = r
      obtain ⟨b, s'⟩ := r
      cases b <;> simp
    · split
      · generalize f (at_ ++ [x]) (held ++ [secAt p x]) { s with steps := s.steps + 1 } = r
        obtain ⟨b, s'⟩ := r
        cases b <;> simp
      · rfl

theorem zeroBool (w : World) : (zeroValue 4).run Tryz.prog w = .ok (.bool false) w := by kernel_rfl
/-- the fixed part of a search -/
structure IdFix (ps : List (List Stage)) (exp occ : List Int) (budget : Nat) : Prop where
  o : occ.length ≤ 9223372036854775807
  n : ps.length ≤ 10
  p : ∀ p ∈ ps, p.length ≤ 64
  e : small exp
  l : exp.length = ps.length
  b : budget ≤ 1048576

def AsInv (w wr : World) (g : Nat) (A : Option Addr) (c : Nat) (ps : List (List Stage)) (A2 : Option Addr) (c2 : Nat) (exp occ : List Int) (budget : Nat) (at_ held : List Int) (F : List Int → List Int → ISt → Bool × ISt) (p : List Stage) (R : Bool × ISt) (j : Nat) : Prop :=
  ∃ vat s, IdSt wr g A c ps A2 c2 exp occ budget at_ held vat s ∧ s.steps ≤ budget ∧ Keeps (fun b => g ≤ b) w wr ∧ R = tries occ budget F p at_ held ((posns p).drop j) s

set_option maxRecDepth 100000 in
set_option maxHeartbeats 2000000 in
theorem assign_any (g : Nat) (A : Option Addr) (c : Nat) (ps : List (List Stage)) (A2 : Option Addr) (c2 : Nat) (exp occ : List Int) (budget : Nat) (hfix : IdFix ps exp occ budget) :
    ∀ (rest : List (List Stage)) (t : Nat) (w : World) (at_ held : List Int) (vat : Value) (s : ISt), ps.drop t = rest → t ≤ ps.length → at_.length = t → (∀ x ∈ at_, -1 ≤ x ∧ x ≤ 64) → s.steps ≤ budget →
      IdSt w g A c ps A2 c2 exp occ budget at_ held vat s →
      Calls Tryz.prog 24 #[.pointer (some ⟨g, 0, none⟩), .int .i64 t] w fun e w' => e = .returned (.bool (search exp occ budget rest at_ held s).1) ∧ Keeps (fun b => g ≤ b) w w' ∧
        ∃ vat', IdSt w' g A c ps A2 c2 exp occ budget at_ held vat' (search exp occ budget rest at_ held s).2 := by
  intro rest
  induction rest with
  | nil =>
    intro t w at_ held vat s hrest htl hat hsm hst h
    have ht : t = ps.length := by
      have := congrArg List.length hrest; simp at this; omega
    obtain ⟨vb, hblk, _⟩ := h.blk
    have c0 := hblk.cell 0
    simp at c0
    have hc := h.pth.caps
    have g1 : ((t : Int) == (ps.length : Int)) = true := by simp; omega
    have HA : Hid (at_.length = exp.length) := by rw [hat, ht, hfix.l]; rfl
    have HF := Lib.hid hfix; clear hfix
    have hl10 : at_.length ≤ 10 := by rw [hat]; have := HF.out.n; omega
    have H := Lib.hid h
    have HSM := Lib.hid hsm
    have Q : Hid (search exp occ budget [] at_ held s = (true, complete exp occ at_ held s)) := by show search exp occ budget [] at_ held s = _; rw [search]
    clear h hsm hblk hrest ht hat
    go_enter Tryz.func24, Tryz.ntmps24
    go_wp2_with (go_at_call 48; refine (compare_any w g A c ps A2 c2 exp occ budget at_ held vat s H.out ⟨hl10, HSM.out⟩ HF.out.e HA.out).mono ?_; rintro e w1 ⟨rfl, h1, k1⟩)
    go_ret
    rw [Q.out]
    exact ⟨rfl, k1, vat, h1⟩
  | cons p rest ih =>
    intro t w at_ held vat s hrest htl hat hsm hst h
    have IH := Lib.hid ih; clear ih
    have htp : ps[t]? = some p := by
      have h1 : (ps.drop t)[0]? = some p := by rw [hrest]; rfl
      simpa using h1
    have hrest' : ps.drop (t + 1) = rest := by
      have := drop_cons' htp
      rw [hrest] at this
      injection this with _ this; exact this.symm
    have htl2 := getElem?_lt htp
    have HF := Lib.hid hfix; clear hfix
    have hp64 := HF.out.p p (List.mem_of_getElem? htp)
    have hn10 := HF.out.n
    have hb20 := HF.out.b
    obtain ⟨vb, hblk, _⟩ := h.blk
    have c0 := hblk.cell 0
    simp at c0
    have hc := h.pth.caps
    have g1 : ((t : Int) == (ps.length : Int)) = false := by simp; omega
    have Q : Hid (search exp occ budget (p :: rest) at_ held s = tries occ budget (search exp occ budget rest) p at_ held (posns p) s) := by show search exp occ budget (p :: rest) at_ held s = _; rw [search]
    have hA0 : AsInv w w g A c ps A2 c2 exp occ budget at_ held (search exp occ budget rest) p (search exp occ budget (p :: rest) at_ held s) 0 := ⟨vat, s, h, hst, Keeps.refl _ _, Q.out⟩
    have HT := Lib.hid htp
    have HR := Lib.hid hrest'
    have HAT := Lib.hid hat
    have HSM := Lib.hid hsm
    have hgw := h.lt
    generalize hRR : search exp occ budget (p :: rest) at_ held s = R at hA0
    have HRR := Lib.hid hRR; clear hRR
    clear h hblk hrest hrest' htp hsm Q hat
    go_enter Tryz.func24, Tryz.ntmps24
    go_wp2_with fail
    go_loopw [5] (fun i wr => ∃ j : Nat, j ≤ p.length + 2 ∧ i = .int .i64 ((j : Int) - 1) ∧ AsInv w wr g A c ps A2 c2 exp occ budget at_ held (search exp occ budget rest) p R j) (fun i _ => p.length + 2 - (intOf i + 1).toNat)
    case atStart => exact ⟨0, by omega, by go_num, hA0⟩
    case round =>
      obtain ⟨j, hj, rfl, vat1, s0, h1, hst1, hk1, hi1⟩ := hrel
      clear hA0 c0
      obtain ⟨vb1, hb1, _⟩ := h1.blk
      obtain ⟨Aa, ca, rfl, hca, hca2⟩ := h1.at_.form
      have c0 := hb1.cell 0
      have c4 := hb1.cell 4
      have c5 := hb1.cell 5
      have f5 := hb1.frozen 5
      simp at c0 c4 c5
      obtain ⟨b, o, p', A', c', hAA, hb, hp', k1, hpr⟩ := RSS.at_ h1.pth htl2
      obtain rfl := same_of hp' HT.out
      subst hAA
      have hcp := hpr.caps
      have HPR := Lib.hid hpr; clear hpr hp'
      have hgz := h1.lt
      have H := Lib.hid h1; clear h1 hb1
      have KW0 := Lib.hid hk1; clear hk1
      have hlat : at_.length ≤ 10 := by have := HAT.out; omega
      have HI0 := Lib.hid hi1; clear hi1
      by_cases hlt : j < p'.length + 2
      · have HI : Hid (R = tries occ budget (search exp occ budget rest) p' at_ held (((j : Int) - 1) :: (posns p').drop (j + 1)) s0) := by rw [← posns_drop p' hlt]; exact HI0.out
        clear HI0
        by_cases hsb : s0.steps = budget
        · have g2 : ((s0.steps : Int) == (budget : Int)) = true := by simp; omega
          have HSB := Lib.hid hsb; clear hsb
          go_wp2
          go_quiet (fail)
          go_wp2
          go_ret
          have hR : R = (false, s0) := by rw [HI.out, tries_cons, if_pos HSB.out]
          subst hR
          exact ⟨rfl, KW0.out.drewN _, _, H.out.keeps0 ((Keeps.refl _ _).drewN _)⟩
        · have g2 : ((s0.steps : Int) == (budget : Int)) = false := by simp; omega
          have HS1' := Lib.hid hsb; clear hsb
          obtain ⟨s1, hs1⟩ : ∃ s1 : ISt, s1 = { s0 with steps := s0.steps + 1 } := ⟨_, rfl⟩
          have HS1 : Hid (s1.steps ≤ budget) := by have h := HS1'.out; show s1.steps ≤ budget; rw [hs1]; simp; omega
          have HS := Lib.hid hs1; clear hs1
          by_cases hin : 1 ≤ j ∧ j ≤ p'.length
          · have g3 : decide ((0 : Int) ≤ (j : Int) - 1) = true := by simp; omega
            have g4 : decide ((j : Int) - 1 < (p'.length : Int)) = true := by simp; omega
            have HNO : Hid (¬ ((j : Int) - 1 < 0 ∨ (p'.length : Int) ≤ (j : Int) - 1)) := by show ¬ (_ ∨ _); omega
            go_wp2
            go_quiet (fail)
            generalize hW0 : World.drewN wr _ = W0
            have H0 : Hid (IdSt W0 g (some ⟨b, o, none⟩) c ps A2 c2 exp occ budget at_ held (.slice Aa at_.length ca) s0) := by subst hW0; exact H.out.keeps0 ((Keeps.refl _ _).drewN _)
            have KW1 : Hid (Keeps (fun b => g ≤ b) w W0) := by subst hW0; exact KW0.out.drewN _
            have k1 : W0.cell? ⟨b, o + t, none⟩ = some (.slice A' p'.length c') := by subst hW0; exact k1
            have HPR0 : Hid (RPath W0 (fun b => b < g) [.slice A' p'.length c'] p') := by subst hW0; exact HPR.out
            clear hW0 c0 c4 c5 f5
            obtain ⟨vb0, hb0, _⟩ := H0.out.blk
            have c0 := hb0.cell 0
            have c2' := hb0.cell 2
            have c3 := hb0.cell 3
            have c5 := hb0.cell 5
            have c6 := hb0.cell 6
            have f3 := hb0.frozen 3
            have f5 := hb0.frozen 5
            simp at c0 c2' c3 c5 c6
            have hgz0 := H0.out.lt
            clear hb0
            have RAW1 : Hid (IdRaw (W0.setCell ⟨g, 5, none⟩ (.int .i64 ((s0.steps : Int) + 1))) g (some ⟨b, o, none⟩) c ps A2 c2 exp ((occ.length : Int) - (held.length : Int)) budget s1.steps (freeF occ held) at_ (.slice Aa at_.length ca) s1.best (if s1.found = 0 then -1 else s1.sum) (decide (s1.found = 1))) := by
              have h := H0.out.raw.setSteps (s0.steps + 1) 0
              rw [HS.out]
              exact h
            have KW : Hid (Keeps (fun b => g ≤ b) w (W0.setCell ⟨g, 5, none⟩ (.int .i64 ((s0.steps : Int) + 1)))) := KW1.out.setCell (p := ⟨g, 5, none⟩) (fun _ => Nat.le_refl _) _
            obtain ⟨b3, o3, st, A3, c3', rfl, hb3, hs3, k3, _⟩ := RPath.at_ HPR0.out (k := j - 1) (by omega)
            have HSEC : Hid (secAt p' ((j : Int) - 1) = st.sec) := by
              show secAt p' ((j : Int) - 1) = st.sec
              unfold secAt
              rw [if_neg (by omega), show ((j : Int) - 1).toNat = j - 1 from by omega, hs3]
            clear hs3
            have hb3g : b3 < g := hb3
            have hbg : b < g := hb
            obtain ⟨ks1, hm1⟩ := RAW1.out.map
            have HLK := (hm1.lookup (P := Tryz.prog) (t := 55) (E := 4) Tryz.underlying55 Tryz.underlying3 (zeroBool _) st.sec).1
            by_cases hfree : st.sec ∈ occ ∧ st.sec ∉ held
            · have hfv : (freeF occ held st.sec).getD (.bool false) = .bool true := by simp [freeF, hfree.1, hfree.2]
              rw [hfv] at HLK
              have HIN1 := Lib.hid hfree.1
              have HIN2 := Lib.hid hfree.2
              have ND : Hid ((held ++ [st.sec]).Nodup) := List.nodup_append.2 ⟨H0.out.nd, by simp, fun a ha b hb => by simp at hb; subst hb; rintro rfl; exact HIN2.out ha⟩
              have SUB : Hid (∀ x ∈ held ++ [st.sec], x ∈ occ) := fun x hx => by
                rcases List.mem_append.1 hx with hx | hx
                · exact H0.out.sub x hx
                · simp at hx; subst hx; exact HIN1.out
              have hlo : held.length + 1 ≤ occ.length := by have := nodup_len _ _ ND.out SUB.out; simpa using this
              have hoc := HF.out.o
              obtain ⟨w2m, hrun2, hm2, k2m, hz2m⟩ := hm1.update (P := Tryz.prog) (t := 55) (E := 4) Tryz.underlying55 Tryz.underlying3 st.sec (.bool false)
              have RAW2 := Lib.hid (RAW1.out.setMap k2m ⟨_, by rw [freeF_take HIN1.out] at hm2; exact hm2⟩)
              have KW3 : Hid (Keeps (fun b => g ≤ b) w (w2m.setCell ⟨g, 3, none⟩ (.int .i64 ((occ.length : Int) - (held.length : Int) - 1)))) := (KW.out.trans k2m (fun x _ e => by omega)).setCell (p := ⟨g, 3, none⟩) (fun _ => Nat.le_refl _) _
              have RAW3 : Hid (IdRaw (w2m.setCell ⟨g, 3, none⟩ (.int .i64 ((occ.length : Int) - (held.length : Int) - 1))) g (some ⟨b, o, none⟩) c ps A2 c2 exp ((occ.length : Int) - ((held ++ [st.sec]).length : Int)) budget s1.steps (freeF occ (held ++ [st.sec])) at_ (.slice Aa at_.length ca) s1.best (if s1.found = 0 then -1 else s1.sum) (decide (s1.found = 1))) := by
                have h := RAW2.out.setMis ((occ.length : Int) - (held.length : Int) - 1)
                have e : (occ.length : Int) - ((held ++ [st.sec]).length : Int) = (occ.length : Int) - (held.length : Int) - 1 := by simp; omega
                rw [e]; exact h
              obtain ⟨vb2, hb2, _⟩ := RAW2.out.blk
              have r3 := hb2.cell 3
              have r6 := hb2.cell 6
              have q3 := hb2.frozen 3
              simp at r3 r6
              have hz22 := RAW2.out.lt
              clear hfree hm1 hm2 k2m hz2m hb2
              have hz6 := RAW3.out.lt
              go_wp2_with (at_builtin; refine wpList_append_L tyInt RInt.ok rfl (.tmp 95) (.tmp 97) rfl (RAW3.out.at_.alloc RInt.ok _) rfl _ [.int .i64 ((j : Int) - 1)] rfl (Blk.new' _ _ _ (by simp)) rfl ((j : Int) - 1) (S := fun _ => False) rfl (fun _ h => h.elim) (by simp [Value.oneCell']) (by omega) (by omega) (by simp; omega) ?_; intro v2 w2 HO2 HK2 HA2; obtain ⟨A6, c6x, hv6, _, _⟩ := HO2.form; rw [List.length_append, List.length_singleton] at hv6; subst hv6; have AF := RAW3.out.after HK2; have E6 := AF.1; have F6 := AF.2.1; have HKK := Lib.hid AF.2.2; clear AF; have HRP := Lib.hid (RAW3.out.push HO2 HK2 HA2); clear HO2 HK2 HA2)
              generalize hW3 : World.setCell w2 _ _ = W3
              have K3 : Hid (Keeps (fun b => g ≤ b) (w2m.setCell ⟨g, 3, none⟩ (.int .i64 ((occ.length : Int) - (held.length : Int) - 1))) W3) := by subst hW3; exact HKK.out.setCell (p := ⟨g, 6, none⟩) (fun _ => Nat.le_refl _) _
              have HRP3 : Hid (IdSt W3 g (some ⟨b, o, none⟩) c ps A2 c2 exp occ budget (at_ ++ [(j : Int) - 1]) (held ++ [st.sec]) (.slice A6 (at_.length + 1) c6x) s1) := by subst hW3; exact HRP.out.st ND.out SUB.out (by rw [HS.out]; exact H0.out.sums)
              clear hW3 E6 F6 HRP HKK
              have ec : (t : Int) + 1 = ((t + 1 : Nat) : Int) := by omega
              rw [ec]
              clear ec
              refine (IH.out (t + 1) W3 (at_ ++ [(j : Int) - 1]) (held ++ [st.sec]) (.slice A6 (at_.length + 1) c6x) s1 HR.out (by omega) (by have := HAT.out; simp; omega) (fun x hx => by
                rcases List.mem_append.1 hx with hx | hx
                · exact HSM.out x hx
                · simp at hx; subst hx; omega) (by have := HS1.out; omega) HRP3.out).mono ?_
              rintro e w4 ⟨rfl, k4, vat4, h4⟩
              generalize hR4 : search exp occ budget rest (at_ ++ [(j : Int) - 1]) (held ++ [st.sec]) s1 = R4 at h4
              obtain ⟨ok4, s4⟩ := R4
              have hst4 : s4.steps ≤ budget := by
                have := search_steps exp occ budget rest (at_ ++ [(j : Int) - 1]) (held ++ [st.sec]) s1 (by have := HS1.out; omega)
                rw [hR4] at this; exact this
              have HR4 := Lib.hid hR4; clear hR4
              simp only [] at h4
              obtain ⟨A4, c4, rfl, hc4, hc42⟩ := h4.at_.form
              have hA4 : ∃ ad, A4 = some ad := by
                cases A4 with
                | some ad => exact ⟨ad, rfl⟩
                | none =>
                  have := h4.at_.form
                  obtain ⟨ess, _, hrow, _⟩ := h4.at_
                  rcases hrow.2 with ⟨_, hn⟩ | ⟨_, _, _, he, _⟩
                  · simp at hn
                  · cases he
              obtain ⟨⟨ab, ao, asp⟩, rfl⟩ := hA4
              obtain rfl : asp = none := by
                obtain ⟨ess, _, hrow, _⟩ := h4.at_
                rcases hrow.2 with ⟨he, _⟩ | ⟨_, _, _, he, _⟩
                · cases he
                · injection he with he; injection he with he; injection he
              have K4 : Hid (Keeps (fun b => g ≤ b) w w4) := (KW3.out.trans K3.out (fun _ _ h => h)).trans k4 (fun _ _ h => h)
              have H4 := Lib.hid h4; clear h4 k4
              obtain ⟨vb4, hb4, _⟩ := H4.out.blk
              have m0 := hb4.cell 0
              have m2 := hb4.cell 2
              have m3 := hb4.cell 3
              have m6 := hb4.cell 6
              have n3 := hb4.frozen 3
              have n6 := hb4.frozen 6
              simp at m0 m2 m3 m6
              have hl4 : (at_ ++ [(j : Int) - 1]).length = t + 1 := by have := HAT.out; simp; omega
              rw [hl4] at hc4
              have hat1 : at_.length ≤ t := by have := HAT.out; omega
              have hat2 : t ≤ at_.length := by have := HAT.out; omega
              have HL4 := Lib.hid hl4; clear hl4 hb4
              have HCUT : Hid (IdRaw (w4.setCell ⟨g, 6, none⟩ (.slice (some ⟨ab, ao, none⟩) t c4)) g (some ⟨b, o, none⟩) c ps A2 c2 exp ((occ.length : Int) - ((held ++ [st.sec]).length : Int)) budget s4.steps (freeF occ (held ++ [st.sec])) at_ (.slice (some ⟨ab, ao, none⟩) t c4) s4.best (if s4.found = 0 then -1 else s4.sum) (decide (s4.found = 1))) := by
                have h := H4.out.raw.cut (t := t) (by rw [HL4.out]; omega)
                have e : (at_ ++ [(j : Int) - 1]).take t = at_ := by rw [← HAT.out]; simp
                rw [e] at h; exact h
              have hz4 := H4.out.lt
              have HC5 := Lib.hid ((K4.out.setCell (p := ⟨g, 6, none⟩) (fun _ => Nat.le_refl _) (.slice (some ⟨ab, ao, none⟩) t c4)))
              obtain ⟨ks5, hm5⟩ := HCUT.out.map
              obtain ⟨w6m, hrun6, hm6, k6m, hz6m⟩ := hm5.update (P := Tryz.prog) (t := 55) (E := 4) Tryz.underlying55 Tryz.underlying3 st.sec (.bool true)
              have RAW6 : Hid (IdRaw w6m g (some ⟨b, o, none⟩) c ps A2 c2 exp ((occ.length : Int) - ((held ++ [st.sec]).length : Int)) budget s4.steps (freeF occ held) at_ (.slice (some ⟨ab, ao, none⟩) t c4) s4.best (if s4.found = 0 then -1 else s4.sum) (decide (s4.found = 1))) := HCUT.out.setMap k6m ⟨_, by rw [freeF_give HIN1.out HIN2.out] at hm6; exact hm6⟩
              have K6 : Hid (Keeps (fun b => g ≤ b) w w6m) := HC5.out.trans k6m (fun x _ e => by omega)
              clear hm5 hm6 k6m hz6m
              obtain ⟨vb6, hb6, _⟩ := RAW6.out.blk
              have r3 := hb6.cell 3
              have q3 := hb6.frozen 3
              simp at r3
              clear hb6
              have hz66 := RAW6.out.lt
              have RAW7 : Hid (IdSt (w6m.setCell ⟨g, 3, none⟩ (.int .i64 ((occ.length : Int) - ((held.length : Int) + 1) + 1))) g (some ⟨b, o, none⟩) c ps A2 c2 exp occ budget at_ held (.slice (some ⟨ab, ao, none⟩) t c4) s4) := by
                have h := RAW6.out.setMis ((occ.length : Int) - ((held.length : Int) + 1) + 1)
                have e : (occ.length : Int) - ((held.length : Int) + 1) + 1 = (occ.length : Int) - (held.length : Int) := by omega
                rw [e] at h ⊢
                exact h.st H0.out.nd H0.out.sub H4.out.sums
              have K7 : Hid (Keeps (fun b => g ≤ b) w (w6m.setCell ⟨g, 3, none⟩ (.int .i64 ((occ.length : Int) - ((held.length : Int) + 1) + 1)))) := K6.out.setCell (p := ⟨g, 3, none⟩) (fun _ => Nat.le_refl _) _
              cases ok4 with
              | false =>
                go_wp2
                go_ret
                have hR : R = (false, s4) := by rw [HI.out, tries_cons, if_neg HS1'.out, if_neg HNO.out, HSEC.out, if_pos ⟨HIN1.out, HIN2.out⟩, ← HS.out, HR4.out]; rfl
                subst hR
                exact ⟨rfl, K7.out, _, RAW7.out⟩
              | true =>
                go_wp2
                go_roundw
                case rel => exact ⟨j + 1, by omega, by go_num, _, s4, RAW7.out, hst4, K7.out, by rw [HI.out, tries_cons, if_neg HS1'.out, if_neg HNO.out, HSEC.out, if_pos ⟨HIN1.out, HIN2.out⟩, ← HS.out, HR4.out]; rfl⟩
                case measure => simp [intOf]; omega
            · have hfv : (freeF occ held st.sec).getD (.bool false) = .bool false := by
                unfold freeF
                by_cases h1 : st.sec ∈ occ
                · have h2 : st.sec ∈ held := by
                    rcases Classical.em (st.sec ∈ held) with h | h
                    · exact h
                    · exact absurd ⟨h1, h⟩ hfree
                  simp [h1, h2]
                · simp [h1]
              rw [hfv] at HLK
              have HNF := Lib.hid hfree; clear hfree hm1
              have ST1 : Hid (IdSt (W0.setCell ⟨g, 5, none⟩ (.int .i64 ((s0.steps : Int) + 1))) g (some ⟨b, o, none⟩) c ps A2 c2 exp occ budget at_ held (.slice Aa at_.length ca) s1) := RAW1.out.st H0.out.nd H0.out.sub (by rw [HS.out]; exact H0.out.sums)
              go_wp2
              go_roundw
              case rel => exact ⟨j + 1, by omega, by go_num, _, s1, ST1.out, HS1.out, KW.out, by rw [HI.out, tries_cons, if_neg HS1'.out, if_neg HNO.out, HSEC.out, if_neg HNF.out, ← HS.out]⟩
              case measure => simp [intOf]; omega
          · have HOUT : Hid ((j : Int) - 1 < 0 ∨ (p'.length : Int) ≤ (j : Int) - 1) := by show _ ∨ _; omega
            have h01 : j = 0 ∨ j = p'.length + 1 := by omega
            rcases h01 with h0 | h0
            · have g3 : decide ((0 : Int) ≤ (j : Int) - 1) = false := by simp; omega
              have hj0 : j < 1 := by omega
              have HJ := Lib.hid h0; clear h0
              go_wp2
              go_quiet (fail)
              generalize hW0 : World.drewN wr _ = W0
              have H0 : Hid (IdSt W0 g (some ⟨b, o, none⟩) c ps A2 c2 exp occ budget at_ held (.slice Aa at_.length ca) s0) := by subst hW0; exact H.out.keeps0 ((Keeps.refl _ _).drewN _)
              have KW1 : Hid (Keeps (fun b => g ≤ b) w W0) := by subst hW0; exact KW0.out.drewN _
              have k1 : W0.cell? ⟨b, o + t, none⟩ = some (.slice A' p'.length c') := by subst hW0; exact k1
              have HPR0 : Hid (RPath W0 (fun b => b < g) [.slice A' p'.length c'] p') := by subst hW0; exact HPR.out
              clear hW0 c0 c4 c5 f5
              obtain ⟨vb0, hb0, _⟩ := H0.out.blk
              have c0 := hb0.cell 0
              have c2' := hb0.cell 2
              have c3 := hb0.cell 3
              have c5 := hb0.cell 5
              have c6 := hb0.cell 6
              have f3 := hb0.frozen 3
              have f5 := hb0.frozen 5
              simp at c0 c2' c3 c5 c6
              have hgz0 := H0.out.lt
              clear hb0
              have RAW1 : Hid (IdRaw (W0.setCell ⟨g, 5, none⟩ (.int .i64 ((s0.steps : Int) + 1))) g (some ⟨b, o, none⟩) c ps A2 c2 exp ((occ.length : Int) - (held.length : Int)) budget s1.steps (freeF occ held) at_ (.slice Aa at_.length ca) s1.best (if s1.found = 0 then -1 else s1.sum) (decide (s1.found = 1))) := by
                have h := H0.out.raw.setSteps (s0.steps + 1) 0
                rw [HS.out]
                exact h
              have KW : Hid (Keeps (fun b => g ≤ b) w (W0.setCell ⟨g, 5, none⟩ (.int .i64 ((s0.steps : Int) + 1)))) := KW1.out.setCell (p := ⟨g, 5, none⟩) (fun _ => Nat.le_refl _) _
              have hz6 := RAW1.out.lt
              go_wp2_with (at_builtin; refine wpList_append_L tyInt RInt.ok rfl (.tmp 95) (.tmp 97) rfl (RAW1.out.at_.alloc RInt.ok _) rfl _ [.int .i64 ((j : Int) - 1)] rfl (Blk.new' _ _ _ (by simp)) rfl ((j : Int) - 1) (S := fun _ => False) rfl (fun _ h => h.elim) (by simp [Value.oneCell']) (by omega) (by omega) (by simp; omega) ?_; intro v2 w2 HO2 HK2 HA2; obtain ⟨A6, c6x, hv6, _, _⟩ := HO2.form; rw [List.length_append, List.length_singleton] at hv6; subst hv6; have AF := RAW1.out.after HK2; have E6 := AF.1; have F6 := AF.2.1; have HKK := Lib.hid AF.2.2; clear AF; have HRP := Lib.hid (RAW1.out.push HO2 HK2 HA2); clear HO2 HK2 HA2)
              generalize hW3 : World.setCell w2 _ _ = W3
              have K3 : Hid (Keeps (fun b => g ≤ b) (W0.setCell ⟨g, 5, none⟩ (.int .i64 ((s0.steps : Int) + 1))) W3) := by subst hW3; exact HKK.out.setCell (p := ⟨g, 6, none⟩) (fun _ => Nat.le_refl _) _
              have HRP3 : Hid (IdSt W3 g (some ⟨b, o, none⟩) c ps A2 c2 exp occ budget (at_ ++ [(j : Int) - 1]) (held) (.slice A6 (at_.length + 1) c6x) s1) := by subst hW3; exact HRP.out.st H0.out.nd H0.out.sub (by rw [HS.out]; exact H0.out.sums)
              clear hW3 E6 F6 HRP HKK
              have ec : (t : Int) + 1 = ((t + 1 : Nat) : Int) := by omega
              rw [ec]
              clear ec
              refine (IH.out (t + 1) W3 (at_ ++ [(j : Int) - 1]) (held) (.slice A6 (at_.length + 1) c6x) s1 HR.out (by omega) (by have := HAT.out; simp; omega) (fun x hx => by
                rcases List.mem_append.1 hx with hx | hx
                · exact HSM.out x hx
                · simp at hx; subst hx; omega) (by have := HS1.out; omega) HRP3.out).mono ?_
              rintro e w4 ⟨rfl, k4, vat4, h4⟩
              generalize hR4 : search exp occ budget rest (at_ ++ [(j : Int) - 1]) (held) s1 = R4 at h4
              obtain ⟨ok4, s4⟩ := R4
              have hst4 : s4.steps ≤ budget := by
                have := search_steps exp occ budget rest (at_ ++ [(j : Int) - 1]) (held) s1 (by have := HS1.out; omega)
                rw [hR4] at this; exact this
              have HR4 := Lib.hid hR4; clear hR4
              simp only [] at h4
              obtain ⟨A4, c4, rfl, hc4, hc42⟩ := h4.at_.form
              have hA4 : ∃ ad, A4 = some ad := by
                cases A4 with
                | some ad => exact ⟨ad, rfl⟩
                | none =>
                  have := h4.at_.form
                  obtain ⟨ess, _, hrow, _⟩ := h4.at_
                  rcases hrow.2 with ⟨_, hn⟩ | ⟨_, _, _, he, _⟩
                  · simp at hn
                  · cases he
              obtain ⟨⟨ab, ao, asp⟩, rfl⟩ := hA4
              obtain rfl : asp = none := by
                obtain ⟨ess, _, hrow, _⟩ := h4.at_
                rcases hrow.2 with ⟨he, _⟩ | ⟨_, _, _, he, _⟩
                · cases he
                · injection he with he; injection he with he; injection he
              have K4 : Hid (Keeps (fun b => g ≤ b) w w4) := (KW.out.trans K3.out (fun _ _ h => h)).trans k4 (fun _ _ h => h)
              have H4 := Lib.hid h4; clear h4 k4
              obtain ⟨vb4, hb4, _⟩ := H4.out.blk
              have m0 := hb4.cell 0
              have m2 := hb4.cell 2
              have m3 := hb4.cell 3
              have m6 := hb4.cell 6
              have n3 := hb4.frozen 3
              have n6 := hb4.frozen 6
              simp at m0 m2 m3 m6
              have hl4 : (at_ ++ [(j : Int) - 1]).length = t + 1 := by have := HAT.out; simp; omega
              rw [hl4] at hc4
              have hat1 : at_.length ≤ t := by have := HAT.out; omega
              have hat2 : t ≤ at_.length := by have := HAT.out; omega
              have HL4 := Lib.hid hl4; clear hl4 hb4
              have HCUT : Hid (IdRaw (w4.setCell ⟨g, 6, none⟩ (.slice (some ⟨ab, ao, none⟩) t c4)) g (some ⟨b, o, none⟩) c ps A2 c2 exp ((occ.length : Int) - ((held).length : Int)) budget s4.steps (freeF occ (held)) at_ (.slice (some ⟨ab, ao, none⟩) t c4) s4.best (if s4.found = 0 then -1 else s4.sum) (decide (s4.found = 1))) := by
                have h := H4.out.raw.cut (t := t) (by rw [HL4.out]; omega)
                have e : (at_ ++ [(j : Int) - 1]).take t = at_ := by rw [← HAT.out]; simp
                rw [e] at h; exact h
              have hz4 := H4.out.lt
              cases ok4 with
              | false =>
                go_wp2
                generalize hW5 : World.setCell w4 _ _ = W5
                have K5 : Hid (Keeps (fun b => g ≤ b) w W5) := by subst hW5; exact K4.out.setCell (p := ⟨g, 6, none⟩) (fun _ => Nat.le_refl _) _
                have S5 : Hid (IdSt W5 g (some ⟨b, o, none⟩) c ps A2 c2 exp occ budget at_ held (.slice (some ⟨ab, ao, none⟩) t c4) s4) := by subst hW5; exact HCUT.out.st H4.out.nd H4.out.sub H4.out.sums
                clear hW5
                go_ret
                have hR : R = (false, s4) := by rw [HI.out, tries_cons, if_neg HS1'.out, if_pos HOUT.out, ← HS.out, HR4.out]; rfl
                subst hR
                exact ⟨rfl, K5.out, _, S5.out⟩
              | true =>
                go_wp2
                generalize hW5 : World.setCell w4 _ _ = W5
                have K5 : Hid (Keeps (fun b => g ≤ b) w W5) := by subst hW5; exact K4.out.setCell (p := ⟨g, 6, none⟩) (fun _ => Nat.le_refl _) _
                have S5 : Hid (IdSt W5 g (some ⟨b, o, none⟩) c ps A2 c2 exp occ budget at_ held (.slice (some ⟨ab, ao, none⟩) t c4) s4) := by subst hW5; exact HCUT.out.st H4.out.nd H4.out.sub H4.out.sums
                clear hW5
                go_roundw
                case rel => exact ⟨j + 1, by omega, by go_num, _, s4, S5.out, hst4, K5.out, by rw [HI.out, tries_cons, if_neg HS1'.out, if_pos HOUT.out, ← HS.out, HR4.out]; rfl⟩
                case measure => simp [intOf]; omega
            · have g3 : decide ((0 : Int) ≤ (j : Int) - 1) = true := by simp; omega
              have g4 : decide ((j : Int) - 1 < (p'.length : Int)) = false := by simp; omega
              have hj0 : p'.length < j := by omega
              have HJ := Lib.hid h0; clear h0
              go_wp2
              go_quiet (fail)
              generalize hW0 : World.drewN wr _ = W0
              have H0 : Hid (IdSt W0 g (some ⟨b, o, none⟩) c ps A2 c2 exp occ budget at_ held (.slice Aa at_.length ca) s0) := by subst hW0; exact H.out.keeps0 ((Keeps.refl _ _).drewN _)
              have KW1 : Hid (Keeps (fun b => g ≤ b) w W0) := by subst hW0; exact KW0.out.drewN _
              have k1 : W0.cell? ⟨b, o + t, none⟩ = some (.slice A' p'.length c') := by subst hW0; exact k1
              have HPR0 : Hid (RPath W0 (fun b => b < g) [.slice A' p'.length c'] p') := by subst hW0; exact HPR.out
              clear hW0 c0 c4 c5 f5
              obtain ⟨vb0, hb0, _⟩ := H0.out.blk
              have c0 := hb0.cell 0
              have c2' := hb0.cell 2
              have c3 := hb0.cell 3
              have c5 := hb0.cell 5
              have c6 := hb0.cell 6
              have f3 := hb0.frozen 3
              have f5 := hb0.frozen 5
              simp at c0 c2' c3 c5 c6
              have hgz0 := H0.out.lt
              clear hb0
              have RAW1 : Hid (IdRaw (W0.setCell ⟨g, 5, none⟩ (.int .i64 ((s0.steps : Int) + 1))) g (some ⟨b, o, none⟩) c ps A2 c2 exp ((occ.length : Int) - (held.length : Int)) budget s1.steps (freeF occ held) at_ (.slice Aa at_.length ca) s1.best (if s1.found = 0 then -1 else s1.sum) (decide (s1.found = 1))) := by
                have h := H0.out.raw.setSteps (s0.steps + 1) 0
                rw [HS.out]
                exact h
              have KW : Hid (Keeps (fun b => g ≤ b) w (W0.setCell ⟨g, 5, none⟩ (.int .i64 ((s0.steps : Int) + 1)))) := KW1.out.setCell (p := ⟨g, 5, none⟩) (fun _ => Nat.le_refl _) _
              have hz6 := RAW1.out.lt
              go_wp2_with (at_builtin; refine wpList_append_L tyInt RInt.ok rfl (.tmp 95) (.tmp 97) rfl (RAW1.out.at_.alloc RInt.ok _) rfl _ [.int .i64 ((j : Int) - 1)] rfl (Blk.new' _ _ _ (by simp)) rfl ((j : Int) - 1) (S := fun _ => False) rfl (fun _ h => h.elim) (by simp [Value.oneCell']) (by omega) (by omega) (by simp; omega) ?_; intro v2 w2 HO2 HK2 HA2; obtain ⟨A6, c6x, hv6, _, _⟩ := HO2.form; rw [List.length_append, List.length_singleton] at hv6; subst hv6; have AF := RAW1.out.after HK2; have E6 := AF.1; have F6 := AF.2.1; have HKK := Lib.hid AF.2.2; clear AF; have HRP := Lib.hid (RAW1.out.push HO2 HK2 HA2); clear HO2 HK2 HA2)
              generalize hW3 : World.setCell w2 _ _ = W3
              have K3 : Hid (Keeps (fun b => g ≤ b) (W0.setCell ⟨g, 5, none⟩ (.int .i64 ((s0.steps : Int) + 1))) W3) := by subst hW3; exact HKK.out.setCell (p := ⟨g, 6, none⟩) (fun _ => Nat.le_refl _) _
              have HRP3 : Hid (IdSt W3 g (some ⟨b, o, none⟩) c ps A2 c2 exp occ budget (at_ ++ [(j : Int) - 1]) (held) (.slice A6 (at_.length + 1) c6x) s1) := by subst hW3; exact HRP.out.st H0.out.nd H0.out.sub (by rw [HS.out]; exact H0.out.sums)
              clear hW3 E6 F6 HRP HKK
              have ec : (t : Int) + 1 = ((t + 1 : Nat) : Int) := by omega
              rw [ec]
              clear ec
              refine (IH.out (t + 1) W3 (at_ ++ [(j : Int) - 1]) (held) (.slice A6 (at_.length + 1) c6x) s1 HR.out (by omega) (by have := HAT.out; simp; omega) (fun x hx => by
                rcases List.mem_append.1 hx with hx | hx
                · exact HSM.out x hx
                · simp at hx; subst hx; omega) (by have := HS1.out; omega) HRP3.out).mono ?_
              rintro e w4 ⟨rfl, k4, vat4, h4⟩
              generalize hR4 : search exp occ budget rest (at_ ++ [(j : Int) - 1]) (held) s1 = R4 at h4
              obtain ⟨ok4, s4⟩ := R4
              have hst4 : s4.steps ≤ budget := by
                have := search_steps exp occ budget rest (at_ ++ [(j : Int) - 1]) (held) s1 (by have := HS1.out; omega)
                rw [hR4] at this; exact this
              have HR4 := Lib.hid hR4; clear hR4
              simp only [] at h4
              obtain ⟨A4, c4, rfl, hc4, hc42⟩ := h4.at_.form
              have hA4 : ∃ ad, A4 = some ad := by
                cases A4 with
                | some ad => exact ⟨ad, rfl⟩
                | none =>
                  have := h4.at_.form
                  obtain ⟨ess, _, hrow, _⟩ := h4.at_
                  rcases hrow.2 with ⟨_, hn⟩ | ⟨_, _, _, he, _⟩
                  · simp at hn
                  · cases he
              obtain ⟨⟨ab, ao, asp⟩, rfl⟩ := hA4
              obtain rfl : asp = none := by
                obtain ⟨ess, _, hrow, _⟩ := h4.at_
                rcases hrow.2 with ⟨he, _⟩ | ⟨_, _, _, he, _⟩
                · cases he
                · injection he with he; injection he with he; injection he
              have K4 : Hid (Keeps (fun b => g ≤ b) w w4) := (KW.out.trans K3.out (fun _ _ h => h)).trans k4 (fun _ _ h => h)
              have H4 := Lib.hid h4; clear h4 k4
              obtain ⟨vb4, hb4, _⟩ := H4.out.blk
              have m0 := hb4.cell 0
              have m2 := hb4.cell 2
              have m3 := hb4.cell 3
              have m6 := hb4.cell 6
              have n3 := hb4.frozen 3
              have n6 := hb4.frozen 6
              simp at m0 m2 m3 m6
              have hl4 : (at_ ++ [(j : Int) - 1]).length = t + 1 := by have := HAT.out; simp; omega
              rw [hl4] at hc4
              have hat1 : at_.length ≤ t := by have := HAT.out; omega
              have hat2 : t ≤ at_.length := by have := HAT.out; omega
              have HL4 := Lib.hid hl4; clear hl4 hb4
              have HCUT : Hid (IdRaw (w4.setCell ⟨g, 6, none⟩ (.slice (some ⟨ab, ao, none⟩) t c4)) g (some ⟨b, o, none⟩) c ps A2 c2 exp ((occ.length : Int) - ((held).length : Int)) budget s4.steps (freeF occ (held)) at_ (.slice (some ⟨ab, ao, none⟩) t c4) s4.best (if s4.found = 0 then -1 else s4.sum) (decide (s4.found = 1))) := by
                have h := H4.out.raw.cut (t := t) (by rw [HL4.out]; omega)
                have e : (at_ ++ [(j : Int) - 1]).take t = at_ := by rw [← HAT.out]; simp
                rw [e] at h; exact h
              have hz4 := H4.out.lt
              cases ok4 with
              | false =>
                go_wp2
                generalize hW5 : World.setCell w4 _ _ = W5
                have K5 : Hid (Keeps (fun b => g ≤ b) w W5) := by subst hW5; exact K4.out.setCell (p := ⟨g, 6, none⟩) (fun _ => Nat.le_refl _) _
                have S5 : Hid (IdSt W5 g (some ⟨b, o, none⟩) c ps A2 c2 exp occ budget at_ held (.slice (some ⟨ab, ao, none⟩) t c4) s4) := by subst hW5; exact HCUT.out.st H4.out.nd H4.out.sub H4.out.sums
                clear hW5
                go_ret
                have hR : R = (false, s4) := by rw [HI.out, tries_cons, if_neg HS1'.out, if_pos HOUT.out, ← HS.out, HR4.out]; rfl
                subst hR
                exact ⟨rfl, K5.out, _, S5.out⟩
              | true =>
                go_wp2
                generalize hW5 : World.setCell w4 _ _ = W5
                have K5 : Hid (Keeps (fun b => g ≤ b) w W5) := by subst hW5; exact K4.out.setCell (p := ⟨g, 6, none⟩) (fun _ => Nat.le_refl _) _
                have S5 : Hid (IdSt W5 g (some ⟨b, o, none⟩) c ps A2 c2 exp occ budget at_ held (.slice (some ⟨ab, ao, none⟩) t c4) s4) := by subst hW5; exact HCUT.out.st H4.out.nd H4.out.sub H4.out.sums
                clear hW5
                go_roundw
                case rel => exact ⟨j + 1, by omega, by go_num, _, s4, S5.out, hst4, K5.out, by rw [HI.out, tries_cons, if_neg HS1'.out, if_pos HOUT.out, ← HS.out, HR4.out]; rfl⟩
                case measure => simp [intOf]; omega
      · obtain rfl : j = p'.length + 2 := by omega
        have hR : Hid (R = (true, s0)) := by rw [HI0.out, posns_end]; rfl
        go_wp2
        go_ret
        have hR' := hR.out
        subst hR'
        exact ⟨rfl, KW0.out, _, H.out⟩





theorem valid_len {ps : List (List Stage)} (h : valid ps = true) : ps.length ≤ 10 ∧ ∀ p ∈ ps, 1 ≤ p.length ∧ p.length ≤ 64 := by
  simp only [valid, Bool.and_eq_true, decide_eq_true_eq, List.all_eq_true] at h
  refine ⟨h.1.1, fun p hp => ?_⟩
  have := h.1.2 p hp
  simp only [pathOk, Bool.and_eq_true, decide_eq_true_eq] at this
  exact ⟨this.1.1, this.1.2⟩
theorem good_small {ps : List (List Stage)} {at_ : List Int} (hv : valid ps = true) (h : good ps at_ = true) : small at_ ∧ at_.length = ps.length := by
  simp only [good, Bool.and_eq_true, decide_eq_true_eq] at h
  have hl := valid_len hv
  refine ⟨⟨by omega, fun x hx => ?_⟩, h.1⟩
  obtain ⟨t, ht, rfl⟩ := List.getElem_of_mem hx
  have hp : ps[t]? = some ps[t] := List.getElem?_eq_getElem (by omega)
  have := goodFrom_at ps at_ h.2 t ps[t] at_[t] hp (List.getElem?_eq_getElem ht)
  have h2 := hl.2 ps[t] (List.mem_of_getElem? hp)
  simp [okPos] at this
  omega

def AscInv (occ : List Int) (k : Nat) : Prop := ascend occ = ascend (occ.drop (k - 1))
theorem AscInv.step {occ : List Int} {k : Nat} {a b : Int} (h : AscInv occ k) (hk : 0 < k) (ha : occ[k - 1]? = some a) (hb : occ[k]? = some b) (hlt : a < b) : AscInv occ (k + 1) := by
  unfold AscInv at *
  have e1 := drop_cons' ha
  rw [show k - 1 + 1 = k from by omega] at e1
  have e2 := drop_cons' hb
  rw [h, e1, e2, ascend, ← e2, Nat.add_sub_cancel]
  simp [hlt]
theorem AscInv.stop {occ : List Int} {k : Nat} {a b : Int} (h : AscInv occ k) (hk : 0 < k) (ha : occ[k - 1]? = some a) (hb : occ[k]? = some b) (hlt : b ≤ a) : ascend occ = false := by
  unfold AscInv at *
  have e1 := drop_cons' ha
  rw [show k - 1 + 1 = k from by omega] at e1
  have e2 := drop_cons' hb
  rw [h, e1, e2, ascend]
  simp; intro h'; omega
theorem AscInv.done {occ : List Int} (h : AscInv occ occ.length) : ascend occ = true := by
  unfold AscInv at h
  rw [h]
  have : (occ.drop (occ.length - 1)).length ≤ 1 := by simp; omega
  match hd : occ.drop (occ.length - 1), this with
  | [], _ => rfl
  | [a], _ => rfl
theorem ascend_nodup : ∀ (l : List Int), ascend l = true → l.Nodup ∧ ∀ a r, l = a :: r → ∀ x ∈ r, a < x
  | [], _ => by simp
  | [a], _ => by simp
  | a :: b :: r, h => by
    simp only [ascend, Bool.and_eq_true, decide_eq_true_eq] at h
    obtain ⟨h1, h2⟩ := ascend_nodup (b :: r) h.2
    have h3 := h2 b r rfl
    have h4 : ∀ x ∈ b :: r, a < x := fun x hx => by
      rcases List.mem_cons.1 hx with rfl | hx
      · exact h.1
      · have := h3 x hx; omega
    refine ⟨List.nodup_cons.2 ⟨fun hm => by have := h4 a hm; omega, h1⟩, fun a' r' e x hx => ?_⟩
    injection e with e1 e2; subst e1 e2; exact h4 x hx
def occF (l : List Int) : Int → Option Value := fun k => if k ∈ l then some (.bool true) else none

structure OccInv (w1 wr : World) (A : Option Addr) (c : Nat) (ps : List (List Stage)) (A2 : Option Addr) (c2 : Nat) (exp occ : List Int) (bn k : Nat) : Prop where
  b : Blk wr w1.heap.size 57 #[.slice A ps.length c, .slice A2 exp.length c2, .map (some (w1.heap.size + 1)), .int .i64 occ.length, .int .i64 bn, .int .i64 0, .slice none 0 0, .slice none 0 0, .int .i64 (-1), .bool false]
  m : ∃ ks, MapIs wr (w1.heap.size + 1) ks (occF (occ.take k))
  k : KeepsAll w1 wr
set_option maxRecDepth 100000 in
set_option maxHeartbeats 1000000 in
theorem Identify_any (ps : List (List Stage)) (exp occ : List Int) (budget : Int) (A A2 A3 : Option Addr) (c c2 c3 : Nat) (w : World) (h : RPaths w (Old w) [.slice A ps.length c] ps) (h2 : RInts w (Old w) [.slice A2 exp.length c2] exp) (h3 : RInts w (Old w) [.slice A3 occ.length c3] occ) :
    Calls Tryz.prog 7 #[.slice A ps.length c, .slice A2 exp.length c2, .slice A3 occ.length c3, .int .i64 budget] w fun e w' => ∃ v, e = .returned (.tuple #[v, .int .i64 (identify ps exp occ budget).2.1, .int .i64 (identify ps exp occ budget).2.2]) ∧ RInts w' (Fresh w w') [v] (identify ps exp occ budget).1 ∧ KeepsAll w w' := by
  have hc := h.caps
  have hc2 := h2.caps
  have hc3 := h3.caps
  have H := Lib.hid h; clear h
  have H2 := Lib.hid h2; clear h2
  have H3 := Lib.hid h3; clear h3
  have hmm := @run_makeMap Tryz.prog
  by_cases g1 : valid ps = true
  · go_enter Tryz.func7, Tryz.ntmps7
    go_wp2_with fail
    refine (Valid_any ps A c w H.out).mono ?_
    rintro e w1 ⟨rfl, k1⟩
    have H1 := Lib.hid (k1.rd RPaths.ok H.out (fun b hb => ⟨hb, by simp⟩) (fun _ h => h))
    have H21 := Lib.hid (k1.rd RInts.ok H2.out (fun b hb => ⟨hb, by simp⟩) (fun _ h => h))
    have H31 := Lib.hid (k1.rd RInts.ok H3.out (fun b hb => ⟨hb, by simp⟩) (fun _ h => h))
    have K1 := Lib.hid k1; clear k1
    by_cases g2 : good ps exp = true
    · go_wp2_with (go_at_call 23; refine (tgood_any ps exp A A2 c c2 _ (Old w) (Old w) H1.out H21.out).mono ?_; rintro e w2 ⟨rfl, rfl⟩)
      go_loop [27] (fun i => ∃ k : Nat, k ≤ occ.length ∧ i = .int .i64 k ∧ AscInv occ k) (fun i => occ.length - (intOf i).toNat)
      case atStart => exact ⟨0, Nat.zero_le _, rfl, rfl⟩
      case round =>
        obtain ⟨k, hk, rfl, hasc⟩ := hrel
        by_cases hlt : k < occ.length
        · obtain ⟨b, o, x, rfl, _, hx, k1⟩ := H31.out.at_ hlt
          by_cases hk0 : 0 < k
          · obtain ⟨b', o', y, hbo, _, hy, k2⟩ := H31.out.at_ (k := k - 1) (by omega)
            injection hbo with hbo; injection hbo with hbo1 hbo2; subst hbo1 hbo2
            by_cases hxy : x ≤ y
            · have Q : Hid (identify ps exp occ budget = ([], 0, 1)) := by show identify ps exp occ budget = _; simp [identify, g1, g2, hasc.stop hk0 hy hx hxy]
              clear hx hy
              go_wp2
              go_ret3
              rw [Q.out]
              exact ⟨_, rfl, RSlice.mkNil, K1.out⟩
            · have Q := Lib.hid (hasc.step hk0 hy hx (by omega))
              clear hx hy
              go_wp2
              go_round
              case rel => exact ⟨k + 1, by omega, by go_num, Q.out⟩
              case measure => simp [intOf]; omega
          · have hk1 : k < 1 := by omega
            have Q : Hid (AscInv occ (k + 1)) := by
              have : k = 0 := by omega
              subst this; exact hasc
            clear hx
            go_wp2
            go_round
            case rel => exact ⟨k + 1, by omega, by go_num, Q.out⟩
            case measure => simp [intOf]; omega
        · obtain rfl : k = occ.length := by omega
          have HASC := Lib.hid hasc.done; clear hasc
          by_cases g3 : budget < 1 ∨ 1048576 < budget
          · have Q : Hid (identify ps exp occ budget = ([], 0, 4)) := by show identify ps exp occ budget = _; simp [identify, g1, g2, HASC.out, g3]
            rcases g3 with g3 | g3
            · go_wp2
              go_ret3
              rw [Q.out]
              exact ⟨_, rfl, RSlice.mkNil, K1.out⟩
            · have g3' : decide (budget < 1) = false := by simp; omega
              go_wp2
              go_ret3
              rw [Q.out]
              exact ⟨_, rfl, RSlice.mkNil, K1.out⟩
          · obtain ⟨bn, rfl⟩ := Int.eq_ofNat_of_zero_le (by omega : 0 ≤ budget)
            have g3a : decide ((bn : Int) < 1) = false := by simp; omega
            have g3b : bn ≤ 1048576 := by omega
            have g3c : decide ((1048576 : Int) < (bn : Int)) = false := by simp; omega
            have Q : Hid (identify ps exp occ bn = match search exp occ bn ps [] [] ⟨0, 0, 0, []⟩ with
              | (false, _) => ([], 0, 15)
              | (true, s) => if s.found = 0 then ([], s.steps, 6) else if 1 < s.found then ([], s.steps, 13) else (s.best, s.steps, 0)) := by
              show identify ps exp occ bn = _
              simp only [identify, g1, g2, HASC.out, g3]
              simp
              rfl
            have hzk := K1.out.size
            clear g3
            go_wp2
            generalize hW2 : World.alloc (World.alloc w1 _) _ = W2
            have BK : Blk W2 w1.heap.size 57 #[.slice A ps.length c, .slice A2 exp.length c2, .map (some (w1.heap.size + 1)), .int .i64 occ.length, .int .i64 bn, .int .i64 0, .slice none 0 0, .slice none 0 0, .int .i64 (-1), .bool false] := by subst hW2; exact (Blk.new _ _ _).alloc _
            have MK : MapIs W2 (w1.heap.size + 1) [] (occF []) := by
              subst hW2
              have := MapIs.new (w1.alloc (.cells #[.slice A ps.length c, .slice A2 exp.length c2, .map (some (w1.heap.size + 1)), .int .i64 occ.length, .int .i64 bn, .int .i64 0, .slice none 0 0, .slice none 0 0, .int .i64 (-1), .bool false] 57))
              have e : (w1.alloc (.cells #[.slice A ps.length c, .slice A2 exp.length c2, .map (some (w1.heap.size + 1)), .int .i64 occ.length, .int .i64 bn, .int .i64 0, .slice none 0 0, .slice none 0 0, .int .i64 (-1), .bool false] 57)).heap.size = w1.heap.size + 1 := by simp
              rw [e] at this
              have e2 : occF [] = fun _ => none := by funext k; simp [occF]
              rw [e2]; exact this
            have KK : KeepsAll w1 W2 := by subst hW2; exact ((Keeps.refl _ _).alloc _).alloc _
            clear hW2
            go_loopw [63] (fun i wr => ∃ k : Nat, k ≤ occ.length ∧ i = .int .i64 k ∧ OccInv w1 wr A c ps A2 c2 exp occ bn k) (fun i _ => occ.length - (intOf i).toNat)
            case atStart => exact ⟨0, Nat.zero_le _, rfl, ⟨BK, ⟨_, MK⟩, KK⟩⟩
            case round =>
              obtain ⟨k, hk, rfl, hinv⟩ := hrel
              clear BK MK KK
              have hz2 := hinv.k.size
              obtain ⟨ks, hm⟩ := hinv.m
              have hmz := hm.lt
              have m2 := hinv.b.cell 2
              simp at m2
              by_cases hlt : k < occ.length
              · obtain ⟨b, o, x, rfl, hb, hx, k1⟩ := H31.out.at_ hlt
                have k1' := (hinv.k.cell (p := ⟨b, o + k, none⟩) (by have : b < w.heap.size := hb; show b < _; omega) (by simp)).trans k1
                obtain ⟨w3, hrun, hm3, k3, hz3⟩ := hm.update (P := Tryz.prog) (t := 55) (E := 4) Tryz.underlying55 Tryz.underlying3 x (.bool true)
                have HI : Hid (OccInv w1 w3 A c ps A2 c2 exp occ bn (k + 1)) := by
                  have e : setF (occF (occ.take k)) x (.bool true) = occF (occ.take (k + 1)) := by
                    funext y; unfold setF occF
                    rw [List.take_add_one, hx]
                    by_cases hyx : y = x
                    · simp [hyx]
                    · simp [hyx]
                  rw [e] at hm3
                  exact ⟨hinv.b.kept k3 (by omega), ⟨_, hm3⟩, hinv.k.trans k3 (fun y hy e => by omega)⟩
                clear hinv hm hm3 k3 hz3 hx k1
                go_wp2
                go_roundw
                case rel => exact ⟨k + 1, by omega, by go_num, HI.out⟩
                case measure => simp [intOf]; omega
              · obtain rfl : k = occ.length := by omega
                have hv := valid_len g1
                have hgs := good_small g1 g2
                have FX : IdFix ps exp occ bn := ⟨by omega, hv.1, fun p hp => (hv.2 p hp).2, hgs.1, hgs.2, g3b⟩
                have ST : Hid (IdSt wr w1.heap.size A c ps A2 c2 exp occ bn [] [] (.slice none 0 0) ⟨0, 0, 0, []⟩) := by
                  refine ⟨⟨.slice none 0 0, by simpa using hinv.b, RSlice.mkNil⟩, ⟨ks, ?_⟩, OwnL.nil, ?_, ?_, List.nodup_nil, by simp, by simp⟩
                  · have e : freeF occ [] = occF (occ.take occ.length) := by funext y; simp [freeF, occF]
                    rw [e]; exact hm
                  · exact hinv.k.rd RPaths.ok H1.out (fun b hb => by have : b < w.heap.size := hb; exact ⟨by omega, by simp⟩) (fun b hb => by have : b < w.heap.size := hb; show b < _; omega)
                  · exact hinv.k.rd RInts.ok H21.out (fun b hb => by have : b < w.heap.size := hb; exact ⟨by omega, by simp⟩) (fun b hb => by have : b < w.heap.size := hb; show b < _; omega)
                have HFX := Lib.hid FX
                have HKI := Lib.hid hinv.k
                clear hinv hm m2 hv hgs FX
                go_wp2_with fail
                refine (assign_any w1.heap.size A c ps A2 c2 exp occ bn HFX.out ps 0 wr [] [] (.slice none 0 0) ⟨0, 0, 0, []⟩ (by simp) (by omega) rfl (by simp) (by simp) ST.out).mono ?_
                rintro e w4 ⟨rfl, k4, vat4, h4⟩
                generalize hR4 : search exp occ bn ps [] [] ⟨0, 0, 0, []⟩ = R4 at h4
                rw [hR4] at Q
                have HR4 := Lib.hid hR4; clear hR4
                obtain ⟨ok4, s4⟩ := R4
                have KF : Hid (KeepsAll w w4) := (K1.out.trans HKI.out (fun _ _ h => h)).trans k4 (fun x hx e => by omega)
                obtain ⟨vb4, hb4, hbest4⟩ := h4.blk
                have m5 := hb4.cell 5
                have m7 := hb4.cell 7
                have m8 := hb4.cell 8
                have m9 := hb4.cell 9
                simp at m5 m7 m8 m9
                have hsum := h4.sums
                clear hb4 k4
                cases ok4 with
                | false =>
                  go_wp2
                  go_ret3
                  rw [Q.out]
                  exact ⟨_, rfl, RSlice.mkNil, KF.out⟩
                | true =>
                  simp only [] at Q
                  by_cases g5 : s4.found = 0
                  · have e8 : (if s4.found = 0 then (-1 : Int) else s4.sum) = -1 := by simp [g5]
                    rw [e8] at m8
                    have Q2 : Hid (identify ps exp occ bn = ([], (s4.steps : Int), 6)) := by rw [Q.out]; simp only [g5]; rfl
                    clear Q e8 hsum g5
                    go_wp2
                    go_quiet (fail)
                    go_wp2
                    go_ret3
                    rw [Q2.out]
                    exact ⟨_, rfl, RSlice.mkNil, KF.out.drewN _⟩
                  · have e8 : (if s4.found = 0 then (-1 : Int) else s4.sum) = s4.sum := by simp [g5]
                    rw [e8] at m8
                    have hs0 := (hsum g5).1
                    by_cases g6 : s4.found = 1
                    · have e9 : decide (s4.found = 1) = true := by simpa using g6
                      rw [e9] at m9
                      have Q2 : Hid (identify ps exp occ bn = (s4.best, (s4.steps : Int), 0)) := by rw [Q.out]; simp only [g6]; rfl
                      obtain ⟨Ab, cb, hvb, _⟩ := hbest4
                      injection hvb with hvb _
                      subst hvb
                      have HB4 := Lib.hid h4.blk
                      obtain ⟨vb5, hb5, hbest5⟩ := h4.blk
                      have m7' := hb5.cell 7
                      simp at m7'
                      have ee : Value.slice Ab s4.best.length cb = vb5 := by rw [m7] at m7'; injection m7'
                      subst ee
                      have HB5 := Lib.hid hbest5
                      have hw1 := K1.out.size
                      clear Q e8 e9 hsum g5 g6 hb5 hbest5 m7' HB4 h4
                      go_wp2
                      go_quiet (fail)
                      go_wp2
                      go_ret3
                      rw [Q2.out]
                      exact ⟨_, rfl, RInts.ok.mono HB5.out (fun b hb => ⟨by have := hb.1; omega, hb.2.1⟩) (fun _ _ => rfl), KF.out.drewN _⟩
                    · have e9 : decide (s4.found = 1) = false := by simpa using g6
                      rw [e9] at m9
                      have Q2 : Hid (identify ps exp occ bn = ([], (s4.steps : Int), 13)) := by
                        rw [Q.out]
                        rw [if_neg g5, if_pos (by omega)]; rfl
                      clear Q e8 e9 hsum g5 g6
                      go_wp2
                      go_quiet (fail)
                      go_wp2
                      go_ret3
                      rw [Q2.out]
                      exact ⟨_, rfl, RSlice.mkNil, KF.out.drewN _⟩
    · have g2' : good ps exp = false := by simpa using g2
      have Q : Hid (identify ps exp occ budget = ([], 0, 1)) := by show identify ps exp occ budget = _; simp [identify, g2']
      go_wp2_with (go_at_call 23; refine (tgood_any ps exp A A2 c c2 _ (Old w) (Old w) H1.out H21.out).mono ?_; rintro e w2 ⟨rfl, rfl⟩)
      go_ret3
      rw [Q.out]
      exact ⟨_, rfl, RSlice.mkNil, K1.out⟩
  · have g1' : valid ps = false := by simpa using g1
    have Q : Hid (identify ps exp occ budget = ([], 0, 1)) := by show identify ps exp occ budget = _; simp [identify, g1']
    go_enter Tryz.func7, Tryz.ntmps7
    go_wp2_with (go_at_call 22; refine (Valid_any ps A c w H.out).mono ?_; rintro e w1 ⟨rfl, k1⟩)
    go_ret3
    rw [Q.out]
    exact ⟨_, rfl, RSlice.mkNil, k1⟩

end Go.Proofs.YtcbpiidbkjaneaaGreat
