/- Tenures in memory; contract of the reference's Free. Conditions: as the theorem says. -/
import Derived.Test.YtcbcegdidlefiaaGreatK08
import Derived.Lib.MinMax
namespace Go.Proofs.YtcbcegdidlefiaaGreat
open Go.RowKit

def tenC (x : Ten) : Array Value := #[.int .i64 x.res, .int .i64 x.tr, .int .i64 x.stg, .int .i64 x.frm, .int .i64 x.to]
def RTen : Rd Ten := fun _ _ cs s => cs = (tenC s).toList
theorem RTen.ok : Rd.Ok RTen := ⟨fun h _ _ => h⟩
theorem RTen.flt : Rd.Flt RTen := fun _ _ _ _ _ _ h => h
abbrev RTens := RSlice 5 RTen
theorem RTens.at_ {w : World} {S : Foot} {A : Option Addr} {n c : Nat} {l : List Ten} (h : RTens w S [.slice A n c] l) {k : Nat} (hk : k < l.length) :
    ∃ b o s, A = some ⟨b, o, none⟩ ∧ S b ∧ l[k]? = some s ∧ w.cell? ⟨b, o + k * 5, none⟩ = some (.int .i64 s.res) ∧ w.cell? ⟨b, o + k * 5 + 1, none⟩ = some (.int .i64 s.tr) ∧ w.cell? ⟨b, o + k * 5 + 2, none⟩ = some (.int .i64 s.stg) ∧
      w.cell? ⟨b, o + k * 5 + 3, none⟩ = some (.int .i64 s.frm) ∧ w.cell? ⟨b, o + k * 5 + 4, none⟩ = some (.int .i64 s.to) := by
  obtain ⟨b, o, s, es, rfl, hb, hx, h1, h2, h3⟩ := h.get hk
  cases h2
  exact ⟨b, o, s, rfl, hb, hx, by simpa using h3 0 _ rfl, by simpa [Nat.add_assoc] using h3 1 _ rfl, by simpa [Nat.add_assoc] using h3 2 _ rfl, by simpa [Nat.add_assoc] using h3 3 _ rfl, by simpa [Nat.add_assoc] using h3 4 _ rfl⟩
theorem RTens.atO {w wr : World} {A : Option Addr} {n c : Nat} (K : KeepsAll w wr) {l : List Ten} (h : RTens w (Old w) [.slice A n c] l) {k : Nat} (hk : k < l.length) :
    ∃ b o s, A = some ⟨b, o, none⟩ ∧ b < wr.heap.size ∧ l[k]? = some s ∧ wr.cell? ⟨b, o + k * 5, none⟩ = some (.int .i64 s.res) ∧ wr.cell? ⟨b, o + k * 5 + 1, none⟩ = some (.int .i64 s.tr) ∧ wr.cell? ⟨b, o + k * 5 + 2, none⟩ = some (.int .i64 s.stg) ∧
      wr.cell? ⟨b, o + k * 5 + 3, none⟩ = some (.int .i64 s.frm) ∧ wr.cell? ⟨b, o + k * 5 + 4, none⟩ = some (.int .i64 s.to) := by
  obtain ⟨b, o, s, e, hb, hs, c0, c1, c2, c3, c4⟩ := h.at_ hk
  exact ⟨b, o, s, e, Nat.lt_of_lt_of_le hb K.size, hs, K.cellA hb c0, K.cellA hb c1, K.cellA hb c2, K.cellA hb c3, K.cellA hb c4⟩
set_option maxRecDepth 100000 in
set_option maxHeartbeats 2000000 in
theorem rfree_any (l : List Ten) (A : Option Addr) (c : Nat) (w : World) (h : RTens w (Old w) [.slice A l.length c] l) :
    Calls Tryz.prog 22 #[.slice A l.length c] w fun e w' => e = .returned (.bool (decide (freeL l))) ∧ KeepsAll w w' := by
  have hc := h.caps
  have HR := Lib.hid h
  clear h
  go_enter Tryz.func22, Tryz.ntmps22
  go_wp2_with fail
  go_loopw [9] (fun i wr => ∃ n : Nat, n ≤ l.length ∧ i = .int .i64 (n : Int) ∧ freeL (l.take n) ∧ KeepsAll w wr) (fun i _ => l.length - (intOf i).toNat)
  case atStart => exact ⟨0, Nat.zero_le _, rfl, List.Pairwise.nil, Keeps.refl _ _⟩
  case round =>
    obtain ⟨n, hn, rfl, hfr, hk⟩ := hrel
    have HF := Lib.hid hfr
    have HK := Lib.hid hk
    clear hfr hk
    by_cases hlt : n < l.length
    · obtain ⟨b, o, x, rfl, hb, hx, c0, c1, c2, c3, c4⟩ := HR.out.atO HK.out hlt
      have HS := Lib.hid (freeL_take_succ hx)
      have HX := Lib.hid hx
      clear hx
      go_upto_region 4 with fail
      generalize hW1 : World.alloc wr _ = W1
      have K1 : Hid (KeepsAll w W1) := by subst hW1; exact HK.out.alloc _
      have B1 : Hid (Blk W1 wr.heap.size 66 (tenC x)) := by subst hW1; exact Blk.new _ _ _
      clear hW1 c0 c1 c2 c3 c4
      generalize hz : wr.heap.size = z at *
      obtain ⟨wo, hwo⟩ : ∃ wo : World, wo = wr := ⟨_, rfl⟩
      rw [← hwo] at HK
      clear hwo
      go_wp2_with fail
      obtain ⟨P, hP⟩ : ∃ P : Ten → Prop, P = clash x := ⟨_, rfl⟩
      have HP := Lib.hid hP
      clear hP
      go_loopw [18] (fun i wr => ∃ m : Nat, m ≤ n ∧ i = .int .i64 (m : Int) ∧ (∀ y ∈ l.take m, ¬ P y) ∧ KeepsAll W1 wr) (fun i _ => n - (intOf i).toNat)
      case atStart => exact ⟨0, Nat.zero_le _, rfl, by simp, Keeps.refl _ _⟩
      case round =>
        obtain ⟨m, hm, rfl, hno, hk⟩ := hrel
        have HNO := Lib.hid hno
        have KW := Lib.hid (K1.out.trA hk)
        have B2 := Lib.hid (B1.out.kept hk (by simp))
        have HKO := Lib.hid hk
        clear hno hk
        by_cases hlt2 : m < n
        · obtain ⟨b1, o1, y, hA1, hb1, hy, d0, d1, d2, d3, d4⟩ := HR.out.atO KW.out (k := m) (by omega)
          injection hA1 with hA1
          injection hA1 with hA1 hA2
          subst hA1 hA2
          have a0 := (B2.out.cell 0).trans (by rfl : _ = some (.int .i64 x.res))
          have a1 := (B2.out.cell 1).trans (by rfl : _ = some (.int .i64 x.tr))
          have a3 := (B2.out.cell 3).trans (by rfl : _ = some (.int .i64 x.frm))
          have a4 := (B2.out.cell 4).trans (by rfl : _ = some (.int .i64 x.to))
          have hzl : z < wr.heap.size := B2.out.lt
          have HYT : Hid (y ∈ l.take n) := List.mem_of_getElem? (by rw [List.getElem?_take_of_lt hlt2]; exact hy)
          have HNX : Hid (¬ P y → ∀ t ∈ l.take (m + 1), ¬ P t) := fun hn t ht => by
            rw [List.take_add_one, hy, Option.toList_some] at ht
            rcases List.mem_append.1 ht with ht | ht
            · exact HNO.out t ht
            · simp at ht; subst ht; exact hn
          have HBAD : Hid (P y → decide (freeL l) = false) := fun hcl => by
            rw [HP.out] at hcl
            rw [decide_eq_false_iff_not]
            intro hf
            have h1 : freeL (l.take (n + 1)) := List.Pairwise.sublist (List.take_sublist _ _) hf
            exact (HS.out.1 h1).2 y HYT.out hcl
          have HIF : Hid (P y ↔ clash x y) := Lib.hid (iff_of_eq (congrFun HP.out y))
          clear hy
          obtain ⟨xr, xt, xs, xf, xo⟩ := x
          obtain ⟨yr, yt, ys, yf, yo⟩ := y
          simp only [] at a0 a1 a3 a4 d0 d1 d2 d3 d4
          go_wp2_with fail
          all_goals first
            | (go_ret; refine ⟨congrArg (fun b => Ending.returned (Value.bool b)) (HBAD.out (HIF.out.2 ?_)).symm, KW.out.alloc _⟩; refine ⟨?_, ?_, ?_⟩ <;> simp_all <;> done)
            | (refine ⟨⟨_, _, _, ⟨m + 1, by omega, by go_num, HNX.out ?_, HKO.out.alloc _⟩, rfl, rfl, rfl⟩, by simp [intOf]; omega⟩; intro hq; have hq := HIF.out.1 hq; obtain ⟨q1, q2, q3⟩ := hq; simp only [] at q1 q2 q3; clear HS HX B1 HP B2 HYT HNX HBAD HIF; simp_all; try omega; done)
            | (refine ⟨⟨m + 1, by omega, by go_num, HNX.out ?_, HKO.out.alloc _⟩, by simp [intOf]; omega⟩; intro hq; have hq := HIF.out.1 hq; obtain ⟨q1, q2, q3⟩ := hq; simp only [] at q1 q2 q3; clear HS HX B1 HP B2 HYT HNX HBAD HIF; simp_all; try omega; done)
        · obtain rfl : m = n := by omega
          have HFN : Hid (freeL (l.take (m + 1))) := HS.out.2 ⟨HF.out, by have := HNO.out; rw [HP.out] at this; exact this⟩
          go_wp2_with fail
          exact ⟨⟨m + 1, by omega, by go_num, HFN.out, KW.out⟩, by simp [intOf]; omega⟩
    · obtain rfl : n = l.length := by omega
      have hfl : decide (freeL l) = true := by have := HF.out; rw [List.take_length] at this; simpa using this
      go_wp2_with fail
      go_ret
      exact ⟨by rw [hfl]; rfl, HK.out⟩
end Go.Proofs.YtcbcegdidlefiaaGreat
