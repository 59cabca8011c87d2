/- Contracts of the program's fields and Format. Conditions: as each theorem says. Contracts of the small helpers: range tests, Pick, the source of choices. Conditions: as each theorem says. Contracts of Same at records (equal lists) and of the maker of records. Conditions: as each theorem says. Contract of the reference's Parse of records. Conditions: as each theorem says. Contract of the reference's Decimal: the decimal form. Conditions: as the theorem says. Contract of the reference's Join, at words. Conditions: as the theorem says. -/
import Derived.Test.YtnglahcjemgcaaaGreatDoorK02
import Derived.Test.YtnglahcjemgcaaaGreatDoorK05
import Derived.Test.YtnglahcjemgcaaaGreatDoorProg
import Derived.Test.YtnglahcjemgcaaaGreatDoorK01
import Derived.Test.YtnglahcjemgcaaaGreatDoorK04
namespace Go.Proofs.YtnglahcjemgcaaaGreatDoor
section
open Go.RowKit

theorem tyStr9 : ElemTy Tryz.prog 51 9 1 16 := ElemTy.mk' (z := .string ⟨#[]⟩) Tryz.underlying51 (by kernel_rfl) rfl (by decide)
theorem tyLin : ElemTy Tryz.prog 50 51 1 24 := ElemTy.mk' (z := .slice none 0 0) Tryz.underlying50 (by kernel_rfl) rfl (by decide)
set_option maxHeartbeats 1000000 in
theorem cfields_any (v0 v1 v2 v3 v4 v5 : Int) (w : World) : Calls Tryz.prog 19 #[.agg #[.int .i64 v0, .int .i64 v1, .int .i64 v2, .int .i64 v3, .int .i64 v4, .int .i64 v5]] w fun e w' =>
    e = .returned (.agg (([v0, v1, v2, v3, v4, v5] : List Int).map (Value.int .i64)).toArray) ∧ KeepsAll w w' := by
  go_enter Tryz.func19, Tryz.ntmps19
  go_wp2
  generalize hW5 : World.alloc _ (.cells #[.int .i64 v0, .int .i64 v1, .int .i64 v2, .int .i64 v3, .int .i64 v4, .int .i64 v5] 47) = W5
  have hb5 : Blk W5 (w.heap.size + 1) 47 #[.int .i64 v0, .int .i64 v1, .int .i64 v2, .int .i64 v3, .int .i64 v4, .int .i64 v5] := by subst hW5; exact Blk.new' _ _ _ (by simp)
  have hk5 : KeepsAll w W5 := by subst hW5; exact ((Keeps.refl _ w).alloc _).alloc _
  clear hW5
  have b0 := hb5.cell 0
  have b1 := hb5.cell 1
  have b2 := hb5.cell 2
  have b3 := hb5.cell 3
  have b4 := hb5.cell 4
  have b5 := hb5.cell 5
  simp at b0 b1 b2 b3 b4 b5
  refine ⟨rfl, .agg #[.int .i64 v0, .int .i64 v1, .int .i64 v2, .int .i64 v3, .int .i64 v4, .int .i64 v5], by simp [results, Tryz.results19, go_sem, b0, b1, b2, b3, b4, b5], ?_⟩
  exact ⟨rfl, hk5⟩
theorem RRecs.atK {w wr : World} {rs : List Rc} {A : Option Addr} {n0 c : Nat} (K : KeepsAll w wr) (h : RRecs w (Old w) [.slice A n0 c] rs) {j : Nat} (hj : j < rs.length) :
    ∃ b o v0 v1 v2 v3 v4 v5, A = some ⟨b, o, none⟩ ∧ b < w.heap.size ∧ rs[j]? = some [v0, v1, v2, v3, v4, v5] ∧ wr.cell? ⟨b, o + j * 6, none⟩ = some (.int .i64 v0) ∧ wr.cell? ⟨b, o + j * 6 + 1, none⟩ = some (.int .i64 v1) ∧ wr.cell? ⟨b, o + j * 6 + 2, none⟩ = some (.int .i64 v2) ∧ wr.cell? ⟨b, o + j * 6 + 3, none⟩ = some (.int .i64 v3) ∧ wr.cell? ⟨b, o + j * 6 + 4, none⟩ = some (.int .i64 v4) ∧ wr.cell? ⟨b, o + j * 6 + 5, none⟩ = some (.int .i64 v5) := by
  obtain ⟨b, o, x, es, rfl, hb, hx, h1, ⟨h6, h2⟩, h3⟩ := h.get hj
  obtain ⟨v0, v1, v2, v3, v4, v5, rfl⟩ : ∃ v0 v1 v2 v3 v4 v5, x = [v0, v1, v2, v3, v4, v5] := by
    match x, h6 with
    | [v0, v1, v2, v3, v4, v5], _ => exact ⟨v0, v1, v2, v3, v4, v5, rfl⟩
  subst h2
  exact ⟨b, o, v0, v1, v2, v3, v4, v5, rfl, hb, hx, K.cellA hb (by simpa using h3 0 _ rfl), K.cellA hb (by simpa [Nat.add_assoc] using h3 1 _ rfl), K.cellA hb (by simpa [Nat.add_assoc] using h3 2 _ rfl), K.cellA hb (by simpa [Nat.add_assoc] using h3 3 _ rfl), K.cellA hb (by simpa [Nat.add_assoc] using h3 4 _ rfl), K.cellA hb (by simpa [Nat.add_assoc] using h3 5 _ rfl)⟩
theorem run_idx6 (ca : Array Value) (j : Nat) (x : Int) (hj : j < 6) (h : ca[j]? = some (.int .i64 x)) (w : World) : (Instr.index 47 (.agg ca) (.int .i64 (j : Int))).run Tryz.prog w = .ok (.int .i64 x) w := by
  have hu := run_underlying Tryz.underlying47 (w := w)
  simp [Instr.index, go_sem, hu, part, h, hj, Tryz.isAgg3, Tryz.sizeOf3]
theorem fmtL_ok (rs : List Rc) (h : ∀ r ∈ rs, r.all inM = true) : fmtL rs = (rs.map fun r => r.map Lib.itoa).flatMap jline := by
  unfold fmtL
  rw [if_pos (List.all_eq_true.2 h), List.flatMap_map]
  rfl
theorem fmtL_bad (rs : List Rc) (r : Rc) (hr : r ∈ rs) (h : r.all inM ≠ true) : fmtL rs = [] := by
  unfold fmtL
  rw [if_neg (fun e => h (List.all_eq_true.1 e r hr))]
theorem jok_rec (r : Rc) (h6 : r.length = 6) (h : r.all inM = true) : JOk (r.map Lib.itoa) := by
  refine ⟨by intro e; have := congrArg List.length e; simp [h6] at this, by simp [h6], fun x hx => ?_⟩
  obtain ⟨n, hn, rfl⟩ := List.mem_map.1 hx
  have hm := List.all_eq_true.1 h n hn
  simp only [inM, Bool.and_eq_true, decide_eq_true_eq] at hm
  exact ⟨itoa_ne n, itoa_isW n, Lib.itoa_length_le n (by omega) (by omega)⟩
set_option maxHeartbeats 8000000 in
set_option maxRecDepth 100000 in
theorem cFormat_any (rs : List Rc) (hll : rs.length ≤ 1048576) (A : Option Addr) (c : Nat) (w : World) (h : RRecs w (Old w) [.slice A rs.length c] rs) (ht : TabW w) :
    Calls Tryz.prog 8 #[.slice A rs.length c] w fun e w' => e = .returned (.string (mkS (fmtL rs))) ∧ KeepsAll w w' := by
  have HR := Lib.hid h
  have HT := Lib.hid ht
  have hcap := h.caps
  have HBAD := Lib.hid (fmtL_bad rs)
  have HGOOD := Lib.hid (fmtL_ok rs)
  clear h ht
  generalize fmtL rs = F at *
  go_enter Tryz.func8, Tryz.ntmps8
  generalize hN : w.heap.size = N at *
  go_wp2
  go_loopw [2, 3, 11] (fun v2 v3 i wr => ∃ n : Nat, n ≤ rs.length ∧ i = .int .i64 (n : Int) ∧ v2 = .string ⟨#[]⟩ ∧ OwnL 51 1 RStrs wr N N v3 ((rs.take n).map fun r => r.map Lib.itoa) ∧ KeepsAll w wr ∧ (∀ r ∈ rs.take n, r.all inM = true)) (fun _ _ i _ => rs.length - (intOf i).toNat)
  case atStart => exact ⟨0, Nat.zero_le _, rfl, rfl, by rw [List.take_zero]; exact OwnL.nil, Keeps.refl _ _, by rw [List.take_zero]; simp⟩
  case round =>
    obtain ⟨n, hn, rfl, rfl, ho, hk, hin⟩ := hrel
    obtain ⟨Ao, cp, rfl, hcp1, hcp2⟩ := ho.form
    have HO := Lib.hid ho
    have HK := Lib.hid hk
    have HIN := Lib.hid hin
    have hsz := hk.size
    have hml : ((rs.take n).map fun r => r.map Lib.itoa).length = n := by rw [List.length_map, List.length_take]; omega
    rw [hml] at HO hcp1 ⊢
    clear ho hk hin hml
    by_cases hlt : n < rs.length
    · obtain ⟨b, o, v0, v1, v2, v3, v4, v5, rfl, hb, hx, c0, c1, c2, c3, c4, c5⟩ := HR.out.atK HK.out hlt
      have HFD := Lib.hid (fun W1 => cfields_any v0 v1 v2 v3 v4 v5 W1)
      have hmem : [v0, v1, v2, v3, v4, v5] ∈ rs := List.mem_of_getElem? hx
      have HB1 := Lib.hid (HBAD.out _ hmem)
      have HTK : Hid (rs.take (n + 1) = rs.take n ++ [[v0, v1, v2, v3, v4, v5]]) := by show _ = _; rw [List.take_add_one, hx]; rfl
      have hbw : b < wr.heap.size := by omega
      clear hmem hx
      generalize hvv : ([v0, v1, v2, v3, v4, v5] : Rc) = vv at *
      have hvl : vv.length = 6 := by rw [← hvv]; rfl
      generalize hca : (vv.map (Value.int .i64)).toArray = ca at *
      have HCA : Hid (∀ (j : Nat) (x : Int), vv[j]? = some x → ca[j]? = some (.int .i64 x)) := fun j x hj => by rw [← hca]; simp [hj]
      have hcs : ca.size = 6 := by rw [← hca]; simp [hvl]
      obtain ⟨wo, hwo⟩ : ∃ wo : World, wo = wr := ⟨_, rfl⟩
      subst hwo
      go_wp2_with (go_at_call 19; refine (HFD.out _).mono ?_; rintro e w3 ⟨rfl, hk3⟩; have HK3 := Lib.hid hk3; have hsz3 := hk3.size; clear hk3)
      have HK3w : Hid (KeepsAll wo w3) := ((Keeps.refl _ wo).alloc _).trA HK3.out
      have hwo3 := HK3w.out.size
      clear HK3 hsz3 hvv hca c0 c1 c2 c3 c4 c5 HFD
      go_loopw [2, 6, 17] (fun v2 v6 i wr => ∃ j : Nat, j ≤ 6 ∧ i = .int .i64 (j : Int) ∧ v2 = .string ⟨#[]⟩ ∧ OwnL 9 1 RStr wr w3.heap.size w3.heap.size v6 ((vv.take j).map Lib.itoa) ∧ KeepsAll w3 wr ∧ (vv.take j).all inM = true) (fun _ _ i _ => 6 - (intOf i).toNat)
      case atStart => exact ⟨0, by omega, rfl, rfl, by rw [List.take_zero]; exact OwnL.nil, Keeps.refl _ _, rfl⟩
      case round =>
        obtain ⟨j, hj, rfl, rfl, ho, hk, hin⟩ := hrel
        obtain ⟨Aj, cj, rfl, hcj1, hcj2⟩ := ho.form
        have HOJ := Lib.hid ho
        have HKJ := Lib.hid hk
        have HINJ := Lib.hid hin
        have hsj := hk.size
        have hml : ((vv.take j).map Lib.itoa).length = j := by rw [List.length_map, List.length_take]; omega
        rw [hml] at HOJ hcj1 ⊢
        have HML := Lib.hid hml
        clear ho hk hin hml
        by_cases hjlt : j < 6
        · obtain ⟨x, hx⟩ : ∃ x, vv[j]? = some x := ⟨vv[j]'(by omega), List.getElem?_eq_getElem (by omega)⟩
          have hrun := run_idx6 ca j x hjlt (HCA.out j x hx)
          have HTJ : Hid (vv.take (j + 1) = vv.take j ++ [x]) := by show _ = _; rw [List.take_add_one, hx]; rfl
          have HXM := Lib.hid (List.mem_of_getElem? hx)
          have hjs : j < ca.size := by omega
          clear hx
          by_cases hlo : x < -1099511627776
          · have hF : F = [] := HB1.out (fun e => by have := List.all_eq_true.1 e x HXM.out; simp only [inM, Bool.and_eq_true, decide_eq_true_eq] at this; omega)
            have HF := Lib.hid hF
            clear hF
            go_wp2
            go_ret
            exact ⟨by rw [HF.out]; rfl, (HK.out.trA HK3w.out).trA HKJ.out⟩
          · by_cases hhi : 1099511627776 < x
            · have hF : F = [] := HB1.out (fun e => by have := List.all_eq_true.1 e x HXM.out; simp only [inM, Bool.and_eq_true, decide_eq_true_eq] at this; omega)
              have HF := Lib.hid hF
              clear hF
              go_wp2
              go_ret
              exact ⟨by rw [HF.out]; rfl, (HK.out.trA HK3w.out).trA HKJ.out⟩
            · have HNA : Hid ((vv.take (j + 1)).all inM = true) := by
                show _ = _
                rw [HTJ.out, List.all_append, HINJ.out]
                simp only [List.all_cons, List.all_nil, inM, Bool.and_eq_true, decide_eq_true_eq, Bool.true_and, and_true]
                omega
              have HIT := Lib.hid (itoa_any x (by omega) (by omega) wr (HT.out.keptA ((HK.out.trA HK3w.out).trA HKJ.out)))
              go_wp2_with (first
                | (go_at_call 20; refine (HIT.out).mono ?_; rintro e w5 ⟨rfl, hk5⟩; have HK5 := Lib.hid hk5; have hsz5 := hk5.size; clear hk5)
                | (at_builtin; go_loud (
                    have KB : KeepsAll w3 (w5.alloc (.cells #[.string (mkS (Lib.itoa x))] 9)) := (HKJ.out.trA HK5.out).alloc _
                    have hown := (HOJ.out.keepsT RStr.flt HK5.out (by simp)).keepsT RStr.flt ((Keeps.refl (fun _ => False) w5).alloc (.cells #[.string (mkS (Lib.itoa x))] 9)) (by simp)
                    refine wpList_append_L tyStr9 RStr.ok rfl (.tmp 26) (.tmp 29) rfl hown rfl _ [.string (mkS (Lib.itoa x))] rfl (Blk.new w5 9 #[.string (mkS (Lib.itoa x))]) rfl (Lib.itoa x) (S := fun _ => False) rfl (fun _ h => h.elim) (by simp [Value.oneCell']) (by rw [HML.out]; omega) (by rw [HML.out]; omega) (by simp; omega) ?_
                    intro v8 w8 HO8 HK8 HA8)))
              go_roundw
              case rel => exact ⟨j + 1, by omega, by go_num, rfl, by rw [HTJ.out, List.map_append]; exact HO8, KB.trans HK8 (fun y hy e => by have := (HOJ.out.lt e).1; omega), HNA.out⟩
              case measure => simp [intOf]; omega
        · obtain rfl : j = 6 := by omega
          have hvt : vv.take 6 = vv := List.take_of_length_le (by omega)
          rw [hvt] at HOJ HINJ
          have HRD : Hid (RStrs wr (fun b => w3.heap.size ≤ b ∧ b < wr.heap.size) [.slice Aj 6 cj] (vv.map Lib.itoa)) := HOJ.out.readT RStr.flt (fun b hb => HOJ.out.lt hb)
          have HML2 : Hid (((rs.take n).map fun r => r.map Lib.itoa).length = n) := by show _ = _; rw [List.length_map, List.length_take]; omega
          clear hvt
          go_wp2_with (at_builtin; go_loud (
            have KB : KeepsAll wo (wr.alloc (.cells #[.slice Aj 6 cj] 51)) := (HK3w.out.trA HKJ.out).alloc _
            have hown := (HO.out.keeps RStrs.ok (HK3w.out.trA HKJ.out) (fun _ _ h => h.elim)).alloc RStrs.ok (.cells #[.slice Aj 6 cj] 51)
            refine wpList_append_L tyLin RStrs.ok rfl (.tmp 32) (.tmp 34) rfl hown rfl _ [.slice Aj 6 cj] rfl (Blk.new wr 51 #[.slice Aj 6 cj]) rfl (vv.map Lib.itoa) (S := fun b => w3.heap.size ≤ b ∧ b < wr.heap.size) (RStrs.ok.mono HRD.out (fun _ h => h) (fun b hb => Below.heap_alloc wr _ b hb.2)) (fun b hb => ⟨by omega, by simp; omega, fun e => by have := (HO.out.lt e).2; omega⟩) (by simp [Value.oneCell']) (by rw [HML2.out]; omega) (by rw [HML2.out]; omega) (by simp; omega) ?_
            intro v8 w8 HO8 HK8 HA8))
          go_roundw
          case rel =>
            refine ⟨n + 1, by omega, by go_num, rfl, by rw [HTK.out, List.map_append]; exact HO8, (HK.out.trA KB).trans HK8 (fun y hy e => by have := (HO.out.lt e).1; omega), fun r hr => ?_⟩
            rw [HTK.out] at hr
            rcases List.mem_append.1 hr with h1 | h1
            · exact HIN.out r h1
            · have : r = vv := by simpa using h1
              rw [this]; exact HINJ.out
          case measure => simp [intOf]; omega
    · obtain rfl : n = rs.length := by omega
      rw [List.take_length] at HO HIN
      have hF := HGOOD.out HIN.out
      have hJ := wJoin_any (rs.map fun r => r.map Lib.itoa) (fun l hl => by
        obtain ⟨r, hr, rfl⟩ := List.mem_map.1 hl
        obtain ⟨i, hi, e⟩ := List.getElem_of_mem hr
        obtain ⟨_, _, _, _, _, _, _, _, _, _, hx, _⟩ := HR.out.atK (Keeps.refl _ w) hi
        rw [List.getElem?_eq_getElem hi, e] at hx
        exact jok_rec r (by rw [Option.some.inj hx]; rfl) (HIN.out r hr)) (by rw [List.length_map]; exact hll) Ao cp wr (by rw [List.length_map]; exact HO.out.read RStrs.ok (by decide) (fun b h1 h2 => h2) (fun b h1 h2 => h2))
      rw [List.length_map, ← hF] at hJ
      have HJ := Lib.hid hJ
      clear hJ hF
      go_wp2_with (go_at_call 21; refine (HJ.out).mono ?_; rintro e w5 ⟨rfl, hk5⟩)
      go_ret
      exact ⟨rfl, HK.out.trA hk5⟩
end

section
open Go.RowKit

def isRes (r : Int) : Bool := decide (0 ≤ r) && decide (r < 144)
def isClk (r : Int) : Bool := decide (0 ≤ r) && decide (r ≤ 4194304)

/-- keep.Pick -/
def pick (v n : Int) : Int := (v % 18446744073709551616) % n
theorem pick_range (v n : Int) (hn : 0 < n) : 0 ≤ pick v n ∧ pick v n < n := ⟨Int.emod_nonneg _ (by omega), Int.emod_lt_of_pos _ hn⟩
theorem pick_walk (v n : Int) (hn : 0 < n) (hn2 : n ≤ 9223372036854775807) : wrap64 ((IntKind.u64.wrap v).tmod n) = pick v n := by
  have h1 : IntKind.u64.wrap v = v % 18446744073709551616 := by simp [IntKind.wrap, IntKind.signed, IntKind.bits]
  rw [h1, Int.tmod_eq_emod_of_nonneg (by omega)]
  have := pick_range v n hn
  exact IntWalk.wrap64_in _ ⟨by unfold pick at this; omega, by unfold pick at this; omega⟩
theorem Pick_any (v n : Int) (w : World) (hn : 0 < n) (hn2 : n ≤ 9223372036854775807) :
    Calls Tryz.prog 12 #[.int .i64 v, .int .i64 n] w fun e w' => e = .returned (.int .i64 (pick v n)) ∧ w = w' := by
  go_enter Tryz.func12, Tryz.ntmps12
  go_wp2
  go_ret
  refine ⟨?_, rfl⟩
  show Ending.returned (Value.int .i64 (wrap64 ((IntKind.u64.wrap v).tmod n))) = _
  rw [pick_walk v n hn hn2]

/-- keep.Source: a struct behind a pointer, in block g; rest: what is left of its list -/
def Src (w : World) (S : Foot) (g : Nat) (rest : List Int) : Prop :=
  ∃ A c l, ∃ i : Nat, Blk w g 75 #[.slice A l.length c, .int .i64 i] ∧ RInts w S [.slice A l.length c] l ∧ i ≤ l.length ∧ rest = l.drop i
theorem From_any (w : World) (A : Option Addr) (c : Nat) (l : List Int) (h : RInts w (Old w) [.slice A l.length c] l) :
    Calls Tryz.prog 13 #[.slice A l.length c] w fun e w' => e = .returned (.pointer (some ⟨w.heap.size, 0, none⟩)) ∧ Src w' (Old w) w.heap.size l ∧ KeepsAll w w' ∧ w'.heap.size = w.heap.size + 1 := by
  have H := Lib.hid h; clear h
  go_enter Tryz.func13, Tryz.ntmps13
  go_wp2
  go_ret
  refine ⟨rfl, ⟨A, c, l, 0, ?_, ?_, Nat.zero_le _, by simp⟩, (Keeps.refl _ _).alloc _, by simp⟩
  · exact Blk.new w _ _
  · exact RInts.ok.mono H.out (fun _ h => h) (fun b hb => Below.heap_alloc w _ b hb)

def nextV (rest : List Int) (n : Int) : Int := match rest with | [] => 0 | x :: _ => pick x n
theorem nextV_range (rest : List Int) (n : Int) (hn : 0 < n) : 0 ≤ nextV rest n ∧ nextV rest n < n := by
  cases rest with
  | nil => exact ⟨Int.le_refl _, hn⟩
  | cons x r => exact pick_range x n hn
theorem Src.keep {w w' : World} {S S' : Foot} {g : Nat} {rest : List Int} (h : Src w S g rest) (hS : ∀ b, S b → S' b) (hw : ∀ b, S b → w'.heap[b]? = w.heap[b]?) (hg : w'.heap[g]? = w.heap[g]?) : Src w' S' g rest := by
  obtain ⟨A, c, l, i, h1, h2, h3, h4⟩ := h
  exact ⟨A, c, l, i, hg.trans h1, RInts.ok.mono h2 hS hw, h3, h4⟩
theorem Src.lt {w : World} {S : Foot} {g : Nat} {rest : List Int} (h : Src w S g rest) : g < w.heap.size := by
  obtain ⟨A, c, l, i, h1, _⟩ := h; exact h1.lt
theorem Src.keeps {C : Foot} {w w' : World} {S : Foot} {g : Nat} {rest : List Int} (h : Src w S g rest) (k : Keeps C w w') (hS : ∀ b, S b → b < w.heap.size ∧ ¬ C b) (hg : ¬ C g) : Src w' S g rest :=
  h.keep (fun _ h => h) (fun b hb => k.block b (hS b hb).1 (hS b hb).2) (k.block g h.lt hg)

set_option maxHeartbeats 400000 in
/-- (*Source).Next: S does not hold g -/
theorem Next_any (w : World) (S : Foot) (g : Nat) (rest : List Int) (n : Int) (hn : 0 < n) (hn2 : n ≤ 9223372036854775807) (h : Src w S g rest) (hS : ∀ b, S b → b < w.heap.size ∧ b ≠ g) :
    Calls Tryz.prog 14 #[.pointer (some ⟨g, 0, none⟩), .int .i64 n] w fun e w' => e = .returned (.int .i64 (nextV rest n)) ∧ Src w' S g rest.tail ∧ Keeps (· = g) w w' ∧ w'.heap.size = w.heap.size := by
  obtain ⟨A, c, l, i, h1, h2, h3, h4⟩ := h
  have hc := h2.caps
  have c0 : w.cell? ⟨g, 0, none⟩ = some (.slice A l.length c) := h1.cell 0
  have c1 : w.cell? ⟨g, 1, none⟩ = some (.int .i64 i) := h1.cell 1
  have f1 : w.frozen? ⟨g, 1, none⟩ = false := h1.frozen 1
  have H1 := Lib.hid h1; clear h1
  have HS := Lib.hid hS; clear hS
  by_cases hi : i < l.length
  · obtain ⟨b, o, x, rfl, hb, hx, hx2⟩ := h2.at_ hi
    have hne : b ≠ g := (HS.out b hb).2
    have H2 := Lib.hid h2; clear h2
    have HX := Lib.hid hx; clear hx
    have H4 := Lib.hid h4; clear h4
    go_enter Tryz.func14, Tryz.ntmps14
    go_wp2
    go_quiet (fail)
    go_wp2
    go_quiet ((go_at_call 12; exact quiet_left (Pick_any x n _ hn hn2)))
    go_wp2
    go_ret
    have K := fun a k => (((Keeps.refl (· = g) w).drewN a).setCell (p := ⟨g, 1, none⟩) (fun _ => rfl) (.int .i64 (↑i + 1))).drewN k
    refine ⟨?_, ⟨some ⟨b, o, none⟩, c, l, i + 1, ?_, ?_, hi, by rw [H4.out, List.tail_drop]⟩, K _ _, by simp [World.setCell]⟩
    · rw [H4.out, ← List.getElem_cons_drop hi]
      rw [List.getElem?_eq_getElem hi] at HX
      have := HX.out; injection this with this; rw [this]; rfl
    · exact H1.out.set_ 1 _
    · exact (K _ _).rd RInts.ok H2.out HS.out (fun _ h => h)
  · have H2 := Lib.hid h2; clear h2
    have H4 := Lib.hid h4; clear h4
    go_enter Tryz.func14, Tryz.ntmps14
    go_wp2
    go_quiet (fail)
    go_wp2
    go_ret
    have e : rest = [] := by rw [H4.out, List.drop_of_length_le (by omega)]
    subst e
    exact ⟨rfl, ⟨A, c, l, i, H1.out, H2.out, h3, by rw [← H4.out]; rfl⟩, (Keeps.refl _ _).drewN _, rfl⟩

end

section
open Go.RowKit

set_option maxHeartbeats 4000000 in
set_option maxRecDepth 100000 in
theorem SameRec_any (rs : List Rc) (A A2 : Option Addr) (c c2 : Nat) (w : World) (h : RRecs w (Old w) [.slice A rs.length c] rs) (h2 : RRecs w (Old w) [.slice A2 rs.length c2] rs) :
    Calls Tryz.prog 11 #[.slice A rs.length c, .slice A2 rs.length c2] w fun e w' => e = .returned (.bool true) ∧ KeepsAll w w' := by
  have hc := h.caps
  have H := Lib.hid h; clear h
  have H2 := Lib.hid h2; clear h2
  go_enter Tryz.func11, Tryz.ntmps11
  go_wp2
  go_loopw [4, 13] (fun v4 i wr => ∃ k : Nat, k ≤ rs.length ∧ i = .int .i64 (k : Int) ∧ v4 = .bool false ∧ KeepsAll w wr) (fun _ i _ => rs.length - (intOf i).toNat)
  case atStart => exact ⟨0, Nat.zero_le _, rfl, rfl, Keeps.refl _ _⟩
  case round =>
    obtain ⟨k, hk, rfl, rfl, hkk⟩ := hrel
    have HK := Lib.hid hkk
    clear hkk
    by_cases hlt : k < rs.length
    · obtain ⟨b, o, v0, v1, v2, v3, v4, v5, rfl, hb, hx, c0, c1, c2, c3, c4, c5⟩ := H.out.atK HK.out hlt
      obtain ⟨b', o', u0, u1, u2, u3, u4, u5, rfl, hb', hx', d0, d1, d2, d3, d4, d5⟩ := H2.out.atK HK.out hlt
      rw [hx] at hx'
      injection hx' with hx'
      simp only [List.cons.injEq, and_true] at hx'
      obtain ⟨rfl, rfl, rfl, rfl, rfl, rfl⟩ := hx'
      clear hx
      go_wp2
      go_quiet (fail)
      go_wp2
      go_roundw
      case rel => exact ⟨k + 1, by omega, by go_num, rfl, HK.out.drewN _⟩
      case measure => simp [intOf]; omega
    · obtain rfl : k = rs.length := by omega
      go_wp2
      go_ret
      exact ⟨rfl, HK.out⟩
theorem nextE (w0 w : World) (N : Nat) (h : ∃ rest, Src w (Old w0) N rest) (hN : w0.heap.size ≤ N) (hsz : w0.heap.size ≤ w.heap.size) (n : Int) (hn : 0 < n) (hn2 : n ≤ 9223372036854775807) :
    Calls Tryz.prog 14 #[.pointer (some ⟨N, 0, none⟩), .int .i64 n] w fun e w' => ∃ x : Int, e = .returned (.int .i64 x) ∧ (0 ≤ x ∧ x < n) ∧ (∃ rest, Src w' (Old w0) N rest) ∧ Keeps (· = N) w w' := by
  obtain ⟨rest, hs⟩ := h
  refine (Next_any w (Old w0) N rest n hn hn2 hs (fun b hb => by have hb' : b < w0.heap.size := hb; exact ⟨by omega, by omega⟩)).mono ?_
  rintro e w' ⟨rfl, h1, h2, h3⟩
  exact ⟨_, rfl, nextV_range rest n hn, ⟨_, h1⟩, h2⟩
set_option maxHeartbeats 8000000 in
set_option maxRecDepth 100000 in
theorem Records_any (l : List Int) (A : Option Addr) (c : Nat) (w : World) (h : RInts w (Old w) [.slice A l.length c] l) :
    Calls Tryz.prog 5 #[.slice A l.length c] w fun e w' => ∃ rs A' c', e = .returned (.slice A' (rs : List Rc).length c') ∧ RRecs w' (Fresh w w') [.slice A' rs.length c'] rs ∧ rs.length ≤ 8 ∧ KeepsAll w w' := by
  have H := Lib.hid h; clear h
  go_enter Tryz.func5, Tryz.ntmps5
  generalize hN : w.heap.size = N at *
  go_wp2_with (first
    | (go_at_call 13; refine (From_any w A c l H.out).mono ?_; rintro e w1 ⟨rfl, hsrc1, hk1, hz1⟩; rw [hN] at hsrc1 hz1; have HS1 : Hid (∃ rest, Src w1 (Old w) N rest) := ⟨l, hsrc1⟩; have HK1 := Lib.hid hk1; clear hsrc1 hk1; rw [hN])
    | (go_at_call 14; refine (nextE w w1 N HS1.out (by omega) (by omega) 8 (by decide) (by decide)).mono ?_; rintro e w2 ⟨x, rfl, hx, hs2, hk2⟩; have HS2 := Lib.hid hs2; have HK2 := Lib.hid hk2; have hz2 := hk2.size; clear hs2 hk2))
  have HKW : Hid (KeepsAll w w2) := HK1.out.trans HK2.out (fun b hb e => by omega)
  clear HS1 HK1 HK2
  go_loopw [4, 5] (fun v4 v5 wr => ∃ (k : Nat) (rs : List Rc), v5 = .int .i64 (k : Int) ∧ OwnL 32 6 RRec wr (N + 1) (N + 1) v4 rs ∧ (∃ rest, Src wr (Old w) N rest) ∧ KeepsAll w wr ∧ N + 1 ≤ wr.heap.size ∧ rs.length + k ≤ 7) (fun _ v5 _ => (intOf v5).toNat)
  case atStart =>
    obtain ⟨k, hk⟩ := Int.eq_ofNat_of_zero_le hx.1
    exact ⟨k, [], by rw [hk], OwnL.nil, HS2.out, HKW.out, by omega, by simp; omega⟩
  case round =>
    obtain ⟨k, rs, rfl, ho, hs, hk, hsz, hl⟩ := hrel
    obtain ⟨Ao, cp, rfl, hcp1, hcp2⟩ := ho.form
    have HO := Lib.hid ho
    have HS := Lib.hid hs
    have HK := Lib.hid hk
    clear ho hs hk HS2 HKW
    by_cases hk0 : 0 < k
    · obtain ⟨m, rfl⟩ : ∃ m, k = m + 1 := ⟨k - 1, by omega⟩
      have HSC : Hid (∃ rest, Src wr (Old w) N rest) := HS.out
      have HCC : Hid (Keeps (· = N) wr wr) := Keeps.refl _ _
      have hcz : wr.heap.size ≤ wr.heap.size := Nat.le_refl _
      go_wp2_with (first
        | (go_at_call 14; with_reducible refine (nextE w _ N HSC.out (by omega) (by omega) 300 (by decide) (by decide)).mono ?_; rintro e wn0 ⟨x0, rfl, hx0, hs, hk⟩; replace hcz := Nat.le_trans hcz hk.size; replace HSC := Lib.hid hs; replace HCC := Lib.hid (HCC.out.trans hk (fun _ _ h => h)); clear hs hk)
        | (go_at_call 14; with_reducible refine (nextE w _ N HSC.out (by omega) (by omega) 8 (by decide) (by decide)).mono ?_; rintro e wn1 ⟨x1, rfl, hx1, hs, hk⟩; replace hcz := Nat.le_trans hcz hk.size; replace HSC := Lib.hid hs; replace HCC := Lib.hid (HCC.out.trans hk (fun _ _ h => h)); clear hs hk)
        | (go_at_call 14; with_reducible refine (nextE w _ N HSC.out (by omega) (by omega) 3 (by decide) (by decide)).mono ?_; rintro e wn2 ⟨x2, rfl, hx2, hs, hk⟩; replace hcz := Nat.le_trans hcz hk.size; replace HSC := Lib.hid hs; replace HCC := Lib.hid (HCC.out.trans hk (fun _ _ h => h)); clear hs hk)
        | (go_at_call 14; with_reducible refine (nextE w _ N HSC.out (by omega) (by omega) 2 (by decide) (by decide)).mono ?_; rintro e wn3 ⟨x3, rfl, hx3, hs, hk⟩; replace hcz := Nat.le_trans hcz hk.size; replace HSC := Lib.hid hs; replace HCC := Lib.hid (HCC.out.trans hk (fun _ _ h => h)); clear hs hk)
        | (go_at_call 14; with_reducible refine (nextE w _ N HSC.out (by omega) (by omega) 4 (by decide) (by decide)).mono ?_; rintro e wn4 ⟨x4, rfl, hx4, hs, hk⟩; replace hcz := Nat.le_trans hcz hk.size; replace HSC := Lib.hid hs; replace HCC := Lib.hid (HCC.out.trans hk (fun _ _ h => h)); clear hs hk)
        | (go_at_call 14; with_reducible refine (nextE w _ N HSC.out (by omega) (by omega) 5 (by decide) (by decide)).mono ?_; rintro e wn5 ⟨x5, rfl, hx5, hs, hk⟩; replace hcz := Nat.le_trans hcz hk.size; replace HSC := Lib.hid hs; replace HCC := Lib.hid (HCC.out.trans hk (fun _ _ h => h)); clear hs hk)
        | (at_builtin; go_loud (
            have KB : Keeps (· = N) wr (wn5.alloc (.cells #[.int .i64 x0, .int .i64 (1 + x1), .int .i64 x2, .int .i64 x3, .int .i64 x4, .int .i64 x5] 32)) := HCC.out.alloc _
            refine wpList_append_L tyRec RRec.ok rfl (.tmp 14) (.tmp 29) rfl (HO.out.keepsT RRec.flt KB (fun b hb e => by have := (HO.out.lt hb).1; omega)) rfl _ [.int .i64 x0, .int .i64 (1 + x1), .int .i64 x2, .int .i64 x3, .int .i64 x4, .int .i64 x5] rfl (Blk.new wn5 32 #[.int .i64 x0, .int .i64 (1 + x1), .int .i64 x2, .int .i64 x3, .int .i64 x4, .int .i64 x5]) rfl ([x0, 1 + x1, x2, x3, x4, x5] : Rc) (S := fun _ => False) ⟨rfl, rfl⟩ (fun _ h => h.elim) (by simp [Value.oneCell']) (by omega) (by omega) (by simp; omega) ?_
            intro v8 w8 HO8 HK8 HA8)))
      have hown : ∀ b, (Value.slice Ao rs.length cp).ownBlock = some b → N + 1 ≤ b := fun b e => (HO.out.lt e).1
      have hK8 : Keeps (fun b => b = N ∨ N + 1 ≤ b) wr w8 := (KB.mono (fun _ _ h => .inl h)).trans HK8 (fun b _ e => .inr (hown b e))
      go_roundw
      case rel =>
        refine ⟨m, rs ++ [[x0, 1 + x1, x2, x3, x4, x5]], by go_num, HO8, ?_, HK.out.trans hK8 (fun b hb e => by omega), by have := hK8.size; omega, by simp; omega⟩
        obtain ⟨rest, hs⟩ := HSC.out
        refine ⟨rest, (hs.keeps ((Keeps.refl (fun _ => False) wn5).alloc _) (fun b hb => ⟨by have hb' : b < w.heap.size := hb; omega, fun h => h⟩) (fun h => h)).keeps HK8 (fun b hb => ⟨by have hb' : b < w.heap.size := hb; simp; omega, fun e => by have hb' : b < w.heap.size := hb; have := hown b e; omega⟩) (fun e => by have := hown N e; omega)⟩
      case measure => simp [intOf]
    · obtain rfl : k = 0 := by omega
      go_wp2
      go_ret
      exact ⟨rs, Ao, cp, rfl, HO.out.read RRec.ok (by decide) (fun b h1 h2 => ⟨by omega, h2⟩) (fun b h1 h2 => ⟨by omega, h2⟩), by omega, HK.out⟩
end

section
open Go.RowKit

set_option maxHeartbeats 8000000 in
set_option maxRecDepth 100000 in
theorem rParse_any (s : Bs) (hl : s.length ≤ 9223372036854775807) (w : World) : Calls Tryz.prog 7 #[.string (mkS s)] w fun e w' => ParE w w' e (parT s) ∧ KeepsAll w w' := by
  have HLN := Lib.hid (rLines_any s hl w)
  have HG : Hid (parT s = match linesT s with | .inr e => .inr e | .inl ls => goRecs ls []) := rfl
  generalize parT s = G at *
  generalize mkS s = tb at *
  cases hL : linesT s with
  | inr q =>
    obtain ⟨k, x⟩ := q
    have hx := lines_err s k x hL
    rw [hL] at HLN HG
    have HL1 : Hid (Calls Tryz.prog 17 #[.string tb] w fun e w' => e = .returned (.tuple #[.slice none 0 0, .int .i64 (k : Int), .int .i64 x]) ∧ KeepsAll w w') := HLN.out
    clear HLN hL
    go_enter Tryz.func7, Tryz.ntmps7
    rcases hx with rfl | rfl
    · go_wp2_with (go_at_call 17; refine (HL1.out).mono ?_; rintro e w2 ⟨rfl, hk2⟩)
      refine bodyPost_ret (v := .tuple #[.slice none 0 0, .int .i64 (k : Int), .int .i64 2]) (by simp [results, Tryz.results7, go_sem]) rfl ?_
      exact ⟨by rw [HG.out]; rfl, hk2⟩
    · go_wp2_with (go_at_call 17; refine (HL1.out).mono ?_; rintro e w2 ⟨rfl, hk2⟩)
      refine bodyPost_ret (v := .tuple #[.slice none 0 0, .int .i64 (k : Int), .int .i64 7]) (by simp [results, Tryz.results7, go_sem]) rfl ?_
      exact ⟨by rw [HG.out]; rfl, hk2⟩
  | inl ls =>
    have hok := lines_ok s ls hL
    rw [hL] at HLN HG
    have HL1 : Hid (Calls Tryz.prog 17 #[.string tb] w fun e w' => (∃ A c, e = .returned (.tuple #[.slice A ls.length c, .int .i64 0, .int .i64 0]) ∧ RLns w' (Fresh w w') [.slice A ls.length c] ls) ∧ KeepsAll w w') := HLN.out
    have HG0 : Hid (G = goRecs (ls.drop 0) []) := HG.out
    have HOK := Lib.hid hok.2
    have hll := hok.1
    clear HLN hL HG hok
    go_enter Tryz.func7, Tryz.ntmps7
    go_wp2_with (go_at_call 17; refine (HL1.out).mono ?_; rintro e w2 ⟨⟨A, c, rfl, hr2⟩, hk2⟩)
    have HR : Hid (RLns w2 (Old w2) [.slice A ls.length c] ls) := RLns.ok.mono hr2 (fun b hb => hb.2) (fun _ _ => rfl)
    have HK2 := Lib.hid hk2
    have hsz2 := hk2.size
    have hcap := hr2.caps
    clear hr2 hk2 HL1
    go_loopw [2, 3, 4, 8, 28] (fun v2 v3 v4 v8 i wr => ∃ (n : Nat) (acc : List Rc), n ≤ ls.length ∧ i = .int .i64 (n : Int) ∧ v2 = .slice none 0 0 ∧ v3 = .int .i64 0 ∧ v4 = .int .i64 0 ∧ OwnL 32 6 RRec wr w2.heap.size w2.heap.size v8 acc ∧ KeepsAll w2 wr ∧ G = goRecs (ls.drop n) acc ∧ acc.length ≤ n) (fun _ _ _ _ i _ => ls.length - (intOf i).toNat)
    case atStart => exact ⟨0, [], Nat.zero_le _, rfl, rfl, rfl, rfl, OwnL.nil, Keeps.refl _ _, HG0.out, Nat.le_refl _⟩
    case round =>
      obtain ⟨n, acc, hn, rfl, rfl, rfl, rfl, ho, hk, hG, han⟩ := hrel
      obtain ⟨Ao, cp, rfl, hcp1, hcp2⟩ := ho.form
      have HO := Lib.hid ho
      have HK := Lib.hid hk
      have HGn := Lib.hid hG
      have hsz := hk.size
      clear ho hk hG HG0
      by_cases hlt : n < ls.length
      · obtain ⟨wo, hwo⟩ : ∃ wo : World, wo = wr := ⟨_, rfl⟩
        subst hwo
        obtain ⟨b, o, x, A', c', rfl, hb, hx, hcell, hws⟩ := HR.out.atK HK.out hlt
        have hlok := HOK.out x (List.mem_of_getElem? hx)
        have hdr : ls.drop n = x :: ls.drop (n + 1) := by
          rw [List.drop_eq_getElem_cons hlt]
          congr 1
          rw [List.getElem?_eq_getElem hlt] at hx
          exact Option.some.inj hx
        have hG := HGn.out
        rw [hdr, goRecs] at hG
        have hpos : 0 < x.2.length := List.length_pos_iff.2 hlok.ne
        obtain ⟨bw, ow, xw, rfl, hbw, hxw, z0, z1, z2⟩ := hws.atK (Keeps.refl _ wo) hpos
        simp only [Nat.zero_mul, Nat.add_zero] at z0 z1 z2
        have HWS := Lib.hid hws
        have HG1 := Lib.hid hG
        have HBD := Lib.hid hlok.bd
        have hcap2 := hlok.cap
        have HE : Hid (recW x.2 = none → G = .inr (x.1, 2)) := fun h => by
          have := HG1.out
          rw [h] at this
          exact this
        have HZ1 := Lib.hid z1
        have hbo : b < wo.heap.size := by omega
        clear hdr hws hlok hx hxw z0 z2 HGn z1 hG
        obtain ⟨kk, ws⟩ := x
        simp only [] at *
        have HLW : Hid (ws.length = ws.length) := rfl
        go_wp2
        generalize hN : wo.heap.size = N at *
        generalize hW1 : World.alloc wo _ = W1
        have hz1 : W1.heap.size = N + 1 := by subst hW1; simp [hN]
        have hk1 : KeepsAll wo W1 := by subst hW1; exact (Keeps.refl _ wo).alloc _
        have hb1 : Blk W1 N 47 (([0, 0, 0, 0, 0, 0] : List Int).map (Value.int .i64)).toArray := by subst hW1; exact Blk.new' _ _ _ hN.symm
        have HK1 := Lib.hid hk1
        have HB1 := Lib.hid hb1
        clear hW1 hk1 hb1 hcell
        go_loopw [2, 3, 4, 34] (fun v2 v3 v4 i wj => ∃ (j : Nat) (vs : List Int), j ≤ ws.length ∧ j ≤ 6 ∧ i = .int .i64 (j : Int) ∧ v2 = .slice none 0 0 ∧ v3 = .int .i64 0 ∧ v4 = .int .i64 0 ∧ vs.length = 6 ∧ Blk wj N 47 (vs.map (Value.int .i64)).toArray ∧ KeepsAll wo wj ∧ (∀ (q : Nat) (y : Wd) (v : Int), q < j → ws[q]? = some y → vs[q]? = some v → numV y.1 = some v)) (fun _ _ _ i _ => ws.length - (intOf i).toNat)
        case atStart => exact ⟨0, [0, 0, 0, 0, 0, 0], Nat.zero_le _, by omega, rfl, rfl, rfl, rfl, rfl, HB1.out, HK1.out, (fun q y v h => by omega)⟩
        case round =>
          obtain ⟨j, vs, hj, hj6, rfl, rfl, rfl, rfl, hvl, hba, hk, hv⟩ := hrel
          have HBA := Lib.hid hba
          have HKJ := Lib.hid hk
          have HV := Lib.hid hv
          have HVL := Lib.hid hvl
          have hsj := hk.size
          have hN2 : N < wr.heap.size := hba.lt
          have z1 := hk.cellA (by rw [hN]; exact hbw) HZ1.out
          clear hba hk hv
          by_cases hjlt : j < ws.length
          · obtain ⟨b5, o5, y, hA5, hb5, hy, c0, c1, c2⟩ := HWS.out.atK HKJ.out hjlt
            injection hA5 with hA5
            injection hA5 with hA5 hA6
            subst hA5 hA6
            have hyl : y.1.length ≤ 65536 := HBD.out y (List.mem_of_getElem? hy)
            have hb5w : bw < wr.heap.size := by omega
            have hj0 : 0 ≤ (j : Int) := by omega
            cases hm : numV y.1 with
            | none =>
              have HBADX : recW ws = none := recW_bad ws y (List.mem_of_getElem? hy) hm
              have HNUM : Hid (∀ W1, Calls Tryz.prog 18 #[.string (mkS y.1)] W1 fun e w' => e = .returned (.tuple #[.int .i64 0, .bool false]) ∧ w' = W1) := fun W1 => by
                have := rNum_any y.1 (by omega) W1
                rw [hm] at this
                exact this
              clear hm hy HV
              have HF := Lib.hid (HE.out HBADX)
              go_upto_region 14 with (go_at_call 18; refine (HNUM.out _).mono ?_; rintro e w' ⟨rfl, rfl⟩)
              generalize hW4 : World.alloc _ _ = W4
              have hk4 : KeepsAll wo W4 := by subst hW4; exact HKJ.out.alloc _
              have c1' := hk4.cellA (by rw [hN]; exact hbw) HZ1.out
              have HK4 := Lib.hid hk4
              clear hW4 hk4
              go_quiet (fail)
              go_wp2
              refine bodyPost_ret (v := .tuple #[.slice none 0 0, .int .i64 (kk : Int), .int .i64 2]) (by simp [results, Tryz.results7, go_sem]) rfl ?_
              exact ⟨by rw [HF.out]; rfl, ((HK2.out.trA HK.out).trA HK4.out).drewN _⟩
            | some v =>
              have HNUM : Hid (∀ W1, Calls Tryz.prog 18 #[.string (mkS y.1)] W1 fun e w' => e = .returned (.tuple #[.int .i64 v, .bool true]) ∧ w' = W1) := fun W1 => by
                have := rNum_any y.1 (by omega) W1
                rw [hm] at this
                exact this
              by_cases hjx : 6 ≤ j
              · have HBADX : recW ws = none := recW_len ws (by omega)
                clear hm hy HV
                have HF := Lib.hid (HE.out HBADX)
                go_upto_region 14 with (go_at_call 18; refine (HNUM.out _).mono ?_; rintro e w' ⟨rfl, rfl⟩)
                generalize hW4 : World.alloc _ _ = W4
                have hk4 : KeepsAll wo W4 := by subst hW4; exact HKJ.out.alloc _
                have c1' := hk4.cellA (by rw [hN]; exact hbw) HZ1.out
                have HK4 := Lib.hid hk4
                clear hW4 hk4
                go_quiet (fail)
                go_wp2
                refine bodyPost_ret (v := .tuple #[.slice none 0 0, .int .i64 (kk : Int), .int .i64 2]) (by simp [results, Tryz.results7, go_sem]) rfl ?_
                exact ⟨by rw [HF.out]; rfl, ((HK2.out.trA HK.out).trA HK4.out).drewN _⟩
              · have HV2 : Hid (∀ (q : Nat) (y' : Wd) (v' : Int), q < j + 1 → ws[q]? = some y' → (vs.set j v)[q]? = some v' → numV y'.1 = some v') := fun q y' v' hq h1 h2 => by
                  rcases Nat.lt_or_ge q j with h3 | h3
                  · rw [List.getElem?_set_ne (by omega)] at h2
                    exact HV.out q y' v' h3 h1 h2
                  · obtain rfl : q = j := by omega
                    rw [hy] at h1
                    rw [List.getElem?_set_self (by have := HVL.out; omega)] at h2
                    rw [← Option.some.inj h1, ← Option.some.inj h2]
                    exact hm
                have q1 := HBA.out.cell j
                obtain ⟨u, hu⟩ : ∃ u, vs[j]? = some u := ⟨vs[j]'(by omega), List.getElem?_eq_getElem (by omega)⟩
                have q2 : wr.cell? ⟨N, j, none⟩ = some (.int .i64 u) := by rw [q1]; simp [hu]
                have f2 := HBA.out.frozen j
                clear q1 hu hvl
                clear hm hy HV
                go_wp2_with (go_at_call 18; refine (HNUM.out _).mono ?_; rintro e w' ⟨rfl, rfl⟩)
                go_roundw
                case rel =>
                  refine ⟨j + 1, vs.set j v, by omega, by omega, by go_num, rfl, rfl, rfl, by rw [List.length_set]; exact HVL.out, ?_, (HKJ.out.setCell (p := ⟨N, j, none⟩) (fun h => by have : N < wo.heap.size := h; omega) _).alloc _, HV2.out⟩
                  have hq := (HBA.out.set_ j (.int .i64 v)).alloc (.cells #[.string (mkS y.1), .int .i64 (kk : Int), .int .i64 y.2] 46)
                  have e : ((vs.map (Value.int .i64)).toArray).setIfInBounds j (.int .i64 v) = ((vs.set j v).map (Value.int .i64)).toArray := by
                    rw [List.map_set]; simp
                  rw [e] at hq
                  exact hq
                case measure => simp [intOf]; omega
          · obtain rfl : j = ws.length := by omega
            by_cases h6 : ws.length = 6
            · have HS : recW ws = some vs := recW_some ws vs h6 HVL.out (fun q y v h1 h2 => HV.out q y v (List.getElem?_eq_some_iff.1 h1).1 h1 h2)
              obtain ⟨v0, v1, v2, v3, v4, v5, rfl⟩ : ∃ v0 v1 v2 v3 v4 v5, vs = [v0, v1, v2, v3, v4, v5] := by
                match vs, hvl with
                | [v0, v1, v2, v3, v4, v5], _ => exact ⟨v0, v1, v2, v3, v4, v5, rfl⟩
              have HF : Hid (G = goRecs (ls.drop (n + 1)) (acc ++ [[v0, v1, v2, v3, v4, v5]])) := by
                have := HG1.out
                rw [HS] at this
                exact this
              have h6b : ((ws.length : Int) != 6) = false := by rw [h6]; rfl
              have a0 := HBA.out.cell 0
              have a1 := HBA.out.cell 1
              have a2 := HBA.out.cell 2
              have a3 := HBA.out.cell 3
              have a4 := HBA.out.cell 4
              have a5 := HBA.out.cell 5
              simp at a0 a1 a2 a3 a4 a5
              clear hvl HVL HV HS h6 HE HG1 z1 HBA
              go_wp2_with (at_builtin; go_loud (
                have KB : KeepsAll wo (wr.alloc (.cells #[.int .i64 v0, .int .i64 v1, .int .i64 v2, .int .i64 v3, .int .i64 v4, .int .i64 v5] 32)) := HKJ.out.alloc _
                refine wpList_append_L tyRec RRec.ok rfl (.tmp 66) (.tmp 80) rfl (HO.out.keepsT RRec.flt KB (by simp)) rfl _ [.int .i64 v0, .int .i64 v1, .int .i64 v2, .int .i64 v3, .int .i64 v4, .int .i64 v5] rfl (Blk.new' _ 32 #[.int .i64 v0, .int .i64 v1, .int .i64 v2, .int .i64 v3, .int .i64 v4, .int .i64 v5] (by simp)) rfl ([v0, v1, v2, v3, v4, v5] : Rc) (S := fun _ => False) ⟨rfl, rfl⟩ (fun _ h => h.elim) (by simp [Value.oneCell']) (by omega) (by omega) (by simp; omega) ?_
                intro v8 w8 HO8 HK8 HA8))
              go_roundw
              case rel => exact ⟨n + 1, acc ++ [[v0, v1, v2, v3, v4, v5]], by omega, by go_num, rfl, rfl, rfl, HO8, ((HK.out.trA HKJ.out).alloc _).trans HK8 (fun y hy e => by have := (HO.out.lt e).1; omega), HF.out, by simp; omega⟩
              case measure => simp [intOf]; omega
            · have h6b : ((ws.length : Int) != 6) = true := by simp; omega
              have HF := Lib.hid (HE.out (recW_len ws h6))
              clear HV HVL hvl
              go_upto_region 18 with fail
              go_quiet (fail)
              go_wp2
              refine bodyPost_ret (v := .tuple #[.slice none 0 0, .int .i64 (kk : Int), .int .i64 2]) (by simp [results, Tryz.results7, go_sem]) rfl ?_
              exact ⟨by rw [HF.out]; rfl, ((HK2.out.trA HK.out).trA HKJ.out).drewN _⟩
      · obtain rfl : n = ls.length := by omega
        have hfin : G = .inl acc := by
          rw [HGn.out, List.drop_length]
          rfl
        have HF := Lib.hid hfin
        clear hfin
        go_wp2
        refine bodyPost_ret (v := .tuple #[.slice Ao acc.length cp, .int .i64 0, .int .i64 0]) (by simp [results, Tryz.results7, go_sem]) rfl ?_
        exact ⟨by rw [HF.out]; exact ⟨Ao, cp, rfl, HO.out.readT RRec.flt (fun b hb => ⟨Nat.le_trans hsz2 (HO.out.lt hb).1, (HO.out.lt hb).2⟩)⟩, HK2.out.trA HK.out⟩
end

section
open Go.RowKit

theorem dig_piece (d : Nat) (h : d < 10) : ((⟨#[48, 49, 50, 51, 52, 53, 54, 55, 56, 57]⟩ : ByteArray)).extract d (d + 1) = mkS [UInt8.ofNat (48 + d)] := by
  have e : (⟨#[48, 49, 50, 51, 52, 53, 54, 55, 56, 57]⟩ : ByteArray) = mkS [48, 49, 50, 51, 52, 53, 54, 55, 56, 57] := rfl
  rw [e, mkS_ext]
  have h9 : d = 0 ∨ d = 1 ∨ d = 2 ∨ d = 3 ∨ d = 4 ∨ d = 5 ∨ d = 6 ∨ d = 7 ∨ d = 8 ∨ d = 9 := by omega
  rcases h9 with rfl | rfl | rfl | rfl | rfl | rfl | rfl | rfl | rfl | rfl <;> rfl
theorem ddP_len (u : Nat) : u < 10 ^ 13 → (ddP u).length ≤ 13 := by
  intro h
  have key : ∀ k u, u < 10 ^ k → (ddP u).length ≤ k := by
    intro k
    induction k with
    | zero => intro u hu; have : u = 0 := by simpa using hu
              rw [this]; simp [ddP]
    | succ k ih =>
      intro u hu
      by_cases h0 : u = 0
      · rw [h0]; simp [ddP]
      · rw [ddP_step u h0, List.length_append]
        have := ih (u / 10) (by rw [Nat.pow_succ] at hu; omega)
        simp; omega
  exact key 13 u h
set_option maxHeartbeats 4000000 in
set_option maxRecDepth 100000 in
theorem dec_any (n : Int) (h0 : -1099511627776 ≤ n) (h1 : n ≤ 1099511627776) (w : World) : Calls Tryz.prog 28 #[.int .i64 n] w fun e w' => e = .returned (.string (mkS (Lib.itoa n))) ∧ w' = w := by
  by_cases hs : 0 ≤ n
  · obtain ⟨u0, rfl⟩ := Int.eq_ofNat_of_zero_le hs
    by_cases h9 : u0 < 10
    · have HX := Lib.hid (dig_piece u0 h9)
      have HI : Hid (Lib.itoa (u0 : Int) = [UInt8.ofNat (48 + u0)]) := by
        show _ = _
        unfold Lib.itoa
        rw [if_neg (by omega), Int.toNat_natCast, Lib.decDigits, dif_pos h9]
      have hx := HX.out
      rw [HI.out]
      clear HI HX
      generalize UInt8.ofNat (48 + u0) = y at *
      go_enter Tryz.func28, Tryz.ntmps28
      go_wp2
      go_ret
      exact ⟨rfl, rfl⟩
    · have hfin : mkS (ddP u0) = mkS (Lib.itoa (u0 : Int)) := by
        unfold Lib.itoa ddP
        rw [if_neg (by omega), Int.toNat_natCast, if_neg (by omega)]
      go_enter Tryz.func28, Tryz.ntmps28
      go_wp2
      go_loopw [0, 3] (fun v0 v3 wr => ∃ (u : Nat) (s : Bs), u ≤ u0 ∧ v0 = .int .i64 ((u : Int)) ∧ v3 = .string (mkS s) ∧ ddP u ++ s = ddP u0 ∧ wr = w) (fun v0 _ _ => (intOf v0).natAbs)
      case atStart => exact ⟨u0, [], Nat.le_refl _, rfl, rfl, by simp, rfl⟩
      case round =>
        obtain ⟨u, s, hu, rfl, rfl, hds, rfl⟩ := hrel
        have HDS := Lib.hid hds
        clear hds
        by_cases hu0 : u = 0
        · subst hu0
          have hs : s = ddP u0 := HDS.out
          have HF : Hid (mkS s = mkS (Lib.itoa ((u0 : Int)))) := by
            show _ = _
            rw [hs]
            exact hfin
          clear hs
          go_wp2
          go_ret
          exact ⟨by rw [← HF.out]; rfl, rfl⟩
        · have HST := Lib.hid (ddP_step u hu0)
          obtain ⟨d, hd⟩ : ∃ d, d = u % 10 := ⟨_, rfl⟩
          obtain ⟨q, hq⟩ : ∃ q, q = u / 10 := ⟨_, rfl⟩
          have hd10 : d < 10 := by omega
          have hq10 : q ≤ u := by omega
          have hlt : q < u := by omega
          have hx := dig_piece d hd10
          have ht0 : Int.tmod (u : Int) 10 = (d : Int) := by rw [hd]; exact (Int.ofNat_tmod u 10).symm
          have hdv0 : Int.tdiv (u : Int) 10 = (q : Int) := by rw [hq]; exact (Int.ofNat_tdiv u 10).symm
          have ht : Int.tmod ((u : Int)) 10 = (d : Int) := by exact ht0
          have hdv : Int.tdiv ((u : Int)) 10 = (q : Int) := by exact hdv0
          rw [← hd, ← hq] at HST
          have hui : ¬ ((u : Int)) = 0 := by omega
          have huib : (((u : Int)) == 0) = false := beq_eq_false_iff_ne.2 hui
          have hsl : s.length ≤ 13 := by
            have h1 := congrArg List.length HDS.out
            rw [List.length_append] at h1
            have := ddP_len u0 (by omega)
            omega
          have hss : (mkS s).size = s.length := mkS_size s
          obtain ⟨y, hy⟩ : ∃ y, y = UInt8.ofNat (48 + d) := ⟨_, rfl⟩
          rw [← hy] at HST hx
          have hsy : (mkS [y]).size = 1 := mkS_size _
          have HAP : Hid (mkS [y] ++ mkS s = mkS (y :: s)) := by
            show _ = _
            rw [mkS_app]
            rfl
          have happ := HAP.out
          have HN : Hid (ddP q ++ (y :: s) = ddP u0) := by
            show _ = _
            rw [← HDS.out, HST.out]
            simp
          clear hd hq hy hu0 ht0 hdv0
          go_wp2
          exact ⟨⟨q, y :: s, by omega, rfl, rfl, HN.out, trivial⟩, by simp [intOf]; omega⟩
  · obtain ⟨u0, hu0⟩ : ∃ u0 : Nat, n = -(u0 : Int) := ⟨n.natAbs, by omega⟩
    subst hu0
    have hu1 : 0 < u0 := by omega
    have hfin : mkS (45 :: ddP u0) = mkS (Lib.itoa (-(u0 : Int))) := by
      have e1 : Lib.itoa (-(u0 : Int)) = 45 :: Lib.decDigits u0 := by
        unfold Lib.itoa
        rw [if_pos (by omega), Int.natAbs_neg, Int.natAbs_natCast]
      have e2 : ddP u0 = Lib.decDigits u0 := by unfold ddP; rw [if_neg (by omega)]
      rw [e1, e2]
    go_enter Tryz.func28, Tryz.ntmps28
    go_wp2
    go_loopw [0, 3] (fun v0 v3 wr => ∃ (u : Nat) (s : Bs), u ≤ u0 ∧ v0 = .int .i64 (-(u : Int)) ∧ v3 = .string (mkS s) ∧ ddP u ++ s = ddP u0 ∧ wr = w) (fun v0 _ _ => (intOf v0).natAbs)
    case atStart => exact ⟨u0, [], Nat.le_refl _, rfl, rfl, by simp, rfl⟩
    case round =>
      obtain ⟨u, s, hu, rfl, rfl, hds, rfl⟩ := hrel
      have HDS := Lib.hid hds
      clear hds
      by_cases hu0 : u = 0
      · subst hu0
        have hs : s = ddP u0 := HDS.out
        have HF : Hid (mkS (45 :: s) = mkS (Lib.itoa (-(u0 : Int)))) := by
          show _ = _
          rw [hs]
          exact hfin
        clear hs
        have hsl : s.length ≤ 13 := by
          have h1 := congrArg List.length HDS.out
          have := ddP_len u0 (by omega)
          simp [ddP] at h1
          unfold ddP at this
          omega
        have hss : (mkS s).size = s.length := mkS_size s
        have happ : (⟨#[45]⟩ : ByteArray) ++ mkS s = mkS (45 :: s) := mkS_app [45] s
        go_wp2
        go_ret
        exact ⟨by rw [← HF.out]; rfl, rfl⟩
      · have HST := Lib.hid (ddP_step u hu0)
        obtain ⟨d, hd⟩ : ∃ d, d = u % 10 := ⟨_, rfl⟩
        obtain ⟨q, hq⟩ : ∃ q, q = u / 10 := ⟨_, rfl⟩
        have hd10 : d < 10 := by omega
        have hq10 : q ≤ u := by omega
        have hlt : q < u := by omega
        have hx := dig_piece d hd10
        have ht0 : Int.tmod (u : Int) 10 = (d : Int) := by rw [hd]; exact (Int.ofNat_tmod u 10).symm
        have hdv0 : Int.tdiv (u : Int) 10 = (q : Int) := by rw [hq]; exact (Int.ofNat_tdiv u 10).symm
        have ht : Int.tmod (-(u : Int)) 10 = -(d : Int) := by rw [Int.neg_tmod, ht0]
        have hdv : Int.tdiv (-(u : Int)) 10 = -(q : Int) := by rw [Int.neg_tdiv, hdv0]
        rw [← hd, ← hq] at HST
        have hui : ¬ (-(u : Int)) = 0 := by omega
        have huib : ((-(u : Int)) == 0) = false := beq_eq_false_iff_ne.2 hui
        have hsl : s.length ≤ 13 := by
          have h1 := congrArg List.length HDS.out
          rw [List.length_append] at h1
          have := ddP_len u0 (by omega)
          omega
        have hss : (mkS s).size = s.length := mkS_size s
        obtain ⟨y, hy⟩ : ∃ y, y = UInt8.ofNat (48 + d) := ⟨_, rfl⟩
        rw [← hy] at HST hx
        have hsy : (mkS [y]).size = 1 := mkS_size _
        have HAP : Hid (mkS [y] ++ mkS s = mkS (y :: s)) := by
          show _ = _
          rw [mkS_app]
          rfl
        have happ := HAP.out
        have HN : Hid (ddP q ++ (y :: s) = ddP u0) := by
          show _ = _
          rw [← HDS.out, HST.out]
          simp
        clear hd hq hy hu0 ht0 hdv0
        rcases Nat.eq_zero_or_pos d with rfl | hdp
        · have ht1 : Int.tmod (-(u : Int)) 10 = 0 := ht
          have hx1 : ((⟨#[48, 49, 50, 51, 52, 53, 54, 55, 56, 57]⟩ : ByteArray)).extract 0 1 = mkS [y] := hx
          clear ht hx
          go_wp2
          exact ⟨⟨q, y :: s, by omega, rfl, rfl, HN.out, trivial⟩, by simp [intOf]; omega⟩
        · go_wp2
          exact ⟨⟨q, y :: s, by omega, rfl, rfl, HN.out, trivial⟩, by simp [intOf]; omega⟩
end

section
open Go.RowKit

set_option maxHeartbeats 8000000 in
set_option maxRecDepth 100000 in
theorem rJoin_any (ls : List (List Bs)) (hok : ∀ l ∈ ls, JOk l) (hll : ls.length ≤ 1048576) (A : Option Addr) (c : Nat) (w : World) (h : RStrss w (Old w) [.slice A ls.length c] ls) :
    Calls Tryz.prog 29 #[.slice A ls.length c] w fun e w' => e = .returned (.string (mkS (ls.flatMap jline))) ∧ w' = w := by
  have HR := Lib.hid h
  have HOK := Lib.hid hok
  have hcap := h.caps
  clear h hok
  go_enter Tryz.func29, Tryz.ntmps29
  go_wp2
  go_loopw [2, 3, 4] (fun v2 v3 i wr => ∃ n : Nat, n ≤ ls.length ∧ i = .int .i64 (n : Int) ∧ v2 = .string ⟨#[]⟩ ∧ v3 = .string (mkS ((ls.take n).flatMap jline)) ∧ wr = w) (fun _ _ i _ => ls.length - (intOf i).toNat)
  case atStart => exact ⟨0, Nat.zero_le _, rfl, rfl, rfl, rfl⟩
  case round =>
    obtain ⟨n, hn, rfl, rfl, rfl, rfl⟩ := hrel
    by_cases hlt : n < ls.length
    · obtain ⟨b, o, x, A', c', rfl, hbw, hx, hcell, hrx⟩ := HR.out.atK (Keeps.refl _ wr) hlt
      have hxo := HOK.out x (List.mem_of_getElem? hx)
      have HRX := Lib.hid hrx
      have HFL := Lib.hid (flat_take ls n x hx)
      have hdl := jlines_len (ls.take n) (fun l hl => HOK.out l (List.mem_of_mem_take hl))
      have hdl2 : ((ls.take n).flatMap jline).length ≤ 1477443584 := Nat.le_trans hdl (by have ht : (ls.take n).length ≤ 1048576 := (by rw [List.length_take]; omega); omega)
      have hxc := hxo.cap
      have hxp : 0 < x.length := List.length_pos_iff.2 hxo.ne
      have HWD := Lib.hid hxo.wd
      have hx64 : ¬ 64 < x.length := by omega
      have hx1 : ¬ x.length < 1 := by omega
      generalize (ls.take n).flatMap jline = done at *
      obtain ⟨wo, hwo⟩ : ∃ wo : World, wo = wr := ⟨_, rfl⟩
      subst hwo
      clear hrx hxo hx hdl
      go_wp2
      go_loopw [2, 3, 5] (fun v2 v3 i wr => ∃ j : Nat, j ≤ x.length ∧ i = .int .i64 (j : Int) ∧ v2 = .string ⟨#[]⟩ ∧ v3 = .string (mkS (done ++ joinW (x.take j))) ∧ wr = wo) (fun _ _ i _ => x.length - (intOf i).toNat)
      case atStart => exact ⟨0, Nat.zero_le _, rfl, rfl, by rw [List.take_zero]; simp [joinW], rfl⟩
      case round =>
        obtain ⟨j, hj, rfl, rfl, rfl, rfl⟩ := hrel
        by_cases hjlt : j < x.length
        · obtain ⟨b5, o5, y, rfl, hb5, hy, c0⟩ := HRX.out.atK (Keeps.refl _ _) hjlt
          obtain ⟨hy0, hyw, hyl⟩ := HWD.out y (List.mem_of_getElem? hy)
          have HJT := Lib.hid (joinW_take x j y hy)
          have hjl := joinW_len (x.take j) (fun z hz => (HWD.out z (List.mem_of_mem_take hz)).2.2)
          have hjl2 : (joinW (x.take j)).length ≤ 1408 := Nat.le_trans hjl (by have ht : (x.take j).length ≤ 64 := (by rw [List.length_take]; omega); omega)
          have hyp : 0 < y.length := List.length_pos_iff.2 hy0
          have hys : (mkS y).size = y.length := mkS_size y
          have hy1 : ¬ y.length < 1 := by omega
          have key : ∀ (i : Nat) (h : i < (mkS y).size), isW ((mkS y)[i]) = true := fun i h => by
            have hi : i < y.length := by rw [← hys]; exact h
            rw [mkS_at y i y[i] (List.getElem?_eq_getElem hi) h]
            exact List.all_eq_true.1 hyw _ (List.getElem_mem hi)
          have KEY := Lib.hid key
          have HYY : Hid (∀ l : Bs, mkS l ++ mkS y = mkS (l ++ y)) := fun l => mkS_app l y
          clear hjl hy hyw key
          generalize hyb : mkS y = yb at *
          clear hyb
          generalize hjw : joinW (x.take j) = jw at *
          generalize hjw2 : joinW (x.take (j + 1)) = jw2 at *
          have HW2 := Lib.hid hjw2
          clear hjw hjw2
          have hbJ : (done ++ jw).length ≤ 1477444992 := by rw [List.length_append]; omega
          have hcs : (mkS (done ++ jw)).size = (done ++ jw).length := mkS_size _
          obtain ⟨wm, hwm⟩ : ∃ wm : World, wm = wr := ⟨_, rfl⟩
          subst hwm
          go_wp2
          go_loopw [2, 6] (fun v2 i wr => ∃ q : Nat, q ≤ y.length ∧ i = .int .i64 (q : Int) ∧ v2 = .string ⟨#[]⟩ ∧ wr = wm) (fun _ i _ => y.length - (intOf i).toNat)
          case atStart => exact ⟨0, Nat.zero_le _, rfl, rfl, rfl⟩
          case round =>
            obtain ⟨q, hq, rfl, rfl, rfl⟩ := hrel
            by_cases hqlt : q < y.length
            · have HPL : Hid (∀ h : q < yb.size, Calls Tryz.prog 51 #[.int .u8 ((yb[q]).toNat : Int)] wr fun e w' => e = .returned (.bool true) ∧ wr = w') := fun h => by
                have := plain_any yb[q] wr
                rw [KEY.out q h] at this
                exact this
              go_wp2_with (go_at_call 51; refine (HPL.out _).mono ?_; rintro e w' ⟨rfl, rfl⟩)
              go_roundw
              case rel => exact ⟨q + 1, by omega, by go_num, rfl, trivial⟩
              case measure => simp [intOf]; omega
            · obtain rfl : q = y.length := by omega
              by_cases hj0 : 0 < j
              · have h1 : mkS (done ++ jw) ++ (⟨#[32]⟩ : ByteArray) = mkS (done ++ jw ++ [32]) := mkS_app _ [32]
                have h2 : mkS (done ++ jw ++ [32]) ++ yb = mkS (done ++ jw2) := by
                  rw [HYY.out, HJT.out, if_pos hj0]
                  simp
                have h3 : (mkS (done ++ jw ++ [32])).size = (done ++ jw).length + 1 := by rw [mkS_size, List.length_append]; rfl
                clear KEY HYY HJT
                generalize mkS (done ++ jw ++ [32]) = s2 at *
                go_wp2
                go_roundw
                case rel => exact ⟨j + 1, by omega, by go_num, rfl, by rw [HW2.out], trivial⟩
                case measure => simp [intOf]; omega
              · have h2 : mkS (done ++ jw) ++ yb = mkS (done ++ jw2) := by
                  rw [HYY.out, HJT.out, if_neg hj0]
                  simp
                clear KEY HYY HJT
                go_wp2
                go_roundw
                case rel => exact ⟨j + 1, by omega, by go_num, rfl, by rw [HW2.out], trivial⟩
                case measure => simp [intOf]; omega
        · obtain rfl : j = x.length := by omega
          have h1 : mkS (done ++ joinW x) ++ (⟨#[10]⟩ : ByteArray) = mkS ((ls.take (n + 1)).flatMap jline) := by
            rw [HFL.out]
            have := mkS_app (done ++ joinW x) [10]
            rw [List.append_assoc] at this
            exact this
          have hjl := joinW_len x (fun z hz => (HWD.out z hz).2.2)
          have hcs : (mkS (done ++ joinW x)).size = (done ++ joinW x).length := mkS_size _
          have hcl : (done ++ joinW x).length ≤ 1477444992 := by rw [List.length_append]; omega
          rw [List.take_length]
          generalize mkS (done ++ joinW x) = s1 at *
          go_wp2
          go_roundw
          case rel => exact ⟨n + 1, by omega, by go_num, rfl, rfl, trivial⟩
          case measure => simp [intOf]; omega
    · obtain rfl : n = ls.length := by omega
      rw [List.take_length]
      go_wp2
      go_ret
      exact ⟨rfl, rfl⟩
end
end Go.Proofs.YtnglahcjemgcaaaGreatDoor
