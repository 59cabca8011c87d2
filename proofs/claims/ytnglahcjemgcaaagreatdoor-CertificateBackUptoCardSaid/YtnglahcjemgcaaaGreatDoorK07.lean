/- Contracts of the reference's fields and Format. Conditions: as each theorem says. A run with known data, followed without the machine's memory: labels in the place of addresses, and how such a state stands for memory. No condition. -/
import Derived.Test.YtnglahcjemgcaaaGreatDoorK06
import Derived.Test.YtnglahcjemgcaaaGreatDoorK01
namespace Go.Proofs.YtnglahcjemgcaaaGreatDoor
section
open Go.RowKit

set_option maxHeartbeats 1000000 in
theorem rfields_any (v0 v1 v2 v3 v4 v5 : Int) (w : World) : Calls Tryz.prog 27 #[.agg #[.int .i64 v0, .int .i64 v1, .int .i64 v2, .int .i64 v3, .int .i64 v4, .int .i64 v5]] w fun e w' =>
    ∃ g, e = .returned (.slice (some ⟨g, 0, none⟩) 6 6) ∧ w.heap.size ≤ g ∧ Blk w' g 3 (([v0, v1, v2, v3, v4, v5] : List Int).map (Value.int .i64)).toArray ∧ KeepsAll w w' := by
  go_enter Tryz.func27, Tryz.ntmps27
  go_wp2
  go_ret
  exact ⟨w.heap.size + 1, rfl, by omega, Blk.new' _ _ _ (by simp), ((Keeps.refl _ w).alloc _).alloc _⟩
set_option maxHeartbeats 8000000 in
set_option maxRecDepth 100000 in
theorem rFormat_any (rs : List Rc) (hll : rs.length ≤ 1048576) (A : Option Addr) (c : Nat) (w : World) (h : RRecs w (Old w) [.slice A rs.length c] rs) :
    Calls Tryz.prog 10 #[.slice A rs.length c] w fun e w' => e = .returned (.string (mkS (fmtL rs))) ∧ KeepsAll w w' := by
  have HR := Lib.hid h
  have hcap := h.caps
  have HBAD := Lib.hid (fmtL_bad rs)
  have HGOOD := Lib.hid (fmtL_ok rs)
  clear h
  generalize fmtL rs = F at *
  go_enter Tryz.func10, Tryz.ntmps10
  generalize hN : w.heap.size = N at *
  go_wp2
  go_loopw [2, 3, 12] (fun v2 v3 i wr => ∃ n : Nat, n ≤ rs.length ∧ i = .int .i64 (n : Int) ∧ v2 = .string ⟨#[]⟩ ∧ OwnL 51 1 RStrs wr N N v3 ((rs.take n).map fun r => r.map Lib.itoa) ∧ KeepsAll w wr ∧ (∀ r ∈ rs.take n, r.all inM = true)) (fun _ _ i _ => rs.length - (intOf i).toNat)
  case atStart => exact ⟨0, Nat.zero_le _, rfl, rfl, by rw [List.take_zero]; exact OwnL.nil, Keeps.refl _ _, by rw [List.take_zero]; simp⟩
  case round =>
    obtain ⟨n, hn, rfl, rfl, ho, hk, hin⟩ := hrel
    obtain ⟨Ao, cp, rfl, hcp1, hcp2⟩ := ho.form
    have HO := Lib.hid ho
    have HK := Lib.hid hk
    have HIN := Lib.hid hin
    have hsz := hk.size
    have hml : ((rs.take n).map fun r => r.map Lib.itoa).length = n := by rw [List.length_map, List.length_take]; omega
    rw [hml] at HO hcp1 ⊢
    clear ho hk hin hml
    by_cases hlt : n < rs.length
    · obtain ⟨b, o, v0, v1, v2, v3, v4, v5, rfl, hb, hx, c0, c1, c2, c3, c4, c5⟩ := HR.out.atK HK.out hlt
      have HFD := Lib.hid (fun W1 => rfields_any v0 v1 v2 v3 v4 v5 W1)
      have hmem : [v0, v1, v2, v3, v4, v5] ∈ rs := List.mem_of_getElem? hx
      have HB1 := Lib.hid (HBAD.out _ hmem)
      have HTK : Hid (rs.take (n + 1) = rs.take n ++ [[v0, v1, v2, v3, v4, v5]]) := by show _ = _; rw [List.take_add_one, hx]; rfl
      have hbw : b < wr.heap.size := by omega
      clear hmem hx
      generalize hvv : ([v0, v1, v2, v3, v4, v5] : Rc) = vv at *
      have hvl : vv.length = 6 := by rw [← hvv]; rfl
      obtain ⟨wo, hwo⟩ : ∃ wo : World, wo = wr := ⟨_, rfl⟩
      subst hwo
      go_wp2_with (go_at_call 27; refine (HFD.out _).mono ?_; rintro e w3 ⟨g, rfl, hg, hbg, hk3⟩; have HBG := Lib.hid hbg; have hg3 := hbg.lt; clear hbg; have HK3 := Lib.hid hk3; have hsz3 := hk3.size; clear hk3)
      have HK3w : Hid (KeepsAll wo w3) := ((Keeps.refl _ wo).alloc _).trA HK3.out
      have hwo3 := HK3w.out.size
      clear HK3 hsz3 hvv c0 c1 c2 c3 c4 c5 HFD
      go_loopw [2, 6, 20] (fun v2 v6 i wr => ∃ j : Nat, j ≤ 6 ∧ i = .int .i64 (j : Int) ∧ v2 = .string ⟨#[]⟩ ∧ OwnL 9 1 RStr wr w3.heap.size w3.heap.size v6 ((vv.take j).map Lib.itoa) ∧ KeepsAll w3 wr ∧ (vv.take j).all inM = true) (fun _ _ i _ => 6 - (intOf i).toNat)
      case atStart => exact ⟨0, by omega, rfl, rfl, by rw [List.take_zero]; exact OwnL.nil, Keeps.refl _ _, rfl⟩
      case round =>
        obtain ⟨j, hj, rfl, rfl, ho, hk, hin⟩ := hrel
        obtain ⟨Aj, cj, rfl, hcj1, hcj2⟩ := ho.form
        have HOJ := Lib.hid ho
        have HKJ := Lib.hid hk
        have HINJ := Lib.hid hin
        have hsj := hk.size
        have hml : ((vv.take j).map Lib.itoa).length = j := by rw [List.length_map, List.length_take]; omega
        rw [hml] at HOJ hcj1 ⊢
        have HML := Lib.hid hml
        clear ho hk hin hml
        by_cases hjlt : j < 6
        · obtain ⟨x, hx⟩ : ∃ x, vv[j]? = some x := ⟨vv[j]'(by omega), List.getElem?_eq_getElem (by omega)⟩
          have hcg : wr.cell? ⟨g, j, none⟩ = some (.int .i64 x) := by
            rw [(HBG.out.kept HKJ.out (fun h => h)).cell j]
            simp [hx]
          have hgw : g < wr.heap.size := by omega
          have HTJ : Hid (vv.take (j + 1) = vv.take j ++ [x]) := by show _ = _; rw [List.take_add_one, hx]; rfl
          have HXM := Lib.hid (List.mem_of_getElem? hx)
          clear hx
          by_cases hlo : x < -1099511627776
          · have hF : F = [] := HB1.out (fun e => by have := List.all_eq_true.1 e x HXM.out; simp only [inM, Bool.and_eq_true, decide_eq_true_eq] at this; omega)
            have HF := Lib.hid hF
            clear hF
            go_wp2
            go_ret
            exact ⟨by rw [HF.out]; rfl, (HK.out.trA HK3w.out).trA HKJ.out⟩
          · by_cases hhi : 1099511627776 < x
            · have hF : F = [] := HB1.out (fun e => by have := List.all_eq_true.1 e x HXM.out; simp only [inM, Bool.and_eq_true, decide_eq_true_eq] at this; omega)
              have HF := Lib.hid hF
              clear hF
              go_wp2
              go_ret
              exact ⟨by rw [HF.out]; rfl, (HK.out.trA HK3w.out).trA HKJ.out⟩
            · have HNA : Hid ((vv.take (j + 1)).all inM = true) := by
                show _ = _
                rw [HTJ.out, List.all_append, HINJ.out]
                simp only [List.all_cons, List.all_nil, inM, Bool.and_eq_true, decide_eq_true_eq, Bool.true_and, and_true]
                omega
              have HIT := Lib.hid (dec_any x (by omega) (by omega) wr)
              go_wp2_with (first
                | (go_at_call 28; refine (HIT.out).mono ?_; rintro e w5 ⟨rfl, hw5⟩; have HK5 : Hid (KeepsAll wr w5) := (by rw [hw5]; exact Keeps.refl _ _); have hsz5 := HK5.out.size; clear hw5)
                | (at_builtin; go_loud (
                    have KB : KeepsAll w3 (w5.alloc (.cells #[.string (mkS (Lib.itoa x))] 9)) := (HKJ.out.trA HK5.out).alloc _
                    have hown := (HOJ.out.keepsT RStr.flt HK5.out (by simp)).keepsT RStr.flt ((Keeps.refl (fun _ => False) w5).alloc (.cells #[.string (mkS (Lib.itoa x))] 9)) (by simp)
                    refine wpList_append_L tyStr9 RStr.ok rfl (.tmp 30) (.tmp 33) rfl hown rfl _ [.string (mkS (Lib.itoa x))] rfl (Blk.new w5 9 #[.string (mkS (Lib.itoa x))]) rfl (Lib.itoa x) (S := fun _ => False) rfl (fun _ h => h.elim) (by simp [Value.oneCell']) (by rw [HML.out]; omega) (by rw [HML.out]; omega) (by simp; omega) ?_
                    intro v8 w8 HO8 HK8 HA8)))
              go_roundw
              case rel => exact ⟨j + 1, by omega, by go_num, rfl, by rw [HTJ.out, List.map_append]; exact HO8, KB.trans HK8 (fun y hy e => by have := (HOJ.out.lt e).1; omega), HNA.out⟩
              case measure => simp [intOf]; omega
        · obtain rfl : j = 6 := by omega
          have hvt : vv.take 6 = vv := List.take_of_length_le (by omega)
          rw [hvt] at HOJ HINJ
          have HRD : Hid (RStrs wr (fun b => w3.heap.size ≤ b ∧ b < wr.heap.size) [.slice Aj 6 cj] (vv.map Lib.itoa)) := HOJ.out.readT RStr.flt (fun b hb => HOJ.out.lt hb)
          have HML2 : Hid (((rs.take n).map fun r => r.map Lib.itoa).length = n) := by show _ = _; rw [List.length_map, List.length_take]; omega
          clear hvt
          go_wp2_with (at_builtin; go_loud (
            have KB : KeepsAll wo (wr.alloc (.cells #[.slice Aj 6 cj] 51)) := (HK3w.out.trA HKJ.out).alloc _
            have hown := (HO.out.keeps RStrs.ok (HK3w.out.trA HKJ.out) (fun _ _ h => h.elim)).alloc RStrs.ok (.cells #[.slice Aj 6 cj] 51)
            refine wpList_append_L tyLin RStrs.ok rfl (.tmp 36) (.tmp 38) rfl hown rfl _ [.slice Aj 6 cj] rfl (Blk.new wr 51 #[.slice Aj 6 cj]) rfl (vv.map Lib.itoa) (S := fun b => w3.heap.size ≤ b ∧ b < wr.heap.size) (RStrs.ok.mono HRD.out (fun _ h => h) (fun b hb => Below.heap_alloc wr _ b hb.2)) (fun b hb => ⟨by omega, by simp; omega, fun e => by have := (HO.out.lt e).2; omega⟩) (by simp [Value.oneCell']) (by rw [HML2.out]; omega) (by rw [HML2.out]; omega) (by simp; omega) ?_
            intro v8 w8 HO8 HK8 HA8))
          go_roundw
          case rel =>
            refine ⟨n + 1, by omega, by go_num, rfl, by rw [HTK.out, List.map_append]; exact HO8, (HK.out.trA KB).trans HK8 (fun y hy e => by have := (HO.out.lt e).1; omega), fun r hr => ?_⟩
            rw [HTK.out] at hr
            rcases List.mem_append.1 hr with h1 | h1
            · exact HIN.out r h1
            · have : r = vv := by simpa using h1
              rw [this]; exact HINJ.out
          case measure => simp [intOf]; omega
    · obtain rfl : n = rs.length := by omega
      rw [List.take_length] at HO HIN
      have hF := HGOOD.out HIN.out
      have hJ := rJoin_any (rs.map fun r => r.map Lib.itoa) (fun l hl => by
        obtain ⟨r, hr, rfl⟩ := List.mem_map.1 hl
        obtain ⟨i, hi, e⟩ := List.getElem_of_mem hr
        obtain ⟨_, _, _, _, _, _, _, _, _, _, hx, _⟩ := HR.out.atK (Keeps.refl _ w) hi
        rw [List.getElem?_eq_getElem hi, e] at hx
        exact jok_rec r (by rw [Option.some.inj hx]; rfl) (HIN.out r hr)) (by rw [List.length_map]; exact hll) Ao cp wr (by rw [List.length_map]; exact HO.out.read RStrs.ok (by decide) (fun b h1 h2 => h2) (fun b h1 h2 => h2))
      rw [List.length_map, ← hF] at hJ
      have HJ := Lib.hid hJ
      clear hJ hF
      go_wp2_with (go_at_call 29; refine (HJ.out).mono ?_; rintro e w5 ⟨rfl, rfl⟩)
      go_ret
      exact ⟨rfl, HK.out⟩
end

section
open Go.RowKit

/-- a table by numbers -/
inductive Tr (α : Type) where
  | nil
  | node (l : Tr α) (v : Option α) (r : Tr α)
def Tr.get {α : Type} : Tr α → Nat → Option α
  | .nil, _ => none
  | .node l v r, n => match n with
    | 0 => v
    | n + 1 => match Nat.beq (n % 2) 0 with
      | true => l.get (n / 2)
      | false => r.get (n / 2)
def Tr.put {α : Type} : Nat → Tr α → Nat → Option α → Tr α
  | 0, t, _, _ => t
  | f + 1, .nil, n, x => match n with
    | 0 => .node .nil x .nil
    | n + 1 => match Nat.beq (n % 2) 0 with
      | true => .node (Tr.put f .nil (n / 2) x) none .nil
      | false => .node .nil none (Tr.put f .nil (n / 2) x)
  | f + 1, .node l v r, n, x => match n with
    | 0 => .node l x r
    | n + 1 => match Nat.beq (n % 2) 0 with
      | true => .node (Tr.put f l (n / 2) x) v r
      | false => .node l v (Tr.put f r (n / 2) x)
theorem half_eq {m n : Nat} {b : Bool} (h1 : Nat.beq (m % 2) 0 = b) (h2 : Nat.beq (n % 2) 0 = b) : (m / 2 = n / 2) = (m + 1 = n + 1) := by
  apply propext
  cases b with
  | true =>
    have a1 := Nat.eq_of_beq_eq_true h1
    have a2 := Nat.eq_of_beq_eq_true h2
    omega
  | false =>
    have a1 := Nat.ne_of_beq_eq_false h1
    have a2 := Nat.ne_of_beq_eq_false h2
    omega
theorem half_ne {m n : Nat} {b : Bool} (h1 : Nat.beq (m % 2) 0 = b) (h2 : Nat.beq (n % 2) 0 = !b) : ¬ m + 1 = n + 1 := by
  intro e
  have : m = n := by omega
  subst this
  rw [h1] at h2
  cases b <;> cases h2
theorem Tr.get_put {α : Type} : ∀ (f : Nat) (t : Tr α) (n : Nat) (x : Option α) (m : Nat), n + 1 < 2 ^ f → (Tr.put f t n x).get m = if m = n then x else t.get m := by
  intro f
  induction f with
  | zero => intro t n x m h; simp at h
  | succ f ih =>
    intro t n x m h
    have hn : ∀ k, n = k + 1 → k / 2 + 1 < 2 ^ f := by intro k hk; rw [Nat.pow_succ] at h; omega
    have hnil : ∀ m, (Tr.nil : Tr α).get m = none := fun _ => rfl
    cases t with
    | nil =>
      cases n with
      | zero =>
        cases m with
        | zero => simp [Tr.put, Tr.get]
        | succ m => simp only [Tr.put, Tr.get]; cases Nat.beq (m % 2) 0 <;> simp
      | succ n =>
        have h1 := hn n rfl
        cases m with
        | zero => cases hb : Nat.beq (n % 2) 0 <;> simp [Tr.put, Tr.get, hb]
        | succ m =>
          cases hb : Nat.beq (n % 2) 0 <;> cases hc : Nat.beq (m % 2) 0 <;> simp only [Tr.put, Tr.get, hb, hc, ih _ _ _ _ h1]
          · simp only [half_eq hc hb]
          · rw [if_neg (half_ne hc hb)]
          · rw [if_neg (half_ne hc hb)]
          · simp only [half_eq hc hb]
    | node l v r =>
      cases n with
      | zero =>
        cases m with
        | zero => simp [Tr.put, Tr.get]
        | succ m => simp only [Tr.put, Tr.get]; simp
      | succ n =>
        have h1 := hn n rfl
        cases m with
        | zero => cases hb : Nat.beq (n % 2) 0 <;> simp [Tr.put, Tr.get, hb]
        | succ m =>
          cases hb : Nat.beq (n % 2) 0 <;> cases hc : Nat.beq (m % 2) 0 <;> simp only [Tr.put, Tr.get, hb, hc, ih _ _ _ _ h1]
          · simp only [half_eq hc hb]
          · rw [if_neg (half_ne hc hb)]
          · rw [if_neg (half_ne hc hb)]
          · simp only [half_eq hc hb]

/-- where a label lies: block, its cells, cells an element -/
structure Info where
  bl : Nat
  sz : Nat
  es : Nat
abbrev Sg := Nat → Option Info
/-- a capacity that is not known: up to the block's end -/
def FULL : Nat := 9223372036854775808

inductive VR (s : Sg) : Value → Value → Prop where
  | bool (b : Bool) : VR s (.bool b) (.bool b)
  | int (k : IntKind) (n : Int) : VR s (.int k n) (.int k n)
  | float (k : FloatKind) (n : Nat) : VR s (.float k n) (.float k n)
  | str (b : ByteArray) : VR s (.string b) (.string b)
  | nilp : VR s (.pointer none) (.pointer none)
  | ptr (L o : Nat) (i : Info) (h : s L = some i) : VR s (.pointer (some ⟨L, o, none⟩)) (.pointer (some ⟨i.bl, o, none⟩))
  | nils : VR s (.slice none 0 0) (.slice none 0 0)
  | slc (L o n c : Nat) (i : Info) (h : s L = some i) (hc : c < FULL) : VR s (.slice (some ⟨L, o, none⟩) n c) (.slice (some ⟨i.bl, o, none⟩) n c)
  | full (L o n c : Nat) (i : Info) (h : s L = some i) (hn : n ≤ c) (h0 : o = 0 → c * i.es = i.sz ∧ c ≤ maxLen) : VR s (.slice (some ⟨L, o, none⟩) n FULL) (.slice (some ⟨i.bl, o, none⟩) n c)
  | emp (L o c : Nat) (a : Addr) : VR s (.slice (some ⟨L, o, some 0⟩) 0 FULL) (.slice (some a) 0 c)
  | nilm : VR s (.map none) (.map none)
  | map (L : Nat) (i : Info) (h : s L = some i) : VR s (.map (some L)) (.map (some i.bl))
  | nilf : VR s .nilFunc .nilFunc
  | fn (f : Fn) (a a' b b' : Array Value) (ha : a.size = a'.size) (hb : b.size = b'.size) (h1 : ∀ (i : Nat) x x', a[i]? = some x → a'[i]? = some x' → VR s x x') (h2 : ∀ (i : Nat) x x', b[i]? = some x → b'[i]? = some x' → VR s x x') : VR s (.func f a b) (.func f a' b')
  | niface : VR s .nilIface .nilIface
  | agg (a a' : Array Value) (ha : a.size = a'.size) (h1 : ∀ (i : Nat) x x', a[i]? = some x → a'[i]? = some x' → VR s x x') : VR s (.agg a) (.agg a')
  | tuple (a a' : Array Value) (ha : a.size = a'.size) (h1 : ∀ (i : Nat) x x', a[i]? = some x → a'[i]? = some x' → VR s x x') : VR s (.tuple a) (.tuple a')

def Sg.le (s s' : Sg) : Prop := ∀ L i, s L = some i → s' L = some i
theorem VR.mono {s s' : Sg} (h : Sg.le s s') {v v' : Value} (r : VR s v v') : VR s' v v' := by
  induction r with
  | bool b => exact .bool b
  | int k n => exact .int k n
  | float k n => exact .float k n
  | str b => exact .str b
  | nilp => exact .nilp
  | ptr L o i hi => exact .ptr L o i (h _ _ hi)
  | nils => exact .nils
  | slc L o n c i hi hc => exact .slc L o n c i (h _ _ hi) hc
  | full L o n c i hi hn h0 => exact .full L o n c i (h _ _ hi) hn h0
  | emp L o c a => exact .emp L o c a
  | nilm => exact .nilm
  | map L i hi => exact .map L i (h _ _ hi)
  | nilf => exact .nilf
  | fn f a a' b b' ha hb _ _ i1 i2 => exact .fn f a a' b b' ha hb i1 i2
  | niface => exact .niface
  | agg a a' ha _ i1 => exact .agg a a' ha i1
  | tuple a a' ha _ i1 => exact .tuple a a' ha i1

/-- lists of values -/
def VL (s : Sg) (c c' : List Value) : Prop := c.length = c'.length ∧ ∀ (i : Nat) x x', c[i]? = some x → c'[i]? = some x' → VR s x x'
section
variable {s s' : Sg} {c c' d d' : List Value}
theorem VL.mono (h : Sg.le s s') (r : VL s c c') : VL s' c c' := ⟨r.1, fun i x x' a b => (r.2 i x x' a b).mono h⟩
theorem VL.nil : VL s [] [] := ⟨rfl, by simp⟩
theorem VL.get (r : VL s c c') {i : Nat} {x : Value} (h : c[i]? = some x) : ∃ x', c'[i]? = some x' ∧ VR s x x' := by
  have hi : i < c.length := (List.getElem?_eq_some_iff.1 h).1
  have hi' : i < c'.length := r.1 ▸ hi
  exact ⟨c'[i], List.getElem?_eq_getElem hi', r.2 i x _ h (List.getElem?_eq_getElem hi')⟩
theorem VL.get' (r : VL s c c') {i : Nat} {x' : Value} (h : c'[i]? = some x') : ∃ x, c[i]? = some x ∧ VR s x x' := by
  have hi' : i < c'.length := (List.getElem?_eq_some_iff.1 h).1
  have hi : i < c.length := r.1 ▸ hi'
  exact ⟨c[i], List.getElem?_eq_getElem hi, r.2 i _ x' (List.getElem?_eq_getElem hi) h⟩
theorem VL.cons {x x' : Value} (hx : VR s x x') (r : VL s c c') : VL s (x :: c) (x' :: c') := by
  refine ⟨by simp [r.1], ?_⟩
  intro i y y' h h'
  cases i with
  | zero => simp at h h'; subst h; subst h'; exact hx
  | succ i => exact r.2 i y y' (by simpa using h) (by simpa using h')
theorem VL.head {x x' : Value} (r : VL s (x :: c) (x' :: c')) : VR s x x' := r.2 0 x x' rfl rfl
theorem VL.tail {x x' : Value} (r : VL s (x :: c) (x' :: c')) : VL s c c' :=
  ⟨by have := r.1; simpa using this, fun i y y' h h' => r.2 (i + 1) y y' (by simpa using h) (by simpa using h')⟩
theorem VL.append (r : VL s c c') (q : VL s d d') : VL s (c ++ d) (c' ++ d') := by
  refine ⟨by simp [r.1, q.1], ?_⟩
  intro i x x' h h'
  by_cases hi : i < c.length
  · rw [List.getElem?_append_left hi] at h
    rw [List.getElem?_append_left (by rw [← r.1]; exact hi)] at h'
    exact r.2 i x x' h h'
  · rw [List.getElem?_append_right (by omega)] at h
    rw [List.getElem?_append_right (by rw [← r.1]; omega), ← r.1] at h'
    exact q.2 _ x x' h h'
theorem VL.take (r : VL s c c') (n : Nat) : VL s (c.take n) (c'.take n) := by
  refine ⟨by simp [r.1], ?_⟩
  intro i x x' h h'
  rw [List.getElem?_take] at h h'
  split at h
  · rename_i hi; rw [if_pos hi] at h'; exact r.2 i x x' h h'
  · cases h
theorem VL.drop (r : VL s c c') (n : Nat) : VL s (c.drop n) (c'.drop n) :=
  ⟨by simp [r.1], fun i x x' h h' => r.2 (n + i) x x' (by simpa using h) (by simpa using h')⟩
theorem VL.set (r : VL s c c') {x x' : Value} (hx : VR s x x') (n : Nat) : VL s (c.set n x) (c'.set n x') := by
  refine ⟨by simp [r.1], ?_⟩
  intro i y y' h h'
  rw [List.getElem?_set] at h h'
  split at h
  · rename_i hi
    rw [if_pos hi] at h'
    subst hi
    split at h
    · rename_i hl
      rw [if_pos (r.1 ▸ hl)] at h'
      simp at h h'; subst h; subst h'; exact hx
    · cases h
  · rename_i hi
    rw [if_neg hi] at h'
    exact r.2 i y y' h h'
theorem VR.arr {a a' : Array Value} (h : VL s a.toList a'.toList) : a.size = a'.size ∧ ∀ (i : Nat) x x', a[i]? = some x → a'[i]? = some x' → VR s x x' :=
  ⟨by simpa using h.1, fun i x x' p q => h.2 i x x' (by simpa using p) (by simpa using q)⟩
theorem VL.ofArr {a a' : Array Value} (ha : a.size = a'.size) (h : ∀ (i : Nat) x x', a[i]? = some x → a'[i]? = some x' → VR s x x') : VL s a.toList a'.toList :=
  ⟨by simpa using ha, fun i x x' p q => h i x x' (by simpa using p) (by simpa using q)⟩
theorem VR.aggL {l l' : List Value} (h : VL s l l') : VR s (.agg ⟨l⟩) (.agg ⟨l'⟩) := by
  have := VR.arr (a := ⟨l⟩) (a' := ⟨l'⟩) h
  exact .agg _ _ this.1 this.2
theorem VR.tupL {l l' : List Value} (h : VL s l l') : VR s (.tuple ⟨l⟩) (.tuple ⟨l'⟩) := by
  have := VR.arr (a := ⟨l⟩) (a' := ⟨l'⟩) h
  exact .tuple _ _ this.1 this.2
theorem VR.cells {v v' : Value} (r : VR s v v') : VL s v.cells.toList v'.cells.toList := by
  cases r
  case agg a a' ha h1 => exact VL.ofArr ha h1
  all_goals exact VL.cons (by constructor <;> assumption) VL.nil
end

/-- values without addresses stand for themselves -/
def closedS : Value → Bool
  | .bool _ | .int .. | .float .. | .string _ | .pointer none | .slice none 0 0 | .map none | .nilFunc | .nilIface => true
  | .func _ a b => a.size == 0 && b.size == 0
  | _ => false
def closedA : Value → Bool
  | .agg cs => cs.toList.all closedS
  | v => closedS v
def closedV : Value → Bool
  | .tuple cs => cs.toList.all closedA
  | v => closedA v
theorem VR.closedS {s : Sg} {v : Value} (h : closedS v = true) : VR s v v := by
  unfold Go.Proofs.YtnglahcjemgcaaaGreatDoor.closedS at h
  split at h
  · exact .bool _
  · exact .int _ _
  · exact .float _ _
  · exact .str _
  · exact .nilp
  · exact .nils
  · exact .nilm
  · exact .nilf
  · exact .niface
  · rename_i f a b
    simp only [Bool.and_eq_true, beq_iff_eq] at h
    have ha : a = #[] := Array.eq_empty_of_size_eq_zero h.1
    have hb : b = #[] := Array.eq_empty_of_size_eq_zero h.2
    subst ha; subst hb
    exact .fn f _ _ _ _ rfl rfl (by simp) (by simp)
  · cases h
theorem VL.closedF {s : Sg} {f : Value → Bool} (hf : ∀ v, f v = true → VR s v v) {l : List Value} (h : l.all f = true) : VL s l l := by
  refine ⟨rfl, fun i x x' p q => ?_⟩
  rw [p] at q; cases q
  exact hf x (List.all_eq_true.1 h x (List.mem_of_getElem? p))
theorem VL.closed {s : Sg} {l : List Value} (h : l.all Go.Proofs.YtnglahcjemgcaaaGreatDoor.closedS = true) : VL s l l := VL.closedF (fun _ => VR.closedS) h
theorem VR.closedA {s : Sg} {v : Value} (h : closedA v = true) : VR s v v := by
  unfold Go.Proofs.YtnglahcjemgcaaaGreatDoor.closedA at h
  split at h
  · have := VR.arr (s := s) (VL.closed h); exact .agg _ _ this.1 this.2
  · exact VR.closedS h
theorem VR.closedV {s : Sg} {v : Value} (h : closedV v = true) : VR s v v := by
  unfold Go.Proofs.YtnglahcjemgcaaaGreatDoor.closedV at h
  split at h
  · have := VR.arr (s := s) (VL.closedF (fun _ => VR.closedA) h); exact .tuple _ _ this.1 this.2
  · exact VR.closedA h
theorem VR.eqS {s : Sg} {v v' : Value} (h : Go.Proofs.YtnglahcjemgcaaaGreatDoor.closedS v = true) (r : VR s v v') : v' = v := by
  cases r <;> first | rfl | (simp [Go.Proofs.YtnglahcjemgcaaaGreatDoor.closedS] at h; done) | skip
  case fn f a a' b b' ha hb _ _ =>
    simp only [Go.Proofs.YtnglahcjemgcaaaGreatDoor.closedS, Bool.and_eq_true, beq_iff_eq] at h
    have e1 : a = #[] := Array.eq_empty_of_size_eq_zero h.1
    have e2 : b = #[] := Array.eq_empty_of_size_eq_zero h.2
    have e3 : a' = #[] := Array.eq_empty_of_size_eq_zero (by omega)
    have e4 : b' = #[] := Array.eq_empty_of_size_eq_zero (by omega)
    rw [e1, e2, e3, e4]
theorem VL.eqF {s : Sg} {f : Value → Bool} (hf : ∀ v v', f v = true → VR s v v' → v' = v) {l l' : List Value} (h : l.all f = true) (r : VL s l l') : l' = l := by
  apply List.ext_getElem?
  intro i
  cases e : l[i]? with
  | none =>
    have : l.length ≤ i := by simpa using e
    rw [r.1] at this
    simpa using this
  | some x =>
    obtain ⟨x', hx', hr⟩ := r.get e
    rw [hx', hf x x' (List.all_eq_true.1 h x (List.mem_of_getElem? e)) hr]
theorem VL.eqS {s : Sg} {l l' : List Value} (h : l.all Go.Proofs.YtnglahcjemgcaaaGreatDoor.closedS = true) (r : VL s l l') : l' = l := VL.eqF (fun _ _ => VR.eqS) h r
theorem VR.eqA {s : Sg} {v v' : Value} (h : Go.Proofs.YtnglahcjemgcaaaGreatDoor.closedA v = true) (r : VR s v v') : v' = v := by
  cases r
  case agg a a' ha h1 =>
    have := VL.eqS (s := s) (l := a.toList) (l' := a'.toList) (by simpa [Go.Proofs.YtnglahcjemgcaaaGreatDoor.closedA] using h) (VL.ofArr ha h1)
    rw [Array.toList_inj.1 this]
  all_goals exact VR.eqS (s := s) (by simpa [Go.Proofs.YtnglahcjemgcaaaGreatDoor.closedA] using h) (by constructor <;> assumption)
theorem VR.eqV {s : Sg} {v v' : Value} (h : Go.Proofs.YtnglahcjemgcaaaGreatDoor.closedV v = true) (r : VR s v v') : v' = v := by
  cases r
  case tuple a a' ha h1 =>
    have := VL.eqF (fun _ _ => VR.eqA) (s := s) (l := a.toList) (l' := a'.toList) (by simpa [Go.Proofs.YtnglahcjemgcaaaGreatDoor.closedV] using h) (VL.ofArr ha h1)
    rw [Array.toList_inj.1 this]
  all_goals exact VR.eqA (s := s) (by simpa [Go.Proofs.YtnglahcjemgcaaaGreatDoor.closedV] using h) (by constructor <;> assumption)

/-- a block that is followed -/
inductive EBlk where
  | cells (c : List Value) (e : Nat) (es : Nat)
  | map (m : List (Value × Value × Nat)) (clk : Nat)
  | sit (b : ByteArray) (pos : Nat)
abbrev Hp := Tr EBlk
def Hp.at (H : Hp) (L : Nat) : Option EBlk := Tr.get H L
def LB : Nat := 60
def Hp.add (H : Hp) (L : Nat) (b : EBlk) : Hp := Tr.put LB H L (some b)
def Hp.del (H : Hp) (L : Nat) : Hp := Tr.put LB H L none
def labOk (L : Nat) : Bool := Nat.blt L 1000000000000000
theorem Hp.at_add {H : Hp} {L : Nat} {b : EBlk} {M : Nat} (h : labOk L = true) : (H.add L b).at M = if M = L then some b else H.at M := by
  unfold Hp.at Hp.add
  refine Tr.get_put _ _ _ _ _ ?_
  have : L < 1000000000000000 := by simpa [labOk] using h
  unfold LB; omega
theorem Hp.at_del {H : Hp} {L : Nat} {M : Nat} (h : labOk L = true) : (H.del L).at M = if M = L then none else H.at M := by
  unfold Hp.at Hp.del
  refine Tr.get_put _ _ _ _ _ ?_
  have : L < 1000000000000000 := by simpa [labOk] using h
  unfold LB; omega

def BR (s : Sg) (i : Info) (w : World) : EBlk → Prop
  | .cells c e es => es = i.es ∧ 0 < es ∧ ∃ c' rest, w.heap[i.bl]? = some (.cells ⟨c' ++ rest⟩ e (0, 0)) ∧ c'.length + rest.length = i.sz ∧ VL s c c'
  | .map m clk => ∃ es', w.heap[i.bl]? = some (.map es' clk) ∧ es'.size = m.length ∧ ∀ (k : Nat) kv e, m[k]? = some kv → es'[k]? = some e → e.key = kv.1 ∧ closedV kv.1 = true ∧ e.born = kv.2.2 ∧ VR s kv.2.1 e.val
  | .sit b pos => w.heap[i.bl]? = some (.stringIter b pos)
/-- what is followed stands for memory: w0 is the memory at the start, C the blocks of it that may have turned -/
structure Rel (C : Foot) (w0 : World) (s : Sg) (H : Hp) (w : World) : Prop where
  keep : Keeps C w0 w
  live : ∀ L i b, s L = some i → H.at L = some b → (i.bl < w0.heap.size → C i.bl) ∧ BR s i w b
  inj : ∀ L L' i i' b b', s L = some i → s L' = some i' → H.at L = some b → H.at L' = some b' → i.bl = i'.bl → L = L'
theorem BR.mono {s s' : Sg} {i : Info} {w w' : World} {b : EBlk} (h : Sg.le s s') (hw : w'.heap[i.bl]? = w.heap[i.bl]?) (r : BR s i w b) : BR s' i w' b := by
  cases b with
  | cells c e es =>
    obtain ⟨h1, h2, c', rest, h3, h4, h5⟩ := r
    exact ⟨h1, h2, c', rest, hw.trans h3, h4, h5.mono h⟩
  | map m clk =>
    obtain ⟨es', h1, h2, h3⟩ := r
    exact ⟨es', hw.trans h1, h2, fun k kv e a b => ⟨(h3 k kv e a b).1, (h3 k kv e a b).2.1, (h3 k kv e a b).2.2.1, (h3 k kv e a b).2.2.2.mono h⟩⟩
  | sit b pos => exact hw.trans r
theorem BR.lt {s : Sg} {i : Info} {w : World} {b : EBlk} (r : BR s i w b) : i.bl < w.heap.size := by
  have key : ∀ o, w.heap[i.bl]? = some o → i.bl < w.heap.size := fun o h => (Array.getElem?_eq_some_iff.1 h).1
  cases b with
  | cells c e es => obtain ⟨_, _, _, _, h, _⟩ := r; exact key _ h
  | map m clk => obtain ⟨_, h, _⟩ := r; exact key _ h
  | sit b pos => exact key _ r
/-- a label more -/
def Sg.put (s : Sg) (L : Nat) (i : Info) : Sg := fun M => if M = L then some i else s M
theorem Sg.put_same (s : Sg) (L : Nat) (i : Info) : s.put L i L = some i := by simp [Sg.put]
theorem Sg.put_far {s : Sg} {L M : Nat} {i : Info} (h : M ≠ L) : s.put L i M = s M := by simp [Sg.put, h]
theorem Sg.le_put {s : Sg} {L : Nat} {i : Info} (h : s L = none) : Sg.le s (s.put L i) := by
  intro M j hM
  by_cases e : M = L
  · subst e; rw [h] at hM; cases hM
  · rw [Sg.put_far e]; exact hM
theorem Sg.le_refl (s : Sg) : Sg.le s s := fun _ _ h => h
theorem Sg.le_trans {a b c : Sg} (h : Sg.le a b) (k : Sg.le b c) : Sg.le a c := fun L i x => k L i (h L i x)

/-- a new block -/
theorem Rel.new {C : Foot} {w0 w : World} {s : Sg} {H : Hp} (r : Rel C w0 s H w) {L : Nat} (hs : s L = none) (hl : labOk L = true) (b : EBlk) (o : Obj) (sz es : Nat)
    (hb : BR (s.put L ⟨w.heap.size, sz, es⟩) ⟨w.heap.size, sz, es⟩ (w.alloc o) b) : Rel C w0 (s.put L ⟨w.heap.size, sz, es⟩) (H.add L b) (w.alloc o) := by
  have hle : Sg.le s (s.put L ⟨w.heap.size, sz, es⟩) := Sg.le_put hs
  refine ⟨r.keep.alloc o, ?_, ?_⟩
  · intro M i c hM hc
    rw [Hp.at_add hl] at hc
    by_cases e : M = L
    · subst e
      rw [Sg.put_same] at hM; cases hM
      rw [if_pos rfl] at hc; cases hc
      exact ⟨fun h => absurd r.keep.size (by simp at h; omega), hb⟩
    · rw [Sg.put_far e] at hM; rw [if_neg e] at hc
      obtain ⟨h1, h2⟩ := r.live M i c hM hc
      exact ⟨h1, h2.mono hle (heap_alloc_old w o h2.lt)⟩
  · intro M M' i i' c c' hM hM' hc hc' he
    rw [Hp.at_add hl] at hc hc'
    by_cases e : M = L <;> by_cases e' : M' = L
    · rw [e, e']
    · subst e
      rw [Sg.put_same] at hM; cases hM
      rw [Sg.put_far e'] at hM'; rw [if_neg e'] at hc'
      have := (r.live M' i' c' hM' hc').2.lt
      rw [← he] at this; simp at this
    · subst e'
      rw [Sg.put_same] at hM'; cases hM'
      rw [Sg.put_far e] at hM; rw [if_neg e] at hc
      have := (r.live M i c hM hc).2.lt
      rw [he] at this; simp at this
    · rw [Sg.put_far e] at hM; rw [Sg.put_far e'] at hM'; rw [if_neg e] at hc; rw [if_neg e'] at hc'
      exact r.inj M M' i i' c c' hM hM' hc hc' he
/-- a block turned -/
theorem Rel.turn {C : Foot} {w0 w w' : World} {s : Sg} {H : Hp} (r : Rel C w0 s H w) {L : Nat} {i : Info} {b0 : EBlk} (hs : s L = some i) (hl : labOk L = true) (h0 : H.at L = some b0) (b : EBlk)
    (hk : Keeps C w0 w') (ho : ∀ k, k ≠ i.bl → w'.heap[k]? = w.heap[k]?) (hb : BR s i w' b) : Rel C w0 s (H.add L b) w' := by
  refine ⟨hk, ?_, ?_⟩
  · intro M j c hM hc
    rw [Hp.at_add hl] at hc
    by_cases e : M = L
    · subst e
      rw [hs] at hM; cases hM
      rw [if_pos rfl] at hc; cases hc
      exact ⟨(r.live M i b0 hs h0).1, hb⟩
    · rw [if_neg e] at hc
      obtain ⟨h1, h2⟩ := r.live M j c hM hc
      refine ⟨h1, h2.mono (Sg.le_refl s) (ho _ fun e2 => e ?_)⟩
      exact r.inj M L j i c b0 hM hs hc h0 e2
  · intro M M' j j' c c' hM hM' hc hc' he
    rw [Hp.at_add hl] at hc hc'
    have key : ∀ M c, (if M = L then some b else H.at M) = some c → ∃ c2, H.at M = some c2 := by
      intro M c h
      split at h
      · rename_i e; exact ⟨b0, e ▸ h0⟩
      · exact ⟨c, h⟩
    obtain ⟨d, hd⟩ := key M c hc
    obtain ⟨d', hd'⟩ := key M' c' hc'
    exact r.inj M M' j j' d d' hM hM' hd hd' he
theorem Rel.drew {C : Foot} {w0 w : World} {s : Sg} {H : Hp} (r : Rel C w0 s H w) : Rel C w0 s H w.drew := ⟨r.keep.drew, fun L i b h k => r.live L i b h k, r.inj⟩
theorem keep_setRow {C : Foot} {w0 w : World} (k : Keeps C w0 w) (g : Nat) (cs : Array Value) (hg : g < w0.heap.size → C g) : Keeps C w0 (w.setRow g cs) :=
  ⟨k.os, k.tape, k.output, by rw [setRow_size]; exact k.size, fun x hx hn => by rw [setRow_other w g x cs (by rintro rfl; exact hn (hg hx))]; exact k.block x hx hn⟩
/-- what is forgotten does no harm -/
theorem Rel.sub {C : Foot} {w0 w : World} {s : Sg} {H H' : Hp} (r : Rel C w0 s H w) (h : ∀ L b, H'.at L = some b → s L ≠ none → H.at L = some b) : Rel C w0 s H' w :=
  ⟨r.keep, fun L i b hs hb => r.live L i b hs (h L b hb (by rw [hs]; simp)), fun L L' i i' b b' hs hs' hb hb' => r.inj L L' i i' b b' hs hs' (h L b hb (by rw [hs]; simp)) (h L' b' hb' (by rw [hs']; simp))⟩
end
end Go.Proofs.YtnglahcjemgcaaaGreatDoor
