/- Numbers of texts and their decimal form as plain functions. No program in sight. Records as texts, plain functions: what is printed can be read again. No program in sight. Contracts of strconv.Itoa, strings.CutPrefix and of the Builder's methods, out of the kit's contracts. Conditions: as each theorem says. Contracts of the program's isWord and Join, at words. Conditions: as each theorem says. A range over strings.SplitSeq at the separator line feed: the iterator's contract and the law for the loop over it. Conditions: as each theorem says. -/
import Derived.Test.YtnglahcjemgcaaaGreatDoorK01
import Derived.Lib.ItoaLen
import Derived.Lib.Strings
import Derived.Test.YtnglahcjemgcaaaGreatDoorProg
import Derived.Shelf.Strconv.Itoa3
import Derived.Shelf.Strings.BuilderK
import Derived.Shelf.Small.Wraps
import Derived.RangeFuncBox
import Derived.RangeFuncCalls
import Derived.RangeFuncLeaves
import Derived.Shelf.Abstract
import Derived.Shelf.RegionOpen
import Derived.OwnWalkIn
import Derived.TacticsInMore
import Derived.LoopNIn
import Derived.LoopIn
namespace Go.Proofs.YtnglahcjemgcaaaGreatDoor
section
open Go.Lib

def isD (c : UInt8) : Bool := decide (48 ≤ c) && decide (c ≤ 57)
def valD (l : Bs) (n : Int) : Int := l.foldl (fun m c => 10 * m + ((c.toNat : Int) - 48)) n
/-- the number that a word denotes -/
def numV (l : Bs) : Option Int :=
  if trimPrefix l [45] = [] ∨ ((trimPrefix l [45]).head? = some 48 ∧ (hasPrefix l [45] = true ∨ 1 < (trimPrefix l [45]).length)) then none
  else if (trimPrefix l [45]).all isD = true then
    if 1099511627776 < valD (trimPrefix l [45]) 0 then none else some (if hasPrefix l [45] = true then -(valD (trimPrefix l [45]) 0) else valD (trimPrefix l [45]) 0)
  else none
theorem isD_val {c : UInt8} (h : isD c = true) : 0 ≤ (c.toNat : Int) - 48 ∧ (c.toNat : Int) - 48 ≤ 9 := by
  simp only [isD, Bool.and_eq_true, decide_eq_true_eq, UInt8.le_iff_toNat_le] at h
  obtain ⟨h1, h2⟩ := h
  have e1 : (48 : UInt8).toNat = 48 := rfl
  have e2 : (57 : UInt8).toNat = 57 := rfl
  omega
theorem valD_mono (l : Bs) (h : l.all isD = true) : ∀ n, 0 ≤ n → n ≤ valD l n := by
  induction l with
  | nil => intro n _; exact Int.le_refl _
  | cons c r ih =>
    intro n hn
    rw [List.all_cons, Bool.and_eq_true] at h
    have := isD_val h.1
    have h2 := ih h.2 (10 * n + ((c.toNat : Int) - 48)) (by omega)
    show n ≤ valD r (10 * n + ((c.toNat : Int) - 48))
    omega
theorem valD_ge (l : Bs) (h : l.all isD = true) : ∀ n, 0 ≤ n → n * 10 ^ l.length ≤ valD l n := by
  induction l with
  | nil => intro n _; simp [valD]
  | cons c r ih =>
    intro n hn
    rw [List.all_cons, Bool.and_eq_true] at h
    have hc := isD_val h.1
    have h2 := ih h.2 (10 * n + ((c.toNat : Int) - 48)) (by omega)
    show n * 10 ^ (r.length + 1) ≤ valD r (10 * n + ((c.toNat : Int) - 48))
    have h3 : n * 10 ^ (r.length + 1) ≤ (10 * n + ((c.toNat : Int) - 48)) * 10 ^ r.length := by
      rw [Int.pow_succ, ← Int.mul_assoc, Int.mul_right_comm, Int.mul_comm n 10]
      exact Int.mul_le_mul_of_nonneg_right (by omega) (Int.pow_nonneg (by omega))
    omega
/-- a number of more than 13 digits is too great -/
theorem valD_long (l : Bs) (h : l.all isD = true) (h0 : l.head? ≠ some 48) (hl : 13 < l.length) : 1099511627776 < valD l 0 := by
  cases l with
  | nil => simp at hl
  | cons c r =>
    rw [List.all_cons, Bool.and_eq_true] at h
    have hc := isD_val h.1
    have hc1 : 1 ≤ (c.toNat : Int) - 48 := by
      rcases Int.lt_or_le ((c.toNat : Int) - 48) 1 with h3 | h3
      · have : c.toNat = 48 := by omega
        exact absurd (by rw [List.head?_cons]; exact congrArg some (UInt8.toNat_inj.1 this)) h0
      · exact h3
    have h2 := valD_ge r h.2 (10 * 0 + ((c.toNat : Int) - 48)) (by omega)
    show 1099511627776 < valD r (10 * 0 + ((c.toNat : Int) - 48))
    have h4 : (10 : Int) ^ 13 ≤ 10 ^ r.length := by
      have : (10 : Nat) ^ 13 ≤ 10 ^ r.length := Nat.pow_le_pow_right (by omega) (by simp at hl; omega)
      exact_mod_cast this
    have h5 : 1 * 10 ^ r.length ≤ (10 * 0 + ((c.toNat : Int) - 48)) * 10 ^ r.length := Int.mul_le_mul_of_nonneg_right (by omega) (Int.pow_nonneg (by omega))
    have h6 : (10 : Int) ^ 13 = 10000000000000 := by decide
    omega
theorem valD_snoc (l : Bs) (c : UInt8) (n : Int) : valD (l ++ [c]) n = 10 * valD l n + ((c.toNat : Int) - 48) := by
  unfold valD; rw [List.foldl_append]; rfl
/-- digits of a numeral -/
def ddP (u : Nat) : Bs := if u = 0 then [] else decDigits u
theorem ddP_step (u : Nat) (h : u ≠ 0) : ddP u = ddP (u / 10) ++ [UInt8.ofNat (48 + u % 10)] := by
  unfold ddP
  rw [if_neg h, decDigits]
  by_cases h9 : u < 10
  · rw [dif_pos h9, if_pos (by omega), Nat.mod_eq_of_lt h9]; rfl
  · rw [dif_neg h9, if_neg (by omega)]
theorem dig_isD (k : Nat) (h : k < 10) : isD (UInt8.ofNat (48 + k)) = true ∧ ((UInt8.ofNat (48 + k)).toNat : Int) - 48 = k := by
  have h9 : k = 0 ∨ k = 1 ∨ k = 2 ∨ k = 3 ∨ k = 4 ∨ k = 5 ∨ k = 6 ∨ k = 7 ∨ k = 8 ∨ k = 9 := by omega
  rcases h9 with rfl | rfl | rfl | rfl | rfl | rfl | rfl | rfl | rfl | rfl <;> exact ⟨by decide, by decide⟩
theorem dec_all (u : Nat) : (decDigits u).all isD = true ∧ valD (decDigits u) 0 = u ∧ decDigits u ≠ [] ∧ (u ≠ 0 → (decDigits u).head? ≠ some 48) := by
  induction u using Nat.strongRecOn with
  | _ u ih =>
    rw [decDigits]
    by_cases h : u < 10
    · rw [dif_pos h]
      have := dig_isD u h
      refine ⟨by rw [List.all_cons, this.1]; rfl, ?_, by simp, fun h0 => ?_⟩
      · show 10 * 0 + (((UInt8.ofNat (48 + u)).toNat : Int) - 48) = u
        rw [this.2]; omega
      · rw [List.head?_cons]
        intro e
        injection e with e
        have h2 := this.2
        rw [e] at h2
        have e1 : (48 : UInt8).toNat = 48 := rfl
        omega
    · rw [dif_neg h]
      obtain ⟨i1, i2, i3, i4⟩ := ih (u / 10) (by omega)
      have := dig_isD (u % 10) (Nat.mod_lt _ (by omega))
      refine ⟨by rw [List.all_append, i1, List.all_cons, this.1]; rfl, ?_, by simp, fun _ => ?_⟩
      · rw [valD_snoc, i2, this.2]; omega
      · rw [List.head?_append, Option.or_of_isSome]
        · exact i4 (by omega)
        · cases h : decDigits (u / 10) with
          | nil => exact absurd h i3
          | cons c r => rfl
theorem itoa_ne (n : Int) : itoa n ≠ [] := by
  unfold itoa; split
  · simp
  · exact (dec_all _).2.2.1
/-- a numeral denotes its number -/
theorem numV_itoa (n : Int) (h0 : -1099511627776 ≤ n) (h1 : n ≤ 1099511627776) : numV (itoa n) = some n := by
  by_cases hn : n < 0
  · have e : itoa n = 45 :: decDigits n.natAbs := by unfold itoa; rw [if_pos hn]
    obtain ⟨i1, i2, i3, i4⟩ := dec_all n.natAbs
    have hp : hasPrefix (itoa n) [45] = true := by rw [e]; simp [hasPrefix]
    have ht : trimPrefix (itoa n) [45] = decDigits n.natAbs := by unfold trimPrefix; rw [hp, if_pos rfl, e]; rfl
    unfold numV
    rw [hp, ht, if_neg, if_pos i1, i2, if_neg (by omega), if_pos rfl]
    · congr 1; omega
    · rintro (h | ⟨h, -⟩)
      · exact i3 h
      · exact i4 (by omega) h
  · have e : itoa n = decDigits n.toNat := by unfold itoa; rw [if_neg hn]
    obtain ⟨i1, i2, i3, i4⟩ := dec_all n.toNat
    have hp : hasPrefix (itoa n) [45] = false := by
      rw [e]
      cases hd : decDigits n.toNat with
      | nil => rfl
      | cons c r =>
        rw [hd, List.all_cons, Bool.and_eq_true] at i1
        have hc : ¬ (45 : UInt8) = c := by
          rintro rfl
          exact absurd i1.1 (by decide)
        simp [hasPrefix, List.isPrefixOf, hc]
    have ht : trimPrefix (itoa n) [45] = decDigits n.toNat := by unfold trimPrefix; rw [hp, if_neg (by simp), e]
    unfold numV
    rw [hp, ht, if_neg, if_pos i1, i2, if_neg (by omega), if_neg (by simp)]
    · congr 1; omega
    · rintro (h | ⟨h, h2 | h2⟩)
      · exact i3 h
      · cases h2
      · by_cases h3 : n.toNat = 0
        · rw [h3] at h2
          rw [show decDigits 0 = [48] from by rw [decDigits]; rfl] at h2
          simp at h2
        · exact i4 h3 h
theorem isD_le {c : UInt8} (h : isD c = true) : 48 ≤ c.toNat ∧ c.toNat ≤ 57 := by
  simp only [isD, Bool.and_eq_true, decide_eq_true_eq, UInt8.le_iff_toNat_le] at h
  exact h
theorem itoa_bytes (n : Int) : ∀ c ∈ itoa n, c = 45 ∨ isD c = true := by
  intro c hc
  unfold itoa at hc
  split at hc
  · rcases List.mem_cons.1 hc with h | h
    · exact .inl h
    · exact .inr (List.all_eq_true.1 (dec_all _).1 c h)
  · exact .inr (List.all_eq_true.1 (dec_all _).1 c hc)
end

section
open Go.Lib

abbrev Rc := List Int
def inM (n : Int) : Bool := decide (-1099511627776 ≤ n) && decide (n ≤ 1099511627776)
/-- words with one space between them -/
def joinW : List Bs → Bs
  | [] => []
  | [w] => w
  | w :: r => w ++ 32 :: joinW r
def lineF (r : Rc) : Bs := joinW (r.map itoa) ++ [10]
def fmtL (rs : List Rc) : Bs := if (rs.all fun r => r.all inM) = true then rs.flatMap lineF else []
/-- the record of the words of a line -/
def recW (ws : List Wd) : Option Rc := if ws.length = 6 ∧ (ws.all fun w => (numV w.1).isSome) = true then some (ws.map fun w => (numV w.1).getD 0) else none
def goRecs : List Ln → List Rc → List Rc ⊕ (Nat × Int)
  | [], acc => .inl acc
  | l :: r, acc => match recW l.2 with
    | none => .inr (l.1, 2)
    | some x => goRecs r (acc ++ [x])
def parT (s : Bs) : List Rc ⊕ (Nat × Int) := match linesT s with
  | .inr e => .inr e
  | .inl ls => goRecs ls []
/-- a byte of a word -/
def isW (c : UInt8) : Bool := isP c && (c != 35)
theorem isW_bl {c : UInt8} (h : isW c = true) : isBl c = false ∧ isP c = true ∧ c ≠ 35 ∧ c ≠ 10 := by
  simp only [isW, Bool.and_eq_true, bne_iff_ne, ne_eq] at h
  obtain ⟨h1, h2⟩ := h
  have h3 := h1
  simp only [isP, Bool.and_eq_true, decide_eq_true_eq, UInt8.le_iff_toNat_le] at h3
  have e1 : (33 : UInt8).toNat = 33 := rfl
  refine ⟨?_, h1, h2, ?_⟩
  · simp only [isBl, Bool.or_eq_false_iff, beq_eq_false_iff_ne, ne_eq]
    constructor <;> rintro rfl
    · have : (32 : UInt8).toNat = 32 := rfl
      omega
    · have : (9 : UInt8).toNat = 9 := rfl
      omega
  · rintro rfl
    have : (10 : UInt8).toNat = 10 := rfl
    omega
theorem itoa_isW (n : Int) : (itoa n).all isW = true := by
  rw [List.all_eq_true]
  intro c hc
  rcases itoa_bytes n c hc with rfl | h
  · decide
  · have := isD_le h
    simp only [isW, isP, Bool.and_eq_true, decide_eq_true_eq, UInt8.le_iff_toNat_le, bne_iff_ne, ne_eq]
    have e1 : (33 : UInt8).toNat = 33 := rfl
    have e2 : (126 : UInt8).toNat = 126 := rfl
    refine ⟨⟨by omega, by omega⟩, ?_⟩
    rintro rfl
    have : (35 : UInt8).toNat = 35 := rfl
    omega
theorem scan_word (w : Bs) (hw : w.all isW = true) : ∀ (r : Bs) a c i, scanW (w ++ r) a c i = scanW r a (c ++ w) (i + w.length) := by
  induction w with
  | nil => intro r a c i; simp
  | cons b w ih =>
    intro r a c i
    rw [List.all_cons, Bool.and_eq_true] at hw
    obtain ⟨h1, h2, h3, -⟩ := isW_bl hw.1
    rw [List.cons_append, scanW, if_neg h3, h1, if_neg (by simp), if_pos h2, ih hw.2]
    congr 1
    · simp
    · simp; omega
theorem scan_join (ws : List Bs) (hw : ∀ w ∈ ws, w.all isW = true ∧ w ≠ []) : ∀ a i, ∃ l : List Wd, scanW (joinW ws) a [] i = some (a ++ l) ∧ l.map (·.1) = ws := by
  induction ws with
  | nil => intro a i; exact ⟨[], by simp [joinW, scanW, flushW], rfl⟩
  | cons w ws ih =>
    intro a i
    obtain ⟨h1, h2⟩ := hw w (by simp)
    cases ws with
    | nil =>
      refine ⟨[(w, ((i + w.length : Nat) : Int) - w.length + 1)], ?_, rfl⟩
      have := scan_word w h1 [] a [] i
      rw [List.append_nil] at this
      rw [joinW, this]
      simp [scanW, flushW, h2]
    | cons v ws =>
      obtain ⟨l, e1, e2⟩ := ih (fun x hx => hw x (by simp [hx])) (flushW a w (i + w.length)) (i + w.length + 1)
      refine ⟨(w, ((i + w.length : Nat) : Int) - w.length + 1) :: l, ?_, by rw [List.map_cons, e2]⟩
      rw [joinW, scan_word w h1, List.nil_append, scanW, if_neg (by decide), if_pos (by decide), e1]
      · simp [flushW, h2]
      · simp
theorem join_no (ws : List Bs) (hw : ∀ w ∈ ws, w.all isW = true ∧ w ≠ []) : ∀ c ∈ joinW ws, c ≠ 10 := by
  induction ws with
  | nil => intro c hc; cases hc
  | cons w ws ih =>
    have hb : ∀ c ∈ w, c ≠ 10 := fun c hc => (isW_bl (List.all_eq_true.1 (hw w (by simp)).1 c hc)).2.2.2
    cases ws with
    | nil => exact hb
    | cons v ws =>
      intro c hc
      rw [joinW] at hc
      · rcases List.mem_append.1 hc with h | h
        · exact hb c h
        · rcases List.mem_cons.1 h with rfl | h
          · decide
          · exact ih (fun x hx => hw x (by simp [hx])) c h
      · simp
theorem recs_words (r : Rc) : ∀ w ∈ r.map itoa, w.all isW = true ∧ w ≠ [] := by
  intro w hw
  obtain ⟨n, -, rfl⟩ := List.mem_map.1 hw
  exact ⟨itoa_isW n, itoa_ne n⟩
theorem goLines_fmt (rs : List Rc) (h6 : ∀ r ∈ rs, r.length = 6) : ∀ k acc, ∃ ls : List Ln, goLines (piecesL (rs.flatMap lineF)) k acc = .inl (acc ++ ls) ∧ ls.map (fun l => l.2.map (·.1)) = rs.map (fun r => r.map itoa) := by
  induction rs with
  | nil => intro k acc; exact ⟨[], by rw [List.append_nil]; exact goLines_end k acc, rfl⟩
  | cons r rs ih =>
    intro k acc
    obtain ⟨l, e1, e2⟩ := scan_join (r.map itoa) (recs_words r) [] 0
    have hl : l.length = 6 := by
      have := congrArg List.length e2
      simpa [h6 r (by simp)] using this
    obtain ⟨ls, f1, f2⟩ := ih (fun x hx => h6 x (by simp [hx])) (k + 1) (acc ++ [(k, l)])
    refine ⟨(k, l) :: ls, ?_, by rw [List.map_cons, List.map_cons, f2, e2]⟩
    have e : (r :: rs).flatMap lineF = joinW (r.map itoa) ++ 10 :: rs.flatMap lineF := by simp [lineF]
    rw [e, piecesL_hit _ _ (join_no _ (recs_words r)), goLines]
    have hw : wordsL (joinW (r.map itoa)) = some l := by unfold wordsL; rw [e1]; rfl
    rw [hw]
    simp only []
    rw [if_neg (by omega), if_neg (by rintro rfl; simp at hl), f1]
    simp
theorem goRecs_fmt (rs : List Rc) (h6 : ∀ r ∈ rs, r.length = 6) (hM : ∀ r ∈ rs, r.all inM = true) : ∀ (ls : List Ln) acc, ls.map (fun l => l.2.map (·.1)) = rs.map (fun r => r.map itoa) → goRecs ls acc = .inl (acc ++ rs) := by
  induction rs with
  | nil => intro ls acc h; rw [List.map_nil, List.map_eq_nil_iff] at h; subst h; simp [goRecs]
  | cons r rs ih =>
    intro ls acc h
    cases ls with
    | nil => simp at h
    | cons l ls =>
      rw [List.map_cons, List.map_cons] at h
      injection h with h1 h2
      have hv : l.2.map (fun w => numV w.1) = r.map some := by
        have : l.2.map (fun w => numV w.1) = (l.2.map (·.1)).map numV := by rw [List.map_map]; rfl
        rw [this, h1, List.map_map]
        refine List.map_congr_left fun n hn => ?_
        have := List.all_eq_true.1 (hM r (by simp)) n hn
        simp only [inM, Bool.and_eq_true, decide_eq_true_eq] at this
        exact numV_itoa n this.1 this.2
      have hl : l.2.length = 6 := by
        have := congrArg List.length hv
        simpa [h6 r (by simp)] using this
      have hr : recW l.2 = some r := by
        unfold recW
        rw [if_pos]
        · congr 1
          have := congrArg (List.map (fun o : Option Int => o.getD 0)) hv
          rw [List.map_map, List.map_map] at this
          simpa [Function.comp_def] using this
        · refine ⟨hl, ?_⟩
          rw [List.all_eq_true]
          intro w hw
          have : numV w.1 ∈ r.map some := hv ▸ List.mem_map.2 ⟨w, hw, rfl⟩
          obtain ⟨n, -, e⟩ := List.mem_map.1 this
          rw [← e]; rfl
      rw [goRecs, hr]
      simp only []
      rw [ih (fun x hx => h6 x (by simp [hx])) (fun x hx => hM x (by simp [hx])) ls (acc ++ [r]) h2]
      simp
/-- what is printed can be read again -/
theorem par_fmt (rs : List Rc) (h6 : ∀ r ∈ rs, r.length = 6) (hne : fmtL rs ≠ []) (hl : (fmtL rs).length ≤ 65536) : parT (fmtL rs) = .inl rs := by
  by_cases h : (rs.all fun r => r.all inM) = true
  · have e : fmtL rs = rs.flatMap lineF := by unfold fmtL; rw [if_pos h]
    obtain ⟨ls, e1, e2⟩ := goLines_fmt rs h6 1 []
    unfold parT linesT
    rw [if_neg (by omega), e, e1]
    simp only [List.nil_append]
    rw [goRecs_fmt rs h6 (List.all_eq_true.1 h) ls [] e2]
    simp
  · exact absurd (by unfold fmtL; rw [if_neg h]) hne
end

section
open Go.RowKit

def layItoa_ren : Go.Shelf.Ren := ⟨fun | 171 => 20 | 243 => 35 | 246 => 58 | 283 => 91 | 284 => 92 | 285 => 93 | 286 => 94 | 129 => 157 | 317 => 156 | 318 => 158 | 319 => 159 | 320 => 160 | 337 => 234 | 338 => 235 | n => n, fun | 3 => 3 | 9 => 9 | 2 => 2 | 4 => 4 | 171 => 192 | 0 => 0 | 53 => 193 | 37 => 85 | 5 => 5 | 173 => 196 | 212 => 284 | 51 => 285 | 20 => 20 | 213 => 286 | 46 => 73 | 232 => 406 | 233 => 407 | n => n, fun | 17 => 0 | 18 => 4 | 19 => 5 | n => n⟩
set_option maxRecDepth 100000 in
theorem layItoa : Go.Proofs.LaysM.n171 Tryz.prog layItoa_ren where
  mixed := by kernel_rfl
  f129 := Tryz.func157.trans (congrArg some (by kernel_rfl))
  f171 := Tryz.func20.trans (congrArg some (by kernel_rfl))
  f243 := Tryz.func35.trans (congrArg some (by kernel_rfl))
  f246 := Tryz.func58.trans (congrArg some (by kernel_rfl))
  f283 := Tryz.func91.trans (congrArg some (by kernel_rfl))
  f284 := Tryz.func92.trans (congrArg some (by kernel_rfl))
  f285 := Tryz.func93.trans (congrArg some (by kernel_rfl))
  f286 := Tryz.func94.trans (congrArg some (by kernel_rfl))
  f317 := Tryz.func156.trans (congrArg some (by kernel_rfl))
  f318 := Tryz.func158.trans (congrArg some (by kernel_rfl))
  f319 := Tryz.func159.trans (congrArg some (by kernel_rfl))
  f320 := Tryz.func160.trans (congrArg some (by kernel_rfl))
  f337 := Tryz.func234.trans (congrArg some (by kernel_rfl))
  f338 := Tryz.func235.trans (congrArg some (by kernel_rfl))
  t0 := Tryz.underlying0
  a0 := Tryz.isAgg0
  z0 := Tryz.sizeOf0
  v0 := Tryz.zeroValue0
  t2 := Tryz.underlying2
  a2 := Tryz.isAgg2
  z2 := Tryz.sizeOf2
  v2 := Tryz.zeroValue2
  t3 := Tryz.underlying3
  a3 := Tryz.isAgg3
  z3 := Tryz.sizeOf3
  v3 := Tryz.zeroValue3
  t4 := Tryz.underlying4
  a4 := Tryz.isAgg4
  z4 := Tryz.sizeOf4
  v4 := Tryz.zeroValue4
  t5 := Tryz.underlying5
  a5 := Tryz.isAgg5
  z5 := Tryz.sizeOf5
  v5 := Tryz.zeroValue5
  t9 := Tryz.underlying9
  a9 := Tryz.isAgg9
  z9 := Tryz.sizeOf9
  v9 := Tryz.zeroValue9
  t20 := Tryz.underlying20
  a20 := Tryz.isAgg20
  z20 := Tryz.sizeOf20
  v20 := Tryz.zeroValue20
  t37 := Tryz.underlying85
  a37 := Tryz.isAgg85
  z37 := Tryz.sizeOf85
  v37 := Tryz.zeroValue85
  t46 := Tryz.underlying73
  a46 := Tryz.isAgg73
  z46 := Tryz.sizeOf73
  v46 := Tryz.zeroValue73
  t51 := Tryz.underlying285
  a51 := Tryz.isAgg285
  z51 := Tryz.sizeOf285
  v51 := Tryz.zeroValue285
  t53 := Tryz.underlying193
  a53 := Tryz.isAgg193
  z53 := Tryz.sizeOf193
  v53 := Tryz.zeroValue193
  t171 := Tryz.underlying192
  a171 := Tryz.isAgg192
  z171 := Tryz.sizeOf192
  v171 := Tryz.zeroValue192
  t173 := Tryz.underlying196
  a173 := Tryz.isAgg196
  z173 := Tryz.sizeOf196
  v173 := Tryz.zeroValue196
  t212 := Tryz.underlying284
  a212 := Tryz.isAgg284
  z212 := Tryz.sizeOf284
  v212 := Tryz.zeroValue284
  t213 := Tryz.underlying286
  a213 := Tryz.isAgg286
  z213 := Tryz.sizeOf286
  t232 := Tryz.underlying406
  a232 := Tryz.isAgg406
  z232 := Tryz.sizeOf406
  v232 := Tryz.zeroValue406
  t233 := Tryz.underlying407
  a233 := Tryz.isAgg407
  z233 := Tryz.sizeOf407
  v233 := Tryz.zeroValue407
  g17 := by kernel_rfl
  g18 := by kernel_rfl
  g19 := by kernel_rfl
  i0 := by kernel_rfl
  i2 := by kernel_rfl
  i3 := by kernel_rfl
  i4 := by kernel_rfl
  i5 := by kernel_rfl
  i9 := by kernel_rfl
  i20 := by kernel_rfl
  i37 := by kernel_rfl
  i46 := by kernel_rfl
  i51 := by kernel_rfl
  i53 := by kernel_rfl
  i171 := by kernel_rfl
  i173 := by kernel_rfl
  i212 := by kernel_rfl
  i232 := by kernel_rfl
  i233 := by kernel_rfl
  m17 := by kernel_rfl
  m18 := by kernel_rfl
  m19 := by kernel_rfl

def layWStr_ren : Go.Shelf.Ren := ⟨fun | 166 => 38 | 240 => 59 | 276 => 95 | n => n, fun | 70 => 84 | 9 => 9 | 3 => 3 | 75 => 90 | 0 => 0 | 72 => 87 | 37 => 85 | 4 => 4 | 164 => 198 | 80 => 94 | 5 => 5 | n => n, fun | n => n⟩
set_option maxRecDepth 100000 in
theorem layWStr : Go.Proofs.Lays.n166 Tryz.prog layWStr_ren where
  mixed := by kernel_rfl
  f166 := Tryz.func38.trans (congrArg some (by kernel_rfl))
  f240 := Tryz.func59.trans (congrArg some (by kernel_rfl))
  f276 := Tryz.func95.trans (congrArg some (by kernel_rfl))
  t0 := Tryz.underlying0
  a0 := Tryz.isAgg0
  z0 := Tryz.sizeOf0
  v0 := Tryz.zeroValue0
  t3 := Tryz.underlying3
  a3 := Tryz.isAgg3
  z3 := Tryz.sizeOf3
  v3 := Tryz.zeroValue3
  t4 := Tryz.underlying4
  a4 := Tryz.isAgg4
  z4 := Tryz.sizeOf4
  v4 := Tryz.zeroValue4
  t9 := Tryz.underlying9
  a9 := Tryz.isAgg9
  z9 := Tryz.sizeOf9
  v9 := Tryz.zeroValue9
  t20 := Tryz.underlying20
  a20 := Tryz.isAgg20
  z20 := Tryz.sizeOf20
  v20 := Tryz.zeroValue20
  t37 := Tryz.underlying85
  a37 := Tryz.isAgg85
  z37 := Tryz.sizeOf85
  v37 := Tryz.zeroValue85
  t70 := Tryz.underlying84
  a70 := Tryz.isAgg84
  z70 := Tryz.sizeOf84
  v70 := Tryz.zeroValue84
  t72 := Tryz.underlying87
  a72 := Tryz.isAgg87
  z72 := Tryz.sizeOf87
  v72 := Tryz.zeroValue87
  t75 := Tryz.underlying90
  a75 := Tryz.isAgg90
  z75 := Tryz.sizeOf90
  v75 := Tryz.zeroValue90
  t164 := Tryz.underlying198
  a164 := Tryz.isAgg198
  z164 := Tryz.sizeOf198
  v164 := Tryz.zeroValue198

def layWByte_ren : Go.Shelf.Ren := ⟨fun | 167 => 37 | 240 => 59 | 276 => 95 | n => n, fun | 70 => 84 | 5 => 5 | 75 => 90 | 0 => 0 | 72 => 87 | 37 => 85 | 4 => 4 | 164 => 198 | 80 => 94 | 9 => 9 | n => n, fun | n => n⟩
set_option maxRecDepth 100000 in
theorem layWByte : Go.Proofs.Lays.n167 Tryz.prog layWByte_ren where
  mixed := by kernel_rfl
  f167 := Tryz.func37.trans (congrArg some (by kernel_rfl))
  f240 := Tryz.func59.trans (congrArg some (by kernel_rfl))
  f276 := Tryz.func95.trans (congrArg some (by kernel_rfl))
  t0 := Tryz.underlying0
  a0 := Tryz.isAgg0
  z0 := Tryz.sizeOf0
  v0 := Tryz.zeroValue0
  t4 := Tryz.underlying4
  a4 := Tryz.isAgg4
  z4 := Tryz.sizeOf4
  v4 := Tryz.zeroValue4
  t5 := Tryz.underlying5
  a5 := Tryz.isAgg5
  z5 := Tryz.sizeOf5
  v5 := Tryz.zeroValue5
  t9 := Tryz.underlying9
  a9 := Tryz.isAgg9
  z9 := Tryz.sizeOf9
  v9 := Tryz.zeroValue9
  t20 := Tryz.underlying20
  a20 := Tryz.isAgg20
  z20 := Tryz.sizeOf20
  v20 := Tryz.zeroValue20
  t37 := Tryz.underlying85
  a37 := Tryz.isAgg85
  z37 := Tryz.sizeOf85
  v37 := Tryz.zeroValue85
  t70 := Tryz.underlying84
  a70 := Tryz.isAgg84
  z70 := Tryz.sizeOf84
  v70 := Tryz.zeroValue84
  t72 := Tryz.underlying87
  a72 := Tryz.isAgg87
  z72 := Tryz.sizeOf87
  v72 := Tryz.zeroValue87
  t75 := Tryz.underlying90
  a75 := Tryz.isAgg90
  z75 := Tryz.sizeOf90
  v75 := Tryz.zeroValue90
  t164 := Tryz.underlying198
  a164 := Tryz.isAgg198
  z164 := Tryz.sizeOf198
  v164 := Tryz.zeroValue198

def layStr_ren : Go.Shelf.Ren := ⟨fun | 169 => 39 | n => n, fun | 70 => 84 | 9 => 9 | 0 => 0 | 72 => 87 | 37 => 85 | 127 => 141 | 3 => 3 | 5 => 5 | n => n, fun | n => n⟩
set_option maxRecDepth 100000 in
theorem layStr : Go.Proofs.Lays.n169 Tryz.prog layStr_ren where
  mixed := by kernel_rfl
  f169 := Tryz.func39.trans (congrArg some (by kernel_rfl))
  t0 := Tryz.underlying0
  a0 := Tryz.isAgg0
  z0 := Tryz.sizeOf0
  v0 := Tryz.zeroValue0
  t3 := Tryz.underlying3
  a3 := Tryz.isAgg3
  z3 := Tryz.sizeOf3
  v3 := Tryz.zeroValue3
  t9 := Tryz.underlying9
  a9 := Tryz.isAgg9
  z9 := Tryz.sizeOf9
  v9 := Tryz.zeroValue9
  t37 := Tryz.underlying85
  a37 := Tryz.isAgg85
  z37 := Tryz.sizeOf85
  v37 := Tryz.zeroValue85
  t70 := Tryz.underlying84
  a70 := Tryz.isAgg84
  z70 := Tryz.sizeOf84
  v70 := Tryz.zeroValue84
  t72 := Tryz.underlying87
  a72 := Tryz.isAgg87
  z72 := Tryz.sizeOf87
  v72 := Tryz.zeroValue87
  t127 := Tryz.underlying141
  a127 := Tryz.isAgg141
  z127 := Tryz.sizeOf141
  v127 := Tryz.zeroValue141

def layCutP_ren : Go.Shelf.Ren := ⟨fun | 103 => 56 | 210 => 90 | 206 => 155 | n => n, fun | 9 => 9 | 4 => 4 | 24 => 138 | 3 => 3 | n => n, fun | n => n⟩
set_option maxRecDepth 100000 in
theorem layCutP : Go.Proofs.Lays.n103 Tryz.prog layCutP_ren where
  mixed := by kernel_rfl
  f103 := Tryz.func56.trans (congrArg some (by kernel_rfl))
  f206 := Tryz.func155.trans (congrArg some (by kernel_rfl))
  f210 := Tryz.func90.trans (congrArg some (by kernel_rfl))
  t3 := Tryz.underlying3
  a3 := Tryz.isAgg3
  z3 := Tryz.sizeOf3
  v3 := Tryz.zeroValue3
  t4 := Tryz.underlying4
  a4 := Tryz.isAgg4
  z4 := Tryz.sizeOf4
  v4 := Tryz.zeroValue4
  t9 := Tryz.underlying9
  a9 := Tryz.isAgg9
  z9 := Tryz.sizeOf9
  v9 := Tryz.zeroValue9
  t24 := Tryz.underlying138
  a24 := Tryz.isAgg138
  z24 := Tryz.sizeOf138
  v24 := Tryz.zeroValue138

/-- the table of powers of ten stands in memory -/
def TabW (w : World) : Prop := Lib.TabIs Tryz.prog w "internal/strconv.uint64pow10" .u64 Lib.pow10Tab
theorem Keeps.drewN' {C : Foot} {w w' : World} (h : Keeps C w w') (q : Nat) : Keeps C w (w'.drewN q) := ⟨h.os, h.tape, h.output, h.size, h.block⟩
theorem Keeps.grow' {C : Foot} {w w' : World} (h : Keeps C w w') (os : Array Obj) : Keeps C w (Go.Sort.grow w' os) := by
  refine ⟨h.os, h.tape, h.output, ?_, fun k hk hC => ?_⟩
  · have := h.size
    simp only [Go.Sort.grow, Array.size_append]
    omega
  · have := h.size
    rw [← h.block k hk hC]
    simp only [Go.Sort.grow]
    rw [Array.getElem?_append_left (by omega)]
theorem itoa_any (n : Int) (h0 : -9223372036854775808 ≤ n) (h1 : n ≤ 9223372036854775807) (w : World) (ht : TabW w) :
    Calls Tryz.prog 20 #[.int .i64 n] w fun e w' => e = .returned (.string (mkS (Lib.itoa n))) ∧ KeepsAll w w' := by
  refine (Any.strconv_Itoa layItoa n h0 h1 w ht).mono ?_
  rintro e w' ⟨rfl, k, os, rfl⟩
  exact ⟨rfl, ((Keeps.refl _ w).drewN' k).grow' os⟩
theorem TabW.kept {C : Foot} {w w' : World} (h : TabW w) (k : Keeps C w w') (hC : ∀ g, Tryz.prog.globalNamed "internal/strconv.uint64pow10" = some g → ¬ C g) : TabW w' := by
  unfold TabW Lib.TabIs World.var? at *
  cases hg : Tryz.prog.globalNamed "internal/strconv.uint64pow10" with
  | none => rw [hg] at h; cases h
  | some g =>
    rw [hg] at h
    simp only [Option.bind_some] at h ⊢
    have hlt : g < w.heap.size := by
      rcases Nat.lt_or_ge g w.heap.size with h2 | h2
      · exact h2
      · rw [Array.getElem?_eq_none h2] at h; cases h
    rw [k.block g hlt (hC g hg)]
    exact h
theorem TabW.keptA {w w' : World} (h : TabW w) (k : KeepsAll w w') : TabW w' := h.kept k (fun _ _ h => h)
theorem TabW.lt {w : World} (h : TabW w) : ∀ g, Tryz.prog.globalNamed "internal/strconv.uint64pow10" = some g → g < w.heap.size := by
  intro g hg
  unfold TabW Lib.TabIs World.var? at h
  rw [hg] at h
  simp only [Option.bind_some] at h
  rcases Nat.lt_or_ge g w.heap.size with h2 | h2
  · exact h2
  · rw [Array.getElem?_eq_none h2] at h; cases h
theorem cutPrefix_any (s p : Bs) (w : World) : Calls Tryz.prog 56 #[.string (mkS s), .string (mkS p)] w fun e w' => e = .returned (.tuple #[.string (mkS (Lib.trimPrefix s p)), .bool (Lib.hasPrefix s p)]) ∧ w' = w := by
  have := Any.strings_CutPrefix layCutP (mkS s) (mkS p) w
  rw [mkS_list, mkS_list] at this
  exact this
end

section
open Go.RowKit

theorem layWStrX : Go.Proofs.Builder.Extra Tryz.prog layWStr_ren where
  sizeBuilder := by kernel_rfl
  liesBuilder := by kernel_rfl
  t5 := Tryz.underlying5
  a5 := Tryz.isAgg5
  z5 := Tryz.sizeOf5
  v5 := Tryz.zeroValue5
  infoByte := by kernel_rfl
  cellsByte := by kernel_rfl
  sizeByte := by kernel_rfl
  neB5 := by decide
theorem layWByteX : Go.Proofs.Builder.Extra Tryz.prog layWByte_ren where
  sizeBuilder := by kernel_rfl
  liesBuilder := by kernel_rfl
  t5 := Tryz.underlying5
  a5 := Tryz.isAgg5
  z5 := Tryz.sizeOf5
  v5 := Tryz.zeroValue5
  infoByte := by kernel_rfl
  cellsByte := by kernel_rfl
  sizeByte := by kernel_rfl
  neB5 := by decide
theorem layStrX : Go.Proofs.Builder.Extra Tryz.prog layStr_ren where
  sizeBuilder := by kernel_rfl
  liesBuilder := by kernel_rfl
  t5 := Tryz.underlying5
  a5 := Tryz.isAgg5
  z5 := Tryz.sizeOf5
  v5 := Tryz.zeroValue5
  infoByte := by kernel_rfl
  cellsByte := by kernel_rfl
  sizeByte := by kernel_rfl
  neB5 := by decide
/-- a Builder at block N that holds l -/
def BldW (N : Nat) (l : Bs) (w : World) : Prop := Lib.IsBuilderF (layWStr_ren.t 72) (layWStr_ren.t 5) N N (Lib.byteCells l) w
theorem bld_size {N : Nat} {l : Bs} {w : World} (h : BldW N l w) : N < w.heap.size := by
  rcases h with ⟨_, v, hb, _⟩ | ⟨_, v, hb, _⟩
  · exact (Array.getElem?_eq_some_iff.1 hb).1
  · exact (Array.getElem?_eq_some_iff.1 hb).1
theorem wByte_any (N : Nat) (l : Bs) (c : UInt8) (w : World) (h : BldW N l w) (hlen : l.length + 1 ≤ 140737488355328) :
    Calls Tryz.prog 37 #[.pointer (some ⟨N, 0, none⟩), .int .u8 c.toNat] w fun e w' => e = .returned .nilIface ∧ BldW N (l ++ [c]) w' ∧ Below N w w' := by
  refine (Any.Builder_WriteByte_k layWByte layWByteX N N (Lib.byteCells l) c.toNat w h (by rw [Lib.byteCells_length]; exact hlen) (Nat.le_of_lt (bld_size h))).mono ?_
  rintro e w' ⟨h1, h2, h3, -⟩
  refine ⟨h1, ?_, h3⟩
  unfold BldW
  rw [Lib.byteCells_append]
  exact .inr h2
theorem wStr_any (N : Nat) (l s : Bs) (w : World) (h : BldW N l w) (hlen : l.length + s.length ≤ 140737488355328) :
    Calls Tryz.prog 38 #[.pointer (some ⟨N, 0, none⟩), .string (mkS s)] w fun e w' => e = .returned (.tuple #[.int .i64 s.length, .nilIface]) ∧ BldW N (l ++ s) w' ∧ Below N w w' := by
  refine (Any.Builder_WriteString_k layWStr layWStrX N N (Lib.byteCells l) (mkS s) w h (by rw [Lib.byteCells_length, mkS_size]; exact hlen) (Nat.le_of_lt (bld_size h))).mono ?_
  rintro e w' ⟨h1, h2, h3, -⟩
  refine ⟨by rw [h1, mkS_size], ?_, h3⟩
  unfold BldW
  rw [Lib.byteCells_append]
  rw [Lib.strCells_eq, mkS_list] at h2
  exact .inr h2
theorem bStr_any (N : Nat) (l : Bs) (w : World) (h : BldW N l w) :
    Calls Tryz.prog 39 #[.pointer (some ⟨N, 0, none⟩)] w fun e w' => e = .returned (.string (mkS l)) ∧ Below N w w' := by
  refine (Any.Builder_String_any_k layStr layStrX N N l w h (Nat.le_of_lt (bld_size h))).mono ?_
  rintro e w' ⟨h1, h2, h3, -⟩
  exact ⟨h1, h3⟩
theorem bld_new (w : World) : BldW w.heap.size [] (w.alloc (.cells #[.pointer none, .slice none 0 0] (layWStr_ren.t 72))) := by
  refine .inl ⟨Nat.le_refl _, .slice none 0 0, ?_, ?_, by simp [Value.ownBlock]⟩
  · exact Blk.new w _ _
  · exact ⟨rfl, .inl ⟨rfl, rfl⟩⟩
theorem isW_cls {c : UInt8} (h : isW c = true) : clsB c = 4 := by
  obtain ⟨h1, h2, h3, h4⟩ := isW_bl h
  unfold clsB
  rw [h1, if_neg (by simp), if_neg h4, if_neg h3, if_pos h2]
set_option maxHeartbeats 1000000 in
set_option maxRecDepth 100000 in
theorem isWord_any (l : Bs) (h0 : l ≠ []) (hw : l.all isW = true) (hl : l.length ≤ 65536) (w : World) : Calls Tryz.prog 36 #[.string (mkS l)] w fun e w' => e = .returned (.bool true) ∧ w' = w := by
  have hts : (mkS l).size = l.length := mkS_size l
  have key : ∀ (i : Nat) (h : i < (mkS l).size), clsB ((mkS l)[i]) = 4 := fun i h => by
    have hi : i < l.length := by rw [← hts]; exact h
    rw [mkS_at l i l[i] (List.getElem?_eq_getElem hi) h]
    exact isW_cls (List.all_eq_true.1 hw _ (List.getElem_mem hi))
  have KEY := Lib.hid key
  have hE : ¬ (mkS l).toList = [] := by rw [ByteArray.toList_eq, mkS_list]; exact h0
  have hE2 : (mkS l).toList.isEmpty = false := by simpa using hE
  clear key
  generalize mkS l = t at *
  go_enter Tryz.func36, Tryz.ntmps36
  go_wp2
  go_loopw [2, 6] (fun v2 i wr => ∃ b : Nat, b ≤ l.length ∧ i = .int .i64 (b : Int) ∧ v2 = .bool false ∧ wr = w) (fun _ i _ => l.length - (intOf i).toNat)
  case atStart => exact ⟨0, Nat.zero_le _, rfl, rfl, rfl⟩
  case round =>
    obtain ⟨b, hb, rfl, rfl, rfl⟩ := hrel
    by_cases hlt : b < l.length
    · have HCL : Hid (∀ h : b < t.size, Calls Tryz.prog 54 #[.int .u8 ((t[b]).toNat : Int)] wr fun e w' => e = .returned (.int .i64 4) ∧ w' = wr) := fun h => by
        have := class_any t[b] wr
        rw [KEY.out b h] at this
        exact this.mono fun e w' ⟨h1, h2⟩ => ⟨h1, h2.symm⟩
      clear hE hE2
      go_wp2_with (go_at_call 54; refine (HCL.out _).mono ?_; rintro e w' ⟨rfl, rfl⟩)
      go_roundw
      case rel => exact ⟨b + 1, by omega, by go_num, rfl, trivial⟩
      case measure => simp [intOf]; omega
    · obtain rfl : b = l.length := by omega
      go_wp2
      go_ret
      exact ⟨rfl, rfl⟩
theorem joinW_cons (a : Bs) (r : List Bs) (h : r ≠ []) : joinW (a :: r) = a ++ 32 :: joinW r := by
  cases r with
  | nil => exact absurd rfl h
  | cons b r => rfl
theorem joinW_snoc (l : List Bs) (x : Bs) (h : l ≠ []) : joinW (l ++ [x]) = joinW l ++ 32 :: x := by
  induction l with
  | nil => exact absurd rfl h
  | cons a r ih =>
    by_cases hr : r = []
    · subst hr; rfl
    · rw [List.cons_append, joinW_cons a (r ++ [x]) (by simp), ih hr, joinW_cons a r hr]
      simp
theorem joinW_take (l : List Bs) (j : Nat) (x : Bs) (h : l[j]? = some x) : joinW (l.take (j + 1)) = joinW (l.take j) ++ (if 0 < j then [32] else []) ++ x := by
  rw [List.take_add_one, h, Option.toList_some]
  by_cases hj : 0 < j
  · rw [joinW_snoc _ _ (by intro e; have h1 := congrArg List.length e; have h2 := (List.getElem?_eq_some_iff.1 h).1; rw [List.length_take, List.length_nil] at h1; omega), if_pos hj]
    simp
  · obtain rfl : j = 0 := by omega
    simp [joinW]
structure JOk (l : List Bs) : Prop where
  ne : l ≠ []
  cap : l.length ≤ 64
  wd : ∀ x ∈ l, x ≠ [] ∧ x.all isW = true ∧ x.length ≤ 21
def jline (l : List Bs) : Bs := joinW l ++ [10]
theorem joinW_len (l : List Bs) (h : ∀ x ∈ l, x.length ≤ 21) : (joinW l).length ≤ 22 * l.length := by
  induction l with
  | nil => simp [joinW]
  | cons a r ih =>
    cases r with
    | nil => have := h a (by simp); simp [joinW]; omega
    | cons b r =>
      have h1 := ih (fun x hx => h x (by simp [hx]))
      have h2 := h a (by simp)
      rw [joinW]
      · simp at h1 ⊢; omega
      · simp
theorem jline_len (l : List Bs) (h : JOk l) : (jline l).length ≤ 1409 := by
  have := joinW_len l (fun x hx => (h.wd x hx).2.2)
  have := h.cap
  simp [jline]; omega
theorem jlines_len (ls : List (List Bs)) (h : ∀ l ∈ ls, JOk l) : (ls.flatMap jline).length ≤ 1409 * ls.length := by
  induction ls with
  | nil => simp
  | cons a r ih =>
    have h1 := ih (fun x hx => h x (by simp [hx]))
    have h2 := jline_len a (h a (by simp))
    rw [List.flatMap_cons, List.length_append, List.length_cons]
    omega
theorem flat_take (ls : List (List Bs)) (n : Nat) (l : List Bs) (h : ls[n]? = some l) : (ls.take (n + 1)).flatMap jline = (ls.take n).flatMap jline ++ jline l := by
  rw [List.take_add_one, h, Option.toList_some, List.flatMap_append]
  simp
abbrev RStrss := RSlice 1 RStrs
theorem RStrss.ok : Rd.Ok RStrss := RSlice.ok RStrs.ok
theorem RStrss.atK {w wr : World} {ls : List (List Bs)} {A : Option Addr} {n0 c : Nat} (K : KeepsAll w wr) (h : RStrss w (Old w) [.slice A n0 c] ls) {j : Nat} (hj : j < ls.length) :
    ∃ b o x A' c', A = some ⟨b, o, none⟩ ∧ b < w.heap.size ∧ ls[j]? = some x ∧ wr.cell? ⟨b, o + j, none⟩ = some (.slice A' x.length c') ∧ RStrs wr (Old wr) [.slice A' x.length c'] x := by
  obtain ⟨b, o, x, es, rfl, hb, hx, h1, h2, h3⟩ := h.get hj
  obtain ⟨A', c', rfl, _⟩ := id h2
  exact ⟨b, o, x, A', c', rfl, hb, hx, K.cellA hb (by simpa using h3 0 _ rfl), K.rd RStrs.ok h2 (fun b hb => ⟨hb, fun h => h⟩) (fun b hb => Nat.lt_of_lt_of_le hb K.size)⟩
theorem RStrs.atK {w wr : World} {l : List Bs} {A : Option Addr} {n0 c : Nat} (K : KeepsAll w wr) (h : RStrs w (Old w) [.slice A n0 c] l) {j : Nat} (hj : j < l.length) :
    ∃ b o x, A = some ⟨b, o, none⟩ ∧ b < w.heap.size ∧ l[j]? = some x ∧ wr.cell? ⟨b, o + j, none⟩ = some (.string (mkS x)) := by
  obtain ⟨b, o, x, rfl, hb, hx, h1⟩ := h.at_ hj
  exact ⟨b, o, x, rfl, hb, hx, K.cellA hb h1⟩
set_option maxHeartbeats 8000000 in
set_option maxRecDepth 100000 in
theorem wJoin_any (ls : List (List Bs)) (hok : ∀ l ∈ ls, JOk l) (hll : ls.length ≤ 1048576) (A : Option Addr) (c : Nat) (w : World) (h : RStrss w (Old w) [.slice A ls.length c] ls) :
    Calls Tryz.prog 21 #[.slice A ls.length c] w fun e w' => e = .returned (.string (mkS (ls.flatMap jline))) ∧ KeepsAll w w' := by
  have HR := Lib.hid h
  have HOK := Lib.hid hok
  have hcap := h.caps
  clear h hok
  go_enter Tryz.func21, Tryz.ntmps21
  go_wp2
  have hbn := bld_new w
  generalize hW1 : World.alloc w _ = W1
  rw [show World.alloc w (.cells #[.pointer none, .slice none 0 0] (layWStr_ren.t 72)) = W1 from hW1] at hbn
  have HK1 : Hid (KeepsAll w W1) := by subst hW1; exact (Keeps.refl _ w).alloc _
  have HB1 := Lib.hid hbn
  clear hW1 hbn
  generalize hN : w.heap.size = N at *
  go_loopw [2, 10] (fun v2 i wr => ∃ n : Nat, n ≤ ls.length ∧ i = .int .i64 (n : Int) ∧ v2 = .string ⟨#[]⟩ ∧ BldW N ((ls.take n).flatMap jline) wr ∧ KeepsAll w wr) (fun _ i _ => ls.length - (intOf i).toNat)
  case atStart => exact ⟨0, Nat.zero_le _, rfl, rfl, HB1.out, HK1.out⟩
  case round =>
    obtain ⟨n, hn, rfl, rfl, hb, hk⟩ := hrel
    have HB := Lib.hid hb
    have HK := Lib.hid hk
    have hsz := hk.size
    have hNr := bld_size hb
    clear hb hk
    by_cases hlt : n < ls.length
    · obtain ⟨b, o, x, A', c', rfl, hbw, hx, hcell0, hrx⟩ := HR.out.atK (Keeps.refl _ w) hlt
      have hcell := HK.out.cellA (by show b < w.heap.size; omega) hcell0
      have hxo := HOK.out x (List.mem_of_getElem? hx)
      have HRX := Lib.hid hrx
      have HFL := Lib.hid (flat_take ls n x hx)
      have hdl := jlines_len (ls.take n) (fun l hl => HOK.out l (List.mem_of_mem_take hl))
      have hdl2 : ((ls.take n).flatMap jline).length ≤ 1477443584 := Nat.le_trans hdl (by have ht : (ls.take n).length ≤ 1048576 := (by rw [List.length_take]; omega); omega)
      have hbr : b < wr.heap.size := by omega
      have hxc := hxo.cap
      have hxp : 0 < x.length := List.length_pos_iff.2 hxo.ne
      have HWD := Lib.hid hxo.wd
      have hx64 : ¬ 64 < x.length := by omega
      have hxz : ¬ x.length = 0 := by omega
      have hxzb : ((x.length : Int) == 0) = false := beq_eq_false_iff_ne.2 (by omega)
      generalize (ls.take n).flatMap jline = done at *
      obtain ⟨wo, hwo⟩ : ∃ wo : World, wo = wr := ⟨_, rfl⟩
      subst hwo
      clear hrx hxo hx hdl
      go_wp2
      go_loopw [2, 24] (fun v2 i wr => ∃ j : Nat, j ≤ x.length ∧ i = .int .i64 (j : Int) ∧ v2 = .string ⟨#[]⟩ ∧ BldW N (done ++ joinW (x.take j)) wr ∧ KeepsAll w wr ) (fun _ i _ => x.length - (intOf i).toNat)
      case atStart => exact ⟨0, Nat.zero_le _, rfl, rfl, by rw [List.take_zero]; simpa [joinW] using HB.out, HK.out⟩
      case round =>
        obtain ⟨j, hj, rfl, rfl, hb, hk⟩ := hrel
        have HBJ := Lib.hid hb
        have HKJ := Lib.hid hk
        have hNj := bld_size hb
        have hsj := hk.size
        clear hb hk
        by_cases hjlt : j < x.length
        · obtain ⟨b5, o5, y, rfl, hb5, hy, c0⟩ := HRX.out.atK HKJ.out hjlt
          obtain ⟨hy0, hyw, hyl⟩ := HWD.out y (List.mem_of_getElem? hy)
          have HJT := Lib.hid (joinW_take x j y hy)
          have hjl := joinW_len (x.take j) (fun z hz => (HWD.out z (List.mem_of_mem_take hz)).2.2)
          have hjl2 : (joinW (x.take j)).length ≤ 1408 := Nat.le_trans hjl (by have ht : (x.take j).length ≤ 64 := (by rw [List.length_take]; omega); omega)
          have HIW := Lib.hid (isWord_any y hy0 hyw (by omega) wr)
          have hb5w : b5 < wr.heap.size := by omega
          have hbJ : done.length + (joinW (x.take j)).length ≤ 1477444992 := by omega
          generalize hjw : joinW (x.take j) = jw at *
          generalize hjw2 : joinW (x.take (j + 1)) = jw2 at *
          clear hjl hy hyw
          by_cases hj0 : 0 < j
          · have HWB := Lib.hid (fun W1 (hW : BldW N (done ++ jw) W1) => wByte_any N (done ++ jw) 32 W1 hW (by rw [List.length_append]; omega))
            have HWS := Lib.hid (fun W1 (hW : BldW N (done ++ jw ++ [32]) W1) => wStr_any N (done ++ jw ++ [32]) y W1 hW (by rw [List.length_append, List.length_append]; simp; omega))
            have HEQ : Hid (done ++ jw ++ [32] ++ y = done ++ jw2) := by
              show _ = _
              rw [HJT.out, if_pos hj0]
              simp
            go_wp2_with (first | (go_at_call 36; refine (HIW.out).mono ?_; rintro e w' ⟨rfl, rfl⟩) | (go_at_call 37; refine (HWB.out _ HBJ.out).mono ?_; rintro e w3 ⟨rfl, hb3, hl3⟩; have HB3 := Lib.hid hb3; have HL3 := Lib.hid hl3; clear hb3 hl3) | (go_at_call 38; refine (HWS.out _ HB3.out).mono ?_; rintro e w4 ⟨rfl, hb4, hl4⟩; have HB4 := Lib.hid hb4; have HL4 := Lib.hid hl4; clear hb4 hl4))
            exact ⟨⟨j + 1, by omega, by go_num, rfl, by rw [hjw2, ← HEQ.out]; exact HB4.out, (HKJ.out.below HL3.out (by omega)).below HL4.out (by omega)⟩, by simp [intOf]; omega⟩
          · have HWS := Lib.hid (fun W1 (hW : BldW N (done ++ jw) W1) => wStr_any N (done ++ jw) y W1 hW (by rw [List.length_append]; omega))
            have HEQ : Hid (done ++ jw ++ y = done ++ jw2) := by
              show _ = _
              rw [HJT.out, if_neg hj0]
              simp
            go_wp2_with (first | (go_at_call 36; refine (HIW.out).mono ?_; rintro e w' ⟨rfl, rfl⟩) | (go_at_call 38; refine (HWS.out _ HBJ.out).mono ?_; rintro e w4 ⟨rfl, hb4, hl4⟩; have HB4 := Lib.hid hb4; have HL4 := Lib.hid hl4; clear hb4 hl4))
            exact ⟨⟨j + 1, by omega, by go_num, rfl, by rw [hjw2, ← HEQ.out]; exact HB4.out, HKJ.out.below HL4.out (by omega)⟩, by simp [intOf]; omega⟩
        · obtain rfl : j = x.length := by omega
          have hJ := HBJ.out
          rw [List.take_length] at hJ
          have hjl := joinW_len x (fun z hz => (HWD.out z hz).2.2)
          have HWB := Lib.hid (wByte_any N (done ++ joinW x) 10 wr hJ (by rw [List.length_append]; omega))
          have HEQ : Hid (done ++ joinW x ++ [10] = (ls.take (n + 1)).flatMap jline) := by
            show _ = _
            rw [HFL.out]
            simp [jline]
          clear hJ hjl
          go_wp2_with (go_at_call 37; refine (HWB.out).mono ?_; rintro e w3 ⟨rfl, hb3, hl3⟩; have HB3 := Lib.hid hb3; have HL3 := Lib.hid hl3; clear hb3 hl3)
          go_roundw
          case rel => exact ⟨n + 1, by omega, by go_num, rfl, by rw [← HEQ.out]; exact HB3.out, HKJ.out.below HL3.out (by omega)⟩
          case measure => simp [intOf]; omega
    · obtain rfl : n = ls.length := by omega
      have HF : Hid (ls.take ls.length = ls) := List.take_length
      rw [HF.out] at HB
      have HSS := Lib.hid (bStr_any N _ wr HB.out)
      go_wp2_with (go_at_call 39; refine (HSS.out).mono ?_; rintro e w3 ⟨rfl, hb3⟩)
      go_ret
      exact ⟨rfl, HK.out.below hb3 (by omega)⟩
end

section
open Go.RowKit Go.Shelf

attribute [local go_sem] Oper.semAt_some

theorem Keeps.putObj {C : Foot} {a b : World} (h : Keeps C a b) {k : Nat} (hk : k < a.heap.size → C k) (o : Obj) : Keeps C a (b.putObj k o) :=
  ⟨h.os, h.tape, h.output, by simpa using h.size, fun i hi hn => (World.putObj_heap_other (by rintro rfl; exact hn (hk hi))).trans (h.block i hi hn)⟩
/-- the boxes of the iterator: the separator, what is left of the text, how much of the separator is kept -/
structure SeqB (w : World) (bp bs bk : Nat) (s : Bs) : Prop where
  sep : Blk w bp 9 #[.string (mkS [10])]
  src : Blk w bs 9 #[.string (mkS s)]
  sav : Blk w bk 3 #[.int .i64 0]
theorem SeqB.kept {C : Foot} {w w' : World} {bp bs bk : Nat} {s : Bs} (h : SeqB w bp bs bk s) (k : Keeps C w w') (h1 : ¬ C bp) (h2 : ¬ C bs) (h3 : ¬ C bk) : SeqB w' bp bs bk s :=
  ⟨h.sep.kept k h1, h.src.kept k h2, h.sav.kept k h3⟩
def leftS (w : World) (b : Nat) : Nat := match w.cell? ⟨b, 0, none⟩ with
  | some (.string t) => t.size
  | _ => 0
theorem SeqB.left {w : World} {bp bs bk : Nat} {s : Bs} (h : SeqB w bp bs bk s) : leftS w bs = s.length := by
  have := h.src.cell 0
  simp at this
  unfold leftS
  rw [this]
  exact mkS_size s
set_option maxHeartbeats 1000000 in
set_option maxRecDepth 100000 in
/-- the iterator, for every loop body -/
theorem seq1_in (n : Nat) (l bp bs bk : Nat) (hne : bs ≠ bp ∧ bs ≠ bk) (src : Bs) (hsl : src.length ≤ 65536) (Kc : Foot) (h1 : ¬ Kc bp) (h2 : ¬ Kc bs) (h3 : ¬ Kc bk) (J : List Bs → World → Prop) (Jx : World → Prop)
    (hJ : ∀ pre W v, J pre W → J pre (W.setCell ⟨bs, 0, none⟩ v))
    (hY : ∀ pre x rest W, piecesL src = pre ++ x :: rest → J pre W → YieldAt Fence.wide (n - 1) Tryz.prog l #[.string (mkS x)] W fun e W' =>
      (e = .returned (.bool true) ∧ J (pre ++ [x]) W' ∧ Keeps Kc W W') ∨ (e = .returned (.bool false) ∧ Jx W'))
    (W : World) (hB : SeqB W bp bs bk src) (h0 : J [] W) :
    CallsIn Fence.wide n Tryz.prog 86 #[.func (.yield l) #[] #[], .pointer (some ⟨bp, 0, none⟩), .pointer (some ⟨bs, 0, none⟩), .pointer (some ⟨bk, 0, none⟩)] W fun e W' => (∃ v, e = .returned v) ∧ (J (piecesL src) W' ∨ Jx W') := by
  refine callsIn_of_wp Tryz.func86 rfl trivial ?_ rfl
  simp only [Tryz.ntmps86, List.size_toArray, List.length_cons, List.length_nil, Nat.reduceAdd, Nat.reduceSub, Array.replicate_succ, Array.replicate_zero, List.push_toArray, List.append_toArray, List.nil_append, List.cons_append]
  have hp := hB.sep.cell 0
  simp at hp
  have HNE := Lib.hid hne
  have HB := Lib.hid hB
  have hsz : (mkS [10]).size = 1 := mkS_size _
  clear hB hne
  gi_wp2
  have HP0 := Lib.hid hp
  clear hp
  gi_loopw [7] (fun _ wr => ∃ (pre : List Bs) (s : Bs), piecesL src = pre ++ piecesL s ∧ SeqB wr bp bs bk s ∧ J pre wr ∧ s.length ≤ src.length) (fun _ wr => leftS wr bs)
  case atStart =>
    exact ⟨[], src, rfl, HB.out, h0, Nat.le_refl _⟩
  case round =>
    obtain ⟨pre, s, hps, hb, hJs, hsl2⟩ := hrel
    have HBr := Lib.hid hb
    have c1 := hb.sep.cell 0
    have c2 := hb.src.cell 0
    have c3 := hb.sav.cell 0
    simp at c1 c2 c3
    have f2 := hb.src.frozen 0
    have hml := hb.left
    have HIX := Lib.hid (sIndex_any s 10 wr)
    have hts : (mkS s).size = s.length := mkS_size s
    have HX : Hid (∀ a b : Nat, (mkS s).extract a b = mkS ((s.take b).drop a)) := fun a b => mkS_ext s a b
    clear hb
    rcases idx_hit s 10 with ⟨hi, hno⟩ | ⟨a, r, hsa, hno, hi⟩
    · have hpc : piecesL src = pre ++ s :: [] := by rw [hps, piecesL_none s hno]
      obtain ⟨fn, tmps, assign, body, hy, hR⟩ := hY pre s [] wr hpc hJs
      rw [hi] at HIX
      have HR := Lib.hid hR
      clear hR hno hi
      gi_wp2_with (refine ⟨trivial, (fun h => by cases h), ?_⟩; refine (callsIn_wide.2 HIX.out).mono ?_; rintro e w' ⟨rfl, rfl⟩)
      refine ⟨(fun h => by cases h), HR.out.mono ?_⟩
      rintro e W' (⟨rfl, hJ2, -⟩ | ⟨rfl, hJ2⟩)
      · have HJ2 := Lib.hid hJ2
        clear hJ2
        gi_wp2
        go_end0
        exact ⟨⟨_, rfl⟩, .inl (by rw [hpc]; exact HJ2.out)⟩
      · have HJ2 := Lib.hid hJ2
        clear hJ2
        gi_wp2
        go_end0
        exact ⟨⟨_, rfl⟩, .inr HJ2.out⟩
    · subst hsa
      have hpa : piecesL (a ++ 10 :: r) = a :: piecesL r := piecesL_hit a r hno
      rw [hpa] at hps
      obtain ⟨fn, tmps, assign, body, hy, hR⟩ := hY pre a (piecesL r) wr hps hJs
      rw [hi] at HIX
      have HR := Lib.hid hR
      have hx1 : (mkS (a ++ 10 :: r)).extract 0 a.length = mkS a := by rw [HX.out]; simp
      have hx2 : ∀ m, m = (mkS (a ++ 10 :: r)).size → (mkS (a ++ 10 :: r)).extract (a.length + 1) m = mkS r := by
        rintro m rfl
        rw [HX.out, hts, List.take_length]
        have : a ++ 10 :: r = (a ++ [10]) ++ r := by simp
        rw [this, List.drop_left' (by simp)]
      have hal : a.length < (a ++ 10 :: r).length := by rw [List.length_append, List.length_cons]; omega
      have hal2 : (a ++ 10 :: r).length = a.length + 1 + r.length := by rw [List.length_append, List.length_cons]; omega
      have HPS := Lib.hid hps
      have HM := Lib.hid hml
      clear hR hno hi HX hml hpa hps
      generalize htb : mkS (a ++ 10 :: r) = tb at *
      have HT := Lib.hid htb
      clear htb
      gi_wp2_with (refine ⟨trivial, (fun h => by cases h), ?_⟩; refine (callsIn_wide.2 HIX.out).mono ?_; rintro e w' ⟨rfl, rfl⟩)
      refine ⟨(fun h => by cases h), HR.out.mono ?_⟩
      rintro e W' (⟨rfl, hJ2, hk2⟩ | ⟨rfl, hJ2⟩)
      · have HJ2 := Lib.hid hJ2
        have hb2 := HBr.out.kept hk2 h1 h2 h3
        have HB2 := Lib.hid hb2
        have c1 := hb2.sep.cell 0
        have c2 := hb2.src.cell 0
        have c3 := hb2.sav.cell 0
        simp at c1 c2 c3
        rw [HT.out] at c2
        have f2 := hb2.src.frozen 0
        clear hJ2 hb2
        gi_wp2
        go_roundw
        case rel => exact ⟨pre ++ [a], r, by rw [HPS.out]; simp, ⟨HB2.out.sep.far HNE.out.1.symm _, HB2.out.src.set_ 0 _, HB2.out.sav.far HNE.out.2.symm _⟩, hJ _ _ _ HJ2.out, by omega⟩
        case measure =>
          have hs2 : SeqB (W'.setCell ⟨bs, 0, none⟩ (.string (mkS r))) bp bs bk r := ⟨HB2.out.sep.far HNE.out.1.symm _, HB2.out.src.set_ 0 _, HB2.out.sav.far HNE.out.2.symm _⟩
          rw [hs2.left, HM.out]
          omega
      · have HJ2 := Lib.hid hJ2
        clear hJ2
        gi_wp2
        refine bodyPost_ret (results_none rfl _ _ _) rfl ?_
        exact ⟨⟨_, rfl⟩, .inr HJ2.out⟩
/-- how a round's body may be left -/
def seqPost (Kc : Foot) (I : List Bs → World → Prop) (Ix : World → Prop) (xs : List Bs) (W : World) : Exit → Act → World → Prop
  | .normal, _, W' => Keeps Kc W W' ∧ I xs W'
  | .ret, _, W' => Keeps Kc W W' ∧ Ix W'
  | .exit _, _, _ => False
  | .goto _, _, _ => False
  | .panic _, _, _ => False
  | .outgrown, _, _ => False
/-- the loop over the lines of a text -/
theorem wpIn_rangeSeq {g : Operand} {ps : Array Tmp} {assign body : Code} {Q : Exit → Act → World → Prop} {a : Act} {w : World} {n bp bs bk : Nat} {src : Bs} (h1 : 1 ≤ n)
    (hg : a.eval g = .func (.func 86) #[] #[.pointer (some ⟨bp, 0, none⟩), .pointer (some ⟨bs, 0, none⟩), .pointer (some ⟨bk, 0, none⟩)]) (hB : SeqB w bp bs bk src) (hsl : src.length ≤ 65536)
    (hne : bs ≠ bp ∧ bs ≠ bk) (hps : ps.size = 1) (Kc : Foot) (k1 : ¬ Kc bp) (k2 : ¬ Kc bs) (k3 : ¬ Kc bk) (k4 : ¬ Kc w.heap.size) (k5 : ¬ Kc (w.heap.size + 1))
    (I : List Bs → World → Prop) (Ix : World → Prop) (hIset : ∀ pre W v, I pre W → I pre (W.setCell ⟨bs, 0, none⟩ v))
    (hIput : ∀ pre W k o, (k = w.heap.size ∨ k = w.heap.size + 1) → I pre W → I pre (W.putObj k o)) (hIxput : ∀ W k o, (k = w.heap.size ∨ k = w.heap.size + 1) → Ix W → Ix (W.putObj k o))
    (h0 : ∀ o1 o2, I [] ((w.alloc o1).alloc o2)) (a₁ : Bs → Act)
    (hassign : ∀ (l : Nat) (x : Bs) (W : World) (K : Act → World → Prop), K (a₁ x) W →
      assign.wpIn (Fence.wide.inRound l) (n - 1 - 1) Tryz.prog (Exit.then K (fun _ _ _ => False)) { tmps := (ps.zip #[Value.string (mkS x)]).foldl (fun t (p, v) => t.setIfInBounds p v) a.tmps, defers := [] } W)
    (hbody : ∀ (l : Nat) (pre : List Bs) (x : Bs) (rest : List Bs) (W : World), piecesL src = pre ++ x :: rest → I pre W → w.heap.size + 2 ≤ W.heap.size → body.wpIn (Fence.wide.inRound l) (n - 1 - 1) Tryz.prog (seqPost Kc I Ix (pre ++ [x]) W) (a₁ x) W)
    (hdone : ∀ (W : World), I (piecesL src) W → W.heap[w.heap.size]? = some (.deferred (some [])) → Q .normal { a with defers := { target := .collected w.heap.size, args := #[] } :: a.defers } W)
    (hstop : ∀ (W : World), Ix W → W.heap[w.heap.size]? = some (.deferred (some [])) → Code.ret.wpIn Fence.wide n Tryz.prog Q { a with defers := { target := .collected w.heap.size, args := #[] } :: a.defers } W) :
    (Code.rangeFunc g ps assign body).wpIn Fence.wide n Tryz.prog Q a w := by
  refine wpIn_rangeFunc ?_
  intro fn hfn
  obtain ⟨rec, hrec⟩ : ∃ rec : LoopState → Option Code → Loop, rec = fun st pe => { state := st, pending := pe, fn, tmps := a.tmps, params := ps, assign, body, defers := w.heap.size } := ⟨_, rfl⟩
  obtain ⟨W1, hW1⟩ : ∃ W1, (w.alloc (.deferred (some []))).alloc (.loop (rec .ready none)) = W1 := ⟨_, rfl⟩
  have hL1 : W1.heap[w.heap.size + 1]? = some (.loop (rec .ready none)) := by
    rw [← hW1]; have := World.alloc_heap_new (w.alloc (.deferred (some []))) (.loop (rec .ready none)); rwa [World.size_alloc] at this
  have hK1 : W1.heap[w.heap.size]? = some (.deferred (some [])) := by
    rw [← hW1]; exact (Below.heap_alloc _ _ _ (by simp)).trans (World.alloc_heap_new w _)
  have hI1 : I [] W1 := by rw [← hW1]; exact h0 _ _
  have hB1 : SeqB W1 bp bs bk src := by
    rw [← hW1]; exact hB.kept (((Keeps.refl (fun _ => False) w).alloc _).alloc _) (fun h => h) (fun h => h) (fun h => h)
  have hbs : bs < w.heap.size := hB.src.lt
  have hbp : bp < w.heap.size := hB.sep.lt
  have hbk : bk < w.heap.size := hB.sav.lt
  refine ⟨w.heap.size + 1, [{ target := .collected w.heap.size, args := #[] }], W1, { target := .fn (.func 86) #[.pointer (some ⟨bp, 0, none⟩), .pointer (some ⟨bs, 0, none⟩), .pointer (some ⟨bk, 0, none⟩)], args := #[.func (.yield (w.heap.size + 1)) #[] #[]] }, W1, 86,
    #[.func (.yield (w.heap.size + 1)) #[] #[], .pointer (some ⟨bp, 0, none⟩), .pointer (some ⟨bs, 0, none⟩), .pointer (some ⟨bk, 0, none⟩)], W1, ?_, ?_, ?_, ?_, fun _ => h1, ?_⟩
  · rw [← hW1, hrec]; exact run_enterLoop_outer _ _ _ _ _
  · simp only [resolve, hg]
    simp [go_sem]
  · intro f' hf'; trivial
  · have eg : ∀ args w, (callFunc 86 args).run Tryz.prog w = .ok (.enter 86 args) w := enters_of Tryz.func86 (by kernel_rfl) rfl
    simp [invoke, go_sem, eg]
  · refine (seq1_in (n - 1) (w.heap.size + 1) bp bs bk hne src hsl (fun b => Kc b ∨ b = w.heap.size + 1) (fun h => h.elim k1 (by omega)) (fun h => h.elim k2 (by omega)) (fun h => h.elim k3 (by omega))
      (fun pre W => I pre W ∧ W.heap[w.heap.size + 1]? = some (.loop (rec .ready none)) ∧ W.heap[w.heap.size]? = some (.deferred (some [])))
      (fun W => Ix W ∧ W.heap[w.heap.size + 1]? = some (.loop (rec .done (some .ret))) ∧ W.heap[w.heap.size]? = some (.deferred (some [])))
      (fun pre W v ⟨hi, hl, hk⟩ => ⟨hIset pre W v hi, (Below.heap_setCell W _ v _ (by show _ ≠ bs; omega)).trans hl, (Below.heap_setCell W _ v _ (by show _ ≠ bs; omega)).trans hk⟩)
      ?_ W1 hB1 ⟨hI1, hL1, hK1⟩).mono ?_
    · rintro pre x rest W hpc ⟨hi, hl, hk⟩
      have hlt : w.heap.size + 1 < W.heap.size := (Array.getElem?_eq_some_iff.1 hl).1
      have hy := run_yield (P := Tryz.prog) (args := #[Value.string (mkS x)]) hl (by rw [hrec]; exact hps.symm)
      rw [hrec] at hy
      refine ⟨fn, _, assign, body, hy, roundIn_of_wpIn hfn (hassign _ x W _ ⟨_, run_beginRound hl (by rw [hrec]), ?_⟩)⟩
      have hl2 : (W.putObj (w.heap.size + 1) (.loop { rec .ready none with state := .busy })).heap[w.heap.size + 1]? = some (.loop { rec .ready none with state := .busy }) := World.putObj_heap_same hlt
      have hk2 : (W.putObj (w.heap.size + 1) (.loop { rec .ready none with state := .busy })).heap[w.heap.size]? = some (.deferred (some [])) := (World.putObj_heap_other (by omega)).trans hk
      have hw2 : Keeps (fun b => Kc b ∨ b = w.heap.size + 1) W (W.putObj (w.heap.size + 1) (.loop { rec .ready none with state := .busy })) := (Keeps.refl _ W).putObj (fun _ => .inr rfl) _
      refine wpIn_mono (hbody _ pre x rest _ hpc (hIput _ _ _ _ (.inr rfl) hi) (by simp; omega)) ?_
      have fin : ∀ (jump : Option Code) (W3 : World), Keeps Kc (W.putObj (w.heap.size + 1) (.loop { rec .ready none with state := .busy })) W3 →
          (Instr.endRound (w.heap.size + 1) jump).run Tryz.prog W3 = .ok (.bool jump.isNone) (W3.putObj (w.heap.size + 1) (.loop (rec (if jump.isNone then .ready else .done) jump))) ∧
          (W3.putObj (w.heap.size + 1) (.loop (rec (if jump.isNone then .ready else .done) jump))).heap[w.heap.size + 1]? = some (.loop (rec (if jump.isNone then .ready else .done) jump)) ∧
          (W3.putObj (w.heap.size + 1) (.loop (rec (if jump.isNone then .ready else .done) jump))).heap[w.heap.size]? = some (.deferred (some [])) ∧
          Keeps (fun b => Kc b ∨ b = w.heap.size + 1) W (W3.putObj (w.heap.size + 1) (.loop (rec (if jump.isNone then .ready else .done) jump))) := fun jump W3 hk3 => by
        have hl3 := (hk3.block (w.heap.size + 1) (by simpa using hlt) k5).trans hl2
        have hk4 := (hk3.block w.heap.size (by simp; omega) k4).trans hk2
        have := run_endRound (P := Tryz.prog) jump hl3
        rw [hrec] at this ⊢
        exact ⟨this, World.putObj_heap_same (Array.getElem?_eq_some_iff.1 hl3).1, (World.putObj_heap_other (by omega)).trans hk4, (hw2.trans hk3 (fun _ _ h => .inl h)).putObj (fun _ => .inr rfl) _⟩
      rintro e a3 W3 hp
      cases e with
      | normal =>
        obtain ⟨hk3, hi3⟩ := hp
        obtain ⟨hr, hl4, hk4, hkk⟩ := fin none W3 hk3
        exact ⟨_, _, hr, .inl ⟨rfl, ⟨hIput _ _ _ _ (.inr rfl) hi3, hl4, hk4⟩, hkk⟩⟩
      | ret =>
        obtain ⟨hk3, hi3⟩ := hp
        obtain ⟨hr, hl4, hk4, hkk⟩ := fin (some .ret) W3 hk3
        exact ⟨_, _, hr, .inr ⟨rfl, hIxput _ _ _ (.inr rfl) hi3, hl4, hk4⟩⟩
      | exit id => exact hp.elim
      | goto t => exact hp.elim
      | panic ch => exact hp.elim
      | outgrown => exact hp.elim
    · rintro e W2 ⟨⟨v, rfl⟩, (⟨hi, hl, hk⟩ | ⟨hi, hl, hk⟩)⟩
      · exact ⟨none, _, by have := run_endLoop (P := Tryz.prog) hl (by rw [hrec]; simp); rw [hrec] at this; exact this, hdone _ (hIput _ _ _ _ (.inr rfl) hi) ((World.putObj_heap_other (by omega)).trans hk)⟩
      · exact ⟨some .ret, _, by have := run_endLoop (P := Tryz.prog) hl (by rw [hrec]; simp); rw [hrec] at this; exact this, hstop _ (hIxput _ _ _ (.inr rfl) hi) ((World.putObj_heap_other (by omega)).trans hk)⟩
end
end Go.Proofs.YtnglahcjemgcaaaGreatDoor
