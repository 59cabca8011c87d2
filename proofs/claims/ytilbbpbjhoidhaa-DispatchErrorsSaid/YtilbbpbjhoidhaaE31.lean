/- Verify of chapter 37 as plain functions: the program's and the reference's tests agree. No program in sight. Verify of chapter 37, lists of orders: the program's and the reference's tests agree. No program in sight. Contract of Bound of chapter 37. Conditions: as the theorem says. The example of chapter 37 as a plain problem, and what Solve, Bound and Verify return for it. No program in sight. Contracts of what follow of chapter 37 calls: its closure and IndexFunc over uses; the state of its loops. Conditions: as each theorem says. -/
import Derived.Test.YtilbbpbjhoidhaaE17
import Derived.Test.YtilbbpbjhoidhaaE30
namespace Go.Proofs.Ytilbbpbjhoidhaa
open Go.RowKit

theorem lastU_max {t : Int} {u : Ref} : ∀ (n : Nat) {pre : List Ref}, pre.length = n → pre.Pairwise Before → lastU pre t = some u → ∀ x ∈ pre, x.tr = t → x = u ∨ x.st < u.st
 | 0, pre, hn, _, h, x, hx, _ => by rw [List.eq_nil_of_length_eq_zero hn] at hx; simp at hx
 | n + 1, pre, hn, hp, h, x, hx, hxt => by
  rcases List.eq_nil_or_concat pre with rfl | ⟨q, v, rfl⟩
  ·simp at hn
  ·simp only [List.concat_eq_append] at *
   rw [lastU_snoc] at h
   rw [List.pairwise_append] at hp
   by_cases g : v.tr = t
   ·rw [if_pos g] at h
    injection h with h
    subst h
    rcases List.mem_append.1 hx with hx | hx
    ·exact .inr (hp.2.2 x hx v (by simp) (by rw [hxt, g]))
    ·simp at hx; exact .inl hx
   ·rw [if_neg g] at h
    rcases List.mem_append.1 hx with hx | hx
    ·exact lastU_max n (by simpa using hn) hp.1 h x hx hxt
    ·simp at hx; subst hx; exact absurd hxt g
theorem lastU_none {t : Int} {pre : List Ref} (h : lastU pre t = none) : ∀ x ∈ pre, x.tr ≠ t := by
 unfold lastU at h
 rw [List.getLast?_eq_none_iff, List.filter_eq_nil_iff] at h
 intro x hx e
 exact h x hx (by simpa using e)
theorem idxU_lex {l : List Ref} (hl : l.Pairwise Lex) {a b : Ref} (ha : a ∈ l) (hb : b ∈ l) (ht : a.tr = b.tr) : idxU l a < idxU l b ↔ a.st < b.st := by
 obtain ⟨i, e1, h1⟩ := idxU_mem ha
 obtain ⟨j, e2, h2⟩ := idxU_mem hb
 have key : ∀ (i j : Nat) (a b : Ref), l[i]? = some a → l[j]? = some b → i < j → Lex a b := fun i j a b hi hj hij => by
  obtain ⟨g1, rfl⟩ := List.getElem?_eq_some_iff.1 hi
  obtain ⟨g2, rfl⟩ := List.getElem?_eq_some_iff.1 hj
  exact List.pairwise_iff_getElem.1 hl i j g1 g2 hij
 rw [e1, e2]
 constructor
 ·intro h
  rcases key i j a b h1 h2 (by omega) with h | h
  ·omega
  ·exact h.2
 ·intro h
  rcases Nat.lt_trichotomy i j with g | g | g
  ·omega
  ·subst g; rw [h1] at h2; injection h2 with h2; subst h2; omega
  ·rcases key j i b a h2 h1 g with h | h
   ·omega
   ·omega
theorem folBad_no {l pre : List Ref} (hl : l.Pairwise Lex) (hpre : ∀ u ∈ pre, u ∈ l) (hp : pre.Pairwise Before) {v : Ref} : folBad l pre v = false ↔ v ∈ l ∧ ∀ u ∈ pre, Before u v := by
 unfold folBad
 rw [Bool.or_eq_false_iff, decide_eq_false_iff_not, decide_eq_false_iff_not]
 constructor
 ·rintro ⟨h1, h2⟩
  have hv : v ∈ l := Classical.byContradiction fun e => h1 (by rw [idxU_no e]; omega)
  refine ⟨hv, fun u hu ht => ?_⟩
  unfold lastI at h2
  cases e : lastU pre v.tr with
  | none => exact absurd ht (lastU_none e u hu)
  | some x =>
   rw [e] at h2
   simp only at h2
   obtain ⟨hx, hxt⟩ := lastU_mem e
   have h3 := (idxU_lex hl (hpre x hx) hv hxt).1 (by omega)
   rcases lastU_max _ rfl hp e u hu ht with rfl | h4 <;> omega
 ·rintro ⟨hv, h⟩
  obtain ⟨i, e1, h1⟩ := idxU_mem hv
  refine ⟨by omega, ?_⟩
  unfold lastI
  cases e : lastU pre v.tr with
  | none => simp only; omega
  | some x =>
   simp only
   obtain ⟨hx, hxt⟩ := lastU_mem e
   have := (idxU_lex hl (hpre x hx) hv hxt).2 (h x hx hxt)
   omega
def redTo (ps : List (List Stage)) (r : Int) : List Ref → List Ref → List RArc
 | _, [] => []
 | pre, v :: rest => arcsTo ps r pre v ps.length ++ redTo ps r (pre ++ [v]) rest
def redO (ps : List (List Stage)) (r : Int) (o : List Ref) : List RArc := redTo ps r [] o
theorem folF_fits {ps : List (List Stage)} {at_ : List Int} {r : Int} {l : List Ref} (hl : l.Pairwise Lex) : ∀ (rest pre : List Ref) (D : List RArc), (∀ u ∈ pre, u ∈ l) → (∀ u ∈ rest, u ∈ l) → (pre ++ rest).Pairwise Before →
  folF ps at_ r l pre rest D = if okSeq ps at_ D (redTo ps r pre rest) = true then some (D ++ redTo ps r pre rest) else none
 | [], pre, D, _, _, _ => by simp [folF, redTo, okSeq]
 | v :: rest, pre, D, h1, h2, h3 => by
  have hp := (List.pairwise_append.1 h3).1
  have hb : folBad l pre v = false := (folBad_no hl h1 hp).2 ⟨h2 v (by simp), fun u hu => (List.pairwise_append.1 h3).2.2 u hu v (by simp)⟩
  have ih := folF_fits (ps := ps) (at_ := at_) (r := r) hl rest (pre ++ [v]) (D ++ arcsTo ps r pre v ps.length) (fun u hu => by rcases List.mem_append.1 hu with hu | hu; exact h1 u hu; simp at hu; subst hu; exact h2 u (by simp)) (fun u hu => h2 u (by simp [hu])) (by simpa using h3)
  rw [folF, if_neg (by rw [hb]; simp), ih, redTo, okSeq_app, List.append_assoc]
  cases okSeq ps at_ D (arcsTo ps r pre v ps.length) <;> simp
theorem folF_some {ps : List (List Stage)} {at_ : List Int} {r : Int} {l : List Ref} (hl : l.Pairwise Lex) : ∀ (rest pre : List Ref) (D D' : List RArc), (∀ u ∈ pre, u ∈ l) → pre.Pairwise Before → folF ps at_ r l pre rest D = some D' → (∀ u ∈ rest, u ∈ l) ∧ (pre ++ rest).Pairwise Before
 | [], pre, D, D', _, h2, _ => by simpa using h2
 | v :: rest, pre, D, D', h1, h2, h => by
  rw [folF] at h
  by_cases hb : folBad l pre v = true
  ·rw [if_pos hb] at h; cases h
  ·rw [if_neg hb] at h
   obtain ⟨g1, g2⟩ := (folBad_no hl h1 h2).1 (by simpa using hb)
   split at h
   ·have ih := folF_some hl rest (pre ++ [v]) _ D' (fun u hu => by rcases List.mem_append.1 hu with hu | hu; exact h1 u hu; simp at hu; subst hu; exact g1) (by rw [List.pairwise_append]; exact ⟨h2, by simp, fun a ha b hb => by simp at hb; subst hb; exact g2 a ha⟩) h
    refine ⟨fun u hu => ?_, by simpa using ih.2⟩
    rcases List.mem_cons.1 hu with rfl | hu
    ·exact g1
    ·exact ih.1 u hu
   ·cases h
theorem exactly_before {l want : List Ref} : exactlyB l want = true ↔ l.length = want.length ∧ (∀ u ∈ l, u ∈ want) ∧ l.Pairwise Before := by
 unfold exactlyB
 rw [Bool.and_eq_true, Bool.and_eq_true, decide_eq_true_eq, List.all_eq_true, decide_eq_true_eq, pairOk_before, and_assoc]
 simp
theorem folQ_eq {ps : List (List Stage)} {at_ : List Int} {r : Int} {l o : List Ref} (hl : l.Pairwise Lex) (D : List RArc) : folQ ps at_ r l o D = if exactlyB o l = true ∧ okSeq ps at_ D (redO ps r o) = true then some (D ++ redO ps r o) else none := by
 unfold folQ
 by_cases hlen : o.length = l.length
 ·rw [if_pos hlen]
  by_cases hx : exactlyB o l = true
  ·obtain ⟨_, h1, h2⟩ := exactly_before.1 hx
   rw [folF_fits hl o [] D (by simp) h1 (by simpa using h2)]
   simp only [hx, true_and]
   rfl
  ·rw [if_neg (fun h => hx h.1)]
   cases e : folF ps at_ r l [] o D with
   | none => rfl
   | some D' =>
    obtain ⟨h1, h2⟩ := folF_some hl o [] D D' (by simp) List.Pairwise.nil e
    exact absurd (exactly_before.2 ⟨hlen, h1, by simpa using h2⟩) hx
 ·rw [if_neg hlen, if_neg]
  rintro ⟨h, _⟩
  exact hlen (exactly_before.1 h).1

def verTo (ps : List (List Stage)) (at_ : List Int) (os : List Order) : Nat → Option (List RArc)
 | 0 => some []
 | n + 1 => match verTo ps at_ os n with
  | none => none
  | some D => match os.find? (fun o => decide (o.res = (n : Int))) with
   | none => if openA ps at_ (n : Int) = [] then some D else none
   | some o => if openA ps at_ (n : Int) = [] then none else folQ ps at_ (n : Int) (openA ps at_ (n : Int)) o.uses D
def resOk (os : List Order) : Bool := decide (os.Pairwise fun a b => a.res < b.res) && os.all (fun o => decide (0 ≤ o.res) && decide (o.res < 144))
def verP (p : Pb) (x : Soln) : Bool := checkP p && (match verTo p.ps p.at_ x.os 144 with
 | none => false
 | some D => resOk x.os && decide (x.en = tabOf p.ps (secD p D)) && decide (x.cost = costE p x.en))

section
variable {ps : List (List Stage)} {at_ : List Int} {os : List Order}
theorem openA_lex (ps : List (List Stage)) (at_ : List Int) (r : Int) : (openA ps at_ r).Pairwise Lex := (allU_lex ps r).sublist List.filter_sublist
theorem resOk_iff : resOk os = true ↔ (os.Pairwise fun a b => a.res < b.res) ∧ ∀ o ∈ os, 0 ≤ o.res ∧ o.res < 144 := by
 unfold resOk
 rw [Bool.and_eq_true, decide_eq_true_eq, List.all_eq_true]
 simp
end

def boundP (p : Pb) : Int × Int := if checkP p = false then (0, 1) else (costD p [], 0)
set_option maxRecDepth 100000 in
set_option maxHeartbeats 1000000 in
theorem DspBound_any (p : Pb) (v : PV) (w : World) (h : RPb w (Old w) v p) :
  Calls Try.prog 28 #[.agg (v.cs p)] w fun e w' => e = .returned (.tuple #[.int .i64 (boundP p).1, .int .i64 (boundP p).2]) ∧ KeepsAll w w' := by
 have HCK : Hid (∀ W, KeepsAll w W → Calls Try.prog 37 #[.agg #[.slice v.A p.ps.length v.c, .slice v.A2 p.at_.length v.c2, .slice v.A3 p.due.length v.c3, .slice v.A4 p.wgt.length v.c4, .int .i64 p.now]] W fun e w' => e = .returned (.bool (checkP p)) ∧ KeepsAll W w') := fun W hW => DspCheck_any p v W (h.kept hW)
 have HNG : Hid (checkP p = true → ∀ W, KeepsAll w W → Calls Try.prog 38 #[.agg #[.slice v.A p.ps.length v.c, .slice v.A2 p.at_.length v.c2, .slice v.A3 p.due.length v.c3, .slice v.A4 p.wgt.length v.c4, .int .i64 p.now]] W fun e w' => ∃ s d, e = .returned (.pointer (some ⟨s.gb, 0, none⟩)) ∧ NgOk W v p s d w') := fun hc W hW =>
  (newG_any p v W (h.kept hW) hc).mono fun e w' he => NewG.ok hc he
 clear h
 unfold PV.cs
 generalize hPP : (fun (e : Ending) w' => e = .returned (.tuple #[.int .i64 (boundP p).1, .int .i64 (boundP p).2]) ∧ KeepsAll w w') = PP
 have HPP := Lib.hid hPP
 clear hPP
 go_enter Try.func28, Try.ntmps28
 go_wp2_with fail
 refine (HCK.out _ ((Keeps.refl _ _).alloc _)).mono ?_
 rintro e w1 ⟨rfl, k1⟩
 have BP : Hid (Blk w1 w.heap.size 25 #[.slice v.A p.ps.length v.c, .slice v.A2 p.at_.length v.c2, .slice v.A3 p.due.length v.c3, .slice v.A4 p.wgt.length v.c4, .int .i64 p.now]) := (Blk.new _ _ _).kept k1 (by simp)
 have K1 : Hid (KeepsAll w w1) := ((Keeps.refl _ _).alloc _).tr k1
 clear k1
 have p0 := BP.out.cell 0
 have p1 := BP.out.cell 1
 have p2 := BP.out.cell 2
 have p3 := BP.out.cell 3
 have p4 := BP.out.cell 4
 simp at p0 p1 p2 p3 p4
 cases hc : checkP p with
 | false =>
  have Q : Hid (PP (.returned (.tuple #[.int .i64 0, .int .i64 1])) w1) := by show PP _ _; rw [← HPP.out]; exact ⟨by unfold boundP; rw [if_pos hc], K1.out⟩
  clear hc HCK HNG HPP
  go_wp2
  exact Q.out
 | true =>
  have HC := Lib.hid hc
  have HN := Lib.hid (HNG.out HC.out w1 K1.out)
  clear hc HNG HCK
  go_wp2_with fail
  refine HN.out.mono ?_
  rintro e w2 ⟨s, d, rfl, hng⟩
  have HCO : Hid (Calls Try.prog 63 #[.pointer (some ⟨s.gb, 0, none⟩)] w2 fun e w' => e = .returned (.int .i64 (costD p [])) ∧ KeepsAll w2 w') := by
   have := gcost_any s w1 w2 d v p.due p.wgt hng.sp (by rw [hng.pb]; exact checkP_ok HC.out) hng.g (fun u => by have := (hng.gp.bd hng.so u).2; omega)
   rw [hng.gp.T_eq hng.so] at this
   have e : costT (s.pb p.due p.wgt) (secT (labD s.ps s.at_ s.now [])) s.ps.length = costD (s.pb p.due p.wgt) [] := rfl
   rw [e, hng.pb] at this
   exact this
  have K2 : Hid (KeepsAll w w2) := K1.out.tr hng.g.k
  clear hng HN p0 p1 p2 p3 p4 BP
  go_wp2_with fail
  refine HCO.out.mono ?_
  rintro e w3 ⟨rfl, k3⟩
  have Q : Hid (PP (.returned (.tuple #[.int .i64 (costD p []), .int .i64 0])) w3) := by show PP _ _; rw [← HPP.out]; exact ⟨by unfold boundP; rw [if_neg (by rw [HC.out]; simp)], K2.out.tr k3⟩
  clear k3 HCO HC HPP
  go_wp2
  exact Q.out

def ex37 : Pb := ⟨[[⟨1, [], 10, 0⟩], [⟨1, [], 10, 0⟩]], [-1, -1], [10, 10], [1, 3], 0⟩
theorem ex37_os : (solveP 50 ex37).1.os = [⟨1, [⟨1, 0⟩, ⟨0, 0⟩]⟩] := by decide +kernel
theorem ex37_cost : (solveP 50 ex37).1.cost = 10 := by decide +kernel
theorem ex37_err : (solveP 50 ex37).2 = (2, 0) := by decide +kernel
theorem ex37_bound : boundP ex37 = (0, 0) := by decide +kernel
theorem ex37_ver : verP ex37 (solveP 50 ex37).1 = true := by decide +kernel
theorem ex37_one : (solveP 1 ex37).2 = (0, 15) := by decide +kernel
theorem ex37_zero : (solveP 0 ex37).2 = (0, 4) := by decide +kernel
theorem ex37_max : (solveP 1048577 ex37).2 = (0, 4) := by decide +kernel

set_option maxRecDepth 100000 in
set_option maxHeartbeats 1000000 in
theorem follow1_any (v : Ref) (cb : Nat) (x : Use) (w : World) (hb : Blk w cb 46 #[.int .i64 v.tr, .int .i64 v.st]) :
  Calls Try.prog 75 #[.agg #[.int .i64 x.u.tr, .int .i64 x.u.st, .int .i64 x.en, .int .i64 x.rl], .pointer (some ⟨cb, 0, none⟩)] w fun e w' => e = .returned (.bool (decide (x.u = v))) ∧ KeepsAll w w' := by
 obtain ⟨u, en, rl⟩ := x
 have c0 := hb.cell 0
 have c1 := hb.cell 1
 simp at c0 c1
 have hcz := hb.lt
 clear hb
 have Q1 : Hid (u = v → decide (u = v) = true) := fun e => decide_eq_true e
 have Q2 : Hid (u ≠ v → decide (u = v) = false) := fun e => decide_eq_false e
 simp only
 generalize decide (u = v) = res at *
 by_cases he : u = v
 ·have Q := Lib.hid (Q1.out he)
  subst he
  clear Q1 Q2
  go_enter Try.func75, Try.ntmps75
  go_wp2
  go_ret
  exact ⟨by rw [Q.out]; rfl, (Keeps.refl _ _).alloc _⟩
 ·have Q := Lib.hid (Q2.out he)
  clear Q1 Q2
  by_cases ht : u.tr = v.tr
  ·have hs : ¬ u.st = v.st := fun hs => he (by cases u; cases v; simp_all)
   rw [← ht] at c0
   clear ht he
   go_enter Try.func75, Try.ntmps75
   go_wp2
   go_ret
   exact ⟨by rw [Q.out]; rfl, (Keeps.refl _ _).alloc _⟩
  ·clear he
   go_enter Try.func75, Try.ntmps75
   go_wp2
   go_ret
   exact ⟨by rw [Q.out]; rfl, (Keeps.refl _ _).alloc _⟩
theorem enters_follow1 : Enters 75 := fun _ _ => by kernel_rfl
def TestsUse (F cb : Nat) (w : World) (l : List Use) (pr : Use → Bool) : Prop := ∀ a ∈ l, ∀ W, KeepsAll w W → Calls Try.prog F #[.agg #[.int .i64 a.u.tr, .int .i64 a.u.st, .int .i64 a.en, .int .i64 a.rl], .pointer (some ⟨cb, 0, none⟩)] W fun e w' => e = .returned (.bool (pr a)) ∧ KeepsAll W w'
theorem RUses.atK {w wr : World} {A : Option Addr} {n c : Nat} {l : List Use} (K : KeepsAll w wr) (h : RUses w (Old w) [.slice A n c] l) {k : Nat} (hk : k < l.length) :
  ∃ b o x, A = some ⟨b, o, none⟩ ∧ b < wr.heap.size ∧ l[k]? = some x ∧ wr.cell? ⟨b, o + k * 4, none⟩ = some (.int .i64 x.u.tr) ∧ wr.cell? ⟨b, o + k * 4 + 1, none⟩ = some (.int .i64 x.u.st) ∧ wr.cell? ⟨b, o + k * 4 + 2, none⟩ = some (.int .i64 x.en) ∧ wr.cell? ⟨b, o + k * 4 + 3, none⟩ = some (.int .i64 x.rl) := by
 have h' : RUses wr (Old wr) [.slice A n c] l := K.rdo' RUses.ok h
 obtain ⟨b, o, x, h1, h2, h3⟩ := h'.at_ hk
 exact ⟨b, o, x, h1, h2, h3⟩
set_option maxRecDepth 100000 in
set_option maxHeartbeats 1000000 in
theorem IndexUse_any (F cb : Nat) (l : List Use) (pr : Use → Bool) (A : Option Addr) (c : Nat) (w : World) (h : RUses w (Old w) [.slice A l.length c] l) (hE : Enters F) (hF : TestsUse F cb w l pr) :
  Calls Try.prog 74 #[.slice A l.length c, .func (.func F) #[] #[.pointer (some ⟨cb, 0, none⟩)]] w fun e w' => e = .returned (.int .i64 (idxF pr l)) ∧ KeepsAll w w' := by
 have hc := h.caps
 have H := Lib.hid h; clear h
 have HF := Lib.hid hF; clear hF
 have hcf : ∀ (args : Array Value) (w : World), (callFunc F args).run Try.prog w = .ok (.enter F args) w := hE
 clear hE
 go_enter Try.func74, Try.ntmps74
 go_wp2
 go_loopw [8] (fun i wr => ∃ k : Nat, k ≤ l.length ∧ i = .int .i64 k ∧ (∀ y ∈ l.take k, pr y = false) ∧ KeepsAll w wr) (fun i _ => l.length - (intOf i).toNat)
 case atStart => exact ⟨0, Nat.zero_le _, rfl, by simp, Keeps.refl _ _⟩
 case round =>
  obtain ⟨k, hk, rfl, hno, hkr⟩ := hrel
  have HNO := Lib.hid hno; clear hno
  have KR := Lib.hid hkr; clear hkr
  by_cases hlt : k < l.length
  ·obtain ⟨b, o, a, rfl, hb, ha, m0, m1, m2, m3⟩ := RUses.atK KR.out H.out hlt
   have HC := Lib.hid (HF.out a (List.mem_of_getElem? ha) wr KR.out)
   have HAA := Lib.hid ha; clear ha
   go_wp2_with fail
   refine HC.out.mono ?_
   rintro e w2 ⟨rfl, hk2⟩
   have K2 := Lib.hid (KR.out.tr hk2); clear hk2
   by_cases g : pr a = true
   ·have Q := Lib.hid (idxF_stop HAA.out g HNO.out)
    rw [g]; clear g
    go_wp2
    go_ret
    exact ⟨by rw [Q.out]; rfl, K2.out⟩
   ·have g' : pr a = false := by simpa using g
    have Q : Hid (∀ y ∈ l.take (k + 1), pr y = false) := fun y hy => by
     rw [List.take_add_one, HAA.out] at hy; simp at hy
     rcases hy with hy | rfl
     ·exact HNO.out y hy
     ·exact g'
    rw [g']; clear g g'
    go_wp2
    go_roundw
    case rel => exact ⟨k + 1, by omega, by go_num, Q.out, K2.out⟩
    case measure => simp [intOf]; omega
  ·obtain rfl : k = l.length := by omega
   have Q : Hid (idxF pr l = -1) := by
    have := HNO.out; rw [List.take_length] at this
    exact idxF_none this
   go_wp2
   go_ret
   exact ⟨by rw [Q.out]; rfl, KR.out⟩
theorem idxF_uses (ps : List (List Stage)) (r : Int) (l : List Ref) (v : Ref) : idxF (fun y : Use => decide (y.u = v)) (l.map (useOf ps r)) = idxU l v := by
 unfold idxU idxF
 rw [List.findIdx?_map]
 rfl
theorem follow_idx (ps : List (List Stage)) (r : Int) (l : List Ref) (v : Ref) (cb : Nat) (A : Option Addr) (c : Nat) (w : World) (h : RUses w (Old w) [.slice A l.length c] (l.map (useOf ps r))) (hb : Blk w cb 46 #[.int .i64 v.tr, .int .i64 v.st]) :
  Calls Try.prog 74 #[.slice A l.length c, .func (.func 75) #[] #[.pointer (some ⟨cb, 0, none⟩)]] w fun e w' => e = .returned (.int .i64 (idxU l v)) ∧ KeepsAll w w' := by
 have h1 : RUses w (Old w) [.slice A (l.map (useOf ps r)).length c] (l.map (useOf ps r)) := by rw [List.length_map]; exact h
 have := IndexUse_any 75 cb (l.map (useOf ps r)) (fun y => decide (y.u = v)) A c w h1 enters_follow1 (fun a _ W hW => follow1_any v cb a W (hb.kept hW (by simp)))
 rw [List.length_map, idxF_uses] at this
 exact this

structure FoG (s : GS) (w0 w : World) (d : GD) (lb : Nat) (ls : List Int) (D : List RArc) (B : Nat) (wr : World) (d' : GD) : Prop where
 g : Gm s w0 wr d'
 gp : GP s D d'
 fr : Frm s lb w d wr d'
 b : Blk wr lb 3 (cellsI ls)
 ln : ¬ GOwn s d' lb
 dl : D.length ≤ B
section
variable {s : GS} {w0 w wr w' : World} {d d' : GD} {lb : Nat} {ls : List Int} {D : List RArc} {B : Nat}
theorem FoG.keep (h : FoG s w0 w d lb ls D B wr d') (k : KeepsAll wr w') : FoG s w0 w d lb ls D B w' d' :=
 ⟨h.g.keep k, h.gp, h.fr.trans (Frm.keep k), h.b.kept k (by simp), h.ln, h.dl⟩
theorem FoG.set_ (h : FoG s w0 w d lb ls D B wr d') (hZ : ∀ b, ¬ s.Z b) (hs : s.bs ≤ lb) (t : Nat) (x : Int) : FoG s w0 w d lb (ls.set t x) D B (wr.setCell ⟨lb, t, none⟩ (.int .i64 x)) d' := by
 have k : Keeps (fun b => b = lb) wr (wr.setCell ⟨lb, t, none⟩ (.int .i64 x)) := (Keeps.refl (fun b => b = lb) wr).setCell (p := ⟨lb, t, none⟩) (fun _ => rfl) _
 exact ⟨h.g.keepZ k h.ln hs hZ, h.gp, h.fr.trans (Frm.own k), by rw [← cellsI_set]; exact h.b.set_ t _, h.ln, h.dl⟩
theorem FoG.choose (h : FoG s w0 w d lb ls D B wr d') (hZ : ∀ b, ¬ s.Z b) {a : RArc} (hc : ChPost (s.fr wr d') w0 D a d' w') (hok : okD s.ps s.at_ (D ++ [a]) = true) : ∃ d2, FoG s w0 w d lb ls (D ++ [a]) (B + 1) w' d2 ∧ ∀ z t c, Blk wr z t c → ¬ GOwn s d' z → Blk w' z t c ∧ ¬ GOwn s d2 z := by
 obtain ⟨d2, hg, hy, _⟩ := hc
 have m : Frm s (wr.heap.size + 1) wr d' w' d2 := Frm.move hg
 have hb := m.blk h.b h.ln (by have := h.b.lt; omega)
 refine ⟨d2, ⟨hg.unfr hZ h.g.zs, (hy hok).1.unfr, h.fr.trans (Frm.move hg), hb.1, hb.2, by rw [List.length_append]; have := h.dl; simp; omega⟩, fun z t c hz hn => m.blk hz hn (by have := hz.lt; omega)⟩
theorem FoG.refuse (h : FoG s w0 w d lb ls D B wr d') (hZ : ∀ b, ¬ s.Z b) {a : RArc} (hc : ChPost (s.fr wr d') w0 D a d' w') : ∃ d2, Gm s w0 w' d2 ∧ Frm s lb w d w' d2 := by
 obtain ⟨d2, hg, _, _⟩ := hc
 exact ⟨d2, hg.unfr hZ h.g.zs, h.fr.trans (Frm.move hg)⟩
theorem FoG.rd (h : FoG s w0 w d lb ls D B wr d') {α : Type} {E : Rd α} (hE : Rd.Ok E) {cs : List Value} {x : α} (hr : E w (SFt s w d lb) cs x) : E wr (Old wr) cs x :=
 hE.mono hr (fun b hb => by have h1 := h.fr.sz; exact Nat.lt_of_lt_of_le hb.1 h1) (fun b hb => (h.fr.bl b hb).1)
end
def FoPost (s : GS) (w0 w : World) (d : GD) (D' : Option (List RArc)) (e : Ending) (w' : World) : Prop :=
 ∃ lb d', w.heap.size ≤ lb ∧ Gm s w0 w' d' ∧ Frm s lb w d w' d' ∧ match D' with
  | none => e = .returned (.bool false)
  | some D' => e = .returned (.bool true) ∧ GP s D' d'
theorem FoG.yes {s : GS} {w0 w wr w' : World} {d d' : GD} {lb : Nat} {ls : List Int} {D : List RArc} {B : Nat} (h : FoG s w0 w d lb ls D B wr d') (hl : w.heap.size ≤ lb) (k : KeepsAll wr w') : FoPost s w0 w d (some D) (.returned (.bool true)) w' :=
 ⟨lb, d', hl, (h.keep k).g, (h.keep k).fr, rfl, h.gp⟩
theorem FoG.no {s : GS} {w0 w wr w' : World} {d d' : GD} {lb : Nat} {ls : List Int} {D : List RArc} {B : Nat} (h : FoG s w0 w d lb ls D B wr d') (hl : w.heap.size ≤ lb) (k : KeepsAll wr w') : FoPost s w0 w d none (.returned (.bool false)) w' :=
 ⟨lb, d', hl, (h.keep k).g, (h.keep k).fr, rfl⟩

end Go.Proofs.Ytilbbpbjhoidhaa
