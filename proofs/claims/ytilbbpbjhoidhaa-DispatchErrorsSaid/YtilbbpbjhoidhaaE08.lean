/- Contracts of the graph's refs and complete, and of precedence.Line. Conditions: as each theorem says. Contracts of the graph's complete and of precedence.Line. Conditions: as each theorem says. Contract of keep.Same at references. Conditions: as the theorem says. The orders that the reference sorts, as plain lists, and that they are valid. No program in sight. Contract of the reference's Sort. Conditions: as the theorem says. Contract of the maker of entries: what it returns fits the paths and ascends. Conditions: as the theorem says. Contract of the maker of paths: what it returns is valid and small. Conditions: as the theorem says. What the maker of paths makes is valid. No program in sight. Contracts of the reference's Over and Left. Conditions: as each theorem says. Trains that enter the stages in the order of a line use each resource in its order. No program in sight. The reference's arcs and its order of events as plain lists, and that they agree with the program's. No program in sight. The reference's order of events agrees with the program's. No program in sight. -/
import Derived.Test.YtilbbpbjhoidhaaE07
import Derived.Test.YtilbbpbjhoidhaaE04
import Derived.Test.YtilbbpbjhoidhaaE06
import Derived.Test.YtilbbpbjhoidhaaE05
import Derived.Deep.AppendLies
namespace Go.Proofs.Ytilbbpbjhoidhaa
open Go.RowKit

def cellsR (l : List Ref) : Array Value := ((l.map fun u => [Value.int .i64 u.tr, Value.int .i64 u.st]).flatten).toArray
theorem cellsR_at {l : List Ref} {i : Nat} {u : Ref} (h : l[i]? = some u) : (cellsR l)[i * 2]? = some (.int .i64 u.tr) ∧ (cellsR l)[i * 2 + 1]? = some (.int .i64 u.st) := by
 have hsz : ∀ es ∈ l.map (fun u => [Value.int .i64 u.tr, Value.int .i64 u.st]), es.length = 2 := by
  intro es hes; obtain ⟨x, _, rfl⟩ := List.mem_map.1 hes; rfl
 have he : (l.map (fun u => [Value.int .i64 u.tr, Value.int .i64 u.st]))[i]? = some [Value.int .i64 u.tr, Value.int .i64 u.st] := by simp [h]
 have h0 := flatten_at hsz he (i := 0) (by omega)
 have h1 := flatten_at hsz he (i := 1) (by omega)
 exact ⟨by simpa [cellsR] using h0, by simpa [cellsR] using h1⟩
theorem cellsR_set (l : List Ref) : ∀ (i : Nat) (u : Ref), ((cellsR l).setIfInBounds (i * 2) (.int .i64 u.tr)).setIfInBounds (i * 2 + 1) (.int .i64 u.st) = cellsR (l.set i u) := by
 have key : ∀ (l : List Ref) (i : Nat) (u : Ref), ((((l.map fun u => [Value.int .i64 u.tr, Value.int .i64 u.st]).flatten).set (i * 2) (.int .i64 u.tr)).set (i * 2 + 1) (.int .i64 u.st)) = (((l.set i u).map fun u => [Value.int .i64 u.tr, Value.int .i64 u.st]).flatten) := by
  intro l
  induction l with
  | nil => intro i u; simp
  | cons a l ih =>
   intro i u
   cases i with
   | zero => simp
   | succ i =>
    have := ih i u
    rw [show (i + 1) * 2 = i * 2 + 2 from by omega]
    simp only [List.map_cons, List.flatten_cons, List.cons_append, List.nil_append, List.set_cons_succ]
    rw [this]
 intro i u
 unfold cellsR
 simp only [List.setIfInBounds_toArray]
 rw [key]
theorem cellsR_rep (n : Nat) : cellsR (List.replicate n ⟨0, 0⟩) = (List.replicate (n * 2) (Value.int .i64 0)).toArray := by
 unfold cellsR
 congr 1
 induction n with
 | zero => rfl
 | succ n ih => rw [List.replicate_succ, List.map_cons, List.flatten_cons, ih, show (n + 1) * 2 = n * 2 + 1 + 1 from by omega, List.replicate_succ, List.replicate_succ]; rfl
theorem Blk.refs {w : World} {S : Foot} {b : Nat} {t : TypeId} {l : List Ref} (hb : Blk w b t (cellsR l)) (hS : S b) (hl : l.length ≤ 9223372036854775807) : RRefs w S [.slice (some ⟨b, 0, none⟩) l.length l.length] l := by
 refine RSlice.ofBlk hb hS (l.map fun u => [.int .i64 u.tr, .int .i64 u.st]) l rfl ?_ hl
 clear hb hl hS
 induction l with
 | nil => trivial
 | cons a l ih => exact ⟨⟨rfl, rfl⟩, ih⟩
theorem madeCells_two (z : Value) (n : Nat) : madeCells #[z, z] n = (List.replicate n z).toArray := by
 apply Array.ext
 ·simp [madeCells]
 ·intro i h1 h2
  have : i % 2 = 0 ∨ i % 2 = 1 := by omega
  rcases this with h | h <;> simp [madeCells, h]
theorem mkRefs (n : Nat) (hn : n ≤ 1000000) (W : World) : (Instr.makeSlice 42 (.int .i64 (n : Int)) (.int .i64 (n : Int))).run Try.prog W = .ok (.slice (some ⟨W.heap.size, 0, none⟩) n n) (W.alloc (.cells (cellsR (List.replicate n ⟨0, 0⟩)) 46)) := by
 obtain ⟨i, z, h1, h2, h3, h4, h5⟩ := tyRef.info
 have hz : z = .agg #[.int .i64 0, .int .i64 0] := by
  have hk : (Try.prog.info? 46).map (fun i => i.zero) = some (some (.agg #[.int .i64 0, .int .i64 0])) := by kernel_rfl
  rw [h1] at hk
  simp only [Option.map_some, Option.some.injEq] at hk
  rw [h2] at hk; injection hk
 subst hz
 have h := run_make (P := Try.prog) W 42 46 i _ Try.underlying42 h1 h2 .i64 .i64 (n : Int) (n : Int) (by omega) (by omega) (by rw [h4]; omega) (by omega)
 rw [Int.toNat_natCast, h3] at h
 rw [h, cellsR_rep]
 have : (Value.agg #[.int .i64 0, .int .i64 0]).cells = #[.int .i64 0, .int .i64 0] := rfl
 rw [this, madeCells_two]

theorem lineFrom_refs {ps : List (List Stage)} {go : List Int → Option Nat} (hs : Sound ps go) : ∀ (f : Nat) (now : List Int), Gd ps now → ∀ u ∈ (lineFrom go f now).1, ∃ (t k : Nat) (p : List Stage), ps[t]? = some p ∧ k ≤ p.length ∧ u = ⟨(t : Int), (k : Int)⟩
 | 0, _, _, u, hu => by simp [lineFrom] at hu
 | f + 1, now, h, u, hu => by
  simp only [lineFrom] at hu
  cases e : go now with
  | none => rw [e] at hu; simp at hu
  | some t =>
   rw [e] at hu
   obtain ⟨h1, h2⟩ := hs now t e
   simp only [List.mem_cons] at hu
   rcases hu with rfl | hu
   ·have hp : ps[t]? = some ps[t] := List.getElem?_eq_getElem h1
    have hg := h.2 t h1
    rw [lenAt_of hp] at h2
    obtain ⟨k, hk⟩ := Int.eq_ofNat_of_zero_le (by omega : 0 ≤ nowAt now t + 1)
    exact ⟨t, k, ps[t], hp, by omega, by rw [hk]⟩
   ·exact lineFrom_refs hs f _ (h.step h1 h2) u hu
theorem evAt_num {ps : List (List Stage)} {t k : Nat} {p : List Stage} (hp : ps[t]? = some p) (hk : k ≤ p.length) : evAt ps (numI ps ⟨(t : Int), (k : Int)⟩).toNat = ⟨(t : Int), (k : Int)⟩ ∧ num ps ⟨(t : Int), (k : Int)⟩ < (evs ps).length := by
 have e : num ps ⟨(t : Int), (k : Int)⟩ = fst ps t + k := by simp [num]
 refine ⟨?_, ?_⟩
 ·unfold numI evAt
  rw [e, Int.toNat_natCast, evs_at hp hk]; rfl
 ·have := fst_lt hp (getElem?_lt hp) (Nat.le_refl _)
  rw [fst_len] at this; omega

set_option maxHeartbeats 400000 in
theorem SameRef_any (x y : List Ref) (A A2 : Option Addr) (c c2 : Nat) (w : World) (S S2 : Foot) (h : RRefs w S [.slice A x.length c] x) (h2 : RRefs w S2 [.slice A2 y.length c2] y) :
  Calls Try.prog 46 #[.slice A x.length c, .slice A2 y.length c2] w fun e w' => e = .returned (.bool (decide (x = y))) ∧ ∃ n, w' = w.drewN n := by
 have hc := h.caps
 have hc2 := h2.caps
 have H := Lib.hid h; clear h
 have H2 := Lib.hid h2; clear h2
 by_cases g1 : x.length = y.length
 ·have g1' : ((x.length : Int) != (y.length : Int)) = false := by simp; omega
  have G1 := Lib.hid g1; clear g1
  have l1 : x.length ≤ y.length := by rw [G1.out]; exact Nat.le_refl _
  have l2 : y.length ≤ x.length := by rw [G1.out]; exact Nat.le_refl _
  go_enter Try.func46, Try.ntmps46
  go_wp2
  go_loopw [13] (fun i wr => ∃ k : Nat, k ≤ x.length ∧ i = .int .i64 k ∧ x.take k = y.take k ∧ ∃ n, wr = w.drewN n) (fun i _ => x.length - (intOf i).toNat)
  case atStart => exact ⟨0, Nat.zero_le _, rfl, rfl, 0, rfl⟩
  case round =>
   obtain ⟨k, hk, rfl, hinv, n, rfl⟩ := hrel
   have HI := Lib.hid hinv; clear hinv
   by_cases hlt : k < x.length
   ·obtain ⟨b, o, u, rfl, _, hu, k1, k1'⟩ := RRefs.at_ H.out hlt
    obtain ⟨b2, o2, v, rfl, _, hv, k2, k2'⟩ := RRefs.at_ H2.out (k := k) (by omega)
    by_cases g2 : u = v
    ·have Q : Hid (x.take (k + 1) = y.take (k + 1)) := by
      show x.take (k + 1) = y.take (k + 1)
      rw [List.take_add_one, List.take_add_one, HI.out, hu, hv, g2]
     subst g2
     clear hu hv
     go_wp2
     go_quiet (fail)
     go_wp2
     go_roundw
     case rel => exact ⟨k + 1, by omega, by go_num, Q.out, _, rfl⟩
     case measure => simp [intOf]; omega
    ·have Q : Hid (decide (x = y) = false) := by
      show decide (x = y) = false
      simp only [decide_eq_false_iff_not]; rintro rfl
      exact g2 (same_of hu hv)
     have g3 : ¬ (u.tr = v.tr ∧ u.st = v.st) := fun h => g2 (by cases u; cases v; simp_all)
     clear hu hv g2
     by_cases g4 : u.tr = v.tr
     ·have g5 : ¬ (u.st = v.st) := fun h => g3 ⟨g4, h⟩
      clear g3
      go_wp2
      go_quiet (fail)
      go_wp2
      go_ret
      exact ⟨by rw [Q.out]; rfl, _, drewNN _ _ _⟩
     ·clear g3
      go_wp2
      go_quiet (fail)
      go_wp2
      go_ret
      exact ⟨by rw [Q.out]; rfl, _, drewNN _ _ _⟩
   ·have Q : Hid (decide (x = y) = true) := by
     show decide (x = y) = true
     have := HI.out
     rw [List.take_of_length_le (by omega), List.take_of_length_le (by omega)] at this
     simpa using this
    go_wp2
    go_ret
    exact ⟨by rw [Q.out]; rfl, _, rfl⟩
 ·have g1' : ((x.length : Int) != (y.length : Int)) = true := by simp; omega
  have Q : Hid (decide (x = y) = false) := by
   show decide (x = y) = false
   simp only [decide_eq_false_iff_not]; rintro rfl; exact g1 rfl
  go_enter Try.func46, Try.ntmps46
  go_wp2
  go_ret
  exact ⟨by rw [Q.out]; rfl, 0, rfl⟩

def Lex (v u : Ref) : Prop := v.tr < u.tr ∨ v.tr = u.tr ∧ v.st < u.st
theorem pathAll_lex (r : Int) (t : Nat) (p : List Stage) : (pathAll r t p).Pairwise Lex := by
 have : ∀ n, n ≤ p.length → (pathAll r t (p.take n)).Pairwise Lex := by
  intro n
  induction n with
  | zero => intro _; simp [pathAll]
  | succ n ih =>
   intro hn
   rw [pathAll_succ r t (List.getElem?_eq_getElem (by omega) : p[n]? = some p[n]), List.pairwise_append]
   refine ⟨ih (by omega), by split <;> simp, fun a ha b hb => ?_⟩
   split at hb
   ·simp at hb; subst hb
    obtain ⟨k, s, hk, _, rfl⟩ := mem_pathAll.1 ha
    have := getElem?_lt hk
    rw [List.length_take] at this
    exact .inr ⟨rfl, by show (k : Int) < (n : Int); omega⟩
   ·simp at hb
 have h := this p.length (Nat.le_refl _)
 rwa [List.take_length] at h
theorem allU_lex (ps : List (List Stage)) (r : Int) : (allU ps r).Pairwise Lex := by
 have : ∀ n, n ≤ ps.length → (allU (ps.take n) r).Pairwise Lex := by
  intro n
  induction n with
  | zero => intro _; simp [allU]
  | succ n ih =>
   intro hn
   rw [allU_succ r (List.getElem?_eq_getElem (by omega) : ps[n]? = some ps[n]), List.pairwise_append]
   refine ⟨ih (by omega), pathAll_lex r n _, fun a ha b hb => ?_⟩
   obtain ⟨t, k, p, s, ht, _, _, rfl⟩ := mem_allU.1 ha
   obtain ⟨k', s', _, _, rfl⟩ := mem_pathAll.1 hb
   have := getElem?_lt ht
   rw [List.length_take] at this
   exact .inl (by show (t : Int) < (n : Int); omega)
 have h := this ps.length (Nat.le_refl _)
 rwa [List.take_length] at h

theorem tyOrder : ElemTy Try.prog 28 44 2 32 := .mk' Try.underlying28 (z := .agg #[.int .i64 0, .slice none 0 0]) (by kernel_rfl) rfl (by omega)
theorem RSlice.head {α : Type} {size : Nat} {E : Rd α} {w : World} {S : Foot} {A : Option Addr} {n c : Nat} {l : List α} (h : RSlice size E w S [.slice A n c] l) {k : Nat} (hk : k ≤ l.length) : RSlice size E w S [.slice A k c] (l.take k) := by
 obtain ⟨A', c', he, h1, h2, h3⟩ := h
 injection he with he _; injection he with ha hn hc; subst ha hc
 have hlt : (l.take k).length = k := by rw [List.length_take]; omega
 refine ⟨A, c, by rw [hlt], by omega, h2, fun hne => ?_⟩
 obtain ⟨b, o, hA, hb, hj⟩ := h3 (by rintro rfl; simp at hne)
 refine ⟨b, o, hA, hb, fun j x hx => ?_⟩
 have hjk : j < k := by have := getElem?_lt hx; omega
 rw [List.getElem?_take_of_lt hjk] at hx
 exact hj j x hx
theorem RSlice.none_ {α : Type} {size : Nat} {E : Rd α} {w : World} {S : Foot} {A : Option Addr} {c : Nat} (hc : c ≤ 9223372036854775807) : RSlice size E w S [.slice A 0 c] ([] : List α) := ⟨A, c, rfl, Nat.zero_le _, hc, fun h => absurd rfl h⟩

theorem OwnL.base_mono {α : Type} {t size : Nat} {E : Rd α} {w : World} {base base' lo : Nat} {v : Value} {l : List α} (h : OwnL t size E w base lo v l) (hb : base' ≤ base) : OwnL t size E w base' lo v l := by
 obtain ⟨ess, h1, h2, h3⟩ := h
 refine ⟨ess, h1, ⟨h2.1, ?_⟩, h3⟩
 rcases h2.2 with hn | ⟨g, cap, cur, e, hb', rest⟩
 ·exact .inl hn
 ·exact .inr ⟨g, cap, cur, e, Nat.le_trans hb hb', rest⟩

def RIntsU : Rd (List Int) := fun w S cs l => RInts w S cs l ∧ (l ≠ [] → ∀ b o n c, cs = [.slice (some ⟨b, o, none⟩) n c] → ∀ k, w.frozen? ⟨b, k, none⟩ = false)
abbrev RIntssU := RSlice 1 RIntsU
theorem RIntsU.ok : Rd.Ok RIntsU := by
 refine ⟨?_⟩
 intro w w' S S' cs l h hS hw
 refine ⟨RInts.ok.mono h.1 hS hw, fun hn b o n c hc k => ?_⟩
 obtain ⟨A, c', hc', _, _, h3⟩ := h.1
 obtain ⟨b', o', hA, hb, _⟩ := h3 hn
 subst hA
 rw [hc] at hc'
 injection hc' with hc' _
 injection hc' with hc' _ _
 injection hc' with hc'
 injection hc' with hc' _
 subst hc'
 have := h.2 hn b o n c hc k
 unfold World.frozen? at this ⊢
 rw [hw b hb]; exact this
theorem RIntssU.ok : Rd.Ok RIntssU := RSlice.ok RIntsU.ok

def stMade (s : Stage) : Prop := 0 ≤ s.sec ∧ s.sec < 5 ∧ (s.pts = [] ∨ s.pts = [5] ∨ s.pts = [6]) ∧ 0 ≤ s.mn ∧ s.mn < 20 ∧ 0 ≤ s.nt ∧ s.nt < 60
def apart : List Stage → Prop
 | s :: s' :: r => s.sec ≠ s'.sec ∧ apart (s' :: r)
 | _ => True
def pMade (p : List Stage) : Prop := 1 ≤ p.length ∧ p.length ≤ 4 ∧ (∀ s ∈ p, stMade s) ∧ apart p
def psMade (ps : List (List Stage)) : Prop := 1 ≤ ps.length ∧ ps.length ≤ 3 ∧ ∀ p ∈ ps, pMade p

structure PInv (w wr : World) (v : Value) (n : Nat) : Prop where
 k : KeepsAll w wr
 src : ∃ rest, Src wr (Old w) w.heap.size rest
 out : ∃ ps : List (List Stage), n ≤ 3 ∧ ps.length + n ≤ 3 ∧ 1 ≤ ps.length + n ∧ (∀ p ∈ ps, pMade p) ∧ OwnL 100 1 RPath wr (w.heap.size + 1) (w.heap.size + 1) v ps
structure SInv (w w0 wr : World) (v : Value) (p : List Stage) (n : Nat) : Prop where
 k : Keeps (fun b => b = w.heap.size) w0 wr
 src : ∃ rest, Src wr (Old w) w.heap.size rest
 out : n ≤ 4 ∧ p.length + n ≤ 4 ∧ 1 ≤ p.length + n ∧ (∀ s ∈ p, stMade s) ∧ apart p ∧ OwnL 99 4 RStage wr w0.heap.size w0.heap.size v p

theorem SInv.lt {w w0 wr : World} {v : Value} {p : List Stage} {n : Nat} (h : SInv w w0 wr v p n) : w.heap.size < wr.heap.size := by obtain ⟨r, hr⟩ := h.src; exact hr.lt
theorem SInv.keep {w w0 wr w' : World} {v : Value} {p : List Stage} {n : Nat} {C : Foot} (h : SInv w w0 wr v p n) (hw0 : w.heap.size < w0.heap.size) (k : Keeps C wr w') (hC : ∀ b, b < wr.heap.size → C b → b = w.heap.size) (hs : ∃ rest, Src w' (Old w) w.heap.size rest) : SInv w w0 w' v p n := by
 refine ⟨h.k.trans k (fun x hx hc => hC x (Nat.lt_of_lt_of_le hx h.k.size) hc), hs, ?_⟩
 obtain ⟨h1, h2, h3, h4, h5, h6⟩ := h.out
 exact ⟨h1, h2, h3, h4, h5, h6.keeps RStage.ok k (fun b hb hc => by have := hC b hb hc; omega)⟩
theorem SInv.alloc {w w0 wr : World} {v : Value} {p : List Stage} {n : Nat} (h : SInv w w0 wr v p n) (hw0 : w.heap.size < w0.heap.size) (o : Obj) : SInv w w0 (wr.alloc o) v p n := by
 have hz := h.lt
 refine h.keep hw0 ((Keeps.refl (fun _ => False) wr).alloc o) (fun _ _ h => h.elim) ?_
 obtain ⟨r, hr⟩ := h.src
 exact ⟨r, hr.keeps ((Keeps.refl (fun _ => False) wr).alloc o) (fun b hb => ⟨by have : b < w.heap.size := hb; omega, by simp⟩) (by simp)⟩
theorem SInv.drew {w w0 wr : World} {v : Value} {p : List Stage} {n : Nat} (h : SInv w w0 wr v p n) (hw0 : w.heap.size < w0.heap.size) : SInv w w0 wr.drew v p n :=
 h.keep hw0 ((Keeps.refl (fun _ => False) wr).drew) (fun _ _ h => h.elim) h.src

theorem apart_snoc : ∀ (p : List Stage) (s : Stage), apart p → (∀ q, p.getLast? = some q → q.sec ≠ s.sec) → apart (p ++ [s])
 | [], s, _, _ => by simp [apart]
 | [q], s, _, h => by simp [apart]; exact h q rfl
 | q :: q' :: r, s, h, hl => by
  simp only [apart, List.cons_append] at h ⊢
  exact ⟨h.1, apart_snoc (q' :: r) s h.2 (fun x hx => hl x (by rw [List.getLast?_cons_cons]; exact hx))⟩
theorem SInv.grow {w w0 wr w13 : World} {v v' : Value} {p : List Stage} {m : Nat} {o : Obj} {s : Stage} (h : SInv w w0 wr v p m) (hw0 : w.heap.size < w0.heap.size) (hm : 0 < m) (ho : OwnL 99 4 RStage w13 w0.heap.size w0.heap.size v' (p ++ [s]))
  (hk : Keeps (fun b => v.ownBlock = some b) (wr.alloc o) w13) (hs : stMade s) (hl : ∀ q, p.getLast? = some q → q.sec ≠ s.sec) : SInv w w0 w13 v' (p ++ [s]) (m - 1) := by
 obtain ⟨h1, h2, h3, h4, h5, h6⟩ := h.out
 have k2 : Keeps (fun b => v.ownBlock = some b) wr w13 := ((Keeps.refl _ wr).alloc o).trans hk (fun _ _ h => h)
 have far : ∀ b, b < w0.heap.size → ¬ (v.ownBlock = some b) := fun b hb e => by have := h6.lt e; omega
 refine ⟨h.k.trans k2 (fun x hx e => absurd e (far x hx)), ?_, ⟨by omega, by simp; omega, by simp; omega, ?_, apart_snoc p s h5 hl, ho⟩⟩
 ·obtain ⟨r, hr⟩ := h.src
  have := hr.lt
  exact ⟨r, hr.keeps k2 (fun b hb => by have hb' : b < w.heap.size := hb; exact ⟨by omega, far b (by omega)⟩) (far _ hw0)⟩
 ·intro x hx
  rcases List.mem_append.1 hx with hx | hx
  ·exact h4 x hx
  ·simp at hx; subst hx; exact hs
theorem PInv.grow {w w3 wr w13 : World} {v v' vp : Value} {ps : List (List Stage)} {p : List Stage} {n : Nat} {o : Obj} (hk3 : KeepsAll w w3) (hin : SInv w w3 wr vp p 0) (_hw3 : w.heap.size < w3.heap.size)
  (hop : OwnL 100 1 RPath w3 (w.heap.size + 1) (w.heap.size + 1) v ps) (hpm : ∀ p ∈ ps, pMade p) (hn3 : n ≤ 3) (hnl : ps.length + n ≤ 3) (hlt : 0 < n) (hp : pMade p)
  (ho : OwnL 100 1 RPath w13 (w.heap.size + 1) (w.heap.size + 1) v' (ps ++ [p])) (hk : Keeps (fun b => v.ownBlock = some b) (wr.alloc o) w13) : PInv w w13 v' (n - 1) := by
 have k2 : Keeps (fun b => v.ownBlock = some b) wr w13 := ((Keeps.refl _ wr).alloc o).trans hk (fun _ _ h => h)
 have far : ∀ b, b < w.heap.size + 1 → ¬ (v.ownBlock = some b) := fun b hb e => by have := hop.lt e; omega
 refine ⟨(hk3.trans hin.k (fun x hx e => by omega)).trans k2 (fun x hx e => absurd e (far x (by omega))), ?_, ⟨ps ++ [p], by omega, by simp; omega, by simp; omega, ?_, ho⟩⟩
 ·obtain ⟨r, hr⟩ := hin.src
  have := hr.lt
  exact ⟨r, hr.keeps k2 (fun b hb => by have hb' : b < w.heap.size := hb; exact ⟨by omega, far b (by omega)⟩) (far _ (by omega))⟩
 ·intro x hx
  rcases List.mem_append.1 hx with hx | hx
  ·exact hpm x hx
  ·simp at hx; subst hx; exact hp
structure XInv (w w0 w7 wr : World) (v : Value) (p : List Stage) (m : Nat) (vp : Value) (a b c : Int) : Prop where
 i : SInv w w0 w7 v p m
 k : Keeps (fun b => b = w.heap.size) w7 wr
 src : ∃ rest, Src wr (Old w) w.heap.size rest
 x : Blk wr w7.heap.size 99 #[.int .i64 a, vp, .int .i64 b, .int .i64 c]
theorem XInv.s {w w0 w7 wr : World} {v vp : Value} {p : List Stage} {m : Nat} {a b c : Int} (h : XInv w w0 w7 wr v p m vp a b c) (hw0 : w.heap.size < w0.heap.size) : SInv w w0 wr v p m :=
 h.i.keep hw0 h.k (fun _ _ e => e) h.src
theorem XInv.step {w w0 w7 wr w' : World} {v vp vp' : Value} {p : List Stage} {m : Nat} {a b c a' : Int} {C : Foot} (h : XInv w w0 w7 wr v p m vp a b c) (k : Keeps C wr w') (hC : ∀ b, b < w7.heap.size → C b → b = w.heap.size)
  (hs : ∃ rest, Src w' (Old w) w.heap.size rest) (hx : Blk w' w7.heap.size 99 #[.int .i64 a', vp', .int .i64 b, .int .i64 c]) : XInv w w0 w7 w' v p m vp' a' b c :=
 ⟨h.i, h.k.trans k (fun x hx hc => hC x hx hc), hs, hx⟩

theorem apart_at : ∀ (p : List Stage), apart p → ∀ (j : Nat) (a b : Stage), p[j]? = some a → p[j + 1]? = some b → a.sec ≠ b.sec
 | [], _, j, a, b, h, _ => by simp at h
 | [x], _, j, a, b, _, h => by simp at h
 | x :: y :: r, h, 0, a, b, ha, hb => by simp at ha hb; subst ha hb; exact h.1
 | x :: y :: r, h, j + 1, a, b, ha, hb => apart_at (y :: r) h.2 j a b (by simpa using ha) (by simpa using hb)
theorem stMade.ok {s : Stage} (h : stMade s) : stageOk s = true := by
 obtain ⟨h1, h2, h3, h4, h5, h6, h7⟩ := h
 rcases h3 with h3 | h3 | h3 <;> simp [stageOk, isRes, isClk, h3, ptsFrom, ptOk] <;> omega
theorem steps_made {p : List Stage} (h1 : ∀ s ∈ p, stMade s) (h2 : apart p) : ∀ (l : List Stage) (j : Nat), p.drop j = l → stepsFrom p j l = true
 | [], j, _ => rfl
 | s :: l, j, h => by
  have hs : p[j]? = some s := by have := congrArg (·[0]?) h; simpa using this
  have hd := drop_cons' hs
  rw [h] at hd; injection hd with _ hd
  simp only [stepsFrom, Bool.and_eq_true, stepOk]
  refine ⟨⟨(h1 s (List.mem_of_getElem? hs)).ok, ?_⟩, steps_made h1 h2 l (j + 1) hd.symm⟩
  by_cases hj : 0 < j
  ·have hj1 : p[j - 1]? = some (p[j - 1]'(by have := getElem?_lt hs; omega)) := List.getElem?_eq_getElem _
   have := apart_at p h2 (j - 1) _ s hj1 (by rw [show j - 1 + 1 = j from by omega]; exact hs)
   rw [hj1]; simp; exact .inr this
  ·simp [hj]
theorem psMade.valid {ps : List (List Stage)} (h : psMade ps) : valid ps = true := by
 simp only [Go.Proofs.Ytilbbpbjhoidhaa.valid, Bool.and_eq_true, decide_eq_true_eq, List.all_eq_true]
 refine ⟨⟨by have := h.2.1; omega, fun p hp => ?_⟩, ?_⟩
 ·have hp := h.2.2 p hp
  simp only [pathOk, Bool.and_eq_true, decide_eq_true_eq]
  exact ⟨⟨hp.1, by have := hp.2.1; omega⟩, steps_made hp.2.2.1 hp.2.2.2 p 0 rfl⟩
 ·simp only [noClash, List.all_eq_true]
  intro r _
  simp only [Bool.not_eq_true', Bool.and_eq_false_iff, decide_eq_false_iff_not]
  by_cases hr : (r : Int) < 5
  ·right
   intro hm
   simp only [List.mem_flatMap, List.mem_flatten] at hm
   obtain ⟨s, ⟨p, hp, hs⟩, hm⟩ := hm
   rcases ((h.2.2 p hp).2.2.1 s hs).2.2.1 with e | e | e <;> rw [e] at hm <;> simp at hm <;> omega
  ·left
   intro hm
   simp only [List.mem_map, List.mem_flatten] at hm
   obtain ⟨s, ⟨p, hp, hs⟩, hm⟩ := hm
   have := ((h.2.2 p hp).2.2.1 s hs).2.1
   omega

theorem psMade.s8 {ps : List (List Stage)} (h : psMade ps) : secs8 ps := fun p hp s hs => by have := (h.2.2 p hp).2.2.1 s hs; have h1 := this.1; have h2 := this.2.1; omega
theorem psMade.l {ps : List (List Stage)} (h : psMade ps) : ps.length ≤ 1000 := by have := h.2.1; omega
theorem RSlice.form {α : Type} {size : Nat} {E : Rd α} {w : World} {S : Foot} {v : Value} {l : List α} (h : RSlice size E w S [v] l) : ∃ A c, v = .slice A l.length c := by
 obtain ⟨A, c, he, _⟩ := h; injection he with he _; exact ⟨A, c, he⟩

theorem Uses_ext {W : World} (x : Ext W) (s : Stage) (r : Int) (Ap : Option Addr) (cp : Nat) (h : RInts W (Old W) [.slice Ap s.pts.length cp] s.pts) :
  Calls Try.prog 61 #[.agg (stC s Ap cp), .int .i64 r] x.val fun e w'' => e = .returned (.tuple #[.bool (decide (r ∈ stUses s)), .bool (s.sec == r)]) ∧ ∃ y : Ext W, w'' = y.val :=
 ext_call x (Uses_any s r Ap cp x.val (x.keeps.rdo' RInts.ok h))
def overB (ps : List (List Stage)) (now : List Int) (u : Ref) (r : Int) : Bool := decide ((relOf ps r u).st ≤ nowAt now u.tr.toNat)
set_option maxRecDepth 100000 in
set_option maxHeartbeats 1000000 in
theorem Over_any (ps : List (List Stage)) (now : List Int) (r : Int) (A A2 : Option Addr) (c c2 : Nat) (w : World) (h : RPaths w (Old w) [.slice A ps.length c] ps) (h2 : RInts w (Old w) [.slice A2 now.length c2] now) (t k : Nat) (p : List Stage) (s : Stage) (x : Int) (hp : ps[t]? = some p) (hs : p[k]? = some s) (hx : now[t]? = some x) :
  Calls Try.prog 78 #[.slice A ps.length c, .slice A2 now.length c2, .agg #[.int .i64 (t : Int), .int .i64 (k : Int)], .int .i64 r] w fun e w' => e = .returned (.bool (overB ps now ⟨(t : Int), (k : Int)⟩ r)) ∧ KeepsAll w w' := by
 have hc := h.caps
 have hc2 := h2.caps
 have HQ : Hid (overB ps now ⟨(t : Int), (k : Int)⟩ r = if s.sec = r then decide (x > (k : Int)) else decide (x ≥ (k : Int))) := by
  show overB _ _ _ _ = _
  unfold overB relOf secOf
  simp only [Int.toNat_natCast, hp, hs, Option.getD_some, Option.elim_some, nowAt_of hx]
  split
  ·show decide ((k : Int) + 1 ≤ x) = _
   rw [decide_eq_decide]; constructor <;> intro h <;> omega
  ·rfl
 have ht := getElem?_lt hp
 have hkl := getElem?_lt hs
 have htx := getElem?_lt hx
 obtain ⟨b, o, p', A', c', hbo, hb, hp', k1, hr⟩ := RSS.at_ h ht
 subst hbo
 obtain rfl := same_of hp' hp
 have hcp := hr.caps
 obtain ⟨b2, o2, s', As, cs, hbo, hb2, hs', m0, m1, m2, m3, hpts⟩ := RPath.at_ hr hkl
 subst hbo
 obtain rfl := same_of hs' hs
 obtain ⟨b3, o3, x', hbo, hb3, hx', q0⟩ := h2.at_ htx
 subst hbo
 obtain rfl := same_of hx' hx
 have HPTS := Lib.hid hpts
 clear h h2 hr hp hp' hs hs' hx hx' hpts
 go_enter Try.func78, Try.ntmps78
 go_wp2
 generalize hW : World.alloc w _ = W
 have KW : KeepsAll w W := by subst hW; exact (Keeps.refl _ _).alloc _
 have BX : Blk W w.heap.size 46 #[.int .i64 (t : Int), .int .i64 (k : Int)] := by subst hW; exact Blk.new _ _ _
 have e0 := BX.cell 0
 have e1 := BX.cell 1
 simp at e0 e1
 have hz := BX.lt
 replace k1 := KW.cellK (p := ⟨b, o + t, none⟩) hb k1
 replace m0 := KW.cellK (p := ⟨b2, o2 + k * 4, none⟩) hb2 m0
 replace m1 := KW.cellK (p := ⟨b2, o2 + k * 4 + 1, none⟩) hb2 m1
 replace m2 := KW.cellK (p := ⟨b2, o2 + k * 4 + 2, none⟩) hb2 m2
 replace m3 := KW.cellK (p := ⟨b2, o2 + k * 4 + 3, none⟩) hb2 m3
 replace q0 := KW.cellK (p := ⟨b3, o3 + t, none⟩) hb3 q0
 have HP2 := Lib.hid (KW.rdo' RInts.ok HPTS.out)
 have KW' := Lib.hid KW
 clear hW KW BX HPTS
 refine wp_region_ext (by kernel_rfl) (by kernel_rfl) ?_
 have y0 := Ext.cell e0
 have y1 := Ext.cell e1
 have y2 := Ext.cell k1
 have z0 := Ext.cell m0
 have z1 := Ext.cell m1
 have z2 := Ext.cell m2
 have z3 := Ext.cell m3
 have z4 := Ext.cell q0
 repeat (go_big_quiet_step ((go_at_call 61; exact Uses_ext _ s' r As cs HP2.out)))
 refine wpQuiet_nil ?_
 rintro _ ⟨X, rfl⟩
 have f0 := y0 X
 have f1 := y1 X
 have f2 := z4 X
 have KX := Lib.hid (KW'.out.tr X.keeps)
 clear y0 y1 y2 z0 z1 z2 z3 z4 e0 e1 k1 m0 m1 m2 m3 q0
 generalize X.val = WX at *
 by_cases g : s'.sec = r
 ·have g' : (s'.sec == r) = true := by simpa using g
  have Q : Hid (overB ps now ⟨(t : Int), (k : Int)⟩ r = decide (x' > (k : Int))) := by show _ = _; rw [HQ.out, if_pos g]
  rw [g']
  clear g g' HQ
  go_wp2
  go_quiet (fail)
  go_wp2
  go_ret
  exact ⟨by rw [Q.out]; rfl, KX.out.drewN _⟩
 ·have g' : (s'.sec == r) = false := by simpa using g
  have Q : Hid (overB ps now ⟨(t : Int), (k : Int)⟩ r = decide (x' ≥ (k : Int))) := by show _ = _; rw [HQ.out, if_neg g]
  rw [g']
  clear g g' HQ
  go_wp2
  go_quiet (fail)
  go_wp2
  go_ret
  exact ⟨by rw [Q.out]; rfl, KX.out.drewN _⟩

structure RArc where
 frm : Ref
 to : Ref
 wt : Int
 deriving DecidableEq, Inhabited, Repr
def chainRP (t : Nat) (p : List Stage) : List RArc := p.zipIdx.map fun q => ⟨⟨(t : Int), (q.2 : Int)⟩, ⟨(t : Int), (q.2 : Int) + 1⟩, q.1.mn⟩
def chainR (ps : List (List Stage)) : List RArc := ps.zipIdx.flatMap fun q => chainRP q.2 q.1
def betw (ps : List (List Stage)) (r : Int) (u v : Ref) : RArc := ⟨relOf ps r u, v, 0⟩
def useR (ps : List (List Stage)) (r : Int) (l : List Ref) (v : Ref) : List RArc := l.flatMap fun u => if u.tr ≠ v.tr then [betw ps r u v] else []
def orderR (ps : List (List Stage)) (o : Order) : List RArc := o.uses.zipIdx.flatMap fun q => useR ps o.res (o.uses.take q.2) q.1
def refArcs (ps : List (List Stage)) (os : List Order) : List RArc := chainR ps ++ os.flatMap (orderR ps)
theorem chainRP_succ (t : Nat) {p : List Stage} {k : Nat} {s : Stage} (h : p[k]? = some s) : chainRP t (p.take (k + 1)) = chainRP t (p.take k) ++ [⟨⟨(t : Int), (k : Int)⟩, ⟨(t : Int), (k : Int) + 1⟩, s.mn⟩] := by
 unfold chainRP; rw [zipIdx_take_succ h]; simp
theorem chainR_succ {ps : List (List Stage)} {t : Nat} {p : List Stage} (h : ps[t]? = some p) : chainR (ps.take (t + 1)) = chainR (ps.take t) ++ chainRP t p := by
 unfold chainR; rw [zipIdx_take_succ h]; simp
theorem mem_chainR {ps : List (List Stage)} {a : RArc} : a ∈ chainR ps ↔ ∃ (t k : Nat) (p : List Stage) (s : Stage), ps[t]? = some p ∧ p[k]? = some s ∧ a = ⟨⟨(t : Int), (k : Int)⟩, ⟨(t : Int), (k : Int) + 1⟩, s.mn⟩ := by
 unfold chainR
 rw [List.mem_flatMap]
 constructor
 ·rintro ⟨⟨p, t⟩, hp, ha⟩
  unfold chainRP at ha
  obtain ⟨⟨s, k⟩, hs, rfl⟩ := List.mem_map.1 ha
  exact ⟨t, k, p, s, List.mem_zipIdx_iff_getElem?.1 hp, List.mem_zipIdx_iff_getElem?.1 hs, rfl⟩
 ·rintro ⟨t, k, p, s, hp, hs, rfl⟩
  exact ⟨(p, t), List.mem_zipIdx_iff_getElem?.2 hp, List.mem_map.2 ⟨(s, k), List.mem_zipIdx_iff_getElem?.2 hs, rfl⟩⟩

def rdyR (arcs : List RArc) (now : List Int) (u : Ref) : Bool := arcs.all fun a => !(decide (a.to = u) && !doneR now a.frm)
def goC (ps : List (List Stage)) (arcs : List RArc) (now : List Int) (t : Nat) : Bool := decide (nowAt now t < lenAt ps t) && rdyR arcs now ⟨(t : Int), nowAt now t + 1⟩
def goR (ps : List (List Stage)) (arcs : List RArc) (now : List Int) : Option Nat := (List.range ps.length).find? (goC ps arcs now)
theorem goR_sound (ps : List (List Stage)) (arcs : List RArc) : Sound ps (goR ps arcs) := by
 intro now t h
 unfold goR at h
 have h1 := List.mem_of_find?_eq_some h
 have h2 := List.find?_some h
 simp only [goC, Bool.and_eq_true, decide_eq_true_eq] at h2
 exact ⟨List.mem_range.1 h1, h2.1⟩
def badArc (at_ : List Int) (a : RArc) : Bool := doneR at_ a.to && !doneR at_ a.frm
def lineR (ps : List (List Stage)) (arcs : List RArc) (at_ : List Int) : List Ref × Bool :=
 if arcs.any (badArc at_) = true then ([], false) else if total ps (lineFrom (goR ps arcs) (total ps at_) at_).2 = 0 then ((lineFrom (goR ps arcs) (total ps at_) at_).1, true) else ([], false)
def LR (go : List Int → Option Nat) (F : Nat) (at_ : List Int) (j : Nat) (acc : List Ref) (now : List Int) : Prop :=
 acc.length = j ∧ j ≤ F ∧ lineFrom go F at_ = (acc ++ (lineFrom go (F - j) now).1, (lineFrom go (F - j) now).2)
theorem LR.start (go : List Int → Option Nat) (F : Nat) (at_ : List Int) : LR go F at_ 0 [] at_ := ⟨rfl, Nat.zero_le _, by simp⟩
theorem LR.step {go : List Int → Option Nat} {F : Nat} {at_ : List Int} {j : Nat} {acc : List Ref} {now : List Int} {t : Nat} (h : LR go F at_ j acc now) (hj : j < F) (hn : go now = some t) : LR go F at_ (j + 1) (acc ++ [⟨(t : Int), nowAt now t + 1⟩]) (now.set t (nowAt now t + 1)) := by
 obtain ⟨h1, h2, h3⟩ := h
 refine ⟨by simp [h1], by omega, ?_⟩
 rw [h3, show F - j = (F - (j + 1)) + 1 from by omega]
 simp [lineFrom, hn]
theorem LR.stuck {go : List Int → Option Nat} {F : Nat} {at_ : List Int} {j : Nat} {acc : List Ref} {now : List Int} (h : LR go F at_ j acc now) (hj : j < F) (hn : go now = none) : lineFrom go F at_ = (acc, now) := by
 obtain ⟨h1, h2, h3⟩ := h
 rw [h3, show F - j = (F - (j + 1)) + 1 from by omega]
 simp [lineFrom, hn]
theorem LR.full {go : List Int → Option Nat} {F : Nat} {at_ : List Int} {acc : List Ref} {now : List Int} (h : LR go F at_ F acc now) : lineFrom go F at_ = (acc, now) := by
 obtain ⟨h1, h2, h3⟩ := h
 rw [h3]; simp [lineFrom]

end Go.Proofs.Ytilbbpbjhoidhaa
