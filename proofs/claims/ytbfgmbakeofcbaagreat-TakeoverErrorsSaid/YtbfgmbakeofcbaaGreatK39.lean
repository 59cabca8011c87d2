/- takeover.Orders as a plain function; what a search that succeeds gives. No program in sight. The map of examined states: its keys are arrays of ten small integers. Conditions: as each theorem says. The state of chapter 36 in memory: contracts of hold, set, hasLeft, obstacle, canMove. Conditions: as each theorem says. -/
import Derived.Test.YtbfgmbakeofcbaaGreatK38
import Derived.Test.YtbfgmbakeofcbaaGreatK34
import Derived.Test.YtbfgmbakeofcbaaGreatK17
import Derived.DeepKeys3
import Derived.Test.YtbfgmbakeofcbaaGreatK07
namespace Go.Proofs.YtbfgmbakeofcbaaGreat
open Go.RowKit

theorem legal_len {ps : List (List Stage)} : ∀ (q now : List Int), Gd ps now → Legal ps now q → q.length + total ps (runM now q) = total ps now
  | [], now, _, _ => by simp [runM]
  | x :: q, now, hg, h => by
    obtain ⟨t, rfl, ht, hc, hr⟩ := h
    have h1 := total_step hg ht (canMv_lt hc)
    have h2 := legal_len q _ (hg.step ht (canMv_lt hc)) hr
    have e : runM now ((t : Int) :: q) = runM (stepN now t) q := by simp [runM]
    rw [e, List.length_cons]
    unfold stepN at h2 ⊢
    omega
theorem legal_gd {ps : List (List Stage)} : ∀ (q now : List Int), Gd ps now → Legal ps now q → Gd ps (runM now q)
  | [], now, h, _ => h
  | x :: q, now, hg, h => by
    obtain ⟨t, rfl, ht, hc, hr⟩ := h
    have e : runM now ((t : Int) :: q) = runM (stepN now t) q := by simp [runM]
    rw [e]
    exact legal_gd q _ (hg.step ht (canMv_lt hc)) hr
theorem searchP_ok {ps : List (List Stage)} {at_ : List Int} {budget : Int} (hg : Gd ps at_) (h : (searchP ps at_ budget).2.2 = 0) : Legal ps at_ (searchP ps at_ budget).1 ∧ leftB ps (runM at_ (searchP ps at_ budget).1) = true := by
  have hx := exam_ok (ps := ps) (budget := budget.toNat) (total ps at_ + 1) at_ hg (by omega) [] []
  unfold searchP at h ⊢
  by_cases g0 : checkState ps at_ = 0
  · rw [if_neg (by simpa using g0)] at h ⊢
    by_cases g1 : budget < 1 ∨ 1048576 < budget
    · rw [if_pos g1] at h; simp at h
    · rw [if_neg g1] at h ⊢
      by_cases g2 : (exam ps budget.toNat (total ps at_ + 1) at_ [] []).1 = 0
      · rw [if_pos g2] at h ⊢
        obtain ⟨q, e, h1, h2⟩ := hx.found g2
        simp only [List.nil_append] at e
        rw [e]; exact ⟨h1, h2⟩
      · rw [if_neg g2] at h
        split at h <;> simp at h
  · rw [if_pos (by simpa using g0)] at h
    exact absurd h g0
/-- the entries of a sequence of moves, as a table -/
def entL (ps : List (List Stage)) (at_ mv : List Int) : List (List Int) := tabS ps (entTo ps at_ mv mv.length)
def sortT (en : List (List Int)) (l : List Ref) : List Ref := sortB (fun u v => decide (cmpI (enAt en u) (enAt en v) < 0)) l
def sortTO (en : List (List Int)) (o : Order) : Order := ⟨o.res, sortT en o.uses⟩
def takeP (ps : List (List Stage)) (os : List Order) (at_ : List Int) (budget : Int) : List Order × Int × Int :=
  if checkO ps os = false then ([], 0, 1)
  else if checkState ps at_ ≠ 0 then ([], 0, checkState ps at_)
  else if budget < 1 ∨ 1048576 < budget then ([], 0, 4)
  else if okP ps os at_ = true then (restP ps os at_, 0, 0)
  else if (searchP ps at_ budget).2.2 ≠ 0 then ([], 0, (searchP ps at_ budget).2.2)
  else ((restP ps os at_).map (sortTO (entL ps at_ (searchP ps at_ budget).1)), (searchP ps at_ budget).2.1, 0)

def pos8 (now : List Int) (i : Nat) : Value := .int .i8 (nowAt now i)
def posC (now : List Int) : Array Value := #[pos8 now 0, pos8 now 1, pos8 now 2, pos8 now 3, pos8 now 4, pos8 now 5, pos8 now 6, pos8 now 7, pos8 now 8, pos8 now 9]
def posV (now : List Int) : Value := .agg (posC now)
/-- ten or fewer positions, each of which fits into eight bits -/
def Fits (now : List Int) : Prop := now.length ≤ 10 ∧ ∀ t, -128 ≤ nowAt now t ∧ nowAt now t ≤ 127
theorem wf8 {x : Int} (h : -128 ≤ x ∧ x ≤ 127) : (Lit.int .i8 x).wf = true := by
  have e1 : IntKind.i8.min = -128 := by decide
  have e2 : IntKind.i8.max = 127 := by decide
  simp only [Lit.wf, e1, e2, Bool.and_eq_true, decide_eq_true_eq]
  exact h
theorem lits8 {d : Nat} (hd : 0 < d) {x : Int} (h : -128 ≤ x ∧ x ≤ 127) : Tryz.prog.keyLits d 130 [.int .i8 x] = some [.int .i8 x] := by
  obtain ⟨d, rfl⟩ : ∃ e, d = e + 1 := ⟨d - 1, by omega⟩
  simp only [Program.keyLits, Tryz.underlying130]
  simp [wf8 h]
theorem keyOf_posV {now : List Int} (h : Fits now) : ∃ l, keyOf Tryz.prog 132 (posV now) = some l := by
  have hk : Tryz.prog.keyType 132 = true := by kernel_rfl
  have hc : Tryz.prog.cellsOf 132 = 10 := by kernel_rfl
  have hc1 : Tryz.prog.cellsOf 130 = 1 := by kernel_rfl
  have hd : 0 < Tryz.prog.types.size := of_decide_eq_true (by kernel_rfl)
  have hf : (posV now).formed Tryz.prog 132 = true := by
    unfold posV Value.formed
    simp only [Tryz.underlying132, hc]
    rfl
  have hl : ∃ ls, Tryz.prog.keyLits (Tryz.prog.types.size + 1) 132 (posC now).toList = some ls := by
    generalize Tryz.prog.types.size = d at hd
    simp only [Program.keyLits, Tryz.underlying132]
    have hlen : (posC now).toList.length = Tryz.prog.cellsOf 132 := by rw [hc]; rfl
    rw [if_pos hlen, hc1]
    have e : ∀ i, i < 10 → Tryz.prog.keyLits d 130 (((posC now).toList.drop (i * 1)).take 1) = some [.int .i8 (nowAt now i)] := by
      intro i hi
      have : ((posC now).toList.drop (i * 1)).take 1 = [.int .i8 (nowAt now i)] := by
        rcases i with _ | _ | _ | _ | _ | _ | _ | _ | _ | _ | i
        all_goals first | rfl | omega
      rw [this]
      exact lits8 hd (h.2 i)
    have hm : (List.range 10).mapM (fun i => Tryz.prog.keyLits d 130 (((posC now).toList.drop (i * 1)).take 1)) = some ((List.range 10).map fun i => [Lit.int .i8 (nowAt now i)]) := by
      have : ∀ l : List Nat, (∀ i ∈ l, i < 10) → l.mapM (fun i => Tryz.prog.keyLits d 130 (((posC now).toList.drop (i * 1)).take 1)) = some (l.map fun i => [Lit.int .i8 (nowAt now i)]) := by
        intro l
        induction l with
        | nil => intro _; rfl
        | cons a l ih =>
          intro hl
          rw [List.mapM_cons, e a (hl a (by simp)), ih (fun i hi => hl i (by simp [hi]))]
          rfl
      exact this _ (fun i hi => List.mem_range.1 hi)
    exact ⟨_, by rw [hm]; rfl⟩
  obtain ⟨ls, hls⟩ := hl
  unfold keyOf
  simp only [Tryz.underlying132, hk, hf, Bool.and_self, if_true]
  exact ⟨_, by rw [show (posV now).cells = posC now from rfl, hls]; rfl⟩
theorem posLaw : WideMaps.KeyLaw Tryz.prog 132 := deep_law (m := 2) (by omega) (by kernel_rfl) (by kernel_rfl) (by simp only [Tryz.underlying132])
theorem posV_inj {a b : List Int} (hl : a.length = b.length) (h10 : a.length ≤ 10) (h : posV a = posV b) : a = b := by
  unfold posV posC pos8 at h
  injection h with h
  simp only [Array.mk.injEq, List.cons.injEq, Value.int.injEq, true_and, and_true] at h
  apply List.ext_getElem?
  intro i
  by_cases hi : i < a.length
  · have hi2 : i < b.length := by omega
    have e : nowAt a i = nowAt b i := by
      have : i < 10 := by omega
      rcases i with _ | _ | _ | _ | _ | _ | _ | _ | _ | _ | i
      all_goals first | omega | simp_all
    unfold nowAt at e
    rw [List.getElem?_eq_getElem hi, List.getElem?_eq_getElem hi2] at e ⊢
    simpa using e
  · rw [List.getElem?_eq_none (by omega), List.getElem?_eq_none (by omega)]

/-- block r is a map whose keys are the states ks, each with true -/
structure PMap (w : World) (r n : Nat) (ks : List (List Int)) : Prop where
  ex : ∃ es clock, w.heap[r]? = some (.map es clock) ∧ es.toList.map (·.key) = ks.map posV ∧ ∀ e ∈ es.toList, e.val = .bool true
  fit : ∀ x ∈ ks, Fits x ∧ x.length = n
section
variable {w w' : World} {r n : Nat} {ks : List (List Int)}
theorem PMap.lt (h : PMap w r n ks) : r < w.heap.size := by
  obtain ⟨es, clock, h1, _⟩ := h.ex; exact (Array.getElem?_eq_some_iff.1 h1).1
theorem PMap.kept {C : Foot} (h : PMap w r n ks) (k : Keeps C w w') (hn : ¬ C r) : PMap w' r n ks := by
  obtain ⟨es, clock, h1, h2⟩ := h.ex; exact ⟨⟨es, clock, (k.block r h.lt hn).trans h1, h2⟩, h.fit⟩
theorem PMap.new (w : World) (n : Nat) : PMap (w.alloc (.map #[] 0)) w.heap.size n [] :=
  ⟨⟨#[], 0, heap_alloc_new w _, rfl, by simp⟩, by simp⟩
theorem PMap.len (h : PMap w r n ks) : ∃ es clock, w.heap[r]? = some (.map es clock) ∧ es.size = ks.length := by
  obtain ⟨es, clock, h1, h2, _⟩ := h.ex
  exact ⟨es, clock, h1, by have := congrArg List.length h2; simpa using this⟩
theorem PMap.find (h : PMap w r n ks) {now : List Int} (hf : Fits now) (hl : now.length = n) {es : Array MapEntry} {clock : Nat} (h1 : w.heap[r]? = some (.map es clock)) (W : World) :
    (now ∉ ks ∧ (Instr.findKey 132 (posV now) es.toList).run Tryz.prog W = .ok none W) ∨ (now ∈ ks ∧ ∃ j, (Instr.findKey 132 (posV now) es.toList).run Tryz.prog W = .ok (some (j, .bool true)) W) := by
  obtain ⟨es', clock', h1', h2, h3⟩ := h.ex
  rw [h1] at h1'
  injection h1' with h1'
  injection h1' with e1 e2
  subst e1
  obtain ⟨l, hl'⟩ := keyOf_posV hf
  rcases posLaw.find W hl' es.toList (fun e he => by
    have : e.key ∈ es.toList.map (·.key) := List.mem_map_of_mem he
    rw [h2] at this
    obtain ⟨x, hx, hxe⟩ := List.mem_map.1 this
    rw [← hxe]
    exact keyOf_posV (h.fit x hx).1) with ⟨q1, q2⟩ | ⟨j, e0, q1, q2, q3⟩
  · left
    refine ⟨fun hm => ?_, q1⟩
    have : posV now ∈ es.toList.map (·.key) := by rw [h2]; exact List.mem_map_of_mem hm
    obtain ⟨e, he, hek⟩ := List.mem_map.1 this
    exact q2 e he hek
  · right
    have hmem := List.mem_of_getElem? q2
    rw [h3 e0 hmem] at q1
    refine ⟨?_, j, q1⟩
    have : e0.key ∈ es.toList.map (·.key) := List.mem_map_of_mem hmem
    rw [h2, q3] at this
    obtain ⟨x, hx, hxe⟩ := List.mem_map.1 this
    have := posV_inj (by rw [(h.fit x hx).2, hl]) (h.fit x hx).1.1 hxe
    rw [← this]; exact hx
theorem PMap.lookup (h : PMap w r n ks) {now : List Int} (hf : Fits now) (hl : now.length = n) : (Instr.lookup 99 (.map (some r)) (posV now) false).run Tryz.prog w = .ok (.bool (decide (now ∈ ks))) w := by
  obtain ⟨es, clock, h1, _⟩ := h.ex
  obtain ⟨l, hl'⟩ := keyOf_posV hf
  have hc : (Instr.checkKey es.isEmpty 10000 132 (posV now)).run Tryz.prog w = .ok () w := posLaw.check w _ hl'
  have hg : (getObj r).run Tryz.prog w = .ok (.map es clock) w := by simp [getObj, Sem.run, h1]
  have hz : (zeroValue 4).run Tryz.prog w = .ok (.bool false) w := by kernel_rfl
  rcases h.find hf hl h1 w with ⟨q1, q2⟩ | ⟨q1, j, q2⟩
  · rw [decide_eq_false q1]
    simp [Instr.lookup, run_underlying Tryz.underlying99, hg, hc, q2, hz]
  · rw [decide_eq_true q1]
    simp [Instr.lookup, run_underlying Tryz.underlying99, hg, hc, q2]
theorem PMap.update (h : PMap w r n ks) {now : List Int} (hf : Fits now) (hl : now.length = n) (hn : now ∉ ks) :
    ∃ w', (Instr.mapUpdate 99 (.map (some r)) (posV now) (.bool true)).run Tryz.prog w = .ok () w' ∧ PMap w' r n (ks ++ [now]) ∧ Keeps (· = r) w w' ∧ w'.heap.size = w.heap.size := by
  obtain ⟨es, clock, h1, h2, h3⟩ := h.ex
  obtain ⟨l, hl'⟩ := keyOf_posV hf
  have hc : (Instr.checkKey false 10000 132 (posV now)).run Tryz.prog w = .ok () w := posLaw.check w _ hl'
  have hg : (getObj r).run Tryz.prog w = .ok (.map es clock) w := by simp [getObj, Sem.run, h1]
  have hs : ∀ o, (setObj r o).run Tryz.prog w = .ok () { w with heap := w.heap.setIfInBounds r o } := fun o => by simp [setObj, Sem.run, h1]
  have hlt := h.lt
  have kk : ∀ o, Keeps (· = r) w { w with heap := w.heap.setIfInBounds r o } := fun o => ⟨rfl, rfl, rfl, by simp, fun i _ hn => by simp [Ne.symm hn]⟩
  have hnew : ∀ o, ({ w with heap := w.heap.setIfInBounds r o } : World).heap[r]? = some o := fun o => by simp [hlt]
  rcases h.find hf hl h1 w with ⟨q1, q2⟩ | ⟨q1, _⟩
  · refine ⟨{ w with heap := w.heap.setIfInBounds r (.map (es.push { key := posV now, val := .bool true, born := clock }) (clock + 1)) }, by simp [Instr.mapUpdate, run_underlying Tryz.underlying99, hg, hc, q2, hs], ⟨⟨_, _, hnew _, ?_, ?_⟩, ?_⟩, kk _, by simp⟩
    · simp [h2]
    · intro e he
      simp at he
      rcases he with he | rfl
      · exact h3 e (by simpa using he)
      · rfl
    · intro x hx
      rcases List.mem_append.1 hx with hx | hx
      · exact h.fit x hx
      · simp at hx; subst hx; exact ⟨hf, hl⟩
  · exact absurd q1 hn
end

def hdC (hd : Nat → Int) : Array Value := ((List.range 144).map fun r => Value.int .i64 (hd r)).toArray
def dCells (vp : Value) (now : List Int) (hd : Nat → Int) : Array Value := #[vp] ++ (posC now ++ hdC hd)
theorem posC_size (now : List Int) : (posC now).size = 10 := rfl
theorem hdC_size (hd : Nat → Int) : (hdC hd).size = 144 := by simp [hdC]
theorem dC_0 (vp : Value) (now : List Int) (hd : Nat → Int) : (dCells vp now hd)[0]? = some vp := by unfold dCells; rw [Array.getElem?_append_left (by simp)]; rfl
theorem posC_at (now : List Int) {t : Nat} (ht : t < 10) : (posC now)[t]? = some (pos8 now t) := by
  rcases t with _ | _ | _ | _ | _ | _ | _ | _ | _ | _ | t
  all_goals first | rfl | omega
theorem dC_at (vp : Value) (now : List Int) (hd : Nat → Int) {t : Nat} (ht : t < 10) : (dCells vp now hd)[1 + t]? = some (.int .i8 (nowAt now t)) := by
  unfold dCells
  rw [Array.getElem?_append_right (by simp), Array.getElem?_append_left (by simp [posC_size]; omega)]
  simp only [List.size_toArray, List.length_cons, List.length_nil, Nat.zero_add, Nat.add_sub_cancel_left]
  exact posC_at now ht
theorem dC_hd (vp : Value) (now : List Int) (hd : Nat → Int) {r : Nat} (hr : r < 144) : (dCells vp now hd)[11 + r]? = some (.int .i64 (hd r)) := by
  unfold dCells
  rw [Array.getElem?_append_right (by simp; omega), Array.getElem?_append_right (by simp [posC_size])]
  simp [posC_size, hdC, hr]
theorem dC_size (vp : Value) (now : List Int) (hd : Nat → Int) : (dCells vp now hd).size = 155 := by simp [dCells, posC_size, hdC_size]
def updH (hd : Nat → Int) (r : Nat) (x : Int) : Nat → Int := fun s => if s = r then x else hd s
theorem dC_ext {vp : Value} {now : List Int} {hd : Nat → Int} {a : Array Value} (hs : a.size = 155) (h0 : a[0]? = some vp) (h1 : ∀ t, t < 10 → a[1 + t]? = some (.int .i8 (nowAt now t))) (h2 : ∀ r, r < 144 → a[11 + r]? = some (.int .i64 (hd r))) : a = dCells vp now hd := by
  apply Array.ext
  · rw [hs, dC_size]
  · intro i hi hi2
    have e : a[i]? = (dCells vp now hd)[i]? := by
      rw [hs] at hi
      by_cases g0 : i = 0
      · subst g0; rw [h0, dC_0]
      · by_cases g1 : i < 11
        · obtain ⟨t, rfl⟩ : ∃ t, i = 1 + t := ⟨i - 1, by omega⟩
          rw [h1 t (by omega), dC_at vp now hd (by omega)]
        · obtain ⟨r, rfl⟩ : ∃ r, i = 11 + r := ⟨i - 11, by omega⟩
          rw [h2 r (by omega), dC_hd vp now hd (by omega)]
    rw [Array.getElem?_eq_getElem hi, Array.getElem?_eq_getElem hi2] at e
    injection e
theorem dC_setAt (vp : Value) (now : List Int) (hd : Nat → Int) {t : Nat} (ht : t < now.length) (h10 : t < 10) (x : Int) : (dCells vp now hd).setIfInBounds (1 + t) (.int .i8 x) = dCells vp (now.set t x) hd := by
  apply dC_ext
  · simp [dC_size]
  · rw [Array.getElem?_setIfInBounds, if_neg (by omega), dC_0]
  · intro u hu
    rw [Array.getElem?_setIfInBounds, nowAt_set ht]
    by_cases e : t = u
    · subst e; rw [if_pos rfl, if_pos rfl, if_pos (by rw [dC_size]; omega)]
    · rw [if_neg (by omega), if_neg e, dC_at vp now hd hu]
  · intro r hr
    rw [Array.getElem?_setIfInBounds, if_neg (by omega), dC_hd vp now hd hr]
theorem dC_setH (vp : Value) (now : List Int) (hd : Nat → Int) {r : Nat} (hr : r < 144) (x : Int) : (dCells vp now hd).setIfInBounds (11 + r) (.int .i64 x) = dCells vp now (updH hd r x) := by
  apply dC_ext
  · simp [dC_size]
  · rw [Array.getElem?_setIfInBounds, if_neg (by omega), dC_0]
  · intro u hu
    rw [Array.getElem?_setIfInBounds, if_neg (by omega), dC_at vp now hd hu]
  · intro s hs
    rw [Array.getElem?_setIfInBounds]
    unfold updH
    by_cases e : s = r
    · subst e; rw [if_pos rfl, if_pos rfl, if_pos (by rw [dC_size]; omega)]
    · rw [if_neg (by omega), if_neg e, dC_hd vp now hd hs]

/-- the state lies in block g -/
structure DSt (w0 w : World) (g : Nat) (A : Option Addr) (c : Nat) (ps : List (List Stage)) (now : List Int) (hd : Nat → Int) : Prop where
  blk : Blk w g 135 (dCells (.slice A ps.length c) now hd)
  lo : w0.heap.size ≤ g
  k : KeepsAll w0 w
section
variable {w0 w w' : World} {g : Nat} {A : Option Addr} {c : Nat} {ps : List (List Stage)} {now : List Int} {hd : Nat → Int}
theorem DSt.keep (h : DSt w0 w g A c ps now hd) (k : KeepsAll w w') : DSt w0 w' g A c ps now hd := ⟨h.blk.kept k (by simp), h.lo, h.k.tr k⟩
theorem DSt.keepC {C : Foot} (h : DSt w0 w g A c ps now hd) (k : Keeps C w w') (hn : ¬ C g) (hC : ∀ b, C b → w0.heap.size ≤ b) : DSt w0 w' g A c ps now hd := ⟨h.blk.kept k hn, h.lo, h.k.trans k (fun b hb hc => by have := hC b hc; omega)⟩
theorem DSt.lt (h : DSt w0 w g A c ps now hd) : g < w.heap.size := h.blk.lt
theorem DSt.c0 (h : DSt w0 w g A c ps now hd) : w.cell? ⟨g, 0, none⟩ = some (.slice A ps.length c) := by rw [h.blk.cell, dC_0]
theorem DSt.cat (h : DSt w0 w g A c ps now hd) {t : Nat} (ht : t < 10) : w.cell? ⟨g, 1 + t, none⟩ = some (.int .i8 (nowAt now t)) := by rw [h.blk.cell, dC_at _ _ _ ht]
theorem DSt.chd (h : DSt w0 w g A c ps now hd) {r : Nat} (hr : r < 144) : w.cell? ⟨g, 11 + r, none⟩ = some (.int .i64 (hd r)) := by rw [h.blk.cell, dC_hd _ _ _ hr]
theorem DSt.setAt (h : DSt w0 w g A c ps now hd) {t : Nat} (ht : t < now.length) (h10 : t < 10) (x : Int) : DSt w0 (w.setCell ⟨g, 1 + t, none⟩ (.int .i8 x)) g A c ps (now.set t x) hd := by
  refine ⟨?_, h.lo, h.k.setCell (fun hh => absurd hh (by have := h.lo; simp; omega)) _⟩
  rw [← dC_setAt _ _ _ ht h10]; exact h.blk.set_ _ _
theorem DSt.setH (h : DSt w0 w g A c ps now hd) {r : Nat} (hr : r < 144) (x : Int) : DSt w0 (w.setCell ⟨g, 11 + r, none⟩ (.int .i64 x)) g A c ps now (updH hd r x) := by
  refine ⟨?_, h.lo, h.k.setCell (fun hh => absurd hh (by have := h.lo; simp; omega)) _⟩
  rw [← dC_setH _ _ _ hr]; exact h.blk.set_ _ _
end
def holdF (ps : List (List Stage)) (now : List Int) (t : Nat) (x : Int) (hd : Nat → Int) : Nat → Int := if 0 ≤ secNow ps now t then updH hd (secNow ps now t).toNat x else hd

set_option maxRecDepth 100000 in
set_option maxHeartbeats 1000000 in
theorem hold_any (w0 w : World) (g : Nat) (A : Option Addr) (c : Nat) (ps : List (List Stage)) (now : List Int) (hd : Nat → Int) (t : Nat) (x : Int) (hP : RPaths w0 (Old w0) [.slice A ps.length c] ps) (hv : valid ps = true) (hG : -1 ≤ nowAt now t ∧ nowAt now t ≤ lenAt ps t) (ht : t < ps.length) (h : DSt w0 w g A c ps now hd) :
    Calls Tryz.prog 80 #[.pointer (some ⟨g, 0, none⟩), .int .i64 (t : Int), .int .i64 x] w fun e w' => e = .returned (.tuple #[]) ∧ DSt w0 w' g A c ps now (holdF ps now t x hd) ∧ Keeps (· = g) w w' := by
  have hc := hP.caps
  have hl10 := (valid_lens hv).1
  have c0 := h.c0
  have ca := h.cat (t := t) (by omega)
  have hgz := h.lt
  obtain ⟨b, o, p, A', c', hbo, hbl, hp, k1, hr⟩ := RSS.atK h.k hP ht
  subst hbo
  have hcp := hr.caps
  have h64 := lenAt_le hv t
  rw [lenAt_of hp] at hG h64
  have HSN : Hid (secNow ps now t = secAt p (nowAt now t)) := by show _ = _; unfold secNow; rw [hp]; rfl
  have H := Lib.hid h
  have HPP := Lib.hid hp
  generalize nowAt now t = a at *
  have hw : IntKind.i64.wrap a = a := IntWalk.i64_in _ (by omega)
  clear h
  by_cases g1 : 0 ≤ a
  · obtain ⟨k, rfl⟩ := Int.eq_ofNat_of_zero_le g1
    have g1' : decide ((k : Int) ≥ 0) = true := by simp
    by_cases g2 : k < p.length
    · have g2' : decide ((k : Int) < (p.length : Int)) = true := by simp; omega
      obtain ⟨b3, o3, s, As, cs, hbo, hb3l, hs, m0, m1, m2, m3, hpts⟩ := RPath.atK H.out.k hr g2
      subst hbo
      have hst := valid_stage hv (List.mem_of_getElem? hp) (List.mem_of_getElem? hs)
      obtain ⟨n, hn, hn144⟩ := isRes_nat (stageOk_sec hst)
      rw [hn] at m0
      have HF : Hid (holdF ps now t x hd = updH hd n x) := by
        show _ = _
        have e : secAt p (k : Int) = (n : Int) := by unfold secAt; rw [if_neg (by omega)]; simp only [Int.toNat_natCast, hs]; exact hn
        unfold holdF; rw [HSN.out, e, if_pos (by omega)]; simp
      clear hr hpts hst hs hn hp HSN HPP
      go_enter Tryz.func80, Tryz.ntmps80
      go_wp2
      refine wp_region_lex (fun w' => ∃ x : Ext w, w' = x.val) [0, 1, 2, 3, 4, 5, 6, 7, 8, 9, 10, 11, 12, 13, 14, 15, 16] (by kernel_rfl) (by kernel_rfl) ⟨⟨_, (Keeps.refl _ _).drew⟩, rfl⟩ ?_
      have x0 := Ext.cell c0
      have x1 := Ext.cell k1
      have x2 := Ext.cell m0
      iterate 2 (refine lex_q _ rfl rfl rfl ?_; go_big_quiet_step (fail); refine wpQuiet_nil ?_)
      refine lex_nil _ rfl _ rfl rfl _ rfl ?_; go_simp
      iterate 10 (refine lex_q _ rfl rfl rfl ?_; go_big_quiet_step (fail); refine wpQuiet_nil ?_)
      refine lex_nil _ rfl _ rfl rfl _ rfl ?_; go_simp
      iterate 2 (refine lex_q _ rfl rfl rfl ?_; go_big_quiet_step (fail); refine wpQuiet_nil ?_)
      refine lex_a _ rfl rfl false (by kernel_rfl) ?_
      obtain ⟨wd, hwd⟩ : ∃ wd : World, wd = w.drew := ⟨_, rfl⟩
      have HD : Hid (DSt w0 wd g (some ⟨b, o, none⟩) c ps now hd) := by subst hwd; exact H.out.keep (Keeps.refl _ _).drew
      have KD : Hid (KeepsAll w wd) := by subst hwd; exact (Keeps.refl _ _).drew
      have y0 := HD.out.chd hn144
      have y1 := HD.out.blk.frozen (11 + n)
      rw [← hwd]
      clear hwd x0 x1 x2 c0 ca k1 m0 m1 m2 m3
      go_wp2
      (try refine ⟨fun h => (by cases h), ?_⟩)
      have HN : Hid (DSt w0 (wd.setCell ⟨g, 11 + n, none⟩ (.int .i64 x)) g (some ⟨b, o, none⟩) c ps now (updH hd n x)) := HD.out.setH hn144 x
      have KN : Hid (Keeps (· = g) w (wd.setCell ⟨g, 11 + n, none⟩ (.int .i64 x))) := Keeps.setCell (C := (· = g)) (KD.out.mono (fun _ _ h => h.elim)) (p := ⟨g, 11 + n, none⟩) (fun _ => rfl) _
      simp only [wpLex]
      refine NoPanic.normal ?_
      refine bodyPost_end (results_none rfl _ _ _) rfl ?_
      exact ⟨rfl, by rw [HF.out]; exact HN.out, KN.out⟩
    · have g2' : decide ((k : Int) < (p.length : Int)) = false := by simp; omega
      have HF : Hid (holdF ps now t x hd = hd) := by
        show _ = _
        have e : secAt p (k : Int) = -1 := by unfold secAt; rw [if_neg (by omega)]; simp only [Int.toNat_natCast]; rw [List.getElem?_eq_none (by omega)]
        unfold holdF; rw [HSN.out, e, if_neg (by omega)]
      clear hr hp HSN HPP
      go_enter Tryz.func80, Tryz.ntmps80
      go_wp2
      refine bodyPost_end (results_none rfl _ _ _) rfl ?_
      exact ⟨rfl, by rw [HF.out]; exact H.out, Keeps.refl _ _⟩
  · have g1' : decide (a ≥ 0) = false := by simp; omega
    have HF : Hid (holdF ps now t x hd = hd) := by
      show _ = _
      have e : secAt p a = -1 := by unfold secAt; rw [if_pos (by omega)]
      unfold holdF; rw [HSN.out, e, if_neg (by omega)]
    clear hr hp HSN HPP
    go_enter Tryz.func80, Tryz.ntmps80
    go_wp2
    refine bodyPost_end (results_none rfl _ _ _) rfl ?_
    exact ⟨rfl, by rw [HF.out]; exact H.out, Keeps.refl _ _⟩

end Go.Proofs.YtbfgmbakeofcbaaGreat
