/- Contract of the graph's addOrder. Conditions: as the theorem says. Contract of the reference's Check. Conditions: as the theorem says. Contract of precedence.proper. Conditions: as the theorem says. Maps whose keys are of Go's type int: what a lookup, a store and len do, in terms of the function that the map is. Conditions: as each theorem says. Contract of precedence.Check: it returns what the reference's Check returns. Conditions: as the theorem says. Contract of newGraph. Conditions: as each theorem says. -/
import Derived.Test.YtcbcegdidlefiaaGreatK03
import Derived.Test.YtcbcegdidlefiaaGreatK04
import Derived.Test.YtcbcegdidlefiaaGreatK01
namespace Go.Proofs.YtcbcegdidlefiaaGreat
open Go.RowKit

/-- the graph under construction: world w2 is the one in which its arcs were made -/
structure GSt (w2 wr : World) (g B : Nat) (ps : List (List Stage)) (at_ : List Int) (v0 v1 v2 v3 : Value) (vs : List Value) (adds : List (Nat × GArc)) : Prop where
  gb : GrB w2 (fun b => b < w2.heap.size ∧ b ≠ B) g ps at_ v0 v1 v2 v3 (.slice (some ⟨B, 0, none⟩) (evs ps).length (evs ps).length)
  ne : g ≠ B
  k : Keeps (fun b => b = B) w2 wr
  rows : Rows 437 439 2 RGArc wr w2.heap.size B vs (arcsOf (evs ps).length adds)
section
variable {w2 wr w' : World} {g B : Nat} {ps : List (List Stage)} {at_ : List Int} {v0 v1 v2 v3 : Value} {vs : List Value} {adds : List (Nat × GArc)}
theorem GSt.lt (h : GSt w2 wr g B ps at_ v0 v1 v2 v3 vs adds) : g < w2.heap.size ∧ B < w2.heap.size ∧ w2.heap.size ≤ wr.heap.size := ⟨h.gb.b.lt, h.rows.nb, h.k.size⟩
theorem GSt.keep (h : GSt w2 wr g B ps at_ v0 v1 v2 v3 vs adds) (k : KeepsAll wr w') : GSt w2 w' g B ps at_ v0 v1 v2 v3 vs adds :=
  ⟨h.gb, h.ne, h.k.trans k (fun _ _ h => h.elim), h.rows.keeps RGArc.flat k (by simp) (by simp)⟩
theorem GSt.set_ (h : GSt w2 wr g B ps at_ v0 v1 v2 v3 vs adds) {p : Addr} (u : Value) (hp : w2.heap.size ≤ p.block) (hn : ∀ (i : Nat) v, vs[i]? = some v → v.ownBlock ≠ some p.block) : GSt w2 (wr.setCell p u) g B ps at_ v0 v1 v2 v3 vs adds := by
  have k : Keeps (fun b => b = p.block) wr (wr.setCell p u) := (Keeps.refl (fun b => b = p.block) wr).setCell (fun _ => rfl) _
  have hB := h.rows.nb
  refine ⟨h.gb, h.ne, h.k.setCell (fun h => by omega) _, ⟨h.rows.blk.kept k (by omega), h.rows.len, fun i v l hv hl => (h.rows.own i v l hv hl).keepsF RGArc.flat k (fun b hb e => hn i v hv (by rw [hb, e])), h.rows.ne, h.rows.nb⟩⟩
end
/-- besides: the box of the order in block q, the releases in block q + 1 -/
structure AInv (w2 wr : World) (g B : Nat) (ps : List (List Stage)) (at_ : List Int) (v0 v1 v2 v3 : Value) (vs : List Value) (adds : List (Nat × GArc)) (q : Nat) (o : Order) (Au : Option Addr) (cu : Nat) (rel : List Int) : Prop where
  s : GSt w2 wr g B ps at_ v0 v1 v2 v3 vs adds
  box : Blk wr q 245 #[.int .i64 o.res, .slice Au o.uses.length cu]
  rel : Blk wr (q + 1) 3 (cellsI rel)
  hq : w2.heap.size ≤ q
  own : ∀ (i : Nat) v b, vs[i]? = some v → v.ownBlock = some b → b ≠ q ∧ b ≠ q + 1
section
variable {w2 wr w' : World} {g B : Nat} {ps : List (List Stage)} {at_ : List Int} {v0 v1 v2 v3 : Value} {vs : List Value} {adds : List (Nat × GArc)} {q : Nat} {o : Order} {Au : Option Addr} {cu : Nat} {rel : List Int}
theorem AInv.keep (h : AInv w2 wr g B ps at_ v0 v1 v2 v3 vs adds q o Au cu rel) (k : KeepsAll wr w') : AInv w2 w' g B ps at_ v0 v1 v2 v3 vs adds q o Au cu rel :=
  ⟨h.s.keep k, h.box.kept k (by simp), h.rel.kept k (by simp), h.hq, h.own⟩
theorem AInv.set_ (h : AInv w2 wr g B ps at_ v0 v1 v2 v3 vs adds q o Au cu rel) (n : Nat) (x : Int) : AInv w2 (wr.setCell ⟨q + 1, n, none⟩ (.int .i64 x)) g B ps at_ v0 v1 v2 v3 vs adds q o Au cu (rel.set n x) :=
  ⟨h.s.set_ _ (by have := h.hq; show _ ≤ q + 1; omega) (fun i v hv e => (h.own i v _ hv e).2 rfl), h.box.far (by simp) _, by rw [← cellsI_set]; exact h.rel.set_ n _, h.hq, h.own⟩
/-- an arc is added: row i has grown -/
theorem AInv.push {i : Nat} {v v' : Value} {l : List GArc} {a : GArc} (h : AInv w2 wr g B ps at_ v0 v1 v2 v3 vs adds q o Au cu rel) (hv : vs[i]? = some v) (hl : (arcsOf (evs ps).length adds)[i]? = some l)
    (ho : OwnL 439 2 RGArc w' w2.heap.size w2.heap.size v' (l ++ [a])) (hk : Keeps (fun b => v.ownBlock = some b) wr w') (hn : v'.ownBlock = v.ownBlock ∨ v'.ownBlock = some wr.heap.size) :
    AInv w2 (w'.setCell ⟨B, i, none⟩ v') g B ps at_ v0 v1 v2 v3 (vs.set i v') (adds ++ [(i, a)]) q o Au cu rel := by
  have hr := h.s.rows.push RGArc.flat hv hl h.s.k.size ho hk hn
  rw [← arcsOf_push _ _ _ hl] at hr
  have hB := h.s.rows.nb
  have hq := h.hq
  have hq1 := h.rel.lt
  have hown := h.s.rows.own i v l hv hl
  refine ⟨⟨h.s.gb, h.s.ne, ?_, hr⟩, ?_, ?_, h.hq, fun j u b hu hb => ?_⟩
  · exact (h.s.k.trans hk (fun x hx e => by have := hown.lt e; omega)).setCell (fun _ => rfl) _
  · exact (h.box.kept hk (fun e => (h.own i v q hv e).1 rfl)).far (by show q ≠ B; omega) _
  · exact (h.rel.kept hk (fun e => (h.own i v (q + 1) hv e).2 rfl)).far (by show q + 1 ≠ B; omega) _
  · by_cases e : i = j
    · subst e
      rw [List.getElem?_set_self (getElem?_lt hv)] at hu
      injection hu with hu; subst hu
      rcases hn with hn | hn
      · exact h.own i v b hv (by rw [← hn]; exact hb)
      · rw [hn] at hb; injection hb with hb; omega
    · rw [List.getElem?_set_ne e] at hu
      exact h.own j u b hu hb
end

/-- what the loop over the uses has still to add -/
def AddSt (ps : List (List Stage)) (o : Order) (j : Nat) (rel : List Int) (pre : List (Nat × GArc)) : Prop :=
  rel.length = ps.length ∧ (∀ x ∈ rel, -1 ≤ x ∧ x ≤ 1000000) ∧ orderAdds ps o = pre ++ useAdds ps o.res (o.uses.drop j) rel

theorem relOf_range {ps : List (List Stage)} {r : Int} {t k : Nat} : (relOf ps r ⟨(t : Int), (k : Int)⟩).tr = t ∧ ((relOf ps r ⟨(t : Int), (k : Int)⟩).st = k ∨ (relOf ps r ⟨(t : Int), (k : Int)⟩).st = (k : Int) + 1) := by
  unfold relOf; split <;> simp
theorem AddSt.step {ps : List (List Stage)} {o : Order} {j t k : Nat} {rel : List Int} {pre : List (Nat × GArc)} (h : AddSt ps o j rel pre) (hu : o.uses[j]? = some ⟨(t : Int), (k : Int)⟩) (hf : fst ps t ≤ 100000) (hk : k ≤ 100000) :
    AddSt ps o (j + 1) (rel.set t ((fst ps t : Int) + (relOf ps o.res ⟨(t : Int), (k : Int)⟩).st)) (pre ++ relArcs (fst ps t + k) (t : Int) rel) := by
  obtain ⟨h1, h2, h3⟩ := h
  obtain ⟨r1, r2⟩ := relOf_range (ps := ps) (r := o.res) (t := t) (k := k)
  have e : ((num ps (relOf ps o.res ⟨(t : Int), (k : Int)⟩) : Nat) : Int) = (fst ps t : Int) + (relOf ps o.res ⟨(t : Int), (k : Int)⟩).st := by
    unfold num; rw [r1]; simp; omega
  refine ⟨by simpa using h1, fun x hx => ?_, ?_⟩
  · rcases List.mem_or_eq_of_mem_set hx with h' | rfl
    · exact h2 x h'
    · omega
  · rw [h3, drop_cons' hu, useAdds, List.append_assoc, ← e]
    simp [num]

theorem filt_le {n i : Nat} {adds : List (Nat × GArc)} {l : List GArc} (h : (arcsOf n adds)[i]? = some l) : l.length ≤ adds.length := by
  have hi : i < n := by have := getElem?_lt h; rwa [arcsOf_len] at this
  rw [arcsOf_at n adds hi] at h
  injection h with h; subst h
  rw [List.length_map]; exact List.length_filter_le _ _
/-- the row that an arc is added to -/
theorem GSt.row {w2 wr : World} {g B : Nat} {ps : List (List Stage)} {at_ : List Int} {v0 v1 v2 v3 : Value} {vs : List Value} {adds : List (Nat × GArc)} (h : GSt w2 wr g B ps at_ v0 v1 v2 v3 vs adds) {i : Nat} (hi : i < (evs ps).length) (hb : adds.length ≤ 1000000000) :
    ∃ A c l, vs[i]? = some (.slice A l.length c) ∧ (arcsOf (evs ps).length adds)[i]? = some l ∧ OwnL 439 2 RGArc wr w2.heap.size w2.heap.size (.slice A l.length c) l ∧ wr.cell? ⟨B, i, none⟩ = some (.slice A l.length c) ∧ wr.frozen? ⟨B, i, none⟩ = false ∧ l.length ≤ 1000000000 ∧ l.length ≤ c ∧ c ≤ 9223372036854775807 := by
  obtain ⟨v, l, h1, h2, h3, h4, h5⟩ := h.rows.get (i := i) (by rw [arcsOf_len]; exact hi)
  obtain ⟨A, c, rfl, hc, hc2⟩ := h3.form
  exact ⟨A, c, l, h1, h2, h3, h4, h5, Nat.le_trans (filt_le h2) hb, hc, hc2⟩

/-- besides: the box of the use in block z -/
structure UInv (w2 wr : World) (g B : Nat) (ps : List (List Stage)) (at_ : List Int) (v0 v1 v2 v3 : Value) (vs : List Value) (adds : List (Nat × GArc)) (q : Nat) (o : Order) (Au : Option Addr) (cu : Nat) (rel : List Int) (z t k : Nat) : Prop where
  a : AInv w2 wr g B ps at_ v0 v1 v2 v3 vs adds q o Au cu rel
  bz : Blk wr z 247 #[.int .i64 (t : Int), .int .i64 (k : Int)]
  hz : q + 1 < z
  own : ∀ (i : Nat) v b, vs[i]? = some v → v.ownBlock = some b → b ≠ z
section
variable {w2 wr w' : World} {g B : Nat} {ps : List (List Stage)} {at_ : List Int} {v0 v1 v2 v3 : Value} {vs : List Value} {adds : List (Nat × GArc)} {q : Nat} {o : Order} {Au : Option Addr} {cu : Nat} {rel : List Int} {z t k : Nat}
theorem UInv.keep (h : UInv w2 wr g B ps at_ v0 v1 v2 v3 vs adds q o Au cu rel z t k) (k' : KeepsAll wr w') : UInv w2 w' g B ps at_ v0 v1 v2 v3 vs adds q o Au cu rel z t k := ⟨h.a.keep k', h.bz.kept k' (by simp), h.hz, h.own⟩
theorem UInv.push {i : Nat} {v v' : Value} {l : List GArc} {a : GArc} (h : UInv w2 wr g B ps at_ v0 v1 v2 v3 vs adds q o Au cu rel z t k) (hv : vs[i]? = some v) (hl : (arcsOf (evs ps).length adds)[i]? = some l)
    (ho : OwnL 439 2 RGArc w' w2.heap.size w2.heap.size v' (l ++ [a])) (hk : Keeps (fun b => v.ownBlock = some b) wr w') (hn : v'.ownBlock = v.ownBlock ∨ v'.ownBlock = some wr.heap.size) :
    UInv w2 (w'.setCell ⟨B, i, none⟩ v') g B ps at_ v0 v1 v2 v3 (vs.set i v') (adds ++ [(i, a)]) q o Au cu rel z t k := by
  have hB := h.a.s.rows.nb
  have hq := h.a.hq
  have hz := h.hz
  have hz2 := h.bz.lt
  refine ⟨h.a.push hv hl ho hk hn, (h.bz.kept hk (fun e => h.own i v z hv e rfl)).far (by show z ≠ B; omega) _, h.hz, fun j u b hu hb => ?_⟩
  by_cases e : i = j
  · subst e
    rw [List.getElem?_set_self (getElem?_lt hv)] at hu
    injection hu with hu; subst hu
    rcases hn with hn | hn
    · exact h.own i v b hv (by rw [← hn]; exact hb)
    · rw [hn] at hb; injection hb with hb; omega
  · rw [List.getElem?_set_ne e] at hu
    exact h.own j u b hu hb
end

theorem next_res {ps : List (List Stage)} {os : List Order} {k r : Nat} (hk : k ≤ os.length) (h : (os.take k).map (·.res) = resTo ps r) (hr : r < 144) (hu : (r : Int) ∈ usesAll ps) (he : os.map (·.res) = resTo ps 144) : ∃ o, os[k]? = some o ∧ o.res = r := by
  have hs : resTo ps (r + 1) = resTo ps r ++ [(r : Int)] := by rw [resTo, if_pos hu]
  obtain ⟨l, hl⟩ := resTo_le ps (r + 1) 144 (by omega)
  rw [hs] at hl
  have hlen : (resTo ps r).length = k := by rw [← h]; simp; omega
  have h1 : (os.map (·.res))[k]? = some (r : Int) := by
    rw [he, hl, List.getElem?_append_left (by simp; omega), List.getElem?_append_right (by omega), hlen]
    simp
  rw [List.getElem?_map] at h1
  cases e : os[k]? with
  | none => rw [e] at h1; simp at h1
  | some o => rw [e] at h1; simp at h1; exact ⟨o, rfl, h1⟩
def CkInv (ps : List (List Stage)) (os : List Order) (k r : Nat) : Prop := (os.take k).map (·.res) = resTo ps r ∧ (os.take k).all (fun o => exactlyB o.uses (allU ps o.res)) = true
theorem CkInv.skip {ps : List (List Stage)} {os : List Order} {k r : Nat} (h : CkInv ps os k r) (hn : (allU ps r).length = 0) : CkInv ps os k (r + 1) := by
  refine ⟨?_, h.2⟩
  rw [resTo, if_neg (allU_nil_iff.1 (List.eq_nil_of_length_eq_zero hn)), List.append_nil]; exact h.1
theorem allU_pos {ps : List (List Stage)} {r : Int} (h : (allU ps r).length ≠ 0) : r ∈ usesAll ps := by
  rcases Classical.em (r ∈ usesAll ps) with h' | h'
  · exact h'
  · exact absurd (by rw [allU_nil_iff.2 h']; rfl) h
theorem CkInv.step {ps : List (List Stage)} {os : List Order} {k r : Nat} {o : Order} (h : CkInv ps os k r) (hn : (allU ps r).length ≠ 0) (ho : os[k]? = some o) (hr : o.res = r) (hx : exactlyB o.uses (allU ps r) = true) : CkInv ps os (k + 1) (r + 1) := by
  refine ⟨?_, ?_⟩
  · rw [resTo, if_pos (allU_pos hn), List.take_add_one, ho, Option.toList_some, List.map_append, h.1]; simp [hr]
  · rw [List.take_add_one, ho, Option.toList_some, List.all_append, h.2]; simp [hr, hx]
theorem CkInv.other {ps : List (List Stage)} {os : List Order} {k r : Nat} {o : Order} (h : CkInv ps os k r) (hr : r < 144) (hn : (allU ps r).length ≠ 0) (ho : os[k]? = some o) (hne : o.res ≠ r) : checkO ps os = false := by
  rcases Bool.eq_false_or_eq_true (checkO ps os) with e | e
  · simp only [checkO, Bool.and_eq_true, decide_eq_true_eq] at e
    obtain ⟨o', ho', h2⟩ := next_res (Nat.le_of_lt (getElem?_lt ho)) h.1 hr (allU_pos hn) e.1.2
    rw [ho] at ho'; injection ho' with ho'; subst ho'; exact absurd h2 hne
  · exact e
theorem CkInv.done {ps : List (List Stage)} {os : List Order} {k : Nat} (hv : valid ps = true) (hk : k ≤ os.length) (h : CkInv ps os k 144) : checkO ps os = ((k : Int) == (os.length : Int)) := by
  by_cases e : k = os.length
  · subst e
    have h1 := h.1; have h2 := h.2
    rw [List.take_length] at h1 h2
    simp [checkO, hv, h1, h2]
  · have h3 : ((k : Int) == (os.length : Int)) = false := by simp; omega
    rw [h3]
    have : os.map (·.res) ≠ resTo ps 144 := by
      rw [← h.1]; intro he
      have := congrArg List.length he
      simp at this; omega
    simp [checkO, this]

structure PrInv (w wr : World) (o : Order) (Au : Option Addr) (cu : Nat) (last : List Int) : Prop where
  b0 : Blk wr w.heap.size 245 #[.int .i64 o.res, .slice Au o.uses.length cu]
  b1 : Blk wr (w.heap.size + 1) 3 (cellsI last)
  k : KeepsAll w wr
theorem PrInv.keep {w wr w' : World} {o : Order} {Au : Option Addr} {cu : Nat} {last : List Int} (h : PrInv w wr o Au cu last) (k : KeepsAll wr w') : PrInv w w' o Au cu last :=
  ⟨h.b0.kept k (by simp), h.b1.kept k (by simp), h.k.tr k⟩
theorem PrInv.set_ {w wr : World} {o : Order} {Au : Option Addr} {cu : Nat} {last : List Int} (h : PrInv w wr o Au cu last) (n : Nat) (x : Int) : PrInv w (wr.setCell ⟨w.heap.size + 1, n, none⟩ (.int .i64 x)) o Au cu (last.set n x) :=
  ⟨h.b0.far (by simp) _, by rw [← cellsI_set]; exact h.b1.set_ n _, h.k.setCell (by simp) _⟩
def PrSt (ps : List (List Stage)) (o : Order) (j : Nat) (last : List Int) : Prop := last.length = ps.length ∧ (∀ x ∈ last, -1 ≤ x) ∧ properB ps o = properFrom ps o.res (o.uses.drop j) last
theorem PrSt.bad {ps : List (List Stage)} {o : Order} {j : Nat} {last : List Int} {u : Ref} (h : PrSt ps o j last) (hu : o.uses[j]? = some u) (hf : useFits ps o.res last u = false) : properB ps o = false := by
  rw [h.2.2, drop_cons' hu, properFrom, hf]; rfl
theorem PrSt.step {ps : List (List Stage)} {o : Order} {j : Nat} {last : List Int} {u : Ref} (h : PrSt ps o j last) (hu : o.uses[j]? = some u) (hf : useFits ps o.res last u = true) : PrSt ps o (j + 1) (last.set u.tr.toNat u.st) := by
  have hs := ((useFits_iff h.1 h.2.1 u).1 hf).1
  obtain ⟨t, k, _, _, _, _, _, rfl⟩ := mem_allU.1 hs
  refine ⟨by simpa using h.1, fun x hx => ?_, ?_⟩
  · rcases List.mem_or_eq_of_mem_set hx with h' | rfl
    · exact h.2.1 x h'
    · show (-1 : Int) ≤ (k : Int); omega
  · rw [h.2.2, drop_cons' hu, properFrom, hf]; rfl

def keysOf (es : List MapEntry) (ks : List Int) : Prop := es.map (·.key) = ks.map fun k => Value.int .i64 k
def look : List MapEntry → Int → Option Value
  | [], _ => none
  | e :: es, k => match e.key with | .int .i64 x => if k = x then some e.val else look es k | _ => look es k
/-- block r is a map with keys ks (each once) that is the function f -/
structure MapIs (w : World) (r : Nat) (ks : List Int) (f : Int → Option Value) : Prop where
  ex : ∃ es clock, w.heap[r]? = some (.map es clock) ∧ keysOf es.toList ks ∧ ks.Nodup ∧ ∀ k, look es.toList k = f k

theorem findNow_int (k : Int) : ∀ (es : List MapEntry) (ks : List Int) (i : Nat), keysOf es ks → ∃ j, Instr.findNow (.int .i64) (.int .i64 k) es i = some ((look es k).map fun v => (j, v)) ∧ ((look es k).isSome = true → i ≤ j ∧ j < i + es.length ∧ ∃ e, es[j - i]? = some e ∧ e.key = .int .i64 k)
  | [], ks, i, _ => ⟨0, rfl, fun h => by simp [look] at h⟩
  | e :: es, [], i, h => by simp [keysOf] at h
  | e :: es, x :: ks, i, h => by
    simp only [keysOf, List.map_cons, List.cons.injEq] at h
    obtain ⟨hk, hr⟩ := h
    by_cases hkx : k = x
    · subst hkx
      refine ⟨i, ?_, fun _ => ⟨Nat.le_refl _, by simp, e, by simp, hk⟩⟩
      simp [Instr.findNow, Instr.sameNow, look, hk]
    · obtain ⟨j, h1, h2⟩ := findNow_int k es ks (i + 1) hr
      have hl : look (e :: es) k = look es k := by simp [look, hk, hkx]
      refine ⟨j, ?_, fun hs => ?_⟩
      · rw [hl]
        simp only [Instr.findNow, Instr.sameNow, hk]
        have : (k == x) = false := by simpa using hkx
        simp only [if_true, this]
        exact h1
      · rw [hl] at hs
        obtain ⟨a, b, e', c, d⟩ := h2 hs
        refine ⟨by omega, by simp; omega, e', ?_, d⟩
        have : j - i = (j - (i + 1)) + 1 := by omega
        rw [this]; simpa using c

section
variable {P : Program} {t K E : TypeId} {w : World} {r : Nat} {ks : List Int} {f : Int → Option Value}

theorem MapIs.lt (h : MapIs w r ks f) : r < w.heap.size := by
  obtain ⟨es, clock, h1, _⟩ := h.ex; exact (Array.getElem?_eq_some_iff.1 h1).1
theorem MapIs.kept {C : Foot} {w' : World} (h : MapIs w r ks f) (k : Keeps C w w') (hn : ¬ C r) : MapIs w' r ks f := by
  obtain ⟨es, clock, h1, h2⟩ := h.ex; exact ⟨es, clock, (k.block r h.lt hn).trans h1, h2⟩
theorem MapIs.new (w : World) : MapIs (w.alloc (.map #[] 0)) w.heap.size [] (fun _ => none) :=
  ⟨#[], 0, heap_alloc_new w _, rfl, List.nodup_nil, fun _ => rfl⟩

theorem run_checkKey_int (hK : P.underlying K = some (.int .i64)) (b : Bool) (n : Nat) (k : Int) : (Instr.checkKey b (n + 1) K (.int .i64 k)).run P w = .ok () w := by
  simp [Instr.checkKey, run_underlying hK]

theorem MapIs.lookup (h : MapIs w r ks f) (ht : P.underlying t = some (.map K E)) (hK : P.underlying K = some (.int .i64)) {z : Value} (hz : (zeroValue E).run P w = .ok z w) (k : Int) :
    (Instr.lookup t (.map (some r)) (.int .i64 k) false).run P w = .ok ((f k).getD z) w ∧ (Instr.lookup t (.map (some r)) (.int .i64 k) true).run P w = .ok (.tuple #[(f k).getD z, .bool (f k).isSome]) w := by
  obtain ⟨es, clock, h1, h2, h3, h4⟩ := h.ex
  obtain ⟨j, hj, _⟩ := findNow_int k es.toList ks 0 h2
  rw [h4 k] at hj
  have hc : ∀ b, (Instr.checkKey b 10000 K (.int .i64 k)).run P w = .ok () w := fun b => run_checkKey_int hK b 9999 k
  have hg : (getObj r).run P w = .ok (.map es clock) w := by simp [getObj, Sem.run, h1]
  cases hf : f k with
  | none =>
    rw [hf] at hj
    simp only [Option.map_none] at hj
    constructor <;> simp [Instr.lookup, run_underlying ht, hg, hc, Instr.findKey, run_underlying hK, hj, hz]
  | some v =>
    rw [hf] at hj
    simp only [Option.map_some] at hj
    constructor <;> simp [Instr.lookup, run_underlying ht, hg, hc, Instr.findKey, run_underlying hK, hj]
def setF (f : Int → Option Value) (k : Int) (v : Value) : Int → Option Value := fun x => if x = k then some v else f x

theorem look_append (k : Int) : ∀ (es : List MapEntry) (ks : List Int) (e : MapEntry) (x : Int), keysOf es ks → e.key = .int .i64 x → look (es ++ [e]) k = match look es k with | some v => some v | none => if k = x then some e.val else none
  | [], _, e, x, _, he => by simp [look, he]
  | a :: es, [], e, x, h, _ => by simp [keysOf] at h
  | a :: es, y :: ks, e, x, h, he => by
    simp only [keysOf, List.map_cons, List.cons.injEq] at h
    obtain ⟨hk, hr⟩ := h
    by_cases hky : k = y
    · simp [look, hk, hky]
    · simp only [List.cons_append, look, hk, hky, if_false]
      exact look_append k es ks e x hr he
theorem look_none (k : Int) : ∀ (es : List MapEntry) (ks : List Int), keysOf es ks → (look es k = none ↔ k ∉ ks)
  | [], [], _ => by simp [look]
  | [], _ :: _, h => by simp [keysOf] at h
  | a :: es, [], h => by simp [keysOf] at h
  | a :: es, y :: ks, h => by
    simp only [keysOf, List.map_cons, List.cons.injEq] at h
    obtain ⟨hk, hr⟩ := h
    have ih := look_none k es ks hr
    by_cases hky : k = y
    · simp [look, hk, hky]
    · simp only [look, hk, hky, if_false, ih, List.mem_cons, false_or]
theorem look_modify (k : Int) (v : Value) (k' : Int) : ∀ (es : List MapEntry) (ks : List Int) (j : Nat) (e : MapEntry), keysOf es ks → ks.Nodup → es[j]? = some e → e.key = .int .i64 k →
    look (es.modify j fun e => { e with key := .int .i64 k, val := v }) k' = (if k' = k then some v else look es k') ∧ keysOf (es.modify j fun e => { e with key := .int .i64 k, val := v }) ks
  | [], ks, j, e, _, _, h, _ => by simp at h
  | a :: es, [], j, e, h, _, _, _ => by simp [keysOf] at h
  | a :: es, y :: ks, 0, e, h, hn, he, hek => by
    simp only [keysOf, List.map_cons, List.cons.injEq] at h
    obtain ⟨hk, hr⟩ := h
    simp at he; subst he
    have hyk : y = k := by rw [hk] at hek; injection hek
    subst hyk
    constructor
    · simp only [List.modify_zero_cons, look, hk]
      by_cases h' : k' = y <;> simp [h']
    · simp only [List.modify_zero_cons, keysOf, List.map_cons, List.cons.injEq, true_and]
      exact hr
  | a :: es, y :: ks, j + 1, e, h, hn, he, hek => by
    simp only [keysOf, List.map_cons, List.cons.injEq] at h
    obtain ⟨hk, hr⟩ := h
    have he' : es[j]? = some e := by simpa using he
    obtain ⟨h1, h2⟩ := look_modify k v k' es ks j e hr (List.nodup_cons.1 hn).2 he' hek
    have hne : y ≠ k := by
      rintro rfl
      have hmem : e.key ∈ es.map (·.key) := List.mem_map_of_mem (List.mem_of_getElem? he')
      rw [hr, hek] at hmem
      obtain ⟨z, hz, hzz⟩ := List.mem_map.1 hmem
      injection hzz with _ hzz
      subst hzz
      exact (List.nodup_cons.1 hn).1 hz
    constructor
    · simp only [List.modify_succ_cons, look, hk, h1]
      by_cases h' : k' = y
      · subst h'; simp [hne]
      · simp [h']
    · simp only [List.modify_succ_cons, keysOf, List.map_cons, hk, List.cons.injEq, true_and]
      exact h2

theorem MapIs.update (h : MapIs w r ks f) (ht : P.underlying t = some (.map K E)) (hK : P.underlying K = some (.int .i64)) (k : Int) (v : Value) :
    ∃ w', (Instr.mapUpdate t (.map (some r)) (.int .i64 k) v).run P w = .ok () w' ∧ MapIs w' r (if k ∈ ks then ks else ks ++ [k]) (setF f k v) ∧ Keeps (· = r) w w' ∧ w'.heap.size = w.heap.size := by
  obtain ⟨es, clock, h1, h2, h3, h4⟩ := h.ex
  obtain ⟨j, hj, hj2⟩ := findNow_int k es.toList ks 0 h2
  have hc : ∀ b, (Instr.checkKey b 10000 K (.int .i64 k)).run P w = .ok () w := fun b => run_checkKey_int hK b 9999 k
  have hg : (getObj r).run P w = .ok (.map es clock) w := by simp [getObj, Sem.run, h1]
  have hs : ∀ o, (setObj r o).run P w = .ok () { w with heap := w.heap.setIfInBounds r o } := fun o => by simp [setObj, Sem.run, h1]
  have hlt := h.lt
  have kk : ∀ o, Keeps (· = r) w { w with heap := w.heap.setIfInBounds r o } := fun o => ⟨rfl, rfl, rfl, by simp, fun i _ hn => by simp [Ne.symm hn]⟩
  have hnew : ∀ o, ({ w with heap := w.heap.setIfInBounds r o } : World).heap[r]? = some o := fun o => by simp [hlt]
  have hno := look_none k es.toList ks h2
  cases hl : look es.toList k with
  | none =>
    rw [hl] at hj
    simp only [Option.map_none] at hj
    have hnk := hno.1 hl
    refine ⟨_, by simp [Instr.mapUpdate, run_underlying ht, hg, hc, Instr.findKey, run_underlying hK, hj, hs]; rfl, ⟨_, _, hnew _, ?_, ?_, ?_⟩, kk _, by simp⟩
    · rw [if_neg hnk]; simp only [keysOf, Array.toList_push, List.map_append, List.map_cons, List.map_nil]
      unfold keysOf at h2; rw [h2]
    · rw [if_neg hnk]; exact List.nodup_append.2 ⟨h3, by simp, fun a ha b hb => by simp at hb; subst hb; intro e; subst e; exact hnk ha⟩
    · intro x
      rw [Array.toList_push, look_append x es.toList ks _ k h2 rfl, h4 x]
      unfold setF
      by_cases hx : x = k
      · subst hx; rw [← h4 x, hl]; try simp
      · simp [hx]; try (cases f x <;> rfl)
  | some u =>
    rw [hl] at hj
    simp only [Option.map_some] at hj
    obtain ⟨_, _, e, he, hek⟩ := hj2 (by rw [hl]; rfl)
    simp only [Nat.sub_zero] at he
    have hin : k ∈ ks := by
      rcases Classical.em (k ∈ ks) with h' | h'
      · exact h'
      · rw [hno.2 h'] at hl; cases hl
    have hes : es[j]? = some e := by simpa using he
    have hsb : Instr.sameBits 10000 (.int .i64 k) (.int .i64 k) = true := by simp [Instr.sameBits]
    have hm := fun k' => look_modify k v k' es.toList ks j e h2 h3 he hek
    refine ⟨_, by simp [Instr.mapUpdate, run_underlying ht, hg, hc, Instr.findKey, run_underlying hK, hj, hes, hek, Instr.keyThatStays, hsb, hs]; rfl, ⟨_, _, hnew _, ?_, ?_, ?_⟩, kk _, by simp⟩
    · rw [if_pos hin, Array.toList_modify]; exact (hm 0).2
    · rw [if_pos hin]; exact h3
    · intro x
      rw [Array.toList_modify, (hm x).1, h4 x]; rfl
theorem MapIs.len (h : MapIs w r ks f) (ht : P.underlying t = some (.map K E)) (ty : TypeId) : (Builtin.len_ #[t] ty #[.map (some r)]).run P w = .ok (.int .i64 ks.length) w := by
  obtain ⟨es, clock, h1, h2, _⟩ := h.ex
  have hg : (getObj r).run P w = .ok (.map es clock) w := by simp [getObj, Sem.run, h1]
  have hl : es.size = ks.length := by
    have := congrArg List.length h2; simpa using this
  simp [Builtin.len_, run_underlying ht, hg, hl, goInt]
end

def cntF (U : List Int) : Int → Option Value := fun r => if r ∈ U then some (.int .i64 (U.count r : Int)) else none
def keysU (U : List Int) : List Int := U.foldl (fun ks x => if x ∈ ks then ks else ks ++ [x]) []
theorem keysU_snoc (U : List Int) (x : Int) : keysU (U ++ [x]) = if x ∈ keysU U then keysU U else keysU U ++ [x] := by
  unfold keysU; rw [List.foldl_append]; rfl
theorem cntF_get (U : List Int) (r : Int) : (cntF U r).getD (.int .i64 0) = .int .i64 (U.count r : Int) := by
  unfold cntF
  by_cases h : r ∈ U
  · simp [h]
  · simp [h, List.count_eq_zero.2 h]
theorem cntF_snoc (U : List Int) (x : Int) : setF (cntF U) x (.int .i64 ((U.count x : Int) + 1)) = cntF (U ++ [x]) := by
  funext r
  unfold setF cntF
  by_cases h : r = x
  · subst h; simp [List.count_append]
  · have : (U ++ [x]).count r = U.count r := by
      have h0 : [x].count r = 0 := List.count_eq_zero.2 (by simpa using h)
      rw [List.count_append]; omega
    simp [h, this]
theorem mem_keysU_aux (x : Int) : ∀ (U ks : List Int), x ∈ U.foldl (fun ks x => if x ∈ ks then ks else ks ++ [x]) ks ↔ x ∈ ks ∨ x ∈ U
  | [], ks => by simp
  | a :: U, ks => by
    simp only [List.foldl_cons, mem_keysU_aux x U]
    by_cases h : a ∈ ks
    · simp only [h, if_true, List.mem_cons]
      constructor
      · rintro (h1 | h1)
        · exact .inl h1
        · exact .inr (.inr h1)
      · rintro (h1 | rfl | h1)
        · exact .inl h1
        · exact .inl h
        · exact .inr h1
    · simp only [h, if_false, List.mem_append, List.mem_cons, List.not_mem_nil, or_false, or_assoc]
theorem mem_keysU (x : Int) (U : List Int) : x ∈ keysU U ↔ x ∈ U := by unfold keysU; rw [mem_keysU_aux]; simp
theorem keysU_nodup (U : List Int) : (keysU U).Nodup := by
  have : ∀ (U ks : List Int), ks.Nodup → (U.foldl (fun ks x => if x ∈ ks then ks else ks ++ [x]) ks).Nodup := by
    intro U
    induction U with
    | nil => intro ks h; exact h
    | cons a U ih =>
      intro ks h
      simp only [List.foldl_cons]
      apply ih
      split
      · exact h
      · rename_i hn
        exact List.nodup_append.2 ⟨h, by simp, fun y hy z hz => by simp at hz; subst hz; rintro rfl; exact hn hy⟩
  exact this U [] List.nodup_nil
theorem resTo_nodup (ps : List (List Stage)) (n : Nat) : (resTo ps n).Nodup := (resTo_pw ps n).imp (fun h => by omega)
theorem keysU_len {ps : List (List Stage)} (hv : valid ps = true) : (keysU (usesAll ps)).length = (resTo ps 144).length := by
  have hm : ∀ x, x ∈ keysU (usesAll ps) ↔ x ∈ resTo ps 144 := fun x => by
    rw [mem_keysU, mem_resTo]
    constructor
    · intro h; have := valid_use hv h; exact ⟨h, this.1, by omega⟩
    · exact fun h => h.1
  have h1 := nodup_le (keysU_nodup (usesAll ps)) (fun x hx => (hm x).1 hx)
  have h2 := nodup_le (resTo_nodup ps 144) (fun x hx => (hm x).2 hx)
  omega

/-- what the program's loop over the orders has seen -/
def CpInv (ps : List (List Stage)) (os : List Order) (i : Nat) : Prop :=
  ((os.take i).map (·.res)).Pairwise (· < ·) ∧ ∀ o ∈ os.take i, o.res ∈ usesAll ps ∧ exactlyB o.uses (allU ps o.res) = true
theorem CpInv.step {ps : List (List Stage)} {os : List Order} {i : Nat} {o : Order} (h : CpInv ps os i) (ho : os[i]? = some o) (hl : ∀ q, 0 < i → os[i - 1]? = some q → q.res < o.res) (hu : o.res ∈ usesAll ps) (hx : exactlyB o.uses (allU ps o.res) = true) : CpInv ps os (i + 1) := by
  have e : os.take (i + 1) = os.take i ++ [o] := by rw [List.take_add_one, ho]; rfl
  refine ⟨?_, fun x hx' => ?_⟩
  · rw [e, List.map_append, List.pairwise_append]
    refine ⟨h.1, by simp, fun a ha b hb => ?_⟩
    simp at hb; subst hb
    by_cases hi : i = 0
    · subst hi; simp at ha
    · have hi1 : i - 1 < os.length := by have := getElem?_lt ho; omega
      have hq := hl _ (by omega) (List.getElem?_eq_getElem hi1)
      have e2 : os.take i = os.take (i - 1) ++ [os[i - 1]] := by
        conv => lhs; rw [show i = (i - 1) + 1 from by omega]
        rw [List.take_add_one, List.getElem?_eq_getElem hi1]; rfl
      have h1 := h.1
      rw [e2, List.map_append] at h1 ha
      rcases List.mem_append.1 ha with ha | ha
      · have := (List.pairwise_append.1 h1).2.2 a ha os[i - 1].res (by simp)
        omega
      · simp at ha; subst ha; exact hq
  · rw [e] at hx'
    rcases List.mem_append.1 hx' with h' | h'
    · exact h.2 x h'
    · simp at h'; subst h'; exact ⟨hu, hx⟩
theorem CpInv.done {ps : List (List Stage)} {os : List Order} (hv : valid ps = true) (hl : os.length = (keysU (usesAll ps)).length) (h : CpInv ps os os.length) : checkO ps os = true := by
  have h1 := h.1; have h2 := h.2
  rw [List.take_length] at h1 h2
  have hnd : (os.map (·.res)).Nodup := h1.imp (fun h => by omega)
  have hsub : ∀ x ∈ os.map (·.res), x ∈ resTo ps 144 := fun x hx => by
    obtain ⟨o, ho, rfl⟩ := List.mem_map.1 hx
    have hu := (h2 o ho).1
    have := valid_use hv hu
    exact (mem_resTo 144).2 ⟨hu, this.1, by omega⟩
  have hle : (resTo ps 144).length ≤ (os.map (·.res)).length := by rw [← keysU_len hv, List.length_map]; omega
  have e := pw_ext _ _ h1 (resTo_pw ps 144) (fun x => ⟨hsub x, nodup_full hnd hsub hle (resTo_nodup ps 144) x⟩)
  have h3 : os.all (fun o => exactlyB o.uses (allU ps o.res)) = true := List.all_eq_true.2 fun o ho => (h2 o ho).2
  simp [checkO, hv, e, h3]
theorem zeroInt (w : World) : (zeroValue 3).run Tryz.prog w = .ok (.int .i64 0) w := by kernel_rfl

structure CMap (w1 wr : World) (U : List Int) : Prop where
  m : MapIs wr w1.heap.size (keysU U) (cntF U)
  k : KeepsAll w1 wr
theorem CMap.keep {w1 wr w' : World} {U : List Int} (h : CMap w1 wr U) (k : KeepsAll wr w') : CMap w1 w' U := ⟨h.m.kept k (by simp), h.k.tr k⟩
theorem CMap.push {w1 wr : World} {U : List Int} (h : CMap w1 wr U) (x : Int) : ∃ w', (Instr.mapUpdate 332 (.map (some w1.heap.size)) (.int .i64 x) (.int .i64 ((U.count x : Int) + 1))).run Tryz.prog wr = .ok () w' ∧ CMap w1 w' (U ++ [x]) ∧ Keeps (· = w1.heap.size) wr w' := by
  obtain ⟨w', hr, hm, hk, hz⟩ := h.m.update (P := Tryz.prog) (t := 332) (E := 3) Tryz.underlying332 Tryz.underlying3 x (.int .i64 ((U.count x : Int) + 1))
  refine ⟨w', hr, ⟨?_, h.k.trans hk (fun y hy e => by omega)⟩, hk⟩
  rw [cntF_snoc] at hm
  rw [keysU_snoc]; exact hm
theorem CMap.look {w1 wr : World} {U : List Int} (h : CMap w1 wr U) (x : Int) : (Instr.lookup 332 (.map (some w1.heap.size)) (.int .i64 x) false).run Tryz.prog wr = .ok (.int .i64 (U.count x : Int)) wr := by
  have := (h.m.lookup (P := Tryz.prog) (t := 332) (E := 3) Tryz.underlying332 Tryz.underlying3 (zeroInt _) x).1
  rw [cntF_get] at this; exact this

/-- the first phase: events and the numbers of the first ones -/
structure P1 (w1 wr : World) (v0 v1 v2 v3 : Value) (fs : List Int) (es : List Ref) : Prop where
  b : Blk wr w1.heap.size 436 #[v0, v1, v2, v3, .slice none 0 0]
  f : OwnL 3 1 RInt wr (w1.heap.size + 1) (w1.heap.size + 1) v2 fs
  e : OwnL 247 2 RRef wr (w1.heap.size + 1) (w1.heap.size + 1) v3 es
  ne : ∀ b, v2.ownBlock = some b → v3.ownBlock ≠ some b
  k : KeepsAll w1 wr
section
variable {w1 wr w' : World} {v0 v1 v2 v3 v : Value} {fs : List Int} {es : List Ref}
theorem P1.keep (h : P1 w1 wr v0 v1 v2 v3 fs es) (k : KeepsAll wr w') : P1 w1 w' v0 v1 v2 v3 fs es :=
  ⟨h.b.kept k (by simp), h.f.keeps RInt.ok k (by simp), h.e.keeps RRef.ok k (by simp), h.ne, h.k.tr k⟩
end
theorem GSt.push {w2 wr w' : World} {g B : Nat} {ps : List (List Stage)} {at_ : List Int} {v0 v1 v2 v3 : Value} {vs : List Value} {adds : List (Nat × GArc)} {i : Nat} {v v' : Value} {l : List GArc} {a : GArc} (h : GSt w2 wr g B ps at_ v0 v1 v2 v3 vs adds) (hv : vs[i]? = some v) (hl : (arcsOf (evs ps).length adds)[i]? = some l)
    (ho : OwnL 439 2 RGArc w' w2.heap.size w2.heap.size v' (l ++ [a])) (hk : Keeps (fun b => v.ownBlock = some b) wr w') (hn : v'.ownBlock = v.ownBlock ∨ v'.ownBlock = some wr.heap.size) :
    GSt w2 (w'.setCell ⟨B, i, none⟩ v') g B ps at_ v0 v1 v2 v3 (vs.set i v') (adds ++ [(i, a)]) := by
  have hr := h.rows.push RGArc.flat hv hl h.k.size ho hk hn
  rw [← arcsOf_push _ _ _ hl] at hr
  exact ⟨h.gb, h.ne, (h.k.trans hk (fun x hx e => by have := (h.rows.own i v l hv hl).lt e; omega)).setCell (fun _ => rfl) _, hr⟩
/-- a finished graph -/
def GrR (w : World) (g : Nat) (ps : List (List Stage)) (at_ : List Int) (adds : List (Nat × GArc)) : Prop :=
  ∃ v0 v1 v2 v3 v4, GrB w (Old w) g ps at_ v0 v1 v2 v3 v4 ∧ RArcss w (Old w) [v4] (arcsOf (evs ps).length adds)
theorem GrR.keep {w w' : World} {g : Nat} {ps : List (List Stage)} {at_ : List Int} {adds : List (Nat × GArc)} (h : GrR w g ps at_ adds) (k : KeepsAll w w') : GrR w' g ps at_ adds := by
  obtain ⟨v0, v1, v2, v3, v4, h1, h2⟩ := h
  exact ⟨v0, v1, v2, v3, v4, h1.all k, k.rdo' RArcss.ok h2⟩

end Go.Proofs.YtcbcegdidlefiaaGreat
