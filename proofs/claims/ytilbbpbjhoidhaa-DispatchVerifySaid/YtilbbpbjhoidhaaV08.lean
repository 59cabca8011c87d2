/- Maps whose keys are of Go's type int: what a lookup, a store and len do, in terms of the function that the map is. Conditions: as each theorem says. Contract of precedence.Check: it returns what the reference's Check returns. Conditions: as the theorem says. Contract of newGraph. Conditions: as each theorem says. Contracts of the graph's ready and of what it calls. Conditions: as each theorem says. Contract of the graph's ready. Conditions: as the theorem says. Contract of the graph's line. Conditions: as the theorem says. Contracts of the graph's agrees, refs and complete. Conditions: as each theorem says. Contracts of the graph's refs and complete, and of precedence.Line. Conditions: as each theorem says. Contracts of the graph's complete and of precedence.Line. Conditions: as each theorem says. Contract of keep.Same at references. Conditions: as the theorem says. The orders that the reference sorts, as plain lists, and that they are valid. No program in sight. Contract of the reference's Sort. Conditions: as the theorem says. Contract of the maker of entries: what it returns fits the paths and ascends. Conditions: as the theorem says. -/
import Derived.Test.YtilbbpbjhoidhaaV01
import Derived.Test.YtilbbpbjhoidhaaV07
import Derived.Test.YtilbbpbjhoidhaaV06
import Derived.Test.YtilbbpbjhoidhaaV04
import Derived.Test.YtilbbpbjhoidhaaV05
namespace Go.Proofs.Ytilbbpbjhoidhaa
open Go.RowKit

def keysOf (es : List MapEntry) (ks : List Int) : Prop := es.map (·.key) = ks.map fun k => Value.int .i64 k
def look : List MapEntry → Int → Option Value
 | [], _ => none
 | e :: es, k => match e.key with | .int .i64 x => if k = x then some e.val else look es k | _ => look es k
structure MapIs (w : World) (r : Nat) (ks : List Int) (f : Int → Option Value) : Prop where
 ex : ∃ es clock, w.heap[r]? = some (.map es clock) ∧ keysOf es.toList ks ∧ ks.Nodup ∧ ∀ k, look es.toList k = f k

theorem findNow_int (k : Int) : ∀ (es : List MapEntry) (ks : List Int) (i : Nat), keysOf es ks → ∃ j, Instr.findNow (.int .i64) (.int .i64 k) es i = some ((look es k).map fun v => (j, v)) ∧ ((look es k).isSome = true → i ≤ j ∧ j < i + es.length ∧ ∃ e, es[j - i]? = some e ∧ e.key = .int .i64 k)
 | [], ks, i, _ => ⟨0, rfl, fun h => by simp [look] at h⟩
 | e :: es, [], i, h => by simp [keysOf] at h
 | e :: es, x :: ks, i, h => by
  simp only [keysOf, List.map_cons, List.cons.injEq] at h
  obtain ⟨hk, hr⟩ := h
  by_cases hkx : k = x
  ·subst hkx
   refine ⟨i, ?_, fun _ => ⟨Nat.le_refl _, by simp, e, by simp, hk⟩⟩
   simp [Instr.findNow, Instr.sameNow, look, hk]
  ·obtain ⟨j, h1, h2⟩ := findNow_int k es ks (i + 1) hr
   have hl : look (e :: es) k = look es k := by simp [look, hk, hkx]
   refine ⟨j, ?_, fun hs => ?_⟩
   ·rw [hl]
    simp only [Instr.findNow, Instr.sameNow, hk]
    have : (k == x) = false := by simpa using hkx
    simp only [if_true, this]
    exact h1
   ·rw [hl] at hs
    obtain ⟨a, b, e', c, d⟩ := h2 hs
    refine ⟨by omega, by simp; omega, e', ?_, d⟩
    have : j - i = (j - (i + 1)) + 1 := by omega
    rw [this]; simpa using c

section
variable {P : Program} {t K E : TypeId} {w : World} {r : Nat} {ks : List Int} {f : Int → Option Value}

theorem MapIs.lt (h : MapIs w r ks f) : r < w.heap.size := by
 obtain ⟨es, clock, h1, _⟩ := h.ex; exact (Array.getElem?_eq_some_iff.1 h1).1
theorem MapIs.kept {C : Foot} {w' : World} (h : MapIs w r ks f) (k : Keeps C w w') (hn : ¬ C r) : MapIs w' r ks f := by
 obtain ⟨es, clock, h1, h2⟩ := h.ex; exact ⟨es, clock, (k.block r h.lt hn).trans h1, h2⟩
theorem MapIs.new (w : World) : MapIs (w.alloc (.map #[] 0)) w.heap.size [] (fun _ => none) :=
 ⟨#[], 0, heap_alloc_new w _, rfl, List.nodup_nil, fun _ => rfl⟩

theorem run_checkKey_int (hK : P.underlying K = some (.int .i64)) (b : Bool) (n : Nat) (k : Int) : (Instr.checkKey b (n + 1) K (.int .i64 k)).run P w = .ok () w := by
 simp [Instr.checkKey, run_underlying hK]

theorem MapIs.lookup (h : MapIs w r ks f) (ht : P.underlying t = some (.map K E)) (hK : P.underlying K = some (.int .i64)) {z : Value} (hz : (zeroValue E).run P w = .ok z w) (k : Int) :
  (Instr.lookup t (.map (some r)) (.int .i64 k) false).run P w = .ok ((f k).getD z) w ∧ (Instr.lookup t (.map (some r)) (.int .i64 k) true).run P w = .ok (.tuple #[(f k).getD z, .bool (f k).isSome]) w := by
 obtain ⟨es, clock, h1, h2, h3, h4⟩ := h.ex
 obtain ⟨j, hj, _⟩ := findNow_int k es.toList ks 0 h2
 rw [h4 k] at hj
 have hc : ∀ b, (Instr.checkKey b 10000 K (.int .i64 k)).run P w = .ok () w := fun b => run_checkKey_int hK b 9999 k
 have hg : (getObj r).run P w = .ok (.map es clock) w := by simp [getObj, Sem.run, h1]
 cases hf : f k with
 | none =>
  rw [hf] at hj
  simp only [Option.map_none] at hj
  constructor <;> simp [Instr.lookup, run_underlying ht, hg, hc, Instr.findKey, run_underlying hK, hj, hz]
 | some v =>
  rw [hf] at hj
  simp only [Option.map_some] at hj
  constructor <;> simp [Instr.lookup, run_underlying ht, hg, hc, Instr.findKey, run_underlying hK, hj]

theorem MapIs.len (h : MapIs w r ks f) (ht : P.underlying t = some (.map K E)) (ty : TypeId) : (Builtin.len_ #[t] ty #[.map (some r)]).run P w = .ok (.int .i64 ks.length) w := by
 obtain ⟨es, clock, h1, h2, _⟩ := h.ex
 have hg : (getObj r).run P w = .ok (.map es clock) w := by simp [getObj, Sem.run, h1]
 have hl : es.size = ks.length := by
  have := congrArg List.length h2; simpa using this
 simp [Builtin.len_, run_underlying ht, hg, hl, goInt]
end

def cntF (U : List Int) : Int → Option Value := fun r => if r ∈ U then some (.int .i64 (U.count r : Int)) else none
def keysU (U : List Int) : List Int := U.foldl (fun ks x => if x ∈ ks then ks else ks ++ [x]) []
theorem mem_keysU_aux (x : Int) : ∀ (U ks : List Int), x ∈ U.foldl (fun ks x => if x ∈ ks then ks else ks ++ [x]) ks ↔ x ∈ ks ∨ x ∈ U
 | [], ks => by simp
 | a :: U, ks => by
  simp only [List.foldl_cons, mem_keysU_aux x U]
  by_cases h : a ∈ ks
  ·simp only [h, if_true, List.mem_cons]
   constructor
   ·rintro (h1 | h1)
    ·exact .inl h1
    ·exact .inr (.inr h1)
   ·rintro (h1 | rfl | h1)
    ·exact .inl h1
    ·exact .inl h
    ·exact .inr h1
  ·simp only [h, if_false, List.mem_append, List.mem_cons, List.not_mem_nil, or_false, or_assoc]
theorem mem_keysU (x : Int) (U : List Int) : x ∈ keysU U ↔ x ∈ U := by unfold keysU; rw [mem_keysU_aux]; simp
theorem keysU_nodup (U : List Int) : (keysU U).Nodup := by
 have : ∀ (U ks : List Int), ks.Nodup → (U.foldl (fun ks x => if x ∈ ks then ks else ks ++ [x]) ks).Nodup := by
  intro U
  induction U with
  | nil => intro ks h; exact h
  | cons a U ih =>
   intro ks h
   simp only [List.foldl_cons]
   apply ih
   split
   ·exact h
   ·rename_i hn
    exact List.nodup_append.2 ⟨h, by simp, fun y hy z hz => by simp at hz; subst hz; rintro rfl; exact hn hy⟩
 exact this U [] List.nodup_nil
theorem resTo_nodup (ps : List (List Stage)) (n : Nat) : (resTo ps n).Nodup := (resTo_pw ps n).imp (fun h => by omega)
theorem keysU_len {ps : List (List Stage)} (hv : valid ps = true) : (keysU (usesAll ps)).length = (resTo ps 144).length := by
 have hm : ∀ x, x ∈ keysU (usesAll ps) ↔ x ∈ resTo ps 144 := fun x => by
  rw [mem_keysU, mem_resTo]
  constructor
  ·intro h; have := valid_use hv h; exact ⟨h, this.1, by omega⟩
  ·exact fun h => h.1
 have h1 := nodup_le (keysU_nodup (usesAll ps)) (fun x hx => (hm x).1 hx)
 have h2 := nodup_le (resTo_nodup ps 144) (fun x hx => (hm x).2 hx)
 omega

def CpInv (ps : List (List Stage)) (os : List Order) (i : Nat) : Prop :=
 ((os.take i).map (·.res)).Pairwise (· < ·) ∧ ∀ o ∈ os.take i, o.res ∈ usesAll ps ∧ exactlyB o.uses (allU ps o.res) = true
theorem CpInv.step {ps : List (List Stage)} {os : List Order} {i : Nat} {o : Order} (h : CpInv ps os i) (ho : os[i]? = some o) (hl : ∀ q, 0 < i → os[i - 1]? = some q → q.res < o.res) (hu : o.res ∈ usesAll ps) (hx : exactlyB o.uses (allU ps o.res) = true) : CpInv ps os (i + 1) := by
 have e : os.take (i + 1) = os.take i ++ [o] := by rw [List.take_add_one, ho]; rfl
 refine ⟨?_, fun x hx' => ?_⟩
 ·rw [e, List.map_append, List.pairwise_append]
  refine ⟨h.1, by simp, fun a ha b hb => ?_⟩
  simp at hb; subst hb
  by_cases hi : i = 0
  ·subst hi; simp at ha
  ·have hi1 : i - 1 < os.length := by have := getElem?_lt ho; omega
   have hq := hl _ (by omega) (List.getElem?_eq_getElem hi1)
   have e2 : os.take i = os.take (i - 1) ++ [os[i - 1]] := by
    conv => lhs; rw [show i = (i - 1) + 1 from by omega]
    rw [List.take_add_one, List.getElem?_eq_getElem hi1]; rfl
   have h1 := h.1
   rw [e2, List.map_append] at h1 ha
   rcases List.mem_append.1 ha with ha | ha
   ·have := (List.pairwise_append.1 h1).2.2 a ha os[i - 1].res (by simp)
    omega
   ·simp at ha; subst ha; exact hq
 ·rw [e] at hx'
  rcases List.mem_append.1 hx' with h' | h'
  ·exact h.2 x h'
  ·simp at h'; subst h'; exact ⟨hu, hx⟩
theorem CpInv.done {ps : List (List Stage)} {os : List Order} (hv : valid ps = true) (hl : os.length = (keysU (usesAll ps)).length) (h : CpInv ps os os.length) : checkO ps os = true := by
 have h1 := h.1; have h2 := h.2
 rw [List.take_length] at h1 h2
 have hnd : (os.map (·.res)).Nodup := h1.imp (fun h => by omega)
 have hsub : ∀ x ∈ os.map (·.res), x ∈ resTo ps 144 := fun x hx => by
  obtain ⟨o, ho, rfl⟩ := List.mem_map.1 hx
  have hu := (h2 o ho).1
  have := valid_use hv hu
  exact (mem_resTo 144).2 ⟨hu, this.1, by omega⟩
 have hle : (resTo ps 144).length ≤ (os.map (·.res)).length := by rw [← keysU_len hv, List.length_map]; omega
 have e := pw_ext _ _ h1 (resTo_pw ps 144) (fun x => ⟨hsub x, nodup_full hnd hsub hle (resTo_nodup ps 144) x⟩)
 have h3 : os.all (fun o => exactlyB o.uses (allU ps o.res)) = true := List.all_eq_true.2 fun o ho => (h2 o ho).2
 simp [checkO, hv, e, h3]

structure CMap (w1 wr : World) (U : List Int) : Prop where
 m : MapIs wr w1.heap.size (keysU U) (cntF U)
 k : KeepsAll w1 wr
theorem CMap.keep {w1 wr w' : World} {U : List Int} (h : CMap w1 wr U) (k : KeepsAll wr w') : CMap w1 w' U := ⟨h.m.kept k (by simp), h.k.tr k⟩

section
variable {w1 wr w' : World} {v0 v1 v2 v3 v : Value} {fs : List Int} {es : List Ref}

end

theorem resTo_len (ps : List (List Stage)) : ∀ n, (resTo ps n).length ≤ n
 | 0 => by simp [resTo]
 | n + 1 => by have := resTo_len ps n; simp only [resTo, List.length_append]; split <;> simp <;> omega
theorem checkO_facts {ps : List (List Stage)} {os : List Order} (h : checkO ps os = true) : valid ps = true ∧ os.length ≤ 144 ∧ ∀ o ∈ os, (∀ u ∈ o.uses, u ∈ allU ps o.res) ∧ o.uses.length ≤ 640 ∧ o.uses.Pairwise Before := by
 simp only [checkO, Bool.and_eq_true, decide_eq_true_eq, List.all_eq_true] at h
 obtain ⟨⟨hv, hr⟩, ha⟩ := h
 refine ⟨hv, ?_, fun o ho => ?_⟩
 ·have := congrArg List.length hr
  rw [List.length_map] at this
  have := resTo_len ps 144; omega
 ·have := ha o ho
  rw [exactly_proper, Bool.and_eq_true, decide_eq_true_eq, properB_iff] at this
  refine ⟨this.2.1, ?_, this.2.2⟩
  rw [this.1]
  have h1 := allU_le (fun p hp => ((valid_lens hv).2 p hp).2) o.res ps.length (Nat.le_refl _)
  rw [List.take_length] at h1
  have := (valid_lens hv).1; omega

abbrev RBools := RSlice 1 RBool
theorem RBools.ok : Rd.Ok RBools := RSlice.ok RBool.ok
theorem RBools.at_ {w : World} {S : Foot} {A : Option Addr} {n c : Nat} {l : List Bool} (h : RBools w S [.slice A n c] l) {k : Nat} (hk : k < l.length) :
  ∃ b o x, A = some ⟨b, o, none⟩ ∧ S b ∧ l[k]? = some x ∧ w.cell? ⟨b, o + k, none⟩ = some (.bool x) := by
 obtain ⟨b, o, x, es, rfl, hb, hx, h1, h2, h3⟩ := h.get hk
 refine ⟨b, o, x, rfl, hb, hx, ?_⟩
 cases h2
 simpa using h3 0 _ rfl
theorem Blk.bools {w : World} {S : Foot} {b : Nat} {t : TypeId} {l : List Bool} (hb : Blk w b t (cellsB' l)) (hS : S b) (hl : l.length ≤ 9223372036854775807) : RBools w S [.slice (some ⟨b, 0, none⟩) l.length l.length] l := by
 refine RSlice.ofBlk hb hS (l.map fun x => [.bool x]) l ?_ ?_ hl
 ·clear hb hl hS
  unfold cellsB'
  induction l with
  | nil => rfl
  | cons a l ih => simp only [List.map_cons, List.flatten_cons, List.singleton_append] at ih ⊢; rw [← ih]
 ·clear hb hl hS
  induction l with
  | nil => trivial
  | cons a l ih => exact ⟨⟨rfl, rfl⟩, ih⟩

def idxF {α : Type} (pr : α → Bool) (l : List α) : Int := match l.findIdx? pr with | some i => (i : Int) | none => -1
theorem idxF_stop {α : Type} {pr : α → Bool} {l : List α} {k : Nat} {x : α} (hx : l[k]? = some x) (h1 : pr x = true) (hn : ∀ y ∈ l.take k, pr y = false) : idxF pr l = k := by
 have hk := getElem?_lt hx
 have : l.findIdx? pr = some k := by
  rw [List.findIdx?_eq_some_iff_getElem]
  refine ⟨hk, ?_, fun j hj => ?_⟩
  ·rw [List.getElem?_eq_getElem hk] at hx; injection hx with hx; rw [hx]; exact h1
  ·have : l[j] ∈ l.take k := List.mem_take_iff_getElem.2 ⟨j, by omega, rfl⟩
   simp [hn _ this]
 simp [idxF, this]
theorem idxF_none {α : Type} {pr : α → Bool} {l : List α} (hn : ∀ y ∈ l, pr y = false) : idxF pr l = -1 := by
 have : l.findIdx? pr = none := by rw [List.findIdx?_eq_none_iff]; exact hn
 simp [idxF, this]
def Enters (F : Nat) : Prop := ∀ (args : Array Value) (w : World), (callFunc F args).run Try.prog w = .ok (.enter F args) w

theorem fst_inj {ps : List (List Stage)} {t u k m : Nat} {p q : List Stage} (hp : ps[t]? = some p) (hq : ps[u]? = some q) (hk : k ≤ p.length) (hm : m ≤ q.length) (h : fst ps t + k = fst ps u + m) : t = u ∧ k = m := by
 have h1 := evs_at hp hk
 have h2 := evs_at hq hm
 rw [h, h2] at h1
 injection h1 with h1; injection h1 with h1 h3
 omega
def numI (ps : List (List Stage)) (u : Ref) : Int := (num ps u : Nat)
def slLen : Value → Nat | .slice _ n _ => n | _ => 0
theorem fill_at {α : Type} (l : List α) (z : α) {k : Nat} (hk : k < l.length) : (l.take k ++ List.replicate (l.length - k) z)[k]? = some z := by
 rw [List.getElem?_append_right (by simp; omega), List.length_take, Nat.min_eq_left (by omega), Nat.sub_self, List.getElem?_replicate, if_pos (by omega)]
theorem fill_set {α : Type} (l : List α) (z x : α) {k : Nat} (hx : l[k]? = some x) : (l.take k ++ List.replicate (l.length - k) z).set k x = l.take (k + 1) ++ List.replicate (l.length - (k + 1)) z := by
 have hk := getElem?_lt hx
 have hl : (l.take k).length = k := by rw [List.length_take]; omega
 rw [List.set_append_right _ _ (by omega), hl, Nat.sub_self, show l.length - k = (l.length - (k + 1)) + 1 from by omega, List.replicate_succ, List.set_cons_zero, List.take_add_one, hx, Option.toList_some, List.append_assoc]; rfl
theorem fill_done {α : Type} (l : List α) (z : α) : l.take l.length ++ List.replicate (l.length - l.length) z = l := by simp

structure LInv (w wr : World) (D N : Nat) (dl : List Bool) (nl : List Int) : Prop where
 d : Blk wr D 4 (cellsB' dl)
 n : Blk wr N 3 (cellsI nl)
 ne : D ≠ N
 hd : w.heap.size ≤ D
 hn : w.heap.size ≤ N
 k : KeepsAll w wr
section
variable {w wr w' : World} {D N : Nat} {dl : List Bool} {nl : List Int}
theorem LInv.keep {C : Foot} (h : LInv w wr D N dl nl) (k : Keeps C wr w') (h1 : ¬ C D) (h2 : ¬ C N) (hC : ∀ b, b < w.heap.size → ¬ C b) : LInv w w' D N dl nl :=
 ⟨h.d.kept k h1, h.n.kept k h2, h.ne, h.hd, h.hn, h.k.trans k (fun x hx e => hC x hx e)⟩
end

def LRest (ps : List (List Stage)) (go : List Int → Option Nat) (at_ : List Int) (acc : List Ref) (now : List Int) : Prop :=
 Gd ps now ∧ acc.length + total ps now = total ps at_ ∧ lineFrom go 1000 at_ = (acc ++ (lineFrom go (1000 - acc.length) now).1, (lineFrom go (1000 - acc.length) now).2)
theorem LRest.stop {ps : List (List Stage)} {go : List Int → Option Nat} {at_ : List Int} {acc : List Ref} {now : List Int} (h : LRest ps go at_ acc now) (hl : acc.length ≤ 650) (hn : go now = none) : lineFrom go 1000 at_ = (acc, now) := by
 rw [h.2.2, show 1000 - acc.length = (999 - acc.length) + 1 from by omega]
 simp [lineFrom, hn]
theorem LRest.step {ps : List (List Stage)} {go : List Int → Option Nat} {at_ : List Int} {acc : List Ref} {now : List Int} {t : Nat} (hs : Sound ps go) (h : LRest ps go at_ acc now) (hl : acc.length ≤ 650) (hn : go now = some t) : LRest ps go at_ (acc ++ [⟨(t : Int), nowAt now t + 1⟩]) (now.set t (nowAt now t + 1)) := by
 obtain ⟨h1, h2⟩ := hs now t hn
 have h3 := total_step h.1 h1 h2
 refine ⟨h.1.step h1 h2, by have := h.2.1; simp; omega, ?_⟩
 rw [h.2.2, show 1000 - acc.length = (999 - acc.length) + 1 from by omega]
 have e : 1000 - (acc ++ [(⟨(t : Int), nowAt now t + 1⟩ : Ref)]).length = 999 - acc.length := by simp; try omega
 rw [e]
 simp [lineFrom, hn]

def cellsR (l : List Ref) : Array Value := ((l.map fun u => [Value.int .i64 u.tr, Value.int .i64 u.st]).flatten).toArray
theorem Blk.refs {w : World} {S : Foot} {b : Nat} {t : TypeId} {l : List Ref} (hb : Blk w b t (cellsR l)) (hS : S b) (hl : l.length ≤ 9223372036854775807) : RRefs w S [.slice (some ⟨b, 0, none⟩) l.length l.length] l := by
 refine RSlice.ofBlk hb hS (l.map fun u => [.int .i64 u.tr, .int .i64 u.st]) l rfl ?_ hl
 clear hb hl hS
 induction l with
 | nil => trivial
 | cons a l ih => exact ⟨⟨rfl, rfl⟩, ih⟩

theorem lineFrom_refs {ps : List (List Stage)} {go : List Int → Option Nat} (hs : Sound ps go) : ∀ (f : Nat) (now : List Int), Gd ps now → ∀ u ∈ (lineFrom go f now).1, ∃ (t k : Nat) (p : List Stage), ps[t]? = some p ∧ k ≤ p.length ∧ u = ⟨(t : Int), (k : Int)⟩
 | 0, _, _, u, hu => by simp [lineFrom] at hu
 | f + 1, now, h, u, hu => by
  simp only [lineFrom] at hu
  cases e : go now with
  | none => rw [e] at hu; simp at hu
  | some t =>
   rw [e] at hu
   obtain ⟨h1, h2⟩ := hs now t e
   simp only [List.mem_cons] at hu
   rcases hu with rfl | hu
   ·have hp : ps[t]? = some ps[t] := List.getElem?_eq_getElem h1
    have hg := h.2 t h1
    rw [lenAt_of hp] at h2
    obtain ⟨k, hk⟩ := Int.eq_ofNat_of_zero_le (by omega : 0 ≤ nowAt now t + 1)
    exact ⟨t, k, ps[t], hp, by omega, by rw [hk]⟩
   ·exact lineFrom_refs hs f _ (h.step h1 h2) u hu
theorem evAt_num {ps : List (List Stage)} {t k : Nat} {p : List Stage} (hp : ps[t]? = some p) (hk : k ≤ p.length) : evAt ps (numI ps ⟨(t : Int), (k : Int)⟩).toNat = ⟨(t : Int), (k : Int)⟩ ∧ num ps ⟨(t : Int), (k : Int)⟩ < (evs ps).length := by
 have e : num ps ⟨(t : Int), (k : Int)⟩ = fst ps t + k := by simp [num]
 refine ⟨?_, ?_⟩
 ·unfold numI evAt
  rw [e, Int.toNat_natCast, evs_at hp hk]; rfl
 ·have := fst_lt hp (getElem?_lt hp) (Nat.le_refl _)
  rw [fst_len] at this; omega

set_option maxHeartbeats 400000 in
theorem SameRef_any (x y : List Ref) (A A2 : Option Addr) (c c2 : Nat) (w : World) (S S2 : Foot) (h : RRefs w S [.slice A x.length c] x) (h2 : RRefs w S2 [.slice A2 y.length c2] y) :
  Calls Try.prog 46 #[.slice A x.length c, .slice A2 y.length c2] w fun e w' => e = .returned (.bool (decide (x = y))) ∧ ∃ n, w' = w.drewN n := by
 have hc := h.caps
 have hc2 := h2.caps
 have H := Lib.hid h; clear h
 have H2 := Lib.hid h2; clear h2
 by_cases g1 : x.length = y.length
 ·have g1' : ((x.length : Int) != (y.length : Int)) = false := by simp; omega
  have G1 := Lib.hid g1; clear g1
  have l1 : x.length ≤ y.length := by rw [G1.out]; exact Nat.le_refl _
  have l2 : y.length ≤ x.length := by rw [G1.out]; exact Nat.le_refl _
  go_enter Try.func46, Try.ntmps46
  go_wp2
  go_loopw [13] (fun i wr => ∃ k : Nat, k ≤ x.length ∧ i = .int .i64 k ∧ x.take k = y.take k ∧ ∃ n, wr = w.drewN n) (fun i _ => x.length - (intOf i).toNat)
  case atStart => exact ⟨0, Nat.zero_le _, rfl, rfl, 0, rfl⟩
  case round =>
   obtain ⟨k, hk, rfl, hinv, n, rfl⟩ := hrel
   have HI := Lib.hid hinv; clear hinv
   by_cases hlt : k < x.length
   ·obtain ⟨b, o, u, rfl, _, hu, k1, k1'⟩ := RRefs.at_ H.out hlt
    obtain ⟨b2, o2, v, rfl, _, hv, k2, k2'⟩ := RRefs.at_ H2.out (k := k) (by omega)
    by_cases g2 : u = v
    ·have Q : Hid (x.take (k + 1) = y.take (k + 1)) := by
      show x.take (k + 1) = y.take (k + 1)
      rw [List.take_add_one, List.take_add_one, HI.out, hu, hv, g2]
     subst g2
     clear hu hv
     go_wp2
     go_quiet (fail)
     go_wp2
     go_roundw
     case rel => exact ⟨k + 1, by omega, by go_num, Q.out, _, rfl⟩
     case measure => simp [intOf]; omega
    ·have Q : Hid (decide (x = y) = false) := by
      show decide (x = y) = false
      simp only [decide_eq_false_iff_not]; rintro rfl
      exact g2 (same_of hu hv)
     have g3 : ¬ (u.tr = v.tr ∧ u.st = v.st) := fun h => g2 (by cases u; cases v; simp_all)
     clear hu hv g2
     by_cases g4 : u.tr = v.tr
     ·have g5 : ¬ (u.st = v.st) := fun h => g3 ⟨g4, h⟩
      clear g3
      go_wp2
      go_quiet (fail)
      go_wp2
      go_ret
      exact ⟨by rw [Q.out]; rfl, _, drewNN _ _ _⟩
     ·clear g3
      go_wp2
      go_quiet (fail)
      go_wp2
      go_ret
      exact ⟨by rw [Q.out]; rfl, _, drewNN _ _ _⟩
   ·have Q : Hid (decide (x = y) = true) := by
     show decide (x = y) = true
     have := HI.out
     rw [List.take_of_length_le (by omega), List.take_of_length_le (by omega)] at this
     simpa using this
    go_wp2
    go_ret
    exact ⟨by rw [Q.out]; rfl, _, rfl⟩
 ·have g1' : ((x.length : Int) != (y.length : Int)) = true := by simp; omega
  have Q : Hid (decide (x = y) = false) := by
   show decide (x = y) = false
   simp only [decide_eq_false_iff_not]; rintro rfl; exact g1 rfl
  go_enter Try.func46, Try.ntmps46
  go_wp2
  go_ret
  exact ⟨by rw [Q.out]; rfl, 0, rfl⟩

def Lex (v u : Ref) : Prop := v.tr < u.tr ∨ v.tr = u.tr ∧ v.st < u.st
theorem pathAll_lex (r : Int) (t : Nat) (p : List Stage) : (pathAll r t p).Pairwise Lex := by
 have : ∀ n, n ≤ p.length → (pathAll r t (p.take n)).Pairwise Lex := by
  intro n
  induction n with
  | zero => intro _; simp [pathAll]
  | succ n ih =>
   intro hn
   rw [pathAll_succ r t (List.getElem?_eq_getElem (by omega) : p[n]? = some p[n]), List.pairwise_append]
   refine ⟨ih (by omega), by split <;> simp, fun a ha b hb => ?_⟩
   split at hb
   ·simp at hb; subst hb
    obtain ⟨k, s, hk, _, rfl⟩ := mem_pathAll.1 ha
    have := getElem?_lt hk
    rw [List.length_take] at this
    exact .inr ⟨rfl, by show (k : Int) < (n : Int); omega⟩
   ·simp at hb
 have h := this p.length (Nat.le_refl _)
 rwa [List.take_length] at h
theorem allU_lex (ps : List (List Stage)) (r : Int) : (allU ps r).Pairwise Lex := by
 have : ∀ n, n ≤ ps.length → (allU (ps.take n) r).Pairwise Lex := by
  intro n
  induction n with
  | zero => intro _; simp [allU]
  | succ n ih =>
   intro hn
   rw [allU_succ r (List.getElem?_eq_getElem (by omega) : ps[n]? = some ps[n]), List.pairwise_append]
   refine ⟨ih (by omega), pathAll_lex r n _, fun a ha b hb => ?_⟩
   obtain ⟨t, k, p, s, ht, _, _, rfl⟩ := mem_allU.1 ha
   obtain ⟨k', s', _, _, rfl⟩ := mem_pathAll.1 hb
   have := getElem?_lt ht
   rw [List.length_take] at this
   exact .inl (by show (t : Int) < (n : Int); omega)
 have h := this ps.length (Nat.le_refl _)
 rwa [List.take_length] at h

theorem tyOrder : ElemTy Try.prog 28 44 2 32 := .mk' Try.underlying28 (z := .agg #[.int .i64 0, .slice none 0 0]) (by kernel_rfl) rfl (by omega)
theorem RSlice.tail {α : Type} {size : Nat} {E : Rd α} {w : World} {S : Foot} {b o n c : Nat} {l : List α} (h : RSlice size E w S [.slice (some ⟨b, o, none⟩) n c] l) {k : Nat} (hk : k ≤ l.length) : RSlice size E w S [.slice (some ⟨b, o + k * size, none⟩) (l.length - k) (c - k)] (l.drop k) := by
 obtain ⟨A', c', he, h1, h2, h3⟩ := h
 injection he with he _; injection he with ha hn hc; subst ha hc
 refine ⟨_, c - k, by rw [List.length_drop], by rw [List.length_drop]; omega, by omega, fun hne => ?_⟩
 obtain ⟨b', o', hA, hb, hj⟩ := h3 (by rintro rfl; simp at hne)
 injection hA with hA; injection hA with hA1 hA2; subst hA1 hA2
 refine ⟨b, o + k * size, rfl, hb, fun j x hx => ?_⟩
 rw [List.getElem?_drop] at hx
 obtain ⟨es, e1, e2, e3⟩ := hj (k + j) x hx
 refine ⟨es, e1, e2, fun i u hu => ?_⟩
 have := e3 i u hu
 rw [Nat.add_mul] at this
 rw [show o + k * size + (j * size + i) = o + (k * size + j * size + i) from by omega]
 exact this
theorem RSlice.head {α : Type} {size : Nat} {E : Rd α} {w : World} {S : Foot} {A : Option Addr} {n c : Nat} {l : List α} (h : RSlice size E w S [.slice A n c] l) {k : Nat} (hk : k ≤ l.length) : RSlice size E w S [.slice A k c] (l.take k) := by
 obtain ⟨A', c', he, h1, h2, h3⟩ := h
 injection he with he _; injection he with ha hn hc; subst ha hc
 have hlt : (l.take k).length = k := by rw [List.length_take]; omega
 refine ⟨A, c, by rw [hlt], by omega, h2, fun hne => ?_⟩
 obtain ⟨b, o, hA, hb, hj⟩ := h3 (by rintro rfl; simp at hne)
 refine ⟨b, o, hA, hb, fun j x hx => ?_⟩
 have hjk : j < k := by have := getElem?_lt hx; omega
 rw [List.getElem?_take_of_lt hjk] at hx
 exact hj j x hx
theorem RSlice.none_ {α : Type} {size : Nat} {E : Rd α} {w : World} {S : Foot} {A : Option Addr} {c : Nat} (hc : c ≤ 9223372036854775807) : RSlice size E w S [.slice A 0 c] ([] : List α) := ⟨A, c, rfl, Nat.zero_le _, hc, fun h => absurd rfl h⟩

theorem OwnL.base_mono {α : Type} {t size : Nat} {E : Rd α} {w : World} {base base' lo : Nat} {v : Value} {l : List α} (h : OwnL t size E w base lo v l) (hb : base' ≤ base) : OwnL t size E w base' lo v l := by
 obtain ⟨ess, h1, h2, h3⟩ := h
 refine ⟨ess, h1, ⟨h2.1, ?_⟩, h3⟩
 rcases h2.2 with hn | ⟨g, cap, cur, e, hb', rest⟩
 ·exact .inl hn
 ·exact .inr ⟨g, cap, cur, e, Nat.le_trans hb hb', rest⟩

def RIntsU : Rd (List Int) := fun w S cs l => RInts w S cs l ∧ (l ≠ [] → ∀ b o n c, cs = [.slice (some ⟨b, o, none⟩) n c] → ∀ k, w.frozen? ⟨b, k, none⟩ = false)
abbrev RIntssU := RSlice 1 RIntsU
theorem RIntsU.ok : Rd.Ok RIntsU := by
 refine ⟨?_⟩
 intro w w' S S' cs l h hS hw
 refine ⟨RInts.ok.mono h.1 hS hw, fun hn b o n c hc k => ?_⟩
 obtain ⟨A, c', hc', _, _, h3⟩ := h.1
 obtain ⟨b', o', hA, hb, _⟩ := h3 hn
 subst hA
 rw [hc] at hc'
 injection hc' with hc' _
 injection hc' with hc' _ _
 injection hc' with hc'
 injection hc' with hc' _
 subst hc'
 have := h.2 hn b o n c hc k
 unfold World.frozen? at this ⊢
 rw [hw b hb]; exact this
theorem RIntssU.ok : Rd.Ok RIntssU := RSlice.ok RIntsU.ok

end Go.Proofs.Ytilbbpbjhoidhaa
