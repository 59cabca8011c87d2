/- Layouts in memory; contracts of the tests of a section, a link and an end (program). Conditions: as each theorem says. Routes: the errors of a route and its points, as plain functions. No program in sight. Layouts without an error: what holds of them, and what shows it. No program in sight. Contracts of the tests of a link's ends (program): ends, joined, fits. Conditions: as each theorem says. Maps whose keys are strings: what a lookup, a store and len do, in terms of the function that the map is. Conditions: as each theorem says. Contract of the test of a name (program: checkName), with the map of the names seen so far. Conditions: as each theorem says. Lists given by a function of the index: reading, writing, growing. No program in sight. The links of a layout by their ends (plain), and the rows in which the program keeps them (memory). Conditions: as each theorem says. A region that draws its order, in two phases: all operations of the second wait for all of the first. No condition. A region that draws its order: every reading operation has a class of its own (C k), two classes for the user. No condition. Contract of checkLinks (program). Conditions: as the theorem says. Contract of layout.Check (program). Conditions: as the theorem says. Contracts of the steps of a route (program): Reverse, leaving, isStep. Conditions: as each theorem says. Running times: speeds and times of a run through cells, as plain functions of the boundary. No program in sight. A run of a stock over a route: cells, fit, passing times and profiles, as plain functions of the pieces (the travelled sections in the direction of travel). No program in sight. Routes without an error: what holds of them and of their parts. No program in sight. The course of a route: the layout of its sections, links and points alone; a train fits it as it fits the route, with the same pieces. No program in sight. Cases: the errors of a case (39.1), as plain functions that both the program and the reference answer. No program in sight. -/
import Derived.Test.YtcbcegdidlefiaaGreatK06
import Derived.Deep.Cut
import Derived.Test.YtcbcegdidlefiaaGreatK04
import Derived.BigRegion
import Derived.Test.YtcbcegdidlefiaaGreatK01
import Derived.Test.YtcbcegdidlefiaaGreatK03
namespace Go.Proofs.YtcbcegdidlefiaaGreat
open Go.RowKit

def secC (s : Sec) : Array Value := #[.string (mkS s.name), .int .i64 s.len, .int .i64 s.lim, .int .i64 s.grd, .int .i64 s.sta]
def lnkC (k : Lnk) : Array Value := #[.int .i64 k.a, .int .i64 k.ae, .int .i64 k.b, .int .i64 k.be, .int .i64 k.pt, .int .i64 k.ps]
def RSec : Rd Sec := fun _ _ cs s => cs = (secC s).toList
def RLnk : Rd Lnk := fun _ _ cs k => cs = (lnkC k).toList
theorem RSec.ok : Rd.Ok RSec := ⟨fun h _ _ => h⟩
theorem RLnk.ok : Rd.Ok RLnk := ⟨fun h _ _ => h⟩
theorem RSec.flt : Rd.Flt RSec := fun _ _ _ _ _ _ h => h
theorem RLnk.flt : Rd.Flt RLnk := fun _ _ _ _ _ _ h => h
abbrev RSecs := RSlice 5 RSec
abbrev RLnks := RSlice 6 RLnk
section
variable {w : World} {S : Foot} {A : Option Addr} {n c : Nat}
theorem RSecs.at_ {l : List Sec} (h : RSecs w S [.slice A n c] l) {k : Nat} (hk : k < l.length) :
    ∃ b o s, A = some ⟨b, o, none⟩ ∧ S b ∧ l[k]? = some s ∧ w.cell? ⟨b, o + k * 5, none⟩ = some (.string (mkS s.name)) ∧ w.cell? ⟨b, o + k * 5 + 1, none⟩ = some (.int .i64 s.len) ∧ w.cell? ⟨b, o + k * 5 + 2, none⟩ = some (.int .i64 s.lim) ∧
      w.cell? ⟨b, o + k * 5 + 3, none⟩ = some (.int .i64 s.grd) ∧ w.cell? ⟨b, o + k * 5 + 4, none⟩ = some (.int .i64 s.sta) := by
  obtain ⟨b, o, s, es, rfl, hb, hx, h1, h2, h3⟩ := h.get hk
  cases h2
  exact ⟨b, o, s, rfl, hb, hx, by simpa using h3 0 _ rfl, by simpa [Nat.add_assoc] using h3 1 _ rfl, by simpa [Nat.add_assoc] using h3 2 _ rfl, by simpa [Nat.add_assoc] using h3 3 _ rfl, by simpa [Nat.add_assoc] using h3 4 _ rfl⟩
theorem RLnks.at_ {l : List Lnk} (h : RLnks w S [.slice A n c] l) {k : Nat} (hk : k < l.length) :
    ∃ b o s, A = some ⟨b, o, none⟩ ∧ S b ∧ l[k]? = some s ∧ w.cell? ⟨b, o + k * 6, none⟩ = some (.int .i64 s.a) ∧ w.cell? ⟨b, o + k * 6 + 1, none⟩ = some (.int .i64 s.ae) ∧ w.cell? ⟨b, o + k * 6 + 2, none⟩ = some (.int .i64 s.b) ∧
      w.cell? ⟨b, o + k * 6 + 3, none⟩ = some (.int .i64 s.be) ∧ w.cell? ⟨b, o + k * 6 + 4, none⟩ = some (.int .i64 s.pt) ∧ w.cell? ⟨b, o + k * 6 + 5, none⟩ = some (.int .i64 s.ps) := by
  obtain ⟨b, o, s, es, rfl, hb, hx, h1, h2, h3⟩ := h.get hk
  cases h2
  exact ⟨b, o, s, rfl, hb, hx, by simpa using h3 0 _ rfl, by simpa [Nat.add_assoc] using h3 1 _ rfl, by simpa [Nat.add_assoc] using h3 2 _ rfl, by simpa [Nat.add_assoc] using h3 3 _ rfl, by simpa [Nat.add_assoc] using h3 4 _ rfl, by simpa [Nat.add_assoc] using h3 5 _ rfl⟩
end
/-- the four lists of a layout as values -/
structure LV where
  A1 : Option Addr
  A2 : Option Addr
  A3 : Option Addr
  A4 : Option Addr
  c1 : Nat
  c2 : Nat
  c3 : Nat
  c4 : Nat
def LV.cs (v : LV) (L : Lay) : Array Value := #[.slice v.A1 L.sts.length v.c1, .slice v.A2 L.pts.length v.c2, .slice v.A3 L.secs.length v.c3, .slice v.A4 L.lks.length v.c4]
structure RLay (w : World) (S : Foot) (v : LV) (L : Lay) : Prop where
  sts : RStrs w S [.slice v.A1 L.sts.length v.c1] L.sts
  pts : RStrs w S [.slice v.A2 L.pts.length v.c2] L.pts
  secs : RSecs w S [.slice v.A3 L.secs.length v.c3] L.secs
  lks : RLnks w S [.slice v.A4 L.lks.length v.c4] L.lks
theorem Keeps.rdA {α : Type} {E : Rd α} (hE : Rd.Ok E) {a b : World} (k : KeepsAll a b) {cs : List Value} {x : α} (h : E a (Old a) cs x) : E b (Old b) cs x :=
  k.rd hE h (fun b hb => ⟨hb, by simp⟩) (fun b hb => Nat.lt_of_lt_of_le hb k.size)
theorem RLay.kept {w w' : World} {v : LV} {L : Lay} (h : RLay w (Old w) v L) (k : KeepsAll w w') : RLay w' (Old w') v L :=
  ⟨k.rdA RStrs.ok h.sts, k.rdA RStrs.ok h.pts, k.rdA (RSlice.ok RSec.ok) h.secs, k.rdA (RSlice.ok RLnk.ok) h.lks⟩

structure Stp where
  sec : Int
  dir : Int
  deriving DecidableEq, Inhabited
structure Rou where
  stps : List Stp
  ov : Int
  deriving DecidableEq, Inhabited
/-- the end at which a step leaves its section, and the one at which it enters it -/
def outE (s : Stp) : Int × Int := (s.sec, if s.dir = 0 then 1 else 0)
def inE (s : Stp) : Int × Int := (s.sec, if s.dir = 0 then 0 else 1)
def joinsE (k : Lnk) (x y : Int × Int) : Bool := decide ((k.a, k.ae) = x ∧ (k.b, k.be) = y) || decide ((k.a, k.ae) = y ∧ (k.b, k.be) = x)
/-- the link between two steps -/
def lnkOf (ks : List Lnk) (s t : Stp) : Option Lnk := ks.find? fun k => joinsE k (outE s) (inE t)
def stpOk (n : Nat) (s : Stp) : Bool := decide (0 ≤ s.sec ∧ s.sec < n ∧ (s.dir = 0 ∨ s.dir = 1))

structure LayOk (L : Lay) : Prop where
  sts : L.sts.length ≤ 24
  pts : L.pts.length ≤ 48
  secs : L.secs.length ≤ 96
  lks : L.lks.length ≤ 192
  ne : L.secs ≠ []
  stn : (∀ n ∈ L.sts, nameOk n = true) ∧ L.sts.Nodup
  ptn : (∀ n ∈ L.pts, nameOk n = true) ∧ L.pts.Nodup
  sec : ∀ s ∈ L.secs, nameOk s.name = true ∧ secOk L.sts.length s = true
  secn : (L.secs.map (·.name)).Nodup
  lnk : ∀ (i : Nat) k, L.lks[i]? = some k → lnkErr L (L.lks.take i) k = 0
theorem lnkErr_zero {L : Lay} {pre : List Lnk} {k : Lnk} : lnkErr L pre k = 0 ↔ lnkOk L k = true ∧ (k.a, k.ae) ≠ (k.b, k.be) ∧ (∀ j ∈ pre, ¬ (hasE j (k.a, k.ae) = true ∧ hasE j (k.b, k.be) = true)) ∧
    fitsE k (atE pre (k.a, k.ae)) = true ∧ fitsE k (atE pre (k.b, k.be)) = true := by
  unfold lnkErr
  split
  · rename_i h; simp [h]
  rename_i h
  have h' : lnkOk L k = true := by simpa using h
  split
  · rename_i h1; simp [h1]
  rename_i h1
  split
  · rename_i h2
    rw [List.any_eq_true] at h2
    obtain ⟨j, hj, h2⟩ := h2
    constructor
    · intro h; simp at h
    · rintro ⟨_, _, h3, _⟩; exact absurd (by simpa using h2) (h3 j hj)
  rename_i h2
  have h2' : ∀ j ∈ pre, ¬ (hasE j (k.a, k.ae) = true ∧ hasE j (k.b, k.be) = true) := by
    intro j hj hh
    exact h2 (List.any_eq_true.2 ⟨j, hj, by simpa using hh⟩)
  split
  · rename_i h3
    constructor
    · intro h; simp at h
    · rintro ⟨_, _, _, h4, h5⟩; rcases h3 with h3 | h3
      · rw [h4] at h3; cases h3
      · rw [h5] at h3; cases h3
  · rename_i h3
    have h4 : fitsE k (atE pre (k.a, k.ae)) = true := by
      cases h : fitsE k (atE pre (k.a, k.ae))
      · exact absurd (.inl h) h3
      · rfl
    have h5 : fitsE k (atE pre (k.b, k.be)) = true := by
      cases h : fitsE k (atE pre (k.b, k.be))
      · exact absurd (.inr h) h3
      · rfl
    exact ⟨fun _ => ⟨h', h1, h2', h4, h5⟩, fun _ => rfl⟩
theorem joinsE_has {k : Lnk} {x y : Int × Int} (h : joinsE k x y = true) : hasE k x = true ∧ hasE k y = true := by
  unfold joinsE at h
  simp only [Bool.or_eq_true, decide_eq_true_eq] at h
  rcases h with ⟨rfl, rfl⟩ | ⟨rfl, rfl⟩ <;> simp [hasE]
theorem joinsE_ends {k : Lnk} {x y : Int × Int} (h : joinsE k x y = true) : ((k.a, k.ae) = x ∧ (k.b, k.be) = y) ∨ ((k.a, k.ae) = y ∧ (k.b, k.be) = x) := by
  unfold joinsE at h; simpa only [Bool.or_eq_true, decide_eq_true_eq] using h
/-- no two links join the same ends -/
theorem LayOk.one {L : Lay} (h : LayOk L) {i j : Nat} {k m : Lnk} {x y : Int × Int} (hk : L.lks[i]? = some k) (hm : L.lks[j]? = some m) (h1 : joinsE k x y = true) (h2 : joinsE m x y = true) : i = j := by
  have key : ∀ {i j : Nat} {k m : Lnk}, L.lks[i]? = some k → L.lks[j]? = some m → joinsE k x y = true → joinsE m x y = true → ¬ i < j := by
    intro i j k m hk hm h1 h2 hlt
    have hz := lnkErr_zero.1 (h.lnk j m hm)
    have hmem : k ∈ L.lks.take j := List.mem_of_getElem? (by rw [List.getElem?_take_of_lt hlt]; exact hk)
    have g1 := joinsE_has h1
    rcases joinsE_ends h2 with ⟨e1, e2⟩ | ⟨e1, e2⟩
    · exact hz.2.2.1 k hmem (by rw [e1, e2]; exact g1)
    · exact hz.2.2.1 k hmem (by rw [e1, e2]; exact ⟨g1.2, g1.1⟩)
  have a := key hk hm h1 h2
  have b := key hm hk h2 h1
  omega

theorem RLnks.atO {w wr : World} {A : Option Addr} {n c : Nat} {l : List Lnk} (K : KeepsAll w wr) (h : RLnks w (Old w) [.slice A n c] l) {k : Nat} (hk : k < l.length) :
    ∃ b o s, A = some ⟨b, o, none⟩ ∧ b < wr.heap.size ∧ l[k]? = some s ∧ wr.cell? ⟨b, o + k * 6, none⟩ = some (.int .i64 s.a) ∧ wr.cell? ⟨b, o + k * 6 + 1, none⟩ = some (.int .i64 s.ae) ∧ wr.cell? ⟨b, o + k * 6 + 2, none⟩ = some (.int .i64 s.b) ∧
      wr.cell? ⟨b, o + k * 6 + 3, none⟩ = some (.int .i64 s.be) ∧ wr.cell? ⟨b, o + k * 6 + 4, none⟩ = some (.int .i64 s.pt) ∧ wr.cell? ⟨b, o + k * 6 + 5, none⟩ = some (.int .i64 s.ps) := by
  obtain ⟨b, o, s, e, hb, hs, c0, c1, c2, c3, c4, c5⟩ := h.at_ hk
  exact ⟨b, o, s, e, Nat.lt_of_lt_of_le hb K.size, hs, K.cellA hb c0, K.cellA hb c1, K.cellA hb c2, K.cellA hb c3, K.cellA hb c4, K.cellA hb c5⟩

theorem ba_beq (a b : ByteArray) : (a == b) = decide (a = b) := by
  obtain ⟨a⟩ := a
  obtain ⟨b⟩ := b
  show (a == b) = _
  by_cases h : a = b
  · subst h; simp
  · simp [h]
instance ba_lawful : LawfulBEq ByteArray where
  eq_of_beq {a b} h := by rw [ba_beq] at h; exact of_decide_eq_true h
  rfl {a} := by rw [ba_beq]; simp
def keysOfS (es : List MapEntry) (ks : List ByteArray) : Prop := es.map (·.key) = ks.map fun k => Value.string k
def lookS : List MapEntry → ByteArray → Option Value
  | [], _ => none
  | e :: es, k => match e.key with | .string x => if k = x then some e.val else lookS es k | _ => lookS es k
/-- block r is a map with keys ks (each once) that is the function f -/
structure MapS (w : World) (r : Nat) (ks : List ByteArray) (f : ByteArray → Option Value) : Prop where
  ex : ∃ es clock, w.heap[r]? = some (.map es clock) ∧ keysOfS es.toList ks ∧ ks.Nodup ∧ ∀ k, lookS es.toList k = f k

theorem findNow_str (k : ByteArray) : ∀ (es : List MapEntry) (ks : List ByteArray) (i : Nat), keysOfS es ks → ∃ j, Instr.findNow .string (.string k) es i = some ((lookS es k).map fun v => (j, v)) ∧ ((lookS es k).isSome = true → i ≤ j ∧ j < i + es.length ∧ ∃ e, es[j - i]? = some e ∧ e.key = .string k)
  | [], ks, i, _ => ⟨0, rfl, fun h => by simp [lookS] at h⟩
  | e :: es, [], i, h => by simp [keysOfS] at h
  | e :: es, x :: ks, i, h => by
    simp only [keysOfS, List.map_cons, List.cons.injEq] at h
    obtain ⟨hk, hr⟩ := h
    by_cases hkx : k = x
    · subst hkx
      refine ⟨i, ?_, fun _ => ⟨Nat.le_refl _, by simp, e, by simp, hk⟩⟩
      simp [Instr.findNow, Instr.sameNow, lookS, hk]
    · obtain ⟨j, h1, h2⟩ := findNow_str k es ks (i + 1) hr
      have hl : lookS (e :: es) k = lookS es k := by simp [lookS, hk, hkx]
      refine ⟨j, ?_, fun hs => ?_⟩
      · rw [hl]
        simp only [Instr.findNow, Instr.sameNow, hk]
        have : (k == x) = false := by simpa using hkx
        simp only [this]
        exact h1
      · rw [hl] at hs
        obtain ⟨a, b, e', c, d⟩ := h2 hs
        refine ⟨by omega, by simp; omega, e', ?_, d⟩
        have : j - i = (j - (i + 1)) + 1 := by omega
        rw [this]; simpa using c

section
variable {P : Program} {t K E : TypeId} {w : World} {r : Nat} {ks : List ByteArray} {f : ByteArray → Option Value}

theorem MapS.lt (h : MapS w r ks f) : r < w.heap.size := by
  obtain ⟨es, clock, h1, _⟩ := h.ex; exact (Array.getElem?_eq_some_iff.1 h1).1
theorem MapS.kept {C : Foot} {w' : World} (h : MapS w r ks f) (k : Keeps C w w') (hn : ¬ C r) : MapS w' r ks f := by
  obtain ⟨es, clock, h1, h2⟩ := h.ex; exact ⟨es, clock, (k.block r h.lt hn).trans h1, h2⟩
theorem MapS.new (w : World) : MapS (w.alloc (.map #[] 0)) w.heap.size [] (fun _ => none) :=
  ⟨#[], 0, heap_alloc_new w _, rfl, List.nodup_nil, fun _ => rfl⟩

theorem run_checkKey_str (hK : P.underlying K = some .string) (b : Bool) (n : Nat) (k : ByteArray) : (Instr.checkKey b (n + 1) K (.string k)).run P w = .ok () w := by
  simp [Instr.checkKey, run_underlying hK]

theorem MapS.lookup (h : MapS w r ks f) (ht : P.underlying t = some (.map K E)) (hK : P.underlying K = some .string) {z : Value} (hz : (zeroValue E).run P w = .ok z w) (k : ByteArray) :
    (Instr.lookup t (.map (some r)) (.string k) false).run P w = .ok ((f k).getD z) w ∧ (Instr.lookup t (.map (some r)) (.string k) true).run P w = .ok (.tuple #[(f k).getD z, .bool (f k).isSome]) w := by
  obtain ⟨es, clock, h1, h2, h3, h4⟩ := h.ex
  obtain ⟨j, hj, _⟩ := findNow_str k es.toList ks 0 h2
  rw [h4 k] at hj
  have hc : ∀ b, (Instr.checkKey b 10000 K (.string k)).run P w = .ok () w := fun b => run_checkKey_str hK b 9999 k
  have hg : (getObj r).run P w = .ok (.map es clock) w := by simp [getObj, Sem.run, h1]
  cases hf : f k with
  | none =>
    rw [hf] at hj
    simp only [Option.map_none] at hj
    constructor <;> simp [Instr.lookup, run_underlying ht, hg, hc, Instr.findKey, run_underlying hK, hj, hz]
  | some v =>
    rw [hf] at hj
    simp only [Option.map_some] at hj
    constructor <;> simp [Instr.lookup, run_underlying ht, hg, hc, Instr.findKey, run_underlying hK, hj]
def setFS (f : ByteArray → Option Value) (k : ByteArray) (v : Value) : ByteArray → Option Value := fun x => if x = k then some v else f x

theorem lookS_append (k : ByteArray) : ∀ (es : List MapEntry) (ks : List ByteArray) (e : MapEntry) (x : ByteArray), keysOfS es ks → e.key = .string x → lookS (es ++ [e]) k = match lookS es k with | some v => some v | none => if k = x then some e.val else none
  | [], _, e, x, _, he => by simp [lookS, he]
  | a :: es, [], e, x, h, _ => by simp [keysOfS] at h
  | a :: es, y :: ks, e, x, h, he => by
    simp only [keysOfS, List.map_cons, List.cons.injEq] at h
    obtain ⟨hk, hr⟩ := h
    by_cases hky : k = y
    · simp [lookS, hk, hky]
    · simp only [List.cons_append, lookS, hk, hky, if_false]
      exact lookS_append k es ks e x hr he
theorem lookS_none (k : ByteArray) : ∀ (es : List MapEntry) (ks : List ByteArray), keysOfS es ks → (lookS es k = none ↔ k ∉ ks)
  | [], [], _ => by simp [lookS]
  | [], _ :: _, h => by simp [keysOfS] at h
  | a :: es, [], h => by simp [keysOfS] at h
  | a :: es, y :: ks, h => by
    simp only [keysOfS, List.map_cons, List.cons.injEq] at h
    obtain ⟨hk, hr⟩ := h
    have ih := lookS_none k es ks hr
    by_cases hky : k = y
    · simp [lookS, hk, hky]
    · simp only [lookS, hk, hky, if_false, ih, List.mem_cons, false_or]
theorem lookS_modify (k : ByteArray) (v : Value) (k' : ByteArray) : ∀ (es : List MapEntry) (ks : List ByteArray) (j : Nat) (e : MapEntry), keysOfS es ks → ks.Nodup → es[j]? = some e → e.key = .string k →
    lookS (es.modify j fun e => { e with key := .string k, val := v }) k' = (if k' = k then some v else lookS es k') ∧ keysOfS (es.modify j fun e => { e with key := .string k, val := v }) ks
  | [], ks, j, e, _, _, h, _ => by simp at h
  | a :: es, [], j, e, h, _, _, _ => by simp [keysOfS] at h
  | a :: es, y :: ks, 0, e, h, hn, he, hek => by
    simp only [keysOfS, List.map_cons, List.cons.injEq] at h
    obtain ⟨hk, hr⟩ := h
    simp at he; subst he
    have hyk : y = k := by rw [hk] at hek; injection hek with hek
    subst hyk
    constructor
    · simp only [List.modify_zero_cons, lookS, hk]
      by_cases h' : k' = y <;> simp [h']
    · simp only [List.modify_zero_cons, keysOfS, List.map_cons, List.cons.injEq, true_and]
      exact hr
  | a :: es, y :: ks, j + 1, e, h, hn, he, hek => by
    simp only [keysOfS, List.map_cons, List.cons.injEq] at h
    obtain ⟨hk, hr⟩ := h
    have he' : es[j]? = some e := by simpa using he
    obtain ⟨h1, h2⟩ := lookS_modify k v k' es ks j e hr (List.nodup_cons.1 hn).2 he' hek
    have hne : y ≠ k := by
      rintro rfl
      have hmem : e.key ∈ es.map (·.key) := List.mem_map_of_mem (List.mem_of_getElem? he')
      rw [hr, hek] at hmem
      obtain ⟨z, hz, hzz⟩ := List.mem_map.1 hmem
      injection hzz with hzz
      subst hzz
      exact (List.nodup_cons.1 hn).1 hz
    constructor
    · simp only [List.modify_succ_cons, lookS, hk, h1]
      by_cases h' : k' = y
      · subst h'; simp [hne]
      · simp [h']
    · simp only [List.modify_succ_cons, keysOfS, List.map_cons, hk, List.cons.injEq, true_and]
      exact h2

theorem MapS.update (h : MapS w r ks f) (ht : P.underlying t = some (.map K E)) (hK : P.underlying K = some .string) (k : ByteArray) (v : Value) :
    ∃ w', (Instr.mapUpdate t (.map (some r)) (.string k) v).run P w = .ok () w' ∧ MapS w' r (if k ∈ ks then ks else ks ++ [k]) (setFS f k v) ∧ Keeps (· = r) w w' ∧ w'.heap.size = w.heap.size := by
  obtain ⟨es, clock, h1, h2, h3, h4⟩ := h.ex
  obtain ⟨j, hj, hj2⟩ := findNow_str k es.toList ks 0 h2
  have hc : ∀ b, (Instr.checkKey b 10000 K (.string k)).run P w = .ok () w := fun b => run_checkKey_str hK b 9999 k
  have hg : (getObj r).run P w = .ok (.map es clock) w := by simp [getObj, Sem.run, h1]
  have hs : ∀ o, (setObj r o).run P w = .ok () { w with heap := w.heap.setIfInBounds r o } := fun o => by simp [setObj, Sem.run, h1]
  have hlt := h.lt
  have kk : ∀ o, Keeps (· = r) w { w with heap := w.heap.setIfInBounds r o } := fun o => ⟨rfl, rfl, rfl, by simp, fun i _ hn => by simp [Ne.symm hn]⟩
  have hnew : ∀ o, ({ w with heap := w.heap.setIfInBounds r o } : World).heap[r]? = some o := fun o => by simp [hlt]
  have hno := lookS_none k es.toList ks h2
  cases hl : lookS es.toList k with
  | none =>
    rw [hl] at hj
    simp only [Option.map_none] at hj
    have hnk := hno.1 hl
    refine ⟨_, by simp [Instr.mapUpdate, run_underlying ht, hg, hc, Instr.findKey, run_underlying hK, hj, hs]; rfl, ⟨_, _, hnew _, ?_, ?_, ?_⟩, kk _, by simp⟩
    · rw [if_neg hnk]; simp only [keysOfS, Array.toList_push, List.map_append, List.map_cons, List.map_nil]
      unfold keysOfS at h2; rw [h2]
    · rw [if_neg hnk]; exact List.nodup_append.2 ⟨h3, by simp, fun a ha b hb => by simp at hb; subst hb; intro e; subst e; exact hnk ha⟩
    · intro x
      rw [Array.toList_push, lookS_append x es.toList ks _ k h2 rfl, h4 x]
      unfold setFS
      by_cases hx : x = k
      · subst hx; rw [← h4 x, hl]; try simp
      · simp [hx]; try (cases f x <;> rfl)
  | some u =>
    rw [hl] at hj
    simp only [Option.map_some] at hj
    obtain ⟨_, _, e, he, hek⟩ := hj2 (by rw [hl]; rfl)
    simp only [Nat.sub_zero] at he
    have hin : k ∈ ks := by
      rcases Classical.em (k ∈ ks) with h' | h'
      · exact h'
      · rw [hno.2 h'] at hl; cases hl
    have hes : es[j]? = some e := by simpa using he
    have hsb : Instr.sameBits 10000 (.string k) (.string k) = true := by simp [Instr.sameBits]
    have hm := fun k' => lookS_modify k v k' es.toList ks j e h2 h3 he hek
    refine ⟨_, by simp [Instr.mapUpdate, run_underlying ht, hg, hc, Instr.findKey, run_underlying hK, hj, hes, hek, Instr.keyThatStays, hsb, hs]; rfl, ⟨_, _, hnew _, ?_, ?_, ?_⟩, kk _, by simp⟩
    · rw [if_pos hin, Array.toList_modify]; exact (hm default).2
    · rw [if_pos hin]; exact h3
    · intro x
      rw [Array.toList_modify, (hm x).1, h4 x]; rfl
theorem MapS.len (h : MapS w r ks f) (ht : P.underlying t = some (.map K E)) (ty : TypeId) : (Builtin.len_ #[t] ty #[.map (some r)]).run P w = .ok (.int .i64 ks.length) w := by
  obtain ⟨es, clock, h1, h2, _⟩ := h.ex
  have hg : (getObj r).run P w = .ok (.map es clock) w := by simp [getObj, Sem.run, h1]
  have hl : es.size = ks.length := by
    have := congrArg List.length h2; simpa using this
  simp [Builtin.len_, run_underlying ht, hg, hl, goInt]
end

theorem mkS_mem {l : List Bs} {n : Bs} : mkS n ∈ l.map mkS ↔ n ∈ l := by
  rw [List.mem_map]
  exact ⟨fun ⟨m, hm, e⟩ => mkS_inj e ▸ hm, fun h => ⟨n, h, rfl⟩⟩
/-- the map of the names seen so far -/
structure SeenM (w : World) (r : Nat) (seen : List Bs) : Prop where
  m : MapS w r (seen.map mkS) (fun k => if k ∈ seen.map mkS then some (.bool true) else none)
theorem zeroBool (w : World) : (zeroValue 4).run Tryz.prog w = .ok (.bool false) w := by kernel_rfl
theorem SeenM.look {w : World} {r : Nat} {seen : List Bs} (h : SeenM w r seen) (n : Bs) : (Instr.lookup 328 (.map (some r)) (.string (mkS n)) false).run Tryz.prog w = .ok (.bool (decide (n ∈ seen))) w := by
  have := (h.m.lookup (P := Tryz.prog) (t := 328) (E := 4) Tryz.underlying328 Tryz.underlying9 (zeroBool _) (mkS n)).1
  rw [this]
  by_cases hn : n ∈ seen
  · have hm := mkS_mem.2 hn
    simp [hn, hm]
  · have hm : ¬ mkS n ∈ seen.map mkS := fun h => hn (mkS_mem.1 h)
    simp [hn, hm]
theorem SeenM.push {w : World} {r : Nat} {seen : List Bs} (h : SeenM w r seen) {n : Bs} (hn : n ∉ seen) : ∃ w', (Instr.mapUpdate 328 (.map (some r)) (.string (mkS n)) (.bool true)).run Tryz.prog w = .ok () w' ∧ SeenM w' r (seen ++ [n]) ∧ Keeps (· = r) w w' := by
  obtain ⟨w', h1, h2, h3, _⟩ := h.m.update (P := Tryz.prog) (t := 328) (E := 4) Tryz.underlying328 Tryz.underlying9 (mkS n) (.bool true)
  have hm : ¬ mkS n ∈ seen.map mkS := fun h => hn (mkS_mem.1 h)
  rw [if_neg hm] at h2
  refine ⟨w', h1, ⟨?_⟩, h3⟩
  rw [List.map_append]
  have e : setFS (fun k => if k ∈ seen.map mkS then some (Value.bool true) else none) (mkS n) (.bool true) = fun k => if k ∈ seen.map mkS ++ [n].map mkS then some (.bool true) else none := by
    funext k
    unfold setFS
    by_cases e : k = mkS n
    · simp [e]
    · simp [e]
  rw [e] at h2
  exact h2
theorem SeenM.kept {w w' : World} {r : Nat} {seen : List Bs} {C : Foot} (h : SeenM w r seen) (k : Keeps C w w') (hn : ¬ C r) : SeenM w' r seen := ⟨h.m.kept k hn⟩

theorem RLnk.flat : Rd.Flat RLnk := fun _ _ _ _ _ _ h => h
/-- the rows of the earlier links, block B; the box of the layout, block q -/
structure CkL (w2 wr : World) (q B : Nat) (L : Lay) (v : LV) (vs : List Value) (ll : List (List Lnk)) : Prop where
  lay : RLay w2 (fun b => b < w2.heap.size ∧ b ≠ B) v L
  box : Blk wr q 27 (v.cs L)
  k : Keeps (fun b => b = B) w2 wr
  rows : Rows 25 196 6 RLnk wr w2.heap.size B vs ll
  hq : q < w2.heap.size
  ne : q ≠ B
section
variable {w2 wr w' : World} {q B : Nat} {L : Lay} {v : LV} {vs : List Value} {ll : List (List Lnk)}
theorem CkL.keep (h : CkL w2 wr q B L v vs ll) (k : KeepsAll wr w') : CkL w2 w' q B L v vs ll :=
  ⟨h.lay, h.box.kept k (by simp), h.k.trans k (fun _ _ h => h.elim), h.rows.keeps RLnk.flat k (by simp) (by simp), h.hq, h.ne⟩
theorem CkL.push {i : Nat} {u u' : Value} {l l' : List Lnk} (h : CkL w2 wr q B L v vs ll) (hv : vs[i]? = some u) (hl : ll[i]? = some l)
    (ho : OwnL 196 6 RLnk w' w2.heap.size w2.heap.size u' l') (hk : Keeps (fun b => u.ownBlock = some b) wr w') (hn : u'.ownBlock = u.ownBlock ∨ u'.ownBlock = some wr.heap.size) :
    CkL w2 (w'.setCell ⟨B, i, none⟩ u') q B L v (vs.set i u') (ll.set i l') := by
  have hr := h.rows.push RLnk.flat hv hl h.k.size ho hk hn
  have hown := h.rows.own i u l hv hl
  have hB := h.rows.nb
  have hq := h.hq
  refine ⟨h.lay, ?_, (h.k.trans hk (fun x hx e => by have := hown.lt e; omega)).setCell (fun _ => rfl) _, hr, h.hq, h.ne⟩
  exact (h.box.kept hk (fun e => by have := hown.lt e; omega)).far (by show q ≠ B; exact h.ne) _
theorem CkL.row (h : CkL w2 wr q B L v vs ll) {i : Nat} (hi : i < ll.length) :
    ∃ A c l, vs[i]? = some (.slice A l.length c) ∧ ll[i]? = some l ∧ OwnL 196 6 RLnk wr w2.heap.size w2.heap.size (.slice A l.length c) l ∧ wr.cell? ⟨B, i, none⟩ = some (.slice A l.length c) ∧ wr.frozen? ⟨B, i, none⟩ = false ∧ l.length ≤ c ∧ c ≤ 9223372036854775807 := by
  obtain ⟨v, l, h1, h2, h3, h4, h5⟩ := h.rows.get hi
  obtain ⟨A, c, rfl, hc, hc2⟩ := h3.form
  exact ⟨A, c, l, h1, h2, h3, h4, h5, hc, hc2⟩
end

/-- the edges that bind point back -/
def edgesBackB (l : List Oper) : Bool := (List.range l.length).all fun j => match l[j]? with | some o => o.after.toList.all (fun e => !Region.binds .any e || decide (e.on < j)) | none => true
/-- whoever may come up has all come up that he waits for -/
theorem waits_listedB {l : List Oper} (hb : edgesBackB l = true) {L : Nat → Prop} (hL : ∀ (j : Nat) (o : Oper), l[j]? = some o → L j → ∀ e ∈ o.after, Region.binds .any e = true → L e.on) :
    ∀ (n j : Nat) (o : Oper), j < n → l[j]? = some o → (∀ e ∈ o.after, Region.binds .any e = true → L e.on) → ∀ i, waits (masks l []) j i = true → L i
  | 0, j, o, h, _, _, _, _ => by omega
  | n + 1, j, o, hj, ho, he, i, hw => by
    obtain ⟨pre, h1, h2⟩ := masks_at l [] j o ho
    simp only [List.length_nil, Nat.zero_add] at h1 h2
    have hbk : o.after.toList.all (fun e => !Region.binds .any e || decide (e.on < j)) = true := by
      have := List.all_eq_true.1 hb j (List.mem_range.2 (List.getElem?_eq_some_iff.1 ho).1)
      simpa [ho] using this
    unfold waits at hw
    rw [List.getD_eq_getElem?_getD, h1] at hw
    rcases testBit_foldl pre i _ 0 hw with h0 | ⟨e, hem, hbd, hh⟩
    · simp at h0
    · have hej : e.on < j := by
        have h7 := List.all_eq_true.1 hbk e hem
        rw [hbd] at h7
        simpa using h7
      have hLe := he e (by simpa using hem) hbd
      rcases hh with rfl | hh
      · exact hLe
      · rw [h2 e.on hej] at hh
        have hlt : e.on < l.length := by have := (List.getElem?_eq_some_iff.1 ho).1; omega
        exact waits_listedB hb hL n e.on l[e.on] (by omega) (List.getElem?_eq_getElem hlt) (fun e' he' hb' => hL e.on _ (List.getElem?_eq_getElem hlt) hLe e' he' hb') i hh

theorem RStrs.atO {w wr : World} {A : Option Addr} {n c : Nat} {l : List Bs} (K : KeepsAll w wr) (h : RStrs w (Old w) [.slice A n c] l) {k : Nat} (hk : k < l.length) :
    ∃ b o x, A = some ⟨b, o, none⟩ ∧ b < wr.heap.size ∧ l[k]? = some x ∧ wr.cell? ⟨b, o + k, none⟩ = some (.string (mkS x)) := by
  obtain ⟨b, o, x, e, hb, hs, c0⟩ := h.at_ hk
  exact ⟨b, o, x, e, Nat.lt_of_lt_of_le hb K.size, hs, K.cellA hb c0⟩
theorem RSecs.atO {w wr : World} {A : Option Addr} {n c : Nat} {l : List Sec} (K : KeepsAll w wr) (h : RSecs w (Old w) [.slice A n c] l) {k : Nat} (hk : k < l.length) :
    ∃ b o s, A = some ⟨b, o, none⟩ ∧ b < wr.heap.size ∧ l[k]? = some s ∧ wr.cell? ⟨b, o + k * 5, none⟩ = some (.string (mkS s.name)) ∧ wr.cell? ⟨b, o + k * 5 + 1, none⟩ = some (.int .i64 s.len) ∧ wr.cell? ⟨b, o + k * 5 + 2, none⟩ = some (.int .i64 s.lim) ∧
      wr.cell? ⟨b, o + k * 5 + 3, none⟩ = some (.int .i64 s.grd) ∧ wr.cell? ⟨b, o + k * 5 + 4, none⟩ = some (.int .i64 s.sta) := by
  obtain ⟨b, o, s, e, hb, hs, c0, c1, c2, c3, c4⟩ := h.at_ hk
  exact ⟨b, o, s, e, Nat.lt_of_lt_of_le hb K.size, hs, K.cellA hb c0, K.cellA hb c1, K.cellA hb c2, K.cellA hb c3, K.cellA hb c4⟩
theorem SeenM.new (w : World) : SeenM (w.alloc (.map #[] 0)) w.heap.size [] := ⟨by
  have e : (fun k => if k ∈ ([] : List Bs).map mkS then some (Value.bool true) else none) = fun _ => none := by funext k; simp
  show MapS _ _ [] _
  rw [e]
  exact MapS.new w⟩

def stpC (s : Stp) : Array Value := #[.int .i64 s.sec, .int .i64 s.dir]

structure Stk where
  name : Bs
  len : Int
  spd : Int
  acc : Int
  brk : Int
  deriving DecidableEq, Inhabited
structure Cel where
  lim : Int
  grd : Int
  deriving DecidableEq, Inhabited

/-- a section as a train meets it: length, limit, grade in the direction of travel -/
structure Pce where
  len : Int
  lim : Int
  grd : Int
  deriving DecidableEq, Inhabited
def cellsOf (ps : List Pce) : List Cel := ps.flatMap fun p => List.replicate p.len.toNat ⟨p.lim, p.grd⟩
def lastR (r : Rou) : Int := (r.stps.length : Int) - r.ov - 1

structure RouOk (L : Lay) (r : Rou) : Prop where
  lay : LayOk L
  len : r.stps.length ≤ 24
  ov0 : 0 ≤ r.ov
  ov2 : r.ov ≤ 2
  two : 2 ≤ (r.stps.length : Int) - r.ov
  stp : ∀ s ∈ r.stps, stpOk L.secs.length s = true
  dis : (r.stps.map (·.sec)).Nodup
  lnk : ∀ (i : Nat) s t, r.stps[i]? = some s → r.stps[i + 1]? = some t → lnkOf L.lks s t ≠ none
section
variable {L : Lay} {r : Rou} (h : RouOk L r)
include h
theorem RouOk.inj {i j : Nat} {s t : Stp} (hs : r.stps[i]? = some s) (ht : r.stps[j]? = some t) (e : s.sec = t.sec) : i = j := by
  have hi := (List.getElem?_eq_some_iff.1 hs).1
  have hj := (List.getElem?_eq_some_iff.1 ht).1
  have hn := List.pairwise_iff_getElem.1 h.dis
  have ei : r.stps[i] = s := Option.some.inj ((List.getElem?_eq_getElem hi).symm.trans hs)
  have ej : r.stps[j] = t := Option.some.inj ((List.getElem?_eq_getElem hj).symm.trans ht)
  rcases Nat.lt_trichotomy i j with hlt | he | hlt
  · exact (hn i j (by simpa using hi) (by simpa using hj) hlt (by simp [ei, ej, e])).elim
  · exact he
  · exact (hn j i (by simpa using hj) (by simpa using hi) hlt (by simp [ei, ej, e])).elim
/-- the part from step a to step b of a route without an error has none -/
theorem RouOk.part {a b : Nat} {o : Int} (ha : a < b) (hb : b < r.stps.length) (ho : 0 ≤ o) (ho2 : o ≤ 2) (h2 : 2 ≤ (b + 1 - a : Int) - o) : RouOk L ⟨(r.stps.take (b + 1)).drop a, o⟩ := by
  have hl : ((r.stps.take (b + 1)).drop a).length = b + 1 - a := by simp; omega
  have hat : ∀ i, ((r.stps.take (b + 1)).drop a)[i]? = if a + i < b + 1 then r.stps[a + i]? else none := by
    intro i; rw [List.getElem?_drop, List.getElem?_take]
  have h24 := h.len
  refine ⟨h.lay, by simp only [hl]; omega, ho, ho2, by simp only [hl]; omega, ?_, ?_, ?_⟩
  · intro s hs; exact h.stp s (List.mem_of_mem_take (List.mem_of_mem_drop hs))
  · have hsub : (((r.stps.take (b + 1)).drop a).map (·.sec)).Sublist (r.stps.map (·.sec)) := ((List.drop_sublist _ _).trans (List.take_sublist _ _)).map _
    exact hsub.nodup h.dis
  · intro i s t h1 h2
    simp only [hat] at h1 h2
    split at h1
    · split at h2
      · exact h.lnk (a + i) s t h1 (by rw [← h2]; rfl)
      · cases h2
    · cases h1
/-- the same, where the part goes on to the end of the route -/
theorem RouOk.tail {a : Nat} (ha : (a : Int) < lastR r) : RouOk L ⟨r.stps.drop a, r.ov⟩ := by
  have := h.ov0; have := h.ov2; have := h.two
  unfold lastR at ha
  have hp := h.part (a := a) (b := r.stps.length - 1) (o := r.ov) (by omega) (by omega) (by omega) (by omega) (by omega)
  rw [show r.stps.length - 1 + 1 = r.stps.length by omega, List.take_length] at hp
  exact hp
end

structure Dut where
  rt : Int
  dep : Int
  dw : Int
  deriving DecidableEq, Inhabited
structure Mis where
  stk : Int
  dts : List Dut
  deriving DecidableEq, Inhabited

end Go.Proofs.YtcbcegdidlefiaaGreat
