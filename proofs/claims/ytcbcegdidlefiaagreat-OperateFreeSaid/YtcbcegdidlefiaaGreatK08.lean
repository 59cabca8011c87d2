/- Routes, stocks, cells and missions in memory. Conditions: as each theorem says. Tenures that are free: the program's sweep over sorted tenures and the reference's pairs agree. No program in sight. -/
import Derived.Test.YtcbcegdidlefiaaGreatK07
import Derived.Test.YtcbcegdidlefiaaGreatK06
namespace Go.Proofs.YtcbcegdidlefiaaGreat
open Go.RowKit

def stkC (s : Stk) : Array Value := #[.string (mkS s.name), .int .i64 s.len, .int .i64 s.spd, .int .i64 s.acc, .int .i64 s.brk]
def celC (c : Cel) : Array Value := #[.int .i64 c.lim, .int .i64 c.grd]
def dutC (d : Dut) : Array Value := #[.int .i64 d.rt, .int .i64 d.dep, .int .i64 d.dw]
def RStp : Rd Stp := fun _ _ cs s => cs = (stpC s).toList
def RStk : Rd Stk := fun _ _ cs s => cs = (stkC s).toList
def RCel : Rd Cel := fun _ _ cs s => cs = (celC s).toList
def RDut : Rd Dut := fun _ _ cs s => cs = (dutC s).toList
theorem RStp.ok : Rd.Ok RStp := ⟨fun h _ _ => h⟩
theorem RStp.flt : Rd.Flt RStp := fun _ _ _ _ _ _ h => h
theorem RStk.ok : Rd.Ok RStk := ⟨fun h _ _ => h⟩
theorem RStk.flt : Rd.Flt RStk := fun _ _ _ _ _ _ h => h
theorem RCel.ok : Rd.Ok RCel := ⟨fun h _ _ => h⟩
theorem RCel.flt : Rd.Flt RCel := fun _ _ _ _ _ _ h => h
theorem RDut.ok : Rd.Ok RDut := ⟨fun h _ _ => h⟩
theorem RDut.flt : Rd.Flt RDut := fun _ _ _ _ _ _ h => h
abbrev RStps := RSlice 2 RStp
abbrev RStks := RSlice 5 RStk
abbrev RCels := RSlice 2 RCel
abbrev RDuts := RSlice 3 RDut
def RRou : Rd Rou := fun w S cs r => ∃ v, cs = [v, .int .i64 r.ov] ∧ RStps w S [v] r.stps
theorem RRou.ok : Rd.Ok RRou := by
  refine ⟨?_⟩
  intro w w' S S' cs x h hS hw
  obtain ⟨v, rfl, hv⟩ := h
  exact ⟨v, rfl, (RSlice.ok RStp.ok).mono hv hS hw⟩
def RMis : Rd Mis := fun w S cs m => ∃ v, cs = [.int .i64 m.stk, v] ∧ RDuts w S [v] m.dts
theorem RMis.ok : Rd.Ok RMis := by
  refine ⟨?_⟩
  intro w w' S S' cs x h hS hw
  obtain ⟨v, rfl, hv⟩ := h
  exact ⟨v, rfl, (RSlice.ok RDut.ok).mono hv hS hw⟩
abbrev RRous := RSlice 2 RRou
abbrev RMiss := RSlice 2 RMis
section
variable {w wr : World} {S : Foot} {A : Option Addr} {n c : Nat}
theorem RStps.at_ {l : List Stp} (h : RStps w S [.slice A n c] l) {k : Nat} (hk : k < l.length) :
    ∃ b o s, A = some ⟨b, o, none⟩ ∧ S b ∧ l[k]? = some s ∧ w.cell? ⟨b, o + k * 2, none⟩ = some (.int .i64 s.sec) ∧ w.cell? ⟨b, o + k * 2 + 1, none⟩ = some (.int .i64 s.dir) := by
  obtain ⟨b, o, s, es, rfl, hb, hx, h1, h2, h3⟩ := h.get hk
  cases h2
  exact ⟨b, o, s, rfl, hb, hx, by simpa using h3 0 _ rfl, by simpa [Nat.add_assoc] using h3 1 _ rfl⟩
theorem RCels.at_ {l : List Cel} (h : RCels w S [.slice A n c] l) {k : Nat} (hk : k < l.length) :
    ∃ b o s, A = some ⟨b, o, none⟩ ∧ S b ∧ l[k]? = some s ∧ w.cell? ⟨b, o + k * 2, none⟩ = some (.int .i64 s.lim) ∧ w.cell? ⟨b, o + k * 2 + 1, none⟩ = some (.int .i64 s.grd) := by
  obtain ⟨b, o, s, es, rfl, hb, hx, h1, h2, h3⟩ := h.get hk
  cases h2
  exact ⟨b, o, s, rfl, hb, hx, by simpa using h3 0 _ rfl, by simpa [Nat.add_assoc] using h3 1 _ rfl⟩
theorem RStks.at_ {l : List Stk} (h : RStks w S [.slice A n c] l) {k : Nat} (hk : k < l.length) :
    ∃ b o s, A = some ⟨b, o, none⟩ ∧ S b ∧ l[k]? = some s ∧ w.cell? ⟨b, o + k * 5, none⟩ = some (.string (mkS s.name)) ∧ w.cell? ⟨b, o + k * 5 + 1, none⟩ = some (.int .i64 s.len) ∧ w.cell? ⟨b, o + k * 5 + 2, none⟩ = some (.int .i64 s.spd) ∧
      w.cell? ⟨b, o + k * 5 + 3, none⟩ = some (.int .i64 s.acc) ∧ w.cell? ⟨b, o + k * 5 + 4, none⟩ = some (.int .i64 s.brk) := by
  obtain ⟨b, o, s, es, rfl, hb, hx, h1, h2, h3⟩ := h.get hk
  cases h2
  exact ⟨b, o, s, rfl, hb, hx, by simpa using h3 0 _ rfl, by simpa [Nat.add_assoc] using h3 1 _ rfl, by simpa [Nat.add_assoc] using h3 2 _ rfl, by simpa [Nat.add_assoc] using h3 3 _ rfl, by simpa [Nat.add_assoc] using h3 4 _ rfl⟩
theorem RDuts.at_ {l : List Dut} (h : RDuts w S [.slice A n c] l) {k : Nat} (hk : k < l.length) :
    ∃ b o s, A = some ⟨b, o, none⟩ ∧ S b ∧ l[k]? = some s ∧ w.cell? ⟨b, o + k * 3, none⟩ = some (.int .i64 s.rt) ∧ w.cell? ⟨b, o + k * 3 + 1, none⟩ = some (.int .i64 s.dep) ∧ w.cell? ⟨b, o + k * 3 + 2, none⟩ = some (.int .i64 s.dw) := by
  obtain ⟨b, o, s, es, rfl, hb, hx, h1, h2, h3⟩ := h.get hk
  cases h2
  exact ⟨b, o, s, rfl, hb, hx, by simpa using h3 0 _ rfl, by simpa [Nat.add_assoc] using h3 1 _ rfl, by simpa [Nat.add_assoc] using h3 2 _ rfl⟩
theorem RRous.at_ {l : List Rou} (h : RRous w S [.slice A n c] l) {k : Nat} (hk : k < l.length) :
    ∃ b o s A' c', A = some ⟨b, o, none⟩ ∧ S b ∧ l[k]? = some s ∧ w.cell? ⟨b, o + k * 2, none⟩ = some (.slice A' s.stps.length c') ∧ w.cell? ⟨b, o + k * 2 + 1, none⟩ = some (.int .i64 s.ov) ∧ RStps w S [.slice A' s.stps.length c'] s.stps := by
  obtain ⟨b, o, s, es, rfl, hb, hx, h1, ⟨v, rfl, hv⟩, h3⟩ := h.get hk
  have hv' := hv
  obtain ⟨A', c', he, _⟩ := hv'
  injection he with he _; subst he
  exact ⟨b, o, s, A', c', rfl, hb, hx, by simpa using h3 0 _ rfl, by simpa [Nat.add_assoc] using h3 1 _ rfl, hv⟩
theorem RMiss.at_ {l : List Mis} (h : RMiss w S [.slice A n c] l) {k : Nat} (hk : k < l.length) :
    ∃ b o s A' c', A = some ⟨b, o, none⟩ ∧ S b ∧ l[k]? = some s ∧ w.cell? ⟨b, o + k * 2, none⟩ = some (.int .i64 s.stk) ∧ w.cell? ⟨b, o + k * 2 + 1, none⟩ = some (.slice A' s.dts.length c') ∧ RDuts w S [.slice A' s.dts.length c'] s.dts := by
  obtain ⟨b, o, s, es, rfl, hb, hx, h1, ⟨v, rfl, hv⟩, h3⟩ := h.get hk
  have hv' := hv
  obtain ⟨A', c', he, _⟩ := hv'
  injection he with he _; subst he
  exact ⟨b, o, s, A', c', rfl, hb, hx, by simpa using h3 0 _ rfl, by simpa [Nat.add_assoc] using h3 1 _ rfl, hv⟩
theorem RStps.atO (K : KeepsAll w wr) {l : List Stp} (h : RStps w (Old w) [.slice A n c] l) {k : Nat} (hk : k < l.length) :
    ∃ b o s, A = some ⟨b, o, none⟩ ∧ b < wr.heap.size ∧ l[k]? = some s ∧ wr.cell? ⟨b, o + k * 2, none⟩ = some (.int .i64 s.sec) ∧ wr.cell? ⟨b, o + k * 2 + 1, none⟩ = some (.int .i64 s.dir) := by
  obtain ⟨b, o, s, e, hb, hs, c0, c1⟩ := h.at_ hk
  exact ⟨b, o, s, e, Nat.lt_of_lt_of_le hb K.size, hs, K.cellA hb c0, K.cellA hb c1⟩
theorem RCels.atO (K : KeepsAll w wr) {l : List Cel} (h : RCels w (Old w) [.slice A n c] l) {k : Nat} (hk : k < l.length) :
    ∃ b o s, A = some ⟨b, o, none⟩ ∧ b < wr.heap.size ∧ l[k]? = some s ∧ wr.cell? ⟨b, o + k * 2, none⟩ = some (.int .i64 s.lim) ∧ wr.cell? ⟨b, o + k * 2 + 1, none⟩ = some (.int .i64 s.grd) := by
  obtain ⟨b, o, s, e, hb, hs, c0, c1⟩ := h.at_ hk
  exact ⟨b, o, s, e, Nat.lt_of_lt_of_le hb K.size, hs, K.cellA hb c0, K.cellA hb c1⟩
theorem RStks.atO (K : KeepsAll w wr) {l : List Stk} (h : RStks w (Old w) [.slice A n c] l) {k : Nat} (hk : k < l.length) :
    ∃ b o s, A = some ⟨b, o, none⟩ ∧ b < wr.heap.size ∧ l[k]? = some s ∧ wr.cell? ⟨b, o + k * 5, none⟩ = some (.string (mkS s.name)) ∧ wr.cell? ⟨b, o + k * 5 + 1, none⟩ = some (.int .i64 s.len) ∧ wr.cell? ⟨b, o + k * 5 + 2, none⟩ = some (.int .i64 s.spd) ∧
      wr.cell? ⟨b, o + k * 5 + 3, none⟩ = some (.int .i64 s.acc) ∧ wr.cell? ⟨b, o + k * 5 + 4, none⟩ = some (.int .i64 s.brk) := by
  obtain ⟨b, o, s, e, hb, hs, c0, c1, c2, c3, c4⟩ := h.at_ hk
  exact ⟨b, o, s, e, Nat.lt_of_lt_of_le hb K.size, hs, K.cellA hb c0, K.cellA hb c1, K.cellA hb c2, K.cellA hb c3, K.cellA hb c4⟩
theorem RDuts.atO (K : KeepsAll w wr) {l : List Dut} (h : RDuts w (Old w) [.slice A n c] l) {k : Nat} (hk : k < l.length) :
    ∃ b o s, A = some ⟨b, o, none⟩ ∧ b < wr.heap.size ∧ l[k]? = some s ∧ wr.cell? ⟨b, o + k * 3, none⟩ = some (.int .i64 s.rt) ∧ wr.cell? ⟨b, o + k * 3 + 1, none⟩ = some (.int .i64 s.dep) ∧ wr.cell? ⟨b, o + k * 3 + 2, none⟩ = some (.int .i64 s.dw) := by
  obtain ⟨b, o, s, e, hb, hs, c0, c1, c2⟩ := h.at_ hk
  exact ⟨b, o, s, e, Nat.lt_of_lt_of_le hb K.size, hs, K.cellA hb c0, K.cellA hb c1, K.cellA hb c2⟩
theorem RRous.atO (K : KeepsAll w wr) {l : List Rou} (h : RRous w (Old w) [.slice A n c] l) {k : Nat} (hk : k < l.length) :
    ∃ b o s A' c', A = some ⟨b, o, none⟩ ∧ b < wr.heap.size ∧ l[k]? = some s ∧ wr.cell? ⟨b, o + k * 2, none⟩ = some (.slice A' s.stps.length c') ∧ wr.cell? ⟨b, o + k * 2 + 1, none⟩ = some (.int .i64 s.ov) ∧ RStps w (Old w) [.slice A' s.stps.length c'] s.stps := by
  obtain ⟨b, o, s, A', c', e, hb, hs, c0, c1, h2⟩ := h.at_ hk
  exact ⟨b, o, s, A', c', e, Nat.lt_of_lt_of_le hb K.size, hs, K.cellA hb c0, K.cellA hb c1, h2⟩
theorem RMiss.atO (K : KeepsAll w wr) {l : List Mis} (h : RMiss w (Old w) [.slice A n c] l) {k : Nat} (hk : k < l.length) :
    ∃ b o s A' c', A = some ⟨b, o, none⟩ ∧ b < wr.heap.size ∧ l[k]? = some s ∧ wr.cell? ⟨b, o + k * 2, none⟩ = some (.int .i64 s.stk) ∧ wr.cell? ⟨b, o + k * 2 + 1, none⟩ = some (.slice A' s.dts.length c') ∧ RDuts w (Old w) [.slice A' s.dts.length c'] s.dts := by
  obtain ⟨b, o, s, A', c', e, hb, hs, c0, c1, h2⟩ := h.at_ hk
  exact ⟨b, o, s, A', c', e, Nat.lt_of_lt_of_le hb K.size, hs, K.cellA hb c0, K.cellA hb c1, h2⟩
end

structure Ten where
  res : Int
  tr : Int
  stg : Int
  frm : Int
  to : Int
  deriving DecidableEq, Inhabited
/-- two tenures of different trains hold the same resource in a second -/
def clash (a b : Ten) : Prop := a.res = b.res ∧ a.tr ≠ b.tr ∧ max a.frm b.frm < min a.to b.to
instance (a b : Ten) : Decidable (clash a b) := by unfold clash; infer_instance
theorem clash_symm {a b : Ten} (h : clash a b) : clash b a := ⟨h.1.symm, fun e => h.2.1 e.symm, by have := h.2.2; omega⟩
def freeL (l : List Ten) : Prop := l.Pairwise fun a b => ¬ clash a b
instance (l : List Ten) : Decidable (freeL l) := by unfold freeL; infer_instance
theorem freeL_perm {l m : List Ten} (h : l.Perm m) : freeL l ↔ freeL m := h.pairwise_iff (fun h1 h2 => h1 (clash_symm h2))
/-- the order of the sweep -/
def tenLe (a b : Ten) : Prop := a.res < b.res ∨ a.res = b.res ∧ a.frm ≤ b.frm
/-- the sweep: what stands in latest and other -/
abbrev Swp := Option Ten × Option Ten
def swpReset (s : Swp) (x : Ten) : Swp := match s.1 with | some y => if y.res ≠ x.res then (none, none) else s | none => s
def swpRival (s : Swp) (x : Ten) : Option Ten := match s.1 with | some y => if y.tr = x.tr then s.2 else s.1 | none => none
def swpBad (s : Swp) (x : Ten) : Bool := match swpRival s x with | some y => decide (x.frm < y.to) | none => false
def swpNext (s : Swp) (x : Ten) : Swp := match s.1 with
  | none => (some x, s.2)
  | some y => if y.tr = x.tr ∧ y.to < x.to then (some x, s.2) else if y.tr = x.tr then s else if y.to < x.to then (some x, some y)
    else match s.2 with
      | none => (some y, some x)
      | some z => if z.to < x.to then (some y, some x) else s
/-- none: a clash was found -/
def sweep : Swp → List Ten → Option Swp
  | s, [] => some s
  | s, x :: r => if x.to ≤ x.frm then sweep s r else if swpBad (swpReset s x) x then none else sweep (swpNext (swpReset s x) x) r
theorem sweep_at (s : Swp) (l : List Ten) (i : Nat) (x : Ten) (h : l[i]? = some x) : sweep s (l.drop i) = if x.to ≤ x.frm then sweep s (l.drop (i + 1)) else if swpBad (swpReset s x) x then none else sweep (swpNext (swpReset s x) x) (l.drop (i + 1)) := by
  have hd : l.drop i = x :: l.drop (i + 1) := by
    have hlt := (List.getElem?_eq_some_iff.1 h).1
    rw [← (List.getElem?_eq_some_iff.1 h).2, List.getElem_cons_drop hlt]
  rw [hd, sweep]
/-- what latest and other are for the non-empty tenures q of one resource -/
structure SwpAt (s : Swp) (q : List Ten) : Prop where
  non : s.1 = none → q = [] ∧ s.2 = none
  mem : ∀ y, s.1 = some y → y ∈ q
  most : ∀ y, s.1 = some y → ∀ z ∈ q, z.to ≤ y.to
  oth : ∀ y u, s.1 = some y → s.2 = some u → u ∈ q ∧ u.tr ≠ y.tr
  omost : ∀ y, s.1 = some y → ∀ z ∈ q, z.tr ≠ y.tr → ∃ u, s.2 = some u ∧ z.to ≤ u.to
/-- the non-empty ones of a resource -/
def curT (p : List Ten) (r : Int) : List Ten := p.filter fun z => decide (z.frm < z.to ∧ z.res = r)
theorem curT_mem {p : List Ten} {r : Int} {z : Ten} : z ∈ curT p r ↔ z ∈ p ∧ z.frm < z.to ∧ z.res = r := by simp [curT]
structure SwpOk (s : Swp) (p : List Ten) : Prop where
  non : s.1 = none → s.2 = none ∧ ∀ z ∈ p, z.to ≤ z.frm
  at_ : ∀ y, s.1 = some y → SwpAt s (curT p y.res) ∧ ∀ z ∈ p, z.frm < z.to → z.res ≤ y.res
theorem SwpOk.start : SwpOk (none, none) [] := ⟨by simp, by simp⟩
theorem SwpOk.reset {s : Swp} {p : List Ten} (h : SwpOk s p) {x : Ten} (hx : ∀ z ∈ p, z.frm < z.to → z.res ≤ x.res) : SwpAt (swpReset s x) (curT p x.res) ∧ ∀ y, (swpReset s x).1 = some y → y.res = x.res := by
  have hnil : (∀ z ∈ p, z.frm < z.to → z.res ≠ x.res) → SwpAt (none, none) (curT p x.res) := by
    intro hz
    have : curT p x.res = [] := by
      rw [List.eq_nil_iff_forall_not_mem]
      intro z hm
      have := curT_mem.1 hm
      exact hz z this.1 this.2.1 this.2.2
    rw [this]
    exact ⟨by simp, by simp, by simp, by simp, by simp⟩
  obtain ⟨s1, s2⟩ := s
  cases s1 with
  | none =>
    obtain ⟨h1, h2⟩ := h.non rfl
    simp only at h1
    subst h1
    refine ⟨hnil fun z hz hn => ?_, by simp [swpReset]⟩
    have := h2 z hz; omega
  | some y =>
    obtain ⟨h1, h2⟩ := h.at_ y rfl
    by_cases e : y.res = x.res
    · have er : swpReset (some y, s2) x = (some y, s2) := by simp [swpReset, e]
      rw [er, ← e]
      exact ⟨h1, by simp⟩
    · have er : swpReset (some y, s2) x = (none, none) := by simp [swpReset, e]
      rw [er]
      refine ⟨hnil fun z hz hn e2 => ?_, by simp⟩
      have := h2 z hz hn
      have hy := curT_mem.1 (h1.mem y rfl)
      have := hx y hy.1 hy.2.1
      omega
theorem SwpAt.bad {s : Swp} {q : List Ten} (h : SwpAt s q) (x : Ten) : swpBad s x = true ↔ ∃ z ∈ q, z.tr ≠ x.tr ∧ x.frm < z.to := by
  obtain ⟨s1, s2⟩ := s
  cases s1 with
  | none =>
    have := (h.non rfl).1
    subst this
    simp [swpBad, swpRival]
  | some y =>
    by_cases e : y.tr = x.tr
    · have er : swpRival (some y, s2) x = s2 := by simp [swpRival, e]
      unfold swpBad
      rw [er]
      constructor
      · intro hb
        cases s2 with
        | none => simp at hb
        | some u =>
          have := h.oth y u rfl rfl
          exact ⟨u, this.1, by rw [← e]; exact this.2, by simpa using hb⟩
      · rintro ⟨z, hz, ht, hf⟩
        obtain ⟨u, hu, hle⟩ := h.omost y rfl z hz (by rw [e]; exact ht)
        simp only at hu
        subst hu
        simp; omega
    · have er : swpRival (some y, s2) x = some y := by simp [swpRival, e]
      unfold swpBad
      rw [er]
      constructor
      · intro hb; exact ⟨y, h.mem y rfl, e, by simpa using hb⟩
      · rintro ⟨z, hz, ht, hf⟩
        have := h.most y rfl z hz
        simp; omega
theorem SwpAt.next {s : Swp} {q : List Ten} (h : SwpAt s q) (x : Ten) : SwpAt (swpNext s x) (q ++ [x]) := by
  obtain ⟨s1, s2⟩ := s
  cases s1 with
  | none =>
    obtain ⟨h1, h2⟩ := h.non rfl
    simp only at h2
    subst h1 h2
    refine ⟨by simp [swpNext], by simp [swpNext], by simp [swpNext], by simp [swpNext], by simp [swpNext]⟩
  | some y =>
    have hm := h.mem y rfl
    have hmo := h.most y rfl
    by_cases e1 : y.tr = x.tr ∧ y.to < x.to
    · have er : swpNext (some y, s2) x = (some x, s2) := by simp [swpNext, e1]
      rw [er]
      refine ⟨by simp, by simp, ?_, ?_, ?_⟩
      · intro y' hy z hz
        injection hy with hy; subst hy
        rcases List.mem_append.1 hz with hz | hz
        · have := hmo z hz; omega
        · simp at hz; subst hz; omega
      · intro y' u hy hu
        injection hy with hy; subst hy
        have := h.oth y u rfl hu
        exact ⟨by simp [this.1], by rw [← e1.1]; exact this.2⟩
      · intro y' hy z hz ht
        injection hy with hy; subst hy
        rcases List.mem_append.1 hz with hz | hz
        · exact h.omost y rfl z hz (by rw [e1.1]; exact ht)
        · simp at hz; subst hz; exact absurd rfl ht
    by_cases e2 : y.tr = x.tr
    · have e3 : ¬ y.to < x.to := fun g => e1 ⟨e2, g⟩
      have er : swpNext (some y, s2) x = (some y, s2) := by simp [swpNext, e2, e3]
      rw [er]
      refine ⟨by simp, ?_, ?_, ?_, ?_⟩
      · intro y' hy; injection hy with hy; subst hy; simp [hm]
      · intro y' hy z hz
        injection hy with hy; subst hy
        rcases List.mem_append.1 hz with hz | hz
        · exact hmo z hz
        · simp at hz; subst hz; omega
      · intro y' u hy hu
        injection hy with hy; subst hy
        have := h.oth y u rfl hu
        exact ⟨by simp [this.1], this.2⟩
      · intro y' hy z hz ht
        injection hy with hy; subst hy
        rcases List.mem_append.1 hz with hz | hz
        · exact h.omost y rfl z hz ht
        · simp at hz; subst hz; exact absurd e2.symm ht
    by_cases e3 : y.to < x.to
    · have er : swpNext (some y, s2) x = (some x, some y) := by simp [swpNext, e2, e3]
      rw [er]
      refine ⟨by simp, by simp, ?_, ?_, ?_⟩
      · intro y' hy z hz
        injection hy with hy; subst hy
        rcases List.mem_append.1 hz with hz | hz
        · have := hmo z hz; omega
        · simp at hz; subst hz; omega
      · intro y' u hy hu
        injection hy with hy; subst hy
        injection hu with hu; subst hu
        exact ⟨by simp [hm], e2⟩
      · intro y' hy z hz ht
        injection hy with hy; subst hy
        refine ⟨y, rfl, ?_⟩
        rcases List.mem_append.1 hz with hz | hz
        · exact hmo z hz
        · simp at hz; subst hz; exact absurd rfl ht
    have hstay : (∃ z, s2 = some z ∧ ¬ z.to < x.to) → SwpAt (some y, s2) (q ++ [x]) := by
      rintro ⟨u, rfl, hu⟩
      refine ⟨by simp, ?_, ?_, ?_, ?_⟩
      · intro y' hy; injection hy with hy; subst hy; simp [hm]
      · intro y' hy z hz
        injection hy with hy; subst hy
        rcases List.mem_append.1 hz with hz | hz
        · exact hmo z hz
        · simp at hz; subst hz; omega
      · intro y' u' hy hu'
        injection hy with hy; subst hy
        have := h.oth y u' rfl hu'
        exact ⟨by simp [this.1], this.2⟩
      · intro y' hy z hz ht
        injection hy with hy; subst hy
        rcases List.mem_append.1 hz with hz | hz
        · exact h.omost y rfl z hz ht
        · simp at hz; subst hz; exact ⟨u, rfl, by omega⟩
    have hnew : (∀ z, s2 = some z → z.to < x.to) → SwpAt (some y, some x) (q ++ [x]) := by
      intro hz'
      refine ⟨by simp, ?_, ?_, ?_, ?_⟩
      · intro y' hy; injection hy with hy; subst hy; simp [hm]
      · intro y' hy z hz
        injection hy with hy; subst hy
        rcases List.mem_append.1 hz with hz | hz
        · exact hmo z hz
        · simp at hz; subst hz; omega
      · intro y' u' hy hu'
        injection hy with hy; subst hy
        injection hu' with hu'; subst hu'
        exact ⟨by simp, fun e => e2 e.symm⟩
      · intro y' hy z hz ht
        injection hy with hy; subst hy
        refine ⟨x, rfl, ?_⟩
        rcases List.mem_append.1 hz with hz | hz
        · obtain ⟨u, hu, hle⟩ := h.omost y rfl z hz ht
          have := hz' u hu
          omega
        · simp at hz; subst hz; omega
    cases s2 with
    | none =>
      have er : swpNext (some y, none) x = (some y, some x) := by simp [swpNext, e2, e3]
      rw [er]; exact hnew (by simp)
    | some u =>
      by_cases e4 : u.to < x.to
      · have er : swpNext (some y, some u) x = (some y, some x) := by simp [swpNext, e2, e3, e4]
        rw [er]; exact hnew (by rintro z hz; injection hz with hz; subst hz; exact e4)
      · have er : swpNext (some y, some u) x = (some y, some u) := by simp [swpNext, e2, e3, e4]
        rw [er]; exact hstay ⟨u, rfl, e4⟩
theorem swpNext_some (s : Swp) (x : Ten) : ∃ y, (swpNext s x).1 = some y ∧ (y = x ∨ s.1 = some y) := by
  obtain ⟨s1, s2⟩ := s
  cases s1 with
  | none => exact ⟨x, rfl, .inl rfl⟩
  | some y =>
    unfold swpNext
    simp only
    split
    · exact ⟨x, rfl, .inl rfl⟩
    split
    · exact ⟨y, rfl, .inr rfl⟩
    split
    · exact ⟨x, rfl, .inl rfl⟩
    cases s2 with
    | none => exact ⟨y, rfl, .inr rfl⟩
    | some u => simp only; split <;> exact ⟨y, rfl, .inr rfl⟩
theorem sweep_free : ∀ (r p : List Ten) (s : Swp), SwpOk s p → (p ++ r).Pairwise tenLe → ((sweep s r).isSome = true ↔ r.Pairwise (fun a b => ¬ clash a b) ∧ ∀ z ∈ p, ∀ x ∈ r, ¬ clash z x) := by
  intro r
  induction r with
  | nil => intro p s h _; simp [sweep]
  | cons x r ih =>
    intro p s h hs
    have hs' : ((p ++ [x]) ++ r).Pairwise tenLe := by simpa using hs
    have hx : ∀ z ∈ p, tenLe z x := fun z hz => (List.pairwise_append.1 hs).2.2 z hz x (by simp)
    unfold sweep
    by_cases he : x.to ≤ x.frm
    · rw [if_pos he]
      have h' : SwpOk s (p ++ [x]) := by
        refine ⟨fun hn => ⟨(h.non hn).1, fun z hz => ?_⟩, fun y hy => ⟨?_, fun z hz hn => ?_⟩⟩
        · rcases List.mem_append.1 hz with hz | hz
          · exact (h.non hn).2 z hz
          · simp at hz; subst hz; exact he
        · have : curT (p ++ [x]) y.res = curT p y.res := by
            unfold curT
            rw [List.filter_append]
            have : decide (x.frm < x.to ∧ x.res = y.res) = false := by rw [decide_eq_false_iff_not]; omega
            rw [List.filter_cons, this]; simp
          rw [this]; exact (h.at_ y hy).1
        · rcases List.mem_append.1 hz with hz | hz
          · exact (h.at_ y hy).2 z hz hn
          · simp at hz; subst hz; omega
      rw [ih _ _ h' hs', List.pairwise_cons]
      have hne : ∀ z, ¬ clash z x := fun z hc => by have := hc.2.2; omega
      constructor
      · rintro ⟨a, b⟩
        refine ⟨⟨fun z _ hc => hne z (clash_symm hc), a⟩, fun z hz y hy => ?_⟩
        rcases List.mem_cons.1 hy with rfl | hy
        · exact hne z
        · exact b z (by simp [hz]) y hy
      · rintro ⟨⟨a, b⟩, c⟩
        refine ⟨b, fun z hz y hy => ?_⟩
        rcases List.mem_append.1 hz with hz | hz
        · exact c z hz y (by simp [hy])
        · simp at hz; subst hz; exact a y hy
    · rw [if_neg he]
      have hr := h.reset (x := x) (fun z hz _ => by rcases hx z hz with g | g <;> omega)
      have hb := hr.1.bad x
      have hcl : (∃ z ∈ curT p x.res, z.tr ≠ x.tr ∧ x.frm < z.to) ↔ ∃ z ∈ p, clash z x := by
        constructor
        · rintro ⟨z, hz, ht, hf⟩
          have hz' := curT_mem.1 hz
          refine ⟨z, hz'.1, hz'.2.2, ht, ?_⟩
          rcases hx z hz'.1 with g | g <;> omega
        · rintro ⟨z, hz, hc⟩
          have := hc.2.2
          exact ⟨z, curT_mem.2 ⟨hz, by omega, hc.1⟩, hc.2.1, by omega⟩
      rw [hcl] at hb
      by_cases hbad : swpBad (swpReset s x) x = true
      · rw [if_pos hbad]
        obtain ⟨z, hz, hc⟩ := hb.1 hbad
        constructor
        · intro e; simp at e
        · rintro ⟨_, c⟩; exact absurd hc (c z hz x (by simp))
      · rw [if_neg hbad]
        have hno : ∀ z ∈ p, ¬ clash z x := fun z hz hc => hbad (hb.2 ⟨z, hz, hc⟩)
        have hcur : curT (p ++ [x]) x.res = curT p x.res ++ [x] := by
          unfold curT
          rw [List.filter_append]
          have : decide (x.frm < x.to ∧ x.res = x.res) = true := by rw [decide_eq_true_eq]; omega
          rw [List.filter_cons, this]; rfl
        have h' : SwpOk (swpNext (swpReset s x) x) (p ++ [x]) := by
          obtain ⟨y, hy, hy2⟩ := swpNext_some (swpReset s x) x
          have hyr : y.res = x.res := by
            rcases hy2 with rfl | hy2
            · rfl
            · exact hr.2 y hy2
          refine ⟨fun hn => absurd (hy.symm.trans hn) (by simp), fun y' hy' => ?_⟩
          rw [hy] at hy'
          injection hy' with hy'
          subst hy'
          rw [hyr, hcur]
          refine ⟨hr.1.next x, fun z hz _ => ?_⟩
          rcases List.mem_append.1 hz with hz | hz
          · rcases hx z hz with g | g <;> omega
          · simp at hz; subst hz; omega
        rw [ih _ _ h' hs', List.pairwise_cons]
        constructor
        · rintro ⟨a, b⟩
          refine ⟨⟨fun y hy hc => b x (by simp) y hy hc, a⟩, fun z hz y hy => ?_⟩
          rcases List.mem_cons.1 hy with rfl | hy
          · exact hno z hz
          · exact b z (by simp [hz]) y hy
        · rintro ⟨⟨a, b⟩, c⟩
          refine ⟨b, fun z hz y hy => ?_⟩
          rcases List.mem_append.1 hz with hz | hz
          · exact c z hz y (by simp [hy])
          · simp at hz; subst hz; exact a y hy
/-- the program's sweep over tenures in order: no clash -/
theorem sweep_ok {l m : List Ten} (hp : l.Perm m) (hs : l.Pairwise tenLe) : (sweep (none, none) l).isSome = decide (freeL m) := by
  rw [Bool.eq_iff_iff, sweep_free l [] _ SwpOk.start (by simpa using hs)]
  simp only [List.not_mem_nil, false_implies, implies_true, and_true, decide_eq_true_eq]
  exact freeL_perm hp
/-- the reference: of the first i tenures none clashes with an earlier one -/
theorem freeL_take_succ {l : List Ten} {i : Nat} {x : Ten} (h : l[i]? = some x) : freeL (l.take (i + 1)) ↔ freeL (l.take i) ∧ ∀ z ∈ l.take i, ¬ clash x z := by
  rw [List.take_add_one, h]
  unfold freeL
  rw [Option.toList_some, List.pairwise_append]
  simp only [List.pairwise_singleton, List.mem_singleton, true_and, forall_eq]
  constructor
  · rintro ⟨a, b⟩; exact ⟨a, fun z hz hc => b z hz (clash_symm hc)⟩
  · rintro ⟨a, b⟩; exact ⟨a, fun z hz hc => b z hz (clash_symm hc)⟩
end Go.Proofs.YtcbcegdidlefiaaGreat
