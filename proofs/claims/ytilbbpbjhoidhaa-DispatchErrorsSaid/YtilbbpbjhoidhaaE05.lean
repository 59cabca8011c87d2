/- Contracts of the readers of stages and uses: Contains, uses, Uses, holds. Conditions: as each theorem says. Reading in a world that keeps all of an earlier one. Conditions: as each theorem says. A slice of slices under construction: each row grows by append on its own. Conditions: as each theorem says. Contracts of the small readers of the graph: number, release, happened. Conditions: as each theorem says. -/
import Derived.Test.YtilbbpbjhoidhaaE04
namespace Go.Proofs.Ytilbbpbjhoidhaa
open Go.RowKit

theorem RRefs.at_ {w : World} {S : Foot} {A : Option Addr} {n c : Nat} {l : List Ref} (h : RRefs w S [.slice A n c] l) {k : Nat} (hk : k < l.length) :
  ∃ b o u, A = some ⟨b, o, none⟩ ∧ S b ∧ l[k]? = some u ∧ w.cell? ⟨b, o + k * 2, none⟩ = some (.int .i64 u.tr) ∧ w.cell? ⟨b, o + k * 2 + 1, none⟩ = some (.int .i64 u.st) := by
 obtain ⟨b, o, u, es, rfl, hb, hx, h1, h2, h3⟩ := h.get hk
 cases h2
 exact ⟨b, o, u, rfl, hb, hx, by simpa using h3 0 _ rfl, by simpa [Nat.add_assoc] using h3 1 _ rfl⟩
theorem ROrders.at_ {w : World} {S : Foot} {A : Option Addr} {n c : Nat} {l : List Order} (h : ROrders w S [.slice A n c] l) {k : Nat} (hk : k < l.length) :
  ∃ b o x A' c', A = some ⟨b, o, none⟩ ∧ S b ∧ l[k]? = some x ∧ w.cell? ⟨b, o + k * 2, none⟩ = some (.int .i64 x.res) ∧ w.cell? ⟨b, o + k * 2 + 1, none⟩ = some (.slice A' x.uses.length c') ∧ RRefs w S [.slice A' x.uses.length c'] x.uses := by
 obtain ⟨b, o, x, es, rfl, hb, hx, h1, ⟨v, rfl, hv⟩, h3⟩ := h.get hk
 have hv' := hv
 obtain ⟨A', c', he, _⟩ := hv'
 injection he with he _; subst he
 exact ⟨b, o, x, A', c', rfl, hb, hx, by simpa using h3 0 _ rfl, by simpa [Nat.add_assoc] using h3 1 _ rfl, hv⟩

abbrev stC (s : Stage) (Ap : Option Addr) (cp : Nat) : Array Value := #[.int .i64 s.sec, .slice Ap s.pts.length cp, .int .i64 s.mn, .int .i64 s.nt]
theorem mem_stUses (s : Stage) (r : Int) : decide (r ∈ stUses s) = (s.sec == r || decide (r ∈ s.pts)) := by
 rw [Bool.eq_iff_iff]
 simp only [stUses, List.mem_cons, Bool.or_eq_true, beq_iff_eq, decide_eq_true_eq]
 constructor
 ·rintro (h | h)
  ·exact .inl h.symm
  ·exact .inr h
 ·rintro (h | h)
  ·exact .inl h.symm
  ·exact .inr h

set_option maxHeartbeats 400000 in
theorem Uses_any (s : Stage) (r : Int) (Ap : Option Addr) (cp : Nat) (w : World) (h : RInts w (Old w) [.slice Ap s.pts.length cp] s.pts) :
  Calls Try.prog 61 #[.agg (stC s Ap cp), .int .i64 r] w fun e w' => e = .returned (.tuple #[.bool (decide (r ∈ stUses s)), .bool (s.sec == r)]) ∧ KeepsAll w w' := by
 have hc := h.caps
 have HA : Hid (∀ o, RInts (w.alloc o) (Old (w.alloc o)) [.slice Ap s.pts.length cp] s.pts) := fun o => ((Keeps.refl (fun _ => False) w).alloc o).rd RInts.ok h (fun b hb => ⟨hb, by simp⟩) (fun b hb => by have : b < w.heap.size := hb; show b < _; simp; omega)
 have HM := Lib.hid (mem_stUses s r)
 clear h
 by_cases g : (s.sec == r) = true
 ·have HM2 : Hid (decide (r ∈ stUses s) = true) := by rw [HM.out, g]; rfl
  clear HM
  go_enter Try.func61, Try.ntmps61
  go_wp2
  go_ret2
  exact ⟨by rw [HM2.out, g]; rfl, (Keeps.refl _ _).alloc _⟩
 ·have g' : (s.sec == r) = false := by simpa using g
  have HM2 : Hid (decide (r ∈ stUses s) = decide (r ∈ s.pts)) := by show decide (r ∈ stUses s) = decide (r ∈ s.pts); rw [HM.out, g', Bool.false_or]
  clear HM
  go_enter Try.func61, Try.ntmps61
  go_wp2
  generalize hW : World.alloc w _ = W
  have HR : Hid (RInts W (Old W) [.slice Ap s.pts.length cp] s.pts) := by subst hW; exact HA.out _
  have KW : Hid (KeepsAll w W) := by subst hW; exact (Keeps.refl _ _).alloc _
  clear hW HA
  go_loop [15] (fun i => ∃ k : Nat, k ≤ s.pts.length ∧ i = .int .i64 k ∧ r ∉ s.pts.take k) (fun i => s.pts.length - (intOf i).toNat)
  case atStart => exact ⟨0, Nat.zero_le _, rfl, by simp⟩
  case round =>
   obtain ⟨k, hk, rfl, hno⟩ := hrel
   have HNO := Lib.hid hno; clear hno
   by_cases hlt : k < s.pts.length
   ·obtain ⟨b, o, y, rfl, _, hy, k1⟩ := HR.out.at_ hlt
    by_cases g2 : (y == r) = true
    ·have Q : Hid (decide (r ∈ s.pts) = true) := by
      have : y = r := by simpa using g2
      subst this
      show decide (y ∈ s.pts) = true
      simpa using List.mem_of_getElem? hy
     clear hy
     go_wp2
     go_ret2
     exact ⟨by rw [HM2.out, Q.out]; rfl, KW.out⟩
    ·have g2' : (y == r) = false := by simpa using g2
     have Q : Hid (r ∉ s.pts.take (k + 1)) := by
      show ¬ _
      rw [List.take_add_one, hy]; simp
      exact ⟨by simpa using HNO.out, fun e => by simp [e] at g2'⟩
     clear hy
     go_wp2
     go_round
     case rel => exact ⟨k + 1, by omega, by go_num, Q.out⟩
     case measure => simp [intOf]; omega
   ·obtain rfl : k = s.pts.length := by omega
    have Q : Hid (decide (r ∈ s.pts) = false) := by
     show decide (r ∈ s.pts) = false
     have := HNO.out; rw [List.take_length] at this
     simpa using this
    go_wp2
    go_ret2
    exact ⟨by rw [HM2.out, Q.out]; rfl, KW.out⟩

theorem Keeps.rdo' {α : Type} {E : Rd α} (hE : Rd.Ok E) {a b : World} (k : KeepsAll a b) {cs : List Value} {x : α} (h : E a (Old a) cs x) : E b (Old b) cs x :=
 k.rd hE h (fun b hb => ⟨hb, by simp⟩) (fun b hb => Nat.lt_of_lt_of_le hb k.size)
theorem Keeps.tr {a b c : World} (k : KeepsAll a b) (k' : KeepsAll b c) : KeepsAll a c := k.trans k' (fun _ _ h => h)
theorem Keeps.cellK {a b : World} (k : KeepsAll a b) {p : Addr} {v : Value} (hp : p.block < a.heap.size) (h : a.cell? p = some v) : b.cell? p = some v := (k.cell hp (by simp)).trans h
section
variable {w wr : World} {A : Option Addr} {n c : Nat}
theorem RInts.atK {l : List Int} (K : KeepsAll w wr) (h : RInts w (Old w) [.slice A n c] l) {k : Nat} (hk : k < l.length) :
  ∃ b o x, A = some ⟨b, o, none⟩ ∧ b < wr.heap.size ∧ l[k]? = some x ∧ wr.cell? ⟨b, o + k, none⟩ = some (.int .i64 x) := by
 obtain ⟨b, o, x, rfl, hb, hx, h1⟩ := h.at_ hk
 exact ⟨b, o, x, rfl, Nat.lt_of_lt_of_le hb K.size, hx, K.cellK hb h1⟩
theorem RSS.atK {α : Type} {size : Nat} {E : Rd α} {l : List (List α)} (K : KeepsAll w wr) (h : RSlice 1 (RSlice size E) w (Old w) [.slice A n c] l) {k : Nat} (hk : k < l.length) :
  ∃ b o x A' c', A = some ⟨b, o, none⟩ ∧ b < wr.heap.size ∧ l[k]? = some x ∧ wr.cell? ⟨b, o + k, none⟩ = some (.slice A' x.length c') ∧ RSlice size E w (Old w) [.slice A' x.length c'] x := by
 obtain ⟨b, o, x, A', c', rfl, hb, hx, h1, h2⟩ := RSS.at_ h hk
 exact ⟨b, o, x, A', c', rfl, Nat.lt_of_lt_of_le hb K.size, hx, K.cellK hb h1, h2⟩
theorem RPath.atK {l : List Stage} (K : KeepsAll w wr) (h : RPath w (Old w) [.slice A n c] l) {k : Nat} (hk : k < l.length) :
  ∃ b o s A' c', A = some ⟨b, o, none⟩ ∧ b < wr.heap.size ∧ l[k]? = some s ∧ wr.cell? ⟨b, o + k * 4, none⟩ = some (.int .i64 s.sec) ∧ wr.cell? ⟨b, o + k * 4 + 1, none⟩ = some (.slice A' s.pts.length c') ∧
   wr.cell? ⟨b, o + k * 4 + 2, none⟩ = some (.int .i64 s.mn) ∧ wr.cell? ⟨b, o + k * 4 + 3, none⟩ = some (.int .i64 s.nt) ∧ RInts w (Old w) [.slice A' s.pts.length c'] s.pts := by
 obtain ⟨b, o, s, A', c', rfl, hb, hx, h0, h1, h2, h3, h4⟩ := RPath.at_ h hk
 exact ⟨b, o, s, A', c', rfl, Nat.lt_of_lt_of_le hb K.size, hx, K.cellK hb h0, K.cellK hb h1, K.cellK hb h2, K.cellK hb h3, h4⟩
theorem RRefs.atK {l : List Ref} (K : KeepsAll w wr) (h : RRefs w (Old w) [.slice A n c] l) {k : Nat} (hk : k < l.length) :
  ∃ b o u, A = some ⟨b, o, none⟩ ∧ b < wr.heap.size ∧ l[k]? = some u ∧ wr.cell? ⟨b, o + k * 2, none⟩ = some (.int .i64 u.tr) ∧ wr.cell? ⟨b, o + k * 2 + 1, none⟩ = some (.int .i64 u.st) := by
 obtain ⟨b, o, u, rfl, hb, hx, h0, h1⟩ := RRefs.at_ h hk
 exact ⟨b, o, u, rfl, Nat.lt_of_lt_of_le hb K.size, hx, K.cellK hb h0, K.cellK hb h1⟩
theorem ROrders.atK {l : List Order} (K : KeepsAll w wr) (h : ROrders w (Old w) [.slice A n c] l) {k : Nat} (hk : k < l.length) :
  ∃ b o x A' c', A = some ⟨b, o, none⟩ ∧ b < wr.heap.size ∧ l[k]? = some x ∧ wr.cell? ⟨b, o + k * 2, none⟩ = some (.int .i64 x.res) ∧ wr.cell? ⟨b, o + k * 2 + 1, none⟩ = some (.slice A' x.uses.length c') ∧ RRefs w (Old w) [.slice A' x.uses.length c'] x.uses := by
 obtain ⟨b, o, x, A', c', rfl, hb, hx, h0, h1, h2⟩ := ROrders.at_ h hk
 exact ⟨b, o, x, A', c', rfl, Nat.lt_of_lt_of_le hb K.size, hx, K.cellK hb h0, K.cellK hb h1, h2⟩
end

def Rd.Flat {α : Type} (E : Rd α) : Prop := ∀ w S w' S' cs x, E w S cs x → E w' S' cs x
theorem RInt.flat : Rd.Flat RInt := fun _ _ _ _ _ _ h => h
theorem RBool.flat : Rd.Flat RBool := fun _ _ _ _ _ _ h => h
theorem RRef.flat : Rd.Flat RRef := fun _ _ _ _ _ _ h => h
def RGArc : Rd GArc := fun _ _ cs a => cs = [.int .i64 a.frm, .int .i64 a.wt]
theorem RGArc.ok : Rd.Ok RGArc := ⟨fun h _ _ => h⟩
theorem RGArc.flat : Rd.Flat RGArc := fun _ _ _ _ _ _ h => h
abbrev RArcs := RSlice 2 RGArc
abbrev RArcss := RSlice 1 RArcs
theorem RArcs.ok : Rd.Ok RArcs := RSlice.ok RGArc.ok
theorem RArcss.ok : Rd.Ok RArcss := RSlice.ok RArcs.ok
theorem RArcs.atK {w wr : World} {A : Option Addr} {n c : Nat} {l : List GArc} (K : KeepsAll w wr) (h : RArcs w (Old w) [.slice A n c] l) {k : Nat} (hk : k < l.length) :
  ∃ b o u, A = some ⟨b, o, none⟩ ∧ b < wr.heap.size ∧ l[k]? = some u ∧ wr.cell? ⟨b, o + k * 2, none⟩ = some (.int .i64 u.frm) ∧ wr.cell? ⟨b, o + k * 2 + 1, none⟩ = some (.int .i64 u.wt) := by
 obtain ⟨b, o, u, es, rfl, hb, hx, h1, h2, h3⟩ := h.get hk
 cases h2
 exact ⟨b, o, u, rfl, Nat.lt_of_lt_of_le hb K.size, hx, K.cellK hb (by simpa using h3 0 _ rfl), K.cellK hb (by simpa [Nat.add_assoc] using h3 1 _ rfl)⟩

theorem OwnL.keepsF {α : Type} {t size : Nat} {E : Rd α} {w w' : World} {base lo : Nat} {v : Value} {l : List α} (hF : Rd.Flat E) {C : Foot} (h : OwnL t size E w base lo v l) (k : Keeps C w w') (hC : ∀ b, v.ownBlock = some b → ¬ C b) : OwnL t size E w' base lo v l := by
 obtain ⟨ess, h1, h2, h3⟩ := h
 refine ⟨ess, h1, ?_, fun j x hx => ?_⟩
 ·refine ⟨h2.1, ?_⟩
  rcases h2.2 with hn | ⟨g, cap, cur, e, hb, hh, rest⟩
  ·exact .inl hn
  ·have hlt := (Array.getElem?_eq_some_iff.1 hh).1
   exact .inr ⟨g, cap, cur, e, hb, (k.block g hlt (hC g (by rw [e]; rfl))).trans hh, rest⟩
 ·obtain ⟨es, e1, e2, e3⟩ := h3 j x hx
  exact ⟨es, e1, e2, hF _ _ _ _ _ _ e3⟩
theorem OwnL.readF {α : Type} {t size : Nat} {E : Rd α} {w : World} {base lo : Nat} {v : Value} {l : List α} (_hE : Rd.Ok E) (hF : Rd.Flat E) (h : OwnL t size E w base lo v l) {S : Foot} (hS : ∀ b, v.ownBlock = some b → S b) : RSlice size E w S [v] l := by
 obtain ⟨ess, h1, h2, h3⟩ := h
 have hall : ∀ es ∈ ess, es.length = size := by
  intro es hes
  obtain ⟨j, hj, e⟩ := List.getElem_of_mem hes
  have hl : j < l.length := by omega
  obtain ⟨es', e1, e2, _⟩ := h3 j l[j] (List.getElem?_eq_getElem hl)
  rw [List.getElem?_eq_getElem hj, e] at e1
  injection e1 with e1; subst e1; exact e2
 rcases h2.2 with ⟨rfl, hn⟩ | ⟨g, cap, cur, rfl, hb, hh, hnc, hcm, hcs, htk⟩
 ·have : l = [] := List.eq_nil_of_length_eq_zero hn
  subst this
  exact RSlice.mkNil
 ·refine ⟨_, cap, rfl, hnc, hcm, fun _ => ⟨g, 0, rfl, hS g rfl, fun j x hx => ?_⟩⟩
  obtain ⟨es, e1, e2, e3⟩ := h3 j x hx
  refine ⟨es, e2, hF _ _ _ _ _ _ e3, fun i u hu => ?_⟩
  have hi : i < size := by rw [← e2]; exact (List.getElem?_eq_some_iff.1 hu).1
  have hj : j < l.length := (List.getElem?_eq_some_iff.1 hx).1
  have hf := flatten_at hall e1 hi
  rw [hu, ← htk] at hf
  have hk : j * size + i < l.length * size := by
   have : (j + 1) * size ≤ l.length * size := Nat.mul_le_mul_right _ hj
   rw [Nat.succ_mul] at this; omega
  rw [List.getElem?_take_of_lt hk] at hf
  simp only [World.cell?, hh, Option.isSome_none, Nat.zero_add]
  simpa using hf

structure Rows {α : Type} (tr te size : Nat) (E : Rd α) (w : World) (base B : Nat) (vs : List Value) (ll : List (List α)) : Prop where
 blk : Blk w B tr vs.toArray
 len : vs.length = ll.length
 own : ∀ (i : Nat) v l, vs[i]? = some v → ll[i]? = some l → OwnL te size E w base base v l
 ne : ∀ (i j : Nat) u v b, i ≠ j → vs[i]? = some u → vs[j]? = some v → u.ownBlock = some b → v.ownBlock ≠ some b
 nb : B < base
section
variable {α : Type} {tr te size : Nat} {E : Rd α} {w w' : World} {base B : Nat} {vs : List Value} {ll : List (List α)}
theorem Rows.keeps (hF : Rd.Flat E) {C : Foot} (h : Rows tr te size E w base B vs ll) (k : Keeps C w w') (hB : ¬ C B) (hC : ∀ b, base ≤ b → b < w.heap.size → ¬ C b) : Rows tr te size E w' base B vs ll :=
 ⟨h.blk.kept k hB, h.len, fun i v l hv hl => (h.own i v l hv hl).keepsF hF k (fun b hb => by have := (h.own i v l hv hl).lt hb; exact hC b this.1 this.2), h.ne, h.nb⟩
theorem Rows.get (h : Rows tr te size E w base B vs ll) {i : Nat} (hi : i < ll.length) : ∃ v l, vs[i]? = some v ∧ ll[i]? = some l ∧ OwnL te size E w base base v l ∧ w.cell? ⟨B, i, none⟩ = some v ∧ w.frozen? ⟨B, i, none⟩ = false := by
 have hv : vs[i]? = some (vs[i]'(by rw [h.len]; exact hi)) := List.getElem?_eq_getElem _
 have hl : ll[i]? = some ll[i] := List.getElem?_eq_getElem hi
 exact ⟨_, _, hv, hl, h.own i _ _ hv hl, by rw [h.blk.cell]; simp, h.blk.frozen i⟩
theorem Rows.push (hF : Rd.Flat E) (h : Rows tr te size E w base B vs ll) {i : Nat} {v v' : Value} {l l' : List α} (hv : vs[i]? = some v) (hl : ll[i]? = some l) (_hbase : base ≤ w.heap.size) (ho : OwnL te size E w' base base v' l') (hk : Keeps (fun b => v.ownBlock = some b) w w') (hn : v'.ownBlock = v.ownBlock ∨ v'.ownBlock = some w.heap.size) :
  Rows tr te size E (w'.setCell ⟨B, i, none⟩ v') base B (vs.set i v') (ll.set i l') := by
 have hBv : ¬ (v.ownBlock = some B) := fun e => by have := (h.own i v l hv hl).lt e; have := h.nb; omega
 have hlt := h.blk.lt
 have hi := getElem?_lt hv
 have k2 : Keeps (fun b => b = B) w' (w'.setCell ⟨B, i, none⟩ v') := (Keeps.refl (fun b => b = B) w').setCell (p := ⟨B, i, none⟩) (fun _ => rfl) _
 have key : ∀ (j : Nat) u m, j ≠ i → vs[j]? = some u → ll[j]? = some m → OwnL te size E (w'.setCell ⟨B, i, none⟩ v') base base u m := fun j u m hj hu hm => by
  have h1 := (h.own j u m hu hm).keepsF hF hk (fun b hb e => h.ne j i u v b hj hu hv hb e)
  exact h1.keepsF hF k2 (fun b hb e => by have := h1.lt hb; have := h.nb; omega)
 refine ⟨?_, by simp [h.len], fun j u m hu hm => ?_, fun a b u u' x hab hu hu' hx => ?_, h.nb⟩
 ·have := (h.blk.kept hk hBv).set_ i v'
  have e : vs.toArray.setIfInBounds i v' = (vs.set i v').toArray := by simp
  rw [e] at this; exact this
 ·by_cases e : i = j
  ·subst e
   rw [List.getElem?_set_self hi] at hu
   rw [List.getElem?_set_self (by rw [← h.len]; exact hi)] at hm
   injection hu with hu; injection hm with hm; subst hu hm
   exact ho.keepsF hF k2 (fun b hb e => by have := ho.lt hb; have := h.nb; omega)
  ·rw [List.getElem?_set_ne e] at hu hm
   exact key j u m (fun h => e h.symm) hu hm
 ·by_cases e1 : i = a
  ·subst e1
   rw [List.getElem?_set_self hi] at hu
   injection hu with hu; subst hu
   rw [List.getElem?_set_ne hab] at hu'
   intro e2
   obtain ⟨m, hm⟩ : ∃ m, ll[b]? = some m := ⟨_, List.getElem?_eq_getElem (by rw [← h.len]; exact getElem?_lt hu')⟩
   rcases hn with hn | hn
   ·exact h.ne i b v u' x hab hv hu' (by rw [← hn]; exact hx) e2
   ·rw [hn] at hx; injection hx with hx; subst hx
    have := (h.own b u' m hu' hm).lt e2; omega
  ·rw [List.getElem?_set_ne e1] at hu
   by_cases e2 : i = b
   ·subst e2
    rw [List.getElem?_set_self hi] at hu'
    injection hu' with hu'; subst hu'
    obtain ⟨m, hm⟩ : ∃ m, ll[a]? = some m := ⟨_, List.getElem?_eq_getElem (by rw [← h.len]; exact getElem?_lt hu)⟩
    intro e3
    rcases hn with hn | hn
    ·exact h.ne a i u v x hab hu hv hx (by rw [← hn]; exact e3)
    ·rw [hn] at e3; injection e3 with e3; subst e3
     have := (h.own a u m hu hm).lt hx; omega
   ·rw [List.getElem?_set_ne e2] at hu'
    exact h.ne a b u u' x hab hu hu' hx
theorem Rows.new (n : Nat) {B : Nat} (hb : Blk w B tr (List.replicate n (Value.slice none 0 0)).toArray) (hB : B < base) : Rows tr te size E w base B (List.replicate n (.slice none 0 0)) (List.replicate n ([] : List α)) := by
 refine ⟨hb, by simp, fun i v l hv hl => ?_, fun i j u v b _ hu _ hx => ?_, hB⟩
 ·simp [List.getElem?_replicate] at hv hl
  obtain ⟨_, rfl⟩ := hv
  obtain ⟨_, rfl⟩ := hl
  exact OwnL.nil
 ·simp [List.getElem?_replicate] at hu
  obtain ⟨_, rfl⟩ := hu
  simp [Value.ownBlock] at hx
theorem Rows.read (hE : Rd.Ok E) (hF : Rd.Flat E) (h : Rows tr te size E w base B vs ll) (hl : ll.length ≤ 9223372036854775807) {S : Foot} (hB : S B) (hS : ∀ b, base ≤ b → b < w.heap.size → S b) : RSlice 1 (RSlice size E) w S [.slice (some ⟨B, 0, none⟩) ll.length ll.length] ll := by
 refine ⟨_, _, rfl, Nat.le_refl _, hl, fun _ => ⟨B, 0, rfl, hB, fun j x hx => ?_⟩⟩
 obtain ⟨v, l, hv, hl', ho, hc, _⟩ := h.get (getElem?_lt hx)
 obtain rfl := same_of hl' hx
 refine ⟨[v], rfl, ho.readF hE hF (fun b hb => by have := ho.lt hb; exact hS b this.1 this.2), fun i u hu => ?_⟩
 have hi : i = 0 := by
  rcases i with _ | i
  ·rfl
  ·simp at hu
 subst hi
 simp at hu; subst hu
 simpa using hc
end

theorem RSlice.val {α : Type} {size : Nat} {E : Rd α} {w : World} {S : Foot} {v : Value} {l : List α} (h : RSlice size E w S [v] l) : ∃ A c, v = .slice A l.length c ∧ l.length ≤ c ∧ c ≤ 9223372036854775807 := by
 obtain ⟨A, c, he, h1, h2, _⟩ := h; injection he with he _; exact ⟨A, c, he, h1, h2⟩

end Go.Proofs.Ytilbbpbjhoidhaa
