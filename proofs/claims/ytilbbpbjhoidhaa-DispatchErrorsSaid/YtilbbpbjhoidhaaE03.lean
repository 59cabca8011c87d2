/- A slice under construction by append, its elements read by a relation; the law of one append. Conditions: as each theorem says. Contracts of the readers of positions: Section, good, Good, Same, Left. Conditions: as each theorem says. -/
import Derived.Test.YtilbbpbjhoidhaaE01
import Derived.Maps.AppendAt
namespace Go.Proofs.Ytilbbpbjhoidhaa
open Go.RowKit

def OwnL {α : Type} (t size : Nat) (E : Rd α) (w : World) (base lo : Nat) (v : Value) (l : List α) : Prop :=
 ∃ ess : List (List Value), ess.length = l.length ∧ w.ownsRow base t size v l.length ess.flatten ∧
  ∀ (j : Nat) x, l[j]? = some x → ∃ es, ess[j]? = some es ∧ es.length = size ∧ E w (fun b => lo ≤ b ∧ b < w.heap.size ∧ v.ownBlock ≠ some b) es x

section
variable {α : Type} {t size : Nat} {E : Rd α} {w w' : World} {base lo : Nat} {v : Value} {l : List α}
theorem OwnL.nil : OwnL t size E w base lo (.slice none 0 0) ([] : List α) := ⟨[], rfl, World.ownsRow_nil _ _ _ _, fun j x h => by simp at h⟩
theorem OwnL.own (h : OwnL t size E w base lo v l) : ∃ g : Option Nat, v.ownBlock = g ∧ ∀ b, g = some b → base ≤ b ∧ b < w.heap.size := by
 obtain ⟨ess, _, h2, _⟩ := h; exact ⟨_, rfl, fun b hb => h2.lt b hb⟩
theorem OwnL.lt (h : OwnL t size E w base lo v l) {b : Nat} (hb : v.ownBlock = some b) : base ≤ b ∧ b < w.heap.size := by
 obtain ⟨ess, _, h2, _⟩ := h; exact h2.lt b hb
theorem OwnL.form (h : OwnL t size E w base lo v l) : ∃ A c, v = .slice A l.length c ∧ l.length ≤ c ∧ c ≤ 9223372036854775807 := by
 obtain ⟨ess, _, h2, _⟩ := h
 rcases h2.2 with ⟨e, hn⟩ | ⟨g, cap, cur, e, _, _, h5, h6, _⟩
 ·exact ⟨none, 0, by rw [e, hn], by omega, by omega⟩
 ·exact ⟨_, cap, e, h5, h6⟩
theorem OwnL.keeps (hE : Rd.Ok E) {C : Foot} (h : OwnL t size E w base lo v l) (k : Keeps C w w') (hC : ∀ b, b < w.heap.size → C b → b < lo ∧ b < base) : OwnL t size E w' base lo v l := by
 obtain ⟨ess, h1, h2, h3⟩ := h
 refine ⟨ess, h1, ?_, fun j x hx => ?_⟩
 ·refine ⟨h2.1, ?_⟩
  rcases h2.2 with hn | ⟨g, cap, cur, e, hb, hh, rest⟩
  ·exact .inl hn
  ·have hlt := (Array.getElem?_eq_some_iff.1 hh).1
   exact .inr ⟨g, cap, cur, e, hb, (k.block g hlt (fun hc => by have := hC g hlt hc; omega)).trans hh, rest⟩
 ·obtain ⟨es, e1, e2, e3⟩ := h3 j x hx
  exact ⟨es, e1, e2, hE.mono e3 (fun b hb => ⟨hb.1, Nat.lt_of_lt_of_le hb.2.1 k.size, hb.2.2⟩) (fun b hb => k.block b hb.2.1 (fun hc => by have := hC b hb.2.1 hc; omega))⟩
theorem OwnL.alloc (hE : Rd.Ok E) (h : OwnL t size E w base lo v l) (o : Obj) : OwnL t size E (w.alloc o) base lo v l :=
 h.keeps hE ((Keeps.refl (fun _ => False) w).alloc o) (fun _ _ h => h.elim)
theorem OwnL.drew (hE : Rd.Ok E) (h : OwnL t size E w base lo v l) : OwnL t size E w.drew base lo v l :=
 h.keeps hE ((Keeps.refl (fun _ => False) w).drew) (fun _ _ h => h.elim)
theorem OwnL.drewN (hE : Rd.Ok E) (h : OwnL t size E w base lo v l) (n : Nat) : OwnL t size E (w.drewN n) base lo v l :=
 h.keeps hE ((Keeps.refl (fun _ => False) w).drewN n) (fun _ _ h => h.elim)
theorem OwnL.lo_mono (hE : Rd.Ok E) (h : OwnL t size E w base lo v l) {lo' : Nat} (hl : lo' ≤ lo) : OwnL t size E w base lo' v l := by
 obtain ⟨ess, h1, h2, h3⟩ := h
 refine ⟨ess, h1, h2, fun j x hx => ?_⟩
 obtain ⟨es, e1, e2, e3⟩ := h3 j x hx
 exact ⟨es, e1, e2, hE.mono e3 (fun b hb => ⟨by omega, hb.2⟩) (fun _ _ => rfl)⟩

theorem flatten_at {ess : List (List Value)} (hsz : ∀ es ∈ ess, es.length = size) {j : Nat} {es : List Value} (h : ess[j]? = some es) {i : Nat} (hi : i < size) : ess.flatten[j * size + i]? = es[i]? := by
 induction ess generalizing j with
 | nil => simp at h
 | cons e r ih =>
  have he := hsz e (by simp)
  cases j with
  | zero =>
   have e0 : e = es := by simpa using h
   subst e0
   simp only [List.flatten_cons, Nat.zero_mul, Nat.zero_add]
   rw [List.getElem?_append_left (by omega)]
  | succ j =>
   have h' : r[j]? = some es := by simpa using h
   simp only [List.flatten_cons]
   rw [List.getElem?_append_right (by rw [he, Nat.succ_mul]; omega), he, ← ih (fun x hx => hsz x (by simp [hx])) h']
   congr 1
   rw [Nat.succ_mul]; omega

theorem OwnL.read (hE : Rd.Ok E) (h : OwnL t size E w base lo v l) (_hsz : 0 < size) {S : Foot} (hS : ∀ b, lo ≤ b → b < w.heap.size → S b) (hS2 : ∀ b, base ≤ b → b < w.heap.size → S b) : RSlice size E w S [v] l := by
 obtain ⟨ess, h1, h2, h3⟩ := h
 have hall : ∀ es ∈ ess, es.length = size := by
  intro es hes
  obtain ⟨j, hj, e⟩ := List.getElem_of_mem hes
  have hl : j < l.length := by omega
  obtain ⟨es', e1, e2, _⟩ := h3 j l[j] (List.getElem?_eq_getElem hl)
  rw [List.getElem?_eq_getElem hj, e] at e1
  injection e1 with e1; subst e1; exact e2
 rcases h2.2 with ⟨rfl, hn⟩ | ⟨g, cap, cur, rfl, hb, hh, hnc, hcm, hcs, htk⟩
 ·have : l = [] := List.eq_nil_of_length_eq_zero hn
  subst this
  exact RSlice.mkNil
 ·have hlt := (Array.getElem?_eq_some_iff.1 hh).1
  refine ⟨_, cap, rfl, hnc, hcm, fun _ => ⟨g, 0, rfl, hS2 g hb hlt, fun j x hx => ?_⟩⟩
  obtain ⟨es, e1, e2, e3⟩ := h3 j x hx
  refine ⟨es, e2, hE.mono e3 (fun b hb => hS b hb.1 hb.2.1) (fun _ _ => rfl), fun i u hu => ?_⟩
  have hi : i < size := by rw [← e2]; exact (List.getElem?_eq_some_iff.1 hu).1
  have hj : j < l.length := (List.getElem?_eq_some_iff.1 hx).1
  have hf := flatten_at hall e1 hi
  rw [hu, ← htk] at hf
  have hk : j * size + i < l.length * size := by
   have : (j + 1) * size ≤ l.length * size := Nat.mul_le_mul_right _ hj
   rw [Nat.succ_mul] at this; omega
  rw [List.getElem?_take_of_lt hk] at hf
  simp only [World.cell?, hh, Option.isSome_none, Nat.zero_add]
  simpa using hf

structure ElemTy (P : Program) (T t size bytes : Nat) : Prop where
 ht : P.underlying T = some (.slice t)
 info : ∃ i z, P.info? t = some i ∧ i.zero = some z ∧ i.size = size ∧ i.bytes = bytes ∧ z.cells.size = size
 pos : 0 < size
theorem ElemTy.mk' {P : Program} {T t size bytes : Nat} {z : Value} (ht : P.underlying T = some (.slice t)) (h : (P.info? t).map (fun i => (i.zero, i.size, i.bytes)) = some (some z, size, bytes)) (hz : z.cells.size = size) (hp : 0 < size) : ElemTy P T t size bytes := by
 obtain ⟨i, h1, h2, h3, h4⟩ := info_parts h
 exact ⟨ht, ⟨i, z, h1, h2, h3, h4, hz⟩, hp⟩

theorem run_append_L {P : Program} {T bytes : Nat} (ty : ElemTy P T t size bytes) (hE : Rd.Ok E) (ty' : TypeId)
  (hown : OwnL t size E w base lo v l) (h : Nat) (es : List Value) (hblk : Blk w h t es.toArray) (hl : es.length = size)
  (y : α) {S : Foot} (hr : E w S es y) (hS : ∀ b, S b → lo ≤ b ∧ b < w.heap.size ∧ v.ownBlock ≠ some b) (h1 : ∀ u ∈ es, u.oneCell' = true) (hbytes : (l.length + 1) * bytes ≤ 140737488355328) (hlen : l.length + 1 ≤ 9223372036854775807) (hbase : base ≤ w.heap.size) :
  ∃ v' w', (Builtin.append_ #[T, T] ty' #[v, .slice (some ⟨h, 0, none⟩) 1 1]).run P w = .ok v' w' ∧ OwnL t size E w' base lo v' (l ++ [y]) ∧ Keeps (fun b => v.ownBlock = some b) w w' ∧ (v'.ownBlock = v.ownBlock ∨ v'.ownBlock = some w.heap.size) := by
 obtain ⟨i, z, i1, i2, i3, i4, i5⟩ := ty.info
 obtain ⟨ess, h2, h3, h4⟩ := hown
 obtain ⟨v', w', hrun, g1, g2, _, g4⟩ := run_append_own_at (P := P) w base T ty' t i z size bytes ty.ht i1 i2 i3 i4 i5 ty.pos v l.length ess.flatten h3 ⟨h, 0, none⟩ 1 1 es (by omega) (fun j u hu => by
  have hc := hblk.cell j
  have : (Addr.mk h 0 none).add j = ⟨h, j, none⟩ := by
   unfold Addr.add; split
   ·subst_vars; rfl
   ·simp
  rw [this, hc]; simpa using hu) h1 hlen hbytes hbase
 have kk : Keeps (fun b => v.ownBlock = some b) w w' := ⟨g2.os, g2.tape, g2.output, g2.size, fun b hb hn => g2.block b hb (fun e => hn e.symm)⟩
 have far : ∀ b, lo ≤ b ∧ b < w.heap.size ∧ v.ownBlock ≠ some b → lo ≤ b ∧ b < w'.heap.size ∧ v'.ownBlock ≠ some b := by
  intro b ⟨q1, q2, q3⟩
  refine ⟨q1, Nat.lt_of_lt_of_le q2 g2.size, fun e => ?_⟩
  rcases g4 with g4 | g4
  ·exact q3 (by rw [← g4]; exact e)
  ·rw [g4] at e; injection e with e; omega
 refine ⟨v', w', hrun, ⟨ess ++ [es], by simp [h2], by simpa using g1, fun j y' hy => ?_⟩, kk, g4⟩
 rcases Nat.lt_or_ge j l.length with hj | hj
 ·rw [List.getElem?_append_left hj] at hy
  obtain ⟨es', e1, e2, e3⟩ := h4 j y' hy
  exact ⟨es', by rw [List.getElem?_append_left (by omega)]; exact e1, e2, hE.mono e3 far (fun b hb => kk.block b hb.2.1 hb.2.2)⟩
 ·rw [List.getElem?_append_right hj] at hy
  have hj0 : j = l.length := by
   have := (List.getElem?_eq_some_iff.1 hy).1; simp at this; omega
  subst hj0
  simp at hy; subst hy
  exact ⟨es, by rw [← h2]; simp, hl, hE.mono hr (fun b hb => far b (hS b hb)) (fun b hb => kk.block b (hS b hb).2.1 (hS b hb).2.2)⟩

theorem wp_append_L {P : Program} {T bytes : Nat} (ty : ElemTy P T t size bytes) (hE : Rd.Ok E) {o : Oper} {a : Act} {K : Act → World → Prop} {Q : Exit → Act → World → Prop} (s x : Operand)
  (ho : o.op = .call { callee := .builtin .append, args := #[s, x], argTypes := #[T, T] })
  (hown : OwnL t size E w base lo v l) (hs : a.eval s = v) (h : Nat) (es : List Value) (hx : a.eval x = .slice (some ⟨h, 0, none⟩) 1 1) (hblk : Blk w h t es.toArray) (hl : es.length = size)
  (y : α) {S : Foot} (hr : E w S es y) (hS : ∀ b, S b → lo ≤ b ∧ b < w.heap.size ∧ v.ownBlock ≠ some b) (h1 : ∀ u ∈ es, u.oneCell' = true) (hbytes : (l.length + 1) * bytes ≤ 140737488355328) (hlen : l.length + 1 ≤ 9223372036854775807) (hbase : base ≤ w.heap.size)
  (k : ∀ v' w', OwnL t size E w' base lo v' (l ++ [y]) → Keeps (fun b => v.ownBlock = some b) w w' → (v'.ownBlock = v.ownBlock ∨ v'.ownBlock = some w.heap.size) → K (a.put o.dst v') w') : o.wp P a w K Q := by
 obtain ⟨v', w', hrun, h2, h3, h4⟩ := run_append_L ty hE o.type hown h es hblk hl y hr hS h1 hbytes hlen hbase
 unfold Oper.wp execOp
 simp only [ho, resolve, invoke, builtin, Sem.run_bind, Sem.run_pure, Result.andThen_ok, List.map_toArray, List.map_cons, List.map_nil, hs, hx, hrun]
 exact k v' w' h2 h3 h4
theorem wpList_append_L {P : Program} {T bytes : Nat} (ty : ElemTy P T t size bytes) (hE : Rd.Ok E) {ops : Array Oper} {rest : List Oper} {o : Oper} {a : Act} {Q : Exit → Act → World → Prop} (hgd : o.guard = none) (s x : Operand)
  (ho : o.op = .call { callee := .builtin .append, args := #[s, x], argTypes := #[T, T] })
  (hown : OwnL t size E w base lo v l) (hs : a.eval s = v) (h : Nat) (es : List Value) (hx : a.eval x = .slice (some ⟨h, 0, none⟩) 1 1) (hblk : Blk w h t es.toArray) (hl : es.length = size)
  (y : α) {S : Foot} (hr : E w S es y) (hS : ∀ b, S b → lo ≤ b ∧ b < w.heap.size ∧ v.ownBlock ≠ some b) (h1 : ∀ u ∈ es, u.oneCell' = true) (hbytes : (l.length + 1) * bytes ≤ 140737488355328) (hlen : l.length + 1 ≤ 9223372036854775807) (hbase : base ≤ w.heap.size)
  (k : ∀ v' w', OwnL t size E w' base lo v' (l ++ [y]) → Keeps (fun b => v.ownBlock = some b) w w' → (v'.ownBlock = v.ownBlock ∨ v'.ownBlock = some w.heap.size) → wpList P ops Q rest (a.put o.dst v') w') :
  wpList P ops Q (o :: rest) a w :=
 wpList_plain hgd fun _ hK => wp_append_L ty hE s x ho hown hs h es hx hblk hl y hr hS h1 hbytes hlen hbase fun v' w' h2 h3 h4 => hK _ _ (k v' w' h2 h3 h4)

def Rd.One {α : Type} (E : Rd α) : Prop := ∀ w S es x, E w S es x → ∀ u ∈ es, u.oneCell' = true
theorem RInt.one : Rd.One RInt := fun _ _ es x h u hu => by rw [h] at hu; simp at hu; subst hu; rfl
theorem RBool.one : Rd.One RBool := fun _ _ es x h u hu => by rw [h] at hu; simp at hu; subst hu; rfl
theorem RSlice.one {α : Type} {size : Nat} {E : Rd α} : Rd.One (RSlice size E) := fun _ _ es x h u hu => by
 obtain ⟨A, c, rfl, _⟩ := h; simp at hu; subst hu; rfl
theorem RRef.one : Rd.One RRef := fun _ _ es x h u hu => by rw [h] at hu; simp at hu; rcases hu with rfl | rfl <;> rfl
theorem RStage.one : Rd.One RStage := fun w S es x h u hu => by
 obtain ⟨v, rfl, hv⟩ := h
 have h1 := RSlice.one w S [v] x.pts hv v (by simp)
 simp at hu; rcases hu with rfl | rfl | rfl | rfl <;> first | rfl | exact h1
theorem ROrder.one : Rd.One ROrder := fun w S es x h u hu => by
 obtain ⟨v, rfl, hv⟩ := h
 have h1 := RSlice.one w S [v] x.uses hv v (by simp)
 simp at hu; rcases hu with rfl | rfl <;> first | rfl | exact h1

theorem flatten_inv {size : Nat} (hp : 0 < size) : ∀ (ess : List (List Value)), (∀ es ∈ ess, es.length = size) → ∀ (j : Nat) u, ess.flatten[j]? = some u → ∃ q i es, j = q * size + i ∧ i < size ∧ ess[q]? = some es ∧ es[i]? = some u
 | [], _, j, u, h => by simp at h
 | e :: r, hs, j, u, h => by
  have he := hs e (by simp)
  simp only [List.flatten_cons] at h
  by_cases hj : j < size
  ·rw [List.getElem?_append_left (by omega)] at h
   exact ⟨0, j, e, by omega, hj, rfl, h⟩
  ·rw [List.getElem?_append_right (by omega), he] at h
   obtain ⟨q, i, es, h1, h2, h3, h4⟩ := flatten_inv hp r (fun x hx => hs x (by simp [hx])) (j - size) u h
   exact ⟨q + 1, i, es, by rw [Nat.succ_mul]; omega, h2, by simpa using h3, h4⟩

theorem RSlice.cells {w : World} {S : Foot} {A : Option Addr} {n c : Nat} (h : RSlice size E w S [.slice A n c] l) (hp : 0 < size) : ∃ ess : List (List Value), ess.length = l.length ∧ (∀ es ∈ ess, es.length = size) ∧
  (∀ (j : Nat) x, l[j]? = some x → ∃ es, ess[j]? = some es ∧ es.length = size ∧ E w S es x) ∧ (l ≠ [] → ∃ b o, A = some ⟨b, o, none⟩ ∧ ∀ j u, ess.flatten[j]? = some u → w.cell? ⟨b, o + j, none⟩ = some u) := by
 obtain ⟨A', c', he, h1, h2, h3⟩ := h
 injection he with he _; injection he with ha hn hc; subst ha
 by_cases hl : l = []
 ·subst hl; exact ⟨[], rfl, by simp, fun j x hx => by simp at hx, fun h => absurd rfl h⟩
 ·obtain ⟨b, o, rfl, hb, hj⟩ := h3 hl
  have hch : ∀ j : Fin l.length, ∃ es, es.length = size ∧ E w S es l[j] ∧ ∀ i u, es[i]? = some u → w.cell? ⟨b, o + (j.1 * size + i), none⟩ = some u := fun j => hj j.1 l[j] (List.getElem?_eq_getElem j.2)
  have hall := fun j => (Classical.choose_spec (hch j)).1
  refine ⟨List.ofFn fun j => Classical.choose (hch j), by simp, ?_, ?_, fun _ => ⟨b, o, rfl, ?_⟩⟩
  ·intro es hes
   obtain ⟨j, rfl⟩ := List.mem_ofFn.1 hes
   exact hall j
  ·intro j x hx
   obtain ⟨hlt, rfl⟩ := List.getElem?_eq_some_iff.1 hx
   refine ⟨Classical.choose (hch ⟨j, hlt⟩), by simp [hlt], hall ⟨j, hlt⟩, (Classical.choose_spec (hch ⟨j, hlt⟩)).2.1⟩
  ·intro j u hu
   obtain ⟨q, i, es, e1, e2, e3, e4⟩ := flatten_inv hp _ (fun es hes => by obtain ⟨j, rfl⟩ := List.mem_ofFn.1 hes; exact hall j) j u hu
   obtain ⟨hq, rfl⟩ := List.getElem?_eq_some_iff.1 e3
   simp only [List.getElem_ofFn] at e4
   subst e1
   exact (Classical.choose_spec (hch _)).2.2 i u e4

theorem run_append_nothing {P : Program} {T : TypeId} {bytes : Nat} (ty : ElemTy P T t size bytes) (ty' : TypeId) (hown : OwnL t size E w base lo v l) (c : Nat) : (Builtin.append_ #[T, T] ty' #[v, .slice none 0 c]).run P w = .ok v w := by
 obtain ⟨i, z, i1, i2, i3, i4, i5⟩ := ty.info
 obtain ⟨ess, _, h2, _⟩ := hown
 rcases h2.2 with ⟨rfl, hn⟩ | ⟨g, cap, cur, rfl, _, _, hnc, _⟩
 ·simp [Builtin.append_, run_underlying ty.ht, sizeOf, typeInfo, i1, Builtin.lenOf, Builtin.firstCells]
 ·simp [Builtin.append_, run_underlying ty.ht, sizeOf, typeInfo, i1, Builtin.lenOf, Builtin.firstCells, hnc, storeCells]

theorem run_append_M {P : Program} {T bytes : Nat} (ty : ElemTy P T t size bytes) (hE : Rd.Ok E) (hO : Rd.One E) (ty' : TypeId)
  (hown : OwnL t size E w base lo v l) {A : Option Addr} {c : Nat} {ys : List α} {S S2 : Foot} (hr : RSlice size E w S [.slice A ys.length c] ys) (hE2 : ∀ es x, E w S es x → E w S2 es x) (hS : ∀ b, S2 b → lo ≤ b ∧ b < w.heap.size ∧ v.ownBlock ≠ some b)
  (hbytes : (l.length + ys.length) * bytes ≤ 140737488355328) (hlen : l.length + ys.length ≤ 9223372036854775807) (hbase : base ≤ w.heap.size) :
  ∃ v' w', (Builtin.append_ #[T, T] ty' #[v, .slice A ys.length c]).run P w = .ok v' w' ∧ OwnL t size E w' base lo v' (l ++ ys) ∧ Keeps (fun b => v.ownBlock = some b) w w' ∧ (v'.ownBlock = v.ownBlock ∨ v'.ownBlock = some w.heap.size) := by
 cases A with
 | none =>
  have hys : ys = [] := by
   rcases Classical.em (ys = []) with h | h
   ·exact h
   ·obtain ⟨_, _, he, _, _, h3⟩ := hr
    injection he with he _; injection he with ha _ _
    obtain ⟨b, o, hb, _⟩ := h3 h
    rw [hb] at ha; cases ha
  subst hys
  exact ⟨v, w, run_append_nothing ty ty' hown c, by simpa using hown, Keeps.refl _ _, .inl rfl⟩
 | some ad =>
  obtain ⟨i, z, i1, i2, i3, i4, i5⟩ := ty.info
  obtain ⟨ess, h2, h3, h4⟩ := hown
  obtain ⟨ns, n1, n2, n3, n4⟩ := hr.cells ty.pos
  have hnl : ns.flatten.length = ys.length * size := by
   rw [← n1]
   clear n1 n3 n4
   induction ns with
   | nil => simp
   | cons e r ih =>
    simp only [List.flatten_cons, List.length_append, List.length_cons]
    rw [ih (fun x hx => n2 x (by simp [hx])), n2 e (by simp), Nat.succ_mul]; omega
  obtain ⟨v', w', hrun, g1, g2, _, g4⟩ := run_append_own_at (P := P) w base T ty' t i z size bytes ty.ht i1 i2 i3 i4 i5 ty.pos v l.length ess.flatten h3 ad ys.length c ns.flatten hnl (fun j u hu => by
   have hne : ys ≠ [] := by
    rintro rfl
    have : ns = [] := List.eq_nil_of_length_eq_zero n1
    subst this; simp at hu
   obtain ⟨b, o, hbo, hc⟩ := n4 hne
   injection hbo with hbo; subst hbo
   have : (Addr.mk b o none).add j = ⟨b, o + j, none⟩ := by
    unfold Addr.add; split
    ·subst_vars; rfl
    ·simp
   rw [this]; exact hc j u hu) (fun u hu => by
   obtain ⟨es, hes, hu⟩ := List.mem_flatten.1 hu
   obtain ⟨j, hj, rfl⟩ := List.getElem_of_mem hes
   obtain ⟨es', e1, _, e3⟩ := n3 j ys[j] (List.getElem?_eq_getElem (by omega))
   rw [List.getElem?_eq_getElem hj] at e1
   injection e1 with e1; subst e1
   exact hO _ _ _ _ e3 u hu) hlen hbytes hbase
  have kk : Keeps (fun b => v.ownBlock = some b) w w' := ⟨g2.os, g2.tape, g2.output, g2.size, fun b hb hn => g2.block b hb (fun e => hn e.symm)⟩
  have far : ∀ b, lo ≤ b ∧ b < w.heap.size ∧ v.ownBlock ≠ some b → lo ≤ b ∧ b < w'.heap.size ∧ v'.ownBlock ≠ some b := by
   intro b ⟨q1, q2, q3⟩
   refine ⟨q1, Nat.lt_of_lt_of_le q2 g2.size, fun e => ?_⟩
   rcases g4 with g4 | g4
   ·exact q3 (by rw [← g4]; exact e)
   ·rw [g4] at e; injection e with e; omega
  refine ⟨v', w', hrun, ⟨ess ++ ns, by simp [h2, n1], by simpa using g1, fun j y' hy => ?_⟩, kk, g4⟩
  rcases Nat.lt_or_ge j l.length with hj | hj
  ·rw [List.getElem?_append_left hj] at hy
   obtain ⟨es', e1, e2, e3⟩ := h4 j y' hy
   exact ⟨es', by rw [List.getElem?_append_left (by omega)]; exact e1, e2, hE.mono e3 far (fun b hb => kk.block b hb.2.1 hb.2.2)⟩
  ·rw [List.getElem?_append_right hj] at hy
   obtain ⟨es', e1, e2, e3⟩ := n3 _ y' hy
   exact ⟨es', by rw [List.getElem?_append_right (by omega), h2]; exact e1, e2, hE.mono (hE2 _ _ e3) (fun b hb => far b (hS b hb)) (fun b hb => kk.block b (hS b hb).2.1 (hS b hb).2.2)⟩
theorem wpList_append_M {P : Program} {T bytes : Nat} (ty : ElemTy P T t size bytes) (hE : Rd.Ok E) (hO : Rd.One E) {ops : Array Oper} {rest : List Oper} {o : Oper} {a : Act} {Q : Exit → Act → World → Prop} (hgd : o.guard = none) (s x : Operand)
  (ho : o.op = .call { callee := .builtin .append, args := #[s, x], argTypes := #[T, T] })
  (hown : OwnL t size E w base lo v l) (hs : a.eval s = v) {A : Option Addr} {c : Nat} {ys : List α} {S S2 : Foot} (hx : a.eval x = .slice A ys.length c) (hr : RSlice size E w S [.slice A ys.length c] ys) (hE2 : ∀ es x, E w S es x → E w S2 es x) (hS : ∀ b, S2 b → lo ≤ b ∧ b < w.heap.size ∧ v.ownBlock ≠ some b)
  (hbytes : (l.length + ys.length) * bytes ≤ 140737488355328) (hlen : l.length + ys.length ≤ 9223372036854775807) (hbase : base ≤ w.heap.size)
  (k : ∀ v' w', OwnL t size E w' base lo v' (l ++ ys) → Keeps (fun b => v.ownBlock = some b) w w' → (v'.ownBlock = v.ownBlock ∨ v'.ownBlock = some w.heap.size) → wpList P ops Q rest (a.put o.dst v') w') :
  wpList P ops Q (o :: rest) a w := by
 refine wpList_plain hgd fun _ hK => ?_
 obtain ⟨v', w', hrun, h2, h3, h4⟩ := run_append_M ty hE hO o.type hown hr hE2 hS hbytes hlen hbase
 unfold Oper.wp execOp
 simp only [ho, resolve, invoke, builtin, Sem.run_bind, Sem.run_pure, Result.andThen_ok, List.map_toArray, List.map_cons, List.map_nil, hs, hx, hrun]
 exact hK _ _ (k v' w' h2 h3 h4)

theorem OwnL.empty {g : Nat} (hb : Blk w g t #[]) (hg : base ≤ g) : OwnL t size E w base lo (.slice (some ⟨g, 0, none⟩) 0 0) ([] : List α) :=
 ⟨[], rfl, ⟨by simp, .inr ⟨g, 0, #[], rfl, hg, hb, Nat.le_refl _, by simp [maxLen], by simp, by simp⟩⟩, fun j x h => by simp at h⟩
theorem OwnL.cut {A : Option Addr} {n c : Nat} (h : OwnL t size E w base lo (.slice A n c) l) {k : Nat} (hk : k ≤ l.length) (hne : A ≠ none ∨ k = 0 ∧ c = 0) : OwnL t size E w base lo (.slice A k c) (l.take k) := by
 obtain ⟨ess, h1, h2, h3⟩ := h
 refine ⟨ess.take k, by simp [h1], ?_, fun j x hx => ?_⟩
 ·have hall : ∀ es ∈ ess, es.length = size := by
   intro es hes
   obtain ⟨j, hj, e⟩ := List.getElem_of_mem hes
   have hl : j < l.length := by omega
   obtain ⟨es', e1, e2, _⟩ := h3 j l[j] (List.getElem?_eq_getElem hl)
   rw [List.getElem?_eq_getElem hj, e] at e1
   injection e1 with e1; subst e1; exact e2
  have hfl : ∀ (m : Nat) (es : List (List Value)), (∀ e ∈ es, e.length = size) → (es.take m).flatten = es.flatten.take (m * size) := by
   intro m es
   induction es generalizing m with
   | nil => intro _; simp
   | cons e r ih =>
    intro hs
    cases m with
    | zero => simp
    | succ m =>
     have he := hs e (by simp)
     simp only [List.take_succ_cons, List.flatten_cons]
     rw [ih m (fun x hx => hs x (by simp [hx])), Nat.succ_mul, List.take_append, List.take_of_length_le (l := e) (by omega), he, Nat.add_sub_cancel]
  have hlt : (l.take k).length = k := by simp; omega
  rw [hlt, hfl k ess hall]
  refine ⟨?_, ?_⟩
  ·rw [List.length_take, h2.1]
   exact Nat.min_eq_left (Nat.mul_le_mul_right _ hk)
  ·rcases h2.2 with ⟨e, hn⟩ | ⟨g, cap, cur, e, q1, q2, q3, q4, q5, q6⟩
   ·injection e with e1 e2 e3
    subst e1 e3
    have : k = 0 := by omega
    subst this
    exact .inl ⟨rfl, rfl⟩
   ·injection e with e1 e2 e3
    subst e1 e3
    refine .inr ⟨g, c, cur, rfl, q1, q2, by omega, q4, q5, ?_⟩
    rw [← q6, List.take_take, Nat.min_eq_left (Nat.mul_le_mul_right _ hk)]
 ·have hj : j < k := by
   have := (List.getElem?_eq_some_iff.1 hx).1; simp at this; omega
  rw [List.getElem?_take_of_lt hj] at hx
  obtain ⟨es, e1, e2, e3⟩ := h3 j x hx
  exact ⟨es, by rw [List.getElem?_take_of_lt hj]; exact e1, e2, by cases A <;> exact e3⟩
end

def secAt (p : List Stage) (a : Int) : Int := if a < 0 then -1 else match p[a.toNat]? with | none => -1 | some s => s.sec
theorem drewNN (w : World) (a b : Nat) : (w.drewN a).drewN b = w.drewN (a + b) := World.drewN_drewN w a b

theorem getElem?_lt {α : Type} {l : List α} {k : Nat} {x : α} (h : l[k]? = some x) : k < l.length := (List.getElem?_eq_some_iff.1 h).1
theorem same_of {α : Type} {l : List α} {k : Nat} {x y : α} (h : l[k]? = some x) (h' : l[k]? = some y) : x = y := by rw [h] at h'; injection h'

set_option maxHeartbeats 400000 in
theorem Section_any (ps : List (List Stage)) (at_ : List Int) (A A2 : Option Addr) (c c2 : Nat) (w : World) (S S2 : Foot) (h : RPaths w S [.slice A ps.length c] ps) (h2 : RInts w S2 [.slice A2 at_.length c2] at_)
  (t : Nat) (p : List Stage) (a : Int) (hp : ps[t]? = some p) (ha : at_[t]? = some a) :
  Calls Try.prog 82 #[.slice A ps.length c, .slice A2 at_.length c2, .int .i64 t] w fun e w' => e = .returned (.int .i64 (secAt p a)) ∧ ∃ n, w' = w.drewN n := by
 have hc := h.caps
 have hc2 := h2.caps
 have ht := getElem?_lt hp
 have ht2 := getElem?_lt ha
 obtain ⟨b, o, p', A', c', rfl, _, hp', k1, hr⟩ := RSS.at_ h ht
 obtain rfl := same_of hp' hp
 obtain ⟨b2, o2, a', rfl, _, ha', k2⟩ := h2.at_ ht2
 obtain rfl := same_of ha' ha
 have hcp := hr.caps
 clear hp hp' ha ha' h h2
 by_cases g1 : a' < 0
 ·have g1' : decide (a' < 0) = true := by simpa using g1
  have Q : Hid (secAt p' a' = -1) := by show secAt p' a' = -1; simp [secAt, g1]
  clear hr
  go_enter Try.func82, Try.ntmps82
  go_wp2
  go_quiet (fail)
  go_wp2
  go_ret
  exact ⟨by rw [Q.out]; rfl, _, rfl⟩
 ·have g1' : decide (a' < 0) = false := by simpa using g1
  obtain ⟨n, rfl⟩ := Int.eq_ofNat_of_zero_le (by omega : 0 ≤ a')
  by_cases g2 : n < p'.length
  ·obtain ⟨b3, o3, s, A3, c3, rfl, _, hs, k3, _⟩ := RPath.at_ hr g2
   have Q : Hid (secAt p' (n : Int) = s.sec) := by show secAt p' (n : Int) = s.sec; unfold secAt; rw [if_neg g1]; simp [hs]
   clear hr hs
   go_enter Try.func82, Try.ntmps82
   go_wp2
   go_quiet (fail)
   go_wp2
   go_quiet (fail)
   go_wp2
   go_ret
   exact ⟨by rw [Q.out]; rfl, _, drewNN _ _ _⟩
  ·have Q : Hid (secAt p' (n : Int) = -1) := by
    show secAt p' (n : Int) = -1
    unfold secAt; rw [if_neg g1, Int.toNat_natCast, List.getElem?_eq_none (by omega)]
   clear hr
   go_enter Try.func82, Try.ntmps82
   go_wp2
   go_quiet (fail)
   go_wp2
   go_ret
   exact ⟨by rw [Q.out]; rfl, _, rfl⟩

def okPos (p : List Stage) (a : Int) : Bool := decide (-1 ≤ a) && decide (a ≤ p.length)
def goodFrom : List (List Stage) → List Int → Bool
 | p :: ps, a :: l => okPos p a && goodFrom ps l
 | _, _ => true
def good (ps : List (List Stage)) (at_ : List Int) : Bool := decide (at_.length = ps.length) && goodFrom ps at_
def GoodInv (ps : List (List Stage)) (at_ : List Int) (k : Nat) : Prop := goodFrom ps at_ = goodFrom (ps.drop k) (at_.drop k)
theorem drop_cons' {α : Type} {l : List α} {k : Nat} {x : α} (h : l[k]? = some x) : l.drop k = x :: l.drop (k + 1) := by
 obtain ⟨hk, e⟩ := List.getElem?_eq_some_iff.1 h
 rw [← e, List.getElem_cons_drop hk]
theorem GoodInv.step {ps : List (List Stage)} {at_ : List Int} {k : Nat} {p : List Stage} {a : Int} (h : GoodInv ps at_ k) (hp : ps[k]? = some p) (ha : at_[k]? = some a) (ho : okPos p a = true) : GoodInv ps at_ (k + 1) := by
 unfold GoodInv at *; rw [h, drop_cons' hp, drop_cons' ha, goodFrom, ho]; rfl
theorem GoodInv.stop {ps : List (List Stage)} {at_ : List Int} {k : Nat} {p : List Stage} {a : Int} (h : GoodInv ps at_ k) (hp : ps[k]? = some p) (ha : at_[k]? = some a) (ho : okPos p a = false) : good ps at_ = false := by
 unfold GoodInv at h; simp [good, h, drop_cons' hp, drop_cons' ha, goodFrom, ho]
theorem GoodInv.done {ps : List (List Stage)} {at_ : List Int} (h : GoodInv ps at_ ps.length) : goodFrom ps at_ = true := by
 unfold GoodInv at h; rw [h, List.drop_length]; unfold goodFrom; cases at_.drop ps.length <;> rfl
theorem goodFrom_at : ∀ (ps : List (List Stage)) (at_ : List Int), goodFrom ps at_ = true → ∀ (t : Nat) p a, ps[t]? = some p → at_[t]? = some a → okPos p a = true
 | [], _, _, t, p, a, hp, _ => by simp at hp
 | q :: ps, [], _, t, p, a, _, ha => by simp at ha
 | q :: ps, b :: l, h, t, p, a, hp, ha => by
  simp only [goodFrom, Bool.and_eq_true] at h
  cases t with
  | zero => simp at hp ha; subst hp ha; exact h.1
  | succ t => exact goodFrom_at ps l h.2 t p a (by simpa using hp) (by simpa using ha)

set_option maxHeartbeats 400000 in
theorem rGood_any (ps : List (List Stage)) (at_ : List Int) (A A2 : Option Addr) (c c2 : Nat) (w : World) (S S2 : Foot) (h : RPaths w S [.slice A ps.length c] ps) (h2 : RInts w S2 [.slice A2 at_.length c2] at_) :
  Calls Try.prog 81 #[.slice A ps.length c, .slice A2 at_.length c2] w fun e w' => e = .returned (.bool (good ps at_)) ∧ w = w' := by
 have hc := h.caps
 have hc2 := h2.caps
 have H := Lib.hid h; clear h
 have H2 := Lib.hid h2; clear h2
 by_cases g1 : at_.length = ps.length
 ·have g1' : ((at_.length : Int) != (ps.length : Int)) = false := by simp; omega
  have G1 := Lib.hid g1; clear g1
  have l1 : at_.length ≤ ps.length := by rw [G1.out]; exact Nat.le_refl _
  have l2 : ps.length ≤ at_.length := by rw [G1.out]; exact Nat.le_refl _
  go_enter Try.func81, Try.ntmps81
  go_wp2
  go_loop [14] (fun i => ∃ k : Nat, k ≤ at_.length ∧ i = .int .i64 k ∧ GoodInv ps at_ k) (fun i => at_.length - (intOf i).toNat)
  case atStart => exact ⟨0, Nat.zero_le _, rfl, rfl⟩
  case round =>
   obtain ⟨k, hk, rfl, hinv⟩ := hrel
   by_cases hlt : k < at_.length
   ·obtain ⟨b, o, p, A', c', rfl, _, hp, k1, hr⟩ := RSS.at_ H.out (k := k) (by omega)
    obtain ⟨b2, o2, a, rfl, _, ha, k2⟩ := H2.out.at_ hlt
    have hcp := hr.caps
    clear hr
    by_cases g2 : a < -1
    ·have Q := Lib.hid (hinv.stop hp ha (by simp [okPos]; omega))
     have g2' : decide (a < -1) = true := by simpa using g2
     clear hp ha
     go_wp2
     go_ret
     exact ⟨by rw [Q.out]; rfl, rfl⟩
    ·have g2' : decide (a < -1) = false := by simpa using g2
     by_cases g3 : (p.length : Int) < a
     ·have Q := Lib.hid (hinv.stop hp ha (by simp [okPos]; omega))
      clear hp ha
      go_wp2
      go_ret
      exact ⟨by rw [Q.out]; rfl, rfl⟩
     ·have Q := Lib.hid (hinv.step hp ha (by simp [okPos]; omega))
      clear hp ha
      go_wp2
      go_round
      case rel => exact ⟨k + 1, by omega, by go_num, Q.out⟩
      case measure => simp [intOf]; omega
   ·have hkk : k = ps.length := by omega
    have Q : Hid (good ps at_ = true) := by show good ps at_ = true; subst hkk; simp [good, G1.out, hinv.done]
    clear hkk
    go_wp2
    go_ret
    exact ⟨by rw [Q.out]; rfl, rfl⟩
 ·have g1' : ((at_.length : Int) != (ps.length : Int)) = true := by simp; omega
  have Q : Hid (good ps at_ = false) := by show good ps at_ = false; simp [good, g1]
  go_enter Try.func81, Try.ntmps81
  go_wp2
  go_ret
  exact ⟨by rw [Q.out]; rfl, rfl⟩

end Go.Proofs.Ytilbbpbjhoidhaa
