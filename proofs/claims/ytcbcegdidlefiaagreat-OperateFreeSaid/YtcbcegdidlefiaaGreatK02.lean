/- A slice under construction by append, its elements read by a relation; the law of one append. Conditions: as each theorem says. Contracts of the readers of positions: Section, good, Good, Same, Left. Conditions: as each theorem says. The orders of chapter 35 as plain lists: which uses a resource has, and when orders are valid. No program in sight. -/
import Derived.Test.YtcbcegdidlefiaaGreatK01
import Derived.Maps.AppendAt
namespace Go.Proofs.YtcbcegdidlefiaaGreat
open Go.RowKit

/-- v is nil or a row of the call's own (block from base on, element type t); its elements read as l; what they rest on lies from lo on and not in v's own block -/
def OwnL {α : Type} (t size : Nat) (E : Rd α) (w : World) (base lo : Nat) (v : Value) (l : List α) : Prop :=
  ∃ ess : List (List Value), ess.length = l.length ∧ w.ownsRow base t size v l.length ess.flatten ∧
    ∀ (j : Nat) x, l[j]? = some x → ∃ es, ess[j]? = some es ∧ es.length = size ∧ E w (fun b => lo ≤ b ∧ b < w.heap.size ∧ v.ownBlock ≠ some b) es x

section
variable {α : Type} {t size : Nat} {E : Rd α} {w w' : World} {base lo : Nat} {v : Value} {l : List α}
theorem OwnL.nil : OwnL t size E w base lo (.slice none 0 0) ([] : List α) := ⟨[], rfl, World.ownsRow_nil _ _ _ _, fun j x h => by simp at h⟩
theorem OwnL.own (h : OwnL t size E w base lo v l) : ∃ g : Option Nat, v.ownBlock = g ∧ ∀ b, g = some b → base ≤ b ∧ b < w.heap.size := by
  obtain ⟨ess, _, h2, _⟩ := h; exact ⟨_, rfl, fun b hb => h2.lt b hb⟩
theorem OwnL.lt (h : OwnL t size E w base lo v l) {b : Nat} (hb : v.ownBlock = some b) : base ≤ b ∧ b < w.heap.size := by
  obtain ⟨ess, _, h2, _⟩ := h; exact h2.lt b hb
theorem OwnL.form (h : OwnL t size E w base lo v l) : ∃ A c, v = .slice A l.length c ∧ l.length ≤ c ∧ c ≤ 9223372036854775807 := by
  obtain ⟨ess, _, h2, _⟩ := h
  rcases h2.2 with ⟨e, hn⟩ | ⟨g, cap, cur, e, _, _, h5, h6, _⟩
  · exact ⟨none, 0, by rw [e, hn], by omega, by omega⟩
  · exact ⟨_, cap, e, h5, h6⟩
theorem OwnL.keeps (hE : Rd.Ok E) {C : Foot} (h : OwnL t size E w base lo v l) (k : Keeps C w w') (hC : ∀ b, b < w.heap.size → C b → b < lo ∧ b < base) : OwnL t size E w' base lo v l := by
  obtain ⟨ess, h1, h2, h3⟩ := h
  refine ⟨ess, h1, ?_, fun j x hx => ?_⟩
  · refine ⟨h2.1, ?_⟩
    rcases h2.2 with hn | ⟨g, cap, cur, e, hb, hh, rest⟩
    · exact .inl hn
    · have hlt := (Array.getElem?_eq_some_iff.1 hh).1
      exact .inr ⟨g, cap, cur, e, hb, (k.block g hlt (fun hc => by have := hC g hlt hc; omega)).trans hh, rest⟩
  · obtain ⟨es, e1, e2, e3⟩ := h3 j x hx
    exact ⟨es, e1, e2, hE.mono e3 (fun b hb => ⟨hb.1, Nat.lt_of_lt_of_le hb.2.1 k.size, hb.2.2⟩) (fun b hb => k.block b hb.2.1 (fun hc => by have := hC b hb.2.1 hc; omega))⟩
theorem OwnL.alloc (hE : Rd.Ok E) (h : OwnL t size E w base lo v l) (o : Obj) : OwnL t size E (w.alloc o) base lo v l :=
  h.keeps hE ((Keeps.refl (fun _ => False) w).alloc o) (fun _ _ h => h.elim)
theorem OwnL.drew (hE : Rd.Ok E) (h : OwnL t size E w base lo v l) : OwnL t size E w.drew base lo v l :=
  h.keeps hE ((Keeps.refl (fun _ => False) w).drew) (fun _ _ h => h.elim)
theorem OwnL.drewN (hE : Rd.Ok E) (h : OwnL t size E w base lo v l) (n : Nat) : OwnL t size E (w.drewN n) base lo v l :=
  h.keeps hE ((Keeps.refl (fun _ => False) w).drewN n) (fun _ _ h => h.elim)

theorem flatten_at {ess : List (List Value)} (hsz : ∀ es ∈ ess, es.length = size) {j : Nat} {es : List Value} (h : ess[j]? = some es) {i : Nat} (hi : i < size) : ess.flatten[j * size + i]? = es[i]? := by
  induction ess generalizing j with
  | nil => simp at h
  | cons e r ih =>
    have he := hsz e (by simp)
    cases j with
    | zero =>
      have e0 : e = es := by simpa using h
      subst e0
      simp only [List.flatten_cons, Nat.zero_mul, Nat.zero_add]
      rw [List.getElem?_append_left (by omega)]
    | succ j =>
      have h' : r[j]? = some es := by simpa using h
      simp only [List.flatten_cons]
      rw [List.getElem?_append_right (by rw [he, Nat.succ_mul]; omega), he, ← ih (fun x hx => hsz x (by simp [hx])) h']
      congr 1
      rw [Nat.succ_mul]; omega

/-- what was built reads as a slice -/
theorem OwnL.read (hE : Rd.Ok E) (h : OwnL t size E w base lo v l) (_hsz : 0 < size) {S : Foot} (hS : ∀ b, lo ≤ b → b < w.heap.size → S b) (hS2 : ∀ b, base ≤ b → b < w.heap.size → S b) : RSlice size E w S [v] l := by
  obtain ⟨ess, h1, h2, h3⟩ := h
  have hall : ∀ es ∈ ess, es.length = size := by
    intro es hes
    obtain ⟨j, hj, e⟩ := List.getElem_of_mem hes
    have hl : j < l.length := by omega
    obtain ⟨es', e1, e2, _⟩ := h3 j l[j] (List.getElem?_eq_getElem hl)
    rw [List.getElem?_eq_getElem hj, e] at e1
    injection e1 with e1; subst e1; exact e2
  rcases h2.2 with ⟨rfl, hn⟩ | ⟨g, cap, cur, rfl, hb, hh, hnc, hcm, hcs, htk⟩
  · have : l = [] := List.eq_nil_of_length_eq_zero hn
    subst this
    exact RSlice.mkNil
  · have hlt := (Array.getElem?_eq_some_iff.1 hh).1
    refine ⟨_, cap, rfl, hnc, hcm, fun _ => ⟨g, 0, rfl, hS2 g hb hlt, fun j x hx => ?_⟩⟩
    obtain ⟨es, e1, e2, e3⟩ := h3 j x hx
    refine ⟨es, e2, hE.mono e3 (fun b hb => hS b hb.1 hb.2.1) (fun _ _ => rfl), fun i u hu => ?_⟩
    have hi : i < size := by rw [← e2]; exact (List.getElem?_eq_some_iff.1 hu).1
    have hj : j < l.length := (List.getElem?_eq_some_iff.1 hx).1
    have hf := flatten_at hall e1 hi
    rw [hu, ← htk] at hf
    have hk : j * size + i < l.length * size := by
      have : (j + 1) * size ≤ l.length * size := Nat.mul_le_mul_right _ hj
      rw [Nat.succ_mul] at this; omega
    rw [List.getElem?_take_of_lt hk] at hf
    simp only [World.cell?, hh, Option.isSome_none, Nat.zero_add]
    simpa using hf

/-- the element type's row of the table -/
structure ElemTy (P : Program) (T t size bytes : Nat) : Prop where
  ht : P.underlying T = some (.slice t)
  info : ∃ i z, P.info? t = some i ∧ i.zero = some z ∧ i.size = size ∧ i.bytes = bytes ∧ z.cells.size = size
  pos : 0 < size
theorem ElemTy.mk' {P : Program} {T t size bytes : Nat} {z : Value} (ht : P.underlying T = some (.slice t)) (h : (P.info? t).map (fun i => (i.zero, i.size, i.bytes)) = some (some z, size, bytes)) (hz : z.cells.size = size) (hp : 0 < size) : ElemTy P T t size bytes := by
  obtain ⟨i, h1, h2, h3, h4⟩ := info_parts h
  exact ⟨ht, ⟨i, z, h1, h2, h3, h4, hz⟩, hp⟩

theorem run_append_L {P : Program} {T bytes : Nat} (ty : ElemTy P T t size bytes) (hE : Rd.Ok E) (ty' : TypeId)
    (hown : OwnL t size E w base lo v l) (h : Nat) (es : List Value) (hblk : Blk w h t es.toArray) (hl : es.length = size)
    (y : α) {S : Foot} (hr : E w S es y) (hS : ∀ b, S b → lo ≤ b ∧ b < w.heap.size ∧ v.ownBlock ≠ some b) (h1 : ∀ u ∈ es, u.oneCell' = true) (hbytes : (l.length + 1) * bytes ≤ 140737488355328) (hlen : l.length + 1 ≤ 9223372036854775807) (hbase : base ≤ w.heap.size) :
    ∃ v' w', (Builtin.append_ #[T, T] ty' #[v, .slice (some ⟨h, 0, none⟩) 1 1]).run P w = .ok v' w' ∧ OwnL t size E w' base lo v' (l ++ [y]) ∧ Keeps (fun b => v.ownBlock = some b) w w' ∧ (v'.ownBlock = v.ownBlock ∨ v'.ownBlock = some w.heap.size) := by
  obtain ⟨i, z, i1, i2, i3, i4, i5⟩ := ty.info
  obtain ⟨ess, h2, h3, h4⟩ := hown
  obtain ⟨v', w', hrun, g1, g2, _, g4⟩ := run_append_own_at (P := P) w base T ty' t i z size bytes ty.ht i1 i2 i3 i4 i5 ty.pos v l.length ess.flatten h3 ⟨h, 0, none⟩ 1 1 es (by omega) (fun j u hu => by
    have hc := hblk.cell j
    have : (Addr.mk h 0 none).add j = ⟨h, j, none⟩ := by
      unfold Addr.add; split
      · subst_vars; rfl
      · simp
    rw [this, hc]; simpa using hu) h1 hlen hbytes hbase
  have kk : Keeps (fun b => v.ownBlock = some b) w w' := ⟨g2.os, g2.tape, g2.output, g2.size, fun b hb hn => g2.block b hb (fun e => hn e.symm)⟩
  have far : ∀ b, lo ≤ b ∧ b < w.heap.size ∧ v.ownBlock ≠ some b → lo ≤ b ∧ b < w'.heap.size ∧ v'.ownBlock ≠ some b := by
    intro b ⟨q1, q2, q3⟩
    refine ⟨q1, Nat.lt_of_lt_of_le q2 g2.size, fun e => ?_⟩
    rcases g4 with g4 | g4
    · exact q3 (by rw [← g4]; exact e)
    · rw [g4] at e; injection e with e; omega
  refine ⟨v', w', hrun, ⟨ess ++ [es], by simp [h2], by simpa using g1, fun j y' hy => ?_⟩, kk, g4⟩
  rcases Nat.lt_or_ge j l.length with hj | hj
  · rw [List.getElem?_append_left hj] at hy
    obtain ⟨es', e1, e2, e3⟩ := h4 j y' hy
    exact ⟨es', by rw [List.getElem?_append_left (by omega)]; exact e1, e2, hE.mono e3 far (fun b hb => kk.block b hb.2.1 hb.2.2)⟩
  · rw [List.getElem?_append_right hj] at hy
    have hj0 : j = l.length := by
      have := (List.getElem?_eq_some_iff.1 hy).1; simp at this; omega
    subst hj0
    simp at hy; subst hy
    exact ⟨es, by rw [← h2]; simp, hl, hE.mono hr (fun b hb => far b (hS b hb)) (fun b hb => kk.block b (hS b hb).2.1 (hS b hb).2.2)⟩

/-- 'out = append(out, x)': x lies in a new block h -/
theorem wp_append_L {P : Program} {T bytes : Nat} (ty : ElemTy P T t size bytes) (hE : Rd.Ok E) {o : Oper} {a : Act} {K : Act → World → Prop} {Q : Exit → Act → World → Prop} (s x : Operand)
    (ho : o.op = .call { callee := .builtin .append, args := #[s, x], argTypes := #[T, T] })
    (hown : OwnL t size E w base lo v l) (hs : a.eval s = v) (h : Nat) (es : List Value) (hx : a.eval x = .slice (some ⟨h, 0, none⟩) 1 1) (hblk : Blk w h t es.toArray) (hl : es.length = size)
    (y : α) {S : Foot} (hr : E w S es y) (hS : ∀ b, S b → lo ≤ b ∧ b < w.heap.size ∧ v.ownBlock ≠ some b) (h1 : ∀ u ∈ es, u.oneCell' = true) (hbytes : (l.length + 1) * bytes ≤ 140737488355328) (hlen : l.length + 1 ≤ 9223372036854775807) (hbase : base ≤ w.heap.size)
    (k : ∀ v' w', OwnL t size E w' base lo v' (l ++ [y]) → Keeps (fun b => v.ownBlock = some b) w w' → (v'.ownBlock = v.ownBlock ∨ v'.ownBlock = some w.heap.size) → K (a.put o.dst v') w') : o.wp P a w K Q := by
  obtain ⟨v', w', hrun, h2, h3, h4⟩ := run_append_L ty hE o.type hown h es hblk hl y hr hS h1 hbytes hlen hbase
  unfold Oper.wp execOp
  simp only [ho, resolve, invoke, builtin, Sem.run_bind, Sem.run_pure, Result.andThen_ok, List.map_toArray, List.map_cons, List.map_nil, hs, hx, hrun]
  exact k v' w' h2 h3 h4
theorem wpList_append_L {P : Program} {T bytes : Nat} (ty : ElemTy P T t size bytes) (hE : Rd.Ok E) {ops : Array Oper} {rest : List Oper} {o : Oper} {a : Act} {Q : Exit → Act → World → Prop} (hgd : o.guard = none) (s x : Operand)
    (ho : o.op = .call { callee := .builtin .append, args := #[s, x], argTypes := #[T, T] })
    (hown : OwnL t size E w base lo v l) (hs : a.eval s = v) (h : Nat) (es : List Value) (hx : a.eval x = .slice (some ⟨h, 0, none⟩) 1 1) (hblk : Blk w h t es.toArray) (hl : es.length = size)
    (y : α) {S : Foot} (hr : E w S es y) (hS : ∀ b, S b → lo ≤ b ∧ b < w.heap.size ∧ v.ownBlock ≠ some b) (h1 : ∀ u ∈ es, u.oneCell' = true) (hbytes : (l.length + 1) * bytes ≤ 140737488355328) (hlen : l.length + 1 ≤ 9223372036854775807) (hbase : base ≤ w.heap.size)
    (k : ∀ v' w', OwnL t size E w' base lo v' (l ++ [y]) → Keeps (fun b => v.ownBlock = some b) w w' → (v'.ownBlock = v.ownBlock ∨ v'.ownBlock = some w.heap.size) → wpList P ops Q rest (a.put o.dst v') w') :
    wpList P ops Q (o :: rest) a w :=
  wpList_plain hgd fun _ hK => wp_append_L ty hE s x ho hown hs h es hx hblk hl y hr hS h1 hbytes hlen hbase fun v' w' h2 h3 h4 => hK _ _ (k v' w' h2 h3 h4)

/-- every cell of such an element is one cell -/
def Rd.One {α : Type} (E : Rd α) : Prop := ∀ w S es x, E w S es x → ∀ u ∈ es, u.oneCell' = true
theorem RInt.one : Rd.One RInt := fun _ _ es x h u hu => by rw [h] at hu; simp at hu; subst hu; rfl
theorem RBool.one : Rd.One RBool := fun _ _ es x h u hu => by rw [h] at hu; simp at hu; subst hu; rfl
theorem RSlice.one {α : Type} {size : Nat} {E : Rd α} : Rd.One (RSlice size E) := fun _ _ es x h u hu => by
  obtain ⟨A, c, rfl, _⟩ := h; simp at hu; subst hu; rfl
theorem RRef.one : Rd.One RRef := fun _ _ es x h u hu => by rw [h] at hu; simp at hu; rcases hu with rfl | rfl <;> rfl
theorem RStage.one : Rd.One RStage := fun w S es x h u hu => by
  obtain ⟨v, rfl, hv⟩ := h
  have h1 := RSlice.one w S [v] x.pts hv v (by simp)
  simp at hu; rcases hu with rfl | rfl | rfl | rfl <;> first | rfl | exact h1
theorem ROrder.one : Rd.One ROrder := fun w S es x h u hu => by
  obtain ⟨v, rfl, hv⟩ := h
  have h1 := RSlice.one w S [v] x.uses hv v (by simp)
  simp at hu; rcases hu with rfl | rfl <;> first | rfl | exact h1

theorem flatten_inv {size : Nat} (hp : 0 < size) : ∀ (ess : List (List Value)), (∀ es ∈ ess, es.length = size) → ∀ (j : Nat) u, ess.flatten[j]? = some u → ∃ q i es, j = q * size + i ∧ i < size ∧ ess[q]? = some es ∧ es[i]? = some u
  | [], _, j, u, h => by simp at h
  | e :: r, hs, j, u, h => by
    have he := hs e (by simp)
    simp only [List.flatten_cons] at h
    by_cases hj : j < size
    · rw [List.getElem?_append_left (by omega)] at h
      exact ⟨0, j, e, by omega, hj, rfl, h⟩
    · rw [List.getElem?_append_right (by omega), he] at h
      obtain ⟨q, i, es, h1, h2, h3, h4⟩ := flatten_inv hp r (fun x hx => hs x (by simp [hx])) (j - size) u h
      exact ⟨q + 1, i, es, by rw [Nat.succ_mul]; omega, h2, by simpa using h3, h4⟩

/-- the cells of a slice that reads as a list -/
theorem RSlice.cells {w : World} {S : Foot} {A : Option Addr} {n c : Nat} (h : RSlice size E w S [.slice A n c] l) (hp : 0 < size) : ∃ ess : List (List Value), ess.length = l.length ∧ (∀ es ∈ ess, es.length = size) ∧
    (∀ (j : Nat) x, l[j]? = some x → ∃ es, ess[j]? = some es ∧ es.length = size ∧ E w S es x) ∧ (l ≠ [] → ∃ b o, A = some ⟨b, o, none⟩ ∧ ∀ j u, ess.flatten[j]? = some u → w.cell? ⟨b, o + j, none⟩ = some u) := by
  obtain ⟨A', c', he, h1, h2, h3⟩ := h
  injection he with he _; injection he with ha hn hc; subst ha
  by_cases hl : l = []
  · subst hl; exact ⟨[], rfl, by simp, fun j x hx => by simp at hx, fun h => absurd rfl h⟩
  · obtain ⟨b, o, rfl, hb, hj⟩ := h3 hl
    have hch : ∀ j : Fin l.length, ∃ es, es.length = size ∧ E w S es l[j] ∧ ∀ i u, es[i]? = some u → w.cell? ⟨b, o + (j.1 * size + i), none⟩ = some u := fun j => hj j.1 l[j] (List.getElem?_eq_getElem j.2)
    have hall := fun j => (Classical.choose_spec (hch j)).1
    refine ⟨List.ofFn fun j => Classical.choose (hch j), by simp, ?_, ?_, fun _ => ⟨b, o, rfl, ?_⟩⟩
    · intro es hes
      obtain ⟨j, rfl⟩ := List.mem_ofFn.1 hes
      exact hall j
    · intro j x hx
      obtain ⟨hlt, rfl⟩ := List.getElem?_eq_some_iff.1 hx
      refine ⟨Classical.choose (hch ⟨j, hlt⟩), by simp [hlt], hall ⟨j, hlt⟩, (Classical.choose_spec (hch ⟨j, hlt⟩)).2.1⟩
    · intro j u hu
      obtain ⟨q, i, es, e1, e2, e3, e4⟩ := flatten_inv hp _ (fun es hes => by obtain ⟨j, rfl⟩ := List.mem_ofFn.1 hes; exact hall j) j u hu
      obtain ⟨hq, rfl⟩ := List.getElem?_eq_some_iff.1 e3
      simp only [List.getElem_ofFn] at e4
      subst e1
      exact (Classical.choose_spec (hch _)).2.2 i u e4

theorem run_append_nothing {P : Program} {T : TypeId} {bytes : Nat} (ty : ElemTy P T t size bytes) (ty' : TypeId) (hown : OwnL t size E w base lo v l) (c : Nat) : (Builtin.append_ #[T, T] ty' #[v, .slice none 0 c]).run P w = .ok v w := by
  obtain ⟨i, z, i1, i2, i3, i4, i5⟩ := ty.info
  obtain ⟨ess, _, h2, _⟩ := hown
  rcases h2.2 with ⟨rfl, hn⟩ | ⟨g, cap, cur, rfl, _, _, hnc, _⟩
  · simp [Builtin.append_, run_underlying ty.ht, sizeOf, typeInfo, i1, Builtin.lenOf, Builtin.firstCells]
  · simp [Builtin.append_, run_underlying ty.ht, sizeOf, typeInfo, i1, Builtin.lenOf, Builtin.firstCells, hnc, storeCells]

/-- 'out = append(out, ys...)' -/
theorem run_append_M {P : Program} {T bytes : Nat} (ty : ElemTy P T t size bytes) (hE : Rd.Ok E) (hO : Rd.One E) (ty' : TypeId)
    (hown : OwnL t size E w base lo v l) {A : Option Addr} {c : Nat} {ys : List α} {S S2 : Foot} (hr : RSlice size E w S [.slice A ys.length c] ys) (hE2 : ∀ es x, E w S es x → E w S2 es x) (hS : ∀ b, S2 b → lo ≤ b ∧ b < w.heap.size ∧ v.ownBlock ≠ some b)
    (hbytes : (l.length + ys.length) * bytes ≤ 140737488355328) (hlen : l.length + ys.length ≤ 9223372036854775807) (hbase : base ≤ w.heap.size) :
    ∃ v' w', (Builtin.append_ #[T, T] ty' #[v, .slice A ys.length c]).run P w = .ok v' w' ∧ OwnL t size E w' base lo v' (l ++ ys) ∧ Keeps (fun b => v.ownBlock = some b) w w' ∧ (v'.ownBlock = v.ownBlock ∨ v'.ownBlock = some w.heap.size) := by
  cases A with
  | none =>
    have hys : ys = [] := by
      rcases Classical.em (ys = []) with h | h
      · exact h
      · obtain ⟨_, _, he, _, _, h3⟩ := hr
        injection he with he _; injection he with ha _ _
        obtain ⟨b, o, hb, _⟩ := h3 h
        rw [hb] at ha; cases ha
    subst hys
    exact ⟨v, w, run_append_nothing ty ty' hown c, by simpa using hown, Keeps.refl _ _, .inl rfl⟩
  | some ad =>
    obtain ⟨i, z, i1, i2, i3, i4, i5⟩ := ty.info
    obtain ⟨ess, h2, h3, h4⟩ := hown
    obtain ⟨ns, n1, n2, n3, n4⟩ := hr.cells ty.pos
    have hnl : ns.flatten.length = ys.length * size := by
      rw [← n1]
      clear n1 n3 n4
      induction ns with
      | nil => simp
      | cons e r ih =>
        simp only [List.flatten_cons, List.length_append, List.length_cons]
        rw [ih (fun x hx => n2 x (by simp [hx])), n2 e (by simp), Nat.succ_mul]; omega
    obtain ⟨v', w', hrun, g1, g2, _, g4⟩ := run_append_own_at (P := P) w base T ty' t i z size bytes ty.ht i1 i2 i3 i4 i5 ty.pos v l.length ess.flatten h3 ad ys.length c ns.flatten hnl (fun j u hu => by
      have hne : ys ≠ [] := by
        rintro rfl
        have : ns = [] := List.eq_nil_of_length_eq_zero n1
        subst this; simp at hu
      obtain ⟨b, o, hbo, hc⟩ := n4 hne
      injection hbo with hbo; subst hbo
      have : (Addr.mk b o none).add j = ⟨b, o + j, none⟩ := by
        unfold Addr.add; split
        · subst_vars; rfl
        · simp
      rw [this]; exact hc j u hu) (fun u hu => by
      obtain ⟨es, hes, hu⟩ := List.mem_flatten.1 hu
      obtain ⟨j, hj, rfl⟩ := List.getElem_of_mem hes
      obtain ⟨es', e1, _, e3⟩ := n3 j ys[j] (List.getElem?_eq_getElem (by omega))
      rw [List.getElem?_eq_getElem hj] at e1
      injection e1 with e1; subst e1
      exact hO _ _ _ _ e3 u hu) hlen hbytes hbase
    have kk : Keeps (fun b => v.ownBlock = some b) w w' := ⟨g2.os, g2.tape, g2.output, g2.size, fun b hb hn => g2.block b hb (fun e => hn e.symm)⟩
    have far : ∀ b, lo ≤ b ∧ b < w.heap.size ∧ v.ownBlock ≠ some b → lo ≤ b ∧ b < w'.heap.size ∧ v'.ownBlock ≠ some b := by
      intro b ⟨q1, q2, q3⟩
      refine ⟨q1, Nat.lt_of_lt_of_le q2 g2.size, fun e => ?_⟩
      rcases g4 with g4 | g4
      · exact q3 (by rw [← g4]; exact e)
      · rw [g4] at e; injection e with e; omega
    refine ⟨v', w', hrun, ⟨ess ++ ns, by simp [h2, n1], by simpa using g1, fun j y' hy => ?_⟩, kk, g4⟩
    rcases Nat.lt_or_ge j l.length with hj | hj
    · rw [List.getElem?_append_left hj] at hy
      obtain ⟨es', e1, e2, e3⟩ := h4 j y' hy
      exact ⟨es', by rw [List.getElem?_append_left (by omega)]; exact e1, e2, hE.mono e3 far (fun b hb => kk.block b hb.2.1 hb.2.2)⟩
    · rw [List.getElem?_append_right hj] at hy
      obtain ⟨es', e1, e2, e3⟩ := n3 _ y' hy
      exact ⟨es', by rw [List.getElem?_append_right (by omega), h2]; exact e1, e2, hE.mono (hE2 _ _ e3) (fun b hb => far b (hS b hb)) (fun b hb => kk.block b (hS b hb).2.1 (hS b hb).2.2)⟩
theorem wpList_append_M {P : Program} {T bytes : Nat} (ty : ElemTy P T t size bytes) (hE : Rd.Ok E) (hO : Rd.One E) {ops : Array Oper} {rest : List Oper} {o : Oper} {a : Act} {Q : Exit → Act → World → Prop} (hgd : o.guard = none) (s x : Operand)
    (ho : o.op = .call { callee := .builtin .append, args := #[s, x], argTypes := #[T, T] })
    (hown : OwnL t size E w base lo v l) (hs : a.eval s = v) {A : Option Addr} {c : Nat} {ys : List α} {S S2 : Foot} (hx : a.eval x = .slice A ys.length c) (hr : RSlice size E w S [.slice A ys.length c] ys) (hE2 : ∀ es x, E w S es x → E w S2 es x) (hS : ∀ b, S2 b → lo ≤ b ∧ b < w.heap.size ∧ v.ownBlock ≠ some b)
    (hbytes : (l.length + ys.length) * bytes ≤ 140737488355328) (hlen : l.length + ys.length ≤ 9223372036854775807) (hbase : base ≤ w.heap.size)
    (k : ∀ v' w', OwnL t size E w' base lo v' (l ++ ys) → Keeps (fun b => v.ownBlock = some b) w w' → (v'.ownBlock = v.ownBlock ∨ v'.ownBlock = some w.heap.size) → wpList P ops Q rest (a.put o.dst v') w') :
    wpList P ops Q (o :: rest) a w := by
  refine wpList_plain hgd fun _ hK => ?_
  obtain ⟨v', w', hrun, h2, h3, h4⟩ := run_append_M ty hE hO o.type hown hr hE2 hS hbytes hlen hbase
  unfold Oper.wp execOp
  simp only [ho, resolve, invoke, builtin, Sem.run_bind, Sem.run_pure, Result.andThen_ok, List.map_toArray, List.map_cons, List.map_nil, hs, hx, hrun]
  exact hK _ _ (k v' w' h2 h3 h4)

/-- an empty slice that is not nil, in a new block -/
theorem OwnL.empty {g : Nat} (hb : Blk w g t #[]) (hg : base ≤ g) : OwnL t size E w base lo (.slice (some ⟨g, 0, none⟩) 0 0) ([] : List α) :=
  ⟨[], rfl, ⟨by simp, .inr ⟨g, 0, #[], rfl, hg, hb, Nat.le_refl _, by simp [maxLen], by simp, by simp⟩⟩, fun j x h => by simp at h⟩
end

theorem getElem?_lt {α : Type} {l : List α} {k : Nat} {x : α} (h : l[k]? = some x) : k < l.length := (List.getElem?_eq_some_iff.1 h).1
theorem same_of {α : Type} {l : List α} {k : Nat} {x y : α} (h : l[k]? = some x) (h' : l[k]? = some y) : x = y := by rw [h] at h'; injection h'

/-- good positions -/
def okPos (p : List Stage) (a : Int) : Bool := decide (-1 ≤ a) && decide (a ≤ p.length)
def goodFrom : List (List Stage) → List Int → Bool
  | p :: ps, a :: l => okPos p a && goodFrom ps l
  | _, _ => true
def good (ps : List (List Stage)) (at_ : List Int) : Bool := decide (at_.length = ps.length) && goodFrom ps at_
def GoodInv (ps : List (List Stage)) (at_ : List Int) (k : Nat) : Prop := goodFrom ps at_ = goodFrom (ps.drop k) (at_.drop k)
theorem drop_cons' {α : Type} {l : List α} {k : Nat} {x : α} (h : l[k]? = some x) : l.drop k = x :: l.drop (k + 1) := by
  obtain ⟨hk, e⟩ := List.getElem?_eq_some_iff.1 h
  rw [← e, List.getElem_cons_drop hk]
theorem GoodInv.step {ps : List (List Stage)} {at_ : List Int} {k : Nat} {p : List Stage} {a : Int} (h : GoodInv ps at_ k) (hp : ps[k]? = some p) (ha : at_[k]? = some a) (ho : okPos p a = true) : GoodInv ps at_ (k + 1) := by
  unfold GoodInv at *; rw [h, drop_cons' hp, drop_cons' ha, goodFrom, ho]; rfl
theorem GoodInv.done {ps : List (List Stage)} {at_ : List Int} (h : GoodInv ps at_ ps.length) : goodFrom ps at_ = true := by
  unfold GoodInv at h; rw [h, List.drop_length]; unfold goodFrom; cases at_.drop ps.length <;> rfl

def stUses (s : Stage) : List Int := s.sec :: s.pts
def usesAll (ps : List (List Stage)) : List Int := ps.flatten.flatMap stUses
def pathAll (r : Int) (t : Nat) (p : List Stage) : List Ref := p.zipIdx.flatMap fun q => if r ∈ stUses q.1 then [⟨(t : Int), (q.2 : Int)⟩] else []
def allU (ps : List (List Stage)) (r : Int) : List Ref := ps.zipIdx.flatMap fun q => pathAll r q.2 q.1

theorem mem_pathAll {r : Int} {t : Nat} {p : List Stage} {u : Ref} : u ∈ pathAll r t p ↔ ∃ (k : Nat) (s : Stage), p[k]? = some s ∧ r ∈ stUses s ∧ u = ⟨(t : Int), (k : Int)⟩ := by
  unfold pathAll
  rw [List.mem_flatMap]
  constructor
  · rintro ⟨⟨s, k⟩, hq, hu⟩
    rw [List.mem_zipIdx_iff_getElem?] at hq
    by_cases h : r ∈ stUses s
    · simp only [h, if_true, List.mem_singleton] at hu
      exact ⟨k, s, hq, h, hu⟩
    · simp [h] at hu
  · rintro ⟨k, s, hk, hr, rfl⟩
    exact ⟨(s, k), List.mem_zipIdx_iff_getElem?.2 hk, by simp [hr]⟩
theorem mem_allU {ps : List (List Stage)} {r : Int} {u : Ref} : u ∈ allU ps r ↔ ∃ (t k : Nat) (p : List Stage) (s : Stage), ps[t]? = some p ∧ p[k]? = some s ∧ r ∈ stUses s ∧ u = ⟨(t : Int), (k : Int)⟩ := by
  unfold allU
  rw [List.mem_flatMap]
  constructor
  · rintro ⟨⟨p, t⟩, hq, hu⟩
    rw [List.mem_zipIdx_iff_getElem?] at hq
    obtain ⟨k, s, hk, hr, rfl⟩ := mem_pathAll.1 hu
    exact ⟨t, k, p, s, hq, hk, hr, rfl⟩
  · rintro ⟨t, k, p, s, ht, hk, hr, rfl⟩
    exact ⟨(p, t), List.mem_zipIdx_iff_getElem?.2 ht, mem_pathAll.2 ⟨k, s, hk, hr, rfl⟩⟩
theorem mem_usesAll {ps : List (List Stage)} {r : Int} : r ∈ usesAll ps ↔ ∃ (t k : Nat) (p : List Stage) (s : Stage), ps[t]? = some p ∧ p[k]? = some s ∧ r ∈ stUses s := by
  unfold usesAll
  simp only [List.mem_flatMap, List.mem_flatten]
  constructor
  · rintro ⟨s, ⟨p, hp, hs⟩, hr⟩
    obtain ⟨t, ht⟩ := List.mem_iff_getElem?.1 hp
    obtain ⟨k, hk⟩ := List.mem_iff_getElem?.1 hs
    exact ⟨t, k, p, s, ht, hk, hr⟩
  · rintro ⟨t, k, p, s, ht, hk, hr⟩
    exact ⟨s, ⟨p, List.mem_of_getElem? ht, List.mem_of_getElem? hk⟩, hr⟩
theorem allU_nil_iff {ps : List (List Stage)} {r : Int} : allU ps r = [] ↔ r ∉ usesAll ps := by
  rw [List.eq_nil_iff_forall_not_mem]
  constructor
  · intro h hr
    obtain ⟨t, k, p, s, ht, hk, hr⟩ := mem_usesAll.1 hr
    exact h _ (mem_allU.2 ⟨t, k, p, s, ht, hk, hr, rfl⟩)
  · intro h u hu
    obtain ⟨t, k, p, s, ht, hk, hr, _⟩ := mem_allU.1 hu
    exact h (mem_usesAll.2 ⟨t, k, p, s, ht, hk, hr⟩)

theorem stepsFrom_all {p : List Stage} : ∀ (l : List Stage) (j : Nat), stepsFrom p j l = true → ∀ s ∈ l, stageOk s = true
  | [], _, _, s, hs => by simp at hs
  | a :: l, j, h, s, hs => by
    simp only [stepsFrom, Bool.and_eq_true, stepOk] at h
    rcases List.mem_cons.1 hs with rfl | hs
    · exact h.1.1
    · exact stepsFrom_all l (j + 1) h.2 s hs
theorem valid_stage {ps : List (List Stage)} (h : valid ps = true) {p : List Stage} (hp : p ∈ ps) {s : Stage} (hs : s ∈ p) : stageOk s = true := by
  simp only [valid, Bool.and_eq_true, decide_eq_true_eq, List.all_eq_true] at h
  have := h.1.2 p hp
  simp only [pathOk, Bool.and_eq_true, decide_eq_true_eq] at this
  exact stepsFrom_all p 0 this.2 s hs
theorem valid_use {ps : List (List Stage)} (h : valid ps = true) {r : Int} (hr : r ∈ usesAll ps) : 0 ≤ r ∧ r < 144 := by
  obtain ⟨t, k, p, s, ht, hk, hr⟩ := mem_usesAll.1 hr
  have hs := valid_stage h (List.mem_of_getElem? ht) (List.mem_of_getElem? hk)
  simp only [stUses, List.mem_cons] at hr
  have : isRes r = true := by
    rcases hr with rfl | hr
    · exact stageOk_sec hs
    · exact stageOk_pts hs r hr
  simp [isRes] at this; exact this

/-- valid orders -/
def PairOk (v u : Ref) : Prop := v ≠ u ∧ ¬ (v.tr = u.tr ∧ u.st < v.st)
instance (v u : Ref) : Decidable (PairOk v u) := by unfold PairOk; infer_instance
def exactlyB (l want : List Ref) : Bool := decide (l.length = want.length) && l.all (fun u => decide (u ∈ want)) && decide (l.Pairwise PairOk)
def resTo (ps : List (List Stage)) : Nat → List Int
  | 0 => []
  | n + 1 => resTo ps n ++ (if (n : Int) ∈ usesAll ps then [(n : Int)] else [])
def checkO (ps : List (List Stage)) (os : List Order) : Bool := valid ps && decide (os.map (·.res) = resTo ps 144) && os.all (fun o => exactlyB o.uses (allU ps o.res))

theorem mem_resTo {ps : List (List Stage)} {r : Int} : ∀ n : Nat, r ∈ resTo ps n ↔ r ∈ usesAll ps ∧ 0 ≤ r ∧ r < n
  | 0 => by simp [resTo]; try omega
  | n + 1 => by
    simp only [resTo, List.mem_append, mem_resTo n]
    by_cases h : (n : Int) ∈ usesAll ps
    · simp only [h, if_true, List.mem_singleton]
      constructor
      · rintro (⟨h1, h2, h3⟩ | rfl)
        · exact ⟨h1, h2, by omega⟩
        · exact ⟨h, by omega, by omega⟩
      · rintro ⟨h1, h2, h3⟩
        by_cases e : r = n
        · exact .inr e
        · exact .inl ⟨h1, h2, by omega⟩
    · simp only [h, if_false, List.not_mem_nil, or_false]
      constructor
      · rintro ⟨h1, h2, h3⟩; exact ⟨h1, h2, by omega⟩
      · rintro ⟨h1, h2, h3⟩
        refine ⟨h1, h2, ?_⟩
        have : r ≠ n := by rintro rfl; exact h h1
        omega
theorem resTo_pw (ps : List (List Stage)) : ∀ n : Nat, (resTo ps n).Pairwise (· < ·)
  | 0 => List.Pairwise.nil
  | n + 1 => by
    rw [resTo, List.pairwise_append]
    refine ⟨resTo_pw ps n, by split <;> simp, fun a ha b hb => ?_⟩
    split at hb
    · simp at hb; subst hb; exact ((mem_resTo n).1 ha).2.2
    · simp at hb
theorem resTo_le (ps : List (List Stage)) (n : Nat) : ∀ m, n ≤ m → ∃ l, resTo ps m = resTo ps n ++ l
  | 0, h => by obtain rfl : n = 0 := by omega
               exact ⟨[], by simp⟩
  | m + 1, h => by
    by_cases e : n = m + 1
    · subst e; exact ⟨[], by simp⟩
    · obtain ⟨l, hl⟩ := resTo_le ps n m (by omega)
      exact ⟨l ++ _, by rw [resTo, hl, List.append_assoc]⟩
/-- ascending lists with the same members are equal -/
theorem pw_ext : ∀ (l m : List Int), l.Pairwise (· < ·) → m.Pairwise (· < ·) → (∀ x, x ∈ l ↔ x ∈ m) → l = m
  | [], [], _, _, _ => rfl
  | [], b :: m, _, _, h => by have := (h b).2 (by simp); simp at this
  | a :: l, [], _, _, h => by have := (h a).1 (by simp); simp at this
  | a :: l, b :: m, hl, hm, h => by
    obtain ⟨ha, hl'⟩ := List.pairwise_cons.1 hl
    obtain ⟨hb, hm'⟩ := List.pairwise_cons.1 hm
    have hab : a = b := by
      have h1 := (h a).1 (by simp)
      have h2 := (h b).2 (by simp)
      rcases List.mem_cons.1 h1 with e | h1
      · exact e
      · rcases List.mem_cons.1 h2 with e | h2
        · exact e.symm
        · have := ha b h2; have := hb a h1; omega
    subst hab
    have key : ∀ x, x ∈ l ↔ x ∈ m := by
     intro x
     constructor
     · intro hx
       have := ha x hx
       rcases List.mem_cons.1 ((h x).1 (by simp [hx])) with e | h'
       · omega
       · exact h'
     · intro hx
       have := hb x hx
       rcases List.mem_cons.1 ((h x).2 (by simp [hx])) with e | h'
       · omega
       · exact h'
    rw [pw_ext l m hl' hm' key]
theorem nodup_le {l m : List Int} (hl : l.Nodup) (h : ∀ x ∈ l, x ∈ m) : l.length ≤ m.length := by
  induction l generalizing m with
  | nil => simp
  | cons a l ih =>
    obtain ⟨ha, hl⟩ := List.nodup_cons.1 hl
    have hm := h a (by simp)
    have := ih (m := m.erase a) hl (fun x hx => by
      have hx' := h x (by simp [hx])
      exact (List.mem_erase_of_ne (by rintro rfl; exact ha hx)).2 hx')
    rw [List.length_erase_of_mem hm] at this
    have := List.length_pos_of_mem hm
    simp; omega
theorem nodup_full {l m : List Int} (hl : l.Nodup) (h : ∀ x ∈ l, x ∈ m) (hlen : m.length ≤ l.length) (_hm : m.Nodup) : ∀ x ∈ m, x ∈ l := by
  intro x hx
  rcases Classical.em (x ∈ l) with h' | h'
  · exact h'
  · have := nodup_le (l := x :: l) (m := m) (List.nodup_cons.2 ⟨h', hl⟩) (fun y hy => by
      rcases List.mem_cons.1 hy with rfl | hy
      · exact hx
      · exact h y hy)
    simp at this; omega

/-- the program's test of the uses of one order, with the last stage of each train so far -/
def useFits (ps : List (List Stage)) (r : Int) (last : List Int) (u : Ref) : Bool :=
  decide (0 ≤ u.tr) && decide (u.tr < ps.length) && decide ((last[u.tr.toNat]?).getD 0 < u.st) && decide (u.st < ((ps[u.tr.toNat]?).getD []).length) && decide (r ∈ (((ps[u.tr.toNat]?).getD [])[u.st.toNat]?).elim [] stUses)
def properFrom (ps : List (List Stage)) (r : Int) : List Ref → List Int → Bool
  | [], _ => true
  | u :: l, last => useFits ps r last u && properFrom ps r l (last.set u.tr.toNat u.st)
def properB (ps : List (List Stage)) (o : Order) : Bool := properFrom ps o.res o.uses (List.replicate ps.length (-1))

theorem useFits_iff {ps : List (List Stage)} {r : Int} {last : List Int} (hl : last.length = ps.length) (hm : ∀ x ∈ last, -1 ≤ x) (u : Ref) :
    useFits ps r last u = true ↔ u ∈ allU ps r ∧ ∀ x, last[u.tr.toNat]? = some x → x < u.st := by
  obtain ⟨tr, st⟩ := u
  simp only [useFits, Bool.and_eq_true, decide_eq_true_eq, mem_allU]
  constructor
  · rintro ⟨⟨⟨⟨h1, h2⟩, h3⟩, h4⟩, h5⟩
    obtain ⟨t, rfl⟩ := Int.eq_ofNat_of_zero_le h1
    have ht : t < ps.length := by omega
    have htl : t < last.length := by omega
    simp only [Int.toNat_natCast] at *
    have e1 := List.getElem?_eq_getElem ht
    have e2 := List.getElem?_eq_getElem htl
    rw [e2] at h3; rw [e1] at h4 h5
    simp only [Option.getD_some] at h3 h4 h5
    have := hm last[t] (List.getElem_mem _)
    obtain ⟨k, rfl⟩ := Int.eq_ofNat_of_zero_le (by omega : 0 ≤ st)
    have hk : k < ps[t].length := by omega
    simp only [Int.toNat_natCast] at h5
    rw [List.getElem?_eq_getElem hk] at h5
    refine ⟨⟨t, k, ps[t], ps[t][k], e1, List.getElem?_eq_getElem hk, h5, rfl⟩, fun x hx => ?_⟩
    rw [e2] at hx; injection hx with hx; omega
  · rintro ⟨⟨t, k, p, s, ht, hk, hr, hu⟩, hlast⟩
    injection hu with h1 h2
    subst h1 h2
    have h1 := getElem?_lt ht
    have h2 := getElem?_lt hk
    simp only [Int.toNat_natCast] at hlast ⊢
    have e2 := List.getElem?_eq_getElem (show t < last.length by omega)
    rw [ht, e2]
    simp only [Option.getD_some]
    rw [hk]
    exact ⟨⟨⟨⟨by omega, by omega⟩, hlast _ e2⟩, by omega⟩, hr⟩
def Before (v u : Ref) : Prop := v.tr = u.tr → v.st < u.st

end Go.Proofs.YtcbcegdidlefiaaGreat
