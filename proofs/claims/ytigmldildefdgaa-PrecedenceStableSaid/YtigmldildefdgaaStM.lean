/- Sorting the seconds of Times gives the same orders again: the plain law. No program in sight. The statement PrecedenceStable: its function returns true. No condition beyond the arguments' reading. The statement PrecedenceStable, proved: for every input its function returns true. No condition. -/
import Derived.Test.YtigmldildefdgaaTb
import Derived.Test.YtigmldildefdgaaSortP
import Derived.Test.YtigmldildefdgaaTimesA
import Derived.Test.YtigmldildefdgaaSoN
import Derived.Test.YtigmldildefdgaaSameA
import Derived.Test.YtigmldildefdgaaRow
namespace Go.Proofs.Ytigmldildefdgaa
open Go.RowKit

/-- in ascending order of the seconds, then of train and stage -/
def EnLt (en : List (List Int)) (v u : Ref) : Prop := enAt en v < enAt en u ∨ enAt en v = enAt en u ∧ Lex v u
theorem EnLt.asymm {en : List (List Int)} {u v : Ref} (h1 : EnLt en u v) (h2 : EnLt en v u) : u = v := by
  unfold EnLt Lex at *
  cases u; cases v
  simp only [Ref.mk.injEq] at *
  omega
theorem insK_stop {en : List (List Int)} {u : Ref} {l : List Ref} : ∀ k, k ≤ l.length → ∀ j, insK en u l k = j + 1 → ∃ v, l[j]? = some v ∧ enAt en v ≤ enAt en u
  | 0, _, j, h => by simp [insK] at h
  | k + 1, hk, j, h => by
    have hx : l[k]? = some (l[k]'(by omega)) := List.getElem?_eq_getElem (by omega)
    simp only [insK, hx] at h
    by_cases g : enAt en u < enAt en (l[k]'(by omega))
    · rw [if_pos g] at h; exact insK_stop k (by omega) j h
    · rw [if_neg g] at h
      have : j = k := by omega
      subst this
      exact ⟨_, hx, by omega⟩
theorem insU_sorted {en : List (List Int)} {u : Ref} {l : List Ref} (h1 : l.Pairwise (EnLt en)) (h2 : ∀ v ∈ l, Lex v u) : (insU en u l).Pairwise (EnLt en) := by
  unfold insU
  have hk := insK_le en u l l.length
  have ha := insK_after (en := en) (u := u) (l := l) l.length
  have hs' := insK_stop (en := en) (u := u) (l := l) l.length (Nat.le_refl _)
  generalize insK en u l l.length = k at hk ha hs'
  have hs : (l.take k ++ l.drop k).Pairwise (EnLt en) := by rw [List.take_append_drop]; exact h1
  obtain ⟨s1, s2, s3⟩ := List.pairwise_append.1 hs
  rw [List.pairwise_append]
  refine ⟨s1, List.pairwise_cons.2 ⟨fun v hv => ?_, s2⟩, fun a ha' b hb => ?_⟩
  · obtain ⟨j, hj⟩ := List.mem_iff_getElem?.1 hv
    rw [List.getElem?_drop] at hj
    exact .inl (ha (k + j) v (by omega) (getElem?_lt hj) hj)
  · rcases List.mem_cons.1 hb with rfl | hb
    · have hm := List.mem_of_mem_take ha'
      have hle : enAt en a ≤ enAt en b := by
        obtain ⟨i, hi⟩ := List.mem_iff_getElem?.1 ha'
        have hik : i < k := by have := getElem?_lt hi; rw [List.length_take] at this; omega
        rw [List.getElem?_take_of_lt hik] at hi
        obtain ⟨j, rfl⟩ : ∃ j, k = j + 1 := ⟨k - 1, by omega⟩
        obtain ⟨v, hv, hvu⟩ := hs' j rfl
        by_cases e : i = j
        · subst e; rw [hi] at hv; injection hv with hv; subst hv; exact hvu
        · have hlt1 := getElem?_lt hi
          have hlt2 := getElem?_lt hv
          have q := List.pairwise_iff_getElem.1 h1 i j hlt1 hlt2 (by omega)
          rw [List.getElem?_eq_getElem hlt1] at hi
          rw [List.getElem?_eq_getElem hlt2] at hv
          injection hi with hi; injection hv with hv
          rw [hi, hv] at q
          unfold EnLt at q
          omega
      have := h2 a hm
      unfold EnLt
      by_cases e : enAt en a = enAt en b
      · exact .inr ⟨e, this⟩
      · exact .inl (by omega)
    · exact s3 a ha' b hb
theorem sortR_sorted (en : List (List Int)) (l : List Ref) (hlex : l.Pairwise Lex) : (sortR en l).Pairwise (EnLt en) := by
  have key : ∀ n, n ≤ l.length → (sortR en (l.take n)).Pairwise (EnLt en) := by
    intro n
    induction n with
    | zero => intro _; simp [sortR]
    | succ n ih =>
      intro hn
      have hx : l[n]? = some l[n] := List.getElem?_eq_getElem (by omega)
      have e : l.take (n + 1) = l.take n ++ [l[n]] := by rw [List.take_add_one, hx]; rfl
      rw [e, sortR_snoc]
      refine insU_sorted (ih (by omega)) fun v hv => ?_
      have hv := (sortR_perm en _).mem_iff.1 hv
      obtain ⟨i, hi⟩ := List.mem_iff_getElem?.1 hv
      have hin : i < n := by have := getElem?_lt hi; rw [List.length_take] at this; omega
      rw [List.getElem?_take_of_lt hin] at hi
      have := List.pairwise_iff_getElem.1 hlex i n (by omega) (by omega) hin
      rw [List.getElem?_eq_getElem (by omega : i < l.length)] at hi
      injection hi with hi; rw [hi] at this; exact this
  have h2 := key l.length (Nat.le_refl _)
  rwa [List.take_length] at h2
theorem sortR_eq {en : List (List Int)} {l m : List Ref} (hlex : l.Pairwise Lex) (hp : m.Perm l) (hs : m.Pairwise (EnLt en)) : sortR en l = m :=
  List.Perm.eq_of_pairwise (le := EnLt en) (fun _ _ _ _ h1 h2 => EnLt.asymm h1 h2) (sortR_sorted en l hlex) hs ((sortR_perm en l).trans hp.symm)

/-- the table without the last second of each row -/
def rowS (ps : List (List Stage)) (T : Tab) (t : Nat) : List Int := (List.range (lenAt ps t)).map fun k : Nat => T ⟨(t : Int), (k : Int)⟩
def tabS (ps : List (List Stage)) (T : Tab) : List (List Int) := (List.range ps.length).map fun t => rowS ps T t
theorem rowS_len (ps : List (List Stage)) (T : Tab) (t : Nat) : (rowS ps T t).length = lenAt ps t := by simp [rowS]
theorem rowS_at {ps : List (List Stage)} (T : Tab) {t k : Nat} (hk : k < lenAt ps t) : (rowS ps T t)[k]? = some (T ⟨(t : Int), (k : Int)⟩) := by
  unfold rowS
  rw [List.getElem?_map, List.getElem?_range (by omega)]; rfl
theorem tabS_len (ps : List (List Stage)) (T : Tab) : (tabS ps T).length = ps.length := by simp [tabS]
theorem tabS_at {ps : List (List Stage)} (T : Tab) {t : Nat} (ht : t < ps.length) : (tabS ps T)[t]? = some (rowS ps T t) := by
  unfold tabS
  rw [List.getElem?_map, List.getElem?_range ht]; rfl
theorem enAt_tabS {ps : List (List Stage)} (T : Tab) {t k : Nat} {p : List Stage} (hp : ps[t]? = some p) (hk : k < p.length) : enAt (tabS ps T) ⟨(t : Int), (k : Int)⟩ = T ⟨(t : Int), (k : Int)⟩ := by
  unfold enAt
  simp only [Int.toNat_natCast]
  rw [tabS_at T (getElem?_lt hp), Option.getD_some, rowS_at T (by rw [lenAt_of hp]; exact hk)]; rfl
theorem rowAsc_ofS : ∀ (l : List Int), (∀ (i : Nat) x y, l[i]? = some x → l[i + 1]? = some y → x ≤ y) → rowAsc l = true
  | [], _ => rfl
  | [_], _ => rfl
  | a :: b :: r, h => by
    simp only [rowAsc, Bool.and_eq_true, decide_eq_true_eq]
    exact ⟨h 0 a b rfl rfl, rowAsc_ofS (b :: r) fun i x y hx hy => h (i + 1) x y (by simpa using hx) (by simpa using hy)⟩
theorem rowsOk_ofS : ∀ (ps : List (List Stage)) (en : List (List Int)), (∀ (t : Nat) p l, ps[t]? = some p → en[t]? = some l → l.length = p.length ∧ rowAsc l = true) → rowsOk ps en = true
  | [], _, _ => by simp [rowsOk]
  | _ :: _, [], _ => by simp [rowsOk]
  | p :: ps, l :: en, h => by
    simp only [rowsOk, Bool.and_eq_true, decide_eq_true_eq]
    exact ⟨h 0 p l rfl rfl, rowsOk_ofS ps en fun t p l hp hl => h (t + 1) p l (by simpa using hp) (by simpa using hl)⟩

section
variable {ps : List (List Stage)} {os : List Order} {at_ : List Int} {n : Int}
theorem tabG_mono (hck : checkO ps os = true) (hgd : good ps at_ = true) (hok : okP ps os at_ = true) {t k m : Nat} {p : List Stage} (hp : ps[t]? = some p) (hd : doneR at_ ⟨(t : Int), (k : Int)⟩ = false) (hkm : k ≤ m) (hm : m ≤ p.length) : tabG ps os at_ n ⟨(t : Int), (k : Int)⟩ ≤ tabG ps os at_ n ⟨(t : Int), (m : Int)⟩ := by
  have hF := full_of hck hgd hok
  have h := hF.mono hck (n := n) (secs_fix (T := fun _ => -1) hF.nd (hF.dG (n := n))) hp hd (m - k) (by omega)
  rw [show k + (m - k) = m from by omega] at h
  exact h
/-- an earlier use of another train is over before a later one begins -/
theorem tabG_order (hck : checkO ps os = true) (hgd : good ps at_ = true) (hok : okP ps os at_ = true) (hnd : ∀ (t k : Nat), t < ps.length → doneR at_ ⟨(t : Int), (k : Int)⟩ = false) {o : Order} (ho : o ∈ os) {i j : Nat} {v u : Ref} (hij : i < j) (hv : o.uses[i]? = some v) (hu : o.uses[j]? = some u) :
    tabG ps os at_ n v ≤ tabG ps os at_ n u := by
  obtain ⟨_, _, hf⟩ := checkO_facts hck
  obtain ⟨hin, _, hbef⟩ := hf o ho
  obtain ⟨tv, kv, pv, sv, hpv, hsv, _, ev⟩ := mem_allU.1 (hin v (List.mem_of_getElem? hv))
  obtain ⟨tu, ku, pu, su, hpu, hsu, _, eu⟩ := mem_allU.1 (hin u (List.mem_of_getElem? hu))
  have lv := getElem?_lt hsv
  have lu := getElem?_lt hsu
  by_cases e : v.tr = u.tr
  · have hb : Before v u := by
      have l1 := getElem?_lt hv
      have l2 := getElem?_lt hu
      have q := List.pairwise_iff_getElem.1 hbef i j l1 l2 hij
      rw [List.getElem?_eq_getElem l1] at hv
      rw [List.getElem?_eq_getElem l2] at hu
      injection hv with hv; injection hu with hu
      rw [hv, hu] at q; exact q
    have hst := hb e
    subst ev eu
    simp only at e hst
    have : tv = tu := by omega
    subst this
    rw [hpv] at hpu; injection hpu with hpu; subst hpu
    exact tabG_mono hck hgd hok hpv (hnd _ _ (getElem?_lt hpv)) (by omega) (by omega)
  · have hvm : v ∈ o.uses.take j := List.mem_of_getElem? (by rw [List.getElem?_take_of_lt hij]; exact hv)
    obtain ⟨w, hL, hwt, hws⟩ := last_of (o.uses.take j) (fun x hx => hin x (List.mem_of_mem_take hx)) v hvm
    obtain ⟨tr', kr, pr, hpr, hkr, hrel, htr⟩ := rel_event (hin w (List.mem_of_mem_take hL.1))
    have hrs := relOf_le (ps := ps) (r := o.res) hwt.symm hws
    have hvr : v.st ≤ (relOf ps o.res v).st := by unfold relOf; split <;> simp <;> omega
    subst ev eu
    simp only at e hwt hws hvr
    rw [hrel] at hrs
    simp only at hrs
    have : tr' = tv := by omega
    subst this
    rw [hpv] at hpr; injection hpr with hpr; subst hpr
    refine Int.le_trans (tabG_mono (m := kr) hck hgd hok hpv (hnd _ _ (getElem?_lt hpv)) (by omega) hkr) ?_
    have hF := full_of hck hgd hok
    have hmem := hF.all tu ku pu hpu (by omega) (hnd _ _ (getElem?_lt hpu))
    have hfix := secs_fix (T := fun _ => -1) hF.nd (hF.dG (n := n)) _ hmem
    have harc := (mem_rowG hck hpu (k := ku) (by omega)).2 (.inr ⟨o, ho, j, w, hu, hL, by omega, rfl⟩)
    have hval : valG ps at_ n (tabG ps os at_ n) ⟨(tu : Int), (ku : Int)⟩ ⟨((num ps (relOf ps o.res w) : Nat) : Int), 0⟩ = some (tabG ps os at_ n ⟨(tr' : Int), (kr : Int)⟩ + 0) := by
      unfold valG
      simp only []
      rw [hrel, evAt_num' hpv hkr, if_pos (hnd _ _ (getElem?_lt hpv))]
    have hle := mxo_mem _ (baseS ps n ⟨(tu : Int), (ku : Int)⟩) _ harc hval
    have e2 : tabG ps os at_ n ⟨(tu : Int), (ku : Int)⟩ = stepG ps os at_ n (tabG ps os at_ n) ⟨(tu : Int), (ku : Int)⟩ := hfix
    rw [e2]
    unfold stepG
    omega
theorem tabS_ok (hck : checkO ps os = true) (hgd : good ps at_ = true) (hok : okP ps os at_ = true) (hnd : ∀ (t k : Nat), t < ps.length → doneR at_ ⟨(t : Int), (k : Int)⟩ = false) : sortOk ps (tabS ps (tabG ps os at_ n)) = true := by
  simp only [sortOk, Bool.and_eq_true, decide_eq_true_eq]
  refine ⟨⟨(checkO_facts hck).1, tabS_len _ _⟩, rowsOk_ofS _ _ fun t p l hp hl => ?_⟩
  rw [tabS_at _ (getElem?_lt hp)] at hl
  injection hl with hl
  subst hl
  refine ⟨by rw [rowS_len, lenAt_of hp], rowAsc_ofS _ fun i x y hx hy => ?_⟩
  have h2 := getElem?_lt hy
  rw [rowS_len, lenAt_of hp] at h2
  rw [rowS_at _ (by rw [lenAt_of hp]; omega)] at hx hy
  injection hx with hx; injection hy with hy
  subst hx hy
  exact tabG_mono hck hgd hok hp (hnd _ _ (getElem?_lt hp)) (by omega) (by omega)
/-- the sorted seconds give the same orders again -/
theorem stable_eq {en : List (List Int)} (hos : os = ordersTo ps en 144) (hck : checkO ps os = true) (hgd : good ps at_ = true) (hok : okP ps os at_ = true) (hnd : ∀ (t k : Nat), t < ps.length → doneR at_ ⟨(t : Int), (k : Int)⟩ = false)
    (hdf : ∀ o ∈ os, ∀ (i j : Nat) v u, i < j → o.uses[i]? = some v → o.uses[j]? = some u → u.tr ≠ v.tr → tabG ps os at_ n u ≠ tabG ps os at_ n v) : sortO ps (tabS ps (tabG ps os at_ n)) = (os, 0) := by
  unfold sortO
  rw [if_pos (tabS_ok hck hgd hok hnd)]
  suffices hh : ordersTo ps (tabS ps (tabG ps os at_ n)) 144 = os by rw [hh]
  have key : ∀ m, (∀ o ∈ ordersTo ps en m, o ∈ os) → ordersTo ps (tabS ps (tabG ps os at_ n)) m = ordersTo ps en m := by
    intro m
    induction m with
    | zero => intro _; rfl
    | succ m ih =>
      intro hm
      simp only [ordersTo]
      rw [ih (fun o ho => hm o (by simp only [ordersTo]; exact List.mem_append_left _ ho))]
      congr 1
      by_cases g : 0 < (allU ps (m : Int)).length
      · rw [if_pos g, if_pos g]
        have ho : (⟨(m : Int), sortR en (allU ps (m : Int))⟩ : Order) ∈ os := hm _ (by simp only [ordersTo]; rw [if_pos g]; simp)
        congr 2
        refine sortR_eq (allU_lex ps m) (sortR_perm en _) ?_
        rw [List.pairwise_iff_getElem]
        intro i j hi hj hij
        have hv : (sortR en (allU ps (m : Int)))[i]? = some (sortR en (allU ps (m : Int)))[i] := List.getElem?_eq_getElem hi
        have hu : (sortR en (allU ps (m : Int)))[j]? = some (sortR en (allU ps (m : Int)))[j] := List.getElem?_eq_getElem hj
        have hle := tabG_order (n := n) hck hgd hok hnd ho hij hv hu
        have hne := hdf _ ho i j _ _ hij hv hu
        obtain ⟨_, _, hf⟩ := checkO_facts hck
        obtain ⟨hin, _, hbef⟩ := hf _ ho
        have hb := List.pairwise_iff_getElem.1 hbef i j hi hj hij
        simp only at hb
        obtain ⟨tv, kv, pv, sv, hpv, hsv, _, ev⟩ := mem_allU.1 (hin _ (List.mem_of_getElem? hv))
        obtain ⟨tu, ku, pu, su, hpu, hsu, _, eu⟩ := mem_allU.1 (hin _ (List.mem_of_getElem? hu))
        have e1 := enAt_tabS (tabG ps os at_ n) hpv (getElem?_lt hsv)
        have e2 := enAt_tabS (tabG ps os at_ n) hpu (getElem?_lt hsu)
        rw [← ev] at e1
        rw [← eu] at e2
        unfold EnLt Lex
        rw [e1, e2]
        generalize (sortR en (allU ps (m : Int)))[i] = v at *
        generalize (sortR en (allU ps (m : Int)))[j] = u at *
        by_cases e : v.tr = u.tr
        · have := hb e
          by_cases e3 : tabG ps os at_ n v = tabG ps os at_ n u
          · exact .inr ⟨e3, .inr ⟨e, this⟩⟩
          · exact .inl (by omega)
        · have := hne (fun h => e h.symm)
          exact .inl (by omega)
      · rw [if_neg g, if_neg g]
  have := key 144 (fun o ho => by rw [hos]; exact ho)
  rw [this]; exact hos.symm
end




def slS (ps : List (List Stage)) (gs : Nat → Nat) (t : Nat) : Value := .slice (some ⟨gs t, 0, none⟩) (lenAt ps t) (lenAt ps t + 1)
/-- a table of which the first m rows are cut by one -/
structure Ts (ps : List (List Stage)) (w wr : World) (N m : Nat) (gs : Nat → Nat) (T : Tab) : Prop where
  n : ∃ cur, Blk wr N 22 cur ∧ ∀ t, t < ps.length → cur[t]? = some (if t < m then slS ps gs t else slT ps gs t)
  r : ∀ t, t < ps.length → Blk wr (gs t) 3 (cellsI (rowOf ps T t))
  nlo : w.heap.size ≤ N
  k : KeepsAll w wr
section
variable {ps : List (List Stage)} {w wr w' : World} {N m : Nat} {gs : Nat → Nat} {T : Tab}
theorem Tb.ts (h : Tb ps w wr N ps.length gs T) : Ts ps w wr N 0 gs T := by
  obtain ⟨cur, h1, h2⟩ := h.n
  exact ⟨⟨cur, h1, fun t ht => by rw [if_neg (by omega)]; exact h2 t ht⟩, h.r, h.nlo, h.k⟩
theorem Ts.keep (h : Ts ps w wr N m gs T) (k : KeepsAll wr w') : Ts ps w w' N m gs T := by
  obtain ⟨cur, h1, h2⟩ := h.n
  exact ⟨⟨cur, h1.kept k (by simp), h2⟩, fun t ht => (h.r t ht).kept k (by simp), h.nlo, h.k.tr k⟩
theorem Ts.outer (h : Ts ps w wr N m gs T) {t : Nat} (ht : t < ps.length) : wr.cell? ⟨N, t, none⟩ = some (if t < m then slS ps gs t else slT ps gs t) := by
  obtain ⟨cur, h1, h2⟩ := h.n
  rw [h1.cell, h2 t ht]
theorem Ts.inner (h : Ts ps w wr N m gs T) {t k : Nat} (ht : t < ps.length) (hk : k ≤ lenAt ps t) : wr.cell? ⟨gs t, k, none⟩ = some (.int .i64 (T ⟨(t : Int), (k : Int)⟩)) := by
  rw [(h.r t ht).cell, cellsI_at (rowOf_at T hk)]
theorem Ts.nlt (h : Ts ps w wr N m gs T) : N < wr.heap.size := by obtain ⟨cur, h1, _⟩ := h.n; exact h1.lt
theorem Ts.frz (h : Ts ps w wr N m gs T) (i : Nat) : wr.frozen? ⟨N, i, none⟩ = false := by obtain ⟨cur, h1, _⟩ := h.n; exact h1.frozen i
theorem Ts.step (h : Ts ps w wr N m gs T) (hm : m < ps.length) : Ts ps w (wr.setCell ⟨N, m, none⟩ (slS ps gs m)) N (m + 1) gs T := by
  obtain ⟨cur, h1, h2⟩ := h.n
  have hs : m < cur.size := by have := h2 m hm; exact (Array.getElem?_eq_some_iff.1 this).1
  refine ⟨⟨_, h1.set_ m _, fun t ht => ?_⟩, fun t ht => (h.r t ht).far (fun e => Blk.ne_ h1 (h.r t ht) (by decide) e.symm) _, h.nlo, h.k.setCell (fun hh => absurd hh (by have := h.nlo; simp; omega)) _⟩
  rw [Array.getElem?_setIfInBounds]
  by_cases e : m = t
  · subst e; rw [if_pos rfl, if_pos hs, if_pos (by omega)]
  · rw [if_neg e, h2 t ht]
    by_cases e2 : t < m
    · rw [if_pos e2, if_pos (by omega)]
    · rw [if_neg e2, if_neg (by omega)]
theorem Ts.read (h : Ts ps w wr N ps.length gs T) (hc2 : ps.length ≤ 1000000) (hl : ∀ t, lenAt ps t ≤ 1000000) : RIntss wr (Old wr) [.slice (some ⟨N, 0, none⟩) ps.length ps.length] (tabS ps T) := by
  refine ⟨_, _, by rw [tabS_len], by rw [tabS_len]; exact Nat.le_refl _, by omega, fun _ => ⟨N, 0, rfl, h.nlt, fun j x hx => ?_⟩⟩
  have hj : j < ps.length := by have := getElem?_lt hx; rwa [tabS_len] at this
  rw [tabS_at T hj] at hx
  injection hx with hx
  subst hx
  have hlj := hl j
  refine ⟨[slS ps gs j], rfl, ⟨some ⟨gs j, 0, none⟩, lenAt ps j + 1, by rw [rowS_len]; rfl, by rw [rowS_len]; omega, by omega, fun _ => ⟨gs j, 0, rfl, (h.r j hj).lt, fun k z hz => ?_⟩⟩, fun i u hu => ?_⟩
  · have hk : k < lenAt ps j := by have := getElem?_lt hz; rwa [rowS_len] at this
    rw [rowS_at T hk] at hz
    injection hz with hz
    subst hz
    refine ⟨[.int .i64 (T ⟨(j : Int), (k : Int)⟩)], rfl, rfl, fun i u hu => ?_⟩
    have : i = 0 := by have := getElem?_lt hu; simp at this; omega
    subst this
    simp at hu; subst hu
    simpa using h.inner hj (Nat.le_of_lt hk)
  · have : i = 0 := by have := getElem?_lt hu; simp at this; omega
    subst this
    simp at hu; subst hu
    have := h.outer hj
    rw [if_pos hj] at this
    simpa using this
end

/-- different trains among the first b uses have different seconds -/
def DiffT (T : Tab) (l : List Ref) (b : Nat) : Prop := ∀ (i j : Nat) v u, i < j → j < b → l[i]? = some v → l[j]? = some u → u.tr ≠ v.tr → T u ≠ T v
theorem DiffT.zero (T : Tab) (l : List Ref) : DiffT T l 0 := fun _ _ _ _ _ h => by omega
theorem DiffT.succ {T : Tab} {l : List Ref} {b : Nat} {u : Ref} (h : DiffT T l b) (hu : l[b]? = some u) (h2 : ∀ i : Nat, i < b → ∀ x, l[i]? = some x → u.tr ≠ x.tr → T u ≠ T x) : DiffT T l (b + 1) := fun i j v u' hij hj hv hu' hne => by
  by_cases e : j = b
  · subst e; rw [hu] at hu'; injection hu' with hu'; subst hu'; exact h2 i hij v hv hne
  · exact h i j v u' hij (by omega) hv hu' hne

set_option maxRecDepth 100000 in
set_option maxHeartbeats 4000000 in
theorem PrecedenceStable_any (lp le : List Int) (A A2 : Option Addr) (c c2 : Nat) (nw : Int) (w : World) (h : RInts w (Old w) [.slice A lp.length c] lp) (h2 : RInts w (Old w) [.slice A2 le.length c2] le) :
    Calls Try.prog 14 #[.slice A lp.length c, .slice A2 le.length c2, .int .i64 nw] w fun e w' => e = .returned (.bool true) ∧ KeepsAll w w' := by
  have HM := Lib.hid (made_any lp le [] A A2 none c c2 0 w h h2 RSlice.mkNil)
  clear h h2
  go_enter Try.func14, Try.ntmps14
  go_wp2_with fail
  refine HM.out.mono ?_
  rintro e w1 ⟨ps, os, at0, v0, v1, v2, rfl, rp, ro, ra, hm, hck, -, ⟨en, _, hos⟩, k1⟩
  obtain ⟨B, d, rfl, hd1, hd2⟩ := rp.val
  obtain ⟨B2, d2, rfl, hd3, hd4⟩ := ro.val
  have P1 := Lib.hid rp; have O1 := Lib.hid ro; have K1 := Lib.hid k1
  have hv := hm.valid
  have hps1 := hm.1
  have hps3 := hm.2.1
  have HMD := Lib.hid hm
  have HCK := Lib.hid hck
  have HOS := Lib.hid hos
  have HV := Lib.hid hv
  have HLEN := Lib.hid (fun t => lenAt_le hv t)
  have HGD : Hid (Gd ps (List.replicate ps.length (-1))) := ⟨by simp, fun t ht => by
    rw [nowAt_of (x := -1) (by rw [List.getElem?_replicate, if_pos ht])]; omega⟩
  have HND : Hid (∀ (t k : Nat), t < ps.length → doneR (List.replicate ps.length (-1)) ⟨(t : Int), (k : Int)⟩ = false) := fun t k ht => by
    unfold doneR
    rw [decide_eq_false_iff_not]
    simp only [Int.toNat_natCast]
    rw [nowAt_of (x := -1) (by rw [List.getElem?_replicate, if_pos ht])]
    omega
  have pn := pick_range nw 100 (by omega)
  have hmk := mkInts ps.length (by omega)
  clear rp ro ra k1 hm HM hck hv hos
  go_wp2
  generalize hW2 : World.alloc w1 _ = W2
  have KW2 : KeepsAll w1 W2 := by subst hW2; exact (Keeps.refl _ _).alloc _
  have BT : Hid (Blk W2 w1.heap.size 3 (cellsI (List.replicate ps.length 0))) := by subst hW2; exact Blk.new _ _ _
  have KK2 := Lib.hid KW2
  clear hW2 hmk KW2
  go_loopw [35] (fun v wr => ∃ k : Nat, k ≤ ps.length ∧ v = .int .i64 k ∧ Blk wr w1.heap.size 3 (cellsI (List.replicate k (-1) ++ List.replicate (ps.length - k) 0)) ∧ KeepsAll w1 wr) (fun v _ => ps.length - (intOf v).toNat)
  case atStart => exact ⟨0, Nat.zero_le _, rfl, by simpa using BT.out, KK2.out⟩
  case round =>
    obtain ⟨k, hk, rfl, hb, hkr⟩ := hrel
    clear BT KK2
    have KR := Lib.hid hkr
    have HB := Lib.hid hb
    by_cases hlt : k < ps.length
    · have q0 := hb.cell k
      have q1 := hb.frozen k
      have qz := hb.lt
      have e : (List.replicate k (-1) ++ List.replicate (ps.length - k) (0 : Int))[k]? = some 0 := by
        rw [List.getElem?_append_right (by simp), List.length_replicate, Nat.sub_self, List.getElem?_replicate, if_pos (by omega)]
      rw [cellsI_at e] at q0
      have HN : Hid (Blk (wr.setCell ⟨w1.heap.size, k, none⟩ (.int .i64 (-1))) w1.heap.size 3 (cellsI (List.replicate (k + 1) (-1) ++ List.replicate (ps.length - (k + 1)) 0))) := by
        have := HB.out.set_ k (.int .i64 (-1))
        have e2 : (List.replicate k (-1) ++ List.replicate (ps.length - k) (0 : Int)).set k (-1) = List.replicate (k + 1) (-1) ++ List.replicate (ps.length - (k + 1)) 0 := by
          rw [List.set_append_right _ _ (by simp), List.length_replicate, Nat.sub_self, show ps.length - k = (ps.length - (k + 1)) + 1 from by omega, List.replicate_succ, List.set_cons_zero, List.replicate_succ', List.append_assoc]; rfl
        rw [cellsI_set, e2] at this; exact this
      have KN : Hid (KeepsAll w1 (wr.setCell ⟨w1.heap.size, k, none⟩ (.int .i64 (-1)))) := KR.out.setCell (fun h => absurd h (by simp)) _
      clear hb e hkr HB KR
      go_wp2
      go_roundw
      case rel => exact ⟨k + 1, by omega, by go_num, HN.out, KN.out⟩
      case measure => simp [intOf]; omega
    · obtain rfl : k = ps.length := by omega
      clear hb hkr
      have A4 : Hid (RInts wr (Old wr) [.slice (some ⟨w1.heap.size, 0, none⟩) ps.length ps.length] (List.replicate ps.length (-1))) := by
        have h := HB.out
        rw [Nat.sub_self, List.replicate_zero, List.append_nil] at h
        have := Blk.ints h (S := Old wr) h.lt (by simp; omega)
        show RInts _ _ _ _
        simpa using this
      have P4 := Lib.hid (KR.out.rdo' RPaths.ok P1.out)
      have O4 := Lib.hid (KR.out.rdo' ROrders.ok O1.out)
      have K4 := Lib.hid (K1.out.tr KR.out)
      clear HB P1 O1 K1 KR
      generalize wr = w4 at *
      generalize hAT : List.replicate ps.length (-1 : Int) = at_ at *
      have hatl : at_.length = ps.length := by rw [← hAT]; simp
      have HATL := Lib.hid hatl
      clear hAT
      have HT : Hid (∀ n : Int, _) := fun n => by
        have := Times_tb ps os at_ n B B2 (some ⟨w1.heap.size, 0, none⟩) d d2 ps.length w4 P4.out O4.out (by rw [hatl]; exact A4.out)
        rw [hatl] at this
        exact this
      clear hatl
      generalize w1.heap.size = za at *
      go_wp2_with (go_at_call 18; refine (Pick_any _ _ _ (by omega) (by omega)).mono ?_; rintro e w' ⟨rfl, rfl⟩)
      generalize pick nw 100 = n at *
      have hclk : isClk n = true := by simp [isClk]; omega
      refine (HT.out n).mono ?_
      rintro e w5 ⟨vt, rfl, rt, k5, htb⟩
      have K5 := Lib.hid k5
      clear A4 HT k5
      by_cases g1 : okP ps os at_ = true
      · have Q2 : timesP ps os at_ n = (tabOf ps (tabG ps os at_ n), 0) := by unfold timesP; rw [HCK.out, good_Gd.2 HGD.out, g1, hclk]; rfl
        have HEQ : Hid ((∀ o ∈ os, ∀ (i j : Nat) v u, i < j → o.uses[i]? = some v → o.uses[j]? = some u → u.tr ≠ v.tr → tabG ps os at_ n u ≠ tabG ps os at_ n v) → sortO ps (tabS ps (tabG ps os at_ n)) = (os, 0)) := by
          show _ → _
          intro hdf
          exact stable_eq HOS.out HCK.out (good_Gd.2 HGD.out) g1 HND.out hdf
        obtain ⟨N, gs, rfl, htb2⟩ := htb (by rw [Q2])
        rw [Q2]
        simp only []
        generalize tabG ps os at_ n = T at *
        clear rt g1 Q2
        have HTB := Lib.hid htb2.ts
        clear htb htb2
        have hne0 : ((ps.length : Int) != (ps.length : Int)) = false := by simp
        go_wp2
        go_loopw [67] (fun v wr => ∃ i : Nat, i ≤ ps.length ∧ v = .int .i64 (i : Int) ∧ Ts ps w4 wr N i gs T) (fun v _ => ps.length - (intOf v).toNat)
        case atStart => exact ⟨0, Nat.zero_le _, rfl, HTB.out⟩
        case round =>
          obtain ⟨i, hi, rfl, hti⟩ := hrel
          have HTI := Lib.hid hti; clear hti HTB
          by_cases hlti : i < ps.length
          · obtain ⟨b, o, p, A', c', hbo, hb, hp, k1, hr⟩ := RSS.atK HTI.out.k P4.out hlti
            subst hbo
            have hcp := hr.caps
            have q0 := HTI.out.outer hlti
            rw [if_neg (by omega)] at q0
            unfold slT at q0
            rw [lenAt_of hp] at q0
            have hl64 := HLEN.out i
            rw [lenAt_of hp] at hl64
            have HSL : Hid (slS ps gs i = .slice (some ⟨gs i, 0, none⟩) p.length (p.length + 1)) := by show _ = _; unfold slS; rw [lenAt_of hp]
            have qz := HTI.out.nlt
            clear hr hp
            have hs1 : IntKind.i64.wrap ((p.length : Int) + 1) = (p.length : Int) + 1 := IntWalk.i64_in _ (by omega)
            have hne : (((p.length + 1 : Nat) : Int) != (p.length : Int) + 1) = false := by simp
            go_wp2
            go_quiet (fail)
            go_wp2
            generalize hWx : World.drewN wr _ = wx
            have KX : KeepsAll wr wx := by subst hWx; exact (Keeps.refl _ _).drewN _
            have HTX := Lib.hid (HTI.out.keep KX)
            replace k1 := KX.cellK (p := ⟨b, o + i, none⟩) hb k1
            replace q0 := KX.cellK (p := ⟨N, i, none⟩) qz q0
            clear hWx KX hb qz hs1 hne HTI
            refine wp_region_lex (fun w' => ∃ x : Ext wx, w' = x.val) [0, 1, 2, 3, 4, 5, 6, 7, 8, 9, 10, 11, 12, 13] (by kernel_rfl) (by kernel_rfl) ⟨⟨_, (Keeps.refl _ _).drew⟩, rfl⟩ ?_
            have x0 := Ext.cell q0
            have x1 := Ext.cell k1
            iterate 13 (refine lex_q _ rfl rfl rfl ?_; go_big_quiet_step (fail); refine wpQuiet_nil ?_)
            refine lex_a _ rfl rfl false (by kernel_rfl) ?_
            obtain ⟨wd, hwd⟩ : ∃ wd : World, wd = wx.drew := ⟨_, rfl⟩
            have HTD : Hid (Ts ps w4 wd N i gs T) := by subst hwd; exact HTX.out.keep (Keeps.refl _ _).drew
            have y0 := HTD.out.outer hlti
            have y1 := HTD.out.frz i
            rw [← hwd]
            clear hwd x0 x1 HTX q0 k1
            go_wp2
            (try refine ⟨fun h => (by cases h), ?_⟩)
            have HTN : Hid (Ts ps w4 (wd.setCell ⟨N, i, none⟩ (.slice (some ⟨gs i, 0, none⟩) p.length (p.length + 1))) N (i + 1) gs T) := by rw [← HSL.out]; exact HTD.out.step hlti
            clear HTD y0 y1 HSL
            refine (by assumption : ∀ (a : Act) (w : World), Code.wp Try.prog (Code.region 17 _ _) _ a w → _) _ _ ?_
            go_wp2
            go_roundw
            case rel => exact ⟨i + 1, by omega, by go_num, HTN.out⟩
            case measure => simp [intOf]; omega
          · obtain rfl : i = ps.length := by omega
            have O6 := Lib.hid (HTI.out.k.rdo' ROrders.ok O4.out)
            have P6 := Lib.hid (HTI.out.k.rdo' RPaths.ok P4.out)
            have K6 := Lib.hid (K4.out.tr HTI.out.k)
            have HLT : Hid (∀ u : Ref, (∃ (t k : Nat) (p : List Stage) (s : Stage), ps[t]? = some p ∧ p[k]? = some s ∧ u = ⟨(t : Int), (k : Int)⟩) → ∀ W, KeepsAll wr W → ∃ (t k g n : Nat), u = ⟨(t : Int), (k : Int)⟩ ∧ t < ps.length ∧ k < n ∧ n ≤ 64 ∧ g < W.heap.size ∧ W.cell? ⟨N, t, none⟩ = some (.slice (some ⟨g, 0, none⟩) n (n + 1)) ∧ W.cell? ⟨g, k, none⟩ = some (.int .i64 (T u))) := by
              rintro u ⟨t, k, p, s, hp, hs, rfl⟩ W hW
              have hT := HTI.out.keep hW
              have ht := getElem?_lt hp
              have hk := getElem?_lt hs
              have h1 := hT.outer ht
              rw [if_pos ht] at h1
              unfold slS at h1
              rw [lenAt_of hp] at h1
              have h64 := HLEN.out t
              rw [lenAt_of hp] at h64
              exact ⟨t, k, gs t, p.length, rfl, ht, hk, h64, (hT.r t ht).lt, h1, hT.inner ht (by rw [lenAt_of hp]; omega)⟩
            have HSO : Hid (∀ W, KeepsAll wr W → _) := fun W hW => by
              have := PSort_any ps (tabS ps T) B (some ⟨N, 0, none⟩) d ps.length W HMD.out (hW.rdo' RPaths.ok P6.out) (by rw [tabS_len]; exact hW.rdo' RIntss.ok (HTI.out.read (by omega) (fun t => by have := HLEN.out t; omega)))
              rw [tabS_len] at this
              exact this
            have hNz := HTI.out.nlt
            clear P4 O4 K4 K5 hlti hi HTI
            generalize wr = w6 at *
            go_wp2
            go_loopw [6, 98] (fun _ v wr => ∃ a : Nat, a ≤ os.length ∧ v = .int .i64 (a : Int) ∧ KeepsAll w6 wr ∧ ∀ a' : Nat, a' < a → ∀ o, os[a']? = some o → DiffT T o.uses o.uses.length) (fun _ v _ => os.length - (intOf v).toNat)
            case atStart => exact ⟨0, Nat.zero_le _, rfl, Keeps.refl _ _, fun a' h => by omega⟩
            case round =>
              obtain ⟨a, ha, rfl, hka, hda⟩ := hrel
              have KA := Lib.hid hka
              have HDA := Lib.hid hda
              clear hka hda
              by_cases hlta : a < os.length
              · obtain ⟨bo, oo, o, Au, cu, hbo, hbol, hoo, m0, m1, hus⟩ := ROrders.atK KA.out O6.out hlta
                subst hbo
                have hcu := hus.caps
                have HUS := Lib.hid hus
                have HOA := Lib.hid hoo
                have HIN := Lib.hid ((checkO_facts HCK.out).2.2 o (List.mem_of_getElem? hoo)).1
                have hdao : decide ((a : Int) < (os.length : Int)) = true := by simp; omega
                clear hoo hus
                go_wp2
                generalize hW3 : World.alloc wr _ = W3
                have KW3 : Hid (KeepsAll w6 W3) := by subst hW3; exact KA.out.alloc _
                have BO : Hid (Blk W3 wr.heap.size 45 #[.int .i64 o.res, .slice Au o.uses.length cu]) := by subst hW3; exact Blk.new _ _ _
                clear hW3 m0 m1 hbol
                generalize wr.heap.size = zo at *
                go_loopw [6, 105] (fun _ v wr => ∃ b : Nat, b ≤ o.uses.length ∧ v = .int .i64 (b : Int) ∧ KeepsAll W3 wr ∧ DiffT T o.uses b) (fun _ v _ => o.uses.length - (intOf v).toNat)
                case atStart => exact ⟨0, Nat.zero_le _, rfl, Keeps.refl _ _, DiffT.zero _ _⟩
                case round =>
                  obtain ⟨b, hb, rfl, hkb, hdb⟩ := hrel
                  have KB := Lib.hid hkb
                  have HDB := Lib.hid hdb
                  clear hkb hdb
                  by_cases hltb : b < o.uses.length
                  · obtain ⟨bx, ox, u, hbo, hbxl, hu, m0, m1⟩ := RRefs.atK (KW3.out.tr KB.out) HUS.out hltb
                    subst hbo
                    have HU := Lib.hid hu
                    have hue := mem_allU.1 (HIN.out u (List.mem_of_getElem? hu))
                    have HUE : Hid (∃ (t k : Nat) (p : List Stage) (s : Stage), ps[t]? = some p ∧ p[k]? = some s ∧ u = ⟨(t : Int), (k : Int)⟩) := by
                      obtain ⟨t, k, p, s, h1, h2, _, h3⟩ := hue; exact ⟨t, k, p, s, h1, h2, h3⟩
                    have BO1 := BO.out.kept KB.out (by simp)
                    have f1 := BO1.cell 1
                    simp at f1
                    have hzo := BO1.lt
                    have hdbo : decide ((b : Int) < (o.uses.length : Int)) = true := by simp; omega
                    clear BO1 hu hue
                    go_wp2
                    generalize hW4 : World.alloc wr _ = W4
                    have KW4 : KeepsAll wr W4 := by subst hW4; exact (Keeps.refl _ _).alloc _
                    have K34 := Lib.hid (KB.out.tr KW4)
                    have BU : Hid (Blk W4 wr.heap.size 48 #[.int .i64 u.tr, .int .i64 u.st]) := by subst hW4; exact Blk.new _ _ _
                    clear hW4 m0 m1 f1 KW4 hbxl hzo
                    generalize wr.heap.size = zu at *
                    go_loopw [6, 115] (fun _ v wr => ∃ cc : Nat, cc ≤ b ∧ v = .int .i64 (cc : Int) ∧ KeepsAll W4 wr ∧ ∀ i : Nat, i < cc → ∀ x, o.uses[i]? = some x → u.tr ≠ x.tr → T u ≠ T x) (fun _ v _ => b - (intOf v).toNat)
                    case atStart => exact ⟨0, Nat.zero_le _, rfl, Keeps.refl _ _, fun i h => by omega⟩
                    case round =>
                      obtain ⟨cc, hcc, rfl, hkc, hdc⟩ := hrel
                      have KC := Lib.hid hkc
                      have HDC := Lib.hid hdc
                      clear hkc hdc
                      by_cases hltc : cc < b
                      · obtain ⟨by_, oy, x, hbo, hbyl, hx, m0, m1⟩ := RRefs.atK (KW3.out.tr (K34.out.tr KC.out)) HUS.out (k := cc) (by omega)
                        injection hbo with hbo; injection hbo with hy1 hy2; subst hy1 hy2
                        have HX := Lib.hid hx
                        have hxe := mem_allU.1 (HIN.out x (List.mem_of_getElem? hx))
                        have HXE : Hid (∃ (t k : Nat) (p : List Stage) (s : Stage), ps[t]? = some p ∧ p[k]? = some s ∧ x = ⟨(t : Int), (k : Int)⟩) := by
                          obtain ⟨t, k, p, s, h1, h2, _, h3⟩ := hxe; exact ⟨t, k, p, s, h1, h2, h3⟩
                        have hdco : decide ((cc : Int) < (b : Int)) = true := by simp; omega
                        clear hx hxe
                        go_wp2
                        generalize hW5 : World.alloc wr _ = W5
                        have KW5 : KeepsAll wr W5 := by subst hW5; exact (Keeps.refl _ _).alloc _
                        have BX : Blk W5 wr.heap.size 48 #[.int .i64 x.tr, .int .i64 x.st] := by subst hW5; exact Blk.new _ _ _
                        have K45 := Lib.hid (KC.out.tr KW5)
                        have BU5 := BU.out.kept K45.out (by simp)
                        have u0 := BU5.cell 0
                        have u1 := BU5.cell 1
                        have x0 := BX.cell 0
                        have x1 := BX.cell 1
                        simp at u0 u1 x0 x1
                        have hzu := BU5.lt
                        have hzx := BX.lt
                        have KN := Lib.hid (KW3.out.tr (K34.out.tr K45.out))
                        obtain ⟨tu, ku, gu, nu, eu, htu, hku, hnu, hgu, cu0, cu1⟩ := HLT.out u HUE.out W5 KN.out
                        obtain ⟨tx, kx, gx, nx, ex, htx, hkx, hnx, hgx, cx0, cx1⟩ := HLT.out x HXE.out W5 KN.out
                        have hN5 : N < W5.heap.size := Nat.lt_of_lt_of_le hNz KN.out.size
                        have eu1 : u.tr = (tu : Int) := by rw [eu]
                        have eu2 : u.st = (ku : Int) := by rw [eu]
                        have ex1 : x.tr = (tx : Int) := by rw [ex]
                        have ex2 : x.st = (kx : Int) := by rw [ex]
                        have HCMP : Hid (u.tr = (tu : Int) ∧ x.tr = (tx : Int)) := ⟨eu1, ex1⟩
                        rw [eu1] at u0
                        rw [eu2] at u1
                        rw [ex1] at x0
                        rw [ex2] at x1
                        clear hW5 KW5 BX BU5 m0 m1 hbyl eu ex eu1 eu2 ex1 ex2 KC
                        generalize wr.heap.size = zx at *
                        obtain ⟨yu, HTU⟩ : ∃ y, Hid (T u = y) := ⟨_, rfl⟩
                        obtain ⟨yx, HTX⟩ : ∃ y, Hid (T x = y) := ⟨_, rfl⟩
                        rw [HTU.out] at cu1
                        rw [HTX.out] at cx1
                        by_cases g2 : (tu : Int) = (tx : Int)
                        · have g2' : ((tu : Int) != (tx : Int)) = false := by simpa using g2
                          have HDN : Hid (∀ i : Nat, i < cc + 1 → ∀ x, o.uses[i]? = some x → u.tr ≠ x.tr → T u ≠ T x) := fun i hi x' hx' hne => by
                            by_cases e : i = cc
                            · subst e
                              rw [HX.out] at hx'; injection hx' with hx'; subst hx'
                              exact absurd (by rw [HCMP.out.1, HCMP.out.2, g2]) hne
                            · exact HDC.out i (by omega) x' hx' hne
                          clear g2
                          go_quiet (fail)
                          go_wp2
                          go_roundw
                          case rel => exact ⟨cc + 1, by omega, by go_num, K45.out.drewN _, HDN.out⟩
                          case measure => simp [intOf]; omega
                        · have g2' : ((tu : Int) != (tx : Int)) = true := by simpa using g2
                          clear g2
                          by_cases g3 : yu = yx
                          · have g3' : (yu == yx) = true := by simpa using g3
                            clear g3
                            go_quiet (fail)
                            generalize hWx : World.drewN W5 _ = wx
                            have KX : Hid (KeepsAll w wx) := by subst hWx; exact K6.out.tr (KN.out.drewN _)
                            clear hWx
                            go_wp2_with fail
                            refine (awake35_any wx).mono ?_
                            rintro e w7 ⟨rfl, k7⟩
                            have K7 := Lib.hid (KX.out.tr k7); clear k7
                            go_wp2
                            go_ret
                            exact ⟨rfl, K7.out⟩
                          · have g3' : (yu == yx) = false := by simpa using g3
                            have HDN : Hid (∀ i : Nat, i < cc + 1 → ∀ x, o.uses[i]? = some x → u.tr ≠ x.tr → T u ≠ T x) := fun i hi x' hx' hne => by
                              by_cases e : i = cc
                              · subst e
                                rw [HX.out] at hx'; injection hx' with hx'; subst hx'
                                rw [HTU.out, HTX.out]; exact g3
                              · exact HDC.out i (by omega) x' hx' hne
                            clear g3
                            go_quiet (fail)
                            go_wp2
                            go_roundw
                            case rel => exact ⟨cc + 1, by omega, by go_num, K45.out.drewN _, HDN.out⟩
                            case measure => simp [intOf]; omega
                      · obtain rfl : cc = b := by omega
                        have HDN : Hid (DiffT T o.uses (cc + 1)) := HDB.out.succ HU.out HDC.out
                        have hdco : decide ((cc : Int) < (cc : Int)) = false := by simp
                        go_wp2
                        go_roundw
                        case rel => exact ⟨cc + 1, by omega, by go_num, K34.out.tr KC.out, HDN.out⟩
                        case measure => simp [intOf]; omega
                  · obtain rfl : b = o.uses.length := by omega
                    have hdbo : decide ((o.uses.length : Int) < (o.uses.length : Int)) = false := by simp
                    have HDN : Hid (∀ a' : Nat, a' < a + 1 → ∀ o, os[a']? = some o → DiffT T o.uses o.uses.length) := fun a' h o' ho' => by
                      by_cases e : a' = a
                      · subst e; rw [HOA.out] at ho'; injection ho' with ho'; subst ho'; exact HDB.out
                      · exact HDA.out a' (by omega) o' ho'
                    go_wp2
                    go_roundw
                    case rel => exact ⟨a + 1, by omega, by go_num, KW3.out.tr KB.out, HDN.out⟩
                    case measure => simp [intOf]; omega
              · obtain rfl : a = os.length := by omega
                have hdao : decide ((os.length : Int) < (os.length : Int)) = false := by simp
                have Q : Hid (sortO ps (tabS ps T) = (os, 0)) := HEQ.out fun o ho i j v u hij hv hu hne => by
                  obtain ⟨a', ha'⟩ := List.mem_iff_getElem?.1 ho
                  exact HDA.out a' (getElem?_lt ha') o ha' i j v u hij (getElem?_lt hu) hv hu hne
                go_wp2_with fail
                refine (HSO.out wr KA.out).mono ?_
                rintro e w7 ⟨v7, rfl, r7, k7⟩
                rw [Q.out] at r7 ⊢
                simp only [] at r7 ⊢
                obtain ⟨B7, d7, rfl, _, _⟩ := r7.val
                have R7 := Lib.hid r7
                have O7 := Lib.hid ((KA.out.tr k7).rdo' ROrders.ok O6.out)
                have K7 := Lib.hid (K6.out.tr (KA.out.tr k7))
                clear r7 k7
                go_wp2_with fail
                refine (awake35_any w7).mono ?_
                rintro e w8 ⟨rfl, k8⟩
                have K8 := Lib.hid k8; clear k8
                go_wp2_with fail
                refine (SameOrders_same os B7 B2 d7 d2 w8 (K8.out.rdo' ROrders.ok R7.out) (K8.out.rdo' ROrders.ok O7.out)).mono ?_
                rintro e w9 ⟨rfl, k9⟩
                have K9 := Lib.hid (K7.out.tr (K8.out.tr k9)); clear k9
                go_wp2
                go_ret
                exact ⟨rfl, K9.out⟩
      · have g1' : okP ps os at_ = false := by simpa using g1
        have Q2 : Hid (timesP ps os at_ n = ([], 13)) := by show _ = _; unfold timesP; rw [HCK.out, good_Gd.2 HGD.out, g1', hclk]; rfl
        rw [Q2.out]
        simp only []
        clear rt g1 g1' Q2 htb
        have K6 := Lib.hid (K4.out.tr K5.out)
        go_wp2_with fail
        refine (awake35_any w5).mono ?_
        rintro e w7 ⟨rfl, k7⟩
        have K7 := Lib.hid (K6.out.tr k7); clear k7
        go_wp2
        go_ret
        exact ⟨rfl, K7.out⟩



open Go.ChangeShapes Go.WideShapes Go.ChangeAt Go.RowKit

set_option maxRecDepth 100000 in
theorem precedenceStable_lifted (os : Os) (started : os.Started) (H : Type) (enc : TypeId × Value → H) :
    ReturnsInHanded {} Try.checked os 14 .any (Rows.precedenceStableSpec.pre6 enc Try.prog Try.f14 Rows.precedenceStableRow.domain false) (Rows.precedenceStableSpec.post enc Try.prog Try.f14 false true false false) := by
  refine returnsInHanded_of_change (C := Try.checked) rowOwn started (by kernel_rfl) Try.func14
    (ChangeSpec.witness6 (enc := enc) (C := Try.checked) false ⟨#[], #[.slice none 0 0, .slice none 0 0, .int .i64 0], []⟩ 8 (by kernel_rfl) (by kernel_rfl) (by kernel_rfl) (by kernel_rfl)) ?_
  intro W base args ds gs before hval0 hW hcnd _
  have hval : ∀ (j : Nat) t v, Try.f14.params[j]? = some t → args[j]? = some v → Value.okWide Try.prog W .any base t v := hval0
  have hW' := hW
  obtain ⟨p, q, hA0, hV, rfl, hfz, hnd⟩ := hW
  have hA : DataW.TrodAll enc Try.prog W 0 (fun _ => true) true Try.f14.params.toList args.toList ds p := hA0
  rw [Try.params14] at hA hval
  obtain ⟨v0, vs0, d0, ds0, p0, q0, hargs, rfl, rfl, h0, r0⟩ := trodAll_cons hA
  obtain ⟨v1, vs1, d1, ds1, p1, q1, rfl, rfl, rfl, h1, r1⟩ := trodAll_cons r0
  obtain ⟨v2, vs2, d2, ds2, p2, q2, rfl, rfl, rfl, h2, r2⟩ := trodAll_cons r1
  obtain ⟨rfl, rfl, rfl⟩ := trodAll_nil r2
  obtain rfl : args = #[v0, v1, v2] := by cases args; simp_all
  obtain ⟨rfl, rfl⟩ := trodVars_none hV
  obtain ⟨a0, len0, cap0, rfl⟩ := okWide_slice Try.underlying22 (hval 0 22 v0 rfl rfl)
  obtain ⟨a1, len1, cap1, rfl⟩ := okWide_slice Try.underlying22 (hval 1 22 v1 rfl rfl)
  have lt0 : ∀ x ∈ p0, x.block < W.heap.size := by obtain ⟨m, hm⟩ := h0; exact DataW.trod_lt m _ _ _ hm
  have lt1 : ∀ x ∈ p1, x.block < W.heap.size := by obtain ⟨m, hm⟩ := h1; exact DataW.trod_lt m _ _ _ hm
  obtain ⟨l0, e0, R0⟩ := trod_ints h0
  obtain ⟨l1, e1, R1⟩ := trod_ints h1
  subst e0
  subst e1
  obtain ⟨x2, rfl, rfl, rfl, w2⟩ := open_int Try.underlying3 (hval 2 3 v2 rfl rfl) h2
  clear hA0 hval0
  refine (PrecedenceStable_any l0 l1 a0 a1 cap0 cap1 x2 W R0 R1).mono fun e W' ⟨he, kk⟩ => ?_
  subst he
  have bel : Below W.heap.size W W' := kk.toBelow (Nat.le_refl _) (fun _ _ h => h)
  exact ⟨_, rfl, _, _, _, [], _, [], hW', trodAll_mk1 (shut_bool Try.underlying4 _), (trodAll_cons_mk (Below.trod rowLaid (by kernel_rfl) (of_decide_eq_true (by kernel_rfl)) h0 bel lt0) (trodAll_cons_mk (Below.trod rowLaid (by kernel_rfl) (of_decide_eq_true (by kernel_rfl)) h1 bel lt1) (trodAll_cons_mk (shut_int Try.underlying3 w2) trodAll_mk0))), rfl, bel.frame _, fun h => by cases h⟩

theorem precedenceStable_holds : Rows.PrecedenceStableSaid :=
  OpenClaim.holds_of_wide 14 Try.f14 rfl rfl rfl rfl rfl rfl rfl ⟨rfl, rfl, rfl, rfl, rfl⟩ rfl rfl rfl rfl rfl (by kernel_rfl) Try.func14 (by kernel_rfl)
    (of_decide_eq_true (by kernel_rfl)) (by unfold Func.isWrapper; first | (rw [if_pos (by decide +kernel)]; kernel_rfl) | (rw [if_neg (by decide +kernel)]; exact ⟨rfl, rfl⟩))
    (fun os started H enc _ => precedenceStable_lifted os started H enc)
#print axioms precedenceStable_holds

end Go.Proofs.Ytigmldildefdgaa
