/- The loop of choose of chapter 37, over the graph's state; no memory in sight. Conditions: as each theorem says. follow of chapter 37 as a plain function. No program in sight. The lists of uses that Sort fills, as plain lists. No program in sight. The lists of uses that are not over, as plain lists. No program in sight. -/
import Derived.Test.YtilbbpbjhoidhaaV18
import Derived.Test.YtilbbpbjhoidhaaV08
import Derived.Test.YtilbbpbjhoidhaaV15
import Derived.Test.YtilbbpbjhoidhaaV17
namespace Go.Proofs.Ytilbbpbjhoidhaa
open Go.RowKit

theorem chain_frm {ps : List (List Stage)} {b : RArc} (hb : b ∈ chainR ps) {t k : Nat} {p : List Stage} (hp : ps[t]? = some p) (hf : b.frm = ⟨(t : Int), (k : Int)⟩) : ∃ s, p[k]? = some s ∧ b = ⟨⟨(t : Int), (k : Int)⟩, ⟨(t : Int), (k : Int) + 1⟩, s.mn⟩ := by
 obtain ⟨t', k', p', s, hp', hs, rfl⟩ := mem_chainR.1 hb
 injection hf with h1 h2
 obtain rfl : t' = t := by omega
 obtain rfl : k' = k := by omega
 rw [hp] at hp'
 injection hp' with hp'
 subst hp'
 exact ⟨s, hs, rfl⟩
theorem nextD_push0 (ps : List (List Stage)) (D : List RArc) (x y : Ref) (hi : num ps x < (evs ps).length) : nextD ps (D ++ [arc0 x y]) = (nextD ps D).set (num ps x) ((rowD ps D (num ps x)).map (fun b => (num ps b.to : Int)) ++ [(num ps y : Int)]) := nextD_push ps D (arc0 x y) hi
structure QSt (ps : List (List Stage)) (at_ : List Int) (n : Int) (D : List RArc) (L : List Ref) (R : RArc → Prop) (i : Nat) (lg0 : List Chg) (a0 : Nat) (st0 : LTab × List (List Int)) (d : GD) : Prop where
 prt : Prt ps at_ n D L (fun b => (∃ j, i ≤ j ∧ d.que[j]? = some (num ps b.frm : Int)) ∨ R b) d.T
 fl : ∀ e : Nat, d.qd[e]? = some true → ∃ j, i ≤ j ∧ d.que[j]? = some (e : Int)
 qin : ∀ (j : Nat) x, d.que[j]? = some x → ∃ u, Ev ps at_ u ∧ x = (num ps u : Int)
 qa : d.que.length + a0 ≤ absT d.T (evs ps)
 lg : ∃ es, d.lg = lg0 ++ es ∧ es.length + a0 ≤ absT d.T (evs ps) + 1 ∧ UndoR (evs ps) st0 es.reverse (d.T, d.N)
 il : i ≤ d.que.length
 N : d.N = nextD ps D
 ql : d.qd.length = (evs ps).length

section
variable {ps : List (List Stage)} {at_ : List Int} {n : Int} {D : List RArc} {L : List Ref} {R : RArc → Prop} {i : Nat} {lg0 : List Chg} {a0 : Nat} {st0 : LTab × List (List Int)} {d d' : GD}
theorem updL_back (T : LTab) (u : Ref) (m : Lab) : updL (updL T u m) u (T u) = T := by
 funext v
 by_cases e : v = u
 ·subst e; rw [updL_at]
 ·rw [updL_ne _ _ e, updL_ne _ _ e]
theorem QSt.mono (q : QSt ps at_ n D L R i lg0 a0 st0 d) {R' : RArc → Prop} (h : ∀ b ∈ arcsD ps D, Ev ps at_ b.to → doneR at_ b.frm = false → R b → R' b) : QSt ps at_ n D L R' i lg0 a0 st0 d :=
 ⟨q.prt.mono fun b hb h1 h2 hp => hp.imp id (h b hb h1 h2), q.fl, q.qin, q.qa, q.lg, q.il, q.N, q.ql⟩
theorem QSt.upd (hv : valid ps = true) (hD : DOk ps at_ D) (hn : 0 ≤ n ∧ n ≤ 4194304) (h : Topo ps at_ D L) (q : QSt ps at_ n D L R i lg0 a0 st0 d) {a : RArc} (ha : a ∈ arcsD ps D) (he : Ev ps at_ a.to) (hfe : Ev ps at_ a.frm) (hne : a.frm ≠ a.to)
  (hU : Upd d d' (num ps a.to) a.to (mergeL (d.T a.to) (d.T a.frm) a.frm a.wt)) : QSt ps at_ n D L (fun b => R b ∧ b ≠ a) i lg0 a0 st0 d' := by
 have hb := q.prt.bounds hv hD hn h
 have hp := q.prt.upd h ha he hfe.2 hfe hne
 obtain ⟨es, hlg, hel, hun⟩ := q.lg
 by_cases hm : mergeL (d.T a.to) (d.T a.frm) a.frm a.wt = d.T a.to
 ·have hT := hU.T
  have hlg' := hU.lg
  have hque := hU.que
  have hqd := hU.qd
  rw [if_pos hm] at hT hlg' hqd
  rw [if_pos (.inl hm)] at hque
  have hid : updL d.T a.to (mergeL (d.T a.to) (d.T a.frm) a.frm a.wt) = d.T := by
   funext v
   by_cases e : v = a.to
   ·subst e; rw [updL_at, hm]
   ·rw [updL_ne _ _ e]
  rw [hid] at hp
  refine ⟨?_, by rw [hqd, hque]; exact q.fl, by rw [hque]; exact q.qin, by rw [hque, hT]; exact q.qa, ⟨es, by rw [hlg', hlg], by rw [hT]; exact hel, by rw [hT, hU.N]; exact hun⟩, by rw [hque]; exact q.il, hU.N.trans q.N, by rw [hqd]; exact q.ql⟩
  rw [hT, hque]
  refine hp.mono fun b _ _ _ hb => ?_
  rcases hb with ⟨hb | hb, hne⟩ | ⟨_, hc⟩
  ·exact .inl hb
  ·exact .inr ⟨hb, hne⟩
  ·exact absurd hm hc
 ·have hT := hU.T
  have hlg' := hU.lg
  have hque := hU.que
  have hqd := hU.qd
  rw [if_neg hm] at hT hlg' hqd
  have hlt := labAbs_lt (merge_le (d.T a.to) (d.T a.frm) a.frm a.wt) (hb a.to).1 (mergeL_len _ _ _ _) (hb a.to).2.2.1 (fun t ht => ((hb a.to).2.1 t ht).1) hm
  have hab := absT_upd (T := d.T) (l := mergeL (d.T a.to) (d.T a.frm) a.frm a.wt) (inR_mem he.1) (Nat.le_of_lt hlt)
  rw [← hT] at hab
  have hnum : (evs ps)[num ps a.to]? = some a.to := evs_num he.1
  -- the old queue is part of the new one, and the event is in it
  have hpre : ∀ (j : Nat) x, d.que[j]? = some x → d'.que[j]? = some x := fun j x hx => by
   rw [hque]
   split
   ·exact hx
   ·rw [List.getElem?_append_left (getElem?_lt hx)]; exact hx
  have hin : ∃ j, i ≤ j ∧ d'.que[j]? = some (num ps a.to : Int) := by
   by_cases hq : d.qd[num ps a.to]? = some true
   ·obtain ⟨j, h1, h2⟩ := q.fl _ hq
    exact ⟨j, h1, hpre j _ h2⟩
   ·rw [if_neg (by rintro (h | h); exact hm h; exact hq h)] at hque
    exact ⟨d.que.length, q.il, by rw [hque]; simp⟩
  have hql : d'.que.length ≤ d.que.length + 1 := by rw [hque]; split <;> simp
  have hql2 : d.que.length ≤ d'.que.length := by rw [hque]; split <;> simp
  have hqa := q.qa
  have hil := q.il
  refine ⟨?_, fun e hq => ?_, fun j x hx => ?_, by omega, ⟨es ++ [⟨(num ps a.to : Int), false, d.T a.to⟩], by rw [hlg', hlg, List.append_assoc], by simp; omega, ?_⟩, by omega, hU.N.trans q.N, by rw [hqd, List.length_set]; exact q.ql⟩
  ·rw [hT]
   refine hp.mono fun b _ _ _ hb => ?_
   rcases hb with ⟨⟨j, hj, hx⟩ | hb, hne⟩ | ⟨hf, _⟩
   ·exact .inl ⟨j, hj, hpre j _ hx⟩
   ·exact .inr ⟨hb, hne⟩
   ·rw [hf]; exact .inl hin
  ·rw [hqd, List.getElem?_set] at hq
   by_cases e2 : num ps a.to = e
   ·subst e2; exact hin
   ·rw [if_neg e2] at hq
    obtain ⟨j, h1, h2⟩ := q.fl _ hq
    exact ⟨j, h1, hpre j _ h2⟩
  ·rw [hque] at hx
   by_cases hc : mergeL (d.T a.to) (d.T a.frm) a.frm a.wt = d.T a.to ∨ d.qd[num ps a.to]? = some true
   ·rw [if_pos hc] at hx; exact q.qin j x hx
   ·rw [if_neg hc] at hx
    rcases Nat.lt_or_ge j d.que.length with hj | hj
    ·rw [List.getElem?_append_left hj] at hx; exact q.qin j x hx
    ·rw [List.getElem?_append_right hj] at hx
     have := getElem?_lt hx
     obtain rfl : j = d.que.length := by simp at this; omega
     simp at hx
     exact ⟨a.to, he, hx.symm⟩
  ·rw [List.reverse_append, List.reverse_cons, List.reverse_nil, List.nil_append, List.cons_append, List.nil_append]
   refine ⟨⟨num ps a.to, rfl, num_lt he.1, fun h => by cases h⟩, ?_⟩
   have e1 : undo1 (evs ps) ⟨(num ps a.to : Int), false, d.T a.to⟩ (d'.T, d'.N) = (d.T, d.N) := by
    unfold undo1
    rw [if_neg (by simp)]
    simp only [Int.toNat_natCast, hnum, Option.getD_some]
    rw [hT, updL_back, hU.N]
   rw [e1]; exact hun
theorem QSt.pop (q : QSt ps at_ n D L (fun _ => False) i lg0 a0 st0 d) {u : Ref} (hu : Ev ps at_ u) (hx : d.que[i]? = some (num ps u : Int)) (hi : ∀ a ∈ arcsD ps D, InR ps a.frm) : QSt ps at_ n D L (fun b => b.frm = u) (i + 1) lg0 a0 st0 { d with qd := d.qd.set (num ps u) false } := by
 refine ⟨q.prt.mono fun b hb _ _ hp => ?_, fun e hq => ?_, q.qin, q.qa, q.lg, getElem?_lt hx, q.N, by show (d.qd.set _ _).length = _; rw [List.length_set]; exact q.ql⟩
 ·rcases hp with ⟨j, hj, hjx⟩ | hp
  ·by_cases e : j = i
   ·subst e
    rw [hx] at hjx
    injection hjx with hjx
    exact .inr (num_inj (hi b hb) hu.1 (by omega))
   ·exact .inl ⟨j, by omega, hjx⟩
  ·exact hp.elim
 ·have hq : (d.qd.set (num ps u) false)[e]? = some true := hq
  rw [List.getElem?_set] at hq
  by_cases e2 : num ps u = e
  ·rw [if_pos e2] at hq; split at hq <;> simp at hq
  ·rw [if_neg e2] at hq
   obtain ⟨j, hj, hjx⟩ := q.fl e hq
   refine ⟨j, ?_, hjx⟩
   by_cases e3 : j = i
   ·subst e3
    rw [hx] at hjx
    injection hjx with hjx
    exact absurd (by omega) e2
   ·omega
theorem QSt.done (h : Topo ps at_ D L) (q : QSt ps at_ n D L (fun _ => False) i lg0 a0 st0 d) (hi : d.que.length ≤ i) : d.T = labS ps at_ n D L ∧ ∀ e : Nat, d.qd[e]? ≠ some true := by
 refine ⟨funext fun u => q.prt.done h (fun a _ _ _ hp => ?_) u, fun e hq => ?_⟩
 ·rcases hp with ⟨j, hj, hx⟩ | hp
  ·have := getElem?_lt hx; omega
  ·exact hp
 ·obtain ⟨j, hj, hx⟩ := q.fl e hq
  have := getElem?_lt hx; omega
def Row (ps : List (List Stage)) (D : List RArc) (u : Ref) (m : Nat) (b : RArc) : Prop := b ∈ (rowD ps D (num ps u)).drop m
theorem QSt.rows {u : Ref} (q : QSt ps at_ n D L (fun b => b.frm = u ∧ b ∉ chainR ps) i lg0 a0 st0 d) : QSt ps at_ n D L (Row ps D u 0) i lg0 a0 st0 d :=
 q.mono fun b hb _ _ hr => by
  unfold Row rowD
  rw [List.drop_zero, List.mem_filter]
  rcases List.mem_append.1 hb with hb | hb
  ·exact absurd hb hr.2
  ·exact ⟨hb, by simp [hr.1]⟩
theorem QSt.rowStep {u : Ref} {m : Nat} {b0 : RArc} (hb : (rowD ps D (num ps u))[m]? = some b0) (q : QSt ps at_ n D L (fun b => Row ps D u m b ∧ b ≠ b0) i lg0 a0 st0 d) : QSt ps at_ n D L (Row ps D u (m + 1)) i lg0 a0 st0 d :=
 q.mono fun b _ _ _ hr => by
  have hm := getElem?_lt hb
  have h1 : b ∈ (rowD ps D (num ps u)).drop m := hr.1
  rw [List.drop_eq_getElem_cons hm] at h1
  rcases List.mem_cons.1 h1 with h1 | h1
  ·rw [List.getElem?_eq_getElem hm] at hb
   injection hb with hb
   exact absurd (h1.trans hb) hr.2
  ·exact h1
theorem QSt.rowEnd {u : Ref} {m : Nat} (hm : (rowD ps D (num ps u)).length ≤ m) (q : QSt ps at_ n D L (Row ps D u m) i lg0 a0 st0 d) : QSt ps at_ n D L (fun _ => False) i lg0 a0 st0 d :=
 q.mono fun b _ _ _ hr => by unfold Row at hr; rw [List.drop_of_length_le hm] at hr; simp at hr
theorem row_arc (hD : DOk ps at_ D) {u : Ref} (hu : InR ps u) {m : Nat} {b0 : RArc} (hb : (rowD ps D (num ps u))[m]? = some b0) : b0 ∈ D ∧ b0.frm = u ∧ b0 = ⟨u, b0.to, 0⟩ := by
 have h1 := List.mem_of_getElem? hb
 unfold rowD at h1
 rw [List.mem_filter] at h1
 have h2 := num_inj (hD.frm b0 h1.1).1 hu (by simpa using h1.2)
 exact ⟨h1.1, h2, by rw [← h2, ← hD.wt b0 h1.1]⟩
theorem QSt.start {D' : List RArc} {L' L1 : List Ref} {x y : Ref} {l : Lab} (h : Topo ps at_ D' L') (h1 : Topo ps at_ (D' ++ [arc0 x y]) L1) (hx : InR ps x) (hT : d.T = labS ps at_ n D' L') (hN : d.N = nextD ps (D' ++ [arc0 x y])) (hlg : d.lg = lg0 ++ [⟨(num ps x : Int), true, l⟩]) (hq : d.que = []) (hqd : ∀ e : Nat, d.qd[e]? ≠ some true) (hql : d.qd.length = (evs ps).length) :
  QSt ps at_ n (D' ++ [arc0 x y]) L1 (fun b => b = arc0 x y) 0 lg0 (absT d.T (evs ps)) (d.T, nextD ps D') d := by
 refine ⟨?_, fun e he => absurd he (hqd e), fun j x hj => by rw [hq] at hj; simp at hj, by rw [hq]; simp, ⟨_, hlg, by simp; omega, ?_⟩, Nat.zero_le _, hN, hql⟩
 ·rw [hT]
  exact (Prt.start h h1).mono fun b _ _ _ hb => .inr hb
 ·have e1 : undo1 (evs ps) ⟨(num ps x : Int), true, l⟩ (d.T, d.N) = (d.T, nextD ps D') := by
   unfold undo1
   rw [if_pos rfl]
   simp only [Int.toNat_natCast]
   have hlt := num_lt hx
   have hpu := nextD_push ps D' (arc0 x y) hlt
   rw [hN, hpu]
   have hx2 : num ps (arc0 x y).frm = num ps x := rfl
   rw [hx2, List.getElem?_set_self (by rw [nextD_len]; exact hlt), Option.getD_some, List.dropLast_concat, List.set_set]
   congr 1
   apply List.ext_getElem?
   intro j
   rw [List.getElem?_set]
   by_cases e : num ps x = j
   ·subst e; rw [if_pos rfl, if_pos (by rw [nextD_len]; exact hlt), nextD_at _ _ hlt]
   ·rw [if_neg e]
  refine ⟨⟨num ps x, rfl, num_lt hx, fun _ => ⟨(rowD ps D' (num ps x)).map (fun b => (num ps b.to : Int)), (num ps y : Int), ?_⟩⟩, e1⟩
  rw [hN, nextD_push0 ps D' x y (num_lt hx), List.getElem?_set_self (by rw [nextD_len]; exact num_lt hx)]
end

structure SOk (s : GS) : Prop where
 v : valid s.ps = true
 g : Gd s.ps s.at_
 n : 0 ≤ s.now ∧ s.now ≤ 4194304
structure GP (s : GS) (D : List RArc) (d : GD) : Prop where
 dok : DOk s.ps s.at_ D
 ho : ∀ a ∈ D, doneR s.at_ a.to = false
 fl : ∀ e : Nat, d.qd[e]? ≠ some true
 ex : ∃ D' L, Topo s.ps s.at_ D L ∧ Eff s.ps s.at_ D' D L ∧ d.T = labS s.ps s.at_ s.now D L ∧ d.N = nextD s.ps D' ∧ D'.length ≤ D.length ∧ d.lg.length ≤ absT d.T (evs s.ps) + D'.length
section
variable {s : GS} {D : List RArc} {d : GD}
theorem labS_bounds (hs : SOk s) (hD : DOk s.ps s.at_ D) {L : List Ref} (h : Topo s.ps s.at_ D L) (v : Ref) : (labS s.ps s.at_ s.now D L v).bef.length = 10 ∧ (∀ t, t < 10 → -1 ≤ (labS s.ps s.at_ s.now D L v).bf t ∧ (labS s.ps s.at_ s.now D L v).bf t ≤ 64) ∧ -1 ≤ (labS s.ps s.at_ s.now D L v).sec ∧ (labS s.ps s.at_ s.now D L v).sec ≤ 3000000000 := by
 have hL := topo_len hs.v h
 have hsb := secS_bd (n := s.now) (L := L) hs.v hD hs.n v
 refine ⟨labS_len v, fun t ht => ?_, hsb.1, ?_⟩
 ·rw [labS_bf ht]; exact befS_bd hs.v h _ v
 ·show secS s.ps s.at_ s.now D L v ≤ 3000000000
  omega
theorem GP.bounds (hs : SOk s) (h : GP s D d) (v : Ref) : (d.T v).bef.length = 10 ∧ (∀ t, t < 10 → -1 ≤ (d.T v).bf t ∧ (d.T v).bf t ≤ 64) ∧ -1 ≤ (d.T v).sec ∧ (d.T v).sec ≤ 3000000000 := by
 obtain ⟨D', L, h1, _, h3, _⟩ := h.ex
 rw [h3]; exact labS_bounds hs h.dok h1 v
theorem labS_abs (hs : SOk s) (hD : DOk s.ps s.at_ D) {L : List Ref} (h : Topo s.ps s.at_ D L) : absT (labS s.ps s.at_ s.now D L) (evs s.ps) ≤ 1780000000000 := by
 have hst : Prt s.ps s.at_ s.now D L (fun _ => False) (labS s.ps s.at_ s.now D L) := by
  have hs1 := solS_sol (base := baseN s.ps s.at_ s.now) (ph := phS) (init := initR s.at_ s.now) h
  have hb := fun t : Int => solS_sol (base := fun _ => -1) (ph := phB t) (init := fun _ => -1) h
  refine ⟨fun u => labS_len u, fun e he => ⟨hs1.base e he, fun t ht => by rw [labS_bf ht]; exact (hb (t : Int)).base e he⟩, fun a ha he hf => .inr ?_, fun e he => ⟨Int.le_refl _, fun t ht => by rw [labS_bf ht]; exact Int.le_refl _⟩, fun _ _ => rfl⟩
  refine (sat_iff (labS_len _)).2 ⟨hs1.arc a ha he hf, fun t ht => ?_⟩
  rw [labS_bf ht, labS_bf ht]
  exact (hb (t : Int)).arc a ha he hf
 exact hst.abs hs.v hD hs.n h
theorem GP.lgb (hs : SOk s) (h : GP s D d) (hl : D.length ≤ 100000000) : d.lg.length ≤ 1780000000000 + 100000000 := by
 obtain ⟨D', L, h1, _, h3, _, h5, h6⟩ := h.ex
 have := labS_abs hs h.dok h1
 rw [h3] at h6
 omega
theorem nextD_row {ps : List (List Stage)} {D : List RArc} {i : Nat} {l : List Int} (h : (nextD ps D)[i]? = some l) : l = (rowD ps D i).map (fun a => (num ps a.to : Int)) ∧ l.length ≤ D.length := by
 have hi := getElem?_lt h
 rw [nextD_len] at hi
 rw [nextD_at _ _ hi] at h
 injection h with h
 refine ⟨h.symm, ?_⟩
 rw [← h, List.length_map]
 exact List.length_filter_le _ _
theorem evs_le (hs : SOk s) : s.n ≤ 650 := by
 have h2 := fst_le (fun p hp => ((valid_lens hs.v).2 p hp).2) s.ps.length (Nat.le_refl _)
 rw [fst_len] at h2
 have := (valid_lens hs.v).1
 show (evs s.ps).length ≤ 650
 omega
theorem labS_indep {ps : List (List Stage)} {at_ : List Int} {n : Int} {L L' : List Ref} (h : Topo ps at_ D L) (h' : Topo ps at_ D L') : labS ps at_ n D L = labS ps at_ n D L' := by
 funext u
 unfold labS secS befS
 rw [solS_indep phS_mono h h' u]
 congr 1
 exact List.map_congr_left fun t _ => solS_indep (phB_mono (t : Int)) h h' u
theorem ho_snoc {at_ : List Int} (ho : ∀ a ∈ D, doneR at_ a.to = false) {x y : Ref} (hy : doneR at_ y = false) : ∀ a ∈ D ++ [arc0 x y], doneR at_ a.to = false := fun a ha => by
 rcases List.mem_append.1 ha with ha | ha
 ·exact ho a ha
 ·obtain rfl : a = arc0 x y := by simpa using ha
  exact hy
theorem GP.skip (hs : SOk s) (h : GP s D d) {x y : Ref} {L1 : List Ref} (hx : Ev s.ps s.at_ x) (hy : Ev s.ps s.at_ y) (hne : x.tr ≠ y.tr) (hl : leadsL d.T x y = true) (h1 : Topo s.ps s.at_ (D ++ [arc0 x y]) L1) : GP s (D ++ [arc0 x y]) d := by
 obtain ⟨D', L, hL, hE, hT, hN, hDl, hlg⟩ := h.ex
 have hD1 := h.dok.snoc hx hy.1 hne
 have hsub : ∀ a ∈ D, a ∈ D ++ [arc0 x y] := fun a ha => List.mem_append_left _ ha
 have hL1 := topo_sub hsub h1
 rw [hT, leadsL_eq hs.v hx.1] at hl
 have hl1 : leadsS s.ps s.at_ D L1 x y = true := leads_sub (fun _ h => h) hL hL1 hl
 have hE1 : Eff s.ps s.at_ D (D ++ [arc0 x y]) L1 := (Eff.refl D L1).skip hl1
 have hE2 : Eff s.ps s.at_ D' (D ++ [arc0 x y]) L1 := by
  have e1 := hE.any (topo_sub hE.sub hL) (topo_sub hE.sub hL1)
  refine e1.skip ?_
  have e2 := eff_lab (n := s.now) hs.v h.dok hL1 e1
  have e3 : leadsL (labS s.ps s.at_ s.now D' L1) x y = true := by rw [e2, leadsL_eq hs.v hx.1]; exact hl1
  rw [leadsL_eq hs.v hx.1] at e3
  exact e3
 refine ⟨hD1, ho_snoc h.ho hy.2, h.fl, D', L1, h1, hE2, ?_, hN, by simp; omega, hlg⟩
 rw [hT, labS_indep hL hL1]
 exact eff_lab hs.v hD1 h1 hE1
theorem GP.add (hs : SOk s) (h : GP s D d) {d' : GD} {D' : List RArc} {L L1 : List Ref} {x y : Ref} {i : Nat} (hL : Topo s.ps s.at_ D L) (hE : Eff s.ps s.at_ D' D L) (_hT : d.T = labS s.ps s.at_ s.now D L) (hN : d.N = nextD s.ps D') (hDl : D'.length ≤ D.length) (hlg : d.lg.length ≤ absT d.T (evs s.ps) + D'.length)
  (hx : Ev s.ps s.at_ x) (hy : Ev s.ps s.at_ y) (hne : x.tr ≠ y.tr) (h1 : Topo s.ps s.at_ (D ++ [arc0 x y]) L1) (q : QSt s.ps s.at_ s.now (D' ++ [arc0 x y]) L1 (fun _ => False) i d.lg (absT d.T (evs s.ps)) (d.T, nextD s.ps D') d') (hi : d'.que.length ≤ i) :
  GP s (D ++ [arc0 x y]) d' ∧ ∃ es, d'.lg = d.lg ++ es ∧ UndoR (evs s.ps) (d.T, d.N) es.reverse (d'.T, d'.N) := by
 have hsub : ∀ a ∈ D, a ∈ D ++ [arc0 x y] := fun a ha => List.mem_append_left _ ha
 have hsub' : ∀ a ∈ D' ++ [arc0 x y], a ∈ D ++ [arc0 x y] := fun a ha => by
  rcases List.mem_append.1 ha with ha | ha
  ·exact List.mem_append_left _ (hE.sub a ha)
  ·exact List.mem_append_right _ ha
 have h2 := topo_sub hsub' h1
 have hD1 := h.dok.snoc hx hy.1 hne
 have hE1 : Eff s.ps s.at_ (D' ++ [arc0 x y]) (D ++ [arc0 x y]) L1 := hE.snoc (topo_sub hE.sub hL) h2
 obtain ⟨hT1, hq1⟩ := q.done h2 hi
 obtain ⟨es, e1, e2, e3⟩ := q.lg
 refine ⟨⟨hD1, ho_snoc h.ho hy.2, hq1, D' ++ [arc0 x y], L1, h1, hE1, ?_, q.N, by simp; omega, ?_⟩, es, e1, by rw [hN]; exact e3⟩
 ·rw [hT1]
  exact eff_lab hs.v hD1 h1 hE1
 ·rw [e1]; simp; omega
end

def lastU (pre : List Ref) (t : Int) : Option Ref := (pre.filter fun u => decide (u.tr = t)).getLast?
theorem lastU_nil (t : Int) : lastU [] t = none := rfl
theorem lastU_snoc (pre : List Ref) (v : Ref) (t : Int) : lastU (pre ++ [v]) t = if v.tr = t then some v else lastU pre t := by
 unfold lastU
 by_cases h : v.tr = t
 ·simp [List.filter_append, h]
 ·simp [List.filter_append, h]
theorem lastU_mem {pre : List Ref} {t : Int} {u : Ref} (h : lastU pre t = some u) : u ∈ pre ∧ u.tr = t := by
 unfold lastU at h
 have := List.mem_of_getLast? h
 rw [List.mem_filter] at this
 exact ⟨this.1, by simpa using this.2⟩
def idxU (l : List Ref) (v : Ref) : Int := idxF (fun u => decide (u = v)) l
theorem idxU_mem {l : List Ref} {v : Ref} (h : v ∈ l) : ∃ i : Nat, idxU l v = (i : Int) ∧ l[i]? = some v := by
 unfold idxU idxF
 cases e : l.findIdx? (fun u => decide (u = v)) with
 | none => rw [List.findIdx?_eq_none_iff] at e; have := e v h; simp at this
 | some i =>
  rw [List.findIdx?_eq_some_iff_getElem] at e
  obtain ⟨hi, h1, _⟩ := e
  exact ⟨i, rfl, by rw [List.getElem?_eq_getElem hi]; simpa using h1⟩
theorem idxU_no {l : List Ref} {v : Ref} (h : v ∉ l) : idxU l v = -1 := idxF_none fun y hy => by simp; rintro rfl; exact h hy
def lastI (l pre : List Ref) (t : Int) : Int := match lastU pre t with
 | none => -1
 | some u => idxU l u
def lastsL (n : Nat) (l pre : List Ref) : List Int := (List.range n).map fun t : Nat => lastI l pre (t : Int)
theorem lastsL_len (n : Nat) (l pre : List Ref) : (lastsL n l pre).length = n := by simp [lastsL]
theorem lastsL_at {n : Nat} (l pre : List Ref) {t : Nat} (h : t < n) : (lastsL n l pre)[t]? = some (lastI l pre (t : Int)) := by simp [lastsL, h]
theorem lastsL_nil (n : Nat) (l : List Ref) : lastsL n l [] = List.replicate n (-1) := by
 unfold lastsL
 rw [List.eq_replicate_iff]
 simp [lastI, lastU_nil]
theorem lastsL_snoc (n : Nat) (l pre : List Ref) (v : Ref) {t : Nat} (ht : v.tr = (t : Int)) : lastsL n l (pre ++ [v]) = (lastsL n l pre).set t (idxU l v) := by
 apply List.ext_getElem?
 intro j
 rw [List.getElem?_set]
 by_cases hj : j < n
 ·rw [lastsL_at _ _ hj, lastsL_at _ _ hj, lastsL_len]
  unfold lastI
  rw [lastU_snoc, ht]
  by_cases e : t = j
  ·subst e; simp [hj]
  ·have : ¬ (t : Int) = (j : Int) := by omega
   simp [e, this]
 ·have h1 : (lastsL n l (pre ++ [v]))[j]? = none := List.getElem?_eq_none (by rw [lastsL_len]; omega)
  have h2 : (lastsL n l pre)[j]? = none := List.getElem?_eq_none (by rw [lastsL_len]; omega)
  rw [h1, h2, lastsL_len]
  by_cases e : t = j
  ·rw [if_pos e, if_neg (by omega)]
  ·rw [if_neg e]
def arcT (ps : List (List Stage)) (r : Int) (pre : List Ref) (v : Ref) (t : Nat) : List RArc := if (t : Int) = v.tr then [] else match lastU pre (t : Int) with
 | none => []
 | some u => [arc0 (relOf ps r u) v]
def arcsTo (ps : List (List Stage)) (r : Int) (pre : List Ref) (v : Ref) : Nat → List RArc
 | 0 => []
 | t + 1 => arcsTo ps r pre v t ++ arcT ps r pre v t
theorem arcT_len (ps : List (List Stage)) (r : Int) (pre : List Ref) (v : Ref) (t : Nat) : (arcT ps r pre v t).length ≤ 1 := by
 unfold arcT
 split
 ·simp
 ·split <;> simp
theorem arcsTo_len (ps : List (List Stage)) (r : Int) (pre : List Ref) (v : Ref) : ∀ t, (arcsTo ps r pre v t).length ≤ t
 | 0 => by simp [arcsTo]
 | t + 1 => by
  have := arcsTo_len ps r pre v t
  have := arcT_len ps r pre v t
  rw [arcsTo, List.length_append]
  omega
def okSeq (ps : List (List Stage)) (at_ : List Int) (D : List RArc) : List RArc → Bool
 | [] => true
 | a :: l => okD ps at_ (D ++ [a]) && okSeq ps at_ (D ++ [a]) l
theorem okSeq_app (ps : List (List Stage)) (at_ : List Int) : ∀ (xs ys D : List RArc), okSeq ps at_ D (xs ++ ys) = (okSeq ps at_ D xs && okSeq ps at_ (D ++ xs) ys)
 | [], ys, D => by simp [okSeq]
 | a :: xs, ys, D => by
  rw [List.cons_append, okSeq, okSeq, okSeq_app ps at_ xs ys, List.append_assoc, List.singleton_append, Bool.and_assoc]
theorem okSeq_to_le {ps : List (List Stage)} {at_ : List Int} {D : List RArc} {r : Int} {pre : List Ref} {v : Ref} {t : Nat} (h : okSeq ps at_ D (arcsTo ps r pre v t) = false) : ∀ k, okSeq ps at_ D (arcsTo ps r pre v (t + k)) = false
 | 0 => h
 | k + 1 => by rw [show t + (k + 1) = (t + k) + 1 from rfl, arcsTo, okSeq_app, okSeq_to_le h k, Bool.false_and]
def folBad (l pre : List Ref) (v : Ref) : Bool := decide (idxU l v < 0) || decide (idxU l v ≤ lastI l pre v.tr)
def folF (ps : List (List Stage)) (at_ : List Int) (r : Int) (l : List Ref) : List Ref → List Ref → List RArc → Option (List RArc)
 | _, [], D => some D
 | pre, v :: rest, D => if folBad l pre v = true then none else if okSeq ps at_ D (arcsTo ps r pre v ps.length) = true then folF ps at_ r l (pre ++ [v]) rest (D ++ arcsTo ps r pre v ps.length) else none
def folQ (ps : List (List Stage)) (at_ : List Int) (r : Int) (l o : List Ref) (D : List RArc) : Option (List RArc) := if o.length = l.length then folF ps at_ r l [] o D else none

def lsAt (pre : List (Int × Ref)) (r : Int) : List Ref := (pre.filter fun q => q.1 == r).map (·.2)
theorem lsAt_append (a b : List (Int × Ref)) (r : Int) : lsAt (a ++ b) r = lsAt a r ++ lsAt b r := by simp [lsAt]
def stAdds (t k : Nat) (s : Stage) : List (Int × Ref) := (stUses s).map fun r => (r, (⟨(t : Int), (k : Int)⟩ : Ref))
def pAdds (t : Nat) (p : List Stage) : List (Int × Ref) := p.zipIdx.flatMap fun q => stAdds t q.2 q.1
def aAdds (ps : List (List Stage)) : List (Int × Ref) := ps.zipIdx.flatMap fun q => pAdds q.2 q.1
theorem pAdds_succ (t : Nat) {p : List Stage} {k : Nat} {s : Stage} (h : p[k]? = some s) : pAdds t (p.take (k + 1)) = pAdds t (p.take k) ++ stAdds t k s := by
 unfold pAdds; rw [zipIdx_take_succ h]; simp
theorem aAdds_succ {ps : List (List Stage)} {t : Nat} {p : List Stage} (h : ps[t]? = some p) : aAdds (ps.take (t + 1)) = aAdds (ps.take t) ++ pAdds t p := by
 unfold aAdds; rw [zipIdx_take_succ h]; simp
theorem filter_eq_nodup {l : List Int} (h : l.Nodup) (r : Int) : l.filter (fun x => x == r) = if r ∈ l then [r] else [] := by
 induction l with
 | nil => simp
 | cons a l ih =>
  rw [List.nodup_cons] at h
  rw [List.filter_cons]
  by_cases e : a = r
  ·subst e
   rw [if_pos (by simp), ih h.2, if_neg h.1, if_pos (by simp)]
  ·rw [if_neg (by simpa using e), ih h.2]
   have : r ∈ a :: l ↔ r ∈ l := by
    rw [List.mem_cons]
    exact ⟨fun h => h.elim (fun h => absurd h.symm e) id, .inr⟩
   by_cases hm : r ∈ l
   ·rw [if_pos hm, if_pos (this.2 hm)]
   ·rw [if_neg hm, if_neg (fun h => hm (this.1 h))]
theorem lsAt_st {s : Stage} (h : (stUses s).Nodup) (t k : Nat) (r : Int) : lsAt (stAdds t k s) r = if r ∈ stUses s then [⟨(t : Int), (k : Int)⟩] else [] := by
 unfold lsAt stAdds
 rw [List.filter_map, List.map_map]
 have e : ((fun q : Int × Ref => q.1 == r) ∘ fun r' : Int => (r', (⟨(t : Int), (k : Int)⟩ : Ref))) = fun x : Int => x == r := by funext x; rfl
 rw [e, filter_eq_nodup h]
 split <;> simp
theorem lsAt_p (t : Nat) (r : Int) : ∀ (p : List Stage) (n : Nat), (∀ s ∈ p, (stUses s).Nodup) → n ≤ p.length → lsAt (pAdds t (p.take n)) r = pathAll r t (p.take n)
 | p, 0, _, _ => by simp [pAdds, pathAll, lsAt]
 | p, n + 1, h, hn => by
  have hs : p[n]? = some p[n] := List.getElem?_eq_getElem (by omega)
  rw [pAdds_succ t hs, lsAt_append, lsAt_p t r p n h (by omega), pathAll_succ r t hs, lsAt_st (h _ (List.getElem_mem _))]
theorem lsAt_a (r : Int) : ∀ (ps : List (List Stage)) (n : Nat), (∀ p ∈ ps, ∀ s ∈ p, (stUses s).Nodup) → n ≤ ps.length → lsAt (aAdds (ps.take n)) r = allU (ps.take n) r
 | ps, 0, _, _ => by simp [aAdds, allU, lsAt]
 | ps, n + 1, h, hn => by
  have hp : ps[n]? = some ps[n] := List.getElem?_eq_getElem (by omega)
  have h2 := lsAt_p n r ps[n] ps[n].length (h _ (List.getElem_mem _)) (Nat.le_refl _)
  rw [List.take_length] at h2
  rw [aAdds_succ hp, lsAt_append, lsAt_a r ps n h (by omega), allU_succ r hp, h2]
theorem lsAt_all {ps : List (List Stage)} (hv : valid ps = true) (r : Int) : lsAt (aAdds ps) r = allU ps r := by
 have := lsAt_a r ps ps.length (fun p hp s hs => stageOk_nodup (valid_stage hv hp hs)) (Nat.le_refl _)
 rwa [List.take_length] at this

structure Use where
 u : Ref
 en : Int
 rl : Int
 deriving DecidableEq, Inhabited
def useOf (ps : List (List Stage)) (r : Int) (u : Ref) : Use := ⟨u, (num ps u : Int), (num ps (relOf ps r u) : Int)⟩
def usOf (ps : List (List Stage)) (pre : List (Int × Ref)) : List (List Use) := (List.range 144).map fun r : Nat => (lsAt pre (r : Int)).map (useOf ps (r : Int))
theorem usOf_len (ps : List (List Stage)) (pre : List (Int × Ref)) : (usOf ps pre).length = 144 := by simp [usOf]
theorem usOf_at (ps : List (List Stage)) (pre : List (Int × Ref)) {n : Nat} (hn : n < 144) : (usOf ps pre)[n]? = some ((lsAt pre (n : Int)).map (useOf ps (n : Int))) := by simp [usOf, hn]
theorem usOf_nil (ps : List (List Stage)) : usOf ps [] = List.replicate 144 [] := by
 apply List.ext_getElem?
 intro i
 by_cases h : i < 144
 ·rw [usOf_at _ _ h, List.getElem?_replicate, if_pos h]; rfl
 ·rw [List.getElem?_eq_none (by rw [usOf_len]; omega), List.getElem?_eq_none (by simp; omega)]
theorem usOf_push (ps : List (List Stage)) (pre : List (Int × Ref)) {n : Nat} (hn : n < 144) (u : Ref) : usOf ps (pre ++ [((n : Int), u)]) = (usOf ps pre).set n ((lsAt pre (n : Int)).map (useOf ps (n : Int)) ++ [useOf ps (n : Int) u]) := by
 apply List.ext_getElem?
 intro i
 rw [List.getElem?_set]
 by_cases h : i < 144
 ·rw [usOf_at _ _ h, lsAt_append]
  by_cases e : n = i
  ·subst e
   rw [if_pos rfl, if_pos (by rw [usOf_len]; exact hn)]
   simp [lsAt]
  ·rw [if_neg e, usOf_at _ _ h]
   have : ((n : Int) == (i : Int)) = false := by simp; omega
   simp [lsAt, this]
 ·rw [List.getElem?_eq_none (by rw [usOf_len]; omega)]
  by_cases e : n = i
  ·omega
  ·rw [if_neg e, List.getElem?_eq_none (by rw [usOf_len]; omega)]
def opF (ps : List (List Stage)) (at_ : List Int) (q : Int × Ref) : Bool := !overB ps at_ q.2 q.1
theorem overB_done (ps : List (List Stage)) (at_ : List Int) (u : Ref) (r : Int) : overB ps at_ u r = doneR at_ (relOf ps r u) := by unfold overB doneR; rw [relOf_tr]
def opTo (ps : List (List Stage)) (at_ : List Int) (t : Nat) (p : List Stage) (k : Nat) : List (Int × Ref) := (aAdds (ps.take t) ++ pAdds t (p.take k)).filter (opF ps at_)
theorem opTo_zero (ps : List (List Stage)) (at_ : List Int) (p : List Stage) : opTo ps at_ 0 p 0 = [] := by simp [opTo, aAdds, pAdds]
theorem opTo_start (ps : List (List Stage)) (at_ : List Int) (t : Nat) (p q : List Stage) : opTo ps at_ t p 0 = opTo ps at_ t q 0 := by simp [opTo, pAdds]
theorem opTo_next {ps : List (List Stage)} {at_ : List Int} {t : Nat} {p : List Stage} (hp : ps[t]? = some p) (q : List Stage) : opTo ps at_ t p p.length = opTo ps at_ (t + 1) q 0 := by
 unfold opTo
 rw [List.take_length, aAdds_succ hp]
 simp [pAdds]
theorem opTo_stage {ps : List (List Stage)} {at_ : List Int} {t k : Nat} {p : List Stage} {s : Stage} (hs : p[k]? = some s) : opTo ps at_ t p (k + 1) = opTo ps at_ t p k ++ (stAdds t k s).filter (opF ps at_) := by
 unfold opTo
 rw [pAdds_succ t hs, ← List.append_assoc, List.filter_append]
theorem opTo_all {ps : List (List Stage)} {at_ : List Int} (hv : valid ps = true) (q : List Stage) (r : Int) : lsAt (opTo ps at_ ps.length q 0) r = openA ps at_ r := by
 unfold opTo openA openU
 rw [List.take_length]
 simp only [List.take_zero, pAdds, List.zipIdx_nil, List.flatMap_nil, List.append_nil]
 rw [← lsAt_all hv r]
 unfold lsAt
 rw [List.filter_filter, List.filter_map, List.filter_filter]
 congr 1
 refine List.filter_congr fun x _ => ?_
 by_cases e : (x.1 == r) = true
 ·have e' : x.1 = r := by simpa using e
  simp [opF, e']
 ·have e' : (x.1 == r) = false := by simpa using e
  simp [e']
def ptsTo (t k : Nat) (l : List Int) : List (Int × Ref) := l.map fun r => (r, (⟨(t : Int), (k : Int)⟩ : Ref))
theorem ptsTo_succ (t k : Nat) {l : List Int} {m : Nat} {x : Int} (h : l[m]? = some x) : ptsTo t k (l.take (m + 1)) = ptsTo t k (l.take m) ++ [(x, ⟨(t : Int), (k : Int)⟩)] := by
 unfold ptsTo; rw [List.take_add_one, h]; simp
theorem stAdds_pts (t k : Nat) (s : Stage) : stAdds t k s = (s.sec, (⟨(t : Int), (k : Int)⟩ : Ref)) :: ptsTo t k s.pts := rfl
def opPt (ps : List (List Stage)) (at_ : List Int) (t : Nat) (p : List Stage) (k : Nat) (s : Stage) (m : Nat) : List (Int × Ref) := opTo ps at_ t p k ++ ((s.sec, (⟨(t : Int), (k : Int)⟩ : Ref)) :: ptsTo t k (s.pts.take m)).filter (opF ps at_)
theorem opPt_zero {ps : List (List Stage)} {at_ : List Int} {t k : Nat} {p : List Stage} {s : Stage} (hp : ps[t]? = some p) (hs : p[k]? = some s) : opPt ps at_ t p k s 0 = opTo ps at_ t p k ++ (if doneR at_ ⟨(t : Int), (k : Int) + 1⟩ = true then [] else [(s.sec, (⟨(t : Int), (k : Int)⟩ : Ref))]) := by
 have e : secOf ps ⟨(t : Int), (k : Int)⟩ = s.sec := by unfold secOf; simp [hp, hs]
 have e2 : opF ps at_ (s.sec, (⟨(t : Int), (k : Int)⟩ : Ref)) = !doneR at_ ⟨(t : Int), (k : Int) + 1⟩ := by
  unfold opF
  simp only
  rw [overB_done]
  unfold relOf
  rw [if_pos e]
 unfold opPt ptsTo
 simp only [List.take_zero, List.map_nil, List.filter_cons, e2, List.filter_nil]
 cases doneR at_ ⟨(t : Int), (k : Int) + 1⟩ <;> simp
theorem opPt_succ {ps : List (List Stage)} {at_ : List Int} {t k m : Nat} {p : List Stage} {s : Stage} {x : Int} (hp : ps[t]? = some p) (hs : p[k]? = some s) (hx : s.pts[m]? = some x) (hne : x ≠ s.sec) : opPt ps at_ t p k s (m + 1) = opPt ps at_ t p k s m ++ (if doneR at_ ⟨(t : Int), (k : Int)⟩ = true then [] else [(x, (⟨(t : Int), (k : Int)⟩ : Ref))]) := by
 have e : secOf ps ⟨(t : Int), (k : Int)⟩ = s.sec := by unfold secOf; simp [hp, hs]
 have e2 : opF ps at_ (x, (⟨(t : Int), (k : Int)⟩ : Ref)) = !doneR at_ ⟨(t : Int), (k : Int)⟩ := by
  unfold opF
  simp only
  rw [overB_done]
  unfold relOf
  rw [if_neg (by rw [e]; exact fun h => hne h.symm)]
 unfold opPt
 rw [ptsTo_succ t k hx, ← List.cons_append, List.filter_append, ← List.append_assoc]
 congr 1
 rw [List.filter_cons, e2, List.filter_nil]
 cases doneR at_ ⟨(t : Int), (k : Int)⟩ <;> simp
theorem opPt_all {ps : List (List Stage)} {at_ : List Int} {t k : Nat} {p : List Stage} {s : Stage} (hs : p[k]? = some s) : opPt ps at_ t p k s s.pts.length = opTo ps at_ t p (k + 1) := by
 rw [opTo_stage hs, stAdds_pts]
 unfold opPt
 rw [List.take_length]
theorem useOf_sec {ps : List (List Stage)} {t k : Nat} {p : List Stage} {s : Stage} (hp : ps[t]? = some p) (hs : p[k]? = some s) : useOf ps s.sec ⟨(t : Int), (k : Int)⟩ = ⟨⟨(t : Int), (k : Int)⟩, ((fst ps t + k : Nat) : Int), ((fst ps t + k : Nat) : Int) + 1⟩ := by
 have e : secOf ps ⟨(t : Int), (k : Int)⟩ = s.sec := by unfold secOf; simp [hp, hs]
 unfold useOf relOf
 rw [if_pos e]
 unfold num
 simp only [Int.toNat_natCast]
 congr 1
theorem useOf_pt {ps : List (List Stage)} {t k : Nat} {p : List Stage} {s : Stage} (hp : ps[t]? = some p) (hs : p[k]? = some s) {x : Int} (hne : x ≠ s.sec) : useOf ps x ⟨(t : Int), (k : Int)⟩ = ⟨⟨(t : Int), (k : Int)⟩, ((fst ps t + k : Nat) : Int), ((fst ps t + k : Nat) : Int)⟩ := by
 have e : secOf ps ⟨(t : Int), (k : Int)⟩ = s.sec := by unfold secOf; simp [hp, hs]
 unfold useOf relOf
 rw [if_neg (by rw [e]; exact fun h => hne h.symm)]
 unfold num
 simp
theorem stAdds_le3 {s : Stage} (h : stageOk s = true) (t k : Nat) : (stAdds t k s).length ≤ 3 := by
 unfold stAdds stUses
 simp only [stageOk, Bool.and_eq_true, decide_eq_true_eq] at h
 simp
 omega
theorem pAdds_le3 (t : Nat) : ∀ (p : List Stage) (n : Nat), (∀ s ∈ p, stageOk s = true) → n ≤ p.length → (pAdds t (p.take n)).length ≤ 3 * n
 | p, 0, _, _ => by simp [pAdds]
 | p, n + 1, h, hn => by
  have hs : p[n]? = some p[n] := List.getElem?_eq_getElem (by omega)
  rw [pAdds_succ t hs, List.length_append]
  have h1 := pAdds_le3 t p n h (by omega)
  have h2 := stAdds_le3 (h _ (List.getElem_mem (by omega : n < p.length))) t n
  omega
theorem aAdds_le3 : ∀ (ps : List (List Stage)) (n : Nat), (∀ p ∈ ps, p.length ≤ 64 ∧ ∀ s ∈ p, stageOk s = true) → n ≤ ps.length → (aAdds (ps.take n)).length ≤ 192 * n
 | ps, 0, _, _ => by simp [aAdds]
 | ps, n + 1, h, hn => by
  have hp : ps[n]? = some ps[n] := List.getElem?_eq_getElem (by omega)
  obtain ⟨h3, h4⟩ := h _ (List.getElem_mem (by omega : n < ps.length))
  have h2 := pAdds_le3 n ps[n] ps[n].length h4 (Nat.le_refl _)
  rw [List.take_length] at h2
  rw [aAdds_succ hp, List.length_append]
  have h1 := aAdds_le3 ps n h (by omega)
  omega
theorem opTo_le {ps : List (List Stage)} {at_ : List Int} (hv : valid ps = true) {t k : Nat} {p : List Stage} (hp : ps[t]? = some p) (hk : k ≤ p.length) : (opTo ps at_ t p k).length ≤ 3000 := by
 have h1 := aAdds_le3 ps t (fun p hp => ⟨((valid_lens hv).2 p hp).2, fun s hs => valid_stage hv hp hs⟩) (Nat.le_of_lt (getElem?_lt hp))
 have h2 := pAdds_le3 t p k (fun s hs => valid_stage hv (List.mem_of_getElem? hp) hs) hk
 have h3 := (valid_lens hv).1
 have h4 := ((valid_lens hv).2 p (List.mem_of_getElem? hp)).2
 have h5 := getElem?_lt hp
 refine Nat.le_trans (List.length_filter_le _ _) ?_
 rw [List.length_append]
 omega
theorem opPt_le {ps : List (List Stage)} {at_ : List Int} (hv : valid ps = true) {t k m : Nat} {p : List Stage} {s : Stage} (hp : ps[t]? = some p) (hs : p[k]? = some s) : (opPt ps at_ t p k s m).length ≤ 3010 := by
 have h1 := opTo_le (at_ := at_) hv hp (k := k) (Nat.le_of_lt (getElem?_lt hs))
 have h2 := stAdds_le3 (valid_stage hv (List.mem_of_getElem? hp) (List.mem_of_getElem? hs)) t k
 rw [stAdds_pts] at h2
 unfold opPt
 rw [List.length_append]
 have h3 := List.length_filter_le (opF ps at_) ((s.sec, (⟨(t : Int), (k : Int)⟩ : Ref)) :: ptsTo t k (s.pts.take m))
 have h4 : (ptsTo t k (s.pts.take m)).length ≤ (ptsTo t k s.pts).length := by unfold ptsTo; simp; omega
 simp only [List.length_cons] at h2 h3
 omega
theorem lsAt_len (pre : List (Int × Ref)) (r : Int) : (lsAt pre r).length ≤ pre.length := by unfold lsAt; rw [List.length_map]; exact List.length_filter_le _ _

end Go.Proofs.Ytilbbpbjhoidhaa
