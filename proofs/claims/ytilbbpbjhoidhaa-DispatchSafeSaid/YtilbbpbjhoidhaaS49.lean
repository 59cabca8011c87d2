/- The state of chapter 36 in memory: contracts of hold, set, hasLeft, obstacle, canMove. Conditions: as each theorem says. Contracts of set, hasLeft, obstacle, canMove of chapter 36's state. Conditions: as each theorem says. Contract of takeover.Orders where the planned orders have a line. Conditions: as the theorem says. Contract of newState of chapter 36. Conditions: as the theorem says. The orders of a takeover, the program's and the reference's, are equal: the plain law. No program in sight. Chapter 37, plain: consistent choices and runs of all trains. No program in sight. -/
import Derived.Test.YtilbbpbjhoidhaaS48
import Derived.Test.YtilbbpbjhoidhaaS07
import Derived.Test.YtilbbpbjhoidhaaS25
import Derived.Test.YtilbbpbjhoidhaaS15
import Derived.Test.YtilbbpbjhoidhaaS16
namespace Go.Proofs.Ytilbbpbjhoidhaa
open Go.RowKit

def hdC (hd : Nat → Int) : Array Value := ((List.range 144).map fun r => Value.int .i64 (hd r)).toArray
def updH (hd : Nat → Int) (r : Nat) (x : Int) : Nat → Int := fun s => if s = r then x else hd s

section
variable {w0 w w' : World} {g : Nat} {A : Option Addr} {c : Nat} {ps : List (List Stage)} {now : List Int} {hd : Nat → Int}

end
def holdF (ps : List (List Stage)) (now : List Int) (t : Nat) (x : Int) (hd : Nat → Int) : Nat → Int := if 0 ≤ secNow ps now t then updH hd (secNow ps now t).toNat x else hd

/-- who holds which section -/
def HdOk (ps : List (List Stage)) (now : List Int) (hd : Nat → Int) : Prop := ∀ r : Nat, r < 144 → (∀ u, u < ps.length → secNow ps now u = (r : Int) → hd r = (u : Int)) ∧ ((∀ u, u < ps.length → secNow ps now u ≠ (r : Int)) → hd r = -1)
theorem secNow_set {ps : List (List Stage)} {now : List Int} {t u : Nat} {x : Int} (ht : t < now.length) : secNow ps (now.set t x) u = if t = u then secAt ((ps[u]?).getD []) x else secNow ps now u := by
 unfold secNow
 rw [nowAt_set ht]
 by_cases e : t = u
 ·rw [if_pos e, if_pos e]
 ·rw [if_neg e, if_neg e]
/-- what hold, a change of the position and hold again leave -/
theorem HdOk.set {ps : List (List Stage)} {now : List Int} {hd : Nat → Int} {t : Nat} {x : Int} (h : HdOk ps now hd) (ht : t < ps.length) (hl : now.length = ps.length) (hfree : ∀ u, u < ps.length → u ≠ t → 0 ≤ secNow ps (now.set t x) t → secNow ps now u ≠ secNow ps (now.set t x) t) :
  HdOk ps (now.set t x) (holdF ps (now.set t x) t (t : Int) (holdF ps now t (-1) hd)) := by
 have htl : t < now.length := by omega
 intro r hr
 obtain ⟨h1, h2⟩ := h r hr
 have hother : ∀ u, u ≠ t → secNow ps (now.set t x) u = secNow ps now u := fun u hu => by rw [secNow_set htl, if_neg (fun e => hu e.symm)]
 generalize hs' : secNow ps (now.set t x) t = s' at *
 have e1 : ∀ r : Nat, r < 144 → holdF ps now t (-1) hd r = if secNow ps now t = (r : Int) then -1 else hd r := by
  intro r hr
  unfold holdF
  by_cases g : 0 ≤ secNow ps now t
  ·rw [if_pos g]
   unfold updH
   by_cases g2 : secNow ps now t = (r : Int)
   ·rw [if_pos (by omega), if_pos g2]
   ·rw [if_neg (by omega), if_neg g2]
  ·rw [if_neg g, if_neg (by omega)]
 generalize holdF ps now t (-1) hd = hf at e1 ⊢
 have e2 : holdF ps (now.set t x) t (t : Int) hf r = if s' = (r : Int) then (t : Int) else if secNow ps now t = (r : Int) then -1 else hd r := by
  rw [← e1 r hr]
  unfold holdF
  rw [hs']
  by_cases g : 0 ≤ s'
  ·rw [if_pos g]
   unfold updH
   by_cases g2 : s' = (r : Int)
   ·rw [if_pos (by omega), if_pos g2]
   ·rw [if_neg (by omega), if_neg g2]
  ·rw [if_neg g, if_neg (by omega)]
 rw [e2]
 refine ⟨fun u hu hsu => ?_, fun hno => ?_⟩
 ·by_cases e : u = t
  ·subst e; rw [hs'] at hsu; rw [if_pos hsu]
  ·rw [hother u e] at hsu
   rw [if_neg (fun e' => hfree u hu e (by omega) (by rw [hsu, e']))]
   have hut := h1 u hu hsu
   by_cases g : secNow ps now t = (r : Int)
   ·have := h1 t ht g
    omega
   ·rw [if_neg g]; exact hut
 ·have hnt := hno t ht
  rw [hs'] at hnt
  rw [if_neg hnt]
  by_cases g : secNow ps now t = (r : Int)
  ·rw [if_pos g]
  ·rw [if_neg g]
   refine h2 fun u hu => ?_
   by_cases e : u = t
   ·subst e; exact g
   ·have := hno u hu; rw [hother u e] at this; exact this

section
variable (w0 w : World) (g : Nat) (A : Option Addr) (c : Nat) (ps : List (List Stage)) (now : List Int) (hd : Nat → Int) (t : Nat)

end

theorem checkState_zero {ps : List (List Stage)} {at_ : List Int} (h : checkState ps at_ = 0) : valid ps = true ∧ good ps at_ = true ∧ (heldOf ps at_).Nodup := by
 unfold checkState at h
 by_cases g : (valid ps && good ps at_) = false
 ·rw [if_pos g] at h; omega
 ·rw [if_neg g] at h
  have g' : (valid ps && good ps at_) = true := by simpa using g
  rw [Bool.and_eq_true] at g'
  by_cases g2 : (heldOf ps at_).Nodup
  ·exact ⟨g'.1, g'.2, g2⟩
  ·rw [if_neg g2] at h; omega

theorem heldOf_excl : ∀ (ps : List (List Stage)) (l : List Int), (∀ p ∈ ps, ∀ s ∈ p, 0 ≤ s.sec) → (heldOf ps l).Nodup →
  ∀ (t u : Nat) p q a b, t < u → ps[t]? = some p → ps[u]? = some q → l[t]? = some a → l[u]? = some b → 0 ≤ secAt p a → secAt p a ≠ secAt q b
 | [], _, _, _, t, u, p, q, a, b, _, hp, _, _, _, _ => by simp at hp
 | _ :: _, [], _, _, t, u, p, q, a, b, _, _, _, ha, _, _ => by simp at ha
 | p0 :: ps, a0 :: l, hs, hn, t, u, p, q, a, b, htu, hp, hq, ha, hb, h0 => by
  obtain ⟨u, rfl⟩ : ∃ v, u = v + 1 := ⟨u - 1, by omega⟩
  simp only [List.getElem?_cons_succ] at hq hb
  simp only [heldOf] at hn
  cases t with
  | zero =>
   simp at hp ha
   subst hp ha
   have hng := secAt_neg (hs p0 (by simp)) a0
   rcases hng with ⟨_, h2⟩ | ⟨h1, _⟩
   ·omega
   ·rw [if_neg h1] at hn
    intro he
    have hm : secAt q b ∈ heldOf ps l := (mem_heldOf (fun r hr => hs r (by simp [hr])) l _).2 ⟨List.mem_of_getElem? (secList_at hq hb), by omega⟩
    exact (List.nodup_append.1 hn).2.2 _ (by simp) _ hm he
  | succ t =>
   simp only [List.getElem?_cons_succ] at hp ha
   exact heldOf_excl ps l (fun r hr => hs r (by simp [hr])) (List.nodup_append.1 hn).2.1 t u p q a b (by omega) hp hq ha hb h0
/-- no two trains hold the same section -/
theorem state_excl {ps : List (List Stage)} {now : List Int} (hcs : checkState ps now = 0) {t u : Nat} (ht : t < ps.length) (hu : u < ps.length) (hne : t ≠ u) (h0 : 0 ≤ secNow ps now t) : secNow ps now t ≠ secNow ps now u := by
 obtain ⟨hv, hgd, hnd⟩ := checkState_zero hcs
 have hg := good_Gd.1 hgd
 have hp : ps[t]? = some ps[t] := List.getElem?_eq_getElem ht
 have hq : ps[u]? = some ps[u] := List.getElem?_eq_getElem hu
 have ha : now[t]? = some (now[t]'(by rw [hg.1]; exact ht)) := List.getElem?_eq_getElem _
 have hb : now[u]? = some (now[u]'(by rw [hg.1]; exact hu)) := List.getElem?_eq_getElem _
 unfold secNow at h0 ⊢
 rw [hp, nowAt_of ha] at h0 ⊢
 rw [hq, nowAt_of hb]
 simp only [Option.getD_some] at h0 ⊢
 intro he
 rcases Nat.lt_or_gt_of_ne hne with h | h
 ·exact heldOf_excl ps now (valid_secs hv) hnd t u _ _ _ _ h hp hq ha hb h0 he
 ·exact heldOf_excl ps now (valid_secs hv) hnd u t _ _ _ _ h hq hp hb ha (by rw [← he]; exact h0) he.symm
theorem nowAt_take (l : List Int) (m u : Nat) : nowAt (l.take m) u = if u < m then nowAt l u else 0 := by
 unfold nowAt
 rw [List.getElem?_take]
 by_cases h : u < m
 ·rw [if_pos h, if_pos h]
 ·rw [if_neg h, if_neg h]; rfl
def HdTo (ps : List (List Stage)) (now : List Int) (k : Nat) (hd : Nat → Int) : Prop := ∀ r : Nat, r < 144 → (∀ u, u < k → secNow ps now u = (r : Int) → hd r = (u : Int)) ∧ ((∀ u, u < k → secNow ps now u ≠ (r : Int)) → hd r = -1)
theorem HdTo.step {ps : List (List Stage)} {now : List Int} {k : Nat} {hd : Nat → Int} (h : HdTo ps now k hd) (hcs : checkState ps now = 0) (hk : k < ps.length) : HdTo ps now (k + 1) (holdF ps (now.take (k + 1)) k (k : Int) hd) := by
 have e : secNow ps (now.take (k + 1)) k = secNow ps now k := by unfold secNow; rw [nowAt_take, if_pos (by omega)]
 intro r hr
 obtain ⟨h1, h2⟩ := h r hr
 have e2 : holdF ps (now.take (k + 1)) k (k : Int) hd r = if secNow ps now k = (r : Int) then (k : Int) else hd r := by
  unfold holdF
  rw [e]
  by_cases g : 0 ≤ secNow ps now k
  ·rw [if_pos g]
   unfold updH
   by_cases g2 : secNow ps now k = (r : Int)
   ·rw [if_pos (by omega), if_pos g2]
   ·rw [if_neg (by omega), if_neg g2]
  ·rw [if_neg g, if_neg (by omega)]
 rw [e2]
 refine ⟨fun u hu hs => ?_, fun hno => ?_⟩
 ·by_cases g : u = k
  ·subst g; rw [if_pos hs]
  ·rw [if_neg (fun g2 => state_excl hcs hk (by omega : u < ps.length) (fun e => g e.symm) (by omega) (by rw [g2, hs]))]
   exact h1 u (by omega) hs
 ·rw [if_neg (hno k (by omega))]
  exact h2 fun u hu => hno u (by omega)

section
variable {ps : List (List Stage)} {at_ mv : List Int}
theorem run_take_succ {k : Nat} {x : Int} (h : mv[k]? = some x) : runM at_ (mv.take (k + 1)) = stepN (runM at_ (mv.take k)) x.toNat := by
 rw [List.take_add_one, h, Option.toList_some, runM_snoc]
theorem nowAt_step {now : List Int} {t u : Nat} (ht : t < now.length) : nowAt (stepN now t) u = if t = u then nowAt now t + 1 else nowAt now u := by unfold stepN; rw [nowAt_set ht]
theorem run_mono (hg : Gd ps at_) (hl : Legal ps at_ mv) {i : Nat} (u : Nat) : ∀ j, i ≤ j → j ≤ mv.length → nowAt (runM at_ (mv.take i)) u ≤ nowAt (runM at_ (mv.take j)) u
  | 0, h, _ => by obtain rfl : i = 0 := by omega
                  exact Int.le_refl _
  | j + 1, h, hj => by
    by_cases e : i = j + 1
    · subst e; exact Int.le_refl _
    · have ih := run_mono hg hl (i := i) u j (by omega) (by omega)
      have hx : mv[j]? = some mv[j] := List.getElem?_eq_getElem (by omega)
      obtain ⟨g1, t, ht, htl, _⟩ := legal_at mv at_ hg hl j _ hx
      rw [run_take_succ hx, ht, Int.toNat_natCast, nowAt_step (by rw [g1.1]; exact htl)]
      split <;> rename_i e
      · subst e; omega
      · exact ih

theorem leftB_at {now : List Int} (hg : Gd ps now) (h : leftB ps now = true) {t : Nat} (ht : t < ps.length) : nowAt now t = lenAt ps t := by
 unfold leftB at h
 have := (List.all_eq_true.1 h) t (List.mem_range.2 ht)
 simp at this
 have := hg.2 t ht
 omega
end

section
variable {ps : List (List Stage)} {os : List Order} {at_ mv : List Int}
end

/-- trains in no common section: the state is right -/
theorem state_of_excl {ps : List (List Stage)} {now : List Int} (hv : valid ps = true) (hg : Gd ps now) (h : ∀ (t u : Nat), t < ps.length → u < ps.length → t ≠ u → 0 ≤ secNow ps now t → secNow ps now t ≠ secNow ps now u) : checkState ps now = 0 := by
 unfold checkState
 rw [if_neg (by simp [hv, good_Gd.2 hg]), if_pos]
 refine heldOf_nodup ps now (fun p hp s hs => ?_) hg.1 (fun t u p q a b htu hp hq ha hb h0 he => ?_)
 ·have := valid_stage hv hp hs
  simp only [stageOk, Bool.and_eq_true, isRes, decide_eq_true_eq] at this
  omega
 ·have e1 : secNow ps now t = secAt p a := by unfold secNow; rw [hp, nowAt_of ha]; rfl
  have e2 : secNow ps now u = secAt q b := by unfold secNow; rw [hq, nowAt_of hb]; rfl
  exact h t u (getElem?_lt hp) (getElem?_lt hq) (by omega) (by rw [e1]; exact h0) (by rw [e1, e2]; exact he)
theorem secNow_step {ps : List (List Stage)} {now : List Int} {t : Nat} (ht : t < now.length) (u : Nat) : secNow ps (stepN now t) u = if t = u then secAt ((ps[u]?).getD []) (nowAt now t + 1) else secNow ps now u := by
 unfold secNow
 rw [nowAt_step ht]
 split <;> rfl
/-- a move into a free section -/
theorem state_step {ps : List (List Stage)} {now : List Int} {t : Nat} (hcs : checkState ps now = 0) (ht : t < ps.length) (hc : canMv ps now t = true) : checkState ps (stepN now t) = 0 := by
 obtain ⟨hv, hgd, _⟩ := checkState_zero hcs
 have hg := good_Gd.1 hgd
 have htl : t < now.length := by rw [hg.1]; exact ht
 have hlt := canMv_lt hc
 have key : ∀ u, u < ps.length → u ≠ t → 0 ≤ secAt ((ps[t]?).getD []) (nowAt now t + 1) → secAt ((ps[t]?).getD []) (nowAt now t + 1) ≠ secNow ps now u := fun u hu hne h0 he => by
  obtain ⟨k, s, h1, h2, h3⟩ := secAt_some h0
  unfold canMv blockedB at hc
  rw [h1, Int.toNat_natCast, h2] at hc
  simp only [Bool.and_eq_true, Bool.not_eq_true', List.any_eq_false, List.mem_range] at hc
  have := hc.2 u hu
  rw [h3] at he
  simp [hne, he] at this
 refine state_of_excl hv (hg.step ht hlt) fun a b ha hb hne h0 => ?_
 rw [secNow_step htl] at h0 ⊢
 rw [secNow_step htl]
 by_cases e1 : t = a
 ·subst e1
  rw [if_pos rfl] at h0 ⊢
  rw [if_neg hne]
  exact key b hb (fun e => hne e.symm) h0
 ·rw [if_neg e1] at h0 ⊢
  by_cases e2 : t = b
  ·subst e2
   rw [if_pos rfl]
   intro he
   exact key a ha hne (by rw [← he]; exact h0) he.symm
  ·rw [if_neg e2]
   exact state_excl hcs ha hb hne h0
theorem run_state {ps : List (List Stage)} : ∀ (q now : List Int), checkState ps now = 0 → Legal ps now q → ∀ k, checkState ps (runM now (q.take k)) = 0
 | [], now, h, _, k => by simpa [runM] using h
 | x :: q, now, h, hl, k => by
  obtain ⟨t, rfl, ht, hc, hr⟩ := hl
  cases k with
  | zero => simpa [runM] using h
  | succ k =>
   have e : runM now (((t : Int) :: q).take (k + 1)) = runM (stepN now t) (q.take k) := by simp [runM]
   rw [e]
   exact run_state q _ (state_step h ht hc) hr k

/-- positions that agree with arcs -/
def AgD (D : List RArc) (now : List Int) : Prop := ∀ a ∈ D, doneR now a.to = true → doneR now a.frm = true
section
variable {ps : List (List Stage)} {at_ : List Int} {D : List RArc}
/-- all pairs of open uses are decided -/
def AllD (ps : List (List Stage)) (at_ : List Int) (D : List RArc) : Prop := ∀ r : Nat, r < 144 → ∀ u ∈ openA ps at_ (r : Int), ∀ v ∈ openA ps at_ (r : Int), u.tr ≠ v.tr → arc0 (relOf ps (r : Int) u) v ∈ D ∨ arc0 (relOf ps (r : Int) v) u ∈ D
/-- the use of a section by the train in it -/
theorem sec_use (hv : valid ps = true) {t k : Nat} {p : List Stage} {s : Stage} (hp : ps[t]? = some p) (hs : p[k]? = some s) : ∃ r : Nat, r < 144 ∧ s.sec = (r : Int) ∧ (⟨(t : Int), (k : Int)⟩ : Ref) ∈ allU ps (r : Int) ∧ relOf ps (r : Int) ⟨(t : Int), (k : Int)⟩ = ⟨(t : Int), (k : Int) + 1⟩ := by
 have hu1 : s.sec ∈ usesAll ps := mem_usesAll.2 ⟨t, k, p, s, hp, hs, by simp [stUses]⟩
 have hb := valid_use hv hu1
 obtain ⟨r, hr⟩ := Int.eq_ofNat_of_zero_le hb.1
 refine ⟨r, by omega, hr, mem_allU.2 ⟨t, k, p, s, hp, hs, by rw [← hr]; simp [stUses], rfl⟩, ?_⟩
 unfold relOf secOf
 simp only [Int.toNat_natCast, hp, Option.getD_some, hs, Option.elim_some]
 rw [if_pos hr]
theorem agD_excl (hv : valid ps = true) (hall : AllD ps at_ D) {now : List Int} (hm : ∀ t, nowAt at_ t ≤ nowAt now t) (h : AgD D now) {t u : Nat} (ht : t < ps.length) (hu : u < ps.length) (hne : t ≠ u) (h0 : 0 ≤ secNow ps now t) : secNow ps now t ≠ secNow ps now u := by
 intro he
 have hp : ps[t]? = some ps[t] := List.getElem?_eq_getElem ht
 have hq : ps[u]? = some ps[u] := List.getElem?_eq_getElem hu
 have h0' := h0
 rw [he] at h0'
 unfold secNow at h0 h0' he
 rw [hp] at h0 he
 rw [hq] at h0' he
 simp only [Option.getD_some] at h0 h0' he
 obtain ⟨k, s, a1, a2, a3⟩ := secAt_some h0
 obtain ⟨m, s', b1, b2, b3⟩ := secAt_some h0'
 obtain ⟨r, hr, hsr, hau, harel⟩ := sec_use hv hp a2
 obtain ⟨r', hr', hsr', hbu, hbrel⟩ := sec_use hv hq b2
 have e : r' = r := by
  have : s.sec = s'.sec := by rw [← a3, ← b3]; exact he
  omega
 subst e
 have ho1 : (⟨(t : Int), (k : Int)⟩ : Ref) ∈ openA ps at_ (r' : Int) := List.mem_filter.2 ⟨hau, by
  have := hm t
  unfold overB
  rw [harel]
  simp
  omega⟩
 have ho2 : (⟨(u : Int), (m : Int)⟩ : Ref) ∈ openA ps at_ (r' : Int) := List.mem_filter.2 ⟨hbu, by
  have := hm u
  unfold overB
  rw [hbrel]
  simp
  omega⟩
 rcases hall r' hr' _ ho1 _ ho2 (by simp; omega) with h1 | h1
 ·rw [harel] at h1
  have := h _ h1 (by unfold doneR arc0; simp; omega)
  unfold doneR arc0 at this
  simp at this
  omega
 ·rw [hbrel] at h1
  have := h _ h1 (by unfold doneR arc0; simp; omega)
  unfold doneR arc0 at this
  simp at this
  omega
theorem agD_state (hv : valid ps = true) (hall : AllD ps at_ D) {now : List Int} (hg : Gd ps now) (hm : ∀ t, nowAt at_ t ≤ nowAt now t) (h : AgD D now) : checkState ps now = 0 :=
 state_of_excl hv hg fun _ _ ht hu hne h0 => agD_excl hv hall hm h ht hu hne h0
theorem agD_step {now : List Int} {t : Nat} (hg : Gd ps now) (ht : t < ps.length) (h : AgD D now) (hD : ∀ a ∈ D, InR ps a.to) (hr : rdyR (arcsD ps D) now ⟨(t : Int), nowAt now t + 1⟩ = true) : AgD D (now.set t (nowAt now t + 1)) := by
 have htl : t < now.length := by rw [hg.1]; exact ht
 intro a ha hd
 have hmono : doneR now a.frm = true → doneR (now.set t (nowAt now t + 1)) a.frm = true := fun h1 => by
  unfold doneR at h1 ⊢
  rw [nowAt_set htl]
  simp only [decide_eq_true_eq] at h1 ⊢
  split
  ·rename_i e; rw [← e] at h1; omega
  ·exact h1
 by_cases hd0 : doneR now a.to = true
 ·exact hmono (h a ha hd0)
 ·have e : a.to = ⟨(t : Int), nowAt now t + 1⟩ := by
   obtain ⟨t', k', p', _, _, e3⟩ := hD a ha
   rw [e3] at hd hd0 ⊢
   unfold doneR at hd hd0
   rw [nowAt_set htl] at hd
   simp only [Int.toNat_natCast, decide_eq_true_eq] at hd hd0
   by_cases e4 : t = t'
   ·subst e4
    rw [if_pos rfl] at hd
    have : (k' : Int) = nowAt now t + 1 := by omega
    rw [this]
   ·rw [if_neg e4] at hd; exact absurd hd hd0
  unfold rdyR at hr
  rw [List.all_eq_true] at hr
  have := hr a (List.mem_append_right _ ha)
  rw [e] at this
  simp at this
  exact hmono this
theorem agD_canMv (hv : valid ps = true) (hall : AllD ps at_ D) (hD : ∀ a ∈ D, InR ps a.to) {now : List Int} {t : Nat} (hg : Gd ps now) (hm : ∀ t, nowAt at_ t ≤ nowAt now t) (h : AgD D now) (ht : t < ps.length) (hc : goC ps (arcsD ps D) now t = true) : canMv ps now t = true := by
 unfold goC at hc
 rw [Bool.and_eq_true, decide_eq_true_eq] at hc
 have htl : t < now.length := by rw [hg.1]; exact ht
 have hn := agD_step hg ht h hD hc.2
 have hm2 : ∀ u, nowAt at_ u ≤ nowAt (now.set t (nowAt now t + 1)) u := fun u => by
  rw [nowAt_set htl]
  have := hm u
  split
  ·rename_i e; subst e; omega
  ·exact this
 simp only [canMv, Bool.and_eq_true, decide_eq_true_eq, Bool.not_eq_true']
 refine ⟨hc.1, ?_⟩
 unfold blockedB
 cases e : ((ps[t]?).getD [])[(nowAt now t + 1).toNat]? with
 | none => rfl
 | some s =>
  simp only [List.any_eq_false, List.mem_range, Bool.and_eq_true, decide_eq_true_eq, not_and]
  intro u hu hut hsec
  have hG := hg.2 t ht
  have e1 : secNow ps (stepN now t) t = s.sec := by
   rw [secNow_step htl, if_pos rfl]
   unfold secAt
   rw [if_neg (by omega), e]
  have e2 : secNow ps (stepN now t) u = s.sec := by
   rw [secNow_step htl, if_neg (fun e => hut e.symm), hsec]
  have hp : ps[t]? = some ps[t] := List.getElem?_eq_getElem ht
  rw [hp] at e
  have h0 : 0 ≤ s.sec := by
   have := valid_stage hv (List.mem_of_getElem? hp) (List.mem_of_getElem? e)
   simp only [stageOk, Bool.and_eq_true, isRes, decide_eq_true_eq] at this
   omega
  exact agD_excl hv hall hm2 hn ht hu (fun e => hut e.symm) (by show 0 ≤ secNow ps (stepN now t) t; rw [e1]; exact h0) (by show secNow ps (stepN now t) t = secNow ps (stepN now t) u; rw [e1, e2])
/-- a list of events that the trains can follow until all have left -/
def LnOk (ps : List (List Stage)) : List Int → List Ref → Prop
 | now, [] => Gd ps now ∧ leftB ps now = true
 | now, u :: r => Gd ps now ∧ checkState ps now = 0 ∧ ∃ t : Nat, u.tr = (t : Int) ∧ t < ps.length ∧ canMv ps now t = true ∧ LnOk ps (stepN now t) r
theorem left_zero {now : List Int} (hg : Gd ps now) (h : total ps now = 0) : leftB ps now = true := by
 unfold leftB
 rw [List.all_eq_true]
 intro t ht
 have := (total_zero hg).1 h t (List.mem_range.1 ht)
 simp; omega
theorem lf_ok (hv : valid ps = true) (hall : AllD ps at_ D) (hD : ∀ a ∈ D, InR ps a.to) : ∀ (f : Nat) (now : List Int), Gd ps now → (∀ t, nowAt at_ t ≤ nowAt now t) → AgD D now → total ps (lineFrom (goR ps (arcsD ps D)) f now).2 = 0 → LnOk ps now (lineFrom (goR ps (arcsD ps D)) f now).1
 | 0, now, hg, _, _, h => ⟨hg, left_zero hg h⟩
 | f + 1, now, hg, hm, ha, h => by
  simp only [lineFrom] at h ⊢
  cases e : goR ps (arcsD ps D) now with
  | none => rw [e] at h; exact ⟨hg, left_zero hg h⟩
  | some t =>
   rw [e] at h
   obtain ⟨h1, h2⟩ := goR_sound ps (arcsD ps D) now t e
   have hc : goC ps (arcsD ps D) now t = true := by unfold goR at e; exact List.find?_some e
   have hrd : rdyR (arcsD ps D) now ⟨(t : Int), nowAt now t + 1⟩ = true := by
    have := hc
    unfold goC at this
    rw [Bool.and_eq_true] at this
    exact this.2
   have htl : t < now.length := by rw [hg.1]; exact h1
   refine ⟨hg, agD_state hv hall hg hm ha, t, rfl, h1, agD_canMv hv hall hD hg hm ha h1 hc, ?_⟩
   refine lf_ok hv hall hD f _ (hg.step h1 h2) (fun u => ?_) (agD_step hg h1 ha hD hrd) h
   rw [nowAt_step htl]
   have := hm u
   split
   ·rename_i e2; subst e2; omega
   ·exact this
/-- the line of consistent arcs can be followed -/
theorem line_ok (hv : valid ps = true) (hg : Gd ps at_) (hall : AllD ps at_ D) (hD : ∀ a ∈ D, InR ps a.to) (hk : okD ps at_ D = true) : LnOk ps at_ (lineR ps (arcsD ps D) at_).1 := by
 unfold okD lineR at hk
 unfold lineR
 by_cases hb : (arcsD ps D).any (badArc at_) = true
 ·rw [if_pos hb] at hk; cases hk
 ·rw [if_neg hb] at hk ⊢
  by_cases ht : total ps (lineFrom (goR ps (arcsD ps D)) (total ps at_) at_).2 = 0
  ·rw [if_pos ht]
   refine lf_ok hv hall hD _ at_ hg (fun _ => Int.le_refl _) (fun a ha hd => ?_) ht
   have hb' : (arcsD ps D).any (badArc at_) = false := by simpa using hb
   have := List.any_eq_false.1 hb' a (List.mem_append_right _ ha)
   unfold badArc at this
   rw [hd] at this
   simpa using this
  ·rw [if_neg ht] at hk; cases hk
theorem LnOk.legal : ∀ (L : List Ref) (now : List Int), LnOk ps now L → ∃ q, Legal ps now q ∧ leftB ps (runM now q) = true
 | [], now, h => ⟨[], trivial, h.2⟩
 | u :: L, now, h => by
  obtain ⟨_, _, t, _, ht, hc, hr⟩ := h
  obtain ⟨q, h1, h2⟩ := LnOk.legal L _ hr
  exact ⟨(t : Int) :: q, ⟨t, rfl, ht, hc, h1⟩, by simpa [runM] using h2⟩
end

end Go.Proofs.Ytilbbpbjhoidhaa
