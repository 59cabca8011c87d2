/- The earliest seconds of chapter 35 as plain functions: the program's and the reference's are the same. No program in sight. One element before another in a list, as a sublist of two. No program in sight. Arcs of decided pairs: when they have an order of all events, and what one more arc changes. No program in sight. -/
import Derived.Test.YtilbbpbjhoidhaaE08
namespace Go.Proofs.Ytilbbpbjhoidhaa
open Go.RowKit

def mxo {α : Type} (f : α → Option Int) (s : Int) (l : List α) : Int := l.foldl (fun s a => (f a).elim s (max s)) s
theorem mxo_le {α : Type} (f : α → Option Int) (x : Int) : ∀ (l : List α) (s : Int), mxo f s l ≤ x ↔ s ≤ x ∧ ∀ a ∈ l, ∀ y, f a = some y → y ≤ x
 | [], s => by simp [mxo]
 | a :: l, s => by
  have ih := mxo_le f x l ((f a).elim s (max s))
  have e : mxo f s (a :: l) = mxo f ((f a).elim s (max s)) l := rfl
  rw [e, ih]
  cases hf : f a with
  | none => simp [hf]
  | some y =>
   simp only [Option.elim_some, List.mem_cons, forall_eq_or_imp, hf, Option.some.injEq, forall_eq']
   constructor
   ·rintro ⟨h1, h2⟩; exact ⟨by omega, by omega, h2⟩
   ·rintro ⟨h1, h2, h3⟩; exact ⟨by omega, h3⟩
theorem mxo_ge {α : Type} (f : α → Option Int) (s : Int) (l : List α) : s ≤ mxo f s l := ((mxo_le f (mxo f s l) l s).1 (Int.le_refl _)).1
theorem mxo_mem {α : Type} (f : α → Option Int) (s : Int) (l : List α) {a : α} {y : Int} (ha : a ∈ l) (hf : f a = some y) : y ≤ mxo f s l := ((mxo_le f (mxo f s l) l s).1 (Int.le_refl _)).2 a ha y hf
theorem mxo_snoc {α : Type} (f : α → Option Int) (s : Int) (l : List α) (a : α) : mxo f s (l ++ [a]) = (f a).elim (mxo f s l) (max (mxo f s l)) := by unfold mxo; rw [List.foldl_append]; rfl
theorem mxo_congr {α : Type} {f g : α → Option Int} {s : Int} {l : List α} (h : ∀ a ∈ l, f a = g a) : mxo f s l = mxo g s l := by
 apply Int.le_antisymm
 ·rw [mxo_le]; exact ⟨mxo_ge g s l, fun a ha y hy => mxo_mem g s l ha (by rw [← h a ha]; exact hy)⟩
 ·rw [mxo_le]; exact ⟨mxo_ge f s l, fun a ha y hy => mxo_mem f s l ha (by rw [h a ha]; exact hy)⟩

abbrev Tab := Ref → Int
def upd (T : Tab) (u : Ref) (x : Int) : Tab := fun v => if v = u then x else T v
def secs (step : Tab → Ref → Int) (T : Tab) (L : List Ref) : Tab := L.foldl (fun T u => upd T u (step T u)) T
theorem secs_snoc (step : Tab → Ref → Int) (T : Tab) (L : List Ref) (u : Ref) : secs step T (L ++ [u]) = upd (secs step T L) u (step (secs step T L) u) := by unfold secs; rw [List.foldl_append]; rfl
theorem secs_out (step : Tab → Ref → Int) {x : Ref} : ∀ (L : List Ref) (T : Tab), x ∉ L → secs step T L x = T x
 | [], _, _ => rfl
 | u :: L, T, h => by
  have e : secs step T (u :: L) = secs step (upd T u (step T u)) L := rfl
  rw [e, secs_out step L _ (fun h' => h (by simp [h']))]
  unfold upd
  rw [if_neg (fun e => h (by simp [e]))]
def Dep (step : Tab → Ref → Int) (L : List Ref) : Prop := ∀ (j : Nat) (u : Ref), L[j]? = some u → ∀ T T' : Tab, (∀ x ∈ L.take j, T x = T' x) → step T u = step T' u
theorem secs_take (step : Tab → Ref → Int) (T : Tab) (L : List Ref) (hnd : L.Nodup) (j : Nat) : ∀ x ∈ L.take j, secs step T (L.take j) x = secs step T L x := by
 intro x hx
 have e : secs step T L = secs step (secs step T (L.take j)) (L.drop j) := by
  unfold secs
  rw [← List.foldl_append, List.take_append_drop]
 rw [e]
 symm
 apply secs_out
 intro hd
 have hn : (L.take j ++ L.drop j).Nodup := by rw [List.take_append_drop]; exact hnd
 exact (List.nodup_append.1 hn).2.2 x hx x hd rfl
theorem take_succ' {α : Type} {l : List α} {j : Nat} {u : α} (h : l[j]? = some u) : l.take (j + 1) = l.take j ++ [u] := by rw [List.take_add_one, h]; rfl
theorem secs_fix {step : Tab → Ref → Int} {T : Tab} {L : List Ref} (hnd : L.Nodup) (hd : Dep step L) : ∀ u ∈ L, secs step T L u = step (secs step T L) u := by
 intro u hu
 obtain ⟨j, hj, hu⟩ := List.getElem_of_mem hu
 have hj' : L[j]? = some u := by rw [List.getElem?_eq_getElem hj, hu]
 have h1 := secs_take step T L hnd (j + 1) u (by rw [take_succ' hj']; simp)
 rw [← h1, take_succ' hj', secs_snoc]
 unfold upd
 rw [if_pos rfl]
 exact hd j u hj' _ _ (secs_take step T L hnd j)

theorem done_set {now : List Int} {t : Nat} (ht : t < now.length) {x : Ref} (hx : 0 ≤ x.tr) : doneR (now.set t (nowAt now t + 1)) x = true ↔ doneR now x = true ∨ x = ⟨(t : Int), nowAt now t + 1⟩ := by
 unfold doneR
 rw [decide_eq_true_eq, decide_eq_true_eq, nowAt_set ht]
 by_cases e : t = x.tr.toNat
 ·rw [if_pos e, ← e]
  constructor
  ·intro h
   by_cases h2 : x.st ≤ nowAt now t
   ·exact .inl h2
   ·right
    cases x
    simp only at *
    simp; omega
  ·rintro (h | h)
   ·omega
   ·rw [h]; simp
 ·rw [if_neg e]
  constructor
  ·exact .inl
  ·rintro (h | h)
   ·exact h
   ·rw [h] at e; simp at e
theorem lineFrom_mem {ps : List (List Stage)} {go : List Int → Option Nat} (hs : Sound ps go) : ∀ (f : Nat) (now : List Int), Gd ps now →
  (∀ x : Ref, 0 ≤ x.tr → (doneR (lineFrom go f now).2 x = true ↔ doneR now x = true ∨ x ∈ (lineFrom go f now).1)) ∧ (∀ x ∈ (lineFrom go f now).1, 0 ≤ x.tr ∧ doneR now x = false) ∧ (lineFrom go f now).1.Nodup
 | 0, now, _ => by simp [lineFrom]
 | f + 1, now, hg => by
  simp only [lineFrom]
  cases e : go now with
  | none => simp
  | some t =>
   obtain ⟨h1, h2⟩ := hs now t e
   obtain ⟨i1, i2, i3⟩ := lineFrom_mem hs f _ (hg.step h1 h2)
   have hl : t < now.length := by rw [hg.1]; exact h1
   refine ⟨fun x hx => ?_, fun x hx => ?_, ?_⟩
   ·simp only []
    rw [i1 x hx, done_set hl hx, List.mem_cons, or_assoc]
   ·simp only [List.mem_cons] at hx
    rcases hx with rfl | hx
    ·refine ⟨by simp, ?_⟩
     unfold doneR; simp; omega
    ·obtain ⟨j1, j2⟩ := i2 x hx
     refine ⟨j1, ?_⟩
     cases hd : doneR now x with
     | false => rfl
     | true => rw [(done_set hl j1).2 (.inl hd)] at j2; exact absurd j2 (by simp)
   ·simp only [List.nodup_cons]
    refine ⟨fun hm => ?_, i3⟩
    have := (i2 _ hm).2
    rw [(done_set hl (by simp)).2 (.inr rfl)] at this
    exact absurd this (by simp)
theorem lineFrom_dep {ps : List (List Stage)} {go : List Int → Option Nat} (hs : Sound ps go) : ∀ (f : Nat) (now : List Int), Gd ps now → ∀ (j : Nat) (u : Ref), (lineFrom go f now).1[j]? = some u →
  ∃ (nj : List Int) (t : Nat), Gd ps nj ∧ go nj = some t ∧ u = ⟨(t : Int), nowAt nj t + 1⟩ ∧ ∀ x : Ref, 0 ≤ x.tr → doneR nj x = true → doneR now x = true ∨ x ∈ (lineFrom go f now).1.take j
 | 0, now, _, j, u, h => by simp [lineFrom] at h
 | f + 1, now, hg, j, u, h => by
  simp only [lineFrom] at h ⊢
  cases e : go now with
  | none => rw [e] at h; simp at h
  | some t =>
   rw [e] at h
   obtain ⟨h1, h2⟩ := hs now t e
   have hl : t < now.length := by rw [hg.1]; exact h1
   cases j with
   | zero =>
    simp at h
    exact ⟨now, t, hg, e, h.symm, fun x _ hd => .inl hd⟩
   | succ j =>
    simp only [List.getElem?_cons_succ] at h
    obtain ⟨nj, t', i1, i2, i3, i4⟩ := lineFrom_dep hs f _ (hg.step h1 h2) j u h
    refine ⟨nj, t', i1, i2, i3, fun x hx hd => ?_⟩
    rcases i4 x hx hd with hd | hd
    ·rcases (done_set hl hx).1 hd with hd | hd
     ·exact .inl hd
     ·right; simp [hd]
    ·right; simp [hd]

theorem valid_clk {ps : List (List Stage)} (hv : valid ps = true) {t k : Nat} {p : List Stage} {s : Stage} (hp : ps[t]? = some p) (hs : p[k]? = some s) : (0 ≤ s.mn ∧ s.mn ≤ 4194304) ∧ 0 ≤ s.nt ∧ s.nt ≤ 4194304 := by
 have h := valid_stage hv (List.mem_of_getElem? hp) (List.mem_of_getElem? hs)
 simp only [stageOk, Bool.and_eq_true, isClk, decide_eq_true_eq] at h
 exact ⟨h.2.1, h.2.2⟩
def baseS (ps : List (List Stage)) (n : Int) (u : Ref) : Int := ((((ps[u.tr.toNat]?).getD [])[u.st.toNat]?).elim n fun s => max n s.nt)
def valG (ps : List (List Stage)) (at_ : List Int) (n : Int) (T : Tab) (u : Ref) (a : GArc) : Option Int :=
 if doneR at_ (evAt ps a.frm.toNat) = false then some (T (evAt ps a.frm.toNat) + a.wt) else if (evAt ps a.frm.toNat).tr = u.tr then some (n + a.wt) else none
def valR (at_ : List Int) (n : Int) (T : Tab) (u : Ref) (a : RArc) : Option Int :=
 if a.to = u then (if doneR at_ a.frm = false then some (T a.frm + a.wt) else if a.frm.tr = u.tr ∧ a.frm.st = nowAt at_ u.tr.toNat ∧ a.frm.st + 1 = u.st then some (n + a.wt) else none) else none
def rowG (ps : List (List Stage)) (os : List Order) (u : Ref) : List GArc := arcsAt (arcsOf (evs ps).length (gAdds ps os)) (num ps u)
def stepG (ps : List (List Stage)) (os : List Order) (at_ : List Int) (n : Int) (T : Tab) (u : Ref) : Int := mxo (valG ps at_ n T u) (baseS ps n u) (rowG ps os u)
def stepR (ps : List (List Stage)) (arcs : List RArc) (at_ : List Int) (n : Int) (T : Tab) (u : Ref) : Int := mxo (valR at_ n T u) (baseS ps n u) arcs
def initR (at_ : List Int) (n : Int) : Tab := fun x => if doneR at_ x = true then -1 else n

theorem mem_rowG {ps : List (List Stage)} {os : List Order} (hck : checkO ps os = true) {t k : Nat} {p : List Stage} (hp : ps[t]? = some p) (hk : k ≤ p.length) {a : GArc} :
  a ∈ rowG ps os ⟨(t : Int), (k : Int)⟩ ↔ (∃ (k' : Nat) (s : Stage), k = k' + 1 ∧ p[k']? = some s ∧ a = ⟨((num ps ⟨(t : Int), (k' : Int)⟩ : Nat) : Int), s.mn⟩) ∨
   (∃ o ∈ os, ∃ (j : Nat) (w : Ref), o.uses[j]? = some ⟨(t : Int), (k : Int)⟩ ∧ Last (o.uses.take j) w ∧ w.tr ≠ (t : Int) ∧ a = ⟨((num ps (relOf ps o.res w) : Nat) : Int), 0⟩) := by
 have hlt := (evAt_num hp hk).2
 have hrow := arcsOf_at (evs ps).length (gAdds ps os) hlt
 have hnum : num ps ⟨(t : Int), (k : Int)⟩ = fst ps t + k := by simp [num]
 obtain ⟨_, _, hf⟩ := checkO_facts hck
 have hm : a ∈ rowG ps os ⟨(t : Int), (k : Int)⟩ ↔ (num ps ⟨(t : Int), (k : Int)⟩, a) ∈ gAdds ps os := by
  unfold rowG arcsAt
  rw [hrow]
  exact mem_arcsOf hrow
 rw [hm]
 unfold gAdds
 rw [List.mem_append]
 constructor
 ·rintro (hq | hq)
  ·left
   unfold chainAdds at hq
   obtain ⟨⟨p', t'⟩, hp', hq⟩ := List.mem_flatMap.1 hq
   have hp' := List.mem_zipIdx_iff_getElem?.1 hp'
   unfold chainP at hq
   obtain ⟨⟨s', k'⟩, hs', he⟩ := List.mem_map.1 hq
   have hs' := List.mem_zipIdx_iff_getElem?.1 hs'
   injection he with he1 he2
   have hkl := getElem?_lt hs'
   simp only at he1 he2 hp' hs' hkl
   have hinj := fst_inj hp' hp (k := k' + 1) (m := k) (by omega) hk (by rw [← hnum, ← he1]; rfl)
   obtain ⟨rfl, rfl⟩ := hinj
   rw [hp] at hp'; injection hp' with hp'; subst hp'
   exact ⟨k', s', rfl, hs', by rw [← he2]; simp [num]⟩
  ·right
   obtain ⟨o, ho, hq⟩ := List.mem_flatMap.1 hq
   obtain ⟨hin, _, hbef⟩ := hf o ho
   unfold orderAdds at hq
   rw [mem_useAdds o.uses [] _ (RelOf.nil ps o.res) (by simpa using hbef) (by simpa using hin)] at hq
   obtain ⟨j, v, w', hv, hiv, hL, hne, rfl⟩ := hq
   have hL : Last (o.uses.take j) w' := by simpa using hL
   obtain ⟨tv, kv, pv, sv, hpv, hsv, _, rfl⟩ := mem_allU.1 (hin v (List.mem_of_getElem? hv))
   have hkl := getElem?_lt hsv
   have hinj := fst_inj hpv hp (k := kv) (m := k) (by omega) hk (by rw [← hnum, hiv]; simp [num])
   obtain ⟨rfl, rfl⟩ := hinj
   exact ⟨o, ho, j, w', hv, hL, hne, rfl⟩
 ·rintro (⟨k', s, rfl, hs, rfl⟩ | ⟨o, ho, j, w, hv, hL, hne, rfl⟩)
  ·left
   unfold chainAdds
   refine List.mem_flatMap.2 ⟨(p, t), List.mem_zipIdx_iff_getElem?.2 hp, ?_⟩
   unfold chainP
   refine List.mem_map.2 ⟨(s, k'), List.mem_zipIdx_iff_getElem?.2 hs, ?_⟩
   simp [num, Nat.add_assoc]
  ·right
   obtain ⟨hin, _, hbef⟩ := hf o ho
   refine List.mem_flatMap.2 ⟨o, ho, ?_⟩
   unfold orderAdds
   rw [mem_useAdds o.uses [] _ (RelOf.nil ps o.res) (by simpa using hbef) (by simpa using hin)]
   exact ⟨j, _, w, hv, rfl, by simpa using hL, hne, rfl⟩
theorem rel_event {ps : List (List Stage)} {r : Int} {w : Ref} (hw : w ∈ allU ps r) : ∃ (t k : Nat) (p : List Stage), ps[t]? = some p ∧ k ≤ p.length ∧ relOf ps r w = ⟨(t : Int), (k : Int)⟩ ∧ w.tr = (t : Int) := by
 obtain ⟨tw, kw, pw, sw, hpw, hsw, _, rfl⟩ := mem_allU.1 hw
 have h2 := getElem?_lt hsw
 have hrel := relOf_range (ps := ps) (r := r) (t := tw) (k := kw)
 cases hq : relOf ps r ⟨(tw : Int), (kw : Int)⟩ with
 | mk x y =>
  rw [hq] at hrel
  simp only at hrel
  obtain ⟨rfl, h | h⟩ := hrel
  ·exact ⟨tw, kw, pw, hpw, by omega, by rw [h], rfl⟩
  ·exact ⟨tw, kw + 1, pw, hpw, by omega, by rw [h]; simp, rfl⟩
theorem evAt_num' {ps : List (List Stage)} {t k : Nat} {p : List Stage} (hp : ps[t]? = some p) (hk : k ≤ p.length) : evAt ps (((num ps ⟨(t : Int), (k : Int)⟩ : Nat) : Int)).toNat = ⟨(t : Int), (k : Int)⟩ := (evAt_num hp hk).1

structure Full (ps : List (List Stage)) (os : List Order) (at_ : List Int) (L : List Ref) : Prop where
 nd : L.Nodup
 ev : ∀ u ∈ L, ∃ (t k : Nat) (p : List Stage), ps[t]? = some p ∧ k ≤ p.length ∧ u = ⟨(t : Int), (k : Int)⟩
 notAt : ∀ u ∈ L, doneR at_ u = false
 all : ∀ (t k : Nat) (p : List Stage), ps[t]? = some p → k ≤ p.length → doneR at_ ⟨(t : Int), (k : Int)⟩ = false → (⟨(t : Int), (k : Int)⟩ : Ref) ∈ L
 depR : ∀ (j : Nat) (u : Ref), L[j]? = some u → ∀ a ∈ refArcs ps os, a.to = u → doneR at_ a.frm = true ∨ a.frm ∈ L.take j
 depG : ∀ (j : Nat) (u : Ref), L[j]? = some u → ∀ a ∈ rowG ps os u, doneR at_ (evAt ps a.frm.toNat) = true ∨ evAt ps a.frm.toNat ∈ L.take j
section
variable {ps : List (List Stage)} {os : List Order} {at_ : List Int} {L : List Ref} {n : Int}
theorem Full.mono (h : Full ps os at_ L) (hck : checkO ps os = true) {T : Tab} (hT : ∀ u ∈ L, T u = stepG ps os at_ n T u) {t : Nat} {p : List Stage} (hp : ps[t]? = some p) {k : Nat} (hd : doneR at_ ⟨(t : Int), (k : Int)⟩ = false) : ∀ m : Nat, k + m ≤ p.length → T ⟨(t : Int), (k : Int)⟩ ≤ T ⟨(t : Int), ((k + m : Nat) : Int)⟩
 | 0, _ => Int.le_refl _
 | m + 1, hm => by
  have ih := Full.mono h hck hT hp hd m (by omega)
  refine Int.le_trans ih ?_
  have hd2 : ∀ i : Nat, k ≤ i → doneR at_ ⟨(t : Int), (i : Int)⟩ = false := fun i hi => by
   unfold doneR at hd ⊢
   simp only [decide_eq_false_iff_not] at hd ⊢
   omega
  have hmem := h.all t (k + m + 1) p hp (by omega) (hd2 _ (by omega))
  have hs : p[k + m]? = some p[k + m] := List.getElem?_eq_getElem (by omega)
  have harc := (mem_rowG hck hp (k := k + m + 1) (by omega)).2 (.inl ⟨k + m, p[k + m], rfl, hs, rfl⟩)
  have hval : valG ps at_ n T ⟨(t : Int), ((k + m + 1 : Nat) : Int)⟩ ⟨((num ps ⟨(t : Int), ((k + m : Nat) : Int)⟩ : Nat) : Int), p[k + m].mn⟩ = some (T ⟨(t : Int), ((k + m : Nat) : Int)⟩ + p[k + m].mn) := by
   unfold valG
   rw [evAt_num' hp (by omega), if_pos (hd2 _ (by omega))]
  have hle := mxo_mem (valG ps at_ n T ⟨(t : Int), ((k + m + 1 : Nat) : Int)⟩) (baseS ps n ⟨(t : Int), ((k + m + 1 : Nat) : Int)⟩) (rowG ps os ⟨(t : Int), ((k + m + 1 : Nat) : Int)⟩) harc hval
  have hmn : 0 ≤ p[k + m].mn := by
   have hv := (checkO_facts hck).1
   exact (valid_clk hv hp hs).1.1
  have hfix := hT _ hmem
  unfold stepG at hfix
  rw [show k + (m + 1) = k + m + 1 from rfl, hfix]
  omega
end

def Bf (L : List Ref) (a b : Ref) : Prop := [a, b].Sublist L
theorem bf_at {L : List Ref} {a b : Ref} : Bf L a b ↔ ∃ i j : Nat, i < j ∧ L[i]? = some a ∧ L[j]? = some b := by
 unfold Bf
 constructor
 ·intro h
  induction L with
  | nil => simp at h
  | cons c L ih =>
   cases h with
   | cons _ h => obtain ⟨i, j, h1, h2, h3⟩ := ih h; exact ⟨i + 1, j + 1, by omega, by simpa using h2, by simpa using h3⟩
   | cons_cons _ h =>
    obtain ⟨j, hj⟩ := List.mem_iff_getElem?.1 (List.singleton_sublist.1 h)
    exact ⟨0, j + 1, by omega, rfl, by simpa using hj⟩
 ·rintro ⟨i, j, h1, h2, h3⟩
  have e : L = L.take j ++ L.drop j := (List.take_append_drop j L).symm
  rw [e]
  refine (List.singleton_sublist.2 ?_).append (List.singleton_sublist.2 ?_)
  ·exact List.mem_of_getElem? (i := i) (by rw [List.getElem?_take_of_lt h1]; exact h2)
  ·exact List.mem_of_getElem? (i := 0) (by rw [List.getElem?_drop]; exact h3)
theorem nd_at {L : List Ref} (hn : L.Nodup) {i j : Nat} {a : Ref} (hi : L[i]? = some a) (hj : L[j]? = some a) : i = j := by
 have h1 := getElem?_lt hi
 have h2 := getElem?_lt hj
 rw [List.getElem?_eq_getElem h1] at hi
 rw [List.getElem?_eq_getElem h2] at hj
 injection hi with hi; injection hj with hj
 rcases Nat.lt_trichotomy i j with h | h | h
 ·exact absurd (hi.trans hj.symm) (List.pairwise_iff_getElem.1 hn i j h1 h2 h)
 ·exact h
 ·exact absurd (hj.trans hi.symm) (List.pairwise_iff_getElem.1 hn j i h2 h1 h)
theorem Bf.trans {L : List Ref} (hn : L.Nodup) {a b c : Ref} (h1 : Bf L a b) (h2 : Bf L b c) : Bf L a c := by
 obtain ⟨i, j, hij, hi, hj⟩ := bf_at.1 h1
 obtain ⟨j', k, hjk, hj', hk⟩ := bf_at.1 h2
 obtain rfl := nd_at hn hj hj'
 exact bf_at.2 ⟨i, k, by omega, hi, hk⟩
theorem Bf.asymm {L : List Ref} (hn : L.Nodup) {a b : Ref} (h1 : Bf L a b) : ¬ Bf L b a := by
 intro h2
 obtain ⟨i, j, hij, hi, hj⟩ := bf_at.1 h1
 obtain ⟨j', k, hjk, hj', hk⟩ := bf_at.1 h2
 have e1 := nd_at hn hj hj'
 have e2 := nd_at hn hi hk
 omega
theorem Bf.mem {L : List Ref} {a b : Ref} (h : Bf L a b) : a ∈ L ∧ b ∈ L := ⟨h.subset (by simp), h.subset (by simp)⟩
theorem Bf.total {L : List Ref} {a b : Ref} (ha : a ∈ L) (hb : b ∈ L) (hne : a ≠ b) : Bf L a b ∨ Bf L b a := by
 obtain ⟨i, hi⟩ := List.mem_iff_getElem?.1 ha
 obtain ⟨j, hj⟩ := List.mem_iff_getElem?.1 hb
 rcases Nat.lt_trichotomy i j with h | h | h
 ·exact .inl (bf_at.2 ⟨i, j, h, hi, hj⟩)
 ·subst h; rw [hi] at hj; injection hj with hj; exact absurd hj hne
 ·exact .inr (bf_at.2 ⟨j, i, h, hj, hi⟩)
theorem Bf.take {L : List Ref} {a b : Ref} (h : Bf L a b) (hn : L.Nodup) {j : Nat} (hj : L[j]? = some b) : a ∈ L.take j := by
 obtain ⟨i, j', hij, hi, hj'⟩ := bf_at.1 h
 obtain rfl := nd_at hn hj hj'
 exact List.mem_of_getElem? (i := i) (by rw [List.getElem?_take_of_lt hij]; exact hi)
theorem bf_of_take {L : List Ref} {a b : Ref} {j : Nat} (hj : L[j]? = some b) (ha : a ∈ L.take j) : Bf L a b := by
 obtain ⟨i, hi⟩ := List.mem_iff_getElem?.1 ha
 have h1 := getElem?_lt hi
 rw [List.length_take] at h1
 rw [List.getElem?_take_of_lt (by omega)] at hi
 exact bf_at.2 ⟨i, j, by omega, hi, hj⟩

def InR (ps : List (List Stage)) (u : Ref) : Prop := ∃ (t k : Nat) (p : List Stage), ps[t]? = some p ∧ k ≤ p.length ∧ u = ⟨(t : Int), (k : Int)⟩
def Ev (ps : List (List Stage)) (at_ : List Int) (u : Ref) : Prop := InR ps u ∧ doneR at_ u = false
def arcsD (ps : List (List Stage)) (D : List RArc) : List RArc := chainR ps ++ D
structure DOk (ps : List (List Stage)) (at_ : List Int) (D : List RArc) : Prop where
 frm : ∀ a ∈ D, Ev ps at_ a.frm
 to : ∀ a ∈ D, InR ps a.to
 ne : ∀ a ∈ D, a.frm.tr ≠ a.to.tr
 wt : ∀ a ∈ D, a.wt = 0
structure Topo (ps : List (List Stage)) (at_ : List Int) (D : List RArc) (L : List Ref) : Prop where
 nd : L.Nodup
 mem : ∀ u, u ∈ L ↔ Ev ps at_ u
 ord : ∀ a ∈ arcsD ps D, Ev ps at_ a.to → doneR at_ a.frm = true ∨ Bf L a.frm a.to
def okD (ps : List (List Stage)) (at_ : List Int) (D : List RArc) : Bool := (lineR ps (arcsD ps D) at_).2
section
variable {ps : List (List Stage)} {at_ : List Int} {D : List RArc} {L : List Ref}
theorem InR.tr {u : Ref} (h : InR ps u) : 0 ≤ u.tr := by obtain ⟨t, k, p, _, _, rfl⟩ := h; simp
theorem InR.st {u : Ref} (h : InR ps u) : 0 ≤ u.st := by obtain ⟨t, k, p, _, _, rfl⟩ := h; simp
theorem arcsD_ends (hD : DOk ps at_ D) {a : RArc} (ha : a ∈ arcsD ps D) : InR ps a.frm ∧ InR ps a.to := by
 rcases List.mem_append.1 ha with ha | ha
 ·obtain ⟨t, k, p, s, hp, hs, rfl⟩ := mem_chainR.1 ha
  have := getElem?_lt hs
  exact ⟨⟨t, k, p, hp, by omega, rfl⟩, ⟨t, k + 1, p, hp, by omega, by simp⟩⟩
 ·exact ⟨(hD.frm a ha).1, hD.to a ha⟩
theorem topo_of_ok (hg : Gd ps at_) (hD : DOk ps at_ D) (h : okD ps at_ D = true) : (∀ a ∈ D, doneR at_ a.to = false) ∧ Topo ps at_ D (lineR ps (arcsD ps D) at_).1 := by
 unfold okD at h
 unfold lineR at h ⊢
 by_cases g : (arcsD ps D).any (badArc at_) = true
 ·rw [if_pos g] at h; simp at h
 rw [if_neg g] at h ⊢
 by_cases g2 : total ps (lineFrom (goR ps (arcsD ps D)) (total ps at_) at_).2 = 0
 case neg => rw [if_neg g2] at h; simp at h
 rw [if_pos g2]
 simp only
 have hnb : ∀ a ∈ arcsD ps D, ¬ (doneR at_ a.to = true ∧ doneR at_ a.frm = false) := fun a ha hh => by
  apply g
  rw [List.any_eq_true]
  exact ⟨a, ha, by unfold badArc; rw [hh.1, hh.2]; rfl⟩
 have hs := goR_sound ps (arcsD ps D)
 obtain ⟨m1, m2, m3⟩ := lineFrom_mem hs (total ps at_) at_ hg
 have hinv := lineFrom_inv hs (total ps at_) at_ hg
 have hrefs := lineFrom_refs hs (total ps at_) at_ hg
 have hdep := lineFrom_dep hs (total ps at_) at_ hg
 have hfull := (total_zero hinv.1).1 g2
 refine ⟨fun a ha => ?_, m3, fun u => ⟨fun hu => ⟨hrefs u hu, (m2 u hu).2⟩, fun hu => ?_⟩, fun a ha hev => ?_⟩
 ·have h1 := hnb a (List.mem_append_right _ ha)
  have h2 := (hD.frm a ha).2
  cases e : doneR at_ a.to with
  | false => rfl
  | true => exact absurd ⟨e, h2⟩ h1
 ·obtain ⟨⟨t, k, p, hp, hk, rfl⟩, hd⟩ := hu
  have h1 : doneR (lineFrom (goR ps (arcsD ps D)) (total ps at_) at_).2 ⟨(t : Int), (k : Int)⟩ = true := by
   unfold doneR
   rw [decide_eq_true_eq]
   have := hfull t (getElem?_lt hp)
   rw [lenAt_of hp] at this
   simp only [Int.toNat_natCast]
   omega
  rcases (m1 ⟨(t : Int), (k : Int)⟩ (by simp)).1 h1 with h | h
  ·rw [h] at hd; exact absurd hd (by simp)
  ·exact h
 ·have hm : a.to ∈ (lineFrom (goR ps (arcsD ps D)) (total ps at_) at_).1 := by
   obtain ⟨⟨t, k, p, hp, hk, e⟩, hd⟩ := hev
   rw [e] at hd ⊢
   have h1 : doneR (lineFrom (goR ps (arcsD ps D)) (total ps at_) at_).2 ⟨(t : Int), (k : Int)⟩ = true := by
    unfold doneR
    rw [decide_eq_true_eq]
    have := hfull t (getElem?_lt hp)
    rw [lenAt_of hp] at this
    simp only [Int.toNat_natCast]
    omega
   rcases (m1 ⟨(t : Int), (k : Int)⟩ (by simp)).1 h1 with h | h
   ·rw [h] at hd; exact absurd hd (by simp)
   ·exact h
  obtain ⟨j, hj⟩ := List.mem_iff_getElem?.1 hm
  obtain ⟨nj, t, i1, i2, i3, i4⟩ := hdep j a.to hj
  unfold goR at i2
  have h2 := List.find?_some i2
  simp only [goC, Bool.and_eq_true, decide_eq_true_eq] at h2
  have h3 := List.all_eq_true.1 h2.2 a ha
  rw [← i3] at h3
  simp at h3
  rcases i4 a.frm (arcsD_ends hD ha).1.tr h3 with h4 | h4
  ·exact .inl h4
  ·exact .inr (bf_of_take hj h4)
theorem Topo.chain (h : Topo ps at_ D L) {t k : Nat} {p : List Stage} (hp : ps[t]? = some p) (hd : doneR at_ ⟨(t : Int), (k : Int)⟩ = false) : ∀ m : Nat, k + m + 1 ≤ p.length → Bf L ⟨(t : Int), (k : Int)⟩ ⟨(t : Int), ((k + m + 1 : Nat) : Int)⟩ := by
 have hd2 : ∀ i : Nat, k ≤ i → doneR at_ ⟨(t : Int), (i : Int)⟩ = false := fun i hi => by
  unfold doneR at hd ⊢
  simp at hd ⊢
  omega
 have step : ∀ i : Nat, k ≤ i → i + 1 ≤ p.length → Bf L ⟨(t : Int), (i : Int)⟩ ⟨(t : Int), ((i + 1 : Nat) : Int)⟩ := fun i hi hl => by
  have hs : p[i]? = some p[i] := List.getElem?_eq_getElem (by omega)
  have h1 := h.ord ⟨⟨(t : Int), (i : Int)⟩, ⟨(t : Int), (i : Int) + 1⟩, p[i].mn⟩ (List.mem_append_left _ (mem_chainR.2 ⟨t, i, p, _, hp, hs, rfl⟩)) ⟨⟨t, i + 1, p, hp, hl, by simp⟩, by have := hd2 (i + 1) (by omega); simpa using this⟩
  rcases h1 with h1 | h1
  ·rw [hd2 i hi] at h1; cases h1
  ·simpa using h1
 intro m
 induction m with
 | zero => intro hm; exact step k (Nat.le_refl _) hm
 | succ m ih =>
  intro hm
  exact (ih (by omega)).trans h.nd (step (k + m + 1) (by omega) (by omega))
theorem ok_of_topo (hg : Gd ps at_) (hD : DOk ps at_ D) (ho : ∀ a ∈ D, doneR at_ a.to = false) (h : Topo ps at_ D L) : okD ps at_ D = true := by
 have hs := goR_sound ps (arcsD ps D)
 have hinv := lineFrom_inv hs (total ps at_) at_ hg
 obtain ⟨m1, _, _⟩ := lineFrom_mem hs (total ps at_) at_ hg
 have hst := hinv.2.2 (Nat.le_refl _)
 have hgf := hinv.1
 unfold okD lineR
 have hnb : ¬ (arcsD ps D).any (badArc at_) = true := by
  rw [List.any_eq_true]
  rintro ⟨a, ha, hb⟩
  unfold badArc at hb
  simp only [Bool.and_eq_true, Bool.not_eq_true'] at hb
  rcases List.mem_append.1 ha with ha | ha
  ·obtain ⟨t, k, p, s, hp, hs, rfl⟩ := mem_chainR.1 ha
   unfold doneR at hb
   simp at hb
   omega
  ·rw [ho a ha] at hb; exact absurd hb.1 (by simp)
 rw [if_neg hnb]
 have mono : ∀ x : Ref, 0 ≤ x.tr → doneR at_ x = true → doneR (lineFrom (goR ps (arcsD ps D)) (total ps at_) at_).2 x = true := fun x hx hd => (m1 x hx).2 (.inl hd)
 generalize (lineFrom (goR ps (arcsD ps D)) (total ps at_) at_).2 = now at *
 have key : ∀ j : Nat, ∀ u, L[j]? = some u → doneR now u = true := by
  intro j
  induction j using Nat.strongRecOn with
  | _ j ih =>
   intro u hu
   obtain ⟨⟨t, k, p, hp, hk, rfl⟩, hd⟩ := (h.mem u).1 (List.mem_of_getElem? hu)
   have hpre : ∀ a ∈ arcsD ps D, a.to = ⟨(t : Int), (k : Int)⟩ → doneR now a.frm = true := fun a ha hto => by
    have hin := arcsD_ends hD ha
    rcases h.ord a ha (by rw [hto]; exact ⟨⟨t, k, p, hp, hk, rfl⟩, hd⟩) with h1 | h1
    ·exact mono _ hin.1.tr h1
    ·rw [hto] at h1
     obtain ⟨i, j', hij, hi, hj'⟩ := bf_at.1 h1
     obtain rfl := nd_at h.nd hu hj'
     exact ih i hij _ hi
   have htl := getElem?_lt hp
   have hGt := hgf.2 t htl
   rcases Int.lt_or_le (nowAt now t) (k : Int) with hlt | hle
   ·exfalso
    have hk1 : (k : Int) = nowAt now t + 1 := by
     cases k with
     | zero => omega
     | succ k =>
      have hsk : p[k]? = some p[k] := List.getElem?_eq_getElem (by omega)
      have := hpre ⟨⟨(t : Int), (k : Int)⟩, ⟨(t : Int), (k : Int) + 1⟩, p[k].mn⟩ (List.mem_append_left _ (mem_chainR.2 ⟨t, k, p, _, hp, hsk, rfl⟩)) (by simp)
      unfold doneR at this
      simp at this
      omega
    have hgo : goC ps (arcsD ps D) now t = true := by
     simp only [goC, Bool.and_eq_true, decide_eq_true_eq]
     refine ⟨by rw [lenAt_of hp]; omega, List.all_eq_true.2 fun a ha => ?_⟩
     rw [← hk1]
     by_cases e : a.to = ⟨(t : Int), (k : Int)⟩
     ·simp [hpre a ha e]
     ·simp [e]
    unfold goR at hst
    have := List.find?_eq_none.1 hst t (List.mem_range.2 htl)
    exact this hgo
   ·unfold doneR; simpa using hle
 have hz : total ps now = 0 := by
  rw [total_zero hgf]
  intro t ht
  have hp : ps[t]? = some ps[t] := List.getElem?_eq_getElem ht
  have hG := hgf.2 t ht
  rw [lenAt_of hp] at hG ⊢
  have hd : doneR now ⟨(t : Int), (ps[t].length : Int)⟩ = true := by
   cases e : doneR at_ ⟨(t : Int), (ps[t].length : Int)⟩ with
   | true => exact mono _ (by simp) e
   | false =>
    obtain ⟨j, hj⟩ := List.mem_iff_getElem?.1 ((h.mem _).2 ⟨⟨t, ps[t].length, ps[t], hp, Nat.le_refl _, rfl⟩, e⟩)
    exact key j _ hj
  unfold doneR at hd
  simp at hd
  omega
 rw [if_pos hz]

structure Sol (ps : List (List Stage)) (at_ : List Int) (D : List RArc) (base : Ref → Int) (ph : RArc → Int → Int) (T : Tab) : Prop where
 base : ∀ e, Ev ps at_ e → base e ≤ T e
 arc : ∀ a ∈ arcsD ps D, Ev ps at_ a.to → doneR at_ a.frm = false → ph a (T a.frm) ≤ T a.to
def stepS (ps : List (List Stage)) (at_ : List Int) (D : List RArc) (base : Ref → Int) (ph : RArc → Int → Int) (T : Tab) (u : Ref) : Int :=
 mxo (fun a => if a.to = u ∧ doneR at_ a.frm = false then some (ph a (T a.frm)) else none) (base u) (arcsD ps D)
def solS (ps : List (List Stage)) (at_ : List Int) (D : List RArc) (base : Ref → Int) (ph : RArc → Int → Int) (init : Tab) (L : List Ref) : Tab := secs (stepS ps at_ D base ph) init L
section
variable {base : Ref → Int} {ph : RArc → Int → Int} {init : Tab}
theorem stepS_dep (h : Topo ps at_ D L) : Dep (stepS ps at_ D base ph) L := by
 intro j u hj T T' he
 unfold stepS
 apply mxo_congr
 intro a ha
 by_cases e : a.to = u ∧ doneR at_ a.frm = false
 ·rw [if_pos e, if_pos e]
  have hev : Ev ps at_ a.to := by rw [e.1]; exact (h.mem u).1 (List.mem_of_getElem? hj)
  rcases h.ord a ha hev with h1 | h1
  ·rw [e.2] at h1; cases h1
  ·rw [e.1] at h1
   rw [he _ (h1.take h.nd hj)]
 ·rw [if_neg e, if_neg e]
theorem solS_fix (h : Topo ps at_ D L) {u : Ref} (hu : Ev ps at_ u) : solS ps at_ D base ph init L u = stepS ps at_ D base ph (solS ps at_ D base ph init L) u :=
 secs_fix h.nd (stepS_dep h) u ((h.mem u).2 hu)
theorem solS_out (h : Topo ps at_ D L) {u : Ref} (hu : ¬ Ev ps at_ u) : solS ps at_ D base ph init L u = init u := secs_out _ L init (fun hm => hu ((h.mem u).1 hm))
theorem solS_sol (h : Topo ps at_ D L) : Sol ps at_ D base ph (solS ps at_ D base ph init L) := by
 refine ⟨fun e he => ?_, fun a ha he hf => ?_⟩
 ·rw [solS_fix h he]; exact mxo_ge _ _ _
 ·rw [solS_fix h he]
  exact mxo_mem _ _ _ ha (by rw [if_pos ⟨rfl, hf⟩])
theorem solS_least (h : Topo ps at_ D L) (hm : ∀ a x y, x ≤ y → ph a x ≤ ph a y) {T : Tab} (hT : Sol ps at_ D base ph T) {u : Ref} (hu : Ev ps at_ u) : solS ps at_ D base ph init L u ≤ T u := by
 have key : ∀ j : Nat, ∀ u, L[j]? = some u → solS ps at_ D base ph init L u ≤ T u := by
  intro j
  induction j using Nat.strongRecOn with
  | _ j ih =>
   intro u hju
   have hev := (h.mem u).1 (List.mem_of_getElem? hju)
   rw [solS_fix h hev]
   unfold stepS
   rw [mxo_le]
   refine ⟨hT.base u hev, fun a ha y hy => ?_⟩
   by_cases e : a.to = u ∧ doneR at_ a.frm = false
   ·rw [if_pos e] at hy
    injection hy with hy
    obtain ⟨rfl, e2⟩ := e
    have h1 := hT.arc a ha hev e2
    rcases h.ord a ha hev with h2 | h2
    ·rw [e2] at h2; cases h2
    ·obtain ⟨i, j', hij, hi, hj'⟩ := bf_at.1 h2
     obtain rfl := nd_at h.nd hju hj'
     have := hm a _ _ (ih i hij _ hi)
     omega
   ·rw [if_neg e] at hy; cases hy
 obtain ⟨j, hj⟩ := List.mem_iff_getElem?.1 ((h.mem u).2 hu)
 exact key j u hj
theorem sol_eq (h : Topo ps at_ D L) (hm : ∀ a x y, x ≤ y → ph a x ≤ ph a y) {T : Tab} (hT : Sol ps at_ D base ph T) (hle : ∀ u, Ev ps at_ u → T u ≤ solS ps at_ D base ph init L u) {u : Ref} (hu : Ev ps at_ u) : T u = solS ps at_ D base ph init L u := by
 have h1 := solS_least (init := init) h hm hT hu
 have h2 := hle u hu
 omega
end

def phB (t : Int) (a : RArc) (x : Int) : Int := max x (if a.frm.tr = t then a.frm.st else -1)
theorem phB_mono (t : Int) : ∀ a x y, x ≤ y → phB t a x ≤ phB t a y := fun a x y h => by unfold phB; omega
def befS (ps : List (List Stage)) (at_ : List Int) (D : List RArc) (L : List Ref) (t : Int) : Tab := solS ps at_ D (fun _ => -1) (phB t) (fun _ => -1) L
def leadsS (ps : List (List Stage)) (at_ : List Int) (D : List RArc) (L : List Ref) (a b : Ref) : Bool := decide (a.st ≤ befS ps at_ D L a.tr b)
def arc0 (x y : Ref) : RArc := ⟨x, y, 0⟩
theorem befS_arc (h : Topo ps at_ D L) {a : RArc} (ha : a ∈ arcsD ps D) (he : Ev ps at_ a.to) (hf : doneR at_ a.frm = false) (t : Int) : befS ps at_ D L t a.frm ≤ befS ps at_ D L t a.to ∧ (a.frm.tr = t → a.frm.st ≤ befS ps at_ D L t a.to) := by
 have h1 : max (befS ps at_ D L t a.frm) (if a.frm.tr = t then a.frm.st else -1) ≤ befS ps at_ D L t a.to := (solS_sol (base := fun _ => -1) (ph := phB t) (init := fun _ => -1) h).arc a ha he hf
 refine ⟨by omega, fun e => ?_⟩
 rw [if_pos e] at h1
 omega
theorem leads_step (h : Topo ps at_ D L) {a : RArc} (ha : a ∈ arcsD ps D) (he : Ev ps at_ a.to) (hf : doneR at_ a.frm = false) {y : Ref} (hy : a.frm = y ∨ leadsS ps at_ D L y a.frm = true) : leadsS ps at_ D L y a.to = true := by
 obtain ⟨h1, h2⟩ := befS_arc h ha he hf y.tr
 unfold leadsS at *
 rw [decide_eq_true_eq] at *
 rcases hy with rfl | hy
 ·exact h2 rfl
 ·omega
theorem arcsD_snoc (x y : Ref) : arcsD ps (D ++ [arc0 x y]) = arcsD ps D ++ [arc0 x y] := by unfold arcsD; rw [List.append_assoc]
theorem topo_add (h : Topo ps at_ D L) {x y : Ref} (hx : Ev ps at_ x) (hy : Ev ps at_ y) (hne : x ≠ y) (hn : leadsS ps at_ D L y x = false) :
  ∃ L', Topo ps at_ (D ++ [arc0 x y]) L' := by
 obtain ⟨R, hR⟩ : ∃ R : Ref → Bool, R = fun z => decide (z = y) || leadsS ps at_ D L y z := ⟨_, rfl⟩
 have hRe : ∀ z, R z = true ↔ z = y ∨ leadsS ps at_ D L y z = true := fun z => by rw [hR]; simp
 refine ⟨L.filter (fun z => !R z) ++ L.filter R, ?_, fun u => ?_, fun a ha he => ?_⟩
 ·rw [List.nodup_append]
  refine ⟨h.nd.sublist (List.filter_sublist ..), h.nd.sublist (List.filter_sublist ..), fun u hu v hv e => ?_⟩
  subst e
  have h1 := (List.mem_filter.1 hu).2
  have h2 := (List.mem_filter.1 hv).2
  rw [h2] at h1; simp at h1
 ·rw [List.mem_append, List.mem_filter, List.mem_filter, ← h.mem u]
  cases R u <;> simp
 ·have put : ∀ {f u : Ref}, f ∈ L → u ∈ L → R f = false → R u = true → Bf (L.filter (fun z => !R z) ++ L.filter R) f u := fun hf hu h1 h2 =>
   (List.singleton_sublist.2 (List.mem_filter.2 ⟨hf, by simp [h1]⟩)).append (List.singleton_sublist.2 (List.mem_filter.2 ⟨hu, h2⟩))
  rw [arcsD_snoc] at ha
  rcases List.mem_append.1 ha with ha | ha
  ·rcases h.ord a ha he with h1 | h1
   ·exact .inl h1
   right
   have hfo : doneR at_ a.frm = false := ((h.mem _).1 h1.mem.1).2
   cases e1 : R a.to with
   | false =>
    have e2 : R a.frm = false := by
     cases e2 : R a.frm with
     | false => rfl
     | true =>
      have := leads_step h ha he hfo ((hRe _).1 e2)
      rw [(hRe _).2 (.inr this)] at e1; cases e1
    have h2 : [a.frm, a.to].Sublist (L.filter fun z => !R z) := by
     have := List.Sublist.filter (fun z => !R z) h1
     simpa [List.filter_cons, e1, e2] using this
    exact List.Sublist.trans h2 (List.sublist_append_left _ _)
   | true =>
    cases e2 : R a.frm with
    | false => exact put h1.mem.1 h1.mem.2 e2 e1
    | true =>
     have h2 : [a.frm, a.to].Sublist (L.filter R) := by
      have := List.Sublist.filter R h1
      simpa [List.filter_cons, e1, e2] using this
     exact List.Sublist.trans h2 (List.sublist_append_right _ _)
  ·simp at ha
   subst ha
   right
   refine put ((h.mem _).2 hx) ((h.mem _).2 hy) ?_ ((hRe _).2 (.inl rfl))
   show R x = false
   cases e : R x with
   | false => rfl
   | true =>
    rcases (hRe _).1 e with h1 | h1
    ·exact absurd h1 hne
    ·rw [hn] at h1; cases h1
theorem topo_bad (h : Topo ps at_ D L) {L' : List Ref} {x y : Ref} (h' : Topo ps at_ (D ++ [arc0 x y]) L') (hx : Ev ps at_ x) (hy : Ev ps at_ y) : leadsS ps at_ D L y x = false := by
 have hxy : Bf L' x y := by
  rcases h'.ord (arc0 x y) (by rw [arcsD_snoc]; simp) hy with h1 | h1
  ·have := hx.2; unfold arc0 at h1; rw [this] at h1; cases h1
  ·exact h1
 have hnyx := hxy.asymm h'.nd
 classical
 have hX : Sol ps at_ D (fun _ => -1) (phB y.tr) (fun e => if Bf L' y e then befS ps at_ D L y.tr e else min (befS ps at_ D L y.tr e) (y.st - 1)) := by
  have hs := solS_sol (base := fun _ => -1) (ph := phB y.tr) (init := fun _ => -1) h
  have hst := hy.1.st
  refine ⟨fun e he => ?_, fun a ha he hf => ?_⟩
  ·have h1 : -1 ≤ befS ps at_ D L y.tr e := hs.base e he
   split <;> omega
  ·obtain ⟨b1, b2⟩ := befS_arc h ha he hf y.tr
   have hbf : Bf L' a.frm a.to := by
    rcases h'.ord a (by rw [arcsD_snoc]; exact List.mem_append_left _ ha) he with h1 | h1
    ·rw [hf] at h1; cases h1
    ·exact h1
   have hb0 : -1 ≤ befS ps at_ D L y.tr a.to := hs.base a.to he
   unfold phB
   by_cases g : Bf L' y a.to
   ·rw [if_pos g]
    have e1 : (if Bf L' y a.frm then befS ps at_ D L y.tr a.frm else min (befS ps at_ D L y.tr a.frm) (y.st - 1)) ≤ befS ps at_ D L y.tr a.frm := by split <;> omega
    have e2 : (if a.frm.tr = y.tr then a.frm.st else -1) ≤ befS ps at_ D L y.tr a.to := by
     split
     ·rename_i e; exact b2 e
     ·exact hb0
    omega
   ·rw [if_neg g]
    have g2 : ¬ Bf L' y a.frm := fun hh => g (hh.trans h'.nd hbf)
    rw [if_neg g2]
    have e2 : (if a.frm.tr = y.tr then a.frm.st else -1) ≤ min (befS ps at_ D L y.tr a.to) (y.st - 1) := by
     split
     ·rename_i e
      have h1 := b2 e
      have h2 : a.frm.st < y.st := by
       rcases Int.lt_or_le a.frm.st y.st with h2 | h2
       ·exact h2
       ·exfalso
        obtain ⟨tf, kf, pf, hpf, hkf, ef⟩ := ((h'.mem _).1 hbf.mem.1).1
        obtain ⟨ty, ky, py, hpy, hky, ey⟩ := hy.1
        rw [ef, ey] at e h2
        simp only at e h2
        have : tf = ty := by omega
        subst this
        rw [hpf] at hpy; injection hpy with hpy; subst hpy
        by_cases e3 : kf = ky
        ·subst e3
         rw [ef, ← ey] at hbf
         exact g hbf
        ·have h3 := h'.chain hpf (k := ky) (by rw [← ey]; exact hy.2) (kf - ky - 1) (by omega)
         rw [show ky + (kf - ky - 1) + 1 = kf from by omega, ← ey, ← ef] at h3
         exact g2 h3
      omega
     ·omega
    omega
 have h1 := solS_least (init := fun _ => -1) h (phB_mono y.tr) hX hx
 simp only at h1
 rw [if_neg hnyx] at h1
 unfold leadsS
 rw [decide_eq_false_iff_not]
 have : befS ps at_ D L y.tr x ≤ min (befS ps at_ D L y.tr x) (y.st - 1) := h1
 omega
theorem leads_ind (h : Topo ps at_ D L) {y z : Ref} (hy : InR ps y) (hz : Ev ps at_ z) (Q : Ref → Prop) (h1 : ∀ a ∈ arcsD ps D, Ev ps at_ a.to → doneR at_ a.frm = false → Q a.frm → Q a.to)
  (h2 : ∀ a ∈ arcsD ps D, Ev ps at_ a.to → doneR at_ a.frm = false → a.frm.tr = y.tr → y.st ≤ a.frm.st → Q a.to) (hl : leadsS ps at_ D L y z = true) : Q z := by
 classical
 have hs := solS_sol (base := fun _ => -1) (ph := phB y.tr) (init := fun _ => -1) h
 have hst := hy.st
 have hX : Sol ps at_ D (fun _ => -1) (phB y.tr) (fun e => if Q e then befS ps at_ D L y.tr e else min (befS ps at_ D L y.tr e) (y.st - 1)) := by
  refine ⟨fun e he => ?_, fun a ha he hf => ?_⟩
  ·have h1 : -1 ≤ befS ps at_ D L y.tr e := hs.base e he
   split <;> omega
  ·obtain ⟨b1, b2⟩ := befS_arc h ha he hf y.tr
   have hb0 : -1 ≤ befS ps at_ D L y.tr a.to := hs.base a.to he
   unfold phB
   by_cases g : Q a.to
   ·rw [if_pos g]
    have e1 : (if Q a.frm then befS ps at_ D L y.tr a.frm else min (befS ps at_ D L y.tr a.frm) (y.st - 1)) ≤ befS ps at_ D L y.tr a.frm := by split <;> omega
    have e2 : (if a.frm.tr = y.tr then a.frm.st else -1) ≤ befS ps at_ D L y.tr a.to := by
     split
     ·rename_i e; exact b2 e
     ·exact hb0
    omega
   ·rw [if_neg g]
    have g2 : ¬ Q a.frm := fun hh => g (h1 a ha he hf hh)
    rw [if_neg g2]
    have e2 : (if a.frm.tr = y.tr then a.frm.st else -1) ≤ min (befS ps at_ D L y.tr a.to) (y.st - 1) := by
     split
     ·rename_i e
      have h3 := b2 e
      have h4 : a.frm.st < y.st := by
       rcases Int.lt_or_le a.frm.st y.st with h4 | h4
       ·exact h4
       ·exact absurd (h2 a ha he hf e h4) g
      omega
     ·omega
    omega
 have h3 := solS_least (init := fun _ => -1) h (phB_mono y.tr) hX hz
 unfold leadsS at hl
 rw [decide_eq_true_eq] at hl
 by_cases g : Q z
 ·exact g
 ·rw [if_neg g] at h3
  have : befS ps at_ D L y.tr z ≤ min (befS ps at_ D L y.tr z) (y.st - 1) := h3
  omega
theorem leads_le (h : Topo ps at_ D L) {base : Ref → Int} {ph : RArc → Int → Int} {T : Tab} (hT : Sol ps at_ D base ph T) (hph : ∀ a ∈ arcsD ps D, ∀ x, x ≤ ph a x) {y z : Ref} (hy : Ev ps at_ y) (hz : Ev ps at_ z) (hl : leadsS ps at_ D L y z = true) : T y ≤ T z := by
 have step : ∀ a ∈ arcsD ps D, Ev ps at_ a.to → doneR at_ a.frm = false → T a.frm ≤ T a.to := fun a ha h1 h2 => by
  have := hT.arc a ha h1 h2
  have := hph a ha (T a.frm)
  omega
 obtain ⟨⟨ty, ky, py, hpy, hky, rfl⟩, hyd⟩ := hy
 have hd2 : ∀ i : Nat, ky ≤ i → doneR at_ ⟨(ty : Int), (i : Int)⟩ = false := fun i hi => by
  unfold doneR at hyd ⊢
  simp at hyd ⊢
  omega
 have chain : ∀ m : Nat, ky + m ≤ py.length → T ⟨(ty : Int), (ky : Int)⟩ ≤ T ⟨(ty : Int), ((ky + m : Nat) : Int)⟩ := by
  intro m
  induction m with
  | zero => intro _; exact Int.le_refl _
  | succ m ih =>
   intro hm
   have hs : py[ky + m]? = some py[ky + m] := List.getElem?_eq_getElem (by omega)
   have h1 := step ⟨⟨(ty : Int), ((ky + m : Nat) : Int)⟩, ⟨(ty : Int), ((ky + m : Nat) : Int) + 1⟩, py[ky + m].mn⟩ (List.mem_append_left _ (mem_chainR.2 ⟨ty, ky + m, py, _, hpy, hs, rfl⟩)) ⟨⟨ty, ky + m + 1, py, hpy, by omega, by simp⟩, by have := hd2 (ky + m + 1) (by omega); simpa using this⟩ (hd2 (ky + m) (by omega))
   have h2 := ih (by omega)
   have e : ((ky + (m + 1) : Nat) : Int) = ((ky + m : Nat) : Int) + 1 := by omega
   rw [e]
   simp only at h1
   omega
 refine leads_ind h ⟨ty, ky, py, hpy, hky, rfl⟩ hz (fun e => T ⟨(ty : Int), (ky : Int)⟩ ≤ T e) (fun a ha h1 h2 h3 => Int.le_trans h3 (step a ha h1 h2)) (fun a ha h1 h2 h3 h4 => ?_) hl
 refine Int.le_trans ?_ (step a ha h1 h2)
 have hend : InR ps a.frm := by
  rcases List.mem_append.1 ha with ha' | ha'
  ·obtain ⟨t, k, p, s, hp, hs, rfl⟩ := mem_chainR.1 ha'
   have := getElem?_lt hs
   exact ⟨t, k, p, hp, by omega, rfl⟩
  ·rcases h.ord a ha h1 with h5 | h5
   ·rw [h2] at h5; cases h5
   ·exact ((h.mem _).1 h5.mem.1).1
 obtain ⟨tf, kf, pf, hpf, hkf, ef⟩ := hend
 rw [ef] at h3 h4 ⊢
 simp only at h3 h4
 have : tf = ty := by omega
 subst this
 rw [hpf] at hpy; injection hpy with hpy; subst hpy
 have := chain (kf - ky) (by omega)
 rw [show ky + (kf - ky) = kf from by omega] at this
 exact this
end

end Go.Proofs.Ytilbbpbjhoidhaa
