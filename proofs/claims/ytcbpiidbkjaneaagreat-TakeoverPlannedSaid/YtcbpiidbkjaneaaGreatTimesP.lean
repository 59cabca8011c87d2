/- The earliest seconds of chapter 35 as plain functions: the program's and the reference's are the same. No program in sight. -/
import Derived.Test.YtcbpiidbkjaneaaGreatRefL
namespace Go.Proofs.YtcbpiidbkjaneaaGreat
open Go.RowKit

/-- the greatest of s and some values -/
def mxo {α : Type} (f : α → Option Int) (s : Int) (l : List α) : Int := l.foldl (fun s a => (f a).elim s (max s)) s
theorem mxo_le {α : Type} (f : α → Option Int) (x : Int) : ∀ (l : List α) (s : Int), mxo f s l ≤ x ↔ s ≤ x ∧ ∀ a ∈ l, ∀ y, f a = some y → y ≤ x
  | [], s => by simp [mxo]
  | a :: l, s => by
    have ih := mxo_le f x l ((f a).elim s (max s))
    have e : mxo f s (a :: l) = mxo f ((f a).elim s (max s)) l := rfl
    rw [e, ih]
    cases hf : f a with
    | none => simp [hf]
    | some y =>
      simp only [Option.elim_some, List.mem_cons, forall_eq_or_imp, hf, Option.some.injEq, forall_eq']
      constructor
      · rintro ⟨h1, h2⟩; exact ⟨by omega, by omega, h2⟩
      · rintro ⟨h1, h2, h3⟩; exact ⟨by omega, h3⟩
theorem mxo_ge {α : Type} (f : α → Option Int) (s : Int) (l : List α) : s ≤ mxo f s l := ((mxo_le f (mxo f s l) l s).1 (Int.le_refl _)).1
theorem mxo_mem {α : Type} (f : α → Option Int) (s : Int) (l : List α) {a : α} {y : Int} (ha : a ∈ l) (hf : f a = some y) : y ≤ mxo f s l := ((mxo_le f (mxo f s l) l s).1 (Int.le_refl _)).2 a ha y hf
theorem mxo_snoc {α : Type} (f : α → Option Int) (s : Int) (l : List α) (a : α) : mxo f s (l ++ [a]) = (f a).elim (mxo f s l) (max (mxo f s l)) := by unfold mxo; rw [List.foldl_append]; rfl
theorem mxo_congr {α : Type} {f g : α → Option Int} {s : Int} {l : List α} (h : ∀ a ∈ l, f a = g a) : mxo f s l = mxo g s l := by
  apply Int.le_antisymm
  · rw [mxo_le]; exact ⟨mxo_ge g s l, fun a ha y hy => mxo_mem g s l ha (by rw [← h a ha]; exact hy)⟩
  · rw [mxo_le]; exact ⟨mxo_ge f s l, fun a ha y hy => mxo_mem f s l ha (by rw [h a ha]; exact hy)⟩

abbrev Tab := Ref → Int
def upd (T : Tab) (u : Ref) (x : Int) : Tab := fun v => if v = u then x else T v
def secs (step : Tab → Ref → Int) (T : Tab) (L : List Ref) : Tab := L.foldl (fun T u => upd T u (step T u)) T
theorem secs_snoc (step : Tab → Ref → Int) (T : Tab) (L : List Ref) (u : Ref) : secs step T (L ++ [u]) = upd (secs step T L) u (step (secs step T L) u) := by unfold secs; rw [List.foldl_append]; rfl
theorem secs_out (step : Tab → Ref → Int) {x : Ref} : ∀ (L : List Ref) (T : Tab), x ∉ L → secs step T L x = T x
  | [], _, _ => rfl
  | u :: L, T, h => by
    have e : secs step T (u :: L) = secs step (upd T u (step T u)) L := rfl
    rw [e, secs_out step L _ (fun h' => h (by simp [h']))]
    unfold upd
    rw [if_neg (fun e => h (by simp [e]))]
def Dep (step : Tab → Ref → Int) (L : List Ref) : Prop := ∀ (j : Nat) (u : Ref), L[j]? = some u → ∀ T T' : Tab, (∀ x ∈ L.take j, T x = T' x) → step T u = step T' u
theorem secs_take (step : Tab → Ref → Int) (T : Tab) (L : List Ref) (hnd : L.Nodup) (j : Nat) : ∀ x ∈ L.take j, secs step T (L.take j) x = secs step T L x := by
  intro x hx
  have e : secs step T L = secs step (secs step T (L.take j)) (L.drop j) := by
    unfold secs
    rw [← List.foldl_append, List.take_append_drop]
  rw [e]
  symm
  apply secs_out
  intro hd
  have hn : (L.take j ++ L.drop j).Nodup := by rw [List.take_append_drop]; exact hnd
  exact (List.nodup_append.1 hn).2.2 x hx x hd rfl
theorem take_succ' {α : Type} {l : List α} {j : Nat} {u : α} (h : l[j]? = some u) : l.take (j + 1) = l.take j ++ [u] := by rw [List.take_add_one, h]; rfl
theorem secs_fix {step : Tab → Ref → Int} {T : Tab} {L : List Ref} (hnd : L.Nodup) (hd : Dep step L) : ∀ u ∈ L, secs step T L u = step (secs step T L) u := by
  intro u hu
  obtain ⟨j, hj, hu⟩ := List.getElem_of_mem hu
  have hj' : L[j]? = some u := by rw [List.getElem?_eq_getElem hj, hu]
  have h1 := secs_take step T L hnd (j + 1) u (by rw [take_succ' hj']; simp)
  rw [← h1, take_succ' hj', secs_snoc]
  unfold upd
  rw [if_pos rfl]
  exact hd j u hj' _ _ (secs_take step T L hnd j)
theorem fix_unique {step : Tab → Ref → Int} {T T' : Tab} {L : List Ref} (hd : Dep step L) (h1 : ∀ u ∈ L, T u = step T u) (h2 : ∀ u ∈ L, T' u = step T' u) : ∀ u ∈ L, T u = T' u := by
  have key : ∀ j, ∀ x ∈ L.take j, T x = T' x := by
    intro j
    induction j with
    | zero => intro x hx; simp at hx
    | succ j ih =>
      intro x hx
      by_cases hl : j < L.length
      · have hj : L[j]? = some L[j] := List.getElem?_eq_getElem hl
        rw [take_succ' hj] at hx
        rcases List.mem_append.1 hx with hx | hx
        · exact ih x hx
        · simp at hx; subst hx
          rw [h1 _ (List.getElem_mem _), h2 _ (List.getElem_mem _)]
          exact hd j _ hj _ _ ih
      · rw [List.take_of_length_le (by omega)] at hx
        exact ih x (by rw [List.take_of_length_le (by omega)]; exact hx)
  intro u hu
  exact key L.length u (by rw [List.take_length]; exact hu)

theorem done_set {now : List Int} {t : Nat} (ht : t < now.length) {x : Ref} (hx : 0 ≤ x.tr) : doneR (now.set t (nowAt now t + 1)) x = true ↔ doneR now x = true ∨ x = ⟨(t : Int), nowAt now t + 1⟩ := by
  unfold doneR
  rw [decide_eq_true_eq, decide_eq_true_eq, nowAt_set ht]
  by_cases e : t = x.tr.toNat
  · rw [if_pos e, ← e]
    constructor
    · intro h
      by_cases h2 : x.st ≤ nowAt now t
      · exact .inl h2
      · right
        cases x
        simp only at *
        simp; omega
    · rintro (h | h)
      · omega
      · rw [h]; simp
  · rw [if_neg e]
    constructor
    · exact .inl
    · rintro (h | h)
      · exact h
      · rw [h] at e; simp at e
theorem lineFrom_mem {ps : List (List Stage)} {go : List Int → Option Nat} (hs : Sound ps go) : ∀ (f : Nat) (now : List Int), Gd ps now →
    (∀ x : Ref, 0 ≤ x.tr → (doneR (lineFrom go f now).2 x = true ↔ doneR now x = true ∨ x ∈ (lineFrom go f now).1)) ∧ (∀ x ∈ (lineFrom go f now).1, 0 ≤ x.tr ∧ doneR now x = false) ∧ (lineFrom go f now).1.Nodup
  | 0, now, _ => by simp [lineFrom]
  | f + 1, now, hg => by
    simp only [lineFrom]
    cases e : go now with
    | none => simp
    | some t =>
      obtain ⟨h1, h2⟩ := hs now t e
      obtain ⟨i1, i2, i3⟩ := lineFrom_mem hs f _ (hg.step h1 h2)
      have hl : t < now.length := by rw [hg.1]; exact h1
      refine ⟨fun x hx => ?_, fun x hx => ?_, ?_⟩
      · simp only []
        rw [i1 x hx, done_set hl hx, List.mem_cons, or_assoc]
      · simp only [List.mem_cons] at hx
        rcases hx with rfl | hx
        · refine ⟨by simp, ?_⟩
          unfold doneR; simp; omega
        · obtain ⟨j1, j2⟩ := i2 x hx
          refine ⟨j1, ?_⟩
          cases hd : doneR now x with
          | false => rfl
          | true => rw [(done_set hl j1).2 (.inl hd)] at j2; exact absurd j2 (by simp)
      · simp only [List.nodup_cons]
        refine ⟨fun hm => ?_, i3⟩
        have := (i2 _ hm).2
        rw [(done_set hl (by simp)).2 (.inr rfl)] at this
        exact absurd this (by simp)
theorem lineFrom_dep {ps : List (List Stage)} {go : List Int → Option Nat} (hs : Sound ps go) : ∀ (f : Nat) (now : List Int), Gd ps now → ∀ (j : Nat) (u : Ref), (lineFrom go f now).1[j]? = some u →
    ∃ (nj : List Int) (t : Nat), Gd ps nj ∧ go nj = some t ∧ u = ⟨(t : Int), nowAt nj t + 1⟩ ∧ ∀ x : Ref, 0 ≤ x.tr → doneR nj x = true → doneR now x = true ∨ x ∈ (lineFrom go f now).1.take j
  | 0, now, _, j, u, h => by simp [lineFrom] at h
  | f + 1, now, hg, j, u, h => by
    simp only [lineFrom] at h ⊢
    cases e : go now with
    | none => rw [e] at h; simp at h
    | some t =>
      rw [e] at h
      obtain ⟨h1, h2⟩ := hs now t e
      have hl : t < now.length := by rw [hg.1]; exact h1
      cases j with
      | zero =>
        simp at h
        exact ⟨now, t, hg, e, h.symm, fun x _ hd => .inl hd⟩
      | succ j =>
        simp only [List.getElem?_cons_succ] at h
        obtain ⟨nj, t', i1, i2, i3, i4⟩ := lineFrom_dep hs f _ (hg.step h1 h2) j u h
        refine ⟨nj, t', i1, i2, i3, fun x hx hd => ?_⟩
        rcases i4 x hx hd with hd | hd
        · rcases (done_set hl hx).1 hd with hd | hd
          · exact .inl hd
          · right; simp [hd]
        · right; simp [hd]

theorem valid_clk {ps : List (List Stage)} (hv : valid ps = true) {t k : Nat} {p : List Stage} {s : Stage} (hp : ps[t]? = some p) (hs : p[k]? = some s) : (0 ≤ s.mn ∧ s.mn ≤ 4194304) ∧ 0 ≤ s.nt ∧ s.nt ≤ 4194304 := by
  have h := valid_stage hv (List.mem_of_getElem? hp) (List.mem_of_getElem? hs)
  simp only [stageOk, Bool.and_eq_true, isClk, decide_eq_true_eq] at h
  exact ⟨h.2.1, h.2.2⟩
/-- seconds -/
def baseS (ps : List (List Stage)) (n : Int) (u : Ref) : Int := ((((ps[u.tr.toNat]?).getD [])[u.st.toNat]?).elim n fun s => max n s.nt)
def valG (ps : List (List Stage)) (at_ : List Int) (n : Int) (T : Tab) (u : Ref) (a : GArc) : Option Int :=
  if doneR at_ (evAt ps a.frm.toNat) = false then some (T (evAt ps a.frm.toNat) + a.wt) else if (evAt ps a.frm.toNat).tr = u.tr then some (n + a.wt) else none
def valR (at_ : List Int) (n : Int) (T : Tab) (u : Ref) (a : RArc) : Option Int :=
  if a.to = u then (if doneR at_ a.frm = false then some (T a.frm + a.wt) else if a.frm.tr = u.tr ∧ a.frm.st = nowAt at_ u.tr.toNat ∧ a.frm.st + 1 = u.st then some (n + a.wt) else none) else none
def rowG (ps : List (List Stage)) (os : List Order) (u : Ref) : List GArc := arcsAt (arcsOf (evs ps).length (gAdds ps os)) (num ps u)
def stepG (ps : List (List Stage)) (os : List Order) (at_ : List Int) (n : Int) (T : Tab) (u : Ref) : Int := mxo (valG ps at_ n T u) (baseS ps n u) (rowG ps os u)
def stepR (ps : List (List Stage)) (arcs : List RArc) (at_ : List Int) (n : Int) (T : Tab) (u : Ref) : Int := mxo (valR at_ n T u) (baseS ps n u) arcs
def tabG (ps : List (List Stage)) (os : List Order) (at_ : List Int) (n : Int) : Tab := secs (stepG ps os at_ n) (fun _ => -1) (runP ps os at_).1
def initR (at_ : List Int) (n : Int) : Tab := fun x => if doneR at_ x = true then -1 else n
def tabR (ps : List (List Stage)) (os : List Order) (at_ : List Int) (n : Int) : Tab := secs (stepR ps (refArcs ps os) at_ n) (initR at_ n) (runP ps os at_).1

/-- the program's arcs to an event, in terms of the paths and orders -/
theorem mem_rowG {ps : List (List Stage)} {os : List Order} (hck : checkO ps os = true) {t k : Nat} {p : List Stage} (hp : ps[t]? = some p) (hk : k ≤ p.length) {a : GArc} :
    a ∈ rowG ps os ⟨(t : Int), (k : Int)⟩ ↔ (∃ (k' : Nat) (s : Stage), k = k' + 1 ∧ p[k']? = some s ∧ a = ⟨((num ps ⟨(t : Int), (k' : Int)⟩ : Nat) : Int), s.mn⟩) ∨
      (∃ o ∈ os, ∃ (j : Nat) (w : Ref), o.uses[j]? = some ⟨(t : Int), (k : Int)⟩ ∧ Last (o.uses.take j) w ∧ w.tr ≠ (t : Int) ∧ a = ⟨((num ps (relOf ps o.res w) : Nat) : Int), 0⟩) := by
  have hlt := (evAt_num hp hk).2
  have hrow := arcsOf_at (evs ps).length (gAdds ps os) hlt
  have hnum : num ps ⟨(t : Int), (k : Int)⟩ = fst ps t + k := by simp [num]
  obtain ⟨_, _, hf⟩ := checkO_facts hck
  have hm : a ∈ rowG ps os ⟨(t : Int), (k : Int)⟩ ↔ (num ps ⟨(t : Int), (k : Int)⟩, a) ∈ gAdds ps os := by
    unfold rowG arcsAt
    rw [hrow]
    exact mem_arcsOf hrow
  rw [hm]
  unfold gAdds
  rw [List.mem_append]
  constructor
  · rintro (hq | hq)
    · left
      unfold chainAdds at hq
      obtain ⟨⟨p', t'⟩, hp', hq⟩ := List.mem_flatMap.1 hq
      have hp' := List.mem_zipIdx_iff_getElem?.1 hp'
      unfold chainP at hq
      obtain ⟨⟨s', k'⟩, hs', he⟩ := List.mem_map.1 hq
      have hs' := List.mem_zipIdx_iff_getElem?.1 hs'
      injection he with he1 he2
      have hkl := getElem?_lt hs'
      simp only at he1 he2 hp' hs' hkl
      have hinj := fst_inj hp' hp (k := k' + 1) (m := k) (by omega) hk (by rw [← hnum, ← he1]; rfl)
      obtain ⟨rfl, rfl⟩ := hinj
      rw [hp] at hp'; injection hp' with hp'; subst hp'
      exact ⟨k', s', rfl, hs', by rw [← he2]; simp [num]⟩
    · right
      obtain ⟨o, ho, hq⟩ := List.mem_flatMap.1 hq
      obtain ⟨hin, _, hbef⟩ := hf o ho
      unfold orderAdds at hq
      rw [mem_useAdds o.uses [] _ (RelOf.nil ps o.res) (by simpa using hbef) (by simpa using hin)] at hq
      obtain ⟨j, v, w', hv, hiv, hL, hne, rfl⟩ := hq
      have hL : Last (o.uses.take j) w' := by simpa using hL
      obtain ⟨tv, kv, pv, sv, hpv, hsv, _, rfl⟩ := mem_allU.1 (hin v (List.mem_of_getElem? hv))
      have hkl := getElem?_lt hsv
      have hinj := fst_inj hpv hp (k := kv) (m := k) (by omega) hk (by rw [← hnum, hiv]; simp [num])
      obtain ⟨rfl, rfl⟩ := hinj
      exact ⟨o, ho, j, w', hv, hL, hne, rfl⟩
  · rintro (⟨k', s, rfl, hs, rfl⟩ | ⟨o, ho, j, w, hv, hL, hne, rfl⟩)
    · left
      unfold chainAdds
      refine List.mem_flatMap.2 ⟨(p, t), List.mem_zipIdx_iff_getElem?.2 hp, ?_⟩
      unfold chainP
      refine List.mem_map.2 ⟨(s, k'), List.mem_zipIdx_iff_getElem?.2 hs, ?_⟩
      simp [num, Nat.add_assoc]
    · right
      obtain ⟨hin, _, hbef⟩ := hf o ho
      refine List.mem_flatMap.2 ⟨o, ho, ?_⟩
      unfold orderAdds
      rw [mem_useAdds o.uses [] _ (RelOf.nil ps o.res) (by simpa using hbef) (by simpa using hin)]
      exact ⟨j, _, w, hv, rfl, by simpa using hL, hne, rfl⟩
theorem rel_event {ps : List (List Stage)} {r : Int} {w : Ref} (hw : w ∈ allU ps r) : ∃ (t k : Nat) (p : List Stage), ps[t]? = some p ∧ k ≤ p.length ∧ relOf ps r w = ⟨(t : Int), (k : Int)⟩ ∧ w.tr = (t : Int) := by
  obtain ⟨tw, kw, pw, sw, hpw, hsw, _, rfl⟩ := mem_allU.1 hw
  have h2 := getElem?_lt hsw
  have hrel := relOf_range (ps := ps) (r := r) (t := tw) (k := kw)
  cases hq : relOf ps r ⟨(tw : Int), (kw : Int)⟩ with
  | mk x y =>
    rw [hq] at hrel
    simp only at hrel
    obtain ⟨rfl, h | h⟩ := hrel
    · exact ⟨tw, kw, pw, hpw, by omega, by rw [h], rfl⟩
    · exact ⟨tw, kw + 1, pw, hpw, by omega, by rw [h]; simp, rfl⟩
theorem evAt_num' {ps : List (List Stage)} {t k : Nat} {p : List Stage} (hp : ps[t]? = some p) (hk : k ≤ p.length) : evAt ps (((num ps ⟨(t : Int), (k : Int)⟩ : Nat) : Int)).toNat = ⟨(t : Int), (k : Int)⟩ := (evAt_num hp hk).1

/-- a complete line -/
structure Full (ps : List (List Stage)) (os : List Order) (at_ : List Int) (L : List Ref) : Prop where
  nd : L.Nodup
  ev : ∀ u ∈ L, ∃ (t k : Nat) (p : List Stage), ps[t]? = some p ∧ k ≤ p.length ∧ u = ⟨(t : Int), (k : Int)⟩
  notAt : ∀ u ∈ L, doneR at_ u = false
  all : ∀ (t k : Nat) (p : List Stage), ps[t]? = some p → k ≤ p.length → doneR at_ ⟨(t : Int), (k : Int)⟩ = false → (⟨(t : Int), (k : Int)⟩ : Ref) ∈ L
  depR : ∀ (j : Nat) (u : Ref), L[j]? = some u → ∀ a ∈ refArcs ps os, a.to = u → doneR at_ a.frm = true ∨ a.frm ∈ L.take j
  depG : ∀ (j : Nat) (u : Ref), L[j]? = some u → ∀ a ∈ rowG ps os u, doneR at_ (evAt ps a.frm.toNat) = true ∨ evAt ps a.frm.toNat ∈ L.take j
theorem full_of {ps : List (List Stage)} {os : List Order} {at_ : List Int} (hck : checkO ps os = true) (hgd : good ps at_ = true) (hok : okP ps os at_ = true) : Full ps os at_ (runP ps os at_).1 := by
  have hg := good_Gd.1 hgd
  have hs := readyP_sound ps (arcsOf (evs ps).length (gAdds ps os))
  obtain ⟨m1, m2, m3⟩ := lineFrom_mem hs 1000 at_ hg
  have hinv := lineFrom_inv hs 1000 at_ hg
  have hrefs := lineFrom_refs hs 1000 at_ hg
  have hdep := lineFrom_dep hs 1000 at_ hg
  simp only [okP, Bool.and_eq_true, Bool.not_eq_true'] at hok
  have htot := (doneL_total (now := (runP ps os at_).2) hinv.1).1 hok.1
  have hfull := (total_zero (now := (runP ps os at_).2) hinv.1).1 htot
  refine ⟨m3, hrefs, fun u hu => (m2 u hu).2, fun t k p hp hk hd => ?_, fun j u hj a ha hto => ?_, fun j u hj a ha => ?_⟩
  · have h1 : doneR (runP ps os at_).2 ⟨(t : Int), (k : Int)⟩ = true := by
      unfold doneR
      rw [decide_eq_true_eq]
      have := hfull t (getElem?_lt hp)
      rw [lenAt_of hp] at this
      simp only [Int.toNat_natCast]
      omega
    rcases (m1 ⟨(t : Int), (k : Int)⟩ (by simp)).1 h1 with h | h
    · rw [h] at hd; exact absurd hd (by simp)
    · exact h
  · obtain ⟨nj, t, i1, i2, i3, i4⟩ := hdep j u hj
    obtain ⟨_, ⟨tf, kf, pf, hpf, hkf, hfe⟩⟩ := refArcs_ends hck ha
    apply i4 a.frm (by rw [hfe]; simp)
    rw [readyP_goR hck i1] at i2
    unfold goR at i2
    have h2 := List.find?_some i2
    simp only [goC, Bool.and_eq_true, decide_eq_true_eq] at h2
    have h3 := List.all_eq_true.1 h2.2 a ha
    rw [hto, i3] at h3
    simpa using h3
  · obtain ⟨nj, t, i1, i2, i3, i4⟩ := hdep j u hj
    obtain ⟨tu, ku, pu, hpu, hku, rfl⟩ := hrefs u (List.mem_of_getElem? hj)
    have hev : ∃ (t k : Nat) (p : List Stage), ps[t]? = some p ∧ k ≤ p.length ∧ evAt ps a.frm.toNat = ⟨(t : Int), (k : Int)⟩ := by
      rcases (mem_rowG hck hpu hku).1 ha with ⟨k', s, rfl, hs', rfl⟩ | ⟨o, ho, j', w, hv, hL, hne, rfl⟩
      · exact ⟨tu, k', pu, hpu, by omega, evAt_num' hpu (by omega)⟩
      · obtain ⟨_, _, hf⟩ := checkO_facts hck
        obtain ⟨tw, kw, pw, hpw, hkw, he, _⟩ := rel_event ((hf o ho).1 w (List.mem_of_mem_take hL.1))
        exact ⟨tw, kw, pw, hpw, hkw, by rw [he]; exact evAt_num' hpw hkw⟩
    obtain ⟨tf, kf, pf, hpf, hkf, hfe⟩ := hev
    apply i4 _ (by rw [hfe]; simp)
    unfold readyP at i2
    have h2 := List.find?_some i2
    simp only [canGo, Bool.and_eq_true, decide_eq_true_eq] at h2
    have h3 := List.all_eq_true.1 h2.2 a (by
      have ht : tu = t := by injection i3 with e1 e2; omega
      subst ht
      have hk : (ku : Int) = nowAt nj tu + 1 := by injection i3
      have hn : ((fst ps tu : Int) + nowAt nj tu + 1).toNat = num ps ⟨(tu : Int), (ku : Int)⟩ := by unfold num; simp; omega
      rw [hn]; exact ha)
    exact h3
section
variable {ps : List (List Stage)} {os : List Order} {at_ : List Int} {L : List Ref} {n : Int}
theorem Full.dG (h : Full ps os at_ L) : Dep (stepG ps os at_ n) L := by
  intro j u hj T T' he
  unfold stepG
  apply mxo_congr
  intro a ha
  unfold valG
  rcases h.depG j u hj a ha with h1 | h1
  · simp [h1]
  · rw [he _ h1]
theorem Full.dR (h : Full ps os at_ L) : Dep (stepR ps (refArcs ps os) at_ n) L := by
  intro j u hj T T' he
  unfold stepR
  apply mxo_congr
  intro a ha
  unfold valR
  by_cases e : a.to = u
  · rcases h.depR j u hj a ha e with h1 | h1
    · simp [h1]
    · rw [he _ h1]
  · simp [e]
/-- seconds never fall along a train -/
theorem Full.mono (h : Full ps os at_ L) (hck : checkO ps os = true) {T : Tab} (hT : ∀ u ∈ L, T u = stepG ps os at_ n T u) {t : Nat} {p : List Stage} (hp : ps[t]? = some p) {k : Nat} (hd : doneR at_ ⟨(t : Int), (k : Int)⟩ = false) : ∀ m : Nat, k + m ≤ p.length → T ⟨(t : Int), (k : Int)⟩ ≤ T ⟨(t : Int), ((k + m : Nat) : Int)⟩
  | 0, _ => Int.le_refl _
  | m + 1, hm => by
    have ih := Full.mono h hck hT hp hd m (by omega)
    refine Int.le_trans ih ?_
    have hd2 : ∀ i : Nat, k ≤ i → doneR at_ ⟨(t : Int), (i : Int)⟩ = false := fun i hi => by
      unfold doneR at hd ⊢
      simp only [decide_eq_false_iff_not] at hd ⊢
      omega
    have hmem := h.all t (k + m + 1) p hp (by omega) (hd2 _ (by omega))
    have hs : p[k + m]? = some p[k + m] := List.getElem?_eq_getElem (by omega)
    have harc := (mem_rowG hck hp (k := k + m + 1) (by omega)).2 (.inl ⟨k + m, p[k + m], rfl, hs, rfl⟩)
    have hval : valG ps at_ n T ⟨(t : Int), ((k + m + 1 : Nat) : Int)⟩ ⟨((num ps ⟨(t : Int), ((k + m : Nat) : Int)⟩ : Nat) : Int), p[k + m].mn⟩ = some (T ⟨(t : Int), ((k + m : Nat) : Int)⟩ + p[k + m].mn) := by
      unfold valG
      rw [evAt_num' hp (by omega), if_pos (hd2 _ (by omega))]
    have hle := mxo_mem (valG ps at_ n T ⟨(t : Int), ((k + m + 1 : Nat) : Int)⟩) (baseS ps n ⟨(t : Int), ((k + m + 1 : Nat) : Int)⟩) (rowG ps os ⟨(t : Int), ((k + m + 1 : Nat) : Int)⟩) harc hval
    have hmn : 0 ≤ p[k + m].mn := by
      have hv := (checkO_facts hck).1
      exact (valid_clk hv hp hs).1.1
    have hfix := hT _ hmem
    unfold stepG at hfix
    rw [show k + (m + 1) = k + m + 1 from rfl, hfix]
    omega
theorem Full.step_eq (h : Full ps os at_ L) (hck : checkO ps os = true) {T : Tab} (hT : ∀ u ∈ L, T u = stepG ps os at_ n T u) {u : Ref} (hu : u ∈ L) : stepG ps os at_ n T u = stepR ps (refArcs ps os) at_ n T u := by
  obtain ⟨t, k, p, hp, hk, rfl⟩ := h.ev u hu
  have hnu := h.notAt _ hu
  obtain ⟨_, _, hf⟩ := checkO_facts hck
  unfold stepG stepR
  apply Int.le_antisymm
  · rw [mxo_le]
    refine ⟨mxo_ge _ _ _, fun a ha y hy => ?_⟩
    rcases (mem_rowG hck hp hk).1 ha with ⟨k', s, rfl, hs, rfl⟩ | ⟨o, ho, j, w, hv, hL, hne, rfl⟩
    · refine mxo_mem _ _ _ (a := ⟨⟨(t : Int), (k' : Int)⟩, ⟨(t : Int), (k' : Int) + 1⟩, s.mn⟩) (List.mem_append_left _ (mem_chainR.2 ⟨t, k', p, s, hp, hs, rfl⟩)) ?_
      unfold valG at hy
      rw [evAt_num' hp (by omega)] at hy
      unfold valR
      rw [if_pos (by simp)]
      by_cases hd : doneR at_ ⟨(t : Int), (k' : Int)⟩ = false
      · rw [if_pos hd] at hy ⊢; exact hy
      · rw [if_neg hd, if_pos rfl] at hy
        have hc : (k' : Int) = nowAt at_ t := by
          unfold doneR at hd hnu
          simp only [decide_eq_false_iff_not, Int.toNat_natCast] at hd hnu
          omega
        rw [if_neg hd, if_pos ⟨rfl, hc, by simp⟩]
        exact hy
    · obtain ⟨tw, kw, pw, hpw, hkw, he, htw⟩ := rel_event ((hf o ho).1 w (List.mem_of_mem_take hL.1))
      refine mxo_mem _ _ _ (a := betw ps o.res w ⟨(t : Int), (k : Int)⟩) (List.mem_append_right _ (List.mem_flatMap.2 ⟨o, ho, mem_orderR.2 ⟨j, _, w, hv, hL.1, hne, rfl⟩⟩)) ?_
      unfold valG at hy
      rw [he, evAt_num' hpw hkw] at hy
      unfold valR betw
      rw [he, if_pos rfl]
      by_cases hd : doneR at_ ⟨(tw : Int), (kw : Int)⟩ = false
      · rw [if_pos hd] at hy ⊢; exact hy
      · rw [if_neg hd, if_neg (by show ¬ (tw : Int) = (t : Int); rw [← htw]; exact hne)] at hy; cases hy
  · rw [mxo_le]
    refine ⟨mxo_ge _ _ _, fun a ha y hy => ?_⟩
    unfold valR at hy
    by_cases e : a.to = ⟨(t : Int), (k : Int)⟩
    · rw [if_pos e] at hy
      unfold refArcs at ha
      rcases List.mem_append.1 ha with ha | ha
      · obtain ⟨t', k', p', s', hp', hs', rfl⟩ := mem_chainR.1 ha
        injection e with e1 e2
        have ht : t' = t := by omega
        subst ht
        rw [hp] at hp'; injection hp' with hp'; subst hp'
        have hk' : k = k' + 1 := by omega
        subst hk'
        refine mxo_mem _ _ _ (a := ⟨((num ps ⟨(t' : Int), (k' : Int)⟩ : Nat) : Int), s'.mn⟩) ((mem_rowG hck hp hk).2 (.inl ⟨k', s', rfl, hs', rfl⟩)) ?_
        unfold valG
        rw [evAt_num' hp (by omega)]
        by_cases hd : doneR at_ ⟨(t' : Int), (k' : Int)⟩ = false
        · rw [if_pos hd] at hy ⊢; exact hy
        · rw [if_neg hd] at hy ⊢
          rw [if_pos rfl]
          split at hy
          · exact hy
          · cases hy
      · obtain ⟨o, ho, ha⟩ := List.mem_flatMap.1 ha
        obtain ⟨j, v, w, hv, hw, hne, rfl⟩ := mem_orderR.1 ha
        have e : v = ⟨(t : Int), (k : Int)⟩ := e
        subst e
        have hy : (if doneR at_ (relOf ps o.res w) = false then some (T (relOf ps o.res w) + 0) else if (relOf ps o.res w).tr = (t : Int) ∧ (relOf ps o.res w).st = nowAt at_ (t : Int).toNat ∧ (relOf ps o.res w).st + 1 = (k : Int) then some (n + 0) else none) = some y := hy
        have hin2 : ∀ u ∈ o.uses.take j, u ∈ allU ps o.res := fun u hu => (hf o ho).1 u (List.mem_of_mem_take hu)
        obtain ⟨w', hL, htr, hst⟩ := last_of (o.uses.take j) hin2 w hw
        obtain ⟨tw, kw, pw, hpw, hkw, he, htw⟩ := rel_event (hin2 w hw)
        obtain ⟨tw', kw', pw', hpw', hkw', he', htw'⟩ := rel_event (hin2 w' hL.1)
        have htt : tw' = tw := by rw [htw, htw'] at htr; omega
        subst htt
        rw [hpw'] at hpw; injection hpw with hpw; subst hpw
        have hle := relOf_le (ps := ps) (r := o.res) htr.symm hst
        rw [he, he'] at hle
        simp only at hle
        rw [he] at hy
        by_cases hd : doneR at_ ⟨(tw' : Int), (kw : Int)⟩ = false
        · rw [if_pos hd] at hy
          have hd' : doneR at_ ⟨(tw' : Int), (kw' : Int)⟩ = false := by
            unfold doneR at hd ⊢
            simp only [decide_eq_false_iff_not] at hd ⊢
            omega
          have hm := h.mono hck hT hpw' hd (kw' - kw) (by omega)
          rw [show kw + (kw' - kw) = kw' from by omega] at hm
          refine Int.le_trans ?_ (mxo_mem (valG ps at_ n T ⟨(t : Int), (k : Int)⟩) _ _ (a := ⟨((num ps (relOf ps o.res w') : Nat) : Int), 0⟩) (y := T ⟨(tw' : Int), (kw' : Int)⟩ + 0) ((mem_rowG hck hp hk).2 (.inr ⟨o, ho, j, w', hv, hL, by rw [htr]; exact hne, rfl⟩)) ?_)
          · injection hy with hy; omega
          · unfold valG
            rw [he', evAt_num' hpw' hkw', if_pos hd']
        · rw [if_neg hd, if_neg (by rintro ⟨e1, _⟩; exact hne (by rw [htw]; exact e1))] at hy; cases hy
    · rw [if_neg e] at hy; cases hy
/-- the program's seconds satisfy the reference's equation, and they are the reference's -/
theorem tabG_fix (hck : checkO ps os = true) (hgd : good ps at_ = true) (hok : okP ps os at_ = true) : ∀ u ∈ (runP ps os at_).1, tabG ps os at_ n u = stepR ps (refArcs ps os) at_ n (tabG ps os at_ n) u := by
  have hF := full_of hck hgd hok
  have hfix := secs_fix (T := fun _ => -1) hF.nd (hF.dG (n := n))
  intro u hu
  have h1 := hF.step_eq hck hfix hu
  unfold tabG
  rw [← h1]
  exact hfix u hu
theorem tabG_tabR (hck : checkO ps os = true) (hgd : good ps at_ = true) (hok : okP ps os at_ = true) {t k : Nat} {p : List Stage} (hp : ps[t]? = some p) (hk : k ≤ p.length) : tabG ps os at_ n ⟨(t : Int), (k : Int)⟩ = tabR ps os at_ n ⟨(t : Int), (k : Int)⟩ := by
  have hF := full_of hck hgd hok
  by_cases hm : (⟨(t : Int), (k : Int)⟩ : Ref) ∈ (runP ps os at_).1
  · exact fix_unique hF.dR (tabG_fix hck hgd hok) (secs_fix hF.nd hF.dR) _ hm
  · unfold tabG tabR
    rw [secs_out _ _ _ hm, secs_out _ _ _ hm]
    unfold initR
    cases hd : doneR at_ ⟨(t : Int), (k : Int)⟩ with
    | true => simp
    | false => exact absurd (hF.all t k p hp hk hd) hm
theorem tabG_done (hck : checkO ps os = true) (hgd : good ps at_ = true) (hok : okP ps os at_ = true) {u : Ref} (hd : doneR at_ u = true) : tabG ps os at_ n u = -1 := by
  have hF := full_of hck hgd hok
  unfold tabG
  rw [secs_out]
  intro hm
  have := hF.notAt u hm
  rw [hd] at this; cases this
end

end Go.Proofs.YtcbpiidbkjaneaaGreat
