/- Trains that follow their orders: after any number of events of a line the rest of it is the line, and no two trains hold the same section. No program in sight. The size of a table of labels: it grows with each merge that changes something, and it is bounded. No program in sight. Insertion by the order (second, train, stage) gives what the reference sorts. No program in sight. The orders of a complete choice: sorted by the decisions. No program in sight. What choosing one more pair does to the labels, and the labels without any chosen pair. No program in sight. -/
import Derived.Test.YtilbbpbjhoidhaaE09
import Derived.Test.YtilbbpbjhoidhaaE08
import Derived.Test.YtilbbpbjhoidhaaE12
namespace Go.Proofs.Ytilbbpbjhoidhaa
open Go.RowKit

def AgreeP (ps : List (List Stage)) (os : List Order) (now : List Int) : Prop := ∀ (t k : Nat) (p : List Stage), ps[t]? = some p → k ≤ p.length → (k : Int) ≤ nowAt now t → ∀ a ∈ rowG ps os ⟨(t : Int), (k : Int)⟩, doneR now (evAt ps a.frm.toNat) = true
theorem evAt_tr (ps : List (List Stage)) (i : Nat) : 0 ≤ (evAt ps i).tr := by
 unfold evAt
 cases h : (evs ps)[i]? with
 | none => simp
 | some u =>
  have hm := List.mem_of_getElem? h
  unfold evs at hm
  obtain ⟨q, _, hq⟩ := List.mem_flatMap.1 hm
  obtain ⟨k, _, rfl⟩ := List.mem_map.1 hq
  simp
theorem AgreeP.step {ps : List (List Stage)} {os : List Order} {now : List Int} (hg : Gd ps now) (h : AgreeP ps os now) {t : Nat} (ht : t < ps.length) (hc : canGo ps (arcsOf (evs ps).length (gAdds ps os)) now t = true) : AgreeP ps os (now.set t (nowAt now t + 1)) := by
 have hl : t < now.length := by rw [hg.1]; exact ht
 have hG := hg.2 t ht
 intro u k p hp hk hd a ha
 have hd2 : doneR (now.set t (nowAt now t + 1)) ⟨(u : Int), (k : Int)⟩ = true := by unfold doneR; simpa using hd
 have hdone : doneR now (evAt ps a.frm.toNat) = true := by
  rcases (done_set hl (by simp)).1 hd2 with h1 | h1
  ·exact h u k p hp hk (by unfold doneR at h1; simpa using h1) a ha
  ·simp only [Ref.mk.injEq] at h1
   have hu : u = t := by omega
   subst hu
   simp only [canGo, Bool.and_eq_true, decide_eq_true_eq, List.all_eq_true] at hc
   refine hc.2 a ?_
   unfold rowG num at ha
   simp only [Int.toNat_natCast] at ha
   rw [show ((fst ps u : Int) + nowAt now u + 1).toNat = fst ps u + k from by omega]
   exact ha
 exact (done_set hl (evAt_tr _ _)).2 (.inl hdone)

theorem nodup_leR {l m : List Ref} (hl : l.Nodup) (h : ∀ x ∈ l, x ∈ m) : l.length ≤ m.length := by
 induction l generalizing m with
 | nil => simp
 | cons a l ih =>
  obtain ⟨ha, hl⟩ := List.nodup_cons.1 hl
  have hm := h a (by simp)
  have := ih (m := m.erase a) hl (fun x hx => by
   have hx' := h x (by simp [hx])
   exact (List.mem_erase_of_ne (by rintro rfl; exact ha hx)).2 hx')
  rw [List.length_erase_of_mem hm] at this
  have := List.length_pos_of_mem hm
  simp; omega

def labAbs (l : Lab) : Nat := (l.sec + 1).toNat + ((List.range 10).map fun t => (l.bf t + 1).toNat).sum
def absT (T : LTab) (E : List Ref) : Nat := (E.map fun u => labAbs (T u)).sum
structure LabLe (l m : Lab) : Prop where
 sec : l.sec ≤ m.sec
 bf : ∀ t, t < 10 → l.bf t ≤ m.bf t
theorem sum_le_sum (f g : Nat → Nat) : ∀ n, (∀ t, t < n → f t ≤ g t) → ((List.range n).map f).sum ≤ ((List.range n).map g).sum
 | 0, _ => by simp
 | n + 1, h => by
  rw [List.range_succ, List.map_append, List.sum_append, List.map_append, List.sum_append]
  have h1 := sum_le_sum f g n (fun t ht => h t (by omega))
  have h2 := h n (by omega)
  simp only [List.map_cons, List.map_nil, List.sum_cons, List.sum_nil]
  omega
theorem sum_lt_sum (f g : Nat → Nat) : ∀ n, (∀ t, t < n → f t ≤ g t) → (∃ t, t < n ∧ f t < g t) → ((List.range n).map f).sum < ((List.range n).map g).sum
 | 0, _, h => by obtain ⟨t, h, _⟩ := h; omega
 | n + 1, h, h' => by
  rw [List.range_succ, List.map_append, List.sum_append, List.map_append, List.sum_append]
  have h1 := sum_le_sum f g n (fun t ht => h t (by omega))
  have h2 := h n (by omega)
  simp only [List.map_cons, List.map_nil, List.sum_cons, List.sum_nil]
  obtain ⟨t, ht, hlt⟩ := h'
  by_cases e : t = n
  ·subst e; omega
  ·have := sum_lt_sum f g n (fun t ht => h t (by omega)) ⟨t, by omega, hlt⟩
   omega
theorem labAbs_le {l m : Lab} (h : LabLe l m) : labAbs l ≤ labAbs m := by
 unfold labAbs
 have h1 := sum_le_sum (fun t => (l.bf t + 1).toNat) (fun t => (m.bf t + 1).toNat) 10 (fun t ht => by have := h.bf t ht; omega)
 have := h.sec
 omega
theorem labAbs_lt {l m : Lab} (h : LabLe l m) (hl : l.bef.length = 10) (hm : m.bef.length = 10) (h0 : -1 ≤ l.sec) (hb : ∀ t, t < 10 → -1 ≤ l.bf t) (hne : m ≠ l) : labAbs l < labAbs m := by
 unfold labAbs
 have h1 := sum_le_sum (fun t => (l.bf t + 1).toNat) (fun t => (m.bf t + 1).toNat) 10 (fun t ht => by have := h.bf t ht; omega)
 have hs := h.sec
 by_cases e : l.sec = m.sec
 ·have : ∃ t, t < 10 ∧ (l.bf t + 1).toNat < (m.bf t + 1).toNat := by
   apply Classical.byContradiction
   intro hn
   apply hne
   refine Lab.ext10 hm hl e.symm fun t ht => ?_
   have h2 := h.bf t ht
   have h3 := hb t ht
   apply Classical.byContradiction
   intro h4
   exact hn ⟨t, ht, by omega⟩
  have := sum_lt_sum (fun t => (l.bf t + 1).toNat) (fun t => (m.bf t + 1).toNat) 10 (fun t ht => by have := h.bf t ht; omega) this
  omega
 ·omega
theorem absT_upd {T : LTab} {l : Lab} {u : Ref} : ∀ {E : List Ref}, u ∈ E → labAbs (T u) ≤ labAbs l → absT T E + (labAbs l - labAbs (T u)) ≤ absT (updL T u l) E
 | [], h, _ => by simp at h
 | v :: E, h, hl => by
  unfold absT
  simp only [List.map_cons, List.sum_cons]
  have mono : ∀ E : List Ref, (E.map fun u => labAbs (T u)).sum ≤ (E.map fun v => labAbs (updL T u l v)).sum := by
   intro E
   induction E with
   | nil => simp
   | cons a E ih =>
    simp only [List.map_cons, List.sum_cons]
    by_cases e : a = u
    ·subst e; rw [updL_at]; omega
    ·rw [updL_ne _ _ e]; omega
  by_cases e : v = u
  ·subst e
   rw [updL_at]
   have := mono E
   omega
  ·rw [updL_ne _ _ e]
   rcases List.mem_cons.1 h with h | h
   ·exact absurd h.symm e
   ·have := absT_upd (T := T) (l := l) h hl
    unfold absT at this
    omega
theorem absT_bound {T : LTab} {B : Nat} : ∀ {E : List Ref}, (∀ u ∈ E, labAbs (T u) ≤ B) → absT T E ≤ E.length * B
 | [], _ => by simp [absT]
 | v :: E, h => by
  have h1 := h v (by simp)
  have h2 := absT_bound (T := T) (B := B) (E := E) (fun u hu => h u (by simp [hu]))
  unfold absT at *
  simp only [List.map_cons, List.sum_cons, List.length_cons]
  rw [Nat.succ_mul]
  omega
section
variable {ps : List (List Stage)} {at_ : List Int} {D : List RArc} {L : List Ref} {n : Int}
theorem merge_le (l o : Lab) (fr : Ref) (w : Int) : LabLe l (mergeL l o fr w) := ⟨by unfold mergeL; simp only; omega, fun t ht => by unfold mergeL; rw [bf_map _ _ ht]; omega⟩
theorem stepS_bd (hv : valid ps = true) (hD : DOk ps at_ D) (hn : 0 ≤ n ∧ n ≤ 4194304) (T : Tab) (B : Int) (u : Ref) (hB : 4194304 ≤ B) (h : Bd T B) : -1 ≤ stepS ps at_ D (baseN ps at_ n) phS T u ∧ stepS ps at_ D (baseN ps at_ n) phS T u ≤ B + 4194304 := by
 have hmn : ∀ t k : Nat, 0 ≤ mnAt ps t k ∧ mnAt ps t k ≤ 4194304 := fun t k => by
  unfold mnAt
  cases e1 : ps[t]? with
  | none => simp
  | some p =>
   simp only [Option.getD_some]
   cases e2 : p[k]? with
   | none => simp
   | some s => exact (valid_clk hv e1 e2).1
 have hb : 0 ≤ baseN ps at_ n u ∧ baseN ps at_ n u ≤ 8388608 := by
  unfold baseN base2
  have h1 := baseS_bd hv hn ⟨(u.tr.toNat : Int), (u.st.toNat : Int)⟩
  have h2 := hmn u.tr.toNat (u.st.toNat - 1)
  split <;> omega
 refine ⟨?_, ?_⟩
 ·have := mxo_ge (fun a => if a.to = u ∧ doneR at_ a.frm = false then some (phS a (T a.frm)) else none) (baseN ps at_ n u) (arcsD ps D)
  unfold stepS; omega
 ·unfold stepS
  rw [mxo_le]
  refine ⟨by omega, fun a ha y hy => ?_⟩
  have hw : a.wt ≤ 4194304 := by
   rcases List.mem_append.1 ha with ha | ha
   ·obtain ⟨t, k, p, s, hp, hs, rfl⟩ := mem_chainR.1 ha
    exact (valid_clk hv hp hs).1.2
   ·rw [hD.wt a ha]; omega
  split at hy
  ·injection hy with hy
   have := h a.frm
   unfold phS at hy
   omega
  ·cases hy
theorem secS_bd (hv : valid ps = true) (hD : DOk ps at_ D) (hn : 0 ≤ n ∧ n ≤ 4194304) (u : Ref) : -1 ≤ secS ps at_ n D L u ∧ secS ps at_ n D L u ≤ 4194304 + 4194304 * (L.length : Int) :=
 secs_bd (by omega) (fun T B u hB h => stepS_bd hv hD hn T B u hB h) L _ 4194304 (Int.le_refl _) (fun x => by unfold initR; split <;> omega) u
theorem befS_bd (hv : valid ps = true) (h : Topo ps at_ D L) (t : Int) (u : Ref) : -1 ≤ befS ps at_ D L t u ∧ befS ps at_ D L t u ≤ 64 := by
 by_cases hu : Ev ps at_ u
 ·refine ⟨(solS_sol (base := fun _ => -1) (ph := phB t) (init := fun _ => -1) h).base u hu, ?_⟩
  refine solS_least (T := fun _ => 64) h (phB_mono t) ⟨fun e _ => by omega, fun a ha h1 h2 => ?_⟩ hu
  unfold phB
  have h3 : a.frm.st ≤ 64 := by
   have hend : InR ps a.frm := by
    rcases List.mem_append.1 ha with ha' | ha'
    ·obtain ⟨t, k, p, s, hp, hs, rfl⟩ := mem_chainR.1 ha'
     have := getElem?_lt hs
     exact ⟨t, k, p, hp, by omega, rfl⟩
    ·rcases h.ord a ha h1 with h5 | h5
     ·rw [h2] at h5; cases h5
     ·exact ((h.mem _).1 h5.mem.1).1
   obtain ⟨tf, kf, pf, hpf, hkf, ef⟩ := hend
   have := ((valid_lens hv).2 pf (List.mem_of_getElem? hpf)).2
   rw [ef]
   simp only
   omega
  split <;> omega
 ·unfold befS; rw [solS_out h hu]; omega
theorem topo_len (hv : valid ps = true) (h : Topo ps at_ D L) : L.length ≤ 650 := by
 have h1 := nodup_leR h.nd (m := evs ps) (fun u hu => by
  obtain ⟨⟨t, k, p, hp, hk, rfl⟩, _⟩ := (h.mem u).1 hu
  exact List.mem_of_getElem? (evs_at hp hk))
 have h2 := fst_le (fun p hp => ((valid_lens hv).2 p hp).2) ps.length (Nat.le_refl _)
 rw [fst_len] at h2
 have := (valid_lens hv).1
 omega
theorem Prt.abs (hv : valid ps = true) (hD : DOk ps at_ D) (hn : 0 ≤ n ∧ n ≤ 4194304) (h : Topo ps at_ D L) {P : RArc → Prop} {T : LTab} (hp : Prt ps at_ n D L P T) : absT T (evs ps) ≤ 1780000000000 := by
 have hl := topo_len hv h
 have h2 := fst_le (fun p hp => ((valid_lens hv).2 p hp).2) ps.length (Nat.le_refl _)
 rw [fst_len] at h2
 have h3 := (valid_lens hv).1
 have hb : ∀ u ∈ evs ps, labAbs (T u) ≤ 2735000000 := fun u _ => by
  have hle : labAbs (T u) ≤ labAbs (labS ps at_ n D L u) := by
   by_cases hu : Ev ps at_ u
   ·obtain ⟨a, b⟩ := hp.le u hu
    exact labAbs_le ⟨a, fun t ht => by rw [labS_bf ht]; exact b t ht⟩
   ·rw [hp.out u hu]; exact Nat.le_refl _
  refine Nat.le_trans hle ?_
  have h4 := secS_bd (L := L) hv hD hn u
  have h5 := sum_le_mul (fun t => ((labS ps at_ n D L u).bf t + 1).toNat) 65 10 (fun t ht => by
   rw [labS_bf ht]
   have := befS_bd hv h (t : Int) u
   omega)
  have h6 : (labS ps at_ n D L u).sec = secS ps at_ n D L u := rfl
  unfold labAbs
  rw [h6]
  omega
 have h7 := absT_bound hb
 have h8 : (evs ps).length * 2735000000 ≤ 650 * 2735000000 := Nat.mul_le_mul_right _ (by omega)
 omega
end

def plK (lt : Ref → Ref → Bool) (u : Ref) (l : List Ref) : Nat → Nat
 | 0 => 0
 | k + 1 => match l[k]? with
  | some v => if lt u v = true then plK lt u l k else k + 1
  | none => k + 1
def plU (lt : Ref → Ref → Bool) (u : Ref) (l : List Ref) : List Ref := l.take (plK lt u l l.length) ++ u :: l.drop (plK lt u l l.length)
def sortB (lt : Ref → Ref → Bool) (l : List Ref) : List Ref := l.foldl (fun acc u => plU lt u acc) []

def precD (ps : List (List Stage)) (D : List RArc) (r : Int) (u v : Ref) : Bool := if u.tr = v.tr then decide (u.st < v.st) else decide (arc0 (relOf ps r u) v ∈ D)
structure Dec (ps : List (List Stage)) (at_ : List Int) (D : List RArc) (r : Int) (l : List Ref) : Prop where
 use : ∀ u ∈ l, u ∈ openA ps at_ r
 nd : l.Nodup
 all : ∀ u ∈ l, ∀ v ∈ l, u.tr ≠ v.tr → arc0 (relOf ps r u) v ∈ D ∨ arc0 (relOf ps r v) u ∈ D
 sep : (∀ u ∈ l, secOf ps u = r) ∨ (∀ u ∈ l, secOf ps u ≠ r)
section
variable {ps : List (List Stage)} {at_ : List Int} {D : List RArc} {L : List Ref} {r : Int} {l : List Ref}
theorem rel_after (h : Topo ps at_ D L) {u : Ref} (hu : u ∈ openA ps at_ r) (ho : doneR at_ u = false) : u = relOf ps r u ∨ Bf L u (relOf ps r u) := by
 unfold relOf
 by_cases e : secOf ps u = r
 ·rw [if_pos e]
  right
  unfold openA openU at hu
  obtain ⟨hu, _⟩ := List.mem_filter.1 hu
  obtain ⟨t, k, p, s, hp, hs, _, rfl⟩ := mem_allU.1 hu
  have := h.chain hp ho 0 (by have := getElem?_lt hs; omega)
  simpa using this
 ·rw [if_neg e]; exact .inl rfl
theorem dec_arc (h : Topo ps at_ D L) (ho : ∀ a ∈ D, doneR at_ a.to = false) {u v : Ref} (hu : u ∈ openA ps at_ r) (hv : v ∈ openA ps at_ r) (ha : arc0 (relOf ps r u) v ∈ D) : doneR at_ v = false ∧ Bf L (relOf ps r u) v := by
 have hvo : doneR at_ v = false := ho _ ha
 refine ⟨hvo, ?_⟩
 rcases h.ord (arc0 (relOf ps r u) v) (List.mem_append_right _ ha) ⟨(open_use hv).1, hvo⟩ with h1 | h1
 ·have h2 := (open_use hu).2.2
  have h1 : doneR at_ (relOf ps r u) = true := h1
  rw [h2] at h1; cases h1
 ·exact h1
theorem dec_bf (h : Topo ps at_ D L) (ho : ∀ a ∈ D, doneR at_ a.to = false) {u v : Ref} (hu : u ∈ openA ps at_ r) (hv : v ∈ openA ps at_ r) (ha : arc0 (relOf ps r u) v ∈ D) : Bf L (relOf ps r u) (relOf ps r v) := by
 obtain ⟨h1, h2⟩ := dec_arc h ho hu hv ha
 rcases rel_after h hv h1 with h3 | h3
 ·rw [← h3]; exact h2
 ·exact h2.trans h.nd h3
theorem same_bf (h : Topo ps at_ D L) (hd : Dec ps at_ D r l) {u v : Ref} (hu : u ∈ l) (hv : v ∈ l) (he : u.tr = v.tr) (hlt : u.st < v.st) : Bf L (relOf ps r u) (relOf ps r v) := by
 have hst : (relOf ps r u).st < (relOf ps r v).st := by
  unfold relOf
  rcases hd.sep with hs | hs
  ·rw [if_pos (hs u hu), if_pos (hs v hv)]; simp only; omega
  ·rw [if_neg (hs u hu), if_neg (hs v hv)]; exact hlt
 obtain ⟨_, ⟨t, k, p, hp, hk, e1⟩, hdu⟩ := open_use (hd.use u hu)
 obtain ⟨_, ⟨t', k', p', hp', hk', e2⟩, hdv⟩ := open_use (hd.use v hv)
 have ht : (relOf ps r u).tr = (relOf ps r v).tr := by rw [relOf_tr, relOf_tr, he]
 rw [e1] at hst hdu ht ⊢
 rw [e2] at hst hdv ht ⊢
 simp only at hst ht
 have : t = t' := by omega
 subst this
 rw [hp] at hp'; injection hp' with hp'; subst hp'
 have := h.chain hp hdu (k' - k - 1) (by omega)
 rwa [show k + (k' - k - 1) + 1 = k' from by omega] at this
theorem prec_iff (h : Topo ps at_ D L) (ho : ∀ a ∈ D, doneR at_ a.to = false) (hd : Dec ps at_ D r l) {u v : Ref} (hu : u ∈ l) (hv : v ∈ l) : precD ps D r u v = true ↔ Bf L (relOf ps r u) (relOf ps r v) := by
 have fwd : ∀ {u v : Ref}, u ∈ l → v ∈ l → precD ps D r u v = true → Bf L (relOf ps r u) (relOf ps r v) := fun {u v} hu hv hp => by
  unfold precD at hp
  by_cases e : u.tr = v.tr
  ·rw [if_pos e] at hp
   exact same_bf h hd hu hv e (by simpa using hp)
  ·rw [if_neg e] at hp
   exact dec_bf h ho (hd.use u hu) (hd.use v hv) (by simpa using hp)
 refine ⟨fwd hu hv, fun hb => ?_⟩
 have hnv : precD ps D r v u ≠ true := fun hp => hb.asymm h.nd (fwd hv hu hp)
 have hne : u ≠ v := fun e => by subst e; exact hb.asymm h.nd hb
 unfold precD at hnv ⊢
 by_cases e : u.tr = v.tr
 ·rw [if_pos e.symm] at hnv
  rw [if_pos e]
  rw [ne_eq, decide_eq_true_eq] at hnv
  rw [decide_eq_true_eq]
  have : u.st ≠ v.st := fun e2 => hne (by cases u; cases v; simp only at e e2; rw [e, e2])
  omega
 ·rw [if_neg (fun e2 => e e2.symm)] at hnv
  rw [if_neg e]
  rw [ne_eq, decide_eq_true_eq] at hnv
  rw [decide_eq_true_eq]
  rcases hd.all u hu v hv e with h1 | h1
  ·exact h1
  ·exact absurd h1 hnv
theorem prec_total (hd : Dec ps at_ D r l) {u v : Ref} (hu : u ∈ l) (hv : v ∈ l) (hne : u ≠ v) : precD ps D r u v = true ∨ precD ps D r v u = true := by
 unfold precD
 by_cases e : u.tr = v.tr
 ·rw [if_pos e, if_pos e.symm]
  simp only [decide_eq_true_eq]
  have : u.st ≠ v.st := fun e2 => hne (by cases u; cases v; simp only at e e2; rw [e, e2])
  omega
 ·rw [if_neg e, if_neg (fun e2 => e e2.symm)]
  simp only [decide_eq_true_eq]
  exact hd.all u hu v hv e
end

structure Tot (lt : Ref → Ref → Bool) (l : List Ref) : Prop where
 tot : ∀ u ∈ l, ∀ v ∈ l, u ≠ v → lt u v = true ∨ lt v u = true
 asym : ∀ u ∈ l, ∀ v ∈ l, lt u v = true → lt v u = false
 trans : ∀ u ∈ l, ∀ v ∈ l, ∀ w ∈ l, lt u v = true → lt v w = true → lt u w = true
theorem plK_after {lt : Ref → Ref → Bool} {x : Ref} {l : List Ref} : ∀ k, ∀ (j : Nat) v, plK lt x l k ≤ j → j < k → l[j]? = some v → lt x v = true
 | 0, j, v, _, h, _ => by omega
 | k + 1, j, v, h1, h2, hv => by
  unfold plK at h1
  cases e : l[k]? with
  | none => rw [e] at h1; simp only at h1; omega
  | some u =>
   rw [e] at h1
   simp only at h1
   by_cases g : lt x u = true
   ·rw [if_pos g] at h1
    by_cases e2 : j = k
    ·subst e2; rw [e] at hv; injection hv with hv; subst hv; exact g
    ·exact plK_after k j v h1 (by omega) hv
   ·rw [if_neg g] at h1; omega
theorem plK_stop {lt : Ref → Ref → Bool} {x : Ref} {l : List Ref} : ∀ k, k ≤ l.length → ∀ j, plK lt x l k = j + 1 → ∃ v, l[j]? = some v ∧ lt x v = false
 | 0, _, j, h => by simp [plK] at h
 | k + 1, hk, j, h => by
  have hx : l[k]? = some (l[k]'(by omega)) := List.getElem?_eq_getElem (by omega)
  unfold plK at h
  rw [hx] at h
  simp only at h
  by_cases g : lt x (l[k]'(by omega)) = true
  ·rw [if_pos g] at h; exact plK_stop k (by omega) j h
  ·rw [if_neg g] at h
   have : j = k := by omega
   subst this
   exact ⟨_, hx, by simpa using g⟩
theorem plU_sorted {lt : Ref → Ref → Bool} {x : Ref} {l M : List Ref} (hT : Tot lt M) (hl : ∀ v ∈ l, v ∈ M) (hx : x ∈ M) (hxl : x ∉ l) (h1 : l.Pairwise fun a b => lt a b = true) : (plU lt x l).Pairwise fun a b => lt a b = true := by
 unfold plU
 have ha := plK_after (lt := lt) (x := x) (l := l) l.length
 have hs' := plK_stop (lt := lt) (x := x) (l := l) l.length (Nat.le_refl _)
 generalize plK lt x l l.length = k at ha hs'
 have hs : (l.take k ++ l.drop k).Pairwise fun a b => lt a b = true := by rw [List.take_append_drop]; exact h1
 obtain ⟨s1, s2, s3⟩ := List.pairwise_append.1 hs
 rw [List.pairwise_append]
 refine ⟨s1, List.pairwise_cons.2 ⟨fun v hv => ?_, s2⟩, fun a ha' b hb => ?_⟩
 ·obtain ⟨j, hj⟩ := List.mem_iff_getElem?.1 hv
  rw [List.getElem?_drop] at hj
  exact ha (k + j) v (by omega) (getElem?_lt hj) hj
 ·rcases List.mem_cons.1 hb with rfl | hb
  ·obtain ⟨i, hi⟩ := List.mem_iff_getElem?.1 ha'
   have hik : i < k := by have := getElem?_lt hi; rw [List.length_take] at this; omega
   rw [List.getElem?_take_of_lt hik] at hi
   obtain ⟨j, rfl⟩ : ∃ j, k = j + 1 := ⟨k - 1, by omega⟩
   obtain ⟨v, hv, hvu⟩ := hs' j rfl
   have hvM := hl v (List.mem_of_getElem? hv)
   have haM := hl a (List.mem_of_getElem? hi)
   have hvx : lt v b = true := by
    rcases hT.tot b hx v hvM (fun e => hxl (by rw [e]; exact List.mem_of_getElem? hv)) with h2 | h2
    ·rw [hvu] at h2; cases h2
    ·exact h2
   by_cases e : i = j
   ·subst e; rw [hi] at hv; injection hv with hv; subst hv; exact hvx
   ·have l1 := getElem?_lt hi
    have l2 := getElem?_lt hv
    have q := List.pairwise_iff_getElem.1 h1 i j l1 l2 (by omega)
    rw [List.getElem?_eq_getElem l1] at hi
    rw [List.getElem?_eq_getElem l2] at hv
    injection hi with hi; injection hv with hv
    rw [hi, hv] at q
    exact hT.trans a haM v hvM b hx q hvx
  ·exact s3 a ha' b hb
theorem plU_permR (lt : Ref → Ref → Bool) (u : Ref) (l : List Ref) : (plU lt u l).Perm (l ++ [u]) := by
 unfold plU
 have h1 : (l.take (plK lt u l l.length) ++ u :: l.drop (plK lt u l l.length)).Perm (u :: (l.take (plK lt u l l.length) ++ l.drop (plK lt u l l.length))) := List.perm_middle
 rw [List.take_append_drop] at h1
 exact h1.trans (List.perm_append_singleton u l).symm
theorem sortB_sorted {lt : Ref → Ref → Bool} {M : List Ref} (hT : Tot lt M) (hn : M.Nodup) : (sortB lt M).Pairwise (fun a b => lt a b = true) ∧ (sortB lt M).Perm M := by
 have key : ∀ n, n ≤ M.length → (sortB lt (M.take n)).Pairwise (fun a b => lt a b = true) ∧ (sortB lt (M.take n)).Perm (M.take n) := by
  intro n
  induction n with
  | zero => intro _; simp [sortB]
  | succ n ih =>
   intro hl
   have hx : M[n]? = some M[n] := List.getElem?_eq_getElem (by omega)
   have e : M.take (n + 1) = M.take n ++ [M[n]] := by rw [List.take_add_one, hx]; rfl
   obtain ⟨i1, i2⟩ := ih (by omega)
   have e2 : sortB lt (M.take n ++ [M[n]]) = plU lt M[n] (sortB lt (M.take n)) := by unfold sortB; rw [List.foldl_append]; rfl
   have hsub : ∀ v ∈ sortB lt (M.take n), v ∈ M := fun v hv => List.mem_of_mem_take (i2.mem_iff.1 hv)
   have hnx : M[n] ∉ sortB lt (M.take n) := fun hm => by
    have hm := i2.mem_iff.1 hm
    have h1 : (M.take n ++ M.drop n).Nodup := by rw [List.take_append_drop]; exact hn
    have h2 : M[n] ∈ M.drop n := List.mem_of_getElem? (i := 0) (by rw [List.getElem?_drop]; exact hx)
    exact (List.nodup_append.1 h1).2.2 _ hm _ h2 rfl
   rw [e, e2]
   exact ⟨plU_sorted hT hsub (List.getElem_mem _) hnx i1, (plU_permR lt _ _).trans (i2.append_right _)⟩
 have := key M.length (Nat.le_refl _)
 rwa [List.take_length] at this
def rankD (lt : Ref → Ref → Bool) (l : List Ref) (u : Ref) : Nat := (l.filter fun v => lt v u).length
theorem rank_at {lt : Ref → Ref → Bool} {M : List Ref} (hT : Tot lt M) {S : List Ref} (hs : S.Pairwise fun a b => lt a b = true) (hp : S.Perm M) {i : Nat} {u : Ref} (hi : S[i]? = some u) : rankD lt M u = i := by
 have h1 : rankD lt M u = rankD lt S u := (hp.symm.filter _).length_eq
 rw [h1]
 unfold rankD
 have hil := getElem?_lt hi
 have hSM : ∀ v ∈ S, v ∈ M := fun v hv => hp.mem_iff.1 hv
 have huM := hSM u (List.mem_of_getElem? hi)
 have e : S = S.take i ++ S.drop i := (List.take_append_drop i S).symm
 have h2 : (S.take i).filter (fun v => lt v u) = S.take i := by
  rw [List.filter_eq_self]
  intro v hv
  obtain ⟨j, hj⟩ := List.mem_iff_getElem?.1 hv
  have hjl := getElem?_lt hj
  rw [List.length_take] at hjl
  rw [List.getElem?_take_of_lt (by omega)] at hj
  have q := List.pairwise_iff_getElem.1 hs j i (by omega) hil (by omega)
  rw [List.getElem?_eq_getElem (by omega : j < S.length)] at hj
  rw [List.getElem?_eq_getElem hil] at hi
  injection hj with hj; injection hi with hi
  rw [hj, hi] at q; exact q
 have h3 : (S.drop i).filter (fun v => lt v u) = [] := by
  rw [List.filter_eq_nil_iff]
  intro v hv hlt
  obtain ⟨j, hj⟩ := List.mem_iff_getElem?.1 hv
  rw [List.getElem?_drop] at hj
  have hjl := getElem?_lt hj
  have hvM := hSM v (List.mem_of_getElem? hj)
  by_cases e0 : j = 0
  ·subst e0
   simp only [Nat.add_zero] at hj
   rw [hi] at hj; injection hj with hj; subst hj
   have := hT.asym u huM u huM hlt
   rw [hlt] at this; cases this
  ·have q := List.pairwise_iff_getElem.1 hs i (i + j) hil hjl (by omega)
   rw [List.getElem?_eq_getElem hjl] at hj
   rw [List.getElem?_eq_getElem hil] at hi
   injection hj with hj; injection hi with hi
   rw [hj, hi] at q
   have := hT.asym u huM v hvM q
   rw [hlt] at this; cases this
 conv => lhs; rw [e]
 rw [List.filter_append, h2, h3, List.append_nil, List.length_take]
 omega
theorem sorted_eq {lt : Ref → Ref → Bool} {M S S' : List Ref} (hT : Tot lt M) (h1 : S.Pairwise fun a b => lt a b = true) (h2 : S'.Pairwise fun a b => lt a b = true) (p1 : S.Perm M) (p2 : S'.Perm M) : S = S' := by
 refine List.Perm.eq_of_pairwise (le := fun a b => lt a b = true) (fun a b ha hb h3 h4 => ?_) h1 h2 (p1.trans p2.symm)
 have := hT.asym a (p1.mem_iff.1 ha) b (p2.mem_iff.1 hb) h3
 rw [h4] at this; cases this
theorem prec_tot {ps : List (List Stage)} {at_ : List Int} {D : List RArc} {L : List Ref} {r : Int} {l : List Ref} (h : Topo ps at_ D L) (ho : ∀ a ∈ D, doneR at_ a.to = false) (hd : Dec ps at_ D r l) : Tot (precD ps D r) l :=
  ⟨fun u hu v hv hne => prec_total hd hu hv hne, fun u hu v hv h1 => by
    cases e : precD ps D r v u with
    | false => rfl
    | true => exact absurd ((prec_iff h ho hd hv hu).1 e) (((prec_iff h ho hd hu hv).1 h1).asymm h.nd),
   fun u hu v hv w hw h1 h2 => (prec_iff h ho hd hu hw).2 (((prec_iff h ho hd hu hv).1 h1).trans h.nd ((prec_iff h ho hd hv hw).1 h2))⟩

def labD (ps : List (List Stage)) (at_ : List Int) (n : Int) (D : List RArc) : LTab := labS ps at_ n D (lineR ps (arcsD ps D) at_).1
def leadsL (T : LTab) (a b : Ref) : Bool := decide (a.st ≤ (T b).bf a.tr.toNat)
section
variable {ps : List (List Stage)} {at_ : List Int} {D : List RArc} {L : List Ref} {n : Int}
theorem labD_eq (hg : Gd ps at_) (hD : DOk ps at_ D) (hok : okD ps at_ D = true) (h : Topo ps at_ D L) (u : Ref) : labD ps at_ n D u = labS ps at_ n D L u := by
 have h' := (topo_of_ok hg hD hok).2
 unfold labD labS secS befS
 rw [solS_indep phS_mono h' h u]
 congr 1
 exact List.map_congr_left fun t _ => solS_indep (phB_mono (t : Int)) h' h u
theorem leadsL_eq (hv : valid ps = true) {a b : Ref} (ha : InR ps a) : leadsL (labS ps at_ n D L) a b = leadsS ps at_ D L a b := by
 obtain ⟨t, k, p, hp, _, rfl⟩ := ha
 have ht := getElem?_lt hp
 have := (valid_lens hv).1
 unfold leadsL leadsS
 rw [labS_bf (by simp; omega)]
 simp
theorem DOk.snoc (hD : DOk ps at_ D) {x y : Ref} (hx : Ev ps at_ x) (hy : InR ps y) (hne : x.tr ≠ y.tr) : DOk ps at_ (D ++ [arc0 x y]) := by
 have key : ∀ a, a ∈ D ++ [arc0 x y] → a ∈ D ∨ a = arc0 x y := fun a ha => by simpa using ha
 refine ⟨fun a ha => ?_, fun a ha => ?_, fun a ha => ?_, fun a ha => ?_⟩ <;> rcases key a ha with h | rfl
 ·exact hD.frm a h
 ·exact hx
 ·exact hD.to a h
 ·exact hy
 ·exact hD.ne a h
 ·exact hne
 ·exact hD.wt a h
 ·rfl
theorem choose_late (hg : Gd ps at_) (hD : DOk ps at_ D) {x y : Ref} (hx : Ev ps at_ x) (hy : InR ps y) (hne : x.tr ≠ y.tr) (hd : doneR at_ y = true) : okD ps at_ (D ++ [arc0 x y]) = false := by
 cases e : okD ps at_ (D ++ [arc0 x y]) with
 | false => rfl
 | true =>
  have h1 := (topo_of_ok hg (hD.snoc hx hy hne) e).1 (arc0 x y) (by simp)
  have h1 : doneR at_ y = false := h1
  rw [hd] at h1; cases h1
theorem choose_bad (hg : Gd ps at_) (hD : DOk ps at_ D) (h : Topo ps at_ D L) {x y : Ref} (hx : Ev ps at_ x) (hy : Ev ps at_ y) (hne : x.tr ≠ y.tr) (hl : leadsS ps at_ D L y x = true) : okD ps at_ (D ++ [arc0 x y]) = false := by
 cases e : okD ps at_ (D ++ [arc0 x y]) with
 | false => rfl
 | true =>
  have h1 := topo_bad h (topo_of_ok hg (hD.snoc hx hy.1 hne) e).2 hx hy
  rw [hl] at h1; cases h1
theorem choose_ok (hg : Gd ps at_) (hD : DOk ps at_ D) (ho : ∀ a ∈ D, doneR at_ a.to = false) (h : Topo ps at_ D L) {x y : Ref} (hx : Ev ps at_ x) (hy : Ev ps at_ y) (hne : x.tr ≠ y.tr) (hl : leadsS ps at_ D L y x = false) : okD ps at_ (D ++ [arc0 x y]) = true ∧ ∃ L', Topo ps at_ (D ++ [arc0 x y]) L' := by
 obtain ⟨L', h'⟩ := topo_add h hx hy (fun e => hne (by rw [e])) hl
 refine ⟨ok_of_topo hg (hD.snoc hx hy.1 hne) (fun a ha => ?_) h', L', h'⟩
 rcases List.mem_append.1 ha with ha | ha
 ·exact ho a ha
 ·simp at ha; subst ha; exact hy.2

theorem evs_nd (ps : List (List Stage)) : (evs ps).Nodup := by
 show List.Pairwise (fun a b => a ≠ b) _
 rw [List.pairwise_iff_getElem]
 intro i j hi hj hij e
 obtain ⟨t, k, p, _, hp, hk, rfl⟩ := evs_inv ps.length (Nat.le_refl _) (i := i) (by rw [fst_len]; exact hi)
 obtain ⟨t', k', p', _, hp', hk', rfl⟩ := evs_inv ps.length (Nat.le_refl _) (i := j) (by rw [fst_len]; exact hj)
 have h1 := evs_at hp hk
 have h2 := evs_at hp' hk'
 rw [List.getElem?_eq_getElem hi] at h1
 rw [List.getElem?_eq_getElem hj] at h2
 injection h1 with h1; injection h2 with h2
 rw [h1, h2] at e
 simp only [Ref.mk.injEq] at e
 have e1 : t = t' := by omega
 subst e1
 omega
theorem topo_nil (ps : List (List Stage)) (at_ : List Int) : Topo ps at_ [] ((evs ps).filter fun u => !doneR at_ u) := by
 refine ⟨(evs_nd ps).sublist (List.filter_sublist ..), fun u => ?_, fun a ha he => ?_⟩
 ·rw [List.mem_filter]
  unfold Ev InR
  constructor
  ·rintro ⟨hu, hd⟩
   obtain ⟨i, hi⟩ := List.mem_iff_getElem?.1 hu
   have hil := getElem?_lt hi
   obtain ⟨t, k, p, _, hp, hk, rfl⟩ := evs_inv ps.length (Nat.le_refl _) (i := i) (by rw [fst_len]; exact hil)
   rw [evs_at hp hk] at hi
   injection hi with hi
   exact ⟨⟨t, k, p, hp, hk, hi.symm⟩, by simpa using hd⟩
  ·rintro ⟨⟨t, k, p, hp, hk, rfl⟩, hd⟩
   exact ⟨List.mem_of_getElem? (evs_at hp hk), by simp [hd]⟩
 ·have ha : a ∈ chainR ps := by unfold arcsD at ha; simpa using ha
  obtain ⟨t, k, p, s, hp, hs, rfl⟩ := mem_chainR.1 ha
  have hk := getElem?_lt hs
  cases e : doneR at_ ⟨(t : Int), (k : Int)⟩ with
  | true => exact .inl rfl
  | false =>
   right
   have h1 : Bf (evs ps) ⟨(t : Int), (k : Int)⟩ ⟨(t : Int), (k : Int) + 1⟩ := bf_at.2 ⟨fst ps t + k, fst ps t + (k + 1), by omega, evs_at hp (by omega), by have := evs_at hp (k := k + 1) (by omega); simpa using this⟩
   have h2 : [(⟨(t : Int), (k : Int)⟩ : Ref), ⟨(t : Int), (k : Int) + 1⟩].Sublist ((evs ps).filter fun u => !doneR at_ u) := by
    have := List.Sublist.filter (fun u => !doneR at_ u) h1
    simpa [List.filter_cons, e, he.2] using this
   exact h2
theorem dok_nil (ps : List (List Stage)) (at_ : List Int) : DOk ps at_ [] := ⟨by simp, by simp, by simp, by simp⟩
theorem okD_nil (hg : Gd ps at_) : okD ps at_ [] = true := ok_of_topo hg (dok_nil ps at_) (by simp) (topo_nil ps at_)
def labB (s : Int) : Lab := ⟨s, List.replicate 10 (-1)⟩
theorem labB_bf (s : Int) {t : Nat} (ht : t < 10) : (labB s).bf t = -1 := by unfold labB Lab.bf; simp only; rw [List.getElem?_replicate, if_pos ht]; rfl
theorem lab_nil {t k : Nat} {p : List Stage} (hp : ps[t]? = some p) (hk : k ≤ p.length) (h : Topo ps at_ [] L) :
  labS ps at_ n [] L ⟨(t : Int), (k : Int)⟩ = if doneR at_ ⟨(t : Int), (k : Int)⟩ = true then labB (-1)
   else if k = 0 ∨ doneR at_ ⟨(t : Int), (k : Int) - 1⟩ = true then labB (baseN ps at_ n ⟨(t : Int), (k : Int)⟩)
   else mergeL (labB (baseN ps at_ n ⟨(t : Int), (k : Int)⟩)) (labS ps at_ n [] L ⟨(t : Int), (k : Int) - 1⟩) ⟨(t : Int), (k : Int) - 1⟩ (mnAt ps t (k - 1)) := by
 have harc : ∀ a ∈ arcsD ps [], a.to = ⟨(t : Int), (k : Int)⟩ → ∃ k' s, k = k' + 1 ∧ p[k']? = some s ∧ a = ⟨⟨(t : Int), (k' : Int)⟩, ⟨(t : Int), (k' : Int) + 1⟩, s.mn⟩ := fun a ha hto => by
  have ha : a ∈ chainR ps := by unfold arcsD at ha; simpa using ha
  obtain ⟨t', k', p', s', hp', hs', rfl⟩ := mem_chainR.1 ha
  injection hto with e1 e2
  have : t' = t := by omega
  subst this
  rw [hp] at hp'; injection hp' with hp'; subst hp'
  exact ⟨k', s', by omega, hs', rfl⟩
 cases hd : doneR at_ ⟨(t : Int), (k : Int)⟩ with
 | true =>
  rw [if_pos rfl]
  have hne : ¬ Ev ps at_ ⟨(t : Int), (k : Int)⟩ := fun h => by have h2 := h.2; rw [hd] at h2; cases h2
  refine Lab.ext10 (labS_len _) (by simp [labB]) ?_ fun j hj => ?_
  ·show secS ps at_ n [] L _ = -1
   unfold secS
   rw [solS_out h hne]
   unfold initR
   rw [if_pos hd]
  ·rw [labS_bf hj, labB_bf _ hj]
   unfold befS
   rw [solS_out h hne]
 | false =>
  rw [if_neg (by simp)]
  have hev : Ev ps at_ ⟨(t : Int), (k : Int)⟩ := ⟨⟨t, k, p, hp, hk, rfl⟩, hd⟩
  have fix : ∀ (base : Ref → Int) (ph : RArc → Int → Int) (init : Tab), solS ps at_ [] base ph init L ⟨(t : Int), (k : Int)⟩ = mxo (fun a => if a.to = ⟨(t : Int), (k : Int)⟩ ∧ doneR at_ a.frm = false then some (ph a (solS ps at_ [] base ph init L a.frm)) else none) (base ⟨(t : Int), (k : Int)⟩) (arcsD ps []) := fun base ph init => solS_fix h hev
  by_cases g : k = 0 ∨ doneR at_ ⟨(t : Int), (k : Int) - 1⟩ = true
  ·rw [if_pos g]
   have none_ : ∀ (base : Ref → Int) (ph : RArc → Int → Int) (init : Tab), solS ps at_ [] base ph init L ⟨(t : Int), (k : Int)⟩ = base ⟨(t : Int), (k : Int)⟩ := fun base ph init => by
    rw [fix]
    apply Int.le_antisymm
    ·rw [mxo_le]
     refine ⟨Int.le_refl _, fun a ha y hy => ?_⟩
     split at hy
     ·rename_i hc
      obtain ⟨k', s, rfl, hs, rfl⟩ := harc a ha hc.1
      rcases g with g | g
      ·omega
      ·have e : ((k' + 1 : Nat) : Int) - 1 = (k' : Int) := by omega
       rw [e] at g
       have h1 := hc.2
       simp only at h1
       rw [g] at h1; cases h1
     ·cases hy
    ·exact mxo_ge _ _ _
   refine Lab.ext10 (labS_len _) (by simp [labB]) (none_ _ _ _) fun j hj => ?_
   rw [labS_bf hj, labB_bf _ hj]
   exact none_ _ _ _
  ·rw [if_neg g]
   rw [not_or] at g
   obtain ⟨k', rfl⟩ : ∃ k', k = k' + 1 := ⟨k - 1, by omega⟩
   have e : ((k' + 1 : Nat) : Int) - 1 = (k' : Int) := by omega
   rw [e] at g ⊢
   have hs : p[k']? = some p[k'] := List.getElem?_eq_getElem (by omega)
   have hmn : mnAt ps t (k' + 1 - 1) = p[k'].mn := by simp [mnAt, hp, hs]
   rw [hmn]
   have hdp : doneR at_ ⟨(t : Int), (k' : Int)⟩ = false := by simpa using g.2
   have one : ∀ (base : Ref → Int) (ph : RArc → Int → Int) (init : Tab), solS ps at_ [] base ph init L ⟨(t : Int), ((k' + 1 : Nat) : Int)⟩ = max (base ⟨(t : Int), ((k' + 1 : Nat) : Int)⟩) (ph ⟨⟨(t : Int), (k' : Int)⟩, ⟨(t : Int), (k' : Int) + 1⟩, p[k'].mn⟩ (solS ps at_ [] base ph init L ⟨(t : Int), (k' : Int)⟩)) := fun base ph init => by
    rw [fix]
    apply Int.le_antisymm
    ·rw [mxo_le]
     refine ⟨by omega, fun a ha y hy => ?_⟩
     split at hy
     ·rename_i hc
      obtain ⟨k2, s, hk2, hs2, rfl⟩ := harc a ha hc.1
      have : k2 = k' := by omega
      subst this
      rw [hs] at hs2; injection hs2 with hs2; subst hs2
      injection hy with hy
      simp only at hy
      omega
     ·cases hy
    ·have h1 := mxo_ge (fun a => if a.to = ⟨(t : Int), ((k' + 1 : Nat) : Int)⟩ ∧ doneR at_ a.frm = false then some (ph a (solS ps at_ [] base ph init L a.frm)) else none) (base ⟨(t : Int), ((k' + 1 : Nat) : Int)⟩) (arcsD ps [])
     have h2 := mxo_mem (fun a => if a.to = ⟨(t : Int), ((k' + 1 : Nat) : Int)⟩ ∧ doneR at_ a.frm = false then some (ph a (solS ps at_ [] base ph init L a.frm)) else none) (base ⟨(t : Int), ((k' + 1 : Nat) : Int)⟩) (arcsD ps []) (a := ⟨⟨(t : Int), (k' : Int)⟩, ⟨(t : Int), (k' : Int) + 1⟩, p[k'].mn⟩) (List.mem_append_left _ (mem_chainR.2 ⟨t, k', p, _, hp, hs, rfl⟩)) (by rw [if_pos ⟨by simp, hdp⟩])
     simp only at h2
     omega
   refine Lab.ext10 (labS_len _) (mergeL_len _ _ _ _) ?_ fun j hj => ?_
   ·show secS ps at_ n [] L _ = max _ _
    unfold secS
    rw [one]
    rfl
   ·have h1 := mergeL_bf (labB (baseN ps at_ n ⟨(t : Int), ((k' + 1 : Nat) : Int)⟩)) (labS ps at_ n [] L ⟨(t : Int), (k' : Int)⟩) ⟨⟨(t : Int), (k' : Int)⟩, ⟨(t : Int), (k' : Int) + 1⟩, p[k'].mn⟩ hj
    simp only at h1
    rw [h1, labS_bf hj, labS_bf hj, labB_bf _ hj]
    unfold befS
    rw [one]
end

end Go.Proofs.Ytilbbpbjhoidhaa
