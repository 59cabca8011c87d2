/- The orders of a takeover, the program's and the reference's, are equal: the plain law. No program in sight. The lists of uses that Sort fills, as plain lists. No program in sight. Contracts of Go's cmp.Less, cmp.Compare, cmp.Or at integers, of slices.IsSorted and of math/bits.Len at small numbers. Conditions: as each theorem says. Contracts of Sort's comparison and of Go's insertion sort, at most 12 elements. Conditions: as each theorem says. -/
import Derived.Test.YtbfgmbakeofcbaaGreatK39
import Derived.Test.YtbfgmbakeofcbaaGreatK40
import Derived.Test.YtbfgmbakeofcbaaGreatK34
import Derived.Test.YtbfgmbakeofcbaaGreatK38
import Derived.Test.YtbfgmbakeofcbaaGreatK29
import Derived.Test.YtbfgmbakeofcbaaGreatK37
import Derived.BigRegion
namespace Go.Proofs.YtbfgmbakeofcbaaGreat
open Go.RowKit

theorem plK_insE (en : List (List Int)) (u : Ref) (l : List Ref) : ∀ k, plK (fun u v => decide (cmpI (enAt en u) (enAt en v) < 0)) u l k = insK en u l k
  | 0 => rfl
  | k + 1 => by
    simp only [plK, insK]
    rw [plK_insE en u l k]
    cases l[k]? with
    | none => rfl
    | some v => simp only [decide_eq_true_eq, cmpI_neg]
theorem sortT_eq (en : List (List Int)) (l : List Ref) : sortT en l = sortR en l := by
  unfold sortT sortB sortR
  congr 1
  funext acc u
  unfold plU insU
  rw [plK_insE]

section
variable {ps : List (List Stage)} {at_ mv : List Int}
theorem run_take_succ {k : Nat} {x : Int} (h : mv[k]? = some x) : runM at_ (mv.take (k + 1)) = stepN (runM at_ (mv.take k)) x.toNat := by
  rw [List.take_add_one, h, Option.toList_some, runM_snoc]
theorem nowAt_step {now : List Int} {t u : Nat} (ht : t < now.length) : nowAt (stepN now t) u = if t = u then nowAt now t + 1 else nowAt now u := by unfold stepN; rw [nowAt_set ht]
theorem run_mono (hg : Gd ps at_) (hl : Legal ps at_ mv) {i : Nat} (u : Nat) : ∀ j, i ≤ j → j ≤ mv.length → nowAt (runM at_ (mv.take i)) u ≤ nowAt (runM at_ (mv.take j)) u
  | 0, h, _ => by obtain rfl : i = 0 := by omega
                  exact Int.le_refl _
  | j + 1, h, hj => by
    by_cases e : i = j + 1
    · subst e; exact Int.le_refl _
    · have ih := run_mono hg hl (i := i) u j (by omega) (by omega)
      have hx : mv[j]? = some mv[j] := List.getElem?_eq_getElem (by omega)
      obtain ⟨g1, t, ht, htl, _⟩ := legal_at mv at_ hg hl j _ hx
      rw [run_take_succ hx, ht, Int.toNat_natCast, nowAt_step (by rw [g1.1]; exact htl)]
      split <;> rename_i e
      · subst e; omega
      · exact ih
/-- the step at which a train enters a stage is one, and later for later stages -/
theorem entry_lt (hg : Gd ps at_) (hl : Legal ps at_ mv) {t i j : Nat} {s s' : Int} (hi : mv[i]? = some (t : Int)) (hj : mv[j]? = some (t : Int)) (h1 : nowAt (runM at_ (mv.take i)) t + 1 = s) (h2 : nowAt (runM at_ (mv.take j)) t + 1 = s') (h : j ≤ i) : s' ≤ s ∧ (s' = s → i = j) := by
  have hli := getElem?_lt hi
  have hlj := getElem?_lt hj
  have hm := run_mono hg hl t i h (by omega)
  refine ⟨by omega, fun e => ?_⟩
  rcases Nat.lt_or_eq_of_le h with hlt | he
  · have hm2 := run_mono hg hl (i := j + 1) t i (by omega) (by omega)
    obtain ⟨g1, t', ht, htl, _⟩ := legal_at mv at_ hg hl j _ hj
    obtain rfl : t = t' := by omega
    rw [run_take_succ hj, Int.toNat_natCast, nowAt_step (by rw [g1.1]; exact htl), if_pos rfl] at hm2
    omega
  · exact he.symm
/-- the entries, from a table to begin with -/
def entG (ps : List (List Stage)) (at_ mv : List Int) (T0 : Tab) : Nat → Tab
  | 0 => T0
  | k + 1 => if nowAt (runM at_ (mv.take k)) ((mv[k]?).getD 0).toNat + 1 < lenAt ps ((mv[k]?).getD 0).toNat then upd (entG ps at_ mv T0 k) ⟨(mv[k]?).getD 0, nowAt (runM at_ (mv.take k)) ((mv[k]?).getD 0).toNat + 1⟩ (k : Int) else entG ps at_ mv T0 k
theorem entTo_G (ps : List (List Stage)) (at_ mv : List Int) : ∀ k, entTo ps at_ mv k = entG ps at_ mv (fun _ => -1) k
  | 0 => rfl
  | k + 1 => by simp only [entTo, entG, entTo_G ps at_ mv k]
structure EntOk (ps : List (List Stage)) (at_ mv : List Int) (T0 : Tab) (k : Nat) : Prop where
  old : ∀ t s : Nat, t < ps.length → (s : Int) ≤ nowAt at_ t → entG ps at_ mv T0 k ⟨(t : Int), (s : Int)⟩ = T0 ⟨(t : Int), (s : Int)⟩
  new : ∀ t s : Nat, t < ps.length → s < lenAt ps t → nowAt at_ t < (s : Int) → (s : Int) ≤ nowAt (runM at_ (mv.take k)) t → ∃ j : Nat, j < k ∧ entG ps at_ mv T0 k ⟨(t : Int), (s : Int)⟩ = (j : Int) ∧ mv[j]? = some (t : Int) ∧ nowAt (runM at_ (mv.take j)) t + 1 = (s : Int)
theorem entG_ok (hg : Gd ps at_) (hl : Legal ps at_ mv) (T0 : Tab) : ∀ k, k ≤ mv.length → EntOk ps at_ mv T0 k
  | 0, _ => ⟨fun _ _ _ _ => rfl, fun t s _ _ h1 h2 => by simp [runM] at h2; omega⟩
  | k + 1, hk => by
    have ih := entG_ok hg hl T0 k (by omega)
    have hx : mv[k]? = some mv[k] := List.getElem?_eq_getElem (by omega)
    obtain ⟨g1, t, ht, htl, _⟩ := legal_at mv at_ hg hl k _ hx
    have hm := run_mono hg hl (i := 0) t k (by omega) (by omega)
    simp only [List.take_zero] at hm
    have hm0 : runM at_ [] = at_ := rfl
    rw [hm0] at hm
    have hE : entG ps at_ mv T0 (k + 1) = if nowAt (runM at_ (mv.take k)) t + 1 < lenAt ps t then upd (entG ps at_ mv T0 k) ⟨(t : Int), nowAt (runM at_ (mv.take k)) t + 1⟩ (k : Int) else entG ps at_ mv T0 k := by
      simp only [entG, hx, ht, Option.getD_some, Int.toNat_natCast]
    have hother : ∀ u s : Nat, ¬ (u = t ∧ (s : Int) = nowAt (runM at_ (mv.take k)) t + 1) → entG ps at_ mv T0 (k + 1) ⟨(u : Int), (s : Int)⟩ = entG ps at_ mv T0 k ⟨(u : Int), (s : Int)⟩ := fun u s hne => by
      rw [hE]
      split
      · unfold upd
        rw [if_neg]
        intro e
        injection e with e1 e2
        exact hne ⟨by omega, e2⟩
      · rfl
    refine ⟨fun u s hu hs => ?_, fun u s hu hsl hs1 hs2 => ?_⟩
    · rw [hother u s (by rintro ⟨rfl, e⟩; omega)]
      exact ih.old u s hu hs
    · by_cases e : u = t ∧ (s : Int) = nowAt (runM at_ (mv.take k)) t + 1
      · obtain ⟨rfl, e⟩ := e
        refine ⟨k, by omega, ?_, by rw [hx, ht], e.symm⟩
        rw [hE, if_pos (by omega)]
        unfold upd
        rw [if_pos (by rw [e])]
      · have hs3 : (s : Int) ≤ nowAt (runM at_ (mv.take k)) u := by
          rw [run_take_succ hx, ht, Int.toNat_natCast, nowAt_step (by rw [g1.1]; exact htl)] at hs2
          split at hs2
          · rename_i e2; subst e2; have : ¬ (s : Int) = nowAt (runM at_ (mv.take k)) t + 1 := fun h => e ⟨rfl, h⟩; omega
          · exact hs2
        obtain ⟨j, h1, h2, h3⟩ := ih.new u s hu hsl hs1 hs3
        exact ⟨j, by omega, by rw [hother u s e]; exact h2, h3⟩

/-- the reference's table to begin with -/
def T0R (at_ : List Int) : Tab := fun u => if u.st ≤ nowAt at_ u.tr.toNat then -1 else 0
theorem leftB_at {now : List Int} (hg : Gd ps now) (h : leftB ps now = true) {t : Nat} (ht : t < ps.length) : nowAt now t = lenAt ps t := by
  unfold leftB at h
  have := (List.all_eq_true.1 h) t (List.mem_range.2 ht)
  simp at this
  have := hg.2 t ht
  omega
theorem entG_same (hg : Gd ps at_) (hl : Legal ps at_ mv) (hf : leftB ps (runM at_ mv) = true) : tabS ps (entG ps at_ mv (T0R at_) mv.length) = entL ps at_ mv := by
  unfold entL
  rw [entTo_G]
  have h1 := entG_ok hg hl (T0R at_) mv.length (Nat.le_refl _)
  have h2 := entG_ok hg hl (fun _ => -1) mv.length (Nat.le_refl _)
  unfold tabS
  refine List.map_congr_left fun t ht => ?_
  have ht := List.mem_range.1 ht
  unfold rowS
  refine List.map_congr_left fun s hs => ?_
  have hs := List.mem_range.1 hs
  by_cases g : (s : Int) ≤ nowAt at_ t
  · rw [h1.old t s ht g, h2.old t s ht g]
    unfold T0R
    rw [if_pos (by simpa using g)]
  · have hend := leftB_at (legal_gd mv at_ hg hl) hf ht
    have hle : (s : Int) ≤ nowAt (runM at_ (mv.take mv.length)) t := by rw [List.take_length, hend]; omega
    obtain ⟨i, _, e1, m1, n1⟩ := h1.new t s ht hs (by omega) hle
    obtain ⟨j, _, e2, m2, n2⟩ := h2.new t s ht hs (by omega) hle
    rw [e1, e2]
    rcases Nat.le_total i j with h | h
    · have := (entry_lt hg hl m2 m1 n2 n1 h).2 rfl; omega
    · have := (entry_lt hg hl m1 m2 n1 n2 h).2 rfl; omega
theorem entL_at {t s : Nat} {p : List Stage} (hp : ps[t]? = some p) (hs : s < p.length) : enAt (entL ps at_ mv) ⟨(t : Int), (s : Int)⟩ = entG ps at_ mv (fun _ => -1) mv.length ⟨(t : Int), (s : Int)⟩ := by
  unfold entL
  rw [enAt_tabS _ hp hs, entTo_G]
theorem entL_old (hg : Gd ps at_) (hl : Legal ps at_ mv) {t s : Nat} {p : List Stage} (hp : ps[t]? = some p) (hs : s < p.length) (h : (s : Int) ≤ nowAt at_ t) : enAt (entL ps at_ mv) ⟨(t : Int), (s : Int)⟩ = -1 := by
  rw [entL_at hp hs]
  exact (entG_ok hg hl _ mv.length (Nat.le_refl _)).old t s (getElem?_lt hp) h
theorem entL_new (hg : Gd ps at_) (hl : Legal ps at_ mv) (hf : leftB ps (runM at_ mv) = true) {t s : Nat} {p : List Stage} (hp : ps[t]? = some p) (hs : s < p.length) (h : nowAt at_ t < (s : Int)) :
    ∃ j : Nat, enAt (entL ps at_ mv) ⟨(t : Int), (s : Int)⟩ = (j : Int) ∧ mv[j]? = some (t : Int) ∧ nowAt (runM at_ (mv.take j)) t + 1 = (s : Int) := by
  rw [entL_at hp hs]
  have hend := leftB_at (legal_gd mv at_ hg hl) hf (getElem?_lt hp)
  rw [lenAt_of hp] at hend
  obtain ⟨j, _, h1⟩ := (entG_ok hg hl (fun _ => -1) mv.length (Nat.le_refl _)).new t s (getElem?_lt hp) (by rw [lenAt_of hp]; exact hs) h (by rw [List.take_length, hend]; omega)
  exact ⟨j, h1⟩
theorem entL_mono (hg : Gd ps at_) (hl : Legal ps at_ mv) (hf : leftB ps (runM at_ mv) = true) {t s s' : Nat} {p : List Stage} (hp : ps[t]? = some p) (hs : s' < p.length) (h : s < s') : enAt (entL ps at_ mv) ⟨(t : Int), (s : Int)⟩ ≤ enAt (entL ps at_ mv) ⟨(t : Int), (s' : Int)⟩ := by
  by_cases g : (s : Int) ≤ nowAt at_ t
  · rw [entL_old hg hl hp (by omega) g]
    by_cases g' : (s' : Int) ≤ nowAt at_ t
    · rw [entL_old hg hl hp hs g']; exact Int.le_refl _
    · obtain ⟨j, e, _⟩ := entL_new hg hl hf hp hs (by omega)
      rw [e]; omega
  · obtain ⟨i, e, m1, n1⟩ := entL_new hg hl hf hp (s := s) (by omega) (by omega)
    obtain ⟨j, e', m2, n2⟩ := entL_new hg hl hf hp hs (by omega)
    rw [e, e']
    rcases Nat.le_total i j with q | q
    · omega
    · have := (entry_lt hg hl m1 m2 n1 n2 q).1; omega
theorem entL_ok (hv : valid ps = true) (hg : Gd ps at_) (hl : Legal ps at_ mv) (hf : leftB ps (runM at_ mv) = true) : sortOk ps (entL ps at_ mv) = true := by
  simp only [sortOk, Bool.and_eq_true, decide_eq_true_eq]
  refine ⟨⟨hv, tabS_len _ _⟩, rowsOk_ofS _ _ fun t p l hp hl' => ?_⟩
  have ht := getElem?_lt hp
  unfold entL at hl'
  rw [tabS_at _ ht] at hl'
  injection hl' with hl'
  subst hl'
  refine ⟨by rw [rowS_len, lenAt_of hp], rowAsc_ofS _ fun i x y hx hy => ?_⟩
  have h2 := getElem?_lt hy
  rw [rowS_len, lenAt_of hp] at h2
  rw [rowS_at _ (by rw [lenAt_of hp]; omega)] at hx hy
  injection hx with hx; injection hy with hy
  subst hx hy
  have := entL_mono hg hl hf hp h2 (Nat.lt_succ_self i)
  rw [entL_at hp (by omega), entL_at hp h2, ← entTo_G] at this
  exact this
/-- uses of one resource that are not over have different entries -/
theorem entL_ne (hcs : checkState ps at_ = 0) (hl : Legal ps at_ mv) (hf : leftB ps (runM at_ mv) = true) {r : Int} {u v : Ref} (hu : u ∈ openU ps at_ r (allU ps r)) (hv : v ∈ openU ps at_ r (allU ps r)) (he : enAt (entL ps at_ mv) u = enAt (entL ps at_ mv) v) : u = v := by
  obtain ⟨hvl, hgd, _⟩ := checkState_zero hcs
  have hg := good_Gd.1 hgd
  unfold openU at hu hv
  obtain ⟨hu, ou⟩ := List.mem_filter.1 hu
  obtain ⟨hv, ov⟩ := List.mem_filter.1 hv
  obtain ⟨t, s, p, a, hp, hs, har, rfl⟩ := mem_allU.1 hu
  obtain ⟨t', s', p', a', hp', hs', har', rfl⟩ := mem_allU.1 hv
  have ls := getElem?_lt hs
  have ls' := getElem?_lt hs'
  have hov : ∀ (t s : Nat) (p : List Stage) (a : Stage), ps[t]? = some p → p[s]? = some a → (!overB ps at_ ⟨(t : Int), (s : Int)⟩ r) = true → (s : Int) ≤ nowAt at_ t → a.sec = r ∧ nowAt at_ t = (s : Int) := fun t s p a hp hs ho h => by
    simp only [overB, Bool.not_eq_true', decide_eq_false_iff_not, Int.toNat_natCast] at ho
    unfold relOf secOf at ho
    simp only [Int.toNat_natCast, hp, Option.getD_some, hs, Option.elim_some] at ho
    by_cases e : a.sec = r
    · rw [if_pos e] at ho
      simp only at ho
      exact ⟨e, by omega⟩
    · rw [if_neg e] at ho
      simp only at ho
      omega
  by_cases g : (s : Int) ≤ nowAt at_ t
  · rw [entL_old hg hl hp ls g] at he
    by_cases g' : (s' : Int) ≤ nowAt at_ t'
    · obtain ⟨q1, q2⟩ := hov t s p a hp hs ou g
      obtain ⟨q3, q4⟩ := hov t' s' p' a' hp' hs' ov g'
      by_cases e : t = t'
      · subst e
        have : s = s' := by omega
        rw [this]
      · exfalso
        have hsec : ∀ (t s : Nat) (p : List Stage) (a : Stage), ps[t]? = some p → p[s]? = some a → nowAt at_ t = (s : Int) → secNow ps at_ t = a.sec := fun t s p a hp hs h => by
          unfold secNow secAt
          rw [hp, Option.getD_some, h, if_neg (by omega), Int.toNat_natCast, hs]
        have e1 := hsec t s p a hp hs q2
        have e2 := hsec t' s' p' a' hp' hs' q4
        have h0 : 0 ≤ secNow ps at_ t := by
          rw [e1]
          have := valid_stage hvl (List.mem_of_getElem? hp) (List.mem_of_getElem? hs)
          simp only [stageOk, Bool.and_eq_true, isRes, decide_eq_true_eq] at this
          omega
        exact state_excl hcs (getElem?_lt hp) (getElem?_lt hp') e h0 (by rw [e1, e2, q1, q3])
    · obtain ⟨j, e', _⟩ := entL_new hg hl hf hp' ls' (by omega)
      rw [e'] at he; omega
  · obtain ⟨i, e1, m1, n1⟩ := entL_new hg hl hf hp ls (by omega)
    by_cases g' : (s' : Int) ≤ nowAt at_ t'
    · rw [entL_old hg hl hp' ls' g', e1] at he; omega
    · obtain ⟨j, e2, m2, n2⟩ := entL_new hg hl hf hp' ls' (by omega)
      have : i = j := by omega
      subst this
      rw [m1] at m2
      injection m2 with m2
      have : t = t' := by omega
      subst this
      have : s = s' := by omega
      rw [this]
end

/-- sorting by entries alone gives an ascending list -/
theorem insU_asc {en : List (List Int)} {u : Ref} {l : List Ref} (h1 : l.Pairwise fun a b => enAt en a ≤ enAt en b) : (insU en u l).Pairwise fun a b => enAt en a ≤ enAt en b := by
  unfold insU
  have ha := insK_after (en := en) (u := u) (l := l) l.length
  have hs' := insK_stop (en := en) (u := u) (l := l) l.length (Nat.le_refl _)
  generalize insK en u l l.length = k at ha hs'
  have hs : (l.take k ++ l.drop k).Pairwise fun a b => enAt en a ≤ enAt en b := by rw [List.take_append_drop]; exact h1
  obtain ⟨s1, s2, s3⟩ := List.pairwise_append.1 hs
  rw [List.pairwise_append]
  refine ⟨s1, List.pairwise_cons.2 ⟨fun v hv => ?_, s2⟩, fun a ha' b hb => ?_⟩
  · obtain ⟨j, hj⟩ := List.mem_iff_getElem?.1 hv
    rw [List.getElem?_drop] at hj
    exact Int.le_of_lt (ha (k + j) v (by omega) (getElem?_lt hj) hj)
  · rcases List.mem_cons.1 hb with rfl | hb
    · obtain ⟨i, hi⟩ := List.mem_iff_getElem?.1 ha'
      have hik : i < k := by have := getElem?_lt hi; rw [List.length_take] at this; omega
      rw [List.getElem?_take_of_lt hik] at hi
      obtain ⟨j, rfl⟩ : ∃ j, k = j + 1 := ⟨k - 1, by omega⟩
      obtain ⟨v, hv, hvu⟩ := hs' j rfl
      by_cases e : i = j
      · subst e; rw [hi] at hv; injection hv with hv; subst hv; exact hvu
      · have hlt1 := getElem?_lt hi
        have hlt2 := getElem?_lt hv
        have q := List.pairwise_iff_getElem.1 h1 i j hlt1 hlt2 (by omega)
        rw [List.getElem?_eq_getElem hlt1] at hi
        rw [List.getElem?_eq_getElem hlt2] at hv
        injection hi with hi; injection hv with hv
        rw [hi, hv] at q
        omega
    · exact s3 a ha' b hb
theorem sortR_asc (en : List (List Int)) (l : List Ref) : (sortR en l).Pairwise fun a b => enAt en a ≤ enAt en b := by
  have key : ∀ (l acc : List Ref), acc.Pairwise (fun a b => enAt en a ≤ enAt en b) → (l.foldl (fun acc u => insU en u acc) acc).Pairwise fun a b => enAt en a ≤ enAt en b := by
    intro l
    induction l with
    | nil => intro acc h; exact h
    | cons a l ih => intro acc h; rw [List.foldl_cons]; exact ih _ (insU_asc h)
  exact key l [] List.Pairwise.nil
theorem perm_of_exactly {ps : List (List Stage)} {o : Order} (h : exactlyB o.uses (allU ps o.res) = true) : o.uses.Perm (allU ps o.res) := by
  simp only [exactlyB, Bool.and_eq_true, decide_eq_true_eq, List.all_eq_true] at h
  have hnd : o.uses.Nodup := h.2.imp fun h => h.1
  have hfull := nodup_fullR hnd h.1.2 (by omega)
  have hnd2 : (allU ps o.res).Nodup := (allU_lex ps o.res).imp fun h e => by subst e; unfold Lex at h; omega
  exact (List.perm_ext_iff_of_nodup hnd hnd2).2 fun x => ⟨h.1.2 x, hfull x⟩
section
variable {ps : List (List Stage)} {os : List Order} {at_ mv : List Int}
theorem open_sorted (hcs : checkState ps at_ = 0) (hl : Legal ps at_ mv) (hf : leftB ps (runM at_ mv) = true) {o : Order} (h : exactlyB o.uses (allU ps o.res) = true) :
    openU ps at_ o.res (sortR (entL ps at_ mv) (allU ps o.res)) = sortR (entL ps at_ mv) (openU ps at_ o.res o.uses) := by
  have hp := perm_of_exactly h
  have p1 : (openU ps at_ o.res (sortR (entL ps at_ mv) (allU ps o.res))).Perm (openU ps at_ o.res (allU ps o.res)) := (sortR_perm _ _).filter _
  have p2 : (sortR (entL ps at_ mv) (openU ps at_ o.res o.uses)).Perm (openU ps at_ o.res (allU ps o.res)) := (sortR_perm _ _).trans (hp.filter _)
  refine List.Perm.eq_of_pairwise (le := fun a b => enAt (entL ps at_ mv) a ≤ enAt (entL ps at_ mv) b) (fun a b ha hb h1 h2 => ?_) ((sortR_asc _ _).sublist (List.filter_sublist ..)) (sortR_asc _ _) (p1.trans p2.symm)
  exact entL_ne hcs hl hf (p1.mem_iff.1 ha) (p2.mem_iff.1 hb) (by omega)
theorem rest_eq (en : List (List Int)) (h : ∀ o ∈ os, openU ps at_ o.res (sortR en (allU ps o.res)) = sortR en (openU ps at_ o.res o.uses)) : (os.map fun o => (⟨o.res, sortR en (allU ps o.res)⟩ : Order)).flatMap (restO ps at_) = (os.flatMap (restO ps at_)).map fun o => ⟨o.res, sortR en o.uses⟩ := by
  induction os with
  | nil => rfl
  | cons o os ih =>
    simp only [List.map_cons, List.flatMap_cons, List.map_append]
    rw [ih (fun o ho => h o (by simp [ho]))]
    congr 1
    unfold restO
    simp only
    rw [h o (by simp), (sortR_perm _ _).length_eq]
    split <;> rfl
theorem ordersTo_map (en : List (List Int)) : ∀ n, ordersTo ps en n = (resTo ps n).map fun r => ⟨r, sortR en (allU ps r)⟩
  | 0 => rfl
  | n + 1 => by
    have h := ordersTo_map en n
    simp only [ordersTo, resTo, List.map_append, h]
    congr 1
    have e : (0 < (allU ps (n : Int)).length) ↔ (n : Int) ∈ usesAll ps := by
      have := allU_nil_iff (ps := ps) (r := (n : Int))
      constructor
      · intro h1
        rcases Classical.em ((n : Int) ∈ usesAll ps) with h2 | h2
        · exact h2
        · rw [this.2 h2] at h1; simp at h1
      · intro h1
        rcases Nat.eq_zero_or_pos (allU ps (n : Int)).length with h2 | h2
        · exact absurd h1 (this.1 (List.eq_nil_of_length_eq_zero h2))
        · exact h2
    by_cases g : 0 < (allU ps (n : Int)).length
    · rw [if_pos g]
      simp [e.1 g]
    · rw [if_neg g]
      have h4 : (n : Int) ∉ usesAll ps := fun h => g (e.2 h)
      simp [h4]
/-- the rest of the reference's sorted orders is the rest of the planned ones, sorted -/
theorem take_orders (hck : checkO ps os = true) (hcs : checkState ps at_ = 0) (hl : Legal ps at_ mv) (hf : leftB ps (runM at_ mv) = true) :
    restP ps (sortO ps (entL ps at_ mv)).1 at_ = (restP ps os at_).map (sortTO (entL ps at_ mv)) := by
  obtain ⟨hv, hgd, _⟩ := checkState_zero hcs
  have hg := good_Gd.1 hgd
  have hok := entL_ok hv hg hl hf
  have hck2 := sortO_check hok
  unfold sortO
  rw [if_pos hok]
  simp only
  unfold restP
  rw [hck, hck2, hgd]
  simp only [Bool.and_self, if_true]
  have hos := hck
  simp only [checkO, Bool.and_eq_true, decide_eq_true_eq, List.all_eq_true] at hos
  have e : ordersTo ps (entL ps at_ mv) 144 = os.map fun o => (⟨o.res, sortR (entL ps at_ mv) (allU ps o.res)⟩ : Order) := by
    rw [ordersTo_map, ← hos.1.2, List.map_map]; rfl
  rw [e, rest_eq _ fun o ho => open_sorted hcs hl hf (hos.2 o ho)]
  refine List.map_congr_left fun o _ => ?_
  unfold sortTO
  rw [sortT_eq]
end

theorem isNaN_any (a : Int) (w : World) : Calls Tryz.prog 63 #[.int .i64 a] w fun e w' => e = .returned (.bool false) ∧ w = w' := by
  go_enter Tryz.func63, Tryz.ntmps63
  go_wp2
  go_ret
  exact ⟨by simp, rfl⟩

theorem Compare_any (a b : Int) (w : World) : Calls Tryz.prog 36 #[.int .i64 a, .int .i64 b] w fun e w' => e = .returned (.int .i64 (cmpI a b)) ∧ w = w' := by
  by_cases h1 : a < b
  · have Q : Hid (cmpI a b = -1) := by show _ = _; unfold cmpI; rw [if_pos h1]
    go_enter Tryz.func36, Tryz.ntmps36
    go_wp2_with (go_at_call 63; refine (isNaN_any _ _).mono ?_; rintro e w' ⟨rfl, rfl⟩)
    go_ret
    exact ⟨by rw [Q.out]; rfl, rfl⟩
  · by_cases h2 : a > b
    · have Q : Hid (cmpI a b = 1) := by show _ = _; unfold cmpI; rw [if_neg h1, if_pos h2]
      go_enter Tryz.func36, Tryz.ntmps36
      go_wp2_with (go_at_call 63; refine (isNaN_any _ _).mono ?_; rintro e w' ⟨rfl, rfl⟩)
      go_ret
      exact ⟨by rw [Q.out]; rfl, rfl⟩
    · have Q : Hid (cmpI a b = 0) := by show _ = _; unfold cmpI; rw [if_neg h1, if_neg h2]
      go_enter Tryz.func36, Tryz.ntmps36
      go_wp2_with (go_at_call 63; refine (isNaN_any _ _).mono ?_; rintro e w' ⟨rfl, rfl⟩)
      go_ret
      exact ⟨by rw [Q.out]; rfl, rfl⟩

set_option maxRecDepth 100000 in
set_option maxHeartbeats 2000000 in
theorem Len64_any (n : Nat) (hn : n ≤ 12) (w : World) : Calls Tryz.prog 94 #[.int .u64 (n : Int)] w fun e w' => ∃ m : Int, e = .returned (.int .i64 m) ∧ w = w' := by
  have hn13 : n = 0 ∨ n = 1 ∨ n = 2 ∨ n = 3 ∨ n = 4 ∨ n = 5 ∨ n = 6 ∨ n = 7 ∨ n = 8 ∨ n = 9 ∨ n = 10 ∨ n = 11 ∨ n = 12 := by omega
  rcases hn13 with rfl | rfl | rfl | rfl | rfl | rfl | rfl | rfl | rfl | rfl | rfl | rfl | rfl
  all_goals
    go_enter Tryz.func94, Tryz.ntmps94
    go_wp2
    go_ret
    exact ⟨_, rfl, rfl⟩
theorem Len_any (n : Nat) (hn : n ≤ 12) (w : World) : Calls Tryz.prog 62 #[.int .u64 (n : Int)] w fun e w' => ∃ m : Int, e = .returned (.int .i64 m) ∧ w = w' := by
  have HL := Lib.hid (Len64_any n hn w)
  go_enter Tryz.func62, Tryz.ntmps62
  go_wp2_with fail
  refine HL.out.mono ?_
  rintro e w' ⟨m, rfl, rfl⟩
  go_wp2
  go_ret
  exact ⟨m, rfl, rfl⟩

/-- a position that enter has -/
def HasEn (en : List (List Int)) (u : Ref) : Prop := ∃ (t k : Nat) (l : List Int) (x : Int), u = ⟨(t : Int), (k : Int)⟩ ∧ en[t]? = some l ∧ l[k]? = some x

end Go.Proofs.YtbfgmbakeofcbaaGreat
