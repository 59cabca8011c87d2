/- The order of events of chapter 35 as plain lists: the program's and the reference's are the same. No program in sight. Which arcs the graph has, in terms of the orders. No program in sight. Contracts of the makers of positions and paths: what they return fits. Conditions: as each theorem says. -/
import Derived.Test.YtilbbpbjhoidhaaK04
import Derived.Test.YtilbbpbjhoidhaaK03
namespace Go.Proofs.Ytilbbpbjhoidhaa
open Go.RowKit

def nowAt (now : List Int) (t : Nat) : Int := (now[t]?).getD 0
def lenAt (ps : List (List Stage)) (t : Nat) : Nat := ((ps[t]?).getD []).length
theorem lenAt_of {ps : List (List Stage)} {t : Nat} {p : List Stage} (h : ps[t]? = some p) : lenAt ps t = p.length := by simp [lenAt, h]
theorem nowAt_of {now : List Int} {t : Nat} {x : Int} (h : now[t]? = some x) : nowAt now t = x := by simp [nowAt, h]
/-- an event has happened -/
def doneR (now : List Int) (u : Ref) : Bool := decide (u.st ≤ nowAt now u.tr.toNat)
def evAt (ps : List (List Stage)) (i : Nat) : Ref := ((evs ps)[i]?).getD ⟨0, 0⟩
def arcsAt (arcs : List (List GArc)) (i : Nat) : List GArc := (arcs[i]?).getD []
def canGo (ps : List (List Stage)) (arcs : List (List GArc)) (now : List Int) (t : Nat) : Bool :=
  decide (nowAt now t < lenAt ps t) && (arcsAt arcs ((fst ps t : Int) + nowAt now t + 1).toNat).all fun a => doneR now (evAt ps a.frm.toNat)
def lineFrom (go : List Int → Option Nat) : Nat → List Int → List Ref × List Int
  | 0, now => ([], now)
  | f + 1, now => match go now with
    | none => ([], now)
    | some t => (⟨(t : Int), nowAt now t + 1⟩ :: (lineFrom go f (now.set t (nowAt now t + 1))).1, (lineFrom go f (now.set t (nowAt now t + 1))).2)
def total (ps : List (List Stage)) (now : List Int) : Nat := ((List.range ps.length).map fun t => ((lenAt ps t : Int) - nowAt now t).toNat).sum

/-- good positions, as facts -/
def Gd (ps : List (List Stage)) (now : List Int) : Prop := now.length = ps.length ∧ ∀ t, t < ps.length → -1 ≤ nowAt now t ∧ nowAt now t ≤ lenAt ps t
theorem good_Gd {ps : List (List Stage)} {now : List Int} : good ps now = true ↔ Gd ps now := by
  simp only [good, Bool.and_eq_true, decide_eq_true_eq]
  constructor
  · rintro ⟨h1, h2⟩
    refine ⟨h1, fun t ht => ?_⟩
    have hp : ps[t]? = some ps[t] := List.getElem?_eq_getElem ht
    have hn : now[t]? = some (now[t]'(by omega)) := List.getElem?_eq_getElem (by omega)
    have := goodFrom_at ps now h2 t _ _ hp hn
    simp [okPos] at this
    rw [nowAt_of hn, lenAt_of hp]; exact this
  · rintro ⟨h1, h2⟩
    refine ⟨h1, ?_⟩
    clear h1
    induction ps generalizing now with
    | nil => simp [goodFrom]
    | cons p ps ih =>
      cases now with
      | nil => simp [goodFrom]
      | cons a l =>
        simp only [goodFrom, Bool.and_eq_true]
        refine ⟨?_, ih (fun t ht => ?_)⟩
        · have := h2 0 (by simp)
          simp [nowAt, lenAt] at this
          simp [okPos]; exact this
        · have := h2 (t + 1) (by simp; omega)
          simpa [nowAt, lenAt] using this
theorem nowAt_set {now : List Int} {t u : Nat} {x : Int} (ht : t < now.length) : nowAt (now.set t x) u = if t = u then x else nowAt now u := by
  unfold nowAt
  rw [List.getElem?_set]
  by_cases e : t = u
  · subst e; simp [ht]
  · simp [e]
theorem Gd.step {ps : List (List Stage)} {now : List Int} {t : Nat} (h : Gd ps now) (ht : t < ps.length) (hl : nowAt now t < lenAt ps t) : Gd ps (now.set t (nowAt now t + 1)) := by
  refine ⟨by simpa using h.1, fun u hu => ?_⟩
  rw [nowAt_set (by rw [h.1]; exact ht)]
  have h1 := h.2 u hu
  have h2 := h.2 t ht
  by_cases e : t = u
  · subst e; simp; omega
  · simp [e]; exact h1
theorem sum_range_upd {n t : Nat} (ht : t < n) (f g : Nat → Nat) (h1 : ∀ u, u ≠ t → f u = g u) (h2 : f t = g t + 1) : ((List.range n).map f).sum = ((List.range n).map g).sum + 1 := by
  induction n with
  | zero => omega
  | succ n ih =>
    rw [List.range_succ, List.map_append, List.sum_append, List.map_append, List.sum_append]
    simp only [List.map_cons, List.map_nil, List.sum_cons, List.sum_nil]
    by_cases e : t = n
    · subst e
      have : (List.range t).map f = (List.range t).map g := List.map_congr_left fun u hu => h1 u (by have := List.mem_range.1 hu; omega)
      rw [this, h2]; omega
    · rw [ih (by omega), h1 n (fun e' => e e'.symm)]; omega
theorem total_step {ps : List (List Stage)} {now : List Int} {t : Nat} (h : Gd ps now) (ht : t < ps.length) (hl : nowAt now t < lenAt ps t) : total ps now = total ps (now.set t (nowAt now t + 1)) + 1 := by
  unfold total
  refine sum_range_upd ht _ _ (fun u hu => ?_) ?_
  · rw [nowAt_set (by rw [h.1]; exact ht), if_neg (fun e => hu e.symm)]
  · rw [nowAt_set (by rw [h.1]; exact ht), if_pos rfl]
    omega
/-- a chooser that chooses trains with a next event -/
def Sound (ps : List (List Stage)) (go : List Int → Option Nat) : Prop := ∀ now t, go now = some t → t < ps.length ∧ nowAt now t < lenAt ps t
theorem lineFrom_inv {ps : List (List Stage)} {go : List Int → Option Nat} (hs : Sound ps go) : ∀ (f : Nat) (now : List Int), Gd ps now → Gd ps (lineFrom go f now).2 ∧ (lineFrom go f now).1.length + total ps (lineFrom go f now).2 = total ps now ∧ (total ps now ≤ f → go (lineFrom go f now).2 = none)
  | 0, now, h => by
    refine ⟨h, by simp [lineFrom], fun h0 => ?_⟩
    simp only [lineFrom]
    cases e : go now with
    | none => rfl
    | some t =>
      obtain ⟨h1, h2⟩ := hs now t e
      have := total_step h h1 h2; omega
  | f + 1, now, h => by
    simp only [lineFrom]
    cases e : go now with
    | none => exact ⟨h, by simp, fun _ => e⟩
    | some t =>
      obtain ⟨h1, h2⟩ := hs now t e
      have hst := total_step h h1 h2
      obtain ⟨i1, i2, i3⟩ := lineFrom_inv hs f _ (h.step h1 h2)
      exact ⟨i1, by simp; omega, fun hf => i3 (by omega)⟩
theorem sum_zero : ∀ (l : List Nat), l.sum = 0 → ∀ x ∈ l, x = 0
  | [], _, x, hx => by simp at hx
  | a :: l, h, x, hx => by
    simp only [List.sum_cons] at h
    rcases List.mem_cons.1 hx with rfl | hx
    · omega
    · exact sum_zero l (by omega) x hx
theorem total_zero {ps : List (List Stage)} {now : List Int} (h : Gd ps now) : total ps now = 0 ↔ ∀ t, t < ps.length → nowAt now t = lenAt ps t := by
  unfold total
  constructor
  · intro h0 t ht
    have := sum_zero _ h0 (((lenAt ps t : Int) - nowAt now t).toNat) (List.mem_map.2 ⟨t, List.mem_range.2 ht, rfl⟩)
    have := h.2 t ht; omega
  · intro h0
    have : (List.range ps.length).map (fun t => ((lenAt ps t : Int) - nowAt now t).toNat) = (List.range ps.length).map fun _ => 0 := List.map_congr_left fun t ht => by
      rw [h0 t (List.mem_range.1 ht)]; simp
    rw [this]
    induction (List.range ps.length) with
    | nil => rfl
    | cons a l ih => simpa using ih
theorem sum_le_mul (f : Nat → Nat) (B : Nat) : ∀ n, (∀ t, t < n → f t ≤ B) → ((List.range n).map f).sum ≤ n * B
  | 0, _ => by simp
  | n + 1, h => by
    rw [List.range_succ, List.map_append, List.sum_append]
    have h1 := sum_le_mul f B n (fun t ht => h t (by omega))
    have h2 := h n (by omega)
    simp only [List.map_cons, List.map_nil, List.sum_cons, List.sum_nil]
    rw [Nat.succ_mul]; omega

/-- w' is the last use of its train in l -/
def Last (l : List Ref) (w : Ref) : Prop := w ∈ l ∧ ∀ x ∈ l, x.tr = w.tr → x.st ≤ w.st
/-- the releases so far -/
def RelOf (ps : List (List Stage)) (r : Int) (past : List Ref) (rel : List Int) : Prop :=
  rel.length = ps.length ∧ ∀ t, t < ps.length → (rel[t]? = some (-1) ∧ ∀ w ∈ past, w.tr ≠ (t : Int)) ∨ ∃ w, Last past w ∧ w.tr = (t : Int) ∧ rel[t]? = some ((num ps (relOf ps r w) : Nat) : Int)
theorem RelOf.nil (ps : List (List Stage)) (r : Int) : RelOf ps r [] (List.replicate ps.length (-1)) := ⟨by simp, fun t ht => .inl ⟨by simp [ht], by simp⟩⟩
theorem RelOf.step {ps : List (List Stage)} {r : Int} {past : List Ref} {rel : List Int} {v : Ref} (h : RelOf ps r past rel) (hv : v ∈ allU ps r) (hp : ∀ w ∈ past, Before w v) : RelOf ps r (past ++ [v]) (rel.set v.tr.toNat (num ps (relOf ps r v) : Nat)) := by
  obtain ⟨tv, kv, p, s, hpp, _, _, rfl⟩ := mem_allU.1 hv
  have htv := getElem?_lt hpp
  refine ⟨by simpa using h.1, fun t ht => ?_⟩
  simp only [Int.toNat_natCast]
  rw [List.getElem?_set]
  by_cases e : tv = t
  · subst e
    right
    refine ⟨⟨(tv : Int), (kv : Int)⟩, ⟨by simp, fun x hx he => ?_⟩, rfl, by rw [if_pos rfl, if_pos (by rw [h.1]; exact htv)]⟩
    rcases List.mem_append.1 hx with hx | hx
    · have := hp x hx he; omega
    · simp at hx; subst hx; exact Int.le_refl _
  · rw [if_neg e]
    rcases h.2 t ht with ⟨h1, h2⟩ | ⟨w, hw, h1, h2⟩
    · left
      refine ⟨h1, fun w hw => ?_⟩
      rcases List.mem_append.1 hw with hw | hw
      · exact h2 w hw
      · simp at hw; subst hw; show (tv : Int) ≠ (t : Int); omega
    · right
      refine ⟨w, ⟨by simp [hw.1], fun x hx he => ?_⟩, h1, h2⟩
      rcases List.mem_append.1 hx with hx | hx
      · exact hw.2 x hx he
      · simp at hx; subst hx
        rw [h1] at he
        have he : (tv : Int) = (t : Int) := he
        omega
theorem mem_relArcs {to : Nat} {tr : Int} {rel : List Int} {q : Nat × GArc} : q ∈ relArcs to tr rel ↔ ∃ (t : Nat) (x : Int), rel[t]? = some x ∧ (t : Int) ≠ tr ∧ 0 ≤ x ∧ q = (to, ⟨x, 0⟩) := by
  unfold relArcs
  rw [List.mem_flatMap]
  constructor
  · rintro ⟨⟨x, t⟩, hx, hq⟩
    simp only at hq
    split at hq
    · rename_i hc
      simp at hq
      exact ⟨t, x, List.mem_zipIdx_iff_getElem?.1 hx, hc.1, hc.2, hq⟩
    · simp at hq
  · rintro ⟨t, x, hx, h1, h2, rfl⟩
    exact ⟨(x, t), List.mem_zipIdx_iff_getElem?.2 hx, by simp [h1, h2]⟩
theorem mem_useAdds {ps : List (List Stage)} {r : Int} {i : Nat} {a : GArc} : ∀ (l past : List Ref) (rel : List Int), RelOf ps r past rel → (past ++ l).Pairwise Before → (∀ u ∈ past ++ l, u ∈ allU ps r) →
    ((i, a) ∈ useAdds ps r l rel ↔ ∃ (j : Nat) (v w : Ref), l[j]? = some v ∧ i = num ps v ∧ Last (past ++ l.take j) w ∧ w.tr ≠ v.tr ∧ a = ⟨((num ps (relOf ps r w) : Nat) : Int), 0⟩)
  | [], past, rel, _, _, _ => by simp [useAdds]
  | v :: l, past, rel, hr, hp, hu => by
    have hb : ∀ w ∈ past, Before w v := fun w hw => (List.pairwise_append.1 hp).2.2 w hw v (by simp)
    have ih := mem_useAdds (i := i) (a := a) l (past ++ [v]) (rel.set v.tr.toNat (num ps (relOf ps r v) : Nat)) (hr.step (hu v (by simp)) hb) (by simpa using hp) (fun u hu' => hu u (by simpa using hu'))
    rw [useAdds, List.mem_append, ih, mem_relArcs]
    constructor
    · rintro (⟨t, x, hx, h1, h2, hq⟩ | ⟨j, v', w, h1, h2, h3, h4, h5⟩)
      · injection hq with hq1 hq2
        have ht : t < ps.length := by have := getElem?_lt hx; rw [hr.1] at this; exact this
        rcases hr.2 t ht with ⟨h3, _⟩ | ⟨w, hw, h3, h4⟩
        · rw [h3] at hx; injection hx with hx; omega
        · rw [h4] at hx; injection hx with hx
          exact ⟨0, v, w, rfl, hq1, by simpa using hw, by rw [h3]; exact h1, by rw [hq2, ← hx]⟩
      · exact ⟨j + 1, v', w, by simpa using h1, h2, by simpa using h3, h4, h5⟩
    · rintro ⟨j, v', w, h1, h2, h3, h4, h5⟩
      cases j with
      | zero =>
        simp at h1; subst h1
        left
        have hw : w ∈ past := by simpa using h3.1
        obtain ⟨tw, kw, pw, sw, hpw, _, _, hwe⟩ := mem_allU.1 (hu w (by simp [hw]))
        have htw := getElem?_lt hpw
        have htr : w.tr = (tw : Int) := by rw [hwe]
        rcases hr.2 tw htw with ⟨_, hno⟩ | ⟨w2, hw2, ht2, hx2⟩
        · exact absurd htr (hno w hw)
        · have hL : Last past w := by simpa using h3
          have e1 := hL.2 w2 hw2.1 (by rw [ht2, htr])
          have e2 := hw2.2 w hw (by rw [ht2, htr])
          have : w2 = w := by
            cases w; cases w2
            simp only at *
            simp; omega
          subst this
          exact ⟨tw, _, hx2, by rw [← htr]; exact h4, by omega, by rw [h2, h5]⟩
      | succ j =>
        right
        exact ⟨j, v', w, by simpa using h1, h2, by simpa using h3, h4, h5⟩
theorem relOf_tr (ps : List (List Stage)) (r : Int) (w : Ref) : (relOf ps r w).tr = w.tr := by unfold relOf; split <;> rfl

theorem tyInt : ElemTy Try.prog 22 3 1 8 := .mk' Try.underlying22 (z := .int .i64 0) (by kernel_rfl) rfl (by omega)
theorem tyStage : ElemTy Try.prog 100 99 4 48 := .mk' Try.underlying100 (z := .agg #[.int .i64 0, .slice none 0 0, .int .i64 0, .int .i64 0]) (by kernel_rfl) rfl (by omega)
theorem tyPath : ElemTy Try.prog 23 100 1 24 := .mk' Try.underlying23 (z := .slice none 0 0) (by kernel_rfl) rfl (by omega)

def secs8 (ps : List (List Stage)) : Prop := ∀ p ∈ ps, ∀ s ∈ p, 0 ≤ s.sec ∧ s.sec < 8

def cellsB' (l : List Bool) : Array Value := (l.map Value.bool).toArray
theorem cellsB'_get {l : List Bool} {n : Nat} (hn : n < l.length) : ∃ b, (cellsB' l)[n]? = some (.bool b) := ⟨l[n], by simp [cellsB', hn]⟩
theorem cellsB'_set (l : List Bool) (n : Nat) : (cellsB' l).setIfInBounds n (.bool true) = cellsB' (l.set n true) := by simp [cellsB', List.map_set]

/-- keep2.At: the loop's state after n trains -/
structure AtInv (w : World) (ps : List (List Stage)) (wr : World) (v : Value) (n : Nat) : Prop where
  k : KeepsAll w wr
  src : ∃ rest, Src wr (Old w) w.heap.size rest
  held : ∃ l : List Bool, l.length = 8 ∧ Blk wr (w.heap.size + 1) 119 (cellsB' l)
  out : ∃ l : List Int, l.length = n ∧ goodFrom (ps.take n) l = true ∧ OwnL 3 1 RInt wr (w.heap.size + 2) (w.heap.size + 2) v l
theorem AtInv.size {w : World} {ps : List (List Stage)} {wr : World} {v : Value} {n : Nat} (h : AtInv w ps wr v n) : w.heap.size + 1 < wr.heap.size := by
  obtain ⟨l, _, hb⟩ := h.held; exact hb.lt
/-- a change of the source, of the array, or of nothing -/
theorem AtInv.keep {w : World} {ps : List (List Stage)} {wr w' : World} {v : Value} {n : Nat} {C : Foot} (h : AtInv w ps wr v n) (k : Keeps C wr w') (hC : ∀ b, C b → b = w.heap.size ∨ b = w.heap.size + 1)
    (hs : ∃ rest, Src w' (Old w) w.heap.size rest) (hh : ∃ l : List Bool, l.length = 8 ∧ Blk w' (w.heap.size + 1) 119 (cellsB' l)) : AtInv w ps w' v n := by
  refine ⟨h.k.trans k (fun x hx hc => by have := hC x hc; omega), hs, hh, ?_⟩
  obtain ⟨l, h1, h2, h3⟩ := h.out
  exact ⟨l, h1, h2, h3.keeps RInt.ok k (fun b hb hc => by have := hC b hc; omega)⟩

theorem goodFrom_snoc : ∀ (ps : List (List Stage)) (l : List Int) (p : List Stage) (a : Int), ps.length = l.length → goodFrom ps l = true → okPos p a = true → goodFrom (ps ++ [p]) (l ++ [a]) = true
  | [], [], p, a, _, _, h => by simp [goodFrom, h]
  | q :: ps, b :: l, p, a, hl, h, ho => by
    simp only [goodFrom, Bool.and_eq_true, List.cons_append] at h ⊢
    exact ⟨h.1, goodFrom_snoc ps l p a (by simpa using hl) h.2 ho⟩
  | [], _ :: _, _, _, hl, _, _ => by simp at hl
  | _ :: _, [], _, _, hl, _, _ => by simp at hl

theorem AtInv.mark {w : World} {ps : List (List Stage)} {wr : World} {v : Value} {n : Nat} {lh : List Bool} (h : AtInv w ps wr v n) (hl : lh.length = 8) (hb : Blk wr (w.heap.size + 1) 119 (cellsB' lh)) (q : Nat) :
    AtInv w ps (wr.setCell ⟨w.heap.size + 1, q, none⟩ (.bool true)) v n := by
  have kk := (Keeps.refl (fun b => b = w.heap.size + 1) wr).setCell (p := ⟨w.heap.size + 1, q, none⟩) (fun _ => rfl) (.bool true)
  have hz := h.size
  refine h.keep kk (fun b hb => .inr hb) ?_ ?_
  · obtain ⟨r, hr⟩ := h.src
    exact ⟨r, hr.keeps kk (fun b hb => by have : b < w.heap.size := hb; exact ⟨by omega, by omega⟩) (by simp)⟩
  · exact ⟨lh.set q true, by simpa using hl, by rw [← cellsB'_set]; exact hb.set_ q _⟩
theorem AtInv.grow {w : World} {ps : List (List Stage)} {wr w9 : World} {v v' : Value} {n : Nat} {o : Obj} {l0 : List Int} {p : List Stage} {a : Int} (h : AtInv w ps wr v n) (ho : OwnL 3 1 RInt wr (w.heap.size + 2) (w.heap.size + 2) v l0)
    (hl : l0.length = n) (hg : goodFrom (ps.take n) l0 = true) (hp : ps[n]? = some p) (hok : okPos p a = true) (ho9 : OwnL 3 1 RInt w9 (w.heap.size + 2) (w.heap.size + 2) v' (l0 ++ [a])) (hk : Keeps (fun b => v.ownBlock = some b) (wr.alloc o) w9) : AtInv w ps w9 v' (n + 1) := by
  have k2 : Keeps (fun b => v.ownBlock = some b) wr w9 := ((Keeps.refl _ wr).alloc o).trans hk (fun _ _ h => h)
  have far : ∀ b, b < w.heap.size + 2 → ¬ (v.ownBlock = some b) := fun b hb e => by have := ho.lt e; omega
  have hlt : n < ps.length := getElem?_lt hp
  refine ⟨h.k.trans k2 (fun x hx e => far x (by omega) e), ?_, ?_, ⟨l0 ++ [a], by simp [hl], ?_, ho9⟩⟩
  · obtain ⟨r, hr⟩ := h.src
    have := h.size
    exact ⟨r, hr.keeps k2 (fun b hb => by have hb' : b < w.heap.size := hb; exact ⟨by omega, far b (by omega)⟩) (far _ (by omega))⟩
  · obtain ⟨lh, q1, q2⟩ := h.held
    exact ⟨lh, q1, q2.kept k2 (far _ (by omega))⟩
  · rw [List.take_add_one, hp]
    exact goodFrom_snoc _ _ _ _ (by simp; omega) hg hok

set_option maxRecDepth 100000 in
set_option maxHeartbeats 1000000 in
theorem At_any (ps : List (List Stage)) (l : List Int) (A A2 : Option Addr) (c c2 : Nat) (w : World) (h : RPaths w (Old w) [.slice A ps.length c] ps) (h2 : RInts w (Old w) [.slice A2 l.length c2] l) (hs8 : secs8 ps) (hps : ps.length ≤ 1000) (hpl : ∀ p ∈ ps, p.length ≤ 1000) :
    Calls Try.prog 34 #[.slice A ps.length c, .slice A2 l.length c2] w fun e w' => ∃ v at_, e = .returned v ∧ RInts w' (Fresh w w') [v] at_ ∧ good ps at_ = true ∧ KeepsAll w w' := by
  have hc := h.caps
  have H := Lib.hid h; clear h
  have H2 := Lib.hid h2; clear h2
  have HS8 := Lib.hid hs8; clear hs8
  have HPL := Lib.hid hpl; clear hpl
  go_enter Try.func34, Try.ntmps34
  go_wp2_with (go_at_call 35; refine (From_any w A2 c2 l H2.out).mono ?_; rintro e w1 ⟨rfl, hsrc1, hk1, hz1⟩)
  generalize hw2 : World.alloc w1 _ = w2
  have hi0 : AtInv w ps w2 (.slice none 0 0) 0 := by
    subst hw2
    refine ⟨hk1.alloc _, ⟨l, hsrc1.keeps ((Keeps.refl (fun _ => False) _).alloc _) (fun b hb => ⟨by have : b < w.heap.size := hb; omega, by simp⟩) (by simp)⟩, ⟨List.replicate 8 false, by simp, ?_⟩, ⟨[], rfl, by simp [goodFrom], OwnL.nil⟩⟩
    exact Blk.new' _ _ _ (by omega)
  clear hw2 hsrc1 hk1 hz1
  go_loopw [6, 15] (fun v i wr => ∃ k : Nat, k ≤ ps.length ∧ i = .int .i64 k ∧ AtInv w ps wr v k) (fun _ i _ => ps.length - (intOf i).toNat)
  case atStart => exact ⟨0, Nat.zero_le _, rfl, hi0⟩
  case round =>
    obtain ⟨k, hk, rfl, hinv⟩ := hrel
    clear hi0
    by_cases hlt : k < ps.length
    · obtain ⟨b, o, p, A', c', rfl, hb, hx, kx, hp⟩ := RSS.at_ H.out hlt
      have kx' := (hinv.k.cell (p := ⟨b, o + k, none⟩) hb (by simp)).trans kx
      have hpl := HPL.out p (List.mem_of_getElem? hx)
      have hcp := hp.caps
      have HX := Lib.hid hx; clear hx kx
      have HP := Lib.hid hp; clear hp
      have hz := hinv.size
      obtain ⟨rest, hsrc⟩ := hinv.src
      have INV0 := Lib.hid hinv; clear hinv
      go_wp2_with fail
      refine (Next_any _ (Old w) w.heap.size rest _ (by omega) (by omega) hsrc (fun b hb => ⟨by have : b < w.heap.size := hb; omega, by have : b < w.heap.size := hb; omega⟩)).mono ?_
      rintro e w3 ⟨rfl, hsrc3, hk3, hz3⟩
      have hnr := nextV_range rest (↑p.length + 2) (by omega)
      generalize nextV rest (↑p.length + 2) = nx at hnr
      obtain ⟨nn, rfl⟩ := Int.eq_ofNat_of_zero_le hnr.1
      have INV3 : Hid (AtInv w ps w3 u6 k) := INV0.out.keep hk3 (fun b hb => .inl hb) ⟨_, hsrc3⟩ (by
        obtain ⟨lh, q1, q2⟩ := INV0.out.held
        exact ⟨lh, q1, q2.kept hk3 (by simp)⟩)
      have K3 := Lib.hid INV3.out.k
      clear hk3 hz3 hsrc kx'
      by_cases g1 : nn < 1
      · have g1' : decide ((0 : Int) ≤ (nn : Int) - 1) = false := by simp; omega
        obtain ⟨l0, hl0, hg0, ho0⟩ := INV3.out.out
        have hlen0 : l0.length ≤ 1000 := by omega
        have hzf := INV3.out.size
        have HG0 := Lib.hid hg0; clear hg0
        have HL0 := Lib.hid hl0; clear hl0
        have HO := Lib.hid ho0; clear ho0
        have OK : Hid (okPos p ((nn : Int) - 1) = true) := by show okPos p ((nn : Int) - 1) = true; simp [okPos]; try omega
        go_wp2_with (at_builtin; refine wpList_append_L tyInt RInt.ok rfl (.tmp 61) (.tmp 63) rfl (HO.out.alloc RInt.ok _) rfl _ [.int .i64 ((nn : Int) - 1)] rfl (Blk.new _ _ _) rfl ((nn : Int) - 1) (S := fun _ => False) rfl (fun _ h => h.elim) (by simp [Value.oneCell']) (by omega) (by omega) (by simp; omega) ?_; intro v' w9 ho9 hk9 hat9)
        have INV9 : Hid (AtInv w ps w9 v' (k + 1)) := INV3.out.grow HO.out HL0.out HG0.out HX.out OK.out ho9 hk9
        clear ho9 hk9 hat9
        go_wp2
        go_roundw
        case rel => exact ⟨k + 1, by omega, by go_num, INV9.out⟩
        case measure => simp [intOf]; omega
      by_cases g2 : p.length + 1 ≤ nn
      · have g2' : decide ((nn : Int) - 1 < (p.length : Int)) = false := by simp; omega
        have g1' : decide ((0 : Int) ≤ (nn : Int) - 1) = true := by simp; omega
        obtain ⟨l0, hl0, hg0, ho0⟩ := INV3.out.out
        have hlen0 : l0.length ≤ 1000 := by omega
        have hzf := INV3.out.size
        have HG0 := Lib.hid hg0; clear hg0
        have HL0 := Lib.hid hl0; clear hl0
        have HO := Lib.hid ho0; clear ho0
        have OK : Hid (okPos p ((nn : Int) - 1) = true) := by show okPos p ((nn : Int) - 1) = true; simp [okPos]; try omega
        go_wp2_with (at_builtin; refine wpList_append_L tyInt RInt.ok rfl (.tmp 61) (.tmp 63) rfl (HO.out.alloc RInt.ok _) rfl _ [.int .i64 ((nn : Int) - 1)] rfl (Blk.new _ _ _) rfl ((nn : Int) - 1) (S := fun _ => False) rfl (fun _ h => h.elim) (by simp [Value.oneCell']) (by omega) (by omega) (by simp; omega) ?_; intro v' w9 ho9 hk9 hat9)
        have INV9 : Hid (AtInv w ps w9 v' (k + 1)) := INV3.out.grow HO.out HL0.out HG0.out HX.out OK.out ho9 hk9
        clear ho9 hk9 hat9
        go_wp2
        go_roundw
        case rel => exact ⟨k + 1, by omega, by go_num, INV9.out⟩
        case measure => simp [intOf]; omega
      have hj : (nn - 1) < p.length := by omega
      obtain ⟨b5, o5, s, A5, c5, rfl, hb5, hs5, k5, _⟩ := RPath.at_ HP.out hj
      have k5' := (K3.out.cell (p := ⟨b5, o5 + (nn - 1) * 4, none⟩) hb5 (by simp)).trans k5
      have hs8 := HS8.out p (List.mem_of_getElem? HX.out) s (List.mem_of_getElem? hs5)
      obtain ⟨q, hq⟩ : ∃ q : Nat, s.sec = q := ⟨s.sec.toNat, by omega⟩
      rw [hq] at k5' hs8
      clear k5 hq hs5
      obtain ⟨lh, hlh, hbh⟩ := INV3.out.held
      have hqq : q < lh.length := by omega
      obtain ⟨hv, hhv⟩ := cellsB'_get hqq
      have kh := (hbh.cell q).trans hhv
      have kf := hbh.frozen q
      have HBH := Lib.hid hbh; clear hbh hhv
      have g1' : decide ((0 : Int) ≤ (nn : Int) - 1) = true := by simp; omega
      have g2' : decide ((nn : Int) - 1 < (p.length : Int)) = true := by simp; omega
      have hz3 := INV3.out.size
      cases hv with
      | false =>
        have INVS : Hid (AtInv w ps (w3.setCell ⟨w.heap.size + 1, q, none⟩ (.bool true)) u6 k) := INV3.out.mark hlh HBH.out q
        obtain ⟨l0, hl0, hg0, ho0⟩ := INVS.out.out
        have hlen0 : l0.length ≤ 1000 := by omega
        have hzf := INVS.out.size
        have HG0 := Lib.hid hg0; clear hg0
        have HL0 := Lib.hid hl0; clear hl0
        have HO := Lib.hid ho0; clear ho0
        have OK : Hid (okPos p ((nn : Int) - 1) = true) := by show okPos p ((nn : Int) - 1) = true; simp [okPos]; try omega
        go_wp2_with (at_builtin; refine wpList_append_L tyInt RInt.ok rfl (.tmp 61) (.tmp 63) rfl (HO.out.alloc RInt.ok _) rfl _ [.int .i64 ((nn : Int) - 1)] rfl (Blk.new' _ _ _ (by simp)) rfl ((nn : Int) - 1) (S := fun _ => False) rfl (fun _ h => h.elim) (by simp [Value.oneCell']) (by omega) (by omega) (by simp; omega) ?_; intro v' w9 ho9 hk9 hat9)
        have INV9 : Hid (AtInv w ps w9 v' (k + 1)) := INVS.out.grow HO.out HL0.out HG0.out HX.out OK.out ho9 hk9
        clear ho9 hk9 hat9
        go_wp2
        go_roundw
        case rel => exact ⟨k + 1, by omega, by go_num, INV9.out⟩
        case measure => simp [intOf]; omega
      | true =>
        obtain ⟨rest4, hsrc4⟩ := INV3.out.src
        go_wp2_with fail
        refine (Next_any _ (Old w) w.heap.size rest4 _ (by omega) (by omega) hsrc4 (fun b hb => ⟨by have : b < w.heap.size := hb; omega, by have : b < w.heap.size := hb; omega⟩)).mono ?_
        rintro e w4 ⟨rfl, hsrc5, hk4, hz4⟩
        have INV4 : Hid (AtInv w ps w4 u6 k) := INV3.out.keep hk4 (fun b hb => .inl hb) ⟨_, hsrc5⟩ ⟨lh, hlh, HBH.out.kept hk4 (by simp)⟩
        have HBH4 := Lib.hid (HBH.out.kept hk4 (by simp))
        have kh4 := (hk4.cell (p := ⟨w.heap.size + 1, q, none⟩) hz3 (by simp)).trans kh
        have kf4 := HBH4.out.frozen q
        have k54 := (hk4.cell (p := ⟨b5, o5 + (nn - 1) * 4, none⟩) (by have : b5 < w.heap.size := hb5; show b5 < _; omega) (by have : b5 < w.heap.size := hb5; show ¬ b5 = _; omega)).trans k5'
        have hm := nextV_range rest4 8 (by omega)
        generalize nextV rest4 8 = m at hm
        clear hk4 hz4 hsrc4 hsrc5 kh kf k5'
        by_cases g3 : 0 < m
        · have g3' : decide (0 < m) = true := by simpa using g3
          obtain ⟨l0, hl0, hg0, ho0⟩ := INV4.out.out
          have hlen0 : l0.length ≤ 1000 := by omega
          have hzf := INV4.out.size
          have HG0 := Lib.hid hg0; clear hg0
          have HL0 := Lib.hid hl0; clear hl0
          have HO := Lib.hid ho0; clear ho0
          have OK : Hid (okPos p (-1) = true) := by show okPos p (-1) = true; simp [okPos]; try omega
          go_wp2_with (at_builtin; refine wpList_append_L tyInt RInt.ok rfl (.tmp 61) (.tmp 63) rfl (HO.out.alloc RInt.ok _) rfl _ [.int .i64 (-1)] rfl (Blk.new' _ _ _ (by simp)) rfl (-1) (S := fun _ => False) rfl (fun _ h => h.elim) (by simp [Value.oneCell']) (by omega) (by omega) (by simp; omega) ?_; intro v' w9 ho9 hk9 hat9)
          have INV9 : Hid (AtInv w ps w9 v' (k + 1)) := INV4.out.grow HO.out HL0.out HG0.out HX.out OK.out ho9 hk9
          clear ho9 hk9 hat9
          go_wp2
          go_roundw
          case rel => exact ⟨k + 1, by omega, by go_num, INV9.out⟩
          case measure => simp [intOf]; omega
        · have g3' : decide (0 < m) = false := by simpa using g3
          have hz5 := INV4.out.size
          have INVS : Hid (AtInv w ps (w4.setCell ⟨w.heap.size + 1, q, none⟩ (.bool true)) u6 k) := INV4.out.mark hlh HBH4.out q
          obtain ⟨l0, hl0, hg0, ho0⟩ := INVS.out.out
          have hlen0 : l0.length ≤ 1000 := by omega
          have hzf := INVS.out.size
          have HG0 := Lib.hid hg0; clear hg0
          have HL0 := Lib.hid hl0; clear hl0
          have HO := Lib.hid ho0; clear ho0
          have OK : Hid (okPos p ((nn : Int) - 1) = true) := by show okPos p ((nn : Int) - 1) = true; simp [okPos]; try omega
          go_wp2_with (at_builtin; refine wpList_append_L tyInt RInt.ok rfl (.tmp 61) (.tmp 63) rfl (HO.out.alloc RInt.ok _) rfl _ [.int .i64 ((nn : Int) - 1)] rfl (Blk.new' _ _ _ (by simp)) rfl ((nn : Int) - 1) (S := fun _ => False) rfl (fun _ h => h.elim) (by simp [Value.oneCell']) (by omega) (by omega) (by simp; omega) ?_; intro v' w9 ho9 hk9 hat9)
          have INV9 : Hid (AtInv w ps w9 v' (k + 1)) := INVS.out.grow HO.out HL0.out HG0.out HX.out OK.out ho9 hk9
          clear ho9 hk9 hat9
          go_wp2
          go_roundw
          case rel => exact ⟨k + 1, by omega, by go_num, INV9.out⟩
          case measure => simp [intOf]; omega
    · obtain rfl : k = ps.length := by omega
      obtain ⟨l9, hl9, hg9, ho9⟩ := hinv.out
      have R9 := Lib.hid (ho9.read RInt.ok (by omega) (S := Fresh w wr) (fun b h1 h2 => ⟨by omega, h2⟩) (fun b h1 h2 => ⟨by omega, h2⟩))
      have G9 : Hid (good ps l9 = true) := by
        show good ps l9 = true
        rw [List.take_length] at hg9
        simp [good, hl9, hg9]
      have K9 := Lib.hid hinv.k
      clear hinv ho9 hl9 hg9
      go_wp2
      go_ret
      exact ⟨_, l9, rfl, R9.out, G9.out, K9.out⟩

end Go.Proofs.Ytilbbpbjhoidhaa
