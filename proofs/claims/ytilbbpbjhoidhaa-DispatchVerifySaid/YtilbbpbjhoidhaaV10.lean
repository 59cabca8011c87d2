/- What the maker of paths makes is valid. No program in sight. Contracts of the reference's Over and Left. Conditions: as each theorem says. Trains that enter the stages in the order of a line use each resource in its order. No program in sight. The reference's arcs and its order of events as plain lists, and that they agree with the program's. No program in sight. The reference's order of events agrees with the program's. No program in sight. The earliest seconds of chapter 35 as plain functions: the program's and the reference's are the same. No program in sight. One element before another in a list, as a sublist of two. No program in sight. -/
import Derived.Test.YtilbbpbjhoidhaaV09
import Derived.Test.YtilbbpbjhoidhaaV05
import Derived.Test.YtilbbpbjhoidhaaV08
import Derived.Test.YtilbbpbjhoidhaaV04
namespace Go.Proofs.Ytilbbpbjhoidhaa
open Go.RowKit

theorem apart_at : ∀ (p : List Stage), apart p → ∀ (j : Nat) (a b : Stage), p[j]? = some a → p[j + 1]? = some b → a.sec ≠ b.sec
 | [], _, j, a, b, h, _ => by simp at h
 | [x], _, j, a, b, _, h => by simp at h
 | x :: y :: r, h, 0, a, b, ha, hb => by simp at ha hb; subst ha hb; exact h.1
 | x :: y :: r, h, j + 1, a, b, ha, hb => apart_at (y :: r) h.2 j a b (by simpa using ha) (by simpa using hb)
theorem stMade.ok {s : Stage} (h : stMade s) : stageOk s = true := by
 obtain ⟨h1, h2, h3, h4, h5, h6, h7⟩ := h
 rcases h3 with h3 | h3 | h3 <;> simp [stageOk, isRes, isClk, h3, ptsFrom, ptOk] <;> omega
theorem steps_made {p : List Stage} (h1 : ∀ s ∈ p, stMade s) (h2 : apart p) : ∀ (l : List Stage) (j : Nat), p.drop j = l → stepsFrom p j l = true
 | [], j, _ => rfl
 | s :: l, j, h => by
  have hs : p[j]? = some s := by have := congrArg (·[0]?) h; simpa using this
  have hd := drop_cons' hs
  rw [h] at hd; injection hd with _ hd
  simp only [stepsFrom, Bool.and_eq_true, stepOk]
  refine ⟨⟨(h1 s (List.mem_of_getElem? hs)).ok, ?_⟩, steps_made h1 h2 l (j + 1) hd.symm⟩
  by_cases hj : 0 < j
  ·have hj1 : p[j - 1]? = some (p[j - 1]'(by have := getElem?_lt hs; omega)) := List.getElem?_eq_getElem _
   have := apart_at p h2 (j - 1) _ s hj1 (by rw [show j - 1 + 1 = j from by omega]; exact hs)
   rw [hj1]; simp; exact .inr this
  ·simp [hj]
theorem psMade.valid {ps : List (List Stage)} (h : psMade ps) : valid ps = true := by
 simp only [Go.Proofs.Ytilbbpbjhoidhaa.valid, Bool.and_eq_true, decide_eq_true_eq, List.all_eq_true]
 refine ⟨⟨by have := h.2.1; omega, fun p hp => ?_⟩, ?_⟩
 ·have hp := h.2.2 p hp
  simp only [pathOk, Bool.and_eq_true, decide_eq_true_eq]
  exact ⟨⟨hp.1, by have := hp.2.1; omega⟩, steps_made hp.2.2.1 hp.2.2.2 p 0 rfl⟩
 ·simp only [noClash, List.all_eq_true]
  intro r _
  simp only [Bool.not_eq_true', Bool.and_eq_false_iff, decide_eq_false_iff_not]
  by_cases hr : (r : Int) < 5
  ·right
   intro hm
   simp only [List.mem_flatMap, List.mem_flatten] at hm
   obtain ⟨s, ⟨p, hp, hs⟩, hm⟩ := hm
   rcases ((h.2.2 p hp).2.2.1 s hs).2.2.1 with e | e | e <;> rw [e] at hm <;> simp at hm <;> omega
  ·left
   intro hm
   simp only [List.mem_map, List.mem_flatten] at hm
   obtain ⟨s, ⟨p, hp, hs⟩, hm⟩ := hm
   have := ((h.2.2 p hp).2.2.1 s hs).2.1
   omega

theorem psMade.s8 {ps : List (List Stage)} (h : psMade ps) : secs8 ps := fun p hp s hs => by have := (h.2.2 p hp).2.2.1 s hs; have h1 := this.1; have h2 := this.2.1; omega
theorem psMade.l {ps : List (List Stage)} (h : psMade ps) : ps.length ≤ 1000 := by have := h.2.1; omega
theorem psMade.pl {ps : List (List Stage)} (h : psMade ps) : ∀ p ∈ ps, p.length ≤ 1000 := fun p hp => by have := (h.2.2 p hp).2.1; omega
theorem good_len {ps : List (List Stage)} {at_ : List Int} (h : good ps at_ = true) : at_.length = ps.length := by
 simp only [good, Bool.and_eq_true, decide_eq_true_eq] at h; exact h.1
theorem RSlice.form {α : Type} {size : Nat} {E : Rd α} {w : World} {S : Foot} {v : Value} {l : List α} (h : RSlice size E w S [v] l) : ∃ A c, v = .slice A l.length c := by
 obtain ⟨A, c, he, _⟩ := h; injection he with he _; exact ⟨A, c, he⟩

theorem Uses_ext {W : World} (x : Ext W) (s : Stage) (r : Int) (Ap : Option Addr) (cp : Nat) (h : RInts W (Old W) [.slice Ap s.pts.length cp] s.pts) :
  Calls Try.prog 61 #[.agg (stC s Ap cp), .int .i64 r] x.val fun e w'' => e = .returned (.tuple #[.bool (decide (r ∈ stUses s)), .bool (s.sec == r)]) ∧ ∃ y : Ext W, w'' = y.val :=
 ext_call x (Uses_any s r Ap cp x.val (x.keeps.rdo' RInts.ok h))
def overB (ps : List (List Stage)) (now : List Int) (u : Ref) (r : Int) : Bool := decide ((relOf ps r u).st ≤ nowAt now u.tr.toNat)
set_option maxRecDepth 100000 in
set_option maxHeartbeats 1000000 in
theorem Over_any (ps : List (List Stage)) (now : List Int) (r : Int) (A A2 : Option Addr) (c c2 : Nat) (w : World) (h : RPaths w (Old w) [.slice A ps.length c] ps) (h2 : RInts w (Old w) [.slice A2 now.length c2] now) (t k : Nat) (p : List Stage) (s : Stage) (x : Int) (hp : ps[t]? = some p) (hs : p[k]? = some s) (hx : now[t]? = some x) :
  Calls Try.prog 78 #[.slice A ps.length c, .slice A2 now.length c2, .agg #[.int .i64 (t : Int), .int .i64 (k : Int)], .int .i64 r] w fun e w' => e = .returned (.bool (overB ps now ⟨(t : Int), (k : Int)⟩ r)) ∧ KeepsAll w w' := by
 have hc := h.caps
 have hc2 := h2.caps
 have HQ : Hid (overB ps now ⟨(t : Int), (k : Int)⟩ r = if s.sec = r then decide (x > (k : Int)) else decide (x ≥ (k : Int))) := by
  show overB _ _ _ _ = _
  unfold overB relOf secOf
  simp only [Int.toNat_natCast, hp, hs, Option.getD_some, Option.elim_some, nowAt_of hx]
  split
  ·show decide ((k : Int) + 1 ≤ x) = _
   rw [decide_eq_decide]; constructor <;> intro h <;> omega
  ·rfl
 have ht := getElem?_lt hp
 have hkl := getElem?_lt hs
 have htx := getElem?_lt hx
 obtain ⟨b, o, p', A', c', hbo, hb, hp', k1, hr⟩ := RSS.at_ h ht
 subst hbo
 obtain rfl := same_of hp' hp
 have hcp := hr.caps
 obtain ⟨b2, o2, s', As, cs, hbo, hb2, hs', m0, m1, m2, m3, hpts⟩ := RPath.at_ hr hkl
 subst hbo
 obtain rfl := same_of hs' hs
 obtain ⟨b3, o3, x', hbo, hb3, hx', q0⟩ := h2.at_ htx
 subst hbo
 obtain rfl := same_of hx' hx
 have HPTS := Lib.hid hpts
 clear h h2 hr hp hp' hs hs' hx hx' hpts
 go_enter Try.func78, Try.ntmps78
 go_wp2
 generalize hW : World.alloc w _ = W
 have KW : KeepsAll w W := by subst hW; exact (Keeps.refl _ _).alloc _
 have BX : Blk W w.heap.size 46 #[.int .i64 (t : Int), .int .i64 (k : Int)] := by subst hW; exact Blk.new _ _ _
 have e0 := BX.cell 0
 have e1 := BX.cell 1
 simp at e0 e1
 have hz := BX.lt
 replace k1 := KW.cellK (p := ⟨b, o + t, none⟩) hb k1
 replace m0 := KW.cellK (p := ⟨b2, o2 + k * 4, none⟩) hb2 m0
 replace m1 := KW.cellK (p := ⟨b2, o2 + k * 4 + 1, none⟩) hb2 m1
 replace m2 := KW.cellK (p := ⟨b2, o2 + k * 4 + 2, none⟩) hb2 m2
 replace m3 := KW.cellK (p := ⟨b2, o2 + k * 4 + 3, none⟩) hb2 m3
 replace q0 := KW.cellK (p := ⟨b3, o3 + t, none⟩) hb3 q0
 have HP2 := Lib.hid (KW.rdo' RInts.ok HPTS.out)
 have KW' := Lib.hid KW
 clear hW KW BX HPTS
 refine wp_region_ext (by kernel_rfl) (by kernel_rfl) ?_
 have y0 := Ext.cell e0
 have y1 := Ext.cell e1
 have y2 := Ext.cell k1
 have z0 := Ext.cell m0
 have z1 := Ext.cell m1
 have z2 := Ext.cell m2
 have z3 := Ext.cell m3
 have z4 := Ext.cell q0
 repeat (go_big_quiet_step ((go_at_call 61; exact Uses_ext _ s' r As cs HP2.out)))
 refine wpQuiet_nil ?_
 rintro _ ⟨X, rfl⟩
 have f0 := y0 X
 have f1 := y1 X
 have f2 := z4 X
 have KX := Lib.hid (KW'.out.tr X.keeps)
 clear y0 y1 y2 z0 z1 z2 z3 z4 e0 e1 k1 m0 m1 m2 m3 q0
 generalize X.val = WX at *
 by_cases g : s'.sec = r
 ·have g' : (s'.sec == r) = true := by simpa using g
  have Q : Hid (overB ps now ⟨(t : Int), (k : Int)⟩ r = decide (x' > (k : Int))) := by show _ = _; rw [HQ.out, if_pos g]
  rw [g']
  clear g g' HQ
  go_wp2
  go_quiet (fail)
  go_wp2
  go_ret
  exact ⟨by rw [Q.out]; rfl, KX.out.drewN _⟩
 ·have g' : (s'.sec == r) = false := by simpa using g
  have Q : Hid (overB ps now ⟨(t : Int), (k : Int)⟩ r = decide (x' ≥ (k : Int))) := by show _ = _; rw [HQ.out, if_neg g]
  rw [g']
  clear g g' HQ
  go_wp2
  go_quiet (fail)
  go_wp2
  go_ret
  exact ⟨by rw [Q.out]; rfl, KX.out.drewN _⟩

structure RArc where
 frm : Ref
 to : Ref
 wt : Int
 deriving DecidableEq, Inhabited, Repr
def chainRP (t : Nat) (p : List Stage) : List RArc := p.zipIdx.map fun q => ⟨⟨(t : Int), (q.2 : Int)⟩, ⟨(t : Int), (q.2 : Int) + 1⟩, q.1.mn⟩
def chainR (ps : List (List Stage)) : List RArc := ps.zipIdx.flatMap fun q => chainRP q.2 q.1
def betw (ps : List (List Stage)) (r : Int) (u v : Ref) : RArc := ⟨relOf ps r u, v, 0⟩
def useR (ps : List (List Stage)) (r : Int) (l : List Ref) (v : Ref) : List RArc := l.flatMap fun u => if u.tr ≠ v.tr then [betw ps r u v] else []
def orderR (ps : List (List Stage)) (o : Order) : List RArc := o.uses.zipIdx.flatMap fun q => useR ps o.res (o.uses.take q.2) q.1
def orderRTo (ps : List (List Stage)) (o : Order) (n : Nat) : List RArc := (o.uses.take n).zipIdx.flatMap fun q => useR ps o.res (o.uses.take q.2) q.1
def refArcs (ps : List (List Stage)) (os : List Order) : List RArc := chainR ps ++ os.flatMap (orderR ps)
theorem chainRP_succ (t : Nat) {p : List Stage} {k : Nat} {s : Stage} (h : p[k]? = some s) : chainRP t (p.take (k + 1)) = chainRP t (p.take k) ++ [⟨⟨(t : Int), (k : Int)⟩, ⟨(t : Int), (k : Int) + 1⟩, s.mn⟩] := by
 unfold chainRP; rw [zipIdx_take_succ h]; simp
theorem chainR_succ {ps : List (List Stage)} {t : Nat} {p : List Stage} (h : ps[t]? = some p) : chainR (ps.take (t + 1)) = chainR (ps.take t) ++ chainRP t p := by
 unfold chainR; rw [zipIdx_take_succ h]; simp
theorem orderRTo_succ {ps : List (List Stage)} {o : Order} {n : Nat} {v : Ref} (h : o.uses[n]? = some v) : orderRTo ps o (n + 1) = orderRTo ps o n ++ useR ps o.res (o.uses.take n) v := by
 unfold orderRTo; rw [zipIdx_take_succ h]; simp
theorem orderRTo_all (ps : List (List Stage)) (o : Order) : orderRTo ps o o.uses.length = orderR ps o := by unfold orderRTo orderR; rw [List.take_length]
theorem useR_snoc (ps : List (List Stage)) (r : Int) (l : List Ref) (u v : Ref) : useR ps r (l ++ [u]) v = useR ps r l v ++ (if u.tr ≠ v.tr then [betw ps r u v] else []) := by
 unfold useR; simp
theorem mem_chainR {ps : List (List Stage)} {a : RArc} : a ∈ chainR ps ↔ ∃ (t k : Nat) (p : List Stage) (s : Stage), ps[t]? = some p ∧ p[k]? = some s ∧ a = ⟨⟨(t : Int), (k : Int)⟩, ⟨(t : Int), (k : Int) + 1⟩, s.mn⟩ := by
 unfold chainR
 rw [List.mem_flatMap]
 constructor
 ·rintro ⟨⟨p, t⟩, hp, ha⟩
  unfold chainRP at ha
  obtain ⟨⟨s, k⟩, hs, rfl⟩ := List.mem_map.1 ha
  exact ⟨t, k, p, s, List.mem_zipIdx_iff_getElem?.1 hp, List.mem_zipIdx_iff_getElem?.1 hs, rfl⟩
 ·rintro ⟨t, k, p, s, hp, hs, rfl⟩
  exact ⟨(p, t), List.mem_zipIdx_iff_getElem?.2 hp, List.mem_map.2 ⟨(s, k), List.mem_zipIdx_iff_getElem?.2 hs, rfl⟩⟩
theorem mem_orderR {ps : List (List Stage)} {o : Order} {a : RArc} : a ∈ orderR ps o ↔ ∃ (j : Nat) (v u : Ref), o.uses[j]? = some v ∧ u ∈ o.uses.take j ∧ u.tr ≠ v.tr ∧ a = betw ps o.res u v := by
 unfold orderR
 rw [List.mem_flatMap]
 constructor
 ·rintro ⟨⟨v, j⟩, hv, ha⟩
  unfold useR at ha
  obtain ⟨u, hu, ha⟩ := List.mem_flatMap.1 ha
  split at ha
  ·rename_i hne
   simp at ha
   exact ⟨j, v, u, List.mem_zipIdx_iff_getElem?.1 hv, hu, hne, ha⟩
  ·simp at ha
 ·rintro ⟨j, v, u, hv, hu, hne, rfl⟩
  exact ⟨(v, j), List.mem_zipIdx_iff_getElem?.2 hv, List.mem_flatMap.2 ⟨u, hu, by simp [hne]⟩⟩

def rdyR (arcs : List RArc) (now : List Int) (u : Ref) : Bool := arcs.all fun a => !(decide (a.to = u) && !doneR now a.frm)
def goC (ps : List (List Stage)) (arcs : List RArc) (now : List Int) (t : Nat) : Bool := decide (nowAt now t < lenAt ps t) && rdyR arcs now ⟨(t : Int), nowAt now t + 1⟩
def goR (ps : List (List Stage)) (arcs : List RArc) (now : List Int) : Option Nat := (List.range ps.length).find? (goC ps arcs now)
theorem goR_sound (ps : List (List Stage)) (arcs : List RArc) : Sound ps (goR ps arcs) := by
 intro now t h
 unfold goR at h
 have h1 := List.mem_of_find?_eq_some h
 have h2 := List.find?_some h
 simp only [goC, Bool.and_eq_true, decide_eq_true_eq] at h2
 exact ⟨List.mem_range.1 h1, h2.1⟩
def badArc (at_ : List Int) (a : RArc) : Bool := doneR at_ a.to && !doneR at_ a.frm
def lineR (ps : List (List Stage)) (arcs : List RArc) (at_ : List Int) : List Ref × Bool :=
 if arcs.any (badArc at_) = true then ([], false) else if total ps (lineFrom (goR ps arcs) (total ps at_) at_).2 = 0 then ((lineFrom (goR ps arcs) (total ps at_) at_).1, true) else ([], false)
def LR (go : List Int → Option Nat) (F : Nat) (at_ : List Int) (j : Nat) (acc : List Ref) (now : List Int) : Prop :=
 acc.length = j ∧ j ≤ F ∧ lineFrom go F at_ = (acc ++ (lineFrom go (F - j) now).1, (lineFrom go (F - j) now).2)
theorem LR.start (go : List Int → Option Nat) (F : Nat) (at_ : List Int) : LR go F at_ 0 [] at_ := ⟨rfl, Nat.zero_le _, by simp⟩
theorem LR.step {go : List Int → Option Nat} {F : Nat} {at_ : List Int} {j : Nat} {acc : List Ref} {now : List Int} {t : Nat} (h : LR go F at_ j acc now) (hj : j < F) (hn : go now = some t) : LR go F at_ (j + 1) (acc ++ [⟨(t : Int), nowAt now t + 1⟩]) (now.set t (nowAt now t + 1)) := by
 obtain ⟨h1, h2, h3⟩ := h
 refine ⟨by simp [h1], by omega, ?_⟩
 rw [h3, show F - j = (F - (j + 1)) + 1 from by omega]
 simp [lineFrom, hn]
theorem LR.stuck {go : List Int → Option Nat} {F : Nat} {at_ : List Int} {j : Nat} {acc : List Ref} {now : List Int} (h : LR go F at_ j acc now) (hj : j < F) (hn : go now = none) : lineFrom go F at_ = (acc, now) := by
 obtain ⟨h1, h2, h3⟩ := h
 rw [h3, show F - j = (F - (j + 1)) + 1 from by omega]
 simp [lineFrom, hn]
theorem LR.full {go : List Int → Option Nat} {F : Nat} {at_ : List Int} {acc : List Ref} {now : List Int} (h : LR go F at_ F acc now) : lineFrom go F at_ = (acc, now) := by
 obtain ⟨h1, h2, h3⟩ := h
 rw [h3]; simp [lineFrom]

def mxo {α : Type} (f : α → Option Int) (s : Int) (l : List α) : Int := l.foldl (fun s a => (f a).elim s (max s)) s
theorem mxo_le {α : Type} (f : α → Option Int) (x : Int) : ∀ (l : List α) (s : Int), mxo f s l ≤ x ↔ s ≤ x ∧ ∀ a ∈ l, ∀ y, f a = some y → y ≤ x
 | [], s => by simp [mxo]
 | a :: l, s => by
  have ih := mxo_le f x l ((f a).elim s (max s))
  have e : mxo f s (a :: l) = mxo f ((f a).elim s (max s)) l := rfl
  rw [e, ih]
  cases hf : f a with
  | none => simp [hf]
  | some y =>
   simp only [Option.elim_some, List.mem_cons, forall_eq_or_imp, hf, Option.some.injEq, forall_eq']
   constructor
   ·rintro ⟨h1, h2⟩; exact ⟨by omega, by omega, h2⟩
   ·rintro ⟨h1, h2, h3⟩; exact ⟨by omega, h3⟩
theorem mxo_ge {α : Type} (f : α → Option Int) (s : Int) (l : List α) : s ≤ mxo f s l := ((mxo_le f (mxo f s l) l s).1 (Int.le_refl _)).1
theorem mxo_mem {α : Type} (f : α → Option Int) (s : Int) (l : List α) {a : α} {y : Int} (ha : a ∈ l) (hf : f a = some y) : y ≤ mxo f s l := ((mxo_le f (mxo f s l) l s).1 (Int.le_refl _)).2 a ha y hf
theorem mxo_snoc {α : Type} (f : α → Option Int) (s : Int) (l : List α) (a : α) : mxo f s (l ++ [a]) = (f a).elim (mxo f s l) (max (mxo f s l)) := by unfold mxo; rw [List.foldl_append]; rfl
theorem mxo_congr {α : Type} {f g : α → Option Int} {s : Int} {l : List α} (h : ∀ a ∈ l, f a = g a) : mxo f s l = mxo g s l := by
 apply Int.le_antisymm
 ·rw [mxo_le]; exact ⟨mxo_ge g s l, fun a ha y hy => mxo_mem g s l ha (by rw [← h a ha]; exact hy)⟩
 ·rw [mxo_le]; exact ⟨mxo_ge f s l, fun a ha y hy => mxo_mem f s l ha (by rw [h a ha]; exact hy)⟩

abbrev Tab := Ref → Int
def upd (T : Tab) (u : Ref) (x : Int) : Tab := fun v => if v = u then x else T v
def secs (step : Tab → Ref → Int) (T : Tab) (L : List Ref) : Tab := L.foldl (fun T u => upd T u (step T u)) T
theorem secs_snoc (step : Tab → Ref → Int) (T : Tab) (L : List Ref) (u : Ref) : secs step T (L ++ [u]) = upd (secs step T L) u (step (secs step T L) u) := by unfold secs; rw [List.foldl_append]; rfl
theorem secs_out (step : Tab → Ref → Int) {x : Ref} : ∀ (L : List Ref) (T : Tab), x ∉ L → secs step T L x = T x
 | [], _, _ => rfl
 | u :: L, T, h => by
  have e : secs step T (u :: L) = secs step (upd T u (step T u)) L := rfl
  rw [e, secs_out step L _ (fun h' => h (by simp [h']))]
  unfold upd
  rw [if_neg (fun e => h (by simp [e]))]
def Dep (step : Tab → Ref → Int) (L : List Ref) : Prop := ∀ (j : Nat) (u : Ref), L[j]? = some u → ∀ T T' : Tab, (∀ x ∈ L.take j, T x = T' x) → step T u = step T' u
theorem secs_take (step : Tab → Ref → Int) (T : Tab) (L : List Ref) (hnd : L.Nodup) (j : Nat) : ∀ x ∈ L.take j, secs step T (L.take j) x = secs step T L x := by
 intro x hx
 have e : secs step T L = secs step (secs step T (L.take j)) (L.drop j) := by
  unfold secs
  rw [← List.foldl_append, List.take_append_drop]
 rw [e]
 symm
 apply secs_out
 intro hd
 have hn : (L.take j ++ L.drop j).Nodup := by rw [List.take_append_drop]; exact hnd
 exact (List.nodup_append.1 hn).2.2 x hx x hd rfl
theorem take_succ' {α : Type} {l : List α} {j : Nat} {u : α} (h : l[j]? = some u) : l.take (j + 1) = l.take j ++ [u] := by rw [List.take_add_one, h]; rfl
theorem secs_fix {step : Tab → Ref → Int} {T : Tab} {L : List Ref} (hnd : L.Nodup) (hd : Dep step L) : ∀ u ∈ L, secs step T L u = step (secs step T L) u := by
 intro u hu
 obtain ⟨j, hj, hu⟩ := List.getElem_of_mem hu
 have hj' : L[j]? = some u := by rw [List.getElem?_eq_getElem hj, hu]
 have h1 := secs_take step T L hnd (j + 1) u (by rw [take_succ' hj']; simp)
 rw [← h1, take_succ' hj', secs_snoc]
 unfold upd
 rw [if_pos rfl]
 exact hd j u hj' _ _ (secs_take step T L hnd j)

theorem done_set {now : List Int} {t : Nat} (ht : t < now.length) {x : Ref} (hx : 0 ≤ x.tr) : doneR (now.set t (nowAt now t + 1)) x = true ↔ doneR now x = true ∨ x = ⟨(t : Int), nowAt now t + 1⟩ := by
 unfold doneR
 rw [decide_eq_true_eq, decide_eq_true_eq, nowAt_set ht]
 by_cases e : t = x.tr.toNat
 ·rw [if_pos e, ← e]
  constructor
  ·intro h
   by_cases h2 : x.st ≤ nowAt now t
   ·exact .inl h2
   ·right
    cases x
    simp only at *
    simp; omega
  ·rintro (h | h)
   ·omega
   ·rw [h]; simp
 ·rw [if_neg e]
  constructor
  ·exact .inl
  ·rintro (h | h)
   ·exact h
   ·rw [h] at e; simp at e
theorem lineFrom_mem {ps : List (List Stage)} {go : List Int → Option Nat} (hs : Sound ps go) : ∀ (f : Nat) (now : List Int), Gd ps now →
  (∀ x : Ref, 0 ≤ x.tr → (doneR (lineFrom go f now).2 x = true ↔ doneR now x = true ∨ x ∈ (lineFrom go f now).1)) ∧ (∀ x ∈ (lineFrom go f now).1, 0 ≤ x.tr ∧ doneR now x = false) ∧ (lineFrom go f now).1.Nodup
 | 0, now, _ => by simp [lineFrom]
 | f + 1, now, hg => by
  simp only [lineFrom]
  cases e : go now with
  | none => simp
  | some t =>
   obtain ⟨h1, h2⟩ := hs now t e
   obtain ⟨i1, i2, i3⟩ := lineFrom_mem hs f _ (hg.step h1 h2)
   have hl : t < now.length := by rw [hg.1]; exact h1
   refine ⟨fun x hx => ?_, fun x hx => ?_, ?_⟩
   ·simp only []
    rw [i1 x hx, done_set hl hx, List.mem_cons, or_assoc]
   ·simp only [List.mem_cons] at hx
    rcases hx with rfl | hx
    ·refine ⟨by simp, ?_⟩
     unfold doneR; simp; omega
    ·obtain ⟨j1, j2⟩ := i2 x hx
     refine ⟨j1, ?_⟩
     cases hd : doneR now x with
     | false => rfl
     | true => rw [(done_set hl j1).2 (.inl hd)] at j2; exact absurd j2 (by simp)
   ·simp only [List.nodup_cons]
    refine ⟨fun hm => ?_, i3⟩
    have := (i2 _ hm).2
    rw [(done_set hl (by simp)).2 (.inr rfl)] at this
    exact absurd this (by simp)
theorem lineFrom_dep {ps : List (List Stage)} {go : List Int → Option Nat} (hs : Sound ps go) : ∀ (f : Nat) (now : List Int), Gd ps now → ∀ (j : Nat) (u : Ref), (lineFrom go f now).1[j]? = some u →
  ∃ (nj : List Int) (t : Nat), Gd ps nj ∧ go nj = some t ∧ u = ⟨(t : Int), nowAt nj t + 1⟩ ∧ ∀ x : Ref, 0 ≤ x.tr → doneR nj x = true → doneR now x = true ∨ x ∈ (lineFrom go f now).1.take j
 | 0, now, _, j, u, h => by simp [lineFrom] at h
 | f + 1, now, hg, j, u, h => by
  simp only [lineFrom] at h ⊢
  cases e : go now with
  | none => rw [e] at h; simp at h
  | some t =>
   rw [e] at h
   obtain ⟨h1, h2⟩ := hs now t e
   have hl : t < now.length := by rw [hg.1]; exact h1
   cases j with
   | zero =>
    simp at h
    exact ⟨now, t, hg, e, h.symm, fun x _ hd => .inl hd⟩
   | succ j =>
    simp only [List.getElem?_cons_succ] at h
    obtain ⟨nj, t', i1, i2, i3, i4⟩ := lineFrom_dep hs f _ (hg.step h1 h2) j u h
    refine ⟨nj, t', i1, i2, i3, fun x hx hd => ?_⟩
    rcases i4 x hx hd with hd | hd
    ·rcases (done_set hl hx).1 hd with hd | hd
     ·exact .inl hd
     ·right; simp [hd]
    ·right; simp [hd]

theorem valid_clk {ps : List (List Stage)} (hv : valid ps = true) {t k : Nat} {p : List Stage} {s : Stage} (hp : ps[t]? = some p) (hs : p[k]? = some s) : (0 ≤ s.mn ∧ s.mn ≤ 4194304) ∧ 0 ≤ s.nt ∧ s.nt ≤ 4194304 := by
 have h := valid_stage hv (List.mem_of_getElem? hp) (List.mem_of_getElem? hs)
 simp only [stageOk, Bool.and_eq_true, isClk, decide_eq_true_eq] at h
 exact ⟨h.2.1, h.2.2⟩
def baseS (ps : List (List Stage)) (n : Int) (u : Ref) : Int := ((((ps[u.tr.toNat]?).getD [])[u.st.toNat]?).elim n fun s => max n s.nt)
def valG (ps : List (List Stage)) (at_ : List Int) (n : Int) (T : Tab) (u : Ref) (a : GArc) : Option Int :=
 if doneR at_ (evAt ps a.frm.toNat) = false then some (T (evAt ps a.frm.toNat) + a.wt) else if (evAt ps a.frm.toNat).tr = u.tr then some (n + a.wt) else none
def valR (at_ : List Int) (n : Int) (T : Tab) (u : Ref) (a : RArc) : Option Int :=
 if a.to = u then (if doneR at_ a.frm = false then some (T a.frm + a.wt) else if a.frm.tr = u.tr ∧ a.frm.st = nowAt at_ u.tr.toNat ∧ a.frm.st + 1 = u.st then some (n + a.wt) else none) else none
def rowG (ps : List (List Stage)) (os : List Order) (u : Ref) : List GArc := arcsAt (arcsOf (evs ps).length (gAdds ps os)) (num ps u)
def stepG (ps : List (List Stage)) (os : List Order) (at_ : List Int) (n : Int) (T : Tab) (u : Ref) : Int := mxo (valG ps at_ n T u) (baseS ps n u) (rowG ps os u)
def stepR (ps : List (List Stage)) (arcs : List RArc) (at_ : List Int) (n : Int) (T : Tab) (u : Ref) : Int := mxo (valR at_ n T u) (baseS ps n u) arcs
def initR (at_ : List Int) (n : Int) : Tab := fun x => if doneR at_ x = true then -1 else n

theorem mem_rowG {ps : List (List Stage)} {os : List Order} (hck : checkO ps os = true) {t k : Nat} {p : List Stage} (hp : ps[t]? = some p) (hk : k ≤ p.length) {a : GArc} :
  a ∈ rowG ps os ⟨(t : Int), (k : Int)⟩ ↔ (∃ (k' : Nat) (s : Stage), k = k' + 1 ∧ p[k']? = some s ∧ a = ⟨((num ps ⟨(t : Int), (k' : Int)⟩ : Nat) : Int), s.mn⟩) ∨
   (∃ o ∈ os, ∃ (j : Nat) (w : Ref), o.uses[j]? = some ⟨(t : Int), (k : Int)⟩ ∧ Last (o.uses.take j) w ∧ w.tr ≠ (t : Int) ∧ a = ⟨((num ps (relOf ps o.res w) : Nat) : Int), 0⟩) := by
 have hlt := (evAt_num hp hk).2
 have hrow := arcsOf_at (evs ps).length (gAdds ps os) hlt
 have hnum : num ps ⟨(t : Int), (k : Int)⟩ = fst ps t + k := by simp [num]
 obtain ⟨_, _, hf⟩ := checkO_facts hck
 have hm : a ∈ rowG ps os ⟨(t : Int), (k : Int)⟩ ↔ (num ps ⟨(t : Int), (k : Int)⟩, a) ∈ gAdds ps os := by
  unfold rowG arcsAt
  rw [hrow]
  exact mem_arcsOf hrow
 rw [hm]
 unfold gAdds
 rw [List.mem_append]
 constructor
 ·rintro (hq | hq)
  ·left
   unfold chainAdds at hq
   obtain ⟨⟨p', t'⟩, hp', hq⟩ := List.mem_flatMap.1 hq
   have hp' := List.mem_zipIdx_iff_getElem?.1 hp'
   unfold chainP at hq
   obtain ⟨⟨s', k'⟩, hs', he⟩ := List.mem_map.1 hq
   have hs' := List.mem_zipIdx_iff_getElem?.1 hs'
   injection he with he1 he2
   have hkl := getElem?_lt hs'
   simp only at he1 he2 hp' hs' hkl
   have hinj := fst_inj hp' hp (k := k' + 1) (m := k) (by omega) hk (by rw [← hnum, ← he1]; rfl)
   obtain ⟨rfl, rfl⟩ := hinj
   rw [hp] at hp'; injection hp' with hp'; subst hp'
   exact ⟨k', s', rfl, hs', by rw [← he2]; simp [num]⟩
  ·right
   obtain ⟨o, ho, hq⟩ := List.mem_flatMap.1 hq
   obtain ⟨hin, _, hbef⟩ := hf o ho
   unfold orderAdds at hq
   rw [mem_useAdds o.uses [] _ (RelOf.nil ps o.res) (by simpa using hbef) (by simpa using hin)] at hq
   obtain ⟨j, v, w', hv, hiv, hL, hne, rfl⟩ := hq
   have hL : Last (o.uses.take j) w' := by simpa using hL
   obtain ⟨tv, kv, pv, sv, hpv, hsv, _, rfl⟩ := mem_allU.1 (hin v (List.mem_of_getElem? hv))
   have hkl := getElem?_lt hsv
   have hinj := fst_inj hpv hp (k := kv) (m := k) (by omega) hk (by rw [← hnum, hiv]; simp [num])
   obtain ⟨rfl, rfl⟩ := hinj
   exact ⟨o, ho, j, w', hv, hL, hne, rfl⟩
 ·rintro (⟨k', s, rfl, hs, rfl⟩ | ⟨o, ho, j, w, hv, hL, hne, rfl⟩)
  ·left
   unfold chainAdds
   refine List.mem_flatMap.2 ⟨(p, t), List.mem_zipIdx_iff_getElem?.2 hp, ?_⟩
   unfold chainP
   refine List.mem_map.2 ⟨(s, k'), List.mem_zipIdx_iff_getElem?.2 hs, ?_⟩
   simp [num, Nat.add_assoc]
  ·right
   obtain ⟨hin, _, hbef⟩ := hf o ho
   refine List.mem_flatMap.2 ⟨o, ho, ?_⟩
   unfold orderAdds
   rw [mem_useAdds o.uses [] _ (RelOf.nil ps o.res) (by simpa using hbef) (by simpa using hin)]
   exact ⟨j, _, w, hv, rfl, by simpa using hL, hne, rfl⟩
theorem rel_event {ps : List (List Stage)} {r : Int} {w : Ref} (hw : w ∈ allU ps r) : ∃ (t k : Nat) (p : List Stage), ps[t]? = some p ∧ k ≤ p.length ∧ relOf ps r w = ⟨(t : Int), (k : Int)⟩ ∧ w.tr = (t : Int) := by
 obtain ⟨tw, kw, pw, sw, hpw, hsw, _, rfl⟩ := mem_allU.1 hw
 have h2 := getElem?_lt hsw
 have hrel := relOf_range (ps := ps) (r := r) (t := tw) (k := kw)
 cases hq : relOf ps r ⟨(tw : Int), (kw : Int)⟩ with
 | mk x y =>
  rw [hq] at hrel
  simp only at hrel
  obtain ⟨rfl, h | h⟩ := hrel
  ·exact ⟨tw, kw, pw, hpw, by omega, by rw [h], rfl⟩
  ·exact ⟨tw, kw + 1, pw, hpw, by omega, by rw [h]; simp, rfl⟩
theorem evAt_num' {ps : List (List Stage)} {t k : Nat} {p : List Stage} (hp : ps[t]? = some p) (hk : k ≤ p.length) : evAt ps (((num ps ⟨(t : Int), (k : Int)⟩ : Nat) : Int)).toNat = ⟨(t : Int), (k : Int)⟩ := (evAt_num hp hk).1

structure Full (ps : List (List Stage)) (os : List Order) (at_ : List Int) (L : List Ref) : Prop where
 nd : L.Nodup
 ev : ∀ u ∈ L, ∃ (t k : Nat) (p : List Stage), ps[t]? = some p ∧ k ≤ p.length ∧ u = ⟨(t : Int), (k : Int)⟩
 notAt : ∀ u ∈ L, doneR at_ u = false
 all : ∀ (t k : Nat) (p : List Stage), ps[t]? = some p → k ≤ p.length → doneR at_ ⟨(t : Int), (k : Int)⟩ = false → (⟨(t : Int), (k : Int)⟩ : Ref) ∈ L
 depR : ∀ (j : Nat) (u : Ref), L[j]? = some u → ∀ a ∈ refArcs ps os, a.to = u → doneR at_ a.frm = true ∨ a.frm ∈ L.take j
 depG : ∀ (j : Nat) (u : Ref), L[j]? = some u → ∀ a ∈ rowG ps os u, doneR at_ (evAt ps a.frm.toNat) = true ∨ evAt ps a.frm.toNat ∈ L.take j
section
variable {ps : List (List Stage)} {os : List Order} {at_ : List Int} {L : List Ref} {n : Int}
theorem Full.mono (h : Full ps os at_ L) (hck : checkO ps os = true) {T : Tab} (hT : ∀ u ∈ L, T u = stepG ps os at_ n T u) {t : Nat} {p : List Stage} (hp : ps[t]? = some p) {k : Nat} (hd : doneR at_ ⟨(t : Int), (k : Int)⟩ = false) : ∀ m : Nat, k + m ≤ p.length → T ⟨(t : Int), (k : Int)⟩ ≤ T ⟨(t : Int), ((k + m : Nat) : Int)⟩
 | 0, _ => Int.le_refl _
 | m + 1, hm => by
  have ih := Full.mono h hck hT hp hd m (by omega)
  refine Int.le_trans ih ?_
  have hd2 : ∀ i : Nat, k ≤ i → doneR at_ ⟨(t : Int), (i : Int)⟩ = false := fun i hi => by
   unfold doneR at hd ⊢
   simp only [decide_eq_false_iff_not] at hd ⊢
   omega
  have hmem := h.all t (k + m + 1) p hp (by omega) (hd2 _ (by omega))
  have hs : p[k + m]? = some p[k + m] := List.getElem?_eq_getElem (by omega)
  have harc := (mem_rowG hck hp (k := k + m + 1) (by omega)).2 (.inl ⟨k + m, p[k + m], rfl, hs, rfl⟩)
  have hval : valG ps at_ n T ⟨(t : Int), ((k + m + 1 : Nat) : Int)⟩ ⟨((num ps ⟨(t : Int), ((k + m : Nat) : Int)⟩ : Nat) : Int), p[k + m].mn⟩ = some (T ⟨(t : Int), ((k + m : Nat) : Int)⟩ + p[k + m].mn) := by
   unfold valG
   rw [evAt_num' hp (by omega), if_pos (hd2 _ (by omega))]
  have hle := mxo_mem (valG ps at_ n T ⟨(t : Int), ((k + m + 1 : Nat) : Int)⟩) (baseS ps n ⟨(t : Int), ((k + m + 1 : Nat) : Int)⟩) (rowG ps os ⟨(t : Int), ((k + m + 1 : Nat) : Int)⟩) harc hval
  have hmn : 0 ≤ p[k + m].mn := by
   have hv := (checkO_facts hck).1
   exact (valid_clk hv hp hs).1.1
  have hfix := hT _ hmem
  unfold stepG at hfix
  rw [show k + (m + 1) = k + m + 1 from rfl, hfix]
  omega
end

def Bf (L : List Ref) (a b : Ref) : Prop := [a, b].Sublist L
theorem bf_at {L : List Ref} {a b : Ref} : Bf L a b ↔ ∃ i j : Nat, i < j ∧ L[i]? = some a ∧ L[j]? = some b := by
 unfold Bf
 constructor
 ·intro h
  induction L with
  | nil => simp at h
  | cons c L ih =>
   cases h with
   | cons _ h => obtain ⟨i, j, h1, h2, h3⟩ := ih h; exact ⟨i + 1, j + 1, by omega, by simpa using h2, by simpa using h3⟩
   | cons_cons _ h =>
    obtain ⟨j, hj⟩ := List.mem_iff_getElem?.1 (List.singleton_sublist.1 h)
    exact ⟨0, j + 1, by omega, rfl, by simpa using hj⟩
 ·rintro ⟨i, j, h1, h2, h3⟩
  have e : L = L.take j ++ L.drop j := (List.take_append_drop j L).symm
  rw [e]
  refine (List.singleton_sublist.2 ?_).append (List.singleton_sublist.2 ?_)
  ·exact List.mem_of_getElem? (i := i) (by rw [List.getElem?_take_of_lt h1]; exact h2)
  ·exact List.mem_of_getElem? (i := 0) (by rw [List.getElem?_drop]; exact h3)
theorem nd_at {L : List Ref} (hn : L.Nodup) {i j : Nat} {a : Ref} (hi : L[i]? = some a) (hj : L[j]? = some a) : i = j := by
 have h1 := getElem?_lt hi
 have h2 := getElem?_lt hj
 rw [List.getElem?_eq_getElem h1] at hi
 rw [List.getElem?_eq_getElem h2] at hj
 injection hi with hi; injection hj with hj
 rcases Nat.lt_trichotomy i j with h | h | h
 ·exact absurd (hi.trans hj.symm) (List.pairwise_iff_getElem.1 hn i j h1 h2 h)
 ·exact h
 ·exact absurd (hj.trans hi.symm) (List.pairwise_iff_getElem.1 hn j i h2 h1 h)
theorem Bf.trans {L : List Ref} (hn : L.Nodup) {a b c : Ref} (h1 : Bf L a b) (h2 : Bf L b c) : Bf L a c := by
 obtain ⟨i, j, hij, hi, hj⟩ := bf_at.1 h1
 obtain ⟨j', k, hjk, hj', hk⟩ := bf_at.1 h2
 obtain rfl := nd_at hn hj hj'
 exact bf_at.2 ⟨i, k, by omega, hi, hk⟩
theorem Bf.asymm {L : List Ref} (hn : L.Nodup) {a b : Ref} (h1 : Bf L a b) : ¬ Bf L b a := by
 intro h2
 obtain ⟨i, j, hij, hi, hj⟩ := bf_at.1 h1
 obtain ⟨j', k, hjk, hj', hk⟩ := bf_at.1 h2
 have e1 := nd_at hn hj hj'
 have e2 := nd_at hn hi hk
 omega
theorem Bf.mem {L : List Ref} {a b : Ref} (h : Bf L a b) : a ∈ L ∧ b ∈ L := ⟨h.subset (by simp), h.subset (by simp)⟩
theorem Bf.total {L : List Ref} {a b : Ref} (ha : a ∈ L) (hb : b ∈ L) (hne : a ≠ b) : Bf L a b ∨ Bf L b a := by
 obtain ⟨i, hi⟩ := List.mem_iff_getElem?.1 ha
 obtain ⟨j, hj⟩ := List.mem_iff_getElem?.1 hb
 rcases Nat.lt_trichotomy i j with h | h | h
 ·exact .inl (bf_at.2 ⟨i, j, h, hi, hj⟩)
 ·subst h; rw [hi] at hj; injection hj with hj; exact absurd hj hne
 ·exact .inr (bf_at.2 ⟨j, i, h, hj, hi⟩)
theorem Bf.take {L : List Ref} {a b : Ref} (h : Bf L a b) (hn : L.Nodup) {j : Nat} (hj : L[j]? = some b) : a ∈ L.take j := by
 obtain ⟨i, j', hij, hi, hj'⟩ := bf_at.1 h
 obtain rfl := nd_at hn hj hj'
 exact List.mem_of_getElem? (i := i) (by rw [List.getElem?_take_of_lt hij]; exact hi)
theorem bf_of_take {L : List Ref} {a b : Ref} {j : Nat} (hj : L[j]? = some b) (ha : a ∈ L.take j) : Bf L a b := by
 obtain ⟨i, hi⟩ := List.mem_iff_getElem?.1 ha
 have h1 := getElem?_lt hi
 rw [List.length_take] at h1
 rw [List.getElem?_take_of_lt (by omega)] at hi
 exact bf_at.2 ⟨i, j, by omega, hi, hj⟩

end Go.Proofs.Ytilbbpbjhoidhaa
