/- Contract of the reference's CheckState. Conditions: as the theorem says. The search of chapter 37 as a plain function over decisions. No program in sight. Trains that follow their orders: after any number of events of a line the rest of it is the line, and no two trains hold the same section. No program in sight. The size of a table of labels: it grows with each merge that changes something, and it is bounded. No program in sight. Insertion by the order (second, train, stage) gives what the reference sorts. No program in sight. The orders of a complete choice: sorted by the decisions. No program in sight. -/
import Derived.Test.YtilbbpbjhoidhaaA16
import Derived.Test.YtilbbpbjhoidhaaA12
import Derived.Test.YtilbbpbjhoidhaaA10
namespace Go.Proofs.Ytilbbpbjhoidhaa
open Go.RowKit

def checkState (ps : List (List Stage)) (at_ : List Int) : Int := if (valid ps && good ps at_) = false then 1 else if (heldOf ps at_).Nodup then 0 else 17

theorem mem_heldOf : ∀ {ps : List (List Stage)} (_ : secsNonneg ps) (l : List Int) (x : Int), x ∈ heldOf ps l ↔ x ∈ secList ps l ∧ 0 ≤ x
 | [], _, l, x => by simp [heldOf, secList]
 | p :: ps, _, [], x => by simp [heldOf, secList]
 | p :: ps, h, a :: l, x => by
  have ih := mem_heldOf (ps := ps) (fun q hq => h q (by simp [hq])) l x
  have hn := secAt_neg (h p (by simp)) a
  simp only [heldOf, secList, List.zipWith_cons_cons, List.mem_append, List.mem_cons] at *
  rw [ih]
  rcases hn with ⟨h1, h2⟩ | ⟨h1, h2⟩
  ·rw [if_pos h1, h2]; simp; omega
  ·rw [if_neg h1]; simp
   constructor
   ·rintro (rfl | h)
    ·exact ⟨.inl rfl, h2⟩
    ·exact ⟨.inr h.1, h.2⟩
   ·rintro ⟨rfl | h, h3⟩
    ·exact .inl rfl
    ·exact .inr ⟨h, h3⟩
theorem secList_take (ps : List (List Stage)) : ∀ (l : List Int) (k : Nat), secList ps (l.take k) = (secList ps l).take k := by
 induction ps with
 | nil => simp [secList]
 | cons p ps ih =>
  intro l k
  cases l with
  | nil => simp [secList]
  | cons a l => cases k with
   | zero => simp [secList]
   | succ k => have := ih l k; simp only [secList] at this; simp [secList, this]

theorem nodup_snoc {l : List Int} {x : Int} (h : l.Nodup) (hx : x ∉ l) : (l ++ [x]).Nodup := List.nodup_append.2 ⟨h, by simp, fun a ha b hb => by simp at hb; subst hb; rintro rfl; exact hx ha⟩
theorem heldOf_sublist (ps : List (List Stage)) : ∀ (l : List Int) (k : Nat), (heldOf ps (l.take k)).Sublist (heldOf ps l) := by
 induction ps with
 | nil => intro l k; simp [heldOf]
 | cons p ps ih =>
  intro l k
  cases l with
  | nil => simp [heldOf]
  | cons a l => cases k with
   | zero => simp [heldOf]
   | succ k => simp only [List.take_succ_cons, heldOf]; exact List.Sublist.append (List.Sublist.refl _) (ih l k)

set_option maxRecDepth 100000 in
set_option maxHeartbeats 1000000 in
theorem CheckState_any (ps : List (List Stage)) (at_ : List Int) (A A2 : Option Addr) (c c2 : Nat) (w : World) (h : RPaths w (Old w) [.slice A ps.length c] ps) (h2 : RInts w (Old w) [.slice A2 at_.length c2] at_) :
  Calls Try.prog 59 #[.slice A ps.length c, .slice A2 at_.length c2] w fun e w' => e = .returned (.int .i64 (checkState ps at_)) ∧ KeepsAll w w' := by
 have hc := h.caps
 have hc2 := h2.caps
 have H := Lib.hid h; clear h
 have H2 := Lib.hid h2; clear h2
 by_cases g1 : valid ps = true
 ·go_enter Try.func59, Try.ntmps59
  go_wp2_with fail
  refine (RefValid_any ps A c w H.out).mono ?_
  rintro e w1 ⟨rfl, k1⟩
  have H1 := Lib.hid (k1.rd RPaths.ok H.out (fun b hb => ⟨hb, by simp⟩) (fun _ h => h))
  have H21 := Lib.hid (k1.rd RInts.ok H2.out (fun b hb => ⟨hb, by simp⟩) (fun _ h => h))
  have K1 := Lib.hid k1; clear k1
  by_cases g2 : good ps at_ = true
  ·have hl : at_.length = ps.length := by have := g2; simp only [good, Bool.and_eq_true, decide_eq_true_eq] at this; exact this.1
   have hl1 : at_.length ≤ ps.length := by omega
   have hl2 : ps.length ≤ at_.length := by omega
   clear hl
   have HSN : Hid (secsNonneg ps) := valid_secs g1
   go_wp2_with (go_at_call 81; refine (rGood_any ps at_ A A2 c c2 _ (Old w) (Old w) H1.out H21.out).mono ?_; rintro e w2 ⟨rfl, rfl⟩)
   go_loopw [19] (fun i wr => ∃ t n : Nat, t ≤ ps.length ∧ i = .int .i64 t ∧ wr = w1.drewN n ∧ (heldOf ps (at_.take t)).Nodup) (fun i _ => ps.length - (intOf i).toNat)
   case atStart => exact ⟨0, 0, Nat.zero_le _, rfl, rfl, by cases ps <;> simp [heldOf]⟩
   case round =>
    obtain ⟨t, n, ht, rfl, rfl, hnd⟩ := hrel
    have HND := Lib.hid hnd; clear hnd
    by_cases hlt : t < ps.length
    ·have hdt : decide ((t : Int) < (ps.length : Int)) = true := by simp; omega
     have hp : ps[t]? = some ps[t] := List.getElem?_eq_getElem hlt
     have ha : at_[t]? = some (at_[t]'(by omega)) := List.getElem?_eq_getElem (by omega)
     have hsl := secList_at hp ha
     have hneg := secAt_neg (HSN.out ps[t] (List.mem_of_getElem? hp)) (at_[t]'(by omega))
     have hht := held_take hp ha
     have SC : Hid (∀ m, Calls Try.prog 82 #[.slice A ps.length c, .slice A2 at_.length c2, .int .i64 t] (w1.drewN m) fun e w' => e = .returned (.int .i64 (secAt ps[t] (at_[t]'(by omega)))) ∧ ∃ n, w' = (w1.drewN m).drewN n) := fun m => Section_any ps at_ A A2 c c2 (w1.drewN m) (Old w) (Old w) (by exact H1.out) (by exact H21.out) t _ _ hp ha
     generalize secAt ps[t] (at_[t]'(by omega)) = sx at hsl hneg hht SC
     have HSL := Lib.hid hsl
     have HNEG := Lib.hid hneg
     have HHT := Lib.hid hht
     clear hp ha hsl hneg hht
     go_wp2
     go_loopw [6] (fun i wr => ∃ u n : Nat, u ≤ t ∧ i = .int .i64 u ∧ wr = w1.drewN n ∧ (0 ≤ sx → sx ∉ (secList ps at_).take u)) (fun i _ => t - (intOf i).toNat)
     case atStart => exact ⟨0, n, Nat.zero_le _, rfl, rfl, by simp⟩
     case round =>
      obtain ⟨u, m, hu, rfl, rfl, hno⟩ := hrel
      have HNO := Lib.hid hno; clear hno
      by_cases hlt2 : u < t
      ·have hdu : decide ((u : Int) < (t : Int)) = true := by simp; omega
       have hul : u < ps.length := by omega
       have hp : ps[u]? = some ps[u] := List.getElem?_eq_getElem hul
       have ha : at_[u]? = some (at_[u]'(by omega)) := List.getElem?_eq_getElem (by omega)
       have hsl := secList_at hp ha
       have SU : Hid (∀ m, Calls Try.prog 82 #[.slice A ps.length c, .slice A2 at_.length c2, .int .i64 u] (w1.drewN m) fun e w' => e = .returned (.int .i64 (secAt ps[u] (at_[u]'(by omega)))) ∧ ∃ n, w' = (w1.drewN m).drewN n) := fun m => Section_any ps at_ A A2 c c2 (w1.drewN m) (Old w) (Old w) (by exact H1.out) (by exact H21.out) u _ _ hp ha
       generalize secAt ps[u] (at_[u]'(by omega)) = su at hsl SU
       have HSU := Lib.hid hsl
       clear hp ha hsl
       by_cases g3 : 0 ≤ sx
       ·have g3' : decide (sx ≥ 0) = true := by simp; omega
        by_cases g4 : sx = su
        ·have g4' : (sx == su) = true := by simpa using g4
         have Q : Hid (checkState ps at_ = 17) := by
          show checkState ps at_ = 17
          unfold checkState
          rw [if_neg (by simp [g1, g2]), if_neg ?_]
          intro hn
          have hn2 := List.Sublist.nodup (heldOf_sublist ps at_ (t + 1)) hn
          rw [HHT.out] at hn2
          rcases HNEG.out with h | h
          ·omega
          ·rw [if_neg h.1] at hn2
           have := (List.nodup_append.1 hn2).2.2 sx ((mem_heldOf HSN.out _ _).2 ⟨by rw [secList_take]; exact List.mem_of_getElem? (by rw [List.getElem?_take_of_lt hlt2, g4]; exact HSU.out), g3⟩) sx (by simp)
           exact this rfl
         clear g4
         go_wp2_with (first | (go_at_call 82; (with_reducible refine (SC.out _).mono ?_); rintro e w7 ⟨rfl, n7, rfl⟩) | (go_at_call 82; (with_reducible refine (SU.out _).mono ?_); rintro e w8 ⟨rfl, n8, rfl⟩))
         go_ret
         rw [Q.out]
         exact ⟨rfl, K1.out.drewN _⟩
        ·have g4' : (sx == su) = false := by simpa using g4
         have Q : Hid (0 ≤ sx → sx ∉ (secList ps at_).take (u + 1)) := by
          show _ → _
          intro h0
          rw [List.take_add_one, HSU.out]; simp
          exact ⟨by simpa using HNO.out h0, g4⟩
         clear g4
         go_wp2_with (first | (go_at_call 82; (with_reducible refine (SC.out _).mono ?_); rintro e w7 ⟨rfl, n7, rfl⟩) | (go_at_call 82; (with_reducible refine (SU.out _).mono ?_); rintro e w8 ⟨rfl, n8, rfl⟩))
         go_roundw
         case rel => exact ⟨u + 1, _, by omega, by go_num, rfl, Q.out⟩
         case measure => simp [intOf]; omega
       ·have g3' : decide (sx ≥ 0) = false := by simp; omega
        go_wp2_with (first | (go_at_call 82; (with_reducible refine (SC.out _).mono ?_); rintro e w7 ⟨rfl, n7, rfl⟩))
        go_roundw
        case rel => exact ⟨u + 1, _, by omega, by go_num, rfl, fun h => (by omega)⟩
        case measure => simp [intOf]; omega
      ·obtain rfl : u = t := by omega
       have Q : Hid ((heldOf ps (at_.take (u + 1))).Nodup) := by
        show List.Nodup _
        rw [HHT.out]
        rcases HNEG.out with h | h
        ·rw [if_pos h.1, List.append_nil]; exact HND.out
        ·rw [if_neg h.1]
         refine nodup_snoc HND.out (fun hm => HNO.out h.2 ?_)
         have := ((mem_heldOf HSN.out _ _).1 hm).1
         rw [secList_take] at this; exact this
       go_wp2
       go_roundw
       case rel => exact ⟨u + 1, _, by omega, by go_num, rfl, Q.out⟩
       case measure => simp [intOf]; omega
    ·obtain rfl : t = ps.length := by omega
     have Q : Hid (checkState ps at_ = 0) := by
      show checkState ps at_ = 0
      unfold checkState
      rw [if_neg (by simp [g1, g2]), if_pos]
      have e : at_.take ps.length = at_ := List.take_of_length_le (by omega)
      have := HND.out; rw [e] at this; exact this
     go_wp2
     go_ret
     rw [Q.out]
     exact ⟨rfl, K1.out.drewN _⟩
  ·have g2' : good ps at_ = false := by simpa using g2
   have Q : Hid (checkState ps at_ = 1) := by show checkState ps at_ = _; simp [checkState, g2']
   go_wp2_with (go_at_call 81; refine (rGood_any ps at_ A A2 c c2 _ (Old w) (Old w) H1.out H21.out).mono ?_; rintro e w2 ⟨rfl, rfl⟩)
   go_ret
   rw [Q.out]
   exact ⟨rfl, K1.out⟩
 ·have g1' : valid ps = false := by simpa using g1
  have Q : Hid (checkState ps at_ = 1) := by show checkState ps at_ = _; simp [checkState, g1']
  go_enter Try.func59, Try.ntmps59
  go_wp2_with (go_at_call 80; refine (RefValid_any ps A c w H.out).mono ?_; rintro e w1 ⟨rfl, k1⟩)
  go_ret
  rw [Q.out]
  exact ⟨rfl, k1⟩

structure Pr where
 res : Int
 u : Ref
 v : Ref
 deriving DecidableEq, Inhabited
/-- the pairs of a list of uses -/
def pairsL (r : Int) (l : List Ref) : List Pr := l.flatMap fun u => (l.filter fun v => decide (u.tr < v.tr)).map fun v => ⟨r, u, v⟩
def openA (ps : List (List Stage)) (at_ : List Int) (r : Int) : List Ref := openU ps at_ r (allU ps r)
def pairsTo (ps : List (List Stage)) (at_ : List Int) (n : Nat) : List Pr := (List.range n).flatMap fun r : Nat => pairsL (r : Int) (openA ps at_ (r : Int))
def pairsP (ps : List (List Stage)) (at_ : List Int) : List Pr := pairsTo ps at_ 144
theorem mem_pairs {ps : List (List Stage)} {at_ : List Int} {x : Pr} (h : x ∈ pairsP ps at_) : x.u ∈ openA ps at_ x.res ∧ x.v ∈ openA ps at_ x.res ∧ x.u.tr < x.v.tr := by
 unfold pairsP pairsTo at h
 obtain ⟨r, _, h⟩ := List.mem_flatMap.1 h
 unfold pairsL at h
 obtain ⟨u, hu, h⟩ := List.mem_flatMap.1 h
 obtain ⟨v, hv, rfl⟩ := List.mem_map.1 h
 obtain ⟨hv, hlt⟩ := List.mem_filter.1 hv
 exact ⟨hu, hv, by simpa using hlt⟩
/-- the arc of a decision -/
def dArc (ps : List (List Stage)) (x : Pr) (b : Bool) : RArc := if b = true then arc0 (relOf ps x.res x.u) x.v else arc0 (relOf ps x.res x.v) x.u
def decs (ps : List (List Stage)) (xs : List Pr) (bs : List Bool) : List RArc := List.zipWith (dArc ps) xs bs
theorem decs_snoc (ps : List (List Stage)) {xs : List Pr} {bs : List Bool} {x : Pr} (b : Bool) (h : xs[bs.length]? = some x) : decs ps xs (bs ++ [b]) = decs ps xs bs ++ [dArc ps x b] := by
 unfold decs
 induction bs generalizing xs with
 | nil =>
  cases xs with
  | nil => simp at h
  | cons a xs => simp at h; subst h; simp
 | cons c bs ih =>
  cases xs with
  | nil => simp at h
  | cons a xs =>
   simp only [List.cons_append, List.zipWith_cons_cons]
   rw [ih (by simpa using h)]
theorem open_use {ps : List (List Stage)} {at_ : List Int} {r : Int} {u : Ref} (h : u ∈ openA ps at_ r) : InR ps u ∧ Ev ps at_ (relOf ps r u) := by
 unfold openA openU at h
 obtain ⟨hu, ho⟩ := List.mem_filter.1 h
 obtain ⟨t, k, p, hp, hk, e, etr⟩ := rel_event hu
 obtain ⟨tw, kw, pw, sw, hpw, hsw, _, rfl⟩ := mem_allU.1 hu
 refine ⟨⟨tw, kw, pw, hpw, by have := getElem?_lt hsw; omega, rfl⟩, ⟨t, k, p, hp, hk, e⟩, ?_⟩
 unfold overB at ho
 unfold doneR
 rw [relOf_tr]
 simpa using ho

/-- a problem's data besides the paths and positions -/
structure Pb where
 ps : List (List Stage)
 at_ : List Int
 due : List Int
 wgt : List Int
 now : Int
def lateP (p : Pb) (t : Nat) (s : Int) : Int := if s < nowAt p.due t then 0 else nowAt p.wgt t * (s - nowAt p.due t)
def costT (p : Pb) (T : Tab) : Nat → Int
 | 0 => 0
 | t + 1 => costT p T t + lateP p t (T ⟨(t : Int), (lenAt p.ps t : Int)⟩)
def lineD (p : Pb) (D : List RArc) : List Ref := (lineR p.ps (arcsD p.ps D) p.at_).1
def secD (p : Pb) (D : List RArc) : Tab := secS p.ps p.at_ p.now D (lineD p D)
def costD (p : Pb) (D : List RArc) : Int := costT p (secD p D) p.ps.length
def checkP (p : Pb) : Bool := decide (checkState p.ps p.at_ = 0) && decide (p.due.length = p.ps.length) && decide (p.wgt.length = p.ps.length) && p.due.all (fun x => decide (0 ≤ x) && decide (x ≤ 16777216)) && p.wgt.all (fun x => decide (0 ≤ x) && decide (x ≤ 1048576)) && decide (0 ≤ p.now) && decide (p.now ≤ 4194304)

/-- steps so far, and the best complete choice -/
structure SSt where
 steps : Nat
 best : Option (List Bool × Int)
def xs (p : Pb) : List Pr := pairsP p.ps p.at_
def goOn (p : Pb) (bs : List Bool) (s : SSt) : Bool := okD p.ps p.at_ (decs p.ps (xs p) bs) && (match s.best with | none => true | some b => decide (costD p (decs p.ps (xs p) bs) < b.2))
def decT (budget : Nat) (p : Pb) (rc : List Bool → SSt → Bool × SSt) (bs : List Bool) : List Bool → SSt → Bool × SSt
 | [], s => (true, s)
 | b :: l, s => if s.steps = budget then (false, s) else
   if goOn p (bs ++ [b]) s = true then (if (rc (bs ++ [b]) ⟨s.steps + 1, s.best⟩).1 = true then decT budget p rc bs l (rc (bs ++ [b]) ⟨s.steps + 1, s.best⟩).2 else (false, (rc (bs ++ [b]) ⟨s.steps + 1, s.best⟩).2))
   else decT budget p rc bs l ⟨s.steps + 1, s.best⟩
def decF (budget : Nat) (p : Pb) : Nat → List Bool → SSt → Bool × SSt
 | 0, bs, s => (true, ⟨s.steps, some (bs, costD p (decs p.ps (xs p) bs))⟩)
 | k + 1, bs, s => decT budget p (decF budget p k) bs [true, false] s
def searchD (budget : Nat) (p : Pb) : Bool × SSt := decF budget p (xs p).length [] ⟨0, none⟩

/-- no arc leads from an event that has not happened to one that has -/
def AgreeP (ps : List (List Stage)) (os : List Order) (now : List Int) : Prop := ∀ (t k : Nat) (p : List Stage), ps[t]? = some p → k ≤ p.length → (k : Int) ≤ nowAt now t → ∀ a ∈ rowG ps os ⟨(t : Int), (k : Int)⟩, doneR now (evAt ps a.frm.toNat) = true
theorem evAt_tr (ps : List (List Stage)) (i : Nat) : 0 ≤ (evAt ps i).tr := by
 unfold evAt
 cases h : (evs ps)[i]? with
 | none => simp
 | some u =>
  have hm := List.mem_of_getElem? h
  unfold evs at hm
  obtain ⟨q, _, hq⟩ := List.mem_flatMap.1 hm
  obtain ⟨k, _, rfl⟩ := List.mem_map.1 hq
  simp
theorem AgreeP.step {ps : List (List Stage)} {os : List Order} {now : List Int} (hg : Gd ps now) (h : AgreeP ps os now) {t : Nat} (ht : t < ps.length) (hc : canGo ps (arcsOf (evs ps).length (gAdds ps os)) now t = true) : AgreeP ps os (now.set t (nowAt now t + 1)) := by
 have hl : t < now.length := by rw [hg.1]; exact ht
 have hG := hg.2 t ht
 intro u k p hp hk hd a ha
 have hd2 : doneR (now.set t (nowAt now t + 1)) ⟨(u : Int), (k : Int)⟩ = true := by unfold doneR; simpa using hd
 have hdone : doneR now (evAt ps a.frm.toNat) = true := by
  rcases (done_set hl (by simp)).1 hd2 with h1 | h1
  ·exact h u k p hp hk (by unfold doneR at h1; simpa using h1) a ha
  ·simp only [Ref.mk.injEq] at h1
   have hu : u = t := by omega
   subst hu
   simp only [canGo, Bool.and_eq_true, decide_eq_true_eq, List.all_eq_true] at hc
   refine hc.2 a ?_
   unfold rowG num at ha
   simp only [Int.toNat_natCast] at ha
   rw [show ((fst ps u : Int) + nowAt now u + 1).toNat = fst ps u + k from by omega]
   exact ha
 exact (done_set hl (evAt_tr _ _)).2 (.inl hdone)

theorem nodup_leR {l m : List Ref} (hl : l.Nodup) (h : ∀ x ∈ l, x ∈ m) : l.length ≤ m.length := by
 induction l generalizing m with
 | nil => simp
 | cons a l ih =>
  obtain ⟨ha, hl⟩ := List.nodup_cons.1 hl
  have hm := h a (by simp)
  have := ih (m := m.erase a) hl (fun x hx => by
   have hx' := h x (by simp [hx])
   exact (List.mem_erase_of_ne (by rintro rfl; exact ha hx)).2 hx')
  rw [List.length_erase_of_mem hm] at this
  have := List.length_pos_of_mem hm
  simp; omega

def labAbs (l : Lab) : Nat := (l.sec + 1).toNat + ((List.range 10).map fun t => (l.bf t + 1).toNat).sum
def absT (T : LTab) (E : List Ref) : Nat := (E.map fun u => labAbs (T u)).sum
structure LabLe (l m : Lab) : Prop where
 sec : l.sec ≤ m.sec
 bf : ∀ t, t < 10 → l.bf t ≤ m.bf t
theorem sum_le_sum (f g : Nat → Nat) : ∀ n, (∀ t, t < n → f t ≤ g t) → ((List.range n).map f).sum ≤ ((List.range n).map g).sum
 | 0, _ => by simp
 | n + 1, h => by
  rw [List.range_succ, List.map_append, List.sum_append, List.map_append, List.sum_append]
  have h1 := sum_le_sum f g n (fun t ht => h t (by omega))
  have h2 := h n (by omega)
  simp only [List.map_cons, List.map_nil, List.sum_cons, List.sum_nil]
  omega
theorem sum_lt_sum (f g : Nat → Nat) : ∀ n, (∀ t, t < n → f t ≤ g t) → (∃ t, t < n ∧ f t < g t) → ((List.range n).map f).sum < ((List.range n).map g).sum
 | 0, _, h => by obtain ⟨t, h, _⟩ := h; omega
 | n + 1, h, h' => by
  rw [List.range_succ, List.map_append, List.sum_append, List.map_append, List.sum_append]
  have h1 := sum_le_sum f g n (fun t ht => h t (by omega))
  have h2 := h n (by omega)
  simp only [List.map_cons, List.map_nil, List.sum_cons, List.sum_nil]
  obtain ⟨t, ht, hlt⟩ := h'
  by_cases e : t = n
  ·subst e; omega
  ·have := sum_lt_sum f g n (fun t ht => h t (by omega)) ⟨t, by omega, hlt⟩
   omega
theorem labAbs_le {l m : Lab} (h : LabLe l m) : labAbs l ≤ labAbs m := by
 unfold labAbs
 have h1 := sum_le_sum (fun t => (l.bf t + 1).toNat) (fun t => (m.bf t + 1).toNat) 10 (fun t ht => by have := h.bf t ht; omega)
 have := h.sec
 omega
theorem labAbs_lt {l m : Lab} (h : LabLe l m) (hl : l.bef.length = 10) (hm : m.bef.length = 10) (h0 : -1 ≤ l.sec) (hb : ∀ t, t < 10 → -1 ≤ l.bf t) (hne : m ≠ l) : labAbs l < labAbs m := by
 unfold labAbs
 have h1 := sum_le_sum (fun t => (l.bf t + 1).toNat) (fun t => (m.bf t + 1).toNat) 10 (fun t ht => by have := h.bf t ht; omega)
 have hs := h.sec
 by_cases e : l.sec = m.sec
 ·have : ∃ t, t < 10 ∧ (l.bf t + 1).toNat < (m.bf t + 1).toNat := by
   apply Classical.byContradiction
   intro hn
   apply hne
   refine Lab.ext10 hm hl e.symm fun t ht => ?_
   have h2 := h.bf t ht
   have h3 := hb t ht
   apply Classical.byContradiction
   intro h4
   exact hn ⟨t, ht, by omega⟩
  have := sum_lt_sum (fun t => (l.bf t + 1).toNat) (fun t => (m.bf t + 1).toNat) 10 (fun t ht => by have := h.bf t ht; omega) this
  omega
 ·omega
theorem absT_upd {T : LTab} {l : Lab} {u : Ref} : ∀ {E : List Ref}, u ∈ E → labAbs (T u) ≤ labAbs l → absT T E + (labAbs l - labAbs (T u)) ≤ absT (updL T u l) E
 | [], h, _ => by simp at h
 | v :: E, h, hl => by
  unfold absT
  simp only [List.map_cons, List.sum_cons]
  have mono : ∀ E : List Ref, (E.map fun u => labAbs (T u)).sum ≤ (E.map fun v => labAbs (updL T u l v)).sum := by
   intro E
   induction E with
   | nil => simp
   | cons a E ih =>
    simp only [List.map_cons, List.sum_cons]
    by_cases e : a = u
    ·subst e; rw [updL_at]; omega
    ·rw [updL_ne _ _ e]; omega
  by_cases e : v = u
  ·subst e
   rw [updL_at]
   have := mono E
   omega
  ·rw [updL_ne _ _ e]
   rcases List.mem_cons.1 h with h | h
   ·exact absurd h.symm e
   ·have := absT_upd (T := T) (l := l) h hl
    unfold absT at this
    omega
theorem absT_bound {T : LTab} {B : Nat} : ∀ {E : List Ref}, (∀ u ∈ E, labAbs (T u) ≤ B) → absT T E ≤ E.length * B
 | [], _ => by simp [absT]
 | v :: E, h => by
  have h1 := h v (by simp)
  have h2 := absT_bound (T := T) (B := B) (E := E) (fun u hu => h u (by simp [hu]))
  unfold absT at *
  simp only [List.map_cons, List.sum_cons, List.length_cons]
  rw [Nat.succ_mul]
  omega
section
variable {ps : List (List Stage)} {at_ : List Int} {D : List RArc} {L : List Ref} {n : Int}
theorem merge_le (l o : Lab) (fr : Ref) (w : Int) : LabLe l (mergeL l o fr w) := ⟨by unfold mergeL; simp only; omega, fun t ht => by unfold mergeL; rw [bf_map _ _ ht]; omega⟩
theorem stepS_bd (hv : valid ps = true) (hD : DOk ps at_ D) (hn : 0 ≤ n ∧ n ≤ 4194304) (T : Tab) (B : Int) (u : Ref) (hB : 4194304 ≤ B) (h : Bd T B) : -1 ≤ stepS ps at_ D (baseN ps at_ n) phS T u ∧ stepS ps at_ D (baseN ps at_ n) phS T u ≤ B + 4194304 := by
 have hmn : ∀ t k : Nat, 0 ≤ mnAt ps t k ∧ mnAt ps t k ≤ 4194304 := fun t k => by
  unfold mnAt
  cases e1 : ps[t]? with
  | none => simp
  | some p =>
   simp only [Option.getD_some]
   cases e2 : p[k]? with
   | none => simp
   | some s => exact (valid_clk hv e1 e2).1
 have hb : 0 ≤ baseN ps at_ n u ∧ baseN ps at_ n u ≤ 8388608 := by
  unfold baseN base2
  have h1 := baseS_bd hv hn ⟨(u.tr.toNat : Int), (u.st.toNat : Int)⟩
  have h2 := hmn u.tr.toNat (u.st.toNat - 1)
  split <;> omega
 refine ⟨?_, ?_⟩
 ·have := mxo_ge (fun a => if a.to = u ∧ doneR at_ a.frm = false then some (phS a (T a.frm)) else none) (baseN ps at_ n u) (arcsD ps D)
  unfold stepS; omega
 ·unfold stepS
  rw [mxo_le]
  refine ⟨by omega, fun a ha y hy => ?_⟩
  have hw : a.wt ≤ 4194304 := by
   rcases List.mem_append.1 ha with ha | ha
   ·obtain ⟨t, k, p, s, hp, hs, rfl⟩ := mem_chainR.1 ha
    exact (valid_clk hv hp hs).1.2
   ·rw [hD.wt a ha]; omega
  split at hy
  ·injection hy with hy
   have := h a.frm
   unfold phS at hy
   omega
  ·cases hy
theorem secS_bd (hv : valid ps = true) (hD : DOk ps at_ D) (hn : 0 ≤ n ∧ n ≤ 4194304) (u : Ref) : -1 ≤ secS ps at_ n D L u ∧ secS ps at_ n D L u ≤ 4194304 + 4194304 * (L.length : Int) :=
 secs_bd (by omega) (fun T B u hB h => stepS_bd hv hD hn T B u hB h) L _ 4194304 (Int.le_refl _) (fun x => by unfold initR; split <;> omega) u
theorem befS_bd (hv : valid ps = true) (h : Topo ps at_ D L) (t : Int) (u : Ref) : -1 ≤ befS ps at_ D L t u ∧ befS ps at_ D L t u ≤ 64 := by
 by_cases hu : Ev ps at_ u
 ·refine ⟨(solS_sol (base := fun _ => -1) (ph := phB t) (init := fun _ => -1) h).base u hu, ?_⟩
  refine solS_least (T := fun _ => 64) h (phB_mono t) ⟨fun e _ => by omega, fun a ha h1 h2 => ?_⟩ hu
  unfold phB
  have h3 : a.frm.st ≤ 64 := by
   have hend : InR ps a.frm := by
    rcases List.mem_append.1 ha with ha' | ha'
    ·obtain ⟨t, k, p, s, hp, hs, rfl⟩ := mem_chainR.1 ha'
     have := getElem?_lt hs
     exact ⟨t, k, p, hp, by omega, rfl⟩
    ·rcases h.ord a ha h1 with h5 | h5
     ·rw [h2] at h5; cases h5
     ·exact ((h.mem _).1 h5.mem.1).1
   obtain ⟨tf, kf, pf, hpf, hkf, ef⟩ := hend
   have := ((valid_lens hv).2 pf (List.mem_of_getElem? hpf)).2
   rw [ef]
   simp only
   omega
  split <;> omega
 ·unfold befS; rw [solS_out h hu]; omega
theorem topo_len (hv : valid ps = true) (h : Topo ps at_ D L) : L.length ≤ 650 := by
 have h1 := nodup_leR h.nd (m := evs ps) (fun u hu => by
  obtain ⟨⟨t, k, p, hp, hk, rfl⟩, _⟩ := (h.mem u).1 hu
  exact List.mem_of_getElem? (evs_at hp hk))
 have h2 := fst_le (fun p hp => ((valid_lens hv).2 p hp).2) ps.length (Nat.le_refl _)
 rw [fst_len] at h2
 have := (valid_lens hv).1
 omega
/-- every table on the way is bounded -/
theorem Prt.abs (hv : valid ps = true) (hD : DOk ps at_ D) (hn : 0 ≤ n ∧ n ≤ 4194304) (h : Topo ps at_ D L) {P : RArc → Prop} {T : LTab} (hp : Prt ps at_ n D L P T) : absT T (evs ps) ≤ 1780000000000 := by
 have hl := topo_len hv h
 have h2 := fst_le (fun p hp => ((valid_lens hv).2 p hp).2) ps.length (Nat.le_refl _)
 rw [fst_len] at h2
 have h3 := (valid_lens hv).1
 have hb : ∀ u ∈ evs ps, labAbs (T u) ≤ 2735000000 := fun u _ => by
  have hle : labAbs (T u) ≤ labAbs (labS ps at_ n D L u) := by
   by_cases hu : Ev ps at_ u
   ·obtain ⟨a, b⟩ := hp.le u hu
    exact labAbs_le ⟨a, fun t ht => by rw [labS_bf ht]; exact b t ht⟩
   ·rw [hp.out u hu]; exact Nat.le_refl _
  refine Nat.le_trans hle ?_
  have h4 := secS_bd (L := L) hv hD hn u
  have h5 := sum_le_mul (fun t => ((labS ps at_ n D L u).bf t + 1).toNat) 65 10 (fun t ht => by
   rw [labS_bf ht]
   have := befS_bd hv h (t : Int) u
   omega)
  have h6 : (labS ps at_ n D L u).sec = secS ps at_ n D L u := rfl
  unfold labAbs
  rw [h6]
  omega
 have h7 := absT_bound hb
 have h8 : (evs ps).length * 2735000000 ≤ 650 * 2735000000 := Nat.mul_le_mul_right _ (by omega)
 omega
end

/-- the place of u by a comparison: from the end on, past those that come later -/
def plK (lt : Ref → Ref → Bool) (u : Ref) (l : List Ref) : Nat → Nat
 | 0 => 0
 | k + 1 => match l[k]? with
  | some v => if lt u v = true then plK lt u l k else k + 1
  | none => k + 1
def plU (lt : Ref → Ref → Bool) (u : Ref) (l : List Ref) : List Ref := l.take (plK lt u l l.length) ++ u :: l.drop (plK lt u l l.length)
def sortB (lt : Ref → Ref → Bool) (l : List Ref) : List Ref := l.foldl (fun acc u => plU lt u acc) []
theorem sortB_snoc (lt : Ref → Ref → Bool) (l : List Ref) (u : Ref) : sortB lt (l ++ [u]) = plU lt u (sortB lt l) := by unfold sortB; rw [List.foldl_append]; rfl

/-- which of two uses of a resource comes first, by the arcs -/
def precD (ps : List (List Stage)) (D : List RArc) (r : Int) (u v : Ref) : Bool := if u.tr = v.tr then decide (u.st < v.st) else decide (arc0 (relOf ps r u) v ∈ D)
section
variable {ps : List (List Stage)} {at_ : List Int} {D : List RArc} {L : List Ref} {r : Int} {l : List Ref}
end

/-- insertion by a strict total order -/
structure Tot (lt : Ref → Ref → Bool) (l : List Ref) : Prop where
 tot : ∀ u ∈ l, ∀ v ∈ l, u ≠ v → lt u v = true ∨ lt v u = true
 asym : ∀ u ∈ l, ∀ v ∈ l, lt u v = true → lt v u = false
 trans : ∀ u ∈ l, ∀ v ∈ l, ∀ w ∈ l, lt u v = true → lt v w = true → lt u w = true

end Go.Proofs.Ytilbbpbjhoidhaa
