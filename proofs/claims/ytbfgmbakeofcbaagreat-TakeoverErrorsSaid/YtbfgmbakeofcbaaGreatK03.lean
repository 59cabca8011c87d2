/- Contracts of the readers of positions: Section, good, Good, Same, Left. Conditions: as each theorem says. Contracts of precedence.isStage and Valid and of the reference's validStage and Valid, and that the two agree. Conditions: as each theorem says. -/
import Derived.Test.YtbfgmbakeofcbaaGreatK01
import Derived.Test.YtbfgmbakeofcbaaGreatK02
namespace Go.Proofs.YtbfgmbakeofcbaaGreat
open Go.RowKit

/-- the section that a train holds, or -1 -/
def secAt (p : List Stage) (a : Int) : Int := if a < 0 then -1 else match p[a.toNat]? with | none => -1 | some s => s.sec
theorem drewNN (w : World) (a b : Nat) : (w.drewN a).drewN b = w.drewN (a + b) := World.drewN_drewN w a b

theorem getElem?_lt {α : Type} {l : List α} {k : Nat} {x : α} (h : l[k]? = some x) : k < l.length := (List.getElem?_eq_some_iff.1 h).1
theorem same_of {α : Type} {l : List α} {k : Nat} {x y : α} (h : l[k]? = some x) (h' : l[k]? = some y) : x = y := by rw [h] at h'; injection h'

set_option maxHeartbeats 400000 in
theorem Section_any (ps : List (List Stage)) (at_ : List Int) (A A2 : Option Addr) (c c2 : Nat) (w : World) (S S2 : Foot) (h : RPaths w S [.slice A ps.length c] ps) (h2 : RInts w S2 [.slice A2 at_.length c2] at_)
    (t : Nat) (p : List Stage) (a : Int) (hp : ps[t]? = some p) (ha : at_[t]? = some a) :
    Calls Tryz.prog 45 #[.slice A ps.length c, .slice A2 at_.length c2, .int .i64 t] w fun e w' => e = .returned (.int .i64 (secAt p a)) ∧ ∃ n, w' = w.drewN n := by
  have hc := h.caps
  have hc2 := h2.caps
  have ht := getElem?_lt hp
  have ht2 := getElem?_lt ha
  obtain ⟨b, o, p', A', c', rfl, _, hp', k1, hr⟩ := RSS.at_ h ht
  obtain rfl := same_of hp' hp
  obtain ⟨b2, o2, a', rfl, _, ha', k2⟩ := h2.at_ ht2
  obtain rfl := same_of ha' ha
  have hcp := hr.caps
  clear hp hp' ha ha' h h2
  by_cases g1 : a' < 0
  · have g1' : decide (a' < 0) = true := by simpa using g1
    have Q : Hid (secAt p' a' = -1) := by show secAt p' a' = -1; simp [secAt, g1]
    clear hr
    go_enter Tryz.func45, Tryz.ntmps45
    go_wp2
    go_quiet (fail)
    go_wp2
    go_ret
    exact ⟨by rw [Q.out]; rfl, _, rfl⟩
  · have g1' : decide (a' < 0) = false := by simpa using g1
    obtain ⟨n, rfl⟩ := Int.eq_ofNat_of_zero_le (by omega : 0 ≤ a')
    by_cases g2 : n < p'.length
    · obtain ⟨b3, o3, s, A3, c3, rfl, _, hs, k3, _⟩ := RPath.at_ hr g2
      have Q : Hid (secAt p' (n : Int) = s.sec) := by show secAt p' (n : Int) = s.sec; unfold secAt; rw [if_neg g1]; simp [hs]
      clear hr hs
      go_enter Tryz.func45, Tryz.ntmps45
      go_wp2
      go_quiet (fail)
      go_wp2
      go_quiet (fail)
      go_wp2
      go_ret
      exact ⟨by rw [Q.out]; rfl, _, drewNN _ _ _⟩
    · have Q : Hid (secAt p' (n : Int) = -1) := by
        show secAt p' (n : Int) = -1
        unfold secAt; rw [if_neg g1, Int.toNat_natCast, List.getElem?_eq_none (by omega)]
      clear hr
      go_enter Tryz.func45, Tryz.ntmps45
      go_wp2
      go_quiet (fail)
      go_wp2
      go_ret
      exact ⟨by rw [Q.out]; rfl, _, rfl⟩

/-- good positions -/
def okPos (p : List Stage) (a : Int) : Bool := decide (-1 ≤ a) && decide (a ≤ p.length)
def goodFrom : List (List Stage) → List Int → Bool
  | p :: ps, a :: l => okPos p a && goodFrom ps l
  | _, _ => true
def good (ps : List (List Stage)) (at_ : List Int) : Bool := decide (at_.length = ps.length) && goodFrom ps at_
def GoodInv (ps : List (List Stage)) (at_ : List Int) (k : Nat) : Prop := goodFrom ps at_ = goodFrom (ps.drop k) (at_.drop k)
theorem drop_cons' {α : Type} {l : List α} {k : Nat} {x : α} (h : l[k]? = some x) : l.drop k = x :: l.drop (k + 1) := by
  obtain ⟨hk, e⟩ := List.getElem?_eq_some_iff.1 h
  rw [← e, List.getElem_cons_drop hk]
theorem GoodInv.step {ps : List (List Stage)} {at_ : List Int} {k : Nat} {p : List Stage} {a : Int} (h : GoodInv ps at_ k) (hp : ps[k]? = some p) (ha : at_[k]? = some a) (ho : okPos p a = true) : GoodInv ps at_ (k + 1) := by
  unfold GoodInv at *; rw [h, drop_cons' hp, drop_cons' ha, goodFrom, ho]; rfl
theorem GoodInv.stop {ps : List (List Stage)} {at_ : List Int} {k : Nat} {p : List Stage} {a : Int} (h : GoodInv ps at_ k) (hp : ps[k]? = some p) (ha : at_[k]? = some a) (ho : okPos p a = false) : good ps at_ = false := by
  unfold GoodInv at h; simp [good, h, drop_cons' hp, drop_cons' ha, goodFrom, ho]
theorem GoodInv.done {ps : List (List Stage)} {at_ : List Int} (h : GoodInv ps at_ ps.length) : goodFrom ps at_ = true := by
  unfold GoodInv at h; rw [h, List.drop_length]; unfold goodFrom; cases at_.drop ps.length <;> rfl
theorem goodFrom_at : ∀ (ps : List (List Stage)) (at_ : List Int), goodFrom ps at_ = true → ∀ (t : Nat) p a, ps[t]? = some p → at_[t]? = some a → okPos p a = true
  | [], _, _, t, p, a, hp, _ => by simp at hp
  | q :: ps, [], _, t, p, a, _, ha => by simp at ha
  | q :: ps, b :: l, h, t, p, a, hp, ha => by
    simp only [goodFrom, Bool.and_eq_true] at h
    cases t with
    | zero => simp at hp ha; subst hp ha; exact h.1
    | succ t => exact goodFrom_at ps l h.2 t p a (by simpa using hp) (by simpa using ha)

set_option maxHeartbeats 400000 in
theorem tgood_any (ps : List (List Stage)) (at_ : List Int) (A A2 : Option Addr) (c c2 : Nat) (w : World) (S S2 : Foot) (h : RPaths w S [.slice A ps.length c] ps) (h2 : RInts w S2 [.slice A2 at_.length c2] at_) :
    Calls Tryz.prog 23 #[.slice A ps.length c, .slice A2 at_.length c2] w fun e w' => e = .returned (.bool (good ps at_)) ∧ w = w' := by
  have hc := h.caps
  have hc2 := h2.caps
  have H := Lib.hid h; clear h
  have H2 := Lib.hid h2; clear h2
  by_cases g1 : at_.length = ps.length
  · have g1' : ((at_.length : Int) != (ps.length : Int)) = false := by simp; omega
    have G1 := Lib.hid g1; clear g1
    have l1 : at_.length ≤ ps.length := by rw [G1.out]; exact Nat.le_refl _
    have l2 : ps.length ≤ at_.length := by rw [G1.out]; exact Nat.le_refl _
    go_enter Tryz.func23, Tryz.ntmps23
    go_wp2
    go_loop [14] (fun i => ∃ k : Nat, k ≤ ps.length ∧ i = .int .i64 k ∧ GoodInv ps at_ k) (fun i => ps.length - (intOf i).toNat)
    case atStart => exact ⟨0, Nat.zero_le _, rfl, rfl⟩
    case round =>
      obtain ⟨k, hk, rfl, hinv⟩ := hrel
      by_cases hlt : k < ps.length
      · obtain ⟨b, o, p, A', c', rfl, _, hp, k1, hr⟩ := RSS.at_ H.out hlt
        obtain ⟨b2, o2, a, rfl, _, ha, k2⟩ := H2.out.at_ (k := k) (by omega)
        have hcp := hr.caps
        clear hr
        by_cases g2 : a < -1
        · have Q := Lib.hid (hinv.stop hp ha (by simp [okPos]; omega))
          have g2' : decide (a < -1) = true := by simpa using g2
          clear hp ha
          go_wp2
          go_ret
          exact ⟨by rw [Q.out]; rfl, rfl⟩
        · have g2' : decide (a < -1) = false := by simpa using g2
          by_cases g3 : (p.length : Int) < a
          · have Q := Lib.hid (hinv.stop hp ha (by simp [okPos]; omega))
            clear hp ha
            go_wp2
            go_ret
            exact ⟨by rw [Q.out]; rfl, rfl⟩
          · have Q := Lib.hid (hinv.step hp ha (by simp [okPos]; omega))
            clear hp ha
            go_wp2
            go_round
            case rel => exact ⟨k + 1, by omega, by go_num, Q.out⟩
            case measure => simp [intOf]; omega
      · obtain rfl : k = ps.length := by omega
        have Q : Hid (good ps at_ = true) := by show good ps at_ = true; simp [good, G1.out, hinv.done]
        go_wp2
        go_ret
        exact ⟨by rw [Q.out]; rfl, rfl⟩
  · have g1' : ((at_.length : Int) != (ps.length : Int)) = true := by simp; omega
    have Q : Hid (good ps at_ = false) := by show good ps at_ = false; simp [good, g1]
    go_enter Tryz.func23, Tryz.ntmps23
    go_wp2
    go_ret
    exact ⟨by rw [Q.out]; rfl, rfl⟩

set_option maxHeartbeats 400000 in
theorem pgood_any (ps : List (List Stage)) (at_ : List Int) (A A2 : Option Addr) (c c2 : Nat) (w : World) (S S2 : Foot) (h : RPaths w S [.slice A ps.length c] ps) (h2 : RInts w S2 [.slice A2 at_.length c2] at_) :
    Calls Tryz.prog 53 #[.slice A ps.length c, .slice A2 at_.length c2] w fun e w' => e = .returned (.bool (good ps at_)) ∧ w = w' := by
  have hc := h.caps
  have hc2 := h2.caps
  have H := Lib.hid h; clear h
  have H2 := Lib.hid h2; clear h2
  by_cases g1 : at_.length = ps.length
  · have g1' : ((at_.length : Int) != (ps.length : Int)) = false := by simp; omega
    have G1 := Lib.hid g1; clear g1
    have l1 : at_.length ≤ ps.length := by rw [G1.out]; exact Nat.le_refl _
    have l2 : ps.length ≤ at_.length := by rw [G1.out]; exact Nat.le_refl _
    go_enter Tryz.func53, Tryz.ntmps53
    go_wp2
    go_loop [14] (fun i => ∃ k : Nat, k ≤ ps.length ∧ i = .int .i64 k ∧ GoodInv ps at_ k) (fun i => ps.length - (intOf i).toNat)
    case atStart => exact ⟨0, Nat.zero_le _, rfl, rfl⟩
    case round =>
      obtain ⟨k, hk, rfl, hinv⟩ := hrel
      by_cases hlt : k < ps.length
      · obtain ⟨b, o, p, A', c', rfl, _, hp, k1, hr⟩ := RSS.at_ H.out hlt
        obtain ⟨b2, o2, a, rfl, _, ha, k2⟩ := H2.out.at_ (k := k) (by omega)
        have hcp := hr.caps
        clear hr
        by_cases g2 : a < -1
        · have Q := Lib.hid (hinv.stop hp ha (by simp [okPos]; omega))
          have g2' : decide (a < -1) = true := by simpa using g2
          clear hp ha
          go_wp2
          go_ret
          exact ⟨by rw [Q.out]; rfl, rfl⟩
        · have g2' : decide (a < -1) = false := by simpa using g2
          by_cases g3 : (p.length : Int) < a
          · have Q := Lib.hid (hinv.stop hp ha (by simp [okPos]; omega))
            clear hp ha
            go_wp2
            go_ret
            exact ⟨by rw [Q.out]; rfl, rfl⟩
          · have Q := Lib.hid (hinv.step hp ha (by simp [okPos]; omega))
            clear hp ha
            go_wp2
            go_round
            case rel => exact ⟨k + 1, by omega, by go_num, Q.out⟩
            case measure => simp [intOf]; omega
      · obtain rfl : k = ps.length := by omega
        have Q : Hid (good ps at_ = true) := by show good ps at_ = true; simp [good, G1.out, hinv.done]
        go_wp2
        go_ret
        exact ⟨by rw [Q.out]; rfl, rfl⟩
  · have g1' : ((at_.length : Int) != (ps.length : Int)) = true := by simp; omega
    have Q : Hid (good ps at_ = false) := by show good ps at_ = false; simp [good, g1]
    go_enter Tryz.func53, Tryz.ntmps53
    go_wp2
    go_ret
    exact ⟨by rw [Q.out]; rfl, rfl⟩

set_option maxHeartbeats 400000 in
theorem rGood_any (ps : List (List Stage)) (at_ : List Int) (A A2 : Option Addr) (c c2 : Nat) (w : World) (S S2 : Foot) (h : RPaths w S [.slice A ps.length c] ps) (h2 : RInts w S2 [.slice A2 at_.length c2] at_) :
    Calls Tryz.prog 26 #[.slice A ps.length c, .slice A2 at_.length c2] w fun e w' => e = .returned (.bool (good ps at_)) ∧ w = w' := by
  have hc := h.caps
  have hc2 := h2.caps
  have H := Lib.hid h; clear h
  have H2 := Lib.hid h2; clear h2
  by_cases g1 : at_.length = ps.length
  · have g1' : ((at_.length : Int) != (ps.length : Int)) = false := by simp; omega
    have G1 := Lib.hid g1; clear g1
    have l1 : at_.length ≤ ps.length := by rw [G1.out]; exact Nat.le_refl _
    have l2 : ps.length ≤ at_.length := by rw [G1.out]; exact Nat.le_refl _
    go_enter Tryz.func26, Tryz.ntmps26
    go_wp2
    go_loop [14] (fun i => ∃ k : Nat, k ≤ at_.length ∧ i = .int .i64 k ∧ GoodInv ps at_ k) (fun i => at_.length - (intOf i).toNat)
    case atStart => exact ⟨0, Nat.zero_le _, rfl, rfl⟩
    case round =>
      obtain ⟨k, hk, rfl, hinv⟩ := hrel
      by_cases hlt : k < at_.length
      · obtain ⟨b, o, p, A', c', rfl, _, hp, k1, hr⟩ := RSS.at_ H.out (k := k) (by omega)
        obtain ⟨b2, o2, a, rfl, _, ha, k2⟩ := H2.out.at_ hlt
        have hcp := hr.caps
        clear hr
        by_cases g2 : a < -1
        · have Q := Lib.hid (hinv.stop hp ha (by simp [okPos]; omega))
          have g2' : decide (a < -1) = true := by simpa using g2
          clear hp ha
          go_wp2
          go_ret
          exact ⟨by rw [Q.out]; rfl, rfl⟩
        · have g2' : decide (a < -1) = false := by simpa using g2
          by_cases g3 : (p.length : Int) < a
          · have Q := Lib.hid (hinv.stop hp ha (by simp [okPos]; omega))
            clear hp ha
            go_wp2
            go_ret
            exact ⟨by rw [Q.out]; rfl, rfl⟩
          · have Q := Lib.hid (hinv.step hp ha (by simp [okPos]; omega))
            clear hp ha
            go_wp2
            go_round
            case rel => exact ⟨k + 1, by omega, by go_num, Q.out⟩
            case measure => simp [intOf]; omega
      · have hkk : k = ps.length := by omega
        have Q : Hid (good ps at_ = true) := by show good ps at_ = true; subst hkk; simp [good, G1.out, hinv.done]
        clear hkk
        go_wp2
        go_ret
        exact ⟨by rw [Q.out]; rfl, rfl⟩
  · have g1' : ((at_.length : Int) != (ps.length : Int)) = true := by simp; omega
    have Q : Hid (good ps at_ = false) := by show good ps at_ = false; simp [good, g1]
    go_enter Tryz.func26, Tryz.ntmps26
    go_wp2
    go_ret
    exact ⟨by rw [Q.out]; rfl, rfl⟩

set_option maxHeartbeats 400000 in
theorem SameInt_any (x y : List Int) (A A2 : Option Addr) (c c2 : Nat) (w : World) (S S2 : Foot) (h : RInts w S [.slice A x.length c] x) (h2 : RInts w S2 [.slice A2 y.length c2] y) :
    Calls Tryz.prog 40 #[.slice A x.length c, .slice A2 y.length c2] w fun e w' => e = .returned (.bool (decide (x = y))) ∧ ∃ n, w' = w.drewN n := by
  have hc := h.caps
  have hc2 := h2.caps
  have H := Lib.hid h; clear h
  have H2 := Lib.hid h2; clear h2
  by_cases g1 : x.length = y.length
  · have g1' : ((x.length : Int) != (y.length : Int)) = false := by simp; omega
    have G1 := Lib.hid g1; clear g1
    have l1 : x.length ≤ y.length := by rw [G1.out]; exact Nat.le_refl _
    have l2 : y.length ≤ x.length := by rw [G1.out]; exact Nat.le_refl _
    go_enter Tryz.func40, Tryz.ntmps40
    go_wp2
    go_loopw [13] (fun i wr => ∃ k : Nat, k ≤ x.length ∧ i = .int .i64 k ∧ x.take k = y.take k ∧ ∃ n, wr = w.drewN n) (fun i _ => x.length - (intOf i).toNat)
    case atStart => exact ⟨0, Nat.zero_le _, rfl, rfl, 0, rfl⟩
    case round =>
      obtain ⟨k, hk, rfl, hinv, n, rfl⟩ := hrel
      have HI := Lib.hid hinv; clear hinv
      by_cases hlt : k < x.length
      · obtain ⟨b, o, u, rfl, _, hu, k1⟩ := H.out.at_ hlt
        obtain ⟨b2, o2, v, rfl, _, hv, k2⟩ := H2.out.at_ (k := k) (by omega)
        by_cases g2 : (u != v) = true
        · have Q : Hid (decide (x = y) = false) := by
            show decide (x = y) = false
            simp only [decide_eq_false_iff_not]; rintro rfl
            have := same_of hu hv; simp [this] at g2
          clear hu hv
          go_wp2
          go_quiet (fail)
          go_wp2
          go_ret
          exact ⟨by rw [Q.out]; rfl, _, drewNN _ _ _⟩
        · have g2' : (u != v) = false := by simpa using g2
          have Q : Hid (x.take (k + 1) = y.take (k + 1)) := by
            show x.take (k + 1) = y.take (k + 1)
            have : u = v := by simpa using g2'
            rw [List.take_add_one, List.take_add_one, HI.out, hu, hv, this]
          clear hu hv
          go_wp2
          go_quiet (fail)
          go_wp2
          go_roundw
          case rel => exact ⟨k + 1, by omega, by go_num, Q.out, _, rfl⟩
          case measure => simp [intOf]; omega
      · have Q : Hid (decide (x = y) = true) := by
          show decide (x = y) = true
          have := HI.out
          rw [List.take_of_length_le (by omega), List.take_of_length_le (by omega)] at this
          simpa using this
        go_wp2
        go_ret
        exact ⟨by rw [Q.out]; rfl, _, rfl⟩
  · have g1' : ((x.length : Int) != (y.length : Int)) = true := by simp; omega
    have Q : Hid (decide (x = y) = false) := by
      show decide (x = y) = false
      simp only [decide_eq_false_iff_not]; rintro rfl; exact g1 rfl
    go_enter Tryz.func40, Tryz.ntmps40
    go_wp2
    go_ret
    exact ⟨by rw [Q.out]; rfl, 0, rfl⟩

def ptOk (sec : Int) (pts : List Int) (i : Nat) (p : Int) : Bool := isRes p && !(p == sec) && !(decide (0 < i) && p == pts.headD 0)
def ptsFrom (sec : Int) (pts : List Int) : Nat → List Int → Bool
  | _, [] => true
  | i, p :: r => ptOk sec pts i p && ptsFrom sec pts (i + 1) r
def stageOk (s : Stage) : Bool := isRes s.sec && decide (s.pts.length ≤ 2) && ptsFrom s.sec s.pts 0 s.pts && (isClk s.mn && isClk s.nt)

theorem drop_cons {α : Type} {l : List α} {k : Nat} {x : α} (h : l[k]? = some x) : l.drop k = x :: l.drop (k + 1) := by
  obtain ⟨hk, e⟩ := List.getElem?_eq_some_iff.1 h
  rw [← e, List.getElem_cons_drop hk]

def PtsInv (s : Stage) (k : Nat) : Prop := ptsFrom s.sec s.pts 0 s.pts = ptsFrom s.sec s.pts k (s.pts.drop k)
theorem PtsInv.step {s : Stage} {k : Nat} {x : Int} (h : PtsInv s k) (hx : s.pts[k]? = some x) (ho : ptOk s.sec s.pts k x = true) : PtsInv s (k + 1) := by
  unfold PtsInv at *; rw [h, drop_cons hx, ptsFrom, ho]; rfl
theorem PtsInv.stop {s : Stage} {k : Nat} {x : Int} (h : PtsInv s k) (hx : s.pts[k]? = some x) (ho : ptOk s.sec s.pts k x = false) : stageOk s = false := by
  unfold PtsInv at h; simp [stageOk, h, drop_cons hx, ptsFrom, ho]
theorem PtsInv.done {s : Stage} (h : PtsInv s s.pts.length) : ptsFrom s.sec s.pts 0 s.pts = true := by
  unfold PtsInv at h; rw [h, List.drop_length]; rfl
theorem pts_cases (s : Stage) (k : Nat) (x : Int) : (isRes x = false ∧ ptOk s.sec s.pts k x = false) ∨ (isRes x = true ∧ (x == s.sec) = true ∧ ptOk s.sec s.pts k x = false) ∨
    (isRes x = true ∧ (x == s.sec) = false ∧ k = 0 ∧ ptOk s.sec s.pts k x = true) ∨
    (isRes x = true ∧ (x == s.sec) = false ∧ 0 < k ∧ (x == s.pts.headD 0) = true ∧ ptOk s.sec s.pts k x = false) ∨
    (isRes x = true ∧ (x == s.sec) = false ∧ 0 < k ∧ (x == s.pts.headD 0) = false ∧ ptOk s.sec s.pts k x = true) := by
  unfold ptOk
  cases isRes x <;> cases (x == s.sec) <;> cases (x == s.pts.headD 0) <;> rcases Nat.eq_zero_or_pos k with hk | hk <;> simp [hk] <;> omega

set_option maxHeartbeats 1000000 in
theorem isStage_any (s : Stage) (Ap : Option Addr) (cp : Nat) (w : World) (S : Foot) (h : RInts w S [.slice Ap s.pts.length cp] s.pts) (hS : ∀ b, S b → b < w.heap.size) :
    Calls Tryz.prog 47 #[.agg #[.int .i64 s.sec, .slice Ap s.pts.length cp, .int .i64 s.mn, .int .i64 s.nt]] w fun e w' => e = .returned (.bool (stageOk s)) ∧ w' = w.alloc (.cells #[.int .i64 s.sec, .slice Ap s.pts.length cp, .int .i64 s.mn, .int .i64 s.nt] 51) := by
  have hc := h.caps
  have HS := Lib.hid hS; clear hS
  have H := Lib.hid h; clear h
  by_cases g1 : isRes s.sec = true
  · by_cases g2 : s.pts.length ≤ 2
    · have g2' : decide ((2 : Int) < (s.pts.length : Int)) = false := by simp; omega
      go_enter Tryz.func47, Tryz.ntmps47
      go_wp2_with (go_at_call 70; refine (isResource_any _ _).mono ?_; rintro e w' ⟨rfl, rfl⟩)
      go_loop [18] (fun i => ∃ k : Nat, k ≤ s.pts.length ∧ i = .int .i64 k ∧ PtsInv s k) (fun i => s.pts.length - (intOf i).toNat)
      case atStart => exact ⟨0, Nat.zero_le _, rfl, rfl⟩
      case round =>
        obtain ⟨k, hk, rfl, hinv⟩ := hrel
        by_cases hlt : k < s.pts.length
        · obtain ⟨b, o, x, rfl, hb, hx, hcell⟩ := H.out.at_ hlt
          have hb' := HS.out b hb
          have hcell0 : (w.alloc (.cells #[.int .i64 s.sec, .slice (some ⟨b, o, none⟩) s.pts.length cp, .int .i64 s.mn, .int .i64 s.nt] 51)).cell? ⟨b, o + k, none⟩ = some (.int .i64 x) := (World.cell?_alloc_lt w _ ⟨b, o + k, none⟩ hb').trans hcell
          have HX := Lib.hid hx; clear hx hcell
          have hp0 : 0 < s.pts.length := by omega
          obtain ⟨b', o', y, he, _, hy, hcelly⟩ := H.out.at_ hp0
          injection he with he; injection he with he1 he2; subst he1 he2
          have hcell1 : (w.alloc (.cells #[.int .i64 s.sec, .slice (some ⟨b, o, none⟩) s.pts.length cp, .int .i64 s.mn, .int .i64 s.nt] 51)).cell? ⟨b, o, none⟩ = some (.int .i64 y) := (World.cell?_alloc_lt w _ ⟨b, o, none⟩ hb').trans hcelly
          have hyh : s.pts.headD 0 = y := by rw [List.headD_eq_head?_getD, List.head?_eq_getElem?, hy]; rfl
          have R := Lib.hid (pts_cases s k x); rw [hyh] at R; clear hyh hy hcelly
          rcases R.out with ⟨q1, q⟩ | ⟨q1, q2, q⟩ | ⟨q1, q2, q3, q⟩ | ⟨q1, q2, q3, q4, q⟩ | ⟨q1, q2, q3, q4, q⟩
          · have Q := Lib.hid (hinv.stop HX.out q); clear q R
            go_wp2_with (go_at_call 70; refine (isResource_any _ _).mono ?_; rintro e w' ⟨rfl, rfl⟩)
            go_ret
            exact ⟨by rw [Q.out]; rfl, rfl⟩
          · have Q := Lib.hid (hinv.stop HX.out q); clear q R
            go_wp2_with (go_at_call 70; refine (isResource_any _ _).mono ?_; rintro e w' ⟨rfl, rfl⟩)
            go_ret
            exact ⟨by rw [Q.out]; rfl, rfl⟩
          · have Q := Lib.hid (hinv.step HX.out q); clear q R
            have q3' : k < 1 := by omega
            clear q3 hcell1
            go_wp2_with (go_at_call 70; refine (isResource_any _ _).mono ?_; rintro e w' ⟨rfl, rfl⟩)
            go_round
            case rel => exact ⟨k + 1, hlt, by go_num, Q.out⟩
            case measure => simp [intOf]; omega
          · have Q := Lib.hid (hinv.stop HX.out q); clear q R
            go_wp2_with (go_at_call 70; refine (isResource_any _ _).mono ?_; rintro e w' ⟨rfl, rfl⟩)
            go_ret
            exact ⟨by rw [Q.out]; rfl, rfl⟩
          · have Q := Lib.hid (hinv.step HX.out q); clear q R
            go_wp2_with (go_at_call 70; refine (isResource_any _ _).mono ?_; rintro e w' ⟨rfl, rfl⟩)
            go_round
            case rel => exact ⟨k + 1, hlt, by go_num, Q.out⟩
            case measure => simp [intOf]; omega
        · obtain rfl : k = s.pts.length := by omega
          have Q : Hid (stageOk s = (isClk s.mn && isClk s.nt)) := by show stageOk s = (isClk s.mn && isClk s.nt); simp [stageOk, hinv.done, g1, g2]
          by_cases g3 : isClk s.mn = true
          · go_wp2_with (go_at_call 71; refine (isClock_any _ _).mono ?_; rintro e w' ⟨rfl, rfl⟩)
            go_ret
            exact ⟨by rw [Q.out, g3]; rfl, rfl⟩
          · have g3' : isClk s.mn = false := by simpa using g3
            go_wp2_with (go_at_call 71; refine (isClock_any _ _).mono ?_; rintro e w' ⟨rfl, rfl⟩)
            go_ret
            exact ⟨by rw [Q.out, g3']; rfl, rfl⟩
    · have g2' : decide ((2 : Int) < (s.pts.length : Int)) = true := by simp; omega
      have Q : Hid (stageOk s = false) := by show stageOk s = false; simp [stageOk, g2]
      go_enter Tryz.func47, Tryz.ntmps47
      go_wp2_with (go_at_call 70; refine (isResource_any _ _).mono ?_; rintro e w' ⟨rfl, rfl⟩)
      go_ret
      exact ⟨by rw [Q.out]; rfl, rfl⟩
  · have g1' : isRes s.sec = false := by simpa using g1
    have Q : Hid (stageOk s = false) := by show stageOk s = false; simp [stageOk, g1']
    go_enter Tryz.func47, Tryz.ntmps47
    go_wp2_with (go_at_call 70; refine (isResource_any _ _).mono ?_; rintro e w' ⟨rfl, rfl⟩)
    go_ret
    exact ⟨by rw [Q.out]; rfl, rfl⟩

set_option maxHeartbeats 1000000 in
theorem validStage_any (s : Stage) (Ap : Option Addr) (cp : Nat) (w : World) (S : Foot) (h : RInts w S [.slice Ap s.pts.length cp] s.pts) (hS : ∀ b, S b → b < w.heap.size) :
    Calls Tryz.prog 49 #[.agg #[.int .i64 s.sec, .slice Ap s.pts.length cp, .int .i64 s.mn, .int .i64 s.nt]] w fun e w' => e = .returned (.bool (stageOk s)) ∧ w' = w.alloc (.cells #[.int .i64 s.sec, .slice Ap s.pts.length cp, .int .i64 s.mn, .int .i64 s.nt] 51) := by
  have hc := h.caps
  have HS := Lib.hid hS; clear hS
  have H := Lib.hid h; clear h
  by_cases g1 : isRes s.sec = true
  · by_cases g2 : s.pts.length ≤ 2
    · have g2' : decide ((2 : Int) < (s.pts.length : Int)) = false := by simp; omega
      by_cases g3 : isClk s.mn = true
      rotate_left
      · have g3' : isClk s.mn = false := by simpa using g3
        have Q : Hid (stageOk s = false) := by show stageOk s = false; simp [stageOk, g3']
        go_enter Tryz.func49, Tryz.ntmps49
        go_wp2_with (first | (go_at_call 73; refine (resource_any _ _).mono ?_; rintro e w' ⟨rfl, rfl⟩) | (go_at_call 74; refine (seconds_any _ _).mono ?_; rintro e w' ⟨rfl, rfl⟩))
        go_ret
        exact ⟨by rw [Q.out]; rfl, rfl⟩
      by_cases g4 : isClk s.nt = true
      rotate_left
      · have g4' : isClk s.nt = false := by simpa using g4
        have Q : Hid (stageOk s = false) := by show stageOk s = false; simp [stageOk, g4']
        go_enter Tryz.func49, Tryz.ntmps49
        go_wp2_with (first | (go_at_call 73; refine (resource_any _ _).mono ?_; rintro e w' ⟨rfl, rfl⟩) | (go_at_call 74; refine (seconds_any _ _).mono ?_; rintro e w' ⟨rfl, rfl⟩))
        go_ret
        exact ⟨by rw [Q.out]; rfl, rfl⟩
      go_enter Tryz.func49, Tryz.ntmps49
      go_wp2_with (first | (go_at_call 73; refine (resource_any _ _).mono ?_; rintro e w' ⟨rfl, rfl⟩) | (go_at_call 74; refine (seconds_any _ _).mono ?_; rintro e w' ⟨rfl, rfl⟩))
      go_loop [30] (fun i => ∃ k : Nat, k ≤ s.pts.length ∧ i = .int .i64 k ∧ PtsInv s k) (fun i => s.pts.length - (intOf i).toNat)
      case atStart => exact ⟨0, Nat.zero_le _, rfl, rfl⟩
      case round =>
        obtain ⟨k, hk, rfl, hinv⟩ := hrel
        by_cases hlt : k < s.pts.length
        · obtain ⟨b, o, x, rfl, hb, hx, hcell⟩ := H.out.at_ hlt
          have hb' := HS.out b hb
          have hcell0 : (w.alloc (.cells #[.int .i64 s.sec, .slice (some ⟨b, o, none⟩) s.pts.length cp, .int .i64 s.mn, .int .i64 s.nt] 51)).cell? ⟨b, o + k, none⟩ = some (.int .i64 x) := (World.cell?_alloc_lt w _ ⟨b, o + k, none⟩ hb').trans hcell
          have HX := Lib.hid hx; clear hx hcell
          have hp0 : 0 < s.pts.length := by omega
          obtain ⟨b', o', y, he, _, hy, hcelly⟩ := H.out.at_ hp0
          injection he with he; injection he with he1 he2; subst he1 he2
          have hcell1 : (w.alloc (.cells #[.int .i64 s.sec, .slice (some ⟨b, o, none⟩) s.pts.length cp, .int .i64 s.mn, .int .i64 s.nt] 51)).cell? ⟨b, o, none⟩ = some (.int .i64 y) := (World.cell?_alloc_lt w _ ⟨b, o, none⟩ hb').trans hcelly
          have hyh : s.pts.headD 0 = y := by rw [List.headD_eq_head?_getD, List.head?_eq_getElem?, hy]; rfl
          have R := Lib.hid (pts_cases s k x); rw [hyh] at R; clear hyh hy hcelly
          rcases R.out with ⟨q1, q⟩ | ⟨q1, q2, q⟩ | ⟨q1, q2, q3, q⟩ | ⟨q1, q2, q3, q4, q⟩ | ⟨q1, q2, q3, q4, q⟩
          · have Q := Lib.hid (hinv.stop HX.out q); clear q R
            go_wp2_with (go_at_call 73; refine (resource_any _ _).mono ?_; rintro e w' ⟨rfl, rfl⟩)
            go_ret
            exact ⟨by rw [Q.out]; rfl, rfl⟩
          · have Q := Lib.hid (hinv.stop HX.out q); clear q R
            go_wp2_with (go_at_call 73; refine (resource_any _ _).mono ?_; rintro e w' ⟨rfl, rfl⟩)
            go_ret
            exact ⟨by rw [Q.out]; rfl, rfl⟩
          · have Q := Lib.hid (hinv.step HX.out q); clear q R
            have q3' : k < 1 := by omega
            clear q3 hcell1
            go_wp2_with (go_at_call 73; refine (resource_any _ _).mono ?_; rintro e w' ⟨rfl, rfl⟩)
            go_round
            case rel => exact ⟨k + 1, hlt, by go_num, Q.out⟩
            case measure => simp [intOf]; omega
          · have Q := Lib.hid (hinv.stop HX.out q); clear q R
            go_wp2_with (go_at_call 73; refine (resource_any _ _).mono ?_; rintro e w' ⟨rfl, rfl⟩)
            go_ret
            exact ⟨by rw [Q.out]; rfl, rfl⟩
          · have Q := Lib.hid (hinv.step HX.out q); clear q R
            go_wp2_with (go_at_call 73; refine (resource_any _ _).mono ?_; rintro e w' ⟨rfl, rfl⟩)
            go_round
            case rel => exact ⟨k + 1, hlt, by go_num, Q.out⟩
            case measure => simp [intOf]; omega
        · obtain rfl : k = s.pts.length := by omega
          have Q : Hid (stageOk s = true) := by show stageOk s = true; simp [stageOk, hinv.done, g1, g2, g3, g4]
          go_wp2
          go_ret
          exact ⟨by rw [Q.out]; rfl, rfl⟩
    · have g2' : decide ((2 : Int) < (s.pts.length : Int)) = true := by simp; omega
      have Q : Hid (stageOk s = false) := by show stageOk s = false; simp [stageOk, g2]
      go_enter Tryz.func49, Tryz.ntmps49
      go_wp2_with (go_at_call 73; refine (resource_any _ _).mono ?_; rintro e w' ⟨rfl, rfl⟩)
      go_ret
      exact ⟨by rw [Q.out]; rfl, rfl⟩
  · have g1' : isRes s.sec = false := by simpa using g1
    have Q : Hid (stageOk s = false) := by show stageOk s = false; simp [stageOk, g1']
    go_enter Tryz.func49, Tryz.ntmps49
    go_wp2_with (go_at_call 73; refine (resource_any _ _).mono ?_; rintro e w' ⟨rfl, rfl⟩)
    go_ret
    exact ⟨by rw [Q.out]; rfl, rfl⟩

end Go.Proofs.YtbfgmbakeofcbaaGreat
