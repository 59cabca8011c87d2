/- The search of chapter 36 as a plain function, and what it finds. No program in sight. Contract of takeover.entries. Conditions: as the theorem says. Insertion by the order (second, train, stage) gives what the reference sorts. No program in sight. -/
import Derived.Test.YtbfgmbakeofcbaaGreatK35
import Derived.Test.YtbfgmbakeofcbaaGreatK37
import Derived.Test.YtbfgmbakeofcbaaGreatK07
import Derived.Test.YtbfgmbakeofcbaaGreatK28
namespace Go.Proofs.YtbfgmbakeofcbaaGreat
open Go.RowKit

def secNow (ps : List (List Stage)) (now : List Int) (t : Nat) : Int := secAt ((ps[t]?).getD []) (nowAt now t)
/-- the next section of a train is held by another one -/
def blockedB (ps : List (List Stage)) (now : List Int) (t : Nat) : Bool := match ((ps[t]?).getD [])[(nowAt now t + 1).toNat]? with
  | none => false
  | some s => (List.range ps.length).any fun u => decide (u ≠ t) && decide (secNow ps now u = s.sec)
def canMv (ps : List (List Stage)) (now : List Int) (t : Nat) : Bool := decide (nowAt now t < lenAt ps t) && !blockedB ps now t
def stepN (now : List Int) (t : Nat) : List Int := now.set t (nowAt now t + 1)
abbrev SOut := Int × List (List Int) × List Int
def tryT (ps : List (List Stage)) (rc : List Int → List (List Int) → List Int → SOut) (now : List Int) : List Nat → List (List Int) → List Int → SOut
  | [], seen, mv => (19, seen, mv)
  | t :: ts, seen, mv => if (canMv ps now t && !decide (stepN now t ∈ seen)) = true then
      (if (rc (stepN now t) seen (mv ++ [(t : Int)])).1 = 19 then tryT ps rc now ts (rc (stepN now t) seen (mv ++ [(t : Int)])).2.1 mv else rc (stepN now t) seen (mv ++ [(t : Int)]))
    else tryT ps rc now ts seen mv
def exam (ps : List (List Stage)) (budget : Nat) : Nat → List Int → List (List Int) → List Int → SOut
  | 0, _, seen, mv => (19, seen, mv)
  | f + 1, now, seen, mv => if seen.length = budget then (15, seen, mv) else if leftB ps now = true then (0, seen ++ [now], mv) else tryT ps (exam ps budget f) now (List.range ps.length) (seen ++ [now]) mv
def searchP (ps : List (List Stage)) (at_ : List Int) (budget : Int) : List Int × Int × Int :=
  if checkState ps at_ ≠ 0 then ([], 0, checkState ps at_)
  else if budget < 1 ∨ 1048576 < budget then ([], 0, 4)
  else if (exam ps budget.toNat (total ps at_ + 1) at_ [] []).1 = 0 then ((exam ps budget.toNat (total ps at_ + 1) at_ [] []).2.2, ((exam ps budget.toNat (total ps at_ + 1) at_ [] []).2.1.length : Int), 0)
  else if (exam ps budget.toNat (total ps at_ + 1) at_ [] []).1 = 19 then ([], ((exam ps budget.toNat (total ps at_ + 1) at_ [] []).2.1.length : Int), 19)
  else ([], 0, 15)

/-- a sequence of moves, each of which can be made -/
def Legal (ps : List (List Stage)) : List Int → List Int → Prop
  | _, [] => True
  | now, x :: r => ∃ t : Nat, x = (t : Int) ∧ t < ps.length ∧ canMv ps now t = true ∧ Legal ps (stepN now t) r
def runM (now : List Int) (l : List Int) : List Int := l.foldl (fun n x => stepN n x.toNat) now
theorem canMv_lt {ps : List (List Stage)} {now : List Int} {t : Nat} (h : canMv ps now t = true) : nowAt now t < lenAt ps t := by
  simp only [canMv, Bool.and_eq_true, decide_eq_true_eq] at h; exact h.1

section
variable {ps : List (List Stage)} {budget : Nat}
/-- what a call of exam gives -/
structure ExOk (ps : List (List Stage)) (budget : Nat) (now : List Int) (seen : List (List Int)) (mv : List Int) (r : SOut) : Prop where
  code : r.1 = 0 ∨ r.1 = 15 ∨ r.1 = 19
  pre : ∃ l, r.2.1 = seen ++ l
  found : r.1 = 0 → ∃ q, r.2.2 = mv ++ q ∧ Legal ps now q ∧ leftB ps (runM now q) = true
  stuck : r.1 = 19 → now ∈ r.2.1 ∧ ∀ x ∈ r.2.1, x ∈ seen ∨ (leftB ps x = false ∧ ∀ t, t < ps.length → canMv ps x t = true → stepN x t ∈ r.2.1)
  nd : seen.Nodup → now ∉ seen → r.2.1.Nodup
  gd : (∀ x ∈ seen, Gd ps x) → ∀ x ∈ r.2.1, Gd ps x
  le : seen.length ≤ budget → r.2.1.length ≤ budget
  full : r.1 = 15 → seen.length ≤ budget → r.2.1.length = budget
structure TrOk (ps : List (List Stage)) (budget : Nat) (now : List Int) (ts : List Nat) (seen : List (List Int)) (mv : List Int) (r : SOut) : Prop where
  code : r.1 = 0 ∨ r.1 = 15 ∨ r.1 = 19
  pre : ∃ l, r.2.1 = seen ++ l
  found : r.1 = 0 → ∃ q, r.2.2 = mv ++ q ∧ Legal ps now q ∧ leftB ps (runM now q) = true
  stuck : r.1 = 19 → (∀ t ∈ ts, canMv ps now t = true → stepN now t ∈ r.2.1) ∧ ∀ x ∈ r.2.1, x ∈ seen ∨ (leftB ps x = false ∧ ∀ t, t < ps.length → canMv ps x t = true → stepN x t ∈ r.2.1)
  nd : seen.Nodup → r.2.1.Nodup
  gd : (∀ x ∈ seen, Gd ps x) → ∀ x ∈ r.2.1, Gd ps x
  le : seen.length ≤ budget → r.2.1.length ≤ budget
  full : r.1 = 15 → seen.length ≤ budget → r.2.1.length = budget
theorem tryT_ok {rc : List Int → List (List Int) → List Int → SOut} {now : List Int} (hrc : ∀ t, t < ps.length → canMv ps now t = true → ∀ seen mv, ExOk ps budget (stepN now t) seen mv (rc (stepN now t) seen mv)) :
    ∀ (ts : List Nat), (∀ t ∈ ts, t < ps.length) → ∀ seen mv, TrOk ps budget now ts seen mv (tryT ps rc now ts seen mv)
  | [], _, seen, mv => ⟨.inr (.inr rfl), ⟨[], by simp [tryT]⟩, fun h => by simp [tryT] at h, fun _ => ⟨by simp, fun x hx => .inl hx⟩, fun h => h, fun h => h, fun h => h, fun h => by simp [tryT] at h⟩
  | t :: ts, hts, seen, mv => by
    have ht := hts t (by simp)
    have ih := fun seen mv => tryT_ok hrc ts (fun u hu => hts u (by simp [hu])) seen mv
    simp only [tryT]
    by_cases g : (canMv ps now t && !decide (stepN now t ∈ seen)) = true
    · rw [if_pos g]
      simp only [Bool.and_eq_true, Bool.not_eq_true', decide_eq_false_iff_not] at g
      have hr := hrc t ht g.1 seen (mv ++ [(t : Int)])
      generalize rc (stepN now t) seen (mv ++ [(t : Int)]) = r at *
      by_cases g2 : r.1 = 19
      · rw [if_pos g2]
        have h2 := ih r.2.1 mv
        generalize tryT ps rc now ts r.2.1 mv = r2 at *
        obtain ⟨l1, e1⟩ := hr.pre
        obtain ⟨l2, e2⟩ := h2.pre
        have hsub : ∀ x ∈ r.2.1, x ∈ r2.2.1 := fun x hx => by rw [e2]; exact List.mem_append_left _ hx
        obtain ⟨s1, s2⟩ := hr.stuck g2
        refine ⟨h2.code, ⟨l1 ++ l2, by rw [e2, e1, List.append_assoc]⟩, h2.found, fun h => ?_, fun h => h2.nd (hr.nd h g.2), fun h => h2.gd (hr.gd h), fun h => h2.le (hr.le h), fun h h' => h2.full h (hr.le h')⟩
        obtain ⟨q1, q2⟩ := h2.stuck h
        refine ⟨fun u hu hc => ?_, fun x hx => ?_⟩
        · rcases List.mem_cons.1 hu with rfl | hu
          · exact hsub _ s1
          · exact q1 u hu hc
        · rcases q2 x hx with h3 | h3
          · rcases s2 x h3 with h4 | ⟨h4, h5⟩
            · exact .inl h4
            · exact .inr ⟨h4, fun u hu hc => hsub _ (h5 u hu hc)⟩
          · exact .inr h3
      · rw [if_neg g2]
        refine ⟨hr.code, hr.pre, fun h => ?_, fun h => absurd h g2, fun h => hr.nd h g.2, hr.gd, hr.le, hr.full⟩
        obtain ⟨q, h1, h2, h3⟩ := hr.found h
        refine ⟨(t : Int) :: q, by rw [h1]; simp, ⟨t, rfl, ht, g.1, h2⟩, ?_⟩
        have : runM now ((t : Int) :: q) = runM (stepN now t) q := by simp [runM]
        rw [this]; exact h3
    · rw [if_neg g]
      have h2 := ih seen mv
      refine ⟨h2.code, h2.pre, h2.found, fun h => ?_, h2.nd, h2.gd, h2.le, h2.full⟩
      obtain ⟨q1, q2⟩ := h2.stuck h
      obtain ⟨l2, e2⟩ := h2.pre
      refine ⟨fun u hu hc => ?_, q2⟩
      rcases List.mem_cons.1 hu with rfl | hu
      · rw [hc] at g
        simp at g
        rw [e2]; exact List.mem_append_left _ g
      · exact q1 u hu hc
theorem exam_ok : ∀ (f : Nat) (now : List Int), Gd ps now → total ps now < f → ∀ seen mv, ExOk ps budget now seen mv (exam ps budget f now seen mv)
  | 0, _, _, h, _, _ => by omega
  | f + 1, now, hg, hf, seen, mv => by
    simp only [exam]
    by_cases g1 : seen.length = budget
    · rw [if_pos g1]
      exact ⟨.inr (.inl rfl), ⟨[], by simp⟩, fun h => by simp at h, fun h => by simp at h, fun h _ => h, fun h => h, fun h => h, fun _ _ => g1⟩
    · rw [if_neg g1]
      by_cases g2 : leftB ps now = true
      · rw [if_pos g2]
        refine ⟨.inl rfl, ⟨[now], rfl⟩, fun _ => ⟨[], by simp, trivial, g2⟩, fun h => by simp at h, fun h1 h2 => List.nodup_append.2 ⟨h1, by simp, fun a ha b hb => by simp at hb; subst hb; rintro rfl; exact h2 ha⟩, fun h x hx => ?_, fun h => by simp; omega, fun h => by simp at h⟩
        rcases List.mem_append.1 hx with hx | hx
        · exact h x hx
        · simp at hx; subst hx; exact hg
      · rw [if_neg g2]
        have h := tryT_ok (rc := exam ps budget f) (now := now) (fun t ht hc seen mv => exam_ok f (stepN now t) (hg.step ht (canMv_lt hc)) (by have := total_step hg ht (canMv_lt hc); unfold stepN; omega) seen mv) (List.range ps.length) (fun t ht => List.mem_range.1 ht) (seen ++ [now]) mv
        generalize tryT ps (exam ps budget f) now (List.range ps.length) (seen ++ [now]) mv = r at *
        obtain ⟨l, e⟩ := h.pre
        refine ⟨h.code, ⟨now :: l, by rw [e]; simp⟩, h.found, fun hs => ?_, fun h1 h2 => h.nd (List.nodup_append.2 ⟨h1, by simp, fun a ha b hb => by simp at hb; subst hb; rintro rfl; exact h2 ha⟩), fun hh => h.gd (fun x hx => ?_), fun hl => h.le (by simp; omega), fun hc hl => h.full hc (by simp; omega)⟩
        · obtain ⟨q1, q2⟩ := h.stuck hs
          refine ⟨by rw [e]; simp, fun x hx => ?_⟩
          rcases q2 x hx with h3 | h3
          · rcases List.mem_append.1 h3 with h3 | h3
            · exact .inl h3
            · simp at h3; subst h3
              exact .inr ⟨by simpa using g2, fun t ht hc => q1 t (List.mem_range.2 ht) hc⟩
          · exact .inr h3
        · rcases List.mem_append.1 hx with hx | hx
          · exact hh x hx
          · simp at hx; subst hx; exact hg

end

theorem runM_snoc (now l : List Int) (x : Int) : runM now (l ++ [x]) = stepN (runM now l) x.toNat := by unfold runM; rw [List.foldl_append]; rfl
theorem legal_at {ps : List (List Stage)} : ∀ (mv now : List Int), Gd ps now → Legal ps now mv → ∀ (k : Nat) x, mv[k]? = some x → Gd ps (runM now (mv.take k)) ∧ ∃ t : Nat, x = (t : Int) ∧ t < ps.length ∧ canMv ps (runM now (mv.take k)) t = true
  | [], _, _, _, k, x, h => by simp at h
  | y :: mv, now, hg, hl, k, x, h => by
    obtain ⟨t, rfl, ht, hc, hr⟩ := hl
    cases k with
    | zero => simp at h; subst h; exact ⟨hg, t, rfl, ht, hc⟩
    | succ k =>
      have := legal_at mv (stepN now t) (hg.step ht (canMv_lt hc)) hr k x (by simpa using h)
      have e : runM now (((t : Int) :: mv).take (k + 1)) = runM (stepN now t) (mv.take k) := by simp [runM]
      rw [e]; exact this
/-- the number of the move with which each stage is entered -/
def entTo (ps : List (List Stage)) (at_ mv : List Int) : Nat → Tab
  | 0 => fun _ => -1
  | k + 1 => if nowAt (runM at_ (mv.take k)) ((mv[k]?).getD 0).toNat + 1 < lenAt ps ((mv[k]?).getD 0).toNat then upd (entTo ps at_ mv k) ⟨(mv[k]?).getD 0, nowAt (runM at_ (mv.take k)) ((mv[k]?).getD 0).toNat + 1⟩ (k : Int) else entTo ps at_ mv k
def plus1 (l : List Int) : List Int := l.map (· + 1)
theorem plus1_set (l : List Int) (t : Nat) (x : Int) : (plus1 l).set t (x + 1) = plus1 (l.set t x) := by simp [plus1, List.map_set]

theorem Te.far {ps : List (List Stage)} {w wr : World} {N m : Nat} {gs : Nat → Nat} {T : Tab} (h : Te ps w wr N m gs T) {p : Addr} (hN : N ≠ p.block) (hg : ∀ t, t < m → gs t ≠ p.block) (hw : w.heap.size ≤ p.block) (v : Value) : Te ps w (wr.setCell p v) N m gs T := by
  obtain ⟨cur, h1, h2⟩ := h.n
  exact ⟨⟨cur, h1.far hN v, h2⟩, fun t ht => (h.r t ht).far (hg t ht) v, h.inj, h.lo, h.nlo, h.k.setCell (fun hh => absurd hh (by omega)) v⟩
theorem plus1_next {at_ : List Int} {m n : Nat} {a : Int} (ha : at_[m]? = some a) (hn : m < n) : (plus1 (at_.take m) ++ List.replicate (n - m) 0).set m (a + 1) = plus1 (at_.take (m + 1)) ++ List.replicate (n - (m + 1)) 0 := by
  have hl : (plus1 (at_.take m)).length = m := by have := getElem?_lt ha; simp [plus1]; omega
  rw [List.set_append_right _ _ (by omega), hl, Nat.sub_self, show n - m = (n - (m + 1)) + 1 from by omega, List.replicate_succ, List.set_cons_zero]
  have e : at_.take (m + 1) = at_.take m ++ [a] := by rw [List.take_add_one, ha]; rfl
  rw [e]; simp [plus1]

set_option maxRecDepth 100000 in
set_option maxHeartbeats 2000000 in
theorem entries_any (ps : List (List Stage)) (at_ mv : List Int) (A A2 A3 : Option Addr) (c c2 c3 : Nat) (w : World) (h : RPaths w (Old w) [.slice A ps.length c] ps) (h2 : RInts w (Old w) [.slice A2 at_.length c2] at_) (h3 : RInts w (Old w) [.slice A3 mv.length c3] mv)
    (hv : valid ps = true) (hg : Gd ps at_) (hl : Legal ps at_ mv) (hml : mv.length ≤ 1000) :
    Calls Tryz.prog 33 #[.slice A ps.length c, .slice A2 at_.length c2, .slice A3 mv.length c3] w fun e w' => ∃ N gs, e = .returned (.slice (some ⟨N, 0, none⟩) ps.length ps.length) ∧ Te ps w w' N ps.length gs (entTo ps at_ mv mv.length) := by
  have hc := h.caps
  have hc2 := h2.caps
  have hc3 := h3.caps
  have hl10 := (valid_lens hv).1
  have H := Lib.hid h
  have H2 := Lib.hid h2
  have H3 := Lib.hid h3
  have HV := Lib.hid hv
  have HG := Lib.hid hg
  have HLA := Lib.hid (legal_at mv at_ hg hl)
  have HLEN := Lib.hid (fun t => lenAt_le hv t)
  have HP1 : Hid (∀ (t : Nat) p, ps[t]? = some p → 1 ≤ p.length) := fun t p hp => ((valid_lens hv).2 p (List.mem_of_getElem? hp)).1
  have hal : at_.length = ps.length := hg.1
  have HAL := Lib.hid hal
  have al1 : at_.length ≤ ps.length := by omega
  have al2 : ps.length ≤ at_.length := by omega
  have hmk := mkIntss ps.length (by omega)
  have hmk2 := mkInts ps.length (by omega)
  clear h h2 h3 hv hg hl hal
  go_enter Tryz.func33, Tryz.ntmps33
  go_wp2
  generalize hW : World.alloc (World.alloc w _) _ = W
  have HT0 : Hid (Blk W w.heap.size 23 (rowsE ps (fun _ => 0) 0)) := by
    subst hW
    show Blk _ _ _ _
    rw [rowsE_zero]; exact (Blk.new _ _ _).alloc _
  have HN0 : Hid (Blk W (w.heap.size + 1) 3 (cellsI (plus1 (at_.take 0) ++ List.replicate (ps.length - 0) 0))) := by
    subst hW
    show Blk _ _ _ _
    simp only [List.take_zero, Nat.sub_zero]
    exact Blk.new' _ _ _ (by simp)
  have KW : Hid (KeepsAll w W) := by subst hW; exact ((Keeps.refl _ _).alloc _).alloc _
  clear hW hmk hmk2
  generalize hNN : w.heap.size = N at *
  have HNN := Lib.hid hNN; clear hNN
  go_loopw [21] (fun v wr => ∃ (m : Nat) (gs : Nat → Nat), m ≤ ps.length ∧ v = .int .i64 (m : Int) ∧ Te ps w wr N m gs (fun _ => -1) ∧ Blk wr N 23 (rowsE ps gs m) ∧ Blk wr (N + 1) 3 (cellsI (plus1 (at_.take m) ++ List.replicate (ps.length - m) 0)) ∧ ∀ t, t < m → gs t ≠ N + 1) (fun v _ => ps.length - (intOf v).toNat)
  case atStart => exact ⟨0, fun _ => 0, Nat.zero_le _, rfl, ⟨⟨_, HT0.out, fun t ht => by omega⟩, fun t ht => by omega, fun t u ht => by omega, fun t ht => by omega, by rw [HNN.out]; exact Nat.le_refl _, KW.out⟩, HT0.out, HN0.out, fun t ht => by omega⟩
  case round =>
    clear HT0 HN0 KW
    obtain ⟨m, gs, hm, rfl, htb, hbn, hnx, hgs⟩ := hrel
    have HTB := Lib.hid htb
    have HBN := Lib.hid hbn
    have HNX := Lib.hid hnx
    have HGS := Lib.hid hgs
    clear htb hbn hnx hgs
    by_cases hlt : m < ps.length
    · obtain ⟨b, o, p, A', c', hbo, hb, hp, k1, hr⟩ := RSS.atK HTB.out.k H.out hlt
      subst hbo
      obtain ⟨b2, o2, a, hbo, hb2, ha, k2⟩ := RInts.atK HTB.out.k H2.out (k := m) (by omega)
      subst hbo
      have hcp := hr.caps
      have hl64 := HLEN.out m
      have hG := HG.out.2 m hlt
      have hp1 := HP1.out m p hp
      rw [nowAt_of ha] at hG
      rw [lenAt_of hp] at hl64 hG
      have HEL := Lib.hid (lenAt_of hp)
      have HAA := Lib.hid ha
      have HBB := Lib.hid hb2
      clear hr hp ha
      have hs1 : IntKind.i64.wrap (a + 1) = a + 1 := IntWalk.i64_in _ (by omega)
      have hdm : decide ((m : Int) < (ps.length : Int)) = true := by simp; omega
      go_wp2_with fail
      generalize hW3 : World.alloc wr _ = W3
      have KW3 : Hid (KeepsAll wr W3) := by subst hW3; exact (Keeps.refl _ _).alloc _
      have BX : Hid (Blk W3 wr.heap.size 3 #[.int .i64 (-1)]) := by subst hW3; exact Blk.new _ _ _
      have RP : Hid (Calls Tryz.prog 60 #[.slice (some ⟨wr.heap.size, 0, none⟩) 1 1, .int .i64 (p.length : Int)] W3 fun e w' => ∃ g, e = .returned (.slice (some ⟨g, 0, none⟩) p.length p.length) ∧ W3.heap.size ≤ g ∧ Blk w' g 3 (cellsI (List.replicate p.length (-1))) ∧ KeepsAll W3 w') := Repeat_one (-1) p.length (by omega) (by omega) wr.heap.size W3 (by have := BX.out.cell 0; simpa using this) BX.out.lt
      clear hW3 k1 hb
      refine RP.out.mono ?_
      rintro e w4 ⟨g4, rfl, hg4, hb4, k4⟩
      have K4 := Lib.hid (KW3.out.tr k4)
      have BN4 := HBN.out.kept K4.out (by simp)
      have q0 := BN4.cell m
      have q1 := BN4.frozen m
      rw [rowsE_at _ _ _ hlt, if_neg (by omega)] at q0
      have hN4 := BN4.lt
      have BX4 := HNX.out.kept K4.out (by simp)
      have HF1 : Hid (Te ps w (w4.setCell ⟨N, m, none⟩ (.slice (some ⟨g4, 0, none⟩) p.length p.length)) N (m + 1) (gsAdd gs m g4) (fun _ => -1) ∧ Blk (w4.setCell ⟨N, m, none⟩ (.slice (some ⟨g4, 0, none⟩) p.length p.length)) N 23 (rowsE ps (gsAdd gs m g4) (m + 1))) := by
        have e := HEL.out
        have hz := KW3.out.size
        refine ⟨?_, ?_⟩
        · have q := HTB.out.add K4.out (g := g4) (by omega) (by rw [e]; exact hb4) BN4 (fun t ht => by rw [rowsE_at _ _ _ (by omega), if_pos ht]) (by rw [rowsE_size]; exact hlt)
          rw [e] at q; exact q
        · have q := BN4.set_ m (.slice (some ⟨g4, 0, none⟩) p.length p.length)
          have q2 := rowsE_succ ps gs m g4
          rw [e] at q2
          rw [q2] at q
          exact q
      have BX5 := Lib.hid (BX4.far (p := ⟨N, m, none⟩) (by simp) (.slice (some ⟨g4, 0, none⟩) p.length p.length))
      have r0 := BX5.out.cell m
      have r1 := BX5.out.frozen m
      have hl : (plus1 (at_.take m)).length = m := by simp [plus1]; omega
      rw [cellsI_at (show (plus1 (at_.take m) ++ List.replicate (ps.length - m) 0)[m]? = some 0 from by rw [List.getElem?_append_right (by omega), hl, Nat.sub_self, List.getElem?_replicate, if_pos (by omega)])] at r0
      have r2 := BX5.out.lt
      obtain ⟨b2', o2', a', hbo, hb2', ha', k2'⟩ := RInts.atK HF1.out.1.k H2.out (k := m) (by omega)
      injection hbo with hbo; injection hbo with hbo1 hbo2; subst hbo1 hbo2
      rw [HAA.out] at ha'; injection ha' with ha'; subst ha'
      have HG4 : Hid (g4 ≠ N + 1) := by
        show _ ≠ _
        have := HNX.out.lt
        have := KW3.out.size
        omega
      have HF2 : Hid (Te ps w ((w4.setCell ⟨N, m, none⟩ (.slice (some ⟨g4, 0, none⟩) p.length p.length)).setCell ⟨N + 1, m, none⟩ (.int .i64 (a + 1))) N (m + 1) (gsAdd gs m g4) (fun _ => -1) ∧ Blk ((w4.setCell ⟨N, m, none⟩ (.slice (some ⟨g4, 0, none⟩) p.length p.length)).setCell ⟨N + 1, m, none⟩ (.int .i64 (a + 1))) N 23 (rowsE ps (gsAdd gs m g4) (m + 1)) ∧ Blk ((w4.setCell ⟨N, m, none⟩ (.slice (some ⟨g4, 0, none⟩) p.length p.length)).setCell ⟨N + 1, m, none⟩ (.int .i64 (a + 1))) (N + 1) 3 (cellsI (plus1 (at_.take (m + 1)) ++ List.replicate (ps.length - (m + 1)) 0)) ∧ ∀ t, t < m + 1 → gsAdd gs m g4 t ≠ N + 1) := by
        have hgs : ∀ t, t < m + 1 → gsAdd gs m g4 t ≠ N + 1 := fun t ht => by
          unfold gsAdd
          by_cases e : t = m
          · rw [if_pos e]; exact HG4.out
          · rw [if_neg e]; exact HGS.out t (by omega)
        refine ⟨HF1.out.1.far (by simp) hgs (by rw [HNN.out]; simp) _, HF1.out.2.far (by simp) _, ?_, hgs⟩
        rw [← plus1_next HAA.out hlt, ← cellsI_set]
        exact BX5.out.set_ m _
      clear hb4 k4 BN4 BX4 RP BX HF1 BX5 hl
      go_wp2
      go_roundw
      case rel => exact ⟨m + 1, _, by omega, by go_num, HF2.out.1, HF2.out.2.1, HF2.out.2.2.1, HF2.out.2.2.2⟩
      case measure => simp [intOf]; omega
    · obtain rfl : m = ps.length := by omega
      have hdm : decide ((ps.length : Int) < (ps.length : Int)) = false := by simp
      have HNX0 : Hid (Blk wr (N + 1) 3 (cellsI (plus1 (runM at_ (mv.take 0))))) := by
        have h := HNX.out
        rw [Nat.sub_self, List.replicate_zero, List.append_nil, ← HAL.out, List.take_length] at h
        exact h
      clear HNX HBN hlt hm
      go_wp2
      go_loopw [44] (fun v wr => ∃ k : Nat, k ≤ mv.length ∧ v = .int .i64 (k : Int) ∧ Te ps w wr N ps.length gs (entTo ps at_ mv k) ∧ Blk wr (N + 1) 3 (cellsI (plus1 (runM at_ (mv.take k))))) (fun v _ => mv.length - (intOf v).toNat)
      case atStart => exact ⟨0, Nat.zero_le _, rfl, HTB.out, HNX0.out⟩
      case round =>
        clear HTB HNX0
        obtain ⟨k, hk, rfl, hte, hnx⟩ := hrel
        have HTE := Lib.hid hte
        have HNX := Lib.hid hnx
        clear hte hnx
        by_cases hlt : k < mv.length
        · obtain ⟨b3, o3, x, hbo, hb3, hx, k3⟩ := RInts.atK HTE.out.k H3.out hlt
          subst hbo
          obtain ⟨hgn, t, rfl, ht, hcm⟩ := HLA.out k x hx
          have hlt2 := canMv_lt hcm
          have hGt := hgn.2 t ht
          have HRS : Hid (runM at_ (mv.take (k + 1)) = stepN (runM at_ (mv.take k)) t) := by
            show _ = _
            rw [take_succ' hx, runM_snoc]; simp
          have HES : Hid (entTo ps at_ mv (k + 1) = if nowAt (runM at_ (mv.take k)) t + 1 < lenAt ps t then upd (entTo ps at_ mv k) ⟨(t : Int), nowAt (runM at_ (mv.take k)) t + 1⟩ (k : Int) else entTo ps at_ mv k) := by
            show _ = _
            simp only [entTo, hx, Option.getD_some, Int.toNat_natCast]
          obtain ⟨b, o, p, A', c', hbo, hb, hp, k1, hr⟩ := RSS.atK HTE.out.k H.out ht
          subst hbo
          have hcp := hr.caps
          have hl64 := HLEN.out t
          have HEL := Lib.hid (lenAt_of hp)
          rw [lenAt_of hp] at hlt2 hGt hl64 HES
          have hnl : t < (runM at_ (mv.take k)).length := by rw [hgn.1]; exact ht
          have r0 := HNX.out.cell t
          have r1 := HNX.out.frozen t
          have r2 := HNX.out.lt
          have e0 := HTE.out.outer ht
          unfold slE at e0
          rw [lenAt_of hp] at e0
          have hzN := HTE.out.nlt
          rw [cellsI_at (show (plus1 (runM at_ (mv.take k)))[t]? = some (nowAt (runM at_ (mv.take k)) t + 1) from by
            unfold plus1
            rw [List.getElem?_map, List.getElem?_eq_getElem hnl, nowAt_of (List.getElem?_eq_getElem hnl)]; rfl)] at r0
          clear hr hp hx hcm hgn
          generalize hnow : runM at_ (mv.take k) = now at *
          have HNOW := Lib.hid hnow
          clear hnow
          obtain ⟨j, hj⟩ := Int.eq_ofNat_of_zero_le (by omega : 0 ≤ nowAt now t + 1)
          have HJ := Lib.hid hj
          rw [hj] at r0 HES
          have hj64 : j ≤ 65 := by omega
          have HP2 : Hid (plus1 (stepN now t) = (plus1 now).set t ((j : Int) + 1)) := by
            show _ = _
            unfold stepN
            rw [← plus1_set, HJ.out]
          clear hj hlt2 hGt
          have hs1 : IntKind.i64.wrap ((j : Int) + 1) = (j : Int) + 1 := IntWalk.i64_in _ (by omega)
          have hdk : decide ((k : Int) < (mv.length : Int)) = true := by simp; omega
          by_cases g1 : j < p.length
          · have g1' : decide (j < p.length) = true := by simpa using g1
            rw [if_pos (by omega)] at HES
            have e1 := HTE.out.inner (k := j) ht (by rw [HEL.out]; exact g1)
            have hzg := (HTE.out.r t ht).lt
            have HN2 : Hid (∀ W, KeepsAll wr W → Te ps w ((W.setCell ⟨gs t, j, none⟩ (.int .i64 (k : Int))).setCell ⟨N + 1, t, none⟩ (.int .i64 ((j : Int) + 1))) N ps.length gs (entTo ps at_ mv (k + 1)) ∧ Blk ((W.setCell ⟨gs t, j, none⟩ (.int .i64 (k : Int))).setCell ⟨N + 1, t, none⟩ (.int .i64 ((j : Int) + 1))) (N + 1) 3 (cellsI (plus1 (runM at_ (mv.take (k + 1))))) ∧ (W.setCell ⟨gs t, j, none⟩ (.int .i64 (k : Int))).cell? ⟨N + 1, t, none⟩ = some (.int .i64 (j : Int)) ∧ (W.setCell ⟨gs t, j, none⟩ (.int .i64 (k : Int))).frozen? ⟨N + 1, t, none⟩ = false ∧ W.frozen? ⟨gs t, j, none⟩ = false ∧ N + 1 < (W.setCell ⟨gs t, j, none⟩ (.int .i64 (k : Int))).heap.size) := fun W hW => by
              have hb := (HNX.out.kept hW (by simp)).far (p := ⟨gs t, j, none⟩) (fun e => HGS.out t ht e.symm) (.int .i64 (k : Int))
              refine ⟨?_, ?_, ?_, hb.frozen t, ((HTE.out.keep hW).r t ht).frozen j, hb.lt⟩
              · rw [HES.out]; exact ((HTE.out.keep hW).set ht (k : Int)).far (by simp) HGS.out (by rw [HNN.out]; simp) _
              · rw [HRS.out, HP2.out, ← cellsI_set]; exact hb.set_ t _
              · have hr0 := hW.cellK (p := ⟨N + 1, t, none⟩) r2 r0
                rw [World.cell?_setCell_other _ _ _ _ (fun e => HGS.out t ht (by injection e))]
                exact hr0
            go_wp2
            go_quiet (fail)
            generalize hWx : World.drewN wr _ = wx
            have KX : KeepsAll wr wx := by subst hWx; exact (Keeps.refl _ _).drewN _
            replace r0 := KX.cellK (p := ⟨N + 1, t, none⟩) r2 r0
            replace e0 := KX.cellK (p := ⟨N, t, none⟩) hzN e0
            replace e1 := KX.cellK (p := ⟨gs t, j, none⟩) hzg e1
            have HKX := Lib.hid KX
            clear hWx KX k1 k3 hb hb3 r1
            go_wp2
            refine wp_region_lex (fun w' => ∃ x : Ext wx, w' = x.val) [0, 1, 2, 3, 4, 5, 6, 7, 8, 9, 10] (by kernel_rfl) (by kernel_rfl) ⟨⟨_, (Keeps.refl _ _).drew⟩, rfl⟩ ?_
            have x0 := Ext.cell r0
            have x1 := Ext.cell e0
            iterate 10 (refine lex_q _ rfl rfl rfl ?_; go_big_quiet_step (fail); refine wpQuiet_nil ?_)
            refine lex_a _ rfl rfl false (by kernel_rfl) ?_
            obtain ⟨wd, hwd⟩ : ∃ wd : World, wd = wx.drew := ⟨_, rfl⟩
            have KD : KeepsAll wx wd := by subst hwd; exact (Keeps.refl _ _).drew
            have hzg2 : gs t < wx.heap.size := Nat.lt_of_lt_of_le hzg HKX.out.size
            replace e1 := KD.cellK (p := ⟨gs t, j, none⟩) hzg2 e1
            have HFN := Lib.hid (HN2.out wd (HKX.out.tr KD))
            obtain ⟨-, -, s0, s1, s2, s3⟩ := HN2.out wd (HKX.out.tr KD)
            rw [← hwd]
            clear hwd x0 x1 r0 e0 KD HN2
            go_wp2
            (try refine ⟨fun h => (by cases h), ?_⟩)
            simp only [wpLex]
            refine NoPanic.normal ?_
            go_wp2
            go_roundw
            case rel => exact ⟨k + 1, by omega, by go_num, HFN.out.1, HFN.out.2.1⟩
            case measure => simp [intOf]; omega
          · have g1' : decide (j < p.length) = false := by simpa using g1
            rw [if_neg (by omega)] at HES
            have HN2 : Hid (∀ W, KeepsAll wr W → Te ps w (W.setCell ⟨N + 1, t, none⟩ (.int .i64 ((j : Int) + 1))) N ps.length gs (entTo ps at_ mv (k + 1)) ∧ Blk (W.setCell ⟨N + 1, t, none⟩ (.int .i64 ((j : Int) + 1))) (N + 1) 3 (cellsI (plus1 (runM at_ (mv.take (k + 1)))))) := fun W hW => by
              refine ⟨?_, ?_⟩
              · rw [HES.out]; exact (HTE.out.keep hW).far (by simp) HGS.out (by rw [HNN.out]; simp) _
              · rw [HRS.out, HP2.out, ← cellsI_set]; exact (HNX.out.kept hW (by simp)).set_ t _
            go_wp2
            go_quiet (fail)
            generalize hWx : World.drewN wr _ = wx
            have KX : KeepsAll wr wx := by subst hWx; exact (Keeps.refl _ _).drewN _
            replace r0 := KX.cellK (p := ⟨N + 1, t, none⟩) r2 r0
            have r1' := (HNX.out.kept KX (by simp)).frozen t
            have r2' := (HNX.out.kept KX (by simp)).lt
            have HFN := Lib.hid (HN2.out wx KX)
            clear hWx KX HN2 k1 e0 k3 hb hb3 r1 r2
            go_wp2
            go_roundw
            case rel => exact ⟨k + 1, by omega, by go_num, HFN.out.1, HFN.out.2⟩
            case measure => simp [intOf]; omega
        · obtain rfl : k = mv.length := by omega
          have hdk : decide ((mv.length : Int) < (mv.length : Int)) = false := by simp
          go_wp2
          go_ret
          exact ⟨N, gs, rfl, HTE.out⟩

def cmpI (a b : Int) : Int := if a < b then -1 else if a > b then 1 else 0
theorem cmpI_neg {a b : Int} : cmpI a b < 0 ↔ a < b := by unfold cmpI; split <;> (try split) <;> omega
/-- the place of u by a comparison: from the end on, past those that come later -/
def plK (lt : Ref → Ref → Bool) (u : Ref) (l : List Ref) : Nat → Nat
  | 0 => 0
  | k + 1 => match l[k]? with
    | some v => if lt u v = true then plK lt u l k else k + 1
    | none => k + 1
def plU (lt : Ref → Ref → Bool) (u : Ref) (l : List Ref) : List Ref := l.take (plK lt u l l.length) ++ u :: l.drop (plK lt u l l.length)
def sortB (lt : Ref → Ref → Bool) (l : List Ref) : List Ref := l.foldl (fun acc u => plU lt u acc) []
theorem sortB_snoc (lt : Ref → Ref → Bool) (l : List Ref) (u : Ref) : sortB lt (l ++ [u]) = plU lt u (sortB lt l) := by unfold sortB; rw [List.foldl_append]; rfl

end Go.Proofs.YtbfgmbakeofcbaaGreat
