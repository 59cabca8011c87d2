/- Contracts of set, hasLeft, obstacle, canMove of chapter 36's state. Conditions: as each theorem says. Contract of newState of chapter 36. Conditions: as the theorem says. -/
import Derived.Test.YtbfgmbakeofcbaaGreatK39
import Derived.Test.YtbfgmbakeofcbaaGreatK35
namespace Go.Proofs.YtbfgmbakeofcbaaGreat
open Go.RowKit

/-- who holds which section -/
def HdOk (ps : List (List Stage)) (now : List Int) (hd : Nat → Int) : Prop := ∀ r : Nat, r < 144 → (∀ u, u < ps.length → secNow ps now u = (r : Int) → hd r = (u : Int)) ∧ ((∀ u, u < ps.length → secNow ps now u ≠ (r : Int)) → hd r = -1)
theorem secNow_set {ps : List (List Stage)} {now : List Int} {t u : Nat} {x : Int} (ht : t < now.length) : secNow ps (now.set t x) u = if t = u then secAt ((ps[u]?).getD []) x else secNow ps now u := by
  unfold secNow
  rw [nowAt_set ht]
  by_cases e : t = u
  · rw [if_pos e, if_pos e]
  · rw [if_neg e, if_neg e]
/-- what hold, a change of the position and hold again leave -/
theorem HdOk.set {ps : List (List Stage)} {now : List Int} {hd : Nat → Int} {t : Nat} {x : Int} (h : HdOk ps now hd) (ht : t < ps.length) (hl : now.length = ps.length) (hfree : ∀ u, u < ps.length → u ≠ t → 0 ≤ secNow ps (now.set t x) t → secNow ps now u ≠ secNow ps (now.set t x) t) :
    HdOk ps (now.set t x) (holdF ps (now.set t x) t (t : Int) (holdF ps now t (-1) hd)) := by
  have htl : t < now.length := by omega
  intro r hr
  obtain ⟨h1, h2⟩ := h r hr
  have hother : ∀ u, u ≠ t → secNow ps (now.set t x) u = secNow ps now u := fun u hu => by rw [secNow_set htl, if_neg (fun e => hu e.symm)]
  generalize hs' : secNow ps (now.set t x) t = s' at *
  have e1 : ∀ r : Nat, r < 144 → holdF ps now t (-1) hd r = if secNow ps now t = (r : Int) then -1 else hd r := by
    intro r hr
    unfold holdF
    by_cases g : 0 ≤ secNow ps now t
    · rw [if_pos g]
      unfold updH
      by_cases g2 : secNow ps now t = (r : Int)
      · rw [if_pos (by omega), if_pos g2]
      · rw [if_neg (by omega), if_neg g2]
    · rw [if_neg g, if_neg (by omega)]
  generalize holdF ps now t (-1) hd = hf at e1 ⊢
  have e2 : holdF ps (now.set t x) t (t : Int) hf r = if s' = (r : Int) then (t : Int) else if secNow ps now t = (r : Int) then -1 else hd r := by
    rw [← e1 r hr]
    unfold holdF
    rw [hs']
    by_cases g : 0 ≤ s'
    · rw [if_pos g]
      unfold updH
      by_cases g2 : s' = (r : Int)
      · rw [if_pos (by omega), if_pos g2]
      · rw [if_neg (by omega), if_neg g2]
    · rw [if_neg g, if_neg (by omega)]
  rw [e2]
  refine ⟨fun u hu hsu => ?_, fun hno => ?_⟩
  · by_cases e : u = t
    · subst e; rw [hs'] at hsu; rw [if_pos hsu]
    · rw [hother u e] at hsu
      rw [if_neg (fun e' => hfree u hu e (by omega) (by rw [hsu, e']))]
      have hut := h1 u hu hsu
      by_cases g : secNow ps now t = (r : Int)
      · have := h1 t ht g
        omega
      · rw [if_neg g]; exact hut
  · have hnt := hno t ht
    rw [hs'] at hnt
    rw [if_neg hnt]
    by_cases g : secNow ps now t = (r : Int)
    · rw [if_pos g]
    · rw [if_neg g]
      refine h2 fun u hu => ?_
      by_cases e : u = t
      · subst e; exact g
      · have := hno u hu; rw [hother u e] at this; exact this
/-- a train that can move meets no other one -/
theorem canMv_free {ps : List (List Stage)} {now : List Int} {t : Nat} (ht : t < ps.length) (hg : Gd ps now) (h : canMv ps now t = true) : ∀ u, u < ps.length → u ≠ t → 0 ≤ secNow ps (now.set t (nowAt now t + 1)) t → secNow ps now u ≠ secNow ps (now.set t (nowAt now t + 1)) t := by
  intro u hu hut h0 he
  have hp : ps[t]? = some ps[t] := List.getElem?_eq_getElem ht
  rw [secNow_set (by rw [hg.1]; exact ht), if_pos rfl, hp] at h0 he
  simp only [Option.getD_some] at h0 he
  obtain ⟨k, s, hk, hs, hsec⟩ := secAt_some h0
  simp only [canMv, Bool.and_eq_true, Bool.not_eq_true'] at h
  have hb := h.2
  unfold blockedB at hb
  simp only [hp, Option.getD_some] at hb
  rw [show (nowAt now t + 1).toNat = k from by omega, hs] at hb
  simp only [List.any_eq_false, List.mem_range, Bool.and_eq_true, decide_eq_true_eq, not_and] at hb
  exact hb u hu hut (by rw [he, hsec])

section
variable (w0 w : World) (g : Nat) (A : Option Addr) (c : Nat) (ps : List (List Stage)) (now : List Int) (hd : Nat → Int) (t : Nat)
set_option maxRecDepth 100000 in
set_option maxHeartbeats 1000000 in
theorem hasLeft_any (hP : RPaths w0 (Old w0) [.slice A ps.length c] ps) (hv : valid ps = true) (hg : Gd ps now) (ht : t < ps.length) (h : DSt w0 w g A c ps now hd) :
    Calls Tryz.prog 81 #[.pointer (some ⟨g, 0, none⟩), .int .i64 (t : Int)] w fun e w' => e = .returned (.bool (!decide (nowAt now t < lenAt ps t))) ∧ KeepsAll w w' := by
  have hc := hP.caps
  have hl10 := (valid_lens hv).1
  have c0 := h.c0
  have ca := h.cat (t := t) (by omega)
  have hgz := h.lt
  obtain ⟨b, o, p, A', c', hbo, hbl, hp, k1, hr⟩ := RSS.atK h.k hP ht
  subst hbo
  have hcp := hr.caps
  have hG := hg.2 t ht
  have h64 := lenAt_le hv t
  rw [lenAt_of hp] at hG h64 ⊢
  have Q : Hid ((nowAt now t == (p.length : Int)) = !decide (nowAt now t < (p.length : Int))) := by
    show _ = _
    by_cases e : nowAt now t = (p.length : Int)
    · rw [e]; simp
    · have e1 : (nowAt now t == (p.length : Int)) = false := by simpa using e
      have e2 : decide (nowAt now t < (p.length : Int)) = true := by simp; omega
      rw [e1, e2]; rfl
  clear hr hp h
  generalize nowAt now t = a at *
  have hw : IntKind.i64.wrap a = a := IntWalk.i64_in _ (by omega)
  go_enter Tryz.func81, Tryz.ntmps81
  go_wp2
  go_quiet (fail)
  go_wp2
  go_ret
  exact ⟨by rw [Q.out]; rfl, (Keeps.refl _ _).drewN _⟩
def obstP (ps : List (List Stage)) (now : List Int) (hd : Nat → Int) (t : Nat) : Int := match ((ps[t]?).getD [])[(nowAt now t + 1).toNat]? with
  | none => -1
  | some s => if hd s.sec.toNat = (t : Int) then -1 else hd s.sec.toNat
set_option maxRecDepth 100000 in
set_option maxHeartbeats 1000000 in
theorem obstacle_any (hP : RPaths w0 (Old w0) [.slice A ps.length c] ps) (hv : valid ps = true) (hg : Gd ps now) (ht : t < ps.length) (h : DSt w0 w g A c ps now hd) :
    Calls Tryz.prog 104 #[.pointer (some ⟨g, 0, none⟩), .int .i64 (t : Int)] w fun e w' => e = .returned (.int .i64 (obstP ps now hd t)) ∧ KeepsAll w w' := by
  have hc := hP.caps
  have hl10 := (valid_lens hv).1
  have c0 := h.c0
  have ca := h.cat (t := t) (by omega)
  have hgz := h.lt
  obtain ⟨b, o, p, A', c', hbo, hbl, hp, k1, hr⟩ := RSS.atK h.k hP ht
  subst hbo
  have hcp := hr.caps
  have hG := hg.2 t ht
  have h64 := lenAt_le hv t
  rw [lenAt_of hp] at hG h64
  have HO : Hid (obstP ps now hd t = match p[(nowAt now t + 1).toNat]? with | none => -1 | some s => if hd s.sec.toNat = (t : Int) then -1 else hd s.sec.toNat) := by show _ = _; unfold obstP; rw [hp]; rfl
  generalize nowAt now t = a at *
  have hw : IntKind.i64.wrap a = a := IntWalk.i64_in _ (by omega)
  have hw2 : IntKind.i64.wrap (a + 1) = a + 1 := IntWalk.i64_in _ (by omega)
  by_cases g1 : a + 1 < (p.length : Int)
  · have g1' : decide (a + 1 ≥ (p.length : Int)) = false := by simp; omega
    obtain ⟨k, hk⟩ := Int.eq_ofNat_of_zero_le (by omega : 0 ≤ a + 1)
    have hkl : k < p.length := by omega
    obtain ⟨b3, o3, s, As, cs, hbo, hb3l, hs, m0, m1, m2, m3, hpts⟩ := RPath.atK h.k hr hkl
    subst hbo
    have hst := valid_stage hv (List.mem_of_getElem? hp) (List.mem_of_getElem? hs)
    obtain ⟨n, hn, hn144⟩ := isRes_nat (stageOk_sec hst)
    rw [hn] at m0
    have y0 := h.chd hn144
    rw [hk, Int.toNat_natCast, hs] at HO
    simp only [] at HO
    rw [hn, Int.toNat_natCast] at HO
    rw [hk] at g1' hw2
    generalize hd n = z at *
    clear hr hpts hst hs hn hp h m1 m2 m3 g1
    by_cases g2 : z = (t : Int)
    · have g2' : (z != (t : Int)) = false := by simpa using g2
      have Q : Hid (obstP ps now hd t = -1) := by show _ = _; rw [HO.out, if_pos g2]
      clear HO g2
      go_enter Tryz.func104, Tryz.ntmps104
      go_wp2
      go_quiet (fail)
      go_wp2
      go_ret
      exact ⟨by rw [Q.out]; rfl, (Keeps.refl _ _).drewN _⟩
    · have g2' : (z != (t : Int)) = true := by simpa using g2
      have Q : Hid (obstP ps now hd t = z) := by show _ = _; rw [HO.out, if_neg g2]
      clear HO g2
      go_enter Tryz.func104, Tryz.ntmps104
      go_wp2
      go_quiet (fail)
      go_wp2
      go_ret
      exact ⟨by rw [Q.out]; rfl, (Keeps.refl _ _).drewN _⟩
  · have g1' : decide (a + 1 ≥ (p.length : Int)) = true := by simp; omega
    have Q : Hid (obstP ps now hd t = -1) := by show _ = _; rw [HO.out, List.getElem?_eq_none (by omega)]
    clear hr hp h HO g1
    go_enter Tryz.func104, Tryz.ntmps104
    go_wp2
    go_ret
    exact ⟨by rw [Q.out]; rfl, Keeps.refl _ _⟩
theorem obstP_mv (hv : valid ps = true) (_hg : Gd ps now) (ht : t < ps.length) (h : HdOk ps now hd) : (!(!decide (nowAt now t < lenAt ps t)) && (obstP ps now hd t == -1)) = canMv ps now t := by
  unfold canMv
  rw [Bool.not_not]
  congr 1
  have hp : ps[t]? = some ps[t] := List.getElem?_eq_getElem ht
  unfold obstP blockedB
  simp only [hp, Option.getD_some]
  cases e : (ps[t])[(nowAt now t + 1).toNat]? with
  | none => rfl
  | some s =>
    simp only []
    have hst := valid_stage hv (List.mem_of_getElem? hp) (List.mem_of_getElem? e)
    obtain ⟨n, hn, hn144⟩ := isRes_nat (stageOk_sec hst)
    rw [hn, Int.toNat_natCast]
    obtain ⟨h1, h2⟩ := h n hn144
    cases hany : (List.range ps.length).any fun u => decide (u ≠ t) && decide (secNow ps now u = (n : Int)) with
    | true =>
      obtain ⟨u, hu, hq⟩ := List.any_eq_true.1 hany
      simp only [Bool.and_eq_true, decide_eq_true_eq] at hq
      have := h1 u (List.mem_range.1 hu) hq.2
      rw [if_neg (by omega), this]
      simp
    | false =>
      simp only [List.any_eq_false, List.mem_range, Bool.and_eq_true, decide_eq_true_eq, not_and] at hany
      by_cases g : secNow ps now t = (n : Int)
      · rw [if_pos (h1 t ht g)]; rfl
      · have := h2 fun u hu => by
          by_cases e : u = t
          · subst e; exact g
          · exact hany u hu e
        rw [this, if_neg (by omega)]; rfl
set_option maxRecDepth 100000 in
set_option maxHeartbeats 1000000 in
theorem canMove_any (hP : RPaths w0 (Old w0) [.slice A ps.length c] ps) (hv : valid ps = true) (hg : Gd ps now) (ht : t < ps.length) (h : DSt w0 w g A c ps now hd) (hh : HdOk ps now hd) :
    Calls Tryz.prog 82 #[.pointer (some ⟨g, 0, none⟩), .int .i64 (t : Int)] w fun e w' => e = .returned (.bool (canMv ps now t)) ∧ KeepsAll w w' := by
  have Q := Lib.hid (obstP_mv ps now hd t hv hg ht hh)
  have HL := Lib.hid (hasLeft_any w0 w g A c ps now hd t hP hv hg ht h)
  have HO : Hid (∀ W, KeepsAll w W → _) := fun W hW => obstacle_any w0 W g A c ps now hd t hP hv hg ht (h.keep hW)
  clear h hh hP
  cases hd1 : decide (nowAt now t < lenAt ps t) with
  | false =>
    rw [hd1] at Q HL
    go_enter Tryz.func82, Tryz.ntmps82
    go_wp2_with fail
    refine HL.out.mono ?_
    rintro e w1 ⟨rfl, k1⟩
    have K1 := Lib.hid k1; clear k1
    go_wp2
    go_ret
    exact ⟨by rw [← Q.out]; rfl, K1.out⟩
  | true =>
    rw [hd1] at Q HL
    go_enter Tryz.func82, Tryz.ntmps82
    go_wp2_with fail
    refine HL.out.mono ?_
    rintro e w1 ⟨rfl, k1⟩
    have K1 := Lib.hid k1; clear k1
    go_wp2_with fail
    refine (HO.out w1 K1.out).mono ?_
    rintro e w2 ⟨rfl, k2⟩
    have K2 := Lib.hid (K1.out.tr k2); clear k2
    generalize obstP ps now hd t = z at *
    go_wp2
    go_ret
    exact ⟨by rw [← Q.out]; simp, K2.out⟩
set_option maxRecDepth 100000 in
set_option maxHeartbeats 1000000 in
theorem set_any (x : Int) (hP : RPaths w0 (Old w0) [.slice A ps.length c] ps) (hv : valid ps = true) (hg : Gd ps now) (hg2 : Gd ps (now.set t x)) (ht : t < ps.length) (h : DSt w0 w g A c ps now hd) :
    Calls Tryz.prog 83 #[.pointer (some ⟨g, 0, none⟩), .int .i64 (t : Int), .int .i8 x] w fun e w' => e = .returned (.tuple #[]) ∧ DSt w0 w' g A c ps (now.set t x) (holdF ps (now.set t x) t (t : Int) (holdF ps now t (-1) hd)) ∧ Keeps (· = g) w w' := by
  have hl10 := (valid_lens hv).1
  have htl : t < now.length := by rw [hg.1]; exact ht
  have HH := Lib.hid (hold_any w0 w g A c ps now hd t (-1) hP hv (hg.2 t ht) ht h)
  have HH2 : Hid (∀ W, DSt w0 W g A c ps (now.set t x) (holdF ps now t (-1) hd) → _) := fun W hW => hold_any w0 W g A c ps (now.set t x) (holdF ps now t (-1) hd) t (t : Int) hP hv (hg2.2 t ht) ht hW
  clear h hP
  go_enter Tryz.func83, Tryz.ntmps83
  go_wp2_with fail
  refine HH.out.mono ?_
  rintro e w1 ⟨rfl, h1, k1⟩
  have K1 := Lib.hid k1
  have H1 := Lib.hid h1
  have y0 := h1.cat (t := t) (by omega)
  have y1 := h1.blk.frozen (1 + t)
  have hgz := h1.lt
  have H2 := Lib.hid (h1.setAt htl (by omega) x)
  have K2 : Hid (Keeps (· = g) w (w1.setCell ⟨g, 1 + t, none⟩ (.int .i8 x))) := Keeps.setCell (C := (· = g)) K1.out (p := ⟨g, 1 + t, none⟩) (fun _ => rfl) _
  clear h1 k1
  go_wp2_with fail
  refine (HH2.out _ H2.out).mono ?_
  rintro e w3 ⟨rfl, h3, k3⟩
  have H3 := Lib.hid h3
  have K3 : Hid (Keeps (· = g) w w3) := K2.out.trans k3 (fun _ _ h => h)
  clear h3 k3
  go_wp2
  refine bodyPost_end (results_none rfl _ _ _) rfl ?_
  exact ⟨rfl, H3.out, K3.out⟩
end

theorem heldOf_excl : ∀ (ps : List (List Stage)) (l : List Int), (∀ p ∈ ps, ∀ s ∈ p, 0 ≤ s.sec) → (heldOf ps l).Nodup →
    ∀ (t u : Nat) p q a b, t < u → ps[t]? = some p → ps[u]? = some q → l[t]? = some a → l[u]? = some b → 0 ≤ secAt p a → secAt p a ≠ secAt q b
  | [], _, _, _, t, u, p, q, a, b, _, hp, _, _, _, _ => by simp at hp
  | _ :: _, [], _, _, t, u, p, q, a, b, _, _, _, ha, _, _ => by simp at ha
  | p0 :: ps, a0 :: l, hs, hn, t, u, p, q, a, b, htu, hp, hq, ha, hb, h0 => by
    obtain ⟨u, rfl⟩ : ∃ v, u = v + 1 := ⟨u - 1, by omega⟩
    simp only [List.getElem?_cons_succ] at hq hb
    simp only [heldOf] at hn
    cases t with
    | zero =>
      simp at hp ha
      subst hp ha
      have hng := secAt_neg (hs p0 (by simp)) a0
      rcases hng with ⟨_, h2⟩ | ⟨h1, _⟩
      · omega
      · rw [if_neg h1] at hn
        intro he
        have hm : secAt q b ∈ heldOf ps l := (mem_heldOf (fun r hr => hs r (by simp [hr])) l _).2 ⟨List.mem_of_getElem? (secList_at hq hb), by omega⟩
        exact (List.nodup_append.1 hn).2.2 _ (by simp) _ hm he
    | succ t =>
      simp only [List.getElem?_cons_succ] at hp ha
      exact heldOf_excl ps l (fun r hr => hs r (by simp [hr])) (List.nodup_append.1 hn).2.1 t u p q a b (by omega) hp hq ha hb h0
/-- no two trains hold the same section -/
theorem state_excl {ps : List (List Stage)} {now : List Int} (hcs : checkState ps now = 0) {t u : Nat} (ht : t < ps.length) (hu : u < ps.length) (hne : t ≠ u) (h0 : 0 ≤ secNow ps now t) : secNow ps now t ≠ secNow ps now u := by
  obtain ⟨hv, hgd, hnd⟩ := checkState_zero hcs
  have hg := good_Gd.1 hgd
  have hp : ps[t]? = some ps[t] := List.getElem?_eq_getElem ht
  have hq : ps[u]? = some ps[u] := List.getElem?_eq_getElem hu
  have ha : now[t]? = some (now[t]'(by rw [hg.1]; exact ht)) := List.getElem?_eq_getElem _
  have hb : now[u]? = some (now[u]'(by rw [hg.1]; exact hu)) := List.getElem?_eq_getElem _
  unfold secNow at h0 ⊢
  rw [hp, nowAt_of ha] at h0 ⊢
  rw [hq, nowAt_of hb]
  simp only [Option.getD_some] at h0 ⊢
  intro he
  rcases Nat.lt_or_gt_of_ne hne with h | h
  · exact heldOf_excl ps now (valid_secs hv) hnd t u _ _ _ _ h hp hq ha hb h0 he
  · exact heldOf_excl ps now (valid_secs hv) hnd u t _ _ _ _ h hq hp hb ha (by rw [← he]; exact h0) he.symm
theorem nowAt_take (l : List Int) (m u : Nat) : nowAt (l.take m) u = if u < m then nowAt l u else 0 := by
  unfold nowAt
  rw [List.getElem?_take]
  by_cases h : u < m
  · rw [if_pos h, if_pos h]
  · rw [if_neg h, if_neg h]; rfl
theorem dC_push (vp : Value) (at_ : List Int) (hd : Nat → Int) {k : Nat} (hk : k < 10) : (dCells vp (at_.take k) hd).setIfInBounds (1 + k) (.int .i8 (nowAt at_ k)) = dCells vp (at_.take (k + 1)) hd := by
  apply dC_ext
  · simp [dC_size]
  · rw [Array.getElem?_setIfInBounds, if_neg (by omega), dC_0]
  · intro u hu
    rw [Array.getElem?_setIfInBounds, nowAt_take]
    by_cases e : k = u
    · subst e; rw [if_pos rfl, if_pos (by rw [dC_size]; omega), if_pos (by omega)]
    · rw [if_neg (by omega), dC_at vp _ hd hu, nowAt_take]
      by_cases e2 : u < k
      · rw [if_pos e2, if_pos (by omega)]
      · rw [if_neg e2, if_neg (by omega)]
  · intro r hr
    rw [Array.getElem?_setIfInBounds, if_neg (by omega), dC_hd vp _ hd hr]
def HdTo (ps : List (List Stage)) (now : List Int) (k : Nat) (hd : Nat → Int) : Prop := ∀ r : Nat, r < 144 → (∀ u, u < k → secNow ps now u = (r : Int) → hd r = (u : Int)) ∧ ((∀ u, u < k → secNow ps now u ≠ (r : Int)) → hd r = -1)
theorem HdTo.step {ps : List (List Stage)} {now : List Int} {k : Nat} {hd : Nat → Int} (h : HdTo ps now k hd) (hcs : checkState ps now = 0) (hk : k < ps.length) : HdTo ps now (k + 1) (holdF ps (now.take (k + 1)) k (k : Int) hd) := by
  have e : secNow ps (now.take (k + 1)) k = secNow ps now k := by unfold secNow; rw [nowAt_take, if_pos (by omega)]
  intro r hr
  obtain ⟨h1, h2⟩ := h r hr
  have e2 : holdF ps (now.take (k + 1)) k (k : Int) hd r = if secNow ps now k = (r : Int) then (k : Int) else hd r := by
    unfold holdF
    rw [e]
    by_cases g : 0 ≤ secNow ps now k
    · rw [if_pos g]
      unfold updH
      by_cases g2 : secNow ps now k = (r : Int)
      · rw [if_pos (by omega), if_pos g2]
      · rw [if_neg (by omega), if_neg g2]
    · rw [if_neg g, if_neg (by omega)]
  rw [e2]
  refine ⟨fun u hu hs => ?_, fun hno => ?_⟩
  · by_cases g : u = k
    · subst g; rw [if_pos hs]
    · rw [if_neg (fun g2 => state_excl hcs hk (by omega : u < ps.length) (fun e => g e.symm) (by omega) (by rw [g2, hs]))]
      exact h1 u (by omega) hs
  · rw [if_neg (hno k (by omega))]
    exact h2 fun u hu => hno u (by omega)

def hdInit (k : Nat) : Nat → Int := fun r => if r < k then -1 else 0
set_option maxRecDepth 100000 in
theorem dZero : Tryz.zeroCells135 = dCells (.slice none 0 0) [] (hdInit 0) := by rfl
set_option maxRecDepth 100000 in
set_option maxHeartbeats 1000000 in
theorem newState_any (ps : List (List Stage)) (at_ : List Int) (A A2 : Option Addr) (c c2 : Nat) (w : World) (h : RPaths w (Old w) [.slice A ps.length c] ps) (h2 : RInts w (Old w) [.slice A2 at_.length c2] at_) (hcs : checkState ps at_ = 0) :
    Calls Tryz.prog 58 #[.slice A ps.length c, .slice A2 at_.length c2] w fun e w' => ∃ g hd, e = .returned (.pointer (some ⟨g, 0, none⟩)) ∧ DSt w w' g A c ps at_ hd ∧ HdOk ps at_ hd := by
  obtain ⟨hv, hgd, _⟩ := checkState_zero hcs
  have hg := good_Gd.1 hgd
  have hc := h.caps
  have hc2 := h2.caps
  have hl10 := (valid_lens hv).1
  have hal : at_.length = ps.length := hg.1
  have al1 : at_.length ≤ ps.length := by omega
  have al2 : ps.length ≤ at_.length := by omega
  have HAL := Lib.hid hal
  have H := Lib.hid h
  have H2 := Lib.hid h2
  have HCS := Lib.hid hcs
  have HG := Lib.hid hg
  have HV := Lib.hid hv
  have h64 := Lib.hid (fun t => lenAt_le hv t)
  clear h h2 hcs hg hv hgd hal
  go_enter Tryz.func58, Tryz.ntmps58
  go_wp2
  generalize hW1 : World.alloc w _ = w1
  have HD : Hid (DSt w w1 w.heap.size A c ps [] (hdInit 0)) := by
    subst hW1
    refine ⟨?_, Nat.le_refl _, (Keeps.refl _ _).alloc _⟩
    have e : (Tryz.zeroCells135).setIfInBounds 0 (.slice A ps.length c) = dCells (.slice A ps.length c) [] (hdInit 0) := by
      rw [dZero]
      apply dC_ext
      · simp [dC_size]
      · rw [Array.getElem?_setIfInBounds, if_pos rfl, if_pos (by rw [dC_size]; omega)]
      · intro u hu; rw [Array.getElem?_setIfInBounds, if_neg (by omega), dC_at _ _ _ hu]
      · intro r hr; rw [Array.getElem?_setIfInBounds, if_neg (by omega), dC_hd _ _ _ hr]
    rw [e]; exact Blk.new _ _ _
  clear hW1
  have hzz : w.heap.size ≤ w.heap.size := Nat.le_refl _
  generalize hgw : w.heap.size = g at *
  have HGW := Lib.hid hgw
  clear hgw
  go_loopw [12] (fun i wr => ∃ k : Nat, k ≤ 144 ∧ i = .int .i64 k ∧ DSt w wr g A c ps [] (hdInit k)) (fun i _ => 144 - (intOf i).toNat)
  case atStart => exact ⟨0, by omega, rfl, HD.out⟩
  case round =>
    clear HD
    obtain ⟨k, hk, rfl, hdk⟩ := hrel
    have HK := Lib.hid hdk
    by_cases hlt : k < 144
    · have y0 := hdk.chd hlt
      have y1 := hdk.blk.frozen (11 + k)
      have hgz := hdk.lt
      have HN : Hid (DSt w (wr.setCell ⟨g, 11 + k, none⟩ (.int .i64 (-1))) g A c ps [] (hdInit (k + 1))) := by
        have := hdk.setH hlt (-1)
        have e : updH (hdInit k) k (-1) = hdInit (k + 1) := by
          funext r
          unfold updH hdInit
          by_cases e : r = k
          · subst e; rw [if_pos rfl, if_pos (by omega)]
          · rw [if_neg e]
            by_cases e2 : r < k
            · rw [if_pos e2, if_pos (by omega)]
            · rw [if_neg e2, if_neg (by omega)]
        rw [e] at this; exact this
      clear hdk HK
      go_wp2
      go_roundw
      case rel => exact ⟨k + 1, by omega, by go_num, HN.out⟩
      case measure => simp [intOf]; omega
    · obtain rfl : k = 144 := by omega
      clear hdk
      have hdk144 : decide ((144 : Int) < 144) = false := by simp
      rw [show (((144 : Nat) : Int)) = (144 : Int) from rfl]
      have HT0 : Hid (HdTo ps at_ 0 (hdInit 144)) := fun r hr => ⟨fun u hu => by omega, fun _ => by unfold hdInit; rw [if_pos hr]⟩
      go_wp2
      go_loopw [23] (fun i wr => ∃ (k : Nat) (hd : Nat → Int), k ≤ at_.length ∧ i = .int .i64 k ∧ DSt w wr g A c ps (at_.take k) hd ∧ HdTo ps at_ k hd) (fun i _ => at_.length - (intOf i).toNat)
      case atStart => exact ⟨0, _, Nat.zero_le _, rfl, HK.out, HT0.out⟩
      case round =>
        clear HK HT0
        obtain ⟨k, hd, hk, rfl, hdk, hto⟩ := hrel
        have HK := Lib.hid hdk
        have HTO := Lib.hid hto
        clear hto
        by_cases hlt : k < at_.length
        · obtain ⟨b2, o2, a, hbo, hb2l, ha, k2⟩ := RInts.atK hdk.k H2.out hlt
          subst hbo
          have hGk := HG.out.2 k (by omega)
          have hG64 := h64.out k
          have hna := nowAt_of ha
          rw [hna] at hGk
          have y0 := hdk.cat (t := k) (by omega)
          have y1 := hdk.blk.frozen (1 + k)
          have hgz := hdk.lt
          have HN : Hid (DSt w (wr.setCell ⟨g, 1 + k, none⟩ (.int .i8 a)) g A c ps (at_.take (k + 1)) hd) := by
            refine ⟨?_, HK.out.lo, HK.out.k.setCell (fun hh => absurd hh (by have := HK.out.lo; simp; omega)) _⟩
            have := HK.out.blk.set_ (1 + k) (.int .i8 a)
            rw [← hna, dC_push _ _ _ (by omega)] at this
            rw [← hna]; exact this
          have HH := Lib.hid (hold_any w _ g A c ps (at_.take (k + 1)) hd k (k : Int) H.out HV.out (by rw [nowAt_take, if_pos (by omega), hna]; exact hGk) (by omega) HN.out)
          have HTN := Lib.hid (HTO.out.step HCS.out (by omega))
          have hw8 : IntKind.i8.wrap a = a := by
            have : -1 ≤ a ∧ a ≤ 64 := by omega
            exact IntWalk.i8_in _ (by omega)
          clear hdk ha hna HTO HK
          go_wp2_with fail
          refine HH.out.mono ?_
          rintro e w3 ⟨rfl, h3, k3⟩
          have H3 := Lib.hid h3
          clear h3 k3 HH HN
          go_wp2
          go_roundw
          case rel => exact ⟨k + 1, _, by omega, by go_num, H3.out, HTN.out⟩
          case measure => simp [intOf]; omega
        · obtain rfl : k = at_.length := by omega
          rw [List.take_length] at HK
          clear hdk
          have HOK : Hid (HdOk ps at_ hd) := by
            have := HTO.out
            rw [HAL.out] at this
            exact this
          go_wp2
          go_ret
          exact ⟨g, hd, rfl, HK.out, HOK.out⟩

end Go.Proofs.YtbfgmbakeofcbaaGreat
