/- Contract of (*identification).assign. Conditions: as the theorem says. -/
import Derived.Test.YtbfgmbakeofcbaaGreatK08
namespace Go.Proofs.YtbfgmbakeofcbaaGreat
open Go.RowKit

theorem posns_at (p : List Stage) {j : Nat} (h : j < p.length + 2) : (posns p)[j]? = some ((j : Int) - 1) := by simp [posns, h]
theorem posns_len (p : List Stage) : (posns p).length = p.length + 2 := by simp [posns]
theorem posns_drop (p : List Stage) {j : Nat} (h : j < p.length + 2) : (posns p).drop j = ((j : Int) - 1) :: (posns p).drop (j + 1) := drop_cons' (posns_at p h)
theorem posns_end (p : List Stage) : (posns p).drop (p.length + 2) = [] := List.drop_of_length_le (by rw [posns_len]; omega)

theorem IdRaw.after {w w' : World} {g : Nat} {A : Option Addr} {c : Nat} {ps : List (List Stage)} {A2 : Option Addr} {c2 : Nat} {exp : List Int} {budget : Nat} {at_ : List Int} {vat : Value} {mis : Int} {steps : Nat} {f : Int → Option Value} {best : List Int} {sm : Int} {un : Bool} {o : Obj}
    (h : IdRaw w g A c ps A2 c2 exp mis budget steps f at_ vat best sm un) (k : Keeps (fun b => vat.ownBlock = some b) (w.alloc o) w') : w'.cell? ⟨g, 6, none⟩ = some vat ∧ w'.frozen? ⟨g, 6, none⟩ = false ∧ Keeps (fun b => g ≤ b) w w' := by
  obtain ⟨vb, h1, h2⟩ := h.blk
  have far : ∀ b, b < g + 2 → ¬ (vat.ownBlock = some b) := fun b hb e => by have := h.at_.lt e; omega
  have k2 : Keeps (fun b => vat.ownBlock = some b) w w' := ((Keeps.refl _ w).alloc o).trans k (fun _ _ h => h)
  have hb := h1.kept k2 (far g (by omega))
  refine ⟨by simpa using hb.cell 6, hb.frozen 6, k2.mono (fun x _ e => ?_)⟩
  have := h.at_.lt e; omega
theorem freeF_take {occ held : List Int} {x : Int} (hx : x ∈ occ) : setF (freeF occ held) x (.bool false) = freeF occ (held ++ [x]) := by
  funext k; unfold setF freeF
  by_cases h : k = x
  · subst h; simp [hx]
  · simp [h]
theorem freeF_give {occ held : List Int} {x : Int} (hx : x ∈ occ) (hn : x ∉ held) : setF (freeF occ (held ++ [x])) x (.bool true) = freeF occ held := by
  funext k; unfold setF freeF
  by_cases h : k = x
  · subst h; simp [hx, hn]
  · simp [h]
theorem tries_cons {occ : List Int} {budget : Nat} {f : List Int → List Int → ISt → Bool × ISt} {p : List Stage} {at_ held : List Int} (x : Int) (xs : List Int) (s : ISt) : tries occ budget f p at_ held (x :: xs) s =
    if s.steps = budget then (false, s)
    else if x < 0 ∨ (p.length : Int) ≤ x then
      if (f (at_ ++ [x]) held { s with steps := s.steps + 1 }).1 = true then tries occ budget f p at_ held xs (f (at_ ++ [x]) held { s with steps := s.steps + 1 }).2 else f (at_ ++ [x]) held { s with steps := s.steps + 1 }
    else if secAt p x ∈ occ ∧ secAt p x ∉ held then
      if (f (at_ ++ [x]) (held ++ [secAt p x]) { s with steps := s.steps + 1 }).1 = true then tries occ budget f p at_ held xs (f (at_ ++ [x]) (held ++ [secAt p x]) { s with steps := s.steps + 1 }).2 else f (at_ ++ [x]) (held ++ [secAt p x]) { s with steps := s.steps + 1 }
    else tries occ budget f p at_ held xs { s with steps := s.steps + 1 } := by
  rw [tries]
  split
  · rfl
  · split
    · generalize f (at_ ++ [x]) held { s with steps := s.steps + 1 } = r
      obtain ⟨b, s'⟩ := r
      cases b <;> simp
    · split
      · generalize f (at_ ++ [x]) (held ++ [secAt p x]) { s with steps := s.steps + 1 } = r
        obtain ⟨b, s'⟩ := r
        cases b <;> simp
      · rfl

theorem zeroBool (w : World) : (zeroValue 4).run Tryz.prog w = .ok (.bool false) w := by kernel_rfl
/-- the fixed part of a search -/
structure IdFix (ps : List (List Stage)) (exp occ : List Int) (budget : Nat) : Prop where
  o : occ.length ≤ 9223372036854775807
  n : ps.length ≤ 10
  p : ∀ p ∈ ps, p.length ≤ 64
  e : small exp
  l : exp.length = ps.length
  b : budget ≤ 1048576

def AsInv (w wr : World) (g : Nat) (A : Option Addr) (c : Nat) (ps : List (List Stage)) (A2 : Option Addr) (c2 : Nat) (exp occ : List Int) (budget : Nat) (at_ held : List Int) (F : List Int → List Int → ISt → Bool × ISt) (p : List Stage) (R : Bool × ISt) (j : Nat) : Prop :=
  ∃ vat s, IdSt wr g A c ps A2 c2 exp occ budget at_ held vat s ∧ s.steps ≤ budget ∧ Keeps (fun b => g ≤ b) w wr ∧ R = tries occ budget F p at_ held ((posns p).drop j) s

set_option maxRecDepth 100000 in
set_option maxHeartbeats 2000000 in
theorem assign_any (g : Nat) (A : Option Addr) (c : Nat) (ps : List (List Stage)) (A2 : Option Addr) (c2 : Nat) (exp occ : List Int) (budget : Nat) (hfix : IdFix ps exp occ budget) :
    ∀ (rest : List (List Stage)) (t : Nat) (w : World) (at_ held : List Int) (vat : Value) (s : ISt), ps.drop t = rest → t ≤ ps.length → at_.length = t → (∀ x ∈ at_, -1 ≤ x ∧ x ≤ 64) → s.steps ≤ budget →
      IdSt w g A c ps A2 c2 exp occ budget at_ held vat s →
      Calls Tryz.prog 24 #[.pointer (some ⟨g, 0, none⟩), .int .i64 t] w fun e w' => e = .returned (.bool (search exp occ budget rest at_ held s).1) ∧ Keeps (fun b => g ≤ b) w w' ∧
        ∃ vat', IdSt w' g A c ps A2 c2 exp occ budget at_ held vat' (search exp occ budget rest at_ held s).2 := by
  intro rest
  induction rest with
  | nil =>
    intro t w at_ held vat s hrest htl hat hsm hst h
    have ht : t = ps.length := by
      have := congrArg List.length hrest; simp at this; omega
    obtain ⟨vb, hblk, _⟩ := h.blk
    have c0 := hblk.cell 0
    simp at c0
    have hc := h.pth.caps
    have g1 : ((t : Int) == (ps.length : Int)) = true := by simp; omega
    have HA : Hid (at_.length = exp.length) := by rw [hat, ht, hfix.l]; rfl
    have HF := Lib.hid hfix; clear hfix
    have hl10 : at_.length ≤ 10 := by rw [hat]; have := HF.out.n; omega
    have H := Lib.hid h
    have HSM := Lib.hid hsm
    have Q : Hid (search exp occ budget [] at_ held s = (true, complete exp occ at_ held s)) := by show search exp occ budget [] at_ held s = _; rw [search]
    clear h hsm hblk hrest ht hat
    go_enter Tryz.func24, Tryz.ntmps24
    go_wp2_with (go_at_call 48; refine (compare_any w g A c ps A2 c2 exp occ budget at_ held vat s H.out ⟨hl10, HSM.out⟩ HF.out.e HA.out).mono ?_; rintro e w1 ⟨rfl, h1, k1⟩)
    go_ret
    rw [Q.out]
    exact ⟨rfl, k1, vat, h1⟩
  | cons p rest ih =>
    intro t w at_ held vat s hrest htl hat hsm hst h
    have IH := Lib.hid ih; clear ih
    have htp : ps[t]? = some p := by
      have h1 : (ps.drop t)[0]? = some p := by rw [hrest]; rfl
      simpa using h1
    have hrest' : ps.drop (t + 1) = rest := by
      have := drop_cons' htp
      rw [hrest] at this
      injection this with _ this; exact this.symm
    have htl2 := getElem?_lt htp
    have HF := Lib.hid hfix; clear hfix
    have hp64 := HF.out.p p (List.mem_of_getElem? htp)
    have hn10 := HF.out.n
    have hb20 := HF.out.b
    obtain ⟨vb, hblk, _⟩ := h.blk
    have c0 := hblk.cell 0
    simp at c0
    have hc := h.pth.caps
    have g1 : ((t : Int) == (ps.length : Int)) = false := by simp; omega
    have Q : Hid (search exp occ budget (p :: rest) at_ held s = tries occ budget (search exp occ budget rest) p at_ held (posns p) s) := by show search exp occ budget (p :: rest) at_ held s = _; rw [search]
    have hA0 : AsInv w w g A c ps A2 c2 exp occ budget at_ held (search exp occ budget rest) p (search exp occ budget (p :: rest) at_ held s) 0 := ⟨vat, s, h, hst, Keeps.refl _ _, Q.out⟩
    have HT := Lib.hid htp
    have HR := Lib.hid hrest'
    have HAT := Lib.hid hat
    have HSM := Lib.hid hsm
    have hgw := h.lt
    generalize hRR : search exp occ budget (p :: rest) at_ held s = R at hA0
    have HRR := Lib.hid hRR; clear hRR
    clear h hblk hrest hrest' htp hsm Q hat
    go_enter Tryz.func24, Tryz.ntmps24
    go_wp2_with fail
    go_loopw [5] (fun i wr => ∃ j : Nat, j ≤ p.length + 2 ∧ i = .int .i64 ((j : Int) - 1) ∧ AsInv w wr g A c ps A2 c2 exp occ budget at_ held (search exp occ budget rest) p R j) (fun i _ => p.length + 2 - (intOf i + 1).toNat)
    case atStart => exact ⟨0, by omega, by go_num, hA0⟩
    case round =>
      obtain ⟨j, hj, rfl, vat1, s0, h1, hst1, hk1, hi1⟩ := hrel
      clear hA0 c0
      obtain ⟨vb1, hb1, _⟩ := h1.blk
      obtain ⟨Aa, ca, rfl, hca, hca2⟩ := h1.at_.form
      have c0 := hb1.cell 0
      have c4 := hb1.cell 4
      have c5 := hb1.cell 5
      have f5 := hb1.frozen 5
      simp at c0 c4 c5
      obtain ⟨b, o, p', A', c', hAA, hb, hp', k1, hpr⟩ := RSS.at_ h1.pth htl2
      obtain rfl := same_of hp' HT.out
      subst hAA
      have hcp := hpr.caps
      have HPR := Lib.hid hpr; clear hpr hp'
      have hgz := h1.lt
      have H := Lib.hid h1; clear h1 hb1
      have KW0 := Lib.hid hk1; clear hk1
      have hlat : at_.length ≤ 10 := by have := HAT.out; omega
      have HI0 := Lib.hid hi1; clear hi1
      by_cases hlt : j < p'.length + 2
      · have HI : Hid (R = tries occ budget (search exp occ budget rest) p' at_ held (((j : Int) - 1) :: (posns p').drop (j + 1)) s0) := by rw [← posns_drop p' hlt]; exact HI0.out
        clear HI0
        by_cases hsb : s0.steps = budget
        · have g2 : ((s0.steps : Int) == (budget : Int)) = true := by simp; omega
          have HSB := Lib.hid hsb; clear hsb
          go_wp2
          go_quiet (fail)
          go_wp2
          go_ret
          have hR : R = (false, s0) := by rw [HI.out, tries_cons, if_pos HSB.out]
          subst hR
          exact ⟨rfl, KW0.out.drewN _, _, H.out.keeps0 ((Keeps.refl _ _).drewN _)⟩
        · have g2 : ((s0.steps : Int) == (budget : Int)) = false := by simp; omega
          have HS1' := Lib.hid hsb; clear hsb
          obtain ⟨s1, hs1⟩ : ∃ s1 : ISt, s1 = { s0 with steps := s0.steps + 1 } := ⟨_, rfl⟩
          have HS1 : Hid (s1.steps ≤ budget) := by have h := HS1'.out; show s1.steps ≤ budget; rw [hs1]; simp; omega
          have HS := Lib.hid hs1; clear hs1
          by_cases hin : 1 ≤ j ∧ j ≤ p'.length
          · have g3 : decide ((0 : Int) ≤ (j : Int) - 1) = true := by simp; omega
            have g4 : decide ((j : Int) - 1 < (p'.length : Int)) = true := by simp; omega
            have HNO : Hid (¬ ((j : Int) - 1 < 0 ∨ (p'.length : Int) ≤ (j : Int) - 1)) := by show ¬ (_ ∨ _); omega
            go_wp2
            go_quiet (fail)
            generalize hW0 : World.drewN wr _ = W0
            have H0 : Hid (IdSt W0 g (some ⟨b, o, none⟩) c ps A2 c2 exp occ budget at_ held (.slice Aa at_.length ca) s0) := by subst hW0; exact H.out.keeps0 ((Keeps.refl _ _).drewN _)
            have KW1 : Hid (Keeps (fun b => g ≤ b) w W0) := by subst hW0; exact KW0.out.drewN _
            have k1 : W0.cell? ⟨b, o + t, none⟩ = some (.slice A' p'.length c') := by subst hW0; exact k1
            have HPR0 : Hid (RPath W0 (fun b => b < g) [.slice A' p'.length c'] p') := by subst hW0; exact HPR.out
            clear hW0 c0 c4 c5 f5
            obtain ⟨vb0, hb0, _⟩ := H0.out.blk
            have c0 := hb0.cell 0
            have c2' := hb0.cell 2
            have c3 := hb0.cell 3
            have c5 := hb0.cell 5
            have c6 := hb0.cell 6
            have f3 := hb0.frozen 3
            have f5 := hb0.frozen 5
            simp at c0 c2' c3 c5 c6
            have hgz0 := H0.out.lt
            clear hb0
            have RAW1 : Hid (IdRaw (W0.setCell ⟨g, 5, none⟩ (.int .i64 ((s0.steps : Int) + 1))) g (some ⟨b, o, none⟩) c ps A2 c2 exp ((occ.length : Int) - (held.length : Int)) budget s1.steps (freeF occ held) at_ (.slice Aa at_.length ca) s1.best (if s1.found = 0 then -1 else s1.sum) (decide (s1.found = 1))) := by
              have h := H0.out.raw.setSteps (s0.steps + 1) 0
              rw [HS.out]
              exact h
            have KW : Hid (Keeps (fun b => g ≤ b) w (W0.setCell ⟨g, 5, none⟩ (.int .i64 ((s0.steps : Int) + 1)))) := KW1.out.setCell (p := ⟨g, 5, none⟩) (fun _ => Nat.le_refl _) _
            obtain ⟨b3, o3, st, A3, c3', rfl, hb3, hs3, k3, _⟩ := RPath.at_ HPR0.out (k := j - 1) (by omega)
            have HSEC : Hid (secAt p' ((j : Int) - 1) = st.sec) := by
              show secAt p' ((j : Int) - 1) = st.sec
              unfold secAt
              rw [if_neg (by omega), show ((j : Int) - 1).toNat = j - 1 from by omega, hs3]
            clear hs3
            have hb3g : b3 < g := hb3
            have hbg : b < g := hb
            obtain ⟨ks1, hm1⟩ := RAW1.out.map
            have HLK := (hm1.lookup (P := Tryz.prog) (t := 55) (E := 4) Tryz.underlying55 Tryz.underlying3 (zeroBool _) st.sec).1
            by_cases hfree : st.sec ∈ occ ∧ st.sec ∉ held
            · have hfv : (freeF occ held st.sec).getD (.bool false) = .bool true := by simp [freeF, hfree.1, hfree.2]
              rw [hfv] at HLK
              have HIN1 := Lib.hid hfree.1
              have HIN2 := Lib.hid hfree.2
              have ND : Hid ((held ++ [st.sec]).Nodup) := List.nodup_append.2 ⟨H0.out.nd, by simp, fun a ha b hb => by simp at hb; subst hb; rintro rfl; exact HIN2.out ha⟩
              have SUB : Hid (∀ x ∈ held ++ [st.sec], x ∈ occ) := fun x hx => by
                rcases List.mem_append.1 hx with hx | hx
                · exact H0.out.sub x hx
                · simp at hx; subst hx; exact HIN1.out
              have hlo : held.length + 1 ≤ occ.length := by have := nodup_len _ _ ND.out SUB.out; simpa using this
              have hoc := HF.out.o
              obtain ⟨w2m, hrun2, hm2, k2m, hz2m⟩ := hm1.update (P := Tryz.prog) (t := 55) (E := 4) Tryz.underlying55 Tryz.underlying3 st.sec (.bool false)
              have RAW2 := Lib.hid (RAW1.out.setMap k2m ⟨_, by rw [freeF_take HIN1.out] at hm2; exact hm2⟩)
              have KW3 : Hid (Keeps (fun b => g ≤ b) w (w2m.setCell ⟨g, 3, none⟩ (.int .i64 ((occ.length : Int) - (held.length : Int) - 1)))) := (KW.out.trans k2m (fun x _ e => by omega)).setCell (p := ⟨g, 3, none⟩) (fun _ => Nat.le_refl _) _
              have RAW3 : Hid (IdRaw (w2m.setCell ⟨g, 3, none⟩ (.int .i64 ((occ.length : Int) - (held.length : Int) - 1))) g (some ⟨b, o, none⟩) c ps A2 c2 exp ((occ.length : Int) - ((held ++ [st.sec]).length : Int)) budget s1.steps (freeF occ (held ++ [st.sec])) at_ (.slice Aa at_.length ca) s1.best (if s1.found = 0 then -1 else s1.sum) (decide (s1.found = 1))) := by
                have h := RAW2.out.setMis ((occ.length : Int) - (held.length : Int) - 1)
                have e : (occ.length : Int) - ((held ++ [st.sec]).length : Int) = (occ.length : Int) - (held.length : Int) - 1 := by simp; omega
                rw [e]; exact h
              obtain ⟨vb2, hb2, _⟩ := RAW2.out.blk
              have r3 := hb2.cell 3
              have r6 := hb2.cell 6
              have q3 := hb2.frozen 3
              simp at r3 r6
              have hz22 := RAW2.out.lt
              clear hfree hm1 hm2 k2m hz2m hb2
              have hz6 := RAW3.out.lt
              go_wp2_with (at_builtin; refine wpList_append_L tyInt RInt.ok rfl (.tmp 95) (.tmp 97) rfl (RAW3.out.at_.alloc RInt.ok _) rfl _ [.int .i64 ((j : Int) - 1)] rfl (Blk.new' _ _ _ (by simp)) rfl ((j : Int) - 1) (S := fun _ => False) rfl (fun _ h => h.elim) (by simp [Value.oneCell']) (by omega) (by omega) (by simp; omega) ?_; intro v2 w2 HO2 HK2 HA2; obtain ⟨A6, c6x, hv6, _, _⟩ := HO2.form; rw [List.length_append, List.length_singleton] at hv6; subst hv6; have AF := RAW3.out.after HK2; have E6 := AF.1; have F6 := AF.2.1; have HKK := Lib.hid AF.2.2; clear AF; have HRP := Lib.hid (RAW3.out.push HO2 HK2 HA2); clear HO2 HK2 HA2)
              generalize hW3 : World.setCell w2 _ _ = W3
              have K3 : Hid (Keeps (fun b => g ≤ b) (w2m.setCell ⟨g, 3, none⟩ (.int .i64 ((occ.length : Int) - (held.length : Int) - 1))) W3) := by subst hW3; exact HKK.out.setCell (p := ⟨g, 6, none⟩) (fun _ => Nat.le_refl _) _
              have HRP3 : Hid (IdSt W3 g (some ⟨b, o, none⟩) c ps A2 c2 exp occ budget (at_ ++ [(j : Int) - 1]) (held ++ [st.sec]) (.slice A6 (at_.length + 1) c6x) s1) := by subst hW3; exact HRP.out.st ND.out SUB.out (by rw [HS.out]; exact H0.out.sums)
              clear hW3 E6 F6 HRP HKK
              have ec : (t : Int) + 1 = ((t + 1 : Nat) : Int) := by omega
              rw [ec]
              clear ec
              refine (IH.out (t + 1) W3 (at_ ++ [(j : Int) - 1]) (held ++ [st.sec]) (.slice A6 (at_.length + 1) c6x) s1 HR.out (by omega) (by have := HAT.out; simp; omega) (fun x hx => by
                rcases List.mem_append.1 hx with hx | hx
                · exact HSM.out x hx
                · simp at hx; subst hx; omega) (by have := HS1.out; omega) HRP3.out).mono ?_
              rintro e w4 ⟨rfl, k4, vat4, h4⟩
              generalize hR4 : search exp occ budget rest (at_ ++ [(j : Int) - 1]) (held ++ [st.sec]) s1 = R4 at h4
              obtain ⟨ok4, s4⟩ := R4
              have hst4 : s4.steps ≤ budget := by
                have := search_steps exp occ budget rest (at_ ++ [(j : Int) - 1]) (held ++ [st.sec]) s1 (by have := HS1.out; omega)
                rw [hR4] at this; exact this
              have HR4 := Lib.hid hR4; clear hR4
              simp only [] at h4
              obtain ⟨A4, c4, rfl, hc4, hc42⟩ := h4.at_.form
              have hA4 : ∃ ad, A4 = some ad := by
                cases A4 with
                | some ad => exact ⟨ad, rfl⟩
                | none =>
                  have := h4.at_.form
                  obtain ⟨ess, _, hrow, _⟩ := h4.at_
                  rcases hrow.2 with ⟨_, hn⟩ | ⟨_, _, _, he, _⟩
                  · simp at hn
                  · cases he
              obtain ⟨⟨ab, ao, asp⟩, rfl⟩ := hA4
              obtain rfl : asp = none := by
                obtain ⟨ess, _, hrow, _⟩ := h4.at_
                rcases hrow.2 with ⟨he, _⟩ | ⟨_, _, _, he, _⟩
                · cases he
                · injection he with he; injection he with he; injection he
              have K4 : Hid (Keeps (fun b => g ≤ b) w w4) := (KW3.out.trans K3.out (fun _ _ h => h)).trans k4 (fun _ _ h => h)
              have H4 := Lib.hid h4; clear h4 k4
              obtain ⟨vb4, hb4, _⟩ := H4.out.blk
              have m0 := hb4.cell 0
              have m2 := hb4.cell 2
              have m3 := hb4.cell 3
              have m6 := hb4.cell 6
              have n3 := hb4.frozen 3
              have n6 := hb4.frozen 6
              simp at m0 m2 m3 m6
              have hl4 : (at_ ++ [(j : Int) - 1]).length = t + 1 := by have := HAT.out; simp; omega
              rw [hl4] at hc4
              have hat1 : at_.length ≤ t := by have := HAT.out; omega
              have hat2 : t ≤ at_.length := by have := HAT.out; omega
              have HL4 := Lib.hid hl4; clear hl4 hb4
              have HCUT : Hid (IdRaw (w4.setCell ⟨g, 6, none⟩ (.slice (some ⟨ab, ao, none⟩) t c4)) g (some ⟨b, o, none⟩) c ps A2 c2 exp ((occ.length : Int) - ((held ++ [st.sec]).length : Int)) budget s4.steps (freeF occ (held ++ [st.sec])) at_ (.slice (some ⟨ab, ao, none⟩) t c4) s4.best (if s4.found = 0 then -1 else s4.sum) (decide (s4.found = 1))) := by
                have h := H4.out.raw.cut (t := t) (by rw [HL4.out]; omega)
                have e : (at_ ++ [(j : Int) - 1]).take t = at_ := by rw [← HAT.out]; simp
                rw [e] at h; exact h
              have hz4 := H4.out.lt
              have HC5 := Lib.hid ((K4.out.setCell (p := ⟨g, 6, none⟩) (fun _ => Nat.le_refl _) (.slice (some ⟨ab, ao, none⟩) t c4)))
              obtain ⟨ks5, hm5⟩ := HCUT.out.map
              obtain ⟨w6m, hrun6, hm6, k6m, hz6m⟩ := hm5.update (P := Tryz.prog) (t := 55) (E := 4) Tryz.underlying55 Tryz.underlying3 st.sec (.bool true)
              have RAW6 : Hid (IdRaw w6m g (some ⟨b, o, none⟩) c ps A2 c2 exp ((occ.length : Int) - ((held ++ [st.sec]).length : Int)) budget s4.steps (freeF occ held) at_ (.slice (some ⟨ab, ao, none⟩) t c4) s4.best (if s4.found = 0 then -1 else s4.sum) (decide (s4.found = 1))) := HCUT.out.setMap k6m ⟨_, by rw [freeF_give HIN1.out HIN2.out] at hm6; exact hm6⟩
              have K6 : Hid (Keeps (fun b => g ≤ b) w w6m) := HC5.out.trans k6m (fun x _ e => by omega)
              clear hm5 hm6 k6m hz6m
              obtain ⟨vb6, hb6, _⟩ := RAW6.out.blk
              have r3 := hb6.cell 3
              have q3 := hb6.frozen 3
              simp at r3
              clear hb6
              have hz66 := RAW6.out.lt
              have RAW7 : Hid (IdSt (w6m.setCell ⟨g, 3, none⟩ (.int .i64 ((occ.length : Int) - ((held.length : Int) + 1) + 1))) g (some ⟨b, o, none⟩) c ps A2 c2 exp occ budget at_ held (.slice (some ⟨ab, ao, none⟩) t c4) s4) := by
                have h := RAW6.out.setMis ((occ.length : Int) - ((held.length : Int) + 1) + 1)
                have e : (occ.length : Int) - ((held.length : Int) + 1) + 1 = (occ.length : Int) - (held.length : Int) := by omega
                rw [e] at h ⊢
                exact h.st H0.out.nd H0.out.sub H4.out.sums
              have K7 : Hid (Keeps (fun b => g ≤ b) w (w6m.setCell ⟨g, 3, none⟩ (.int .i64 ((occ.length : Int) - ((held.length : Int) + 1) + 1)))) := K6.out.setCell (p := ⟨g, 3, none⟩) (fun _ => Nat.le_refl _) _
              cases ok4 with
              | false =>
                go_wp2
                go_ret
                have hR : R = (false, s4) := by rw [HI.out, tries_cons, if_neg HS1'.out, if_neg HNO.out, HSEC.out, if_pos ⟨HIN1.out, HIN2.out⟩, ← HS.out, HR4.out]; rfl
                subst hR
                exact ⟨rfl, K7.out, _, RAW7.out⟩
              | true =>
                go_wp2
                go_roundw
                case rel => exact ⟨j + 1, by omega, by go_num, _, s4, RAW7.out, hst4, K7.out, by rw [HI.out, tries_cons, if_neg HS1'.out, if_neg HNO.out, HSEC.out, if_pos ⟨HIN1.out, HIN2.out⟩, ← HS.out, HR4.out]; rfl⟩
                case measure => simp [intOf]; omega
            · have hfv : (freeF occ held st.sec).getD (.bool false) = .bool false := by
                unfold freeF
                by_cases h1 : st.sec ∈ occ
                · have h2 : st.sec ∈ held := by
                    rcases Classical.em (st.sec ∈ held) with h | h
                    · exact h
                    · exact absurd ⟨h1, h⟩ hfree
                  simp [h1, h2]
                · simp [h1]
              rw [hfv] at HLK
              have HNF := Lib.hid hfree; clear hfree hm1
              have ST1 : Hid (IdSt (W0.setCell ⟨g, 5, none⟩ (.int .i64 ((s0.steps : Int) + 1))) g (some ⟨b, o, none⟩) c ps A2 c2 exp occ budget at_ held (.slice Aa at_.length ca) s1) := RAW1.out.st H0.out.nd H0.out.sub (by rw [HS.out]; exact H0.out.sums)
              go_wp2
              go_roundw
              case rel => exact ⟨j + 1, by omega, by go_num, _, s1, ST1.out, HS1.out, KW.out, by rw [HI.out, tries_cons, if_neg HS1'.out, if_neg HNO.out, HSEC.out, if_neg HNF.out, ← HS.out]⟩
              case measure => simp [intOf]; omega
          · have HOUT : Hid ((j : Int) - 1 < 0 ∨ (p'.length : Int) ≤ (j : Int) - 1) := by show _ ∨ _; omega
            have h01 : j = 0 ∨ j = p'.length + 1 := by omega
            rcases h01 with h0 | h0
            · have g3 : decide ((0 : Int) ≤ (j : Int) - 1) = false := by simp; omega
              have hj0 : j < 1 := by omega
              have HJ := Lib.hid h0; clear h0
              go_wp2
              go_quiet (fail)
              generalize hW0 : World.drewN wr _ = W0
              have H0 : Hid (IdSt W0 g (some ⟨b, o, none⟩) c ps A2 c2 exp occ budget at_ held (.slice Aa at_.length ca) s0) := by subst hW0; exact H.out.keeps0 ((Keeps.refl _ _).drewN _)
              have KW1 : Hid (Keeps (fun b => g ≤ b) w W0) := by subst hW0; exact KW0.out.drewN _
              have k1 : W0.cell? ⟨b, o + t, none⟩ = some (.slice A' p'.length c') := by subst hW0; exact k1
              have HPR0 : Hid (RPath W0 (fun b => b < g) [.slice A' p'.length c'] p') := by subst hW0; exact HPR.out
              clear hW0 c0 c4 c5 f5
              obtain ⟨vb0, hb0, _⟩ := H0.out.blk
              have c0 := hb0.cell 0
              have c2' := hb0.cell 2
              have c3 := hb0.cell 3
              have c5 := hb0.cell 5
              have c6 := hb0.cell 6
              have f3 := hb0.frozen 3
              have f5 := hb0.frozen 5
              simp at c0 c2' c3 c5 c6
              have hgz0 := H0.out.lt
              clear hb0
              have RAW1 : Hid (IdRaw (W0.setCell ⟨g, 5, none⟩ (.int .i64 ((s0.steps : Int) + 1))) g (some ⟨b, o, none⟩) c ps A2 c2 exp ((occ.length : Int) - (held.length : Int)) budget s1.steps (freeF occ held) at_ (.slice Aa at_.length ca) s1.best (if s1.found = 0 then -1 else s1.sum) (decide (s1.found = 1))) := by
                have h := H0.out.raw.setSteps (s0.steps + 1) 0
                rw [HS.out]
                exact h
              have KW : Hid (Keeps (fun b => g ≤ b) w (W0.setCell ⟨g, 5, none⟩ (.int .i64 ((s0.steps : Int) + 1)))) := KW1.out.setCell (p := ⟨g, 5, none⟩) (fun _ => Nat.le_refl _) _
              have hz6 := RAW1.out.lt
              go_wp2_with (at_builtin; refine wpList_append_L tyInt RInt.ok rfl (.tmp 95) (.tmp 97) rfl (RAW1.out.at_.alloc RInt.ok _) rfl _ [.int .i64 ((j : Int) - 1)] rfl (Blk.new' _ _ _ (by simp)) rfl ((j : Int) - 1) (S := fun _ => False) rfl (fun _ h => h.elim) (by simp [Value.oneCell']) (by omega) (by omega) (by simp; omega) ?_; intro v2 w2 HO2 HK2 HA2; obtain ⟨A6, c6x, hv6, _, _⟩ := HO2.form; rw [List.length_append, List.length_singleton] at hv6; subst hv6; have AF := RAW1.out.after HK2; have E6 := AF.1; have F6 := AF.2.1; have HKK := Lib.hid AF.2.2; clear AF; have HRP := Lib.hid (RAW1.out.push HO2 HK2 HA2); clear HO2 HK2 HA2)
              generalize hW3 : World.setCell w2 _ _ = W3
              have K3 : Hid (Keeps (fun b => g ≤ b) (W0.setCell ⟨g, 5, none⟩ (.int .i64 ((s0.steps : Int) + 1))) W3) := by subst hW3; exact HKK.out.setCell (p := ⟨g, 6, none⟩) (fun _ => Nat.le_refl _) _
              have HRP3 : Hid (IdSt W3 g (some ⟨b, o, none⟩) c ps A2 c2 exp occ budget (at_ ++ [(j : Int) - 1]) (held) (.slice A6 (at_.length + 1) c6x) s1) := by subst hW3; exact HRP.out.st H0.out.nd H0.out.sub (by rw [HS.out]; exact H0.out.sums)
              clear hW3 E6 F6 HRP HKK
              have ec : (t : Int) + 1 = ((t + 1 : Nat) : Int) := by omega
              rw [ec]
              clear ec
              refine (IH.out (t + 1) W3 (at_ ++ [(j : Int) - 1]) (held) (.slice A6 (at_.length + 1) c6x) s1 HR.out (by omega) (by have := HAT.out; simp; omega) (fun x hx => by
                rcases List.mem_append.1 hx with hx | hx
                · exact HSM.out x hx
                · simp at hx; subst hx; omega) (by have := HS1.out; omega) HRP3.out).mono ?_
              rintro e w4 ⟨rfl, k4, vat4, h4⟩
              generalize hR4 : search exp occ budget rest (at_ ++ [(j : Int) - 1]) (held) s1 = R4 at h4
              obtain ⟨ok4, s4⟩ := R4
              have hst4 : s4.steps ≤ budget := by
                have := search_steps exp occ budget rest (at_ ++ [(j : Int) - 1]) (held) s1 (by have := HS1.out; omega)
                rw [hR4] at this; exact this
              have HR4 := Lib.hid hR4; clear hR4
              simp only [] at h4
              obtain ⟨A4, c4, rfl, hc4, hc42⟩ := h4.at_.form
              have hA4 : ∃ ad, A4 = some ad := by
                cases A4 with
                | some ad => exact ⟨ad, rfl⟩
                | none =>
                  have := h4.at_.form
                  obtain ⟨ess, _, hrow, _⟩ := h4.at_
                  rcases hrow.2 with ⟨_, hn⟩ | ⟨_, _, _, he, _⟩
                  · simp at hn
                  · cases he
              obtain ⟨⟨ab, ao, asp⟩, rfl⟩ := hA4
              obtain rfl : asp = none := by
                obtain ⟨ess, _, hrow, _⟩ := h4.at_
                rcases hrow.2 with ⟨he, _⟩ | ⟨_, _, _, he, _⟩
                · cases he
                · injection he with he; injection he with he; injection he
              have K4 : Hid (Keeps (fun b => g ≤ b) w w4) := (KW.out.trans K3.out (fun _ _ h => h)).trans k4 (fun _ _ h => h)
              have H4 := Lib.hid h4; clear h4 k4
              obtain ⟨vb4, hb4, _⟩ := H4.out.blk
              have m0 := hb4.cell 0
              have m2 := hb4.cell 2
              have m3 := hb4.cell 3
              have m6 := hb4.cell 6
              have n3 := hb4.frozen 3
              have n6 := hb4.frozen 6
              simp at m0 m2 m3 m6
              have hl4 : (at_ ++ [(j : Int) - 1]).length = t + 1 := by have := HAT.out; simp; omega
              rw [hl4] at hc4
              have hat1 : at_.length ≤ t := by have := HAT.out; omega
              have hat2 : t ≤ at_.length := by have := HAT.out; omega
              have HL4 := Lib.hid hl4; clear hl4 hb4
              have HCUT : Hid (IdRaw (w4.setCell ⟨g, 6, none⟩ (.slice (some ⟨ab, ao, none⟩) t c4)) g (some ⟨b, o, none⟩) c ps A2 c2 exp ((occ.length : Int) - ((held).length : Int)) budget s4.steps (freeF occ (held)) at_ (.slice (some ⟨ab, ao, none⟩) t c4) s4.best (if s4.found = 0 then -1 else s4.sum) (decide (s4.found = 1))) := by
                have h := H4.out.raw.cut (t := t) (by rw [HL4.out]; omega)
                have e : (at_ ++ [(j : Int) - 1]).take t = at_ := by rw [← HAT.out]; simp
                rw [e] at h; exact h
              have hz4 := H4.out.lt
              cases ok4 with
              | false =>
                go_wp2
                generalize hW5 : World.setCell w4 _ _ = W5
                have K5 : Hid (Keeps (fun b => g ≤ b) w W5) := by subst hW5; exact K4.out.setCell (p := ⟨g, 6, none⟩) (fun _ => Nat.le_refl _) _
                have S5 : Hid (IdSt W5 g (some ⟨b, o, none⟩) c ps A2 c2 exp occ budget at_ held (.slice (some ⟨ab, ao, none⟩) t c4) s4) := by subst hW5; exact HCUT.out.st H4.out.nd H4.out.sub H4.out.sums
                clear hW5
                go_ret
                have hR : R = (false, s4) := by rw [HI.out, tries_cons, if_neg HS1'.out, if_pos HOUT.out, ← HS.out, HR4.out]; rfl
                subst hR
                exact ⟨rfl, K5.out, _, S5.out⟩
              | true =>
                go_wp2
                generalize hW5 : World.setCell w4 _ _ = W5
                have K5 : Hid (Keeps (fun b => g ≤ b) w W5) := by subst hW5; exact K4.out.setCell (p := ⟨g, 6, none⟩) (fun _ => Nat.le_refl _) _
                have S5 : Hid (IdSt W5 g (some ⟨b, o, none⟩) c ps A2 c2 exp occ budget at_ held (.slice (some ⟨ab, ao, none⟩) t c4) s4) := by subst hW5; exact HCUT.out.st H4.out.nd H4.out.sub H4.out.sums
                clear hW5
                go_roundw
                case rel => exact ⟨j + 1, by omega, by go_num, _, s4, S5.out, hst4, K5.out, by rw [HI.out, tries_cons, if_neg HS1'.out, if_pos HOUT.out, ← HS.out, HR4.out]; rfl⟩
                case measure => simp [intOf]; omega
            · have g3 : decide ((0 : Int) ≤ (j : Int) - 1) = true := by simp; omega
              have g4 : decide ((j : Int) - 1 < (p'.length : Int)) = false := by simp; omega
              have hj0 : p'.length < j := by omega
              have HJ := Lib.hid h0; clear h0
              go_wp2
              go_quiet (fail)
              generalize hW0 : World.drewN wr _ = W0
              have H0 : Hid (IdSt W0 g (some ⟨b, o, none⟩) c ps A2 c2 exp occ budget at_ held (.slice Aa at_.length ca) s0) := by subst hW0; exact H.out.keeps0 ((Keeps.refl _ _).drewN _)
              have KW1 : Hid (Keeps (fun b => g ≤ b) w W0) := by subst hW0; exact KW0.out.drewN _
              have k1 : W0.cell? ⟨b, o + t, none⟩ = some (.slice A' p'.length c') := by subst hW0; exact k1
              have HPR0 : Hid (RPath W0 (fun b => b < g) [.slice A' p'.length c'] p') := by subst hW0; exact HPR.out
              clear hW0 c0 c4 c5 f5
              obtain ⟨vb0, hb0, _⟩ := H0.out.blk
              have c0 := hb0.cell 0
              have c2' := hb0.cell 2
              have c3 := hb0.cell 3
              have c5 := hb0.cell 5
              have c6 := hb0.cell 6
              have f3 := hb0.frozen 3
              have f5 := hb0.frozen 5
              simp at c0 c2' c3 c5 c6
              have hgz0 := H0.out.lt
              clear hb0
              have RAW1 : Hid (IdRaw (W0.setCell ⟨g, 5, none⟩ (.int .i64 ((s0.steps : Int) + 1))) g (some ⟨b, o, none⟩) c ps A2 c2 exp ((occ.length : Int) - (held.length : Int)) budget s1.steps (freeF occ held) at_ (.slice Aa at_.length ca) s1.best (if s1.found = 0 then -1 else s1.sum) (decide (s1.found = 1))) := by
                have h := H0.out.raw.setSteps (s0.steps + 1) 0
                rw [HS.out]
                exact h
              have KW : Hid (Keeps (fun b => g ≤ b) w (W0.setCell ⟨g, 5, none⟩ (.int .i64 ((s0.steps : Int) + 1)))) := KW1.out.setCell (p := ⟨g, 5, none⟩) (fun _ => Nat.le_refl _) _
              have hz6 := RAW1.out.lt
              go_wp2_with (at_builtin; refine wpList_append_L tyInt RInt.ok rfl (.tmp 95) (.tmp 97) rfl (RAW1.out.at_.alloc RInt.ok _) rfl _ [.int .i64 ((j : Int) - 1)] rfl (Blk.new' _ _ _ (by simp)) rfl ((j : Int) - 1) (S := fun _ => False) rfl (fun _ h => h.elim) (by simp [Value.oneCell']) (by omega) (by omega) (by simp; omega) ?_; intro v2 w2 HO2 HK2 HA2; obtain ⟨A6, c6x, hv6, _, _⟩ := HO2.form; rw [List.length_append, List.length_singleton] at hv6; subst hv6; have AF := RAW1.out.after HK2; have E6 := AF.1; have F6 := AF.2.1; have HKK := Lib.hid AF.2.2; clear AF; have HRP := Lib.hid (RAW1.out.push HO2 HK2 HA2); clear HO2 HK2 HA2)
              generalize hW3 : World.setCell w2 _ _ = W3
              have K3 : Hid (Keeps (fun b => g ≤ b) (W0.setCell ⟨g, 5, none⟩ (.int .i64 ((s0.steps : Int) + 1))) W3) := by subst hW3; exact HKK.out.setCell (p := ⟨g, 6, none⟩) (fun _ => Nat.le_refl _) _
              have HRP3 : Hid (IdSt W3 g (some ⟨b, o, none⟩) c ps A2 c2 exp occ budget (at_ ++ [(j : Int) - 1]) (held) (.slice A6 (at_.length + 1) c6x) s1) := by subst hW3; exact HRP.out.st H0.out.nd H0.out.sub (by rw [HS.out]; exact H0.out.sums)
              clear hW3 E6 F6 HRP HKK
              have ec : (t : Int) + 1 = ((t + 1 : Nat) : Int) := by omega
              rw [ec]
              clear ec
              refine (IH.out (t + 1) W3 (at_ ++ [(j : Int) - 1]) (held) (.slice A6 (at_.length + 1) c6x) s1 HR.out (by omega) (by have := HAT.out; simp; omega) (fun x hx => by
                rcases List.mem_append.1 hx with hx | hx
                · exact HSM.out x hx
                · simp at hx; subst hx; omega) (by have := HS1.out; omega) HRP3.out).mono ?_
              rintro e w4 ⟨rfl, k4, vat4, h4⟩
              generalize hR4 : search exp occ budget rest (at_ ++ [(j : Int) - 1]) (held) s1 = R4 at h4
              obtain ⟨ok4, s4⟩ := R4
              have hst4 : s4.steps ≤ budget := by
                have := search_steps exp occ budget rest (at_ ++ [(j : Int) - 1]) (held) s1 (by have := HS1.out; omega)
                rw [hR4] at this; exact this
              have HR4 := Lib.hid hR4; clear hR4
              simp only [] at h4
              obtain ⟨A4, c4, rfl, hc4, hc42⟩ := h4.at_.form
              have hA4 : ∃ ad, A4 = some ad := by
                cases A4 with
                | some ad => exact ⟨ad, rfl⟩
                | none =>
                  have := h4.at_.form
                  obtain ⟨ess, _, hrow, _⟩ := h4.at_
                  rcases hrow.2 with ⟨_, hn⟩ | ⟨_, _, _, he, _⟩
                  · simp at hn
                  · cases he
              obtain ⟨⟨ab, ao, asp⟩, rfl⟩ := hA4
              obtain rfl : asp = none := by
                obtain ⟨ess, _, hrow, _⟩ := h4.at_
                rcases hrow.2 with ⟨he, _⟩ | ⟨_, _, _, he, _⟩
                · cases he
                · injection he with he; injection he with he; injection he
              have K4 : Hid (Keeps (fun b => g ≤ b) w w4) := (KW.out.trans K3.out (fun _ _ h => h)).trans k4 (fun _ _ h => h)
              have H4 := Lib.hid h4; clear h4 k4
              obtain ⟨vb4, hb4, _⟩ := H4.out.blk
              have m0 := hb4.cell 0
              have m2 := hb4.cell 2
              have m3 := hb4.cell 3
              have m6 := hb4.cell 6
              have n3 := hb4.frozen 3
              have n6 := hb4.frozen 6
              simp at m0 m2 m3 m6
              have hl4 : (at_ ++ [(j : Int) - 1]).length = t + 1 := by have := HAT.out; simp; omega
              rw [hl4] at hc4
              have hat1 : at_.length ≤ t := by have := HAT.out; omega
              have hat2 : t ≤ at_.length := by have := HAT.out; omega
              have HL4 := Lib.hid hl4; clear hl4 hb4
              have HCUT : Hid (IdRaw (w4.setCell ⟨g, 6, none⟩ (.slice (some ⟨ab, ao, none⟩) t c4)) g (some ⟨b, o, none⟩) c ps A2 c2 exp ((occ.length : Int) - ((held).length : Int)) budget s4.steps (freeF occ (held)) at_ (.slice (some ⟨ab, ao, none⟩) t c4) s4.best (if s4.found = 0 then -1 else s4.sum) (decide (s4.found = 1))) := by
                have h := H4.out.raw.cut (t := t) (by rw [HL4.out]; omega)
                have e : (at_ ++ [(j : Int) - 1]).take t = at_ := by rw [← HAT.out]; simp
                rw [e] at h; exact h
              have hz4 := H4.out.lt
              cases ok4 with
              | false =>
                go_wp2
                generalize hW5 : World.setCell w4 _ _ = W5
                have K5 : Hid (Keeps (fun b => g ≤ b) w W5) := by subst hW5; exact K4.out.setCell (p := ⟨g, 6, none⟩) (fun _ => Nat.le_refl _) _
                have S5 : Hid (IdSt W5 g (some ⟨b, o, none⟩) c ps A2 c2 exp occ budget at_ held (.slice (some ⟨ab, ao, none⟩) t c4) s4) := by subst hW5; exact HCUT.out.st H4.out.nd H4.out.sub H4.out.sums
                clear hW5
                go_ret
                have hR : R = (false, s4) := by rw [HI.out, tries_cons, if_neg HS1'.out, if_pos HOUT.out, ← HS.out, HR4.out]; rfl
                subst hR
                exact ⟨rfl, K5.out, _, S5.out⟩
              | true =>
                go_wp2
                generalize hW5 : World.setCell w4 _ _ = W5
                have K5 : Hid (Keeps (fun b => g ≤ b) w W5) := by subst hW5; exact K4.out.setCell (p := ⟨g, 6, none⟩) (fun _ => Nat.le_refl _) _
                have S5 : Hid (IdSt W5 g (some ⟨b, o, none⟩) c ps A2 c2 exp occ budget at_ held (.slice (some ⟨ab, ao, none⟩) t c4) s4) := by subst hW5; exact HCUT.out.st H4.out.nd H4.out.sub H4.out.sums
                clear hW5
                go_roundw
                case rel => exact ⟨j + 1, by omega, by go_num, _, s4, S5.out, hst4, K5.out, by rw [HI.out, tries_cons, if_neg HS1'.out, if_pos HOUT.out, ← HS.out, HR4.out]; rfl⟩
                case measure => simp [intOf]; omega
      · obtain rfl : j = p'.length + 2 := by omega
        have hR : Hid (R = (true, s0)) := by rw [HI0.out, posns_end]; rfl
        go_wp2
        go_ret
        have hR' := hR.out
        subst hR'
        exact ⟨rfl, KW0.out, _, H.out⟩

end Go.Proofs.YtbfgmbakeofcbaaGreat
