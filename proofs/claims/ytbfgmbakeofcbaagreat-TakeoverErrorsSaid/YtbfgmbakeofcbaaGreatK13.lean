/- Contract of the reference's recursive search. Conditions: as the theorem says. -/
import Derived.Test.YtbfgmbakeofcbaaGreatK12
namespace Go.Proofs.YtbfgmbakeofcbaaGreat
open Go.RowKit

section
variable {w w' : World} {g : Nat} {A : Option Addr} {c : Nat} {ps : List (List Stage)} {A2 : Option Addr} {c2 : Nat} {exp : List Int} {A3 : Option Addr} {c3 : Nat} {occ : List Int} {budget : Nat} {at_ : List Int} {vat : Value} {s : ISt}
theorem SkSt.after {o : Obj} (h : SkSt w g A c ps A2 c2 exp A3 c3 occ budget at_ vat s) (k : Keeps (fun b => vat.ownBlock = some b) (w.alloc o) w') : w'.cell? ⟨g, 5, none⟩ = some vat ∧ w'.frozen? ⟨g, 5, none⟩ = false ∧ Keeps (fun b => g ≤ b) w w' := by
  obtain ⟨vb, h1, h2⟩ := h.blk
  have far : ∀ b, b < g + 1 → ¬ (vat.ownBlock = some b) := fun b hb e => by have := h.at_.lt e; omega
  have k2 : Keeps (fun b => vat.ownBlock = some b) w w' := ((Keeps.refl _ w).alloc o).trans k (fun _ _ h => h)
  have hb := h1.kept k2 (far g (by omega))
  refine ⟨by simpa using hb.cell 5, hb.frozen 5, k2.mono (fun x _ e => ?_)⟩
  have := h.at_.lt e; omega
theorem SkSt.push {o : Obj} {vat' : Value} {x : Int} (h : SkSt w g A c ps A2 c2 exp A3 c3 occ budget at_ vat s) (ho : OwnL 3 1 RInt w' (g + 1) (g + 1) vat' (at_ ++ [x])) (k : Keeps (fun b => vat.ownBlock = some b) (w.alloc o) w')
    (ha : vat'.ownBlock = vat.ownBlock ∨ vat'.ownBlock = some (w.alloc o).heap.size) : SkSt (w'.setCell ⟨g, 5, none⟩ vat') g A c ps A2 c2 exp A3 c3 occ budget (at_ ++ [x]) vat' s := by
  have hg := h.lt
  obtain ⟨vb, h1, h2⟩ := h.blk
  have far : ∀ b, b < g + 1 → ¬ (vat.ownBlock = some b) := fun b hb e => by have := h.at_.lt e; omega
  have k2 : Keeps (fun b => vat.ownBlock = some b) w w' := ((Keeps.refl _ w).alloc o).trans k (fun _ _ h => h)
  have k3 : Keeps (fun b => vat.ownBlock = some b ∨ b = g) w (w'.setCell ⟨g, 5, none⟩ vat') := (k2.mono (fun _ _ h => .inl h)).setCell (p := ⟨g, 5, none⟩) (fun _ => .inr rfl) _
  have kg := (Keeps.refl (· = g) w').setCell (p := ⟨g, 5, none⟩) (fun _ => rfl) vat'
  refine ⟨⟨vb, ?_, ?_⟩, ho.keeps RInt.ok kg (fun b _ e => by omega), ?_, ?_, ?_, h.sums, h.fnd⟩
  · have := (h1.kept k2 (far g (by omega))).set_ 5 vat'; simpa using this
  · refine k3.rd RInts.ok h2 (fun b hb => ⟨hb.2.1, fun e => by rcases e with e | e; exact hb.2.2 e; omega⟩) (fun b hb => ⟨hb.1, Nat.lt_of_lt_of_le hb.2.1 k3.size, fun e => ?_⟩)
    rcases ha with ha | ha
    · exact hb.2.2 (by rw [← ha]; exact e)
    · rw [ha] at e; injection e with e; have := hb.2.1; simp at e; omega
  · exact k3.rd RPaths.ok h.pth (fun b hb => ⟨by omega, fun e => by rcases e with e | e; exact far b (by omega) e; omega⟩) (fun _ h => h)
  · exact k3.rd RInts.ok h.ex (fun b hb => ⟨by omega, fun e => by rcases e with e | e; exact far b (by omega) e; omega⟩) (fun _ h => h)
  · exact k3.rd RInts.ok h.oc (fun b hb => ⟨by omega, fun e => by rcases e with e | e; exact far b (by omega) e; omega⟩) (fun _ h => h)
theorem SkSt.cut {Aa : Addr} {n cc t : Nat} (h : SkSt w g A c ps A2 c2 exp A3 c3 occ budget at_ (.slice (some Aa) n cc) s) (ht : t ≤ at_.length) : SkSt (w.setCell ⟨g, 5, none⟩ (.slice (some Aa) t cc)) g A c ps A2 c2 exp A3 c3 occ budget (at_.take t) (.slice (some Aa) t cc) s := by
  have hg := h.lt
  obtain ⟨vb, h1, h2⟩ := h.blk
  have k := (Keeps.refl (· = g) w).setCell (p := ⟨g, 5, none⟩) (fun _ => rfl) (.slice (some Aa) t cc)
  refine ⟨⟨vb, by have := h1.set_ 5 (.slice (some Aa) t cc); simpa using this, k.rd RInts.ok h2 (fun b hb => ⟨hb.2.1, by omega⟩) (fun b hb => ⟨hb.1, Nat.lt_of_lt_of_le hb.2.1 k.size, hb.2.2⟩)⟩, (h.at_.cut ht (.inl (by simp))).keeps RInt.ok k (fun b _ h => by omega), ?_, ?_, ?_, h.sums, h.fnd⟩
  · exact k.rd RPaths.ok h.pth (fun b hb => ⟨by omega, by omega⟩) (fun _ h => h)
  · exact k.rd RInts.ok h.ex (fun b hb => ⟨by omega, by omega⟩) (fun _ h => h)
  · exact k.rd RInts.ok h.oc (fun b hb => ⟨by omega, by omega⟩) (fun _ h => h)
theorem SkSt.step (h : SkSt w g A c ps A2 c2 exp A3 c3 occ budget at_ vat s) : SkSt (w.setCell ⟨g, 4, none⟩ (.int .i64 ((s.steps : Int) + 1))) g A c ps A2 c2 exp A3 c3 occ budget at_ vat { s with steps := s.steps + 1 } := by
  obtain ⟨vb, h1, h2⟩ := h.blk
  refine h.set ((Keeps.refl (· = g) w).setCell (p := ⟨g, 4, none⟩) (fun _ => rfl) _) h.sums (by have := h.fnd; show s.found ≤ s.steps + 1 + 1; omega) (vb := vb) ?_ h2
  have := h1.set_ 4 (.int .i64 ((s.steps : Int) + 1)); simpa using this
theorem SkSt.some_ {x : Int} {A4 : Option Addr} {n c4 : Nat} (h4 : SkSt w g A c ps A2 c2 exp A3 c3 occ budget (at_ ++ [x]) (.slice A4 n c4) s) : ∃ ab ao, A4 = some ⟨ab, ao, none⟩ := by
  obtain ⟨ess, hl, hrow, _⟩ := h4.at_
  rcases hrow.2 with ⟨_, hn⟩ | ⟨_, _, _, he, _⟩
  · simp at hn
  · injection he with he; exact ⟨_, _, he⟩
end

theorem tries_down {ps : List (List Stage)} {occ : List Int} {budget : Nat} {F : List Int → List Int → ISt → Bool × ISt} {p : List Stage} {at_ : List Int} {x : Int} {xs : List Int} {s s1 : ISt} (hs : s.steps ≠ budget) (h1 : s1 = { s with steps := s.steps + 1 }) (hp : ps[at_.length]? = some p) (h : (x < 0 ∨ (p.length : Int) ≤ x) ∨ (secAt p x ∈ occ ∧ secAt p x ∉ heldOf ps at_)) :
    tries occ budget F p at_ (heldOf ps at_) (x :: xs) s = if (F (at_ ++ [x]) (heldOf ps (at_ ++ [x])) s1).1 = true then tries occ budget F p at_ (heldOf ps at_) xs (F (at_ ++ [x]) (heldOf ps (at_ ++ [x])) s1).2 else F (at_ ++ [x]) (heldOf ps (at_ ++ [x])) s1 := by
  subst h1
  rw [tries_cons, if_neg hs, heldOf_snoc ps at_ p x hp]
  by_cases h2 : x < 0 ∨ (p.length : Int) ≤ x
  · rw [if_pos h2, if_pos h2, List.append_nil]
  · rw [if_neg h2, if_neg h2, if_pos (h.resolve_left h2)]
theorem tries_skip {ps : List (List Stage)} {occ : List Int} {budget : Nat} {F : List Int → List Int → ISt → Bool × ISt} {p : List Stage} {at_ : List Int} {x : Int} {xs : List Int} {s s1 : ISt} (hs : s.steps ≠ budget) (h1 : s1 = { s with steps := s.steps + 1 }) (h2 : ¬ (x < 0 ∨ (p.length : Int) ≤ x)) (h3 : ¬ (secAt p x ∈ occ ∧ secAt p x ∉ heldOf ps at_)) :
    tries occ budget F p at_ (heldOf ps at_) (x :: xs) s = tries occ budget F p at_ (heldOf ps at_) xs s1 := by
  subst h1; rw [tries_cons, if_neg hs, if_neg h2, if_neg h3]

def RInv (w wr : World) (g : Nat) (A : Option Addr) (c : Nat) (ps : List (List Stage)) (A2 : Option Addr) (c2 : Nat) (exp : List Int) (A3 : Option Addr) (c3 : Nat) (occ : List Int) (budget : Nat) (at_ : List Int) (F : List Int → List Int → ISt → Bool × ISt) (p : List Stage) (R : Bool × ISt) (j : Nat) : Prop :=
  ∃ vat s, SkSt wr g A c ps A2 c2 exp A3 c3 occ budget at_ vat s ∧ s.steps ≤ budget ∧ Keeps (fun b => g ≤ b) w wr ∧ R = tries occ budget F p at_ (heldOf ps at_) ((posns p).drop j) s

set_option maxRecDepth 100000 in
set_option maxHeartbeats 2000000 in
theorem rassign_any (g : Nat) (A : Option Addr) (c : Nat) (ps : List (List Stage)) (A2 : Option Addr) (c2 : Nat) (exp : List Int) (A3 : Option Addr) (c3 : Nat) (occ : List Int) (budget : Nat) (hfix : IdFix ps exp occ budget) (hsn : secsNonneg ps) :
    ∀ (rest : List (List Stage)) (w : World) (at_ : List Int) (vat : Value) (s : ISt), ps.drop at_.length = rest → at_.length ≤ ps.length → (∀ x ∈ at_, -1 ≤ x ∧ x ≤ 64) → s.steps ≤ budget → s.found ≤ s.steps →
      SkSt w g A c ps A2 c2 exp A3 c3 occ budget at_ vat s →
      Calls Tryz.prog 27 #[.pointer (some ⟨g, 0, none⟩)] w fun e w' => e = .returned (.bool (search exp occ budget rest at_ (heldOf ps at_) s).1) ∧ Keeps (fun b => g ≤ b) w w' ∧
        ((search exp occ budget rest at_ (heldOf ps at_) s).1 = true → ∃ vat', SkSt w' g A c ps A2 c2 exp A3 c3 occ budget at_ vat' (search exp occ budget rest at_ (heldOf ps at_) s).2) := by
  intro rest
  induction rest with
  | nil =>
    intro w at_ vat s hrest htl hsm hst hfn h
    have ht : at_.length = ps.length := by
      have := congrArg List.length hrest; simp at this; omega
    obtain ⟨vb, hblk, _⟩ := h.blk
    obtain ⟨Aa, ca, rfl, hca, hca2⟩ := h.at_.form
    have c0 := hblk.cell 0
    have c5 := hblk.cell 5
    simp at c0 c5
    have hc := h.pth.caps
    have g1 : ((at_.length : Int) == (ps.length : Int)) = true := by simp; omega
    have HA : Hid (at_.length = exp.length) := by rw [ht, hfix.l]; rfl
    have HF := Lib.hid hfix; clear hfix
    have hl10 : at_.length ≤ 10 := by rw [ht]; have := HF.out.n; omega
    have hb20 := HF.out.b
    have H := Lib.hid h
    have HSM := Lib.hid hsm
    have HSN := Lib.hid hsn
    have Q : Hid (search exp occ budget [] at_ (heldOf ps at_) s = (true, complete exp occ at_ (heldOf ps at_) s)) := by show search exp occ budget [] at_ (heldOf ps at_) s = _; rw [search]
    clear h hsm hblk hrest ht hsn
    go_enter Tryz.func27, Tryz.ntmps27
    go_wp2_with (go_at_call 50; refine (assigned_any w g A c ps A2 c2 exp A3 c3 occ budget at_ _ s H.out ⟨hl10, HSM.out⟩ HF.out.e HA.out htl HSN.out hfn (by omega)).mono ?_; rintro e w1 ⟨rfl, h1, k1⟩)
    go_ret
    rw [Q.out]
    exact ⟨rfl, k1, fun _ => ⟨_, h1⟩⟩
  | cons p rest ih =>
    intro w at_ vat s hrest htl hsm hst hfn h
    have IH := Lib.hid ih; clear ih
    have htp : ps[at_.length]? = some p := by
      have h1 : (ps.drop at_.length)[0]? = some p := by rw [hrest]; rfl
      simpa using h1
    have hrest' : ps.drop (at_.length + 1) = rest := by
      have := drop_cons' htp
      rw [hrest] at this
      injection this with _ this; exact this.symm
    have htl2 := getElem?_lt htp
    have HF := Lib.hid hfix; clear hfix
    have hp64 := HF.out.p p (List.mem_of_getElem? htp)
    have hn10 := HF.out.n
    have hb20 := HF.out.b
    obtain ⟨vb, hblk, _⟩ := h.blk
    obtain ⟨Av, cv, rfl, hcv, hcv2⟩ := h.at_.form
    have c0 := hblk.cell 0
    have c5 := hblk.cell 5
    simp at c0 c5
    have hc := h.pth.caps
    have hlat : at_.length ≤ 10 := by omega
    have g1 : ((at_.length : Int) == (ps.length : Int)) = false := by simp; omega
    have Q : Hid (search exp occ budget (p :: rest) at_ (heldOf ps at_) s = tries occ budget (search exp occ budget rest) p at_ (heldOf ps at_) (posns p) s) := by show search exp occ budget (p :: rest) at_ (heldOf ps at_) s = _; rw [search]
    have hA0 : RInv w w g A c ps A2 c2 exp A3 c3 occ budget at_ (search exp occ budget rest) p (search exp occ budget (p :: rest) at_ (heldOf ps at_) s) 0 := ⟨_, s, h, hst, Keeps.refl _ _, Q.out⟩
    have HT := Lib.hid htp
    have HR := Lib.hid hrest'
    have HSM := Lib.hid hsm
    have HSN := Lib.hid hsn
    have hgw := h.lt
    generalize hRR : search exp occ budget (p :: rest) at_ (heldOf ps at_) s = R at hA0
    have HRR := Lib.hid hRR; clear hRR
    clear h hblk hrest hrest' htp hsm Q hsn
    go_enter Tryz.func27, Tryz.ntmps27
    go_wp2_with fail
    go_loopw [4] (fun i wr => ∃ j : Nat, j ≤ p.length + 2 ∧ i = .int .i64 ((j : Int) - 1) ∧ RInv w wr g A c ps A2 c2 exp A3 c3 occ budget at_ (search exp occ budget rest) p R j) (fun i _ => p.length + 2 - (intOf i + 1).toNat)
    case atStart => exact ⟨0, by omega, by go_num, hA0⟩
    case round =>
      obtain ⟨j, hj, rfl, vat1, s0, h1, hst1, hk1, hi1⟩ := hrel
      clear hA0 c0 c5
      obtain ⟨vb1, hb1, _⟩ := h1.blk
      obtain ⟨Aa, ca, rfl, hca, hca2⟩ := h1.at_.form
      have c0 := hb1.cell 0
      have c3' := hb1.cell 3
      have c4 := hb1.cell 4
      have c5 := hb1.cell 5
      have f4 := hb1.frozen 4
      simp at c0 c3' c4 c5
      obtain ⟨b, o, p', A', c', hAA, hb, hp', k1, hpr⟩ := RSS.at_ h1.pth htl2
      obtain rfl := same_of hp' HT.out
      subst hAA
      have hcp := hpr.caps
      have HPR := Lib.hid hpr; clear hpr hp'
      have hgz := h1.lt
      have H := Lib.hid h1; clear h1 hb1
      have KW0 := Lib.hid hk1; clear hk1
      have HI0 := Lib.hid hi1; clear hi1
      have hbg : b < g := hb
      by_cases hlt : j < p'.length + 2
      · have HI : Hid (R = tries occ budget (search exp occ budget rest) p' at_ (heldOf ps at_) (((j : Int) - 1) :: (posns p').drop (j + 1)) s0) := by rw [← posns_drop p' hlt]; exact HI0.out
        clear HI0
        have H1 := Lib.hid H.out.step
        have K1 : Hid (Keeps (fun b => g ≤ b) w (wr.setCell ⟨g, 4, none⟩ (.int .i64 ((s0.steps : Int) + 1)))) := KW0.out.setCell (p := ⟨g, 4, none⟩) (fun _ => Nat.le_refl _) _
        by_cases hsb : s0.steps = budget
        · have g2 : decide ((s0.steps : Int) + 1 > (budget : Int)) = true := by simp; omega
          have HSB := Lib.hid hsb; clear hsb
          go_wp2
          go_quiet (fail)
          go_wp2
          go_ret
          have hR : R = (false, s0) := by rw [HI.out, tries_cons, if_pos HSB.out]
          subst hR
          exact ⟨rfl, K1.out.drewN _, fun h => (by cases h)⟩
        · have g2 : decide ((s0.steps : Int) + 1 > (budget : Int)) = false := by simp; omega
          have HS1' := Lib.hid hsb; clear hsb
          obtain ⟨s1, hs1⟩ : ∃ s1 : ISt, s1 = { s0 with steps := s0.steps + 1 } := ⟨_, rfl⟩
          rw [← hs1] at H1
          have HS1 : Hid (s1.steps ≤ budget) := by have h := HS1'.out; show s1.steps ≤ budget; rw [hs1]; simp; omega
          have HFN : Hid (s1.found ≤ s1.steps) := by have h := H.out.fnd; show s1.found ≤ s1.steps; rw [hs1]; exact h
          have HS := Lib.hid hs1; clear hs1
          go_wp2
          go_quiet (fail)
          generalize hW0 : World.drewN (World.setCell wr _ _) _ = W0
          have H0 : Hid (SkSt W0 g (some ⟨b, o, none⟩) c ps A2 c2 exp A3 c3 occ budget at_ (.slice Aa at_.length ca) s1) := by subst hW0; exact H1.out.keeps0 ((Keeps.refl _ _).drewN _)
          have KW1 : Hid (Keeps (fun b => g ≤ b) w W0) := by subst hW0; exact K1.out.drewN _
          have k0 : Keeps (· = g) wr W0 := by subst hW0; exact ((Keeps.refl (· = g) wr).setCell (p := ⟨g, 4, none⟩) (fun _ => rfl) _).drewN _
          have k1 : W0.cell? ⟨b, o + at_.length, none⟩ = some (.slice A' p'.length c') := by rw [k0.cell (by show b < _; omega) (by show b ≠ g; omega)]; exact k1
          have HPR0 : Hid (RPath W0 (fun b => b < g) [.slice A' p'.length c'] p') := k0.rd RPath.ok HPR.out (fun b hb => ⟨by omega, by omega⟩) (fun _ h => h)
          clear hW0 c0 c3' c4 c5 f4 k0 H1 K1 HPR
          obtain ⟨vb0, hb0, _⟩ := H0.out.blk
          have c0 := hb0.cell 0
          have c5 := hb0.cell 5
          simp at c0 c5
          have f5 := hb0.frozen 5
          have hgz0 := H0.out.lt
          clear hb0
          by_cases hin : 1 ≤ j ∧ j ≤ p'.length
          · have g3 : decide ((j : Int) - 1 ≥ 0) = true := by simp; omega
            have g4 : decide ((j : Int) - 1 < (p'.length : Int)) = true := by simp; omega
            have HNO : Hid (¬ ((j : Int) - 1 < 0 ∨ (p'.length : Int) ≤ (j : Int) - 1)) := by show ¬ (_ ∨ _); omega
            obtain ⟨b3, o3, st, A3', c3', rfl, hb3, hs3, k3, _⟩ := RPath.at_ HPR0.out (k := j - 1) (by omega)
            have HSEC : Hid (secAt p' ((j : Int) - 1) = st.sec) := by
              show secAt p' ((j : Int) - 1) = st.sec
              unfold secAt
              rw [if_neg (by omega), show ((j : Int) - 1).toNat = j - 1 from by omega, hs3]
            have hsec0 : 0 ≤ st.sec := HSN.out p' (List.mem_of_getElem? HT.out) st (List.mem_of_getElem? hs3)
            clear hs3
            have hb3g : b3 < g := hb3
            have HFR := Lib.hid (free_any W0 g _ c ps A2 c2 exp A3 c3 occ budget at_ _ s1 H0.out (by omega) HSN.out st.sec hsec0)
            by_cases hfree : st.sec ∈ occ ∧ st.sec ∉ heldOf ps at_
            · have gd : decide (st.sec ∈ occ ∧ st.sec ∉ heldOf ps at_) = true := by simpa using hfree
              rw [gd] at HFR
              have HDN : Hid (((j : Int) - 1 < 0 ∨ (p'.length : Int) ≤ (j : Int) - 1) ∨ (secAt p' ((j : Int) - 1) ∈ occ ∧ secAt p' ((j : Int) - 1) ∉ heldOf ps at_)) := by rw [HSEC.out]; exact .inr hfree
              clear hfree gd
              -- REST: H7 : SkSt W7 .. s1, KW7 : Keeps w W7, HDN
              have HDOWN : Hid (R = if (search exp occ budget rest (at_ ++ [(j : Int) - 1]) (heldOf ps (at_ ++ [(j : Int) - 1])) s1).1 = true then tries occ budget (search exp occ budget rest) p' at_ (heldOf ps at_) ((posns p').drop (j + 1)) (search exp occ budget rest (at_ ++ [(j : Int) - 1]) (heldOf ps (at_ ++ [(j : Int) - 1])) s1).2 else search exp occ budget rest (at_ ++ [(j : Int) - 1]) (heldOf ps (at_ ++ [(j : Int) - 1])) s1) := by
                rw [HI.out]; exact tries_down HS1'.out HS.out HT.out HDN.out
              go_wp2_with (first | (go_at_call 51; refine HFR.out.mono ?_; rintro e W7 ⟨rfl, n7, hw7⟩; have H7 : Hid (SkSt W7 g (some ⟨b, o, none⟩) c ps A2 c2 exp A3 c3 occ budget at_ (.slice Aa at_.length ca) s1) := (by rw [hw7]; exact H0.out.keeps0 ((Keeps.refl _ _).drewN _)); have KW7 : Hid (Keeps (fun b => g ≤ b) w W7) := (by rw [hw7]; exact KW1.out.drewN _); clear hw7; obtain ⟨vb7, hb7, _⟩ := H7.out.blk; have d5 := hb7.cell 5; have e5 := hb7.frozen 5; simp at d5; have hz7 := H7.out.lt; clear hb7 k1 c0 c5 f5) | (at_builtin; refine wpList_append_L tyInt RInt.ok rfl (.tmp 81) (.tmp 83) rfl (H7.out.at_.alloc RInt.ok _) rfl _ [.int .i64 ((j : Int) - 1)] rfl (Blk.new' _ _ _ (by simp)) rfl ((j : Int) - 1) (S := fun _ => False) rfl (fun _ h => h.elim) (by simp [Value.oneCell']) (by omega) (by omega) (by simp; omega) ?_; intro v2 w2 HO2 HK2 HA2; obtain ⟨A6, c6x, hv6, _, _⟩ := HO2.form; rw [List.length_append, List.length_singleton] at hv6; subst hv6; have AF := H7.out.after HK2; have E6 := AF.1; have F6 := AF.2.1; have HKK := Lib.hid AF.2.2; clear AF; have HRP := Lib.hid (H7.out.push HO2 HK2 HA2); clear HO2 HK2 HA2))
              generalize hW3 : World.setCell w2 _ _ = W3
              have K3 : Hid (Keeps (fun b => g ≤ b) W7 W3) := by subst hW3; exact HKK.out.setCell (p := ⟨g, 5, none⟩) (fun _ => Nat.le_refl _) _
              have HRP3 : Hid (SkSt W3 g (some ⟨b, o, none⟩) c ps A2 c2 exp A3 c3 occ budget (at_ ++ [(j : Int) - 1]) (.slice A6 (at_.length + 1) c6x) s1) := by subst hW3; exact HRP.out
              clear hW3 E6 F6 HRP HKK
              refine (IH.out W3 (at_ ++ [(j : Int) - 1]) (.slice A6 (at_.length + 1) c6x) s1 (by rw [List.length_append, List.length_singleton]; exact HR.out) (by simp; omega) (fun x hx => by
                rcases List.mem_append.1 hx with hx | hx
                · exact HSM.out x hx
                · simp at hx; subst hx; omega) (by have := HS1.out; omega) HFN.out HRP3.out).mono ?_
              rintro e w4 ⟨rfl, k4, h4⟩
              generalize hR4 : search exp occ budget rest (at_ ++ [(j : Int) - 1]) (heldOf ps (at_ ++ [(j : Int) - 1])) s1 = R4 at h4
              have HST4 : Hid (R4.2.steps ≤ budget) := by
                have := search_steps exp occ budget rest (at_ ++ [(j : Int) - 1]) (heldOf ps (at_ ++ [(j : Int) - 1])) s1 (by have := HS1.out; omega)
                rw [hR4] at this; exact this
              have HD2 : Hid (R = if R4.1 = true then tries occ budget (search exp occ budget rest) p' at_ (heldOf ps at_) ((posns p').drop (j + 1)) R4.2 else R4) := by
                have := HDOWN.out; rw [hR4] at this; exact this
              clear hR4 HDOWN
              obtain ⟨ok4, s4⟩ := R4
              have K4 : Hid (Keeps (fun b => g ≤ b) w w4) := (KW7.out.trans K3.out (fun _ _ h => h)).trans k4 (fun _ _ h => h)
              clear k4
              cases ok4 with
              | false =>
                clear h4
                go_wp2
                go_ret
                have hR : R = (false, s4) := HD2.out
                subst hR
                exact ⟨rfl, K4.out, fun h => (by cases h)⟩
              | true =>
                obtain ⟨vat4, h4⟩ := h4 rfl
                obtain ⟨A4, c4, rfl, hc4, hc42⟩ := h4.at_.form
                obtain ⟨ab, ao, rfl⟩ := h4.some_
                have hl4 : (at_ ++ [(j : Int) - 1]).length = at_.length + 1 := by simp
                rw [hl4] at hc4 h4
                have H4 := Lib.hid h4; clear h4 hl4
                obtain ⟨vb4, hb4, _⟩ := H4.out.blk
                have m5 := hb4.cell 5
                have n5 := hb4.frozen 5
                simp at m5
                clear hb4
                have HCUT : Hid (SkSt (w4.setCell ⟨g, 5, none⟩ (.slice (some ⟨ab, ao, none⟩) at_.length c4)) g (some ⟨b, o, none⟩) c ps A2 c2 exp A3 c3 occ budget at_ (.slice (some ⟨ab, ao, none⟩) at_.length c4) s4) := by
                  have h := H4.out.cut (t := at_.length) (by simp)
                  have e : (at_ ++ [(j : Int) - 1]).take at_.length = at_ := by simp
                  rw [e] at h; exact h
                have hz4 := H4.out.lt
                have KC := Lib.hid ((K4.out.setCell (p := ⟨g, 5, none⟩) (fun _ => Nat.le_refl _) (.slice (some ⟨ab, ao, none⟩) at_.length c4)))
                go_wp2
                go_roundw
                case rel => exact ⟨j + 1, by omega, by go_num, _, s4, HCUT.out, HST4.out, KC.out, HD2.out⟩
                case measure => simp [intOf]; omega
            · have gd : decide (st.sec ∈ occ ∧ st.sec ∉ heldOf ps at_) = false := by simpa using hfree
              rw [gd] at HFR
              have HNF : Hid (¬ (secAt p' ((j : Int) - 1) ∈ occ ∧ secAt p' ((j : Int) - 1) ∉ heldOf ps at_)) := by rw [HSEC.out]; exact hfree
              clear hfree gd
              go_wp2_with (go_at_call 51; refine HFR.out.mono ?_; rintro e w7 ⟨rfl, n7, rfl⟩)
              go_roundw
              case rel => exact ⟨j + 1, by omega, by go_num, _, s1, H0.out.keeps0 ((Keeps.refl _ _).drewN n7), HS1.out, KW1.out.drewN n7, by rw [HI.out]; exact tries_skip HS1'.out HS.out HNO.out HNF.out⟩
              case measure => simp [intOf]; omega
          · have HDN : Hid (((j : Int) - 1 < 0 ∨ (p'.length : Int) ≤ (j : Int) - 1) ∨ (secAt p' ((j : Int) - 1) ∈ occ ∧ secAt p' ((j : Int) - 1) ∉ heldOf ps at_)) := .inl (by omega)
            obtain ⟨W7, hW7⟩ : ∃ W7, W7 = W0 := ⟨_, rfl⟩
            subst hW7
            have H7 := H0
            have KW7 := KW1
            by_cases hj0 : j = 0
            · have g3 : decide ((j : Int) - 1 ≥ 0) = false := by simp; omega
              have hj1 : (j : Int) < 1 := by omega
              clear hj0
              -- REST: H7 : SkSt W7 .. s1, KW7 : Keeps w W7, HDN
              have HDOWN : Hid (R = if (search exp occ budget rest (at_ ++ [(j : Int) - 1]) (heldOf ps (at_ ++ [(j : Int) - 1])) s1).1 = true then tries occ budget (search exp occ budget rest) p' at_ (heldOf ps at_) ((posns p').drop (j + 1)) (search exp occ budget rest (at_ ++ [(j : Int) - 1]) (heldOf ps (at_ ++ [(j : Int) - 1])) s1).2 else search exp occ budget rest (at_ ++ [(j : Int) - 1]) (heldOf ps (at_ ++ [(j : Int) - 1])) s1) := by
                rw [HI.out]; exact tries_down HS1'.out HS.out HT.out HDN.out
              go_wp2_with (at_builtin; refine wpList_append_L tyInt RInt.ok rfl (.tmp 81) (.tmp 83) rfl (H7.out.at_.alloc RInt.ok _) rfl _ [.int .i64 ((j : Int) - 1)] rfl (Blk.new' _ _ _ (by simp)) rfl ((j : Int) - 1) (S := fun _ => False) rfl (fun _ h => h.elim) (by simp [Value.oneCell']) (by omega) (by omega) (by simp; omega) ?_; intro v2 w2 HO2 HK2 HA2; obtain ⟨A6, c6x, hv6, _, _⟩ := HO2.form; rw [List.length_append, List.length_singleton] at hv6; subst hv6; have AF := H7.out.after HK2; have E6 := AF.1; have F6 := AF.2.1; have HKK := Lib.hid AF.2.2; clear AF; have HRP := Lib.hid (H7.out.push HO2 HK2 HA2); clear HO2 HK2 HA2)
              generalize hW3 : World.setCell w2 _ _ = W3
              have K3 : Hid (Keeps (fun b => g ≤ b) W7 W3) := by subst hW3; exact HKK.out.setCell (p := ⟨g, 5, none⟩) (fun _ => Nat.le_refl _) _
              have HRP3 : Hid (SkSt W3 g (some ⟨b, o, none⟩) c ps A2 c2 exp A3 c3 occ budget (at_ ++ [(j : Int) - 1]) (.slice A6 (at_.length + 1) c6x) s1) := by subst hW3; exact HRP.out
              clear hW3 E6 F6 HRP HKK
              refine (IH.out W3 (at_ ++ [(j : Int) - 1]) (.slice A6 (at_.length + 1) c6x) s1 (by rw [List.length_append, List.length_singleton]; exact HR.out) (by simp; omega) (fun x hx => by
                rcases List.mem_append.1 hx with hx | hx
                · exact HSM.out x hx
                · simp at hx; subst hx; omega) (by have := HS1.out; omega) HFN.out HRP3.out).mono ?_
              rintro e w4 ⟨rfl, k4, h4⟩
              generalize hR4 : search exp occ budget rest (at_ ++ [(j : Int) - 1]) (heldOf ps (at_ ++ [(j : Int) - 1])) s1 = R4 at h4
              have HST4 : Hid (R4.2.steps ≤ budget) := by
                have := search_steps exp occ budget rest (at_ ++ [(j : Int) - 1]) (heldOf ps (at_ ++ [(j : Int) - 1])) s1 (by have := HS1.out; omega)
                rw [hR4] at this; exact this
              have HD2 : Hid (R = if R4.1 = true then tries occ budget (search exp occ budget rest) p' at_ (heldOf ps at_) ((posns p').drop (j + 1)) R4.2 else R4) := by
                have := HDOWN.out; rw [hR4] at this; exact this
              clear hR4 HDOWN
              obtain ⟨ok4, s4⟩ := R4
              have K4 : Hid (Keeps (fun b => g ≤ b) w w4) := (KW7.out.trans K3.out (fun _ _ h => h)).trans k4 (fun _ _ h => h)
              clear k4
              cases ok4 with
              | false =>
                clear h4
                go_wp2
                go_ret
                have hR : R = (false, s4) := HD2.out
                subst hR
                exact ⟨rfl, K4.out, fun h => (by cases h)⟩
              | true =>
                obtain ⟨vat4, h4⟩ := h4 rfl
                obtain ⟨A4, c4, rfl, hc4, hc42⟩ := h4.at_.form
                obtain ⟨ab, ao, rfl⟩ := h4.some_
                have hl4 : (at_ ++ [(j : Int) - 1]).length = at_.length + 1 := by simp
                rw [hl4] at hc4 h4
                have H4 := Lib.hid h4; clear h4 hl4
                obtain ⟨vb4, hb4, _⟩ := H4.out.blk
                have m5 := hb4.cell 5
                have n5 := hb4.frozen 5
                simp at m5
                clear hb4
                have HCUT : Hid (SkSt (w4.setCell ⟨g, 5, none⟩ (.slice (some ⟨ab, ao, none⟩) at_.length c4)) g (some ⟨b, o, none⟩) c ps A2 c2 exp A3 c3 occ budget at_ (.slice (some ⟨ab, ao, none⟩) at_.length c4) s4) := by
                  have h := H4.out.cut (t := at_.length) (by simp)
                  have e : (at_ ++ [(j : Int) - 1]).take at_.length = at_ := by simp
                  rw [e] at h; exact h
                have hz4 := H4.out.lt
                have KC := Lib.hid ((K4.out.setCell (p := ⟨g, 5, none⟩) (fun _ => Nat.le_refl _) (.slice (some ⟨ab, ao, none⟩) at_.length c4)))
                go_wp2
                go_roundw
                case rel => exact ⟨j + 1, by omega, by go_num, _, s4, HCUT.out, HST4.out, KC.out, HD2.out⟩
                case measure => simp [intOf]; omega
            · have g3 : decide ((j : Int) - 1 ≥ 0) = true := by simp; omega
              have g4 : decide ((j : Int) - 1 < (p'.length : Int)) = false := by simp; omega
              -- REST: H7 : SkSt W7 .. s1, KW7 : Keeps w W7, HDN
              have HDOWN : Hid (R = if (search exp occ budget rest (at_ ++ [(j : Int) - 1]) (heldOf ps (at_ ++ [(j : Int) - 1])) s1).1 = true then tries occ budget (search exp occ budget rest) p' at_ (heldOf ps at_) ((posns p').drop (j + 1)) (search exp occ budget rest (at_ ++ [(j : Int) - 1]) (heldOf ps (at_ ++ [(j : Int) - 1])) s1).2 else search exp occ budget rest (at_ ++ [(j : Int) - 1]) (heldOf ps (at_ ++ [(j : Int) - 1])) s1) := by
                rw [HI.out]; exact tries_down HS1'.out HS.out HT.out HDN.out
              go_wp2_with (at_builtin; refine wpList_append_L tyInt RInt.ok rfl (.tmp 81) (.tmp 83) rfl (H7.out.at_.alloc RInt.ok _) rfl _ [.int .i64 ((j : Int) - 1)] rfl (Blk.new' _ _ _ (by simp)) rfl ((j : Int) - 1) (S := fun _ => False) rfl (fun _ h => h.elim) (by simp [Value.oneCell']) (by omega) (by omega) (by simp; omega) ?_; intro v2 w2 HO2 HK2 HA2; obtain ⟨A6, c6x, hv6, _, _⟩ := HO2.form; rw [List.length_append, List.length_singleton] at hv6; subst hv6; have AF := H7.out.after HK2; have E6 := AF.1; have F6 := AF.2.1; have HKK := Lib.hid AF.2.2; clear AF; have HRP := Lib.hid (H7.out.push HO2 HK2 HA2); clear HO2 HK2 HA2)
              generalize hW3 : World.setCell w2 _ _ = W3
              have K3 : Hid (Keeps (fun b => g ≤ b) W7 W3) := by subst hW3; exact HKK.out.setCell (p := ⟨g, 5, none⟩) (fun _ => Nat.le_refl _) _
              have HRP3 : Hid (SkSt W3 g (some ⟨b, o, none⟩) c ps A2 c2 exp A3 c3 occ budget (at_ ++ [(j : Int) - 1]) (.slice A6 (at_.length + 1) c6x) s1) := by subst hW3; exact HRP.out
              clear hW3 E6 F6 HRP HKK
              refine (IH.out W3 (at_ ++ [(j : Int) - 1]) (.slice A6 (at_.length + 1) c6x) s1 (by rw [List.length_append, List.length_singleton]; exact HR.out) (by simp; omega) (fun x hx => by
                rcases List.mem_append.1 hx with hx | hx
                · exact HSM.out x hx
                · simp at hx; subst hx; omega) (by have := HS1.out; omega) HFN.out HRP3.out).mono ?_
              rintro e w4 ⟨rfl, k4, h4⟩
              generalize hR4 : search exp occ budget rest (at_ ++ [(j : Int) - 1]) (heldOf ps (at_ ++ [(j : Int) - 1])) s1 = R4 at h4
              have HST4 : Hid (R4.2.steps ≤ budget) := by
                have := search_steps exp occ budget rest (at_ ++ [(j : Int) - 1]) (heldOf ps (at_ ++ [(j : Int) - 1])) s1 (by have := HS1.out; omega)
                rw [hR4] at this; exact this
              have HD2 : Hid (R = if R4.1 = true then tries occ budget (search exp occ budget rest) p' at_ (heldOf ps at_) ((posns p').drop (j + 1)) R4.2 else R4) := by
                have := HDOWN.out; rw [hR4] at this; exact this
              clear hR4 HDOWN
              obtain ⟨ok4, s4⟩ := R4
              have K4 : Hid (Keeps (fun b => g ≤ b) w w4) := (KW7.out.trans K3.out (fun _ _ h => h)).trans k4 (fun _ _ h => h)
              clear k4
              cases ok4 with
              | false =>
                clear h4
                go_wp2
                go_ret
                have hR : R = (false, s4) := HD2.out
                subst hR
                exact ⟨rfl, K4.out, fun h => (by cases h)⟩
              | true =>
                obtain ⟨vat4, h4⟩ := h4 rfl
                obtain ⟨A4, c4, rfl, hc4, hc42⟩ := h4.at_.form
                obtain ⟨ab, ao, rfl⟩ := h4.some_
                have hl4 : (at_ ++ [(j : Int) - 1]).length = at_.length + 1 := by simp
                rw [hl4] at hc4 h4
                have H4 := Lib.hid h4; clear h4 hl4
                obtain ⟨vb4, hb4, _⟩ := H4.out.blk
                have m5 := hb4.cell 5
                have n5 := hb4.frozen 5
                simp at m5
                clear hb4
                have HCUT : Hid (SkSt (w4.setCell ⟨g, 5, none⟩ (.slice (some ⟨ab, ao, none⟩) at_.length c4)) g (some ⟨b, o, none⟩) c ps A2 c2 exp A3 c3 occ budget at_ (.slice (some ⟨ab, ao, none⟩) at_.length c4) s4) := by
                  have h := H4.out.cut (t := at_.length) (by simp)
                  have e : (at_ ++ [(j : Int) - 1]).take at_.length = at_ := by simp
                  rw [e] at h; exact h
                have hz4 := H4.out.lt
                have KC := Lib.hid ((K4.out.setCell (p := ⟨g, 5, none⟩) (fun _ => Nat.le_refl _) (.slice (some ⟨ab, ao, none⟩) at_.length c4)))
                go_wp2
                go_roundw
                case rel => exact ⟨j + 1, by omega, by go_num, _, s4, HCUT.out, HST4.out, KC.out, HD2.out⟩
                case measure => simp [intOf]; omega
      · obtain rfl : j = p'.length + 2 := by omega
        have hR : Hid (R = (true, s0)) := by rw [HI0.out, posns_end]; rfl
        go_wp2
        go_ret
        have hR' := hR.out
        subst hR'
        exact ⟨rfl, KW0.out, fun _ => ⟨_, H.out⟩⟩

end Go.Proofs.YtbfgmbakeofcbaaGreat
