/- Trains that follow their orders: after any number of events of a line the rest of it is the line, and no two trains hold the same section. No program in sight. -/
import Derived.Test.YtcbpiidbkjaneaaGreatTimesP
import Derived.Test.YtcbpiidbkjaneaaGreatUsedP
import Derived.Test.YtcbpiidbkjaneaaGreatRdM
namespace Go.Proofs.YtcbpiidbkjaneaaGreat
open Go.RowKit

theorem lineFrom_take (go : List Int → Option Nat) : ∀ (m f : Nat) (now : List Int), m ≤ f →
    (lineFrom go f now).1.take m = (lineFrom go m now).1 ∧ (lineFrom go f now).2 = (lineFrom go (f - m) (lineFrom go m now).2).2 ∧ (lineFrom go f now).1 = (lineFrom go m now).1 ++ (lineFrom go (f - m) (lineFrom go m now).2).1
  | 0, f, now, _ => by simp [lineFrom]
  | m + 1, 0, now, h => by omega
  | m + 1, f + 1, now, h => by
    simp only [lineFrom]
    cases e : go now with
    | none =>
      simp only [List.take_nil, List.nil_append, true_and]
      have : ∀ k, lineFrom go k now = ([], now) := fun k => by
        cases k with
        | zero => rfl
        | succ k => simp only [lineFrom, e]
      rw [this]; exact ⟨rfl, rfl⟩
    | some t =>
      obtain ⟨i1, i2, i3⟩ := lineFrom_take go m f (now.set t (nowAt now t + 1)) (by omega)
      simp only [List.take_succ_cons, List.cons_append, i1, Nat.add_sub_add_right]
      exact ⟨trivial, i2, by rw [← i3]⟩

/-- no arc leads from an event that has not happened to one that has -/
def AgreeP (ps : List (List Stage)) (os : List Order) (now : List Int) : Prop := ∀ (t k : Nat) (p : List Stage), ps[t]? = some p → k ≤ p.length → (k : Int) ≤ nowAt now t → ∀ a ∈ rowG ps os ⟨(t : Int), (k : Int)⟩, doneR now (evAt ps a.frm.toNat) = true
theorem evAt_fst {ps : List (List Stage)} {t k : Nat} {p : List Stage} (hp : ps[t]? = some p) (hk : k ≤ p.length) : evAt ps (fst ps t + k) = ⟨(t : Int), (k : Int)⟩ := by unfold evAt; rw [evs_at hp hk]; rfl
theorem agreesB_iff {ps : List (List Stage)} {os : List Order} {now : List Int} : agreesB ps now (arcsOf (evs ps).length (gAdds ps os)) = true ↔ AgreeP ps os now := by
  unfold agreesB AgreeP
  simp only [List.all_eq_true, List.mem_range, Bool.not_eq_true', Bool.and_eq_false_iff, Bool.not_eq_false']
  constructor
  · intro h t k p hp hk hd a ha
    have hlt := (evAt_num hp hk).2
    have hn : num ps ⟨(t : Int), (k : Int)⟩ = fst ps t + k := by simp [num]
    have := h _ hlt a ha
    rw [hn, evAt_fst hp hk] at this
    rcases this with h1 | h1
    · unfold doneR at h1; simp at h1; omega
    · exact h1
  · intro h i hi a ha
    obtain ⟨t, k, p, _, hp, hk, rfl⟩ := evs_inv ps.length (Nat.le_refl _) (i := i) (by rw [fst_len]; exact hi)
    rw [evAt_fst hp hk]
    by_cases hd : (k : Int) ≤ nowAt now t
    · exact .inr (h t k p hp hk hd a (by unfold rowG; rw [show num ps ⟨(t : Int), (k : Int)⟩ = fst ps t + k from by simp [num]]; exact ha))
    · left; unfold doneR; simp; omega
theorem evAt_tr (ps : List (List Stage)) (i : Nat) : 0 ≤ (evAt ps i).tr := by
  unfold evAt
  cases h : (evs ps)[i]? with
  | none => simp
  | some u =>
    have hm := List.mem_of_getElem? h
    unfold evs at hm
    obtain ⟨q, _, hq⟩ := List.mem_flatMap.1 hm
    obtain ⟨k, _, rfl⟩ := List.mem_map.1 hq
    simp
theorem AgreeP.step {ps : List (List Stage)} {os : List Order} {now : List Int} (hg : Gd ps now) (h : AgreeP ps os now) {t : Nat} (ht : t < ps.length) (hc : canGo ps (arcsOf (evs ps).length (gAdds ps os)) now t = true) : AgreeP ps os (now.set t (nowAt now t + 1)) := by
  have hl : t < now.length := by rw [hg.1]; exact ht
  have hG := hg.2 t ht
  intro u k p hp hk hd a ha
  have hd2 : doneR (now.set t (nowAt now t + 1)) ⟨(u : Int), (k : Int)⟩ = true := by unfold doneR; simpa using hd
  have hdone : doneR now (evAt ps a.frm.toNat) = true := by
    rcases (done_set hl (by simp)).1 hd2 with h1 | h1
    · exact h u k p hp hk (by unfold doneR at h1; simpa using h1) a ha
    · simp only [Ref.mk.injEq] at h1
      have hu : u = t := by omega
      subst hu
      simp only [canGo, Bool.and_eq_true, decide_eq_true_eq, List.all_eq_true] at hc
      refine hc.2 a ?_
      unfold rowG num at ha
      simp only [Int.toNat_natCast] at ha
      rw [show ((fst ps u : Int) + nowAt now u + 1).toNat = fst ps u + k from by omega]
      exact ha
  exact (done_set hl (evAt_tr _ _)).2 (.inl hdone)
theorem line_agree {ps : List (List Stage)} {os : List Order} : ∀ (f : Nat) (now : List Int), Gd ps now → AgreeP ps os now → AgreeP ps os (lineFrom (readyP ps (arcsOf (evs ps).length (gAdds ps os))) f now).2
  | 0, now, _, h => h
  | f + 1, now, hg, h => by
    simp only [lineFrom]
    cases e : readyP ps (arcsOf (evs ps).length (gAdds ps os)) now with
    | none => exact h
    | some t =>
      obtain ⟨h1, h2⟩ := readyP_sound ps (arcsOf (evs ps).length (gAdds ps os)) now t e
      have hcan : canGo ps (arcsOf (evs ps).length (gAdds ps os)) now t = true := by
        unfold readyP at e; exact List.find?_some e
      exact line_agree f _ (hg.step h1 h2) (h.step hg h1 hcan)
/-- after some events of a line the orders still have one -/
theorem steady {ps : List (List Stage)} {os : List Order} {at_ : List Int} (hck : checkO ps os = true) (hg : Gd ps at_) (hok : okP ps os at_ = true) {m : Nat} (hm : m ≤ (runP ps os at_).1.length) :
    Gd ps (play at_ ((runP ps os at_).1.take m)) ∧ okP ps os (play at_ ((runP ps os at_).1.take m)) = true := by
  have hv := (checkO_facts hck).1
  have hs := readyP_sound ps (arcsOf (evs ps).length (gAdds ps os))
  have hlen : (runP ps os at_).1.length ≤ total ps at_ := by have := (lineFrom_inv hs 1000 at_ hg).2.1; unfold runP; omega
  have htl := total_le hv hg
  obtain ⟨h1, h2, h3⟩ := lineFrom_take (readyP ps (arcsOf (evs ps).length (gAdds ps os))) m 1000 at_ (by omega)
  have e1 : (runP ps os at_).1.take m = (lineFrom (readyP ps (arcsOf (evs ps).length (gAdds ps os))) m at_).1 := h1
  have hl1 : (lineFrom (readyP ps (arcsOf (evs ps).length (gAdds ps os))) m at_).1.length = m := by rw [← e1, List.length_take]; omega
  rw [e1, (line_steps hck m at_ hg).2]
  obtain ⟨i1, i2, _⟩ := lineFrom_inv hs m at_ hg
  have iag := line_agree (os := os) m at_ hg
  unfold okP runP at hok ⊢
  rw [h2] at hok
  generalize (lineFrom (readyP ps (arcsOf (evs ps).length (gAdds ps os))) m at_).2 = n1 at *
  refine ⟨i1, ?_⟩
  rw [Bool.and_eq_true] at hok ⊢
  refine ⟨?_, agreesB_iff.2 (iag (agreesB_iff.1 hok.2))⟩
  rw [lineFrom_fuel hs 1000 (1000 - m) n1 i1 (by omega) (by omega)]
  exact hok.1

theorem nodup_leR {l m : List Ref} (hl : l.Nodup) (h : ∀ x ∈ l, x ∈ m) : l.length ≤ m.length := by
  induction l generalizing m with
  | nil => simp
  | cons a l ih =>
    obtain ⟨ha, hl⟩ := List.nodup_cons.1 hl
    have hm := h a (by simp)
    have := ih (m := m.erase a) hl (fun x hx => by
      have hx' := h x (by simp [hx])
      exact (List.mem_erase_of_ne (by rintro rfl; exact ha hx)).2 hx')
    rw [List.length_erase_of_mem hm] at this
    have := List.length_pos_of_mem hm
    simp; omega
theorem nodup_fullR {l m : List Ref} (hl : l.Nodup) (h : ∀ x ∈ l, x ∈ m) (hlen : m.length ≤ l.length) : ∀ x ∈ m, x ∈ l := by
  intro x hx
  rcases Classical.em (x ∈ l) with h' | h'
  · exact h'
  · have := nodup_leR (l := x :: l) (m := m) (List.nodup_cons.2 ⟨h', hl⟩) (fun y hy => by
      rcases List.mem_cons.1 hy with rfl | hy
      · exact hx
      · exact h y hy)
    simp at this; omega
theorem secAt_some {p : List Stage} {a : Int} (h : 0 ≤ secAt p a) : ∃ (k : Nat) (s : Stage), a = (k : Int) ∧ p[k]? = some s ∧ secAt p a = s.sec := by
  unfold secAt at h ⊢
  by_cases g : a < 0
  · rw [if_pos g] at h; omega
  · rw [if_neg g] at h ⊢
    cases e : p[a.toNat]? with
    | none => rw [e] at h; simp at h
    | some s => exact ⟨a.toNat, s, by omega, e, rfl⟩
theorem heldOf_nodup : ∀ (ps : List (List Stage)) (l : List Int), (∀ p ∈ ps, ∀ s ∈ p, 0 ≤ s.sec) → l.length = ps.length →
    (∀ (t u : Nat) p q a b, t < u → ps[t]? = some p → ps[u]? = some q → l[t]? = some a → l[u]? = some b → 0 ≤ secAt p a → secAt p a ≠ secAt q b) → (heldOf ps l).Nodup
  | [], l, _, _, _ => by simp [heldOf]
  | p :: ps, [], _, h, _ => by simp at h
  | p :: ps, a :: l, hs, hl, h => by
    have ih := heldOf_nodup ps l (fun q hq => hs q (by simp [hq])) (by simpa using hl) (fun t u p q a b htu hp hq ha hb => h (t + 1) (u + 1) p q a b (by omega) (by simpa using hp) (by simpa using hq) (by simpa using ha) (by simpa using hb))
    simp only [heldOf]
    have hn := secAt_neg (hs p (by simp)) a
    by_cases g : a < 0 ∨ (p.length : Int) ≤ a
    · rw [if_pos g]; simpa using ih
    · rw [if_neg g]
      have h0 : 0 ≤ secAt p a := by rcases hn with ⟨h1, _⟩ | ⟨_, h2⟩; exact absurd h1 g; exact h2
      simp only [List.singleton_append, List.nodup_cons]
      refine ⟨fun hm => ?_, ih⟩
      obtain ⟨hm, _⟩ := (mem_heldOf (fun q hq => hs q (by simp [hq])) l _).1 hm
      obtain ⟨u, hu⟩ := List.mem_iff_getElem?.1 hm
      unfold secList at hu
      rw [List.getElem?_zipWith] at hu
      cases e1 : ps[u]? with
      | none => rw [e1] at hu; simp at hu
      | some q =>
        cases e2 : l[u]? with
        | none => rw [e1, e2] at hu; simp at hu
        | some b =>
          rw [e1, e2] at hu
          simp at hu
          exact h 0 (u + 1) p q a b (by omega) rfl (by simpa using e1) rfl (by simpa using e2) h0 hu.symm
/-- where no arc is against the positions, no two trains hold the same section -/
theorem agree_excl {ps : List (List Stage)} {os : List Order} {now : List Int} (hck : checkO ps os = true) (hg : Gd ps now) (h : AgreeP ps os now) {t u k m : Nat} {p q : List Stage} {s s' : Stage} (htu : t ≠ u) (hp : ps[t]? = some p) (hq : ps[u]? = some q)
    (hs : p[k]? = some s) (hs' : q[m]? = some s') (hsec : s.sec = s'.sec) (hk : nowAt now t = (k : Int)) (hm : nowAt now u = (m : Int)) : False := by
  have key : ∀ (t u k m : Nat) (p q : List Stage) (s s' : Stage), t ≠ u → ps[t]? = some p → ps[u]? = some q → p[k]? = some s → q[m]? = some s' → s.sec = s'.sec → nowAt now t = (k : Int) → nowAt now u = (m : Int) →
      ∀ o ∈ os, o.res = s.sec → ∀ (i j : Nat), i < j → o.uses[i]? = some ⟨(t : Int), (k : Int)⟩ → o.uses[j]? = some ⟨(u : Int), (m : Int)⟩ → False := by
    intro t u k m p q s s' htu hp hq hs hs' hsec hk hm o ho hr i j hij hi hj
    obtain ⟨_, _, hf⟩ := checkO_facts hck
    obtain ⟨hin, _, hbef⟩ := hf o ho
    have hvm : (⟨(t : Int), (k : Int)⟩ : Ref) ∈ o.uses.take j := List.mem_of_getElem? (by rw [List.getElem?_take_of_lt hij]; exact hi)
    obtain ⟨w, hL, hwt, hws⟩ := last_of (o.uses.take j) (fun x hx => hin x (List.mem_of_mem_take hx)) _ hvm
    obtain ⟨tr', kr, pr, hpr, hkr, hrel, htr⟩ := rel_event (hin w (List.mem_of_mem_take hL.1))
    have hrs := relOf_le (ps := ps) (r := o.res) hwt.symm hws
    have hvr : (relOf ps o.res ⟨(t : Int), (k : Int)⟩).st = (k : Int) + 1 := by
      unfold relOf secOf
      simp only [Int.toNat_natCast, hp, Option.getD_some, hs, Option.elim_some]
      rw [if_pos hr.symm]
    simp only at hwt hws
    rw [hrel, hvr] at hrs
    simp only at hrs
    have : tr' = t := by omega
    subst this
    have lm := getElem?_lt hs'
    have harc := (mem_rowG hck hq (k := m) (by omega)).2 (.inr ⟨o, ho, j, w, hj, hL, by omega, rfl⟩)
    have hd := h u m q hq (by omega) (by omega) _ harc
    simp only [] at hd
    rw [hrel, evAt_num' hpr hkr] at hd
    unfold doneR at hd
    simp at hd
    omega
  have hckf := hck
  simp only [checkO, Bool.and_eq_true, decide_eq_true_eq, List.all_eq_true] at hckf
  obtain ⟨⟨hv, hr⟩, ha⟩ := hckf
  have hu1 : s.sec ∈ usesAll ps := mem_usesAll.2 ⟨t, k, p, s, hp, hs, by simp [stUses]⟩
  have hb := valid_use hv hu1
  have hres : s.sec ∈ resTo ps 144 := (mem_resTo 144).2 ⟨hu1, hb.1, by omega⟩
  rw [← hr] at hres
  obtain ⟨o, ho, hor⟩ := List.mem_map.1 hres
  have hex := ha o ho
  simp only [exactlyB, Bool.and_eq_true, decide_eq_true_eq, List.all_eq_true] at hex
  have hnd : o.uses.Nodup := hex.2.imp fun h => h.1
  have hfull : ∀ x ∈ allU ps o.res, x ∈ o.uses := by
    have hsub : ∀ x ∈ o.uses, x ∈ allU ps o.res := hex.1.2
    exact nodup_fullR hnd hsub (by omega)
  obtain ⟨i, hi⟩ := List.mem_iff_getElem?.1 (hfull ⟨(t : Int), (k : Int)⟩ (mem_allU.2 ⟨t, k, p, s, hp, hs, by rw [hor]; simp [stUses], rfl⟩))
  obtain ⟨j, hj⟩ := List.mem_iff_getElem?.1 (hfull ⟨(u : Int), (m : Int)⟩ (mem_allU.2 ⟨u, m, q, s', hq, hs', by rw [hor, hsec]; simp [stUses], rfl⟩))
  rcases Nat.lt_trichotomy i j with h1 | h1 | h1
  · exact key t u k m p q s s' htu hp hq hs hs' hsec hk hm o ho hor i j h1 hi hj
  · subst h1
    rw [hi] at hj
    injection hj with hj
    simp only [Ref.mk.injEq] at hj
    omega
  · exact key u t m k q p s' s (fun e => htu e.symm) hq hp hs' hs hsec.symm hm hk o ho (by rw [hor, hsec]) j i h1 hj hi
theorem agree_state {ps : List (List Stage)} {os : List Order} {now : List Int} (hck : checkO ps os = true) (hg : Gd ps now) (h : AgreeP ps os now) : checkState ps now = 0 := by
  have hv := (checkO_facts hck).1
  unfold checkState
  rw [if_neg (by simp [hv, good_Gd.2 hg])]
  rw [if_pos]
  refine heldOf_nodup ps now (fun p hp s hs => ?_) hg.1 (fun t u p q a b htu hp hq ha hb h0 he => ?_)
  · have := valid_stage hv hp hs
    simp only [stageOk, Bool.and_eq_true, isRes, decide_eq_true_eq] at this
    omega
  · obtain ⟨k, s, rfl, hs, e1⟩ := secAt_some h0
    rw [he] at h0
    obtain ⟨m, s', rfl, hs', e2⟩ := secAt_some h0
    exact agree_excl hck hg h (by omega) hp hq hs hs' (by rw [← e1, ← e2, he]) (nowAt_of ha) (nowAt_of hb)
theorem okP_state {ps : List (List Stage)} {os : List Order} {now : List Int} (hck : checkO ps os = true) (hg : Gd ps now) (h : okP ps os now = true) : checkState ps now = 0 := by
  unfold okP at h
  rw [Bool.and_eq_true] at h
  exact agree_state hck hg (agreesB_iff.1 h.2)

end Go.Proofs.YtcbpiidbkjaneaaGreat
