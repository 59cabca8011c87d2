/- Cycles among events that have not happened. No program in sight. -/
import Derived.Test.YtigmldildefdgaaTimesP
namespace Go.Proofs.Ytigmldildefdgaa
open Go.RowKit

structure CycN (A : Nat → Nat → Prop) (P : Nat → Prop) (R : List Nat) : Prop where
  pos : 0 < R.length
  nd : R.Nodup
  all : ∀ x ∈ R, P x
  arc : ∀ (i : Nat) a b, R[i]? = some a → R[(i + 1) % R.length]? = some b → A a b
theorem rot_at {R : List Nat} {m i : Nat} (hm : m ≤ R.length) (hi : i < R.length) : (R.drop m ++ R.take m)[i]? = R[(i + m) % R.length]? := by
  by_cases h : i < R.length - m
  · rw [List.getElem?_append_left (by simpa using h), List.getElem?_drop, Nat.mod_eq_of_lt (by omega), Nat.add_comm]
  · have e : (i + m) % R.length = i + m - R.length := by
      rw [Nat.mod_eq_sub_mod (by omega), Nat.mod_eq_of_lt (by omega)]
    rw [List.getElem?_append_right (by simp; omega), e, List.getElem?_take]
    simp only [List.length_drop]
    have h2 : i - (R.length - m) = i + m - R.length := by omega
    rw [h2, if_pos (by omega)]
theorem CycN.rotate {A : Nat → Nat → Prop} {P : Nat → Prop} {R : List Nat} (h : CycN A P R) {m : Nat} (hm : m ≤ R.length) : CycN A P (R.drop m ++ R.take m) := by
  have hl : (R.drop m ++ R.take m).length = R.length := by simp; omega
  have hperm : (R.drop m ++ R.take m).Perm R := (List.perm_append_comm).trans (by rw [List.take_append_drop])
  refine ⟨by rw [hl]; exact h.pos, hperm.symm.nodup h.nd, fun x hx => h.all x (hperm.mem_iff.1 hx), fun i a b ha hb => ?_⟩
  have hi : i < R.length := by have := getElem?_lt ha; rwa [hl] at this
  rw [hl] at hb
  have hi2 : (i + 1) % R.length < R.length := Nat.mod_lt _ h.pos
  rw [rot_at hm hi] at ha
  rw [rot_at hm hi2] at hb
  refine h.arc ((i + m) % R.length) a b ha ?_
  rw [← hb]
  congr 1
  rw [Nat.mod_add_mod, Nat.mod_add_mod]
  congr 1; omega
/-- a walk against the arcs -/
def WalkN (A : Nat → Nat → Prop) (W : List Nat) : Prop := ∀ (i : Nat) a b, W[i]? = some a → W[i + 1]? = some b → A b a
theorem WalkN.push {A : Nat → Nat → Prop} {W : List Nat} {e f : Nat} (h : WalkN A (W ++ [e])) (ha : A f e) : WalkN A (W ++ [e] ++ [f]) := by
  intro i a b h1 h2
  have hi2 := getElem?_lt h2
  simp only [List.length_append, List.length_singleton] at hi2
  by_cases hi : i + 1 < (W ++ [e]).length
  · rw [List.getElem?_append_left (by omega)] at h1
    rw [List.getElem?_append_left hi] at h2
    exact h i a b h1 h2
  · simp only [List.length_append, List.length_singleton] at hi
    have hiw : i = W.length := by omega
    subst hiw
    rw [List.getElem?_append_left (by simp), List.getElem?_append_right (Nat.le_refl _)] at h1
    rw [List.getElem?_append_right (by simp)] at h2
    simp at h1 h2
    subst h1 h2
    exact ha
theorem CycN.ofWalk {A : Nat → Nat → Prop} {P : Nat → Prop} {W : List Nat} {e i0 : Nat} (h : WalkN A (W ++ [e])) (hnd : W.Nodup) (hall : ∀ x ∈ W, P x) (h0 : W[i0]? = some e) : CycN A P (W.drop i0).reverse := by
  have hi0 := getElem?_lt h0
  have hl : (W.drop i0).reverse.length = W.length - i0 := by simp
  refine ⟨by rw [hl]; omega, ?_, fun x hx => hall x (List.mem_of_mem_drop (List.mem_reverse.1 hx)), fun i a b ha hb => ?_⟩
  · exact (List.reverse_perm (W.drop i0)).symm.nodup (hnd.sublist (List.drop_sublist _ _))
  · have hi : i < W.length - i0 := by have := getElem?_lt ha; rwa [hl] at this
    rw [hl] at hb
    have hat : ∀ j, j < W.length - i0 → (W.drop i0).reverse[j]? = W[i0 + (W.length - i0 - 1 - j)]? := fun j hj => by
      rw [List.getElem?_reverse (by simpa using hj), List.getElem?_drop]
      congr 1; simp <;> omega
    rw [hat i hi] at ha
    by_cases hc : i + 1 < W.length - i0
    · rw [Nat.mod_eq_of_lt hc, hat (i + 1) hc] at hb
      refine h (i0 + (W.length - i0 - 1 - (i + 1))) b a ?_ ?_
      · rw [List.getElem?_append_left (by omega)]; exact hb
      · rw [List.getElem?_append_left (by omega), ← ha]; congr 1; omega
    · have hi1 : i + 1 = W.length - i0 := by omega
      rw [hi1, Nat.mod_self, hat 0 (by omega)] at hb
      have hae : a = e := by
        rw [show i0 + (W.length - i0 - 1 - i) = i0 from by omega, h0] at ha
        injection ha with ha; exact ha.symm
      subst hae
      refine h (W.length - 1) b a ?_ ?_
      · rw [List.getElem?_append_left (by omega), ← hb]; congr 1; omega
      · rw [show W.length - 1 + 1 = W.length from by omega, List.getElem?_append_right (Nat.le_refl _)]; simp

/-- a cycle of events, as the reference checks it -/
def CycOk (ps : List (List Stage)) (os : List Order) (at_ : List Int) (c : List Ref) : Prop :=
  0 < c.length ∧ ∀ (i : Nat) u, c[i]? = some u → (∃ (t k : Nat) (p : List Stage), ps[t]? = some p ∧ k ≤ p.length ∧ u = ⟨(t : Int), (k : Int)⟩) ∧ doneR at_ u = false ∧ u ∉ c.take i ∧ ∃ v, c[(i + 1) % c.length]? = some v ∧ ∃ a ∈ refArcs ps os, a.frm = u ∧ a.to = v
def ArcN (ps : List (List Stage)) (os : List Order) (u v : Nat) : Prop := ∃ a ∈ arcsAt (arcsOf (evs ps).length (gAdds ps os)) v, a.frm = (u : Int)
def OpenN (ps : List (List Stage)) (now : List Int) (x : Nat) : Prop := x < (evs ps).length ∧ doneR now (evAt ps x) = false
theorem ev_of {ps : List (List Stage)} {x : Nat} (hx : x < (evs ps).length) : ∃ (t k : Nat) (p : List Stage), ps[t]? = some p ∧ k ≤ p.length ∧ evAt ps x = ⟨(t : Int), (k : Int)⟩ ∧ x = num ps ⟨(t : Int), (k : Int)⟩ := by
  obtain ⟨t, k, p, _, hp, hk, rfl⟩ := evs_inv ps.length (Nat.le_refl _) (i := x) (by rw [fst_len]; exact hx)
  refine ⟨t, k, p, hp, hk, ?_, by simp [num]⟩
  unfold evAt; rw [evs_at hp hk]; rfl
theorem evAt_inj {ps : List (List Stage)} {x y : Nat} (hx : x < (evs ps).length) (hy : y < (evs ps).length) (h : evAt ps x = evAt ps y) : x = y := by
  obtain ⟨t, k, p, hp, hk, he, rfl⟩ := ev_of hx
  obtain ⟨t', k', p', hp', hk', he', rfl⟩ := ev_of hy
  rw [he, he'] at h
  rw [h]
theorem CycN.toOk {ps : List (List Stage)} {os : List Order} {at_ now : List Int} {R : List Nat} (hck : checkO ps os = true) (hdone : ∀ x : Ref, 0 ≤ x.tr → doneR at_ x = true → doneR now x = true) (h : CycN (ArcN ps os) (OpenN ps now) R) : CycOk ps os at_ (R.map (evAt ps)) := by
  refine ⟨by rw [List.length_map]; exact h.pos, fun i u hu => ?_⟩
  rw [List.getElem?_map] at hu
  cases hx : R[i]? with
  | none => rw [hx] at hu; cases hu
  | some x =>
    rw [hx] at hu
    injection hu with hu
    subst hu
    have hox := h.all x (List.mem_of_getElem? hx)
    obtain ⟨t, k, p, hp, hk, he, hxe⟩ := ev_of hox.1
    have hi := getElem?_lt hx
    have hi2 : (i + 1) % R.length < R.length := Nat.mod_lt _ h.pos
    have hy : R[(i + 1) % R.length]? = some (R[(i + 1) % R.length]'hi2) := List.getElem?_eq_getElem hi2
    have hoy := h.all _ (List.mem_of_getElem? hy)
    have harc := h.arc i x _ hx hy
    refine ⟨⟨t, k, p, hp, hk, he⟩, ?_, ?_, evAt ps (R[(i + 1) % R.length]'hi2), by rw [List.length_map, List.getElem?_map, hy]; rfl, ?_⟩
    · cases hd : doneR at_ (evAt ps x) with
      | false => rfl
      | true =>
        have := hdone (evAt ps x) (by rw [he]; simp) hd
        rw [hox.2] at this; cases this
    · intro hm
      rw [← List.map_take] at hm
      obtain ⟨y, hym, hye⟩ := List.mem_map.1 hm
      have hyx := evAt_inj (h.all y (List.mem_of_mem_take hym)).1 hox.1 hye
      subst hyx
      have hnd : (R.take (i + 1)).Nodup := h.nd.sublist (List.take_sublist _ _)
      rw [take_succ' hx, List.nodup_append] at hnd
      exact hnd.2.2 y hym y (by simp) rfl
    · obtain ⟨a, ha, haf⟩ := harc
      obtain ⟨t', k', p', hp', hk', he', hye⟩ := ev_of hoy.1
      rw [hye] at ha
      rw [he', he]
      rcases (mem_rowG hck hp' hk').1 ha with ⟨k2, s, rfl, hs, rfl⟩ | ⟨o, ho, j, w, hv, hL, hne, rfl⟩
      · refine ⟨⟨⟨(t' : Int), (k2 : Int)⟩, ⟨(t' : Int), (k2 : Int) + 1⟩, s.mn⟩, List.mem_append_left _ (mem_chainR.2 ⟨t', k2, p', s, hp', hs, rfl⟩), ?_, by simp⟩
        have hxn : x = num ps ⟨(t' : Int), (k2 : Int)⟩ := by simp only at haf; omega
        have := evAt_num' hp' (k := k2) (by omega)
        rw [Int.toNat_natCast, ← hxn, he] at this
        exact this.symm
      · obtain ⟨_, _, hf⟩ := checkO_facts hck
        obtain ⟨tw, kw, pw, hpw, hkw, hrel, _⟩ := rel_event ((hf o ho).1 w (List.mem_of_mem_take hL.1))
        refine ⟨betw ps o.res w ⟨(t' : Int), (k' : Int)⟩, List.mem_append_right _ (List.mem_flatMap.2 ⟨o, ho, mem_orderR.2 ⟨j, _, w, hv, hL.1, hne, rfl⟩⟩), ?_, rfl⟩
        have hxn : x = num ps (relOf ps o.res w) := by simp only at haf; omega
        rw [hrel] at hxn
        have := evAt_num' hpw hkw
        rw [Int.toNat_natCast, ← hxn, he] at this
        show relOf ps o.res w = _
        rw [hrel]; exact this.symm
/-- where no train can go, every open event has an arc from an open one -/
theorem stuck_arc {ps : List (List Stage)} {os : List Order} {now : List Int} (hck : checkO ps os = true) (hg : Gd ps now) (hst : readyP ps (arcsOf (evs ps).length (gAdds ps os)) now = none) {x : Nat} (hx : OpenN ps now x) :
    ∃ a ∈ arcsAt (arcsOf (evs ps).length (gAdds ps os)) x, ∃ f : Nat, a.frm = (f : Int) ∧ OpenN ps now f := by
  obtain ⟨t, k, p, hp, hk, he, hxe⟩ := ev_of hx.1
  have hd := hx.2
  rw [he] at hd
  have hd' : ¬ (k : Int) ≤ nowAt now t := by simpa [doneR] using hd
  have hG := hg.2 t (getElem?_lt hp)
  rw [lenAt_of hp] at hG
  have hin := gAdds_range hck
  have key : ∀ a ∈ arcsAt (arcsOf (evs ps).length (gAdds ps os)) x, doneR now (evAt ps a.frm.toNat) = false → ∃ f : Nat, a.frm = (f : Int) ∧ OpenN ps now f := fun a ha hda => by
    have hrow := arcsOf_at (evs ps).length (gAdds ps os) hx.1
    have hm : (x, a) ∈ gAdds ps os := by
      unfold arcsAt at ha
      rw [hrow] at ha
      exact (mem_arcsOf hrow).1 ha
    obtain ⟨f, hf, hfl⟩ := hin _ hm
    simp only at hf
    refine ⟨f, hf, hfl, ?_⟩
    rw [hf, Int.toNat_natCast] at hda; exact hda
  by_cases hk1 : (k : Int) = nowAt now t + 1
  · unfold readyP at hst
    have hc := List.find?_eq_none.1 hst t (List.mem_range.2 (getElem?_lt hp))
    have hc : canGo ps (arcsOf (evs ps).length (gAdds ps os)) now t = false := by simpa using hc
    unfold canGo at hc
    rw [lenAt_of hp, decide_eq_true (by omega : nowAt now t < (p.length : Int)), Bool.true_and, List.all_eq_false] at hc
    obtain ⟨a, ha, hda⟩ := hc
    have hn : ((fst ps t : Int) + nowAt now t + 1).toNat = x := by rw [hxe]; unfold num; simp; omega
    rw [hn] at ha
    exact ⟨a, ha, key a ha (by simpa using hda)⟩
  · obtain ⟨k', rfl⟩ : ∃ k', k = k' + 1 := ⟨k - 1, by omega⟩
    have hs : p[k']? = some p[k'] := List.getElem?_eq_getElem (by omega)
    have ha := (mem_rowG hck hp hk).2 (.inl ⟨k', p[k'], rfl, hs, rfl⟩)
    unfold rowG at ha
    rw [← hxe] at ha
    refine ⟨_, ha, key _ ha ?_⟩
    rw [evAt_num' hp (by omega)]
    simp [doneR]; omega

end Go.Proofs.Ytigmldildefdgaa
