/- A region that draws its order, in two phases: all operations of the second wait for all of the first. No condition. A region that draws its order: every reading operation has a class of its own (C k), two classes for the user. No condition. Contracts of slices.SortFunc over uses of chapter 37 (12 of them or fewer). Conditions: as each theorem says. -/
import Derived.Test.YtilbbpbjhoidhaaE06
import Derived.Test.YtilbbpbjhoidhaaE23
namespace Go.Proofs.Ytilbbpbjhoidhaa
open Go.RowKit

section
variable {P : Program} {ops : Array Oper} {Q : Exit → Act → World → Prop} {K : Act → World → Prop} {C : World → Prop} {act need : Nat → Bool}

def wpLexK (P : Program) (ops : Array Oper) (Q : Exit → Act → World → Prop) (K : Act → World → Prop) (C : World → Prop) (act need : Nat → Bool) : List Nat → Act → World → Prop
 | [], a, w => K a w
 | i :: r, a, w => if act i = true then wpOp P ops Q i (fun a' w' => (need i = true → C w') ∧ wpLexK P ops Q K C act need r a' w') a w
   else ∃ oi v, ops[i]? = some oi ∧ YieldsIf P ops C oi v a ∧ wpLexK P ops Q K C act need r (a.put oi.dst v) w

theorem wpLexK_pull (hsel : ∀ (j : Nat) (o : Oper) cs b, ops[j]? = some o → o.op ≠ .select cs b) (hQ : ∀ c a w, ¬ Q (.panic c) a w) (i : Nat) (post : List Nat) :
  ∀ (pre : List Nat) (a : Act) (w : World), (∀ k ∈ pre, act k = false ∧ ∀ ok oi, ops[k]? = some ok → ops[i]? = some oi → ok.apart ops oi = true) → (pre ≠ [] → need i = true) → (act i = false ∨ pre ≠ [] → C w) →
   (act i = true → ∃ oi, ops[i]? = some oi) → wpLexK P ops Q K C act need (pre ++ i :: post) a w → wpOp P ops Q i (fun a' w' => (act i = true → need i = true → C w') ∧ (act i = false → w' = w) ∧ wpLexK P ops Q K C act need (pre ++ post) a' w') a w := by
 intro pre
 induction pre with
 | nil =>
  intro a w _ _ hC _ h
  simp only [List.nil_append, wpLexK] at h ⊢
  by_cases ha : act i = true
  ·rw [if_pos ha] at h
   exact wpOp_mono (fun a' w' h => ⟨fun _ hn => h.1 hn, fun hf => (by rw [ha] at hf; cases hf), h.2⟩) h
  ·rw [if_neg ha] at h
   obtain ⟨oi, v, hoi, hy, hr⟩ := h
   have hf : act i = false := by simpa using ha
   exact hy.wpOp hoi (hC (.inl hf)) ⟨fun e => (by rw [hf] at e; cases e), fun _ => rfl, hr⟩
 | cons k pre ih =>
  intro a w hpre hneed hC hex h
  obtain ⟨hk, hap⟩ := hpre k (by simp)
  have hk' : ¬ act k = true := by simp [hk]
  simp only [List.cons_append, wpLexK] at h ⊢
  rw [if_neg hk'] at h
  obtain ⟨ok, u, hok, hyk, hr⟩ := h
  have hn : need i = true := hneed (by simp)
  have hCw : C w := hC (.inr (by simp))
  have h2 := ih (a.put ok.dst u) w (fun x hx => hpre x (by simp [hx])) (fun _ => hn) (fun _ => hCw) hex hr
  -- the operation i is there
  by_cases hoi : ∃ oi, ops[i]? = some oi
  ·obtain ⟨oi, hoi⟩ := hoi
   have h3 := wpOp_putIf (S := C) hoi (hap ok oi hok hoi) (fun cs b => hsel k ok cs b hok) (fun cs b => hsel i oi cs b hoi) (fun c a w hq => absurd hq (hQ c _ w)) hyk h2
   refine wpOp_mono (fun a' w' h => ⟨h.2.1, h.2.2.1, ?_⟩) h3
   rw [if_neg hk']
   exact ⟨ok, u, hok, h.1, h.2.2.2⟩
  ·have hnone : ops[i]? = none := by
    cases e : ops[i]? with
    | none => rfl
    | some o => exact absurd ⟨o, e⟩ hoi
   unfold wpOp at h2 ⊢
   simp only [hnone] at h2 ⊢
   have haf : act i = false := by
    cases e : act i with
    | false => rfl
    | true => exact absurd (hex e) hoi
   refine ⟨h2.1, h2.2.1, ?_⟩
   rw [if_neg hk']
   exact ⟨ok, u, hok, hyk, h2.2.2⟩
end

def edgesBackB (l : List Oper) : Bool := (List.range l.length).all fun j => match l[j]? with | some o => o.after.toList.all (fun e => !Region.binds .any e || decide (e.on < j)) | none => true
def piOkB (l : List Oper) (pi : List Nat) : Bool :=
 Region.noSelect l.toArray && (pi.length == l.length) && nodupB pi && pi.all (fun i => decide (i < l.length)) && (List.range l.length).all (fun i => pi.contains i) && pairsOk l (masks l []) pi && edgesBackB l
theorem waits_listedB {l : List Oper} (hb : edgesBackB l = true) {L : Nat → Prop} (hL : ∀ (j : Nat) (o : Oper), l[j]? = some o → L j → ∀ e ∈ o.after, Region.binds .any e = true → L e.on) :
  ∀ (n j : Nat) (o : Oper), j < n → l[j]? = some o → (∀ e ∈ o.after, Region.binds .any e = true → L e.on) → ∀ i, waits (masks l []) j i = true → L i
 | 0, j, o, h, _, _, _, _ => by omega
 | n + 1, j, o, hj, ho, he, i, hw => by
  obtain ⟨pre, h1, h2⟩ := masks_at l [] j o ho
  simp only [List.length_nil, Nat.zero_add] at h1 h2
  have hbk : o.after.toList.all (fun e => !Region.binds .any e || decide (e.on < j)) = true := by
   have := List.all_eq_true.1 hb j (List.mem_range.2 (List.getElem?_eq_some_iff.1 ho).1)
   simpa [ho] using this
  unfold waits at hw
  rw [List.getD_eq_getElem?_getD, h1] at hw
  rcases testBit_foldl pre i _ 0 hw with h0 | ⟨e, hem, hbd, hh⟩
  ·simp at h0
  ·have hej : e.on < j := by
    have h7 := List.all_eq_true.1 hbk e hem
    rw [hbd] at h7
    simpa using h7
   have hLe := he e (by simpa using hem) hbd
   rcases hh with rfl | hh
   ·exact hLe
   ·rw [h2 e.on hej] at hh
    have hlt : e.on < l.length := by have := (List.getElem?_eq_some_iff.1 ho).1; omega
    exact waits_listedB hb hL n e.on l[e.on] (by omega) (List.getElem?_eq_getElem hlt) (fun e' he' hb' => hL e.on _ (List.getElem?_eq_getElem hlt) hLe e' he' hb') i hh

theorem waits_ltB {l : List Oper} (hb : edgesBackB l = true) {j i : Nat} {o : Oper} (ho : l[j]? = some o) (h : waits (masks l []) j i = true) : i < j := by
 have hE : ∀ (k : Nat) (o : Oper), l[k]? = some o → ∀ e ∈ o.after, Region.binds .any e = true → e.on < k := fun k o hk e he hbd => by
  have := List.all_eq_true.1 hb k (List.mem_range.2 (List.getElem?_eq_some_iff.1 hk).1)
  simp only [hk] at this
  have h7 := List.all_eq_true.1 this e (by simpa using he)
  rw [hbd] at h7
  simpa using h7
 exact waits_listedB hb (L := fun k => k < j) (fun k o hk hkj e he hbd => Nat.lt_trans (hE k o hk e he hbd) hkj) (j + 1) j o (by omega) ho (fun e he hbd => hE j o ho e he hbd) i h

section
variable {P : Program} {l : List Oper} {Q : Exit → Act → World → Prop} {C : World → Prop} {need : Nat → Bool}
theorem lex_anyB (hsel : ∀ (j : Nat) (o : Oper) cs b, l.toArray[j]? = some o → o.op ≠ .select cs b) (hQ : ∀ c a w, ¬ Q (.panic c) a w) (hb : edgesBackB l = true) (pi : List Nat)
  (hpair : ∀ i j, List.Sublist [i, j] pi → pairOk l (masks l []) i j = true) (hneed1 : ∀ i j, List.Sublist [i, j] pi → waits (masks l []) j i = false → need j = true)
  (hneed2 : ∀ i j, List.Sublist [j, i] pi → actAt l i = false → need j = true) :
  ∀ (fuel : Nat) (r : List Nat) (listed : Array Bool) (a : Act) (w : World), r.length = fuel → List.Sublist r pi → r.Nodup → (∀ j, j < l.length → (j ∈ r ↔ listed.getD j true = false)) → (∀ j ∈ r, j < l.length) → listed.size = l.length →
   (∀ (j : Nat) (o : Oper), l[j]? = some o → listed.getD j false = true → ∀ e ∈ o.after, Region.binds .any e = true → listed.getD e.on false = true) →
   ((∃ i ∈ r, actAt l i = false) → C w) → wpLex P l.toArray Q C (actAt l) need r a w → wpAny P .any l.toArray Q fuel listed a w := by
 intro fuel
 induction fuel with
 | zero =>
  intro r listed a w hlen _ _ hmem _ _ _ _ h
  have : r = [] := List.eq_nil_of_length_eq_zero hlen
  subst this
  refine ⟨?_, h⟩
  apply List.eq_nil_iff_forall_not_mem.2
  intro j hj
  obtain ⟨h0, o, ho, _⟩ := mem_ready.1 hj
  have hjl : j < l.length := by
   have := (Array.getElem?_eq_some_iff.1 ho).1; simpa using this
  simpa using (hmem j hjl).2 h0
 | succ fuel ih =>
  intro r listed a w hlen hsub hnd hmem hrl hsz hdown hC h
  refine ⟨fun hempty => ?_, fun j hj => ?_⟩
  ·-- there is one that may come up: the first of the order
   exfalso
   cases r with
   | nil => simp at hlen
   | cons i r' =>
    have hil := hrl i (by simp)
    have hi0 := (hmem i hil).1 (by simp)
    have : i ∈ Region.ready .any l.toArray listed := by
     refine mem_ready.2 ⟨hi0, l[i], by simp [hil], fun e he hbd => ?_⟩
     have hw := waits_edge (List.getElem?_eq_getElem hil) he hbd
     have hlt : e.on < i := waits_ltB hb (List.getElem?_eq_getElem hil) hw
     apply Classical.byContradiction
     intro hn
     have hin : e.on ∈ i :: r' := (hmem e.on (by omega)).2 ((getD_flip (by omega)).2 hn)
     have hin' : e.on ∈ r' := by
      rcases List.mem_cons.1 hin with h' | h'
      ·omega
      ·exact h'
     have hp := hpair i e.on ((List.Sublist.cons_cons i (List.singleton_sublist.2 hin')).trans hsub)
     simp only [pairOk, Bool.and_eq_true] at hp
     simp [hw] at hp
    rw [hempty] at this
    simp at this
  ·obtain ⟨h0, o, ho, hall⟩ := mem_ready.1 hj
   have hjl : j < l.length := by
    have := (Array.getElem?_eq_some_iff.1 ho).1; simpa using this
   have ho' : l[j]? = some o := by simpa using ho
   have hjr := (hmem j hjl).2 h0
   obtain ⟨pre, post, rfl⟩ := List.append_of_mem hjr
   have hwl := waits_listedB hb (L := fun k => listed.getD k false = true) hdown (j + 1) j o (by omega) ho' hall
   have hpre : ∀ k ∈ pre, waits (masks l []) j k = false ∧ actAt l k = false ∧ ∀ ok oi, l.toArray[k]? = some ok → l.toArray[j]? = some oi → ok.apart l.toArray oi = true := by
    intro k hk
    have hkl := hrl k (by simp [hk])
    have hk0 := (hmem k hkl).1 (by simp [hk])
    have hnw : waits (masks l []) j k = false := by
     cases e : waits (masks l []) j k with
     | false => rfl
     | true => exact absurd (hwl k e) ((getD_flip (by omega)).1 hk0)
    have hs2 : List.Sublist [k, j] (pre ++ j :: post) := (List.singleton_sublist.2 hk).append (List.singleton_sublist.2 (by simp))
    have hp := hpair k j (hs2.trans hsub)
    simp only [pairOk, hnw, Bool.and_eq_true, Bool.false_or] at hp
    refine ⟨hnw, by simpa using hp.2.1, fun ok oi h1 h2 => ?_⟩
    have h3 := hp.2.2
    simp only [List.getElem?_toArray] at h1 h2
    rw [h1, h2] at h3
    exact h3
   have hn : pre ≠ [] → need j = true := by
    intro hne
    obtain ⟨k, hk⟩ := List.exists_mem_of_ne_nil _ hne
    have hs2 : List.Sublist [k, j] (pre ++ j :: post) := (List.singleton_sublist.2 hk).append (List.singleton_sublist.2 (by simp))
    exact hneed1 k j (hs2.trans hsub) (hpre k hk).1
   have h1 := wpLex_pull (act := actAt l) hsel hQ j post pre a w (fun k hk => (hpre k hk).2) hn (fun hor => hC (by
    rcases hor with h' | h'
    ·exact ⟨j, by simp, h'⟩
    ·obtain ⟨k, hk⟩ := List.exists_mem_of_ne_nil _ h'
     exact ⟨k, by simp [hk], (hpre k hk).2.1⟩)) (fun _ => ⟨o, ho⟩) h
   refine wpOp_mono (fun a' w' hh => ?_) h1
   have hsub' : List.Sublist (pre ++ post) (pre ++ j :: post) := (List.Sublist.refl pre).append (List.sublist_cons_self j post)
   have hjn : j ∉ pre ++ post := by
    have h3 := List.nodup_append.1 hnd
    intro hx
    rcases List.mem_append.1 hx with hx | hx
    ·exact h3.2.2 j hx j (by simp) rfl
    ·exact (List.nodup_cons.1 h3.2.1).1 hx
   refine ih (pre ++ post) (listed.setIfInBounds j true) a' w' (by simp at hlen ⊢; omega) (hsub'.trans hsub) (hnd.sublist hsub') ?_ (fun k hk => hrl k (hsub'.subset hk)) (by simpa using hsz) ?_ ?_ hh.2.2
   ·intro k hk
    by_cases hjk : j = k
    ·subst hjk
     have : (listed.setIfInBounds j true).getD j true = true := by simp [Array.getD_eq_getD_getElem?, hsz, hjl]
     rw [this]
     exact ⟨fun hx => absurd hx hjn, fun hx => by cases hx⟩
    ·rw [getD_set_ne true hjk, ← hmem k hk]
     constructor
     ·intro hx; exact hsub'.subset hx
     ·intro hx
      rcases List.mem_append.1 hx with hx | hx
      ·exact List.mem_append_left _ hx
      ·rcases List.mem_cons.1 hx with hx | hx
       ·exact absurd hx.symm hjk
       ·exact List.mem_append_right _ hx
   ·intro k ok hok hlk e he hbd
    by_cases hjk : j = k
    ·subst hjk
     rw [ho'] at hok
     injection hok with hok
     subst hok
     exact getD_set_true (hall e he hbd)
    ·rw [getD_set_ne false hjk] at hlk
     exact getD_set_true (hdown k ok hok hlk e he hbd)
   ·rintro ⟨i, hi, hia⟩
    by_cases hja : actAt l j = true
    ·refine hh.1 hja ?_
     rcases List.mem_append.1 hi with hi | hi
     ·exact hn (fun e => by subst e; simp at hi)
     ·have hs2 : List.Sublist [j, i] (pre ++ j :: post) := ((List.Sublist.cons_cons j (List.singleton_sublist.2 hi))).trans (List.sublist_append_right pre (j :: post))
      exact hneed2 i j (hs2.trans hsub) hia
    ·have hjf : actAt l j = false := by simpa using hja
     rw [hh.2.1 hjf]
     exact hC ⟨j, by simp, hjf⟩

end

section
variable {P : Program} {l : List Oper} {Q : Exit → Act → World → Prop} {K : Act → World → Prop} {C : World → Prop} {need : Nat → Bool}
theorem lex_anyK (hsel : ∀ (j : Nat) (o : Oper) cs b, l.toArray[j]? = some o → o.op ≠ .select cs b) (hQ : ∀ c a w, ¬ Q (.panic c) a w) (hb : edgesBackB l = true) (pi1 pi2 : List Nat)
  (hpair : ∀ i j, List.Sublist [i, j] pi1 → pairOk l (masks l []) i j = true) (hphase : ∀ j ∈ pi2, ∀ i ∈ pi1, waits (masks l []) j i = true) (h2l : ∀ j ∈ pi2, j < l.length) (hneed1 : ∀ i j, List.Sublist [i, j] pi1 → waits (masks l []) j i = false → need j = true)
  (hneed2 : ∀ i j, List.Sublist [j, i] pi1 → actAt l i = false → need j = true) :
  ∀ (r : List Nat) (listed : Array Bool) (a : Act) (w : World), List.Sublist r pi1 → (r ++ pi2).Nodup → (∀ j, j < l.length → (j ∈ r ++ pi2 ↔ listed.getD j true = false)) → (∀ j ∈ r, j < l.length) → listed.size = l.length →
   (∀ (j : Nat) (o : Oper), l[j]? = some o → listed.getD j false = true → ∀ e ∈ o.after, Region.binds .any e = true → listed.getD e.on false = true) →
   ((∃ i ∈ r, actAt l i = false) → C w) → wpLexK P l.toArray Q K C (actAt l) need r a w →
   (∀ (listed' : Array Bool) (a' : Act) (w' : World), (∀ j, j < l.length → (j ∈ pi2 ↔ listed'.getD j true = false)) → listed'.size = l.length → (∀ (j : Nat) (o : Oper), l[j]? = some o → listed'.getD j false = true → ∀ e ∈ o.after, Region.binds .any e = true → listed'.getD e.on false = true) → K a' w' → wpAny P .any l.toArray Q pi2.length listed' a' w') →
   wpAny P .any l.toArray Q (r.length + pi2.length) listed a w := by
 intro r
 generalize hn : r.length = n
 induction n generalizing r with
 | zero =>
  intro listed a w _ _ hmem _ hsz hdown _ h hK
  have : r = [] := List.eq_nil_of_length_eq_zero hn
  subst this
  rw [Nat.zero_add]
  exact hK listed a w (by simpa using hmem) hsz hdown h
 | succ n ih =>
  intro listed a w hsub hnd hmem hrl hsz hdown hC h hK
  rw [Nat.succ_add]
  refine ⟨fun hempty => ?_, fun j hj => ?_⟩
  ·exfalso
   cases r with
   | nil => simp at hn
   | cons i r' =>
    have hil := hrl i (by simp)
    have hi0 := (hmem i hil).1 (by simp)
    have : i ∈ Region.ready .any l.toArray listed := by
     refine mem_ready.2 ⟨hi0, l[i], by simp [hil], fun e he hbd => ?_⟩
     have hw := waits_edge (List.getElem?_eq_getElem hil) he hbd
     have hlt : e.on < i := waits_ltB hb (List.getElem?_eq_getElem hil) hw
     apply Classical.byContradiction
     intro hn'
     have hin : e.on ∈ i :: r' ++ pi2 := (hmem e.on (by omega)).2 ((getD_flip (by omega)).2 hn')
     rcases List.mem_append.1 hin with hin | hin
     ·have hin' : e.on ∈ r' := by
       rcases List.mem_cons.1 hin with h' | h'
       ·omega
       ·exact h'
      have hp := hpair i e.on ((List.Sublist.cons_cons i (List.singleton_sublist.2 hin')).trans hsub)
      simp only [pairOk, Bool.and_eq_true] at hp
      simp [hw] at hp
     ·have h1 := hphase e.on hin i (hsub.subset (by simp))
      have := waits_ltB hb (List.getElem?_eq_getElem (h2l _ hin)) h1
      omega
    rw [hempty] at this
    simp at this
  ·obtain ⟨h0, o, ho, hall⟩ := mem_ready.1 hj
   have hjl : j < l.length := by
    have := (Array.getElem?_eq_some_iff.1 ho).1; simpa using this
   have ho' : l[j]? = some o := by simpa using ho
   have hwl := waits_listedB hb (L := fun k => listed.getD k false = true) hdown (j + 1) j o (by omega) ho' hall
   have hjr : j ∈ r := by
    rcases List.mem_append.1 ((hmem j hjl).2 h0) with h' | h'
    ·exact h'
    ·exfalso
     obtain ⟨i, hi⟩ : ∃ i, i ∈ r := List.exists_mem_of_ne_nil r (by intro e; rw [e] at hn; simp at hn)
     have h1 := hwl i (hphase j h' i (hsub.subset hi))
     have h2 := (hmem i (hrl i hi)).1 (List.mem_append_left _ hi)
     exact (getD_flip (by rw [hsz]; exact hrl i hi)).1 h2 h1
   obtain ⟨pre, post, rfl⟩ := List.append_of_mem hjr
   have hpre : ∀ k ∈ pre, waits (masks l []) j k = false ∧ actAt l k = false ∧ ∀ ok oi, l.toArray[k]? = some ok → l.toArray[j]? = some oi → ok.apart l.toArray oi = true := by
    intro k hk
    have hkl := hrl k (by simp [hk])
    have hk0 := (hmem k hkl).1 (by simp [hk])
    have hnw : waits (masks l []) j k = false := by
     cases e : waits (masks l []) j k with
     | false => rfl
     | true => exact absurd (hwl k e) ((getD_flip (by omega)).1 hk0)
    have hs2 : List.Sublist [k, j] (pre ++ j :: post) := (List.singleton_sublist.2 hk).append (List.singleton_sublist.2 (by simp))
    have hp := hpair k j (hs2.trans hsub)
    simp only [pairOk, hnw, Bool.and_eq_true, Bool.false_or] at hp
    refine ⟨hnw, by simpa using hp.2.1, fun ok oi h1 h2 => ?_⟩
    have h3 := hp.2.2
    simp only [List.getElem?_toArray] at h1 h2
    rw [h1, h2] at h3
    exact h3
   have hnn : pre ≠ [] → need j = true := by
    intro hne
    obtain ⟨k, hk⟩ := List.exists_mem_of_ne_nil _ hne
    have hs2 : List.Sublist [k, j] (pre ++ j :: post) := (List.singleton_sublist.2 hk).append (List.singleton_sublist.2 (by simp))
    exact hneed1 k j (hs2.trans hsub) (hpre k hk).1
   have h1 := wpLexK_pull (act := actAt l) hsel hQ j post pre a w (fun k hk => (hpre k hk).2) hnn (fun hor => hC (by
    rcases hor with h' | h'
    ·exact ⟨j, by simp, h'⟩
    ·obtain ⟨k, hk⟩ := List.exists_mem_of_ne_nil _ h'
     exact ⟨k, by simp [hk], (hpre k hk).2.1⟩)) (fun _ => ⟨o, ho⟩) h
   refine wpOp_mono (fun a' w' hh => ?_) h1
   have hsub' : List.Sublist (pre ++ post) (pre ++ j :: post) := (List.Sublist.refl pre).append (List.sublist_cons_self j post)
   have hnd1 : (pre ++ j :: post).Nodup := (List.nodup_append.1 hnd).1
   have hjn : j ∉ pre ++ post := by
    have h3 := List.nodup_append.1 hnd1
    intro hx
    rcases List.mem_append.1 hx with hx | hx
    ·exact h3.2.2 j hx j (by simp) rfl
    ·exact (List.nodup_cons.1 h3.2.1).1 hx
   have hj2 : j ∉ pi2 := fun hx => (List.nodup_append.1 hnd).2.2 j (by simp) j hx rfl
   refine ih (pre ++ post) (by simp at hn ⊢; omega) (listed.setIfInBounds j true) a' w' (hsub'.trans hsub) (hnd.sublist (hsub'.append (List.Sublist.refl pi2))) ?_ (fun k hk => hrl k (hsub'.subset hk)) (by simpa using hsz) ?_ ?_ hh.2.2 hK
   ·intro k hk
    by_cases hjk : j = k
    ·subst hjk
     have : (listed.setIfInBounds j true).getD j true = true := by simp [Array.getD_eq_getD_getElem?, hsz, hjl]
     rw [this]
     exact ⟨fun hx => (List.mem_append.1 hx).elim (fun hx => absurd hx hjn) (fun hx => absurd hx hj2), fun hx => by cases hx⟩
    ·rw [getD_set_ne true hjk, ← hmem k hk]
     constructor
     ·intro hx
      rcases List.mem_append.1 hx with hx | hx
      ·exact List.mem_append_left _ (hsub'.subset hx)
      ·exact List.mem_append_right _ hx
     ·intro hx
      rcases List.mem_append.1 hx with hx | hx
      ·rcases List.mem_append.1 hx with hx | hx
       ·exact List.mem_append_left _ (List.mem_append_left _ hx)
       ·rcases List.mem_cons.1 hx with hx | hx
        ·exact absurd hx.symm hjk
        ·exact List.mem_append_left _ (List.mem_append_right _ hx)
      ·exact List.mem_append_right _ hx
   ·intro k ok hok hlk e he hbd
    by_cases hjk : j = k
    ·subst hjk
     rw [ho'] at hok
     injection hok with hok
     subst hok
     exact getD_set_true (hall e he hbd)
    ·rw [getD_set_ne false hjk] at hlk
     exact getD_set_true (hdown k ok hok hlk e he hbd)
   ·rintro ⟨i, hi, hia⟩
    by_cases hja : actAt l j = true
    ·refine hh.1 hja ?_
     rcases List.mem_append.1 hi with hi | hi
     ·exact hnn (fun e => by subst e; simp at hi)
     ·have hs2 : List.Sublist [j, i] (pre ++ j :: post) := ((List.Sublist.cons_cons j (List.singleton_sublist.2 hi))).trans (List.sublist_append_right pre (j :: post))
      exact hneed2 i j (hs2.trans hsub) hia
    ·have hjf : actAt l j = false := by simpa using hja
     rw [hh.2.1 hjf]
     exact hC ⟨j, by simp, hjf⟩

def phaseOk (ms : List Nat) (pi1 pi2 : List Nat) : Bool := pi2.all fun j => pi1.all fun i => waits ms j i
theorem wp_region_lex2 {id : Nat} {a : Act} {w : World} (C C2 : World → Prop) (pi1 pi2 : List Nat) (hm : P.follows .mixedOrders = true) (hB : piOkB l (pi1 ++ pi2) = true) (hB2 : phaseOk (masks l []) pi1 pi2 = true) (hC : C w.drew)
  (h : wpLexK P l.toArray (NoPanic Q) (fun a w => C2 w ∧ wpLex P l.toArray (NoPanic Q) C2 (actAt l) (needF l (masks l []) [] pi2) pi2 a w) C (actAt l) (needF l (masks l []) [] pi1) pi1 a w.drew) : (Code.region id l.toArray true).wp P Q a w := by
 simp only [piOkB, Bool.and_eq_true, beq_iff_eq] at hB
 obtain ⟨⟨⟨⟨⟨⟨hsel, hlen⟩, hnd⟩, hall⟩, hcv⟩, hpairs⟩, hback⟩ := hB
 have hnd' := (nodupB_iff (pi1 ++ pi2)).1 hnd
 have hrl : ∀ j ∈ pi1 ++ pi2, j < l.length := fun j hj => by simpa using List.all_eq_true.1 hall j hj
 have hphase : ∀ j ∈ pi2, ∀ i ∈ pi1, waits (masks l []) j i = true := fun j hj i hi => by
  have := List.all_eq_true.1 hB2 j hj
  exact List.all_eq_true.1 this i hi
 refine Code.wp_mono NoPanic.imp (wp_region_any hm ?_)
 have hcov : ∀ j, j < l.length → j ∈ pi1 ++ pi2 := by
  intro j hj
  simpa using List.all_eq_true.1 hcv j (List.mem_range.2 hj)
 have hsz : l.toArray.size = pi1.length + pi2.length := by simp at hlen ⊢; omega
 have hsel' := fun (j : Nat) (o : Oper) cs b (ho : l.toArray[j]? = some o) => Region.noSelect_spec hsel j o cs b ho
 have hne : ∀ (pi : List Nat), pi.Nodup → (∀ i j, List.Sublist [i, j] pi → waits (masks l []) j i = false → needF l (masks l []) [] pi j = true) ∧ (∀ i j, List.Sublist [j, i] pi → actAt l i = false → needF l (masks l []) [] pi j = true) := by
  intro pi hpn
  refine ⟨fun i j hs hw => ?_, fun i j hs hw => ?_⟩
  ·obtain ⟨pre, m, post, e⟩ := sub_split pi hs
   exact needF_ok pi [] (by simp) hpn (pre ++ i :: m) j post e (.inl ⟨i, .inr (by simp), hw⟩)
  ·obtain ⟨pre, m, post, e⟩ := sub_split pi hs
   refine needF_ok pi [] (by simp) hpn pre j (m ++ i :: post) (by rw [e]; simp) (.inr ⟨i, by simp, hw⟩)
 have hn1 := (List.nodup_append.1 hnd').1
 have hn2 := (List.nodup_append.1 hnd').2.1
 rw [hsz]
 refine lex_anyK hsel' (fun c a w h => h) hback pi1 pi2 (fun i j hs => pairsOk_sub (pi1 ++ pi2) i j hpairs (hs.trans (List.sublist_append_left ..))) hphase (fun j hj => hrl j (List.mem_append_right _ hj)) (hne pi1 hn1).1 (hne pi1 hn1).2 pi1 (Array.replicate (pi1.length + pi2.length) false) a w.drew (List.Sublist.refl _) hnd' ?_ (fun j hj => hrl j (List.mem_append_left _ hj)) (by simp at hlen ⊢; omega) ?_ (fun _ => hC) h ?_
 ·intro j hj
  have : (Array.replicate (pi1.length + pi2.length) false).getD j true = false := by
   have h9 : j < pi1.length + pi2.length := by simp at hlen; omega
   simp [Array.getD_eq_getD_getElem?, h9]
  exact ⟨fun _ => this, fun _ => hcov j hj⟩
 ·intro j o ho hl
  simp [Array.getD_eq_getD_getElem?, Array.getElem?_replicate] at hl
  split at hl <;> simp at hl
 ·intro listed' a' w' hmem hsz' hdown hK
  exact lex_anyB hsel' (fun c a w h => h) hback pi2 (fun i j hs => pairsOk_sub (pi1 ++ pi2) i j hpairs (hs.trans (List.sublist_append_right ..))) (hne pi2 hn2).1 (hne pi2 hn2).2 pi2.length pi2 listed' a' w' rfl (List.Sublist.refl _) hn2 hmem (fun j hj => hrl j (List.mem_append_right _ hj)) hsz' hdown (fun _ => hK.1) hK.2

theorem wp_region_lexB {id : Nat} {a : Act} {w : World} (C : World → Prop) (pi : List Nat) (hm : P.follows .mixedOrders = true) (hB : piOkB l pi = true) (hC : C w.drew)
  (h : wpLex P l.toArray (NoPanic Q) C (actAt l) (needF l (masks l []) [] pi) pi a w.drew) : (Code.region id l.toArray true).wp P Q a w :=
 wp_region_lex2 (fun _ => True) C [] pi hm hB (by simp [phaseOk]) trivial ⟨hC, h⟩
theorem lexK_q {i : Nat} {r : List Nat} {a : Act} {w : World} (o : Oper) (ho : l[i]? = some o) (ha : actOp o.op = false) (hn : (match o.op with | .nilCheck _ => true | _ => false) = false)
  (h : wpQuiet P l.toArray C (fun a' => wpLexK P l.toArray Q K C (actAt l) need r a' w) [o] a) : wpLexK P l.toArray Q K C (actAt l) need (i :: r) a w := by
 have haf : actAt l i = false := by simp [actAt, ho, ha]
 simp only [wpLexK, haf]
 rw [if_neg (by simp)]
 simp only [wpQuiet] at h
 by_cases hw : Region.wanted o (yielded l.toArray a.tmps) = true
 ·rw [if_pos hw] at h
  obtain ⟨v, h1, h2⟩ := h
  refine ⟨o, v, by simpa using ho, .inl ⟨hw, fun w' hw' => ?_⟩, h2⟩
  have h3 := h1 w' hw'
  unfold Oper.quietAt at h3
  cases e : (execOp a.eval o).run P w' with
  | halt x w1 => rw [e] at h3; simp [Oper.quietUpon] at h3
  | ok n w1 =>
   obtain ⟨u, rfl⟩ := exec_value ha (fun x hx => by rw [hx] at hn; simp at hn) e
   rw [e] at h3
   simp only [Oper.quietUpon] at h3
   rw [h3.1, h3.2]
 ·rw [if_neg hw] at h
  exact ⟨o, undef, by simpa using ho, .inr ⟨by simpa using hw, rfl⟩, h⟩
end

section
variable {P : Program} {ops : Array Oper} {Q : Exit → Act → World → Prop} {C : Nat → World → Prop} {act : Nat → Bool} {need : Nat → Nat → Bool}

end

section
variable {P : Program} {l : List Oper} {Q : Exit → Act → World → Prop} {C : Nat → World → Prop} {need : Nat → Nat → Bool}
end

def behindB : List Nat → Nat → Nat → Bool
 | [], _, _ => false
 | x :: r, i, k => if x == i then r.contains k else behindB r i k
def needI (l : List Oper) (ms pi : List Nat) (i k : Nat) : Bool := pi.contains k && !actAt l k && (behindB pi i k || !waits ms i k)

section
variable {P : Program} {l : List Oper} {Q : Exit → Act → World → Prop}

variable {L1 : List Nat} {C1 C2 : World → Prop} {pi : List Nat}
def need1 (l : List Oper) (ms pi L1 : List Nat) (i : Nat) : Bool := L1.any (fun k => needI l ms pi i k)
def need2 (l : List Oper) (ms pi L1 : List Nat) (i : Nat) : Bool := pi.any (fun k => !L1.contains k && needI l ms pi i k)
end

def u4 (f : Ref → Int × Int) (u : Ref) : List Value := [.int .i64 u.tr, .int .i64 u.st, .int .i64 (f u).1, .int .i64 (f u).2]
def UfC (f : Ref → Int × Int) (cs : Array Value) (o : Nat) (m : List Ref) : Prop := ∀ (k : Nat) u, m[k]? = some u → cs[o + k * 4]? = some (.int .i64 u.tr) ∧ cs[o + k * 4 + 1]? = some (.int .i64 u.st) ∧ cs[o + k * 4 + 2]? = some (.int .i64 (f u).1) ∧ cs[o + k * 4 + 3]? = some (.int .i64 (f u).2)
def putC (f : Ref → Int × Int) (cs : Array Value) (a : Nat) (u : Ref) : Array Value := (((cs.setIfInBounds a (.int .i64 u.tr)).setIfInBounds (a + 1) (.int .i64 u.st)).setIfInBounds (a + 2) (.int .i64 (f u).1)).setIfInBounds (a + 3) (.int .i64 (f u).2)
theorem putC_size (f : Ref → Int × Int) (cs : Array Value) (a : Nat) (u : Ref) : (putC f cs a u).size = cs.size := by simp [putC]
theorem putC_far (f : Ref → Int × Int) (cs : Array Value) {a b : Nat} (u : Ref) (h : b < a ∨ a + 3 < b) : (putC f cs a u)[b]? = cs[b]? := by
 unfold putC
 rw [Array.getElem?_setIfInBounds_ne (by omega), Array.getElem?_setIfInBounds_ne (by omega), Array.getElem?_setIfInBounds_ne (by omega), Array.getElem?_setIfInBounds_ne (by omega)]
theorem putC_at (f : Ref → Int × Int) (cs : Array Value) {a : Nat} (u : Ref) (h : a + 3 < cs.size) : (putC f cs a u)[a]? = some (.int .i64 u.tr) ∧ (putC f cs a u)[a + 1]? = some (.int .i64 u.st) ∧ (putC f cs a u)[a + 2]? = some (.int .i64 (f u).1) ∧ (putC f cs a u)[a + 3]? = some (.int .i64 (f u).2) := by
 unfold putC
 refine ⟨?_, ?_, ?_, ?_⟩
 ·rw [Array.getElem?_setIfInBounds_ne (by omega), Array.getElem?_setIfInBounds_ne (by omega), Array.getElem?_setIfInBounds_ne (by omega), Array.getElem?_setIfInBounds_self_of_lt (by omega)]
 ·rw [Array.getElem?_setIfInBounds_ne (by omega), Array.getElem?_setIfInBounds_ne (by omega), Array.getElem?_setIfInBounds_self_of_lt (by simp; omega)]
 ·rw [Array.getElem?_setIfInBounds_ne (by omega), Array.getElem?_setIfInBounds_self_of_lt (by simp; omega)]
 ·rw [Array.getElem?_setIfInBounds_self_of_lt (by simp; omega)]
theorem UfC.size {f : Ref → Int × Int} {cs : Array Value} {o k : Nat} {m : List Ref} {u : Ref} (h : UfC f cs o m) (hk : m[k]? = some u) : o + k * 4 + 3 < cs.size := (Array.getElem?_eq_some_iff.1 (h k u hk).2.2.2).1
theorem UfC.swap {f : Ref → Int × Int} {cs : Array Value} {o : Nat} {m : List Ref} {j : Nat} {x y : Ref} (h : UfC f cs o m) (hx : m[j + 1]? = some x) (hy : m[j]? = some y) : UfC f (putC f (putC f cs (o + (j + 1) * 4) y) (o + j * 4) x) o ((m.set (j + 1) y).set j x) := by
 have hs1 := h.size hx
 have hs0 := h.size hy
 intro k u hk
 rw [List.getElem?_set] at hk
 by_cases e1 : j = k
 ·subst e1
  rw [if_pos rfl] at hk
  split at hk
  ·injection hk with hk
   subst hk
   exact putC_at f _ x (by rw [putC_size]; omega)
  ·cases hk
 ·rw [if_neg e1, List.getElem?_set] at hk
  by_cases e2 : j + 1 = k
  ·subst e2
   rw [if_pos rfl] at hk
   split at hk
   ·injection hk with hk
    subst hk
    have h1 := putC_at f cs (a := o + (j + 1) * 4) y (by omega)
    rw [putC_far f _ x (by omega), putC_far f _ x (by omega), putC_far f _ x (by omega), putC_far f _ x (by omega)]
    exact h1
   ·cases hk
  ·rw [if_neg e2] at hk
   have h1 := h k u hk
   have hc : k < j ∨ j + 1 < k := by omega
   rw [putC_far f _ x (by omega), putC_far f _ x (by omega), putC_far f _ x (by omega), putC_far f _ x (by omega), putC_far f _ y (by omega), putC_far f _ y (by omega), putC_far f _ y (by omega), putC_far f _ y (by omega)]
   exact h1

end Go.Proofs.Ytilbbpbjhoidhaa
