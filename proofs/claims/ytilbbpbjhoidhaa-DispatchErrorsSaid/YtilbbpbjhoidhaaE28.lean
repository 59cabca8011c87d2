/- A region that draws its order and in which two operations may come in either order (two allocations). No condition. The state of the search of chapter 37 in memory. Conditions: as each theorem says. The program's pairs are the reference's. No condition. -/
import Derived.Test.YtilbbpbjhoidhaaE24
import Derived.Test.YtilbbpbjhoidhaaE27
import Derived.Test.YtilbbpbjhoidhaaE15
import Derived.Test.YtilbbpbjhoidhaaE23
import Derived.Test.YtilbbpbjhoidhaaE12
namespace Go.Proofs.Ytilbbpbjhoidhaa
open Go.RowKit

section
variable {P : Program} {ops : Array Oper} {Q : Exit → Act → World → Prop} {K : Act → World → Prop} {C : World → Prop} {act need need' : Nat → Bool}
theorem wpLexK_join {pi2 : List Nat} (hK : ∀ a w, K a w → wpLex P ops Q C act need pi2 a w) : ∀ (pi1 : List Nat) (a : Act) (w : World), (∀ i ∈ pi1, act i = false) → wpLexK P ops Q K C act need' pi1 a w → wpLex P ops Q C act need (pi1 ++ pi2) a w
 | [], a, w, _, h => hK a w h
 | i :: r, a, w, hr, h => by
  have hi : ¬ act i = true := by simp [hr i (by simp)]
  simp only [wpLexK] at h
  rw [if_neg hi] at h
  simp only [List.cons_append, wpLex]
  rw [if_neg hi]
  obtain ⟨oi, v, h1, h2, h3⟩ := h
  exact ⟨oi, v, h1, h2, wpLexK_join hK r _ w (fun k hk => hr k (by simp [hk])) h3⟩
theorem wpLexK_needs : ∀ {pi1 : List Nat} {a : Act} {w : World}, (∀ i ∈ pi1, act i = false) → wpLexK P ops Q K C act need pi1 a w → wpLexK P ops Q K C act need' pi1 a w
 | [], _, _, _, h => h
 | i :: r, a, w, hr, h => by
  have hi : ¬ act i = true := by simp [hr i (by simp)]
  simp only [wpLexK] at h ⊢
  rw [if_neg hi] at h ⊢
  obtain ⟨oi, v, h1, h2, h3⟩ := h
  exact ⟨oi, v, h1, h2, wpLexK_needs (fun k hk => hr k (by simp [hk])) h3⟩
end

section
variable {P : Program} {l : List Oper} {Q : Exit → Act → World → Prop} {C : World → Prop} {need1 need2 : Nat → Bool}
theorem fork_take (hsel : ∀ (j : Nat) (o : Oper) cs b, l.toArray[j]? = some o → o.op ≠ .select cs b) (hQ : ∀ c a w, ¬ Q (.panic c) a w) (hb : edgesBackB l = true) {need : Nat → Bool} (pre post : List Nat) (x y : Nat)
  (hpx : ∀ i j, List.Sublist [i, j] (pre ++ x :: post) → pairOk l (masks l []) i j = true) (hpy : ∀ i j, List.Sublist [i, j] (pre ++ y :: post) → pairOk l (masks l []) i j = true)
  (hneed1 : ∀ i j, List.Sublist [i, j] (pre ++ x :: y :: post) → waits (masks l []) j i = false → need j = true)
  (hneed2 : ∀ i j, List.Sublist [j, i] (pre ++ x :: y :: post) → actAt l i = false → need j = true)
  (r : List Nat) (listed : Array Bool) (a : Act) (w : World) (hsub : List.Sublist r pre) (hnd : (r ++ x :: y :: post).Nodup) (hmem : ∀ j, j < l.length → (j ∈ r ++ x :: y :: post ↔ listed.getD j true = false)) (hrl : ∀ j ∈ r ++ x :: y :: post, j < l.length) (hsz : listed.size = l.length)
  (hdown : ∀ (j : Nat) (o : Oper), l[j]? = some o → listed.getD j false = true → ∀ e ∈ o.after, Region.binds .any e = true → listed.getD e.on false = true)
  (hC : C w) (hxa : actAt l x = true) (o : Oper) (ho : l[x]? = some o) (hall : ∀ e ∈ o.after, Region.binds .any e = true → listed.getD e.on false = true)
  (h : wpLex P l.toArray Q C (actAt l) need (r ++ x :: y :: post) a w) : wpOp P l.toArray Q x (fun a' w' => wpAny P .any l.toArray Q (r.length + post.length + 1) (listed.setIfInBounds x true) a' w') a w := by
 have hxl : x < l.length := hrl x (by simp)
 have hwl := waits_listedB hb (L := fun k => listed.getD k false = true) hdown (x + 1) x o (by omega) ho hall
 have hsubB : List.Sublist (r ++ x :: y :: post) (pre ++ x :: y :: post) := hsub.append (List.Sublist.refl _)
 have hpre : ∀ k ∈ r, waits (masks l []) x k = false ∧ actAt l k = false ∧ ∀ ok oi, l.toArray[k]? = some ok → l.toArray[x]? = some oi → ok.apart l.toArray oi = true := by
  intro k hk
  have hkl := hrl k (by simp [hk])
  have hk0 := (hmem k hkl).1 (by simp [hk])
  have hnw : waits (masks l []) x k = false := by
   cases e : waits (masks l []) x k with
   | false => rfl
   | true => exact absurd (hwl k e) ((getD_flip (by omega)).1 hk0)
  have hs2 : List.Sublist [k, x] (pre ++ x :: post) := (List.singleton_sublist.2 (hsub.subset hk)).append (List.singleton_sublist.2 (by simp))
  have hp := hpx k x hs2
  simp only [pairOk, hnw, Bool.and_eq_true, Bool.false_or] at hp
  refine ⟨hnw, by simpa using hp.2.1, fun ok oi h1 h2 => ?_⟩
  have h3 := hp.2.2
  simp only [List.getElem?_toArray] at h1 h2
  rw [h1, h2] at h3
  exact h3
 have hn : r ≠ [] → need x = true := by
  intro hne
  obtain ⟨k, hk⟩ := List.exists_mem_of_ne_nil _ hne
  have hs2 : List.Sublist [k, x] (r ++ x :: y :: post) := (List.singleton_sublist.2 hk).append (List.singleton_sublist.2 (by simp))
  exact hneed1 k x (hs2.trans hsubB) (hpre k hk).1
 have h1 := wpLex_pull (act := actAt l) hsel hQ x (y :: post) r a w (fun k hk => (hpre k hk).2) hn (fun _ => hC) (fun _ => ⟨o, by simpa using ho⟩) h
 have hsubS : List.Sublist (r ++ y :: post) (r ++ x :: y :: post) := (List.Sublist.refl r).append (List.sublist_cons_self x _)
 have hsubP : List.Sublist (pre ++ y :: post) (pre ++ x :: y :: post) := (List.Sublist.refl pre).append (List.sublist_cons_self x _)
 have hxn : x ∉ r ++ y :: post := by
  have h3 := List.nodup_append.1 hnd
  intro hx
  rcases List.mem_append.1 hx with hx | hx
  ·exact h3.2.2 x hx x (by simp) rfl
  ·exact (List.nodup_cons.1 h3.2.1).1 hx
 refine wpOp_mono (fun a' w' hh => ?_) h1
 have hfin := lex_anyB hsel hQ hb (need := need) (C := C) (pre ++ y :: post) hpy (fun i j hs hw => hneed1 i j (hs.trans hsubP) hw) (fun i j hs hw => hneed2 i j (hs.trans hsubP) hw) (r.length + post.length + 1) (r ++ y :: post) (listed.setIfInBounds x true) a' w' (by simp; omega) (hsub.append (List.Sublist.refl _)) (hnd.sublist hsubS) ?_ (fun k hk => hrl k (hsubS.subset hk)) (by simpa using hsz) ?_ ?_ hh.2.2
 ·exact hfin
 ·intro k hk
  by_cases hjk : x = k
  ·subst hjk
   have : (listed.setIfInBounds x true).getD x true = true := by simp [Array.getD_eq_getD_getElem?, hsz, hxl]
   rw [this]
   exact ⟨fun hx => absurd hx hxn, fun hx => by cases hx⟩
  ·rw [getD_set_ne true hjk, ← hmem k hk]
   constructor
   ·intro hx; exact hsubS.subset hx
   ·intro hx
    rcases List.mem_append.1 hx with hx | hx
    ·exact List.mem_append_left _ hx
    ·rcases List.mem_cons.1 hx with hx | hx
     ·exact absurd hx.symm hjk
     ·exact List.mem_append_right _ hx
 ·intro k ok hok hlk e he hbd
  by_cases hjk : x = k
  ·subst hjk
   rw [ho] at hok
   injection hok with hok
   subst hok
   exact getD_set_true (hall e he hbd)
  ·rw [getD_set_ne false hjk] at hlk
   exact getD_set_true (hdown k ok hok hlk e he hbd)
 ·rintro ⟨i, hi, hia⟩
  refine hh.1 hxa ?_
  rcases List.mem_append.1 hi with hi | hi
  ·exact hn (fun e => by subst e; simp at hi)
  ·have hs2 : List.Sublist [x, i] (r ++ x :: y :: post) := ((List.Sublist.cons_cons x (List.singleton_sublist.2 hi))).trans (List.sublist_append_right r _)
   exact hneed2 i x (hs2.trans hsubB) hia

theorem lex_anyF (hsel : ∀ (j : Nat) (o : Oper) cs b, l.toArray[j]? = some o → o.op ≠ .select cs b) (hQ : ∀ c a w, ¬ Q (.panic c) a w) (hb : edgesBackB l = true) {needA : Nat → Bool} (pre post : List Nat) (x y : Nat)
  (hpx : ∀ i j, List.Sublist [i, j] (pre ++ x :: post) → pairOk l (masks l []) i j = true) (hpy : ∀ i j, List.Sublist [i, j] (pre ++ y :: post) → pairOk l (masks l []) i j = true)
  (hx1 : ∀ i j, List.Sublist [i, j] (pre ++ x :: y :: post) → waits (masks l []) j i = false → need1 j = true) (hx2 : ∀ i j, List.Sublist [j, i] (pre ++ x :: y :: post) → actAt l i = false → need1 j = true)
  (hy1 : ∀ i j, List.Sublist [i, j] (pre ++ y :: x :: post) → waits (masks l []) j i = false → need2 j = true) (hy2 : ∀ i j, List.Sublist [j, i] (pre ++ y :: x :: post) → actAt l i = false → need2 j = true)
  (hxy : waits (masks l []) x y = false) (hpost : ∀ j ∈ post, waits (masks l []) j x = true) (hxa : actAt l x = true) (hya : actAt l y = true) (hract : ∀ i ∈ pre, actAt l i = false) :
  ∀ (n : Nat) (r : List Nat) (listed : Array Bool) (a : Act) (w : World), r.length = n → List.Sublist r pre → (r ++ x :: y :: post).Nodup → (∀ j, j < l.length → (j ∈ r ++ x :: y :: post ↔ listed.getD j true = false)) → (∀ j ∈ r ++ x :: y :: post, j < l.length) → listed.size = l.length →
  (∀ (j : Nat) (o : Oper), l[j]? = some o → listed.getD j false = true → ∀ e ∈ o.after, Region.binds .any e = true → listed.getD e.on false = true) → C w →
  wpLexK P l.toArray Q (fun a w => wpLex P l.toArray Q C (actAt l) need1 (x :: y :: post) a w ∧ wpLex P l.toArray Q C (actAt l) need2 (y :: x :: post) a w) C (actAt l) needA r a w → wpAny P .any l.toArray Q (r.length + post.length + 2) listed a w := by
 intro n
 induction n with
 | zero =>
  intro r listed a w hn hsub hnd hmem hrl hsz hdown hC h
  have : r = [] := List.eq_nil_of_length_eq_zero hn
  subst this
  refine ⟨fun hempty => ?_, fun j hj => ?_⟩
  ·exfalso
   have hxl : x < l.length := hrl x (by simp)
   have : x ∈ Region.ready .any l.toArray listed := by
    refine mem_ready.2 ⟨(hmem x hxl).1 (by simp), l[x], by simp [hxl], fun e he hbd => ?_⟩
    have hw := waits_edge (List.getElem?_eq_getElem hxl) he hbd
    have hlt : e.on < x := waits_ltB hb (List.getElem?_eq_getElem hxl) hw
    apply Classical.byContradiction
    intro hnn
    have hin : e.on ∈ [] ++ x :: y :: post := (hmem e.on (by omega)).2 ((getD_flip (by omega)).2 hnn)
    simp only [List.nil_append, List.mem_cons] at hin
    rcases hin with h' | h' | h'
    ·omega
    ·rw [h'] at hw; rw [hw] at hxy; cases hxy
    ·have hp := hpx x e.on ((List.Sublist.cons_cons x (List.singleton_sublist.2 h')).trans (List.sublist_append_right pre _))
     simp only [pairOk, Bool.and_eq_true] at hp
     simp [hw] at hp
   rw [hempty] at this
   simp at this
  ·obtain ⟨h0, o, ho, hall⟩ := mem_ready.1 hj
   have hjl : j < l.length := by
    have := (Array.getElem?_eq_some_iff.1 ho).1; simpa using this
   have ho' : l[j]? = some o := by simpa using ho
   have hwl := waits_listedB hb (L := fun k => listed.getD k false = true) hdown (j + 1) j o (by omega) ho' hall
   have hjr := (hmem j hjl).2 h0
   simp only [List.nil_append, List.mem_cons] at hjr
   rcases hjr with rfl | rfl | hjp
   ·exact fork_take hsel hQ hb pre post j y hpx hpy hx1 hx2 [] listed a w hsub hnd hmem hrl hsz hdown hC hxa o ho' hall h.1
   ·have hperm : ∀ k, k ∈ [] ++ j :: x :: post ↔ k ∈ [] ++ x :: j :: post := fun k => by simp only [List.nil_append, List.mem_cons]; constructor <;> (rintro (h | h | h) <;> simp [h])
    exact fork_take hsel hQ hb pre post j x hpy hpx hy1 hy2 [] listed a w hsub (by simp only [List.nil_append, List.nodup_cons, List.mem_cons] at hnd ⊢; exact ⟨fun hh => hh.elim (fun e => hnd.1 (.inl e.symm)) hnd.2.1, fun hh => hnd.1 (.inr hh), hnd.2.2⟩) (fun k hk => (hperm k).trans (hmem k hk)) (fun k hk => hrl k ((hperm k).1 hk)) hsz hdown hC hya o ho' hall h.2
   ·exfalso
    have h1 := hwl x (hpost j hjp)
    have hxl : x < l.length := hrl x (by simp)
    exact (getD_flip (by omega)).1 ((hmem x hxl).1 (by simp)) h1
 | succ n ih =>
  intro r listed a w hn hsub hnd hmem hrl hsz hdown hC h
  have hra : ∀ i ∈ r, actAt l i = false := fun i hi => hract i (hsub.subset hi)
  refine ⟨fun hempty => ?_, fun j hj => ?_⟩
  ·exfalso
   cases r with
   | nil => simp at hn
   | cons i r' =>
    have hil := hrl i (by simp)
    have hi0 := (hmem i hil).1 (by simp)
    have : i ∈ Region.ready .any l.toArray listed := by
     refine mem_ready.2 ⟨hi0, l[i], by simp [hil], fun e he hbd => ?_⟩
     have hw := waits_edge (List.getElem?_eq_getElem hil) he hbd
     have hlt : e.on < i := waits_ltB hb (List.getElem?_eq_getElem hil) hw
     apply Classical.byContradiction
     intro hnn
     have hin : e.on ∈ i :: r' ++ x :: y :: post := (hmem e.on (by omega)).2 ((getD_flip (by omega)).2 hnn)
     have hbad : ∀ k, e.on = k → (List.Sublist [i, k] (pre ++ x :: post) ∨ List.Sublist [i, k] (pre ++ y :: post)) → False := by
      rintro k rfl hs
      rcases hs with hs | hs
      ·have hp := hpx i e.on hs
       simp only [pairOk, Bool.and_eq_true] at hp
       simp [hw] at hp
      ·have hp := hpy i e.on hs
       simp only [pairOk, Bool.and_eq_true] at hp
       simp [hw] at hp
     have hip : i ∈ pre := hsub.subset (by simp)
     simp only [List.cons_append, List.mem_cons, List.mem_append] at hin
     rcases hin with h' | h' | h' | h' | h'
     ·omega
     ·exact hbad _ rfl (.inl (((List.Sublist.cons_cons i (List.singleton_sublist.2 h')).trans hsub).trans (List.sublist_append_left ..)))
     ·exact hbad _ rfl (.inl ((List.singleton_sublist.2 hip).append (List.singleton_sublist.2 (by simp [h']))))
     ·exact hbad _ rfl (.inr ((List.singleton_sublist.2 hip).append (List.singleton_sublist.2 (by simp [h']))))
     ·exact hbad _ rfl (.inl ((List.singleton_sublist.2 hip).append (List.singleton_sublist.2 (by simp [h']))))
    rw [hempty] at this
    simp at this
  ·obtain ⟨h0, o, ho, hall⟩ := mem_ready.1 hj
   have hjl : j < l.length := by
    have := (Array.getElem?_eq_some_iff.1 ho).1; simpa using this
   have ho' : l[j]? = some o := by simpa using ho
   have hwl := waits_listedB hb (L := fun k => listed.getD k false = true) hdown (j + 1) j o (by omega) ho' hall
   have hjr := (hmem j hjl).2 h0
   rcases List.mem_append.1 hjr with hjr | hjr
   ·obtain ⟨p1, p2, rfl⟩ := List.append_of_mem hjr
    have hpre : ∀ k ∈ p1, actAt l k = false ∧ ∀ ok oi, l.toArray[k]? = some ok → l.toArray[j]? = some oi → ok.apart l.toArray oi = true := by
     intro k hk
     have hkl := hrl k (by simp [hk])
     have hk0 := (hmem k hkl).1 (by simp [hk])
     have hnw : waits (masks l []) j k = false := by
      cases e : waits (masks l []) j k with
      | false => rfl
      | true => exact absurd (hwl k e) ((getD_flip (by omega)).1 hk0)
     have hs2 : List.Sublist [k, j] (p1 ++ j :: p2) := (List.singleton_sublist.2 hk).append (List.singleton_sublist.2 (by simp))
     have hp := hpx k j ((hs2.trans hsub).trans (List.sublist_append_left ..))
     simp only [pairOk, hnw, Bool.and_eq_true, Bool.false_or] at hp
     refine ⟨by simpa using hp.2.1, fun ok oi h1 h2 => ?_⟩
     have h3 := hp.2.2
     simp only [List.getElem?_toArray] at h1 h2
     rw [h1, h2] at h3
     exact h3
    have hja : actAt l j = false := hra j (by simp)
    have h1 := wpLexK_pull (act := actAt l) (need := fun _ => true) hsel hQ j p2 p1 a w (fun k hk => hpre k hk) (fun _ => rfl) (fun _ => hC) (fun _ => ⟨o, ho⟩) (wpLexK_needs hra h)
    have hsub' : List.Sublist (p1 ++ p2) (p1 ++ j :: p2) := (List.Sublist.refl p1).append (List.sublist_cons_self j p2)
    have hsubA : List.Sublist (p1 ++ p2 ++ x :: y :: post) (p1 ++ j :: p2 ++ x :: y :: post) := hsub'.append (List.Sublist.refl _)
    have hjn : j ∉ p1 ++ p2 ++ x :: y :: post := by
     have e : p1 ++ j :: p2 ++ x :: y :: post = p1 ++ j :: (p2 ++ x :: y :: post) := by simp
     rw [e] at hnd
     rw [List.append_assoc]
     have h3 := List.nodup_append.1 hnd
     intro hx
     rcases List.mem_append.1 hx with hx | hx
     ·exact h3.2.2 j hx j (by simp) rfl
     ·exact (List.nodup_cons.1 h3.2.1).1 hx
    refine wpOp_mono (fun a' w' hh => ?_) h1
    have hw' := hh.2.1 hja
    subst hw'
    have e : (p1 ++ j :: p2).length + post.length + 2 - 1 = (p1 ++ p2).length + post.length + 2 := by simp; omega
    have hfin := ih (p1 ++ p2) (listed.setIfInBounds j true) a' w' (by simp at hn ⊢; omega) (hsub'.trans hsub) (hnd.sublist hsubA) ?_ (fun k hk => hrl k (hsubA.subset hk)) (by simpa using hsz) ?_ hC (wpLexK_needs (fun i hi => hra i (hsub'.subset hi)) hh.2.2)
    ·have e2 : (p1 ++ p2).length + post.length + 2 = (p1 ++ j :: p2).length + post.length + 1 := by simp; omega
     rw [e2] at hfin
     exact hfin
    ·intro k hk
     by_cases hjk : j = k
     ·subst hjk
      have : (listed.setIfInBounds j true).getD j true = true := by simp [Array.getD_eq_getD_getElem?, hsz, hjl]
      rw [this]
      exact ⟨fun hx => absurd hx hjn, fun hx => by cases hx⟩
     ·rw [getD_set_ne true hjk, ← hmem k hk]
      constructor
      ·intro hx; exact hsubA.subset hx
      ·intro hx
       simp only [List.mem_append, List.mem_cons] at hx ⊢
       rcases hx with (hx | hx | hx) | hx
       ·exact .inl (.inl hx)
       ·exact absurd hx.symm hjk
       ·exact .inl (.inr hx)
       ·exact .inr hx
    ·intro k ok hok hlk e he hbd
     by_cases hjk : j = k
     ·subst hjk
      rw [ho'] at hok
      injection hok with hok
      subst hok
      exact getD_set_true (hall e he hbd)
     ·rw [getD_set_ne false hjk] at hlk
      exact getD_set_true (hdown k ok hok hlk e he hbd)
   ·simp only [List.mem_cons] at hjr
    rcases hjr with rfl | rfl | hjp
    ·exact fork_take hsel hQ hb pre post j y hpx hpy hx1 hx2 r listed a w hsub hnd hmem hrl hsz hdown hC hxa o ho' hall (wpLexK_join (fun _ _ h => h.1) r a w hra h)
    ·have hperm : ∀ k, k ∈ r ++ j :: x :: post ↔ k ∈ r ++ x :: j :: post := fun k => by simp only [List.mem_append, List.mem_cons]; constructor <;> (rintro (h | h | h | h) <;> simp [h])
     exact fork_take hsel hQ hb pre post j x hpy hpx hy1 hy2 r listed a w hsub ((List.Perm.append_left r (List.Perm.swap j x post)).nodup_iff.1 hnd) (fun k hk => (hperm k).trans (hmem k hk)) (fun k hk => hrl k ((hperm k).1 hk)) hsz hdown hC hya o ho' hall (wpLexK_join (fun _ _ h => h.2) r a w hra h)
    ·exfalso
     have h1 := hwl x (hpost j hjp)
     have hxl : x < l.length := hrl x (by simp)
     exact (getD_flip (by omega)).1 ((hmem x hxl).1 (by simp)) h1

def forkOk (l : List Oper) (pre post : List Nat) (x y : Nat) : Bool :=
 Region.noSelect l.toArray && ((pre ++ x :: y :: post).length == l.length) && nodupB (pre ++ x :: y :: post) && (pre ++ x :: y :: post).all (fun i => decide (i < l.length)) && (List.range l.length).all (fun i => (pre ++ x :: y :: post).contains i) && pairsOk l (masks l []) (pre ++ x :: post) && pairsOk l (masks l []) (pre ++ y :: post) && edgesBackB l
  && !waits (masks l []) x y && post.all (fun j => waits (masks l []) j x) && actAt l x && actAt l y && pre.all (fun i => !actAt l i)
theorem wp_region_fork {id : Nat} {a : Act} {w : World} (C : World → Prop) (pre post : List Nat) (x y : Nat) (hm : P.follows .mixedOrders = true) (hB : forkOk l pre post x y = true) (hC : C w.drew)
  (h : wpLexK P l.toArray (NoPanic Q) (fun a w => wpLex P l.toArray (NoPanic Q) C (actAt l) (needF l (masks l []) [] (pre ++ x :: y :: post)) (x :: y :: post) a w ∧ wpLex P l.toArray (NoPanic Q) C (actAt l) (needF l (masks l []) [] (pre ++ y :: x :: post)) (y :: x :: post) a w) C (actAt l) (fun _ => true) pre a w.drew) : (Code.region id l.toArray true).wp P Q a w := by
 simp only [forkOk, Bool.and_eq_true, beq_iff_eq] at hB
 obtain ⟨⟨⟨⟨⟨⟨⟨⟨⟨⟨⟨⟨hsel, hlen⟩, hnd⟩, hall⟩, hcv⟩, hp1⟩, hp2⟩, hback⟩, hxy⟩, hpost⟩, hxa⟩, hya⟩, hpre⟩ := hB
 have hnd' := (nodupB_iff _).1 hnd
 have hnd2 : (pre ++ y :: x :: post).Nodup := (List.Perm.append_left pre (List.Perm.swap y x post)).nodup_iff.1 hnd'
 have hrl : ∀ j ∈ pre ++ x :: y :: post, j < l.length := fun j hj => by simpa using List.all_eq_true.1 hall j hj
 refine Code.wp_mono NoPanic.imp (wp_region_any hm ?_)
 have hcov : ∀ j, j < l.length → j ∈ pre ++ x :: y :: post := fun j hj => by simpa using List.all_eq_true.1 hcv j (List.mem_range.2 hj)
 have hne : ∀ (pi : List Nat), pi.Nodup → (∀ i j, List.Sublist [i, j] pi → waits (masks l []) j i = false → needF l (masks l []) [] pi j = true) ∧ (∀ i j, List.Sublist [j, i] pi → actAt l i = false → needF l (masks l []) [] pi j = true) := by
  intro pi hpn
  refine ⟨fun i j hs hw => ?_, fun i j hs hw => ?_⟩
  ·obtain ⟨pre, m, post, e⟩ := sub_split pi hs
   exact needF_ok pi [] (by simp) hpn (pre ++ i :: m) j post e (.inl ⟨i, .inr (by simp), hw⟩)
  ·obtain ⟨pre, m, post, e⟩ := sub_split pi hs
   refine needF_ok pi [] (by simp) hpn pre j (m ++ i :: post) (by rw [e]; simp) (.inr ⟨i, by simp, hw⟩)
 have hsz : l.toArray.size = pre.length + post.length + 2 := by simp at hlen ⊢; omega
 rw [hsz]
 refine lex_anyF (fun j o cs b ho => Region.noSelect_spec hsel j o cs b ho) (fun c a w h => h) hback pre post x y (fun i j hs => pairsOk_sub _ i j hp1 hs) (fun i j hs => pairsOk_sub _ i j hp2 hs) (hne _ hnd').1 (hne _ hnd').2 (hne _ hnd2).1 (hne _ hnd2).2 (by simpa using hxy) (fun j hj => List.all_eq_true.1 hpost j hj) hxa hya (fun i hi => by simpa using List.all_eq_true.1 hpre i hi) pre.length pre _ a w.drew rfl (List.Sublist.refl _) hnd' ?_ hrl (by simp at hlen ⊢; omega) ?_ hC h
 ·intro j hj
  have : (Array.replicate (pre.length + post.length + 2) false).getD j true = false := by
   have h9 : j < pre.length + post.length + 2 := by simp at hlen; omega
   simp [Array.getD_eq_getD_getElem?, h9]
  exact ⟨fun _ => this, fun _ => hcov j hj⟩
 ·intro j o ho hl
  simp [Array.getD_eq_getD_getElem?, Array.getElem?_replicate] at hl
  split at hl <;> simp at hl
end

section
variable {P : Program} {l : List Oper} {Q : Exit → Act → World → Prop} {K : Act → World → Prop} {C : World → Prop} {need : Nat → Bool}
theorem lexK_nil {i : Nat} {r : List Nat} {a : Act} {w : World} (o : Oper) (ho : l[i]? = some o) (x : Operand) (hx : o.op = .nilCheck x) (hg : o.guard = none) (ad : Addr) (he : a.eval x = .pointer (some ad))
  (h : wpLexK P l.toArray Q K C (actAt l) need r (a.put o.dst (.pointer (some ad))) w) : wpLexK P l.toArray Q K C (actAt l) need (i :: r) a w := by
 have haf : actAt l i = false := by simp [actAt, ho, hx, actOp]
 simp only [wpLexK, haf]
 rw [if_neg (by simp)]
 exact ⟨o, _, by simpa using ho, .inl ⟨by simp [Region.wanted, hg], fun w' _ => exec_nil hx he w'⟩, h⟩
end

section
variable {s : GS} {w0 wr w' : World} {d d' : GD} {D : List RArc}
theorem Gm.keepZ (h : Gm s w0 wr d) {z : Nat} (k : Keeps (fun b => b = z) wr w') (hz : ¬ GOwn s d z) (hs : s.bs ≤ z) (hZ : ∀ b, ¬ s.Z b) : Gm s w0 w' d := by
 have h0 : w0.heap.size ≤ z := by have := h.lo.1; have := h.hi.1; omega
 have hk : ∀ b, b < w0.heap.size → b ≠ z := fun b hb e => by omega
 exact ⟨h.b.kept k (fun e => hz (.inl e.symm)), k.rd RPaths.ok h.P (fun b hb => ⟨Nat.lt_of_lt_of_le hb h.k.size, hk b hb⟩) (fun _ h => h), k.rd RInts.ok h.A (fun b hb => ⟨Nat.lt_of_lt_of_le hb h.k.size, hk b hb⟩) (fun _ h => h),
  h.f.keepsF RInt.flat k (fun b hb e => by have := h.fl b hb; omega), h.fl, h.e.keepsF RRef.flat k (fun b hb e => by have := h.el b hb; omega), h.el, h.l.kept k (fun e => hz (.inr (.inl e.symm))),
  ⟨h.nr.blk.kept k (fun e => hz (.inr (.inr (.inl e.symm)))), h.nr.len, fun i v l hv hl => (h.nr.own i v l hv hl).keepsF RInt.flat k (fun b hb e => hz (.inr (.inr (.inr (.inr (.inr (.inr ⟨i, v, hv, e ▸ hb⟩))))))), h.nr.ne, h.nr.nb⟩,
  h.nl, h.lg.keepsF RChg.flat k (fun b hb e => hz (.inr (.inr (.inr (.inr (.inl (e ▸ hb)))))) ), h.q.keepsF RInt.flat k (fun b hb e => hz (.inr (.inr (.inr (.inr (.inr (.inl (e ▸ hb))))))) ), h.qd.kept k (fun e => hz (.inr (.inr (.inr (.inl e.symm))))), h.ql, h.ne, h.lo, h.hi, Nat.le_trans h.bsz k.size, h.k.trans k (fun b hb e => by omega),
  fun b hb => absurd hb (hZ b), Nat.le_trans h.zs k.size, h.zn⟩
def GS.fr (s : GS) (w : World) (d : GD) : GS := { s with Z := fun b => b < w.heap.size ∧ ¬ GOwn s d b, wz := w }
theorem Gm.toFr (h : Gm s w0 wr d) : Gm (s.fr wr d) w0 wr d := h.rezone _ (fun _ hb => hb)
theorem GP.fr (h : GP s D d') (w : World) : GP (s.fr w d) D d' := ⟨h.dok, h.ho, h.fl, h.ex⟩
theorem GP.unfr {w : World} (h : GP (s.fr w d) D d') : GP s D d' := ⟨h.dok, h.ho, h.fl, h.ex⟩
theorem SOk.fr (h : SOk s) (w : World) : SOk (s.fr w d) := ⟨h.v, h.g, h.n⟩
theorem Gm.unfr (h : Gm (s.fr wr d) w0 w' d') (hZ : ∀ b, ¬ s.Z b) (hz : s.wz.heap.size ≤ wr.heap.size) : Gm s w0 w' d' :=
 ⟨h.b, h.P, h.A, h.f, h.fl, h.e, h.el, h.l, h.nr, h.nl, h.lg, h.q, h.qd, h.ql, h.ne, h.lo, h.hi, h.bsz, h.k, fun b hb => absurd hb (hZ b), Nat.le_trans hz h.zs, fun b _ => hZ b⟩
theorem Gm.frk (h : Gm (s.fr wr d) w0 w' d') {b : Nat} (hb : b < wr.heap.size) (hn : ¬ GOwn s d b) : w'.heap[b]? = wr.heap[b]? ∧ ¬ GOwn s d' b :=
 ⟨(h.z b ⟨hb, hn⟩).2, fun e => h.zn b e ⟨hb, hn⟩⟩
theorem GP.T_eq (hs : SOk s) (h : GP s D d) : d.T = labD s.ps s.at_ s.now D := by
 obtain ⟨D', L, ht, _, hT, _⟩ := h.ex
 funext u
 rw [hT, labD_eq hs.g h.dok (ok_of_topo hs.g h.dok h.ho ht) ht u]
end

def ordB (p : Pb) (bs : List Bool) : List Order := ordL p.ps p.at_ (labD p.ps p.at_ p.now (decs p.ps (xs p) bs)) 144
def entB (p : Pb) (bs : List Bool) : List (List Int) := tabOf p.ps (secD p (decs p.ps (xs p) bs))
def BestV (w : World) (S : Foot) (p : Pb) (best : Option (List Bool × Int)) (vo ve : Value) (vc : Int) (fd : Bool) : Prop :=
 match best with
 | none => fd = false
 | some b => fd = true ∧ vc = b.2 ∧ ROrders w S [vo] (ordB p b.1) ∧ RIntss w S [ve] (entB p b.1)
theorem BestV.mono {w w' : World} {S S' : Foot} {p : Pb} {best : Option (List Bool × Int)} {vo ve : Value} {vc : Int} {fd : Bool} (h : BestV w S p best vo ve vc fd) (hS : ∀ b, S b → S' b) (hw : ∀ b, S b → w'.heap[b]? = w.heap[b]?) : BestV w' S' p best vo ve vc fd := by
 cases best with
 | none => exact h
 | some b => exact ⟨h.1, h.2.1, ROrders.ok.mono h.2.2.1 hS hw, RIntss.ok.mono h.2.2.2 hS hw⟩
def srC (s : GS) (au ap : Option Addr) (cu cp np budget steps : Nat) (vo ve : Value) (vc : Int) (fd : Bool) : Array Value := #[.pointer (some ⟨s.gb, 0, none⟩), .slice au 144 cu, .slice ap np cp, .int .i64 (budget : Int), .int .i64 (steps : Int), vo, ve, .int .i64 vc, .bool fd]
def SFt (s : GS) (w : World) (d : GD) (zb : Nat) : Foot := fun b => b < w.heap.size ∧ ¬ GOwn s d b ∧ b ≠ zb
def SFX (X : Foot) (s : GS) (w : World) (d : GD) (zb : Nat) : Foot := fun b => SFt s w d zb b ∧ ¬ X b
structure Srch (X : Foot) (s : GS) (w0 : World) (p : Pb) (budget zb : Nat) (au ap : Option Addr) (cu cp : Nat) (w : World) (d : GD) (st : SSt) : Prop where
 g : Gm s w0 w d
 sz : ∀ b, ¬ s.Z b
 bs : s.bs ≤ zb
 xo : ∀ b, X b → b < w.heap.size
 zn : ¬ GOwn s d zb
 b : ∃ vo ve vc fd, Blk w zb 83 (srC s au ap cu cp (prLs (usesP s.ps s.at_) 144).length budget st.steps vo ve vc fd) ∧ BestV w (SFX X s w d zb) p st.best vo ve vc fd
 u : RUsess w (SFX X s w d zb) [.slice au 144 cu] (usesP s.ps s.at_)
 pr : RPUs w (SFX X s w d zb) [.slice ap (prLs (usesP s.ps s.at_) 144).length cp] (prLs (usesP s.ps s.at_) 144)
section
variable {X : Foot} {s : GS} {w0 w w' : World} {p : Pb} {budget zb : Nat} {au ap : Option Addr} {cu cp : Nat} {d d' : GD} {st : SSt}
theorem Srch.zlt (h : Srch X s w0 p budget zb au ap cu cp w d st) : zb < w.heap.size := by
 obtain ⟨vo, ve, vc, fd, hb, _⟩ := h.b
 exact hb.lt
theorem Srch.keep (h : Srch X s w0 p budget zb au ap cu cp w d st) (k : KeepsAll w w') : Srch X s w0 p budget zb au ap cu cp w' d st := by
 have h1 : ∀ b, SFX X s w d zb b → SFX X s w' d zb b := fun b hb => ⟨⟨Nat.lt_of_lt_of_le hb.1.1 k.size, hb.1.2⟩, hb.2⟩
 have h2 : ∀ b, SFX X s w d zb b → w'.heap[b]? = w.heap[b]? := fun b hb => k.block b hb.1.1 (by simp)
 obtain ⟨vo, ve, vc, fd, hb, hbest⟩ := h.b
 exact ⟨h.g.keep k, h.sz, h.bs, fun b hb => Nat.lt_of_lt_of_le (h.xo b hb) k.size, h.zn, ⟨vo, ve, vc, fd, hb.kept k (by simp), hbest.mono h1 h2⟩, RUsess.ok.mono h.u h1 h2, (RSlice.ok RPU.ok).mono h.pr h1 h2⟩
theorem Srch.move (h : Srch X s w0 p budget zb au ap cu cp w d st) (hg : Gm (s.fr w d) w0 w' d') : Srch X s w0 p budget zb au ap cu cp w' d' st := by
 have hz : w.heap.size ≤ w'.heap.size := hg.zs
 have h1 : ∀ b, SFX X s w d zb b → SFX X s w' d' zb b := fun b hb => ⟨⟨Nat.lt_of_lt_of_le hb.1.1 hz, (hg.frk hb.1.1 hb.1.2.1).2, hb.1.2.2⟩, hb.2⟩
 have h2 : ∀ b, SFX X s w d zb b → w'.heap[b]? = w.heap[b]? := fun b hb => (hg.frk hb.1.1 hb.1.2.1).1
 have hzl := h.zlt
 obtain ⟨vo, ve, vc, fd, hb, hbest⟩ := h.b
 exact ⟨hg.unfr h.sz h.g.zs, h.sz, h.bs, fun b hb => Nat.lt_of_lt_of_le (h.xo b hb) hz, (hg.frk hzl h.zn).2, ⟨vo, ve, vc, fd, ((hg.frk hzl h.zn).1).trans hb, hbest.mono h1 h2⟩, RUsess.ok.mono h.u h1 h2, (RSlice.ok RPU.ok).mono h.pr h1 h2⟩
theorem Srch.own (h : Srch X s w0 p budget zb au ap cu cp w d st) (k : Keeps (fun b => b = zb) w w') {st' : SSt}
  (hb : ∃ vo ve vc fd, Blk w' zb 83 (srC s au ap cu cp (prLs (usesP s.ps s.at_) 144).length budget st'.steps vo ve vc fd) ∧ BestV w' (SFX X s w' d zb) p st'.best vo ve vc fd) : Srch X s w0 p budget zb au ap cu cp w' d st' := by
 have h1 : ∀ b, SFX X s w d zb b → SFX X s w' d zb b := fun b hb => ⟨⟨Nat.lt_of_lt_of_le hb.1.1 k.size, hb.1.2⟩, hb.2⟩
 have h2 : ∀ b, SFX X s w d zb b → w'.heap[b]? = w.heap[b]? := fun b hb => k.block b hb.1.1 hb.1.2.2
 exact ⟨h.g.keepZ k h.zn h.bs h.sz, h.sz, h.bs, fun b hb => Nat.lt_of_lt_of_le (h.xo b hb) k.size, h.zn, hb, RUsess.ok.mono h.u h1 h2, (RSlice.ok RPU.ok).mono h.pr h1 h2⟩
theorem Srch.step (h : Srch X s w0 p budget zb au ap cu cp w d st) : Srch X s w0 p budget zb au ap cu cp (w.setCell ⟨zb, 4, none⟩ (.int .i64 ((st.steps : Int) + 1))) d ⟨st.steps + 1, st.best⟩ := by
 obtain ⟨vo, ve, vc, fd, hb, hbest⟩ := h.b
 have k : Keeps (fun b => b = zb) w (w.setCell ⟨zb, 4, none⟩ (.int .i64 ((st.steps : Int) + 1))) := (Keeps.refl (fun b => b = zb) w).setCell (p := ⟨zb, 4, none⟩) (fun _ => rfl) _
 exact h.own k ⟨vo, ve, vc, fd, hb.set_ 4 _, hbest.mono (fun b hb => ⟨⟨Nat.lt_of_lt_of_le hb.1.1 k.size, hb.1.2⟩, hb.2⟩) (fun b hb => k.block b hb.1.1 hb.1.2.2)⟩
theorem Srch.farX (h : Srch X s w0 p budget zb au ap cu cp w d st) {z : Nat} (k : Keeps (fun b => b = z) w w') (hX : X z) (hn : ¬ GOwn s d z) (hz : z ≠ zb) (hs : s.bs ≤ z) : Srch X s w0 p budget zb au ap cu cp w' d st := by
 have h1 : ∀ b, SFX X s w d zb b → SFX X s w' d zb b := fun b hb => ⟨⟨Nat.lt_of_lt_of_le hb.1.1 k.size, hb.1.2⟩, hb.2⟩
 have h2 : ∀ b, SFX X s w d zb b → w'.heap[b]? = w.heap[b]? := fun b hb => k.block b hb.1.1 (fun e => hb.2 (e ▸ hX))
 obtain ⟨vo, ve, vc, fd, hb, hbest⟩ := h.b
 exact ⟨h.g.keepZ k hn hs h.sz, h.sz, h.bs, fun b hb => Nat.lt_of_lt_of_le (h.xo b hb) k.size, h.zn, ⟨vo, ve, vc, fd, hb.kept k (fun e => hz e.symm), hbest.mono h1 h2⟩, RUsess.ok.mono h.u h1 h2, (RSlice.ok RPU.ok).mono h.pr h1 h2⟩
theorem Srch.more (h : Srch X s w0 p budget zb au ap cu cp w d st) {Y : Foot} (k : KeepsAll w w') (hY : ∀ b, Y b → X b ∨ w.heap.size ≤ b ∧ b < w'.heap.size) : Srch Y s w0 p budget zb au ap cu cp w' d st := by
 have h1 : ∀ b, SFX X s w d zb b → SFX Y s w' d zb b := fun b hb => ⟨⟨Nat.lt_of_lt_of_le hb.1.1 k.size, hb.1.2⟩, fun e => (hY b e).elim hb.2 (fun e => by have := hb.1.1; omega)⟩
 have h2 : ∀ b, SFX X s w d zb b → w'.heap[b]? = w.heap[b]? := fun b hb => k.block b hb.1.1 (by simp)
 obtain ⟨vo, ve, vc, fd, hb, hbest⟩ := h.b
 exact ⟨h.g.keep k, h.sz, h.bs, fun b hb => (hY b hb).elim (fun e => Nat.lt_of_lt_of_le (h.xo b e) k.size) (fun e => e.2), h.zn, ⟨vo, ve, vc, fd, hb.kept k (by simp), hbest.mono h1 h2⟩, RUsess.ok.mono h.u h1 h2, (RSlice.ok RPU.ok).mono h.pr h1 h2⟩
theorem Srch.less (h : Srch X s w0 p budget zb au ap cu cp w d st) {Y : Foot} (hY : ∀ b, Y b → X b) : Srch Y s w0 p budget zb au ap cu cp w d st := h.more (Keeps.refl _ _) (fun b hb => .inl (hY b hb))
structure Frm (s : GS) (zb : Nat) (w : World) (d : GD) (w' : World) (d' : GD) : Prop where
 sz : w.heap.size ≤ w'.heap.size
 bl : ∀ b, SFt s w d zb b → w'.heap[b]? = w.heap[b]? ∧ ¬ GOwn s d' b
theorem Frm.trans {w'' : World} {d'' : GD} (h : Frm s zb w d w' d') (h' : Frm s zb w' d' w'' d'') : Frm s zb w d w'' d'' :=
 ⟨Nat.le_trans h.sz h'.sz, fun b hb => by
  have h1 := h.bl b hb
  have h2 := h'.bl b ⟨Nat.lt_of_lt_of_le hb.1 h.sz, h1.2, hb.2.2⟩
  exact ⟨h2.1.trans h1.1, h2.2⟩⟩
theorem Frm.keep (k : KeepsAll w w') : Frm s zb w d w' d := ⟨k.size, fun b hb => ⟨k.block b hb.1 (by simp), hb.2.1⟩⟩
theorem Frm.own (k : Keeps (fun b => b = zb) w w') : Frm s zb w d w' d := ⟨k.size, fun b hb => ⟨k.block b hb.1 hb.2.2, hb.2.1⟩⟩
theorem Frm.new {w'' : World} {z : Nat} (h : Frm s zb w d w' d') (k : Keeps (fun b => b = z) w' w'') (hz : w.heap.size ≤ z) : Frm s zb w d w'' d' :=
 ⟨Nat.le_trans h.sz k.size, fun b hb => ⟨(k.block b (Nat.lt_of_lt_of_le hb.1 h.sz) (fun e => by have := hb.1; omega)).trans (h.bl b hb).1, (h.bl b hb).2⟩⟩
theorem Frm.move (h : Gm (s.fr w d) w0 w' d') : Frm s zb w d w' d' := ⟨h.zs, fun _ hb => h.frk hb.1 hb.2.1⟩
theorem Frm.blk (h : Frm s zb w d w' d') {g : Nat} {t : TypeId} {cs : Array Value} (hb : Blk w g t cs) (hn : ¬ GOwn s d g) (hz : g ≠ zb) : Blk w' g t cs ∧ ¬ GOwn s d' g :=
 ⟨(h.bl g ⟨hb.lt, hn, hz⟩).1.trans hb, (h.bl g ⟨hb.lt, hn, hz⟩).2⟩
end

def prOf (ps : List (List Stage)) (x : Pr) : Use × Use := (useOf ps x.res x.u, useOf ps x.res x.v)
theorem filter_none_ {α : Type} {q : α → Bool} : ∀ {l : List α}, (∀ x ∈ l, q x = false) → l.filter q = []
 | [], _ => rfl
 | a :: l, h => by rw [List.filter_cons_of_neg (by simp [h a (by simp)]), filter_none_ (fun x hx => h x (by simp [hx]))]
theorem pfx_pairs (ps : List (List Stage)) (r : Int) (u : Ref) : ∀ (l : List Ref), pfx (useOf ps r u) (l.map (useOf ps r)) = ((l.filter fun v => decide (u.tr < v.tr)).map fun v => (⟨r, u, v⟩ : Pr)).map (prOf ps)
 | [] => rfl
 | v :: l => by
  have ih := pfx_pairs ps r u l
  unfold pfx at ih ⊢
  rw [List.map_cons]
  by_cases h : u.tr < v.tr
  ·have g1 : (fun v : Use => decide ((useOf ps r u).u.tr < v.u.tr)) (useOf ps r v) = true := decide_eq_true h
   have g2 : (fun v : Ref => decide (u.tr < v.tr)) v = true := decide_eq_true h
   rw [List.filter_cons_of_pos (p := fun v : Use => decide ((useOf ps r u).u.tr < v.u.tr)) g1, List.filter_cons_of_pos (p := fun v : Ref => decide (u.tr < v.tr)) g2, List.map_cons, List.map_cons, List.map_cons, ih]
   rfl
  ·have g1 : ¬ (fun v : Use => decide ((useOf ps r u).u.tr < v.u.tr)) (useOf ps r v) = true := fun e => h (of_decide_eq_true e)
   have g2 : ¬ (fun v : Ref => decide (u.tr < v.tr)) v = true := fun e => h (of_decide_eq_true e)
   rw [List.filter_cons_of_neg (p := fun v : Use => decide ((useOf ps r u).u.tr < v.u.tr)) g1, List.filter_cons_of_neg (p := fun v : Ref => decide (u.tr < v.tr)) g2, ih]
theorem prN_pairs (ps : List (List Stage)) (r : Int) {l : List Ref} (hl : l.Pairwise fun a b => a.tr ≤ b.tr) : ∀ n, n ≤ l.length → prN (l.map (useOf ps r)) n = ((l.take n).flatMap fun u => (l.filter fun v => decide (u.tr < v.tr)).map fun v => (⟨r, u, v⟩ : Pr)).map (prOf ps)
 | 0, _ => by simp [prN]
 | n + 1, hn => by
  have hx : l[n]? = some l[n] := List.getElem?_eq_getElem (by omega)
  have hd : l.filter (fun v => decide (l[n].tr < v.tr)) = (l.drop (n + 1)).filter (fun v => decide (l[n].tr < v.tr)) := by
   have e : l = l.take (n + 1) ++ l.drop (n + 1) := (List.take_append_drop (n + 1) l).symm
   have h0 : (l.take (n + 1)).filter (fun v => decide (l[n].tr < v.tr)) = [] := by
    refine filter_none_ fun v hv => ?_
    obtain ⟨i, hi, rfl⟩ := List.getElem_of_mem hv
    rw [List.length_take] at hi
    rw [List.getElem_take]
    have : l[i].tr ≤ l[n].tr := by
     by_cases he : i = n
     ·subst he; exact Int.le_refl _
     ·exact (List.pairwise_iff_getElem.1 hl) i n (by omega) (by omega) (by omega)
    simp; omega
   have h1 := congrArg (fun m => m.filter fun v => decide (l[n].tr < v.tr)) e
   simp only [List.filter_append, h0, List.nil_append] at h1
   exact h1
  rw [prN, prN_pairs ps r hl n (by omega), List.getElem?_map, hx, List.take_add_one, hx]
  simp only [Option.map_some, Option.toList_some, List.flatMap_append, List.flatMap_cons, List.flatMap_nil, List.append_nil, List.map_append]
  rw [← List.map_drop, pfx_pairs, hd]
theorem openA_asc (ps : List (List Stage)) (at_ : List Int) (r : Int) : (openA ps at_ r).Pairwise fun a b => a.tr ≤ b.tr := by
 have h : (allU ps r).Pairwise fun a b => a.tr ≤ b.tr := (allU_lex ps r).imp (fun h => by
  unfold Lex at h
  omega)
 exact h.sublist List.filter_sublist
theorem prLs_pairs (ps : List (List Stage)) (at_ : List Int) : ∀ n, n ≤ 144 → prLs (usesP ps at_) n = (pairsTo ps at_ n).map (prOf ps)
 | 0, _ => rfl
 | n + 1, hn => by
  rw [prLs, prLs_pairs ps at_ n (by omega), usesP_at ps at_ (show n < 144 by omega)]
  have e : pairsTo ps at_ (n + 1) = pairsTo ps at_ n ++ pairsL (n : Int) (openA ps at_ (n : Int)) := by
   unfold pairsTo
   rw [List.range_succ, List.flatMap_append]
   simp
  rw [e, List.map_append]
  congr 1
  show prN _ _ = _
  rw [List.length_map, prN_pairs ps (n : Int) (openA_asc ps at_ _) _ (Nat.le_refl _), List.take_length]
  rfl

end Go.Proofs.Ytilbbpbjhoidhaa
