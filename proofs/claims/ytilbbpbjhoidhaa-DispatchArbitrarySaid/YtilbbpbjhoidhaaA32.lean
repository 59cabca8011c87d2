/- A region that draws its order: every reading operation has a class of its own (C k), two classes for the user. No condition. -/
import Derived.Test.YtilbbpbjhoidhaaA31
namespace Go.Proofs.Ytilbbpbjhoidhaa
open Go.RowKit

section
variable {P : Program} {ops : Array Oper} {Q : Exit → Act → World → Prop} {C : Nat → World → Prop} {act : Nat → Bool} {need : Nat → Nat → Bool}

def wpLexI (P : Program) (ops : Array Oper) (Q : Exit → Act → World → Prop) (C : Nat → World → Prop) (act : Nat → Bool) (need : Nat → Nat → Bool) : List Nat → Act → World → Prop
 | [], a, w => Q .normal a w
 | i :: r, a, w => if act i = true then wpOp P ops Q i (fun a' w' => (∀ k, need i k = true → C k w') ∧ wpLexI P ops Q C act need r a' w') a w
   else ∃ oi v, ops[i]? = some oi ∧ YieldsIf P ops (C i) oi v a ∧ wpLexI P ops Q C act need r (a.put oi.dst v) w

theorem wpLexI_pull (hsel : ∀ (j : Nat) (o : Oper) cs b, ops[j]? = some o → o.op ≠ .select cs b) (hQ : ∀ c a w, ¬ Q (.panic c) a w) (i : Nat) (post : List Nat) :
  ∀ (pre : List Nat) (a : Act) (w : World), (∀ k ∈ pre, act k = false ∧ ∀ ok oi, ops[k]? = some ok → ops[i]? = some oi → ok.apart ops oi = true) → (∀ k ∈ pre, act i = true → need i k = true) → (act i = false → C i w) → (∀ k ∈ pre, C k w) →
   (act i = true → ∃ oi, ops[i]? = some oi) → wpLexI P ops Q C act need (pre ++ i :: post) a w → wpOp P ops Q i (fun a' w' => (act i = true → ∀ k, need i k = true → C k w') ∧ (act i = false → w' = w) ∧ wpLexI P ops Q C act need (pre ++ post) a' w') a w := by
 intro pre
 induction pre with
 | nil =>
  intro a w _ _ hC _ _ h
  simp only [List.nil_append, wpLexI] at h ⊢
  by_cases ha : act i = true
  ·rw [if_pos ha] at h
   exact wpOp_mono (fun a' w' h => ⟨fun _ => h.1, fun hf => (by rw [ha] at hf; cases hf), h.2⟩) h
  ·rw [if_neg ha] at h
   obtain ⟨oi, v, hoi, hy, hr⟩ := h
   have hf : act i = false := by simpa using ha
   exact hy.wpOp hoi (hC hf) ⟨fun e => (by rw [hf] at e; cases e), fun _ => rfl, hr⟩
 | cons k pre ih =>
  intro a w hpre hneed hC hCp hex h
  obtain ⟨hk, hap⟩ := hpre k (by simp)
  have hk' : ¬ act k = true := by simp [hk]
  simp only [List.cons_append, wpLexI] at h ⊢
  rw [if_neg hk'] at h
  obtain ⟨ok, u, hok, hyk, hr⟩ := h
  have h2 := ih (a.put ok.dst u) w (fun x hx => hpre x (by simp [hx])) (fun x hx => hneed x (by simp [hx])) hC (fun x hx => hCp x (by simp [hx])) hex hr
  by_cases hoi : ∃ oi, ops[i]? = some oi
  ·obtain ⟨oi, hoi⟩ := hoi
   have h3 := wpOp_putIf (S := C k) hoi (hap ok oi hok hoi) (fun cs b => hsel k ok cs b hok) (fun cs b => hsel i oi cs b hoi) (fun c a w hq => absurd hq (hQ c _ w)) hyk h2
   refine wpOp_mono (fun a' w' h => ⟨h.2.1, h.2.2.1, ?_⟩) h3
   rw [if_neg hk']
   exact ⟨ok, u, hok, h.1, h.2.2.2⟩
  ·have hnone : ops[i]? = none := by
    cases e : ops[i]? with
    | none => rfl
    | some o => exact absurd ⟨o, e⟩ hoi
   unfold wpOp at h2 ⊢
   simp only [hnone] at h2 ⊢
   have haf : act i = false := by
    cases e : act i with
    | false => rfl
    | true => exact absurd (hex e) hoi
   refine ⟨h2.1, h2.2.1, ?_⟩
   rw [if_neg hk']
   exact ⟨ok, u, hok, hyk, h2.2.2⟩
end

section
variable {P : Program} {l : List Oper} {Q : Exit → Act → World → Prop} {C : Nat → World → Prop} {need : Nat → Nat → Bool}
theorem lex_anyI (hsel : ∀ (j : Nat) (o : Oper) cs b, l.toArray[j]? = some o → o.op ≠ .select cs b) (hQ : ∀ c a w, ¬ Q (.panic c) a w) (hb : edgesBackB l = true) (pi : List Nat)
  (hpair : ∀ i j, List.Sublist [i, j] pi → pairOk l (masks l []) i j = true) (hneed1 : ∀ i j, List.Sublist [i, j] pi → waits (masks l []) j i = false → actAt l i = false → need j i = true)
  (hneed2 : ∀ i j, List.Sublist [j, i] pi → actAt l i = false → need j i = true) :
  ∀ (fuel : Nat) (r : List Nat) (listed : Array Bool) (a : Act) (w : World), r.length = fuel → List.Sublist r pi → r.Nodup → (∀ j, j < l.length → (j ∈ r ↔ listed.getD j true = false)) → (∀ j ∈ r, j < l.length) → listed.size = l.length →
   (∀ (j : Nat) (o : Oper), l[j]? = some o → listed.getD j false = true → ∀ e ∈ o.after, Region.binds .any e = true → listed.getD e.on false = true) →
   (∀ i ∈ r, actAt l i = false → C i w) → wpLexI P l.toArray Q C (actAt l) need r a w → wpAny P .any l.toArray Q fuel listed a w := by
 intro fuel
 induction fuel with
 | zero =>
  intro r listed a w hlen _ _ hmem _ _ _ _ h
  have : r = [] := List.eq_nil_of_length_eq_zero hlen
  subst this
  refine ⟨?_, h⟩
  apply List.eq_nil_iff_forall_not_mem.2
  intro j hj
  obtain ⟨h0, o, ho, _⟩ := mem_ready.1 hj
  have hjl : j < l.length := by
   have := (Array.getElem?_eq_some_iff.1 ho).1; simpa using this
  simpa using (hmem j hjl).2 h0
 | succ fuel ih =>
  intro r listed a w hlen hsub hnd hmem hrl hsz hdown hC h
  refine ⟨fun hempty => ?_, fun j hj => ?_⟩
  ·-- there is one that may come up: the first of the order
   exfalso
   cases r with
   | nil => simp at hlen
   | cons i r' =>
    have hil := hrl i (by simp)
    have hi0 := (hmem i hil).1 (by simp)
    have : i ∈ Region.ready .any l.toArray listed := by
     refine mem_ready.2 ⟨hi0, l[i], by simp [hil], fun e he hbd => ?_⟩
     have hw := waits_edge (List.getElem?_eq_getElem hil) he hbd
     have hlt : e.on < i := waits_ltB hb (List.getElem?_eq_getElem hil) hw
     apply Classical.byContradiction
     intro hn
     have hin : e.on ∈ i :: r' := (hmem e.on (by omega)).2 ((getD_flip (by omega)).2 hn)
     have hin' : e.on ∈ r' := by
      rcases List.mem_cons.1 hin with h' | h'
      ·omega
      ·exact h'
     have hp := hpair i e.on ((List.Sublist.cons_cons i (List.singleton_sublist.2 hin')).trans hsub)
     simp only [pairOk, Bool.and_eq_true] at hp
     simp [hw] at hp
    rw [hempty] at this
    simp at this
  ·obtain ⟨h0, o, ho, hall⟩ := mem_ready.1 hj
   have hjl : j < l.length := by
    have := (Array.getElem?_eq_some_iff.1 ho).1; simpa using this
   have ho' : l[j]? = some o := by simpa using ho
   have hjr := (hmem j hjl).2 h0
   obtain ⟨pre, post, rfl⟩ := List.append_of_mem hjr
   have hwl := waits_listedB hb (L := fun k => listed.getD k false = true) hdown (j + 1) j o (by omega) ho' hall
   have hpre : ∀ k ∈ pre, waits (masks l []) j k = false ∧ actAt l k = false ∧ ∀ ok oi, l.toArray[k]? = some ok → l.toArray[j]? = some oi → ok.apart l.toArray oi = true := by
    intro k hk
    have hkl := hrl k (by simp [hk])
    have hk0 := (hmem k hkl).1 (by simp [hk])
    have hnw : waits (masks l []) j k = false := by
     cases e : waits (masks l []) j k with
     | false => rfl
     | true => exact absurd (hwl k e) ((getD_flip (by omega)).1 hk0)
    have hs2 : List.Sublist [k, j] (pre ++ j :: post) := (List.singleton_sublist.2 hk).append (List.singleton_sublist.2 (by simp))
    have hp := hpair k j (hs2.trans hsub)
    simp only [pairOk, hnw, Bool.and_eq_true, Bool.false_or] at hp
    refine ⟨hnw, by simpa using hp.2.1, fun ok oi h1 h2 => ?_⟩
    have h3 := hp.2.2
    simp only [List.getElem?_toArray] at h1 h2
    rw [h1, h2] at h3
    exact h3
   have hn : ∀ k ∈ pre, actAt l j = true → need j k = true := by
    intro k hk _
    have hs2 : List.Sublist [k, j] (pre ++ j :: post) := (List.singleton_sublist.2 hk).append (List.singleton_sublist.2 (by simp))
    exact hneed1 k j (hs2.trans hsub) (hpre k hk).1 (hpre k hk).2.1
   have h1 := wpLexI_pull (act := actAt l) hsel hQ j post pre a w (fun k hk => (hpre k hk).2) hn (fun hf => hC j (by simp) hf) (fun k hk => hC k (by simp [hk]) (hpre k hk).2.1) (fun _ => ⟨o, ho⟩) h
   refine wpOp_mono (fun a' w' hh => ?_) h1
   have hsub' : List.Sublist (pre ++ post) (pre ++ j :: post) := (List.Sublist.refl pre).append (List.sublist_cons_self j post)
   have hjn : j ∉ pre ++ post := by
    have h3 := List.nodup_append.1 hnd
    intro hx
    rcases List.mem_append.1 hx with hx | hx
    ·exact h3.2.2 j hx j (by simp) rfl
    ·exact (List.nodup_cons.1 h3.2.1).1 hx
   refine ih (pre ++ post) (listed.setIfInBounds j true) a' w' (by simp at hlen ⊢; omega) (hsub'.trans hsub) (hnd.sublist hsub') ?_ (fun k hk => hrl k (hsub'.subset hk)) (by simpa using hsz) ?_ ?_ hh.2.2
   ·intro k hk
    by_cases hjk : j = k
    ·subst hjk
     have : (listed.setIfInBounds j true).getD j true = true := by simp [Array.getD_eq_getD_getElem?, hsz, hjl]
     rw [this]
     exact ⟨fun hx => absurd hx hjn, fun hx => by cases hx⟩
    ·rw [getD_set_ne true hjk, ← hmem k hk]
     constructor
     ·intro hx; exact hsub'.subset hx
     ·intro hx
      rcases List.mem_append.1 hx with hx | hx
      ·exact List.mem_append_left _ hx
      ·rcases List.mem_cons.1 hx with hx | hx
       ·exact absurd hx.symm hjk
       ·exact List.mem_append_right _ hx
   ·intro k ok hok hlk e he hbd
    by_cases hjk : j = k
    ·subst hjk
     rw [ho'] at hok
     injection hok with hok
     subst hok
     exact getD_set_true (hall e he hbd)
    ·rw [getD_set_ne false hjk] at hlk
     exact getD_set_true (hdown k ok hok hlk e he hbd)
   ·intro i hi hia
    by_cases hja : actAt l j = true
    ·refine hh.1 hja i ?_
     rcases List.mem_append.1 hi with hi | hi
     ·exact hn i hi hja
     ·have hs2 : List.Sublist [j, i] (pre ++ j :: post) := ((List.Sublist.cons_cons j (List.singleton_sublist.2 hi))).trans (List.sublist_append_right pre (j :: post))
      exact hneed2 i j (hs2.trans hsub) hia
    ·have hjf : actAt l j = false := by simpa using hja
     rw [hh.2.1 hjf]
     exact hC i (hsub'.subset hi) hia
end

/-- does k stand behind i? -/
def behindB : List Nat → Nat → Nat → Bool
 | [], _, _ => false
 | x :: r, i, k => if x == i then r.contains k else behindB r i k
/-- must operation k's class hold behind operation i? -/
def needI (l : List Oper) (ms pi : List Nat) (i k : Nat) : Bool := pi.contains k && !actAt l k && (behindB pi i k || !waits ms i k)
theorem behindB_sub {i k : Nat} : ∀ (pi : List Nat), pi.Nodup → List.Sublist [i, k] pi → behindB pi i k = true
 | [], _, h => by simp at h
 | x :: r, hn, h => by
  unfold behindB
  obtain ⟨hx, hr⟩ := List.nodup_cons.1 hn
  cases h with
  | cons _ h =>
   have : x ≠ i := fun e => hx (by rw [e]; exact h.subset (by simp))
   rw [if_neg (by simpa using this)]
   exact behindB_sub r hr h
  | cons_cons _ h =>
   rw [if_pos (by simp)]
   simpa using List.singleton_sublist.1 h

section
variable {P : Program} {l : List Oper} {Q : Exit → Act → World → Prop}
theorem wp_region_lexI {id : Nat} {a : Act} {w : World} (C : Nat → World → Prop) (pi : List Nat) (hm : P.follows .mixedOrders = true) (hB : piOkB l pi = true) (hC : ∀ k, C k w.drew)
  (h : wpLexI P l.toArray (NoPanic Q) C (actAt l) (needI l (masks l []) pi) pi a w.drew) : (Code.region id l.toArray true).wp P Q a w := by
 simp only [piOkB, Bool.and_eq_true, beq_iff_eq] at hB
 obtain ⟨⟨⟨⟨⟨⟨hsel, hlen⟩, hnd⟩, hall⟩, hcv⟩, hpairs⟩, hback⟩ := hB
 have hnd' := (nodupB_iff pi).1 hnd
 have hrl : ∀ j ∈ pi, j < l.length := fun j hj => by simpa using List.all_eq_true.1 hall j hj
 refine Code.wp_mono NoPanic.imp (wp_region_any hm ?_)
 have hcov : ∀ j, j < l.length → j ∈ pi := by
  intro j hj
  simpa using List.all_eq_true.1 hcv j (List.mem_range.2 hj)
 have hsz : l.toArray.size = pi.length := by simp [hlen]
 have hsel' := fun (j : Nat) (o : Oper) cs b (ho : l.toArray[j]? = some o) => Region.noSelect_spec hsel j o cs b ho
 rw [hsz]
 refine lex_anyI hsel' (fun c a w h => h) hback pi (fun i j hs => pairsOk_sub pi i j hpairs hs) (fun i j hs hw ha => ?_) (fun i j hs ha => ?_) pi.length pi (Array.replicate pi.length false) a w.drew rfl (List.Sublist.refl _) hnd' ?_ hrl (by simp [hlen]) ?_ (fun i _ _ => hC i) h
 ·have : i ∈ pi := hs.subset (by simp)
  simp [needI, ha, hw, this]
 ·have : i ∈ pi := hs.subset (by simp)
  simp [needI, ha, behindB_sub pi hnd' hs, this]
 ·intro j hj
  have : (Array.replicate pi.length false).getD j true = false := by
   have h9 : j < pi.length := by omega
   simp [Array.getD_eq_getD_getElem?, h9]
  exact ⟨fun _ => this, fun _ => hcov j hj⟩
 ·intro j o ho hl
  simp [Array.getD_eq_getD_getElem?, Array.getElem?_replicate] at hl
  split at hl <;> simp at hl

/-- two classes: C1 for the operations of L1, C2 for the others -/
def cl2 (L1 : List Nat) (C1 C2 : World → Prop) (k : Nat) (w : World) : Prop := if L1.contains k = true then C1 w else C2 w
theorem wp_region_lex3 {id : Nat} {a : Act} {w : World} (L1 : List Nat) (C1 C2 : World → Prop) (pi : List Nat) (hm : P.follows .mixedOrders = true) (hB : piOkB l pi = true) (hC1 : C1 w.drew) (hC2 : C2 w.drew)
  (h : wpLexI P l.toArray (NoPanic Q) (cl2 L1 C1 C2) (actAt l) (needI l (masks l []) pi) pi a w.drew) : (Code.region id l.toArray true).wp P Q a w :=
 wp_region_lexI (cl2 L1 C1 C2) pi hm hB (fun k => by unfold cl2; split <;> assumption) h

variable {L1 : List Nat} {C1 C2 : World → Prop} {pi : List Nat}
theorem lexI_q {C : Nat → World → Prop} {A : World → Prop} {need : Nat → Nat → Bool} {i : Nat} {r : List Nat} {a : Act} {w : World} (o : Oper) (ho : l[i]? = some o) (ha : actOp o.op = false) (hn : (match o.op with | .nilCheck _ => true | _ => false) = false) (hA : ∀ w, C i w → A w)
  (h : wpQuiet P l.toArray A (fun a' => wpLexI P l.toArray Q C (actAt l) need r a' w) [o] a) : wpLexI P l.toArray Q C (actAt l) need (i :: r) a w := by
 have haf : actAt l i = false := by simp [actAt, ho, ha]
 simp only [wpLexI, haf]
 rw [if_neg (by simp)]
 simp only [wpQuiet] at h
 by_cases hw : Region.wanted o (yielded l.toArray a.tmps) = true
 ·rw [if_pos hw] at h
  obtain ⟨v, h1, h2⟩ := h
  refine ⟨o, v, by simpa using ho, .inl ⟨hw, fun w' hw' => ?_⟩, h2⟩
  have h3 := h1 w' (hA w' hw')
  unfold Oper.quietAt at h3
  cases e : (execOp a.eval o).run P w' with
  | halt x w1 => rw [e] at h3; simp [Oper.quietUpon] at h3
  | ok n w1 =>
   obtain ⟨u, rfl⟩ := exec_value ha (fun x hx => by rw [hx] at hn; simp at hn) e
   rw [e] at h3
   simp only [Oper.quietUpon] at h3
   rw [h3.1, h3.2]
 ·rw [if_neg hw] at h
  exact ⟨o, undef, by simpa using ho, .inr ⟨by simpa using hw, rfl⟩, h⟩
/-- a reading operation of the first class -/
theorem lex3_q1 {need : Nat → Nat → Bool} {i : Nat} {r : List Nat} {a : Act} {w : World} (o : Oper) (ho : l[i]? = some o) (ha : actOp o.op = false) (hn : (match o.op with | .nilCheck _ => true | _ => false) = false) (hi : L1.contains i = true)
  (h : wpQuiet P l.toArray C1 (fun a' => wpLexI P l.toArray Q (cl2 L1 C1 C2) (actAt l) need r a' w) [o] a) : wpLexI P l.toArray Q (cl2 L1 C1 C2) (actAt l) need (i :: r) a w :=
 lexI_q o ho ha hn (fun w hw => by unfold cl2 at hw; rwa [if_pos hi] at hw) h
/-- a reading operation of the second class -/
theorem lex3_q2 {need : Nat → Nat → Bool} {i : Nat} {r : List Nat} {a : Act} {w : World} (o : Oper) (ho : l[i]? = some o) (ha : actOp o.op = false) (hn : (match o.op with | .nilCheck _ => true | _ => false) = false) (hi : L1.contains i = false)
  (h : wpQuiet P l.toArray C2 (fun a' => wpLexI P l.toArray Q (cl2 L1 C1 C2) (actAt l) need r a' w) [o] a) : wpLexI P l.toArray Q (cl2 L1 C1 C2) (actAt l) need (i :: r) a w :=
 lexI_q o ho ha hn (fun w hw => by unfold cl2 at hw; rwa [if_neg (by simpa using hi)] at hw) h
/-- which classes must hold behind operation i -/
def need1 (l : List Oper) (ms pi L1 : List Nat) (i : Nat) : Bool := L1.any (fun k => needI l ms pi i k)
def need2 (l : List Oper) (ms pi L1 : List Nat) (i : Nat) : Bool := pi.any (fun k => !L1.contains k && needI l ms pi i k)
def lexPost3 (b1 b2 : Bool) (C1 C2 : World → Prop) (K : Act → World → Prop) : Exit → Act → World → Prop
 | .normal, a, w => (b1 = true → C1 w) ∧ (b2 = true → C2 w) ∧ K a w
 | _, _, _ => False
theorem lex3_a {i : Nat} {r : List Nat} {a : Act} {w : World} (o : Oper) (ho : l[i]? = some o) (ha : actOp o.op = true) (b1 b2 : Bool) (hb1 : need1 l (masks l []) pi L1 i = b1) (hb2 : need2 l (masks l []) pi L1 i = b2)
  (h : wpList P l.toArray (lexPost3 b1 b2 C1 C2 (wpLexI P l.toArray Q (cl2 L1 C1 C2) (actAt l) (needI l (masks l []) pi) r)) [o] a w) : wpLexI P l.toArray Q (cl2 L1 C1 C2) (actAt l) (needI l (masks l []) pi) (i :: r) a w := by
 subst hb1 hb2
 have hd : ∀ (a : Act) (w : World), lexPost3 (need1 l (masks l []) pi L1 i) (need2 l (masks l []) pi L1 i) C1 C2 (wpLexI P l.toArray Q (cl2 L1 C1 C2) (actAt l) (needI l (masks l []) pi) r) .normal a w → (∀ k, needI l (masks l []) pi i k = true → cl2 L1 C1 C2 k w) ∧ wpLexI P l.toArray Q (cl2 L1 C1 C2) (actAt l) (needI l (masks l []) pi) r a w := by
  rintro a w ⟨h1, h2, h3⟩
  refine ⟨fun k hk => ?_, h3⟩
  unfold cl2
  by_cases hL : L1.contains k = true
  ·rw [if_pos hL]
   exact h1 (List.any_eq_true.2 ⟨k, by simpa using hL, hk⟩)
  ·rw [if_neg hL]
   have hkp : k ∈ pi := by
    have := hk
    simp only [needI, Bool.and_eq_true] at this
    simpa using this.1.1
   refine h2 (List.any_eq_true.2 ⟨k, hkp, by simp [hk]; simpa using hL⟩)
 have hQ : LetsOut (lexPost3 (need1 l (masks l []) pi L1 i) (need2 l (masks l []) pi L1 i) C1 C2 (wpLexI P l.toArray Q (cl2 L1 C1 C2) (actAt l) (needI l (masks l []) pi) r)) → LetsOut Q := fun ⟨_, _, h⟩ => h.elim
 have haf : actAt l i = true := by simp [actAt, ho, ha]
 simp only [wpLexI, haf, if_true]
 unfold wpOp
 simp only [List.getElem?_toArray, ho]
 simp only [wpList] at h
 by_cases hw : Region.wanted o (yielded l.toArray a.tmps) = true
 ·rw [if_pos hw] at h ⊢
  rcases h with h | ⟨h1, h2⟩
  ·refine .inl ?_
   unfold Oper.wp at h ⊢
   generalize (execOp a.eval o).run P w = res at h ⊢
   cases res with
   | ok n w' =>
    cases n <;> simp only [Oper.upon] at h ⊢
    case value u => exact hd _ _ h
    case skip => exact hd _ _ h
    case defer d => exact hd _ _ h
    case enter f args =>
     refine Calls.mono h fun e w'' he => ?_
     cases e with
     | returned u => exact hd _ _ he
     | panicked c => exact he.elim
     | outgrown => exact hQ he
    case row row args => exact Rows.mono h fun v w2 h => hd _ _ h
   | halt x w' =>
    cases x <;> simp only [Oper.upon] at h ⊢
    case panic u => exact h.elim
  ·exact .inr ⟨h1, hQ h2⟩
 ·rw [if_neg hw] at h ⊢
  exact hd _ _ h
end

end Go.Proofs.Ytilbbpbjhoidhaa
