/- A region that draws its order: every reading operation has a class of its own (C k), two classes for the user. No condition. Contracts of slices.SortFunc over uses of chapter 37 (12 of them or fewer). Conditions: as each theorem says. -/
import Derived.Test.YtilbbpbjhoidhaaV25
import Derived.Test.YtilbbpbjhoidhaaV24
namespace Go.Proofs.Ytilbbpbjhoidhaa
open Go.RowKit

section
variable {P : Program} {ops : Array Oper} {Q : Exit → Act → World → Prop} {C : Nat → World → Prop} {act : Nat → Bool} {need : Nat → Nat → Bool}

def wpLexI (P : Program) (ops : Array Oper) (Q : Exit → Act → World → Prop) (C : Nat → World → Prop) (act : Nat → Bool) (need : Nat → Nat → Bool) : List Nat → Act → World → Prop
 | [], a, w => Q .normal a w
 | i :: r, a, w => if act i = true then wpOp P ops Q i (fun a' w' => (∀ k, need i k = true → C k w') ∧ wpLexI P ops Q C act need r a' w') a w
   else ∃ oi v, ops[i]? = some oi ∧ YieldsIf P ops (C i) oi v a ∧ wpLexI P ops Q C act need r (a.put oi.dst v) w

theorem wpLexI_pull (hsel : ∀ (j : Nat) (o : Oper) cs b, ops[j]? = some o → o.op ≠ .select cs b) (hQ : ∀ c a w, ¬ Q (.panic c) a w) (i : Nat) (post : List Nat) :
  ∀ (pre : List Nat) (a : Act) (w : World), (∀ k ∈ pre, act k = false ∧ ∀ ok oi, ops[k]? = some ok → ops[i]? = some oi → ok.apart ops oi = true) → (∀ k ∈ pre, act i = true → need i k = true) → (act i = false → C i w) → (∀ k ∈ pre, C k w) →
   (act i = true → ∃ oi, ops[i]? = some oi) → wpLexI P ops Q C act need (pre ++ i :: post) a w → wpOp P ops Q i (fun a' w' => (act i = true → ∀ k, need i k = true → C k w') ∧ (act i = false → w' = w) ∧ wpLexI P ops Q C act need (pre ++ post) a' w') a w := by
 intro pre
 induction pre with
 | nil =>
  intro a w _ _ hC _ _ h
  simp only [List.nil_append, wpLexI] at h ⊢
  by_cases ha : act i = true
  ·rw [if_pos ha] at h
   exact wpOp_mono (fun a' w' h => ⟨fun _ => h.1, fun hf => (by rw [ha] at hf; cases hf), h.2⟩) h
  ·rw [if_neg ha] at h
   obtain ⟨oi, v, hoi, hy, hr⟩ := h
   have hf : act i = false := by simpa using ha
   exact hy.wpOp hoi (hC hf) ⟨fun e => (by rw [hf] at e; cases e), fun _ => rfl, hr⟩
 | cons k pre ih =>
  intro a w hpre hneed hC hCp hex h
  obtain ⟨hk, hap⟩ := hpre k (by simp)
  have hk' : ¬ act k = true := by simp [hk]
  simp only [List.cons_append, wpLexI] at h ⊢
  rw [if_neg hk'] at h
  obtain ⟨ok, u, hok, hyk, hr⟩ := h
  have h2 := ih (a.put ok.dst u) w (fun x hx => hpre x (by simp [hx])) (fun x hx => hneed x (by simp [hx])) hC (fun x hx => hCp x (by simp [hx])) hex hr
  by_cases hoi : ∃ oi, ops[i]? = some oi
  ·obtain ⟨oi, hoi⟩ := hoi
   have h3 := wpOp_putIf (S := C k) hoi (hap ok oi hok hoi) (fun cs b => hsel k ok cs b hok) (fun cs b => hsel i oi cs b hoi) (fun c a w hq => absurd hq (hQ c _ w)) hyk h2
   refine wpOp_mono (fun a' w' h => ⟨h.2.1, h.2.2.1, ?_⟩) h3
   rw [if_neg hk']
   exact ⟨ok, u, hok, h.1, h.2.2.2⟩
  ·have hnone : ops[i]? = none := by
    cases e : ops[i]? with
    | none => rfl
    | some o => exact absurd ⟨o, e⟩ hoi
   unfold wpOp at h2 ⊢
   simp only [hnone] at h2 ⊢
   have haf : act i = false := by
    cases e : act i with
    | false => rfl
    | true => exact absurd (hex e) hoi
   refine ⟨h2.1, h2.2.1, ?_⟩
   rw [if_neg hk']
   exact ⟨ok, u, hok, hyk, h2.2.2⟩
end

section
variable {P : Program} {l : List Oper} {Q : Exit → Act → World → Prop} {C : Nat → World → Prop} {need : Nat → Nat → Bool}
theorem lex_anyI (hsel : ∀ (j : Nat) (o : Oper) cs b, l.toArray[j]? = some o → o.op ≠ .select cs b) (hQ : ∀ c a w, ¬ Q (.panic c) a w) (hb : edgesBackB l = true) (pi : List Nat)
  (hpair : ∀ i j, List.Sublist [i, j] pi → pairOk l (masks l []) i j = true) (hneed1 : ∀ i j, List.Sublist [i, j] pi → waits (masks l []) j i = false → actAt l i = false → need j i = true)
  (hneed2 : ∀ i j, List.Sublist [j, i] pi → actAt l i = false → need j i = true) :
  ∀ (fuel : Nat) (r : List Nat) (listed : Array Bool) (a : Act) (w : World), r.length = fuel → List.Sublist r pi → r.Nodup → (∀ j, j < l.length → (j ∈ r ↔ listed.getD j true = false)) → (∀ j ∈ r, j < l.length) → listed.size = l.length →
   (∀ (j : Nat) (o : Oper), l[j]? = some o → listed.getD j false = true → ∀ e ∈ o.after, Region.binds .any e = true → listed.getD e.on false = true) →
   (∀ i ∈ r, actAt l i = false → C i w) → wpLexI P l.toArray Q C (actAt l) need r a w → wpAny P .any l.toArray Q fuel listed a w := by
 intro fuel
 induction fuel with
 | zero =>
  intro r listed a w hlen _ _ hmem _ _ _ _ h
  have : r = [] := List.eq_nil_of_length_eq_zero hlen
  subst this
  refine ⟨?_, h⟩
  apply List.eq_nil_iff_forall_not_mem.2
  intro j hj
  obtain ⟨h0, o, ho, _⟩ := mem_ready.1 hj
  have hjl : j < l.length := by
   have := (Array.getElem?_eq_some_iff.1 ho).1; simpa using this
  simpa using (hmem j hjl).2 h0
 | succ fuel ih =>
  intro r listed a w hlen hsub hnd hmem hrl hsz hdown hC h
  refine ⟨fun hempty => ?_, fun j hj => ?_⟩
  ·-- there is one that may come up: the first of the order
   exfalso
   cases r with
   | nil => simp at hlen
   | cons i r' =>
    have hil := hrl i (by simp)
    have hi0 := (hmem i hil).1 (by simp)
    have : i ∈ Region.ready .any l.toArray listed := by
     refine mem_ready.2 ⟨hi0, l[i], by simp [hil], fun e he hbd => ?_⟩
     have hw := waits_edge (List.getElem?_eq_getElem hil) he hbd
     have hlt : e.on < i := waits_ltB hb (List.getElem?_eq_getElem hil) hw
     apply Classical.byContradiction
     intro hn
     have hin : e.on ∈ i :: r' := (hmem e.on (by omega)).2 ((getD_flip (by omega)).2 hn)
     have hin' : e.on ∈ r' := by
      rcases List.mem_cons.1 hin with h' | h'
      ·omega
      ·exact h'
     have hp := hpair i e.on ((List.Sublist.cons_cons i (List.singleton_sublist.2 hin')).trans hsub)
     simp only [pairOk, Bool.and_eq_true] at hp
     simp [hw] at hp
    rw [hempty] at this
    simp at this
  ·obtain ⟨h0, o, ho, hall⟩ := mem_ready.1 hj
   have hjl : j < l.length := by
    have := (Array.getElem?_eq_some_iff.1 ho).1; simpa using this
   have ho' : l[j]? = some o := by simpa using ho
   have hjr := (hmem j hjl).2 h0
   obtain ⟨pre, post, rfl⟩ := List.append_of_mem hjr
   have hwl := waits_listedB hb (L := fun k => listed.getD k false = true) hdown (j + 1) j o (by omega) ho' hall
   have hpre : ∀ k ∈ pre, waits (masks l []) j k = false ∧ actAt l k = false ∧ ∀ ok oi, l.toArray[k]? = some ok → l.toArray[j]? = some oi → ok.apart l.toArray oi = true := by
    intro k hk
    have hkl := hrl k (by simp [hk])
    have hk0 := (hmem k hkl).1 (by simp [hk])
    have hnw : waits (masks l []) j k = false := by
     cases e : waits (masks l []) j k with
     | false => rfl
     | true => exact absurd (hwl k e) ((getD_flip (by omega)).1 hk0)
    have hs2 : List.Sublist [k, j] (pre ++ j :: post) := (List.singleton_sublist.2 hk).append (List.singleton_sublist.2 (by simp))
    have hp := hpair k j (hs2.trans hsub)
    simp only [pairOk, hnw, Bool.and_eq_true, Bool.false_or] at hp
    refine ⟨hnw, by simpa using hp.2.1, fun ok oi h1 h2 => ?_⟩
    have h3 := hp.2.2
    simp only [List.getElem?_toArray] at h1 h2
    rw [h1, h2] at h3
    exact h3
   have hn : ∀ k ∈ pre, actAt l j = true → need j k = true := by
    intro k hk _
    have hs2 : List.Sublist [k, j] (pre ++ j :: post) := (List.singleton_sublist.2 hk).append (List.singleton_sublist.2 (by simp))
    exact hneed1 k j (hs2.trans hsub) (hpre k hk).1 (hpre k hk).2.1
   have h1 := wpLexI_pull (act := actAt l) hsel hQ j post pre a w (fun k hk => (hpre k hk).2) hn (fun hf => hC j (by simp) hf) (fun k hk => hC k (by simp [hk]) (hpre k hk).2.1) (fun _ => ⟨o, ho⟩) h
   refine wpOp_mono (fun a' w' hh => ?_) h1
   have hsub' : List.Sublist (pre ++ post) (pre ++ j :: post) := (List.Sublist.refl pre).append (List.sublist_cons_self j post)
   have hjn : j ∉ pre ++ post := by
    have h3 := List.nodup_append.1 hnd
    intro hx
    rcases List.mem_append.1 hx with hx | hx
    ·exact h3.2.2 j hx j (by simp) rfl
    ·exact (List.nodup_cons.1 h3.2.1).1 hx
   refine ih (pre ++ post) (listed.setIfInBounds j true) a' w' (by simp at hlen ⊢; omega) (hsub'.trans hsub) (hnd.sublist hsub') ?_ (fun k hk => hrl k (hsub'.subset hk)) (by simpa using hsz) ?_ ?_ hh.2.2
   ·intro k hk
    by_cases hjk : j = k
    ·subst hjk
     have : (listed.setIfInBounds j true).getD j true = true := by simp [Array.getD_eq_getD_getElem?, hsz, hjl]
     rw [this]
     exact ⟨fun hx => absurd hx hjn, fun hx => by cases hx⟩
    ·rw [getD_set_ne true hjk, ← hmem k hk]
     constructor
     ·intro hx; exact hsub'.subset hx
     ·intro hx
      rcases List.mem_append.1 hx with hx | hx
      ·exact List.mem_append_left _ hx
      ·rcases List.mem_cons.1 hx with hx | hx
       ·exact absurd hx.symm hjk
       ·exact List.mem_append_right _ hx
   ·intro k ok hok hlk e he hbd
    by_cases hjk : j = k
    ·subst hjk
     rw [ho'] at hok
     injection hok with hok
     subst hok
     exact getD_set_true (hall e he hbd)
    ·rw [getD_set_ne false hjk] at hlk
     exact getD_set_true (hdown k ok hok hlk e he hbd)
   ·intro i hi hia
    by_cases hja : actAt l j = true
    ·refine hh.1 hja i ?_
     rcases List.mem_append.1 hi with hi | hi
     ·exact hn i hi hja
     ·have hs2 : List.Sublist [j, i] (pre ++ j :: post) := ((List.Sublist.cons_cons j (List.singleton_sublist.2 hi))).trans (List.sublist_append_right pre (j :: post))
      exact hneed2 i j (hs2.trans hsub) hia
    ·have hjf : actAt l j = false := by simpa using hja
     rw [hh.2.1 hjf]
     exact hC i (hsub'.subset hi) hia
end

def behindB : List Nat → Nat → Nat → Bool
 | [], _, _ => false
 | x :: r, i, k => if x == i then r.contains k else behindB r i k
def needI (l : List Oper) (ms pi : List Nat) (i k : Nat) : Bool := pi.contains k && !actAt l k && (behindB pi i k || !waits ms i k)
theorem behindB_sub {i k : Nat} : ∀ (pi : List Nat), pi.Nodup → List.Sublist [i, k] pi → behindB pi i k = true
 | [], _, h => by simp at h
 | x :: r, hn, h => by
  unfold behindB
  obtain ⟨hx, hr⟩ := List.nodup_cons.1 hn
  cases h with
  | cons _ h =>
   have : x ≠ i := fun e => hx (by rw [e]; exact h.subset (by simp))
   rw [if_neg (by simpa using this)]
   exact behindB_sub r hr h
  | cons_cons _ h =>
   rw [if_pos (by simp)]
   simpa using List.singleton_sublist.1 h

section
variable {P : Program} {l : List Oper} {Q : Exit → Act → World → Prop}
theorem wp_region_lexI {id : Nat} {a : Act} {w : World} (C : Nat → World → Prop) (pi : List Nat) (hm : P.follows .mixedOrders = true) (hB : piOkB l pi = true) (hC : ∀ k, C k w.drew)
  (h : wpLexI P l.toArray (NoPanic Q) C (actAt l) (needI l (masks l []) pi) pi a w.drew) : (Code.region id l.toArray true).wp P Q a w := by
 simp only [piOkB, Bool.and_eq_true, beq_iff_eq] at hB
 obtain ⟨⟨⟨⟨⟨⟨hsel, hlen⟩, hnd⟩, hall⟩, hcv⟩, hpairs⟩, hback⟩ := hB
 have hnd' := (nodupB_iff pi).1 hnd
 have hrl : ∀ j ∈ pi, j < l.length := fun j hj => by simpa using List.all_eq_true.1 hall j hj
 refine Code.wp_mono NoPanic.imp (wp_region_any hm ?_)
 have hcov : ∀ j, j < l.length → j ∈ pi := by
  intro j hj
  simpa using List.all_eq_true.1 hcv j (List.mem_range.2 hj)
 have hsz : l.toArray.size = pi.length := by simp [hlen]
 have hsel' := fun (j : Nat) (o : Oper) cs b (ho : l.toArray[j]? = some o) => Region.noSelect_spec hsel j o cs b ho
 rw [hsz]
 refine lex_anyI hsel' (fun c a w h => h) hback pi (fun i j hs => pairsOk_sub pi i j hpairs hs) (fun i j hs hw ha => ?_) (fun i j hs ha => ?_) pi.length pi (Array.replicate pi.length false) a w.drew rfl (List.Sublist.refl _) hnd' ?_ hrl (by simp [hlen]) ?_ (fun i _ _ => hC i) h
 ·have : i ∈ pi := hs.subset (by simp)
  simp [needI, ha, hw, this]
 ·have : i ∈ pi := hs.subset (by simp)
  simp [needI, ha, behindB_sub pi hnd' hs, this]
 ·intro j hj
  have : (Array.replicate pi.length false).getD j true = false := by
   have h9 : j < pi.length := by omega
   simp [Array.getD_eq_getD_getElem?, h9]
  exact ⟨fun _ => this, fun _ => hcov j hj⟩
 ·intro j o ho hl
  simp [Array.getD_eq_getD_getElem?, Array.getElem?_replicate] at hl
  split at hl <;> simp at hl

def cl2 (L1 : List Nat) (C1 C2 : World → Prop) (k : Nat) (w : World) : Prop := if L1.contains k = true then C1 w else C2 w
theorem wp_region_lex3 {id : Nat} {a : Act} {w : World} (L1 : List Nat) (C1 C2 : World → Prop) (pi : List Nat) (hm : P.follows .mixedOrders = true) (hB : piOkB l pi = true) (hC1 : C1 w.drew) (hC2 : C2 w.drew)
  (h : wpLexI P l.toArray (NoPanic Q) (cl2 L1 C1 C2) (actAt l) (needI l (masks l []) pi) pi a w.drew) : (Code.region id l.toArray true).wp P Q a w :=
 wp_region_lexI (cl2 L1 C1 C2) pi hm hB (fun k => by unfold cl2; split <;> assumption) h

variable {L1 : List Nat} {C1 C2 : World → Prop} {pi : List Nat}
theorem lexI_q {C : Nat → World → Prop} {A : World → Prop} {need : Nat → Nat → Bool} {i : Nat} {r : List Nat} {a : Act} {w : World} (o : Oper) (ho : l[i]? = some o) (ha : actOp o.op = false) (hn : (match o.op with | .nilCheck _ => true | _ => false) = false) (hA : ∀ w, C i w → A w)
  (h : wpQuiet P l.toArray A (fun a' => wpLexI P l.toArray Q C (actAt l) need r a' w) [o] a) : wpLexI P l.toArray Q C (actAt l) need (i :: r) a w := by
 have haf : actAt l i = false := by simp [actAt, ho, ha]
 simp only [wpLexI, haf]
 rw [if_neg (by simp)]
 simp only [wpQuiet] at h
 by_cases hw : Region.wanted o (yielded l.toArray a.tmps) = true
 ·rw [if_pos hw] at h
  obtain ⟨v, h1, h2⟩ := h
  refine ⟨o, v, by simpa using ho, .inl ⟨hw, fun w' hw' => ?_⟩, h2⟩
  have h3 := h1 w' (hA w' hw')
  unfold Oper.quietAt at h3
  cases e : (execOp a.eval o).run P w' with
  | halt x w1 => rw [e] at h3; simp [Oper.quietUpon] at h3
  | ok n w1 =>
   obtain ⟨u, rfl⟩ := exec_value ha (fun x hx => by rw [hx] at hn; simp at hn) e
   rw [e] at h3
   simp only [Oper.quietUpon] at h3
   rw [h3.1, h3.2]
 ·rw [if_neg hw] at h
  exact ⟨o, undef, by simpa using ho, .inr ⟨by simpa using hw, rfl⟩, h⟩
theorem lex3_q1 {need : Nat → Nat → Bool} {i : Nat} {r : List Nat} {a : Act} {w : World} (o : Oper) (ho : l[i]? = some o) (ha : actOp o.op = false) (hn : (match o.op with | .nilCheck _ => true | _ => false) = false) (hi : L1.contains i = true)
  (h : wpQuiet P l.toArray C1 (fun a' => wpLexI P l.toArray Q (cl2 L1 C1 C2) (actAt l) need r a' w) [o] a) : wpLexI P l.toArray Q (cl2 L1 C1 C2) (actAt l) need (i :: r) a w :=
 lexI_q o ho ha hn (fun w hw => by unfold cl2 at hw; rwa [if_pos hi] at hw) h
theorem lex3_q2 {need : Nat → Nat → Bool} {i : Nat} {r : List Nat} {a : Act} {w : World} (o : Oper) (ho : l[i]? = some o) (ha : actOp o.op = false) (hn : (match o.op with | .nilCheck _ => true | _ => false) = false) (hi : L1.contains i = false)
  (h : wpQuiet P l.toArray C2 (fun a' => wpLexI P l.toArray Q (cl2 L1 C1 C2) (actAt l) need r a' w) [o] a) : wpLexI P l.toArray Q (cl2 L1 C1 C2) (actAt l) need (i :: r) a w :=
 lexI_q o ho ha hn (fun w hw => by unfold cl2 at hw; rwa [if_neg (by simpa using hi)] at hw) h
def need1 (l : List Oper) (ms pi L1 : List Nat) (i : Nat) : Bool := L1.any (fun k => needI l ms pi i k)
def need2 (l : List Oper) (ms pi L1 : List Nat) (i : Nat) : Bool := pi.any (fun k => !L1.contains k && needI l ms pi i k)
def lexPost3 (b1 b2 : Bool) (C1 C2 : World → Prop) (K : Act → World → Prop) : Exit → Act → World → Prop
 | .normal, a, w => (b1 = true → C1 w) ∧ (b2 = true → C2 w) ∧ K a w
 | _, _, _ => False
theorem lex3_a {i : Nat} {r : List Nat} {a : Act} {w : World} (o : Oper) (ho : l[i]? = some o) (ha : actOp o.op = true) (b1 b2 : Bool) (hb1 : need1 l (masks l []) pi L1 i = b1) (hb2 : need2 l (masks l []) pi L1 i = b2)
  (h : wpList P l.toArray (lexPost3 b1 b2 C1 C2 (wpLexI P l.toArray Q (cl2 L1 C1 C2) (actAt l) (needI l (masks l []) pi) r)) [o] a w) : wpLexI P l.toArray Q (cl2 L1 C1 C2) (actAt l) (needI l (masks l []) pi) (i :: r) a w := by
 subst hb1 hb2
 have hd : ∀ (a : Act) (w : World), lexPost3 (need1 l (masks l []) pi L1 i) (need2 l (masks l []) pi L1 i) C1 C2 (wpLexI P l.toArray Q (cl2 L1 C1 C2) (actAt l) (needI l (masks l []) pi) r) .normal a w → (∀ k, needI l (masks l []) pi i k = true → cl2 L1 C1 C2 k w) ∧ wpLexI P l.toArray Q (cl2 L1 C1 C2) (actAt l) (needI l (masks l []) pi) r a w := by
  rintro a w ⟨h1, h2, h3⟩
  refine ⟨fun k hk => ?_, h3⟩
  unfold cl2
  by_cases hL : L1.contains k = true
  ·rw [if_pos hL]
   exact h1 (List.any_eq_true.2 ⟨k, by simpa using hL, hk⟩)
  ·rw [if_neg hL]
   have hkp : k ∈ pi := by
    have := hk
    simp only [needI, Bool.and_eq_true] at this
    simpa using this.1.1
   refine h2 (List.any_eq_true.2 ⟨k, hkp, by simp [hk]; simpa using hL⟩)
 have hQ : LetsOut (lexPost3 (need1 l (masks l []) pi L1 i) (need2 l (masks l []) pi L1 i) C1 C2 (wpLexI P l.toArray Q (cl2 L1 C1 C2) (actAt l) (needI l (masks l []) pi) r)) → LetsOut Q := fun ⟨_, _, h⟩ => h.elim
 have haf : actAt l i = true := by simp [actAt, ho, ha]
 simp only [wpLexI, haf, if_true]
 unfold wpOp
 simp only [List.getElem?_toArray, ho]
 simp only [wpList] at h
 by_cases hw : Region.wanted o (yielded l.toArray a.tmps) = true
 ·rw [if_pos hw] at h ⊢
  rcases h with h | ⟨h1, h2⟩
  ·refine .inl ?_
   unfold Oper.wp at h ⊢
   generalize (execOp a.eval o).run P w = res at h ⊢
   cases res with
   | ok n w' =>
    cases n <;> simp only [Oper.upon] at h ⊢
    case value u => exact hd _ _ h
    case skip => exact hd _ _ h
    case defer d => exact hd _ _ h
    case enter f args =>
     refine Calls.mono h fun e w'' he => ?_
     cases e with
     | returned u => exact hd _ _ he
     | panicked c => exact he.elim
     | outgrown => exact hQ he
    case row row args => exact Rows.mono h fun v w2 h => hd _ _ h
   | halt x w' =>
    cases x <;> simp only [Oper.upon] at h ⊢
    case panic u => exact h.elim
  ·exact .inr ⟨h1, hQ h2⟩
 ·rw [if_neg hw] at h ⊢
  exact hd _ _ h
end

def u4 (f : Ref → Int × Int) (u : Ref) : List Value := [.int .i64 u.tr, .int .i64 u.st, .int .i64 (f u).1, .int .i64 (f u).2]
def UfC (f : Ref → Int × Int) (cs : Array Value) (o : Nat) (m : List Ref) : Prop := ∀ (k : Nat) u, m[k]? = some u → cs[o + k * 4]? = some (.int .i64 u.tr) ∧ cs[o + k * 4 + 1]? = some (.int .i64 u.st) ∧ cs[o + k * 4 + 2]? = some (.int .i64 (f u).1) ∧ cs[o + k * 4 + 3]? = some (.int .i64 (f u).2)
def putC (f : Ref → Int × Int) (cs : Array Value) (a : Nat) (u : Ref) : Array Value := (((cs.setIfInBounds a (.int .i64 u.tr)).setIfInBounds (a + 1) (.int .i64 u.st)).setIfInBounds (a + 2) (.int .i64 (f u).1)).setIfInBounds (a + 3) (.int .i64 (f u).2)
theorem putC_size (f : Ref → Int × Int) (cs : Array Value) (a : Nat) (u : Ref) : (putC f cs a u).size = cs.size := by simp [putC]
theorem putC_far (f : Ref → Int × Int) (cs : Array Value) {a b : Nat} (u : Ref) (h : b < a ∨ a + 3 < b) : (putC f cs a u)[b]? = cs[b]? := by
 unfold putC
 rw [Array.getElem?_setIfInBounds_ne (by omega), Array.getElem?_setIfInBounds_ne (by omega), Array.getElem?_setIfInBounds_ne (by omega), Array.getElem?_setIfInBounds_ne (by omega)]
theorem putC_at (f : Ref → Int × Int) (cs : Array Value) {a : Nat} (u : Ref) (h : a + 3 < cs.size) : (putC f cs a u)[a]? = some (.int .i64 u.tr) ∧ (putC f cs a u)[a + 1]? = some (.int .i64 u.st) ∧ (putC f cs a u)[a + 2]? = some (.int .i64 (f u).1) ∧ (putC f cs a u)[a + 3]? = some (.int .i64 (f u).2) := by
 unfold putC
 refine ⟨?_, ?_, ?_, ?_⟩
 ·rw [Array.getElem?_setIfInBounds_ne (by omega), Array.getElem?_setIfInBounds_ne (by omega), Array.getElem?_setIfInBounds_ne (by omega), Array.getElem?_setIfInBounds_self_of_lt (by omega)]
 ·rw [Array.getElem?_setIfInBounds_ne (by omega), Array.getElem?_setIfInBounds_ne (by omega), Array.getElem?_setIfInBounds_self_of_lt (by simp; omega)]
 ·rw [Array.getElem?_setIfInBounds_ne (by omega), Array.getElem?_setIfInBounds_self_of_lt (by simp; omega)]
 ·rw [Array.getElem?_setIfInBounds_self_of_lt (by simp; omega)]
def putW (f : Ref → Int × Int) (w : World) (g a : Nat) (u : Ref) : World := (((w.setCell ⟨g, a, none⟩ (.int .i64 u.tr)).setCell ⟨g, a + 1, none⟩ (.int .i64 u.st)).setCell ⟨g, a + 2, none⟩ (.int .i64 (f u).1)).setCell ⟨g, a + 3, none⟩ (.int .i64 (f u).2)
theorem putW_blk {f : Ref → Int × Int} {w : World} {g t a : Nat} {cs : Array Value} (h : Blk w g t cs) (u : Ref) : Blk (putW f w g a u) g t (putC f cs a u) := (((h.set_ _ _).set_ _ _).set_ _ _).set_ _ _
theorem putW_keeps {f : Ref → Int × Int} {w w' : World} {g a : Nat} (h : Keeps (fun b => b = g) w w') (u : Ref) : Keeps (fun b => b = g) w (putW f w' g a u) := (((h.setCell (p := ⟨g, a, none⟩) (fun _ => rfl) _).setCell (p := ⟨g, a + 1, none⟩) (fun _ => rfl) _).setCell (p := ⟨g, a + 2, none⟩) (fun _ => rfl) _).setCell (p := ⟨g, a + 3, none⟩) (fun _ => rfl) _
theorem UfC.size {f : Ref → Int × Int} {cs : Array Value} {o k : Nat} {m : List Ref} {u : Ref} (h : UfC f cs o m) (hk : m[k]? = some u) : o + k * 4 + 3 < cs.size := (Array.getElem?_eq_some_iff.1 (h k u hk).2.2.2).1
theorem UfC.swap {f : Ref → Int × Int} {cs : Array Value} {o : Nat} {m : List Ref} {j : Nat} {x y : Ref} (h : UfC f cs o m) (hx : m[j + 1]? = some x) (hy : m[j]? = some y) : UfC f (putC f (putC f cs (o + (j + 1) * 4) y) (o + j * 4) x) o ((m.set (j + 1) y).set j x) := by
 have hs1 := h.size hx
 have hs0 := h.size hy
 intro k u hk
 rw [List.getElem?_set] at hk
 by_cases e1 : j = k
 ·subst e1
  rw [if_pos rfl] at hk
  split at hk
  ·injection hk with hk
   subst hk
   exact putC_at f _ x (by rw [putC_size]; omega)
  ·cases hk
 ·rw [if_neg e1, List.getElem?_set] at hk
  by_cases e2 : j + 1 = k
  ·subst e2
   rw [if_pos rfl] at hk
   split at hk
   ·injection hk with hk
    subst hk
    have h1 := putC_at f cs (a := o + (j + 1) * 4) y (by omega)
    rw [putC_far f _ x (by omega), putC_far f _ x (by omega), putC_far f _ x (by omega), putC_far f _ x (by omega)]
    exact h1
   ·cases hk
  ·rw [if_neg e2] at hk
   have h1 := h k u hk
   have hc : k < j ∨ j + 1 < k := by omega
   rw [putC_far f _ x (by omega), putC_far f _ x (by omega), putC_far f _ x (by omega), putC_far f _ x (by omega), putC_far f _ y (by omega), putC_far f _ y (by omega), putC_far f _ y (by omega), putC_far f _ y (by omega)]
   exact h1

set_option maxRecDepth 100000 in
set_option maxHeartbeats 4000000 in
theorem InsU_any (f : Ref → Int × Int) (F cb : Nat) (cm : Ref → Ref → Int) (g o : Nat) (l : List Ref) (c : Nat) (cs : Array Value) (w : World) (hl : l.length ≤ 12) (hlc : l.length ≤ c) (hc2 : c ≤ 9223372036854775807) (hb : Blk w g 133 cs) (hcl : UfC f cs o l)
  (hE : Enters F) (hF : ∀ W, Keeps (fun b => b = g) w W → ∀ u ∈ l, ∀ v ∈ l, Calls Try.prog F #[.agg (u4 f u).toArray, .agg (u4 f v).toArray, .pointer (some ⟨cb, 0, none⟩)] W fun e w' => e = .returned (.int .i64 (cm u v)) ∧ KeepsAll W w') :
  Calls Try.prog 99 #[.slice (some ⟨g, o, none⟩) l.length c, .int .i64 0, .int .i64 (l.length : Int), .func (.func F) #[] #[.pointer (some ⟨cb, 0, none⟩)]] w fun e w' => e = .returned (.tuple #[]) ∧ (∃ cs', Blk w' g 133 cs' ∧ UfC f cs' o (sortB (fun u v => decide (cm u v < 0)) l)) ∧ Keeps (fun b => b = g) w w' := by
 have hcf : ∀ (args : Array Value) (w : World), (callFunc F args).run Try.prog w = .ok (.enter F args) w := hE
 clear hE
 have HF := Lib.hid hF; clear hF
 have HCL := Lib.hid (And.intro hb hcl); clear hcl
 have hgz := hb.lt
 clear hb
 generalize hLT : (fun u v : Ref => decide (cm u v < 0)) = lt at *
 have HLT : Hid (∀ u v, lt u v = decide (cm u v < 0)) := fun u v => by rw [← hLT]
 have H1 : Hid (sortB lt (l.take 1) ++ l.drop 1 = l) := by
  show _ = _
  cases l with
  | nil => rfl
  | cons a r => simp [sortB, plU, plK]
 go_enter Try.func99, Try.ntmps99
 go_wp2
 go_loopw [8] (fun v wr => ∃ (i : Nat) (cs : Array Value), 1 ≤ i ∧ (i ≤ l.length ∨ i = 1) ∧ v = .int .i64 (i : Int) ∧ Blk wr g 133 cs ∧ UfC f cs o (sortB lt (l.take i) ++ l.drop i) ∧ Keeps (fun b => b = g) w wr) (fun v _ => l.length - (intOf v).toNat)
 case atStart => exact ⟨1, cs, Nat.le_refl _, .inr rfl, by go_num, HCL.out.1, by rw [H1.out]; exact HCL.out.2, Keeps.refl _ _⟩
 case round =>
  obtain ⟨i, cs, hi1, hi2, rfl, hbl, hrf, hkr⟩ := hrel
  have HRF := Lib.hid hrf; have HBL := Lib.hid hbl; have KR := Lib.hid hkr
  clear hrf hbl hkr
  by_cases hlt : i < l.length
  ·have hx : l[i]? = some l[i] := List.getElem?_eq_getElem hlt
   have HXM : Hid (l[i] ∈ l) := List.getElem_mem _
   have HPL : Hid ((sortB lt (l.take i)).length = i) := by show _ = _; rw [sortB_len]; simp; omega
   have HPM : Hid (∀ v ∈ sortB lt (l.take i), v ∈ l) := fun v hv => List.mem_of_mem_take (sortB_mem v hv)
   have HM0 : Hid (sortB lt (l.take i) ++ l.drop i = mkL (sortB lt (l.take i)) l[i] (l.drop (i + 1)) i) := by
    show _ = _
    have e1 : (sortB lt (l.take i)).take i = sortB lt (l.take i) := List.take_of_length_le (by rw [HPL.out]; exact Nat.le_refl _)
    have e2 : (sortB lt (l.take i)).drop i = [] := List.drop_of_length_le (by rw [HPL.out]; exact Nat.le_refl _)
    unfold mkL
    rw [e1, e2, List.nil_append, drop_cons' hx]
   have HNX : Hid (sortB lt (l.take (i + 1)) = plU lt l[i] (sortB lt (l.take i))) := by
    show _ = _
    rw [List.take_add_one, hx, Option.toList_some, sortB_snoc]
   clear hx
   generalize l[i] = x at *
   generalize sortB lt (l.take i) = P at *
   generalize hRR : l.drop (i + 1) = R at *
   have HRR := Lib.hid hRR; clear hRR
   rw [HM0.out] at HRF
   have hdi : decide ((i : Int) < (l.length : Int)) = true := by simp; omega
   go_wp2
   go_loopw [9] (fun v wr => ∃ (j : Nat) (cs : Array Value), j ≤ i ∧ v = .int .i64 (j : Int) ∧ Blk wr g 133 cs ∧ UfC f cs o (mkL P x R j) ∧ Keeps (fun b => b = g) w wr ∧ plK lt x P i = plK lt x P j) (fun v _ => (intOf v).toNat)
   case atStart => exact ⟨i, cs, Nat.le_refl _, rfl, HBL.out, HRF.out, KR.out, rfl⟩
   case round =>
    clear HRF HBL KR
    obtain ⟨j, cs, hj, rfl, hbl, hrf, hkr, hpk⟩ := hrel
    have HRF := Lib.hid hrf; have HBL := Lib.hid hbl; have KR := Lib.hid hkr; have HPK := Lib.hid hpk
    clear hrf hkr hpk
    cases j with
    | zero =>
     have Q : Hid (sortB lt (l.take (i + 1)) ++ l.drop (i + 1) = mkL P x R 0) := by show _ = _; rw [HNX.out, HRR.out]; exact plU_mkL HPL.out HPK.out
     clear hbl
     rw [show ((0 : Nat) : Int) = 0 from rfl]
     go_wp2_with fail
     go_quiet (fail)
     go_wp2
     go_roundw
     case rel => exact ⟨i + 1, cs, by omega, by omega, by go_num, HBL.out.kept ((Keeps.refl (fun _ => False) _).drewN _) (by simp), by rw [Q.out]; exact HRF.out, KR.out.drewN _⟩
     case measure => simp [intOf]; omega
    | succ j =>
     have hyP : P[j]? = some (P[j]'(by rw [HPL.out]; omega)) := List.getElem?_eq_getElem _
     have HYM := Lib.hid (HPM.out _ (List.mem_of_getElem? hyP))
     generalize P[j]'(by rw [HPL.out]; omega) = y at *
     have hxj : (mkL P x R (j + 1))[j + 1]? = some x := mkL_at (by rw [HPL.out]; omega)
     have hyj := mkL_pred (x := x) (R := R) hyP
     obtain ⟨cx0, cx1, cx2, cx3⟩ := HRF.out (j + 1) x hxj
     obtain ⟨cy0, cy1, cy2, cy3⟩ := HRF.out j y hyj
     rw [← hbl.cell] at cx0 cx1 cx2 cx3 cy0 cy1 cy2 cy3
     have HSW := Lib.hid (mkL_swap (x := x) (R := R) hyP)
     have HPD := Lib.hid (fun h => plK_done (lt := lt) (x := x) hyP h)
     have HPMo := Lib.hid (fun h => plK_more (lt := lt) (x := x) hyP h)
     have HCF : Hid (∀ xx : Ext wr, Calls Try.prog F #[.agg #[.int .i64 x.tr, .int .i64 x.st, .int .i64 (f x).1, .int .i64 (f x).2], .agg #[.int .i64 y.tr, .int .i64 y.st, .int .i64 (f y).1, .int .i64 (f y).2], .pointer (some ⟨cb, 0, none⟩)] xx.val fun e w'' => e = .returned (.int .i64 (cm x y)) ∧ ∃ z : Ext wr, w'' = z.val) := fun xx => ext_call xx (HF.out xx.val (KR.out.trans xx.keeps (fun _ _ h => h.elim)) x HXM.out y HYM.out)
     have HXJ := Lib.hid hxj
     have HYJ := Lib.hid hyj
     have HLXY := Lib.hid (HLT.out x y)
     clear hyP hxj hyj
     have hjl : j < l.length := by omega
     have hjl1 : j + 1 < l.length := by omega
     have hgr : g < wr.heap.size := hbl.lt
     clear hbl
     go_wp2_with fail
     refine wp_region_ext (by kernel_rfl) (by kernel_rfl) ?_
     have y0 := Ext.cell cx0
     have y1 := Ext.cell cx1
     have y2 := Ext.cell cx2
     have y3 := Ext.cell cx3
     have y4 := Ext.cell cy0
     have y5 := Ext.cell cy1
     have y6 := Ext.cell cy2
     have y7 := Ext.cell cy3
     repeat (go_big_quiet_step ((exact HCF.out _)))
     refine wpQuiet_nil ?_
     rintro _ ⟨X, rfl⟩
     have KX := Lib.hid (KR.out.trans X.keeps (fun _ _ h => h.elim))
     have HBX := Lib.hid (HBL.out.kept X.keeps (by simp))
     clear y0 y1 y2 y3 y4 y5 y6 y7 cx0 cx1 cx2 cx3 cy0 cy1 cy2 cy3 HCF HBL KR hgr
     generalize X.val = WX at *
     by_cases hlx : cm x y < 0
     ·have hltx : lt x y = true := by rw [HLXY.out]; simpa using hlx
      have HPK2 : Hid (plK lt x P i = plK lt x P j) := by show _ = _; rw [HPK.out, HPMo.out hltx]
      have HRN : Hid (UfC f (putC f (putC f cs (o + (j + 1) * 4) y) (o + j * 4) x) o (mkL P x R j)) := by
       have q := UfC.swap HRF.out HXJ.out HYJ.out
       rw [HSW.out] at q
       exact q
      obtain ⟨cx0, cx1, cx2, cx3⟩ := HRF.out (j + 1) x HXJ.out
      obtain ⟨cy0, cy1, cy2, cy3⟩ := HRF.out j y HYJ.out
      have HCY := Lib.hid (And.intro cy0 (And.intro cy1 (And.intro cy2 cy3)))
      rw [← HBX.out.cell] at cx0 cx1 cx2 cx3 cy0 cy1 cy2 cy3
      have hgx := HBX.out.lt
      have hw1 : IntKind.i64.wrap ((j : Int) + 1 - 1) = (j : Int) := by rw [IntWalk.i64_in _ (by omega)]; omega
      clear hltx
      go_wp2_with fail
      refine wp_region_lex3 [9, 13] (fun w' => ∃ x : Ext WX, w' = x.val) (fun w' => ∃ x : ExtC (fun b => b = g) WX, w' = x.val) [0, 1, 2, 3, 4, 5, 6, 7, 8, 9, 10, 11, 12, 13, 14, 15, 16, 17] (by kernel_rfl) (by kernel_rfl) ⟨⟨_, (Keeps.refl _ _).drew⟩, rfl⟩ (ExtC.start _ _) ?_
      have y0 := Ext.cell cx0
      have y1 := Ext.cell cx1
      have y2 := Ext.cell cx2
      have y3 := Ext.cell cx3
      have y4 := Ext.cell cy0
      have y5 := Ext.cell cy1
      have y6 := Ext.cell cy2
      have y7 := Ext.cell cy3
      iterate 15 ((first | refine lex3_q1 _ rfl rfl rfl rfl ?_ | refine lex3_q2 _ rfl rfl rfl rfl ?_); go_big_quiet_step (fail); refine wpQuiet_nil ?_)
      have HB0 := Lib.hid (HBX.out.kept ((Keeps.refl (fun _ => False) _).drew) (by simp))
      have K0 : Hid (Keeps (fun b => b = g) WX WX.drew) := Lib.hid (Keeps.refl _ _).drew
      have KX0 := Lib.hid KX.out.drew
      clear y0 y1 y2 y3 y4 y5 y6 y7 cx0 cx1 cx2 cx3 cy0 cy1 cy2 cy3 hw1
      obtain ⟨cx0, cx1, cx2, cx3⟩ := HRF.out (j + 1) x HXJ.out
      rw [← HB0.out.cell] at cx0 cx1 cx2 cx3
      have z0 := HB0.out.frozen (o + (j + 1) * 4)
      have z1 := HB0.out.frozen (o + (j + 1) * 4 + 1)
      have z2 := HB0.out.frozen (o + (j + 1) * 4 + 2)
      have z3 := HB0.out.frozen (o + (j + 1) * 4 + 3)
      generalize hWY : WX.drew = WY at *
      clear hWY
      refine lex3_a _ rfl rfl false true (by kernel_rfl) (by kernel_rfl) ?_
      go_wp2
      have hB1 := putW_blk (f := f) (a := o + (j + 1) * 4) HB0.out y
      have hK1 := putW_keeps (f := f) (a := o + (j + 1) * 4) K0.out y
      have hKX1 := putW_keeps (f := f) (a := o + (j + 1) * 4) KX0.out y
      unfold putW at hB1 hK1 hKX1
      refine ⟨fun h => (by cases h), fun _ => ⟨⟨_, hK1⟩, rfl⟩, ?_⟩
      have d0 : (putC f cs (o + (j + 1) * 4) y)[o + j * 4]? = some (.int .i64 y.tr) := (putC_far f _ y (by omega)).trans HCY.out.1
      have d1 : (putC f cs (o + (j + 1) * 4) y)[o + j * 4 + 1]? = some (.int .i64 y.st) := (putC_far f _ y (by omega)).trans HCY.out.2.1
      have d2 : (putC f cs (o + (j + 1) * 4) y)[o + j * 4 + 2]? = some (.int .i64 (f y).1) := (putC_far f _ y (by omega)).trans HCY.out.2.2.1
      have d3 : (putC f cs (o + (j + 1) * 4) y)[o + j * 4 + 3]? = some (.int .i64 (f y).2) := (putC_far f _ y (by omega)).trans HCY.out.2.2.2
      refine lex3_q2 _ rfl rfl rfl rfl ?_; go_big_quiet_step (fail); refine wpQuiet_nil ?_
      refine lex3_a _ rfl rfl false false (by kernel_rfl) (by kernel_rfl) ?_
      clear cx0 cx1 cx2 cx3 z0 z1 z2 z3 hK1
      generalize hW1 : World.setCell _ _ _ = W1
      rw [hW1] at hB1 hKX1
      rw [← hB1.cell] at d0 d1 d2 d3
      have z4 := hB1.frozen (o + j * 4)
      have z5 := hB1.frozen (o + j * 4 + 1)
      have z6 := hB1.frozen (o + j * 4 + 2)
      have z7 := hB1.frozen (o + j * 4 + 3)
      have hB2 := putW_blk (f := f) (a := o + j * 4) hB1 x
      have hKX2 := putW_keeps (f := f) (a := o + j * 4) hKX1 x
      unfold putW at hB2 hKX2
      have HB2 := Lib.hid hB2
      have HK2 := Lib.hid hKX2
      clear hW1 hB1 hKX1 hB2 hKX2
      go_wp2
      (try refine ⟨fun h => (by cases h), fun h => (by cases h), ?_⟩)
      simp only [wpLexI]
      refine NoPanic.normal ?_
      generalize hW2 : World.setCell _ _ _ = W2
      rw [hW2] at HB2 HK2
      clear hW2 d0 d1 d2 d3 z4 z5 z6 z7
      go_wp2
      go_roundw
      case rel => exact ⟨j, _, by omega, by first | rfl | go_num, HB2.out, HRN.out, HK2.out, HPK2.out⟩
      case measure => simp [intOf]
     ·have hltx : lt x y = false := by rw [HLXY.out]; simpa using hlx
      have Q : Hid (sortB lt (l.take (i + 1)) ++ l.drop (i + 1) = mkL P x R (j + 1)) := by show _ = _; rw [HNX.out, HRR.out]; exact plU_mkL HPL.out (HPK.out.trans (HPD.out hltx))
      clear hltx
      go_wp2
      go_roundw
      case rel => exact ⟨i + 1, cs, by omega, by omega, by go_num, HBX.out, by rw [Q.out]; exact HRF.out, KX.out⟩
      case measure => simp [intOf]; omega
  ·have HFIN : Hid (sortB lt (l.take i) ++ l.drop i = sortB lt l) := by
    show _ = _
    rw [List.take_of_length_le (by omega), List.drop_of_length_le (by omega), List.append_nil]
   have hdi : decide ((i : Int) < (l.length : Int)) = false := by simp; omega
   rw [HFIN.out] at HRF
   go_wp2
   refine bodyPost_end (results_none rfl _ _ _) rfl ?_
   exact ⟨rfl, ⟨cs, HBL.out, HRF.out⟩, KR.out⟩

theorem PdqU_any (lim : Int) (f : Ref → Int × Int) (F cb : Nat) (cm : Ref → Ref → Int) (g o : Nat) (l : List Ref) (c : Nat) (cs : Array Value) (w : World) (hl : l.length ≤ 12) (hlc : l.length ≤ c) (hc2 : c ≤ 9223372036854775807) (hb : Blk w g 133 cs) (hcl : UfC f cs o l)
  (hE : Enters F) (hF : ∀ W, Keeps (fun b => b = g) w W → ∀ u ∈ l, ∀ v ∈ l, Calls Try.prog F #[.agg (u4 f u).toArray, .agg (u4 f v).toArray, .pointer (some ⟨cb, 0, none⟩)] W fun e w' => e = .returned (.int .i64 (cm u v)) ∧ KeepsAll W w') :
  Calls Try.prog 94 #[.slice (some ⟨g, o, none⟩) l.length c, .int .i64 0, .int .i64 (l.length : Int), .int .i64 lim, .func (.func F) #[] #[.pointer (some ⟨cb, 0, none⟩)]] w fun e w' => e = .returned (.tuple #[]) ∧ (∃ cs', Blk w' g 133 cs' ∧ UfC f cs' o (sortB (fun u v => decide (cm u v < 0)) l)) ∧ Keeps (fun b => b = g) w w' := by
 have HI := Lib.hid (InsU_any f F cb cm g o l c cs w hl hlc hc2 hb hcl hE hF)
 clear hcl hb hE hF
 go_enter Try.func94, Try.ntmps94
 go_wp2
 go_loopw [1, 2] (fun va vb wr => va = .int .i64 0 ∧ vb = .int .i64 (l.length : Int) ∧ w = wr) (fun _ _ _ => 0)
 case atStart => exact ⟨rfl, rfl, rfl⟩
 case round =>
  obtain ⟨rfl, rfl, rfl⟩ := hrel
  have hle : l.length ≤ 12 := hl
  go_wp2_with fail
  refine HI.out.mono ?_
  rintro e w1 ⟨rfl, h1, h2⟩
  have H1 := Lib.hid h1; have H2 := Lib.hid h2
  clear h1 h2 HI
  go_wp2
  first | refine bodyPost_ret (results_none rfl _ _ _) rfl ?_ | refine bodyPost_end (results_none rfl _ _ _) rfl ?_
  exact ⟨rfl, H1.out, H2.out⟩
set_option maxHeartbeats 1000000 in
theorem SortU_any (f : Ref → Int × Int) (F cb : Nat) (cm : Ref → Ref → Int) (g o : Nat) (l : List Ref) (c : Nat) (cs : Array Value) (w : World) (hl : l.length ≤ 12) (hlc : l.length ≤ c) (hc2 : c ≤ 9223372036854775807) (hb : Blk w g 133 cs) (hcl : UfC f cs o l)
  (hE : Enters F) (hF : ∀ W, Keeps (fun b => b = g) w W → ∀ u ∈ l, ∀ v ∈ l, Calls Try.prog F #[.agg (u4 f u).toArray, .agg (u4 f v).toArray, .pointer (some ⟨cb, 0, none⟩)] W fun e w' => e = .returned (.int .i64 (cm u v)) ∧ KeepsAll W w') :
  Calls Try.prog 87 #[.slice (some ⟨g, o, none⟩) l.length c, .func (.func F) #[] #[.pointer (some ⟨cb, 0, none⟩)]] w fun e w' => e = .returned (.tuple #[]) ∧ (∃ cs', Blk w' g 133 cs' ∧ UfC f cs' o (sortB (fun u v => decide (cm u v < 0)) l)) ∧ Keeps (fun b => b = g) w w' := by
 have HP := Lib.hid (fun lim => PdqU_any lim f F cb cm g o l c cs w hl hlc hc2 hb hcl hE hF)
 have HL := Lib.hid (Len_any l.length hl w)
 clear hcl hb hE hF
 have hw := wrapU l.length (by omega)
 go_enter Try.func87, Try.ntmps87
 go_wp2_with fail
 refine HL.out.mono ?_
 rintro e w1 ⟨m, rfl, rfl⟩
 go_wp2_with fail
 refine (HP.out m).mono ?_
 rintro e w1 ⟨rfl, h1, h2⟩
 have H1 := Lib.hid h1; have H2 := Lib.hid h2
 clear h1 h2 HP HL
 go_wp2
 refine bodyPost_end (results_none rfl _ _ _) rfl ?_
 exact ⟨rfl, H1.out, H2.out⟩

end Go.Proofs.Ytilbbpbjhoidhaa
