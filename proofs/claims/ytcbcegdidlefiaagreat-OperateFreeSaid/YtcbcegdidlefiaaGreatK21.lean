/- A run with known data: what the run of a region that draws its order has shown. No condition. A run with known data: regions that draw their order. Conditions: as each theorem says. -/
import Derived.Test.YtcbcegdidlefiaaGreatK15
import Derived.Test.YtcbcegdidlefiaaGreatK20
namespace Go.Proofs.YtcbcegdidlefiaaGreat
open Go.RowKit

theorem eqI_true {a b : Int} (h : eqI a b = true) : a = b := by
  unfold eqI at h
  split at h
  · rw [Nat.eq_of_beq_eq_true h]
  · rw [Nat.eq_of_beq_eq_true h]
  · cases h
theorem strEq_true {a b : ByteArray} (h : strEq a b = true) : a = b := by
  unfold strEq at h
  have h1 : a.data.toList.map (·.toNat) = b.data.toList.map (·.toNat) := by simpa using h
  have : a.data.toList = b.data.toList := List.map_inj_right (f := UInt8.toNat) (fun x y e => UInt8.toNat_inj.1 e) |>.1 h1
  cases a; cases b; simp at this; rw [this]
theorem boolEq_true {a b : Bool} (h : boolEq a b = true) : a = b := by cases a <;> cases b <;> first | rfl | cases h
theorem veq0_eq {a b : Value} (h : veq0 a b = true) : a = b := by
  unfold veq0 at h
  split at h <;> first | (cases h; done) | rfl | skip
  · rw [boolEq_true h]
  · simp only [Bool.and_eq_true, decide_eq_true_eq] at h
    rw [h.1, eqI_true h.2]
  · rw [strEq_true h]
  · simp at h; subst h; rfl
  · simp at h; obtain ⟨⟨rfl, rfl⟩, rfl⟩ := h; rfl
  · simp at h; subst h; rfl
theorem veqL_eq {f : Value → Value → Bool} (hf : ∀ a b, f a b = true → a = b) : ∀ a b : List Value, veqL f a b = true → a = b
  | [], [], _ => rfl
  | [], _ :: _, h => by simp [veqL] at h
  | _ :: _, [], h => by simp [veqL] at h
  | x :: a, y :: b, h => by
    simp only [veqL, Bool.and_eq_true] at h
    rw [hf x y h.1, veqL_eq hf a b h.2]
theorem veqS_eq {a b : Value} (h : veqS a b = true) : a = b := by
  unfold veqS at h
  split at h
  · simp only [Bool.and_eq_true, decide_eq_true_eq] at h
    obtain ⟨⟨rfl, h1⟩, h2⟩ := h
    rw [Array.toList_inj.1 (veqL_eq (fun _ _ => veq0_eq) _ _ h1), Array.toList_inj.1 (veqL_eq (fun _ _ => veq0_eq) _ _ h2)]
  · exact veq0_eq h
theorem veqA_eq {a b : Value} (h : veqA a b = true) : a = b := by
  unfold veqA at h
  split at h
  · rw [Array.toList_inj.1 (veqL_eq (fun _ _ => veqS_eq) _ _ h)]
  · exact veqS_eq h
theorem veq_eq {a b : Value} (h : veq a b = true) : a = b := by
  unfold veq at h
  split at h
  · rw [Array.toList_inj.1 (veqL_eq (fun _ _ => veqA_eq) _ _ h)]
  · exact veqA_eq h
theorem blkEq_eq {a b : EBlk} (h : blkEq a b = true) : a = b := by
  unfold blkEq at h
  split at h <;> first | (cases h; done) | skip
  · simp only [Bool.and_eq_true, Nat.beq_eq] at h
    obtain ⟨⟨h1, rfl⟩, rfl⟩ := h
    rw [veqL_eq (fun _ _ => veqS_eq) _ _ h1]
  · simp only [Nat.beq_eq] at h; subst h; rfl
  · rename_i x p y q
    simp only [Bool.and_eq_true, Nat.beq_eq] at h
    obtain ⟨h1, rfl⟩ := h
    rw [strEq_true h1]

/-- values that are there stay -/
def Vs.le (V V' : Vs) : Prop := ∀ i v, Vs.get V i = some v → Vs.get V' i = some v
theorem Vs.le_refl (V : Vs) : Vs.le V V := fun _ _ h => h
theorem Vs.le_trans {a b c : Vs} (h : Vs.le a b) (g : Vs.le b c) : Vs.le a c := fun i v x => g i v (h i v x)
theorem Vs.at_put (V : Vs) (i : Nat) (v : Value) (j : Nat) : Vs.get (Vs.put V i v) j = if i = j then some v else Vs.get V j := by
  unfold Vs.put
  by_cases e : i = j
  · subst e; simp [Vs.get]
  · rw [if_neg e]
    have : Nat.beq i j = false := by
      apply Bool.eq_false_iff.2
      intro h9
      exact e (Nat.eq_of_beq_eq_true h9)
    simp [Vs.get, this]
theorem Vs.le_put {V : Vs} {i : Nat} {v : Value} (h : Vs.get V i = none) : Vs.le V (Vs.put V i v) := by
  intro j u hj
  rw [Vs.at_put]
  by_cases e : i = j
  · subst e; rw [h] at hj; cases hj
  · rw [if_neg e]; exact hj
theorem Vs.get_put {V : Vs} {i : Nat} {v : Value} : Vs.get (Vs.put V i v) i = some v := by rw [Vs.at_put, if_pos rfl]
theorem getV_le {V V' : Vs} (h : Vs.le V V') {i : Nat} (hi : (Vs.get V i).isSome = true) : getV V i = getV V' i := by
  obtain ⟨v, hv⟩ := Option.isSome_iff_exists.1 hi
  unfold getV
  rw [hv, h i v hv]
theorem getV_of {V : Vs} {i : Nat} {v : Value} (h : Vs.get V i = some v) : getV V i = v := by unfold getV; rw [h]

section
variable (E : Env) (rec : Rec) (ri : RI) (T0 : List Value) (base : Nat) (V : Vs)
/-- an operation that reads nothing -/
def Q0 (i : Nat) (o : Oper) : Prop := ∃ Vi, Vs.le Vi V ∧ envOk ri Vi i o = true ∧ match wantI ri Vi o with
  | false => getV V i = undef
  | true => aop0 E.P E.T (envI ri T0 Vi i) o = some (getV V i)
/-- one that reads memory, with the memory H -/
def Q1 (H : Hp) (i : Nat) (o : Oper) : Prop := ∃ Vi, Vs.le Vi V ∧ envOk ri Vi i o = true ∧ match wantI ri Vi o with
  | false => getV V i = undef
  | true => aop1 E.P E.T H (envI ri T0 Vi i) o = some (getV V i)
/-- one that makes a block, with the memory H in which the block stands -/
def Q2 (H : Hp) (i : Nat) (o : Oper) : Prop := ∃ Vi, Vs.le Vi V ∧ envOk ri Vi i o = true ∧ match wantI ri Vi o with
  | false => getV V i = undef
  | true => ∃ b m, aop2 E.T (envI ri T0 Vi i) o = some (b, m) ∧ labOk (base + i) = true ∧ getV V i = m.at (base + i) ∧ H.at (base + i) = some b
/-- one that does more, from H and n to H' and n' -/
def Q3 (H H' : Hp) (n n' : Nat) (i : Nat) (o : Oper) : Prop := ∃ Vi, Vs.le Vi V ∧ envOk ri Vi i o = true ∧ match wantI ri Vi o with
  | false => getV V i = undef ∧ H' = H ∧ n' = n
  | true => evAR E rec H n (aop3 E.P E.T H (base + i) (envI ri T0 Vi i) o) = .ok (getV V i) H' n'
/-- the memory is the same but for blocks that region operations of a stage make -/
def SameB (st : Nat) (H H' : Hp) : Prop := ∀ L, (∀ i o, ri.l[i]? = some o → kindOf o.op = 2 → ri.stg.getD i 0 = st → L ≠ base + i) → H'.at L = H.at L
/-- what an operation's turn has shown -/
def XF (i : Nat) (o : Oper) : Prop := ∃ Vi, Vs.le Vi V ∧ envOk ri Vi i o = true ∧ (Vs.get V i).isSome = true ∧ match wantI ri Vi o with
  | false => getV V i = undef
  | true => (kindOf o.op = 0 → aop0 E.P E.T (envI ri T0 Vi i) o = some (getV V i)) ∧ (kindOf o.op = 2 → ∃ b m, aop2 E.T (envI ri T0 Vi i) o = some (b, m) ∧ labOk (base + i) = true ∧ getV V i = m.at (base + i))
def FK (H : Hp) (i : Nat) (o : Oper) : Prop := (kindOf o.op = 0 → Q0 E ri T0 V i o) ∧ (kindOf o.op = 1 → Q1 E ri T0 V H i o) ∧ (kindOf o.op = 2 → Q2 E ri T0 base V H i o)
end
section
variable {E : Env} {rec : Rec} {ri : RI} {T0 : List Value} {base : Nat} {V V' : Vs}
theorem XF.le {i : Nat} {o : Oper} (h : XF E ri T0 base V i o) (hV : Vs.le V V') : XF E ri T0 base V' i o := by
  obtain ⟨Vi, h1, h2, h3, h4⟩ := h
  refine ⟨Vi, Vs.le_trans h1 hV, h2, ?_, ?_⟩
  · obtain ⟨v, hv⟩ := Option.isSome_iff_exists.1 h3
    rw [hV i v hv]; rfl
  · rw [← getV_le hV h3]; exact h4
theorem SameB.refl (st : Nat) (H : Hp) : SameB ri base st H H := fun _ _ => rfl
theorem SameB.trans {st : Nat} {H H1 H2 : Hp} (h : SameB ri base st H H1) (g : SameB ri base st H1 H2) : SameB ri base st H H2 := fun L hL => (g L hL).trans (h L hL)
theorem Q0.le {i : Nat} {o : Oper} (h : Q0 E ri T0 V i o) (hV : Vs.le V V') (hs : (Vs.get V i).isSome = true) : Q0 E ri T0 V' i o := by
  obtain ⟨Vi, h1, h2, h3⟩ := h
  exact ⟨Vi, Vs.le_trans h1 hV, h2, by rw [← getV_le hV hs]; exact h3⟩
theorem Q1.le {H : Hp} {i : Nat} {o : Oper} (h : Q1 E ri T0 V H i o) (hV : Vs.le V V') (hs : (Vs.get V i).isSome = true) : Q1 E ri T0 V' H i o := by
  obtain ⟨Vi, h1, h2, h3⟩ := h
  exact ⟨Vi, Vs.le_trans h1 hV, h2, by rw [← getV_le hV hs]; exact h3⟩
theorem Q2.le {H : Hp} {i : Nat} {o : Oper} (h : Q2 E ri T0 base V H i o) (hV : Vs.le V V') (hs : (Vs.get V i).isSome = true) : Q2 E ri T0 base V' H i o := by
  obtain ⟨Vi, h1, h2, h3⟩ := h
  exact ⟨Vi, Vs.le_trans h1 hV, h2, by rw [← getV_le hV hs]; exact h3⟩
theorem FK.le {H : Hp} {i : Nat} {o : Oper} (h : FK E ri T0 base V H i o) (hV : Vs.le V V') (hs : (Vs.get V i).isSome = true) : FK E ri T0 base V' H i o :=
  ⟨fun k => (h.1 k).le hV hs, fun k => (h.2.1 k).le hV hs, fun k => (h.2.2 k).le hV hs⟩
theorem Q3.le {H H' : Hp} {n n' i : Nat} {o : Oper} (h : Q3 E rec ri T0 base V H H' n n' i o) (hV : Vs.le V V') (hs : (Vs.get V i).isSome = true) : Q3 E rec ri T0 base V' H H' n n' i o := by
  obtain ⟨Vi, h1, h2, h3⟩ := h
  exact ⟨Vi, Vs.le_trans h1 hV, h2, by rw [← getV_le hV hs]; exact h3⟩
theorem envOk_le {i : Nat} {o : Oper} (hV : Vs.le V V') (h : envOk ri V i o = true) : envOk ri V' i o = true := by
  have key : ∀ j, (Vs.get V j).isSome = true → (Vs.get V' j).isSome = true := by
    intro j hj
    obtain ⟨v, hv⟩ := Option.isSome_iff_exists.1 hj
    rw [hV j v hv]; rfl
  unfold envOk at h ⊢
  simp only [Bool.and_eq_true, List.all_eq_true] at h ⊢
  refine ⟨fun t ht => key t (h.1 t ht), ?_⟩
  have := h.2
  split at this
  · simp
  · rename_i j x hg; exact key j this
theorem wantI_le {i : Nat} {o : Oper} (hV : Vs.le V V') (h : envOk ri V i o = true) : wantI ri V' o = wantI ri V o := by
  unfold envOk at h
  simp only [Bool.and_eq_true] at h
  unfold wantI
  have := h.2
  split at this
  · simp
  · rename_i j x hg
    simp only [getV_le hV this]
theorem opQ_ok {H H' : Hp} {i : Nat} {o : Oper} {v : Value} (h : opQ E ri T0 base V H i o = some (v, H')) :
    (kindOf o.op = 0 → aop0 E.P E.T (envI ri T0 V i) o = some v ∧ H' = H) ∧ (kindOf o.op = 1 → H' = H) ∧ (kindOf o.op = 2 → ∃ b m, aop2 E.T (envI ri T0 V i) o = some (b, m) ∧ labOk (base + i) = true ∧ v = m.at (base + i) ∧ H' = H.add (base + i) b) := by
  unfold opQ at h
  split at h
  · rename_i hk
    refine ⟨fun _ => ?_, fun e => by omega, fun e => by omega⟩
    split at h
    · rename_i u hu; cases h; exact ⟨hu, rfl⟩
    · cases h
  · rename_i hk
    refine ⟨fun e => by omega, fun _ => ?_, fun e => by omega⟩
    split at h
    · cases h; rfl
    · cases h
  · rename_i hk
    refine ⟨fun e => by omega, fun e => by omega, fun _ => ?_⟩
    split at h
    · rename_i b m h1 h2; cases h; exact ⟨b, m, h1, h2, rfl, rfl⟩
    · cases h
  · cases h
theorem stageRun_ok (hl : ri.l.length < 100000) {st : Nat} : ∀ (is : List Nat) (V : Vs) (H : Hp) (V' : Vs) (H' : Hp), stageRun E ri T0 base st is V H = some (V', H') →
    Vs.le V V' ∧ SameB ri base st H H' ∧ ∀ i ∈ is, ∀ o, ri.l[i]? = some o → kindOf o.op ≠ 3 → ri.stg.getD i 0 = st → XF E ri T0 base V' i o
  | [], V, H, V', H', h => by
    simp [stageRun] at h
    obtain ⟨rfl, rfl⟩ := h
    exact ⟨Vs.le_refl V, SameB.refl st H, by simp⟩
  | i :: is, V, H, V', H', h => by
    simp only [stageRun] at h
    split at h
    · cases h
    · rename_i o ho
      have _hi : i < 100000 := by have := (List.getElem?_eq_some_iff.1 ho).1; omega
      split at h
      · rename_i hsk
        obtain ⟨h1, h2, h3⟩ := stageRun_ok hl is V H V' H' h
        refine ⟨h1, h2, fun j hj o' ho' hk hs => ?_⟩
        rcases List.mem_cons.1 hj with rfl | hj
        · rw [ho] at ho'; cases ho'
          simp only [Bool.or_eq_true, Nat.beq_eq, Bool.not_eq_true'] at hsk
          rcases hsk with e | e
          · exact absurd e hk
          · rw [hs] at e; simp at e
        · exact h3 j hj o' ho' hk hs
      · rename_i hsk
        have hst : ri.stg.getD i 0 = st := by
          simp only [Bool.or_eq_false_iff, Bool.not_eq_false'] at hsk
          simpa using hsk.2
        split at h
        · cases h
        · rename_i hen
          simp only [Bool.and_eq_true, Option.isNone_iff_eq_none] at hen
          obtain ⟨hen, hnone⟩ := hen
          split at h
          · rename_i hw
            obtain ⟨h1, h2, h3⟩ := stageRun_ok hl is _ H V' H' h
            have hle := Vs.le_trans (Vs.le_put (v := undef) hnone) h1
            have hget := h1 i _ (Vs.get_put (V := V) (v := undef))
            refine ⟨hle, h2, fun j hj o' ho' hk hs => ?_⟩
            rcases List.mem_cons.1 hj with rfl | hj
            · rw [ho] at ho'; cases ho'
              refine ⟨V, hle, hen, by rw [hget]; rfl, ?_⟩
              rw [hw]
              exact getV_of hget
            · exact h3 j hj o' ho' hk hs
          · rename_i hw
            split at h
            · rename_i v H1 hq
              obtain ⟨h1, h2, h3⟩ := stageRun_ok hl is _ H1 V' H' h
              have hle := Vs.le_trans (Vs.le_put (v := v) hnone) h1
              have hget := h1 i _ (Vs.get_put (V := V) (v := v))
              have hq' := opQ_ok hq
              refine ⟨hle, SameB.trans ?_ h2, fun j hj o' ho' hk hs => ?_⟩
              · intro L hL
                have hk3 : kindOf o.op = 0 ∨ kindOf o.op = 1 ∨ kindOf o.op = 2 ∨ ¬ (kindOf o.op = 0 ∨ kindOf o.op = 1 ∨ kindOf o.op = 2) := by omega
                rcases hk3 with e | e | e | e
                · rw [(hq'.1 e).2]
                · rw [hq'.2.1 e]
                · obtain ⟨b, m, _, q2, _, q4⟩ := hq'.2.2 e
                  rw [q4, Hp.at_add q2, if_neg (hL i o ho e hst)]
                · unfold opQ at hq
                  split at hq <;> first | (cases hq; done) | (rename_i e2; exact absurd (by omega) e)
              · rcases List.mem_cons.1 hj with rfl | hj
                · rw [ho] at ho'; cases ho'
                  refine ⟨V, hle, hen, by rw [hget]; rfl, ?_⟩
                  rw [hw, getV_of hget]
                  exact ⟨fun e => (hq'.1 e).1, fun e => by obtain ⟨b, m, q1, q2, q3, _⟩ := hq'.2.2 e; exact ⟨b, m, q1, q2, q3⟩⟩
                · exact h3 j hj o' ho' hk hs
            · cases h
theorem stageOk_ok {st last : Nat} {H : Hp} : ∀ (is : List Nat), stgOkE E ri T0 base st last V H is = true → ∀ i ∈ is, ∀ o, ri.l[i]? = some o → ri.stg.getD i 0 ≤ st → last.testBit i = false → XF E ri T0 base V i o → FK E ri T0 base V H i o
  | [], _ => by simp
  | i :: is, h => by
    intro j hj o ho hs hb hx
    simp only [stgOkE, Bool.and_eq_true] at h
    rcases List.mem_cons.1 hj with rfl | hj
    · obtain ⟨Vi, x1, x2, x3, x4⟩ := hx
      have h := h.1
      rw [ho] at h
      simp only at h
      have hen : envOk ri V j o = true := envOk_le x1 x2
      have hwv : wantI ri V o = wantI ri Vi o := wantI_le x1 x2
      refine ⟨fun hk => ⟨Vi, x1, x2, ?_⟩, fun hk => ⟨V, Vs.le_refl V, hen, ?_⟩, fun hk => ⟨V, Vs.le_refl V, hen, ?_⟩⟩
      · split at x4
        · exact x4
        · exact x4.1 hk
      · rw [hk] at h
        simp only at h
        cases hw : wantI ri V o with
        | false => rw [hwv] at hw; rw [hw] at x4; exact x4
        | true =>
          simp only [hw, hb, Bool.and_true, Bool.not_false] at h
          have hs' : Nat.ble (ri.stg.getD j 0) st = true := by simpa using hs
          rw [hs'] at h
          simp only at h
          split at h
          · rename_i v hv; rw [hv, veq_eq h]
          · cases h
      · rw [hk] at h
        simp only at h
        cases hw : wantI ri V o with
        | false => rw [hwv] at hw; rw [hw] at x4; exact x4
        | true =>
          simp only [hw, hb, Bool.and_true, Bool.not_false] at h
          have hs' : Nat.ble (ri.stg.getD j 0) st = true := by simpa using hs
          rw [hs'] at h
          simp only at h
          split at h
          · rename_i b m b' hb1 hb2
            simp only [Bool.and_eq_true] at h
            have := blkEq_eq h.1.1
            subst this
            exact ⟨b, m, hb1, h.2, (veq_eq h.1.2).symm, hb2⟩
          · cases h
    · exact stageOk_ok is h.2 j hj o ho hs hb hx
/-- what the run of the whole region has shown -/
structure Shown (E : Env) (rec : Rec) (ri : RI) (T0 : List Value) (base st last : Nat) (effs : List Nat) (V' : Vs) (H0 H' : Hp) (n0 n' : Nat) : Prop where
  ex : ∃ (HS : Nat → Hp) (NS : Nat → Nat), NS 0 = n0 ∧ SameB ri base st H0 (HS 0) ∧ HS effs.length = H' ∧ NS effs.length = n' ∧
    (∀ k, k ≤ effs.length → ∀ i o, ri.l[i]? = some o → ri.stg.getD i 0 ≤ st + k → kindOf o.op ≠ 3 → (match k with | 0 => last | k + 1 => ri.pm.getD (effs.getD k 0) 0).testBit i = false → FK E ri T0 base V' (HS k) i o) ∧
    (∀ k e, effs[k]? = some e → ∃ o H1, ri.l[e]? = some o ∧ Q3 E rec ri T0 base V' (HS k) H1 (NS k) (NS (k + 1)) e o ∧ SameB ri base (st + k + 1) H1 (HS (k + 1)))
theorem drawGo_ok (hl : ri.l.length < 100000) : ∀ (effs : List Nat) (st last : Nat) (V : Vs) (H : Hp) (n : Nat) (V' : Vs) (H' : Hp) (n' : Nat), drawGo E rec ri T0 base effs st last V H n = some (V', H', n') →
    (∀ i o, ri.l[i]? = some o → kindOf o.op ≠ 3 → ri.stg.getD i 0 < st → XF E ri T0 base V i o) → Vs.le V V' ∧ Shown E rec ri T0 base st last effs V' H H' n n' := by
  intro effs
  induction effs with
  | nil =>
    intro st last V H n V' H' n' h hx
    unfold drawGo at h
    split at h
    · cases h
    · rename_i V1 H1 hr
      obtain ⟨r1, r2, r3⟩ := stageRun_ok hl _ _ _ _ _ hr
      split at h
      · cases h
      · rename_i hok
        cases h
        have hx1 : ∀ i o, ri.l[i]? = some o → kindOf o.op ≠ 3 → ri.stg.getD i 0 ≤ st → XF E ri T0 base V' i o := by
          intro i o ho hk hs
          by_cases e : ri.stg.getD i 0 = st
          · exact r3 i (List.mem_range.2 (List.getElem?_eq_some_iff.1 ho).1) o ho hk e
          · exact (hx i o ho hk (by omega)).le r1
        refine ⟨r1, ⟨fun _ => H', fun _ => n, rfl, r2, rfl, rfl, ?_, by simp⟩⟩
        intro k hk i o ho hs hk3 hb
        have : k = 0 := by simpa using hk
        subst this
        exact stageOk_ok _ hok i (List.mem_range.2 (List.getElem?_eq_some_iff.1 ho).1) o ho (by omega) hb (hx1 i o ho hk3 (by omega))
  | cons e r ih =>
    intro st last V H n V' H' n' h hx
    unfold drawGo at h
    split at h
    · cases h
    · rename_i V1 H1 hr
      obtain ⟨r1, r2, r3⟩ := stageRun_ok hl _ _ _ _ _ hr
      split at h
      · cases h
      · rename_i hok
        simp only at h
        have hx1 : ∀ i o, ri.l[i]? = some o → kindOf o.op ≠ 3 → ri.stg.getD i 0 ≤ st → XF E ri T0 base V1 i o := by
          intro i o ho hk hs
          by_cases e : ri.stg.getD i 0 = st
          · exact r3 i (List.mem_range.2 (List.getElem?_eq_some_iff.1 ho).1) o ho hk e
          · exact (hx i o ho hk (by omega)).le r1
        split at h
        · cases h
        · rename_i o ho
          have _hi : e < 100000 := by have := (List.getElem?_eq_some_iff.1 ho).1; omega
          split at h
          · cases h
          · rename_i hen
            simp only [Bool.and_eq_true, Option.isNone_iff_eq_none] at hen
            obtain ⟨hen, hnone⟩ := hen
            have key : ∀ (v : Value) (H2 : Hp) (n2 : Nat), drawGo E rec ri T0 base r (st + 1) (ri.pm.getD e 0) (Vs.put V1 e v) H2 n2 = some (V', H', n') →
                (getV V' e = v → Q3 E rec ri T0 base V' H1 H2 n n2 e o) → Vs.le V V' ∧ Shown E rec ri T0 base st last (e :: r) V' H H' n n' := by
              intro v H2 n2 hg hq
              have hp := Vs.le_put (v := v) hnone
              obtain ⟨g1, ⟨HS, NS, g2, g3, g4, g5, g6, g7⟩⟩ := ih (st + 1) _ _ H2 n2 V' H' n' hg (fun i o' ho' hk hs => (hx1 i o' ho' hk (by omega)).le hp)
              have hle := Vs.le_trans hp g1
              have hget := g1 e v Vs.get_put
              refine ⟨Vs.le_trans r1 hle, ⟨fun k => match k with | 0 => H1 | k + 1 => HS k, fun k => match k with | 0 => n | k + 1 => NS k, rfl, r2, g4, g5, ?_, ?_⟩⟩
              · intro k hk i o' ho' hs hk3 hb
                cases k with
                | zero =>
                  have hxf := hx1 i o' ho' hk3 (by omega)
                  have hfk := stageOk_ok _ hok i (List.mem_range.2 (List.getElem?_eq_some_iff.1 ho').1) o' ho' (by omega) hb hxf
                  exact hfk.le hle (by obtain ⟨_, _, _, h3, _⟩ := hxf; exact h3)
                | succ k =>
                  refine g6 k (by simp at hk; omega) i o' ho' (by omega) hk3 ?_
                  cases k with
                  | zero => simpa using hb
                  | succ k => simpa using hb
              · intro k e' he'
                cases k with
                | zero =>
                  simp at he'
                  subst he'
                  refine ⟨o, H2, ho, ?_, ?_⟩
                  · show Q3 E rec ri T0 base V' H1 H2 n (NS 0) e o
                    rw [g2]; exact hq (getV_of hget)
                  · show SameB ri base (st + 0 + 1) H2 (HS 0)
                    exact g3
                | succ k =>
                  obtain ⟨o', H3, q1, q2, q3⟩ := g7 k e' (by simpa using he')
                  refine ⟨o', H3, q1, q2, ?_⟩
                  have e2 : st + (k + 1) + 1 = st + 1 + k + 1 := by omega
                  rw [e2]; exact q3
            have hle1 : ∀ (v : Value) (H2 : Hp) (n2 : Nat), drawGo E rec ri T0 base r (st + 1) (ri.pm.getD e 0) (Vs.put V1 e v) H2 n2 = some (V', H', n') → Vs.le V1 V' := by
              intro v H2 n2 hg
              have hp := Vs.le_put (v := v) hnone
              exact Vs.le_trans hp (ih (st + 1) _ _ H2 n2 V' H' n' hg (fun i o' ho' hk hs => (hx1 i o' ho' hk (by omega)).le hp)).1
            split at h
            · rename_i hw
              exact key _ _ _ h fun hv => ⟨V1, hle1 _ _ _ h, hen, by rw [hw]; exact ⟨hv, rfl, rfl⟩⟩
            · rename_i hw
              split at h
              · rename_i v H2 n2 ha
                exact key _ _ _ h fun hv => ⟨V1, hle1 _ _ _ h, hen, by rw [hw, hv]; exact ha⟩
              · cases h
end

section
variable {l : List Oper}
theorem writer_some {t j : Nat} (h : writer l t = some j) : ∃ o, l[j]? = some o ∧ o.dst = some t := by
  unfold writer at h
  obtain ⟨h1, h2, _⟩ := List.findIdx?_eq_some_iff_getElem.1 h
  refine ⟨l[j], List.getElem?_eq_getElem h1, ?_⟩
  rw [isTmp_eq] at h2
  simpa using h2
theorem dst_inj (hd : dstOk l = true) {i j t : Nat} {o q : Oper} (hi : l[i]? = some o) (hj : l[j]? = some q) (ho : o.dst = some t) (hq : q.dst = some t) : i = j := by
  have hn := (nodupB_iff _).1 hd
  clear hd
  induction l generalizing i j with
  | nil => simp at hi
  | cons x r ih =>
    simp only [List.filterMap_cons] at hn
    have key : ∀ (k : Nat) (p : Oper), r[k]? = some p → p.dst = some t → x.dst = some t → False := by
      intro k p hp h1 h2
      rw [h2] at hn
      exact (List.nodup_cons.1 hn).1 (List.mem_filterMap.2 ⟨p, List.mem_of_getElem? hp, h1⟩)
    have hn' : (r.filterMap (·.dst)).Nodup := by
      split at hn
      · exact hn
      · exact (List.nodup_cons.1 hn).2
    cases i with
    | zero =>
      simp at hi; subst hi
      cases j with
      | zero => rfl
      | succ j => exact (key j q (by simpa using hj) hq ho).elim
    | succ i =>
      cases j with
      | zero => simp at hj; subst hj; exact (key i o (by simpa using hi) ho hq).elim
      | succ j =>
        have hi' : r[i]? = some o := by simpa using hi
        have hj' : r[j]? = some q := by simpa using hj
        have := ih hi' hj' hn'
        omega
theorem writer_of (hd : dstOk l = true) {i t : Nat} {o : Oper} (hi : l[i]? = some o) (ho : o.dst = some t) : writer l t = some i := by
  cases e : writer l t with
  | none =>
    unfold writer at e
    rw [List.findIdx?_eq_none_iff] at e
    have := e o (List.mem_of_getElem? hi)
    have h9 : isTmp o.dst t = true := by rw [isTmp_eq]; simp [ho]
    simp [h9] at this
  | some j =>
    obtain ⟨q, hq, hqd⟩ := writer_some e
    rw [dst_inj hd hi hq ho hqd]
theorem cntIn_le (m : Nat) : ∀ (eff : List Nat) (k : Nat), (∀ j e, eff[j]? = some e → m.testBit e = true → j < k) → cntIn m eff ≤ k
  | [], k, _ => by simp [cntIn]
  | e :: r, k, h => by
    simp only [cntIn]
    cases hb : m.testBit e with
    | true =>
      have hk := h 0 e rfl hb
      have := cntIn_le m r (k - 1) (fun j x hj hx => by have := h (j + 1) x (by simpa using hj) hx; omega)
      simp only [cond_true]; omega
    | false =>
      cases k with
      | zero =>
        have := cntIn_le m r 0 (fun j x hj hx => by have := h (j + 1) x (by simpa using hj) hx; omega)
        simp only [cond_false]; omega
      | succ k =>
        have := cntIn_le m r k (fun j x hj hx => by have := h (j + 1) x (by simpa using hj) hx; omega)
        simp only [cond_false]; omega
theorem chain_at (pm : List Nat) : ∀ (eff : List Nat), chainOk pm eff = true → ∀ (j a b : Nat), eff[j]? = some a → eff[j + 1]? = some b → (pm.getD b 0).testBit a = true
  | [], _, j, a, b, h, _ => by simp at h
  | [x], _, j, a, b, _, h => by simp at h
  | x :: y :: r, h, j, a, b, ha, hb => by
    simp only [chainOk, Bool.and_eq_true] at h
    cases j with
    | zero => simp at ha hb; subst ha; subst hb; exact h.1
    | succ j => exact chain_at pm (y :: r) h.2 j a b (by simpa using ha) (by simpa using hb)
end
/-- the slots, where the operations d have come up -/
def tv (l : List Oper) (V : Vs) (T0 : List Value) (d : Nat → Bool) (t : Nat) : Value :=
  match writer l t with
  | some j => match d j with
    | true => getV V j
    | false => nthV T0 t
  | none => nthV T0 t
def tvs (l : List Oper) (V : Vs) (T0 : List Value) (d : Nat → Bool) : List Value := (List.range T0.length).map (tv l V T0 d)
theorem tvs_len (l : List Oper) (V : Vs) (T0 : List Value) (d : Nat → Bool) : (tvs l V T0 d).length = T0.length := by simp [tvs]
theorem tvs_nth (l : List Oper) (V : Vs) (T0 : List Value) (d : Nat → Bool) {t : Nat} (h : t < T0.length) : nthV (tvs l V T0 d) t = tv l V T0 d t := by
  rw [nthV_eq, List.getD_eq_getElem?_getD]
  simp [tvs, h]
theorem tvs_none (l : List Oper) (V : Vs) (T0 : List Value) : tvs l V T0 (fun _ => false) = T0 := by
  apply nthV_ext (tvs_len _ _ _ _)
  intro t ht
  rw [tvs_len] at ht
  rw [tvs_nth _ _ _ _ ht]
  unfold tv
  split <;> rfl
theorem tvs_put {l : List Oper} (hd : dstOk l = true) {V : Vs} {T0 : List Value} {d : Nat → Bool} {i : Nat} {o : Oper} (ho : l[i]? = some o) : tvs l V T0 (ups d i) = putL (tvs l V T0 d) o.dst (getV V i) := by
  apply nthV_ext (by rw [tvs_len, putL_len, tvs_len])
  intro t ht
  rw [tvs_len] at ht
  rw [tvs_nth _ _ _ _ ht]
  have far : o.dst ≠ some t → tv l V T0 (ups d i) t = tv l V T0 d t := by
    intro hne
    unfold tv
    cases e : writer l t with
    | none => rfl
    | some j =>
      have hji : j ≠ i := by
        rintro rfl
        obtain ⟨q, hq, hqd⟩ := writer_some e
        rw [ho] at hq; cases hq
        exact hne hqd
      simp only [ups_far hji]
  cases hdst : o.dst with
  | none =>
    show _ = nthV (tvs l V T0 d) t
    rw [tvs_nth _ _ _ _ ht]
    exact far (by rw [hdst]; simp)
  | some x =>
    show _ = nthV (setL (tvs l V T0 d) x (getV V i)) t
    rw [nthV_set, tvs_len, tvs_nth _ _ _ _ ht]
    by_cases e : x = t
    · subst e
      rw [if_pos ⟨rfl, ht⟩]
      unfold tv
      rw [writer_of hd ho hdst]
      simp only [ups_same]
    · rw [if_neg (by simp [e])]
      exact far (by rw [hdst]; simpa using e)
theorem zipV_nth (V : Vs) : ∀ (ws : List (Option Nat)) (T : List Value) (t : Nat), nthV (zipV V ws T) t = if t < T.length then (match ws[t]? with | some (some j) => getV V j | _ => nthV T t) else undef
  | [], T, t => by
    simp only [zipV, List.getElem?_nil]
    by_cases h : t < T.length
    · simp [h]
    · rw [if_neg h, nthV_eq, List.getD_eq_getElem?_getD, List.getElem?_eq_none (by omega)]; rfl
  | w :: ws, [], t => by simp [zipV, nthV]
  | w :: ws, a :: T, 0 => by cases w <;> simp [zipV, nthV]
  | w :: ws, a :: T, t + 1 => by
    simp only [zipV, nthV]
    rw [zipV_nth V ws T t]
    simp
theorem zipV_len (V : Vs) : ∀ (ws : List (Option Nat)) (T : List Value), (zipV V ws T).length = T.length
  | [], T => rfl
  | w :: ws, [] => rfl
  | w :: ws, a :: T => by simp [zipV, zipV_len V ws T]
theorem tvs_all {l : List Oper} {V : Vs} {T0 : List Value} {d : Nat → Bool} (h : ∀ j, j < l.length → d j = true) : zipV V (writs l) T0 = tvs l V T0 d := by
  apply nthV_ext (by rw [zipV_len, tvs_len])
  intro t ht
  rw [zipV_len] at ht
  rw [zipV_nth, if_pos ht, tvs_nth _ _ _ _ ht]
  unfold tv writs
  rw [List.getElem?_map]
  by_cases hk : t < topDst l
  · rw [List.getElem?_range hk]
    simp only [Option.map_some]
    cases e : writer l t with
    | none => rfl
    | some j =>
      obtain ⟨q, hq, _⟩ := writer_some e
      simp only [h j (List.getElem?_eq_some_iff.1 hq).1]
  · rw [List.getElem?_eq_none (by simp; omega)]
    simp only [Option.map_none]
    cases e : writer l t with
    | none => rfl
    | some j =>
      obtain ⟨q, hq, hqd⟩ := writer_some e
      exact absurd (topDst_le l q t (List.mem_of_getElem? hq) hqd) hk
end Go.Proofs.YtcbcegdidlefiaaGreat
