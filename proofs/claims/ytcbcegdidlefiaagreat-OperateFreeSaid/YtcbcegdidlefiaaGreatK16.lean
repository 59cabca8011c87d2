/- A run with known data: operations that read nothing, and that read. No condition. -/
import Derived.Test.YtcbcegdidlefiaaGreatK15
namespace Go.Proofs.YtcbcegdidlefiaaGreat
open Go.RowKit

section
variable {P : Program} {T : TyT} {s : Sg} {ρ ρ' : Operand → Value} {o : Oper}
theorem quietA_ok (hs : ∀ cs b, o.op ≠ .select cs b) (hρ : ∀ x ∈ o.op.operands, VR s (ρ x) (ρ' x)) {v : Value} (h : quietA P ρ o = some v) :
    (∀ w, (execOp ρ' o).run P w = .ok (.value v) w) ∧ VR s v v := by
  unfold quietA at h
  split at h
  · rename_i hc
    split at h
    · rename_i u hq
      split at h
      · rename_i hv
        cases h
        have e : execOp ρ' o = execOp ρ o := execOp_congr o hs fun x hx => VR.eqV (List.all_eq_true.1 hc x (by simpa using hx)) (hρ x hx)
        exact ⟨fun w => by rw [e]; exact qv_run hq w, VR.closedV hv⟩
      · cases h
    · cases h
  · cases h
theorem asPtr_eq {v : Value} {p : PA} (h : asPtr v = some p) : v = .pointer (some ⟨p.L, p.o, none⟩) := by
  unfold asPtr at h; split at h
  · cases h; rfl
  · cases h
theorem asSlc_eq {v : Value} {p : SA} (h : asSlc v = some p) : v = .slice (some ⟨p.L, p.o, none⟩) p.n p.c := by
  unfold asSlc at h; split at h
  · cases h; rfl
  · cases h
theorem asI64_eq {v : Value} {n : Int} (h : asI64 v = some n) : v = .int .i64 n := by
  unfold asI64 at h; split at h
  · cases h; rfl
  · cases h
theorem asU8_eq {v : Value} {n : Int} (h : asU8 v = some n) : v = .int .u8 n := by
  unfold asU8 at h; split at h
  · cases h; rfl
  · cases h
theorem asStr_eq {v : Value} {n : ByteArray} (h : asStr v = some n) : v = .string n := by
  unfold asStr at h; split at h
  · cases h; rfl
  · cases h
theorem asAggL_rel {v v' : Value} {l : List Value} (h : asAggL v = some l) (r : VR s v v') : ∃ a', v' = .agg a' ∧ VL s l a'.toList := by
  unfold asAggL at h; split at h
  · cases h
    cases r with
    | agg _ a' ha h1 => exact ⟨a', rfl, VL.ofArr ha h1⟩
  · cases h
theorem asTupL_rel {v v' : Value} {l : List Value} (h : asTupL v = some l) (r : VR s v v') : ∃ a', v' = .tuple a' ∧ VL s l a'.toList := by
  unfold asTupL at h; split at h
  · cases h
    cases r with
    | tuple _ a' ha h1 => exact ⟨a', rfl, VL.ofArr ha h1⟩
  · cases h
theorem asPtr_rel {v v' : Value} {p : PA} (h : asPtr v = some p) (r : VR s v v') : ∃ i, s p.L = some i ∧ v' = .pointer (some ⟨i.bl, p.o, none⟩) := by
  rw [asPtr_eq h] at r
  cases r with
  | ptr _ _ i hi => exact ⟨i, hi, rfl⟩
theorem asSlc_rel {v v' : Value} {p : SA} (h : asSlc v = some p) (r : VR s v v') : ∃ i c', s p.L = some i ∧ v' = .slice (some ⟨i.bl, p.o, none⟩) p.n c' ∧ ((p.c < FULL ∧ c' = p.c) ∨ (p.c = FULL ∧ p.n ≤ c' ∧ (p.o = 0 → c' * i.es = i.sz ∧ c' ≤ maxLen))) := by
  rw [asSlc_eq h] at r
  obtain ⟨L, o, n, c⟩ := p
  simp only at r ⊢
  exact match c, v', r with
    | _, _, .slc _ _ _ _ i hi hc => ⟨i, _, hi, rfl, .inl ⟨hc, rfl⟩⟩
    | _, _, .full _ _ _ c' i hi hn h0 => ⟨i, _, hi, rfl, .inr ⟨rfl, hn, h0⟩⟩
theorem asI64_rel {v v' : Value} {n : Int} (h : asI64 v = some n) (r : VR s v v') : v' = .int .i64 n := by rw [asI64_eq h] at r; cases r; rfl
theorem asU8_rel {v v' : Value} {n : Int} (h : asU8 v = some n) (r : VR s v v') : v' = .int .u8 n := by rw [asU8_eq h] at r; cases r; rfl
theorem asStr_rel {v v' : Value} {n : ByteArray} (h : asStr v = some n) (r : VR s v v') : v' = .string n := by rw [asStr_eq h] at r; cases r; rfl
theorem fldI_ok (hT : TOk P T) {t f off : Nat} {tf : TI} (h : fldI T t f = some (off, tf)) : ∃ (fields : Array Field) (fd : Field), P.underlying t = some (.struct fields) ∧ fields[f]? = some fd ∧ T fd.type = some tf ∧ fd.offset = off := by
  unfold fldI at h
  split at h
  · rename_i ti hti
    split at h
    · rename_i fields hd
      split at h
      · rename_i fd hfd
        split at h
        · rename_i tf' htf
          cases h
          have := hT.und hti
          rw [hd] at this
          exact ⟨fields, fd, this, by rw [nthO_eq] at hfd; simpa using hfd, htf, rfl⟩
        · cases h
      · cases h
    · cases h
  · cases h
theorem slcI_ok (hT : TOk P T) {t e : Nat} {te : TI} (h : slcI T t = some (e, te)) : P.underlying t = some (.slice e) ∧ T e = some te := by
  unfold slcI at h
  split at h
  · rename_i ti hti
    split at h
    · rename_i e' hd
      split at h
      · rename_i te' hte
        cases h
        have := hT.und hti
        rw [hd] at this
        exact ⟨this, hte⟩
      · cases h
    · cases h
  · cases h
theorem arrI_ok (hT : TOk P T) {t n e : Nat} {te : TI} (h : arrI T t = some (n, e, te)) : P.underlying t = some (.array n e) ∧ T e = some te := by
  unfold arrI at h
  split at h
  · rename_i ti hti
    split at h
    · rename_i n' e' hd
      split at h
      · rename_i te' hte
        cases h
        have := hT.und hti
        rw [hd] at this
        exact ⟨this, hte⟩
      · cases h
    · cases h
  · cases h
theorem bldI_ok (hT : TOk P T) {t : Nat} {z : List Value} {bp : BP} (h : bldI T t = some (z, bp)) {parts parts' : List (Nat × Value)} (h1 : parts.length = parts'.length)
    (h2 : ∀ (i : Nat) x x', parts[i]? = some x → parts'[i]? = some x' → x.1 = x'.1 ∧ VR s x.2 x'.2) {c : List Value} (hc : fillL bp z parts = some c) : ∃ r, P.built t parts' = some r ∧ VL s c r.toList := by
  unfold bldI at h
  split at h
  · rename_i ti hti
    split at h
    · cases h
    · rename_i hz
      obtain ⟨i, zv, i1, i2, i3, i4, i5, i6⟩ := hT.info hti
      have hzz : VL s ti.zero zv.cells.toList := by rw [i5]; exact VL.closed hz
      have hu := hT.und hti
      split at h
      · rename_i fields hd
        split at h
        · rename_i pl hpl
          cases h
          have hpl' := placesA_ok hT _ _ hpl
          obtain ⟨r', q1, q2⟩ := fill_ok (.str pl) (pl.toArray[·]?) (fun i => by simp [BP.at, nthO_eq]) _ _ _ _ _ h1 h2 hzz hc
          refine ⟨r', ?_, q2⟩
          unfold Program.built
          rw [i1, hu, hd]
          simp only [i4, hpl', q1]
        · cases h
      · rename_i n e hd
        split at h
        · rename_i te hte
          cases h
          obtain ⟨j, z2, j1, j2, _⟩ := hT.info hte
          obtain ⟨r', q1, q2⟩ := fill_ok (.arr te.size) (fun i => some (i * te.size, te.size)) (fun i => rfl) _ _ _ _ _ h1 h2 hzz hc
          refine ⟨r', ?_, q2⟩
          unfold Program.built
          rw [i1, hu, hd]
          simp only [i4, j1, j2, q1]
        · cases h
      · cases h
  · cases h
theorem natOf_eq {v : Value} {n : Nat} (h : natOf v = some n) : v = .int .i64 n := by
  unfold natOf at h
  split at h
  · cases h; rfl
  · cases h
theorem natOf_rel {v v' : Value} {n : Nat} (h : natOf v = some n) (r : VR s v v') : v' = .int .i64 n := by
  rw [natOf_eq h] at r
  cases r
  rfl
theorem natOr_rel {x : Option Operand} {d n : Nat} (h : natOr d (x.map ρ) = some n) (r : ∀ y, x = some y → VR s (ρ y) (ρ' y)) : (x = none ∧ n = d) ∨ (∃ y, x = some y ∧ ρ' y = .int .i64 n) := by
  cases x with
  | none => simp [natOr] at h; exact .inl ⟨rfl, h.symm⟩
  | some y => exact .inr ⟨y, rfl, natOf_rel (by simpa [natOr] using h) (r y rfl)⟩
theorem run_bound (n y : Nat) (code : BoundsCode) (w : World) (h : n ≤ y) : (Instr.sliceBound (.int .i64 n) y code).run P w = .ok n w := by
  simp [Instr.sliceBound, asIntOf, h]
theorem run_bounds (isS : Bool) (len cap : Nat) (lo hi mx : Option Operand) (l h m : Nat) (w : World)
    (hl : (lo = none ∧ l = 0) ∨ (∃ y, lo = some y ∧ ρ' y = .int .i64 l)) (hh : (hi = none ∧ h = len) ∨ (∃ y, hi = some y ∧ ρ' y = .int .i64 h)) (hm : (mx = none ∧ m = cap) ∨ (∃ y, mx = some y ∧ ρ' y = .int .i64 m))
    (hx : hi ≠ none ∨ mx = none) (h1 : l ≤ h) (h2 : h ≤ m) (h3 : m ≤ cap) : (Instr.sliceBounds isS len cap (lo.map ρ') (hi.map ρ') (mx.map ρ')).run P w = .ok (l, h, m) w := by
  unfold Instr.sliceBounds
  rcases hm with ⟨rfl, rfl⟩ | ⟨y, rfl, hy⟩ <;> rcases hh with ⟨rfl, rfl⟩ | ⟨z, rfl, hz⟩ <;> rcases hl with ⟨rfl, rfl⟩ | ⟨q, rfl, hq⟩ <;>
    simp_all [run_bound]
theorem fieldPlace_run {f : Field} (b o : Nat) (w : World) (hT : TOk P T) {tf : TI} (h : T f.type = some tf) (h0 : tf.size ≠ 0) : (fieldPlace ⟨b, o, none⟩ f).run P w = .ok ⟨b, o + f.offset, none⟩ w := by
  unfold fieldPlace
  rw [Sem.run_bind, hT.rsize h, Result.andThen_ok]
  simp [h0, Addr.add_mid]

theorem parts_rel {parts : Array (Nat × Operand)} (r : ∀ x ∈ (parts.toList.map (·.2)).toArray, VR s (ρ x) (ρ' x)) :
    (parts.toList.map fun p => (p.1, ρ p.2)).length = (parts.map fun (i, x) => (i, ρ' x)).toList.length ∧
    ∀ (i : Nat) x x', (parts.toList.map fun p => (p.1, ρ p.2))[i]? = some x → (parts.map fun (i, x) => (i, ρ' x)).toList[i]? = some x' → x.1 = x'.1 ∧ VR s x.2 x'.2 := by
  refine ⟨by simp, fun i x x' h h' => ?_⟩
  simp only [List.getElem?_map, Array.toList_map] at h h'
  cases e : parts.toList[i]? with
  | none => rw [e] at h; cases h
  | some p =>
    rw [e] at h h'
    simp at h h'
    subst h; subst h'
    exact ⟨rfl, r _ (by simp only [List.mem_toArray, List.mem_map]; exact ⟨p, List.mem_of_getElem? e, rfl⟩)⟩

theorem vlmap {l : List Operand} (r : ∀ x ∈ l, VR s (ρ x) (ρ' x)) : VL s (l.map ρ) (l.map ρ') := by
  refine ⟨by simp, fun i x x' h h' => ?_⟩
  simp only [List.getElem?_map] at h h'
  cases e : l[i]? with
  | none => rw [e] at h; cases h
  | some p =>
    rw [e] at h h'
    simp at h h'
    subst h; subst h'
    exact r _ (List.mem_of_getElem? e)

theorem run_slice {t e : Nat} {te : TI} (hT : TOk P T) (hu : P.underlying t = some (.slice e)) (hte : T e = some te) {lo hi mx : Option Operand} {n c l h m : Nat} (b o : Nat) (w : World)
    (hl : (lo = none ∧ l = 0) ∨ (∃ y, lo = some y ∧ ρ' y = .int .i64 l)) (hh : (hi = none ∧ h = n) ∨ (∃ y, hi = some y ∧ ρ' y = .int .i64 h)) (hm : (mx = none ∧ m = c) ∨ (∃ y, mx = some y ∧ ρ' y = .int .i64 m))
    (hx : hi ≠ none ∨ mx = none) (h1 : l ≤ h) (h2 : h ≤ m) (h3 : m ≤ c) : (Instr.sliceAt t (.slice (some ⟨b, o, none⟩) n c) (lo.map ρ') (hi.map ρ') (mx.map ρ')).run P w =
      .ok (.slice (some (if m = l then ⟨b, o, none⟩ else ⟨b, o + l * te.size, none⟩)) (h - l) (m - l)) w := by
  have hbd := run_bounds (P := P) (ρ' := ρ') true n c lo hi mx l h m w hl hh hm hx h1 h2 h3
  by_cases e : m = l <;> simp [Instr.sliceAt, Instr.slice, run_underlying hu, hbd, hT.rsize hte, e, Addr.add_mid]
theorem aop0_ok (hT : TOk P T) (hρ : ∀ x ∈ o.op.operands, VR s (ρ x) (ρ' x)) {v : Value} (h : aop0 P T ρ o = some v) :
    ∃ v', (∀ w, (execOp ρ' o).run P w = .ok (.value v') w) ∧ VR s v v' := by
  have quiet : (∀ cs b, o.op ≠ .select cs b) → quietA P ρ o = some v → ∃ v', (∀ w, (execOp ρ' o).run P w = .ok (.value v') w) ∧ VR s v v' := fun hs hq => ⟨v, (quietA_ok hs hρ hq).1, (quietA_ok hs hρ hq).2⟩
  unfold aop0 at h
  cases ho : o.op <;> rw [ho] at h <;> simp only at h <;> first | (cases h; done) | skip
  case move x =>
    cases h
    exact ⟨ρ' x, fun w => by unfold execOp; rw [ho]; rfl, hρ x (by rw [ho]; simp [Op.operands])⟩
  case assign x =>
    cases h
    exact ⟨ρ' x, fun w => by unfold execOp; rw [ho]; rfl, hρ x (by rw [ho]; simp [Op.operands])⟩
  case pick c a b =>
    have hc := hρ c (by rw [ho]; simp [Op.operands])
    unfold oPick at h
    split at h
    · rename_i e
      rw [e] at hc
      generalize hc' : ρ' c = u at hc
      cases hc
      cases h
      exact ⟨ρ' a, fun w => by unfold execOp; rw [ho]; simp [hc', asBool], hρ a (by rw [ho]; simp [Op.operands])⟩
    · rename_i e
      rw [e] at hc
      generalize hc' : ρ' c = u at hc
      cases hc
      cases h
      exact ⟨ρ' b, fun w => by unfold execOp; rw [ho]; simp [hc', asBool], hρ b (by rw [ho]; simp [Op.operands])⟩
    · cases h
  case build t parts =>
    have hp := parts_rel (parts := parts) (s := s) (ρ := ρ) (ρ' := ρ') (fun x hx => hρ x (by rw [ho]; exact hx))
    unfold oBuild at h
    split at h
    · rename_i z bp hb
      split at h
      · rename_i c hc
        cases h
        obtain ⟨r', q1, q2⟩ := bldI_ok hT hb hp.1 hp.2 hc
        refine ⟨.agg r', fun w => ?_, VR.aggL (l' := r'.toList) q2⟩
        unfold execOp
        rw [ho]
        simp only [Sem.run_bind]
        rw [run_build w t _ r' q1]
        rfl
      · cases h
    · cases h
  case nilCheck x =>
    have hc := hρ x (by rw [ho]; simp [Op.operands])
    unfold oNil at h
    split at h
    · rename_i a e
      rw [e] at hc
      cases h
      generalize hc' : ρ' x = u at hc
      refine ⟨u, fun w => ?_, hc⟩
      unfold execOp; rw [ho]; simp only [hc']
      cases hc
      rfl
    · rename_i f a b e
      rw [e] at hc
      cases h
      generalize hc' : ρ' x = u at hc
      refine ⟨u, fun w => ?_, hc⟩
      unfold execOp; rw [ho]; simp only [hc']
      cases hc
      rfl
    · cases h
  case unOp op t x =>
    have hc := hρ x (by rw [ho]; simp [Op.operands])
    unfold oUn at h
    split at h
    · rename_i b e2
      rw [e2] at hc
      cases h
      generalize hc' : ρ' x = u at hc
      cases hc
      exact ⟨_, fun w => by unfold execOp; rw [ho]; simp [hc', Op.unary], .bool _⟩
    · exact quiet (by rw [ho]; simp) h
  case makeFunc fn a b =>
    cases h
    refine ⟨_, fun w => by unfold execOp; rw [ho]; rfl, ?_⟩
    have ha := VR.arr (s := s) (a := ⟨a.toList.map ρ⟩) (a' := a.map ρ') (by simpa using vlmap (l := a.toList) fun x hx => hρ x (by rw [ho]; simp [Op.operands]; exact .inl (by simpa using hx)))
    have hb := VR.arr (s := s) (a := ⟨b.toList.map ρ⟩) (a' := b.map ρ') (by simpa using vlmap (l := b.toList) fun x hx => hρ x (by rw [ho]; simp [Op.operands]; exact .inr (by simpa using hx)))
    exact .fn fn _ _ _ _ ha.1 hb.1 ha.2 hb.2
  case slice t x lo hi mx =>
    have hx := hρ x (by rw [ho]; simp [Op.operands])
    have hlo : ∀ y, lo = some y → VR s (ρ y) (ρ' y) := fun y e => hρ y (by rw [ho, e]; simp [Op.operands])
    have hhi : ∀ y, hi = some y → VR s (ρ y) (ρ' y) := fun y e => hρ y (by rw [ho, e]; simp [Op.operands])
    have hmx : ∀ y, mx = some y → VR s (ρ y) (ρ' y) := fun y e => hρ y (by rw [ho, e]; simp [Op.operands])
    unfold oSlice at h
    split at h
    · rename_i L off e1
      rw [e1] at hx
      generalize hx' : ρ' x = x' at hx
      unfold oSliceP at h
      split at h
      · rename_i n e te ha
        obtain ⟨hu, hte⟩ := arrI_ok hT ha
        split at h
        · rename_i l hh m q1 q2 q3
          split at h
          · rename_i hb
            simp only [Bool.and_eq_true, Nat.ble_eq, Bool.or_eq_true] at hb
            obtain ⟨⟨⟨⟨b1, b2⟩, b3⟩, b4⟩, b5⟩ := hb
            have b4' : n < FULL := by simpa using b4
            cases h
            cases hx with
            | ptr _ _ i hi2 =>
              refine ⟨.slice (some (if m = l then ⟨i.bl, off, none⟩ else (⟨i.bl, off, none⟩ : Addr).add (l * te.size))) (hh - l) (m - l), fun w => ?_, ?_⟩
              · unfold execOp
                rw [ho]
                have hbd := run_bounds (P := P) (ρ' := ρ') false n n lo hi mx l hh m w (natOr_rel q1 hlo) (natOr_rel q2 hhi) (natOr_rel q3 hmx) (by
                  rcases b5 with b5 | b5
                  · exact .inl (by intro e; rw [e] at b5; simp at b5)
                  · exact .inr (by simpa using b5)) b1 b2 b3
                simp [hx', Instr.sliceAt, run_underlying hu, Instr.sureAddr, hbd, hT.rsize hte]
              · by_cases e2 : m = l
                · rw [if_pos e2, if_pos e2]; exact .slc L off _ _ i hi2 (by omega)
                · rw [if_neg e2, if_neg e2, Addr.add_mid]; exact .slc L _ _ _ i hi2 (by omega)
          · cases h
        · cases h
      · cases h
    · rename_i b n c e1
      rw [e1] at hx
      unfold oSliceS at h
      split at h
      · rename_i e te ha
        obtain ⟨hu, hte⟩ := slcI_ok hT ha
        unfold sliceA at h
        split at h
        · rename_i l hh q1 q2
          have r1 := natOr_rel q1 hlo
          have r2 := natOr_rel q2 hhi
          split at h
          · split at h
            · rename_i hb
              simp only [Bool.and_eq_true, Nat.beq_eq, Option.isNone_iff_eq_none, Option.map_eq_none_iff] at hb
              obtain ⟨⟨⟨⟨rfl, rfl⟩, b3⟩, rfl⟩, rfl⟩ := hb
              subst b3
              cases h
              generalize hx' : ρ' x = x' at hx
              cases hx
              refine ⟨.slice none 0 0, fun w => ?_, .nils⟩
              have hbd := run_bounds (P := P) (ρ' := ρ') true 0 0 lo hi none 0 0 0 w r1 r2 (.inl ⟨rfl, rfl⟩) (.inr rfl) (Nat.le_refl _) (Nat.le_refl _) (Nat.le_refl _)
              simp only [Option.map_none] at hbd
              unfold execOp
              rw [ho]
              simp [hx', Instr.sliceAt, Instr.slice, run_underlying hu, hbd, hT.rsize hte]
            · cases h
          · rename_i L off
            have hsl : asSlc (Value.slice (some ⟨L, off, none⟩) n c) = some ⟨L, off, n, c⟩ := rfl
            obtain ⟨i, c', hi2, hx', hcc⟩ := asSlc_rel hsl hx
            simp only at hi2 hx' hcc
            split at h
            · rename_i hmx0
              have hmx1 : mx = none := by simpa using hmx0
              subst hmx1
              unfold sliceN at h
              split at h
              · rename_i hf
                have hf' : c = FULL := by simpa using hf
                subst hf'
                rcases hcc with ⟨hcc, _⟩ | ⟨_, hcn, hc0⟩
                · exact absurd hcc (Nat.lt_irrefl _)
                split at h
                · rename_i hb
                  simp only [Bool.and_eq_true, Nat.ble_eq] at hb
                  obtain ⟨⟨b1, b2⟩, b3⟩ := hb
                  have b3' : 0 < te.size := by simpa using b3
                  have hrun := fun w => run_slice (P := P) hT hu hte i.bl off w r1 r2 (.inl ⟨rfl, rfl⟩ : ((none : Option Operand) = none ∧ c' = c') ∨ _) (.inr rfl) b1 (Nat.le_trans b2 hcn) (Nat.le_refl _)
                  split at h
                  · rename_i hz
                    cases h
                    refine ⟨_, fun w => ?_, .full L (off + l * te.size) (hh - l) (c' - l) i hi2 (by omega) ?_⟩
                    · unfold execOp
                      rw [ho]
                      have := hrun w
                      try simp only [Option.map_none] at this
                      simp only [hx', Option.map_none, Sem.run_bind, this]
                      by_cases e2 : c' = l
                      · have hz' : l < hh ∨ l = 0 := by simpa using hz
                        have : l = 0 := by omega
                        subst this
                        simp [e2]
                      · simp [e2]
                    · intro e3
                      have h1 : off = 0 := by omega
                      have h2 : l * te.size = 0 := by omega
                      have h3 : l = 0 := by
                        rcases Nat.mul_eq_zero.1 h2 with h | h
                        · exact h
                        · omega
                      subst h3
                      exact hc0 h1
                  · cases h
                    refine ⟨.slice (some (if c' = l then ⟨i.bl, off, none⟩ else ⟨i.bl, off + l * te.size, none⟩)) 0 (c' - l), fun w => ?_, .emp L off (c' - l) _⟩
                    · unfold execOp
                      rw [ho]
                      have := hrun w
                      try simp only [Option.map_none] at this
                      simp only [hx', Option.map_none, Sem.run_bind, this]
                      have hz' : hh = l := by
                        rename_i hz
                        have : ¬ l < hh := by
                          intro h9
                          have : Nat.blt l hh = true := by simpa using h9
                          rw [this] at hz; simp at hz
                        omega
                      rw [hz', Nat.sub_self]
                      rfl
                · cases h
              · rename_i hf
                split at h
                · rename_i hb
                  simp only [Bool.and_eq_true, Nat.ble_eq] at hb
                  obtain ⟨⟨b1, b2⟩, b3⟩ := hb
                  have b3' : c < FULL := by simpa using b3
                  rcases hcc with ⟨_, rfl⟩ | ⟨hcc, _⟩
                  · cases h
                    refine ⟨.slice (some (if c' = l then ⟨i.bl, off, none⟩ else ⟨i.bl, off + l * te.size, none⟩)) (hh - l) (c' - l), fun w => ?_, ?_⟩
                    · unfold execOp
                      rw [ho]
                      have := run_slice (P := P) hT hu hte i.bl off w r1 r2 (.inl ⟨rfl, rfl⟩ : ((none : Option Operand) = none ∧ c' = c') ∨ _) (.inr rfl) b1 b2 (Nat.le_refl _)
                      try simp only [Option.map_none] at this
                      simp only [hx', Option.map_none, Sem.run_bind, this]
                      rfl
                    · by_cases e2 : c' = l
                      · rw [if_pos e2, if_pos e2]; exact .slc L off _ _ i hi2 (by omega)
                      · rw [if_neg e2, if_neg e2]; exact .slc L _ _ _ i hi2 (by omega)
                  · omega
                · cases h
            · rename_i mv hmx0
              split at h
              · cases h
              · rename_i m hm
                obtain ⟨y, hy, hyv⟩ : ∃ y, mx = some y ∧ mv = ρ y := by
                  cases mx with
                  | none => simp at hmx0
                  | some y => exact ⟨y, rfl, by simpa using hmx0.symm⟩
                subst hy
                have r3 : (some y = none ∧ m = c') ∨ (∃ z, some y = some z ∧ ρ' z = .int .i64 m) := .inr ⟨y, rfl, natOf_rel (by rw [← hyv]; exact hm) (hmx y rfl)⟩
                split at h
                case h_2 => cases h
                rename_i hsome
                have hsome' : hi ≠ none := by rintro rfl; simp at hsome
                unfold sliceM at h
                split at h
                · rename_i hb
                  simp only [Bool.and_eq_true, Nat.ble_eq] at hb
                  obtain ⟨⟨⟨b1, b2⟩, b3⟩, b4⟩ := hb
                  have b4' : m < FULL := by simpa using b4
                  have hmc : m ≤ c' := by
                    rcases hcc with ⟨hc1, rfl⟩ | ⟨rfl, hcn, _⟩
                    · have e5 : Nat.beq c' FULL = false := by
                        apply Bool.eq_false_iff.2
                        intro h9
                        have := Nat.eq_of_beq_eq_true h9
                        omega
                      rw [e5] at b3
                      simp only [cond_false, Bool.and_eq_true, Nat.ble_eq] at b3
                      exact b3.1
                    · simp only [Nat.beq_refl, cond_true, Nat.ble_eq] at b3
                      omega
                  cases h
                  refine ⟨.slice (some (if m = l then ⟨i.bl, off, none⟩ else ⟨i.bl, off + l * te.size, none⟩)) (hh - l) (m - l), fun w => ?_, ?_⟩
                  · unfold execOp
                    rw [ho]
                    have hhi3 : hi ≠ none ∨ (some y : Option Operand) = none := by
                      exact .inl hsome'
                    have := run_slice (P := P) hT hu hte i.bl off w r1 r2 r3 hhi3 b1 b2 hmc
                    simp only [hx', Sem.run_bind, this]
                    rfl
                  · by_cases e2 : m = l
                    · rw [if_pos e2, if_pos e2]; exact .slc L off _ _ i hi2 (by omega)
                    · rw [if_neg e2, if_neg e2]; exact .slc L _ _ _ i hi2 (by omega)
                · cases h
          · cases h
        · cases h
      · cases h
    · exact quiet (by rw [ho]; simp) h
  case fieldAddr t x f =>
    have hx := hρ x (by rw [ho]; simp [Op.operands])
    unfold oFieldAddr at h
    split at h
    · rename_i p hp
      obtain ⟨i, hi, hx'⟩ := asPtr_rel hp hx
      split at h
      · rename_i off tf hf
        obtain ⟨fields, fd, f1, f2, f3, rfl⟩ := fldI_ok hT hf
        split at h
        · cases h
        · rename_i h0
          cases h
          refine ⟨_, fun w => ?_, .ptr p.L _ i hi⟩
          have h0' : tf.size ≠ 0 := by intro e; rw [e] at h0; simp at h0
          unfold execOp
          rw [ho]
          simp [hx', Instr.fieldAt, run_underlying f1, f2, Instr.sureAddr, fieldPlace_run i.bl p.o _ hT f3 h0']
      · cases h
    · cases h
  case field t x f =>
    have hx := hρ x (by rw [ho]; simp [Op.operands])
    unfold oField at h
    split at h
    · rename_i cs hcs
      obtain ⟨a', hx', hvl⟩ := asAggL_rel hcs hx
      split at h
      · rename_i off tf hf
        obtain ⟨fields, fd, f1, f2, f3, rfl⟩ := fldI_ok hT hf
        obtain ⟨v', q1, q2⟩ := part_ok hT f3 hvl h
        refine ⟨v', fun w => ?_, q2⟩
        unfold execOp
        rw [ho]
        simp [hx', Instr.field, run_underlying f1, f2, asAgg, q1]
      · cases h
    · cases h
  case indexAddr t x ix =>
    have hx := hρ x (by rw [ho]; simp [Op.operands])
    have hix := hρ ix (by rw [ho]; simp [Op.operands])
    unfold oIndexAddr at h
    split at h
    · rename_i i hi
      have hi' := natOf_rel hi hix
      split at h
      · rename_i p hp
        unfold oIndexS at h
        split at h
        · rename_i e te ha
          obtain ⟨hu, hte⟩ := slcI_ok hT ha
          split at h
          · rename_i hlt
            have hlt' : i < p.n := by simpa using hlt
            cases h
            obtain ⟨j, c', hj, hx', _⟩ := asSlc_rel hp hx
            refine ⟨_, fun w => ?_, .ptr p.L _ j hj⟩
            unfold execOp
            rw [ho]
            simp [hx', hi', Instr.indexAt, asIntOf, run_underlying hu, hlt', hT.rsize hte, Addr.add_mid]
          · cases h
        · cases h
      · unfold oIndexP at h
        split at h
        · rename_i p hp
          split at h
          · rename_i n e te ha
            obtain ⟨hu, hte⟩ := arrI_ok hT ha
            split at h
            · rename_i hlt
              have hlt' : i < n := by simpa using hlt
              cases h
              obtain ⟨j, hj, hx'⟩ := asPtr_rel hp hx
              refine ⟨_, fun w => ?_, .ptr p.L _ j hj⟩
              unfold execOp
              rw [ho]
              simp [hx', hi', Instr.indexAt, asIntOf, run_underlying hu, hlt', hT.rsize hte, Addr.add_mid, Instr.sureAddr]
            · cases h
          · cases h
        · cases h
    · cases h
  case index t x ix =>
    have hx := hρ x (by rw [ho]; simp [Op.operands])
    have hix := hρ ix (by rw [ho]; simp [Op.operands])
    unfold oIndex at h
    split at h
    · rename_i cs hcs
      obtain ⟨a', hx', hvl⟩ := asAggL_rel hcs hx
      split at h
      · rename_i i hi
        have hi' := natOf_rel hi hix
        split at h
        · rename_i n e te ha
          obtain ⟨hu, hte⟩ := arrI_ok hT ha
          split at h
          · rename_i hlt
            have hlt' : i < n := by simpa using hlt
            obtain ⟨v', q1, q2⟩ := part_ok hT hte hvl h
            have q1' : ∀ w, (part e a' (i * te.size)).run P w = .ok v' w := q1
            refine ⟨v', fun w => ?_, q2⟩
            unfold execOp
            rw [ho]
            simp [hx', hi', Instr.index, asIntOf, run_underlying hu, hlt', hT.rsize hte, q1']
          · cases h
        · cases h
      · cases h
    · unfold oIndexStr at h
      split at h
      · rename_i str hs
        split at h
        · rename_i i hi
          have hi' := natOf_rel hi hix
          have hx' := asStr_rel hs hx
          split at h
          · rename_i hst
            unfold strTy at hst
            split at hst
            · rename_i ti hti
              split at hst
              · rename_i hd
                split at h
                · rename_i b hb
                  have : v = .int .u8 b.toNat := by
                    unfold nseq at h
                    split at h <;> rename_i e3 <;> rw [e3] <;> cases h <;> rfl
                  subst this
                  refine ⟨_, fun w => ?_, .int _ _⟩
                  have hb' : str[i]? = some b := by
                    rw [nthO_eq] at hb
                    have hlt : i < str.size := by
                      have := (List.getElem?_eq_some_iff.1 hb).1
                      simpa using this
                    rw [getElem?_pos str i hlt]
                    have h2 := (List.getElem?_eq_some_iff.1 hb).2
                    rw [← h2]
                    rfl
                  unfold execOp
                  rw [ho]
                  simp [hx', hi', Instr.index, asIntOf, hT.rund hti, hd, hb']
                · cases h
              · cases hst
            · cases hst
          · cases h
        · exact quiet (by rw [ho]; simp) h
      · exact quiet (by rw [ho]; simp) h
  case extract t i =>
    have hx := hρ t (by rw [ho]; simp [Op.operands])
    unfold oExtract at h
    split at h
    · rename_i vs hvs
      obtain ⟨a', hx', hvl⟩ := asTupL_rel hvs hx
      rw [nthO_eq] at h
      obtain ⟨v', q1, q2⟩ := hvl.get h
      refine ⟨v', fun w => ?_, q2⟩
      have q1' : a'[i]? = some v' := by simpa using q1
      unfold execOp
      rw [ho]
      simp [hx', Instr.extract, q1']
    · cases h
end
end Go.Proofs.YtcbcegdidlefiaaGreat
