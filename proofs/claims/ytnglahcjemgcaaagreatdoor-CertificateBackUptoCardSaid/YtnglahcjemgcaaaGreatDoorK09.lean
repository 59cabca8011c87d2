/- A run with known data: operations that read nothing, and that read. No condition. A run with known data: operations that read memory. No condition. A run with known data: operations that read memory. No condition. A run with known data: operations that read memory, all of them. No condition. A run with known data: operations that read memory, all of them. No condition. -/
import Derived.Test.YtnglahcjemgcaaaGreatDoorK08
import Derived.Laws.StructEq
namespace Go.Proofs.YtnglahcjemgcaaaGreatDoor
section
open Go.RowKit

section
variable {P : Program} {T : TyT} {s : Sg} {ρ ρ' : Operand → Value} {o : Oper}
theorem quietA_ok (hs : ∀ cs b, o.op ≠ .select cs b) (hρ : ∀ x ∈ o.op.operands, VR s (ρ x) (ρ' x)) {v : Value} (h : quietA P ρ o = some v) :
    (∀ w, (execOp ρ' o).run P w = .ok (.value v) w) ∧ VR s v v := by
  unfold quietA at h
  split at h
  · rename_i hc
    split at h
    · rename_i u hq
      split at h
      · rename_i hv
        cases h
        have e : execOp ρ' o = execOp ρ o := execOp_congr o hs fun x hx => VR.eqV (List.all_eq_true.1 hc x (by simpa using hx)) (hρ x hx)
        exact ⟨fun w => by rw [e]; exact qv_run hq w, VR.closedV hv⟩
      · cases h
    · cases h
  · cases h
theorem asPtr_eq {v : Value} {p : PA} (h : asPtr v = some p) : v = .pointer (some ⟨p.L, p.o, none⟩) := by
  unfold asPtr at h; split at h
  · cases h; rfl
  · cases h
theorem asSlc_eq {v : Value} {p : SA} (h : asSlc v = some p) : v = .slice (some ⟨p.L, p.o, none⟩) p.n p.c := by
  unfold asSlc at h; split at h
  · cases h; rfl
  · cases h
theorem asI64_eq {v : Value} {n : Int} (h : asI64 v = some n) : v = .int .i64 n := by
  unfold asI64 at h; split at h
  · cases h; rfl
  · cases h
theorem asU8_eq {v : Value} {n : Int} (h : asU8 v = some n) : v = .int .u8 n := by
  unfold asU8 at h; split at h
  · cases h; rfl
  · cases h
theorem asStr_eq {v : Value} {n : ByteArray} (h : asStr v = some n) : v = .string n := by
  unfold asStr at h; split at h
  · cases h; rfl
  · cases h
theorem asAggL_rel {v v' : Value} {l : List Value} (h : asAggL v = some l) (r : VR s v v') : ∃ a', v' = .agg a' ∧ VL s l a'.toList := by
  unfold asAggL at h; split at h
  · cases h
    cases r with
    | agg _ a' ha h1 => exact ⟨a', rfl, VL.ofArr ha h1⟩
  · cases h
theorem asTupL_rel {v v' : Value} {l : List Value} (h : asTupL v = some l) (r : VR s v v') : ∃ a', v' = .tuple a' ∧ VL s l a'.toList := by
  unfold asTupL at h; split at h
  · cases h
    cases r with
    | tuple _ a' ha h1 => exact ⟨a', rfl, VL.ofArr ha h1⟩
  · cases h
theorem asPtr_rel {v v' : Value} {p : PA} (h : asPtr v = some p) (r : VR s v v') : ∃ i, s p.L = some i ∧ v' = .pointer (some ⟨i.bl, p.o, none⟩) := by
  rw [asPtr_eq h] at r
  cases r with
  | ptr _ _ i hi => exact ⟨i, hi, rfl⟩
theorem asSlc_rel {v v' : Value} {p : SA} (h : asSlc v = some p) (r : VR s v v') : ∃ i c', s p.L = some i ∧ v' = .slice (some ⟨i.bl, p.o, none⟩) p.n c' ∧ ((p.c < FULL ∧ c' = p.c) ∨ (p.c = FULL ∧ p.n ≤ c' ∧ (p.o = 0 → c' * i.es = i.sz ∧ c' ≤ maxLen))) := by
  rw [asSlc_eq h] at r
  obtain ⟨L, o, n, c⟩ := p
  simp only at r ⊢
  exact match c, v', r with
    | _, _, .slc _ _ _ _ i hi hc => ⟨i, _, hi, rfl, .inl ⟨hc, rfl⟩⟩
    | _, _, .full _ _ _ c' i hi hn h0 => ⟨i, _, hi, rfl, .inr ⟨rfl, hn, h0⟩⟩
theorem asI64_rel {v v' : Value} {n : Int} (h : asI64 v = some n) (r : VR s v v') : v' = .int .i64 n := by rw [asI64_eq h] at r; cases r; rfl
theorem asU8_rel {v v' : Value} {n : Int} (h : asU8 v = some n) (r : VR s v v') : v' = .int .u8 n := by rw [asU8_eq h] at r; cases r; rfl
theorem asStr_rel {v v' : Value} {n : ByteArray} (h : asStr v = some n) (r : VR s v v') : v' = .string n := by rw [asStr_eq h] at r; cases r; rfl
theorem fldI_ok (hT : TOk P T) {t f off : Nat} {tf : TI} (h : fldI T t f = some (off, tf)) : ∃ (fields : Array Field) (fd : Field), P.underlying t = some (.struct fields) ∧ fields[f]? = some fd ∧ T fd.type = some tf ∧ fd.offset = off := by
  unfold fldI at h
  split at h
  · rename_i ti hti
    split at h
    · rename_i fields hd
      split at h
      · rename_i fd hfd
        split at h
        · rename_i tf' htf
          cases h
          have := hT.und hti
          rw [hd] at this
          exact ⟨fields, fd, this, by rw [nthO_eq] at hfd; simpa using hfd, htf, rfl⟩
        · cases h
      · cases h
    · cases h
  · cases h
theorem slcI_ok (hT : TOk P T) {t e : Nat} {te : TI} (h : slcI T t = some (e, te)) : P.underlying t = some (.slice e) ∧ T e = some te := by
  unfold slcI at h
  split at h
  · rename_i ti hti
    split at h
    · rename_i e' hd
      split at h
      · rename_i te' hte
        cases h
        have := hT.und hti
        rw [hd] at this
        exact ⟨this, hte⟩
      · cases h
    · cases h
  · cases h
theorem arrI_ok (hT : TOk P T) {t n e : Nat} {te : TI} (h : arrI T t = some (n, e, te)) : P.underlying t = some (.array n e) ∧ T e = some te := by
  unfold arrI at h
  split at h
  · rename_i ti hti
    split at h
    · rename_i n' e' hd
      split at h
      · rename_i te' hte
        cases h
        have := hT.und hti
        rw [hd] at this
        exact ⟨this, hte⟩
      · cases h
    · cases h
  · cases h
theorem bldI_ok (hT : TOk P T) {t : Nat} {z : List Value} {bp : BP} (h : bldI T t = some (z, bp)) {parts parts' : List (Nat × Value)} (h1 : parts.length = parts'.length)
    (h2 : ∀ (i : Nat) x x', parts[i]? = some x → parts'[i]? = some x' → x.1 = x'.1 ∧ VR s x.2 x'.2) {c : List Value} (hc : fillL bp z parts = some c) : ∃ r, P.built t parts' = some r ∧ VL s c r.toList := by
  unfold bldI at h
  split at h
  · rename_i ti hti
    split at h
    · cases h
    · rename_i hz
      obtain ⟨i, zv, i1, i2, i3, i4, i5, i6⟩ := hT.info hti
      have hzz : VL s ti.zero zv.cells.toList := by rw [i5]; exact VL.closed hz
      have hu := hT.und hti
      split at h
      · rename_i fields hd
        split at h
        · rename_i pl hpl
          cases h
          have hpl' := placesA_ok hT _ _ hpl
          obtain ⟨r', q1, q2⟩ := fill_ok (.str pl) (pl.toArray[·]?) (fun i => by simp [BP.at, nthO_eq]) _ _ _ _ _ h1 h2 hzz hc
          refine ⟨r', ?_, q2⟩
          unfold Program.built
          rw [i1, hu, hd]
          simp only [i4, hpl', q1]
        · cases h
      · rename_i n e hd
        split at h
        · rename_i te hte
          cases h
          obtain ⟨j, z2, j1, j2, _⟩ := hT.info hte
          obtain ⟨r', q1, q2⟩ := fill_ok (.arr te.size) (fun i => some (i * te.size, te.size)) (fun i => rfl) _ _ _ _ _ h1 h2 hzz hc
          refine ⟨r', ?_, q2⟩
          unfold Program.built
          rw [i1, hu, hd]
          simp only [i4, j1, j2, q1]
        · cases h
      · cases h
  · cases h
theorem natOf_eq {v : Value} {n : Nat} (h : natOf v = some n) : v = .int .i64 n := by
  unfold natOf at h
  split at h
  · cases h; rfl
  · cases h
theorem natOf_rel {v v' : Value} {n : Nat} (h : natOf v = some n) (r : VR s v v') : v' = .int .i64 n := by
  rw [natOf_eq h] at r
  cases r
  rfl
theorem natOr_rel {x : Option Operand} {d n : Nat} (h : natOr d (x.map ρ) = some n) (r : ∀ y, x = some y → VR s (ρ y) (ρ' y)) : (x = none ∧ n = d) ∨ (∃ y, x = some y ∧ ρ' y = .int .i64 n) := by
  cases x with
  | none => simp [natOr] at h; exact .inl ⟨rfl, h.symm⟩
  | some y => exact .inr ⟨y, rfl, natOf_rel (by simpa [natOr] using h) (r y rfl)⟩
theorem run_bound (n y : Nat) (code : BoundsCode) (w : World) (h : n ≤ y) : (Instr.sliceBound (.int .i64 n) y code).run P w = .ok n w := by
  simp [Instr.sliceBound, asIntOf, h]
theorem run_bounds (isS : Bool) (len cap : Nat) (lo hi mx : Option Operand) (l h m : Nat) (w : World)
    (hl : (lo = none ∧ l = 0) ∨ (∃ y, lo = some y ∧ ρ' y = .int .i64 l)) (hh : (hi = none ∧ h = len) ∨ (∃ y, hi = some y ∧ ρ' y = .int .i64 h)) (hm : (mx = none ∧ m = cap) ∨ (∃ y, mx = some y ∧ ρ' y = .int .i64 m))
    (hx : hi ≠ none ∨ mx = none) (h1 : l ≤ h) (h2 : h ≤ m) (h3 : m ≤ cap) : (Instr.sliceBounds isS len cap (lo.map ρ') (hi.map ρ') (mx.map ρ')).run P w = .ok (l, h, m) w := by
  unfold Instr.sliceBounds
  rcases hm with ⟨rfl, rfl⟩ | ⟨y, rfl, hy⟩ <;> rcases hh with ⟨rfl, rfl⟩ | ⟨z, rfl, hz⟩ <;> rcases hl with ⟨rfl, rfl⟩ | ⟨q, rfl, hq⟩ <;>
    simp_all [run_bound]
theorem fieldPlace_run {f : Field} (b o : Nat) (w : World) (hT : TOk P T) {tf : TI} (h : T f.type = some tf) (h0 : tf.size ≠ 0) : (fieldPlace ⟨b, o, none⟩ f).run P w = .ok ⟨b, o + f.offset, none⟩ w := by
  unfold fieldPlace
  rw [Sem.run_bind, hT.rsize h, Result.andThen_ok]
  simp [h0, Addr.add_mid]

theorem parts_rel {parts : Array (Nat × Operand)} (r : ∀ x ∈ (parts.toList.map (·.2)).toArray, VR s (ρ x) (ρ' x)) :
    (parts.toList.map fun p => (p.1, ρ p.2)).length = (parts.map fun (i, x) => (i, ρ' x)).toList.length ∧
    ∀ (i : Nat) x x', (parts.toList.map fun p => (p.1, ρ p.2))[i]? = some x → (parts.map fun (i, x) => (i, ρ' x)).toList[i]? = some x' → x.1 = x'.1 ∧ VR s x.2 x'.2 := by
  refine ⟨by simp, fun i x x' h h' => ?_⟩
  simp only [List.getElem?_map, Array.toList_map] at h h'
  cases e : parts.toList[i]? with
  | none => rw [e] at h; cases h
  | some p =>
    rw [e] at h h'
    simp at h h'
    subst h; subst h'
    exact ⟨rfl, r _ (by simp only [List.mem_toArray, List.mem_map]; exact ⟨p, List.mem_of_getElem? e, rfl⟩)⟩

theorem vlmap {l : List Operand} (r : ∀ x ∈ l, VR s (ρ x) (ρ' x)) : VL s (l.map ρ) (l.map ρ') := by
  refine ⟨by simp, fun i x x' h h' => ?_⟩
  simp only [List.getElem?_map] at h h'
  cases e : l[i]? with
  | none => rw [e] at h; cases h
  | some p =>
    rw [e] at h h'
    simp at h h'
    subst h; subst h'
    exact r _ (List.mem_of_getElem? e)

theorem run_slice {t e : Nat} {te : TI} (hT : TOk P T) (hu : P.underlying t = some (.slice e)) (hte : T e = some te) {lo hi mx : Option Operand} {n c l h m : Nat} (b o : Nat) (w : World)
    (hl : (lo = none ∧ l = 0) ∨ (∃ y, lo = some y ∧ ρ' y = .int .i64 l)) (hh : (hi = none ∧ h = n) ∨ (∃ y, hi = some y ∧ ρ' y = .int .i64 h)) (hm : (mx = none ∧ m = c) ∨ (∃ y, mx = some y ∧ ρ' y = .int .i64 m))
    (hx : hi ≠ none ∨ mx = none) (h1 : l ≤ h) (h2 : h ≤ m) (h3 : m ≤ c) : (Instr.sliceAt t (.slice (some ⟨b, o, none⟩) n c) (lo.map ρ') (hi.map ρ') (mx.map ρ')).run P w =
      .ok (.slice (some (if m = l then ⟨b, o, none⟩ else ⟨b, o + l * te.size, none⟩)) (h - l) (m - l)) w := by
  have hbd := run_bounds (P := P) (ρ' := ρ') true n c lo hi mx l h m w hl hh hm hx h1 h2 h3
  by_cases e : m = l <;> simp [Instr.sliceAt, Instr.slice, run_underlying hu, hbd, hT.rsize hte, e, Addr.add_mid]
theorem aop0_ok (hT : TOk P T) (hρ : ∀ x ∈ o.op.operands, VR s (ρ x) (ρ' x)) {v : Value} (h : aop0 P T ρ o = some v) :
    ∃ v', (∀ w, (execOp ρ' o).run P w = .ok (.value v') w) ∧ VR s v v' := by
  have quiet : (∀ cs b, o.op ≠ .select cs b) → quietA P ρ o = some v → ∃ v', (∀ w, (execOp ρ' o).run P w = .ok (.value v') w) ∧ VR s v v' := fun hs hq => ⟨v, (quietA_ok hs hρ hq).1, (quietA_ok hs hρ hq).2⟩
  unfold aop0 at h
  cases ho : o.op <;> rw [ho] at h <;> simp only at h <;> first | (cases h; done) | skip
  case move x =>
    cases h
    exact ⟨ρ' x, fun w => by unfold execOp; rw [ho]; rfl, hρ x (by rw [ho]; simp [Op.operands])⟩
  case assign x =>
    cases h
    exact ⟨ρ' x, fun w => by unfold execOp; rw [ho]; rfl, hρ x (by rw [ho]; simp [Op.operands])⟩
  case pick c a b =>
    have hc := hρ c (by rw [ho]; simp [Op.operands])
    unfold oPick at h
    split at h
    · rename_i e
      rw [e] at hc
      generalize hc' : ρ' c = u at hc
      cases hc
      cases h
      exact ⟨ρ' a, fun w => by unfold execOp; rw [ho]; simp [hc', asBool], hρ a (by rw [ho]; simp [Op.operands])⟩
    · rename_i e
      rw [e] at hc
      generalize hc' : ρ' c = u at hc
      cases hc
      cases h
      exact ⟨ρ' b, fun w => by unfold execOp; rw [ho]; simp [hc', asBool], hρ b (by rw [ho]; simp [Op.operands])⟩
    · cases h
  case build t parts =>
    have hp := parts_rel (parts := parts) (s := s) (ρ := ρ) (ρ' := ρ') (fun x hx => hρ x (by rw [ho]; exact hx))
    unfold oBuild at h
    split at h
    · rename_i z bp hb
      split at h
      · rename_i c hc
        cases h
        obtain ⟨r', q1, q2⟩ := bldI_ok hT hb hp.1 hp.2 hc
        refine ⟨.agg r', fun w => ?_, VR.aggL (l' := r'.toList) q2⟩
        unfold execOp
        rw [ho]
        simp only [Sem.run_bind]
        rw [run_build w t _ r' q1]
        rfl
      · cases h
    · cases h
  case nilCheck x =>
    have hc := hρ x (by rw [ho]; simp [Op.operands])
    unfold oNil at h
    split at h
    · rename_i a e
      rw [e] at hc
      cases h
      generalize hc' : ρ' x = u at hc
      refine ⟨u, fun w => ?_, hc⟩
      unfold execOp; rw [ho]; simp only [hc']
      cases hc
      rfl
    · rename_i f a b e
      rw [e] at hc
      cases h
      generalize hc' : ρ' x = u at hc
      refine ⟨u, fun w => ?_, hc⟩
      unfold execOp; rw [ho]; simp only [hc']
      cases hc
      rfl
    · cases h
  case unOp op t x =>
    have hc := hρ x (by rw [ho]; simp [Op.operands])
    unfold oUn at h
    split at h
    · rename_i b e2
      rw [e2] at hc
      cases h
      generalize hc' : ρ' x = u at hc
      cases hc
      exact ⟨_, fun w => by unfold execOp; rw [ho]; simp [hc', Op.unary], .bool _⟩
    · exact quiet (by rw [ho]; simp) h
  case makeFunc fn a b =>
    cases h
    refine ⟨_, fun w => by unfold execOp; rw [ho]; rfl, ?_⟩
    have ha := VR.arr (s := s) (a := ⟨a.toList.map ρ⟩) (a' := a.map ρ') (by simpa using vlmap (l := a.toList) fun x hx => hρ x (by rw [ho]; simp [Op.operands]; exact .inl (by simpa using hx)))
    have hb := VR.arr (s := s) (a := ⟨b.toList.map ρ⟩) (a' := b.map ρ') (by simpa using vlmap (l := b.toList) fun x hx => hρ x (by rw [ho]; simp [Op.operands]; exact .inr (by simpa using hx)))
    exact .fn fn _ _ _ _ ha.1 hb.1 ha.2 hb.2
  case slice t x lo hi mx =>
    have hx := hρ x (by rw [ho]; simp [Op.operands])
    have hlo : ∀ y, lo = some y → VR s (ρ y) (ρ' y) := fun y e => hρ y (by rw [ho, e]; simp [Op.operands])
    have hhi : ∀ y, hi = some y → VR s (ρ y) (ρ' y) := fun y e => hρ y (by rw [ho, e]; simp [Op.operands])
    have hmx : ∀ y, mx = some y → VR s (ρ y) (ρ' y) := fun y e => hρ y (by rw [ho, e]; simp [Op.operands])
    unfold oSlice at h
    split at h
    · rename_i L off e1
      rw [e1] at hx
      generalize hx' : ρ' x = x' at hx
      unfold oSliceP at h
      split at h
      · rename_i n e te ha
        obtain ⟨hu, hte⟩ := arrI_ok hT ha
        split at h
        · rename_i l hh m q1 q2 q3
          split at h
          · rename_i hb
            simp only [Bool.and_eq_true, Nat.ble_eq, Bool.or_eq_true] at hb
            obtain ⟨⟨⟨⟨b1, b2⟩, b3⟩, b4⟩, b5⟩ := hb
            have b4' : n < FULL := by simpa using b4
            cases h
            cases hx with
            | ptr _ _ i hi2 =>
              refine ⟨.slice (some (if m = l then ⟨i.bl, off, none⟩ else (⟨i.bl, off, none⟩ : Addr).add (l * te.size))) (hh - l) (m - l), fun w => ?_, ?_⟩
              · unfold execOp
                rw [ho]
                have hbd := run_bounds (P := P) (ρ' := ρ') false n n lo hi mx l hh m w (natOr_rel q1 hlo) (natOr_rel q2 hhi) (natOr_rel q3 hmx) (by
                  rcases b5 with b5 | b5
                  · exact .inl (by intro e; rw [e] at b5; simp at b5)
                  · exact .inr (by simpa using b5)) b1 b2 b3
                simp [hx', Instr.sliceAt, run_underlying hu, Instr.sureAddr, hbd, hT.rsize hte]
              · by_cases e2 : m = l
                · rw [if_pos e2, if_pos e2]; exact .slc L off _ _ i hi2 (by omega)
                · rw [if_neg e2, if_neg e2, Addr.add_mid]; exact .slc L _ _ _ i hi2 (by omega)
          · cases h
        · cases h
      · cases h
    · rename_i b n c e1
      rw [e1] at hx
      unfold oSliceS at h
      split at h
      · rename_i e te ha
        obtain ⟨hu, hte⟩ := slcI_ok hT ha
        unfold sliceA at h
        split at h
        · rename_i l hh q1 q2
          have r1 := natOr_rel q1 hlo
          have r2 := natOr_rel q2 hhi
          split at h
          · split at h
            · rename_i hb
              simp only [Bool.and_eq_true, Nat.beq_eq, Option.isNone_iff_eq_none, Option.map_eq_none_iff] at hb
              obtain ⟨⟨⟨⟨rfl, rfl⟩, b3⟩, rfl⟩, rfl⟩ := hb
              subst b3
              cases h
              generalize hx' : ρ' x = x' at hx
              cases hx
              refine ⟨.slice none 0 0, fun w => ?_, .nils⟩
              have hbd := run_bounds (P := P) (ρ' := ρ') true 0 0 lo hi none 0 0 0 w r1 r2 (.inl ⟨rfl, rfl⟩) (.inr rfl) (Nat.le_refl _) (Nat.le_refl _) (Nat.le_refl _)
              simp only [Option.map_none] at hbd
              unfold execOp
              rw [ho]
              simp [hx', Instr.sliceAt, Instr.slice, run_underlying hu, hbd, hT.rsize hte]
            · cases h
          · rename_i L off
            have hsl : asSlc (Value.slice (some ⟨L, off, none⟩) n c) = some ⟨L, off, n, c⟩ := rfl
            obtain ⟨i, c', hi2, hx', hcc⟩ := asSlc_rel hsl hx
            simp only at hi2 hx' hcc
            split at h
            · rename_i hmx0
              have hmx1 : mx = none := by simpa using hmx0
              subst hmx1
              unfold sliceN at h
              split at h
              · rename_i hf
                have hf' : c = FULL := by simpa using hf
                subst hf'
                rcases hcc with ⟨hcc, _⟩ | ⟨_, hcn, hc0⟩
                · exact absurd hcc (Nat.lt_irrefl _)
                split at h
                · rename_i hb
                  simp only [Bool.and_eq_true, Nat.ble_eq] at hb
                  obtain ⟨⟨b1, b2⟩, b3⟩ := hb
                  have b3' : 0 < te.size := by simpa using b3
                  have hrun := fun w => run_slice (P := P) hT hu hte i.bl off w r1 r2 (.inl ⟨rfl, rfl⟩ : ((none : Option Operand) = none ∧ c' = c') ∨ _) (.inr rfl) b1 (Nat.le_trans b2 hcn) (Nat.le_refl _)
                  split at h
                  · rename_i hz
                    cases h
                    refine ⟨_, fun w => ?_, .full L (off + l * te.size) (hh - l) (c' - l) i hi2 (by omega) ?_⟩
                    · unfold execOp
                      rw [ho]
                      have := hrun w
                      try simp only [Option.map_none] at this
                      simp only [hx', Option.map_none, Sem.run_bind, this]
                      by_cases e2 : c' = l
                      · have hz' : l < hh ∨ l = 0 := by simpa using hz
                        have : l = 0 := by omega
                        subst this
                        simp [e2]
                      · simp [e2]
                    · intro e3
                      have h1 : off = 0 := by omega
                      have h2 : l * te.size = 0 := by omega
                      have h3 : l = 0 := by
                        rcases Nat.mul_eq_zero.1 h2 with h | h
                        · exact h
                        · omega
                      subst h3
                      exact hc0 h1
                  · cases h
                    refine ⟨.slice (some (if c' = l then ⟨i.bl, off, none⟩ else ⟨i.bl, off + l * te.size, none⟩)) 0 (c' - l), fun w => ?_, .emp L off (c' - l) _⟩
                    · unfold execOp
                      rw [ho]
                      have := hrun w
                      try simp only [Option.map_none] at this
                      simp only [hx', Option.map_none, Sem.run_bind, this]
                      have hz' : hh = l := by
                        rename_i hz
                        have : ¬ l < hh := by
                          intro h9
                          have : Nat.blt l hh = true := by simpa using h9
                          rw [this] at hz; simp at hz
                        omega
                      rw [hz', Nat.sub_self]
                      rfl
                · cases h
              · rename_i hf
                split at h
                · rename_i hb
                  simp only [Bool.and_eq_true, Nat.ble_eq] at hb
                  obtain ⟨⟨b1, b2⟩, b3⟩ := hb
                  have b3' : c < FULL := by simpa using b3
                  rcases hcc with ⟨_, rfl⟩ | ⟨hcc, _⟩
                  · cases h
                    refine ⟨.slice (some (if c' = l then ⟨i.bl, off, none⟩ else ⟨i.bl, off + l * te.size, none⟩)) (hh - l) (c' - l), fun w => ?_, ?_⟩
                    · unfold execOp
                      rw [ho]
                      have := run_slice (P := P) hT hu hte i.bl off w r1 r2 (.inl ⟨rfl, rfl⟩ : ((none : Option Operand) = none ∧ c' = c') ∨ _) (.inr rfl) b1 b2 (Nat.le_refl _)
                      try simp only [Option.map_none] at this
                      simp only [hx', Option.map_none, Sem.run_bind, this]
                      rfl
                    · by_cases e2 : c' = l
                      · rw [if_pos e2, if_pos e2]; exact .slc L off _ _ i hi2 (by omega)
                      · rw [if_neg e2, if_neg e2]; exact .slc L _ _ _ i hi2 (by omega)
                  · omega
                · cases h
            · rename_i mv hmx0
              split at h
              · cases h
              · rename_i m hm
                obtain ⟨y, hy, hyv⟩ : ∃ y, mx = some y ∧ mv = ρ y := by
                  cases mx with
                  | none => simp at hmx0
                  | some y => exact ⟨y, rfl, by simpa using hmx0.symm⟩
                subst hy
                have r3 : (some y = none ∧ m = c') ∨ (∃ z, some y = some z ∧ ρ' z = .int .i64 m) := .inr ⟨y, rfl, natOf_rel (by rw [← hyv]; exact hm) (hmx y rfl)⟩
                split at h
                case h_2 => cases h
                rename_i hsome
                have hsome' : hi ≠ none := by rintro rfl; simp at hsome
                unfold sliceM at h
                split at h
                · rename_i hb
                  simp only [Bool.and_eq_true, Nat.ble_eq] at hb
                  obtain ⟨⟨⟨b1, b2⟩, b3⟩, b4⟩ := hb
                  have b4' : m < FULL := by simpa using b4
                  have hmc : m ≤ c' := by
                    rcases hcc with ⟨hc1, rfl⟩ | ⟨rfl, hcn, _⟩
                    · have e5 : Nat.beq c' FULL = false := by
                        apply Bool.eq_false_iff.2
                        intro h9
                        have := Nat.eq_of_beq_eq_true h9
                        omega
                      rw [e5] at b3
                      simp only [cond_false, Bool.and_eq_true, Nat.ble_eq] at b3
                      exact b3.1
                    · simp only [Nat.beq_refl, cond_true, Nat.ble_eq] at b3
                      omega
                  cases h
                  refine ⟨.slice (some (if m = l then ⟨i.bl, off, none⟩ else ⟨i.bl, off + l * te.size, none⟩)) (hh - l) (m - l), fun w => ?_, ?_⟩
                  · unfold execOp
                    rw [ho]
                    have hhi3 : hi ≠ none ∨ (some y : Option Operand) = none := by
                      exact .inl hsome'
                    have := run_slice (P := P) hT hu hte i.bl off w r1 r2 r3 hhi3 b1 b2 hmc
                    simp only [hx', Sem.run_bind, this]
                    rfl
                  · by_cases e2 : m = l
                    · rw [if_pos e2, if_pos e2]; exact .slc L off _ _ i hi2 (by omega)
                    · rw [if_neg e2, if_neg e2]; exact .slc L _ _ _ i hi2 (by omega)
                · cases h
          · cases h
        · cases h
      · cases h
    · exact quiet (by rw [ho]; simp) h
  case fieldAddr t x f =>
    have hx := hρ x (by rw [ho]; simp [Op.operands])
    unfold oFieldAddr at h
    split at h
    · rename_i p hp
      obtain ⟨i, hi, hx'⟩ := asPtr_rel hp hx
      split at h
      · rename_i off tf hf
        obtain ⟨fields, fd, f1, f2, f3, rfl⟩ := fldI_ok hT hf
        split at h
        · cases h
        · rename_i h0
          cases h
          refine ⟨_, fun w => ?_, .ptr p.L _ i hi⟩
          have h0' : tf.size ≠ 0 := by intro e; rw [e] at h0; simp at h0
          unfold execOp
          rw [ho]
          simp [hx', Instr.fieldAt, run_underlying f1, f2, Instr.sureAddr, fieldPlace_run i.bl p.o _ hT f3 h0']
      · cases h
    · cases h
  case field t x f =>
    have hx := hρ x (by rw [ho]; simp [Op.operands])
    unfold oField at h
    split at h
    · rename_i cs hcs
      obtain ⟨a', hx', hvl⟩ := asAggL_rel hcs hx
      split at h
      · rename_i off tf hf
        obtain ⟨fields, fd, f1, f2, f3, rfl⟩ := fldI_ok hT hf
        obtain ⟨v', q1, q2⟩ := part_ok hT f3 hvl h
        refine ⟨v', fun w => ?_, q2⟩
        unfold execOp
        rw [ho]
        simp [hx', Instr.field, run_underlying f1, f2, asAgg, q1]
      · cases h
    · cases h
  case indexAddr t x ix =>
    have hx := hρ x (by rw [ho]; simp [Op.operands])
    have hix := hρ ix (by rw [ho]; simp [Op.operands])
    unfold oIndexAddr at h
    split at h
    · rename_i i hi
      have hi' := natOf_rel hi hix
      split at h
      · rename_i p hp
        unfold oIndexS at h
        split at h
        · rename_i e te ha
          obtain ⟨hu, hte⟩ := slcI_ok hT ha
          split at h
          · rename_i hlt
            have hlt' : i < p.n := by simpa using hlt
            cases h
            obtain ⟨j, c', hj, hx', _⟩ := asSlc_rel hp hx
            refine ⟨_, fun w => ?_, .ptr p.L _ j hj⟩
            unfold execOp
            rw [ho]
            simp [hx', hi', Instr.indexAt, asIntOf, run_underlying hu, hlt', hT.rsize hte, Addr.add_mid]
          · cases h
        · cases h
      · unfold oIndexP at h
        split at h
        · rename_i p hp
          split at h
          · rename_i n e te ha
            obtain ⟨hu, hte⟩ := arrI_ok hT ha
            split at h
            · rename_i hlt
              have hlt' : i < n := by simpa using hlt
              cases h
              obtain ⟨j, hj, hx'⟩ := asPtr_rel hp hx
              refine ⟨_, fun w => ?_, .ptr p.L _ j hj⟩
              unfold execOp
              rw [ho]
              simp [hx', hi', Instr.indexAt, asIntOf, run_underlying hu, hlt', hT.rsize hte, Addr.add_mid, Instr.sureAddr]
            · cases h
          · cases h
        · cases h
    · cases h
  case index t x ix =>
    have hx := hρ x (by rw [ho]; simp [Op.operands])
    have hix := hρ ix (by rw [ho]; simp [Op.operands])
    unfold oIndex at h
    split at h
    · rename_i cs hcs
      obtain ⟨a', hx', hvl⟩ := asAggL_rel hcs hx
      split at h
      · rename_i i hi
        have hi' := natOf_rel hi hix
        split at h
        · rename_i n e te ha
          obtain ⟨hu, hte⟩ := arrI_ok hT ha
          split at h
          · rename_i hlt
            have hlt' : i < n := by simpa using hlt
            obtain ⟨v', q1, q2⟩ := part_ok hT hte hvl h
            have q1' : ∀ w, (part e a' (i * te.size)).run P w = .ok v' w := q1
            refine ⟨v', fun w => ?_, q2⟩
            unfold execOp
            rw [ho]
            simp [hx', hi', Instr.index, asIntOf, run_underlying hu, hlt', hT.rsize hte, q1']
          · cases h
        · cases h
      · cases h
    · unfold oIndexStr at h
      split at h
      · rename_i str hs
        split at h
        · rename_i i hi
          have hi' := natOf_rel hi hix
          have hx' := asStr_rel hs hx
          split at h
          · rename_i hst
            unfold strTy at hst
            split at hst
            · rename_i ti hti
              split at hst
              · rename_i hd
                split at h
                · rename_i b hb
                  have : v = .int .u8 b.toNat := by
                    unfold nseq at h
                    split at h <;> rename_i e3 <;> rw [e3] <;> cases h <;> rfl
                  subst this
                  refine ⟨_, fun w => ?_, .int _ _⟩
                  have hb' : str[i]? = some b := by
                    rw [nthO_eq] at hb
                    have hlt : i < str.size := by
                      have := (List.getElem?_eq_some_iff.1 hb).1
                      simpa using this
                    rw [getElem?_pos str i hlt]
                    have h2 := (List.getElem?_eq_some_iff.1 hb).2
                    rw [← h2]
                    rfl
                  unfold execOp
                  rw [ho]
                  simp [hx', hi', Instr.index, asIntOf, hT.rund hti, hd, hb']
                · cases h
              · cases hst
            · cases hst
          · cases h
        · exact quiet (by rw [ho]; simp) h
      · exact quiet (by rw [ho]; simp) h
  case extract t i =>
    have hx := hρ t (by rw [ho]; simp [Op.operands])
    unfold oExtract at h
    split at h
    · rename_i vs hvs
      obtain ⟨a', hx', hvl⟩ := asTupL_rel hvs hx
      rw [nthO_eq] at h
      obtain ⟨v', q1, q2⟩ := hvl.get h
      refine ⟨v', fun w => ?_, q2⟩
      have q1' : a'[i]? = some v' := by simpa using q1
      unfold execOp
      rw [ho]
      simp [hx', Instr.extract, q1']
    · cases h
end
end

section
open Go.RowKit

section
variable {P : Program} {T : TyT} {s : Sg} {ρ ρ' : Operand → Value} {o : Oper} {C : Foot} {w0 w : World} {H : Hp}
theorem Rel.row (r : Rel C w0 s H w) {L : Nat} {i : Info} (hs : s L = some i) {c : List Value} {e es : Nat} (hH : H.at L = some (.cells c e es)) :
    ∃ c' rest, w.heap[i.bl]? = some (.cells ⟨c' ++ rest⟩ e (0, 0)) ∧ c'.length + rest.length = i.sz ∧ VL s c c' ∧ es = i.es ∧ 0 < es := by
  obtain ⟨_, h1, h2, c', rest, h3, h4, h5⟩ := r.live L i _ hs hH
  exact ⟨c', rest, h3, h4, h5, h1, h2⟩
theorem row_cell {b o : Nat} {c' rest : List Value} {e : Nat} (h : w.heap[b]? = some (.cells ⟨c' ++ rest⟩ e (0, 0))) {v : Value} (hv : c'[o]? = some v) : w.cell? ⟨b, o, none⟩ = some v := by
  have hlt : o < c'.length := (List.getElem?_eq_some_iff.1 hv).1
  simp only [World.cell?, h]
  have : (⟨c' ++ rest⟩ : Array Value)[o]? = (c' ++ rest)[o]? := by simp
  rw [this, List.getElem?_append_left hlt]
  simpa using hv
theorem load_ok (hT : TOk P T) (r : Rel C w0 s H w) {t : Nat} {ti : TI} (ht : T t = some ti) {L off : Nat} {i : Info} (hs : s L = some i) {c : List Value} {e es : Nat} (hH : H.at L = some (.cells c e es))
    {v : Value} (hv : partL ti c off = some v) : ∃ v', (loadVar t ⟨i.bl, off, none⟩).run P w = .ok v' w ∧ VR s v v' := by
  obtain ⟨c', rest, h1, h2, h3, _⟩ := r.row hs hH
  unfold partL at hv
  rw [takeL_eq, dropL_eq, nthO_eq, lenL_eq] at hv
  cases ha : ti.agg with
  | true =>
    rw [ha] at hv
    simp only at hv
    split at hv
    · rename_i hl
      cases hv
      have hl' : ((c.drop off).take ti.size).length = ti.size := by simpa using hl
      have hvl := (h3.drop off).take ti.size
      refine ⟨.agg ⟨(c'.drop off).take ti.size⟩, ?_, VR.aggL hvl⟩
      have hload := run_loadCells_list (P := P) w ⟨i.bl, off, none⟩ ((c'.drop off).take ti.size) (fun j u hu => by
        rw [Addr.add_mid]
        refine row_cell h1 ?_
        rw [List.getElem?_take] at hu
        split at hu
        · simpa using hu
        · cases hu)
      rw [← hvl.1, hl'] at hload
      unfold loadVar
      rw [Sem.run_bind, hT.ragg ht, Result.andThen_ok, ha]
      simp [hT.rsize ht, hload]
    · cases hv
  | false =>
    rw [ha] at hv
    simp only at hv
    obtain ⟨v', q1, q2⟩ := h3.get hv
    refine ⟨v', ?_, q2⟩
    unfold loadVar
    rw [Sem.run_bind, hT.ragg ht, Result.andThen_ok, ha]
    simp [row_cell h1 q1]
theorem equal_int {t : Nat} {k : IntKind} (hu : P.underlying t = some (.int k)) (i : IntKind) (a b : Int) (w : World) : (Op.equal t (.int i a) (.int i b)).run P w = .ok (a == b) w := by
  have key : ∀ d, (Op.equalIn (d + 1) t (.int i a) (.int i b)).run P w = .ok (a == b) w := by
    intro d
    simp [Op.equalIn, run_underlying hu]
  exact key 9999
theorem equal_str {t : Nat} (hu : P.underlying t = some .string) (a b : ByteArray) (w : World) : (Op.equal t (.string a) (.string b)).run P w = .ok (a == b) w := by
  have key : ∀ d, (Op.equalIn (d + 1) t (.string a) (.string b)).run P w = .ok (a == b) w := by
    intro d
    simp [Op.equalIn, run_underlying hu]
  exact key 9999
theorem equal_boo {t : Nat} (hu : P.underlying t = some .bool) (a b : Bool) (w : World) : (Op.equal t (.bool a) (.bool b)).run P w = .ok (a == b) w := by
  have key : ∀ d, (Op.equalIn (d + 1) t (.bool a) (.bool b)).run P w = .ok (a == b) w := by
    intro d
    simp [Op.equalIn, run_underlying hu]
  exact key 9999
theorem beq_dec (a b : Nat) : Nat.beq a b = decide (a = b) := by
  cases h : Nat.beq a b with
  | true => have := Nat.eq_of_beq_eq_true h; simp [this]
  | false => have := Nat.ne_of_beq_eq_false h; simp [this]
theorem eqI_eq (a b : Int) : eqI a b = (a == b) := by
  unfold eqI
  cases a <;> cases b
  · rename_i x y
    show Nat.beq x y = _
    rw [beq_dec]
    by_cases e : x = y
    · simp [e]
    · have : ¬ ((x : Int) = y) := by omega
      simp [e, this]
  · simp
  · simp
  · rename_i x y
    show Nat.beq x y = _
    rw [beq_dec]
    by_cases e : x = y <;> simp [e]
theorem keyEq_run {d : TypeDesc} {t : Nat} {k k' : Value} {b : Bool} (hu : P.underlying t = some d) (h : keyEq P d t k k' = some b) (w : World) : (Op.equal t k k').run P w = .ok b w := by
  unfold keyEq at h
  split at h
  · rename_i hd
    split at h
    · rename_i x hx
      split at h
      · rename_i y hy
        cases h
        rw [asI64_eq hx, asI64_eq hy, eqI_eq]
        cases d <;> simp only [isIntD] at hd <;> first | (cases hd; done) | exact equal_int hu _ _ _ w
      · exact qv_run h w
    · exact qv_run h w
  · exact qv_run h w
theorem sameNow_run {d : TypeDesc} {t : Nat} {k k' : Value} {b : Bool} (hu : P.underlying t = some d) (h : Instr.sameNow d k k' = some b) (w : World) : (Op.equal t k k').run P w = .ok b w := by
  unfold Instr.sameNow at h
  split at h
  · split at h
    · rename_i e; subst e; cases h; exact equal_int hu _ _ _ w
    · cases h
  · cases h; exact equal_str hu _ _ w
  · cases h; exact equal_boo hu _ _ w
  · cases h
/-- what a search for a key finds, in the list that is followed and in memory -/
def KR (l : List (Value × Value × Nat)) (es : List MapEntry) (i0 : Nat) : Option (Nat × Value × Value × Nat) → Option (Nat × Value) → Prop
  | none, none => True
  | some (j, e), some (j', v) => j' = j ∧ i0 ≤ j ∧ l[j - i0]? = some e ∧ ∃ x, es[j - i0]? = some x ∧ x.val = v
  | _, _ => False
theorem KR.shift {l : List (Value × Value × Nat)} {es : List MapEntry} {i0 : Nat} {e x} {r q} (h : KR l es (i0 + 1) r q) : KR (e :: l) (x :: es) i0 r q := by
  unfold KR at h ⊢
  split at h
  · trivial
  · obtain ⟨h1, h2, h3, y, h4, h5⟩ := h
    rename_i j _ _ _
    have e2 : j - i0 = (j - (i0 + 1)) + 1 := by omega
    exact ⟨h1, by omega, by rw [e2]; simpa using h3, y, by rw [e2]; simpa using h4, h5⟩
  · cases h
theorem keyAt_now {d : TypeDesc} {t : Nat} {k : Value} (hu : P.underlying t = some d) : ∀ (l : List (Value × Value × Nat)) (es : List MapEntry) (i : Nat) r q, es.map (·.key) = l.map (·.1) → keyAt P d t k l i = some r →
    Instr.findNow d k es i = some q → KR l es i r q
  | [], [], i, r, q, _, h, hq => by simp [keyAt] at h; simp [Instr.findNow] at hq; subst h; subst hq; trivial
  | [], _ :: _, _, _, _, h, _, _ => by simp at h
  | _ :: _, [], _, _, _, h, _, _ => by simp at h
  | e :: l, x :: es, i, r, q, hk, h, hq => by
    simp only [List.map_cons, List.cons.injEq] at hk
    simp only [keyAt] at h
    simp only [Instr.findNow] at hq
    rw [hk.1] at hq
    cases h1 : keyEq P d t k e.1 with
    | none => rw [h1] at h; cases h
    | some b =>
      rw [h1] at h
      cases h2 : Instr.sameNow d k e.1 with
      | none => rw [h2] at hq; cases hq
      | some b' =>
        rw [h2] at hq
        have a1 := keyEq_run hu h1 (default : World)
        have a2 := sameNow_run hu h2 (default : World)
        rw [a1] at a2
        injection a2 with a2 _
        subst a2
        cases b with
        | true => cases h; cases hq; exact ⟨rfl, Nat.le_refl _, by simp, x, by simp, rfl⟩
        | false => exact (keyAt_now hu l es (i + 1) r q hk.2 h hq).shift
theorem keyAt_ask {d : TypeDesc} {t : Nat} {k : Value} (hu : P.underlying t = some d) (w : World) : ∀ (l : List (Value × Value × Nat)) (es : List MapEntry) (i : Nat) r, es.map (·.key) = l.map (·.1) → keyAt P d t k l i = some r →
    ∃ q, (Instr.findAsking t k es i).run P w = .ok q w ∧ KR l es i r q
  | [], [], i, r, _, h => by simp [keyAt] at h; subst h; exact ⟨none, rfl, trivial⟩
  | [], _ :: _, _, _, h, _ => by simp at h
  | _ :: _, [], _, _, h, _ => by simp at h
  | e :: l, x :: es, i, r, hk, h => by
    simp only [List.map_cons, List.cons.injEq] at hk
    simp only [keyAt] at h
    cases h1 : keyEq P d t k e.1 with
    | none => rw [h1] at h; cases h
    | some b =>
      rw [h1] at h
      have a1 := keyEq_run hu h1 w
      cases b with
      | true =>
        cases h
        refine ⟨some (i, x.val), ?_, rfl, Nat.le_refl _, by simp, x, by simp, rfl⟩
        simp [Instr.findAsking, hk.1, a1]
      | false =>
        obtain ⟨q, q1, q2⟩ := keyAt_ask hu w l es (i + 1) r hk.2 h
        refine ⟨q, ?_, q2.shift⟩
        simp [Instr.findAsking, hk.1, a1, q1]
theorem keyAt_ok {d : TypeDesc} {t : Nat} {k : Value} (hu : P.underlying t = some d) (w : World) {l : List (Value × Value × Nat)} {es : List MapEntry} {r} (hk : es.map (·.key) = l.map (·.1)) (h : keyAt P d t k l 0 = some r) :
    ∃ q, (Instr.findKey t k es).run P w = .ok q w ∧ KR l es 0 r q := by
  unfold Instr.findKey
  simp only [Sem.run_bind, run_underlying hu, Result.andThen_ok]
  cases e : Instr.findNow d k es 0 with
  | none => exact keyAt_ask hu w l es 0 r hk h
  | some q => exact ⟨q, rfl, keyAt_now hu l es 0 r q hk h e⟩
theorem map_row (r : Rel C w0 s H w) {L : Nat} {i : Info} (hs : s L = some i) {m : List (Value × Value × Nat)} {clk : Nat} (hH : H.at L = some (.map m clk)) :
    ∃ es', w.heap[i.bl]? = some (.map es' clk) ∧ es'.size = m.length ∧ es'.toList.map (·.key) = m.map (·.1) ∧ ∀ (k : Nat) kv e, m[k]? = some kv → es'[k]? = some e → e.key = kv.1 ∧ closedV kv.1 = true ∧ e.born = kv.2.2 ∧ VR s kv.2.1 e.val := by
  obtain ⟨_, es', h1, h2, h3⟩ := r.live L i _ hs hH
  refine ⟨es', h1, h2, ?_, h3⟩
  apply List.ext_getElem?
  intro k
  simp only [List.getElem?_map]
  cases e1 : es'[k]? with
  | none =>
    have : es'.size ≤ k := by simpa using e1
    have e2 : es'.toList[k]? = none := by simpa using this
    have e3 : m[k]? = none := by simp; omega
    rw [e2, e3]; rfl
  | some x =>
    have hlt : k < es'.size := (Array.getElem?_eq_some_iff.1 e1).1
    have e2 : es'.toList[k]? = some x := by simpa using e1
    have e3 : m[k]? = some m[k] := List.getElem?_eq_getElem (by omega)
    rw [e2, e3]
    simp [(h3 k _ x e3 e1).1]
end
end

section
open Go.RowKit

theorem natV_eq (n : Nat) : natV n = .int .i64 (n : Int) := by unfold natV nseq; cases n <;> rfl
theorem negV_eq (n : Nat) : negV n = .int .i64 (Int.negSucc n) := by unfold negV nseq; cases n <;> rfl
theorem lim63_lt {n : Nat} (h : lim63 n = true) : n < 9223372036854775808 := by simpa [lim63] using h
theorem wrap_i64 (x : Int) (h1 : -9223372036854775808 ≤ x) (h2 : x < 9223372036854775808) : IntKind.i64.wrap x = x := by
  show (if (true && decide (x % 18446744073709551616 ≥ 9223372036854775808)) = true then x % 18446744073709551616 - 18446744073709551616 else x % 18446744073709551616) = x
  by_cases h : 0 ≤ x
  · have e : x % 18446744073709551616 = x := Int.emod_eq_of_lt h (by omega)
    rw [e, if_neg (by simp; omega)]
  · have e : x % 18446744073709551616 = x + 18446744073709551616 := by omega
    rw [e, if_pos (by simp; omega)]
    omega
theorem blt_no {m n : Nat} (h : Nat.blt m n = false) : ¬ m < n := by
  intro h9
  have : Nat.blt m n = true := by simpa using h9
  rw [this] at h; cases h
theorem addA_ok {a b : Int} {v : Value} (h : addA a b = some v) : v = .int .i64 (a + b) ∧ -9223372036854775808 ≤ a + b ∧ a + b < 9223372036854775808 := by
  unfold addA at h
  split at h
  · rename_i m n
    split at h
    · rename_i hl
      have hl' := lim63_lt hl
      cases h
      rw [natV_eq]
      simp only [Int.ofNat_eq_natCast, Nat.add_eq] at hl' ⊢
      exact ⟨rfl, by omega, by omega⟩
    · cases h
  · rename_i m n
    split at h
    · rename_i hlt
      have hlt' : n < m := by simpa using hlt
      split at h
      · rename_i hl
        have hl' := lim63_lt hl
        cases h
        rw [natV_eq]
        simp only [Int.ofNat_eq_natCast, Nat.sub_eq]
        exact ⟨by congr 1; omega, by omega, by omega⟩
      · cases h
    · rename_i hlt
      have hlt' := blt_no hlt
      split at h
      · rename_i hl
        have hl' := lim63_lt hl
        cases h
        rw [negV_eq]
        simp only [Int.ofNat_eq_natCast, Nat.sub_eq]
        exact ⟨by congr 1; omega, by omega, by omega⟩
      · cases h
  · rename_i m n
    split at h
    · rename_i hlt
      have hlt' : m < n := by simpa using hlt
      split at h
      · rename_i hl
        have hl' := lim63_lt hl
        cases h
        rw [natV_eq]
        simp only [Int.ofNat_eq_natCast, Nat.sub_eq]
        exact ⟨by congr 1; omega, by omega, by omega⟩
      · cases h
    · rename_i hlt
      have hlt' := blt_no hlt
      split at h
      · rename_i hl
        have hl' := lim63_lt hl
        cases h
        rw [negV_eq]
        simp only [Int.ofNat_eq_natCast, Nat.sub_eq]
        exact ⟨by congr 1; omega, by omega, by omega⟩
      · cases h
  · cases h
theorem subA_ok {a b : Int} {v : Value} (h : subA a b = some v) : v = .int .i64 (a - b) ∧ -9223372036854775808 ≤ a - b ∧ a - b < 9223372036854775808 := by
  unfold subA at h
  split at h
  · have := addA_ok h
    simpa using this
  · rename_i n
    have := addA_ok h
    have e : a + Int.negSucc n = a - (Int.ofNat (n + 1)) := by simp only [Int.ofNat_eq_natCast]; omega
    rw [e] at this
    exact this
  · rename_i n
    have := addA_ok h
    have e : a + Int.ofNat (Nat.succ n) = a - Int.negSucc n := by simp only [Int.ofNat_eq_natCast]; omega
    rw [e] at this
    exact this
theorem ltA_eq (a b : Int) : ltA a b = decide (a < b) := by
  unfold ltA
  split
  · rename_i m n
    have : Nat.blt m n = decide (m < n) := by
      cases h : Nat.blt m n with
      | true => have : m < n := by simpa using h
                simp [this]
      | false => simp [blt_no h]
    rw [this]
    by_cases e : m < n
    · have e2 : Int.ofNat m < Int.ofNat n := by simp only [Int.ofNat_eq_natCast]; omega
      simp only [e, e2]
    · have e2 : ¬ Int.ofNat m < Int.ofNat n := by simp only [Int.ofNat_eq_natCast]; omega
      simp only [e, e2]
  · rename_i m n
    have e2 : ¬ Int.ofNat m < Int.negSucc n := by simp only [Int.ofNat_eq_natCast]; omega
    simp only [e2, decide_false]
  · rename_i m n
    have e2 : Int.negSucc m < Int.ofNat n := by simp only [Int.ofNat_eq_natCast]; omega
    simp only [e2, decide_true]
  · rename_i m n
    have : Nat.blt n m = decide (n < m) := by
      cases h : Nat.blt n m with
      | true => have : n < m := by simpa using h
                simp [this]
      | false => simp [blt_no h]
    rw [this]
    by_cases e : n < m
    · have e2 : Int.negSucc m < Int.negSucc n := by omega
      simp only [e, e2]
    · have e2 : ¬ Int.negSucc m < Int.negSucc n := by omega
      simp only [e, e2]
theorem le_lt (a b : Int) : decide (a ≤ b) = !decide (b < a) := by
  by_cases h : a ≤ b
  · simp [h, Int.not_lt.2 h]
  · simp [h, Int.not_le.1 h]
section
variable {P : Program}
def binRun (_P : Program) (op : BinOp) (t : Nat) (x y : Operand) (u v : Value) : Sem Value := do eqGuard op t x y u v; binOp op t u v
theorem cmpA_ok {op : BinOp} {k : IntKind} {a b : Int} {v : Value} (h : cmpA op a b = some v) (t : Nat) (x y : Operand) (w : World) : (binRun P op t x y (.int k a) (.int k b)).run P w = .ok v w ∧ ∀ s, VR s v v := by
  unfold cmpA at h
  split at h <;> first | (cases h; done) | (cases h; refine ⟨?_, fun s => .bool _⟩; simp [binRun, eqGuard, binOp, Op.intCmp, eqI_eq, ltA_eq, bne, le_lt])
theorem int64_ok {op : BinOp} {a b : Int} {v : Value} (h : int64 op a b = some v) (t : Nat) (x y : Operand) (w : World) : (binRun P op t x y (.int .i64 a) (.int .i64 b)).run P w = .ok v w ∧ ∀ s, VR s v v := by
  unfold int64 at h
  split at h
  · obtain ⟨rfl, h1, h2⟩ := addA_ok h
    refine ⟨?_, fun s => .int _ _⟩
    simp [binRun, eqGuard, binOp, Op.intArith, wrap_i64 _ h1 h2]
  · obtain ⟨rfl, h1, h2⟩ := subA_ok h
    refine ⟨?_, fun s => .int _ _⟩
    simp [binRun, eqGuard, binOp, Op.intArith, wrap_i64 _ h1 h2]
  · unfold mulA at h
    split at h
    · rename_i m n
      split at h
      · rename_i hl
        have hl' := lim63_lt hl
        cases h
        rw [natV_eq]
        refine ⟨?_, fun s => .int _ _⟩
        have e : (Int.ofNat m * Int.ofNat n) = ((Nat.mul m n : Nat) : Int) := by simp
        have := wrap_i64 ((Nat.mul m n : Nat) : Int) (by omega) (by omega)
        simp only [binRun, eqGuard, binOp, Op.intArith, e, this]
        simp
      · cases h
    · cases h
  · unfold divA at h
    split at h
    · rename_i m n
      split at h
      · rename_i hl
        have hl' := lim63_lt hl
        cases h
        rw [natV_eq]
        refine ⟨?_, fun s => .int _ _⟩
        obtain ⟨q, hq⟩ : ∃ q, q = Nat.div m (Nat.succ n) := ⟨_, rfl⟩
        have e : (Int.tdiv (Int.ofNat m) (Int.ofNat (n + 1))) = (q : Int) := by rw [hq]; rfl
        have hle : q ≤ m := by rw [hq]; exact Nat.div_le_self _ _
        have hw := wrap_i64 (q : Int) (by omega) (by omega)
        have hne : ¬ (Int.ofNat (n + 1) = 0) := by simp only [Int.ofNat_eq_natCast]; omega
        rw [← hq]
        show (Op.intDiv .quo .i64 (Int.ofNat m) (Int.ofNat (n + 1))).run P w = _
        unfold Op.intDiv
        rw [if_neg hne]
        simp only [e, hw]
        rfl
      · cases h
    · cases h
  · unfold remA at h
    split at h
    · rename_i m n
      split at h
      · rename_i hl
        cases h
        rw [natV_eq]
        refine ⟨?_, fun s => .int _ _⟩
        have hne : ¬ (Int.ofNat (n + 1) = 0) := by simp only [Int.ofNat_eq_natCast]; omega
        show (Op.intDiv .rem .i64 (Int.ofNat m) (Int.ofNat (n + 1))).run P w = _
        unfold Op.intDiv
        rw [if_neg hne]
        rfl
      · cases h
    · cases h
  all_goals first | (cases h; done) | skip
  all_goals
    cases h
    refine ⟨?_, fun s => .bool _⟩
    simp [binRun, eqGuard, binOp, Op.intCmp, eqI_eq, ltA_eq, bne, le_lt]
end
end

section
open Go.RowKit

section
variable {P : Program} {T : TyT} {s : Sg} {ρ ρ' : Operand → Value} {o : Oper} {C : Foot} {w0 w : World} {H : Hp}
theorem frozen_row {b o : Nat} {c' : Array Value} {e : Nat} (h : w.heap[b]? = some (.cells c' e (0, 0))) : w.frozen? ⟨b, o, none⟩ = false := by simp [World.frozen?, h]
theorem shape_row {b : Nat} {c' : Array Value} {e : Nat} (h : w.heap[b]? = some (.cells c' e (0, 0))) : w.shape? b = some (e, c'.size) := by simp [World.shape?, h]
theorem sameAddr_far {a b p q : Nat} {c' d' : Array Value} {e f : Nat} (h1 : w.heap[a]? = some (.cells c' e (0, 0))) (h2 : w.heap[b]? = some (.cells d' f (0, 0))) (hn : a ≠ b) (_h3 : c'.size ≠ 0) (_h4 : d'.size ≠ 0) :
    (sameAddr ⟨a, p, none⟩ ⟨b, q, none⟩).run P w = .ok false w := by
  have e1 : (a == b) = false := by simpa using hn
  have f1 := frozen_row (o := p) h1
  have f2 := frozen_row (o := q) h2
  have g1 : w.frozen? { block := a, off := c'.size } = false := frozen_row h1
  have g2 : w.frozen? { block := b, off := d'.size } = false := frozen_row h2
  simp [sameAddr, e1, f1, f2, noView, viewAt, shape_row h1, shape_row h2, mayBeOne, stringish, g1, g2]
theorem ptrEq_ok (hT : TOk P T) (r : Rel C w0 s H w) {t : Nat} {a b : Addr} {x' y' : Value} (hx : VR s (.pointer (some a)) x') (hy : VR s (.pointer (some b)) y') {c : Bool} (h : ptrEq T H t a b = some c) (d : Nat) :
    (Op.equalIn (d + 1) t x' y').run P w = .ok c w := by
  unfold ptrEq at h
  split at h
  · cases h
  · rename_i ti hti
    have hu := hT.und hti
    split at h
    · rename_i e hd
      rw [hd] at hu
      split at h
      · cases h
      · rename_i te hte
        split at h
        · rename_i L o M p h0
          have h0' : te.size ≠ 0 := by intro e; rw [e] at h0; simp at h0
          cases hx with
          | ptr _ _ i hi =>
            cases hy with
            | ptr _ _ j hj =>
              simp only [Op.equalIn, Sem.run_bind, run_underlying hu, Result.andThen_ok, hT.rsize hte]
              simp only [ne_eq, h0', not_false_eq_true, if_true]
              split at h
              · rename_i hLM
                have : L = M := by simpa using hLM
                subst this
                rw [hi] at hj; cases hj
                cases h
                simp only [sameAddr, beq_self_eq_true, if_true]
                rw [beq_dec]
                by_cases e2 : o = p
                · subst e2; simp
                · have : ¬ (({ block := i.bl, off := o, spot := none } : Addr) = { block := i.bl, off := p, spot := none }) := by simp
                  simp [e2]
              · rename_i hLM
                have hne : L ≠ M := by intro e; subst e; simp at hLM
                split at h
                · rename_i q1 q2
                  cases h
                  obtain ⟨a1, a2, a3, a4, a5, _⟩ := r.row hi q1
                  obtain ⟨b1, b2, b3, b4, b5, _⟩ := r.row hj q2
                  refine sameAddr_far a3 b3 (fun e => hne (r.inj L M i j _ _ hi hj q1 q2 e)) ?_ ?_
                  · have h5 := a5.1; simp only [List.length_cons] at h5; simp only [List.size_toArray, List.length_append, ne_eq]; omega
                  · have h5 := b5.1; simp only [List.length_cons] at h5; simp only [List.size_toArray, List.length_append, ne_eq]; omega
                · cases h
        · cases h
    · cases h
theorem tkI_ok (hT : TOk P T) {t : Nat} {k : TK} (h : tkI T t = some k) : ∃ d, P.underlying t = some d ∧ (match k with | .ptr => ∃ e, d = .pointer e | .slc => ∃ e, d = .slice e | .mp => ∃ a b, d = .map a b | .fn => ∃ a b c, d = .func a b c) := by
  unfold tkI at h
  split at h
  · cases h
  · rename_i ti hti
    refine ⟨ti.d, hT.und hti, ?_⟩
    split at h <;> cases h <;> rename_i hd <;> simp [hd]
theorem eqA_ok (hT : TOk P T) (r : Rel C w0 s H w) {t : Nat} {x y x' y' : Value} (hx : VR s x x') (hy : VR s y y') {b : Bool} (h : eqA T H t x y = some b) (d : Nat) :
    (Op.equalIn (d + 1) t x' y').run P w = .ok b w := by
  unfold eqA at h
  split at h
  · rename_i hk
    obtain ⟨dd, hu, e, rfl⟩ := tkI_ok hT hk
    split at h
    · cases h
      cases hx
      cases hy <;> simp [Op.equalIn, run_underlying hu]
    · cases h
      cases hy
      cases hx
      simp [Op.equalIn, run_underlying hu]
    · exact ptrEq_ok hT r hx hy h d
    · cases h
  · rename_i hk
    obtain ⟨dd, hu, e, rfl⟩ := tkI_ok hT hk
    split at h
    · cases h
      cases hx
      cases hy <;> simp [Op.equalIn, run_underlying hu]
    · cases h
      cases hy
      cases hx <;> simp [Op.equalIn, run_underlying hu]
    · cases h
  · rename_i hk
    obtain ⟨dd, hu, e, e2, rfl⟩ := tkI_ok hT hk
    split at h
    · cases h
      cases hx
      cases hy <;> simp [Op.equalIn, run_underlying hu]
    · cases h
      cases hy
      cases hx
      simp [Op.equalIn, run_underlying hu]
    · cases h
  · rename_i hk
    obtain ⟨dd, hu, e, e2, e3, rfl⟩ := tkI_ok hT hk
    split at h
    · cases h
      cases hx; cases hy
      simp [Op.equalIn, run_underlying hu]
    · cases h
      cases hx; cases hy
      simp [Op.equalIn, run_underlying hu]
    · cases h
      cases hx; cases hy
      simp [Op.equalIn, run_underlying hu]
    · cases h
  · cases h
theorem strEq_eq (a b : ByteArray) : strEq a b = (a == b) := by
  unfold strEq
  have key : (a.data.toList.map (·.toNat) = b.data.toList.map (·.toNat)) ↔ a = b := by
    constructor
    · intro h
      have : a.data.toList = b.data.toList := by
        apply List.map_inj_right (f := UInt8.toNat) (fun x y e => UInt8.toNat_inj.1 e) |>.1 h
      cases a; cases b; simp at this; rw [this]
    · rintro rfl; rfl
  have hb : (a == b) = (a.data == b.data) := by cases a; cases b; rfl
  rw [hb]
  by_cases e : a = b
  · subst e; simp
  · have : ¬ (a.data.toList.map (·.toNat) = b.data.toList.map (·.toNat)) := fun h => e (key.1 h)
    have e2 : ¬ a.data = b.data := fun h => e (by cases a; cases b; simpa using h)
    simp [e2, this]
end
end

section
open Go.RowKit

section
variable {P : Program} {T : TyT} {s : Sg} {ρ ρ' : Operand → Value} {o : Oper} {C : Foot} {w0 w : World} {H : Hp}
def isAddrV : Value → Bool
  | .pointer _ | .slice .. | .map _ | .func .. | .nilFunc => true
  | _ => false
theorem eqA_form {t : Nat} {x y x' y' : Value} (hx : VR s x x') (hy : VR s y y') {b : Bool} (h : eqA T H t x y = some b) : isAddrV x' = true ∧ isAddrV y' = true := by
  unfold eqA at h
  split at h <;> first | (cases h; done) | skip
  all_goals
    split at h <;> first | (cases h; done) | skip
    all_goals (cases hx <;> cases hy <;> simp [isAddrV])
theorem binRun_eql {t : Nat} {x y : Operand} {x' y' : Value} (hx : isAddrV x' = true) (hy : isAddrV y' = true) {b : Bool} (h : (Op.equal t x' y').run P w = .ok b w) :
    (binRun P .eql t x y x' y').run P w = .ok (.bool b) w ∧ (binRun P .neq t x y x' y').run P w = .ok (.bool (!b)) w := by
  cases x' <;> simp only [isAddrV] at hx <;> first | (cases hx; done) | skip
  all_goals (cases y' <;> simp only [isAddrV] at hy <;> first | (cases hy; done) | (constructor <;> simp [binRun, eqGuard, binOp, h]))
theorem bin_run {op : BinOp} {t yt : Nat} {x y : Operand} (ho : o.op = .binOp op t x y yt) {v : Value} (h : (binRun P op t x y (ρ' x) (ρ' y)).run P w = .ok v w) : (execOp ρ' o).run P w = .ok (.value v) w := by
  unfold execOp
  rw [ho]
  show ((binRun P op t x y (ρ' x) (ρ' y)) >>= fun a => pure (Next.value a)).run P w = _
  rw [Sem.run_bind, h]
  rfl
theorem oBin_ok (hT : TOk P T) (r : Rel C w0 s H w) (hρ : ∀ x ∈ o.op.operands, VR s (ρ x) (ρ' x)) {op : BinOp} {t yt : Nat} {x y : Operand} (ho : o.op = .binOp op t x y yt) {v : Value} (h : oBin P T H ρ o op t (ρ x) (ρ y) = some v) :
    ∃ v', (execOp ρ' o).run P w = .ok (.value v') w ∧ VR s v v' := by
  have quiet : quietA P ρ o = some v → ∃ v', (execOp ρ' o).run P w = .ok (.value v') w ∧ VR s v v' := fun hq => ⟨v, (quietA_ok (by rw [ho]; simp) hρ hq).1 w, (quietA_ok (by rw [ho]; simp) hρ hq).2⟩
  have hx := hρ x (by rw [ho]; simp [Op.operands])
  have hy := hρ y (by rw [ho]; simp [Op.operands])
  have orq : ∀ z : Option Value, orQ P ρ o z = some v → (z = some v → ∃ v', (execOp ρ' o).run P w = .ok (.value v') w ∧ VR s v v') → ∃ v', (execOp ρ' o).run P w = .ok (.value v') w ∧ VR s v v' := by
    intro z hz k
    cases z with
    | none => exact quiet hz
    | some u => exact k hz
  unfold oBin at h
  split at h
  · rename_i a ha
    split at h
    · rename_i b hb
      refine orq _ h fun e => ?_
      have h1 := asI64_rel ha hx
      have h2 := asI64_rel hb hy
      have := int64_ok (P := P) e t x y w
      exact ⟨v, bin_run ho (by rw [h1, h2]; exact this.1), this.2 s⟩
    · exact quiet h
  · unfold oBin2 at h
    split at h
    · rename_i a ha
      split at h
      · rename_i b hb
        refine orq _ h fun e => ?_
        have h1 := asStr_rel ha hx
        have h2 := asStr_rel hb hy
        unfold eqS at e
        split at e
        · cases e
          refine ⟨_, bin_run ho (v := .bool (strEq a b)) ?_, .bool _⟩
          rw [h1, h2, strEq_eq, beq_toListBytes]
          simp [binRun, eqGuard, binOp, Op.stringOp]
        · cases e
          refine ⟨_, bin_run ho (v := .bool (!strEq a b)) ?_, .bool _⟩
          rw [h1, h2, strEq_eq, beq_toListBytes]
          simp [binRun, eqGuard, binOp, Op.stringOp]
        · cases e
      · cases h
    · split at h
      · rename_i a ha
        split at h
        · rename_i b hb
          refine orq _ h fun e => ?_
          have h1 := asU8_rel ha hx
          have h2 := asU8_rel hb hy
          have := cmpA_ok (P := P) (k := .u8) e t x y w
          exact ⟨v, bin_run ho (by rw [h1, h2]; exact this.1), this.2 s⟩
        · exact quiet h
      · unfold oBin3 at h
        split at h
        · exact quiet h
        · split at h
          · split at h
            · rename_i b hb
              cases h
              have hf := eqA_form hx hy hb
              have he : (Op.equal t (ρ' x) (ρ' y)).run P w = .ok b w := eqA_ok hT r hx hy hb 9999
              exact ⟨_, bin_run ho (binRun_eql hf.1 hf.2 he).1, .bool _⟩
            · cases h
          · split at h
            · rename_i b hb
              cases h
              have hf := eqA_form hx hy hb
              have he : (Op.equal t (ρ' x) (ρ' y)).run P w = .ok b w := eqA_ok hT r hx hy hb 9999
              exact ⟨_, bin_run ho (binRun_eql hf.1 hf.2 he).2, .bool _⟩
            · cases h
          · cases h
end
end
end Go.Proofs.YtnglahcjemgcaaaGreatDoor
