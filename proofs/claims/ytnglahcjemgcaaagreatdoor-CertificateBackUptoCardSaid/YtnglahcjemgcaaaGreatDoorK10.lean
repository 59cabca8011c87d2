/- A run with known data: operations that read memory, all of them. No condition. A run with known data: operations that make blocks. No condition. A run with known data: operations that turn blocks. No condition. A run with known data: append. No condition. -/
import Derived.Test.YtnglahcjemgcaaaGreatDoorK09
namespace Go.Proofs.YtnglahcjemgcaaaGreatDoor
section
open Go.RowKit

section
variable {P : Program} {T : TyT} {s : Sg} {ρ ρ' : Operand → Value} {o : Oper} {C : Foot} {w0 w : World} {H : Hp}
theorem mapI_ok (hT : TOk P T) {t kt e : Nat} {kd : TypeDesc} {z : Value} (h : mapI T t = some (kt, kd, e, z)) : P.underlying t = some (.map kt e) ∧ P.underlying kt = some kd ∧ (∀ w, (zeroValue e).run P w = .ok z w) ∧ closedV z = true := by
  unfold mapI at h
  split at h
  · rename_i ti hti
    split at h
    · rename_i k e' hd
      split at h
      · rename_i tk te hk he
        split at h
        · rename_i z' hz
          cases h
          have hu := hT.und hti
          rw [hd] at hu
          unfold zeroA at hz
          split at hz
          · rename_i hc
            cases hz
            exact ⟨hu, hT.und hk, fun w => hT.rzv he w, hc⟩
          · cases hz
        · cases h
      · cases h
    · cases h
  · cases h
theorem mapA_rel (r : Rel C w0 s H w) {m m' : Value} (hm : VR s m m') {l : List (Value × Value × Nat)} (h : mapA H m = some l) :
    ∃ es : Array MapEntry, ((m' = .map none ∧ es = #[]) ∨ ∃ b clk, m' = .map (some b) ∧ w.heap[b]? = some (.map es clk)) ∧ es.size = l.length ∧ es.toList.map (·.key) = l.map (·.1) ∧
      ∀ (k : Nat) kv e, l[k]? = some kv → es[k]? = some e → VR s kv.2.1 e.val := by
  unfold mapA at h
  split at h
  · cases h
    cases hm
    exact ⟨#[], .inl ⟨rfl, rfl⟩, rfl, rfl, by simp⟩
  · rename_i L
    split at h
    · rename_i m2 clk hH
      cases h
      cases hm with
      | map _ i hi =>
        obtain ⟨es', h1, h2, h3, h4⟩ := map_row r hi hH
        exact ⟨es', .inr ⟨i.bl, clk, rfl, h1⟩, h2, h3, fun k kv e a b => (h4 k kv e a b).2.2.2⟩
    · cases h
  · cases h
theorem oLookup_ok (hT : TOk P T) (r : Rel C w0 s H w) {t : Nat} {m k m' k' : Value} {ok : Bool} (hm : VR s m m') (hk : VR s k k') {v : Value} (h : oLookup P T H t m k ok = some v) :
    ∃ v', (Instr.lookup t m' k' ok).run P w = .ok v' w ∧ VR s v v' := by
  unfold oLookup at h
  split at h
  · rename_i kt kd e z l h1 h2 h3
    obtain ⟨u1, u2, u3, u4⟩ := mapI_ok hT h1
    have hkk := VR.eqV h3 hk
    subst hkk
    obtain ⟨es, e1, e2, e3, e4⟩ := mapA_rel r hm h2
    split at h
    · rename_i c res q1 q2
      cases h
      have hemp : l.isEmpty = es.isEmpty := by
        cases l with
        | nil => have : es = #[] := Array.eq_empty_of_size_eq_zero (by simpa using e2)
                 subst this; rfl
        | cons a b => cases h9 : es.isEmpty
                      · rfl
                      · have : es = #[] := by simpa using h9
                        subst this; simp at e2
      rw [hemp] at q1
      have hck := qv_run q1 w
      obtain ⟨q, hq, hkr⟩ := keyAt_ok u2 w e3 q2
      have key : ∃ v', (do
          let (v, ok2) ← match q with
            | some (_, v) => (pure (v, true) : Sem (Value × Bool))
            | none => do pure (← zeroValue e, false)
          pure (if ok = true then Value.tuple #[v, .bool ok2] else v) : Sem Value).run P w = .ok v' w ∧ VR s (lookV ok z res) v' := by
        unfold KR at hkr
        split at hkr
        · refine ⟨lookV ok z none, ?_, ?_⟩
          · cases ok <;> simp [u3 w, lookV]
          · have hz := VR.closedV (s := s) u4
            cases ok
            · exact hz
            · exact VR.tupL (VL.cons hz (VL.cons (.bool _) VL.nil))
        · rename_i j en j' val
          obtain ⟨rfl, _, g2, x, g3, rfl⟩ := hkr
          have hv := e4 _ en x g2 (by simpa using g3)
          refine ⟨lookV ok z (some (j', en.1, x.val, 0)), ?_, ?_⟩
          · cases ok <;> simp [lookV]
          · cases ok
            · exact hv
            · exact VR.tupL (VL.cons hv (VL.cons (.bool _) VL.nil))
        · cases hkr
      obtain ⟨v', k1, k2⟩ := key
      refine ⟨v', ?_, k2⟩
      unfold Instr.lookup
      rw [Sem.run_bind, run_underlying u1]
      rcases e1 with ⟨rfl, rfl⟩ | ⟨b, clk, rfl, hb⟩
      · simp only [Result.andThen_ok, Sem.run_bind, Sem.run_pure, hck, hq]
        exact k1
      · have hg : (getObj b).run P w = .ok (.map es clk) w := by simp [getObj, Sem.run, hb]
        simp only [Result.andThen_ok, Sem.run_bind, Sem.run_pure, hg, hck, hq]
        exact k1
    · cases h
  · cases h
theorem builtin_run {c : Call} {b : Builtin} (ho : o.op = .call c) (hc : c.callee = .builtin b) : ∃ consts, execOp ρ' o = builtin b c.argTypes o.type consts (c.args.map ρ') := by
  refine ⟨c.args.map fun | .const _ => true | _ => false, ?_⟩
  unfold execOp resolve
  rw [ho]
  simp only [hc]
  rfl
theorem args_rel {c : Call} {b : Builtin} (ho : o.op = .call c) (hc : c.callee = .builtin b) (hρ : ∀ x ∈ o.op.operands, VR s (ρ x) (ρ' x)) : VL s (c.args.toList.map ρ) (c.args.map ρ').toList := by
  have := vlmap (s := s) (ρ := ρ) (ρ' := ρ') (l := c.args.toList) (fun x hx => hρ x (by rw [ho]; simp [Op.operands, Call.operands, hc]; simpa using hx))
  simpa using this
theorem arr1 {a : Array Value} {l : List Value} (h : VL s l a.toList) {x : Value} (e : l = [x]) : ∃ x', a = #[x'] ∧ VR s x x' := by
  subst e
  have h1 := h.1
  obtain ⟨l'⟩ := a
  cases l' with
  | nil => simp at h1
  | cons y r => cases r with
    | nil => exact ⟨y, rfl, h.head⟩
    | cons _ _ => simp at h1
theorem arr2 {a : Array Value} {l : List Value} (h : VL s l a.toList) {x y : Value} (e : l = [x, y]) : ∃ x' y', a = #[x', y'] ∧ VR s x x' ∧ VR s y y' := by
  subst e
  have h1 := h.1
  obtain ⟨l'⟩ := a
  cases l' with
  | nil => simp at h1
  | cons u r => cases r with
    | nil => simp at h1
    | cons v q => cases q with
      | nil => exact ⟨u, v, rfl, h.head, h.tail.head⟩
      | cons _ _ => simp at h1
theorem oLen_ok (hT : TOk P T) (r : Rel C w0 s H w) (hρ : ∀ x ∈ o.op.operands, VR s (ρ x) (ρ' x)) {c : Call} (ho : o.op = .call c) (hc : c.callee = .builtin .len) {v : Value} (h : oLen P T H ρ o c.argTypes.toList (c.args.toList.map ρ) = some v) :
    ∃ v', (execOp ρ' o).run P w = .ok (.value v') w ∧ VR s v v' := by
  have quiet : quietA P ρ o = some v → ∃ v', (execOp ρ' o).run P w = .ok (.value v') w ∧ VR s v v' := fun hq => ⟨v, (quietA_ok (by rw [ho]; simp) hρ hq).1 w, (quietA_ok (by rw [ho]; simp) hρ hq).2⟩
  obtain ⟨cs, hb⟩ := builtin_run (o := o) (ρ' := ρ') ho hc
  have ha := args_rel ho hc hρ
  have hat : ∀ t, c.argTypes.toList = [t] → c.argTypes = #[t] := fun t e => by apply Array.ext'; simpa using e
  have fin : ∀ (t : Nat) (x' : Value), c.argTypes = #[t] → c.args.map ρ' = #[x'] → ∀ u, (Builtin.len_ #[t] o.type #[x']).run P w = .ok u w → (execOp ρ' o).run P w = .ok (.value u) w := by
    intro t x' e1 e2 u hu
    rw [hb, e1, e2]
    simp only [builtin, Sem.run_bind, hu]
    rfl
  unfold oLen at h
  split at h
  · rename_i t a n cc e1 e2
    obtain ⟨x', q1, q2⟩ := arr1 ha e2
    split at h
    · rename_i z hz
      obtain ⟨u1, _⟩ := slcI_ok hT (e := z.1) (te := z.2) hz
      cases h
      have : ∃ a' c', x' = .slice a' n c' := by cases q2 <;> exact ⟨_, _, rfl⟩
      obtain ⟨a', c', rfl⟩ := this
      refine ⟨natV n, fin t _ (hat t e1) q1 _ ?_, by rw [natV_eq]; exact .int _ _⟩
      rw [natV_eq]
      simp [Builtin.len_, run_underlying u1, goInt]
    · cases h
  · rename_i t m e1 e2
    obtain ⟨x', q1, q2⟩ := arr1 ha e2
    split at h
    · rename_i l z hl hz
      obtain ⟨u1, _⟩ := mapI_ok hT (kt := z.1) (kd := z.2.1) (e := z.2.2.1) (z := z.2.2.2) hz
      cases h
      obtain ⟨es, g1, g2, _⟩ := mapA_rel r q2 hl
      refine ⟨_, fin t _ (hat t e1) q1 _ ?_, .int _ _⟩
      rcases g1 with ⟨rfl, rfl⟩ | ⟨b, clk, rfl, hbk⟩
      · simp at g2
        have hl0 : l = [] := List.eq_nil_of_length_eq_zero g2.symm
        subst hl0
        simp [Builtin.len_, run_underlying u1, goInt]
      · simp [Builtin.len_, run_underlying u1, goInt, getObj, Sem.run, hbk, g2]
    · cases h
  · rename_i t str e1 e2
    obtain ⟨x', q1, q2⟩ := arr1 ha e2
    split at h
    · rename_i hst
      cases h
      unfold strTy at hst
      split at hst
      · rename_i ti hti
        split at hst
        · rename_i hd
          cases q2
          refine ⟨_, fin t _ (hat t e1) q1 _ ?_, by rw [natV_eq]; exact .int _ _⟩
          simp [Builtin.len_, hT.rund hti, hd, goInt]
          try rfl
        · cases hst
      · cases hst
    · cases h
  · exact quiet h
theorem mmA_ok {mx : Bool} {l : List Value} {v : Value} (h : mmA mx l = some v) : ∃ a b : Int, l = [.int .i64 a, .int .i64 b] ∧ v = .int .i64 (bif mx then (if b > a then b else a) else (if b < a then b else a)) := by
  unfold mmA at h
  split at h
  · rename_i x y
    split at h
    · rename_i a ha
      split at h
      · rename_i b hb
        rw [asI64_eq ha, asI64_eq hb]
        refine ⟨a, b, rfl, ?_⟩
        split at h <;> rename_i e <;> rw [ltA_eq] at e <;> cases h <;> simp at e <;> simp only [cond_true, cond_false] <;> congr 1
        · rw [if_pos (by omega)]
        · by_cases g : b > a
          · omega
          · rw [if_neg g]
        · by_cases g : b < a
          · omega
          · rw [if_neg g]
        · by_cases g : b < a
          · rw [if_pos g]
          · rw [if_neg g]; omega
      · cases h
    · cases h
  · cases h
theorem aop1_ok (hT : TOk P T) (r : Rel C w0 s H w) (hρ : ∀ x ∈ o.op.operands, VR s (ρ x) (ρ' x)) {v : Value} (h : aop1 P T H ρ o = some v) :
    ∃ v', (execOp ρ' o).run P w = .ok (.value v') w ∧ VR s v v' := by
  have quiet : (∀ cs b, o.op ≠ .select cs b) → quietA P ρ o = some v → ∃ v', (execOp ρ' o).run P w = .ok (.value v') w ∧ VR s v v' := fun hs hq => ⟨v, (quietA_ok hs hρ hq).1 w, (quietA_ok hs hρ hq).2⟩
  unfold aop1 at h
  cases ho : o.op <;> rw [ho] at h <;> simp only at h <;> first | (cases h; done) | skip
  case binOp op t x y yt => exact oBin_ok hT r hρ ho h
  case load t a =>
    have ha := hρ a (by rw [ho]; simp [Op.operands])
    unfold oLoad at h
    split at h
    · rename_i p hp
      obtain ⟨i, hi, ha'⟩ := asPtr_rel hp ha
      split at h
      · rename_i cc e2 es hH
        split at h
        · rename_i ti hti
          obtain ⟨v', q1, q2⟩ := load_ok hT r hti hi hH h
          refine ⟨v', ?_, q2⟩
          unfold execOp
          rw [ho]
          simp [ha', Instr.loadAt, Instr.sureAddr, q1]
        · cases h
      · cases h
    · cases h
  case lookup t m k ok =>
    obtain ⟨v', q1, q2⟩ := oLookup_ok hT r (hρ m (by rw [ho]; simp [Op.operands])) (hρ k (by rw [ho]; simp [Op.operands])) h
    refine ⟨v', ?_, q2⟩
    unfold execOp
    rw [ho]
    simp [q1]
  case call c =>
    unfold oCall1 at h
    have mm : ∀ (mx : Bool) (b : Builtin), c.callee = .builtin b → (∀ consts a b', builtin b c.argTypes o.type consts #[.int .i64 a, .int .i64 b'] = (do pure (Next.value (← (if mx then Builtin.max_ else Builtin.min_) c.argTypes o.type #[.int .i64 a, .int .i64 b'])))) →
        orQ P ρ o (mmA mx (c.args.toList.map ρ)) = some v → ∃ v', (execOp ρ' o).run P w = .ok (.value v') w ∧ VR s v v' := by
      intro mx b hc hbb hq
      cases e : mmA mx (c.args.toList.map ρ) with
      | none => rw [e] at hq; exact quiet (by rw [ho]; simp) hq
      | some u =>
        rw [e] at hq
        cases hq
        obtain ⟨x, y, e1, rfl⟩ := mmA_ok e
        obtain ⟨cs, hb⟩ := builtin_run (o := o) (ρ' := ρ') ho hc
        obtain ⟨x', y', q1, q2, q3⟩ := arr2 (args_rel ho hc hρ) e1
        cases q2; cases q3
        refine ⟨_, ?_, .int _ _⟩
        rw [hb, q1, hbb]
        cases mx <;> simp [Builtin.min_, Builtin.max_, Builtin.min2, Builtin.max2]
    split at h
    · rename_i hc; exact oLen_ok hT r hρ ho hc h
    · rename_i hc; exact mm false .min hc (fun _ _ _ => rfl) h
    · rename_i hc; exact mm true .max hc (fun _ _ _ => rfl) h
    · exact quiet (by rw [ho]; simp) h
  case convert a b x => exact quiet (by rw [ho]; simp) h
end
end

section
open Go.RowKit

section
variable {P : Program} {T : TyT} {s : Sg} {ρ ρ' : Operand → Value} {o : Oper} {C : Foot} {w0 w : World} {H : Hp}
theorem BR.fresh {s' : Sg} {i : Info} {w' : World} {c : List Value} {c' : Array Value} {e es : Nat} (hc : VL s' c c'.toList) (h : w'.heap[i.bl]? = some (.cells c' e)) (hs : i.sz = c'.size) (he : es = i.es) (h0 : 0 < es) : BR s' i w' (.cells c e es) :=
  ⟨he, h0, c'.toList, [], by simpa using h, by simp [hs], hc⟩
theorem zeros_eq (z : Array Value) (n : Nat) (h : n = 0 ∨ 0 < z.size) : ((Array.range n).map (z[· % z.size]!)).toList = zerosL z.toList n := by
  unfold zerosL
  simp only [Array.toList_map, Array.toList_range]
  apply List.map_congr_left
  intro i hi
  have hi' : i < n := List.mem_range.1 hi
  have hz : 0 < z.size := by omega
  have hm : i % z.size < z.size := Nat.mod_lt _ hz
  simp [getElem!_pos, hm, List.getD_eq_getElem?_getD]
theorem zerosL_closed {z : List Value} (h : z.all closedS = true) (n : Nat) : VL s (zerosL z n) (zerosL z n) := by
  refine ⟨rfl, fun i x x' p q => ?_⟩
  rw [p] at q; cases q
  unfold zerosL at p
  rw [List.getElem?_map] at p
  cases e : (List.range n)[i]? with
  | none => rw [e] at p; cases p
  | some k =>
    rw [e] at p
    simp at p
    subst p
    by_cases hk : k % z.length < z.length
    · rw [List.getElem?_eq_getElem hk]
      exact VR.closedS (List.all_eq_true.1 h _ (List.getElem_mem hk))
    · rw [List.getElem?_eq_none (by omega)]
      exact .tuple _ _ rfl (by simp)
theorem zelI_ok (hT : TOk P T) {t e : Nat} {te : TI} (h : zelI T t = some (e, te)) : P.underlying t = some (.slice e) ∧ T e = some te ∧ te.zero.all closedS = true ∧ te.zero.length = te.size ∧ 0 < te.size := by
  unfold zelI at h
  split at h
  · rename_i e' te' hs
    split at h
    · rename_i hb
      cases h
      obtain ⟨h1, h2⟩ := slcI_ok hT hs
      simp only [Bool.and_eq_true, Nat.beq_eq] at hb
      exact ⟨h1, h2, hb.1.1, hb.1.2, by simpa using hb.2⟩
    · cases h
  · cases h
theorem aop2_ok (hT : TOk P T) (hρ : ∀ x ∈ o.op.operands, VR s (ρ x) (ρ' x)) {b : EBlk} {m : MK} (h : aop2 T ρ o = some (b, m)) :
    ∃ (ob : Obj) (sz es : Nat), (∀ w : World, (execOp ρ' o).run P w = .ok (.value (m.at w.heap.size)) (w.alloc ob)) ∧ (∀ (s' : Sg) (i : Info) (w' : World), Sg.le s s' → w'.heap[i.bl]? = some ob → i.sz = sz → i.es = es → BR s' i w' b) ∧
      (∀ n c, m = .s n c → c < FULL) := by
  unfold aop2 at h
  cases ho : o.op <;> rw [ho] at h <;> simp only at h <;> first | (cases h; done) | skip
  case alloc t =>
    unfold oAlloc at h
    split at h
    · rename_i ti hti
      split at h
      · rename_i hz
        cases h
        obtain ⟨i, z, i1, i2, i3, i4, i5, i6⟩ := hT.info hti
        refine ⟨.cells z.cells t, z.cells.size, 1, fun w => ?_, fun s' i w' hs h1 h2 h3 => ?_, by simp⟩
        · unfold execOp
          rw [ho]
          simp [Instr.alloc, zeroValue, typeInfo, i1, i4, newVar, newRow, MK.at]
        · exact BR.fresh (by rw [i5]; exact VL.closed hz) h1 h2 h3.symm (by omega)
      · cases h
    · cases h
  case box t x =>
    cases h
    have hx := hρ x (by rw [ho]; simp [Op.operands])
    refine ⟨.cells (ρ' x).cells t, (ρ' x).cells.size, 1, fun w => ?_, fun s' i w' hs h1 h2 h3 => ?_, by simp⟩
    · unfold execOp
      rw [ho]
      simp [Instr.box, newVar, newRow, MK.at]
    · exact BR.fresh (hx.cells.mono hs) h1 h2 h3.symm (by omega)
  case buildSlice t n parts =>
    have hp := parts_rel (parts := parts) (s := s) (ρ := ρ) (ρ' := ρ') (fun x hx => hρ x (by rw [ho]; exact hx))
    unfold oBuildSlice at h
    split at h
    · rename_i e te hz
      obtain ⟨u1, u2, u3, u4, u5⟩ := zelI_ok hT hz
      split at h
      · rename_i hb
        have hb' : n * te.size < 16777216 := by simpa using hb
        split at h
        · rename_i c hc
          cases h
          obtain ⟨i, z, i1, i2, i3, i4, i5, i6⟩ := hT.info u2
          have hzs : z.cells.size = te.size := by rw [← u4, ← i5]; simp
          have hzv : VL s (zerosL te.zero (n * te.size)) ((Array.range (n * te.size)).map (z.cells[· % z.cells.size]!)).toList := by
            rw [zeros_eq _ _ (.inr (by omega)), i5]
            exact zerosL_closed u3 _
          obtain ⟨r', q1, q2⟩ := fill_ok (.arr te.size) (fun i => some (i * te.size, te.size)) (fun i => rfl) _ _ _ _ _ hp.1 hp.2 hzv hc
          refine ⟨.cells r' e, r'.size, 1, fun w => ?_, fun s' i w' hs h1 h2 h3 => ?_, ?_⟩
          · unfold execOp
            rw [ho]
            by_cases h0 : n * te.size = 0
            · have hn : n = 0 := by
                rcases Nat.mul_eq_zero.1 h0 with h | h
                · exact h
                · omega
              subst hn
              have e0 : ∀ f : Nat → Value, (Array.range (0 * te.size)).map f = #[] := fun f => by
                apply Array.ext'
                simp only [Array.toList_map, Array.toList_range, Nat.zero_mul, List.range_zero, List.map_nil]
              rw [e0] at q1
              have e1 : ∀ f : Nat → Value, (Array.range 0).map f = #[] := fun f => by
                apply Array.ext'
                simp only [Array.toList_map, Array.toList_range, List.range_zero, List.map_nil]
              simp only [Instr.buildSlice, Sem.run_bind, run_underlying u1, Result.andThen_ok, hT.rsize u2, Nat.zero_mul]
              rw [if_neg (show ¬ (0 > 2 ^ 24) by omega)]
              simp only [if_true, Sem.run_bind, Sem.run_pure, Result.andThen_ok, e1, q1]
              rfl
            · have hle : ¬ (n * te.size > 2 ^ 24) := by simp; omega
              have hz1 : (zeroValue e).run P w = .ok z w := by simp [zeroValue, typeInfo, i1, i4]
              simp only [Instr.buildSlice, Sem.run_bind, run_underlying u1, Result.andThen_ok, hT.rsize u2, hle, if_false, h0, Sem.run_pure, hz1, q1, newRow, run_newObj_alloc, MK.at]
          · exact BR.fresh (q2.mono hs) h1 h2 h3.symm (by omega)
          · intro a b hab
            cases hab
            have : n ≤ n * te.size := Nat.le_mul_of_pos_right _ u5
            unfold FULL
            omega
        · cases h
      · cases h
    · cases h
  case makeMap t r =>
    unfold oMakeMap at h
    split at h
    · cases h
      refine ⟨.map #[] 0, 0, 0, fun w => ?_, fun s' i w' hs h1 h2 h3 => ⟨#[], h1, rfl, by simp⟩, by simp⟩
      unfold execOp
      rw [ho]
      simp [Instr.makeMap, MK.at]
    · rename_i x
      have hx := hρ x (by rw [ho]; simp [Op.operands])
      split at h
      · rename_i z k a hz e1
        rw [e1] at hx
        generalize hx' : ρ' x = x' at hx
        cases hx
        obtain ⟨u1, _⟩ := mapI_ok hT (kt := z.1) (kd := z.2.1) (e := z.2.2.1) (z := z.2.2.2) hz
        cases h
        refine ⟨.map #[] 0, 0, 0, fun w => ?_, fun s' i w' hs h1 h2 h3 => ⟨#[], h1, rfl, by simp⟩, by simp⟩
        unfold execOp
        rw [ho]
        simp [Instr.makeMap, MK.at, hx', run_underlying u1, asInt, asIntOf]
      · cases h
  case makeSlice t l c =>
    have hl := hρ l (by rw [ho]; simp [Op.operands])
    have hc := hρ c (by rw [ho]; simp [Op.operands])
    unfold oMakeSlice at h
    split at h
    · rename_i e te nl nc hz e1 e2
      have hl' := natOf_rel e1 hl
      have hc' := natOf_rel e2 hc
      obtain ⟨u1, u2, u3, u4, u5⟩ := zelI_ok hT hz
      split at h
      · rename_i hb
        simp only [Bool.and_eq_true, Nat.ble_eq] at hb
        have b5' : nc * (te.bytes + 1) < 1000000000 := by simpa using hb.2
        cases h
        obtain ⟨i, z, i1, i2, i3, i4, i5, i6⟩ := hT.info u2
        have hzs : z.cells.size = te.size := by rw [← u4, ← i5]; simp
        have hzv : VL s (zerosL te.zero (nc * te.size)) ((Array.range (nc * te.size)).map (z.cells[· % z.cells.size]!)).toList := by
          rw [zeros_eq _ _ (.inr (by omega)), i5]
          exact zerosL_closed u3 _
        have hexp : nc * (te.bytes + 1) = nc * te.bytes + nc := by rw [Nat.mul_add, Nat.mul_one]
        have hcm : te.bytes * nc = nc * te.bytes := Nat.mul_comm _ _
        have w1 : IntKind.i64.wrap (nl : Int) = nl := wrap_i64 _ (by omega) (by omega)
        have w2 : IntKind.i64.wrap (nc : Int) = nc := wrap_i64 _ (by omega) (by omega)
        refine ⟨.cells ((Array.range (nc * te.size)).map (z.cells[· % z.cells.size]!)) e, ((Array.range (nc * te.size)).map (z.cells[· % z.cells.size]!)).size, 1, fun w => ?_, fun s' i w' hs h1 h2 h3 => ?_, ?_⟩
        rotate_left
        · exact BR.fresh (hzv.mono hs) h1 h2 h3.symm (by omega)
        · intro a b hab
          cases hab
          unfold FULL
          omega
        · unfold execOp
          rw [ho]
          have hti : (typeInfo e).run P w = .ok i w := by simp [typeInfo, i1]
          have hz1 : (zeroValue e).run P w = .ok z w := by simp [zeroValue, typeInfo, i1, i4]
          have t1 : ¬ ((te.bytes : Int) * (nc : Int) > 2 ^ 48) := by
            have : ((te.bytes : Int) * (nc : Int)) = ((te.bytes * nc : Nat) : Int) := by simp
            rw [this, hcm]; simp; omega
          have t2 : ¬ ((nl : Int) > (nc : Int)) := by omega
          have t3 : ¬ ((nl : Int) < 0) := by omega
          have t4 : ¬ ((nc : Int) < 0) := by omega
          simp only [hl', hc', Instr.makeSlice, Sem.run_bind, run_underlying u1, Result.andThen_ok, asInt, asIntOf, Sem.run_pure, hti, i3, w1, w2]
          simp only [t1, t2, t3, t4, decide_false, Bool.or_self, Bool.false_or, if_false, Bool.false_eq_true, Sem.run_bind, run_askRoom, Result.andThen_ok, hT.rsize u2, Int.toNat_natCast]
          by_cases h0 : nc * te.size = 0
          · have e1 : ∀ f : Nat → Value, (Array.range 0).map f = #[] := fun f => by
              apply Array.ext'
              simp only [Array.toList_map, Array.toList_range, List.range_zero, List.map_nil]
            simp [h0, newRow, MK.at, e1]
          · simp [h0, hz1, newRow, MK.at]
      · cases h
    · cases h
  case range t x =>
    have hx := hρ x (by rw [ho]; simp [Op.operands])
    unfold oRange at h
    split at h
    · rename_i str e1 hst
      rw [e1] at hx
      generalize hx' : ρ' x = x' at hx
      cases hx
      cases h
      unfold strTy at hst
      split at hst
      · rename_i ti hti
        split at hst
        · rename_i hd
          refine ⟨.stringIter str 0, 0, 0, fun w => ?_, fun s' i w' hs h1 h2 h3 => h1, by simp⟩
          unfold execOp
          rw [ho]
          simp [Instr.range, MK.at, hx', hT.rund hti, hd]
        · cases hst
      · cases hst
    · cases h
end
end

section
open Go.RowKit

section
variable {P : Program} {T : TyT} {s : Sg} {ρ ρ' : Operand → Value} {o : Oper} {C : Foot} {w0 w : World} {H : Hp}
theorem scal_one {v v' : Value} (h : scal v = true) (r : VR s v v') : v'.oneCell' = true := by
  cases r <;> first | rfl | (simp [scal] at h)
theorem over_app : ∀ (c vs r : List Value), vs.length ≤ c.length → over (c ++ r) vs = over c vs ++ r
  | c, [], r, _ => by simp [over]
  | [], v :: vs, r, h => by simp at h
  | a :: c, v :: vs, r, h => by simp [over, over_app c vs r (by simpa using h)]
theorem spl_app : ∀ (o : Nat) (c vs r : List Value), o + vs.length ≤ c.length → spl o (c ++ r) vs = spl o c vs ++ r
  | 0, c, vs, r, h => by unfold spl; exact over_app c vs r (by omega)
  | o + 1, [], vs, r, h => by simp at h
  | o + 1, a :: c, vs, r, h => by simp only [List.cons_append, spl]; rw [spl_app o c vs r (by simp at h; omega)]
theorem spl_len : ∀ (o : Nat) (c vs : List Value), o + vs.length ≤ c.length → (spl o c vs).length = c.length := by
  intro o c vs h
  rw [spl_eq o c vs h]
  simp; omega
theorem storeA_ok (r : Rel C w0 s H w) {L off : Nat} {i : Info} (hs : s L = some i) {vs vs' : List Value} (hv : VL s vs vs') {H' : Hp} (h : storeA H L off vs = some H') :
    ∃ w', (storeCells ⟨i.bl, off, none⟩ vs').run P w = .ok () w' ∧ Rel C w0 s H' w' := by
  unfold storeA at h
  split at h
  · rename_i c e es hH
    split at h
    · rename_i hb
      cases h
      rw [lenL_eq, lenL_eq] at hb
      simp only [Bool.and_eq_true, Nat.ble_eq] at hb
      obtain ⟨⟨b1, b2⟩, b3⟩ := hb
      obtain ⟨c', rest, r1, r2, r3, r4, r5⟩ := r.row hs hH
      have hone : ∀ v ∈ vs', v.oneCell' = true := by
        intro v hvm
        obtain ⟨k, hk⟩ := List.getElem?_of_mem hvm
        obtain ⟨x, hx, hxr⟩ := hv.get' hk
        exact scal_one (List.all_eq_true.1 b2 x (List.mem_of_getElem? hx)) hxr
      have hlen : off + vs'.length ≤ c'.length := by rw [← hv.1, ← r3.1]; exact b1
      have hst := run_storeCells_at P i.bl off e vs' 0 ⟨c' ++ rest⟩ w r1 (by simp; omega) hone
      refine ⟨_, hst, ?_⟩
      have hnew : ((⟨c' ++ rest⟩ : Array Value).toList.take (off + 0) ++ vs' ++ (⟨c' ++ rest⟩ : Array Value).toList.drop (off + 0 + vs'.length)).toArray = ⟨spl off c' vs' ++ rest⟩ := by
        rw [← spl_app off c' vs' rest hlen, spl_eq off (c' ++ rest) vs' (by simp; omega)]
        simp
      rw [hnew]
      refine r.turn hs b3 hH _ (keep_setRow r.keep _ _ (r.live L i _ hs hH).1) (fun k hk => setRow_other w _ k _ hk) ?_
      refine ⟨r4, r5, spl off c' vs', rest, setRow_heap w i.bl _ _ e _ r1, ?_, hv.spl off r3⟩
      rw [spl_len off c' vs' hlen]
      exact r2
    · cases h
  · cases h
/-- the first cells of a slice -/
theorem firstA_ok (r : Rel C w0 s H w) {x x' : Value} (hx : VR s x x') {k m size : Nat} (hk : k = m * size) {vs : List Value} (h : firstA H k x = some vs) :
    ∃ vs', VL s vs vs' ∧ vs'.length = k ∧ ∀ w2 : World, w2.heap = w.heap → (Builtin.firstCells size m x').run P w2 = .ok vs'.toArray w2 := by
  unfold firstA at h
  split at h
  · rename_i L off n c
    split at h
    · rename_i cc e es hH
      rw [takeL_eq, dropL_eq, lenL_eq] at h
      split at h
      · rename_i hl
        have hl' : ((cc.drop off).take k).length = k := by simpa using hl
        cases h
        obtain ⟨i, c', hi, rfl, _⟩ := asSlc_rel (p := ⟨L, off, n, c⟩) rfl hx
        obtain ⟨c2, rest, r1, r2, r3, _⟩ := r.row hi hH
        have hvl := (r3.drop off).take k
        refine ⟨_, hvl, by rw [← hvl.1, hl'], fun w2 hw => ?_⟩
        refine run_firstCells_some (P := P) w2 size m ⟨i.bl, off, none⟩ n c' _ (by rw [← hvl.1, hl', hk]) (fun j u hu => ?_)
        rw [Addr.add_mid]
        have r1' : w2.heap[i.bl]? = some (.cells ⟨c2 ++ rest⟩ e (0, 0)) := by rw [hw]; exact r1
        refine row_cell r1' ?_
        rw [List.getElem?_take] at hu
        split at hu
        · simpa using hu
        · cases hu
      · cases h
    · cases h
  · rename_i n c
    split at h
    · cases h
      cases hx
      refine ⟨[], VL.nil, rfl, fun w2 _ => ?_⟩
      simp [Builtin.firstCells]
    · cases h
  · split at h
    · cases h
      cases hx
      refine ⟨[], VL.nil, rfl, fun w2 _ => ?_⟩
      exact run_firstCells_some (P := P) w2 size m _ _ _ [] (by simpa using hk) (fun j u hu => by simp at hu)
    · cases h
  · cases h
theorem lenA_ok {x x' : Value} (hx : VR s x x') {k : Nat} (h : lenA x = some k) : (∃ b c, x' = .slice b k c) := by
  unfold lenA at h
  split at h
  · cases h
    cases hx <;> exact ⟨_, _, rfl⟩
  · cases h
theorem sliceOrStr_ok (hT : TOk P T) {t : Nat} (h : sliceOrStr T t = true) : ∃ e, P.underlying t = some (.slice e) := by
  unfold sliceOrStr at h
  split at h
  · rename_i ti hti
    split at h
    · rename_i e hd
      have := hT.und hti
      rw [hd] at this
      exact ⟨e, this⟩
    · cases h
  · cases h
theorem run_app_room {t1 t2 ty e : Nat} {i : TypeInfo} (u1 : P.underlying t1 = some (.slice e)) (u2 : ∃ e2, P.underlying t2 = some (.slice e2)) (hi : P.info? e = some i) {g off n c k : Nat} {b2 : Option Addr} {c2 : Nat} {news : List Value} {w' : World}
    (hf : ∀ w2 : World, w2.heap = w.heap → (Builtin.firstCells i.size k (.slice b2 k c2)).run P w2 = .ok news.toArray w2) (hroom : n + k ≤ c)
    (hst : (storeCells ⟨g, off + n * i.size, none⟩ news).run P w = .ok () w') :
    (Builtin.append_ #[t1, t2] ty #[.slice (some ⟨g, off, none⟩) n c, .slice b2 k c2]).run P w = .ok (.slice (some ⟨g, off, none⟩) (n + k) c) w' := by
  obtain ⟨e2, u2⟩ := u2
  have hf1 := hf w rfl
  simp [Builtin.append_, run_underlying u1, run_underlying u2, sizeOf, typeInfo, hi, Builtin.lenOf, hroom, hf1, Addr.add_mid, hst]
theorem run_app_nil0 {t1 t2 ty e : Nat} {i : TypeInfo} (u1 : P.underlying t1 = some (.slice e)) (u2 : ∃ e2, P.underlying t2 = some (.slice e2)) (hi : P.info? e = some i) {b2 : Option Addr} {c2 : Nat} {news : List Value}
    (hf : ∀ w2 : World, w2.heap = w.heap → (Builtin.firstCells i.size 0 (.slice b2 0 c2)).run P w2 = .ok news.toArray w2) :
    (Builtin.append_ #[t1, t2] ty #[.slice none 0 0, .slice b2 0 c2]).run P w = .ok (.slice none 0 0) w := by
  obtain ⟨e2, u2⟩ := u2
  have hf1 := hf w rfl
  simp [Builtin.append_, run_underlying u1, run_underlying u2, sizeOf, typeInfo, hi, Builtin.lenOf, hf1]
theorem run_app_grow {t1 t2 ty e : Nat} {i : TypeInfo} {z : Value} (u1 : P.underlying t1 = some (.slice e)) (u2 : ∃ e2, P.underlying t2 = some (.slice e2)) (hi : P.info? e = some i) (hz : i.zero = some z) {b : Option Addr} {n c k : Nat} {b2 : Option Addr} {c2 : Nat} {olds news : List Value}
    (hf : ∀ w2 : World, w2.heap = w.heap → (Builtin.firstCells i.size k (.slice b2 k c2)).run P w2 = .ok news.toArray w2)
    (ho : ∀ w2 : World, w2.heap = w.heap → (Builtin.firstCells i.size n (.slice b n c)).run P w2 = .ok olds.toArray w2)
    (hg : c < n + k) (h63 : n + k ≤ 9223372036854775807) (hb : 2 * (n + k) * i.bytes ≤ 281474976710656) :
    (Builtin.append_ #[t1, t2] ty #[.slice b n c, .slice b2 k c2]).run P w =
      .ok (.slice (some ⟨w.heap.size, 0, none⟩) (n + k) (grownCap w (n + k) c e)) (w.drew.alloc (.cells (olds.toArray ++ news.toArray ++ Builtin.zeroCells z.cells (grownCap w (n + k) c e - (n + k))) e)) := by
  obtain ⟨e2, u2⟩ := u2
  have hn : ¬ (n + k ≤ c) := by omega
  have h63' : ¬ (9223372036854775807 < ((n : Int) + (k : Int))) := by omega
  have hle := nextslicecap_le hg
  have h48' : ¬ (281474976710656 < Builtin.nextslicecap (n + k) c * i.bytes) := by
    have : Builtin.nextslicecap (n + k) c * i.bytes ≤ 2 * (n + k) * i.bytes := Nat.mul_le_mul_right _ hle
    omega
  have hf1 := hf w.drew rfl
  have ho1 := ho w.drew rfl
  simp [Builtin.append_, run_underlying u1, run_underlying u2, sizeOf, typeInfo, zeroValue, hi, hz, Builtin.lenOf, hn, h63', h48', Question.forced, hf1, ho1, newRow, grownCap]
  congr 2
  apply Array.ext'
  simp [List.append_assoc]
end
end

section
open Go.RowKit

section
variable {P : Program} {T : TyT} {s : Sg} {ρ ρ' : Operand → Value} {o : Oper} {C : Foot} {w0 w : World} {H : Hp}
/-- a row that goes on under a new label -/
theorem Rel.move {w' : World} (r : Rel C w0 s H w) {L lab : Nat} {i : Info} {b0 : EBlk} (hs : s L = some i) (hl : labOk L = true) (hll : labOk lab = true) (hn : s lab = none) (h0 : H.at L = some b0) (b : EBlk)
    (hk : Keeps C w0 w') (ho : ∀ k, k ≠ i.bl → w'.heap[k]? = w.heap[k]?) (hb : BR (s.put lab i) i w' b) : Rel C w0 (s.put lab i) ((H.del L).add lab b) w' := by
  have hle : Sg.le s (s.put lab i) := Sg.le_put hn
  have hat : ∀ M, ((H.del L).add lab b).at M = if M = lab then some b else if M = L then none else H.at M := by
    intro M
    rw [Hp.at_add hll, Hp.at_del hl]
  refine ⟨hk, ?_, ?_⟩
  · intro M j c hM hc
    rw [hat] at hc
    by_cases e : M = lab
    · subst e
      rw [Sg.put_same] at hM; cases hM
      rw [if_pos rfl] at hc; cases hc
      exact ⟨(r.live L i b0 hs h0).1, hb⟩
    · rw [Sg.put_far e] at hM
      rw [if_neg e] at hc
      by_cases e2 : M = L
      · rw [if_pos e2] at hc; cases hc
      · rw [if_neg e2] at hc
        obtain ⟨h1, h2⟩ := r.live M j c hM hc
        refine ⟨h1, h2.mono hle (ho _ fun e3 => e2 ?_)⟩
        exact r.inj M L j i c b0 hM hs hc h0 e3
  · intro M M' j j' c c' hM hM' hc hc' he
    rw [hat] at hc hc'
    by_cases e : M = lab <;> by_cases e' : M' = lab
    · rw [e, e']
    · subst e
      rw [Sg.put_same] at hM; cases hM
      rw [Sg.put_far e'] at hM'
      rw [if_neg e'] at hc'
      by_cases e2 : M' = L
      · rw [if_pos e2] at hc'; cases hc'
      · rw [if_neg e2] at hc'
        exact absurd (r.inj M' L j' i c' b0 hM' hs hc' h0 he.symm) e2
    · subst e'
      rw [Sg.put_same] at hM'; cases hM'
      rw [Sg.put_far e] at hM
      rw [if_neg e] at hc
      by_cases e2 : M = L
      · rw [if_pos e2] at hc; cases hc
      · rw [if_neg e2] at hc
        exact absurd (r.inj M L j i c b0 hM hs hc h0 he) e2
    · rw [Sg.put_far e] at hM; rw [Sg.put_far e'] at hM'; rw [if_neg e] at hc; rw [if_neg e'] at hc'
      by_cases e2 : M = L
      · rw [if_pos e2] at hc; cases hc
      · by_cases e3 : M' = L
        · rw [if_pos e3] at hc'; cases hc'
        · rw [if_neg e2] at hc; rw [if_neg e3] at hc'
          exact r.inj M M' j j' c c' hM hM' hc hc' he
/-- a row that was copied into a new block -/
theorem Rel.grow (r : Rel C w0 s H w) {lab : Nat} (hll : labOk lab = true) (hn : s lab = none) {e size cap : Nat} {abs con : List Value} {rest : Array Value} (hv : VL s abs con) (hsz : con.length + rest.size = cap * size) (h0 : 0 < size) (d : World) (hd : d = w.drew) :
    Rel C w0 (s.put lab ⟨w.heap.size, cap * size, size⟩) (H.add lab (.cells abs e size)) (d.alloc (.cells (con.toArray ++ rest) e)) := by
  subst hd
  have r' := r.drew
  refine r'.new hn hll _ _ _ _ ⟨rfl, h0, con, rest.toList, ?_, by simpa using hsz, hv.mono (Sg.le_put hn)⟩
  rw [heap_alloc_new]
  congr 2
  apply Array.ext'
  simp
def VOK (P : Program) (C : Foot) (w0 : World) (s : Sg) (lab : Nat) (w : World) (x : Sem Value) (v : Value) (H' : Hp) : Prop :=
  ∃ s' v' w', x.run P w = .ok v' w' ∧ VR s' v v' ∧ Rel C w0 s' H' w' ∧ Sg.le s s' ∧ ∀ L, L ≠ lab → s' L = s L
theorem VOK.same {lab : Nat} {x : Sem Value} {v v' : Value} {H' : Hp} {w' : World} (h : x.run P w = .ok v' w') (hv : VR s v v') (hr : Rel C w0 s H' w') : VOK P C w0 s lab w x v H' := ⟨s, v', w', h, hv, hr, Sg.le_refl s, fun _ _ => rfl⟩
theorem zc_size (z : Array Value) (n : Nat) : (Builtin.zeroCells z n).size = n * z.size := by simp [Builtin.zeroCells]
/-- the growing case, whatever the base -/
theorem app_grow (r : Rel C w0 s H w) {lab : Nat} (hll : labOk lab = true) (hn : s lab = none) {t1 t2 ty e : Nat} {i : TypeInfo} {z : Value} (u1 : P.underlying t1 = some (.slice e)) (u2 : ∃ e2, P.underlying t2 = some (.slice e2)) (hi : P.info? e = some i) (hz : i.zero = some z) (hzs : z.cells.size = i.size) (h0 : 0 < i.size)
    {b : Option Addr} {n c k : Nat} {b2 : Option Addr} {c2 : Nat} {olds news olds' news' : List Value}
    (hf : ∀ w2 : World, w2.heap = w.heap → (Builtin.firstCells i.size k (.slice b2 k c2)).run P w2 = .ok news'.toArray w2) (hnl : news'.length = k * i.size) (hnv : VL s news news')
    (ho : ∀ w2 : World, w2.heap = w.heap → (Builtin.firstCells i.size n (.slice b n c)).run P w2 = .ok olds'.toArray w2) (hol : olds'.length = n * i.size) (hov : VL s olds olds')
    (hg : c < n + k) (hby : (n + k + 1) * (i.bytes + 1) < 1000000000) :
    VOK P C w0 s lab w (Builtin.append_ #[t1, t2] ty #[.slice b n c, .slice b2 k c2]) (.slice (some ⟨lab, 0, none⟩) (n + k) FULL) (H.add lab (.cells (olds ++ news) e i.size)) := by
  have hsm : n + k + 1 ≤ (n + k + 1) * (i.bytes + 1) := Nat.le_mul_of_pos_right _ (by omega)
  have hb1 : (n + k) * i.bytes ≤ (n + k + 1) * (i.bytes + 1) := Nat.mul_le_mul (by omega) (by omega)
  have hge := grownCap_ge w (n + k) c e
  have hmx : grownCap w (n + k) c e ≤ maxLen := grownCap_le_maxLen w (n + k) c e (by simp only [maxLen]; omega)
  have hrun := run_app_grow (P := P) (w := w) (ty := ty) u1 u2 hi hz hf ho hg (by omega) (by rw [Nat.mul_assoc]; omega)
  have hsz : (olds' ++ news').length + (Builtin.zeroCells z.cells (grownCap w (n + k) c e - (n + k))).size = grownCap w (n + k) c e * i.size := by
    rw [zc_size, hzs, List.length_append, hol, hnl, ← Nat.add_mul, ← Nat.add_mul]
    congr 1; omega
  have hrel := r.grow hll hn (e := e) (hov.append hnv) hsz h0 w.drew rfl
  refine ⟨s.put lab ⟨w.heap.size, grownCap w (n + k) c e * i.size, i.size⟩, _, _, hrun, VR.full lab 0 (n + k) _ ⟨w.heap.size, grownCap w (n + k) c e * i.size, i.size⟩ (Sg.put_same _ _ _) hge (fun _ => ⟨rfl, hmx⟩), ?_, Sg.le_put hn, fun L hL => Sg.put_far hL⟩
  have he : olds'.toArray ++ news'.toArray ++ Builtin.zeroCells z.cells (grownCap w (n + k) c e - (n + k)) = (olds' ++ news').toArray ++ Builtin.zeroCells z.cells (grownCap w (n + k) c e - (n + k)) := by
    apply Array.ext'; simp
  rw [he]
  exact hrel
theorem appendA_ok (hT : TOk P T) (r : Rel C w0 s H w) {lab t1 t2 ty : Nat} (hn : s lab = none) {sv x sv' x' : Value} (hs : VR s sv sv') (hx : VR s x x') {a : AR} (h : appendA T H lab t1 t2 sv x = some a) :
    ∃ v H', a = .val v H' ∧ VOK P C w0 s lab w (Builtin.append_ #[t1, t2] ty #[sv', x']) v H' := by
  unfold appendA at h
  split at h
  · rename_i e te h1 h2
    obtain ⟨u1, hte⟩ := slcI_ok hT h1
    have u2 := sliceOrStr_ok hT h2
    obtain ⟨i, z, i1, i2, i3, i4, i5, i6⟩ := hT.info hte
    split at h
    · rename_i b n c k hk
      obtain ⟨b2, c2, rfl⟩ := lenA_ok hx hk
      split at h
      · cases h
      · rename_i news hnews
        split at h
        · cases h
        · rename_i hb
          simp only [Bool.and_eq_true, Nat.beq_eq] at hb
          obtain ⟨⟨⟨⟨q1, q2⟩, q3⟩, q4⟩, q5⟩ := hb
          have q1' : 0 < i.size := by rw [i2]; simpa using q1
          have q4' : (n + k + 1) * (i.bytes + 1) < 1000000000 := by rw [i3]; simpa using q4
          have hzs : z.cells.size = i.size := by rw [i2, ← q2, ← i5]; simp
          obtain ⟨news', n1, n2, n3⟩ := firstA_ok (P := P) (m := k) (size := i.size) r hx (by rw [i2]) hnews
          have n2' : news'.length = k * i.size := by rw [n2, i2]
          split at h
          · -- a nil slice
            cases hs
            simp only at h
            split at h
            · cases h
              refine ⟨_, _, rfl, VOK.same ?_ .nils r⟩
              exact run_app_nil0 u1 u2 i1 n3
            · rename_i hk0
              cases h
              refine ⟨_, _, rfl, ?_⟩
              have := app_grow (P := P) (ty := ty) r q5 hn u1 u2 i1 i4 hzs q1' (n := 0) (c := 0) (b := none) n3 n2' n1 (olds := []) (olds' := []) (fun w2 _ => by simp [Builtin.firstCells]) (by simp) VL.nil (by
                rcases Nat.eq_zero_or_pos k with e0 | e0
                · exact absurd e0 (by intro e; exact hk0 (by simpa using e))
                · omega) q4'
              rw [← i2]
              simpa using this
          · rename_i L off
            unfold appendB at h
            split at h
            · rename_i cur e' es hH
              split at h
              · cases h
              · rename_i hb2
                rw [lenL_eq] at hb2
                simp only [Bool.and_eq_true, Nat.beq_eq, Nat.ble_eq] at hb2
                obtain ⟨⟨rfl, p2⟩, p3⟩ := hb2
                obtain ⟨j, c', hj, rfl, hcc⟩ := asSlc_rel (p := ⟨L, off, n, c⟩) rfl hs
                simp only at hj hcc
                obtain ⟨cur', rest, r1, r2, r3, r4, r5⟩ := r.row hj hH
                have hcl : cur'.length = cur.length := r3.1.symm
                split at h
                · rename_i hf
                  have hf' : c = FULL := by simpa using hf
                  subst hf'
                  rcases hcc with ⟨hcc, _⟩ | ⟨_, hcn, hc0⟩
                  · exact absurd hcc (Nat.lt_irrefl _)
                  split at h
                  · rename_i hes
                    have hes' : es = te.size := by simpa using hes
                    split at h
                    · cases h
                      refine ⟨_, _, rfl, VOK.same (w' := w) (run_app_room u1 u2 i1 n3 hcn ?_) ?_ r⟩
                      · have : news' = [] := List.eq_nil_of_length_eq_zero (by rw [n2']; simp)
                        rw [this]; rfl
                      · exact .full L off n c' j hj hcn hc0
                    · unfold growA at h
                      split at h
                      · rename_i hb3
                        rw [lenL_eq] at hb3
                        simp only [Bool.and_eq_true, Nat.beq_eq] at hb3
                        obtain ⟨rfl, hfull⟩ := hb3
                        cases h
                        obtain ⟨hc1, hc2⟩ := hc0 rfl
                        rw [appL_eq]
                        refine ⟨_, _, rfl, ?_⟩
                        have hes2 : es = i.size := by rw [hes', i2]
                        by_cases hroom : n + k ≤ c'
                        · -- in place
                          have hlen2 : cur'.length = n * i.size := by rw [hcl, ← hfull, hes2]
                          have hrl : k * i.size ≤ rest.length := by
                            have h9 : cur'.length + rest.length = c' * i.size := by rw [r2, ← hc1, ← r4, hes2]
                            have h10 : (n + k) * i.size ≤ c' * i.size := Nat.mul_le_mul_right _ hroom
                            rw [Nat.add_mul] at h10
                            omega
                          have hone : ∀ v ∈ news', v.oneCell' = true := by
                            intro v hvm
                            obtain ⟨q, hq⟩ := List.getElem?_of_mem hvm
                            obtain ⟨y, hy, hyr⟩ := n1.get' hq
                            exact scal_one (List.all_eq_true.1 q3 y (List.mem_of_getElem? hy)) hyr
                          have hst := run_storeCells_at P j.bl (0 + n * i.size) e news' 0 ⟨cur' ++ rest⟩ w r1 (by simp; omega) hone
                          have hnew : ((⟨cur' ++ rest⟩ : Array Value).toList.take (0 + n * i.size + 0) ++ news' ++ (⟨cur' ++ rest⟩ : Array Value).toList.drop (0 + n * i.size + 0 + news'.length)).toArray = ⟨(cur' ++ news') ++ rest.drop news'.length⟩ := by
                            apply Array.ext'
                            simp only [Nat.zero_add, Nat.add_zero, ← hlen2]
                            simp [List.drop_append]
                          rw [hnew] at hst
                          have hrun := run_app_room (ty := ty) u1 u2 i1 n3 hroom hst
                          refine ⟨s.put lab j, _, _, hrun, .full lab 0 _ _ _ (Sg.put_same _ _ _) hroom (fun _ => ⟨hc1, hc2⟩), ?_, Sg.le_put hn, fun M hM => Sg.put_far hM⟩
                          refine r.move hj p3 q5 hn hH _ (keep_setRow r.keep _ _ (r.live L j _ hj hH).1) (fun q hq => setRow_other w _ q _ hq) ?_
                          refine ⟨r4, by omega, cur' ++ news', rest.drop news'.length, setRow_heap w j.bl _ _ e _ r1, ?_, (r3.mono (Sg.le_put hn)).append (n1.mono (Sg.le_put hn))⟩
                          simp only [List.length_append, List.length_drop]
                          omega
                        · -- into a new block
                          have hol : cur'.length = n * i.size := by rw [hcl, ← hfull, hes2]
                          have hgr := app_grow (P := P) (ty := ty) (H := H.del L) (r.sub fun M b hM _ => by
                            rw [Hp.at_del p3] at hM
                            split at hM
                            · cases hM
                            · exact hM) q5 hn u1 u2 i1 i4 hzs q1' (n := n) (c := c') (b := some ⟨j.bl, 0, none⟩) n3 n2' n1 (olds := cur) (olds' := cur') (fun w2 hw => run_firstCells_some (P := P) w2 i.size n ⟨j.bl, 0, none⟩ n c' cur' hol (fun q u hu => by
                              rw [Addr.add_mid, Nat.zero_add]
                              exact row_cell (by rw [hw]; exact r1) hu)) hol r3 (by omega) q4'
                          rw [hes2]
                          exact hgr
                      · cases h
                  · cases h
                · split at h
                  · cases h
                  · rename_i hcf
                    have hcf' : c < FULL := by simpa using hcf
                    rcases hcc with ⟨_, rfl⟩ | ⟨hcc, _⟩
                    · split at h
                      · rename_i hroom
                        have hroom' : n + k ≤ c' := by simpa using hroom
                        split at h
                        · rename_i H' hst
                          cases h
                          obtain ⟨w', s1, s2⟩ := storeA_ok (P := P) r hj n1 hst
                          refine ⟨_, _, rfl, VOK.same (run_app_room u1 u2 i1 n3 hroom' (by rw [i2]; exact s1)) (.slc L off _ _ j hj hcf') s2⟩
                        · cases h
                      · rename_i hroom
                        have hroom' : ¬ n + k ≤ c' := by
                          intro h9
                          have : Nat.ble (n + k) c' = true := by simpa using h9
                          rw [this] at hroom; cases hroom
                        cases h
                        rw [appL_eq, takeL_eq, dropL_eq]
                        refine ⟨_, _, rfl, ?_⟩
                        have hvl := (r3.drop off).take (n * te.size)
                        have hol : ((cur'.drop off).take (n * te.size)).length = n * i.size := by
                          rw [i2]; simp; omega
                        have hgr := app_grow (P := P) (ty := ty) r q5 hn u1 u2 i1 i4 hzs q1' (n := n) (c := c') (b := some ⟨j.bl, off, none⟩) n3 n2' n1 (fun w2 hw => run_firstCells_some (P := P) w2 i.size n ⟨j.bl, off, none⟩ n c' _ hol (fun q u hu => by
                          rw [Addr.add_mid]
                          refine row_cell (by rw [hw]; exact r1) ?_
                          rw [List.getElem?_take] at hu
                          split at hu
                          · simpa using hu
                          · cases hu)) hol hvl (by omega) q4'
                        rw [← i2] at hgr ⊢
                        exact hgr
                    · omega
            · cases h
          · cases h
    · cases h
  · cases h
end
end
end Go.Proofs.YtnglahcjemgcaaaGreatDoor
