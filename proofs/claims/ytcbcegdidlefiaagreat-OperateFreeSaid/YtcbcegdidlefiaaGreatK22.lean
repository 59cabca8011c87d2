/- A run with known data: regions that draw their order, the theorem. Conditions: as each theorem says. A run with known data: regions that draw their order, the theorem. Conditions: as each theorem says. -/
import Derived.Test.YtcbcegdidlefiaaGreatK21
namespace Go.Proofs.YtcbcegdidlefiaaGreat
open Go.RowKit

theorem boolEq_eq (a b : Bool) : boolEq a b = (some a == some b) := by cases a <;> cases b <;> rfl
section
variable {E : Env} {C : Foot} {w0 : World}
/-- the state within the region -/
structure DI (C : Foot) (w0 : World) (ri : RI) (V : Vs) (T0 : List Value) (base : Nat) (s0 : Sg) (HS : Nat → Hp) (NS : Nat → Nat) (d : Nat → Bool) (a : Act) (w : World) (s : Sg) (k : Nat) : Prop where
  rel : Rel C w0 s (HS k) w
  dfr : a.defers = []
  tmp : VL s (tvs ri.l V T0 d) a.tmps.toList
  le : Sg.le s0 s
  low : ∀ L, L < base → s L = s0 L
  high : ∀ L, NS k ≤ L → s L = none
  lab : ∀ i o, ri.l[i]? = some o → (kindOf o.op = 2 ∨ kindOf o.op = 3) → d i = false → s (base + i) = none
  n : base + ri.l.length ≤ NS k
  kle : k ≤ ri.eff.length
  eff : ∀ j e, ri.eff[j]? = some e → (d e = true ↔ j < k)
  down : ∀ j, d j = true → ∀ p, (ri.pm.getD j 0).testBit p = true → d p = true
  lt : ∀ j, d j = true → j < ri.l.length
theorem want_eq {ri : RI} {V Vi : Vs} {T0 : List Value} {d : Nat → Bool} {a : Act} {s : Sg} (hdo : dstOk ri.l = true) (htmp : VL s (tvs ri.l V T0 d) a.tmps.toList) (hle : Vs.le Vi V) {i : Nat} {o : Oper} (hen : envOk ri Vi i o = true)
    (hg : ∀ j x, o.guard = some (j, x) → d j = true) (ht : topDst ri.l ≤ T0.length) : Region.wanted o (yielded ri.l.toArray a.tmps) = wantI ri Vi o := by
  unfold Region.wanted wantI
  unfold envOk at hen
  simp only [Bool.and_eq_true] at hen
  cases e : o.guard with
  | none => rfl
  | some g =>
    obtain ⟨j, want⟩ := g
    have hen2 := hen.2
    rw [e] at hen2
    simp only at hen2 ⊢
    have hgj := getV_le hle hen2
    unfold yielded
    have e1 : ri.l.toArray[j]? = ri.l[j]? := by simp
    rw [e1]
    cases hj : ri.l[j]? with
    | none => simp
    | some q =>
      simp only [Option.bind_some]
      cases hq : q.dst with
      | none => simp
      | some t =>
        simp only [Option.bind_some]
        have hw := writer_of hdo hj hq
        have htl : t < T0.length := Nat.lt_of_lt_of_le (topDst_le _ q t (List.mem_of_getElem? hj) hq) ht
        have hv : nthV (tvs ri.l V T0 d) t = getV V j := by
          rw [tvs_nth _ _ _ _ htl]
          unfold tv
          rw [hw]
          simp only [hg j want e]
        have htl2 : t < a.tmps.size := by
          have := htmp.1
          rw [tvs_len] at this
          simpa [this] using htl
        obtain ⟨x, hx⟩ : ∃ x, a.tmps[t]? = some x := ⟨_, Array.getElem?_eq_getElem htl2⟩
        rw [hx]
        have hr := htmp.nthV t
        have h9 : a.tmps.toList.getD t undef = x := by
          rw [List.getD_eq_getElem?_getD]
          have : a.tmps.toList[t]? = some x := by simpa using hx
          rw [this]; rfl
        rw [hv, h9, ← hgj] at hr
        generalize getV Vi j = y at hr
        cases hr <;> first | rfl | (simp only; rw [boolEq_eq]; done) | (simp; done) | skip
theorem opnd_ok {ri : RI} {V Vi : Vs} {T0 : List Value} {d : Nat → Bool} {a : Act} {s : Sg} (htmp : VL s (tvs ri.l V T0 d) a.tmps.toList) (hle : Vs.le Vi V) {i : Nat} {o : Oper} (ho : ri.l[i]? = some o) (hen : envOk ri Vi i o = true)
    (hop : o.op.operands.toList.all operOk = true) (hro : readsOk ri.l ri.pm = true) (hdi : d i = false) (hp : ∀ p, (ri.pm.getD i 0).testBit p = true → d p = true) (hdown : ∀ j, d j = true → ∀ p, (ri.pm.getD j 0).testBit p = true → d p = true)
    (ht : topDst ri.l ≤ T0.length) : ∀ x ∈ o.op.operands, VR s (envI ri T0 Vi i x) (a.eval x) := by
  intro x hx
  have hxo := List.all_eq_true.1 hop x (by simpa using hx)
  cases x with
  | const v => exact VR.closedV hxo
  | global g => simp [operOk] at hxo
  | func f => exact .fn _ _ _ _ _ rfl rfl (by simp) (by simp)
  | tmp t =>
    have htm : t ∈ tmpsOf o := by
      unfold tmpsOf
      exact List.mem_filterMap.2 ⟨.tmp t, by simpa using hx, rfl⟩
    have hr := htmp.nthV t
    have hev : a.eval (.tmp t) = a.tmps.toList.getD t undef := by
      simp [Act.eval, Array.getD_eq_getD_getElem?, List.getD_eq_getElem?_getD]
    rw [hev]
    have hil : i < ri.l.length := (List.getElem?_eq_some_iff.1 ho).1
    have hre := List.all_eq_true.1 hro i (List.mem_range.2 hil)
    rw [ho] at hre
    simp only at hre
    have hre2 := List.all_eq_true.1 hre t htm
    unfold envOk at hen
    simp only [Bool.and_eq_true, List.all_eq_true] at hen
    show VR s (match frm ri i t with | some j => getV Vi j | none => nthV T0 t) _
    cases hf : frm ri i t with
    | some j =>
      simp only
      have hne : j ∈ needs ri i o := List.mem_filterMap.2 ⟨t, htm, hf⟩
      have hg := getV_le hle (hen.1 j hne)
      unfold frm at hf
      split at hf
      · rename_i j' hw
        split at hf
        · rename_i hb
          cases hf
          obtain ⟨q, hq, hqd⟩ := writer_some hw
          have htl : t < T0.length := Nat.lt_of_lt_of_le (topDst_le _ q t (List.mem_of_getElem? hq) hqd) ht
          have hv : nthV (tvs ri.l V T0 d) t = getV V j := by
            rw [tvs_nth _ _ _ _ htl]
            unfold tv
            rw [hw]
            simp only [hp j hb]
          rw [hv] at hr
          rw [hg]
          exact hr
        · cases hf
      · cases hf
    | none =>
      simp only
      have hv : nthV (tvs ri.l V T0 d) t = nthV T0 t := by
        by_cases htl : t < T0.length
        · rw [tvs_nth _ _ _ _ htl]
          unfold tv
          unfold frm at hf
          cases hw : writer ri.l t with
          | none => rfl
          | some j =>
            rw [hw] at hf hre2
            simp only at hf hre2
            cases hb : (ri.pm.getD i 0).testBit j with
            | true => rw [hb] at hf; cases hf
            | false =>
              rw [hb] at hre2
              simp only [Bool.false_or, Bool.or_eq_true, Nat.beq_eq] at hre2
              have hdj : d j = false := by
                cases hdj : d j with
                | false => rfl
                | true =>
                  rcases hre2 with h9 | h9
                  · have := hdown j hdj i h9
                    rw [hdi] at this; cases this
                  · subst h9; rw [hdi] at hdj; cases hdj
              simp only [hdj]
        · have htl' : T0.length ≤ t := Nat.le_of_not_lt htl
          rw [nthV_eq, nthV_eq, List.getD_eq_getElem?_getD, List.getD_eq_getElem?_getD, List.getElem?_eq_none (by rw [tvs_len]; exact htl'), List.getElem?_eq_none htl']
      rw [hv] at hr
      exact hr
theorem ups_true {d : Nat → Bool} {i j : Nat} (h : ups d i j = true) : j = i ∨ d j = true := by
  by_cases e : j = i
  · exact .inl e
  · rw [ups_far e] at h; exact .inr h
theorem ups_of {d : Nat → Bool} {i j : Nat} (h : d j = true) : ups d i j = true := by
  by_cases e : j = i
  · subst e; exact ups_same d j
  · rw [ups_far e]; exact h
/-- an operation that is none of those that do more has come up -/
theorem DI.put {ri : RI} {V : Vs} {T0 : List Value} {base : Nat} {s0 s s1 : Sg} {HS : Nat → Hp} {NS : Nat → Nat} {d : Nat → Bool} {a : Act} {w w1 : World} {k : Nat} (h : DI C w0 ri V T0 base s0 HS NS d a w s k) (hdo : dstOk ri.l = true) {i : Nat} {o : Oper} (ho : ri.l[i]? = some o)
    (hp : ∀ p, (ri.pm.getD i 0).testBit p = true → d p = true) (hle : Sg.le s s1) (hfar : ∀ L, L ≠ base + i → s1 L = s L) (hrel : Rel C w0 s1 (HS k) w1) {v' : Value} (hv : VR s1 (getV V i) v') (hne : ∀ j : Nat, ri.eff[j]? ≠ some i) :
    DI C w0 ri V T0 base s0 HS NS (ups d i) (a.put o.dst v') w1 s1 k := by
  have hil : i < ri.l.length := (List.getElem?_eq_some_iff.1 ho).1
  refine ⟨hrel, by rw [put_dfr]; exact h.dfr, ?_, Sg.le_trans h.le hle, fun L hL => (hfar L (by omega)).trans (h.low L hL), fun L hL => (hfar L (by have := h.n; omega)).trans (h.high L hL), ?_, h.n, h.kle, ?_, ?_, ?_⟩
  · rw [tvs_put hdo ho]
    exact put_ok (h.tmp.mono hle) hv o.dst
  · intro j q hq hk hdj
    have hji : j ≠ i := by rintro rfl; rw [ups_same] at hdj; cases hdj
    rw [ups_far hji] at hdj
    rw [hfar _ (by omega)]
    exact h.lab j q hq hk hdj
  · intro j e he
    have hei : e ≠ i := by rintro rfl; exact hne j he
    rw [ups_far hei]
    exact h.eff j e he
  · intro j hj p hpj
    rcases ups_true hj with rfl | hj
    · exact ups_of (hp p hpj)
    · exact ups_of (h.down j hj p hpj)
  · intro j hj
    rcases ups_true hj with rfl | hj
    · exact hil
    · exact h.lt j hj
end

section
variable {E : Env} {C : Foot} {w0 : World}
theorem invAll_of {P : Program} {ops : Array Oper} {Inv : (Nat → Bool) → Act → World → Prop} : ∀ (l : List Oper) (k : Nat),
    (∀ i o, l[i]? = some o → ∀ (d : Nat → Bool) (a : Act) (w : World), d (k + i) = false → (depsOf o).all d = true → Inv d a w → wpList P ops (lexPost false (fun _ => True) (Inv (ups d (k + i)))) [o] a w) → invAll P ops Inv k l
  | [], k, _ => trivial
  | o :: r, k, h => by
    refine ⟨fun d a w h1 h2 h3 => by have := h 0 o rfl d a w (by simpa using h1) h2 h3; simpa using this, invAll_of r (k + 1) fun i q hq d a w h1 h2 h3 => ?_⟩
    have := h (i + 1) q (by simpa using hq) d a w (by rw [show k + (i + 1) = k + 1 + i by omega]; exact h1) h2 h3
    rw [show k + (i + 1) = k + 1 + i by omega] at this
    exact this
theorem eff_kind {ops : Array Oper} {j e : Nat} (h : (rinfo ops).eff[j]? = some e) : ∃ o, (rinfo ops).l[e]? = some o ∧ kindOf o.op = 3 := by
  have hm : e ∈ (rinfo ops).eff := List.mem_of_getElem? h
  unfold rinfo at hm
  simp only [List.mem_filter] at hm
  have h2 := hm.2
  split at h2
  · rename_i o ho
    exact ⟨o, ho, Nat.eq_of_beq_eq_true h2⟩
  · cases h2
theorem eff_of {ops : Array Oper} {i : Nat} {o : Oper} (ho : (rinfo ops).l[i]? = some o) (hk : kindOf o.op = 3) : ∃ j : Nat, (rinfo ops).eff[j]? = some i := by
  apply List.getElem?_of_mem
  unfold rinfo
  simp only [List.mem_filter, List.mem_range]
  have ho' : ops.toList[i]? = some o := ho
  refine ⟨(List.getElem?_eq_some_iff.1 ho').1, ?_⟩
  rw [ho']
  simp [hk]
theorem eff_nodup (ops : Array Oper) : (rinfo ops).eff.Nodup := by
  unfold rinfo
  exact List.nodup_range.sublist List.filter_sublist
theorem evDraw_ok (hE : EOk E) {rec : Rec} (hcall : ∀ f args H n v H' n', evCall E rec f args H n = .ok v H' n' → ∀ s (args' : Array Value) w, Rel C w0 s H w → VL s args args'.toList → (∀ L, n ≤ L → s L = none) → CallOk E C w0 s n f args' w v H' n')
    {N id : Nat} (ops : Array Oper) {T : List Value} {H : Hp} {n : Nat} {T' : List Value} {H' : Hp} {n' : Nat} (h : evDraw E rec ops T H n = .nrm T' H' n') {s : Sg} {a : Act} {w : World} (hs : SR C w0 N s T H n a w)
    {Q : Exit → Act → World → Prop} (hQ : ∀ s' a' w', SR C w0 N s' T' H' n' a' w' → Up s s' n n' → Q .normal a' w') : (Code.region id ops true).wp E.P Q a w := by
  unfold evDraw at h
  split at h
  · cases h
  · rename_i hok
    simp only [Bool.and_eq_true, Nat.ble_eq] at hok
    obtain ⟨hok, htop⟩ := hok
    rw [lenL_eq] at htop
    split at h
    · rename_i V HH nn hg
      cases h
      have hokd : (rinfo ops).ok = (chainOk (rinfo ops).pm (rinfo ops).eff && readsOk (rinfo ops).l (rinfo ops).pm && dstOk (rinfo ops).l && guardOk (rinfo ops).l (rinfo ops).pm && (rinfo ops).l.all (fun o => o.op.operands.toList.all operOk) && edgesBackB (rinfo ops).l && Nat.blt (rinfo ops).l.length 100000) := rfl
      rw [hokd] at hok
      simp only [Bool.and_eq_true] at hok
      obtain ⟨⟨⟨⟨⟨⟨hch, hro⟩, hdo⟩, hgo⟩, hopr⟩, hback⟩, hlen⟩ := hok
      have hlen' : (rinfo ops).l.length < 100000 := by simpa using hlen
      have hpm : (rinfo ops).pm = masks (rinfo ops).l [] := rfl
      have hstg : (rinfo ops).stg = (rinfo ops).pm.map fun m => cntIn m (rinfo ops).eff := rfl
      have hlo : (rinfo ops).l = ops.toList := rfl
      obtain ⟨_, ⟨HS, NS, z1, z2, z3, z4, z5, z6⟩⟩ := drawGo_ok hlen' (rinfo ops).eff 0 0 [] H (n + (rinfo ops).l.length) V H' n' hg (fun i o _ _ h9 => by omega)
      have key : (Code.region id (rinfo ops).l.toArray true).wp E.P Q a w := by
        generalize hri : rinfo ops = ri at *
        have heff_kind : ∀ (j e : Nat), ri.eff[j]? = some e → ∃ o, ri.l[e]? = some o ∧ kindOf o.op = 3 := fun j e h9 => by rw [← hri] at h9 ⊢; exact eff_kind h9
        have heff_of : ∀ (i : Nat) (o : Oper), ri.l[i]? = some o → kindOf o.op = 3 → ∃ j : Nat, ri.eff[j]? = some i := fun i o h9 hk => by rw [← hri] at h9 ⊢; exact eff_of h9 hk
        have heff_nd : ri.eff.Nodup := by rw [← hri]; exact eff_nodup ops
        refine wp_region_inv (l := ri.l) (fun d a' w' => ∃ s' k, DI C w0 ri V T n s HS NS d a' w' s' k) hE.mixed hback ?_ ?_ ?_
        · refine ⟨s, 0, ⟨(hs.rel.drew).sub (fun L b hb hne => ?_), hs.dfr, by rw [tvs_none]; exact hs.tmp, Sg.le_refl s, fun _ _ => rfl, fun L hL => hs.lab L (by rw [z1] at hL; omega), fun i o _ _ _ => hs.lab _ (by omega), by rw [z1]; exact Nat.le_refl _, Nat.zero_le _, fun j e _ => by simp, fun j hj => (by cases hj), fun j hj => (by cases hj)⟩⟩
          have : (HS 0).at L = H.at L := z2 L fun i o _ _ _ e => by
            subst e
            exact hne (hs.lab _ (by omega))
          rw [← this]
          exact hb
        · refine invAll_of ri.l 0 fun i o ho d a' w' hdi hdeps ⟨s', k, D⟩ => ?_
          rw [Nat.zero_add] at hdi ⊢
          have hil : i < ri.l.length := (List.getElem?_eq_some_iff.1 ho).1
          -- whoever i waits for has come up
          have hp : ∀ p, (ri.pm.getD i 0).testBit p = true → d p = true := by
            intro p hpb
            refine waits_listedB hback (L := fun j => d j = true) (fun j q hj hdj e he hb => ?_) (i + 1) i o (by omega) ho (fun e he hb => ?_) p (by unfold waits; rw [← hpm]; exact hpb)
            · have := waits_edge hj he hb
              exact D.down j hdj e.on (by rw [hpm]; exact this)
            · refine List.all_eq_true.1 hdeps e.on ?_
              unfold depsOf
              exact List.mem_map.2 ⟨e, List.mem_filter.2 ⟨by simpa using he, hb⟩, rfl⟩
          have hop : o.op.operands.toList.all operOk = true := List.all_eq_true.1 hopr o (List.mem_of_getElem? ho)
          have hgd : ∀ j x, o.guard = some (j, x) → d j = true := by
            intro j x hx
            have := List.all_eq_true.1 hgo i (List.mem_range.2 hil)
            rw [ho] at this
            simp only [hx] at this
            exact hp j this
          have hund : VR s' undef undef := .tuple _ _ rfl (by simp)
          -- what the run has shown of an operation that does no more than make a block
          have hFK : kindOf o.op ≠ 3 → FK E ri T n V (HS k) i o := by
            intro hk3
            refine z5 k D.kle i o ho ?_ hk3 ?_
            · rw [hstg, Nat.zero_add]
              have : (ri.pm.map fun m => cntIn m ri.eff).getD i 0 = cntIn (ri.pm.getD i 0) ri.eff ∨ (ri.pm.map fun m => cntIn m ri.eff).getD i 0 = 0 := by
                simp only [List.getD_eq_getElem?_getD, List.getElem?_map]
                cases ri.pm[i]? with
                | none => exact .inr rfl
                | some m => exact .inl rfl
              rcases this with e | e
              · rw [e]
                exact cntIn_le _ _ _ fun j x hj hx => (D.eff j x hj).1 (hp x hx)
              · rw [e]; exact Nat.zero_le _
            · cases k with
              | zero => simp
              | succ k =>
                simp only
                cases hb : (ri.pm.getD (ri.eff.getD k 0) 0).testBit i with
                | false => rfl
                | true =>
                  have hkl : k < ri.eff.length := by have := D.kle; omega
                  have he : ri.eff[k]? = some ri.eff[k] := List.getElem?_eq_getElem hkl
                  have hge : ri.eff.getD k 0 = ri.eff[k] := by rw [List.getD_eq_getElem?_getD, he]; rfl
                  rw [hge] at hb
                  have := D.down _ ((D.eff k _ he).2 (by omega)) i hb
                  rw [hdi] at this; cases this
          have hnoeff : kindOf o.op ≠ 3 → ∀ j : Nat, ri.eff[j]? ≠ some i := by
            intro hk3 j hj
            obtain ⟨q, hq, hqk⟩ := heff_kind j i hj
            rw [ho] at hq; cases hq
            exact hk3 hqk
          unfold wpList
          rcases kind_cases o.op with hk | hk | hk | hk
          · -- reads nothing
            obtain ⟨Vi, x1, x2, x3⟩ := (hFK (by omega)).1 hk
            rw [want_eq hdo D.tmp x1 x2 hgd htop]
            split at x3
            · rename_i hw
              rw [hw, if_neg (by simp)]
              exact ⟨fun e => (by cases e), s', k, D.put hdo ho hp (Sg.le_refl s') (fun _ _ => rfl) D.rel (by rw [x3]; exact hund) (hnoeff (by omega))⟩
            · rename_i hw
              rw [hw, if_pos rfl]
              obtain ⟨v', q1, q2⟩ := aop0_ok hE.T (opnd_ok D.tmp x1 ho x2 hop hro hdi hp D.down htop) x3
              refine .inl ?_
              unfold Oper.wp
              rw [q1]
              exact ⟨fun e => (by cases e), s', k, D.put hdo ho hp (Sg.le_refl s') (fun _ _ => rfl) D.rel q2 (hnoeff (by omega))⟩
          · -- reads memory
            obtain ⟨Vi, x1, x2, x3⟩ := (hFK (by omega)).2.1 hk
            rw [want_eq hdo D.tmp x1 x2 hgd htop]
            split at x3
            · rename_i hw
              rw [hw, if_neg (by simp)]
              exact ⟨fun e => (by cases e), s', k, D.put hdo ho hp (Sg.le_refl s') (fun _ _ => rfl) D.rel (by rw [x3]; exact hund) (hnoeff (by omega))⟩
            · rename_i hw
              rw [hw, if_pos rfl]
              obtain ⟨v', q1, q2⟩ := aop1_ok hE.T D.rel (opnd_ok D.tmp x1 ho x2 hop hro hdi hp D.down htop) x3
              refine .inl ?_
              unfold Oper.wp
              rw [q1]
              exact ⟨fun e => (by cases e), s', k, D.put hdo ho hp (Sg.le_refl s') (fun _ _ => rfl) D.rel q2 (hnoeff (by omega))⟩
          · -- makes a block
            obtain ⟨Vi, x1, x2, x3⟩ := (hFK (by omega)).2.2 hk
            rw [want_eq hdo D.tmp x1 x2 hgd htop]
            split at x3
            · rename_i hw
              rw [hw, if_neg (by simp)]
              exact ⟨fun e => (by cases e), s', k, D.put hdo ho hp (Sg.le_refl s') (fun _ _ => rfl) D.rel (by rw [x3]; exact hund) (hnoeff (by omega))⟩
            · rename_i hw
              rw [hw, if_pos rfl]
              obtain ⟨b, m, y1, y2, y3, y4⟩ := x3
              obtain ⟨ob, sz, es, q1, q2, q3⟩ := aop2_ok hE.T (opnd_ok D.tmp x1 ho x2 hop hro hdi hp D.down htop) y1
              have hnone := D.lab i o ho (.inl hk) hdi
              obtain ⟨g1, g2⟩ := new_ok D.rel hnone y2 q2 q3
              refine .inl ?_
              unfold Oper.wp
              rw [q1]
              refine ⟨fun e => (by cases e), _, k, D.put hdo ho hp (Sg.le_put hnone) (fun L hL => Sg.put_far hL) (g2.sub fun L b' hb' _ => ?_) (by rw [y3]; exact g1) (hnoeff (by omega))⟩
              rw [Hp.at_add y2]
              by_cases e : L = n + i
              · subst e; rw [if_pos rfl, ← y4]; exact hb'
              · rw [if_neg e]; exact hb'
          · -- does more: it is the next of its kind
            obtain ⟨j, hj⟩ := heff_of i o ho hk
            have hjk : ¬ j < k := fun h9 => by have := (D.eff j i hj).2 h9; rw [hdi] at this; cases this
            have hjk2 : j ≤ k := by
              cases j with
              | zero => omega
              | succ j =>
                have hjl : j < ri.eff.length := by have := (List.getElem?_eq_some_iff.1 hj).1; omega
                have he : ri.eff[j]? = some ri.eff[j] := List.getElem?_eq_getElem hjl
                have := chain_at ri.pm ri.eff hch j _ i he hj
                have := (D.eff j _ he).1 (hp _ this)
                omega
            have hjk3 : j = k := by omega
            subst hjk3
            obtain ⟨o', H1, e1, ⟨Vi, x1, x2, x3⟩, e3⟩ := z6 j i hj
            rw [ho] at e1; cases e1
            have hjl : j < ri.eff.length := (List.getElem?_eq_some_iff.1 hj).1
            rw [want_eq hdo D.tmp x1 x2 hgd htop]
            -- the state behind it
            have fin : ∀ (s1 : Sg) (v' : Value) (w1 : World), VR s1 (getV V i) v' → Rel C w0 s1 H1 w1 → Sg.le s' s1 → (∀ L, L ≠ n + i → L < NS j → s1 L = s' L) → (∀ L, NS (j + 1) ≤ L → L ≠ n + i → s1 L = none) → NS j ≤ NS (j + 1) →
                DI C w0 ri V T n s HS NS (ups d i) (a'.put o.dst v') w1 s1 (j + 1) := by
              intro s1 v' w1 g1 g2 g3 g4 g5 g6
              have hnn := D.n
              have hfar : ∀ p q, ri.l[p]? = some q → p ≠ i → s1 (n + p) = s' (n + p) := fun p q hq hpi => g4 _ (by omega) (by have := (List.getElem?_eq_some_iff.1 hq).1; omega)
              refine ⟨g2.sub (fun L b hb hne => ?_), by rw [put_dfr]; exact D.dfr, by rw [tvs_put hdo ho]; exact put_ok (D.tmp.mono g3) g1 o.dst, Sg.le_trans D.le g3, fun L hL => (g4 L (by omega) (by omega)).trans (D.low L hL), fun L hL => g5 L hL (by omega), ?_, by omega, by omega, ?_, ?_, ?_⟩
              · rw [← hb]
                refine (e3 L fun p q hq hkq hst e => ?_).symm
                subst e
                have hpi : p ≠ i := by rintro rfl; rw [ho] at hq; cases hq; omega
                have hdp : d p = false := by
                  cases hdp : d p with
                  | false => rfl
                  | true =>
                    exfalso
                    have hpl : p < ri.l.length := (List.getElem?_eq_some_iff.1 hq).1
                    rw [hstg] at hst
                    have hle : (ri.pm.map fun m => cntIn m ri.eff).getD p 0 ≤ j := by
                      simp only [List.getD_eq_getElem?_getD, List.getElem?_map]
                      cases hpp : ri.pm[p]? with
                      | none => exact Nat.zero_le _
                      | some m =>
                        simp only [Option.map_some, Option.getD_some]
                        refine cntIn_le _ _ _ fun jj x hjj hx => (D.eff jj x hjj).1 (D.down p hdp x ?_)
                        rw [List.getD_eq_getElem?_getD, hpp]; exact hx
                    omega
                have := D.lab p q hq (.inl hkq) hdp
                rw [← hfar p q hq hpi] at this
                exact hne this
              · intro p q hq hkq hdp
                have hpi : p ≠ i := by rintro rfl; rw [ups_same] at hdp; cases hdp
                rw [ups_far hpi] at hdp
                rw [hfar p q hq hpi]
                exact D.lab p q hq hkq hdp
              · intro jj e he
                by_cases hei : e = i
                · subst hei
                  have : jj = j := by
                    have hjjl : jj < ri.eff.length := (List.getElem?_eq_some_iff.1 he).1
                    exact (List.getElem?_inj hjjl heff_nd).1 (he.trans hj.symm)
                  subst this
                  rw [ups_same]
                  simp
                · rw [ups_far hei, D.eff jj e he]
                  have : jj ≠ j := by
                    rintro rfl
                    rw [hj] at he; cases he; exact hei rfl
                  omega
              · intro p hdp q hqb
                rcases ups_true hdp with rfl | hdp
                · exact ups_of (hp q hqb)
                · exact ups_of (D.down p hdp q hqb)
              · intro p hdp
                rcases ups_true hdp with rfl | hdp
                · exact hil
                · exact D.lt p hdp
            split at x3
            · rename_i hw
              obtain ⟨x3, rfl, x5⟩ := x3
              rw [hw, if_neg (by simp)]
              refine ⟨fun e => (by cases e), s', j + 1, fin s' undef w' (by rw [x3]; exact hund) D.rel (Sg.le_refl s') (fun _ _ _ => rfl) (fun L hL _ => D.high L (by omega)) (by omega)⟩
            · rename_i hw
              rw [hw, if_pos rfl]
              refine .inl (evAR_wp (lab := n + i) hE hcall D.rel D.high (fun y hy => aop3_ok hE.T D.rel (opnd_ok D.tmp x1 ho x2 hop hro hdi hp D.down htop) (D.lab i o ho (.inr hk) hdi) hy) x3 ?_)
              intro s1 v1 w1 g1 g2 g3 g4 g5 g6
              exact ⟨fun e => (by cases e), s1, j + 1, fin s1 v1 w1 g1 g2 g3 g4 g5 g6⟩
        · rintro d a' w' hall ⟨s', k, D⟩
          have hk : k = ri.eff.length := by
            rcases Nat.lt_or_ge k ri.eff.length with h9 | h9
            · have he : ri.eff[k]? = some ri.eff[k] := List.getElem?_eq_getElem h9
              obtain ⟨q, hq, _⟩ := heff_kind k _ he
              have := (D.eff k _ he).1 (hall _ (List.getElem?_eq_some_iff.1 hq).1)
              omega
            · have := D.kle; omega
          subst hk
          have hn := D.n
          rw [z4] at hn
          refine hQ s' a' w' ⟨by have := D.rel; rw [z3] at this; exact this, ?_, by rw [zipV_len]; exact hs.len, D.dfr, fun L hL => D.high L (by rw [z4]; exact hL)⟩ ⟨D.le, D.low, by omega⟩
          rw [tvs_all hall]
          exact D.tmp
      have e : (rinfo ops).l.toArray = ops := by rw [hlo]
      rw [e] at key
      exact key
    · cases h
end
end Go.Proofs.YtcbcegdidlefiaaGreat
