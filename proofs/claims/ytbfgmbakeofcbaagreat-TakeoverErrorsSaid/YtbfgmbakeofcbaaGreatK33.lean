/- Contracts of the reference's Between, Chain and Arcs. Conditions: as each theorem says. -/
import Derived.Test.YtbfgmbakeofcbaaGreatK31
import Derived.Test.YtbfgmbakeofcbaaGreatK32
namespace Go.Proofs.YtbfgmbakeofcbaaGreat
open Go.RowKit

def RRArc : Rd RArc := fun _ _ cs a => cs = [.int .i64 a.frm.tr, .int .i64 a.frm.st, .int .i64 a.to.tr, .int .i64 a.to.st, .int .i64 a.wt]
theorem RRArc.ok : Rd.Ok RRArc := ⟨fun h _ _ => h⟩
theorem RRArc.flat : Rd.Flat RRArc := fun _ _ _ _ _ _ h => h
theorem RRArc.one : Rd.One RRArc := fun _ _ es x h u hu => by rw [h] at hu; simp at hu; rcases hu with rfl | rfl | rfl | rfl | rfl <;> rfl
abbrev RRArcs := RSlice 5 RRArc
theorem RRArcs.ok : Rd.Ok RRArcs := RSlice.ok RRArc.ok
theorem tyRArc : ElemTy Tryz.prog 78 113 5 40 := .mk' Tryz.underlying78 (z := .agg #[.int .i64 0, .int .i64 0, .int .i64 0, .int .i64 0, .int .i64 0]) (by kernel_rfl) rfl (by omega)
theorem RRArcs.atK {w wr : World} {A : Option Addr} {n c : Nat} {l : List RArc} (K : KeepsAll w wr) (h : RRArcs w (Old w) [.slice A n c] l) {k : Nat} (hk : k < l.length) :
    ∃ b o a, A = some ⟨b, o, none⟩ ∧ b < wr.heap.size ∧ l[k]? = some a ∧ wr.cell? ⟨b, o + k * 5, none⟩ = some (.int .i64 a.frm.tr) ∧ wr.cell? ⟨b, o + k * 5 + 1, none⟩ = some (.int .i64 a.frm.st) ∧ wr.cell? ⟨b, o + k * 5 + 2, none⟩ = some (.int .i64 a.to.tr) ∧ wr.cell? ⟨b, o + k * 5 + 3, none⟩ = some (.int .i64 a.to.st) ∧ wr.cell? ⟨b, o + k * 5 + 4, none⟩ = some (.int .i64 a.wt) := by
  obtain ⟨b, o, u, es, rfl, hb, hx, h1, h2, h3⟩ := h.get hk
  cases h2
  exact ⟨b, o, u, rfl, Nat.lt_of_lt_of_le hb K.size, hx, K.cellK hb (by simpa using h3 0 _ rfl), K.cellK hb (by simpa [Nat.add_assoc] using h3 1 _ rfl), K.cellK hb (by simpa [Nat.add_assoc] using h3 2 _ rfl), K.cellK hb (by simpa [Nat.add_assoc] using h3 3 _ rfl), K.cellK hb (by simpa [Nat.add_assoc] using h3 4 _ rfl)⟩

set_option maxRecDepth 100000 in
set_option maxHeartbeats 1000000 in
theorem Between_any (ps : List (List Stage)) (r : Int) (A : Option Addr) (c : Nat) (w : World) (h : RPaths w (Old w) [.slice A ps.length c] ps) (t k : Nat) (p : List Stage) (s : Stage) (v : Ref) (hp : ps[t]? = some p) (hs : p[k]? = some s) (hk : k ≤ 1000000) :
    Calls Tryz.prog 69 #[.slice A ps.length c, .int .i64 r, .agg #[.int .i64 (t : Int), .int .i64 (k : Int)], .agg #[.int .i64 v.tr, .int .i64 v.st]] w fun e w' => e = .returned (.agg #[.int .i64 (t : Int), .int .i64 (relOf ps r ⟨(t : Int), (k : Int)⟩).st, .int .i64 v.tr, .int .i64 v.st, .int .i64 0]) ∧ KeepsAll w w' := by
  have hc := h.caps
  have HR : Hid (relOf ps r ⟨(t : Int), (k : Int)⟩ = if s.sec = r then ⟨(t : Int), (k : Int) + 1⟩ else ⟨(t : Int), (k : Int)⟩) := by
    show relOf ps r _ = _
    simp [relOf, secOf, hp, hs]
  have ht := getElem?_lt hp
  have hkl := getElem?_lt hs
  obtain ⟨b, o, p', A', c', hbo, hb, hp', k1, hr⟩ := RSS.at_ h ht
  subst hbo
  obtain rfl := same_of hp' hp
  have hcp := hr.caps
  obtain ⟨b2, o2, s', As, cs, hbo, hb2, hs', m0, m1, m2, m3, hpts⟩ := RPath.at_ hr hkl
  subst hbo
  obtain rfl := same_of hs' hs
  have HPTS := Lib.hid hpts
  clear h hr hp hp' hs hs' hpts
  go_enter Tryz.func69, Tryz.ntmps69
  go_wp2
  generalize hW : World.alloc (World.alloc (World.alloc w _) _) _ = W
  have KW : KeepsAll w W := by subst hW; exact (((Keeps.refl _ _).alloc _).alloc _).alloc _
  have B0 : Blk W w.heap.size 69 #[.int .i64 (t : Int), .int .i64 (k : Int)] := by subst hW; exact ((Blk.new _ _ _).alloc _).alloc _
  have B1 : Blk W (w.heap.size + 1) 69 #[.int .i64 v.tr, .int .i64 v.st] := by subst hW; exact (Blk.new' _ _ _ (by simp)).alloc _
  have B2 : Blk W (w.heap.size + 1 + 1) 113 #[.int .i64 0, .int .i64 0, .int .i64 0, .int .i64 0, .int .i64 0] := by subst hW; exact Blk.new' _ _ _ (by simp)
  have e0 := B0.cell 0
  have e1 := B0.cell 1
  simp at e0 e1
  have hz := B2.lt
  replace k1 := KW.cellK (p := ⟨b, o + t, none⟩) hb k1
  replace m0 := KW.cellK (p := ⟨b2, o2 + k * 4, none⟩) hb2 m0
  replace m1 := KW.cellK (p := ⟨b2, o2 + k * 4 + 1, none⟩) hb2 m1
  replace m2 := KW.cellK (p := ⟨b2, o2 + k * 4 + 2, none⟩) hb2 m2
  replace m3 := KW.cellK (p := ⟨b2, o2 + k * 4 + 3, none⟩) hb2 m3
  have HP2 := Lib.hid (KW.rdo' RInts.ok HPTS.out)
  have KW' := Lib.hid KW
  have HB0 := Lib.hid B0; have HB1 := Lib.hid B1; have HB2 := Lib.hid B2
  clear hW KW HPTS B0 B1 B2
  refine wp_region_ext (by kernel_rfl) (by kernel_rfl) ?_
  have y0 := Ext.cell e0
  have y1 := Ext.cell e1
  have y2 := Ext.cell k1
  have z0 := Ext.cell m0
  have z1 := Ext.cell m1
  have z2 := Ext.cell m2
  have z3 := Ext.cell m3
  repeat (go_big_quiet_step ((go_at_call 66; exact Uses_ext _ s' r As cs HP2.out)))
  refine wpQuiet_nil ?_
  rintro _ ⟨X, rfl⟩
  have KX := Lib.hid (KW'.out.tr X.keeps)
  have C0 := HB0.out.kept X.keeps (by simp)
  have C1 := HB1.out.kept X.keeps (by simp)
  have C2 := HB2.out.kept X.keeps (by simp)
  clear y0 y1 y2 z0 z1 z2 z3 e0 e1 k1 m0 m1 m2 m3
  generalize X.val = WX at *
  have a0 := C0.cell 0
  have a1 := C0.cell 1
  have a2 := C1.cell 0
  have a3 := C1.cell 1
  have d0 := C2.cell 0
  have d1 := C2.cell 1
  have d2 := C2.cell 2
  have d3 := C2.cell 3
  have d4 := C2.cell 4
  have f0 := C2.frozen 0
  have f1 := C2.frozen 1
  have f2 := C2.frozen 2
  have f3 := C2.frozen 3
  have f4 := C2.frozen 4
  simp at a0 a1 a2 a3 d0 d1 d2 d3 d4
  have hzx := C2.lt
  have HC2 := Lib.hid C2
  clear C0 C1 C2 HB0 HB1 HB2
  by_cases g : s'.sec = r
  · have g' : (s'.sec == r) = true := by simpa using g
    have Q : Hid ((relOf ps r ⟨(t : Int), (k : Int)⟩).st = (k : Int) + 1) := by show _ = _; rw [HR.out, if_pos g]
    rw [g']
    clear g g' HR
    go_wp2
    generalize hWF : World.setCell _ _ _ = WF
    have CF : Blk WF (w.heap.size + 1 + 1) 113 #[.int .i64 (t : Int), .int .i64 ((k : Int) + 1), .int .i64 v.tr, .int .i64 v.st, .int .i64 0] := by
      subst hWF
      simpa using ((((HC2.out.set_ 0 (.int .i64 (t : Int))).set_ 1 (.int .i64 ((k : Int) + 1))).set_ 2 (.int .i64 v.tr)).set_ 3 (.int .i64 v.st)).set_ 4 (.int .i64 0)
    have KF : KeepsAll w WF := by
      subst hWF
      repeat first | exact KX.out | refine Keeps.setCell ?_ (fun h => absurd h (by simp; omega)) _
    have q0 := CF.cell 0
    have q1 := CF.cell 1
    have q2 := CF.cell 2
    have q3 := CF.cell 3
    have q4 := CF.cell 4
    simp at q0 q1 q2 q3 q4
    refine bodyPost_ret (v := .agg #[.int .i64 (t : Int), .int .i64 ((k : Int) + 1), .int .i64 v.tr, .int .i64 v.st, .int .i64 0]) (by simp [results, Tryz.results69, go_sem, q0, q1, q2, q3, q4]) rfl ⟨by rw [Q.out], KF⟩
  · have g' : (s'.sec == r) = false := by simpa using g
    have Q : Hid ((relOf ps r ⟨(t : Int), (k : Int)⟩).st = (k : Int)) := by show _ = _; rw [HR.out, if_neg g]
    rw [g']
    clear g g' HR
    go_wp2
    generalize hWF : World.setCell _ _ _ = WF
    have CF : Blk WF (w.heap.size + 1 + 1) 113 #[.int .i64 (t : Int), .int .i64 ((k : Int)), .int .i64 v.tr, .int .i64 v.st, .int .i64 0] := by
      subst hWF
      simpa using ((((HC2.out.set_ 0 (.int .i64 (t : Int))).set_ 1 (.int .i64 ((k : Int)))).set_ 2 (.int .i64 v.tr)).set_ 3 (.int .i64 v.st)).set_ 4 (.int .i64 0)
    have KF : KeepsAll w WF := by
      subst hWF
      repeat first | exact KX.out | refine Keeps.setCell ?_ (fun h => absurd h (by simp; omega)) _
    have q0 := CF.cell 0
    have q1 := CF.cell 1
    have q2 := CF.cell 2
    have q3 := CF.cell 3
    have q4 := CF.cell 4
    simp at q0 q1 q2 q3 q4
    refine bodyPost_ret (v := .agg #[.int .i64 (t : Int), .int .i64 ((k : Int)), .int .i64 v.tr, .int .i64 v.st, .int .i64 0]) (by simp [results, Tryz.results69, go_sem, q0, q1, q2, q3, q4]) rfl ⟨by rw [Q.out], KF⟩

theorem OwnL.ne_blk {α : Type} {t size : Nat} {E : Rd α} {w : World} {base lo : Nat} {v : Value} {l : List α} (h : OwnL t size E w base lo v l) {g : Nat} {t' : TypeId} {cs : Array Value} (hb : Blk w g t' cs) (hne : t ≠ t') : ¬ v.ownBlock = some g := by
  obtain ⟨ess, _, h2, _⟩ := h
  rcases h2.2 with ⟨rfl, _⟩ | ⟨g', cap, cur, rfl, _, hh, _⟩
  · simp [Value.ownBlock]
  · intro e
    have e : g' = g := by simpa [Value.ownBlock] using e
    subst e
    exact Blk.ne_ (t := t) (cs := cur) hh hb hne rfl
theorem flatMap_len_le {α β : Type} (f : α → List β) (B : Nat) : ∀ (l : List α), (∀ x ∈ l, (f x).length ≤ B) → (l.flatMap f).length ≤ l.length * B
  | [], _ => by simp
  | a :: l, h => by
    rw [List.flatMap_cons, List.length_append, List.length_cons, Nat.succ_mul]
    have h1 := flatMap_len_le f B l (fun x hx => h x (by simp [hx]))
    have h2 := h a (by simp)
    omega
theorem chainRP_len (t : Nat) (p : List Stage) : (chainRP t p).length = p.length := by simp [chainRP]
theorem chainR_len {ps : List (List Stage)} (hl : ∀ p ∈ ps, p.length ≤ 64) (t : Nat) : (chainR (ps.take t)).length ≤ t * 64 := by
  have h := flatMap_len_le (fun q : List Stage × Nat => chainRP q.2 q.1) 64 (ps.take t).zipIdx (fun x hx => by
    rw [chainRP_len]
    obtain ⟨p, i⟩ := x
    exact hl p (List.mem_of_mem_take (List.mem_of_getElem? (List.mem_zipIdx_iff_getElem?.1 hx))))
  have h2 : (ps.take t).zipIdx.length ≤ t := by simp; omega
  have h3 : (ps.take t).zipIdx.length * 64 ≤ t * 64 := Nat.mul_le_mul_right _ h2
  unfold chainR; omega
theorem useR_len (ps : List (List Stage)) (r : Int) (l : List Ref) (v : Ref) : (useR ps r l v).length ≤ l.length := by
  have h := flatMap_len_le (fun u => if u.tr ≠ v.tr then [betw ps r u v] else []) 1 l (fun x _ => by split <;> simp)
  unfold useR; omega
theorem orderRTo_len (ps : List (List Stage)) (o : Order) (hl : o.uses.length ≤ 640) (n : Nat) : (orderRTo ps o n).length ≤ n * 640 := by
  have h := flatMap_len_le (fun q : Ref × Nat => useR ps o.res (o.uses.take q.2) q.1) 640 (o.uses.take n).zipIdx (fun x _ => by
    have := useR_len ps o.res (o.uses.take x.2) x.1
    have h2 : (o.uses.take x.2).length ≤ o.uses.length := by simp; omega
    omega)
  have h2 : (o.uses.take n).zipIdx.length ≤ n := by simp; omega
  have h3 : (o.uses.take n).zipIdx.length * 640 ≤ n * 640 := Nat.mul_le_mul_right _ h2
  exact Nat.le_trans h h3
theorem ordersR_len (ps : List (List Stage)) (os : List Order) (hl : ∀ o ∈ os, o.uses.length ≤ 640) (B : Nat) (hB : B = 409600) (a : Nat) : ((os.take a).flatMap (orderR ps)).length ≤ a * B := by
  have h := flatMap_len_le (orderR ps) B (os.take a) (fun o ho => by
    have h1 := hl o (List.mem_of_mem_take ho)
    have h2 := orderRTo_len ps o h1 o.uses.length
    rw [orderRTo_all] at h2
    omega)
  have h2 : (os.take a).length ≤ a := by simp; omega
  exact Nat.le_trans h (Nat.mul_le_mul_right _ h2)

set_option maxRecDepth 100000 in
set_option maxHeartbeats 1000000 in
theorem Chain_any (ps : List (List Stage)) (A : Option Addr) (c : Nat) (w : World) (hv : valid ps = true) (h : RPaths w (Old w) [.slice A ps.length c] ps) :
    Calls Tryz.prog 68 #[.slice A ps.length c] w fun e w' => ∃ v, e = .returned v ∧ OwnL 113 5 RRArc w' w.heap.size w.heap.size v (chainR ps) ∧ KeepsAll w w' := by
  have hc := h.caps
  have H := Lib.hid h; clear h
  have hlen := valid_lens hv
  have hl10 := hlen.1
  have HLEN := Lib.hid (fun p hp => (hlen.2 p hp).2); clear hlen
  have HV := Lib.hid hv; clear hv
  go_enter Tryz.func68, Tryz.ntmps68
  go_wp2
  go_loopw [3, 10] (fun v i wr => ∃ t : Nat, t ≤ ps.length ∧ i = .int .i64 t ∧ OwnL 113 5 RRArc wr w.heap.size w.heap.size v (chainR (ps.take t)) ∧ KeepsAll w wr) (fun _ i _ => ps.length - (intOf i).toNat)
  case atStart => exact ⟨0, Nat.zero_le _, rfl, OwnL.nil, Keeps.refl _ _⟩
  case round =>
    obtain ⟨t, ht, rfl, ho, hkr⟩ := hrel
    obtain ⟨Aa, ca, rfl, hca, hca2⟩ := ho.form
    have HO := Lib.hid ho; clear ho
    have KR := Lib.hid hkr; clear hkr
    have hsz := KR.out.size
    by_cases hlt : t < ps.length
    · obtain ⟨b, o, p, A', c', rfl, hb, hp, k1, hr⟩ := RSS.atK KR.out H.out hlt
      have hcp := hr.caps
      have HPR := Lib.hid hr; clear hr
      have hpl := HLEN.out p (List.mem_of_getElem? hp)
      have hDl := chainR_len HLEN.out t
      have HQ : Hid (chainR (ps.take (t + 1)) = chainR (ps.take t) ++ chainRP t p) := chainR_succ hp
      clear hp
      generalize chainR (ps.take t) = D at HO HQ hDl hca ⊢
      have hdt : decide ((t : Int) < (ps.length : Int)) = true := by simp; omega
      go_wp2
      go_loopw [3, 17] (fun v i wr => ∃ k : Nat, k ≤ p.length ∧ i = .int .i64 k ∧ OwnL 113 5 RRArc wr w.heap.size w.heap.size v (D ++ chainRP t (p.take k)) ∧ KeepsAll w wr) (fun _ i _ => p.length - (intOf i).toNat)
      case atStart => exact ⟨0, Nat.zero_le _, rfl, by simpa [chainRP] using HO.out, KR.out⟩
      case round =>
        obtain ⟨k, hk, rfl, ho2, hk2⟩ := hrel
        obtain ⟨Ab, cb, rfl, hcb, hcb2⟩ := ho2.form
        have HO2 := Lib.hid ho2; clear ho2
        have K2 := Lib.hid hk2; clear hk2
        have hsz2 := K2.out.size
        have hEl : (D ++ chainRP t (p.take k)).length ≤ 640 + k := by
          have h2 : (p.take k).length ≤ k := by simp; omega
          rw [List.length_append, chainRP_len]; omega
        by_cases hlt2 : k < p.length
        · obtain ⟨b2, o2, s, A2, c2, rfl, hb2, hs, m0, m1, m2, m3, hpts⟩ := RPath.atK K2.out HPR.out hlt2
          have HQ2 : Hid (D ++ chainRP t (p.take (k + 1)) = (D ++ chainRP t (p.take k)) ++ [⟨⟨(t : Int), (k : Int)⟩, ⟨(t : Int), (k : Int) + 1⟩, s.mn⟩]) := by
            show _ = _
            rw [chainRP_succ t hs, List.append_assoc]
          clear hpts hs
          generalize D ++ chainRP t (p.take k) = L at HO2 HQ2 hEl hcb ⊢
          go_wp2_with (at_builtin; refine wpList_append_L tyRArc RRArc.ok rfl (.tmp 22) (.tmp 33) rfl ((HO2.out.alloc RRArc.ok _).alloc RRArc.ok _) rfl _ [.int .i64 (t : Int), .int .i64 (k : Int), .int .i64 (t : Int), .int .i64 ((k : Int) + 1), .int .i64 s.mn] rfl (Blk.new' _ _ _ (by simp)) rfl ⟨⟨(t : Int), (k : Int)⟩, ⟨(t : Int), (k : Int) + 1⟩, s.mn⟩ (S := fun _ => False) rfl (fun _ h => h.elim) (by simp [Value.oneCell']) (by omega) (by omega) (by simp; omega) ?_; intro v4 w4 HO4 HK4 HA4; obtain ⟨A6, c6x, hv6, _, _⟩ := HO4.form; rw [List.length_append, List.length_singleton] at hv6; subst hv6)
          go_roundw
          case rel => exact ⟨k + 1, by omega, by go_num, by rw [HQ2.out]; exact HO4, (((K2.out.alloc _).alloc _).trans HK4 (fun x hx e => (by have := HO2.out.lt e; omega)))⟩
          case measure => simp [intOf]; omega
        · obtain rfl : k = p.length := by omega
          have e : p.take p.length = p := List.take_length
          rw [e] at HO2 ⊢
          clear e
          go_wp2
          go_roundw
          case rel => exact ⟨t + 1, by omega, by go_num, by rw [HQ.out]; exact HO2.out, K2.out⟩
          case measure => simp [intOf]; omega
    · obtain rfl : t = ps.length := by omega
      have e : ps.take ps.length = ps := List.take_length
      rw [e] at HO ⊢
      clear e
      go_wp2
      go_ret
      exact ⟨_, rfl, HO.out, KR.out⟩

set_option maxRecDepth 100000 in
set_option maxHeartbeats 2000000 in
theorem Arcs_any (ps : List (List Stage)) (os : List Order) (A A2 : Option Addr) (c c2 : Nat) (w : World) (hck : checkO ps os = true) (h : RPaths w (Old w) [.slice A ps.length c] ps) (h2 : ROrders w (Old w) [.slice A2 os.length c2] os) :
    Calls Tryz.prog 44 #[.slice A ps.length c, .slice A2 os.length c2] w fun e w' => ∃ v, e = .returned v ∧ OwnL 113 5 RRArc w' w.heap.size w.heap.size v (refArcs ps os) ∧ (refArcs ps os).length ≤ 60000000 ∧ KeepsAll w w' := by
  have hc := h.caps
  have hc2 := h2.caps
  have H := Lib.hid h; clear h
  have H2 := Lib.hid h2; clear h2
  have hf := checkO_facts hck
  have HV := Lib.hid hf.1
  have hol := hf.2.1
  have HF := Lib.hid hf.2.2
  have hps10 := (valid_lens hf.1).1
  have hcl : (chainR ps).length ≤ 640 := by
    have := chainR_len (ps := ps) (fun p hp => ((valid_lens hf.1).2 p hp).2) ps.length
    rw [List.take_length] at this; omega
  have HOL : Hid (∀ a, a ≤ os.length → (chainR ps ++ (os.take a).flatMap (orderR ps)).length ≤ 640 + a * 409600) := fun a _ => by
    have := ordersR_len ps os (fun o ho => (hf.2.2 o ho).2.1) 409600 rfl a
    rw [List.length_append]; omega
  clear hf hck
  go_enter Tryz.func44, Tryz.ntmps44
  go_wp2_with fail
  refine (Chain_any ps A c w HV.out H.out).mono ?_
  rintro e w1 ⟨v, rfl, ho, k1⟩
  obtain ⟨B, d, rfl, hd1, hd2⟩ := ho.form
  have HO := Lib.hid ho; have K1 := Lib.hid k1
  clear ho k1
  go_wp2
  go_loopw [5, 16] (fun v i wr => ∃ a : Nat, a ≤ os.length ∧ i = .int .i64 a ∧ OwnL 113 5 RRArc wr w.heap.size w.heap.size v (chainR ps ++ (os.take a).flatMap (orderR ps)) ∧ KeepsAll w wr) (fun _ i _ => os.length - (intOf i).toNat)
  case atStart => exact ⟨0, Nat.zero_le _, rfl, by simpa using HO.out, K1.out⟩
  case round =>
    obtain ⟨a, ha, rfl, ho, hkr⟩ := hrel
    obtain ⟨Aa, ca, rfl, hca, hca2⟩ := ho.form
    have HO1 := Lib.hid ho; clear ho
    have KR := Lib.hid hkr; clear hkr
    have hsz := KR.out.size
    have hDl := HOL.out a ha
    by_cases hlt : a < os.length
    · obtain ⟨bo, oo, o, Au, cu, hbo, hbol, hoo, m0, m1, hus⟩ := ROrders.atK KR.out H2.out hlt
      subst hbo
      have hcu := hus.caps
      have HUS := Lib.hid hus
      have hof := HF.out o (List.mem_of_getElem? hoo)
      have HIN := Lib.hid hof.1
      have hul := hof.2.1
      have HQ : Hid (chainR ps ++ (os.take (a + 1)).flatMap (orderR ps) = (chainR ps ++ (os.take a).flatMap (orderR ps)) ++ orderR ps o) := by show _ = _; rw [List.take_add_one, hoo]; simp
      clear hof hoo hus
      generalize chainR ps ++ (os.take a).flatMap (orderR ps) = D at HO1 HQ hDl hca ⊢
      have hda : decide ((a : Int) < (os.length : Int)) = true := by simp; omega
      go_wp2
      generalize hW3 : World.alloc wr _ = W3
      have KW3 : Hid (KeepsAll w W3) := by subst hW3; exact KR.out.alloc _
      have BO : Hid (Blk W3 wr.heap.size 66 #[.int .i64 o.res, .slice Au o.uses.length cu]) := by subst hW3; exact Blk.new _ _ _
      have HO3 : Hid (OwnL 113 5 RRArc W3 w.heap.size w.heap.size (.slice Aa D.length ca) D) := by subst hW3; exact HO1.out.alloc RRArc.ok _
      clear hW3 m0 m1 hbol HO1
      generalize wr.heap.size = zo at *
      go_loopw [5, 23] (fun v i wr => ∃ b : Nat, b ≤ o.uses.length ∧ i = .int .i64 b ∧ OwnL 113 5 RRArc wr w.heap.size w.heap.size v (D ++ orderRTo ps o b) ∧ KeepsAll w wr ∧ Blk wr zo 66 #[.int .i64 o.res, .slice Au o.uses.length cu]) (fun _ i _ => o.uses.length - (intOf i).toNat)
      case atStart => exact ⟨0, Nat.zero_le _, rfl, by simpa [orderRTo] using HO3.out, KW3.out, BO.out⟩
      case round =>
        obtain ⟨b, hb, rfl, ho, hkr, hbo⟩ := hrel
        obtain ⟨Ab, cb, rfl, hcb, hcb2⟩ := ho.form
        have HO4 := Lib.hid ho; clear ho
        have KB := Lib.hid hkr; clear hkr
        have HBO := Lib.hid hbo
        have f1 := hbo.cell 1
        have f0 := hbo.cell 0
        simp at f0 f1
        have hzo := hbo.lt
        clear hbo
        have hEl : (D ++ orderRTo ps o b).length ≤ 640 + a * 409600 + b * 640 := by
          have := orderRTo_len ps o hul b
          rw [List.length_append]; omega
        by_cases hltb : b < o.uses.length
        · obtain ⟨bx, ox, v, hbo, hbxl, hv, m0, m1⟩ := RRefs.atK KB.out HUS.out hltb
          subst hbo
          have HQ2 : Hid (D ++ orderRTo ps o (b + 1) = (D ++ orderRTo ps o b) ++ useR ps o.res (o.uses.take b) v) := by show _ = _; rw [orderRTo_succ hv, List.append_assoc]
          clear hv
          generalize D ++ orderRTo ps o b = E at HO4 HQ2 hEl hcb ⊢
          have hdbo : decide ((b : Int) < (o.uses.length : Int)) = true := by simp; omega
          go_wp2
          generalize hW4 : World.alloc wr _ = W4
          have KW4 : Hid (KeepsAll w W4) := by subst hW4; exact KB.out.alloc _
          have BV : Hid (Blk W4 wr.heap.size 69 #[.int .i64 v.tr, .int .i64 v.st]) := by subst hW4; exact Blk.new _ _ _
          have BO4 : Hid (Blk W4 zo 66 #[.int .i64 o.res, .slice (some ⟨bx, ox, none⟩) o.uses.length cu]) := by subst hW4; exact HBO.out.alloc _
          have HO5 : Hid (OwnL 113 5 RRArc W4 w.heap.size w.heap.size (.slice Ab E.length cb) E) := by subst hW4; exact HO4.out.alloc RRArc.ok _
          clear hW4 m0 m1 f0 f1 hbxl hzo HO4
          generalize wr.heap.size = zv at *
          go_loopw [5, 33] (fun x i wr => ∃ cc : Nat, cc ≤ b ∧ i = .int .i64 cc ∧ OwnL 113 5 RRArc wr w.heap.size w.heap.size x (E ++ useR ps o.res (o.uses.take cc) v) ∧ KeepsAll w wr ∧ Blk wr zo 66 #[.int .i64 o.res, .slice (some ⟨bx, ox, none⟩) o.uses.length cu] ∧ Blk wr zv 69 #[.int .i64 v.tr, .int .i64 v.st]) (fun _ i _ => b - (intOf i).toNat)
          case atStart => exact ⟨0, Nat.zero_le _, rfl, by simpa [useR] using HO5.out, KW4.out, BO4.out, BV.out⟩
          case round =>
            obtain ⟨cc, hcc, rfl, ho, hkr, hbo, hbv⟩ := hrel
            obtain ⟨Ac, cz, rfl, hcz, hcz2⟩ := ho.form
            have HO6 := Lib.hid ho; clear ho
            have KC := Lib.hid hkr; clear hkr
            have HBO6 := Lib.hid hbo
            have HBV6 := Lib.hid hbv
            have f0 := hbo.cell 0
            have e0 := hbv.cell 0
            have e1 := hbv.cell 1
            simp at f0 e0 e1
            have hzo := hbo.lt
            have hzv := hbv.lt
            clear hbo hbv
            have hGl : (E ++ useR ps o.res (o.uses.take cc) v).length ≤ 640 + a * 409600 + b * 640 + cc := by
              have h1 := useR_len ps o.res (o.uses.take cc) v
              have h2 : (o.uses.take cc).length ≤ cc := by simp; omega
              rw [List.length_append]; omega
            by_cases hltc : cc < b
            · obtain ⟨by_, oy, w_, hbo, hbyl, hw, m0, m1⟩ := RRefs.atK KC.out HUS.out (k := cc) (by omega)
              injection hbo with hbo; injection hbo with hy1 hy2; subst hy1 hy2
              obtain ⟨tw, kw, pw, sw, hpw, hsw, _, hwe⟩ := mem_allU.1 (HIN.out w_ (List.mem_of_getElem? hw))
              subst hwe
              simp only [] at m0 m1
              have HQ3 : Hid (E ++ useR ps o.res (o.uses.take (cc + 1)) v = (E ++ useR ps o.res (o.uses.take cc) v) ++ (if (tw : Int) ≠ v.tr then [betw ps o.res ⟨(tw : Int), (kw : Int)⟩ v] else [])) := by
                show _ = _
                rw [List.take_add_one, hw, Option.toList_some, useR_snoc, List.append_assoc]
              have hkw : kw ≤ 1000000 := by
                have h1 := getElem?_lt hsw
                have h2 := ((valid_lens HV.out).2 pw (List.mem_of_getElem? hpw)).2
                omega
              have HBW : Hid (∀ W, KeepsAll w W → Calls Tryz.prog 69 #[.slice A ps.length c, .int .i64 o.res, .agg #[.int .i64 (tw : Int), .int .i64 (kw : Int)], .agg #[.int .i64 v.tr, .int .i64 v.st]] W fun e w' => e = .returned (.agg #[.int .i64 (tw : Int), .int .i64 (relOf ps o.res ⟨(tw : Int), (kw : Int)⟩).st, .int .i64 v.tr, .int .i64 v.st, .int .i64 0]) ∧ KeepsAll W w') := fun W hW => Between_any ps o.res A c W (hW.rdo' RPaths.ok H.out) tw kw pw sw v hpw hsw hkw
              have HBE : Hid (betw ps o.res ⟨(tw : Int), (kw : Int)⟩ v = ⟨⟨(tw : Int), (relOf ps o.res ⟨(tw : Int), (kw : Int)⟩).st⟩, v, 0⟩) := by
                show _ = _
                unfold betw
                have h1 := relOf_tr ps o.res ⟨(tw : Int), (kw : Int)⟩
                cases hq : relOf ps o.res ⟨(tw : Int), (kw : Int)⟩ with
                | mk x y => rw [hq] at h1; simp only at h1; rw [h1]
              clear hw hpw hsw hkw
              generalize (relOf ps o.res ⟨(tw : Int), (kw : Int)⟩).st = ks at HBW HBE
              generalize betw ps o.res ⟨(tw : Int), (kw : Int)⟩ v = ba at HQ3 HBE
              generalize E ++ useR ps o.res (o.uses.take cc) v = G at HO6 HQ3 hGl hcz ⊢
              have hdc : decide ((cc : Int) < (b : Int)) = true := by simp; omega
              by_cases hne : (tw : Int) = v.tr
              · have hne' : ((tw : Int) != v.tr) = false := by simpa using hne
                have HQ4 : Hid (E ++ useR ps o.res (o.uses.take (cc + 1)) v = G) := by rw [HQ3.out, if_neg (by simpa using hne), List.append_nil]; rfl
                clear hne HQ3
                go_wp2
                go_roundw
                case rel => exact ⟨cc + 1, by omega, by go_num, by rw [HQ4.out]; exact HO6.out.alloc RRArc.ok _, KC.out.alloc _, HBO6.out.alloc _, HBV6.out.alloc _⟩
                case measure => simp [intOf]; omega
              · have hne' : ((tw : Int) != v.tr) = true := by simpa using hne
                have HQ4 : Hid (E ++ useR ps o.res (o.uses.take (cc + 1)) v = G ++ [⟨⟨(tw : Int), ks⟩, v, 0⟩]) := by rw [HQ3.out, if_pos hne, HBE.out]; rfl
                clear hne HQ3 HBE
                go_wp2_with fail
                generalize hW5 : World.alloc wr _ = W5
                have KW5 : Hid (KeepsAll w W5) := by subst hW5; exact KC.out.alloc _
                have HO7 : Hid (OwnL 113 5 RRArc W5 w.heap.size w.heap.size (.slice Ac G.length cz) G) := by subst hW5; exact HO6.out.alloc RRArc.ok _
                have BO7 := Lib.hid (show Blk W5 zo _ _ by subst hW5; exact HBO6.out.alloc _)
                have BV7 := Lib.hid (show Blk W5 zv _ _ by subst hW5; exact HBV6.out.alloc _)
                clear hW5 m0 m1 e0 e1 f0 hbyl hzo hzv HO6
                refine (HBW.out W5 KW5.out).mono ?_
                rintro e w6 ⟨rfl, k6⟩
                have K6 := Lib.hid (KW5.out.tr k6)
                have HO8 := Lib.hid (HO7.out.keeps RRArc.ok k6 (fun _ _ h => h.elim))
                have BO8 := Lib.hid (BO7.out.kept k6 (by simp))
                have BV8 := Lib.hid (BV7.out.kept k6 (by simp))
                have NO := Lib.hid (HO8.out.ne_blk BO8.out (by decide))
                have NV := Lib.hid (HO8.out.ne_blk BV8.out (by decide))
                have hz6 := K6.out.size
                clear k6 HO7 BO7 BV7 KW5
                go_wp2_with (at_builtin; refine wpList_append_L tyRArc RRArc.ok rfl (.tmp 42) (.tmp 49) rfl (HO8.out.alloc RRArc.ok _) rfl _ [.int .i64 (tw : Int), .int .i64 ks, .int .i64 v.tr, .int .i64 v.st, .int .i64 0] rfl (Blk.new' _ _ _ (by simp)) rfl ⟨⟨(tw : Int), ks⟩, v, 0⟩ (S := fun _ => False) rfl (fun _ h => h.elim) (by simp [Value.oneCell']) (by omega) (by omega) (by simp; omega) ?_; intro v9 w9 HO9 HK9 HA9; obtain ⟨A9, c9, hv9, _, _⟩ := HO9.form; rw [List.length_append, List.length_singleton] at hv9; subst hv9)
                go_roundw
                case rel => exact ⟨cc + 1, by omega, by go_num, by rw [HQ4.out]; exact HO9, ((K6.out.alloc _).trans HK9 (fun x hx e => (by have := HO8.out.lt e; omega))), (BO8.out.alloc _).kept HK9 NO.out, (BV8.out.alloc _).kept HK9 NV.out⟩
                case measure => simp [intOf]; omega
            · obtain rfl : cc = b := by omega
              go_wp2
              go_roundw
              case rel => exact ⟨cc + 1, by omega, by go_num, by rw [HQ2.out]; exact HO6.out, KC.out, HBO6.out⟩
              case measure => simp [intOf]; omega
        · obtain rfl : b = o.uses.length := by omega
          rw [orderRTo_all] at HO4 ⊢
          go_wp2
          go_roundw
          case rel => exact ⟨a + 1, by omega, by go_num, by rw [HQ.out]; exact HO4.out, KB.out⟩
          case measure => simp [intOf]; omega
    · obtain rfl : a = os.length := by omega
      rw [List.take_length] at HO1 hDl ⊢
      go_wp2
      go_ret
      exact ⟨_, rfl, HO1.out, by unfold refArcs; omega, KR.out⟩

end Go.Proofs.YtbfgmbakeofcbaaGreat
