/- Contracts of the reference's holds, exactly, All. Conditions: as each theorem says. -/
import Derived.Test.YtilbbpbjhoidhaaA05
namespace Go.Proofs.Ytilbbpbjhoidhaa
open Go.RowKit

theorem Ref.eq_of {v u : Ref} (h1 : v.tr = u.tr) (h2 : v.st = u.st) : v = u := by cases v; cases u; simp_all
theorem pairNot (v u : Ref) (h : (v.tr = u.tr ∧ v.st = u.st) ∨ (v.tr = u.tr ∧ u.st < v.st)) : ¬ PairOk v u := by
 rintro ⟨h1, h2⟩
 rcases h with ⟨a, b⟩ | h
 ·exact h1 (Ref.eq_of a b)
 ·exact h2 h
theorem pairYes (v u : Ref) (h : v.tr ≠ u.tr ∨ v.st < u.st) : PairOk v u := by
 refine ⟨fun e => ?_, fun e => ?_⟩
 ·subst e; rcases h with h | h
  ·exact h rfl
  ·omega
 ·omega

set_option maxHeartbeats 400000 in
theorem holds_any (l : List Ref) (u : Ref) (A : Option Addr) (c : Nat) (w : World) (h : RRefs w (Old w) [.slice A l.length c] l) :
  Calls Try.prog 79 #[.slice A l.length c, .agg #[.int .i64 u.tr, .int .i64 u.st]] w fun e w' => e = .returned (.bool (decide (u ∈ l))) ∧ KeepsAll w w' := by
 have hc := h.caps
 have H := Lib.hid h; clear h
 go_enter Try.func79, Try.ntmps79
 go_wp2
 generalize hW : World.alloc w _ = W
 have HB : Hid (Blk W w.heap.size 46 #[.int .i64 u.tr, .int .i64 u.st]) := by subst hW; exact Blk.new _ _ _
 have KW : Hid (KeepsAll w W) := by subst hW; exact (Keeps.refl _ _).alloc _
 clear hW
 go_loopw [9] (fun i wr => ∃ k : Nat, k ≤ l.length ∧ i = .int .i64 k ∧ u ∉ l.take k ∧ KeepsAll W wr) (fun i _ => l.length - (intOf i).toNat)
 case atStart => exact ⟨0, Nat.zero_le _, rfl, by simp, Keeps.refl _ _⟩
 case round =>
  obtain ⟨k, hk, rfl, hno, hkr⟩ := hrel
  have HNO := Lib.hid hno; clear hno
  have KR := Lib.hid hkr; clear hkr
  have B2 := HB.out.kept KR.out (by simp)
  have e0 := B2.cell 0
  have e1 := B2.cell 1
  simp at e0 e1
  have hz := B2.lt
  clear B2
  have HR := KR.out.rdo' RRefs.ok (KW.out.rdo' RRefs.ok H.out)
  by_cases hlt : k < l.length
  ·obtain ⟨b, o, v, rfl, hb, hv, k1, k2⟩ := RRefs.at_ HR hlt
   have QY : Hid (v.tr = u.tr → v.st = u.st → decide (u ∈ l) = true) := fun a1 a2 => by
    rw [Ref.eq_of a1 a2] at hv; simpa using List.mem_of_getElem? hv
   have QN : Hid (¬ (v.tr = u.tr ∧ v.st = u.st) → u ∉ l.take (k + 1)) := fun hn => by
    rw [List.take_add_one, hv]; simp
    exact ⟨by simpa using HNO.out, fun e => hn (by rw [e]; exact ⟨rfl, rfl⟩)⟩
   clear hv HR
   have hb' : b < wr.heap.size := hb
   go_wp2
   ·rename_i a1 a2
    go_ret
    exact ⟨by rw [QY.out a1 a2]; rfl, KW.out.trans (KR.out.alloc _) (fun _ _ h => h)⟩
   ·rename_i a1 a2
    go_roundw
    case rel => exact ⟨k + 1, by omega, by go_num, QN.out (fun h => a2 h.2), KR.out.alloc _⟩
    case measure => simp [intOf]; omega
   ·rename_i a1
    go_roundw
    case rel => exact ⟨k + 1, by omega, by go_num, QN.out (fun h => a1 h.1), KR.out.alloc _⟩
    case measure => simp [intOf]; omega
  ·obtain rfl : k = l.length := by omega
   have Q : Hid (decide (u ∈ l) = false) := by
    show decide (u ∈ l) = false
    have := HNO.out; rw [List.take_length] at this
    simpa using this
   go_wp2
   go_ret
   exact ⟨by rw [Q.out]; rfl, KW.out.trans KR.out (fun _ _ h => h)⟩

theorem pw_take_succ {α : Type} {R : α → α → Prop} {l : List α} {k : Nat} {x : α} (hx : l[k]? = some x) (h1 : (l.take k).Pairwise R) (h2 : ∀ y ∈ l.take k, R y x) : (l.take (k + 1)).Pairwise R := by
 rw [List.take_add_one, hx, Option.toList_some, List.pairwise_append]
 exact ⟨h1, by simp, fun a ha b hb => by simp at hb; subst hb; exact h2 a ha⟩
theorem pw_take_bad {α : Type} {R : α → α → Prop} {l : List α} {j k : Nat} {x y : α} (hx : l[j]? = some x) (hy : l[k]? = some y) (hjk : j < k) (h : ¬ R x y) : ¬ l.Pairwise R := by
 intro hp
 have hj := getElem?_lt hx
 have hk := getElem?_lt hy
 have := List.pairwise_iff_getElem.1 hp j k hj hk hjk
 rw [List.getElem?_eq_getElem hj] at hx
 rw [List.getElem?_eq_getElem hk] at hy
 injection hx with hx; injection hy with hy
 rw [hx, hy] at this; exact h this

set_option maxRecDepth 100000 in
set_option maxHeartbeats 1000000 in
theorem exactly_any (l want : List Ref) (A A2 : Option Addr) (c c2 : Nat) (w : World) (h : RRefs w (Old w) [.slice A l.length c] l) (h2 : RRefs w (Old w) [.slice A2 want.length c2] want) :
    Calls Try.prog 57 #[.slice A l.length c, .slice A2 want.length c2] w fun e w' => e = .returned (.bool (exactlyB l want)) ∧ KeepsAll w w' := by
  have hc := h.caps
  have hc2 := h2.caps
  have H := Lib.hid h; clear h
  have H2 := Lib.hid h2; clear h2
  by_cases g1 : l.length = want.length
  · have g1' : ((l.length : Int) != (want.length : Int)) = false := by simp; omega
    have G1 := Lib.hid g1; clear g1
    go_enter Try.func57, Try.ntmps57
    go_wp2
    go_loopw [16] (fun i wr => ∃ k : Nat, k ≤ l.length ∧ i = .int .i64 k ∧ KeepsAll w wr ∧ (∀ u ∈ l.take k, u ∈ want) ∧ (l.take k).Pairwise PairOk) (fun i _ => l.length - (intOf i).toNat)
    case atStart => exact ⟨0, Nat.zero_le _, rfl, Keeps.refl _ _, by simp, by simp⟩
    case round =>
      obtain ⟨k, hk, rfl, hkr, hall, hpw⟩ := hrel
      have KR := Lib.hid hkr; clear hkr
      have HALL := Lib.hid hall; clear hall
      have HPW := Lib.hid hpw; clear hpw
      by_cases hlt : k < l.length
      · have HR := KR.out.rdo' RRefs.ok H.out
        obtain ⟨b, o, u, rfl, hb, hu, k1, k2⟩ := RRefs.at_ HR hlt
        have hb' : b < wr.heap.size := hb
        have HU := Lib.hid hu; clear hu HR
        have hdk : decide ((k : Int) < (l.length : Int)) = true := by simp; omega
        go_wp2_with fail
        generalize hW : World.alloc wr _ = W
        have HB : Hid (Blk W wr.heap.size 46 #[.int .i64 u.tr, .int .i64 u.st]) := by subst hW; exact Blk.new _ _ _
        have KW : Hid (KeepsAll w W) := by subst hW; exact KR.out.alloc _
        clear hW
        refine (holds_any want u A2 c2 W (KW.out.rdo' RRefs.ok H2.out)).mono ?_
        rintro e w2 ⟨rfl, hk2⟩
        have K2 := Lib.hid (KW.out.trans hk2 (fun _ _ h => h))
        have HB2 := Lib.hid (HB.out.kept hk2 (by simp))
        clear hk2 KW HB k1 k2
        by_cases g2 : u ∈ want
        · have g2' : decide (u ∈ want) = true := by simpa using g2
          have G2 := Lib.hid g2; clear g2
          rw [g2']
          clear g2'
          have hgz := HB2.out.lt
          generalize hg : wr.heap.size = g at HB2 hgz ⊢
          clear hg hb hb' KR
          go_wp2
          go_loopw [29] (fun i w3 => ∃ j : Nat, j ≤ k ∧ i = .int .i64 j ∧ KeepsAll w2 w3 ∧ (∀ v ∈ l.take j, PairOk v u)) (fun i _ => k - (intOf i).toNat)
          case atStart => exact ⟨0, Nat.zero_le _, rfl, Keeps.refl _ _, by simp⟩
          case round =>
            obtain ⟨j, hj, rfl, hkj, hpj⟩ := hrel
            have KJ := Lib.hid hkj; clear hkj
            have HPJ := Lib.hid hpj; clear hpj
            have B3 := HB2.out.kept KJ.out (by simp)
            have e0 := B3.cell 0
            have e1 := B3.cell 1
            simp at e0 e1
            have hz := B3.lt
            clear B3
            by_cases hjl : j < k
            · have HR := KJ.out.rdo' RRefs.ok (K2.out.rdo' RRefs.ok H.out)
              obtain ⟨b3, o3, v, hbo, hb3, hv, m1, m2⟩ := RRefs.at_ HR (k := j) (by omega)
              injection hbo with hbo; injection hbo with hb1 hb2; subst hb1 hb2
              have QY : Hid (¬ PairOk v u → exactlyB l want = false) := fun hn => by
                have := pw_take_bad hv HU.out hjl hn
                simp [exactlyB, this]
              have QN : Hid (PairOk v u → ∀ x ∈ l.take (j + 1), PairOk x u) := fun hp x hx => by
                rw [List.take_add_one, hv] at hx; simp at hx
                rcases hx with hx | rfl
                · exact HPJ.out x hx
                · exact hp
              have hb4 : b < wr.heap.size := hb3
              clear hv HR hb3
              go_wp2
              all_goals first
                | (go_ret
                   exact ⟨by rw [QY.out (pairNot v u (by omega))]; rfl, K2.out.trans (KJ.out.alloc _) (fun _ _ h => h)⟩)
                | (go_roundw
                   case rel => exact ⟨j + 1, by omega, by go_num, KJ.out.alloc _, QN.out (pairYes v u (by omega))⟩
                   case measure => simp [intOf]; omega)
            · obtain rfl : j = k := by omega
              have Q1 : Hid (∀ x ∈ l.take (j + 1), x ∈ want) := fun x hx => by
                rw [List.take_add_one, HU.out] at hx; simp at hx
                rcases hx with hx | rfl
                · exact HALL.out x hx
                · exact G2.out
              have Q2 := Lib.hid (pw_take_succ HU.out HPW.out HPJ.out)
              go_wp2
              go_roundw
              case rel => exact ⟨j + 1, by omega, by go_num, K2.out.trans KJ.out (fun _ _ h => h), Q1.out, Q2.out⟩
              case measure => simp [intOf]; omega
        · have g2' : decide (u ∈ want) = false := by simpa using g2
          have Q : Hid (exactlyB l want = false) := by
            show exactlyB l want = false
            have : l.all (fun u => decide (u ∈ want)) = false := by
              rw [List.all_eq_false]; exact ⟨u, List.mem_of_getElem? HU.out, by simpa using g2⟩
            simp [exactlyB, this]
          rw [g2']
          clear g2 g2'
          go_wp2
          go_ret
          exact ⟨by rw [Q.out]; rfl, K2.out⟩
      · obtain rfl : k = l.length := by omega
        have Q : Hid (exactlyB l want = true) := by
          show exactlyB l want = true
          have h1 := HALL.out; have h2 := HPW.out
          rw [List.take_length] at h1 h2
          simp [exactlyB, G1.out, h2]; exact h1
        go_wp2
        go_ret
        exact ⟨by rw [Q.out]; rfl, KR.out⟩
  · have g1' : ((l.length : Int) != (want.length : Int)) = true := by simp; omega
    have Q : Hid (exactlyB l want = false) := by show exactlyB l want = false; simp [exactlyB, g1]
    go_enter Try.func57, Try.ntmps57
    go_wp2
    go_ret
    exact ⟨by rw [Q.out]; rfl, Keeps.refl _ _⟩

theorem tyRef : ElemTy Try.prog 42 46 2 16 := .mk' Try.underlying42 (z := .agg #[.int .i64 0, .int .i64 0]) (by kernel_rfl) rfl (by omega)
theorem pathAll_le (r : Int) (t : Nat) (p : List Stage) : (pathAll r t p).length ≤ p.length := by
 unfold pathAll
 rw [List.length_flatMap]
 have : ∀ (l : List Stage) (k : Nat), ((l.zipIdx k).map fun a => (if r ∈ stUses a.1 then [(⟨(t : Int), (a.2 : Int)⟩ : Ref)] else []).length).sum ≤ l.length := by
  intro l
  induction l with
  | nil => intro k; simp
  | cons s l ih =>
   intro k
   have := ih (k + 1)
   simp only [List.zipIdx_cons, List.map_cons, List.sum_cons, List.length_cons]
   split <;> simp <;> omega
 exact this p 0
theorem allU_le {ps : List (List Stage)} (hv : ∀ p ∈ ps, p.length ≤ 64) (r : Int) : ∀ t : Nat, t ≤ ps.length → (allU (ps.take t) r).length ≤ t * 64
 | 0, _ => by simp [allU]
 | t + 1, ht => by
  have hp : ps[t]? = some ps[t] := List.getElem?_eq_getElem (by omega)
  rw [allU_succ r hp, List.length_append]
  have h1 := allU_le hv r t (by omega)
  have h2 := pathAll_le r t ps[t]
  have h3 := hv ps[t] (List.getElem_mem _)
  omega

set_option maxRecDepth 100000 in
set_option maxHeartbeats 1000000 in
theorem All_any (ps : List (List Stage)) (r : Int) (A : Option Addr) (c : Nat) (w : World) (hv : valid ps = true) (h : RPaths w (Old w) [.slice A ps.length c] ps) :
  Calls Try.prog 77 #[.slice A ps.length c, .int .i64 r] w fun e w' => ∃ v, e = .returned v ∧ OwnL 46 2 RRef w' w.heap.size w.heap.size v (allU ps r) ∧ KeepsAll w w' := by
 have hc := h.caps
 have H := Lib.hid h; clear h
 have hlen := valid_lens hv
 have hl10 := hlen.1
 have HLEN := Lib.hid hlen.2; clear hlen
 have HV := Lib.hid hv; clear hv
 go_enter Try.func77, Try.ntmps77
 go_wp2
 go_loopw [5, 14] (fun v i wr => ∃ t : Nat, t ≤ ps.length ∧ i = .int .i64 t ∧ OwnL 46 2 RRef wr w.heap.size w.heap.size v (allU (ps.take t) r) ∧ KeepsAll w wr) (fun _ i _ => ps.length - (intOf i).toNat)
 case atStart => exact ⟨0, Nat.zero_le _, rfl, OwnL.nil, Keeps.refl _ _⟩
 case round =>
  obtain ⟨t, ht, rfl, ho, hkr⟩ := hrel
  obtain ⟨Aa, ca, rfl, hca, hca2⟩ := ho.form
  have HO := Lib.hid ho; clear ho
  have KR := Lib.hid hkr; clear hkr
  have hsz := KR.out.size
  by_cases hlt : t < ps.length
  ·obtain ⟨b, o, p, A', c', rfl, hb, hp, k1, hr⟩ := RSS.atK KR.out H.out hlt
   have hcp := hr.caps
   have HP := Lib.hid hp; clear hp
   have HPR := Lib.hid hr; clear hr
   have hpl := (HLEN.out p (List.mem_of_getElem? HP.out)).2
   have hDl := allU_le (fun p hp => (HLEN.out p hp).2) r t ht
   have HQ : Hid (allU (ps.take (t + 1)) r = allU (ps.take t) r ++ pathAll r t p) := allU_succ r HP.out
   generalize allU (ps.take t) r = D at HO HQ hDl hca ⊢
   have hdt : decide ((t : Int) < (ps.length : Int)) = true := by simp; omega
   obtain ⟨wo, rfl⟩ : ∃ wo : World, wo = wr := ⟨_, rfl⟩
   go_wp2
   go_loopw [5, 21] (fun v i wr => ∃ k : Nat, k ≤ p.length ∧ i = .int .i64 k ∧ OwnL 46 2 RRef wr w.heap.size w.heap.size v (D ++ pathAll r t (p.take k)) ∧ KeepsAll w wr) (fun _ i _ => p.length - (intOf i).toNat)
   case atStart => exact ⟨0, Nat.zero_le _, rfl, by simpa [pathAll_nil] using HO.out, KR.out⟩
   case round =>
    obtain ⟨k, hk, rfl, ho2, hk2⟩ := hrel
    obtain ⟨Ab, cb, rfl, hcb, hcb2⟩ := ho2.form
    have HO2 := Lib.hid ho2; clear ho2
    have K2 := Lib.hid hk2; clear hk2
    have hsz2 := K2.out.size
    have hEl : (D ++ pathAll r t (p.take k)).length ≤ 640 + k := by
     have h1 := pathAll_le r t (p.take k)
     have h2 : (p.take k).length ≤ k := by simp; omega
     rw [List.length_append]; omega
    by_cases hlt2 : k < p.length
    ·obtain ⟨b2, o2, s, A2, c2, rfl, hb2, hs, m0, m1, m2, m3, hpts⟩ := RPath.atK K2.out HPR.out hlt2
     have HQ2 : Hid (D ++ pathAll r t (p.take (k + 1)) = (D ++ pathAll r t (p.take k)) ++ (if r ∈ stUses s then [⟨(t : Int), (k : Int)⟩] else [])) := by
      show _ = _
      rw [pathAll_succ r t hs, List.append_assoc]
     have HPT := Lib.hid hpts; clear hpts hs
     generalize D ++ pathAll r t (p.take k) = L at HO2 HQ2 hEl hcb ⊢
     go_wp2_with fail
     generalize hW : World.alloc wr _ = W
     have KW : Hid (KeepsAll w W) := by subst hW; exact K2.out.alloc _
     have HOW : Hid (OwnL 46 2 RRef W w.heap.size w.heap.size (.slice Ab L.length cb) L) := by subst hW; exact HO2.out.alloc RRef.ok _
     clear hW m0 m1 m2 m3 HO2 K2
     refine (Uses_any s r A2 c2 W (KW.out.rdo' RInts.ok HPT.out)).mono ?_
     rintro e w3 ⟨rfl, hk3⟩
     have K3 := Lib.hid (KW.out.tr hk3)
     have HO3 := Lib.hid (HOW.out.keeps RRef.ok hk3 (fun _ _ h => h.elim))
     have hsz3 := K3.out.size
     clear hk3 KW HOW
     generalize (s.sec == r) = sb
     by_cases g : r ∈ stUses s
     ·have g' : decide (r ∈ stUses s) = true := by simpa using g
      have HQ3 : Hid (D ++ pathAll r t (p.take (k + 1)) = L ++ [⟨(t : Int), (k : Int)⟩]) := by rw [HQ2.out, if_pos g]; rfl
      rw [g']
      clear g g' HQ2
      go_wp2_with (at_builtin; refine wpList_append_L tyRef RRef.ok rfl (.tmp 33) (.tmp 37) rfl (HO3.out.alloc RRef.ok _) rfl _ [.int .i64 (t : Int), .int .i64 (k : Int)] rfl (Blk.new' _ _ _ (by simp)) rfl ⟨(t : Int), (k : Int)⟩ (S := fun _ => False) rfl (fun _ h => h.elim) (by simp [Value.oneCell']) (by omega) (by omega) (by simp; omega) ?_; intro v4 w4 HO4 HK4 HA4; obtain ⟨A6, c6x, hv6, _, _⟩ := HO4.form; rw [List.length_append, List.length_singleton] at hv6; subst hv6)
      go_roundw
      case rel => exact ⟨k + 1, by omega, by go_num, by rw [HQ3.out]; exact HO4, ((K3.out.alloc _).trans HK4 (fun x hx e => (by have := HO3.out.lt e; omega)))⟩
      case measure => simp [intOf]; omega
     ·have g' : decide (r ∈ stUses s) = false := by simpa using g
      have HQ3 : Hid (D ++ pathAll r t (p.take (k + 1)) = L) := by rw [HQ2.out, if_neg g, List.append_nil]; rfl
      rw [g']
      clear g g' HQ2
      go_wp2
      go_roundw
      case rel => exact ⟨k + 1, by omega, by go_num, by rw [HQ3.out]; exact HO3.out, K3.out⟩
      case measure => simp [intOf]; omega
    ·obtain rfl : k = p.length := by omega
     have e : p.take p.length = p := List.take_length
     rw [e] at HO2 ⊢
     clear e
     go_wp2
     go_roundw
     case rel => exact ⟨t + 1, by omega, by go_num, by rw [HQ.out]; exact HO2.out, K2.out⟩
     case measure => simp [intOf]; omega
  ·obtain rfl : t = ps.length := by omega
   have e : ps.take ps.length = ps := List.take_length
   rw [e] at HO ⊢
   clear e
   go_wp2
   go_ret
   exact ⟨_, rfl, HO.out, KR.out⟩

end Go.Proofs.Ytilbbpbjhoidhaa
