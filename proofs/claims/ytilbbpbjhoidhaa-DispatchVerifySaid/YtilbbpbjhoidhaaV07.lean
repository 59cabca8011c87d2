/- Contracts of the reference's holds, exactly, All. Conditions: as each theorem says. Contract of the reference's Valid: it returns what precedence.Valid returns. Conditions: as each theorem says. Contract of the reference's Check. Conditions: as the theorem says. Contract of precedence.proper. Conditions: as the theorem says. -/
import Derived.Test.YtilbbpbjhoidhaaV05
import Derived.Test.YtilbbpbjhoidhaaV02
namespace Go.Proofs.Ytilbbpbjhoidhaa
open Go.RowKit

theorem Ref.eq_of {v u : Ref} (h1 : v.tr = u.tr) (h2 : v.st = u.st) : v = u := by cases v; cases u; simp_all
theorem pairNot (v u : Ref) (h : (v.tr = u.tr ∧ v.st = u.st) ∨ (v.tr = u.tr ∧ u.st < v.st)) : ¬ PairOk v u := by
 rintro ⟨h1, h2⟩
 rcases h with ⟨a, b⟩ | h
 ·exact h1 (Ref.eq_of a b)
 ·exact h2 h
theorem pairYes (v u : Ref) (h : v.tr ≠ u.tr ∨ v.st < u.st) : PairOk v u := by
 refine ⟨fun e => ?_, fun e => ?_⟩
 ·subst e; rcases h with h | h
  ·exact h rfl
  ·omega
 ·omega

set_option maxHeartbeats 400000 in
theorem holds_any (l : List Ref) (u : Ref) (A : Option Addr) (c : Nat) (w : World) (h : RRefs w (Old w) [.slice A l.length c] l) :
  Calls Try.prog 79 #[.slice A l.length c, .agg #[.int .i64 u.tr, .int .i64 u.st]] w fun e w' => e = .returned (.bool (decide (u ∈ l))) ∧ KeepsAll w w' := by
 have hc := h.caps
 have H := Lib.hid h; clear h
 go_enter Try.func79, Try.ntmps79
 go_wp2
 generalize hW : World.alloc w _ = W
 have HB : Hid (Blk W w.heap.size 46 #[.int .i64 u.tr, .int .i64 u.st]) := by subst hW; exact Blk.new _ _ _
 have KW : Hid (KeepsAll w W) := by subst hW; exact (Keeps.refl _ _).alloc _
 clear hW
 go_loopw [9] (fun i wr => ∃ k : Nat, k ≤ l.length ∧ i = .int .i64 k ∧ u ∉ l.take k ∧ KeepsAll W wr) (fun i _ => l.length - (intOf i).toNat)
 case atStart => exact ⟨0, Nat.zero_le _, rfl, by simp, Keeps.refl _ _⟩
 case round =>
  obtain ⟨k, hk, rfl, hno, hkr⟩ := hrel
  have HNO := Lib.hid hno; clear hno
  have KR := Lib.hid hkr; clear hkr
  have B2 := HB.out.kept KR.out (by simp)
  have e0 := B2.cell 0
  have e1 := B2.cell 1
  simp at e0 e1
  have hz := B2.lt
  clear B2
  have HR := KR.out.rdo' RRefs.ok (KW.out.rdo' RRefs.ok H.out)
  by_cases hlt : k < l.length
  ·obtain ⟨b, o, v, rfl, hb, hv, k1, k2⟩ := RRefs.at_ HR hlt
   have QY : Hid (v.tr = u.tr → v.st = u.st → decide (u ∈ l) = true) := fun a1 a2 => by
    rw [Ref.eq_of a1 a2] at hv; simpa using List.mem_of_getElem? hv
   have QN : Hid (¬ (v.tr = u.tr ∧ v.st = u.st) → u ∉ l.take (k + 1)) := fun hn => by
    rw [List.take_add_one, hv]; simp
    exact ⟨by simpa using HNO.out, fun e => hn (by rw [e]; exact ⟨rfl, rfl⟩)⟩
   clear hv HR
   have hb' : b < wr.heap.size := hb
   go_wp2
   ·rename_i a1 a2
    go_ret
    exact ⟨by rw [QY.out a1 a2]; rfl, KW.out.trans (KR.out.alloc _) (fun _ _ h => h)⟩
   ·rename_i a1 a2
    go_roundw
    case rel => exact ⟨k + 1, by omega, by go_num, QN.out (fun h => a2 h.2), KR.out.alloc _⟩
    case measure => simp [intOf]; omega
   ·rename_i a1
    go_roundw
    case rel => exact ⟨k + 1, by omega, by go_num, QN.out (fun h => a1 h.1), KR.out.alloc _⟩
    case measure => simp [intOf]; omega
  ·obtain rfl : k = l.length := by omega
   have Q : Hid (decide (u ∈ l) = false) := by
    show decide (u ∈ l) = false
    have := HNO.out; rw [List.take_length] at this
    simpa using this
   go_wp2
   go_ret
   exact ⟨by rw [Q.out]; rfl, KW.out.trans KR.out (fun _ _ h => h)⟩

theorem pw_take_succ {α : Type} {R : α → α → Prop} {l : List α} {k : Nat} {x : α} (hx : l[k]? = some x) (h1 : (l.take k).Pairwise R) (h2 : ∀ y ∈ l.take k, R y x) : (l.take (k + 1)).Pairwise R := by
 rw [List.take_add_one, hx, Option.toList_some, List.pairwise_append]
 exact ⟨h1, by simp, fun a ha b hb => by simp at hb; subst hb; exact h2 a ha⟩
theorem pw_take_bad {α : Type} {R : α → α → Prop} {l : List α} {j k : Nat} {x y : α} (hx : l[j]? = some x) (hy : l[k]? = some y) (hjk : j < k) (h : ¬ R x y) : ¬ l.Pairwise R := by
 intro hp
 have hj := getElem?_lt hx
 have hk := getElem?_lt hy
 have := List.pairwise_iff_getElem.1 hp j k hj hk hjk
 rw [List.getElem?_eq_getElem hj] at hx
 rw [List.getElem?_eq_getElem hk] at hy
 injection hx with hx; injection hy with hy
 rw [hx, hy] at this; exact h this

set_option maxRecDepth 100000 in
set_option maxHeartbeats 1000000 in
theorem exactly_any (l want : List Ref) (A A2 : Option Addr) (c c2 : Nat) (w : World) (h : RRefs w (Old w) [.slice A l.length c] l) (h2 : RRefs w (Old w) [.slice A2 want.length c2] want) :
    Calls Try.prog 57 #[.slice A l.length c, .slice A2 want.length c2] w fun e w' => e = .returned (.bool (exactlyB l want)) ∧ KeepsAll w w' := by
  have hc := h.caps
  have hc2 := h2.caps
  have H := Lib.hid h; clear h
  have H2 := Lib.hid h2; clear h2
  by_cases g1 : l.length = want.length
  · have g1' : ((l.length : Int) != (want.length : Int)) = false := by simp; omega
    have G1 := Lib.hid g1; clear g1
    go_enter Try.func57, Try.ntmps57
    go_wp2
    go_loopw [16] (fun i wr => ∃ k : Nat, k ≤ l.length ∧ i = .int .i64 k ∧ KeepsAll w wr ∧ (∀ u ∈ l.take k, u ∈ want) ∧ (l.take k).Pairwise PairOk) (fun i _ => l.length - (intOf i).toNat)
    case atStart => exact ⟨0, Nat.zero_le _, rfl, Keeps.refl _ _, by simp, by simp⟩
    case round =>
      obtain ⟨k, hk, rfl, hkr, hall, hpw⟩ := hrel
      have KR := Lib.hid hkr; clear hkr
      have HALL := Lib.hid hall; clear hall
      have HPW := Lib.hid hpw; clear hpw
      by_cases hlt : k < l.length
      · have HR := KR.out.rdo' RRefs.ok H.out
        obtain ⟨b, o, u, rfl, hb, hu, k1, k2⟩ := RRefs.at_ HR hlt
        have hb' : b < wr.heap.size := hb
        have HU := Lib.hid hu; clear hu HR
        have hdk : decide ((k : Int) < (l.length : Int)) = true := by simp; omega
        go_wp2_with fail
        generalize hW : World.alloc wr _ = W
        have HB : Hid (Blk W wr.heap.size 46 #[.int .i64 u.tr, .int .i64 u.st]) := by subst hW; exact Blk.new _ _ _
        have KW : Hid (KeepsAll w W) := by subst hW; exact KR.out.alloc _
        clear hW
        refine (holds_any want u A2 c2 W (KW.out.rdo' RRefs.ok H2.out)).mono ?_
        rintro e w2 ⟨rfl, hk2⟩
        have K2 := Lib.hid (KW.out.trans hk2 (fun _ _ h => h))
        have HB2 := Lib.hid (HB.out.kept hk2 (by simp))
        clear hk2 KW HB k1 k2
        by_cases g2 : u ∈ want
        · have g2' : decide (u ∈ want) = true := by simpa using g2
          have G2 := Lib.hid g2; clear g2
          rw [g2']
          clear g2'
          have hgz := HB2.out.lt
          generalize hg : wr.heap.size = g at HB2 hgz ⊢
          clear hg hb hb' KR
          go_wp2
          go_loopw [29] (fun i w3 => ∃ j : Nat, j ≤ k ∧ i = .int .i64 j ∧ KeepsAll w2 w3 ∧ (∀ v ∈ l.take j, PairOk v u)) (fun i _ => k - (intOf i).toNat)
          case atStart => exact ⟨0, Nat.zero_le _, rfl, Keeps.refl _ _, by simp⟩
          case round =>
            obtain ⟨j, hj, rfl, hkj, hpj⟩ := hrel
            have KJ := Lib.hid hkj; clear hkj
            have HPJ := Lib.hid hpj; clear hpj
            have B3 := HB2.out.kept KJ.out (by simp)
            have e0 := B3.cell 0
            have e1 := B3.cell 1
            simp at e0 e1
            have hz := B3.lt
            clear B3
            by_cases hjl : j < k
            · have HR := KJ.out.rdo' RRefs.ok (K2.out.rdo' RRefs.ok H.out)
              obtain ⟨b3, o3, v, hbo, hb3, hv, m1, m2⟩ := RRefs.at_ HR (k := j) (by omega)
              injection hbo with hbo; injection hbo with hb1 hb2; subst hb1 hb2
              have QY : Hid (¬ PairOk v u → exactlyB l want = false) := fun hn => by
                have := pw_take_bad hv HU.out hjl hn
                simp [exactlyB, this]
              have QN : Hid (PairOk v u → ∀ x ∈ l.take (j + 1), PairOk x u) := fun hp x hx => by
                rw [List.take_add_one, hv] at hx; simp at hx
                rcases hx with hx | rfl
                · exact HPJ.out x hx
                · exact hp
              have hb4 : b < wr.heap.size := hb3
              clear hv HR hb3
              go_wp2
              all_goals first
                | (go_ret
                   exact ⟨by rw [QY.out (pairNot v u (by omega))]; rfl, K2.out.trans (KJ.out.alloc _) (fun _ _ h => h)⟩)
                | (go_roundw
                   case rel => exact ⟨j + 1, by omega, by go_num, KJ.out.alloc _, QN.out (pairYes v u (by omega))⟩
                   case measure => simp [intOf]; omega)
            · obtain rfl : j = k := by omega
              have Q1 : Hid (∀ x ∈ l.take (j + 1), x ∈ want) := fun x hx => by
                rw [List.take_add_one, HU.out] at hx; simp at hx
                rcases hx with hx | rfl
                · exact HALL.out x hx
                · exact G2.out
              have Q2 := Lib.hid (pw_take_succ HU.out HPW.out HPJ.out)
              go_wp2
              go_roundw
              case rel => exact ⟨j + 1, by omega, by go_num, K2.out.trans KJ.out (fun _ _ h => h), Q1.out, Q2.out⟩
              case measure => simp [intOf]; omega
        · have g2' : decide (u ∈ want) = false := by simpa using g2
          have Q : Hid (exactlyB l want = false) := by
            show exactlyB l want = false
            have : l.all (fun u => decide (u ∈ want)) = false := by
              rw [List.all_eq_false]; exact ⟨u, List.mem_of_getElem? HU.out, by simpa using g2⟩
            simp [exactlyB, this]
          rw [g2']
          clear g2 g2'
          go_wp2
          go_ret
          exact ⟨by rw [Q.out]; rfl, K2.out⟩
      · obtain rfl : k = l.length := by omega
        have Q : Hid (exactlyB l want = true) := by
          show exactlyB l want = true
          have h1 := HALL.out; have h2 := HPW.out
          rw [List.take_length] at h1 h2
          simp [exactlyB, G1.out, h2]; exact h1
        go_wp2
        go_ret
        exact ⟨by rw [Q.out]; rfl, KR.out⟩
  · have g1' : ((l.length : Int) != (want.length : Int)) = true := by simp; omega
    have Q : Hid (exactlyB l want = false) := by show exactlyB l want = false; simp [exactlyB, g1]
    go_enter Try.func57, Try.ntmps57
    go_wp2
    go_ret
    exact ⟨by rw [Q.out]; rfl, Keeps.refl _ _⟩

theorem tyRef : ElemTy Try.prog 42 46 2 16 := .mk' Try.underlying42 (z := .agg #[.int .i64 0, .int .i64 0]) (by kernel_rfl) rfl (by omega)
theorem pathAll_le (r : Int) (t : Nat) (p : List Stage) : (pathAll r t p).length ≤ p.length := by
 unfold pathAll
 rw [List.length_flatMap]
 have : ∀ (l : List Stage) (k : Nat), ((l.zipIdx k).map fun a => (if r ∈ stUses a.1 then [(⟨(t : Int), (a.2 : Int)⟩ : Ref)] else []).length).sum ≤ l.length := by
  intro l
  induction l with
  | nil => intro k; simp
  | cons s l ih =>
   intro k
   have := ih (k + 1)
   simp only [List.zipIdx_cons, List.map_cons, List.sum_cons, List.length_cons]
   split <;> simp <;> omega
 exact this p 0
theorem allU_le {ps : List (List Stage)} (hv : ∀ p ∈ ps, p.length ≤ 64) (r : Int) : ∀ t : Nat, t ≤ ps.length → (allU (ps.take t) r).length ≤ t * 64
 | 0, _ => by simp [allU]
 | t + 1, ht => by
  have hp : ps[t]? = some ps[t] := List.getElem?_eq_getElem (by omega)
  rw [allU_succ r hp, List.length_append]
  have h1 := allU_le hv r t (by omega)
  have h2 := pathAll_le r t ps[t]
  have h3 := hv ps[t] (List.getElem_mem _)
  omega

set_option maxRecDepth 100000 in
set_option maxHeartbeats 1000000 in
theorem All_any (ps : List (List Stage)) (r : Int) (A : Option Addr) (c : Nat) (w : World) (hv : valid ps = true) (h : RPaths w (Old w) [.slice A ps.length c] ps) :
  Calls Try.prog 77 #[.slice A ps.length c, .int .i64 r] w fun e w' => ∃ v, e = .returned v ∧ OwnL 46 2 RRef w' w.heap.size w.heap.size v (allU ps r) ∧ KeepsAll w w' := by
 have hc := h.caps
 have H := Lib.hid h; clear h
 have hlen := valid_lens hv
 have hl10 := hlen.1
 have HLEN := Lib.hid hlen.2; clear hlen
 have HV := Lib.hid hv; clear hv
 go_enter Try.func77, Try.ntmps77
 go_wp2
 go_loopw [5, 14] (fun v i wr => ∃ t : Nat, t ≤ ps.length ∧ i = .int .i64 t ∧ OwnL 46 2 RRef wr w.heap.size w.heap.size v (allU (ps.take t) r) ∧ KeepsAll w wr) (fun _ i _ => ps.length - (intOf i).toNat)
 case atStart => exact ⟨0, Nat.zero_le _, rfl, OwnL.nil, Keeps.refl _ _⟩
 case round =>
  obtain ⟨t, ht, rfl, ho, hkr⟩ := hrel
  obtain ⟨Aa, ca, rfl, hca, hca2⟩ := ho.form
  have HO := Lib.hid ho; clear ho
  have KR := Lib.hid hkr; clear hkr
  have hsz := KR.out.size
  by_cases hlt : t < ps.length
  ·obtain ⟨b, o, p, A', c', rfl, hb, hp, k1, hr⟩ := RSS.atK KR.out H.out hlt
   have hcp := hr.caps
   have HP := Lib.hid hp; clear hp
   have HPR := Lib.hid hr; clear hr
   have hpl := (HLEN.out p (List.mem_of_getElem? HP.out)).2
   have hDl := allU_le (fun p hp => (HLEN.out p hp).2) r t ht
   have HQ : Hid (allU (ps.take (t + 1)) r = allU (ps.take t) r ++ pathAll r t p) := allU_succ r HP.out
   generalize allU (ps.take t) r = D at HO HQ hDl hca ⊢
   have hdt : decide ((t : Int) < (ps.length : Int)) = true := by simp; omega
   obtain ⟨wo, rfl⟩ : ∃ wo : World, wo = wr := ⟨_, rfl⟩
   go_wp2
   go_loopw [5, 21] (fun v i wr => ∃ k : Nat, k ≤ p.length ∧ i = .int .i64 k ∧ OwnL 46 2 RRef wr w.heap.size w.heap.size v (D ++ pathAll r t (p.take k)) ∧ KeepsAll w wr) (fun _ i _ => p.length - (intOf i).toNat)
   case atStart => exact ⟨0, Nat.zero_le _, rfl, by simpa [pathAll_nil] using HO.out, KR.out⟩
   case round =>
    obtain ⟨k, hk, rfl, ho2, hk2⟩ := hrel
    obtain ⟨Ab, cb, rfl, hcb, hcb2⟩ := ho2.form
    have HO2 := Lib.hid ho2; clear ho2
    have K2 := Lib.hid hk2; clear hk2
    have hsz2 := K2.out.size
    have hEl : (D ++ pathAll r t (p.take k)).length ≤ 640 + k := by
     have h1 := pathAll_le r t (p.take k)
     have h2 : (p.take k).length ≤ k := by simp; omega
     rw [List.length_append]; omega
    by_cases hlt2 : k < p.length
    ·obtain ⟨b2, o2, s, A2, c2, rfl, hb2, hs, m0, m1, m2, m3, hpts⟩ := RPath.atK K2.out HPR.out hlt2
     have HQ2 : Hid (D ++ pathAll r t (p.take (k + 1)) = (D ++ pathAll r t (p.take k)) ++ (if r ∈ stUses s then [⟨(t : Int), (k : Int)⟩] else [])) := by
      show _ = _
      rw [pathAll_succ r t hs, List.append_assoc]
     have HPT := Lib.hid hpts; clear hpts hs
     generalize D ++ pathAll r t (p.take k) = L at HO2 HQ2 hEl hcb ⊢
     go_wp2_with fail
     generalize hW : World.alloc wr _ = W
     have KW : Hid (KeepsAll w W) := by subst hW; exact K2.out.alloc _
     have HOW : Hid (OwnL 46 2 RRef W w.heap.size w.heap.size (.slice Ab L.length cb) L) := by subst hW; exact HO2.out.alloc RRef.ok _
     clear hW m0 m1 m2 m3 HO2 K2
     refine (Uses_any s r A2 c2 W (KW.out.rdo' RInts.ok HPT.out)).mono ?_
     rintro e w3 ⟨rfl, hk3⟩
     have K3 := Lib.hid (KW.out.tr hk3)
     have HO3 := Lib.hid (HOW.out.keeps RRef.ok hk3 (fun _ _ h => h.elim))
     have hsz3 := K3.out.size
     clear hk3 KW HOW
     generalize (s.sec == r) = sb
     by_cases g : r ∈ stUses s
     ·have g' : decide (r ∈ stUses s) = true := by simpa using g
      have HQ3 : Hid (D ++ pathAll r t (p.take (k + 1)) = L ++ [⟨(t : Int), (k : Int)⟩]) := by rw [HQ2.out, if_pos g]; rfl
      rw [g']
      clear g g' HQ2
      go_wp2_with (at_builtin; refine wpList_append_L tyRef RRef.ok rfl (.tmp 33) (.tmp 37) rfl (HO3.out.alloc RRef.ok _) rfl _ [.int .i64 (t : Int), .int .i64 (k : Int)] rfl (Blk.new' _ _ _ (by simp)) rfl ⟨(t : Int), (k : Int)⟩ (S := fun _ => False) rfl (fun _ h => h.elim) (by simp [Value.oneCell']) (by omega) (by omega) (by simp; omega) ?_; intro v4 w4 HO4 HK4 HA4; obtain ⟨A6, c6x, hv6, _, _⟩ := HO4.form; rw [List.length_append, List.length_singleton] at hv6; subst hv6)
      go_roundw
      case rel => exact ⟨k + 1, by omega, by go_num, by rw [HQ3.out]; exact HO4, ((K3.out.alloc _).trans HK4 (fun x hx e => (by have := HO3.out.lt e; omega)))⟩
      case measure => simp [intOf]; omega
     ·have g' : decide (r ∈ stUses s) = false := by simpa using g
      have HQ3 : Hid (D ++ pathAll r t (p.take (k + 1)) = L) := by rw [HQ2.out, if_neg g, List.append_nil]; rfl
      rw [g']
      clear g g' HQ2
      go_wp2
      go_roundw
      case rel => exact ⟨k + 1, by omega, by go_num, by rw [HQ3.out]; exact HO3.out, K3.out⟩
      case measure => simp [intOf]; omega
    ·obtain rfl : k = p.length := by omega
     have e : p.take p.length = p := List.take_length
     rw [e] at HO2 ⊢
     clear e
     go_wp2
     go_roundw
     case rel => exact ⟨t + 1, by omega, by go_num, by rw [HQ.out]; exact HO2.out, K2.out⟩
     case measure => simp [intOf]; omega
  ·obtain rfl : t = ps.length := by omega
   have e : ps.take ps.length = ps := List.take_length
   rw [e] at HO ⊢
   clear e
   go_wp2
   go_ret
   exact ⟨_, rfl, HO.out, KR.out⟩

theorem validStage_ext {W : World} (x : Ext W) (s : Stage) (Ap : Option Addr) (cp : Nat) (S : Foot) (h : RInts W S [.slice Ap s.pts.length cp] s.pts) (hS : ∀ b, S b → b < W.heap.size) :
  Calls Try.prog 92 #[.agg #[.int .i64 s.sec, .slice Ap s.pts.length cp, .int .i64 s.mn, .int .i64 s.nt]] x.val fun e w'' => e = .returned (.bool (stageOk s)) ∧ ∃ y : Ext W, w'' = y.val :=
 ext_call x ((validStage_any s Ap cp x.val S (Ext.rd RInts.ok h x hS) (x.old hS)).mono fun _ _ ⟨he, hw⟩ => ⟨he, by rw [hw]; exact (Keeps.refl _ _).alloc _⟩)

set_option maxRecDepth 100000 in
set_option maxHeartbeats 1000000 in
theorem RefValid_any (ps : List (List Stage)) (A : Option Addr) (c : Nat) (w : World) (h : RPaths w (Old w) [.slice A ps.length c] ps) :
  Calls Try.prog 80 #[.slice A ps.length c] w fun e w' => e = .returned (.bool (valid ps)) ∧ KeepsAll w w' := by
 have hc := h.caps
 have H := Lib.hid h; clear h
 by_cases g1 : ps.length ≤ 10
 ·have g1' : decide ((10 : Int) < (ps.length : Int)) = false := by simp; omega
  go_enter Try.func80, Try.ntmps80
  go_wp2
  generalize hw1 : (World.alloc (World.alloc w _) _) = w1
  have hv : VInv w w1 [] [] := by
   subst hw1
   exact ⟨by rw [marks_nil]; exact (Blk.new _ _ _).alloc _, by rw [marks_nil]; exact Blk.new' _ _ _ (by simp), ((Keeps.refl _ _).alloc _).alloc _⟩
  clear hw1
  go_loopw [17] (fun i wr => ∃ k : Nat, k ≤ ps.length ∧ i = .int .i64 k ∧ VInv w wr ((ps.take k).flatten.map (·.sec)) ((ps.take k).flatten.flatMap (·.pts)) ∧ (ps.take k).all pathOk = true) (fun i _ => ps.length - (intOf i).toNat)
  case atStart => exact ⟨0, Nat.zero_le _, rfl, hv, rfl⟩
  case round =>
   obtain ⟨k, hk, rfl, hv1, hall⟩ := hrel
   clear hv
   have HA := Lib.hid hall; clear hall
   by_cases hlt : k < ps.length
   ·obtain ⟨b, o, p, A', c', rfl, hb, hx, hcell, hp⟩ := RSS.at_ H.out hlt
    have hcell' := (hv1.k.cell (p := ⟨b, o + k, none⟩) hb (by simp)).trans hcell
    have hpc := hp.caps
    have HX := Lib.hid hx; clear hx hcell
    have HP := Lib.hid hp; clear hp
    have V : Hid (pathOk p = false → valid ps = false) := fun q => valid_bad HX.out q
    by_cases g2 : 1 ≤ p.length
    rotate_left
    ·have Q := Lib.hid (V.out (by simp [pathOk, g2]))
     have g2' : decide ((p.length : Int) < 1) = true := by simp; omega
     go_wp2
     go_ret
     exact ⟨by rw [Q.out]; rfl, hv1.k⟩
    have g2' : decide ((p.length : Int) < 1) = false := by simp; omega
    by_cases g3 : p.length ≤ 64
    rotate_left
    ·have Q := Lib.hid (V.out (by simp [pathOk, g3]))
     have g3' : decide ((64 : Int) < (p.length : Int)) = true := by simp; omega
     go_wp2
     go_ret
     exact ⟨by rw [Q.out]; rfl, hv1.k⟩
    have g3' : decide ((64 : Int) < (p.length : Int)) = false := by simp; omega
    go_wp2
    obtain ⟨wo, rfl⟩ : ∃ wo : World, wo = wr := ⟨_, rfl⟩
    generalize hD1 : (ps.take k).flatten.map (·.sec) = D1 at hv1
    generalize hD2 : (ps.take k).flatten.flatMap (·.pts) = D2 at hv1
    have HD1 := Lib.hid hD1; clear hD1
    have HD2 := Lib.hid hD2; clear hD2
    go_loopw [31] (fun i wr => ∃ j : Nat, j ≤ p.length ∧ i = .int .i64 j ∧ VInv w wr (D1 ++ (p.take j).map (·.sec)) (D2 ++ (p.take j).flatMap (·.pts)) ∧ StepsInv p j) (fun i _ => p.length - (intOf i).toNat)
    case atStart => exact ⟨0, Nat.zero_le _, rfl, by simpa using hv1, rfl⟩
    case round =>
     obtain ⟨j, hj, rfl, hv2, hst⟩ := hrel
     clear hv1 hcell'
     by_cases hjlt : j < p.length
     ·obtain ⟨b2, o2, s, A2, c2, rfl, hb2, hx2, k0, k1, k2, k3, hpts⟩ := RPath.at_ HP.out hjlt
      have HX2 := Lib.hid hx2; clear hx2
      have hpts' := hv2.k.rd RInts.ok hpts (fun _ h => ⟨h, by simp⟩) (fun _ h => h)
      have k0' := (hv2.k.cell (p := ⟨b2, o2 + j * 4, none⟩) hb2 (by simp)).trans k0
      have k1' := (hv2.k.cell (p := ⟨b2, o2 + j * 4 + 1, none⟩) hb2 (by simp)).trans k1
      have k2' := (hv2.k.cell (p := ⟨b2, o2 + j * 4 + 2, none⟩) hb2 (by simp)).trans k2
      have k3' := (hv2.k.cell (p := ⟨b2, o2 + j * 4 + 3, none⟩) hb2 (by simp)).trans k3
      clear k0 k1 k2 k3
      have HPT := Lib.hid hpts; clear hpts
      have HPT' := Lib.hid hpts'; clear hpts'
      go_wp2
      generalize hw2 : World.alloc wr _ = W2
      have B2 : Blk W2 wr.heap.size 99 #[.int .i64 s.sec, .slice A2 s.pts.length c2, .int .i64 s.mn, .int .i64 s.nt] := by subst hw2; exact Blk.new _ _ _
      have hv3 : VInv w W2 (D1 ++ (p.take j).map (·.sec)) (D2 ++ (p.take j).flatMap (·.pts)) := by subst hw2; exact hv2.alloc _
      have hz : wr.heap.size < W2.heap.size := B2.lt
      have hz2 := hv2.size
      have HPW := Lib.hid (hv3.k.rd RInts.ok HPT.out (fun _ h => ⟨h, by simp⟩) (fun _ h => h))
      have HB2 := Lib.hid B2
      have hb3 : b2 < W2.heap.size := by have := hv3.size; have : b2 < w.heap.size := hb2; omega
      have e0 := B2.cell 0
      have e1 := B2.cell 1
      have e2 := B2.cell 2
      have e3 := B2.cell 3
      simp at e0 e1 e2 e3
      clear k0' k1' k2' k3' hw2 B2 HPT' hv2
      have HV3 := Lib.hid hv3; clear hv3
      have HQ : Hid (∀ b, Old w b → b < W2.heap.size) := fun b hb => by have := HV3.out.size; have : b < w.heap.size := hb; omega
      by_cases g4 : stageOk s = true
      rotate_left
      ·have g4' : stageOk s = false := by simpa using g4
       have Q := Lib.hid (V.out (hst.stop HX2.out (by simp [stepOk, g4'])))
       refine wp_region_ext (by kernel_rfl) (by kernel_rfl) ?_
       have x0 := Ext.cell e0
       have x1 := Ext.cell e1
       have x2 := Ext.cell e2
       have x3 := Ext.cell e3
       repeat (go_big_quiet_step ((go_at_call 92; exact validStage_ext _ s A2 c2 (Old w) HPW.out HQ.out)))
       refine wpQuiet_nil ?_
       rintro _ ⟨X, rfl⟩
       go_wp2
       go_ret
       exact ⟨by rw [Q.out]; rfl, HV3.out.k.trans X.keeps (fun _ _ h => h)⟩
      have hsec := stageOk_sec g4
      obtain ⟨m, hm, hm144⟩ := isRes_nat hsec
      have HM := Lib.hid hm; clear hm
      have stay : ∀ (hso : stepOk p j s = true) (X : Ext W2), VInv w X.val (D1 ++ (p.take j).map (·.sec)) (D2 ++ (p.take j).flatMap (·.pts)) := fun _ X =>
       ⟨HV3.out.s.kept X.keeps (by simp), HV3.out.p.kept X.keeps (by simp), HV3.out.k.trans X.keeps (fun _ _ h => h)⟩
      have ST := Lib.hid stay; clear stay
      by_cases g5 : 0 < j
      ·obtain ⟨b4, o4, q, A4, c4, he4, _, hxq, kq, _⟩ := RPath.at_ HP.out (k := j - 1) (by omega)
       injection he4 with he4; injection he4 with he5 he6; subst he5 he6
       have kq' := (HV3.out.k.cell (p := ⟨b2, o2 + (j - 1) * 4, none⟩) hb2 (by simp)).trans kq
       clear kq
       by_cases g6 : (q.sec == s.sec) = true
       ·have Q := Lib.hid (V.out (hst.stop HX2.out (by simp [stepOk, g4, g5, hxq]; simpa using g6)))
        clear hxq
        refine wp_region_ext (by kernel_rfl) (by kernel_rfl) ?_
        have x0 := Ext.cell e0
        have x1 := Ext.cell e1
        have x2 := Ext.cell e2
        have x3 := Ext.cell e3
        have x4 := Ext.cell kq'
        repeat (go_big_quiet_step ((go_at_call 92; exact validStage_ext _ s A2 c2 (Old w) HPW.out HQ.out)))
        refine wpQuiet_nil ?_
        rintro _ ⟨X, rfl⟩
        go_wp2
        go_ret
        exact ⟨by rw [Q.out]; rfl, HV3.out.k.trans X.keeps (fun _ _ h => h)⟩
       ·have g6' : (q.sec == s.sec) = false := by simpa using g6
        have SO : Hid (stepOk p j s = true) := by show stepOk p j s = true; simp [stepOk, g4, g5, hxq]; simpa using g6'
        clear hxq
        refine wp_region_ext (by kernel_rfl) (by kernel_rfl) ?_
        have x0 := Ext.cell e0
        have x1 := Ext.cell e1
        have x2 := Ext.cell e2
        have x3 := Ext.cell e3
        have x4 := Ext.cell kq'
        repeat (go_big_quiet_step ((go_at_call 92; exact validStage_ext _ s A2 c2 (Old w) HPW.out HQ.out)))
        refine wpQuiet_nil ?_
        rintro _ ⟨X, rfl⟩
        have hv4 := ST.out SO.out X
        have BX := HB2.out.kept X.keeps (by simp)
        clear x4 kq'
        generalize X.val = W3 at hv4 BX
        have B3 : Blk W3 wr.heap.size 99 #[.int .i64 s.sec, .slice A2 s.pts.length c2, .int .i64 s.mn, .int .i64 s.nt] := BX
        clear BX x0 x1 x2 x3 e0 e1 e2 e3 X
        have e0 := B3.cell 0
        have e1 := B3.cell 1
        have hs1 := hv4.s.cell m
        rw [cellsB_get _ hm144] at hs1
        have hs2 := hv4.s.frozen m
        simp at e0 e1
        rw [HM.out] at e0
        have HV4 := Lib.hid hv4; clear hv4
        have HB3 := Lib.hid B3; clear B3
        have hzz := HV4.out.size
        go_wp2
        generalize hw5 : World.setCell W3 _ _ = W5
        have hv5 : VInv w W5 (D1 ++ (p.take (j + 1)).map (·.sec)) (D2 ++ (p.take j).flatMap (·.pts)) := by
         subst hw5
         have := HV4.out.sec m
         rw [List.take_add_one, HX2.out]
         simpa [HM.out] using this
        clear hw5 e0 e1 hs1 hs2 HB3 HV4
        obtain ⟨w6, rfl⟩ : ∃ w6 : World, w6 = W5 := ⟨_, rfl⟩
        have HPA := Lib.hid (stageOk_pts g4)
        have hpc2 := HPT.out.caps
        clear hsec
        go_loopw [60] (fun i wr => ∃ t : Nat, t ≤ s.pts.length ∧ i = .int .i64 t ∧ VInv w wr (D1 ++ (p.take (j + 1)).map (·.sec)) (D2 ++ (p.take j).flatMap (·.pts) ++ s.pts.take t)) (fun i _ => s.pts.length - (intOf i).toNat)
        case atStart => exact ⟨0, Nat.zero_le _, rfl, by simpa using hv5⟩
        case round =>
         obtain ⟨t, ht, rfl, hv6⟩ := hrel
         clear hv5
         by_cases htl : t < s.pts.length
         ·obtain ⟨b7, o7, x, rfl, hb7, hx7, k7⟩ := HPT.out.at_ htl
          obtain ⟨n, hn, hn144⟩ := isRes_nat (HPA.out x (List.mem_of_getElem? hx7))
          subst hn
          have k7' := (hv6.k.cell (p := ⟨b7, o7 + t, none⟩) hb7 (by simp)).trans k7
          have q1 := hv6.p.cell n
          rw [cellsB_get _ hn144] at q1
          have q2 := hv6.p.frozen n
          have HV6 : Hid (∀ W, W = wr.setCell ⟨w.heap.size + 1, n, none⟩ (.bool true) → VInv w W (D1 ++ (p.take (j + 1)).map (·.sec)) (D2 ++ (p.take j).flatMap (·.pts) ++ s.pts.take (t + 1))) := by
           intro W hW
           subst hW
           have e : s.pts.take (t + 1) = s.pts.take t ++ [(n : Int)] := by rw [List.take_add_one, hx7]; rfl
           rw [e, ← List.append_assoc]; exact hv6.pt n
          have hz6 := hv6.size
          clear hv6 k7 hx7
          go_wp2
          go_roundw
          case rel => exact ⟨t + 1, by omega, by go_num, HV6.out _ rfl⟩
          case measure => simp [intOf]; omega
         ·obtain rfl : t = s.pts.length := by omega
          have HV7 : Hid (VInv w wr (D1 ++ (p.take (j + 1)).map (·.sec)) (D2 ++ (p.take (j + 1)).flatMap (·.pts))) := by
           have h := hv6
           rw [List.take_length] at h
           show VInv w wr (D1 ++ (p.take (j + 1)).map (·.sec)) (D2 ++ (p.take (j + 1)).flatMap (·.pts))
           have e : (p.take (j + 1)).flatMap (·.pts) = (p.take j).flatMap (·.pts) ++ s.pts := by rw [List.take_add_one, HX2.out]; simp
           rw [e, ← List.append_assoc]; exact h
          clear hv6
          go_wp2
          go_roundw
          case rel => exact ⟨j + 1, by omega, by go_num, HV7.out, hst.step HX2.out SO.out⟩
          case measure => simp [intOf]; omega
      ·have SO : Hid (stepOk p j s = true) := by show stepOk p j s = true; simp [stepOk, g4, g5]
       refine wp_region_ext (by kernel_rfl) (by kernel_rfl) ?_
       have x0 := Ext.cell e0
       have x1 := Ext.cell e1
       have x2 := Ext.cell e2
       have x3 := Ext.cell e3
       have g5' : decide (0 < j) = false := by simpa using g5
       repeat (go_big_quiet_step ((go_at_call 92; exact validStage_ext _ s A2 c2 (Old w) HPW.out HQ.out)))
       refine wpQuiet_nil ?_
       rintro _ ⟨X, rfl⟩
       have hv4 := ST.out SO.out X
       have BX := HB2.out.kept X.keeps (by simp)
       generalize X.val = W3 at hv4 BX
       have B3 : Blk W3 wr.heap.size 99 #[.int .i64 s.sec, .slice A2 s.pts.length c2, .int .i64 s.mn, .int .i64 s.nt] := BX
       clear BX x0 x1 x2 x3 e0 e1 e2 e3 X
       have e0 := B3.cell 0
       have e1 := B3.cell 1
       have hs1 := hv4.s.cell m
       rw [cellsB_get _ hm144] at hs1
       have hs2 := hv4.s.frozen m
       simp at e0 e1
       rw [HM.out] at e0
       have HV4 := Lib.hid hv4; clear hv4
       have HB3 := Lib.hid B3; clear B3
       have hzz := HV4.out.size
       go_wp2
       generalize hw5 : World.setCell W3 _ _ = W5
       have hv5 : VInv w W5 (D1 ++ (p.take (j + 1)).map (·.sec)) (D2 ++ (p.take j).flatMap (·.pts)) := by
        subst hw5
        have := HV4.out.sec m
        rw [List.take_add_one, HX2.out]
        simpa [HM.out] using this
       clear hw5 e0 e1 hs1 hs2 HB3 HV4
       obtain ⟨w6, rfl⟩ : ∃ w6 : World, w6 = W5 := ⟨_, rfl⟩
       have HPA := Lib.hid (stageOk_pts g4)
       have hpc2 := HPT.out.caps
       clear hsec
       go_loopw [60] (fun i wr => ∃ t : Nat, t ≤ s.pts.length ∧ i = .int .i64 t ∧ VInv w wr (D1 ++ (p.take (j + 1)).map (·.sec)) (D2 ++ (p.take j).flatMap (·.pts) ++ s.pts.take t)) (fun i _ => s.pts.length - (intOf i).toNat)
       case atStart => exact ⟨0, Nat.zero_le _, rfl, by simpa using hv5⟩
       case round =>
        obtain ⟨t, ht, rfl, hv6⟩ := hrel
        clear hv5
        by_cases htl : t < s.pts.length
        ·obtain ⟨b7, o7, x, rfl, hb7, hx7, k7⟩ := HPT.out.at_ htl
         obtain ⟨n, hn, hn144⟩ := isRes_nat (HPA.out x (List.mem_of_getElem? hx7))
         subst hn
         have k7' := (hv6.k.cell (p := ⟨b7, o7 + t, none⟩) hb7 (by simp)).trans k7
         have q1 := hv6.p.cell n
         rw [cellsB_get _ hn144] at q1
         have q2 := hv6.p.frozen n
         have HV6 : Hid (∀ W, W = wr.setCell ⟨w.heap.size + 1, n, none⟩ (.bool true) → VInv w W (D1 ++ (p.take (j + 1)).map (·.sec)) (D2 ++ (p.take j).flatMap (·.pts) ++ s.pts.take (t + 1))) := by
          intro W hW
          subst hW
          have e : s.pts.take (t + 1) = s.pts.take t ++ [(n : Int)] := by rw [List.take_add_one, hx7]; rfl
          rw [e, ← List.append_assoc]; exact hv6.pt n
         have hz6 := hv6.size
         clear hv6 k7 hx7
         go_wp2
         go_roundw
         case rel => exact ⟨t + 1, by omega, by go_num, HV6.out _ rfl⟩
         case measure => simp [intOf]; omega
        ·obtain rfl : t = s.pts.length := by omega
         have HV7 : Hid (VInv w wr (D1 ++ (p.take (j + 1)).map (·.sec)) (D2 ++ (p.take (j + 1)).flatMap (·.pts))) := by
          have h := hv6
          rw [List.take_length] at h
          show VInv w wr (D1 ++ (p.take (j + 1)).map (·.sec)) (D2 ++ (p.take (j + 1)).flatMap (·.pts))
          have e : (p.take (j + 1)).flatMap (·.pts) = (p.take j).flatMap (·.pts) ++ s.pts := by rw [List.take_add_one, HX2.out]; simp
          rw [e, ← List.append_assoc]; exact h
         clear hv6
         go_wp2
         go_roundw
         case rel => exact ⟨j + 1, by omega, by go_num, HV7.out, hst.step HX2.out SO.out⟩
         case measure => simp [intOf]; omega
     ·obtain rfl : j = p.length := by omega
      have HV8 : Hid (VInv w wr ((ps.take (k + 1)).flatten.map (·.sec)) ((ps.take (k + 1)).flatten.flatMap (·.pts))) := by
       have h := hv2
       rw [List.take_length, ← HD1.out, ← HD2.out] at h
       show VInv w wr _ _
       have e : (ps.take (k + 1)).flatten = (ps.take k).flatten ++ p := by rw [List.take_add_one, HX.out]; simp
       rw [e, List.map_append, List.flatMap_append]; exact h
      have HA2 : Hid ((ps.take (k + 1)).all pathOk = true) := by
       show (ps.take (k + 1)).all pathOk = true
       rw [List.take_add_one, HX.out]
       simp only [Option.toList_some, List.all_append, HA.out, Bool.true_and, List.all_cons, List.all_nil, Bool.and_true]
       simp [pathOk, g2, g3, hst.done]
      clear hv2
      go_wp2
      go_roundw
      case rel => exact ⟨k + 1, by omega, by go_num, HV8.out, HA2.out⟩
      case measure => simp [intOf]; omega
   ·obtain rfl : k = ps.length := by omega
    have HV9 : Hid (VInv w wr (ps.flatten.map (·.sec)) (ps.flatten.flatMap (·.pts))) := by
     have h := hv1
     rw [List.take_length] at h; exact h
    have HA9 : Hid (valid ps = noClash ps.flatten) := by
     have h := HA.out
     rw [List.take_length] at h
     show valid ps = noClash ps.flatten
     simp [valid, g1, h]
    clear hv1 HA
    go_wp2
    go_loop [69] (fun i => ∃ r : Nat, r ≤ 144 ∧ i = .int .i64 r ∧ NcInv ps.flatten r) (fun i => 144 - (intOf i).toNat)
    case atStart => exact ⟨0, Nat.zero_le _, rfl, fun i hi => absurd hi (by omega)⟩
    case round =>
     obtain ⟨r, hr, rfl, hnc⟩ := hrel
     by_cases hrl : r < 144
     ·have q1 := HV9.out.s.cell r
      rw [cellsB_get _ hrl] at q1
      have q2 := HV9.out.p.cell r
      rw [cellsB_get _ hrl] at q2
      by_cases g7 : (r : Int) ∈ ps.flatten.map (·.sec)
      ·by_cases g8 : (r : Int) ∈ ps.flatten.flatMap (·.pts)
       ·have Q : Hid (valid ps = false) := by
         show valid ps = false
         rw [HA9.out]; exact noClash_bad hrl g7 g8
        rw [decide_eq_true g7] at q1
        rw [decide_eq_true g8] at q2
        clear g7 g8
        go_wp2
        go_ret
        exact ⟨by rw [Q.out]; rfl, HV9.out.k⟩
       ·have Q := Lib.hid (hnc.step (.inr g8))
        rw [decide_eq_true g7] at q1
        rw [decide_eq_false g8] at q2
        clear g7 g8
        go_wp2
        go_round
        case rel => exact ⟨r + 1, by omega, by go_num, Q.out⟩
        case measure => simp [intOf]; omega
      ·have Q := Lib.hid (hnc.step (.inl g7))
       rw [decide_eq_false g7] at q1
       clear g7 q2
       go_wp2
       go_round
       case rel => exact ⟨r + 1, by omega, by go_num, Q.out⟩
       case measure => simp [intOf]; omega
     ·obtain rfl : r = 144 := by omega
      have Q : Hid (valid ps = true) := by
       show valid ps = true
       rw [HA9.out]; exact hnc.done
      go_wp2
      go_ret
      exact ⟨by rw [Q.out]; rfl, HV9.out.k⟩
 ·have g1' : decide ((10 : Int) < (ps.length : Int)) = true := by simp; omega
  have Q : Hid (valid ps = false) := by show valid ps = false; simp [valid, g1]
  go_enter Try.func80, Try.ntmps80
  go_wp2
  go_ret
  exact ⟨by rw [Q.out]; rfl, Keeps.refl _ _⟩

theorem next_res {ps : List (List Stage)} {os : List Order} {k r : Nat} (hk : k ≤ os.length) (h : (os.take k).map (·.res) = resTo ps r) (hr : r < 144) (hu : (r : Int) ∈ usesAll ps) (he : os.map (·.res) = resTo ps 144) : ∃ o, os[k]? = some o ∧ o.res = r := by
 have hs : resTo ps (r + 1) = resTo ps r ++ [(r : Int)] := by rw [resTo, if_pos hu]
 obtain ⟨l, hl⟩ := resTo_le ps (r + 1) 144 (by omega)
 rw [hs] at hl
 have hlen : (resTo ps r).length = k := by rw [← h]; simp; omega
 have h1 : (os.map (·.res))[k]? = some (r : Int) := by
  rw [he, hl, List.getElem?_append_left (by simp; omega), List.getElem?_append_right (by omega), hlen]
  simp
 rw [List.getElem?_map] at h1
 cases e : os[k]? with
 | none => rw [e] at h1; simp at h1
 | some o => rw [e] at h1; simp at h1; exact ⟨o, rfl, h1⟩
def CkInv (ps : List (List Stage)) (os : List Order) (k r : Nat) : Prop := (os.take k).map (·.res) = resTo ps r ∧ (os.take k).all (fun o => exactlyB o.uses (allU ps o.res)) = true
theorem CkInv.skip {ps : List (List Stage)} {os : List Order} {k r : Nat} (h : CkInv ps os k r) (hn : (allU ps r).length = 0) : CkInv ps os k (r + 1) := by
 refine ⟨?_, h.2⟩
 rw [resTo, if_neg (allU_nil_iff.1 (List.eq_nil_of_length_eq_zero hn)), List.append_nil]; exact h.1
theorem allU_pos {ps : List (List Stage)} {r : Int} (h : (allU ps r).length ≠ 0) : r ∈ usesAll ps := by
 rcases Classical.em (r ∈ usesAll ps) with h' | h'
 ·exact h'
 ·exact absurd (by rw [allU_nil_iff.2 h']; rfl) h
theorem CkInv.step {ps : List (List Stage)} {os : List Order} {k r : Nat} {o : Order} (h : CkInv ps os k r) (hn : (allU ps r).length ≠ 0) (ho : os[k]? = some o) (hr : o.res = r) (hx : exactlyB o.uses (allU ps r) = true) : CkInv ps os (k + 1) (r + 1) := by
 refine ⟨?_, ?_⟩
 ·rw [resTo, if_pos (allU_pos hn), List.take_add_one, ho, Option.toList_some, List.map_append, h.1]; simp [hr]
 ·rw [List.take_add_one, ho, Option.toList_some, List.all_append, h.2]; simp [hr, hx]
theorem CkInv.other {ps : List (List Stage)} {os : List Order} {k r : Nat} {o : Order} (h : CkInv ps os k r) (hr : r < 144) (hn : (allU ps r).length ≠ 0) (ho : os[k]? = some o) (hne : o.res ≠ r) : checkO ps os = false := by
 rcases Bool.eq_false_or_eq_true (checkO ps os) with e | e
 ·simp only [checkO, Bool.and_eq_true, decide_eq_true_eq] at e
  obtain ⟨o', ho', h2⟩ := next_res (Nat.le_of_lt (getElem?_lt ho)) h.1 hr (allU_pos hn) e.1.2
  rw [ho] at ho'; injection ho' with ho'; subst ho'; exact absurd h2 hne
 ·exact e
theorem CkInv.done {ps : List (List Stage)} {os : List Order} {k : Nat} (hv : valid ps = true) (hk : k ≤ os.length) (h : CkInv ps os k 144) : checkO ps os = ((k : Int) == (os.length : Int)) := by
 by_cases e : k = os.length
 ·subst e
  have h1 := h.1; have h2 := h.2
  rw [List.take_length] at h1 h2
  simp [checkO, hv, h1, h2]
 ·have h3 : ((k : Int) == (os.length : Int)) = false := by simp; omega
  rw [h3]
  have : os.map (·.res) ≠ resTo ps 144 := by
   rw [← h.1]; intro he
   have := congrArg List.length he
   simp at this; omega
  simp [checkO, this]

structure PrInv (w wr : World) (o : Order) (Au : Option Addr) (cu : Nat) (last : List Int) : Prop where
 b0 : Blk wr w.heap.size 44 #[.int .i64 o.res, .slice Au o.uses.length cu]
 b1 : Blk wr (w.heap.size + 1) 3 (cellsI last)
 k : KeepsAll w wr
theorem PrInv.keep {w wr w' : World} {o : Order} {Au : Option Addr} {cu : Nat} {last : List Int} (h : PrInv w wr o Au cu last) (k : KeepsAll wr w') : PrInv w w' o Au cu last :=
 ⟨h.b0.kept k (by simp), h.b1.kept k (by simp), h.k.tr k⟩
theorem PrInv.set_ {w wr : World} {o : Order} {Au : Option Addr} {cu : Nat} {last : List Int} (h : PrInv w wr o Au cu last) (n : Nat) (x : Int) : PrInv w (wr.setCell ⟨w.heap.size + 1, n, none⟩ (.int .i64 x)) o Au cu (last.set n x) :=
 ⟨h.b0.far (by simp) _, by rw [← cellsI_set]; exact h.b1.set_ n _, h.k.setCell (by simp) _⟩
def PrSt (ps : List (List Stage)) (o : Order) (j : Nat) (last : List Int) : Prop := last.length = ps.length ∧ (∀ x ∈ last, -1 ≤ x) ∧ properB ps o = properFrom ps o.res (o.uses.drop j) last
theorem PrSt.bad {ps : List (List Stage)} {o : Order} {j : Nat} {last : List Int} {u : Ref} (h : PrSt ps o j last) (hu : o.uses[j]? = some u) (hf : useFits ps o.res last u = false) : properB ps o = false := by
 rw [h.2.2, drop_cons' hu, properFrom, hf]; rfl
theorem PrSt.step {ps : List (List Stage)} {o : Order} {j : Nat} {last : List Int} {u : Ref} (h : PrSt ps o j last) (hu : o.uses[j]? = some u) (hf : useFits ps o.res last u = true) : PrSt ps o (j + 1) (last.set u.tr.toNat u.st) := by
 have hs := ((useFits_iff h.1 h.2.1 u).1 hf).1
 obtain ⟨t, k, _, _, _, _, _, rfl⟩ := mem_allU.1 hs
 refine ⟨by simpa using h.1, fun x hx => ?_, ?_⟩
 ·rcases List.mem_or_eq_of_mem_set hx with h' | rfl
  ·exact h.2.1 x h'
  ·show (-1 : Int) ≤ (k : Int); omega
 ·rw [h.2.2, drop_cons' hu, properFrom, hf]; rfl

end Go.Proofs.Ytilbbpbjhoidhaa
