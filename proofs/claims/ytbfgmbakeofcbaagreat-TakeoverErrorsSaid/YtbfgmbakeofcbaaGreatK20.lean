/- Contract of the graph's addOrder. Conditions: as the theorem says. -/
import Derived.Test.YtbfgmbakeofcbaaGreatK19
import Derived.Test.YtbfgmbakeofcbaaGreatK07
namespace Go.Proofs.YtbfgmbakeofcbaaGreat
open Go.RowKit

theorem tyGArc : ElemTy Tryz.prog 122 124 2 16 := .mk' Tryz.underlying122 (z := .agg #[.int .i64 0, .int .i64 0]) (by kernel_rfl) rfl (by omega)

/-- the graph under construction: world w2 is the one in which its arcs were made -/
structure GSt (w2 wr : World) (g B : Nat) (ps : List (List Stage)) (at_ : List Int) (v0 v1 v2 v3 : Value) (vs : List Value) (adds : List (Nat × GArc)) : Prop where
  gb : GrB w2 (fun b => b < w2.heap.size ∧ b ≠ B) g ps at_ v0 v1 v2 v3 (.slice (some ⟨B, 0, none⟩) (evs ps).length (evs ps).length)
  ne : g ≠ B
  k : Keeps (fun b => b = B) w2 wr
  rows : Rows 122 124 2 RGArc wr w2.heap.size B vs (arcsOf (evs ps).length adds)
section
variable {w2 wr w' : World} {g B : Nat} {ps : List (List Stage)} {at_ : List Int} {v0 v1 v2 v3 : Value} {vs : List Value} {adds : List (Nat × GArc)}
theorem GSt.lt (h : GSt w2 wr g B ps at_ v0 v1 v2 v3 vs adds) : g < w2.heap.size ∧ B < w2.heap.size ∧ w2.heap.size ≤ wr.heap.size := ⟨h.gb.b.lt, h.rows.nb, h.k.size⟩
theorem GSt.grb (h : GSt w2 wr g B ps at_ v0 v1 v2 v3 vs adds) : GrB wr (Old wr) g ps at_ v0 v1 v2 v3 (.slice (some ⟨B, 0, none⟩) (evs ps).length (evs ps).length) :=
  h.gb.keeps h.k h.ne (fun _ hb => ⟨hb.1, hb.2⟩) (fun _ hb => Nat.lt_of_lt_of_le hb.1 h.k.size)
theorem GSt.keep (h : GSt w2 wr g B ps at_ v0 v1 v2 v3 vs adds) (k : KeepsAll wr w') : GSt w2 w' g B ps at_ v0 v1 v2 v3 vs adds :=
  ⟨h.gb, h.ne, h.k.trans k (fun _ _ h => h.elim), h.rows.keeps RGArc.flat k (by simp) (by simp)⟩
theorem GSt.set_ (h : GSt w2 wr g B ps at_ v0 v1 v2 v3 vs adds) {p : Addr} (u : Value) (hp : w2.heap.size ≤ p.block) (hn : ∀ (i : Nat) v, vs[i]? = some v → v.ownBlock ≠ some p.block) : GSt w2 (wr.setCell p u) g B ps at_ v0 v1 v2 v3 vs adds := by
  have k : Keeps (fun b => b = p.block) wr (wr.setCell p u) := (Keeps.refl (fun b => b = p.block) wr).setCell (fun _ => rfl) _
  have hB := h.rows.nb
  refine ⟨h.gb, h.ne, h.k.setCell (fun h => by omega) _, ⟨h.rows.blk.kept k (by omega), h.rows.len, fun i v l hv hl => (h.rows.own i v l hv hl).keepsF RGArc.flat k (fun b hb e => hn i v hv (by rw [hb, e])), h.rows.ne, h.rows.nb⟩⟩
end
/-- besides: the box of the order in block q, the releases in block q + 1 -/
structure AInv (w2 wr : World) (g B : Nat) (ps : List (List Stage)) (at_ : List Int) (v0 v1 v2 v3 : Value) (vs : List Value) (adds : List (Nat × GArc)) (q : Nat) (o : Order) (Au : Option Addr) (cu : Nat) (rel : List Int) : Prop where
  s : GSt w2 wr g B ps at_ v0 v1 v2 v3 vs adds
  box : Blk wr q 66 #[.int .i64 o.res, .slice Au o.uses.length cu]
  rel : Blk wr (q + 1) 3 (cellsI rel)
  hq : w2.heap.size ≤ q
  own : ∀ (i : Nat) v b, vs[i]? = some v → v.ownBlock = some b → b ≠ q ∧ b ≠ q + 1
section
variable {w2 wr w' : World} {g B : Nat} {ps : List (List Stage)} {at_ : List Int} {v0 v1 v2 v3 : Value} {vs : List Value} {adds : List (Nat × GArc)} {q : Nat} {o : Order} {Au : Option Addr} {cu : Nat} {rel : List Int}
theorem AInv.keep (h : AInv w2 wr g B ps at_ v0 v1 v2 v3 vs adds q o Au cu rel) (k : KeepsAll wr w') : AInv w2 w' g B ps at_ v0 v1 v2 v3 vs adds q o Au cu rel :=
  ⟨h.s.keep k, h.box.kept k (by simp), h.rel.kept k (by simp), h.hq, h.own⟩
theorem AInv.set_ (h : AInv w2 wr g B ps at_ v0 v1 v2 v3 vs adds q o Au cu rel) (n : Nat) (x : Int) : AInv w2 (wr.setCell ⟨q + 1, n, none⟩ (.int .i64 x)) g B ps at_ v0 v1 v2 v3 vs adds q o Au cu (rel.set n x) :=
  ⟨h.s.set_ _ (by have := h.hq; show _ ≤ q + 1; omega) (fun i v hv e => (h.own i v _ hv e).2 rfl), h.box.far (by simp) _, by rw [← cellsI_set]; exact h.rel.set_ n _, h.hq, h.own⟩
/-- an arc is added: row i has grown -/
theorem AInv.push {i : Nat} {v v' : Value} {l : List GArc} {a : GArc} (h : AInv w2 wr g B ps at_ v0 v1 v2 v3 vs adds q o Au cu rel) (hv : vs[i]? = some v) (hl : (arcsOf (evs ps).length adds)[i]? = some l)
    (ho : OwnL 124 2 RGArc w' w2.heap.size w2.heap.size v' (l ++ [a])) (hk : Keeps (fun b => v.ownBlock = some b) wr w') (hn : v'.ownBlock = v.ownBlock ∨ v'.ownBlock = some wr.heap.size) :
    AInv w2 (w'.setCell ⟨B, i, none⟩ v') g B ps at_ v0 v1 v2 v3 (vs.set i v') (adds ++ [(i, a)]) q o Au cu rel := by
  have hr := h.s.rows.push RGArc.flat hv hl h.s.k.size ho hk hn
  rw [← arcsOf_push _ _ _ hl] at hr
  have hB := h.s.rows.nb
  have hq := h.hq
  have hq1 := h.rel.lt
  have hown := h.s.rows.own i v l hv hl
  refine ⟨⟨h.s.gb, h.s.ne, ?_, hr⟩, ?_, ?_, h.hq, fun j u b hu hb => ?_⟩
  · exact (h.s.k.trans hk (fun x hx e => by have := hown.lt e; omega)).setCell (fun _ => rfl) _
  · exact (h.box.kept hk (fun e => (h.own i v q hv e).1 rfl)).far (by show q ≠ B; omega) _
  · exact (h.rel.kept hk (fun e => (h.own i v (q + 1) hv e).2 rfl)).far (by show q + 1 ≠ B; omega) _
  · by_cases e : i = j
    · subst e
      rw [List.getElem?_set_self (getElem?_lt hv)] at hu
      injection hu with hu; subst hu
      rcases hn with hn | hn
      · exact h.own i v b hv (by rw [← hn]; exact hb)
      · rw [hn] at hb; injection hb with hb; omega
    · rw [List.getElem?_set_ne e] at hu
      exact h.own j u b hu hb
end

/-- what the loop over the uses has still to add -/
def AddSt (ps : List (List Stage)) (o : Order) (j : Nat) (rel : List Int) (pre : List (Nat × GArc)) : Prop :=
  rel.length = ps.length ∧ (∀ x ∈ rel, -1 ≤ x ∧ x ≤ 1000000) ∧ orderAdds ps o = pre ++ useAdds ps o.res (o.uses.drop j) rel

theorem relOf_range {ps : List (List Stage)} {r : Int} {t k : Nat} : (relOf ps r ⟨(t : Int), (k : Int)⟩).tr = t ∧ ((relOf ps r ⟨(t : Int), (k : Int)⟩).st = k ∨ (relOf ps r ⟨(t : Int), (k : Int)⟩).st = (k : Int) + 1) := by
  unfold relOf; split <;> simp
theorem AddSt.step {ps : List (List Stage)} {o : Order} {j t k : Nat} {rel : List Int} {pre : List (Nat × GArc)} (h : AddSt ps o j rel pre) (hu : o.uses[j]? = some ⟨(t : Int), (k : Int)⟩) (hf : fst ps t ≤ 100000) (hk : k ≤ 100000) :
    AddSt ps o (j + 1) (rel.set t ((fst ps t : Int) + (relOf ps o.res ⟨(t : Int), (k : Int)⟩).st)) (pre ++ relArcs (fst ps t + k) (t : Int) rel) := by
  obtain ⟨h1, h2, h3⟩ := h
  obtain ⟨r1, r2⟩ := relOf_range (ps := ps) (r := o.res) (t := t) (k := k)
  have e : ((num ps (relOf ps o.res ⟨(t : Int), (k : Int)⟩) : Nat) : Int) = (fst ps t : Int) + (relOf ps o.res ⟨(t : Int), (k : Int)⟩).st := by
    unfold num; rw [r1]; simp; omega
  refine ⟨by simpa using h1, fun x hx => ?_, ?_⟩
  · rcases List.mem_or_eq_of_mem_set hx with h' | rfl
    · exact h2 x h'
    · omega
  · rw [h3, drop_cons' hu, useAdds, List.append_assoc, ← e]
    simp [num]

theorem relArcs_le (to : Nat) (tr : Int) (rel : List Int) : (relArcs to tr rel).length ≤ rel.length := by
  unfold relArcs
  rw [List.length_flatMap]
  have h1 : ∀ (x : Int) (k : Nat), (if (k : Int) ≠ tr ∧ 0 ≤ x then [(to, (⟨x, 0⟩ : GArc))] else []).length ≤ 1 := by intro x k; split <;> simp
  have : ∀ (l : List Int) (k : Nat), ((l.zipIdx k).map fun a => (if (a.2 : Int) ≠ tr ∧ 0 ≤ a.1 then [(to, (⟨a.1, 0⟩ : GArc))] else []).length).sum ≤ l.length := by
    intro l
    induction l with
    | nil => intro k; simp
    | cons s l ih =>
      intro k
      have := ih (k + 1)
      have := h1 s k
      simp only [List.zipIdx_cons, List.map_cons, List.sum_cons, List.length_cons]
      omega
  exact this rel 0
theorem filt_le {n i : Nat} {adds : List (Nat × GArc)} {l : List GArc} (h : (arcsOf n adds)[i]? = some l) : l.length ≤ adds.length := by
  have hi : i < n := by have := getElem?_lt h; rwa [arcsOf_len] at this
  rw [arcsOf_at n adds hi] at h
  injection h with h; subst h
  rw [List.length_map]; exact List.length_filter_le _ _
/-- the row that an arc is added to -/
theorem GSt.row {w2 wr : World} {g B : Nat} {ps : List (List Stage)} {at_ : List Int} {v0 v1 v2 v3 : Value} {vs : List Value} {adds : List (Nat × GArc)} (h : GSt w2 wr g B ps at_ v0 v1 v2 v3 vs adds) {i : Nat} (hi : i < (evs ps).length) (hb : adds.length ≤ 1000000000) :
    ∃ A c l, vs[i]? = some (.slice A l.length c) ∧ (arcsOf (evs ps).length adds)[i]? = some l ∧ OwnL 124 2 RGArc wr w2.heap.size w2.heap.size (.slice A l.length c) l ∧ wr.cell? ⟨B, i, none⟩ = some (.slice A l.length c) ∧ wr.frozen? ⟨B, i, none⟩ = false ∧ l.length ≤ 1000000000 ∧ l.length ≤ c ∧ c ≤ 9223372036854775807 := by
  obtain ⟨v, l, h1, h2, h3, h4, h5⟩ := h.rows.get (i := i) (by rw [arcsOf_len]; exact hi)
  obtain ⟨A, c, rfl, hc, hc2⟩ := h3.form
  exact ⟨A, c, l, h1, h2, h3, h4, h5, Nat.le_trans (filt_le h2) hb, hc, hc2⟩

/-- besides: the box of the use in block z -/
structure UInv (w2 wr : World) (g B : Nat) (ps : List (List Stage)) (at_ : List Int) (v0 v1 v2 v3 : Value) (vs : List Value) (adds : List (Nat × GArc)) (q : Nat) (o : Order) (Au : Option Addr) (cu : Nat) (rel : List Int) (z t k : Nat) : Prop where
  a : AInv w2 wr g B ps at_ v0 v1 v2 v3 vs adds q o Au cu rel
  bz : Blk wr z 69 #[.int .i64 (t : Int), .int .i64 (k : Int)]
  hz : q + 1 < z
  own : ∀ (i : Nat) v b, vs[i]? = some v → v.ownBlock = some b → b ≠ z
section
variable {w2 wr w' : World} {g B : Nat} {ps : List (List Stage)} {at_ : List Int} {v0 v1 v2 v3 : Value} {vs : List Value} {adds : List (Nat × GArc)} {q : Nat} {o : Order} {Au : Option Addr} {cu : Nat} {rel : List Int} {z t k : Nat}
theorem UInv.keep (h : UInv w2 wr g B ps at_ v0 v1 v2 v3 vs adds q o Au cu rel z t k) (k' : KeepsAll wr w') : UInv w2 w' g B ps at_ v0 v1 v2 v3 vs adds q o Au cu rel z t k := ⟨h.a.keep k', h.bz.kept k' (by simp), h.hz, h.own⟩
theorem UInv.push {i : Nat} {v v' : Value} {l : List GArc} {a : GArc} (h : UInv w2 wr g B ps at_ v0 v1 v2 v3 vs adds q o Au cu rel z t k) (hv : vs[i]? = some v) (hl : (arcsOf (evs ps).length adds)[i]? = some l)
    (ho : OwnL 124 2 RGArc w' w2.heap.size w2.heap.size v' (l ++ [a])) (hk : Keeps (fun b => v.ownBlock = some b) wr w') (hn : v'.ownBlock = v.ownBlock ∨ v'.ownBlock = some wr.heap.size) :
    UInv w2 (w'.setCell ⟨B, i, none⟩ v') g B ps at_ v0 v1 v2 v3 (vs.set i v') (adds ++ [(i, a)]) q o Au cu rel z t k := by
  have hB := h.a.s.rows.nb
  have hq := h.a.hq
  have hz := h.hz
  have hz2 := h.bz.lt
  refine ⟨h.a.push hv hl ho hk hn, (h.bz.kept hk (fun e => h.own i v z hv e rfl)).far (by show z ≠ B; omega) _, h.hz, fun j u b hu hb => ?_⟩
  by_cases e : i = j
  · subst e
    rw [List.getElem?_set_self (getElem?_lt hv)] at hu
    injection hu with hu; subst hu
    rcases hn with hn | hn
    · exact h.own i v b hv (by rw [← hn]; exact hb)
    · rw [hn] at hb; injection hb with hb; omega
  · rw [List.getElem?_set_ne e] at hu
    exact h.own j u b hu hb
end

set_option maxRecDepth 100000 in
set_option maxHeartbeats 4000000 in
theorem addOrder_any (w2 w : World) (g B : Nat) (ps : List (List Stage)) (at_ : List Int) (v0 v1 v2 v3 : Value) (vs : List Value) (adds : List (Nat × GArc)) (o : Order) (Au : Option Addr) (cu : Nat) (hv : valid ps = true) (h : GSt w2 w g B ps at_ v0 v1 v2 v3 vs adds)
    (hu : RRefs w2 (fun b => b < w2.heap.size ∧ b ≠ B) [.slice Au o.uses.length cu] o.uses) (hin : ∀ u ∈ o.uses, u ∈ allU ps o.res) (hsz : adds.length + o.uses.length * 10 ≤ 1000000) :
    Calls Tryz.prog 76 #[.pointer (some ⟨g, 0, none⟩), .agg #[.int .i64 o.res, .slice Au o.uses.length cu]] w fun e w' => e = .returned (.tuple #[]) ∧ ∃ vs', GSt w2 w' g B ps at_ v0 v1 v2 v3 vs' (adds ++ orderAdds ps o) := by
  have hc2 := hu.caps
  have hl10 := (valid_lens hv).1
  obtain ⟨A0, c0, rfl, hc0, hc02⟩ := h.gb.rp.val
  have HU := Lib.hid hu; clear hu
  have HIN := Lib.hid hin; clear hin
  have hmk := mkInts ps.length (by omega)
  have q0 := h.grb.b.cell 0
  simp at q0
  have hlt := h.lt
  have hne := h.ne
  have HS := Lib.hid h; clear h
  have hg1 := hlt.1; have hB1 := hlt.2.1; have hz1 := hlt.2.2
  clear hlt
  have hgw : g < w.heap.size := by omega
  go_enter Tryz.func76, Tryz.ntmps76
  go_wp2
  generalize hW : World.alloc (World.alloc w _) _ = W
  have HI : Hid (AInv w2 W g B ps at_ (.slice A0 ps.length c0) v1 v2 v3 vs adds w.heap.size o Au cu (List.replicate 0 (-1) ++ List.replicate (ps.length - 0) 0)) := by
    subst hW
    refine ⟨(HS.out.keep ((Keeps.refl _ _).alloc _)).keep ((Keeps.refl _ _).alloc _), (Blk.new _ _ _).alloc _, by simpa using Blk.new' _ _ _ (by simp), hz1, fun i v b hv hb => ?_⟩
    obtain ⟨l, hl⟩ : ∃ l, (arcsOf (evs ps).length adds)[i]? = some l := ⟨_, List.getElem?_eq_getElem (by rw [← HS.out.rows.len]; exact getElem?_lt hv)⟩
    have := (HS.out.rows.own i v l hv hl).lt hb
    omega
  clear hW hmk q0 HS hgw
  generalize w.heap.size = q at *
  go_loopw [19] (fun i wr => ∃ k : Nat, k ≤ ps.length ∧ i = .int .i64 k ∧ AInv w2 wr g B ps at_ (.slice A0 ps.length c0) v1 v2 v3 vs adds q o Au cu (List.replicate k (-1) ++ List.replicate (ps.length - k) 0)) (fun i _ => ps.length - (intOf i).toNat)
  case atStart => exact ⟨0, Nat.zero_le _, rfl, HI.out⟩
  case round =>
    obtain ⟨k, hk, rfl, hi⟩ := hrel
    clear HI
    by_cases hlt : k < ps.length
    · have q0 := hi.rel.cell k
      have q1 := hi.rel.frozen k
      have qz := hi.rel.lt
      have e : (List.replicate k (-1) ++ List.replicate (ps.length - k) (0 : Int))[k]? = some 0 := by
        rw [List.getElem?_append_right (by simp), List.length_replicate, Nat.sub_self, List.getElem?_replicate, if_pos (by omega)]
      rw [cellsI_at e] at q0
      have HN : Hid (AInv w2 (wr.setCell ⟨q + 1, k, none⟩ (.int .i64 (-1))) g B ps at_ (.slice A0 ps.length c0) v1 v2 v3 vs adds q o Au cu (List.replicate (k + 1) (-1) ++ List.replicate (ps.length - (k + 1)) 0)) := by
        have := hi.set_ k (-1)
        have e2 : (List.replicate k (-1) ++ List.replicate (ps.length - k) (0 : Int)).set k (-1) = List.replicate (k + 1) (-1) ++ List.replicate (ps.length - (k + 1)) 0 := by
          rw [List.set_append_right _ _ (by simp), List.length_replicate, Nat.sub_self, show ps.length - k = (ps.length - (k + 1)) + 1 from by omega, List.replicate_succ, List.set_cons_zero, List.replicate_succ', List.append_assoc]; rfl
        rw [e2] at this; exact this
      clear hi e
      go_wp2
      go_roundw
      case rel => exact ⟨k + 1, by omega, by go_num, HN.out⟩
      case measure => simp [intOf]; omega
    · obtain rfl : k = ps.length := by omega
      have e : List.replicate ps.length (-1) ++ List.replicate (ps.length - ps.length) (0 : Int) = List.replicate ps.length (-1) := by simp
      rw [e] at hi
      clear e
      have q0 := hi.box.cell 0
      have q1 := hi.box.cell 1
      simp at q0 q1
      have HI : Hid (AInv w2 wr g B ps at_ (.slice A0 ps.length c0) v1 v2 v3 vs (adds ++ []) q o Au cu (List.replicate ps.length (-1))) := by
        show AInv _ _ _ _ _ _ _ _ _ _ _ _ _ _ _ _ _
        rw [List.append_nil]; exact hi
      clear hi
      have HA : Hid (AddSt ps o 0 (List.replicate ps.length (-1)) []) := ⟨by simp, by intro x hx; simp at hx; omega, rfl⟩
      generalize List.replicate ps.length (-1 : Int) = rel0 at HI HA
      obtain ⟨wo, hwo⟩ : ∃ wo : World, wo = wr := ⟨_, rfl⟩
      clear hwo
      go_wp2
      clear q0 q1
      go_loopw [29] (fun i wr => ∃ (j : Nat) (rel : List Int) (pre : List (Nat × GArc)) (vs : List Value), j ≤ o.uses.length ∧ i = .int .i64 j ∧ AInv w2 wr g B ps at_ (.slice A0 ps.length c0) v1 v2 v3 vs (adds ++ pre) q o Au cu rel ∧ AddSt ps o j rel pre ∧ pre.length ≤ j * 10) (fun i _ => o.uses.length - (intOf i).toNat)
      case atStart => exact ⟨0, rel0, [], vs, Nat.zero_le _, rfl, HI.out, HA.out, by simp⟩
      case round =>
        obtain ⟨j, rel, pre, vs, hj, rfl, hi, hst, hpre⟩ := hrel
        clear HI HA
        have HST := Lib.hid hst
        have hrl := hst.1
        have hrl1 : rel.length ≤ ps.length := by omega
        have hrl2 : ps.length ≤ rel.length := by omega
        clear hst hrl
        by_cases hlt : j < o.uses.length
        · obtain ⟨u, hu⟩ : ∃ u, o.uses[j]? = some u := ⟨_, List.getElem?_eq_getElem hlt⟩
          obtain ⟨t, k, p, s, hp, hs, hr, rfl⟩ := mem_allU.1 (HIN.out u (List.mem_of_getElem? hu))
          have htl := getElem?_lt hp
          have hkl := getElem?_lt hs
          have hpl := ((valid_lens hv).2 p (List.mem_of_getElem? hp)).2
          have hft := fst_le (fun p hp => ((valid_lens hv).2 p hp).2) t (by omega)
          have hto : fst ps t + k < (evs ps).length := by
            have := fst_lt hp htl (Nat.le_refl _)
            rw [fst_len] at this; omega
          obtain ⟨bu, ou, u', rfl, hbu, hu', n0, n1⟩ := RRefs.at_ (hi.s.k.rd RRefs.ok HU.out (fun _ h => ⟨h.1, h.2⟩) (fun _ h => h)) hlt
          obtain rfl := same_of hu' hu
          simp only [] at n0 n1
          have HUJ := Lib.hid hu
          have HP := Lib.hid hp
          have HSS := Lib.hid hs
          have hbu' : bu < wr.heap.size := by have := hbu.1; have := hi.s.k.size; omega
          have hevl : (evs ps).length ≤ 10000 := by
            have := fst_le (fun p hp => ((valid_lens hv).2 p hp).2) ps.length (Nat.le_refl _)
            rw [fst_len] at this; omega
          clear hu hu' hp hs hr hbu
          have hdj : decide ((j : Int) < (o.uses.length : Int)) = true := by simp; omega
          go_wp2_with fail
          generalize hW2 : World.alloc wr _ = W2
          have HI2 : Hid (UInv w2 W2 g B ps at_ (.slice A0 ps.length c0) v1 v2 v3 vs (adds ++ pre) q o (some ⟨bu, ou, none⟩) cu rel wr.heap.size t k) := by
            subst hW2
            refine ⟨hi.keep ((Keeps.refl _ _).alloc _), Blk.new _ _ _, hi.rel.lt, fun i v b hv hb => ?_⟩
            obtain ⟨l, hl⟩ : ∃ l, (arcsOf (evs ps).length (adds ++ pre))[i]? = some l := ⟨_, List.getElem?_eq_getElem (by rw [← hi.s.rows.len]; exact getElem?_lt hv)⟩
            have := (hi.s.rows.own i v l hv hl).lt hb
            omega
          clear hW2 n0 n1 hi hbu'
          refine (number_any W2 g ps at_ _ _ _ _ _ HI2.out.a.s.grb t k htl (by omega) (by omega)).mono ?_
          rintro e w3 ⟨rfl, hk3⟩
          have HI3 : Hid (UInv w2 w3 g B ps at_ (.slice A0 ps.length c0) v1 v2 v3 vs (adds ++ pre ++ relArcs (fst ps t + k) (t : Int) (rel.take 0)) q o (some ⟨bu, ou, none⟩) cu rel wr.heap.size t k) := by
            have := HI2.out.keep hk3
            have e : relArcs (fst ps t + k) (t : Int) (rel.take 0) = [] := rfl
            show UInv _ _ _ _ _ _ _ _ _ _ _ _ _ _ _ _ _ _ _ _
            rw [e, List.append_nil]; exact this
          have ez : (fst ps t : Int) + (k : Int) = ((fst ps t + k : Nat) : Int) := by omega
          rw [ez]
          clear hk3 HI2 ez
          generalize wr.heap.size = z at *
          generalize hto2 : fst ps t + k = to at *
          have HTO := Lib.hid hto2; clear hto2
          go_wp2
          go_loopw [38] (fun i wr => ∃ (m : Nat) (vs : List Value), m ≤ rel.length ∧ i = .int .i64 m ∧ UInv w2 wr g B ps at_ (.slice A0 ps.length c0) v1 v2 v3 vs (adds ++ pre ++ relArcs to (t : Int) (rel.take m)) q o (some ⟨bu, ou, none⟩) cu rel z t k) (fun i _ => rel.length - (intOf i).toNat)
          case atStart => exact ⟨0, vs, Nat.zero_le _, rfl, HI3.out⟩
          case round =>
            obtain ⟨m, vs, hm, rfl, hi⟩ := hrel
            clear HI3
            have hbnd : (adds ++ pre ++ relArcs to (t : Int) (rel.take m)).length ≤ 1000000000 := by
              have h1 := relArcs_le to (t : Int) (rel.take m)
              have h2 : (rel.take m).length ≤ m := by simp; omega
              rw [List.length_append, List.length_append]; omega
            by_cases hlt3 : m < rel.length
            · have hx : rel[m]? = some rel[m] := List.getElem?_eq_getElem hlt3
              have hxr := HST.out.2.1 rel[m] (List.getElem_mem _)
              have q0 := hi.a.rel.cell m
              rw [cellsI_at hx] at q0
              have q1 := hi.bz.cell 0
              simp at q1
              have HRS := Lib.hid (relArcs_succ to (t : Int) hx)
              generalize rel[m] = x at *
              have HI := Lib.hid hi; clear hi hx
              by_cases g1 : (m : Int) = (t : Int)
              · have g1' : ((m : Int) != (t : Int)) = false := by simpa using g1
                have Q : Hid (relArcs to (t : Int) (rel.take (m + 1)) = relArcs to (t : Int) (rel.take m)) := by
                  show _ = _
                  rw [HRS.out, if_neg (fun h => h.1 g1), List.append_nil]
                clear g1 HRS
                go_wp2
                go_roundw
                case rel => exact ⟨m + 1, vs, by omega, by go_num, by rw [Q.out]; exact HI.out⟩
                case measure => simp [intOf]; omega
              · have g1' : ((m : Int) != (t : Int)) = true := by simpa using g1
                by_cases g2 : 0 ≤ x
                · have g2' : decide (x ≥ 0) = true := by simpa using g2
                  have Q : Hid (adds ++ pre ++ relArcs to (t : Int) (rel.take (m + 1)) = (adds ++ pre ++ relArcs to (t : Int) (rel.take m)) ++ [(to, ⟨x, 0⟩)]) := by
                    show _ = _
                    rw [HRS.out, if_pos ⟨g1, g2⟩]; simp [List.append_assoc]
                  clear g1 HRS
                  generalize adds ++ pre ++ relArcs to (t : Int) (rel.take m) = L at *
                  obtain ⟨Ar, cr, l, hvs, hll, hown, hcell, hfrz, hl9, hcr, hcr2⟩ := HI.out.a.s.row hto hbnd
                  have HVS := Lib.hid hvs; have HLL := Lib.hid hll; have HOWN := Lib.hid hown
                  have e4 := HI.out.a.s.grb.b.cell 4
                  simp at e4
                  have FAR : Hid (∀ b, b < w2.heap.size → ¬ ((Value.slice Ar l.length cr).ownBlock = some b)) := fun b hb e => by
                    have := HOWN.out.lt e; omega
                  clear hvs hll hown
                  go_wp2
                  refine wp_region_lex (fun w' => ∃ x : ExtC (fun b => (Value.slice Ar l.length cr).ownBlock = some b) wr, w' = x.val) [0, 1, 2, 3, 4, 5, 6, 7, 8, 9, 10, 11, 12, 13, 14, 15, 16, 17] (by kernel_rfl) (by kernel_rfl) (ExtC.start _ _) ?_
                  have xe4 := ExtC.cell (C := fun b => (Value.slice Ar l.length cr).ownBlock = some b) e4 (FAR.out _ hg1)
                  have xc := ExtC.cell (C := fun b => (Value.slice Ar l.length cr).ownBlock = some b) hcell (FAR.out _ hB1)
                  refine lex_q _ rfl rfl rfl ?_; go_big_quiet_step (fail); refine wpQuiet_nil ?_
                  refine lex_nil _ rfl _ rfl rfl _ rfl ?_; go_simp
                  iterate 4 (refine lex_q _ rfl rfl rfl ?_; go_big_quiet_step (fail); refine wpQuiet_nil ?_)
                  refine lex_nil _ rfl _ rfl rfl _ rfl ?_; go_simp
                  iterate 7 (refine lex_q _ rfl rfl rfl ?_; go_big_quiet_step (fail); refine wpQuiet_nil ?_)
                  refine lex_a _ rfl rfl true (by kernel_rfl) ?_
                  go_wp2
                  refine ⟨fun _ => ⟨⟨_, ((Keeps.refl _ _).alloc _).drew⟩, rfl⟩, ?_⟩
                  generalize hWb : World.drew (World.alloc wr _) = Wb
                  have KB : KeepsAll wr Wb := by subst hWb; exact ((Keeps.refl _ _).alloc _).drew
                  have HBX : Hid (Blk Wb wr.heap.size 124 [.int .i64 x, .int .i64 0].toArray) := by subst hWb; exact Blk.new wr _ _
                  have HIB := Lib.hid (HI.out.keep KB)
                  have HOB := Lib.hid (HOWN.out.keeps RGArc.ok KB (fun _ _ h => h.elim))
                  have hzb := HIB.out.a.s.lt.2.2
                  have KB2 := Lib.hid KB
                  clear hWb KB
                  refine lex_a _ rfl rfl true (by kernel_rfl) ?_
                  go_wp2_with (at_builtin; refine wpList_append_L tyGArc RGArc.ok rfl (.tmp 62) (.tmp 65) rfl HOB.out rfl _ [.int .i64 x, .int .i64 0] rfl HBX.out rfl ⟨x, 0⟩ (S := fun _ => False) rfl (fun _ h => h.elim) (by simp [Value.oneCell']) (by omega) (by omega) hzb ?_; intro v5 w5 HO5 HK5 HA5; obtain ⟨A5, c5, hv5, hv51, hv52⟩ := HO5.form; rw [List.length_append, List.length_singleton] at hv5; subst hv5)
                  have HPU := Lib.hid (HIB.out.push HVS.out HLL.out HO5 HK5 HA5)
                  have K5 : Keeps (fun b => (Value.slice Ar l.length cr).ownBlock = some b) wr w5 := (KB2.out.mono (fun _ _ h => h.elim)).trans HK5 (fun _ _ h => h)
                  have hc5 : w5.cell? ⟨B, to, none⟩ = some (.slice Ar l.length cr) := (K5.cell (p := ⟨B, to, none⟩) (by have := HI.out.a.s.k.size; show B < _; omega) (FAR.out _ hB1)).trans hcell
                  have hf5 : w5.frozen? ⟨B, to, none⟩ = false := (HI.out.a.s.rows.blk.kept K5 (FAR.out _ hB1)).frozen to
                  refine ⟨fun _ => ⟨⟨_, K5⟩, rfl⟩, ?_⟩
                  clear K5 HO5 HK5 HA5
                  refine lex_q _ rfl rfl rfl ?_; go_big_quiet_step (fail); refine wpQuiet_nil ?_
                  refine lex_a _ rfl rfl false (by kernel_rfl) ?_
                  go_wp2
                  (try refine ⟨fun h => (by cases h), ?_⟩)
                  refine (by assumption : ∀ (a : Act) (w : World), Code.wp Tryz.prog (Code.region 16 _ _) _ a w → _) _ _ ?_
                  go_wp2
                  go_roundw
                  case rel => exact ⟨m + 1, _, by omega, by go_num, by rw [Q.out]; exact HPU.out⟩
                  case measure => simp [intOf]; omega
                · have g2' : decide (x ≥ 0) = false := by simpa using g2
                  have Q : Hid (relArcs to (t : Int) (rel.take (m + 1)) = relArcs to (t : Int) (rel.take m)) := by
                    show _ = _
                    rw [HRS.out, if_neg (fun h => g2 h.2), List.append_nil]
                  clear g1 g2 HRS
                  go_wp2
                  go_roundw
                  case rel => exact ⟨m + 1, vs, by omega, by go_num, by rw [Q.out]; exact HI.out⟩
                  case measure => simp [intOf]; omega
            · obtain rfl : m = rel.length := by omega
              rw [List.take_length] at hi hbnd
              have hpre2 : (pre ++ relArcs to (t : Int) rel).length ≤ (j + 1) * 10 := by
                have h1 := relArcs_le to (t : Int) rel
                rw [List.length_append]; omega
              have HST2 := Lib.hid (HST.out.step HUJ.out (by omega) (by omega))
              rw [HTO.out] at HST2
              have q0 := hi.bz.cell 0
              have q1 := hi.bz.cell 1
              have q2 := hi.a.s.grb.b.cell 0
              have q3 := hi.a.box.cell 0
              simp at q0 q1 q2 q3
              have HI : Hid (UInv w2 wr g B ps at_ (.slice A0 ps.length c0) v1 v2 v3 vs (adds ++ (pre ++ relArcs to (t : Int) rel)) q o (some ⟨bu, ou, none⟩) cu rel z t k) := by
                show UInv _ _ _ _ _ _ _ _ _ _ _ _ _ _ _ _ _ _ _ _
                rw [← List.append_assoc]; exact hi
              clear hi
              obtain ⟨r1, r2⟩ := relOf_range (ps := ps) (r := o.res) (t := t) (k := k)
              obtain ⟨k', hk'⟩ : ∃ k' : Nat, (relOf ps o.res ⟨(t : Int), (k : Int)⟩).st = (k' : Int) := by
                rcases r2 with h | h
                · exact ⟨k, h⟩
                · exact ⟨k + 1, by rw [h]; simp⟩
              have hk'2 : k' ≤ 1000 := by omega
              have REL : Hid (∀ W, KeepsAll wr W → Calls Tryz.prog 54 #[.slice A0 ps.length c0, .int .i64 o.res, .agg #[.int .i64 (t : Int), .int .i64 (k : Int)]] W fun e w' => e = .returned (.agg #[.int .i64 (t : Int), .int .i64 (k' : Int)]) ∧ KeepsAll W w') := fun W hW => by
                rw [← hk']
                exact release_any ps o.res A0 c0 W (hW.rdo' RPaths.ok HI.out.a.s.grb.rp) t k p s HP.out HSS.out (by omega)
              rw [hk'] at HST2
              clear r1 r2 hk'
              go_wp2
              refine wp_region_lex (fun w' => ∃ x : Ext wr, w' = x.val) [0, 1, 2, 3, 4, 5, 6, 7, 8, 9, 10, 11, 12, 13, 14] (by kernel_rfl) (by kernel_rfl) ⟨⟨_, (Keeps.refl _ _).drew⟩, rfl⟩ ?_
              have x0 := Ext.cell q0
              have x1 := Ext.cell q1
              have x2 := Ext.cell q2
              have x3 := Ext.cell q3
              iterate 5 (refine lex_q _ rfl rfl rfl ?_; go_big_quiet_step (fail); refine wpQuiet_nil ?_)
              refine lex_nil _ rfl _ rfl rfl _ rfl ?_; go_simp
              iterate 5 (refine lex_q _ rfl rfl rfl ?_; go_big_quiet_step (fail); refine wpQuiet_nil ?_)
              refine lex_a _ rfl rfl true (by kernel_rfl) ?_
              go_wp2_with (go_at_call 54; refine (REL.out _ ((Keeps.refl _ _).drew)).mono ?_; rintro e w6 ⟨rfl, HK6⟩)
              have K6 : KeepsAll wr w6 := ((Keeps.refl _ _).drew).tr HK6
              refine ⟨fun _ => ⟨⟨_, K6⟩, rfl⟩, ?_⟩
              have HI6 := Lib.hid (HI.out.keep K6)
              have K6' := Lib.hid K6
              clear K6 HK6
              refine lex_a _ rfl rfl true (by kernel_rfl) ?_
              go_wp2_with (go_at_call 100; refine (number_any w6 g ps at_ _ _ _ _ _ HI6.out.a.s.grb t k' htl (by omega) (by omega)).mono ?_; rintro e w7 ⟨rfl, HK7⟩)
              have HI7 := Lib.hid (HI6.out.keep HK7)
              have hx7 : rel[t]? = some (rel[t]'(by omega)) := List.getElem?_eq_getElem (by omega)
              have y0 := HI7.out.a.rel.cell t
              rw [cellsI_at hx7] at y0
              have y1 := HI7.out.a.rel.frozen t
              refine ⟨fun _ => ⟨⟨_, K6'.out.tr HK7⟩, rfl⟩, ?_⟩
              have HI8 := Lib.hid (HI7.out.a.set_ t ((fst ps t : Int) + (k' : Int)))
              clear HK7 hx7
              refine lex_q _ rfl rfl rfl ?_; go_big_quiet_step (fail); refine wpQuiet_nil ?_
              refine lex_a _ rfl rfl false (by kernel_rfl) ?_
              go_wp2
              (try refine ⟨fun h => (by cases h), ?_⟩)
              refine (by assumption : ∀ (a : Act) (w : World), Code.wp Tryz.prog (Code.region 18 _ _) _ a w → _) _ _ ?_
              go_wp2
              go_roundw
              case rel => exact ⟨j + 1, _, _, vs, by omega, by go_num, HI8.out, HST2.out, hpre2⟩
              case measure => simp [intOf]; omega
        · obtain rfl : j = o.uses.length := by omega
          have Q : Hid (orderAdds ps o = pre) := by
            show orderAdds ps o = pre
            rw [HST.out.2.2, List.drop_length, useAdds, List.append_nil]
          have HI := Lib.hid hi; clear hi
          go_wp2
          refine bodyPost_end (results_none rfl _ _ _) rfl ?_
          exact ⟨rfl, vs, by rw [Q.out]; exact HI.out.s⟩

end Go.Proofs.YtbfgmbakeofcbaaGreat
