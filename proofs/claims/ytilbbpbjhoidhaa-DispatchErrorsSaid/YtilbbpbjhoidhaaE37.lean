/- Contracts of the reference's Seconds and Times. Conditions: as each theorem says. -/
import Derived.Test.YtilbbpbjhoidhaaE11
import Derived.Test.YtilbbpbjhoidhaaE12
import Derived.Lib.MinMax
namespace Go.Proofs.Ytilbbpbjhoidhaa
open Go.RowKit

def RPtr : Rd (Nat × Nat) := fun _ _ cs q => cs = [.slice (some ⟨q.1, 0, none⟩) q.2 q.2]
theorem RPtr.ok : Rd.Ok RPtr := ⟨fun h _ _ => h⟩
theorem RPtr.flat : Rd.Flat RPtr := fun _ _ _ _ _ _ h => h
theorem RPtr.one : Rd.One RPtr := fun _ _ es x h u hu => by rw [h] at hu; simp at hu; subst hu; rfl
theorem tyInts : ElemTy Try.prog 29 22 1 24 := .mk' Try.underlying29 (z := .slice none 0 0) (by kernel_rfl) rfl (by omega)
def ptrs (ps : List (List Stage)) (gs : Nat → Nat) (m : Nat) : List (Nat × Nat) := (List.range m).map fun t => (gs t, lenAt ps t + 1)
theorem ptrs_succ (ps : List (List Stage)) (gs : Nat → Nat) (m g : Nat) : ptrs ps (gsAdd gs m g) (m + 1) = ptrs ps gs m ++ [(g, lenAt ps m + 1)] := by
 unfold ptrs
 rw [List.range_succ, List.map_append]
 congr 1
 ·apply List.map_congr_left
  intro t ht
  have := List.mem_range.1 ht
  unfold gsAdd; rw [if_neg (by omega)]
 ·unfold gsAdd; simp
structure Tf (ps : List (List Stage)) (w wr : World) (v : Value) (m : Nat) (gs : Nat → Nat) (T : Tab) : Prop where
 o : OwnL 22 1 RPtr wr w.heap.size w.heap.size v (ptrs ps gs m)
 r : ∀ t, t < m → Blk wr (gs t) 3 (cellsI (rowOf ps T t))
 inj : ∀ t u, t < m → u < m → gs t = gs u → t = u
 lo : ∀ t, t < m → w.heap.size ≤ gs t
 k : KeepsAll w wr
section
variable {ps : List (List Stage)} {w wr w' w9 : World} {v v9 : Value} {m : Nat} {gs : Nat → Nat} {T : Tab}
theorem Tf.keep (h : Tf ps w wr v m gs T) (k : KeepsAll wr w') : Tf ps w w' v m gs T :=
 ⟨h.o.keeps RPtr.ok k (fun _ _ h => h.elim), fun t ht => (h.r t ht).kept k (by simp), h.inj, h.lo, h.k.tr k⟩
theorem Tf.add (h : Tf ps w wr v m gs T) (k : KeepsAll wr w') {g : Nat} (hg : wr.heap.size ≤ g) (hb : Blk w' g 3 (cellsI (rowOf ps T m))) (ho : OwnL 22 1 RPtr w9 w.heap.size w.heap.size v9 (ptrs ps gs m ++ [(g, lenAt ps m + 1)])) (hk : Keeps (fun b => v.ownBlock = some b) w' w9) : Tf ps w w9 v9 (m + 1) (gsAdd gs m g) T := by
 have h' := h.keep k
 have hgs : ∀ t, t < m → gs t < wr.heap.size := fun t ht => (h.r t ht).lt
 have hw := h.k.size
 refine ⟨by rw [ptrs_succ]; exact ho, fun t ht => ?_, fun t u ht hu he => ?_, fun t ht => ?_, h'.k.trans hk (fun x hx e => by have := h.o.lt e; omega)⟩
 ·unfold gsAdd
  by_cases e : t = m
  ·subst e; rw [if_pos rfl]; exact hb.kept hk (h'.o.ne_blk hb (by decide))
  ·rw [if_neg e]; exact (h'.r t (by omega)).kept hk (h'.o.ne_blk (h'.r t (by omega)) (by decide))
 ·unfold gsAdd at he
  by_cases e1 : t = m
  ·by_cases e2 : u = m
   ·omega
   ·rw [if_pos e1, if_neg e2] at he
    have := hgs u (by omega); omega
  ·by_cases e2 : u = m
   ·rw [if_neg e1, if_pos e2] at he
    have := hgs t (by omega); omega
   ·rw [if_neg e1, if_neg e2] at he
    exact h.inj t u (by omega) (by omega) he
 ·unfold gsAdd
  by_cases e1 : t = m
  ·rw [if_pos e1]; omega
  ·rw [if_neg e1]; exact h.lo t (by omega)
theorem Tf.toTb (h : Tf ps w wr v ps.length gs T) (h1 : 1 ≤ ps.length) : ∃ N c, v = .slice (some ⟨N, 0, none⟩) ps.length c ∧ ps.length ≤ c ∧ c ≤ 9223372036854775807 ∧ Tb ps w wr N ps.length gs T := by
 have hl : (ptrs ps gs ps.length).length = ps.length := by simp [ptrs]
 obtain ⟨A, c, rfl, hc1, hc2⟩ := h.o.form
 rw [hl] at hc1
 have ho := h.o
 obtain ⟨ess, h2, h3, h4⟩ := ho
 rcases h3.2 with ⟨e, hn⟩ | ⟨g, cap, cur, e, hb, hh, _⟩
 ·omega
 ·injection e with e1 e2 e3
  subst e1
  have hr := h.o.readF RPtr.ok RPtr.flat (S := fun b => b = g) (fun b hb => by simpa [Value.ownBlock] using hb.symm)
  refine ⟨g, c, by rw [hl], hc1, hc2, ⟨⟨cur, hh, fun t ht => ?_⟩, h.r, h.inj, h.lo, hb, h.k⟩⟩
  obtain ⟨b, o, x, es, hA, _, hx, _, he, hcell⟩ := hr.get (k := t) (by rw [hl]; exact ht)
  injection hA with hA; injection hA with hA1 hA2; subst hA1 hA2
  have hx' : (ptrs ps gs ps.length)[t]? = some (gs t, lenAt ps t + 1) := by simp [ptrs, ht]
  rw [hx'] at hx
  injection hx with hx
  subst hx
  cases he
  have hc := hcell 0 _ rfl
  have hB : Blk wr g 22 cur := hh
  rw [hB.cell] at hc
  unfold slT
  simpa using hc
end
theorem stepR_bd {ps : List (List Stage)} (hv : valid ps = true) {arcs : List RArc} (ha : ∀ a ∈ arcs, 0 ≤ a.wt ∧ a.wt ≤ 4194304) (at_ : List Int) {n : Int} (hn : 0 ≤ n ∧ n ≤ 4194304) (T : Tab) (B : Int) (u : Ref) (hB : 4194304 ≤ B) (h : Bd T B) : -1 ≤ stepR ps arcs at_ n T u ∧ stepR ps arcs at_ n T u ≤ B + 4194304 := by
 have hb := baseS_bd hv hn u
 refine ⟨?_, ?_⟩
 ·have := mxo_ge (valR at_ n T u) (baseS ps n u) arcs
  unfold stepR; omega
 ·unfold stepR
  rw [mxo_le]
  refine ⟨by omega, fun a hm y hy => ?_⟩
  have hw := ha a hm
  unfold valR at hy
  split at hy
  ·split at hy
   ·injection hy with hy
    have := h a.frm
    omega
   ·split at hy
    ·injection hy with hy; omega
    ·cases hy
  ·cases hy
theorem tabR_bd {ps : List (List Stage)} (hv : valid ps = true) {arcs : List RArc} (ha : ∀ a ∈ arcs, 0 ≤ a.wt ∧ a.wt ≤ 4194304) (at_ : List Int) {n : Int} (hn : 0 ≤ n ∧ n ≤ 4194304) (L : List Ref) : Bd (secs (stepR ps arcs at_ n) (initR at_ n) L) (4194304 + 4194304 * (L.length : Int)) :=
 secs_bd (by omega) (fun T B u hB h => stepR_bd hv ha at_ hn T B u hB h) L _ 4194304 (Int.le_refl _) (fun x => by unfold initR; split <;> omega)

theorem Tb.readF {ps : List (List Stage)} {w wr : World} {N : Nat} {gs : Nat → Nat} {T : Tab} (h : Tb ps w wr N ps.length gs T) {c : Nat} (hc : ps.length ≤ c) (hc2 : c ≤ 9223372036854775807) (hl : ∀ t, lenAt ps t ≤ 1000000) : RIntss wr (Fresh w wr) [.slice (some ⟨N, 0, none⟩) ps.length c] (tabOf ps T) := by
 refine ⟨_, _, by rw [tabOf_len], by rw [tabOf_len]; exact hc, hc2, fun _ => ⟨N, 0, rfl, ⟨h.nlo, h.nlt⟩, fun j x hx => ?_⟩⟩
 have hj : j < ps.length := by have := getElem?_lt hx; rwa [tabOf_len] at this
 rw [tabOf_at T hj] at hx
 injection hx with hx
 subst hx
 refine ⟨[slT ps gs j], rfl, ?_, fun i u hu => ?_⟩
 ·have := RInts.ofBlk (S := Fresh w wr) (rowOf ps T j) (h.r j hj) ⟨h.lo j hj, (h.r j hj).lt⟩ (by rw [rowOf_len]; have := hl j; omega)
  rw [rowOf_len] at this
  exact this
 ·have : i = 0 := by have := getElem?_lt hu; simp at this; omega
  subst this
  simp at hu; subst hu
  simpa using h.outer hj

set_option maxRecDepth 100000 in
set_option maxHeartbeats 4000000 in
theorem Seconds_fresh (ps : List (List Stage)) (arcs : List RArc) (L : List Ref) (at_ : List Int) (n : Int) (A A2 A3 A4 : Option Addr) (c c2 c3 c4 : Nat) (w : World) (h : RPaths w (Old w) [.slice A ps.length c] ps) (h2 : RRArcs w (Old w) [.slice A2 arcs.length c2] arcs) (h3 : RRefs w (Old w) [.slice A3 L.length c3] L) (h4 : RInts w (Old w) [.slice A4 at_.length c4] at_)
  (hv : valid ps = true) (h1 : 1 ≤ ps.length) (hg : Gd ps at_) (hn : 0 ≤ n ∧ n ≤ 4194304) (hL : L.length ≤ 650) (hLe : ∀ u ∈ L, ∃ (t k : Nat) (p : List Stage), ps[t]? = some p ∧ k ≤ p.length ∧ u = ⟨(t : Int), (k : Int)⟩)
  (hwt : ∀ a ∈ arcs, 0 ≤ a.wt ∧ a.wt ≤ 4194304) (hend : ∀ a ∈ arcs, ∃ (t k : Nat) (p : List Stage), ps[t]? = some p ∧ k ≤ p.length ∧ a.frm = ⟨(t : Int), (k : Int)⟩) :
  Calls Try.prog 27 #[.slice A ps.length c, .slice A2 arcs.length c2, .slice A3 L.length c3, .slice A4 at_.length c4, .int .i64 n] w fun e w' => ∃ v, e = .returned v ∧ RIntss w' (Fresh w w') [v] (tabOf ps (secs (stepR ps arcs at_ n) (initR at_ n) L)) ∧ KeepsAll w w' := by
 have hc := h.caps
 have hc2 := h2.caps
 have hc3 := h3.caps
 have hc4 := h4.caps
 have hps10 := (valid_lens hv).1
 have al1 : at_.length ≤ ps.length := by have := hg.1; omega
 have al2 : ps.length ≤ at_.length := by have := hg.1; omega
 have HLEN := Lib.hid (fun t => lenAt_le hv t)
 have HBD := Lib.hid (fun L => tabR_bd hv hwt at_ hn L)
 have HG := Lib.hid hg; clear hg
 have H := Lib.hid h; clear h
 have H2 := Lib.hid h2; clear h2
 have H3 := Lib.hid h3; clear h3
 have H4 := Lib.hid h4; clear h4
 have HLE := Lib.hid hLe; clear hLe
 have HWT := Lib.hid hwt; clear hwt
 have HEND := Lib.hid hend; clear hend
 have HV := Lib.hid hv; clear hv
 go_enter Try.func27, Try.ntmps27
 go_wp2
 go_loopw [11, 23] (fun v i wr => ∃ (m : Nat) (gs : Nat → Nat), m ≤ ps.length ∧ i = .int .i64 (m : Int) ∧ Tf ps w wr v m gs (initR at_ n)) (fun _ i _ => ps.length - (intOf i).toNat)
 case atStart => exact ⟨0, fun _ => 0, Nat.zero_le _, rfl, ⟨OwnL.nil, fun t ht => by omega, fun t u ht => by omega, fun t ht => by omega, Keeps.refl _ _⟩⟩
 case round =>
  obtain ⟨m, gs, hm, rfl, htf⟩ := hrel
  obtain ⟨Aa, ca, rfl, hca, hca2⟩ := htf.o.form
  have hpl : (ptrs ps gs m).length = m := by simp [ptrs]
  rw [hpl] at hca ⊢
  have HTF := Lib.hid htf
  have KT := Lib.hid htf.k
  have hsz := htf.k.size
  rw [hpl] at HTF
  clear htf
  by_cases hlt : m < ps.length
  ·obtain ⟨b, o, p, A', c', hbo, hb, hp, k1, hr⟩ := RSS.atK KT.out H.out hlt
   subst hbo
   have hcp := hr.caps
   have el := lenAt_of hp
   have hl64 := HLEN.out m
   rw [el] at hl64
   obtain ⟨ba, oa, xa, hbo, hba, hxa, r0⟩ := H4.out.at_ (k := m) (by omega)
   subst hbo
   have HRW : Hid (∀ k : Nat, k ≤ p.length → (rowOf ps (initR at_ n) m)[k]? = some (if (k : Int) ≤ xa then -1 else n)) := fun k hk => by
    rw [rowOf_at _ (by rw [el]; exact hk)]
    unfold initR doneR
    simp only [Int.toNat_natCast, nowAt_of hxa, decide_eq_true_eq]
   have HRL : Hid ((rowOf ps (initR at_ n) m).length = p.length + 1) := by show _ = _; rw [rowOf_len, el]
   have HEL := Lib.hid el
   have HLP : Hid ((ptrs ps gs m).length = m) := hpl
   clear hr hp hxa el hpl
   have hmk : ∀ W, (Instr.makeSlice 22 (.int .i64 ((p.length : Int) + 1)) (.int .i64 ((p.length : Int) + 1))).run Try.prog W = .ok (.slice (some ⟨W.heap.size, 0, none⟩) (p.length + 1) (p.length + 1)) (W.alloc (.cells (cellsI (List.replicate (p.length + 1) 0)) 3)) := fun W => by
    have := mkInts (p.length + 1) (by omega) W
    simpa using this
   have hs1 : IntKind.i64.wrap ((p.length : Int) + 1) = (p.length : Int) + 1 := IntWalk.i64_in _ (by omega)
   have hdm : decide ((m : Int) < (ps.length : Int)) = true := by simp; omega
   obtain ⟨w0, rfl⟩ : ∃ w0 : World, w0 = wr := ⟨_, rfl⟩
   go_wp2
   generalize hW3 : World.alloc w0 _ = W3
   have KW3 : Hid (KeepsAll w0 W3) := by subst hW3; exact (Keeps.refl _ _).alloc _
   have BR : Hid (Blk W3 w0.heap.size 3 (cellsI ((rowOf ps (initR at_ n) m).take 0 ++ List.replicate ((rowOf ps (initR at_ n) m).length - 0) 0))) := by subst hW3; show Blk _ _ _ _; rw [HRL.out]; simpa using Blk.new _ _ _
   clear hW3 k1 hb hmk hs1
   generalize hz : w0.heap.size = zr at *
   have HZ := Lib.hid hz; clear hz
   generalize hRR : rowOf ps (initR at_ n) m = RR at *
   have HRR := Lib.hid hRR; clear hRR
   go_loopw [34] (fun v wr => ∃ k : Nat, k ≤ p.length + 1 ∧ v = .int .i64 (k : Int) ∧ Blk wr zr 3 (cellsI (RR.take k ++ List.replicate (RR.length - k) 0)) ∧ KeepsAll w0 wr) (fun v _ => p.length + 1 - (intOf v).toNat)
   case atStart => exact ⟨0, Nat.zero_le _, rfl, BR.out, KW3.out⟩
   case round =>
    obtain ⟨k, hk, rfl, hbk, hkr⟩ := hrel
    have KR := Lib.hid hkr; clear hkr
    by_cases hltk : k < p.length + 1
    ·have hkL : k < RR.length := by rw [HRL.out]; exact hltk
     have hx := HRW.out k (by omega)
     have q0 := hbk.cell k
     have q1 := hbk.frozen k
     have hqz := hbk.lt
     rw [cellsI_at (fill_at RR 0 hkL)] at q0
     have r1 := (KT.out.tr KR.out).cellK (p := ⟨ba, oa + m, none⟩) hba r0
     have hba2 : ba < wr.heap.size := Nat.lt_of_lt_of_le hba (KT.out.tr KR.out).size
     have hdk : decide ((k : Int) < (p.length : Int) + 1) = true := by simp; omega
     have hbaz : ba ≠ zr := by
      have h1 : ba < w.heap.size := hba
      have := HZ.out
      omega
     by_cases gk : (k : Int) ≤ xa
     ·rw [if_pos gk] at hx
      have HN : Hid (Blk ((wr.setCell ⟨zr, k, none⟩ (.int .i64 n)).setCell ⟨zr, k, none⟩ (.int .i64 (-1))) zr 3 (cellsI (RR.take (k + 1) ++ List.replicate (RR.length - (k + 1)) 0)) ∧ KeepsAll w0 ((wr.setCell ⟨zr, k, none⟩ (.int .i64 n)).setCell ⟨zr, k, none⟩ (.int .i64 (-1)))) := by
       refine ⟨?_, (KR.out.setCell (fun h => absurd h (by have := HZ.out; simp; omega)) _).setCell (fun h => absurd h (by have := HZ.out; simp; omega)) _⟩
       have q := (hbk.set_ k (.int .i64 n)).set_ k (.int .i64 (-1))
       rw [cellsI_set, cellsI_set, List.set_set, fill_set RR 0 _ hx] at q
       exact q
      have gk' : decide ((k : Int) ≤ xa) = true := by simpa using gk
      clear hbk hx gk
      go_wp2
      go_roundw
      case rel => exact ⟨k + 1, by omega, by go_num, HN.out.1, HN.out.2⟩
      case measure => simp [intOf]; omega
     ·rw [if_neg gk] at hx
      have HN : Hid (Blk (wr.setCell ⟨zr, k, none⟩ (.int .i64 n)) zr 3 (cellsI (RR.take (k + 1) ++ List.replicate (RR.length - (k + 1)) 0)) ∧ KeepsAll w0 (wr.setCell ⟨zr, k, none⟩ (.int .i64 n))) := by
       refine ⟨?_, KR.out.setCell (fun h => absurd h (by have := HZ.out; simp; omega)) _⟩
       have q := hbk.set_ k (.int .i64 n)
       rw [cellsI_set, fill_set RR 0 _ hx] at q
       exact q
      have gk' : decide ((k : Int) ≤ xa) = false := by simpa using gk
      clear hbk hx gk
      go_wp2
      go_roundw
      case rel => exact ⟨k + 1, by omega, by go_num, HN.out.1, HN.out.2⟩
      case measure => simp [intOf]; omega
    ·obtain rfl : k = p.length + 1 := by omega
     have e : RR.take (p.length + 1) ++ List.replicate (RR.length - (p.length + 1)) 0 = RR := by rw [← HRL.out]; exact fill_done RR 0
     rw [e, ← HRR.out] at hbk
     have HBK := Lib.hid hbk
     clear hbk e
     have HT2 := Lib.hid (HTF.out.keep KR.out)
     have hzz := KR.out.size
     have HWB : Hid (∀ w9 v9, OwnL 22 1 RPtr w9 w.heap.size w.heap.size v9 (ptrs ps gs m ++ [(zr, p.length + 1)]) → Keeps (fun b => (Value.slice Aa m ca).ownBlock = some b) (wr.alloc (.cells #[.slice (some ⟨zr, 0, none⟩) (p.length + 1) (p.length + 1)] 22)) w9 → Tf ps w w9 v9 (m + 1) (gsAdd gs m zr) (initR at_ n)) := fun w9 v9 ho hk => by
      rw [← HEL.out] at ho
      exact HTF.out.add (KR.out.alloc _) (g := zr) (by rw [HZ.out]; exact Nat.le_refl _) (HBK.out.alloc _) ho hk
     have hwz : w.heap.size ≤ wr.heap.size := by have := HZ.out; omega
     have hdk : decide ((p.length : Int) + 1 < (p.length : Int) + 1) = false := by simp
     go_wp2_with (at_builtin; refine wpList_append_L tyInts RPtr.ok rfl (.tmp 51) (.tmp 53) rfl (HT2.out.o.alloc RPtr.ok _) rfl _ [.slice (some ⟨zr, 0, none⟩) (p.length + 1) (p.length + 1)] rfl (Blk.new' _ _ _ (by simp)) rfl (zr, p.length + 1) (S := fun _ => False) rfl (fun _ h => h.elim) (by simp [Value.oneCell']) (by have := HLP.out; omega) (by have := HLP.out; omega) (by simp; omega) ?_; intro v9 w9 HO9 HK9 HA9; have HF9 := Lib.hid (HWB.out w9 v9 HO9 HK9); obtain ⟨A9, c9, hv9, _, _⟩ := HO9.form; rw [List.length_append, List.length_singleton, HLP.out] at hv9; subst hv9; clear HO9 HK9 HA9)
     go_roundw
     case rel => exact ⟨m + 1, _, by omega, by go_num, HF9.out⟩
     case measure => simp [intOf]; omega
  ·obtain rfl : m = ps.length := by omega
   obtain ⟨N, cN, hvN, hcN1, hcN2, htb⟩ := HTF.out.toTb h1
   injection hvN with hvN1 _ hvN3
   subst hvN1 hvN3
   have HTB := Lib.hid htb
   clear htb HTF KT hlt hpl
   have hdm : decide ((ps.length : Int) < (ps.length : Int)) = false := by simp
   go_wp2
   go_loopw [58] (fun v wr => ∃ (j : Nat), j ≤ L.length ∧ v = .int .i64 (j : Int) ∧ Tb ps w wr N ps.length gs (secs (stepR ps arcs at_ n) (initR at_ n) (L.take j))) (fun v _ => L.length - (intOf v).toNat)
   case atStart => exact ⟨0, Nat.zero_le _, rfl, by simpa [secs] using HTB.out⟩
   case round =>
    clear HTB
    obtain ⟨j, hj, rfl, htb⟩ := hrel
    have HTJ := Lib.hid htb
    have KJ := Lib.hid htb.k
    have hNz := htb.nlt
    clear htb
    by_cases hltj : j < L.length
    ·have hu : L[j]? = some L[j] := List.getElem?_eq_getElem hltj
     obtain ⟨bl, ol, u, hbo, hbl, hxl, l0, l1⟩ := RRefs.atK KJ.out H3.out hltj
     subst hbo
     obtain rfl := same_of hu hxl
     have HSN : Hid (secs (stepR ps arcs at_ n) (initR at_ n) (L.take (j + 1)) = upd (secs (stepR ps arcs at_ n) (initR at_ n) (L.take j)) L[j] (mxo (valR at_ n (secs (stepR ps arcs at_ n) (initR at_ n) (L.take j)) L[j]) (baseS ps n L[j]) arcs)) := by
      show _ = _
      rw [take_succ' hu, secs_snoc]; rfl
     have hbd := HBD.out (L.take j)
     have hlj : (L.take j).length = j := by simp; omega
     rw [hlj] at hbd
     have HBJ := Lib.hid hbd
     clear hbd hlj
     obtain ⟨t, k, p, hp, hk, hue⟩ := HLE.out L[j] (List.getElem_mem _)
     rw [hue] at HSN l0 l1
     simp only [] at l0 l1
     generalize secs (stepR ps arcs at_ n) (initR at_ n) (L.take j) = Tj at HTJ HSN HBJ
     have htl := getElem?_lt hp
     obtain ⟨bp, op, p', Ap, cp, hbo, hbp0, hp', p00, hpr⟩ := RSS.at_ H.out htl
     subst hbo
     obtain rfl := same_of hp' hp
     have hcpp := hpr.caps
     have hpl := HLEN.out t
     have hel := lenAt_of hp
     rw [hel] at hpl
     obtain ⟨ba, oa, xa, hbo, hba0, hxa, r00⟩ := H4.out.at_ (k := t) (by omega)
     subst hbo
     have HCELL : Hid (∀ W, KeepsAll w W → W.cell? ⟨bp, op + t, none⟩ = some (.slice Ap p'.length cp) ∧ W.cell? ⟨ba, oa + t, none⟩ = some (.int .i64 xa) ∧ bp < W.heap.size ∧ ba < W.heap.size) := fun W hW => ⟨hW.cellK hbp0 p00, hW.cellK hba0 r00, Nat.lt_of_lt_of_le hbp0 hW.size, Nat.lt_of_lt_of_le hba0 hW.size⟩
     have HNA := Lib.hid (nowAt_of hxa)
     have HKL : Hid (k ≤ lenAt ps t) := by show _ ≤ _; rw [hel]; exact hk
     have HPQ := Lib.hid hp
     have hGt := HG.out.2 t htl
     rw [nowAt_of hxa, hel] at hGt
     have hbase : (k < p'.length → ∀ s, p'[k]? = some s → baseS ps n ⟨(t : Int), (k : Int)⟩ = max n s.nt) ∧ (¬ k < p'.length → baseS ps n ⟨(t : Int), (k : Int)⟩ = n) := by
      unfold baseS
      simp only [Int.toNat_natCast, HPQ.out, Option.getD_some]
      refine ⟨fun _ s hs => by rw [hs]; rfl, fun hn' => by rw [List.getElem?_eq_none (by omega)]; rfl⟩
     have HBS := Lib.hid hbase
     have HPR := Lib.hid hpr
     clear hbase hp hp' hpr hel hxa hue hu hxl p00 r00 hbp0 hba0
     have hdj : decide ((j : Int) < (L.length : Int)) = true := by simp; omega
     go_wp2
     generalize hW5 : World.alloc wr _ = W5
     have KW5 : KeepsAll wr W5 := by subst hW5; exact (Keeps.refl _ _).alloc _
     have BU : Hid (Blk W5 wr.heap.size 46 #[.int .i64 (t : Int), .int .i64 (k : Int)]) := by subst hW5; exact Blk.new _ _ _
     have HT5 := Lib.hid (HTJ.out.keep KW5)
     have K5 := Lib.hid (KJ.out.tr KW5)
     clear hW5 l0 l1 KW5 hbl hNz HTJ KJ
     generalize wr.heap.size = zu at *
     have u0 := BU.out.cell 0
     have u1 := BU.out.cell 1
     simp at u0 u1
     have hzu := BU.out.lt
     obtain ⟨p0, -, hbp, -⟩ := HCELL.out W5 K5.out
     have HGO : (∃ (b2 o2 : Nat) (s : Stage), Ap = some ⟨b2, o2, none⟩ ∧ b2 < W5.heap.size ∧ k < p'.length ∧ W5.cell? ⟨b2, o2 + k * 4 + 3, none⟩ = some (.int .i64 s.nt) ∧ Hid (baseS ps n ⟨(t : Int), (k : Int)⟩ = max n s.nt)) ∨ (decide (k < p'.length) = false ∧ Hid (baseS ps n ⟨(t : Int), (k : Int)⟩ = n)) := by
      by_cases hkp : k < p'.length
      ·obtain ⟨b2, o2, s, As, cs, hbo, hb2, hs, m0, m1, m2, m3, hpts⟩ := RPath.atK K5.out HPR.out hkp
       exact .inl ⟨b2, o2, s, hbo, hb2, hkp, m3, HBS.out.1 hkp s hs⟩
      ·exact .inr ⟨by simpa using hkp, HBS.out.2 hkp⟩
     clear HBS HPR
     rcases HGO with ⟨b2, o2, s, rfl, hb2, hkp, m3, HBASE⟩ | ⟨hkp, HBASE⟩
     ·go_quiet (fail)
      go_wp2
      go_quiet (fail)
      go_wp2
      clear u0 u1 p0 hzu hbp
      go_loopw [18, 86] (fun vs vi wr => ∃ i : Nat, i ≤ arcs.length ∧ vi = .int .i64 (i : Int) ∧ vs = .int .i64 (mxo (valR at_ n Tj ⟨(t : Int), (k : Int)⟩) (baseS ps n ⟨(t : Int), (k : Int)⟩) (arcs.take i)) ∧ KeepsAll W5 wr) (fun _ vi _ => arcs.length - (intOf vi).toNat)
      case atStart => exact ⟨0, Nat.zero_le _, rfl, by rw [HBASE.out]; rfl, (Keeps.refl _ _).drewN _⟩
      case round =>
       obtain ⟨i, hi, rfl, rfl, hki⟩ := hrel
       have KI := Lib.hid (K5.out.tr hki)
       have HTI := Lib.hid (HT5.out.keep hki)
       have BUI := Lib.hid (BU.out.kept hki (by simp))
       have K5I := Lib.hid hki
       clear hki
       by_cases hlti : i < arcs.length
       ·obtain ⟨bA, oA, a, hbo, hbA, ha, c0, c1, c2', c3', c4'⟩ := RRArcs.atK KI.out H2.out hlti
        subst hbo
        obtain ⟨tf, kf, pf, hpf, hkf, hfe⟩ := HEND.out a (List.mem_of_getElem? ha)
        have hwt := HWT.out a (List.mem_of_getElem? ha)
        have htfl := getElem?_lt hpf
        have hpf64 := HLEN.out tf
        rw [lenAt_of hpf] at hpf64
        obtain ⟨bf, of, xf, hbo, hbf, hxf, y0⟩ := RInts.atK KI.out H4.out (k := tf) (by omega)
        injection hbo with hbo; injection hbo with hbo1 hbo2; subst hbo1 hbo2
        have hlf : lenAt ps tf = pf.length := lenAt_of hpf
        have hkfl : kf ≤ lenAt ps tf := by omega
        have hkf2 : kf < lenAt ps tf + 1 := by omega
        have htj := HBJ.out ⟨(tf : Int), (kf : Int)⟩
        have HVR : Hid (valR at_ n Tj ⟨(t : Int), (k : Int)⟩ a = if a.to = ⟨(t : Int), (k : Int)⟩ then (if ¬ (kf : Int) ≤ xf then some (Tj ⟨(tf : Int), (kf : Int)⟩ + a.wt) else if (tf : Int) = (t : Int) ∧ (kf : Int) = xa ∧ (kf : Int) + 1 = (k : Int) then some (n + a.wt) else none) else none) := by
         show valR _ _ _ _ _ = _
         unfold valR doneR
         rw [hfe]
         simp only [Int.toNat_natCast, nowAt_of hxf, HNA.out, decide_eq_false_iff_not]
        have HSN2 : Hid (mxo (valR at_ n Tj ⟨(t : Int), (k : Int)⟩) (baseS ps n ⟨(t : Int), (k : Int)⟩) (arcs.take (i + 1)) = (valR at_ n Tj ⟨(t : Int), (k : Int)⟩ a).elim (mxo (valR at_ n Tj ⟨(t : Int), (k : Int)⟩) (baseS ps n ⟨(t : Int), (k : Int)⟩) (arcs.take i)) (max (mxo (valR at_ n Tj ⟨(t : Int), (k : Int)⟩) (baseS ps n ⟨(t : Int), (k : Int)⟩) (arcs.take i)))) := by
         show _ = _
         rw [take_succ' ha, mxo_snoc]
        generalize mxo (valR at_ n Tj ⟨(t : Int), (k : Int)⟩) (baseS ps n ⟨(t : Int), (k : Int)⟩) (arcs.take i) = cur at *
        rw [hfe] at c0 c1
        simp only [] at c0 c1
        have u0 := BUI.out.cell 0
        have u1 := BUI.out.cell 1
        simp at u0 u1
        have hzu := BUI.out.lt
        clear ha hpf hkf hfe hxf hlf
        have hdi : decide ((i : Int) < (arcs.length : Int)) = true := by simp; omega
        by_cases g1 : a.to = ⟨(t : Int), (k : Int)⟩
        ·have g1' : a.to.tr = (t : Int) := by rw [g1]
         have g1'' : a.to.st = (k : Int) := by rw [g1]
         rw [g1'] at c2'
         rw [g1''] at c3'
         rw [if_pos g1] at HVR
         clear g1 g1' g1''
         go_wp2
         generalize hW6 : World.alloc wr _ = W6
         have KW6 : KeepsAll wr W6 := by subst hW6; exact (Keeps.refl _ _).alloc _
         have BA : Blk W6 wr.heap.size 57 #[.int .i64 (tf : Int), .int .i64 (kf : Int), .int .i64 (t : Int), .int .i64 (k : Int), .int .i64 a.wt] := by subst hW6; exact Blk.new _ _ _
         have a0 := BA.cell 0
         have a1 := BA.cell 1
         have a4 := BA.cell 4
         simp at a0 a1 a4
         have hza := BA.lt
         replace y0 := KW6.cellK (p := ⟨ba, oa + tf, none⟩) hbf y0
         replace u0 := KW6.cellK (p := ⟨zu, 0, none⟩) hzu u0
         replace u1 := KW6.cellK (p := ⟨zu, 1, none⟩) hzu u1
         have HT6 := HTI.out.keep KW6
         have o0 := HT6.outer htfl
         have o1 := HT6.inner htfl hkfl
         unfold slT at o0
         obtain ⟨-, r0, -, hbaz⟩ := HCELL.out W6 (KI.out.tr KW6)
         have hN6 := HT6.nlt
         have K56 := Lib.hid (K5I.out.tr KW6)
         clear hW6 KW6 BA c0 c1 c2' c3' c4' hbA hbf hzu HT6
         generalize wr.heap.size = za at *
         by_cases g2 : (kf : Int) ≤ xf
         ·have g2' : ¬ xf < (kf : Int) := by omega
          rw [if_neg (by omega)] at HVR
          by_cases gA : (tf : Int) = (t : Int)
          ·have gA' : ((tf : Int) == (t : Int)) = true := by simpa using gA
           by_cases gB : (kf : Int) = xa
           ·have gB' : ((kf : Int) == xa) = true := by simpa using gB
            have hs2 : IntKind.i64.wrap ((kf : Int) + 1) = (kf : Int) + 1 := IntWalk.i64_in _ (by omega)
            by_cases gC : (kf : Int) + 1 = (k : Int)
            ·have gC' : ((kf : Int) + 1 == (k : Int)) = true := by simpa using gC
             have Q : Hid (mxo (valR at_ n Tj ⟨(t : Int), (k : Int)⟩) (baseS ps n ⟨(t : Int), (k : Int)⟩) (arcs.take (i + 1)) = max cur (n + a.wt)) := by show _ = _; rw [HSN2.out, HVR.out, if_pos ⟨gA, gB, gC⟩]; rfl
             have hs1 : IntKind.i64.wrap (n + a.wt) = n + a.wt := IntWalk.i64_in _ (by omega)
             clear gA gB gC g2 HVR HSN2
             go_quiet (fail)
             go_wp2
             go_quiet (fail)
             go_wp2
             go_roundw
             case rel => exact ⟨i + 1, by omega, by go_num, by rw [Q.out], K56.out.drewN _⟩
             case measure => simp [intOf]; omega
            ·have gC' : ((kf : Int) + 1 == (k : Int)) = false := by simpa using gC
             have Q : Hid (mxo (valR at_ n Tj ⟨(t : Int), (k : Int)⟩) (baseS ps n ⟨(t : Int), (k : Int)⟩) (arcs.take (i + 1)) = cur) := by show _ = _; rw [HSN2.out, HVR.out, if_neg (fun h => gC h.2.2)]; rfl
             clear gA gB gC g2 HVR HSN2
             go_quiet (fail)
             go_wp2
             go_quiet (fail)
             go_wp2
             go_roundw
             case rel => exact ⟨i + 1, by omega, by go_num, by rw [Q.out], K56.out.drewN _⟩
             case measure => simp [intOf]; omega
           ·have gB' : ((kf : Int) == xa) = false := by simpa using gB
            have Q : Hid (mxo (valR at_ n Tj ⟨(t : Int), (k : Int)⟩) (baseS ps n ⟨(t : Int), (k : Int)⟩) (arcs.take (i + 1)) = cur) := by show _ = _; rw [HSN2.out, HVR.out, if_neg (fun h => gB h.2.1)]; rfl
            clear gA gB g2 HVR HSN2
            go_quiet (fail)
            go_wp2
            go_quiet (fail)
            go_wp2
            go_roundw
            case rel => exact ⟨i + 1, by omega, by go_num, by rw [Q.out], K56.out.drewN _⟩
            case measure => simp [intOf]; omega
          ·have gA' : ((tf : Int) == (t : Int)) = false := by simpa using gA
           have Q : Hid (mxo (valR at_ n Tj ⟨(t : Int), (k : Int)⟩) (baseS ps n ⟨(t : Int), (k : Int)⟩) (arcs.take (i + 1)) = cur) := by show _ = _; rw [HSN2.out, HVR.out, if_neg (fun h => gA h.1)]; rfl
           clear gA g2 HVR HSN2
           go_quiet (fail)
           go_wp2
           go_quiet (fail)
           go_wp2
           go_roundw
           case rel => exact ⟨i + 1, by omega, by go_num, by rw [Q.out], K56.out.drewN _⟩
           case measure => simp [intOf]; omega
         ·have g2' : xf < (kf : Int) := by omega
          rw [if_pos (by omega)] at HVR
          generalize Tj ⟨(tf : Int), (kf : Int)⟩ = tv at *
          have Q : Hid (mxo (valR at_ n Tj ⟨(t : Int), (k : Int)⟩) (baseS ps n ⟨(t : Int), (k : Int)⟩) (arcs.take (i + 1)) = max cur (tv + a.wt)) := by show _ = _; rw [HSN2.out, HVR.out]; rfl
          have hs1 : IntKind.i64.wrap (tv + a.wt) = tv + a.wt := IntWalk.i64_in _ (by omega)
          clear g2 HVR HSN2
          go_quiet (fail)
          go_wp2
          go_quiet (fail)
          go_wp2
          go_roundw
          case rel => exact ⟨i + 1, by omega, by go_num, by rw [Q.out], K56.out.drewN _⟩
          case measure => simp [intOf]; omega
        ·have Q : Hid (mxo (valR at_ n Tj ⟨(t : Int), (k : Int)⟩) (baseS ps n ⟨(t : Int), (k : Int)⟩) (arcs.take (i + 1)) = cur) := by show _ = _; rw [HSN2.out, HVR.out, if_neg g1]; rfl
         have g1n : ¬ (a.to.tr = (t : Int) ∧ a.to.st = (k : Int)) := fun h => g1 (Ref.eq_of h.1 h.2)
         have K56 : Hid (∀ ob, KeepsAll W5 (wr.alloc ob)) := fun ob => K5I.out.alloc _
         clear g1 HVR HSN2
         by_cases g3 : a.to.tr = (t : Int)
         ·have g4 : ¬ a.to.st = (k : Int) := fun h => g1n ⟨g3, h⟩
          rw [g3] at c2'
          clear g1n g3
          go_wp2
          go_roundw
          case rel => exact ⟨i + 1, by omega, by go_num, by rw [Q.out], K56.out _⟩
          case measure => simp [intOf]; omega
         ·clear g1n
          go_wp2
          go_roundw
          case rel => exact ⟨i + 1, by omega, by go_num, by rw [Q.out], K56.out _⟩
          case measure => simp [intOf]; omega
       ·obtain rfl : i = arcs.length := by omega
        rw [List.take_length]
        generalize mxo (valR at_ n Tj ⟨(t : Int), (k : Int)⟩) (baseS ps n ⟨(t : Int), (k : Int)⟩) arcs = sv at *
        have o0 := HTI.out.outer htl
        have o1 := HTI.out.inner htl HKL.out
        have o2 := (HTI.out.r t htl).frozen k
        have hog := (HTI.out.r t htl).lt
        unfold slT at o0
        have u0 := BUI.out.cell 0
        have u1 := BUI.out.cell 1
        simp at u0 u1
        have hzu8 := BUI.out.lt
        have hN8 := HTI.out.nlt
        have hkl2 : k < lenAt ps t + 1 := by have := HKL.out; omega
        have HTN : Hid (Tb ps w (wr.drew.setCell ⟨gs t, k, none⟩ (.int .i64 sv)) N ps.length gs (upd Tj ⟨(t : Int), (k : Int)⟩ sv)) := (HTI.out.keep ((Keeps.refl _ _).drew)).set htl sv
        have hdi : decide ((arcs.length : Int) < (arcs.length : Int)) = false := by simp
        go_wp2
        refine wp_region_lex (fun w' => ∃ x : Ext wr, w' = x.val) [0, 1, 2, 3, 4, 5, 6, 7, 8, 9] (by kernel_rfl) (by kernel_rfl) ⟨⟨_, (Keeps.refl _ _).drew⟩, rfl⟩ ?_
        have x0 := Ext.cell o0
        have x1 := Ext.cell u0
        have x2 := Ext.cell u1
        iterate 9 (refine lex_q _ rfl rfl rfl ?_; go_big_quiet_step (fail); refine wpQuiet_nil ?_)
        refine lex_a _ rfl rfl false (by kernel_rfl) ?_
        go_wp2
        refine ⟨fun h => (by cases h), ?_⟩
        refine (by assumption : ∀ (a : Act) (w : World), Code.wp Try.prog (Code.region 31 _ _) _ a w → _) _ _ ?_
        clear x0 x1 x2
        go_wp2
        go_roundw
        case rel => exact ⟨j + 1, by omega, by go_num, by rw [HSN.out]; exact HTN.out⟩
        case measure => simp [intOf]; omega
     ·go_quiet (fail)
      go_wp2
      clear u0 u1 p0 hzu hbp
      go_loopw [18, 86] (fun vs vi wr => ∃ i : Nat, i ≤ arcs.length ∧ vi = .int .i64 (i : Int) ∧ vs = .int .i64 (mxo (valR at_ n Tj ⟨(t : Int), (k : Int)⟩) (baseS ps n ⟨(t : Int), (k : Int)⟩) (arcs.take i)) ∧ KeepsAll W5 wr) (fun _ vi _ => arcs.length - (intOf vi).toNat)
      case atStart => exact ⟨0, Nat.zero_le _, rfl, by rw [HBASE.out]; rfl, (Keeps.refl _ _).drewN _⟩
      case round =>
       obtain ⟨i, hi, rfl, rfl, hki⟩ := hrel
       have KI := Lib.hid (K5.out.tr hki)
       have HTI := Lib.hid (HT5.out.keep hki)
       have BUI := Lib.hid (BU.out.kept hki (by simp))
       have K5I := Lib.hid hki
       clear hki
       by_cases hlti : i < arcs.length
       ·obtain ⟨bA, oA, a, hbo, hbA, ha, c0, c1, c2', c3', c4'⟩ := RRArcs.atK KI.out H2.out hlti
        subst hbo
        obtain ⟨tf, kf, pf, hpf, hkf, hfe⟩ := HEND.out a (List.mem_of_getElem? ha)
        have hwt := HWT.out a (List.mem_of_getElem? ha)
        have htfl := getElem?_lt hpf
        have hpf64 := HLEN.out tf
        rw [lenAt_of hpf] at hpf64
        obtain ⟨bf, of, xf, hbo, hbf, hxf, y0⟩ := RInts.atK KI.out H4.out (k := tf) (by omega)
        injection hbo with hbo; injection hbo with hbo1 hbo2; subst hbo1 hbo2
        have hlf : lenAt ps tf = pf.length := lenAt_of hpf
        have hkfl : kf ≤ lenAt ps tf := by omega
        have hkf2 : kf < lenAt ps tf + 1 := by omega
        have htj := HBJ.out ⟨(tf : Int), (kf : Int)⟩
        have HVR : Hid (valR at_ n Tj ⟨(t : Int), (k : Int)⟩ a = if a.to = ⟨(t : Int), (k : Int)⟩ then (if ¬ (kf : Int) ≤ xf then some (Tj ⟨(tf : Int), (kf : Int)⟩ + a.wt) else if (tf : Int) = (t : Int) ∧ (kf : Int) = xa ∧ (kf : Int) + 1 = (k : Int) then some (n + a.wt) else none) else none) := by
         show valR _ _ _ _ _ = _
         unfold valR doneR
         rw [hfe]
         simp only [Int.toNat_natCast, nowAt_of hxf, HNA.out, decide_eq_false_iff_not]
        have HSN2 : Hid (mxo (valR at_ n Tj ⟨(t : Int), (k : Int)⟩) (baseS ps n ⟨(t : Int), (k : Int)⟩) (arcs.take (i + 1)) = (valR at_ n Tj ⟨(t : Int), (k : Int)⟩ a).elim (mxo (valR at_ n Tj ⟨(t : Int), (k : Int)⟩) (baseS ps n ⟨(t : Int), (k : Int)⟩) (arcs.take i)) (max (mxo (valR at_ n Tj ⟨(t : Int), (k : Int)⟩) (baseS ps n ⟨(t : Int), (k : Int)⟩) (arcs.take i)))) := by
         show _ = _
         rw [take_succ' ha, mxo_snoc]
        generalize mxo (valR at_ n Tj ⟨(t : Int), (k : Int)⟩) (baseS ps n ⟨(t : Int), (k : Int)⟩) (arcs.take i) = cur at *
        rw [hfe] at c0 c1
        simp only [] at c0 c1
        have u0 := BUI.out.cell 0
        have u1 := BUI.out.cell 1
        simp at u0 u1
        have hzu := BUI.out.lt
        clear ha hpf hkf hfe hxf hlf
        have hdi : decide ((i : Int) < (arcs.length : Int)) = true := by simp; omega
        by_cases g1 : a.to = ⟨(t : Int), (k : Int)⟩
        ·have g1' : a.to.tr = (t : Int) := by rw [g1]
         have g1'' : a.to.st = (k : Int) := by rw [g1]
         rw [g1'] at c2'
         rw [g1''] at c3'
         rw [if_pos g1] at HVR
         clear g1 g1' g1''
         go_wp2
         generalize hW6 : World.alloc wr _ = W6
         have KW6 : KeepsAll wr W6 := by subst hW6; exact (Keeps.refl _ _).alloc _
         have BA : Blk W6 wr.heap.size 57 #[.int .i64 (tf : Int), .int .i64 (kf : Int), .int .i64 (t : Int), .int .i64 (k : Int), .int .i64 a.wt] := by subst hW6; exact Blk.new _ _ _
         have a0 := BA.cell 0
         have a1 := BA.cell 1
         have a4 := BA.cell 4
         simp at a0 a1 a4
         have hza := BA.lt
         replace y0 := KW6.cellK (p := ⟨ba, oa + tf, none⟩) hbf y0
         replace u0 := KW6.cellK (p := ⟨zu, 0, none⟩) hzu u0
         replace u1 := KW6.cellK (p := ⟨zu, 1, none⟩) hzu u1
         have HT6 := HTI.out.keep KW6
         have o0 := HT6.outer htfl
         have o1 := HT6.inner htfl hkfl
         unfold slT at o0
         obtain ⟨-, r0, -, hbaz⟩ := HCELL.out W6 (KI.out.tr KW6)
         have hN6 := HT6.nlt
         have K56 := Lib.hid (K5I.out.tr KW6)
         clear hW6 KW6 BA c0 c1 c2' c3' c4' hbA hbf hzu HT6
         generalize wr.heap.size = za at *
         by_cases g2 : (kf : Int) ≤ xf
         ·have g2' : ¬ xf < (kf : Int) := by omega
          rw [if_neg (by omega)] at HVR
          by_cases gA : (tf : Int) = (t : Int)
          ·have gA' : ((tf : Int) == (t : Int)) = true := by simpa using gA
           by_cases gB : (kf : Int) = xa
           ·have gB' : ((kf : Int) == xa) = true := by simpa using gB
            have hs2 : IntKind.i64.wrap ((kf : Int) + 1) = (kf : Int) + 1 := IntWalk.i64_in _ (by omega)
            by_cases gC : (kf : Int) + 1 = (k : Int)
            ·have gC' : ((kf : Int) + 1 == (k : Int)) = true := by simpa using gC
             have Q : Hid (mxo (valR at_ n Tj ⟨(t : Int), (k : Int)⟩) (baseS ps n ⟨(t : Int), (k : Int)⟩) (arcs.take (i + 1)) = max cur (n + a.wt)) := by show _ = _; rw [HSN2.out, HVR.out, if_pos ⟨gA, gB, gC⟩]; rfl
             have hs1 : IntKind.i64.wrap (n + a.wt) = n + a.wt := IntWalk.i64_in _ (by omega)
             clear gA gB gC g2 HVR HSN2
             go_quiet (fail)
             go_wp2
             go_quiet (fail)
             go_wp2
             go_roundw
             case rel => exact ⟨i + 1, by omega, by go_num, by rw [Q.out], K56.out.drewN _⟩
             case measure => simp [intOf]; omega
            ·have gC' : ((kf : Int) + 1 == (k : Int)) = false := by simpa using gC
             have Q : Hid (mxo (valR at_ n Tj ⟨(t : Int), (k : Int)⟩) (baseS ps n ⟨(t : Int), (k : Int)⟩) (arcs.take (i + 1)) = cur) := by show _ = _; rw [HSN2.out, HVR.out, if_neg (fun h => gC h.2.2)]; rfl
             clear gA gB gC g2 HVR HSN2
             go_quiet (fail)
             go_wp2
             go_quiet (fail)
             go_wp2
             go_roundw
             case rel => exact ⟨i + 1, by omega, by go_num, by rw [Q.out], K56.out.drewN _⟩
             case measure => simp [intOf]; omega
           ·have gB' : ((kf : Int) == xa) = false := by simpa using gB
            have Q : Hid (mxo (valR at_ n Tj ⟨(t : Int), (k : Int)⟩) (baseS ps n ⟨(t : Int), (k : Int)⟩) (arcs.take (i + 1)) = cur) := by show _ = _; rw [HSN2.out, HVR.out, if_neg (fun h => gB h.2.1)]; rfl
            clear gA gB g2 HVR HSN2
            go_quiet (fail)
            go_wp2
            go_quiet (fail)
            go_wp2
            go_roundw
            case rel => exact ⟨i + 1, by omega, by go_num, by rw [Q.out], K56.out.drewN _⟩
            case measure => simp [intOf]; omega
          ·have gA' : ((tf : Int) == (t : Int)) = false := by simpa using gA
           have Q : Hid (mxo (valR at_ n Tj ⟨(t : Int), (k : Int)⟩) (baseS ps n ⟨(t : Int), (k : Int)⟩) (arcs.take (i + 1)) = cur) := by show _ = _; rw [HSN2.out, HVR.out, if_neg (fun h => gA h.1)]; rfl
           clear gA g2 HVR HSN2
           go_quiet (fail)
           go_wp2
           go_quiet (fail)
           go_wp2
           go_roundw
           case rel => exact ⟨i + 1, by omega, by go_num, by rw [Q.out], K56.out.drewN _⟩
           case measure => simp [intOf]; omega
         ·have g2' : xf < (kf : Int) := by omega
          rw [if_pos (by omega)] at HVR
          generalize Tj ⟨(tf : Int), (kf : Int)⟩ = tv at *
          have Q : Hid (mxo (valR at_ n Tj ⟨(t : Int), (k : Int)⟩) (baseS ps n ⟨(t : Int), (k : Int)⟩) (arcs.take (i + 1)) = max cur (tv + a.wt)) := by show _ = _; rw [HSN2.out, HVR.out]; rfl
          have hs1 : IntKind.i64.wrap (tv + a.wt) = tv + a.wt := IntWalk.i64_in _ (by omega)
          clear g2 HVR HSN2
          go_quiet (fail)
          go_wp2
          go_quiet (fail)
          go_wp2
          go_roundw
          case rel => exact ⟨i + 1, by omega, by go_num, by rw [Q.out], K56.out.drewN _⟩
          case measure => simp [intOf]; omega
        ·have Q : Hid (mxo (valR at_ n Tj ⟨(t : Int), (k : Int)⟩) (baseS ps n ⟨(t : Int), (k : Int)⟩) (arcs.take (i + 1)) = cur) := by show _ = _; rw [HSN2.out, HVR.out, if_neg g1]; rfl
         have g1n : ¬ (a.to.tr = (t : Int) ∧ a.to.st = (k : Int)) := fun h => g1 (Ref.eq_of h.1 h.2)
         have K56 : Hid (∀ ob, KeepsAll W5 (wr.alloc ob)) := fun ob => K5I.out.alloc _
         clear g1 HVR HSN2
         by_cases g3 : a.to.tr = (t : Int)
         ·have g4 : ¬ a.to.st = (k : Int) := fun h => g1n ⟨g3, h⟩
          rw [g3] at c2'
          clear g1n g3
          go_wp2
          go_roundw
          case rel => exact ⟨i + 1, by omega, by go_num, by rw [Q.out], K56.out _⟩
          case measure => simp [intOf]; omega
         ·clear g1n
          go_wp2
          go_roundw
          case rel => exact ⟨i + 1, by omega, by go_num, by rw [Q.out], K56.out _⟩
          case measure => simp [intOf]; omega
       ·obtain rfl : i = arcs.length := by omega
        rw [List.take_length]
        generalize mxo (valR at_ n Tj ⟨(t : Int), (k : Int)⟩) (baseS ps n ⟨(t : Int), (k : Int)⟩) arcs = sv at *
        have o0 := HTI.out.outer htl
        have o1 := HTI.out.inner htl HKL.out
        have o2 := (HTI.out.r t htl).frozen k
        have hog := (HTI.out.r t htl).lt
        unfold slT at o0
        have u0 := BUI.out.cell 0
        have u1 := BUI.out.cell 1
        simp at u0 u1
        have hzu8 := BUI.out.lt
        have hN8 := HTI.out.nlt
        have hkl2 : k < lenAt ps t + 1 := by have := HKL.out; omega
        have HTN : Hid (Tb ps w (wr.drew.setCell ⟨gs t, k, none⟩ (.int .i64 sv)) N ps.length gs (upd Tj ⟨(t : Int), (k : Int)⟩ sv)) := (HTI.out.keep ((Keeps.refl _ _).drew)).set htl sv
        have hdi : decide ((arcs.length : Int) < (arcs.length : Int)) = false := by simp
        go_wp2
        refine wp_region_lex (fun w' => ∃ x : Ext wr, w' = x.val) [0, 1, 2, 3, 4, 5, 6, 7, 8, 9] (by kernel_rfl) (by kernel_rfl) ⟨⟨_, (Keeps.refl _ _).drew⟩, rfl⟩ ?_
        have x0 := Ext.cell o0
        have x1 := Ext.cell u0
        have x2 := Ext.cell u1
        iterate 9 (refine lex_q _ rfl rfl rfl ?_; go_big_quiet_step (fail); refine wpQuiet_nil ?_)
        refine lex_a _ rfl rfl false (by kernel_rfl) ?_
        go_wp2
        refine ⟨fun h => (by cases h), ?_⟩
        refine (by assumption : ∀ (a : Act) (w : World), Code.wp Try.prog (Code.region 31 _ _) _ a w → _) _ _ ?_
        clear x0 x1 x2
        go_wp2
        go_roundw
        case rel => exact ⟨j + 1, by omega, by go_num, by rw [HSN.out]; exact HTN.out⟩
        case measure => simp [intOf]; omega
    ·obtain rfl : j = L.length := by omega
     rw [List.take_length] at HTJ
     have HRD := Lib.hid (HTJ.out.readF (c := ca) hcN1 hcN2 (fun t => by have := HLEN.out t; omega))
     have hdj : decide ((L.length : Int) < (L.length : Int)) = false := by simp
     go_wp2
     go_ret
     exact ⟨_, rfl, HRD.out, KJ.out⟩

end Go.Proofs.Ytilbbpbjhoidhaa
