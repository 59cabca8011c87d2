/- The reference's search of chapter 36 in memory; contract of known. Conditions: as each theorem says. The search of chapter 36 in memory. Conditions: as each theorem says. -/
import Derived.Test.YtilbbpbjhoidhaaS50
import Derived.Test.YtilbbpbjhoidhaaS13
import Derived.Test.YtilbbpbjhoidhaaS49
namespace Go.Proofs.Ytilbbpbjhoidhaa
open Go.RowKit

def RVal : Rd Value := fun _ _ cs v => cs = [v]
theorem RVal.flat : Rd.Flat RVal := fun _ _ _ _ _ _ h => h
theorem RVal.ok : Rd.Ok RVal := ⟨fun h _ _ => h⟩
/-- what the rows of the examined states rest on -/
def RowF (w : World) (rb : Nat) (vseen vplan : Value) : Foot := fun b => rb < b ∧ b < w.heap.size ∧ vseen.ownBlock ≠ some b ∧ vplan.ownBlock ≠ some b
structure RSr (w0 w : World) (rb : Nat) (A : Option Addr) (c : Nat) (ps : List (List Stage)) (budget used : Nat) (vs : List Value) (seen : List (List Int)) (vseen vplan : Value) (plan : List Int) : Prop where
 b : Blk w rb 116 #[.slice A ps.length c, .int .i64 (budget : Int), .int .i64 (used : Int), vseen, vplan]
 so : OwnL 22 1 RVal w (rb + 1) (rb + 1) vseen vs
 po : OwnL 3 1 RInt w (rb + 1) (rb + 1) vplan plan
 sl : vs.length = seen.length
 rows : ∀ (j : Nat) v x, vs[j]? = some v → seen[j]? = some x → RInts w (RowF w rb vseen vplan) [v] x
 gd : ∀ x ∈ seen, Gd ps x
 ne : ∀ b, vseen.ownBlock = some b → vplan.ownBlock ≠ some b
 lo : w0.heap.size ≤ rb
 k : KeepsAll w0 w
section
variable {w0 w w' : World} {rb : Nat} {A : Option Addr} {c : Nat} {ps : List (List Stage)} {budget used used' : Nat} {vs : List Value} {seen : List (List Int)} {vseen vplan vplan' : Value} {plan plan' : List Int}
theorem RSr.keep (h : RSr w0 w rb A c ps budget used vs seen vseen vplan plan) (k : KeepsAll w w') : RSr w0 w' rb A c ps budget used vs seen vseen vplan plan :=
 ⟨h.b.kept k (by simp), h.so.keeps RVal.ok k (fun _ _ h => h.elim), h.po.keeps RInt.ok k (fun _ _ h => h.elim), h.sl, fun j v x hv hx => k.rd RInts.ok (h.rows j v x hv hx) (fun b hb => ⟨hb.2.1, by simp⟩) (fun b hb => ⟨hb.1, Nat.lt_of_lt_of_le hb.2.1 k.size, hb.2.2⟩), h.gd, h.ne, h.lo, h.k.tr k⟩
theorem RSr.intss (h : RSr w0 w rb A c ps budget used vs seen vseen vplan plan) : RIntss w (Old w) [vseen] seen := by
 obtain ⟨As, cs, e, h1, h2, h3⟩ := h.so.read RVal.ok (by omega) (S := Old w) (fun _ _ h => h) (fun _ _ h => h)
 refine ⟨As, cs, by rw [e, h.sl], by rw [← h.sl]; exact h1, h2, fun hne => ?_⟩
 obtain ⟨b, o, e2, hS, hx⟩ := h3 (fun e => hne (List.length_eq_zero_iff.1 (by rw [← h.sl, e]; rfl)))
 refine ⟨b, o, e2, hS, fun j x hj => ?_⟩
 have hjl : j < vs.length := by rw [h.sl]; exact getElem?_lt hj
 obtain ⟨es, e3, e4, e5⟩ := hx j _ (List.getElem?_eq_getElem hjl)
 refine ⟨es, e3, ?_, e5⟩
 have e4' : es = [vs[j]] := e4
 rw [e4']
 exact RInts.ok.mono (h.rows j _ x (List.getElem?_eq_getElem hjl) hj) (fun b hb => hb.2.1) (fun _ _ => rfl)
/-- one more step is counted -/
theorem RSr.step (h : RSr w0 w rb A c ps budget used vs seen vseen vplan plan) (u : Nat) : RSr w0 (w.setCell ⟨rb, 2, none⟩ (.int .i64 (u : Int))) rb A c ps budget u vs seen vseen vplan plan := by
 have k : Keeps (· = rb) w (w.setCell ⟨rb, 2, none⟩ (.int .i64 (u : Int))) := Keeps.setCell (C := (· = rb)) (Keeps.refl _ _) (p := ⟨rb, 2, none⟩) (fun _ => rfl) _
 have hz : (w.setCell ⟨rb, 2, none⟩ (.int .i64 (u : Int))).heap.size = w.heap.size := by simp [World.setCell]
 refine ⟨by have := h.b.set_ 2 (.int .i64 (u : Int)); simpa using this, h.so.keeps RVal.ok k (fun b _ e => by omega), h.po.keeps RInt.ok k (fun b _ e => by omega), h.sl, fun j v x hv hx => k.rd RInts.ok (h.rows j v x hv hx) (fun b hb => ⟨hb.2.1, fun e => by have := hb.1; omega⟩) (fun b hb => ⟨hb.1, by rw [hz]; exact hb.2.1, hb.2.2⟩), h.gd, h.ne, h.lo, h.k.setCell (fun hh => absurd hh (by have := h.lo; simp; omega)) _⟩
/-- new moves are laid into the struct -/
theorem RSr.setP (h : RSr w0 w rb A c ps budget used vs seen vseen vplan plan) (k : Keeps (fun b => vplan.ownBlock = some b) w w') (hm : OwnL 3 1 RInt w' (rb + 1) (rb + 1) vplan' plan') (ho : vplan'.ownBlock = vplan.ownBlock ∨ ∃ b, vplan'.ownBlock = some b ∧ w.heap.size ≤ b) : RSr w0 (w'.setCell ⟨rb, 4, none⟩ vplan') rb A c ps budget used vs seen vseen vplan' plan' := by
 have hlo := h.lo
 have hpl := fun b (e : vplan.ownBlock = some b) => h.po.lt e
 have hsl := fun b (e : vseen.ownBlock = some b) => h.so.lt e
 have k2 : Keeps (fun b => b = rb ∨ vplan.ownBlock = some b) w (w'.setCell ⟨rb, 4, none⟩ vplan') := (k.mono (fun b _ h => .inr h)).setCell (p := ⟨rb, 4, none⟩) (fun _ => .inl rfl) _
 have hz : (w'.setCell ⟨rb, 4, none⟩ vplan').heap.size = w'.heap.size := by simp [World.setCell]
 have hws := k.size
 refine ⟨?_, ?_, hm.keeps RInt.ok (Keeps.setCell (C := (· = rb)) (Keeps.refl _ _) (p := ⟨rb, 4, none⟩) (fun _ => rfl) _) (fun b _ e => by omega), h.sl, fun j v x hv hx => ?_, h.gd, fun b hb hp => ?_, h.lo, h.k.trans k2 (fun b hb e => by
  rcases e with e | e
  ·omega
  ·have := hpl b e; omega)⟩
 ·have hb := (h.b.kept k (fun e => by have := hpl rb e; omega)).set_ 4 vplan'
  simpa using hb
 ·exact h.so.keepsF RVal.flat k2 (fun b hb e => by
   rcases e with e | e
   ·have := hsl b hb; omega
   ·exact h.ne b hb e)
 ·refine k2.rd RInts.ok (h.rows j v x hv hx) (fun b hb => ⟨hb.2.1, fun e => ?_⟩) (fun b hb => ⟨hb.1, by rw [hz]; exact Nat.lt_of_lt_of_le hb.2.1 hws, hb.2.2.1, fun e => ?_⟩)
  ·rcases e with e | e
   ·have := hb.1; omega
   ·exact hb.2.2.2 e
  ·rcases ho with e2 | ⟨b', e2, hb'⟩
   ·rw [e2] at e; exact hb.2.2.2 e
   ·rw [e2] at e; injection e with e; have := hb.2.1; omega
 ·rcases ho with e2 | ⟨b', e2, hb'⟩
  ·rw [e2] at hp; exact h.ne b hb hp
  ·rw [e2] at hp; injection hp with hp; have := hsl b hb; omega
end

theorem take_snoc_eq {x y : List Int} {k : Nat} {a b : Int} (ha : x[k]? = some a) (hb : y[k]? = some b) : (x.take (k + 1) = y.take (k + 1)) ↔ (x.take k = y.take k ∧ a = b) := by
 rw [take_succ' ha, take_succ' hb]
 have hx := getElem?_lt ha
 have hy := getElem?_lt hb
 constructor
 ·intro h
  have := List.append_inj h (by simp; omega)
  exact ⟨this.1, by simpa using this.2⟩
 ·rintro ⟨h1, h2⟩; rw [h1, h2]
set_option maxRecDepth 100000 in
set_option maxHeartbeats 1000000 in
theorem known_any (w0 w : World) (rb : Nat) (A : Option Addr) (c : Nat) (ps : List (List Stage)) (budget used : Nat) (vs : List Value) (seen : List (List Int)) (vseen vplan : Value) (plan : List Int) (now : List Int) (A2 : Option Addr) (c2 : Nat)
  (h : RSr w0 w rb A c ps budget used vs seen vseen vplan plan) (h2 : RInts w (Old w) [.slice A2 now.length c2] now) (hl : now.length = ps.length) :
  Calls Try.prog 83 #[.pointer (some ⟨rb, 0, none⟩), .slice A2 now.length c2] w fun e w' => e = .returned (.bool (decide (now ∈ seen))) ∧ KeepsAll w w' := by
 have hc2 := h2.caps
 obtain ⟨As, cs, rfl, hcs1, hcs2⟩ := h.intss.val
 have R := Lib.hid h.intss
 have HGD := Lib.hid h.gd
 have H2 := Lib.hid h2
 have HL := Lib.hid hl
 have b3 := h.b.cell 3
 simp at b3
 have hsz := h.b.lt
 clear h h2 hl
 go_enter Try.func83, Try.ntmps83
 go_wp2
 clear b3 hsz
 go_loopw [14] (fun v wr => ∃ j : Nat, j ≤ seen.length ∧ v = .int .i64 (j : Int) ∧ now ∉ seen.take j ∧ KeepsAll w wr) (fun v _ => seen.length - (intOf v).toNat)
 case atStart => exact ⟨0, Nat.zero_le _, rfl, by simp, Keeps.refl _ _⟩
 case round =>
  obtain ⟨j, hj, rfl, hno, hkr⟩ := hrel
  have KR := Lib.hid hkr
  have HNO := Lib.hid hno
  clear hkr hno
  by_cases hlt : j < seen.length
  ·obtain ⟨b, o, x, A', c', hbo, hbl, hx, k1, hr⟩ := RSS.atK KR.out R.out hlt
   subst hbo
   have hcx := hr.caps
   have HRX := Lib.hid hr
   have hxl : x.length = now.length := by rw [(HGD.out x (List.mem_of_getElem? hx)).1, HL.out]
   have xl1 : x.length ≤ now.length := by omega
   have xl2 : now.length ≤ x.length := by omega
   have HXL := Lib.hid hxl
   have HX := Lib.hid hx
   have hdj : decide ((j : Int) < (seen.length : Int)) = true := by simp; omega
   clear hr hx hxl
   go_wp2
   clear k1 hbl
   go_loopw [7, 20] (fun v7 v wr => ∃ i : Nat, i ≤ now.length ∧ v = .int .i64 (i : Int) ∧ v7 = .bool (decide (x.take i = now.take i)) ∧ KeepsAll w wr) (fun _ v _ => now.length - (intOf v).toNat)
   case atStart => exact ⟨0, Nat.zero_le _, rfl, by simp, KR.out⟩
   case round =>
    clear KR
    obtain ⟨i, hi, rfl, rfl, hki⟩ := hrel
    have KI := Lib.hid hki
    clear hki
    by_cases hlti : i < now.length
    ·obtain ⟨b2, o2, y, hbo, hb2l, hy, k2⟩ := RInts.atK KI.out H2.out hlti
     subst hbo
     obtain ⟨b3, o3, z, hbo, hb3l, hz, k3⟩ := RInts.atK KI.out HRX.out (k := i) (by omega)
     subst hbo
     have HTS := Lib.hid (take_snoc_eq hz hy)
     have hdi : decide ((i : Int) < (now.length : Int)) = true := by simp; omega
     clear hy hz
     by_cases g1 : x.take i = now.take i
     ·have e1 : decide (x.take i = now.take i) = true := decide_eq_true g1
      have Q : Hid (decide (x.take (i + 1) = now.take (i + 1)) = (z == y)) := by
       show _ = _
       rw [Bool.eq_iff_iff, decide_eq_true_eq, HTS.out]; simp [g1]
      rw [e1]
      clear g1 HTS e1
      generalize hq : (z == y) = bb at Q
      go_wp2
      go_quiet (fail)
      go_wp2
      go_roundw
      case rel => exact ⟨i + 1, by omega, by go_num, by rw [Q.out], KI.out.drewN _⟩
      case measure => simp [intOf]; omega
     ·have e1 : decide (x.take i = now.take i) = false := decide_eq_false g1
      have Q : Hid (decide (x.take (i + 1) = now.take (i + 1)) = false) := by
       show _ = _
       rw [decide_eq_false_iff_not, HTS.out]; exact fun h => g1 h.1
      rw [e1]
      clear g1 HTS e1
      go_wp2
      go_quiet (fail)
      go_wp2
      go_roundw
      case rel => exact ⟨i + 1, by omega, by go_num, by rw [Q.out], KI.out.drewN _⟩
      case measure => simp [intOf]; omega
    ·obtain rfl : i = now.length := by omega
     have hdi : decide ((now.length : Int) < (now.length : Int)) = false := by simp
     have HEQ : Hid ((x.take now.length = now.take now.length) ↔ x = now) := by
      show _ ↔ _
      rw [List.take_length, ← HXL.out, List.take_length]
     by_cases g1 : x.take now.length = now.take now.length
     ·have e1 : decide (x.take now.length = now.take now.length) = true := decide_eq_true g1
      have Q : Hid (decide (now ∈ seen) = true) := by
       show _ = _
       rw [decide_eq_true_eq, ← HEQ.out.1 g1]; exact List.mem_of_getElem? HX.out
      rw [e1]
      clear g1 e1 HEQ
      go_wp2
      go_ret
      exact ⟨by rw [Q.out]; rfl, KI.out⟩
     ·have e1 : decide (x.take now.length = now.take now.length) = false := decide_eq_false g1
      have Q : Hid (now ∉ seen.take (j + 1)) := by
       show ¬ _
       rw [take_succ' HX.out]
       intro hm
       rcases List.mem_append.1 hm with hm | hm
       ·exact HNO.out hm
       ·simp at hm; exact g1 (HEQ.out.2 hm.symm)
      rw [e1]
      clear g1 e1 HEQ
      go_wp2
      go_roundw
      case rel => exact ⟨j + 1, by omega, by go_num, Q.out, KI.out⟩
      case measure => simp [intOf]; omega
  ·obtain rfl : j = seen.length := by omega
   have hdj : decide ((seen.length : Int) < (seen.length : Int)) = false := by simp
   have Q : Hid (decide (now ∈ seen) = false) := by
    show _ = _
    have := HNO.out
    rw [List.take_length] at this
    exact decide_eq_false this
   go_wp2
   go_ret
   exact ⟨by rw [Q.out]; rfl, KR.out⟩

section
variable {w0 w w' : World} {sb g mr : Nat} {A : Option Addr} {c : Nat} {ps : List (List Stage)} {budget : Nat} {now now' : List Int} {hd hd' : Nat → Int} {seen seen' : List (List Int)} {vmv vmv' : Value} {mv mv' : List Int}

end
theorem Gd.fits {ps : List (List Stage)} {now : List Int} (hv : valid ps = true) (h : Gd ps now) : Fits now := by
 have hl := (valid_lens hv).1
 refine ⟨by rw [h.1]; exact hl, fun t => ?_⟩
 by_cases ht : t < ps.length
 ·have := h.2 t ht
  have := lenAt_le hv t
  omega
 ·unfold nowAt
  rw [List.getElem?_eq_none (by rw [h.1]; omega)]
  simp

theorem secNow_res {ps : List (List Stage)} (hv : valid ps = true) {now : List Int} {t : Nat} (ht : t < ps.length) (h0 : 0 ≤ secNow ps now t) : ∃ r : Nat, r < 144 ∧ secNow ps now t = (r : Int) := by
 have hp : ps[t]? = some ps[t] := List.getElem?_eq_getElem ht
 unfold secNow at h0 ⊢
 rw [hp] at h0 ⊢
 simp only [Option.getD_some] at h0 ⊢
 obtain ⟨k, s, _, hs, e⟩ := secAt_some h0
 obtain ⟨n, hn, h144⟩ := isRes_nat (stageOk_sec (valid_stage hv (List.mem_of_getElem? hp) (List.mem_of_getElem? hs)))
 exact ⟨n, h144, by rw [e, hn]⟩
/-- back to where the train came from -/
theorem HdOk.back {ps : List (List Stage)} {now : List Int} {hd : Nat → Int} {t : Nat} {x : Int} (hv : valid ps = true) (h : HdOk ps now hd) (ht : t < ps.length) (hl : now.length = ps.length) : ∀ u, u < ps.length → u ≠ t → 0 ≤ secNow ps ((now.set t x).set t (nowAt now t)) t → secNow ps (now.set t x) u ≠ secNow ps ((now.set t x).set t (nowAt now t)) t := by
 intro u hu hut h0
 have e : secNow ps ((now.set t x).set t (nowAt now t)) t = secNow ps now t := by
  rw [secNow_set (by simp; omega), if_pos rfl]; rfl
 rw [e] at h0 ⊢
 rw [secNow_set (by omega), if_neg (fun e => hut e.symm)]
 intro he
 obtain ⟨r, hr, hs⟩ := secNow_res hv ht h0
 have h1 := (h r hr).1 t ht hs
 have h2 := (h r hr).1 u hu (by rw [he, hs])
 omega
theorem OwnL.addr {t size : Nat} {α : Type} {E : Rd α} {w : World} {base lo : Nat} {A : Option Addr} {n c : Nat} {l : List α} (h : OwnL t size E w base lo (.slice A n c) l) (hl : 0 < l.length) : ∃ g, A = some ⟨g, 0, none⟩ := by
 obtain ⟨g, e, _⟩ := h.some_ hl; exact ⟨g, e⟩

end Go.Proofs.Ytilbbpbjhoidhaa
