/- Contract of pairs of chapter 37. Conditions: as each theorem says. Contracts of Go's cmp.Less, cmp.Compare, cmp.Or at integers, of slices.IsSorted and of math/bits.Len at small numbers. Conditions: as each theorem says. Contracts of Sort's comparison and of Go's insertion sort, at most 12 elements. Conditions: as each theorem says. Contracts of Go's insertionSortCmpFunc, pdqsortCmpFunc and SortFunc at at most 12 references. Conditions: as each theorem says. -/
import Derived.Test.YtilbbpbjhoidhaaE22
import Derived.Test.YtilbbpbjhoidhaaE13
import Derived.Test.YtilbbpbjhoidhaaE08
import Derived.Test.YtilbbpbjhoidhaaE11
import Derived.BigRegion
namespace Go.Proofs.Ytilbbpbjhoidhaa
open Go.RowKit

def RPU : Rd (Use × Use) := fun _ _ cs x => cs = [.int .i64 x.1.u.tr, .int .i64 x.1.u.st, .int .i64 x.1.en, .int .i64 x.1.rl, .int .i64 x.2.u.tr, .int .i64 x.2.u.st, .int .i64 x.2.en, .int .i64 x.2.rl]
theorem RPU.ok : Rd.Ok RPU := ⟨fun h _ _ => h⟩
theorem RPU.flat : Rd.Flat RPU := fun _ _ _ _ _ _ h => h
abbrev RPUs := RSlice 8 RPU
theorem tyPair : ElemTy Try.prog 81 135 8 64 := .mk' Try.underlying81 (z := .agg #[.int .i64 0, .int .i64 0, .int .i64 0, .int .i64 0, .int .i64 0, .int .i64 0, .int .i64 0, .int .i64 0]) (by kernel_rfl) rfl (by omega)
def pfx (u : Use) (l : List Use) : List (Use × Use) := (l.filter fun v => decide (u.u.tr < v.u.tr)).map fun v => (u, v)
def prN (l : List Use) : Nat → List (Use × Use)
 | 0 => []
 | n + 1 => prN l n ++ (match l[n]? with | some u => pfx u (l.drop (n + 1)) | none => [])
def prLs (ls : List (List Use)) : Nat → List (Use × Use)
 | 0 => []
 | n + 1 => prLs ls n ++ (match ls[n]? with | some l => prN l l.length | none => [])
theorem pfx_snoc (u v : Use) {l : List Use} {m : Nat} (h : l[m]? = some v) : pfx u (l.take (m + 1)) = pfx u (l.take m) ++ (if u.u.tr < v.u.tr then [(u, v)] else []) := by
 unfold pfx
 rw [List.take_add_one, h]
 by_cases e : u.u.tr < v.u.tr <;> simp [List.filter_append, e]
theorem pfx_len (u : Use) (l : List Use) : (pfx u l).length ≤ l.length := by unfold pfx; rw [List.length_map]; exact List.length_filter_le _ _
set_option maxRecDepth 100000 in
theorem prN_len {l : List Use} (hl : l.length ≤ 5000) : ∀ n, (prN l n).length ≤ n * 5000
 | 0 => by simp [prN]
 | n + 1 => by
  unfold prN
  rw [List.length_append]
  have h1 := prN_len hl n
  cases e : l[n]? with
  | none => simp only [List.length_nil]; omega
  | some u =>
   have := pfx_len u (l.drop (n + 1))
   rw [List.length_drop] at this
   simp only
   omega
set_option maxRecDepth 100000 in
theorem prLs_len {ls : List (List Use)} (hl : ∀ l ∈ ls, l.length ≤ 5000) : ∀ n, (prLs ls n).length ≤ n * 25000000
 | 0 => by simp [prLs]
 | n + 1 => by
  unfold prLs
  rw [List.length_append]
  have h1 := prLs_len hl n
  cases e : ls[n]? with
  | none =>
   simp only [List.length_nil]
   have e2 : (n + 1) * 25000000 = n * 25000000 + 25000000 := Nat.succ_mul _ _
   rw [e2]; exact Nat.le_trans h1 (Nat.le_add_right _ _)
  | some l =>
   have h2 := hl l (List.mem_of_getElem? e)
   have h3 := prN_len h2 l.length
   simp only
   omega
theorem RSlice.tailP {α : Type} {size : Nat} {E : Rd α} {w : World} {S : Foot} {b o n c : Nat} {l : List α} (h : RSlice size E w S [.slice (some ⟨b, o, none⟩) n c] l) {k : Nat} (hk : k ≤ l.length) : RSlice size E w S [.slice (some ⟨b, o + k * size, none⟩) (l.length - k) (c - k)] (l.drop k) := by
 obtain ⟨A', c', he, h1, h2, h3⟩ := h
 injection he with he _; injection he with ha hn hc; subst ha hc
 refine ⟨_, c - k, by rw [List.length_drop], by rw [List.length_drop]; omega, by omega, fun hne => ?_⟩
 obtain ⟨b', o', hA, hb, hj⟩ := h3 (by rintro rfl; simp at hne)
 injection hA with hA; injection hA with hA1 hA2; subst hA1 hA2
 refine ⟨b, o + k * size, rfl, hb, fun j x hx => ?_⟩
 rw [List.getElem?_drop] at hx
 obtain ⟨es, e1, e2, e3⟩ := hj (k + j) x hx
 refine ⟨es, e1, e2, fun i u hu => ?_⟩
 have := e3 i u hu
 rw [Nat.add_mul] at this
 rw [show o + k * size + (j * size + i) = o + (k * size + j * size + i) from by omega]
 exact this
theorem RSlice.tailN {α : Type} {size : Nat} {E : Rd α} {w : World} {S : Foot} {b o n c : Nat} {l : List α} (h : RSlice size E w S [.slice (some ⟨b, o, none⟩) n c] l) {k : Nat} (hc : c = k) : RSlice size E w S [.slice (some ⟨b, o, none⟩) (l.length - k) (c - k)] (l.drop k) := by
 have h1 := h.caps
 have e : l.drop k = [] := List.drop_of_length_le (by omega)
 rw [e, show l.length - k = 0 by omega]
 exact ⟨_, c - k, rfl, Nat.zero_le _, by omega, fun h => absurd rfl h⟩
theorem RUses.at_ {w : World} {S : Foot} {A : Option Addr} {n c : Nat} {l : List Use} (h : RUses w S [.slice A n c] l) {k : Nat} (hk : k < l.length) :
  ∃ b o x, A = some ⟨b, o, none⟩ ∧ S b ∧ l[k]? = some x ∧ w.cell? ⟨b, o + k * 4, none⟩ = some (.int .i64 x.u.tr) ∧ w.cell? ⟨b, o + k * 4 + 1, none⟩ = some (.int .i64 x.u.st) ∧ w.cell? ⟨b, o + k * 4 + 2, none⟩ = some (.int .i64 x.en) ∧ w.cell? ⟨b, o + k * 4 + 3, none⟩ = some (.int .i64 x.rl) := by
 obtain ⟨b, o, x, es, rfl, hb, hx, h1, h2, h3⟩ := h.get hk
 have h2 : es = [.int .i64 x.u.tr, .int .i64 x.u.st, .int .i64 x.en, .int .i64 x.rl] := h2
 subst h2
 exact ⟨b, o, x, rfl, hb, hx, by simpa using h3 0 _ rfl, by simpa [Nat.add_assoc] using h3 1 _ rfl, by simpa [Nat.add_assoc] using h3 2 _ rfl, by simpa [Nat.add_assoc] using h3 3 _ rfl⟩

set_option maxRecDepth 100000 in
set_option maxHeartbeats 2000000 in
theorem pairs_any (ls : List (List Use)) (A : Option Addr) (c : Nat) (w : World) (h : RUsess w (Old w) [.slice A ls.length c] ls) (hl : ∀ l ∈ ls, l.length ≤ 5000) (hn : ls.length ≤ 144) :
  Calls Try.prog 40 #[.slice A ls.length c] w fun e w' => ∃ v, e = .returned v ∧ RPUs w' (Fresh w w') [v] (prLs ls ls.length) ∧ KeepsAll w w' := by
 have H := Lib.hid h
 have HL := Lib.hid hl
 clear h hl
 go_enter Try.func40, Try.ntmps40
 go_wp2
 go_loopw [12, 3] (fun i v wr => ∃ k : Nat, k ≤ ls.length ∧ i = .int .i64 (k : Int) ∧ OwnL 135 8 RPU wr w.heap.size w.heap.size v (prLs ls k) ∧ KeepsAll w wr) (fun i _ _ => ls.length - (intOf i).toNat)
 case atStart => exact ⟨0, by omega, rfl, OwnL.nil, Keeps.refl _ _⟩
 case round =>
  obtain ⟨k, hk, rfl, hv, kr⟩ := hrel
  have HO := Lib.hid hv
  have KR := Lib.hid kr
  obtain ⟨A0, c0, hvf, _, _⟩ := hv.form
  by_cases hlt : k < ls.length
  ·have hlt' : decide (k < ls.length) = true := decide_eq_true hlt
   obtain ⟨bl, ol, l, Al, cl, hA, hbl, hll, l0, hrl⟩ := RSS.atK kr H.out hlt
   subst hA
   have hl5 := HL.out l (List.mem_of_getElem? hll)
   have hpl := prLs_len HL.out k
   have HLL := Lib.hid hll
   have HRL := Lib.hid hrl
   clear hll hrl hv kr hvf
   go_wp2
   go_loopw [18, 3] (fun i v wr' => ∃ m : Nat, m ≤ l.length ∧ i = .int .i64 (m : Int) ∧ OwnL 135 8 RPU wr' w.heap.size w.heap.size v (prLs ls k ++ prN l m) ∧ KeepsAll w wr') (fun i _ _ => l.length - (intOf i).toNat)
   case atStart => exact ⟨0, by omega, rfl, by unfold prN; rw [List.append_nil]; exact HO.out, KR.out⟩
   case round =>
    obtain ⟨m, hm, rfl, hv, kr⟩ := hrel
    have HO2 := Lib.hid hv
    have KR2 := Lib.hid kr
    have hpn := prN_len hl5 m
    by_cases hltm : m < l.length
    ·have hltm' : decide (m < l.length) = true := decide_eq_true hltm
     obtain ⟨bu, ou, u, hAl, hbu, hum, u0, u1, u2, u3⟩ := RUses.at_ HRL.out hltm
     have hbu' : bu < w.heap.size := hbu
     subst hAl
     replace u0 := kr.cellK (p := ⟨bu, ou + m * 4, none⟩) hbu' u0
     replace u1 := kr.cellK (p := ⟨bu, ou + m * 4 + 1, none⟩) hbu' u1
     replace u2 := kr.cellK (p := ⟨bu, ou + m * 4 + 2, none⟩) hbu' u2
     replace u3 := kr.cellK (p := ⟨bu, ou + m * 4 + 3, none⟩) hbu' u3
     have hsz := kr.size
     have HUM := Lib.hid hum
     have HSUC : Hid (prN l (m + 1) = prN l m ++ pfx u (l.drop (m + 1))) := by show prN l m ++ _ = _; rw [hum]
     have hcaps := HRL.out.caps
     have hdl : (l.drop (m + 1)).length = l.length - (m + 1) := List.length_drop
     clear hum hv kr
     by_cases hcl : cl = m + 1
     ·have hR : Hid (RUses w (Old w) [.slice (some ⟨bu, ou, none⟩) (l.length - (m + 1)) (cl - (m + 1))] (l.drop (m + 1))) := Lib.hid (HRL.out.tailN hcl)
      subst hcl
      go_wp2
      generalize hWz : World.alloc wr _ = Wz
      have KZ : KeepsAll wr Wz := by subst hWz; exact (Keeps.refl _ _).alloc _
      have BZ : Hid (Blk Wz wr.heap.size 133 #[.int .i64 u.u.tr, .int .i64 u.u.st, .int .i64 u.en, .int .i64 u.rl]) := by subst hWz; exact Blk.new _ _ _
      have HO3 := Lib.hid (HO2.out.keeps RPU.ok KZ (fun _ _ h => h.elim))
      have KR3 := Lib.hid (KR2.out.tr KZ)
      clear hWz KZ u0 u1 u2 u3
      generalize wr.heap.size = zu at *
      go_loopw [28, 3] (fun i v w2 => ∃ j : Nat, j ≤ l.length - (m + 1) ∧ i = .int .i64 (j : Int) ∧ OwnL 135 8 RPU w2 w.heap.size w.heap.size v (prLs ls k ++ prN l m ++ pfx u ((l.drop (m + 1)).take j)) ∧ KeepsAll w w2 ∧ Blk w2 zu 133 #[.int .i64 u.u.tr, .int .i64 u.u.st, .int .i64 u.en, .int .i64 u.rl]) (fun i _ _ => l.length - (intOf i).toNat)
      case atStart => exact ⟨0, by omega, rfl, by simpa [pfx] using HO3.out, KR3.out, BZ.out⟩
      case round =>
       obtain ⟨j, hj, rfl, hv, kr, bz⟩ := hrel
       have HO4 := Lib.hid hv
       have KR4 := Lib.hid kr
       have BZ4 := Lib.hid bz
       have hpf := pfx_len u ((l.drop (m + 1)).take j)
       by_cases hltj : j < l.length - (m + 1)
       ·exfalso
        have := hcaps.1
        omega
       ·have hltj' : decide (j < l.length - (m + 1)) = false := decide_eq_false hltj
        obtain rfl : j = l.length - (m + 1) := by omega
        have HFIN : Hid (prLs ls k ++ prN l m ++ pfx u ((l.drop (m + 1)).take (l.length - (m + 1))) = prLs ls k ++ prN l (m + 1)) := by
         show _ = _
         rw [HSUC.out, List.append_assoc, ← hdl, List.take_length]
        clear hv kr bz
        go_wp2
        go_roundw
        case rel => exact ⟨m + 1, by omega, by go_num, by rw [← HFIN.out]; exact HO4.out, KR4.out⟩
        case measure => simp [intOf]; omega
     ·have hR : Hid (RUses w (Old w) [.slice (some ⟨bu, ou + (m + 1) * 4, none⟩) (l.length - (m + 1)) (cl - (m + 1))] (l.drop (m + 1))) := Lib.hid (HRL.out.tailP hltm)
      go_wp2
      generalize hWz : World.alloc wr _ = Wz
      have KZ : KeepsAll wr Wz := by subst hWz; exact (Keeps.refl _ _).alloc _
      have BZ : Hid (Blk Wz wr.heap.size 133 #[.int .i64 u.u.tr, .int .i64 u.u.st, .int .i64 u.en, .int .i64 u.rl]) := by subst hWz; exact Blk.new _ _ _
      have HO3 := Lib.hid (HO2.out.keeps RPU.ok KZ (fun _ _ h => h.elim))
      have KR3 := Lib.hid (KR2.out.tr KZ)
      clear hWz KZ u0 u1 u2 u3
      generalize wr.heap.size = zu at *
      go_loopw [28, 3] (fun i v w2 => ∃ j : Nat, j ≤ l.length - (m + 1) ∧ i = .int .i64 (j : Int) ∧ OwnL 135 8 RPU w2 w.heap.size w.heap.size v (prLs ls k ++ prN l m ++ pfx u ((l.drop (m + 1)).take j)) ∧ KeepsAll w w2 ∧ Blk w2 zu 133 #[.int .i64 u.u.tr, .int .i64 u.u.st, .int .i64 u.en, .int .i64 u.rl]) (fun i _ _ => l.length - (intOf i).toNat)
      case atStart => exact ⟨0, by omega, rfl, by simpa [pfx] using HO3.out, KR3.out, BZ.out⟩
      case round =>
       obtain ⟨j, hj, rfl, hv, kr, bz⟩ := hrel
       have HO4 := Lib.hid hv
       have KR4 := Lib.hid kr
       have BZ4 := Lib.hid bz
       have hpf := pfx_len u ((l.drop (m + 1)).take j)
       by_cases hltj : j < l.length - (m + 1)
       ·have hltj' : decide (j < l.length - (m + 1)) = true := decide_eq_true hltj
        obtain ⟨b5, o5, x, hAX, hb5, hxj, x0, x1, x2, x3⟩ := RUses.at_ hR.out (k := j) (by omega)
        injection hAX with hAX
        injection hAX with e1 e2
        subst e1 e2
        have hb5' : bu < w.heap.size := hb5
        replace x0 := kr.cellK (p := ⟨bu, _, none⟩) hb5' x0
        replace x1 := kr.cellK (p := ⟨bu, _, none⟩) hb5' x1
        replace x2 := kr.cellK (p := ⟨bu, _, none⟩) hb5' x2
        replace x3 := kr.cellK (p := ⟨bu, _, none⟩) hb5' x3
        have hbz := kr.size
        have z0 := bz.cell 0
        have z1 := bz.cell 1
        have z2 := bz.cell 2
        have z3 := bz.cell 3
        simp at z0 z1 z2 z3
        have hzl := bz.lt
        have HSN := Lib.hid (pfx_snoc u x hxj)
        have hlen : (prLs ls k ++ prN l m ++ pfx u ((l.drop (m + 1)).take j)).length ≤ 4000000000 := by
         rw [List.length_append, List.length_append]
         have := List.length_take_le j (l.drop (m + 1))
         omega
        clear hxj hv kr bz
        by_cases hc : u.u.tr < x.u.tr
        ·have hc' : decide (u.u.tr < x.u.tr) = true := decide_eq_true hc
         have hsn := HSN.out
         rw [if_pos hc] at hsn
         have HS2 := Lib.hid hsn
         clear hsn hc
         go_wp2_with (at_builtin; go_loud (refine wpList_append_L tyPair RPU.ok rfl (.tmp 39) (.tmp 43) rfl ((HO4.out.alloc RPU.ok _).alloc RPU.ok _) rfl _ [.int .i64 u.u.tr, .int .i64 u.u.st, .int .i64 u.en, .int .i64 u.rl, .int .i64 x.u.tr, .int .i64 x.u.st, .int .i64 x.en, .int .i64 x.rl] rfl (Blk.new' _ _ _ (by simp)) rfl (u, x) (S := fun _ => False) rfl (fun _ h => h.elim) (by simp [Value.oneCell']) (by omega) (by omega) (by simp; omega) ?_; intro v9 w9 HO9 HK9 HA9))
         have HO9' := Lib.hid HO9
         have K9 := Lib.hid (((KR4.out.alloc _).alloc _).trans HK9 (fun b hb e => by have := (HO4.out.lt e).1; omega))
         have B9 := Lib.hid (((BZ4.out.alloc _).alloc _).kept HK9 (fun e => HO4.out.ne_blk BZ4.out (by decide) e))
         clear HO9 HK9 HA9 z0 z1 z2 z3 x0 x1 x2 x3
         go_wp2
         go_roundw
         case rel => exact ⟨j + 1, by omega, by go_num, by rw [HS2.out, ← List.append_assoc]; exact HO9'.out, K9.out, B9.out⟩
         case measure => simp [intOf]; try omega
        ·have hc' : decide (u.u.tr < x.u.tr) = false := decide_eq_false hc
         have hsn := HSN.out
         rw [if_neg hc, List.append_nil] at hsn
         have HS2 := Lib.hid hsn
         clear hsn hc
         go_wp2
         go_roundw
         case rel => exact ⟨j + 1, by omega, by go_num, by rw [HS2.out]; exact HO4.out.alloc RPU.ok _, KR4.out.alloc _, BZ4.out.alloc _⟩
         case measure => simp [intOf]; try omega
       ·have hltj' : decide (j < l.length - (m + 1)) = false := decide_eq_false hltj
        obtain rfl : j = l.length - (m + 1) := by omega
        have HFIN : Hid (prLs ls k ++ prN l m ++ pfx u ((l.drop (m + 1)).take (l.length - (m + 1))) = prLs ls k ++ prN l (m + 1)) := by
         show _ = _
         rw [HSUC.out, List.append_assoc, ← hdl, List.take_length]
        clear hv kr bz
        go_wp2
        go_roundw
        case rel => exact ⟨m + 1, by omega, by go_num, by rw [← HFIN.out]; exact HO4.out, KR4.out⟩
        case measure => simp [intOf]; omega
    ·have hltm' : decide (m < l.length) = false := decide_eq_false hltm
     obtain rfl : m = l.length := by omega
     have HN : Hid (prLs ls (k + 1) = prLs ls k ++ prN l l.length) := by show prLs ls k ++ _ = _; rw [HLL.out]
     clear hv kr
     go_wp2
     go_roundw
     case rel => exact ⟨k + 1, by omega, by go_num, by rw [HN.out]; exact HO2.out, KR2.out⟩
     case measure => simp [intOf]; omega
  ·have hlt' : decide (k < ls.length) = false := decide_eq_false hlt
   obtain rfl : k = ls.length := by omega
   clear hv kr hvf
   go_wp2
   go_ret
   exact ⟨_, rfl, HO.out.readF RPU.ok RPU.flat (fun b hb => HO.out.lt hb), KR.out⟩

theorem plU_len (lt : Ref → Ref → Bool) (x : Ref) (P : List Ref) : (plU lt x P).length = P.length + 1 := by
 have hle : ∀ k, plK lt x P k ≤ k := by
  intro k
  induction k with
  | zero => exact Nat.le_refl _
  | succ k ih =>
   unfold plK
   split
   ·split
    ·omega
    ·exact Nat.le_refl _
   ·exact Nat.le_refl _
 have := hle P.length
 unfold plU; simp; omega
theorem sortB_len (lt : Ref → Ref → Bool) (l : List Ref) : (sortB lt l).length = l.length := by
 have key : ∀ (l acc : List Ref), (l.foldl (fun acc u => plU lt u acc) acc).length = acc.length + l.length := by
  intro l
  induction l with
  | nil => intro acc; simp
  | cons a l ih => intro acc; rw [List.foldl_cons, ih, plU_len]; simp; omega
 unfold sortB
 rw [key]; simp
def RfAt (w : World) (g o : Nat) (m : List Ref) : Prop := ∀ (k : Nat) u, m[k]? = some u → w.cell? ⟨g, o + k * 2, none⟩ = some (.int .i64 u.tr) ∧ w.cell? ⟨g, o + k * 2 + 1, none⟩ = some (.int .i64 u.st)

theorem Keeps.frz {C : Foot} {a b : World} (k : Keeps C a b) {g : Nat} (hg : g < a.heap.size) (hn : ¬ C g) (i : Nat) : b.frozen? ⟨g, i, none⟩ = a.frozen? ⟨g, i, none⟩ := by
 unfold World.frozen?
 rw [k.block g hg hn]
theorem RfAt.swap {w : World} {g o : Nat} {m : List Ref} {j : Nat} {x y : Ref} (h : RfAt w g o m) (hx : m[j + 1]? = some x) (hy : m[j]? = some y) :
  RfAt ((((w.setCell ⟨g, o + (j + 1) * 2, none⟩ (.int .i64 y.tr)).setCell ⟨g, o + (j + 1) * 2 + 1, none⟩ (.int .i64 y.st)).setCell ⟨g, o + j * 2, none⟩ (.int .i64 x.tr)).setCell ⟨g, o + j * 2 + 1, none⟩ (.int .i64 x.st)) g o ((m.set (j + 1) y).set j x) := by
 obtain ⟨x0, x1⟩ := h _ _ hx
 obtain ⟨y0, y1⟩ := h _ _ hy
 have hne : ∀ {a b : Nat}, a ≠ b → (⟨g, a, none⟩ : Addr) ≠ ⟨g, b, none⟩ := fun hab he => hab (by injection he)
 intro k u hk
 rw [List.getElem?_set] at hk
 by_cases e1 : j = k
 ·subst e1
  rw [if_pos rfl] at hk
  split at hk
  ·injection hk with hk
   subst hk
   have z0 : ((w.setCell ⟨g, o + (j + 1) * 2, none⟩ (.int .i64 y.tr)).setCell ⟨g, o + (j + 1) * 2 + 1, none⟩ (.int .i64 y.st)).cell? ⟨g, o + j * 2, none⟩ = some (.int .i64 y.tr) := by
    rw [World.cell?_setCell_other _ _ _ _ (hne (by omega)), World.cell?_setCell_other _ _ _ _ (hne (by omega)), y0]
   have z1 : (((w.setCell ⟨g, o + (j + 1) * 2, none⟩ (.int .i64 y.tr)).setCell ⟨g, o + (j + 1) * 2 + 1, none⟩ (.int .i64 y.st)).setCell ⟨g, o + j * 2, none⟩ (.int .i64 x.tr)).cell? ⟨g, o + j * 2 + 1, none⟩ = some (.int .i64 y.st) := by
    rw [World.cell?_setCell_other _ _ _ _ (hne (by omega)), World.cell?_setCell_other _ _ _ _ (hne (by omega)), World.cell?_setCell_other _ _ _ _ (hne (by omega)), y1]
   refine ⟨?_, World.cell?_setCell_same _ _ _ z1⟩
   rw [World.cell?_setCell_other _ _ _ _ (hne (by omega))]
   exact World.cell?_setCell_same _ _ _ z0
  ·cases hk
 ·rw [if_neg e1, List.getElem?_set] at hk
  by_cases e2 : j + 1 = k
  ·subst e2
   rw [if_pos rfl] at hk
   split at hk
   ·injection hk with hk
    subst hk
    have z1 : (w.setCell ⟨g, o + (j + 1) * 2, none⟩ (.int .i64 y.tr)).cell? ⟨g, o + (j + 1) * 2 + 1, none⟩ = some (.int .i64 x.st) := by
     rw [World.cell?_setCell_other _ _ _ _ (hne (by omega)), x1]
    refine ⟨?_, ?_⟩
    ·rw [World.cell?_setCell_other _ _ _ _ (hne (by omega)), World.cell?_setCell_other _ _ _ _ (hne (by omega)), World.cell?_setCell_other _ _ _ _ (hne (by omega))]
     exact World.cell?_setCell_same _ _ _ x0
    ·rw [World.cell?_setCell_other _ _ _ _ (hne (by omega)), World.cell?_setCell_other _ _ _ _ (hne (by omega))]
     exact World.cell?_setCell_same _ _ _ z1
   ·cases hk
  ·rw [if_neg e2] at hk
   obtain ⟨u0, u1⟩ := h k u hk
   refine ⟨?_, ?_⟩
   ·rw [World.cell?_setCell_other _ _ _ _ (hne (by omega)), World.cell?_setCell_other _ _ _ _ (hne (by omega)), World.cell?_setCell_other _ _ _ _ (hne (by omega)), World.cell?_setCell_other _ _ _ _ (hne (by omega)), u0]
   ·rw [World.cell?_setCell_other _ _ _ _ (hne (by omega)), World.cell?_setCell_other _ _ _ _ (hne (by omega)), World.cell?_setCell_other _ _ _ _ (hne (by omega)), World.cell?_setCell_other _ _ _ _ (hne (by omega)), u1]

end Go.Proofs.Ytilbbpbjhoidhaa
