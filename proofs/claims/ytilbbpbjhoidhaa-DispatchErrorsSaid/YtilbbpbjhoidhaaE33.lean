/- The state of Verify of chapter 37. Conditions: as each theorem says. Contract of Verify of chapter 37. Conditions: as the theorem says. Contract of the example of chapter 37. No condition. -/
import Derived.Test.YtilbbpbjhoidhaaE32
import Derived.Test.YtilbbpbjhoidhaaE31
import Derived.Deep.Cut
import Derived.Test.YtilbbpbjhoidhaaE04
namespace Go.Proofs.Ytilbbpbjhoidhaa
open Go.RowKit

theorem idxF_find {α : Type} (pr : α → Bool) (l : List α) : (idxF pr l = -1 ∧ l.find? pr = none) ∨ ∃ (i : Nat) (x : α), idxF pr l = (i : Int) ∧ l[i]? = some x ∧ l.find? pr = some x := by
 cases e : l.findIdx? pr with
 | none =>
  left
  refine ⟨by unfold idxF; rw [e], ?_⟩
  rw [List.findIdx?_eq_none_iff] at e
  rw [List.find?_eq_none]
  intro x hx
  rw [e x hx]; simp
 | some i =>
  right
  obtain ⟨hi, h1, h2⟩ := List.findIdx?_eq_some_iff_getElem.1 e
  refine ⟨i, l[i], by unfold idxF; rw [e], List.getElem?_eq_getElem hi, ?_⟩
  rw [List.find?_eq_some_iff_getElem]
  exact ⟨h1, i, hi, rfl, fun j hj => by simpa using h2 j hj⟩
theorem verTo_none {ps : List (List Stage)} {at_ : List Int} {os : List Order} {n : Nat} (h : verTo ps at_ os n = none) : ∀ k, verTo ps at_ os (n + k) = none
 | 0 => h
 | k + 1 => by rw [show n + (k + 1) = (n + k) + 1 from rfl, verTo, verTo_none h k]
theorem ver_none {p : Pb} {x : Soln} {n : Nat} (hn : n ≤ 144) (h : verTo p.ps p.at_ x.os n = none) : verP p x = false := by
 have := verTo_none h (144 - n)
 rw [show n + (144 - n) = 144 by omega] at this
 unfold verP
 rw [this, Bool.and_false]
theorem ver_res {p : Pb} {x : Soln} (h : resOk x.os = false) : verP p x = false := by
 unfold verP
 rw [h]
 cases verTo p.ps p.at_ x.os 144 <;> simp
theorem redTo_len (ps : List (List Stage)) (r : Int) : ∀ (rest pre : List Ref), (redTo ps r pre rest).length ≤ rest.length * ps.length
 | [], pre => by simp [redTo]
 | v :: rest, pre => by
  have h1 := redTo_len ps r rest (pre ++ [v])
  have h2 := arcsTo_len ps r pre v ps.length
  rw [redTo, List.length_append, List.length_cons, Nat.add_mul]
  omega
theorem verTo_len {ps : List (List Stage)} {at_ : List Int} {os : List Order} (hv : valid ps = true) : ∀ (n : Nat) (D : List RArc), verTo ps at_ os n = some D → D.length ≤ n * 6400
 | 0, D, h => by
  have h : some [] = some D := h
  injection h with h
  rw [← h]
  exact Nat.zero_le _
 | n + 1, D, h => by
  rw [verTo] at h
  cases e : verTo ps at_ os n with
  | none => rw [e] at h; cases h
  | some D' =>
   rw [e] at h
   have ih := verTo_len hv n D' e
   simp only at h
   cases f : os.find? (fun o => decide (o.res = (n : Int))) with
   | none =>
    rw [f] at h
    simp only at h
    split at h
    ·injection h with h; subst h; exact Nat.le_trans ih (Nat.mul_le_mul_right _ (Nat.le_succ n))
    ·cases h
   | some o =>
    rw [f] at h
    simp only at h
    split at h
    ·cases h
    ·rw [folQ_eq (openA_lex ps at_ _)] at h
     split at h
     ·rename_i g
      injection h with h
      subst h
      have h1 := (exactly_before.1 g.1).1
      have h2 := openA_len ps at_ (n : Int)
      have h3 := allU_640 hv (n : Int)
      have h4 := redTo_len ps (n : Int) o.uses []
      have h5 := (valid_lens hv).1
      have h6 : o.uses.length * ps.length ≤ 640 * 10 := Nat.mul_le_mul (by omega) h5
      rw [List.length_append]
      have h7 : (redO ps (n : Int) o.uses).length ≤ o.uses.length * ps.length := h4
      rw [Nat.add_mul]
      exact Nat.add_le_add ih (Nat.le_trans h7 (Nat.le_trans h6 (by omega)))
     ·cases h
structure Frw (s : GS) (w : World) (d : GD) (w' : World) (d' : GD) : Prop where
 sz : w.heap.size ≤ w'.heap.size
 bl : ∀ b, b < w.heap.size → ¬ GOwn s d b → w'.heap[b]? = w.heap[b]? ∧ ¬ GOwn s d' b
theorem Frw.refl (s : GS) (w : World) (d : GD) : Frw s w d w d := ⟨Nat.le_refl _, fun _ _ h => ⟨rfl, h⟩⟩
theorem Frw.trans {s : GS} {w w' w'' : World} {d d' d'' : GD} (h : Frw s w d w' d') (h' : Frw s w' d' w'' d'') : Frw s w d w'' d'' :=
 ⟨Nat.le_trans h.sz h'.sz, fun b hb hn => by
  obtain ⟨h1, h2⟩ := h.bl b hb hn
  obtain ⟨h3, h4⟩ := h'.bl b (Nat.lt_of_lt_of_le hb h.sz) h2
  exact ⟨h3.trans h1, h4⟩⟩
theorem Frw.keep {s : GS} {w w' : World} {d : GD} (k : KeepsAll w w') : Frw s w d w' d := ⟨k.size, fun b hb hn => ⟨k.block b hb (by simp), hn⟩⟩
theorem Frm.rw {s : GS} {lb : Nat} {w w' : World} {d d' : GD} (h : Frm s lb w d w' d') (hl : w.heap.size ≤ lb) : Frw s w d w' d' := ⟨h.sz, fun b hb hn => h.bl b (⟨hb, hn, by omega⟩ : b < w.heap.size ∧ ¬ GOwn s d b ∧ b ≠ lb)⟩
structure VeS (s : GS) (w0 wu : World) (d : GD) (D : List RArc) (wr : World) (d' : GD) : Prop where
 g : Gm s w0 wr d'
 gp : GP s D d'
 fr : Frw s wu d wr d'
def NOwn (s : GS) (w : World) (d : GD) : Foot := fun b => b < w.heap.size ∧ ¬ GOwn s d b
section
variable {s : GS} {w0 wu wr w' : World} {d d' : GD} {D : List RArc}
theorem VeS.keep (h : VeS s w0 wu d D wr d') (k : KeepsAll wr w') : VeS s w0 wu d D w' d' := ⟨h.g.keep k, h.gp, h.fr.trans (Frw.keep k)⟩
theorem VeS.rd (h : VeS s w0 wu d D wr d') {α : Type} {E : Rd α} (hE : Rd.Ok E) {cs : List Value} {x : α} (hr : E wu (NOwn s wu d) cs x) : E wr (NOwn s wr d') cs x :=
 hE.mono hr (fun b hb => ⟨Nat.lt_of_lt_of_le hb.1 h.fr.sz, (h.fr.bl b hb.1 hb.2).2⟩) (fun b hb => (h.fr.bl b hb.1 hb.2).1)
theorem NOwn.old {α : Type} {E : Rd α} (hE : Rd.Ok E) {cs : List Value} {x : α} (hr : E wr (NOwn s wr d') cs x) : E wr (Old wr) cs x := hE.mono hr (fun _ hb => hb.1) (fun _ _ => rfl)
theorem VeS.blk (h : VeS s w0 wu d D wr d') {z : Nat} {t : TypeId} {c : Array Value} (hb : Blk wu z t c) (hn : ¬ GOwn s d z) : Blk wr z t c := by
 obtain ⟨h1, h2⟩ := h.fr.bl z hb.lt hn
 exact h1.trans hb
theorem VeS.follow (h : VeS s w0 wu d D wr d') {D' : List RArc} {e : Ending} (hf : FoPost s w0 wr d' (some D') e w') : e = .returned (.bool true) ∧ ∃ d2, VeS s w0 wu d D' w' d2 := by
 obtain ⟨lb, d2, h1, h2, h3, h4, h5⟩ := hf
 exact ⟨h4, d2, h2, h5, h.fr.trans (h3.rw h1)⟩
end

theorem resOk_succ {os : List Order} {k : Nat} {o : Order} (h : resOk (os.take k) = true) (ho : os[k]? = some o) (hr : 0 ≤ o.res ∧ o.res < 144) (hl : ∀ q, 0 < k → os[k - 1]? = some q → q.res < o.res) : resOk (os.take (k + 1)) = true := by
 obtain ⟨h1, h2⟩ := resOk_iff.1 h
 rw [List.take_add_one, ho, resOk_iff]
 show (os.take k ++ [o]).Pairwise _ ∧ ∀ o' ∈ os.take k ++ [o], _
 refine ⟨?_, fun o' ho' => ?_⟩
 ·rw [List.pairwise_append]
  refine ⟨h1, by simp, fun a ha b hb => ?_⟩
  simp at hb; subst hb
  obtain ⟨i, hi, rfl⟩ := List.mem_take_iff_getElem.1 ha
  have hk : 0 < k := by omega
  have hq : os[k - 1]? = some (os[k - 1]'(by have := getElem?_lt ho; omega)) := List.getElem?_eq_getElem _
  have h3 := hl _ hk hq
  by_cases e : i = k - 1
  ·subst e; exact h3
  ·have hkl := getElem?_lt ho
   have h4 := List.pairwise_iff_getElem.1 h1 i (k - 1) (by rw [List.length_take]; omega) (by rw [List.length_take]; omega) (by omega)
   rw [List.getElem_take, List.getElem_take] at h4
   omega
 ·rcases List.mem_append.1 ho' with ho' | ho'
  ·exact h2 o' ho'
  ·simp at ho'; subst ho'; exact hr
theorem resOk_at {os : List Order} (h : resOk os = true) {k : Nat} {o : Order} (ho : os[k]? = some o) : (0 ≤ o.res ∧ o.res < 144) ∧ ∀ q, 0 < k → os[k - 1]? = some q → q.res < o.res := by
 obtain ⟨h1, h2⟩ := resOk_iff.1 h
 refine ⟨h2 o (List.mem_of_getElem? ho), fun q hk hq => ?_⟩
 obtain ⟨g1, rfl⟩ := List.getElem?_eq_some_iff.1 ho
 obtain ⟨g2, rfl⟩ := List.getElem?_eq_some_iff.1 hq
 exact List.pairwise_iff_getElem.1 h1 (k - 1) k g2 g1 (by omega)

set_option maxRecDepth 100000 in
set_option maxHeartbeats 1000000 in
theorem DspVerify_any (p : Pb) (x : Soln) (v : PV) (Ao Ae : Option Addr) (co ce : Nat) (w : World) (h : RPb w (Old w) v p) (ho : ROrders w (Old w) [.slice Ao x.os.length co] x.os) (he : RIntss w (Old w) [.slice Ae x.en.length ce] x.en) :
  Calls Try.prog 19 #[.agg (v.cs p), .agg #[.slice Ao x.os.length co, .slice Ae x.en.length ce, .int .i64 x.cost]] w fun e w' => e = .returned (.bool (verP p x)) ∧ KeepsAll w w' := by
 have hoc := ho.caps
 have hec := he.caps
 have HCK : Hid (∀ W, KeepsAll w W → Calls Try.prog 37 #[.agg #[.slice v.A p.ps.length v.c, .slice v.A2 p.at_.length v.c2, .slice v.A3 p.due.length v.c3, .slice v.A4 p.wgt.length v.c4, .int .i64 p.now]] W fun e w' => e = .returned (.bool (checkP p)) ∧ KeepsAll W w') := fun W hW => DspCheck_any p v W (h.kept hW)
 have HNG : Hid (checkP p = true → ∀ W, KeepsAll w W → Calls Try.prog 38 #[.agg #[.slice v.A p.ps.length v.c, .slice v.A2 p.at_.length v.c2, .slice v.A3 p.due.length v.c3, .slice v.A4 p.wgt.length v.c4, .int .i64 p.now]] W fun e w' => ∃ s d, e = .returned (.pointer (some ⟨s.gb, 0, none⟩)) ∧ NgOk W v p s d w') := fun hc W hW =>
  (newG_any p v W (h.kept hW) hc).mono fun e w' he => NewG.ok hc he
 have H := Lib.hid h
 have HO := Lib.hid ho
 have HE := Lib.hid he
 clear h ho he
 unfold PV.cs
 generalize hPP : (fun (e : Ending) w' => e = .returned (.bool (verP p x)) ∧ KeepsAll w w') = PP
 have HPP := Lib.hid hPP
 clear hPP
 go_enter Try.func19, Try.ntmps19
 go_wp2_with fail
 refine (HCK.out _ (((Keeps.refl _ _).alloc _).alloc _)).mono ?_
 rintro e w1 ⟨rfl, k1⟩
 have BP : Hid (Blk w1 w.heap.size 25 #[.slice v.A p.ps.length v.c, .slice v.A2 p.at_.length v.c2, .slice v.A3 p.due.length v.c3, .slice v.A4 p.wgt.length v.c4, .int .i64 p.now]) := ((Blk.new _ _ _).alloc _).kept k1 (by simp)
 have BS : Hid (Blk w1 (w.heap.size + 1) 31 #[.slice Ao x.os.length co, .slice Ae x.en.length ce, .int .i64 x.cost]) := (Blk.new' _ _ _ (by simp)).kept k1 (by simp)
 have K1 : Hid (KeepsAll w w1) := (((Keeps.refl _ _).alloc _).alloc _).tr k1
 clear k1
 obtain ⟨zs, hzs⟩ : ∃ b, b = w.heap.size + 1 := ⟨_, rfl⟩
 rw [← hzs] at BS ⊢
 obtain ⟨zp, hzp⟩ : ∃ b, b = w.heap.size := ⟨_, rfl⟩
 rw [← hzp] at BP ⊢
 have HZ0 : Hid (w.heap.size ≤ zs ∧ w.heap.size ≤ zp) := ⟨by omega, by omega⟩
 clear hzs hzp
 cases hc : checkP p with
 | false =>
  have Q : Hid (PP (.returned (.bool false)) w1) := by show PP _ _; rw [← HPP.out]; exact ⟨by unfold verP; rw [hc]; rfl, K1.out⟩
  clear hc HCK HNG HPP BP BS
  go_wp2
  exact Q.out
 | true =>
  have HC := Lib.hid hc
  have HN := Lib.hid (HNG.out HC.out w1 K1.out)
  clear hc HNG HCK
  have p0 := BP.out.cell 0
  have p1 := BP.out.cell 1
  have p2 := BP.out.cell 2
  have p3 := BP.out.cell 3
  have p4 := BP.out.cell 4
  simp at p0 p1 p2 p3 p4
  go_wp2_with fail
  refine HN.out.mono ?_
  rintro e w2 ⟨s, d, rfl, hng⟩
  clear HN p0 p1 p2 p3 p4
  have HUC := Lib.hid (guses_any s w1 w2 d v p.due p.wgt hng.sp hng.so hng.g)
  have HG := Lib.hid hng
  clear hng
  go_wp2_with fail
  refine HUC.out.mono ?_
  rintro e w3 ⟨g, rfl, hus, k3⟩
  have HOW : Hid (∀ b, b < w1.heap.size → NOwn s w3 d b) := fun b hb => by
   have h1 := HG.out.g.k.size
   have h2 := k3.size
   exact ⟨by omega, fun e => by have := HG.out.g.own_ge e; omega⟩
  have HUS : Hid (RUsess w3 (NOwn s w3 d) [.slice (some ⟨g, 0, none⟩) 144 144] (usesP s.ps s.at_)) := RUsess.ok.mono hus (fun b hb => ⟨hb.2, fun e => by have := HG.out.g.own_lt e; have := hb.1; omega⟩) (fun _ _ => rfl)
  have KA := Lib.hid (HG.out.g.k.tr k3)
  have HOS : Hid (ROrders w3 (NOwn s w3 d) [.slice Ao x.os.length co] x.os) := by
   have h1 : ROrders w1 (Old w1) [.slice Ao x.os.length co] x.os := K1.out.rdo' ROrders.ok HO.out
   exact ROrders.ok.mono h1 (fun b hb => HOW.out b hb) (fun b hb => KA.out.block b hb (by simp))
  have BS3 := Lib.hid (BS.out.kept KA.out (by simp))
  have BP3 := Lib.hid (BP.out.kept KA.out (by simp))
  have HNZ : Hid (¬ GOwn s d zs ∧ ¬ GOwn s d zp) := ⟨(HOW.out zs BS.out.lt).2, (HOW.out zp BP.out.lt).2⟩
  have HVE : Hid (VeS s w1 w3 d [] w3 d) := ⟨HG.out.g.keep k3, HG.out.gp, Frw.refl _ _ _⟩
  have HVN : Hid (∀ n, n ≤ 144 → verTo s.ps s.at_ x.os n = none → verP p x = false) := fun n hn hv => by
   refine ver_none hn ?_
   have e1 : s.ps = p.ps := congrArg Pb.ps HG.out.pb
   have e2 : s.at_ = p.at_ := congrArg Pb.at_ HG.out.pb
   rw [← e1, ← e2]; exact hv
  have K13 := Lib.hid (K1.out.tr KA.out)
  clear hus k3 HUC BS BP
  go_wp2
  go_loopw [19] (fun iv wr => ∃ (r : Nat) (D : List RArc) (d' : GD), r ≤ 144 ∧ iv = .int .i64 (r : Int) ∧ verTo s.ps s.at_ x.os r = some D ∧ VeS s w1 w3 d D wr d') (fun iv _ => 144 - (intOf iv).toNat)
  case atStart => exact ⟨0, [], d, by omega, rfl, rfl, HVE.out⟩
  case round =>
   obtain ⟨r, D, d', hr, rfl, hvt, hve⟩ := hrel
   clear HVE
   have HVT := Lib.hid hvt
   have HV := Lib.hid hve
   clear hvt hve
   by_cases hlt : r < 144
   ·obtain ⟨bg, og, l, Al, cl, hA, hbg, hll, g0, hrl⟩ := RSS.at_ (HV.out.rd RUsess.ok HUS.out) (k := r) (by rw [usesP_len]; exact hlt)
    cases hA
    rw [usesP_at _ _ hlt] at hll
    injection hll with hll
    subst hll
    rw [List.length_map] at g0 hrl
    rw [Nat.zero_add] at g0
    have hbz : g < wr.heap.size := hbg.1
    have hor : ROrders wr (Old wr) [.slice Ao x.os.length co] x.os := NOwn.old ROrders.ok (HV.out.rd ROrders.ok HOS.out)
    have HOR := Lib.hid hor
    have HIX : Hid (∀ W, KeepsAll wr W → Blk W wr.heap.size 3 #[.int .i64 (r : Int)] → Calls Try.prog 49 #[.slice Ao x.os.length co, .func (.func 50) #[] #[.pointer (some ⟨wr.heap.size, 0, none⟩)]] W fun e w' => e = .returned (.int .i64 (idxF (fun o : Order => decide (o.res = (r : Int))) x.os)) ∧ KeepsAll W w') := fun W hW hB =>
     verify_idx (r : Int) x.os wr.heap.size Ao co W (hW.rdo' ROrders.ok HOR.out) hB
    have bsr := HV.out.blk BS3.out HNZ.out.1
    have s0 := bsr.cell 0
    simp at s0
    have hsz := bsr.lt
    have HRL := Lib.hid hrl
    clear hrl hor bsr hbg
    go_wp2_with fail
    refine (HIX.out _ ((Keeps.refl _ _).alloc _) (Blk.new _ _ _)).mono ?_
    rintro e w4 ⟨rfl, k4⟩
    have K4 : KeepsAll wr w4 := ((Keeps.refl _ _).alloc _).tr k4
    have HV4 := Lib.hid (HV.out.keep K4)
    have s04 := K4.cellK (p := ⟨zs, 0, none⟩) hsz s0
    have hsz4 : zs < w4.heap.size := Nat.lt_of_lt_of_le hsz K4.size
    have HRL4 : Hid (RUses w4 (NOwn s w4 d') [.slice Al (openA s.ps s.at_ (r : Int)).length cl] ((openA s.ps s.at_ (r : Int)).map (useOf s.ps (r : Int)))) := RUses.ok.mono HRL.out (fun b hb => ⟨Nat.lt_of_lt_of_le hb.1 K4.size, hb.2⟩) (fun b hb => K4.block b hb.1 (by simp))
    have HOS4 : Hid (ROrders w4 (NOwn s w4 d') [.slice Ao x.os.length co] x.os) := HV4.out.rd ROrders.ok HOS.out
    clear HIX HV HRL HOR s0 hsz k4 K4 g0 hbz
    generalize wr.heap.size = zr at *
    have hln : (openA s.ps s.at_ (r : Int)).length ≤ 640 := Nat.le_trans (openA_len _ _ _) (allU_640 HG.out.so.v _)
    rcases idxF_find (fun o : Order => decide (o.res = (r : Int))) x.os with ⟨hidx, hf⟩ | ⟨i, o, hidx, hoi, hf⟩
    ·rw [hidx]
     by_cases hem : openA s.ps s.at_ (r : Int) = []
     ·have hnx : Hid (verTo s.ps s.at_ x.os (r + 1) = some D) := by show _ = _; rw [verTo, HVT.out]; simp only [hf, if_pos hem]
      have hl0 : (openA s.ps s.at_ (r : Int)).length = 0 := by rw [hem]; rfl
      rw [hl0]
      clear hem hl0 hln HRL4 hidx hf
      go_wp2
      go_roundw
      case rel => exact ⟨r + 1, D, d', by omega, by go_num, hnx.out, HV4.out⟩
      case measure => simp [intOf]; omega
     ·have Q : Hid (PP (.returned (.bool false)) w4) := by
       show PP _ _; rw [← HPP.out]
       exact ⟨by rw [HVN.out (r + 1) (by omega) (by rw [verTo, HVT.out]; simp only [hf, if_neg hem])], K1.out.tr HV4.out.g.k⟩
      have hl1 : decide (0 < (openA s.ps s.at_ (r : Int)).length) = true := by
       rw [decide_eq_true_eq]
       exact List.length_pos_iff.2 hem
      clear hem hidx hf HRL4 HVT HV4
      go_wp2
      exact Q.out
    ·rw [hidx]
     have hil : i < x.os.length := getElem?_lt hoi
     by_cases hem : openA s.ps s.at_ (r : Int) = []
     ·have Q : Hid (PP (.returned (.bool false)) w4) := by
       show PP _ _; rw [← HPP.out]
       exact ⟨by rw [HVN.out (r + 1) (by omega) (by rw [verTo, HVT.out]; simp only [hf, if_pos hem])], K1.out.tr HV4.out.g.k⟩
      have hl0 : (openA s.ps s.at_ (r : Int)).length = 0 := by rw [hem]; rfl
      rw [hl0]
      clear hem hl0 hln HRL4 hidx hf hoi HVT HV4
      go_wp2
      exact Q.out
     ·have hl1 : decide (0 < (openA s.ps s.at_ (r : Int)).length) = true := by
       rw [decide_eq_true_eq]
       exact List.length_pos_iff.2 hem
      obtain ⟨bo, oo, o', A', c', hAo, hbo, ho', n0, n1, hrefs⟩ := ROrders.at_ HOS4.out hil
      rw [hoi] at ho'
      injection ho' with ho'
      subst ho' hAo
      have hDl := verTo_len HG.out.so.v r D HVT.out
      have HNX : Hid (verTo s.ps s.at_ x.os (r + 1) = folQ s.ps s.at_ (r : Int) (openA s.ps s.at_ (r : Int)) o.uses D) := by
       show _ = _; rw [verTo, HVT.out]; simp only [hf, if_neg hem]
      have HFO : Hid (Calls Try.prog 51 #[.pointer (some ⟨s.gb, 0, none⟩), .slice A' o.uses.length c', .slice Al (openA s.ps s.at_ (r : Int)).length cl] w4 (FoPost s w1 w4 d' (folQ s.ps s.at_ (r : Int) (openA s.ps s.at_ (r : Int)) o.uses D))) :=
       follow_any s w1 w4 d' D v p.due p.wgt HG.out.sp HG.out.so HG.out.z HV4.out.g HV4.out.gp (r : Int) _ o.uses Al A' cl c' (by omega) (by omega) HRL4.out hrefs (fun u hu => hu)
      have hbo4 : bo < w4.heap.size := hbo.1
      clear hem hidx hf HRL4 hrefs hbo
      go_wp2_with fail
      refine HFO.out.mono ?_
      intro e w5 hfo
      cases hq : folQ s.ps s.at_ (r : Int) (openA s.ps s.at_ (r : Int)) o.uses D with
      | none =>
       rw [hq] at hfo
       obtain ⟨lb, d2, h1, h2, h3, rfl⟩ := hfo
       have Q : Hid (PP (.returned (.bool false)) w5) := by
        show PP _ _; rw [← HPP.out]
        exact ⟨by rw [HVN.out (r + 1) (by omega) (by rw [HNX.out, hq])], K1.out.tr h2.k⟩
       clear hq HNX HFO HVT HV4 h1 h2 h3 n0 n1
       go_wp2
       exact Q.out
      | some D2 =>
       rw [hq] at hfo
       obtain ⟨rfl, d2, hve2⟩ := HV4.out.follow hfo
       have HN2 : Hid (verTo s.ps s.at_ x.os (r + 1) = some D2) := by show _ = _; rw [HNX.out, hq]
       have HV2 := Lib.hid hve2
       clear hq HNX HFO HVT HV4 hve2 hfo n0 n1
       go_wp2
       go_roundw
       case rel => exact ⟨r + 1, D2, d2, by omega, by go_num, HN2.out, HV2.out⟩
       case measure => simp [intOf]; omega
   ·obtain rfl : r = 144 := by omega
    have hor : ROrders wr (Old wr) [.slice Ao x.os.length co] x.os := NOwn.old ROrders.ok (HV.out.rd ROrders.ok HOS.out)
    have HOR := Lib.hid hor
    have bsr := HV.out.blk BS3.out HNZ.out.1
    have HBSR := Lib.hid bsr
    have HBPR := Lib.hid (HV.out.blk BP3.out HNZ.out.2)
    have s0 := bsr.cell 0
    simp at s0
    have hsz := bsr.lt
    have HW1 := Lib.hid (K1.out.tr HV.out.g.k)
    have HVP : Hid (resOk x.os = true → verP p x = (decide (x.en = tabOf s.ps (secT d'.T)) && decide (x.cost = costE p x.en))) := fun hro => by
     have e1 : s.ps = p.ps := congrArg Pb.ps HG.out.pb
     have e2 : s.at_ = p.at_ := congrArg Pb.at_ HG.out.pb
     have e3 : s.now = p.now := congrArg Pb.now HG.out.pb
     have ht := HV.out.gp.T_eq HG.out.so
     have hvt := HVT.out
     rw [ht, e1, e2, e3]
     rw [e1, e2] at hvt
     unfold verP
     rw [HC.out, hvt, hro]
     rfl
    have HEN : Hid (∀ W, KeepsAll wr W → Calls Try.prog 53 #[.pointer (some ⟨s.gb, 0, none⟩)] W fun e w' => ∃ A, e = .returned (.slice A s.ps.length s.ps.length) ∧ KeepsAll W w' ∧ ∀ W2, KeepsAll w' W2 → Calls Try.prog 52 #[.slice Ae x.en.length ce, .slice A s.ps.length s.ps.length, .func (.func 54) #[] #[]] W2 fun e w'' => e = .returned (.bool (decide (x.en = tabOf s.ps (secT d'.T)))) ∧ KeepsAll W2 w'') := fun W hW => by
     refine (genter_any s w1 W d' v p.due p.wgt HG.out.sp (by rw [HG.out.pb]; exact checkP_ok HC.out) (HV.out.g.keep hW)).mono ?_
     rintro e w' ⟨A, rfl, hr, hk⟩
     refine ⟨A, rfl, hk, fun W2 hW2 => ?_⟩
     have hr1 : RIntss W2 (Old W2) [.slice A s.ps.length s.ps.length] (tabOf s.ps (secT d'.T)) := hW2.rdo' RIntss.ok (RIntss.ok.mono hr (fun _ hb => hb.2) (fun _ _ => rfl))
     have he1 : RIntss W2 (Old W2) [.slice Ae x.en.length ce] x.en := (HW1.out.tr (hW.tr (hk.tr hW2))).rdo' RIntss.ok HE.out
     have := EqRows_any x.en (tabOf s.ps (secT d'.T)) Ae A ce s.ps.length W2 he1 (by rw [tabOf_len]; exact hr1)
     rw [tabOf_len] at this
     exact this
    have HCS : Hid (∀ W, KeepsAll w W → Calls Try.prog 55 #[.agg #[.slice v.A p.ps.length v.c, .slice v.A2 p.at_.length v.c2, .slice v.A3 p.due.length v.c3, .slice v.A4 p.wgt.length v.c4, .int .i64 p.now], .slice Ae x.en.length ce] W fun e w' => e = .returned (.int .i64 (costE p x.en)) ∧ KeepsAll W w') := fun W hW => DspCost_any p v W (H.out.kept hW) x.en Ae ce (hW.rdo' RIntss.ok HE.out)
    clear hor bsr HVT HV HUS HOS BS3 BP3 HNZ HOW KA K13 HVN
    obtain ⟨wr0, rfl⟩ : ∃ wo : World, wo = wr := ⟨_, rfl⟩
    go_wp2
    go_loopw [54] (fun iv wx => ∃ k : Nat, k ≤ x.os.length ∧ iv = .int .i64 (k : Int) ∧ resOk (x.os.take k) = true ∧ KeepsAll wr0 wx) (fun iv _ => x.os.length - (intOf iv).toNat)
    case atStart => exact ⟨0, by omega, rfl, by rw [List.take_zero, resOk_iff]; simp, Keeps.refl _ _⟩
    case round =>
     obtain ⟨k, hk, rfl, hro, kx⟩ := hrel
     have HRO := Lib.hid hro
     have KX := Lib.hid kx
     clear hro
     by_cases hlt2 : k < x.os.length
     ·obtain ⟨bo, oo, o, A', c', hAo, hbo, ho, n0, n1, _⟩ := ROrders.atK KX.out HOR.out hlt2
      subst hAo
      have HOO := Lib.hid ho
      have s0r := kx.cellK (p := ⟨zs, 0, none⟩) hsz s0
      have hszr : zs < wr.heap.size := Nat.lt_of_lt_of_le hsz kx.size
      clear ho kx
      go_wp2
      generalize hW2 : World.alloc wr _ = W2
      have B2 : Blk W2 wr.heap.size 44 #[.int .i64 o.res, .slice A' o.uses.length c'] := by subst hW2; exact Blk.new _ _ _
      have K2 : KeepsAll wr W2 := by subst hW2; exact (Keeps.refl _ _).alloc _
      have e0 := B2.cell 0
      simp at e0
      have hz2 := B2.lt
      have s02 := K2.cellK (p := ⟨zs, 0, none⟩) hszr s0r
      have hsz2 : zs < W2.heap.size := Nat.lt_of_lt_of_le hszr K2.size
      have KX2 := Lib.hid (KX.out.tr K2)
      clear hW2 n0 n1 B2 hbo s0r hszr
      have HBAD : Hid (resOk x.os = false → ∀ W, KeepsAll W2 W → PP (.returned (.bool false)) W) := fun hb W hW => by
       rw [← HPP.out]
       exact ⟨by rw [ver_res hb], HW1.out.tr (KX2.out.tr hW)⟩
      have HGD : Hid (resOk x.os = true → (0 ≤ o.res ∧ o.res < 144) ∧ ∀ q, 0 < k → x.os[k - 1]? = some q → q.res < o.res) := fun h1 => resOk_at h1 HOO.out
      have hrb : ∀ P : Prop, (resOk x.os = true → P) → ¬ P → resOk x.os = false := fun P h1 h2 => by
       cases e : resOk x.os with
       | false => rfl
       | true => exact absurd (h1 e) h2
      have HRB := Lib.hid hrb
      clear hrb
      by_cases g1 : o.res < 0
      ·have g1' : decide (o.res < 0) = true := by simpa using g1
       have Q := Lib.hid (HBAD.out (HRB.out _ (fun h => (HGD.out h).1) (by omega)))
       clear HBAD HGD HRB HOO HRO KX KX2 HVP HEN HCS g1
       go_quiet (fail)
       go_wp2
       exact Q.out _ ((Keeps.refl _ _).drewN _)
      have g1' : decide (o.res < 0) = false := by simpa using g1
      by_cases g2 : 144 ≤ o.res
      ·have g2' : decide (o.res ≥ 144) = true := by simpa using g2
       have Q := Lib.hid (HBAD.out (HRB.out _ (fun h => (HGD.out h).1) (by omega)))
       clear HBAD HGD HRB HOO HRO KX KX2 HVP HEN HCS g1 g2
       go_quiet (fail)
       go_wp2
       exact Q.out _ ((Keeps.refl _ _).drewN _)
      have g2' : decide (o.res ≥ 144) = false := by simpa using g2
      by_cases hk0 : 0 < k
      ·obtain ⟨b', o', q, A3, c3, hbo, hb3, hq, n0, _, _⟩ := ROrders.atK KX2.out HOR.out (k := k - 1) (by omega)
       injection hbo with hbo; injection hbo with hb1 hb2; subst hb1 hb2
       by_cases g3 : o.res ≤ q.res
       ·have g3' : decide (o.res ≤ q.res) = true := by simpa using g3
        have Q := Lib.hid (HBAD.out (HRB.out _ (fun h => (HGD.out h).2 q hk0 hq) (by omega)))
        clear HBAD HGD HRB HOO HRO KX KX2 HVP HEN HCS g1 g2 g3 hq
        go_quiet (fail)
        go_wp2
        exact Q.out _ ((Keeps.refl _ _).drewN _)
       ·have g3' : decide (o.res ≤ q.res) = false := by simpa using g3
        have Q := Lib.hid (resOk_succ HRO.out HOO.out (by omega) (fun q' _ hq' => by rw [hq] at hq'; injection hq' with hq'; subst hq'; omega))
        clear HBAD HGD HRB HOO HRO KX HVP HEN HCS g1 g2 g3 hq
        go_quiet (fail)
        go_wp2
        go_roundw
        case rel => exact ⟨k + 1, by omega, by go_num, Q.out, KX2.out.drewN _⟩
        case measure => simp [intOf]; omega
      ·obtain rfl : k = 0 := by omega
       have Q := Lib.hid (resOk_succ HRO.out HOO.out (by omega) (fun q' h _ => by omega))
       clear HBAD HGD HRB HOO HRO KX HVP HEN HCS g1 g2
       go_quiet (fail)
       go_wp2
       go_roundw
       case rel => exact ⟨1, by omega, by go_num, Q.out, KX2.out.drewN _⟩
       case measure => simp [intOf]; try omega
     ·obtain rfl : k = x.os.length := by omega
      have hro := HRO.out
      rw [List.take_length] at hro
      have HVV := Lib.hid (HVP.out hro)
      have s1 := HBSR.out.cell 1
      have s2 := HBSR.out.cell 2
      simp at s1 s2
      have p0 := HBPR.out.cell 0
      have p1 := HBPR.out.cell 1
      have p2 := HBPR.out.cell 2
      have p3 := HBPR.out.cell 3
      have p4 := HBPR.out.cell 4
      simp at p0 p1 p2 p3 p4
      have KX1 := Lib.hid (HW1.out.tr KX.out)
      clear hro HRO HVP HOR HBSR HBPR
      go_wp2_with fail
      refine wp_region_lex (fun w' => ∃ x : Ext wr0, w' = x.val) [0, 1, 2, 3, 4, 5, 6, 7, 8, 9, 10, 11, 12, 13, 14] (by kernel_rfl) (by kernel_rfl) ⟨⟨_, KX.out.drew⟩, rfl⟩ ?_
      have y1 := Ext.cell s1
      have y2 := Ext.cell s2
      have u0 := Ext.cell p0
      have u1 := Ext.cell p1
      have u2 := Ext.cell p2
      have u3 := Ext.cell p3
      have u4 := Ext.cell p4
      iterate 3 (refine lex_q _ rfl rfl rfl ?_; go_big_quiet_step (fail); refine wpQuiet_nil ?_)
      refine lex_a _ rfl rfl true (by kernel_rfl) ?_
      go_wp2_with fail
      refine (HEN.out _ KX.out.drew).mono ?_
      rintro e w5 ⟨A5, rfl, k5, heq⟩
      have KX5 := Lib.hid (KX.out.drew.tr k5)
      have HEQ := Lib.hid heq
      clear k5 heq
      go_wp2
      refine ⟨fun _ => ⟨⟨_, KX5.out⟩, rfl⟩, ?_⟩
      refine lex_a _ rfl rfl true (by kernel_rfl) ?_
      go_wp2_with fail
      refine (HEQ.out _ (Keeps.refl _ _)).mono ?_
      rintro e w6 ⟨rfl, k6⟩
      have KX6 := Lib.hid (KX5.out.tr k6)
      clear k6 HEQ HEN
      by_cases hen : x.en = tabOf s.ps (secT d'.T)
      ·rw [decide_eq_true hen]
       have HV2 : Hid (verP p x = decide (x.cost = costE p x.en)) := by show _ = _; rw [HVV.out, decide_eq_true hen, Bool.true_and]
       have HCS6 := Lib.hid (HCS.out w6 (HW1.out.tr KX6.out))
       clear hen HVV HCS
       go_wp2
       refine ⟨fun _ => ⟨⟨_, KX6.out⟩, rfl⟩, ?_⟩
       iterate 6 (refine lex_q _ rfl rfl rfl ?_; go_big_quiet_step (fail); refine wpQuiet_nil ?_)
       refine lex_a _ rfl rfl true (by kernel_rfl) ?_
       go_wp2_with fail
       refine HCS6.out.mono ?_
       rintro e w7 ⟨rfl, k7⟩
       have KX7 := Lib.hid (KX6.out.tr k7)
       have Q : Hid (PP (.returned (.bool (x.cost == costE p x.en))) w7) := by
        show PP _ _; rw [← HPP.out]
        refine ⟨?_, HW1.out.tr (KX6.out.tr k7)⟩
        rw [HV2.out]
        by_cases e : x.cost = costE p x.en
        ·simp [e]
        ·simp [e]
       clear HCS6 HV2 HPP k7
       go_wp2
       refine ⟨fun _ => ⟨⟨_, KX7.out⟩, rfl⟩, ?_⟩
       clear y1 y2 u0 u1 u2 u3 u4
       iterate 3 (refine lex_q _ rfl rfl rfl ?_; go_big_quiet_step (fail); refine wpQuiet_nil ?_)
       simp only [wpLex]
       refine NoPanic.normal ?_
       go_wp2
       exact Q.out
      ·rw [decide_eq_false hen]
       have Q : Hid (∀ W, KeepsAll w6 W → PP (.returned (.bool false)) W) := fun W hW => by
        rw [← HPP.out]
        exact ⟨by rw [HVV.out, decide_eq_false hen, Bool.false_and], HW1.out.tr (KX6.out.tr hW)⟩
       clear hen HVV HCS HPP
       go_wp2
       refine ⟨fun _ => ⟨⟨_, KX6.out⟩, rfl⟩, ?_⟩
       refine lex_q _ rfl rfl rfl ?_; go_big_quiet_step (fail); refine wpQuiet_nil ?_
       iterate 5 (refine lex_skip _ rfl rfl rfl ?_; go_simp)
       refine lex_skipa _ rfl rfl rfl ⟨⟨_, KX6.out⟩, rfl⟩ ?_; go_simp
       refine lex_skip _ rfl rfl rfl ?_; go_simp
       clear y1 y2 u0 u1 u2 u3 u4
       iterate 2 (refine lex_q _ rfl rfl rfl ?_; go_big_quiet_step (fail); refine wpQuiet_nil ?_)
       simp only [wpLex]
       refine NoPanic.normal ?_
       go_wp2
       exact Q.out _ (Keeps.refl _ _)

theorem ex37_rd {W : World} {S : Foot} {b1 b2 b3 b4 b5 : Nat} {t1 t2 t3 t4 t5 : TypeId} (h1 : Blk W b1 t1 #[.int .i64 1, .slice none 0 0, .int .i64 10, .int .i64 0]) (h2 : Blk W b2 t2 #[.slice (some ⟨b1, 0, none⟩) 1 1, .slice (some ⟨b1, 0, none⟩) 1 1])
  (h3 : Blk W b3 t3 #[.int .i64 (-1), .int .i64 (-1)]) (h4 : Blk W b4 t4 #[.int .i64 10, .int .i64 10]) (h5 : Blk W b5 t5 #[.int .i64 1, .int .i64 3]) (s1 : S b1) (s2 : S b2) (s3 : S b3) (s4 : S b4) (s5 : S b5) :
  RPb W S ⟨some ⟨b2, 0, none⟩, 2, some ⟨b3, 0, none⟩, 2, some ⟨b4, 0, none⟩, 2, some ⟨b5, 0, none⟩, 2⟩ ex37 := by
 have p1 : RPath W S [.slice (some ⟨b1, 0, none⟩) 1 1] [⟨1, [], 10, 0⟩] := RSlice.ofBlk h1 s1 [[.int .i64 1, .slice none 0 0, .int .i64 10, .int .i64 0]] ([⟨1, [], 10, 0⟩] : List Stage) rfl ⟨⟨rfl, _, rfl, RSlice.mkNil⟩, trivial⟩ (by simp)
 refine ⟨?_, ?_, ?_, ?_⟩
 ·exact RSlice.ofBlk h2 s2 [[.slice (some ⟨b1, 0, none⟩) 1 1], [.slice (some ⟨b1, 0, none⟩) 1 1]] ex37.ps rfl ⟨⟨rfl, p1⟩, ⟨rfl, p1⟩, trivial⟩ (by simp [ex37])
 ·exact RInts.ofBlk [-1, -1] h3 s3 (by simp)
 ·exact RInts.ofBlk [10, 10] h4 s4 (by simp)
 ·exact RInts.ofBlk [1, 3] h5 s5 (by simp)
set_option maxRecDepth 100000 in
set_option maxHeartbeats 1000000 in
theorem example37_any (w : World) : Calls Try.prog 17 #[] w fun e w' => ∃ v, e = .returned (.agg (v.cs ex37)) ∧ RPb w' (Fresh w w') v ex37 ∧ KeepsAll w w' := by
 go_enter Try.func17, Try.ntmps17
 go_wp2
 generalize hW : World.alloc (World.alloc (World.alloc (World.alloc (World.alloc (World.alloc w _) _) _) _) _) _ = W
 have hz : W.heap.size = w.heap.size + 6 := by subst hW; simp
 have hk : KeepsAll w W := by subst hW; exact ((((((Keeps.refl _ _).alloc _).alloc _).alloc _).alloc _).alloc _).alloc _
 have b0 : Blk W w.heap.size 25 #[.slice (some ⟨w.heap.size + 1 + 1, 0, none⟩) 2 2, .slice (some ⟨w.heap.size + 1 + 1 + 1, 0, none⟩) 2 2, .slice (some ⟨w.heap.size + 1 + 1 + 1 + 1, 0, none⟩) 2 2, .slice (some ⟨w.heap.size + 1 + 1 + 1 + 1 + 1, 0, none⟩) 2 2, .int .i64 0] := by
  subst hW; exact (((((Blk.new _ _ _).alloc _).alloc _).alloc _).alloc _).alloc _
 have b1 : Blk W (w.heap.size + 1) 99 #[.int .i64 1, .slice none 0 0, .int .i64 10, .int .i64 0] := by
  subst hW; exact ((((Blk.new' _ _ _ (by simp)).alloc _).alloc _).alloc _).alloc _
 have b2 : Blk W (w.heap.size + 1 + 1) 100 #[.slice (some ⟨w.heap.size + 1, 0, none⟩) 1 1, .slice (some ⟨w.heap.size + 1, 0, none⟩) 1 1] := by
  subst hW; exact (((Blk.new' _ _ _ (by simp)).alloc _).alloc _).alloc _
 have b3 : Blk W (w.heap.size + 1 + 1 + 1) 3 #[.int .i64 (-1), .int .i64 (-1)] := by
  subst hW; exact ((Blk.new' _ _ _ (by simp)).alloc _).alloc _
 have b4 : Blk W (w.heap.size + 1 + 1 + 1 + 1) 3 #[.int .i64 10, .int .i64 10] := by
  subst hW; exact (Blk.new' _ _ _ (by simp)).alloc _
 have b5 : Blk W (w.heap.size + 1 + 1 + 1 + 1 + 1) 3 #[.int .i64 1, .int .i64 3] := by
  subst hW; exact Blk.new' _ _ _ (by simp)
 have hr := ex37_rd (S := Fresh w W) b1 b2 b3 b4 b5 ⟨by omega, by omega⟩ ⟨by omega, by omega⟩ ⟨by omega, by omega⟩ ⟨by omega, by omega⟩ ⟨by omega, by omega⟩
 have c0 := b0.cell 0
 have c1 := b0.cell 1
 have c2 := b0.cell 2
 have c3 := b0.cell 3
 have c4 := b0.cell 4
 simp at c0 c1 c2 c3 c4
 have HR := Lib.hid hr
 have HK := Lib.hid hk
 clear hW hr hk b0 b1 b2 b3 b4 b5
 exact bodyPost_ret (v := .agg #[.slice (some ⟨w.heap.size + 1 + 1, 0, none⟩) 2 2, .slice (some ⟨w.heap.size + 1 + 1 + 1, 0, none⟩) 2 2, .slice (some ⟨w.heap.size + 1 + 1 + 1 + 1, 0, none⟩) 2 2, .slice (some ⟨w.heap.size + 1 + 1 + 1 + 1 + 1, 0, none⟩) 2 2, .int .i64 0]) (by simp [results, Try.results17, go_sem, c0, c1, c2, c3, c4]) rfl ⟨_, rfl, HR.out, HK.out⟩

end Go.Proofs.Ytilbbpbjhoidhaa
