/- The earliest seconds of chapter 35 as plain functions: the program's and the reference's are the same. No program in sight. Trains that follow their orders: after any number of events of a line the rest of it is the line, and no two trains hold the same section. No program in sight. Contract of takeover.Orders where the planned orders have a line. Conditions: as the theorem says. Contracts of the reference's ready, LineOf and Line. Conditions: as each theorem says. -/
import Derived.Test.YtbfgmbakeofcbaaGreatK31
import Derived.Test.YtbfgmbakeofcbaaGreatK16
import Derived.Test.YtbfgmbakeofcbaaGreatK18
import Derived.Test.YtbfgmbakeofcbaaGreatK34
import Derived.Test.YtbfgmbakeofcbaaGreatK33
namespace Go.Proofs.YtbfgmbakeofcbaaGreat
open Go.RowKit

/-- the greatest of s and some values -/
def mxo {α : Type} (f : α → Option Int) (s : Int) (l : List α) : Int := l.foldl (fun s a => (f a).elim s (max s)) s
theorem mxo_le {α : Type} (f : α → Option Int) (x : Int) : ∀ (l : List α) (s : Int), mxo f s l ≤ x ↔ s ≤ x ∧ ∀ a ∈ l, ∀ y, f a = some y → y ≤ x
  | [], s => by simp [mxo]
  | a :: l, s => by
    have ih := mxo_le f x l ((f a).elim s (max s))
    have e : mxo f s (a :: l) = mxo f ((f a).elim s (max s)) l := rfl
    rw [e, ih]
    cases hf : f a with
    | none => simp [hf]
    | some y =>
      simp only [Option.elim_some, List.mem_cons, forall_eq_or_imp, hf, Option.some.injEq, forall_eq']
      constructor
      · rintro ⟨h1, h2⟩; exact ⟨by omega, by omega, h2⟩
      · rintro ⟨h1, h2, h3⟩; exact ⟨by omega, h3⟩
theorem mxo_mem {α : Type} (f : α → Option Int) (s : Int) (l : List α) {a : α} {y : Int} (ha : a ∈ l) (hf : f a = some y) : y ≤ mxo f s l := ((mxo_le f (mxo f s l) l s).1 (Int.le_refl _)).2 a ha y hf

abbrev Tab := Ref → Int
def upd (T : Tab) (u : Ref) (x : Int) : Tab := fun v => if v = u then x else T v
def secs (step : Tab → Ref → Int) (T : Tab) (L : List Ref) : Tab := L.foldl (fun T u => upd T u (step T u)) T
theorem take_succ' {α : Type} {l : List α} {j : Nat} {u : α} (h : l[j]? = some u) : l.take (j + 1) = l.take j ++ [u] := by rw [List.take_add_one, h]; rfl

theorem done_set {now : List Int} {t : Nat} (ht : t < now.length) {x : Ref} (hx : 0 ≤ x.tr) : doneR (now.set t (nowAt now t + 1)) x = true ↔ doneR now x = true ∨ x = ⟨(t : Int), nowAt now t + 1⟩ := by
  unfold doneR
  rw [decide_eq_true_eq, decide_eq_true_eq, nowAt_set ht]
  by_cases e : t = x.tr.toNat
  · rw [if_pos e, ← e]
    constructor
    · intro h
      by_cases h2 : x.st ≤ nowAt now t
      · exact .inl h2
      · right
        cases x
        simp only at *
        simp; omega
    · rintro (h | h)
      · omega
      · rw [h]; simp
  · rw [if_neg e]
    constructor
    · exact .inl
    · rintro (h | h)
      · exact h
      · rw [h] at e; simp at e

theorem valid_clk {ps : List (List Stage)} (hv : valid ps = true) {t k : Nat} {p : List Stage} {s : Stage} (hp : ps[t]? = some p) (hs : p[k]? = some s) : (0 ≤ s.mn ∧ s.mn ≤ 4194304) ∧ 0 ≤ s.nt ∧ s.nt ≤ 4194304 := by
  have h := valid_stage hv (List.mem_of_getElem? hp) (List.mem_of_getElem? hs)
  simp only [stageOk, Bool.and_eq_true, isClk, decide_eq_true_eq] at h
  exact ⟨h.2.1, h.2.2⟩
/-- seconds -/
def baseS (ps : List (List Stage)) (n : Int) (u : Ref) : Int := ((((ps[u.tr.toNat]?).getD [])[u.st.toNat]?).elim n fun s => max n s.nt)
def valG (ps : List (List Stage)) (at_ : List Int) (n : Int) (T : Tab) (u : Ref) (a : GArc) : Option Int :=
  if doneR at_ (evAt ps a.frm.toNat) = false then some (T (evAt ps a.frm.toNat) + a.wt) else if (evAt ps a.frm.toNat).tr = u.tr then some (n + a.wt) else none
def rowG (ps : List (List Stage)) (os : List Order) (u : Ref) : List GArc := arcsAt (arcsOf (evs ps).length (gAdds ps os)) (num ps u)
def stepG (ps : List (List Stage)) (os : List Order) (at_ : List Int) (n : Int) (T : Tab) (u : Ref) : Int := mxo (valG ps at_ n T u) (baseS ps n u) (rowG ps os u)

/-- the program's arcs to an event, in terms of the paths and orders -/
theorem mem_rowG {ps : List (List Stage)} {os : List Order} (hck : checkO ps os = true) {t k : Nat} {p : List Stage} (hp : ps[t]? = some p) (hk : k ≤ p.length) {a : GArc} :
    a ∈ rowG ps os ⟨(t : Int), (k : Int)⟩ ↔ (∃ (k' : Nat) (s : Stage), k = k' + 1 ∧ p[k']? = some s ∧ a = ⟨((num ps ⟨(t : Int), (k' : Int)⟩ : Nat) : Int), s.mn⟩) ∨
      (∃ o ∈ os, ∃ (j : Nat) (w : Ref), o.uses[j]? = some ⟨(t : Int), (k : Int)⟩ ∧ Last (o.uses.take j) w ∧ w.tr ≠ (t : Int) ∧ a = ⟨((num ps (relOf ps o.res w) : Nat) : Int), 0⟩) := by
  have hlt := (evAt_num hp hk).2
  have hrow := arcsOf_at (evs ps).length (gAdds ps os) hlt
  have hnum : num ps ⟨(t : Int), (k : Int)⟩ = fst ps t + k := by simp [num]
  obtain ⟨_, _, hf⟩ := checkO_facts hck
  have hm : a ∈ rowG ps os ⟨(t : Int), (k : Int)⟩ ↔ (num ps ⟨(t : Int), (k : Int)⟩, a) ∈ gAdds ps os := by
    unfold rowG arcsAt
    rw [hrow]
    exact mem_arcsOf hrow
  rw [hm]
  unfold gAdds
  rw [List.mem_append]
  constructor
  · rintro (hq | hq)
    · left
      unfold chainAdds at hq
      obtain ⟨⟨p', t'⟩, hp', hq⟩ := List.mem_flatMap.1 hq
      have hp' := List.mem_zipIdx_iff_getElem?.1 hp'
      unfold chainP at hq
      obtain ⟨⟨s', k'⟩, hs', he⟩ := List.mem_map.1 hq
      have hs' := List.mem_zipIdx_iff_getElem?.1 hs'
      injection he with he1 he2
      have hkl := getElem?_lt hs'
      simp only at he1 he2 hp' hs' hkl
      have hinj := fst_inj hp' hp (k := k' + 1) (m := k) (by omega) hk (by rw [← hnum, ← he1]; rfl)
      obtain ⟨rfl, rfl⟩ := hinj
      rw [hp] at hp'; injection hp' with hp'; subst hp'
      exact ⟨k', s', rfl, hs', by rw [← he2]; simp [num]⟩
    · right
      obtain ⟨o, ho, hq⟩ := List.mem_flatMap.1 hq
      obtain ⟨hin, _, hbef⟩ := hf o ho
      unfold orderAdds at hq
      rw [mem_useAdds o.uses [] _ (RelOf.nil ps o.res) (by simpa using hbef) (by simpa using hin)] at hq
      obtain ⟨j, v, w', hv, hiv, hL, hne, rfl⟩ := hq
      have hL : Last (o.uses.take j) w' := by simpa using hL
      obtain ⟨tv, kv, pv, sv, hpv, hsv, _, rfl⟩ := mem_allU.1 (hin v (List.mem_of_getElem? hv))
      have hkl := getElem?_lt hsv
      have hinj := fst_inj hpv hp (k := kv) (m := k) (by omega) hk (by rw [← hnum, hiv]; simp [num])
      obtain ⟨rfl, rfl⟩ := hinj
      exact ⟨o, ho, j, w', hv, hL, hne, rfl⟩
  · rintro (⟨k', s, rfl, hs, rfl⟩ | ⟨o, ho, j, w, hv, hL, hne, rfl⟩)
    · left
      unfold chainAdds
      refine List.mem_flatMap.2 ⟨(p, t), List.mem_zipIdx_iff_getElem?.2 hp, ?_⟩
      unfold chainP
      refine List.mem_map.2 ⟨(s, k'), List.mem_zipIdx_iff_getElem?.2 hs, ?_⟩
      simp [num, Nat.add_assoc]
    · right
      obtain ⟨hin, _, hbef⟩ := hf o ho
      refine List.mem_flatMap.2 ⟨o, ho, ?_⟩
      unfold orderAdds
      rw [mem_useAdds o.uses [] _ (RelOf.nil ps o.res) (by simpa using hbef) (by simpa using hin)]
      exact ⟨j, _, w, hv, rfl, by simpa using hL, hne, rfl⟩
theorem evAt_num' {ps : List (List Stage)} {t k : Nat} {p : List Stage} (hp : ps[t]? = some p) (hk : k ≤ p.length) : evAt ps (((num ps ⟨(t : Int), (k : Int)⟩ : Nat) : Int)).toNat = ⟨(t : Int), (k : Int)⟩ := (evAt_num hp hk).1

/-- a complete line -/
structure Full (ps : List (List Stage)) (os : List Order) (at_ : List Int) (L : List Ref) : Prop where
  nd : L.Nodup
  ev : ∀ u ∈ L, ∃ (t k : Nat) (p : List Stage), ps[t]? = some p ∧ k ≤ p.length ∧ u = ⟨(t : Int), (k : Int)⟩
  notAt : ∀ u ∈ L, doneR at_ u = false
  all : ∀ (t k : Nat) (p : List Stage), ps[t]? = some p → k ≤ p.length → doneR at_ ⟨(t : Int), (k : Int)⟩ = false → (⟨(t : Int), (k : Int)⟩ : Ref) ∈ L
  depR : ∀ (j : Nat) (u : Ref), L[j]? = some u → ∀ a ∈ refArcs ps os, a.to = u → doneR at_ a.frm = true ∨ a.frm ∈ L.take j
  depG : ∀ (j : Nat) (u : Ref), L[j]? = some u → ∀ a ∈ rowG ps os u, doneR at_ (evAt ps a.frm.toNat) = true ∨ evAt ps a.frm.toNat ∈ L.take j
section
variable {ps : List (List Stage)} {os : List Order} {at_ : List Int} {L : List Ref} {n : Int}
/-- seconds never fall along a train -/
theorem Full.mono (h : Full ps os at_ L) (hck : checkO ps os = true) {T : Tab} (hT : ∀ u ∈ L, T u = stepG ps os at_ n T u) {t : Nat} {p : List Stage} (hp : ps[t]? = some p) {k : Nat} (hd : doneR at_ ⟨(t : Int), (k : Int)⟩ = false) : ∀ m : Nat, k + m ≤ p.length → T ⟨(t : Int), (k : Int)⟩ ≤ T ⟨(t : Int), ((k + m : Nat) : Int)⟩
  | 0, _ => Int.le_refl _
  | m + 1, hm => by
    have ih := Full.mono h hck hT hp hd m (by omega)
    refine Int.le_trans ih ?_
    have hd2 : ∀ i : Nat, k ≤ i → doneR at_ ⟨(t : Int), (i : Int)⟩ = false := fun i hi => by
      unfold doneR at hd ⊢
      simp only [decide_eq_false_iff_not] at hd ⊢
      omega
    have hmem := h.all t (k + m + 1) p hp (by omega) (hd2 _ (by omega))
    have hs : p[k + m]? = some p[k + m] := List.getElem?_eq_getElem (by omega)
    have harc := (mem_rowG hck hp (k := k + m + 1) (by omega)).2 (.inl ⟨k + m, p[k + m], rfl, hs, rfl⟩)
    have hval : valG ps at_ n T ⟨(t : Int), ((k + m + 1 : Nat) : Int)⟩ ⟨((num ps ⟨(t : Int), ((k + m : Nat) : Int)⟩ : Nat) : Int), p[k + m].mn⟩ = some (T ⟨(t : Int), ((k + m : Nat) : Int)⟩ + p[k + m].mn) := by
      unfold valG
      rw [evAt_num' hp (by omega), if_pos (hd2 _ (by omega))]
    have hle := mxo_mem (valG ps at_ n T ⟨(t : Int), ((k + m + 1 : Nat) : Int)⟩) (baseS ps n ⟨(t : Int), ((k + m + 1 : Nat) : Int)⟩) (rowG ps os ⟨(t : Int), ((k + m + 1 : Nat) : Int)⟩) harc hval
    have hmn : 0 ≤ p[k + m].mn := by
      have hv := (checkO_facts hck).1
      exact (valid_clk hv hp hs).1.1
    have hfix := hT _ hmem
    unfold stepG at hfix
    rw [show k + (m + 1) = k + m + 1 from rfl, hfix]
    omega
end

/-- no arc leads from an event that has not happened to one that has -/
def AgreeP (ps : List (List Stage)) (os : List Order) (now : List Int) : Prop := ∀ (t k : Nat) (p : List Stage), ps[t]? = some p → k ≤ p.length → (k : Int) ≤ nowAt now t → ∀ a ∈ rowG ps os ⟨(t : Int), (k : Int)⟩, doneR now (evAt ps a.frm.toNat) = true
theorem evAt_tr (ps : List (List Stage)) (i : Nat) : 0 ≤ (evAt ps i).tr := by
  unfold evAt
  cases h : (evs ps)[i]? with
  | none => simp
  | some u =>
    have hm := List.mem_of_getElem? h
    unfold evs at hm
    obtain ⟨q, _, hq⟩ := List.mem_flatMap.1 hm
    obtain ⟨k, _, rfl⟩ := List.mem_map.1 hq
    simp
theorem AgreeP.step {ps : List (List Stage)} {os : List Order} {now : List Int} (hg : Gd ps now) (h : AgreeP ps os now) {t : Nat} (ht : t < ps.length) (hc : canGo ps (arcsOf (evs ps).length (gAdds ps os)) now t = true) : AgreeP ps os (now.set t (nowAt now t + 1)) := by
  have hl : t < now.length := by rw [hg.1]; exact ht
  have hG := hg.2 t ht
  intro u k p hp hk hd a ha
  have hd2 : doneR (now.set t (nowAt now t + 1)) ⟨(u : Int), (k : Int)⟩ = true := by unfold doneR; simpa using hd
  have hdone : doneR now (evAt ps a.frm.toNat) = true := by
    rcases (done_set hl (by simp)).1 hd2 with h1 | h1
    · exact h u k p hp hk (by unfold doneR at h1; simpa using h1) a ha
    · simp only [Ref.mk.injEq] at h1
      have hu : u = t := by omega
      subst hu
      simp only [canGo, Bool.and_eq_true, decide_eq_true_eq, List.all_eq_true] at hc
      refine hc.2 a ?_
      unfold rowG num at ha
      simp only [Int.toNat_natCast] at ha
      rw [show ((fst ps u : Int) + nowAt now u + 1).toNat = fst ps u + k from by omega]
      exact ha
  exact (done_set hl (evAt_tr _ _)).2 (.inl hdone)

theorem nodup_leR {l m : List Ref} (hl : l.Nodup) (h : ∀ x ∈ l, x ∈ m) : l.length ≤ m.length := by
  induction l generalizing m with
  | nil => simp
  | cons a l ih =>
    obtain ⟨ha, hl⟩ := List.nodup_cons.1 hl
    have hm := h a (by simp)
    have := ih (m := m.erase a) hl (fun x hx => by
      have hx' := h x (by simp [hx])
      exact (List.mem_erase_of_ne (by rintro rfl; exact ha hx)).2 hx')
    rw [List.length_erase_of_mem hm] at this
    have := List.length_pos_of_mem hm
    simp; omega
theorem nodup_fullR {l m : List Ref} (hl : l.Nodup) (h : ∀ x ∈ l, x ∈ m) (hlen : m.length ≤ l.length) : ∀ x ∈ m, x ∈ l := by
  intro x hx
  rcases Classical.em (x ∈ l) with h' | h'
  · exact h'
  · have := nodup_leR (l := x :: l) (m := m) (List.nodup_cons.2 ⟨h', hl⟩) (fun y hy => by
      rcases List.mem_cons.1 hy with rfl | hy
      · exact hx
      · exact h y hy)
    simp at this; omega
theorem secAt_some {p : List Stage} {a : Int} (h : 0 ≤ secAt p a) : ∃ (k : Nat) (s : Stage), a = (k : Int) ∧ p[k]? = some s ∧ secAt p a = s.sec := by
  unfold secAt at h ⊢
  by_cases g : a < 0
  · rw [if_pos g] at h; omega
  · rw [if_neg g] at h ⊢
    cases e : p[a.toNat]? with
    | none => rw [e] at h; simp at h
    | some s => exact ⟨a.toNat, s, by omega, e, rfl⟩

theorem checkState_zero {ps : List (List Stage)} {at_ : List Int} (h : checkState ps at_ = 0) : valid ps = true ∧ good ps at_ = true ∧ (heldOf ps at_).Nodup := by
  unfold checkState at h
  by_cases g : (valid ps && good ps at_) = false
  · rw [if_pos g] at h; omega
  · rw [if_neg g] at h
    have g' : (valid ps && good ps at_) = true := by simpa using g
    rw [Bool.and_eq_true] at g'
    by_cases g2 : (heldOf ps at_).Nodup
    · exact ⟨g'.1, g'.2, g2⟩
    · rw [if_neg g2] at h; omega

set_option maxRecDepth 100000 in
set_option maxHeartbeats 1000000 in
theorem TOrders_line (ps : List (List Stage)) (os : List Order) (at_ : List Int) (budget : Int) (A A2 A3 : Option Addr) (c c2 c3 : Nat) (w : World) (h : RPaths w (Old w) [.slice A ps.length c] ps) (h2 : ROrders w (Old w) [.slice A2 os.length c2] os) (h3 : RInts w (Old w) [.slice A3 at_.length c3] at_)
    (hck : checkO ps os = true) (hcs : checkState ps at_ = 0) (hb : 1 ≤ budget ∧ budget ≤ 1048576) (hok : okP ps os at_ = true) :
    Calls Tryz.prog 9 #[.slice A ps.length c, .slice A2 os.length c2, .slice A3 at_.length c3, .int .i64 budget] w fun e w' => ∃ v, e = .returned (.tuple #[v, .int .i64 0, .int .i64 0]) ∧ ROrders w' (Old w') [v] (restP ps os at_) ∧ KeepsAll w w' := by
  have HCK := Lib.hid (Check_any ps os A A2 c c2 w h h2)
  have Q : Hid ((lineP ps os at_).2 = true) := by show _ = _; unfold lineP; rw [hck, (checkState_zero hcs).2.1, hok]; rfl
  have H := Lib.hid h; have H2 := Lib.hid h2; have H3 := Lib.hid h3
  have b1 : decide (budget < 1) = false := by simp; omega
  have b2 : decide (budget > 1048576) = false := by simp; omega
  rw [hck] at HCK
  clear h h2 h3 hok hck
  go_enter Tryz.func9, Tryz.ntmps9
  go_wp2_with fail
  refine HCK.out.mono ?_
  rintro e w1 ⟨rfl, k1⟩
  have K1 := Lib.hid k1; clear k1 HCK
  go_wp2_with fail
  refine (DCheck_any ps at_ A A3 c c3 w1 (K1.out.rdo' RPaths.ok H.out) (K1.out.rdo' RInts.ok H3.out)).mono ?_
  rintro e w2 ⟨rfl, k2⟩
  rw [hcs]
  have K2 := Lib.hid (K1.out.tr k2); clear k2 K1 hcs
  go_wp2_with fail
  refine (Rest_any ps os at_ A A2 A3 c c2 c3 w2 (K2.out.rdo' RPaths.ok H.out) (K2.out.rdo' ROrders.ok H2.out) (K2.out.rdo' RInts.ok H3.out)).mono ?_
  rintro e w3 ⟨v3, rfl, r3, k3⟩
  have K3 := Lib.hid (K2.out.tr k3)
  have R3 := Lib.hid r3
  clear k3 r3 K2
  go_wp2_with fail
  refine (Line_any ps os at_ A A2 A3 c c2 c3 w3 (K3.out.rdo' RPaths.ok H.out) (K3.out.rdo' ROrders.ok H2.out) (K3.out.rdo' RInts.ok H3.out)).mono ?_
  rintro e w4 ⟨v4, rfl, r4, k4⟩
  rw [Q.out]
  have K4 := Lib.hid (K3.out.tr k4)
  have R4 := Lib.hid (k4.rdo' ROrders.ok R3.out)
  clear k4 r4 K3 R3
  go_wp2
  go_ret3
  exact ⟨_, rfl, R4.out, K4.out⟩

set_option maxRecDepth 100000 in
set_option maxHeartbeats 1000000 in
theorem RefReady_any (arcs : List RArc) (now : List Int) (A A2 : Option Addr) (c c2 : Nat) (u : Ref) (w : World) (h : RRArcs w (Old w) [.slice A arcs.length c] arcs) (h2 : RInts w (Old w) [.slice A2 now.length c2] now) (hin : ∀ a ∈ arcs, 0 ≤ a.frm.tr ∧ a.frm.tr < now.length) :
    Calls Tryz.prog 67 #[.slice A arcs.length c, .slice A2 now.length c2, .agg #[.int .i64 u.tr, .int .i64 u.st]] w fun e w' => e = .returned (.bool (rdyR arcs now u)) ∧ KeepsAll w w' := by
  have hc := h.caps
  have hc2 := h2.caps
  have H := Lib.hid h; clear h
  have H2 := Lib.hid h2; clear h2
  have HIN := Lib.hid hin; clear hin
  go_enter Tryz.func67, Tryz.ntmps67
  go_wp2
  generalize hW : World.alloc w _ = W
  have KW : Hid (KeepsAll w W) := by subst hW; exact (Keeps.refl _ _).alloc _
  have BU : Hid (Blk W w.heap.size 69 #[.int .i64 u.tr, .int .i64 u.st]) := by subst hW; exact Blk.new _ _ _
  clear hW
  generalize w.heap.size = zu at *
  go_loopw [11] (fun i wr => ∃ k : Nat, k ≤ arcs.length ∧ i = .int .i64 k ∧ KeepsAll W wr ∧ rdyR (arcs.take k) now u = true) (fun i _ => arcs.length - (intOf i).toNat)
  case atStart => exact ⟨0, Nat.zero_le _, rfl, Keeps.refl _ _, by simp [rdyR]⟩
  case round =>
    obtain ⟨k, hk, rfl, hkr, hall⟩ := hrel
    have KR := Lib.hid hkr; clear hkr
    have HALL := Lib.hid hall; clear hall
    by_cases hlt : k < arcs.length
    · obtain ⟨b, o, a, hbo, hb, ha, m0, m1, m2, m3, m4⟩ := RRArcs.atK (KW.out.tr KR.out) H.out hlt
      subst hbo
      have hai := HIN.out a (List.mem_of_getElem? ha)
      obtain ⟨tf, htf⟩ := Int.eq_ofNat_of_zero_le hai.1
      have htl : tf < now.length := by omega
      obtain ⟨b3, o3, x, hbo, hb3, hx, q0⟩ := RInts.atK (KW.out.tr KR.out) H2.out htl
      subst hbo
      have BUr := BU.out.kept KR.out (by simp)
      have e0 := BUr.cell 0
      have e1 := BUr.cell 1
      simp at e0 e1
      have hzu := BUr.lt
      have HD : Hid (doneR now a.frm = decide (a.frm.st ≤ x)) := by
        show doneR _ _ = _
        unfold doneR
        rw [htf, Int.toNat_natCast, nowAt_of hx]
      have HQ : Hid (rdyR (arcs.take (k + 1)) now u = (rdyR (arcs.take k) now u && !(decide (a.to = u) && !doneR now a.frm))) := by
        show _ = _
        unfold rdyR
        rw [List.take_add_one, ha]
        simp
      have HBAD : Hid ((decide (a.to = u) && !doneR now a.frm) = true → rdyR arcs now u = false) := fun hb => by
        unfold rdyR
        rw [List.all_eq_false]
        exact ⟨a, List.mem_of_getElem? ha, by rw [hb]; simp⟩
      clear ha hx hai BUr
      have hdk : decide ((k : Int) < (arcs.length : Int)) = true := by simp; omega
      rw [htf] at m0
      go_wp2
      generalize hW2 : World.alloc wr _ = W2
      have KW2 : KeepsAll wr W2 := by subst hW2; exact (Keeps.refl _ _).alloc _
      have BA : Blk W2 wr.heap.size 113 #[.int .i64 (tf : Int), .int .i64 a.frm.st, .int .i64 a.to.tr, .int .i64 a.to.st, .int .i64 a.wt] := by subst hW2; exact Blk.new _ _ _
      have a0 := BA.cell 0
      have a1 := BA.cell 1
      have a2 := BA.cell 2
      have a3 := BA.cell 3
      simp at a0 a1 a2 a3
      have hza := BA.lt
      replace e0 := KW2.cellK (p := ⟨zu, 0, none⟩) hzu e0
      replace e1 := KW2.cellK (p := ⟨zu, 1, none⟩) hzu e1
      replace q0 := KW2.cellK (p := ⟨b3, o3 + tf, none⟩) hb3 q0
      have K2 := Lib.hid (KR.out.tr KW2)
      clear hW2 KW2 BA m0 m1 m2 m3 m4 hb hb3 hzu
      generalize wr.heap.size = za at *
      by_cases g1 : a.to = u
      · have g1' : a.to.tr = u.tr := by rw [g1]
        have g1'' : a.to.st = u.st := by rw [g1]
        rw [g1'] at a2
        rw [g1''] at a3
        by_cases g2 : a.frm.st ≤ x
        · have Q : Hid (rdyR (arcs.take (k + 1)) now u = true) := by show _ = _; rw [HQ.out, HALL.out, HD.out, decide_eq_true g2]; simp
          have g2' : decide (x < a.frm.st) = false := by simp; omega
          clear g1 g1' g1'' g2 HQ HD HBAD
          go_quiet (fail)
          go_wp2
          go_roundw
          case rel => exact ⟨k + 1, by omega, by go_num, K2.out.drewN _, Q.out⟩
          case measure => simp [intOf]; omega
        · have Q : Hid (rdyR arcs now u = false) := HBAD.out (by rw [HD.out]; simp [g1]; omega)
          have g2' : decide (x < a.frm.st) = true := by simp; omega
          clear g1 g1' g1'' g2 HQ HD HBAD
          go_quiet (fail)
          go_wp2
          go_ret
          exact ⟨by rw [Q.out]; rfl, (KW.out.tr K2.out).drewN _⟩
      · have Q : Hid (rdyR (arcs.take (k + 1)) now u = true) := by show _ = _; rw [HQ.out, HALL.out]; simp [g1]
        have g1n : ¬ (a.to.tr = u.tr ∧ a.to.st = u.st) := fun h => g1 (Ref.eq_of h.1 h.2)
        clear g1 HQ HD HBAD
        by_cases g3 : a.to.tr = u.tr
        · have g4 : ¬ a.to.st = u.st := fun h => g1n ⟨g3, h⟩
          have g4' : (a.to.st == u.st) = false := by simpa using g4
          rw [g3] at a2
          clear g1n g3
          go_quiet (fail)
          go_wp2
          go_roundw
          case rel => exact ⟨k + 1, by omega, by go_num, K2.out.drewN _, Q.out⟩
          case measure => simp [intOf]; omega
        · have g3' : (a.to.tr == u.tr) = false := by simpa using g3
          clear g1n
          go_quiet (fail)
          go_wp2
          go_roundw
          case rel => exact ⟨k + 1, by omega, by go_num, K2.out.drewN _, Q.out⟩
          case measure => simp [intOf]; omega
    · obtain rfl : k = arcs.length := by omega
      rw [List.take_length] at HALL
      go_wp2
      go_ret
      exact ⟨by rw [HALL.out]; rfl, KW.out.tr KR.out⟩

end Go.Proofs.YtbfgmbakeofcbaaGreat
