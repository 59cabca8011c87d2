/- The reference's LineOf and Seconds at no train; the two contracts for any number of trains. Conditions: as each theorem says. Chapter 37, plain: what Solve's search gives; a later second or a heavier weight never lowers the cost. No program in sight. Contract of the reference's look of chapter 37. Conditions: as each theorem says. Contract of the reference's complete of chapter 37. Conditions: as the theorem says. The reference's search of chapter 37: steps of its state; decide at a complete choice. Conditions: as each theorem says. -/
import Derived.Test.YtilbbpbjhoidhaaE11
import Derived.Test.YtilbbpbjhoidhaaE37
import Derived.Test.YtilbbpbjhoidhaaE30
import Derived.Test.YtilbbpbjhoidhaaE36
import Derived.Deep.CutRange
namespace Go.Proofs.Ytilbbpbjhoidhaa
open Go.RowKit

set_option maxRecDepth 100000 in
set_option maxHeartbeats 1000000 in
theorem LineOf_zero (A A2 A3 : Option Addr) (c c2 c3 : Nat) (w : World) (h3 : RInts w (Old w) [.slice A3 ([] : List Int).length c3] []) :
  Calls Try.prog 25 #[.slice A 0 c, .slice A2 0 c2, .slice A3 0 c3] w fun e w' => e = .returned (.tuple #[.slice none 0 0, .bool true]) ∧ KeepsAll w w' := by
 have H3 := Lib.hid h3; clear h3
 have hd : decide ((0 : Int) < 0) = false := by decide
 go_enter Try.func25, Try.ntmps25
 go_wp2
 go_loopw [8, 19] (fun v i wr => i = .int .i64 0 ∧ v = .int .i64 0 ∧ w = wr) (fun _ _ _ => 0)
 case atStart => exact ⟨rfl, rfl, rfl⟩
 case round =>
  obtain ⟨rfl, rfl, rfl⟩ := hrel
  go_wp2
  go_loopw [36] (fun i wr => i = .int .i64 0 ∧ KeepsAll w wr) (fun _ _ => 0)
  case atStart => exact ⟨rfl, Keeps.refl _ _⟩
  case round =>
   obtain ⟨rfl, hkr⟩ := hrel
   have KR := Lib.hid hkr; clear hkr
   have A4 := Lib.hid (KR.out.rdo' RInts.ok H3.out)
   have hzr := KR.out.size
   go_wp2_with (at_builtin; refine wpList_append_M tyInt RInt.ok RInt.one rfl (.const (.slice none 0 0)) (.tmp 63) rfl (OwnL.nil (base := wr.heap.size) (lo := wr.heap.size)) rfl rfl (S := Old wr) (S2 := fun _ => False) A4.out (fun _ _ h => h) (fun _ h => h.elim) (by simp) (by simp) (Nat.le_refl _) ?_; intro v5 w5 HO5 HK5 HA5; rw [List.nil_append] at HO5; have K5 : KeepsAll wr w5 := HK5.mono (fun _ _ h => (by simp [Value.ownBlock] at h)); have K5' := Lib.hid (KR.out.tr K5); clear HO5 HK5 HA5 K5)
   go_loopw [14] (fun v wr => v = .slice none 0 0 ∧ KeepsAll w wr) (fun _ _ => 0)
   case atStart => exact ⟨rfl, K5'.out⟩
   case round =>
    obtain ⟨rfl, hkr⟩ := hrel
    have KR2 := Lib.hid hkr; clear hkr
    go_wp2
    go_ret2
    exact ⟨rfl, KR2.out⟩

set_option maxRecDepth 100000 in
set_option maxHeartbeats 1000000 in
theorem Seconds_zero (n : Int) (A A2 A3 A4 : Option Addr) (c c2 c3 c4 : Nat) (w : World) :
  Calls Try.prog 27 #[.slice A 0 c, .slice A2 0 c2, .slice A3 0 c3, .slice A4 0 c4, .int .i64 n] w fun e w' => e = .returned (.slice none 0 0) ∧ KeepsAll w w' := by
 have hd : decide ((0 : Int) < 0) = false := by decide
 go_enter Try.func27, Try.ntmps27
 go_wp2
 go_loopw [11, 23] (fun v i wr => i = .int .i64 0 ∧ v = .slice none 0 0 ∧ w = wr) (fun _ _ _ => 0)
 case atStart => exact ⟨rfl, rfl, rfl⟩
 case round =>
  obtain ⟨rfl, rfl, rfl⟩ := hrel
  go_wp2
  go_loopw [58] (fun v wr => v = .int .i64 0 ∧ w = wr) (fun _ _ => 0)
  case atStart => exact ⟨rfl, rfl⟩
  case round =>
   obtain ⟨rfl, rfl⟩ := hrel
   go_wp2
   go_ret
   exact ⟨rfl, by first | exact Keeps.refl _ _ | exact (Keeps.refl _ _).drew | exact (Keeps.refl _ _).drewN _⟩

theorem LineOf_all (ps : List (List Stage)) (arcs : List RArc) (at_ : List Int) (A A2 A3 : Option Addr) (c c2 c3 : Nat) (w : World) (h : RPaths w (Old w) [.slice A ps.length c] ps) (h2 : RRArcs w (Old w) [.slice A2 arcs.length c2] arcs) (h3 : RInts w (Old w) [.slice A3 at_.length c3] at_)
  (hv : valid ps = true) (hg : Gd ps at_) (hin : ∀ a ∈ arcs, (0 ≤ a.frm.tr ∧ a.frm.tr < ps.length) ∧ 0 ≤ a.to.tr ∧ a.to.tr < ps.length) :
  Calls Try.prog 25 #[.slice A ps.length c, .slice A2 arcs.length c2, .slice A3 at_.length c3] w fun e w' => ∃ v, e = .returned (.tuple #[v, .bool (lineR ps arcs at_).2]) ∧ RRefs w' (Old w') [v] (lineR ps arcs at_).1 ∧ KeepsAll w w' := by
 by_cases h1 : 1 ≤ ps.length
 ·exact LineOf_any ps arcs at_ A A2 A3 c c2 c3 w h h2 h3 hv h1 hg hin
 ·obtain rfl : ps = [] := List.eq_nil_of_length_eq_zero (by omega)
  obtain rfl : at_ = [] := List.eq_nil_of_length_eq_zero (by have := hg.1; simpa using this)
  obtain rfl : arcs = [] := by
   cases arcs with
   | nil => rfl
   | cons a l => have := (hin a (by simp)).1; simp at this; omega
  have e : lineR ([] : List (List Stage)) [] [] = ([], true) := by decide
  rw [e]
  refine (LineOf_zero A A2 A3 c c2 c3 w h3).mono ?_
  rintro e w' ⟨rfl, k⟩
  exact ⟨_, rfl, RSlice.mkNil, k⟩

theorem Seconds_freshA (ps : List (List Stage)) (arcs : List RArc) (L : List Ref) (at_ : List Int) (n : Int) (A A2 A3 A4 : Option Addr) (c c2 c3 c4 : Nat) (w : World) (h : RPaths w (Old w) [.slice A ps.length c] ps) (h2 : RRArcs w (Old w) [.slice A2 arcs.length c2] arcs) (h3 : RRefs w (Old w) [.slice A3 L.length c3] L) (h4 : RInts w (Old w) [.slice A4 at_.length c4] at_)
  (hv : valid ps = true) (hg : Gd ps at_) (hn : 0 ≤ n ∧ n ≤ 4194304) (hL : L.length ≤ 650) (hLe : ∀ u ∈ L, ∃ (t k : Nat) (p : List Stage), ps[t]? = some p ∧ k ≤ p.length ∧ u = ⟨(t : Int), (k : Int)⟩)
  (hwt : ∀ a ∈ arcs, 0 ≤ a.wt ∧ a.wt ≤ 4194304) (hend : ∀ a ∈ arcs, ∃ (t k : Nat) (p : List Stage), ps[t]? = some p ∧ k ≤ p.length ∧ a.frm = ⟨(t : Int), (k : Int)⟩) :
  Calls Try.prog 27 #[.slice A ps.length c, .slice A2 arcs.length c2, .slice A3 L.length c3, .slice A4 at_.length c4, .int .i64 n] w fun e w' => ∃ v, e = .returned v ∧ RIntss w' (Fresh w w') [v] (tabOf ps (secs (stepR ps arcs at_ n) (initR at_ n) L)) ∧ KeepsAll w w' := by
 by_cases h1 : 1 ≤ ps.length
 ·exact Seconds_fresh ps arcs L at_ n A A2 A3 A4 c c2 c3 c4 w h h2 h3 h4 hv h1 hg hn hL hLe hwt hend
 ·obtain rfl : ps = [] := List.eq_nil_of_length_eq_zero (by omega)
  obtain rfl : at_ = [] := List.eq_nil_of_length_eq_zero (by have := hg.1; simpa using this)
  obtain rfl : arcs = [] := by
   cases arcs with
   | nil => rfl
   | cons a l => obtain ⟨t, k, p, hp, _⟩ := hend a (by simp); simp at hp
  obtain rfl : L = [] := by
   cases L with
   | nil => rfl
   | cons a l => obtain ⟨t, k, p, hp, _⟩ := hLe a (by simp); simp at hp
  refine (Seconds_zero n A A2 A3 A4 c c2 c3 c4 w).mono ?_
  rintro e w' ⟨rfl, k⟩
  exact ⟨_, rfl, RSlice.mkNil, k⟩

theorem checkP_Gd {p : Pb} (h : checkP p = true) : Gd p.ps p.at_ := by
 have h1 := (checkP_iff.1 h).1
 rw [← good_Gd]
 unfold checkState at h1
 by_cases g : (valid p.ps && good p.ps p.at_) = false
 ·rw [if_pos g] at h1; cases h1
 ·rw [Bool.not_eq_false, Bool.and_eq_true] at g; exact g.2
theorem checkP_wgt {p : Pb} (h : checkP p = true) (t : Nat) : 0 ≤ nowAt p.wgt t := by
 obtain ⟨_, _, _, _, h5, _⟩ := checkP_iff.1 h
 by_cases ht : t < p.wgt.length
 ·exact (h5 _ (nowAt_mem ht)).1
 ·unfold nowAt
  rw [List.getElem?_eq_none (by omega)]
  exact Int.le_refl _
theorem search_ok {p : Pb} (h : checkP p = true) (budget : Nat) : BestOk p (searchD budget p).2 ∧ ((searchD budget p).1 = true → ∀ cs : List Bool, cs.length = (xs p).length → okB p cs = true → ∃ b c, (searchD budget p).2.best = some (b, c) ∧ c ≤ costB p cs) := by
 have hok : okB p [] = true := by
  unfold okB
  have : decs p.ps (xs p) [] = [] := by unfold decs; cases xs p <;> rfl
  rw [this]
  exact okD_nil (checkP_Gd h)
 have := decF_ok (p := p) (checkP_Gd h) (checkP_wgt h) budget (xs p).length [] ⟨0, none⟩ (by simp) hok (by intro b c e; cases e)
 rw [searchD_eq]
 refine ⟨this.ok (by intro b c e; cases e), fun h1 cs hl hk => ?_⟩
 have h2 := this.cov h1 cs hl
 rw [List.nil_append] at h2
 exact h2 hk
theorem base_mono {ps : List (List Stage)} {at_ : List Int} {n n' : Int} (h : n ≤ n') (u : Ref) : baseN ps at_ n u ≤ baseN ps at_ n' u := by
 unfold baseN base2
 have h1 : baseS ps n ⟨(u.tr.toNat : Int), (u.st.toNat : Int)⟩ ≤ baseS ps n' ⟨(u.tr.toNat : Int), (u.st.toNat : Int)⟩ := by
  unfold baseS
  cases ((ps[(⟨(u.tr.toNat : Int), (u.st.toNat : Int)⟩ : Ref).tr.toNat]?).getD [])[(⟨(u.tr.toNat : Int), (u.st.toNat : Int)⟩ : Ref).st.toNat]? with
  | none => exact h
  | some s => simp only [Option.elim_some]; omega
 split <;> omega

theorem costE_tab {p : Pb} (hc : checkP p = true) {T : Tab} (hT : ∀ u, -1 ≤ T u ∧ T u ≤ 4294967296) : costE p (tabOf p.ps T) = costT p T p.ps.length := by
 have hok : ∀ t, t < p.ps.length → enOk p (tabOf p.ps T) t = true := fun t ht => by
  unfold enOk
  rw [tabOf_at T ht]
  simp only [Bool.and_eq_true, decide_eq_true_eq, List.all_eq_true]
  refine ⟨rowOf_len p.ps T t, fun x hx => ?_⟩
  unfold rowOf at hx
  obtain ⟨k, _, rfl⟩ := List.mem_map.1 hx
  unfold secOk
  rw [Bool.and_eq_true, decide_eq_true_eq, decide_eq_true_eq]
  exact hT _
 rw [costE_yes hc (tabOf_len _ _) hok]
 have key : ∀ n, n ≤ p.ps.length → costEn p (tabOf p.ps T) n = costT p T n := by
  intro n
  induction n with
  | zero => intro _; rfl
  | succ n ih =>
   intro hn
   unfold costEn costT
   rw [ih (by omega)]
   have : lastOf p (tabOf p.ps T) n = T ⟨(n : Int), (lenAt p.ps n : Int)⟩ := by
    unfold lastOf
    rw [tabOf_at T (by omega)]
    show ((rowOf p.ps T n)[lenAt p.ps n]?).getD 0 = _
    rw [rowOf_at T (Nat.le_refl _)]
    rfl
   rw [this]
 exact key _ (Nat.le_refl _)
theorem choice_facts {p : Pb} (hc : checkP p = true) {D : List RArc} (hD : DOk p.ps p.at_ D) (hk : okD p.ps p.at_ D = true) :
  tabOf p.ps (secs (stepR p.ps (arcsD p.ps D) p.at_ p.now) (initR p.at_ p.now) (lineR p.ps (arcsD p.ps D) p.at_).1) = tabOf p.ps (secD p D) ∧ costE p (tabOf p.ps (secD p D)) = costD p D ∧ (lineR p.ps (arcsD p.ps D) p.at_).1.length ≤ 650 ∧ ∀ u ∈ (lineR p.ps (arcsD p.ps D) p.at_).1, ∃ (t k : Nat) (q : List Stage), p.ps[t]? = some q ∧ k ≤ q.length ∧ u = ⟨(t : Int), (k : Int)⟩ := by
 have hg := checkP_Gd hc
 have ho := checkP_ok hc
 obtain ⟨_, ht⟩ := topo_of_ok hg hD hk
 have hl := topo_len ho.v ht
 have hs := secS_ref (n := p.now) hD ht
 refine ⟨by rw [hs]; rfl, costE_tab hc (fun u => ?_), hl, fun u hu => ?_⟩
 ·have := secS_bd (L := (lineR p.ps (arcsD p.ps D) p.at_).1) ho.v hD ho.n u
  refine ⟨this.1, Int.le_trans this.2 ?_⟩
  omega
 ·obtain ⟨⟨t, k, q, h1, h2, h3⟩, _⟩ := (ht.mem u).1 hu
  exact ⟨t, k, q, h1, h2, h3⟩

section
variable {P : Program} {l : List Oper} {Q : Exit → Act → World → Prop} {C : World → Prop} {need : Nat → Bool}
theorem lex_nilg {i : Nat} {r : List Nat} {a : Act} {w : World} (o : Oper) (ho : l[i]? = some o) (x : Operand) (hx : o.op = .nilCheck x) (hg : Region.wanted o (yielded l.toArray a.tmps) = true) (ad : Addr) (he : a.eval x = .pointer (some ad))
  (h : wpLex P l.toArray Q C (actAt l) need r (a.put o.dst (.pointer (some ad))) w) : wpLex P l.toArray Q C (actAt l) need (i :: r) a w := by
 have haf : actAt l i = false := by simp [actAt, ho, hx, actOp]
 simp only [wpLex, haf]
 rw [if_neg (by simp)]
 exact ⟨o, _, by simpa using ho, .inl ⟨hg, fun w' _ => exec_nil hx he w'⟩, h⟩
end

set_option maxRecDepth 100000 in
set_option maxHeartbeats 1000000 in
theorem look_any (w0 : World) (rb : Nat) (v : PV) (p : Pb) (Ap : Option Addr) (cp budget : Nat) (w : World) (bs : List Bool) (st : SSt) (h : RDs w0 rb v p Ap cp budget w bs st) (hc : checkP p = true) (hl : bs.length ≤ (xs p).length) :
  Calls Try.prog 42 #[.pointer (some ⟨rb, 0, none⟩)] w fun e w' => ∃ ve c, e = .returned (.tuple #[ve, .int .i64 c, .bool (!goOn p bs st)]) ∧ KeepsAll w w' ∧ (goOn p bs st = true → c = costD p (decs p.ps (xs p) bs) ∧ RIntss w' (Fresh w w') [ve] (entB p bs)) := by
 have hv := (checkP_ok hc).v
 have hg := checkP_Gd hc
 have hD : DOk p.ps p.at_ (decs p.ps (xs p) bs) := decs_ok bs
 obtain ⟨vf, fd, vb, vc, ve0, hb, ho, hbest⟩ := h.b
 have HPB := Lib.hid h.rpb
 have HLT := Lib.hid h.rlt
 have HC := Lib.hid hc
 have HCHO : Hid (Calls Try.prog 72 #[.pointer (some ⟨rb, 0, none⟩)] w fun e w' => ∃ A c, e = .returned (.slice A (arcsD p.ps (decs p.ps (xs p) bs)).length c) ∧ RRArcs w' (Fresh w w') [.slice A (arcsD p.ps (decs p.ps (xs p) bs)).length c] (arcsD p.ps (decs p.ps (xs p) bs)) ∧ KeepsAll w w') := chosen_any w0 rb v p Ap cp budget w bs st h hv hl
 have hends := fun a (ha : a ∈ arcsD p.ps (decs p.ps (xs p) bs)) => arcsD_ends hD ha
 have HIN : Hid (∀ a ∈ arcsD p.ps (decs p.ps (xs p) bs), (0 ≤ a.frm.tr ∧ a.frm.tr < p.ps.length) ∧ 0 ≤ a.to.tr ∧ a.to.tr < p.ps.length) := fun a ha => by
  obtain ⟨⟨t, k, q, q1, _, q3⟩, ⟨t', k', q', q1', _, q3'⟩⟩ := hends a ha
  have := getElem?_lt q1
  have := getElem?_lt q1'
  rw [q3, q3']
  exact ⟨⟨by show (0 : Int) ≤ (t : Int); omega, by show (t : Int) < _; omega⟩, by show (0 : Int) ≤ (t' : Int); omega, by show (t' : Int) < _; omega⟩
 have HLO : Hid (∀ W A c, RPb W (Old W) v p → RRArcs W (Old W) [.slice A (arcsD p.ps (decs p.ps (xs p) bs)).length c] (arcsD p.ps (decs p.ps (xs p) bs)) → Calls Try.prog 25 #[.slice v.A p.ps.length v.c, .slice A (arcsD p.ps (decs p.ps (xs p) bs)).length c, .slice v.A2 p.at_.length v.c2] W fun e w' => ∃ v2, e = .returned (.tuple #[v2, .bool (okD p.ps p.at_ (decs p.ps (xs p) bs))]) ∧ RRefs w' (Old w') [v2] (lineR p.ps (arcsD p.ps (decs p.ps (xs p) bs)) p.at_).1 ∧ KeepsAll W w') := fun W A c hW hA =>
  LineOf_all p.ps (arcsD p.ps (decs p.ps (xs p) bs)) p.at_ v.A A v.A2 v.c c v.c2 W hW.P hA hW.A hv hg HIN.out
 have HSE : Hid (okD p.ps p.at_ (decs p.ps (xs p) bs) = true → ∀ W A A3 c c3, RPb W (Old W) v p → RRArcs W (Old W) [.slice A (arcsD p.ps (decs p.ps (xs p) bs)).length c] (arcsD p.ps (decs p.ps (xs p) bs)) → RRefs W (Old W) [.slice A3 (lineR p.ps (arcsD p.ps (decs p.ps (xs p) bs)) p.at_).1.length c3] (lineR p.ps (arcsD p.ps (decs p.ps (xs p) bs)) p.at_).1 →
   Calls Try.prog 27 #[.slice v.A p.ps.length v.c, .slice A (arcsD p.ps (decs p.ps (xs p) bs)).length c, .slice A3 (lineR p.ps (arcsD p.ps (decs p.ps (xs p) bs)) p.at_).1.length c3, .slice v.A2 p.at_.length v.c2, .int .i64 p.now] W fun e w' => ∃ v3, e = .returned v3 ∧ RIntss w' (Fresh W w') [v3] (entB p bs) ∧ KeepsAll W w') := fun hk W A A3 c c3 hW hA hL => by
  obtain ⟨f1, _, f3, f4⟩ := choice_facts hc hD hk
  have := Seconds_freshA p.ps (arcsD p.ps (decs p.ps (xs p) bs)) (lineR p.ps (arcsD p.ps (decs p.ps (xs p) bs)) p.at_).1 p.at_ p.now v.A A A3 v.A2 v.c c c3 v.c2 W hW.P hA hL hW.A hv hg (checkP_ok hc).n f3 f4 (fun a ha => arcsD_wt hv hD ha) (fun a ha => (hends a ha).1)
  rw [f1] at this
  exact this
 have HCO : Hid (okD p.ps p.at_ (decs p.ps (xs p) bs) = true → ∀ W A c, RPb W (Old W) v p → RIntss W (Old W) [.slice A (entB p bs).length c] (entB p bs) → Calls Try.prog 26 #[.agg #[.slice v.A p.ps.length v.c, .slice v.A2 p.at_.length v.c2, .slice v.A3 p.due.length v.c3, .slice v.A4 p.wgt.length v.c4, .int .i64 p.now], .slice A (entB p bs).length c] W fun e w' => e = .returned (.int .i64 (costD p (decs p.ps (xs p) bs))) ∧ KeepsAll W w') := fun hk W A c hW hE => by
  have := RDspCost_any p v W hW (entB p bs) A c hE
  have e : costE p (entB p bs) = costD p (decs p.ps (xs p) bs) := (choice_facts hc hD hk).2.1
  rw [e] at this
  exact this
 have HGO : Hid (goOn p bs st = (okD p.ps p.at_ (decs p.ps (xs p) bs) && (!fd || decide (costD p (decs p.ps (xs p) bs) < vc)))) := by
  show _ = _
  unfold goOn
  cases e : st.best with
  | none => rw [e] at hbest; have hbest : fd = false := hbest; rw [hbest]; rfl
  | some y => rw [e] at hbest; rw [hbest.1, hbest.2.1]; rfl
 have HB := Lib.hid hb
 clear h hb ho hbest hv hg hD hends hc hl
 go_enter Try.func42, Try.ntmps42
 go_wp2_with fail
 refine HCHO.out.mono ?_
 rintro e w1 ⟨A1, c1, rfl, ha, k1⟩
 have HA1 : Hid (RRArcs w1 (Old w1) [.slice A1 (arcsD p.ps (decs p.ps (xs p) bs)).length c1] (arcsD p.ps (decs p.ps (xs p) bs))) := RRArcs.ok.mono ha (fun _ hb => hb.2) (fun _ _ => rfl)
 have HB1 := Lib.hid (HB.out.kept k1 (by simp))
 have HP1 := Lib.hid (HPB.out.kept k1)
 have K1 := Lib.hid k1
 clear ha k1 HCHO HB HPB
 have q0 := HB1.out.cell 0
 have q1 := HB1.out.cell 1
 simp [rdC] at q0 q1
 go_wp2_with fail
 refine wp_region_lexB (fun w' => ∃ y : Ext w1, w' = y.val) [0, 1, 2, 3, 4, 5, 6, 7, 8, 9, 10, 11, 12, 13, 14, 15, 16] (by kernel_rfl) (by kernel_rfl) ⟨⟨_, (Keeps.refl _ _).drew⟩, rfl⟩ ?_
 have y0 := Ext.cell q0
 have y1 := Ext.cell q1
 iterate 11 (first | (refine lex_q _ rfl rfl rfl ?_; go_big_quiet_step (fail); refine wpQuiet_nil ?_) | (refine lex_nil _ rfl _ rfl rfl _ rfl ?_; go_simp))
 clear y0 y1
 refine lex_a _ rfl rfl true (by kernel_rfl) ?_
 go_wp2_with fail
 have kd : KeepsAll w1 w1.drew := (Keeps.refl _ _).drew
 refine (HLO.out w1.drew A1 c1 (HP1.out.kept kd) (kd.rdo' RRArcs.ok HA1.out)).mono ?_
 rintro e w2 ⟨v2, rfl, hL, k2⟩
 obtain ⟨A2', c2', rfl⟩ := RSlice.form hL
 have K2 := Lib.hid (kd.tr k2)
 have HL2 := Lib.hid hL
 clear k2 kd HLO hL
 go_wp2
 refine ⟨fun _ => ⟨⟨_, K2.out⟩, rfl⟩, ?_⟩
 iterate 5 (refine lex_q _ rfl rfl rfl ?_; go_big_quiet_step (fail); refine wpQuiet_nil ?_)
 simp only [wpLex]
 refine NoPanic.normal ?_
 cases hok : okD p.ps p.at_ (decs p.ps (xs p) bs) with
 | false =>
  have Q : Hid (goOn p bs st = false) := by show _ = _; rw [HGO.out, hok, Bool.false_and]
  have KF := Lib.hid (K1.out.tr K2.out)
  clear hok HSE HCO HGO q0 q1
  go_wp2
  exact bodyPost_ret (v := .tuple #[.slice none 0 0, .int .i64 0, .bool true]) (by simp [results, Try.results42, go_sem]) rfl ⟨_, _, by rw [Q.out]; rfl, KF.out, fun e => by rw [Q.out] at e; cases e⟩
 | true =>
  have HP2 := Lib.hid (HP1.out.kept K2.out)
  have HA2 := Lib.hid (K2.out.rdo' RRArcs.ok HA1.out)
  have HB2 := Lib.hid (HB1.out.kept K2.out (by simp))
  have HS2 := Lib.hid (HSE.out hok)
  have HC2 := Lib.hid (HCO.out hok)
  have HG2 : Hid (goOn p bs st = (!fd || decide (costD p (decs p.ps (xs p) bs) < vc))) := by show _ = _; rw [HGO.out, hok, Bool.true_and]
  clear hok HSE HCO HGO q0 q1 HP1 HA1 HB1
  have q0 := HB2.out.cell 0
  have q1 := HB2.out.cell 1
  have q4 := HB2.out.cell 4
  simp [rdC] at q0 q1 q4
  go_wp2_with fail
  refine wp_region_lex (fun w' => ∃ y : Ext w2, w' = y.val) [0, 1, 2, 3, 4, 5, 6, 7, 8, 9, 10, 11, 12, 13, 14, 15, 16, 17, 18] (by kernel_rfl) (by kernel_rfl) ⟨⟨_, (Keeps.refl _ _).drew⟩, rfl⟩ ?_
  have y0 := Ext.cell q0
  have y1 := Ext.cell q1
  have y4 := Ext.cell q4
  iterate 17 (first | (refine lex_q _ rfl rfl rfl ?_; go_big_quiet_step (fail); refine wpQuiet_nil ?_) | (refine lex_nil _ rfl _ rfl rfl _ rfl ?_; go_simp))
  clear y0 y1 y4
  refine lex_a _ rfl rfl true (by kernel_rfl) ?_
  go_wp2_with fail
  have kd : KeepsAll w2 w2.drew := (Keeps.refl _ _).drew
  refine (HS2.out w2.drew A1 A2' c1 c2' (HP2.out.kept kd) (kd.rdo' RRArcs.ok HA2.out) (kd.rdo' RRefs.ok HL2.out)).mono ?_
  rintro e w3 ⟨v3, rfl, hE, k3⟩
  obtain ⟨A3', c3', rfl⟩ := RSlice.form hE
  have K3 := Lib.hid (kd.tr k3)
  have HE3 := Lib.hid hE
  clear k3 kd HS2 hE HL2
  go_wp2
  refine ⟨fun _ => ⟨⟨_, K3.out⟩, rfl⟩, ?_⟩
  refine lex_q _ rfl rfl rfl ?_; go_big_quiet_step (fail); refine wpQuiet_nil ?_
  simp only [wpLex]
  refine NoPanic.normal ?_
  have HP3 := Lib.hid (HP2.out.kept K3.out)
  have HB3 := Lib.hid (HB2.out.kept K3.out (by simp))
  have HCA : Hid (Calls Try.prog 26 #[.agg #[.slice v.A p.ps.length v.c, .slice v.A2 p.at_.length v.c2, .slice v.A3 p.due.length v.c3, .slice v.A4 p.wgt.length v.c4, .int .i64 p.now], .slice A3' (entB p bs).length c3'] w3 fun e w' => e = .returned (.int .i64 (costD p (decs p.ps (xs p) bs))) ∧ KeepsAll w3 w') := HC2.out w3 A3' c3' HP3.out (RIntss.ok.mono HE3.out (fun _ hb => hb.2) (fun _ _ => rfl))
  have t0 := HB3.out.cell 0
  have t1 := HB3.out.cell 1
  have t2 := HB3.out.cell 2
  have t3 := HB3.out.cell 3
  have t4 := HB3.out.cell 4
  simp [rdC] at t0 t1 t2 t3 t4
  clear q0 q1 q4 HP2 HB2 HC2 HA2
  go_wp2_with fail
  refine HCA.out.mono ?_
  rintro e w4 ⟨rfl, k4⟩
  have HB4 := Lib.hid (HB3.out.kept k4 (by simp))
  have hz23 := K3.out.size
  have HE4 : Hid (RIntss w4 (Fresh w w4) [.slice A3' (entB p bs).length c3'] (entB p bs)) := RIntss.ok.mono HE3.out (fun b hb => ⟨by
   have h1 : w2.heap.size ≤ b := hb.1
   have h2 := K1.out.size
   have h3 := K2.out.size
   omega, Nat.lt_of_lt_of_le hb.2 k4.size⟩) (fun b hb => k4.block b hb.2 (by simp))
  have KF := Lib.hid (K1.out.tr (K2.out.tr (K3.out.tr k4)))
  clear t0 t1 t2 t3 t4 k4 HCA HE3 HB3 HP3
  have r9 := HB4.out.cell 9
  have r11 := HB4.out.cell 11
  simp [rdC] at r9 r11
  obtain ⟨cd, hcd⟩ : ∃ cd, cd = costD p (decs p.ps (xs p) bs) := ⟨_, rfl⟩
  have HCD := Lib.hid hcd
  rw [← hcd] at HG2 ⊢
  clear hcd
  cases fd with
  | false =>
   have Q : Hid (goOn p bs st = true) := by show _ = _; rw [HG2.out]; rfl
   clear HG2
   go_wp2_with fail
   refine wp_region_lexB (fun w' => ∃ y : Ext w4, w' = y.val) [0, 1, 2, 3, 4, 5, 6, 7, 8, 9, 10, 11, 12, 13, 14, 15, 16] (by kernel_rfl) (by kernel_rfl) ⟨⟨_, (Keeps.refl _ _).drew⟩, rfl⟩ ?_
   have y9 := Ext.cell r9
   iterate 7 (first | (refine lex_q _ rfl rfl rfl ?_; go_big_quiet_step (fail); refine wpQuiet_nil ?_) | (refine lex_nil _ rfl _ rfl rfl _ rfl ?_; go_simp))
   iterate 6 (refine lex_skip _ rfl rfl rfl ?_; go_simp)
   clear y9
   iterate 4 (refine lex_q _ rfl rfl rfl ?_; go_big_quiet_step (fail); refine wpQuiet_nil ?_)
   simp only [wpLex]
   refine NoPanic.normal ?_
   go_wp2
   exact bodyPost_ret (v := .tuple #[.slice A3' (entB p bs).length c3', .int .i64 cd, .bool false]) (by simp [results, Try.results42, go_sem]) rfl ⟨_, _, by rw [Q.out]; rfl, KF.out.drew, fun _ => ⟨HCD.out, RIntss.ok.mono HE4.out (fun _ h => h) (fun _ _ => rfl)⟩⟩
  | true =>
   have Q : Hid ((!goOn p bs st) = decide (cd ≥ vc)) := by
    show _ = _
    rw [HG2.out]
    by_cases e : cd < vc
    ·rw [decide_eq_true e, decide_eq_false (show ¬ cd ≥ vc by omega)]; rfl
    ·rw [decide_eq_false e, decide_eq_true (show cd ≥ vc by omega)]; rfl
   clear HG2
   go_wp2_with fail
   refine wp_region_lexB (fun w' => ∃ y : Ext w4, w' = y.val) [0, 1, 2, 3, 4, 5, 6, 7, 8, 9, 10, 11, 12, 13, 14, 15, 16] (by kernel_rfl) (by kernel_rfl) ⟨⟨_, (Keeps.refl _ _).drew⟩, rfl⟩ ?_
   have y9 := Ext.cell r9
   have y11 := Ext.cell r11
   iterate 9 (first | (refine lex_q _ rfl rfl rfl ?_; go_big_quiet_step (fail); refine wpQuiet_nil ?_) | (refine lex_nil _ rfl _ rfl rfl _ rfl ?_; go_simp))
   refine lex_nilg _ rfl _ rfl rfl _ rfl ?_; go_simp
   iterate 3 (refine lex_q _ rfl rfl rfl ?_; go_big_quiet_step (fail); refine wpQuiet_nil ?_)
   clear y9 y11
   iterate 4 (refine lex_q _ rfl rfl rfl ?_; go_big_quiet_step (fail); refine wpQuiet_nil ?_)
   simp only [wpLex]
   refine NoPanic.normal ?_
   go_wp2
   exact bodyPost_ret (v := .tuple #[.slice A3' (entB p bs).length c3', .int .i64 cd, .bool (decide (cd ≥ vc))]) (by simp [results, Try.results42, go_sem]) rfl ⟨_, _, by rw [Q.out], KF.out.drew, fun _ => ⟨HCD.out, RIntss.ok.mono HE4.out (fun _ h => h) (fun _ _ => rfl)⟩⟩

theorem tyBoolR : ElemTy Try.prog 88 4 1 1 := .mk' Try.underlying88 (z := .bool false) (by kernel_rfl) rfl (by omega)
theorem RBool.oneR : Rd.One RBool := fun _ _ es x h u hu => by rw [h] at hu; simp at hu; subst hu; rfl
set_option maxRecDepth 100000 in
set_option maxHeartbeats 1000000 in
theorem RDcomp_any (w : World) (rb : Nat) (v : PV) (p : Pb) (Ap : Option Addr) (cp budget used : Nat) (vf : Value) (fd : Bool) (vb : Value) (vc : Int) (ve0 : Value) (bs : List Bool) (Ae : Option Addr) (ce : Nat) (c : Int) (E : List (List Int))
  (hb : Blk w rb 90 (rdC v p Ap cp budget used vf fd vb vc ve0)) (ho : OwnL 4 1 RBool w (rb + 1) (rb + 1) vf bs) (hE : RIntss w (SBt rb w vf) [.slice Ae E.length ce] E) (hl : bs.length ≤ 100000000) :
  Calls Try.prog 43 #[.pointer (some ⟨rb, 0, none⟩), .slice Ae E.length ce, .int .i64 c] w fun e w' => e = .returned (.tuple #[]) ∧ ∃ vb', Blk w' rb 90 (rdC v p Ap cp budget used vf true vb' c (.slice Ae E.length ce)) ∧ OwnL 4 1 RBool w' (rb + 1) (rb + 1) vf bs ∧ RBools w' (SBt rb w' vf) [vb'] bs ∧ RIntss w' (SBt rb w' vf) [.slice Ae E.length ce] E ∧ Keeps (fun b => b = rb) w w' := by
 obtain ⟨Af, cf, rfl, hcf, hcf2⟩ := ho.form
 have HB := Lib.hid hb
 have HO := Lib.hid ho
 have HE := Lib.hid hE
 have c8 := hb.cell 8
 have c9 := hb.cell 9
 have c10 := hb.cell 10
 have c11 := hb.cell 11
 have c12 := hb.cell 12
 simp [rdC] at c8 c9 c10 c11 c12
 have f9 := hb.frozen 9
 have f10 := hb.frozen 10
 have f11 := hb.frozen 11
 have f12 := hb.frozen 12
 have hz := hb.lt
 clear hb ho hE
 go_enter Try.func43, Try.ntmps43
 go_upto_region 1 with (fail)
 generalize hW1 : World.setCell (World.setCell (World.setCell w _ _) _ _) _ _ = W1
 have hb1 : Blk W1 rb 90 (rdC v p Ap cp budget used (.slice Af bs.length cf) true vb c (.slice Ae E.length ce)) := by subst hW1; exact ((HB.out.set_ 9 _).set_ 11 _).set_ 12 _
 have k1 : Keeps (fun b => b = rb) w W1 := by subst hW1; exact (((Keeps.refl (fun b => b = rb) w).setCell (p := ⟨rb, 9, none⟩) (fun _ => rfl) _).setCell (p := ⟨rb, 11, none⟩) (fun _ => rfl) _).setCell (p := ⟨rb, 12, none⟩) (fun _ => rfl) _
 have HB1 := Lib.hid hb1
 have HK1 := Lib.hid k1
 have HO1 := Lib.hid (HO.out.keepsF RBool.flat k1 (fun b hb e => by have := (HO.out.lt hb).1; have e : b = rb := e; omega))
 have HE1 : Hid (RIntss W1 (SBt rb W1 (.slice Af bs.length cf)) [.slice Ae E.length ce] E) := RIntss.ok.mono HE.out (fun b hb => ⟨hb.1, Nat.lt_of_lt_of_le hb.2.1 k1.size, hb.2.2⟩) (fun b hb => k1.block b hb.2.1 (by have := hb.1; show ¬ b = rb; omega))
 clear hW1 hb1 k1 c8 c9 c10 c11 c12 f9 f10 f11 f12 hz HB HO HE
 have c8 := HB1.out.cell 8
 have c10 := HB1.out.cell 10
 simp [rdC] at c8 c10
 have f10 := HB1.out.frozen 10
 have hz := HB1.out.lt
 have HRF : Hid (RBools W1 (fun b => rb < b ∧ b < W1.heap.size) [.slice Af bs.length cf] bs) := HO1.out.readF RBool.ok RBool.flat (fun b hb => ⟨(HO1.out.lt hb).1, (HO1.out.lt hb).2⟩)
 go_wp2_with (at_builtin; refine wpList_append_M tyBoolR RBool.ok RBool.oneR rfl (.const (.slice none 0 0)) (.tmp 21) rfl (OwnL.nil (base := W1.heap.size) (lo := W1.heap.size)) rfl rfl (S := fun b => rb < b ∧ b < W1.heap.size) (S2 := fun _ => False) HRF.out (fun _ _ h => h) (fun _ h => h.elim) (by simp; omega) (by simp; omega) (Nat.le_refl _) ?_; intro v7 w7 HO7 HK7 HA7; rw [List.nil_append] at HO7; have K7 : KeepsAll W1 w7 := HK7.mono (fun _ _ h => (by simp [Value.ownBlock] at h)); obtain ⟨A7, c7, hv7, hc7, hc77⟩ := HO7.form; subst hv7; have HO7' := Lib.hid HO7; have K7' := Lib.hid K7; have c107 := K7.cellK (p := ⟨rb, 10, none⟩) hz c10; have f107 := (HB1.out.kept K7 (by simp)).frozen 10; clear HO7 HK7 HA7 K7)
 generalize hW8 : World.setCell w7 _ _ = W8
 have hb8 : Blk W8 rb 90 (rdC v p Ap cp budget used (.slice Af bs.length cf) true (.slice A7 bs.length c7) c (.slice Ae E.length ce)) := by subst hW8; exact (HB1.out.kept K7'.out (by simp)).set_ 10 _
 have k8 : Keeps (fun b => b = rb) w7 W8 := by subst hW8; exact (Keeps.refl (fun b => b = rb) w7).setCell (p := ⟨rb, 10, none⟩) (fun _ => rfl) _
 have k18 : Keeps (fun b => b = rb) W1 W8 := (K7'.out.mono (C := fun b => b = rb) (fun _ _ e => e.elim)).trans k8 (fun _ _ e => e)
 have HB8 := Lib.hid hb8
 have HK8 := Lib.hid (HK1.out.trans k18 (fun _ _ e => e))
 have HO8 := Lib.hid (HO1.out.keepsF RBool.flat k18 (fun b hb e => by have := (HO1.out.lt hb).1; have e : b = rb := e; omega))
 have HE8 : Hid (RIntss W8 (SBt rb W8 (.slice Af bs.length cf)) [.slice Ae E.length ce] E) := RIntss.ok.mono HE1.out (fun b hb => ⟨hb.1, Nat.lt_of_lt_of_le hb.2.1 k18.size, hb.2.2⟩) (fun b hb => k18.block b hb.2.1 (by have := hb.1; show ¬ b = rb; omega))
 have HR8 : Hid (RBools W8 (SBt rb W8 (.slice Af bs.length cf)) [.slice A7 bs.length c7] bs) := by
  have h1 := HO7'.out.keepsF RBool.flat k8 (fun b hb e => by have := (HO7'.out.lt hb).1; have e : b = rb := e; omega)
  refine h1.readF RBool.ok RBool.flat (fun b hb => ?_)
  have h2 := (h1.lt hb)
  refine ⟨by omega, h2.2, fun e => ?_⟩
  have := (HO1.out.lt e).2
  omega
 clear hW8 hb8 k8 k18 HO7' K7' c107 f107 HB1 HK1 HO1 HE1 c8 c10 f10 HRF
 go_wp2
 refine bodyPost_end (results_none rfl _ _ _) rfl ?_
 exact ⟨rfl, _, HB8.out, HO8.out, HR8.out, HE8.out, HK8.out⟩

section
variable {w0 w w' w9 : World} {rb : Nat} {v : PV} {p : Pb} {Ap : Option Addr} {cp budget : Nat} {bs : List Bool} {st : SSt}
theorem RDs.step (h : RDs w0 rb v p Ap cp budget w bs st) : RDs w0 rb v p Ap cp budget (w.setCell ⟨rb, 7, none⟩ (.int .i64 ((st.steps : Int) + 1))) bs ⟨st.steps + 1, st.best⟩ := by
 obtain ⟨vf, fd, vb, vc, ve, h1, h2, h3⟩ := h.b
 have k : Keeps (fun b => b = rb) w (w.setCell ⟨rb, 7, none⟩ (.int .i64 ((st.steps : Int) + 1))) := (Keeps.refl (fun b => b = rb) w).setCell (p := ⟨rb, 7, none⟩) (fun _ => rfl) _
 have hz := h.rlt
 have hlo := h.lo
 refine ⟨h.k.trans k (fun b hb e => by have e : b = rb := e; omega), h.P, h.lo, RPrs.ok.mono h.pr (fun _ hb => hb) (fun b hb => k.block b (by have : b < rb := hb; omega) (by have : b < rb := hb; show ¬ b = rb; omega)), vf, fd, vb, vc, ve, ?_, h2.keepsF RBool.flat k (fun b hb e => by have := (h2.lt hb).1; have e : b = rb := e; omega), h3.mono (fun b hb => ⟨hb.1, Nat.lt_of_lt_of_le hb.2.1 k.size, hb.2.2⟩) (fun b hb => k.block b hb.2.1 (by have := hb.1; show ¬ b = rb; omega))⟩
 have := h1.set_ 7 (.int .i64 ((st.steps : Int) + 1))
 have e : (rdC v p Ap cp budget st.steps vf fd vb vc ve).setIfInBounds 7 (.int .i64 ((st.steps : Int) + 1)) = rdC v p Ap cp budget (st.steps + 1) vf fd vb vc ve := by
  simp [rdC]
 rw [e] at this
 exact this
theorem RDs.lay {cs : List Bool} {vf v9 : Value} {fd : Bool} {vb : Value} {vc : Int} {ve : Value} (h : RDs w0 rb v p Ap cp budget w bs st) (hb : Blk w rb 90 (rdC v p Ap cp budget st.steps vf fd vb vc ve)) (ho : OwnL 4 1 RBool w (rb + 1) (rb + 1) vf bs) (hbest : RBest w (SBt rb w vf) p st.best fd vb vc ve)
  (ho9 : OwnL 4 1 RBool w9 (rb + 1) (rb + 1) v9 cs) (hk : Keeps (fun b => vf.ownBlock = some b) w w9) (hn : v9.ownBlock = vf.ownBlock ∨ ∃ z, v9.ownBlock = some z ∧ w.heap.size ≤ z) : RDs w0 rb v p Ap cp budget (w9.setCell ⟨rb, 8, none⟩ v9) cs st := by
 have hz := h.rlt
 have hlo := h.lo
 have hL : ∀ b, vf.ownBlock = some b → rb + 1 ≤ b := fun b hb => (ho.lt hb).1
 have k1 : Keeps (fun b => b = rb) w9 (w9.setCell ⟨rb, 8, none⟩ v9) := (Keeps.refl (fun b => b = rb) w9).setCell (p := ⟨rb, 8, none⟩) (fun _ => rfl) _
 have k : Keeps (fun b => vf.ownBlock = some b ∨ b = rb) w (w9.setCell ⟨rb, 8, none⟩ v9) := (hk.mono (C := fun b => vf.ownBlock = some b ∨ b = rb) (fun _ _ e => .inl e)).trans k1 (fun _ _ e => .inr e)
 refine ⟨h.k.trans k (fun b hb e => ?_), h.P, h.lo, RPrs.ok.mono h.pr (fun _ hb => hb) (fun b hb => k.block b (by have : b < rb := hb; omega) ?_), v9, fd, vb, vc, ve, ?_, ho9.keepsF RBool.flat k1 (fun b hb e => by have := (ho9.lt hb).1; have e : b = rb := e; omega), hbest.mono (fun b hb => ⟨hb.1, Nat.lt_of_lt_of_le hb.2.1 k.size, fun e => ?_⟩) (fun b hb => k.block b hb.2.1 ?_)⟩
 ·rcases e with e | e
  ·have := hL b e; omega
  ·omega
 ·have hb' : b < rb := hb
  rintro (e | e)
  ·have := hL b e; omega
  ·omega
 ·have := (hb.kept hk (fun e => by have := hL rb e; omega)).set_ 8 v9
  have e : (rdC v p Ap cp budget st.steps vf fd vb vc ve).setIfInBounds 8 v9 = rdC v p Ap cp budget st.steps v9 fd vb vc ve := by simp [rdC]
  rw [e] at this
  exact this
 ·rcases hn with hn | ⟨z, hn, hz⟩
  ·exact hb.2.2 (by rw [← hn]; exact e)
  ·rw [hn] at e
   injection e with e
   have := hb.2.1
   omega
 ·rintro (e | e)
  ·exact hb.2.2 e
  ·have := hb.1; omega
theorem RDs.comp {vf : Value} {fd : Bool} {vb : Value} {vc : Int} {ve vb' ve' : Value} {c : Int} {used : Nat} (h : RDs w0 rb v p Ap cp budget w bs st) (_hb : Blk w rb 90 (rdC v p Ap cp budget st.steps vf fd vb vc ve)) (hu : used = st.steps) (k : Keeps (fun b => b = rb) w w')
  (hb' : Blk w' rb 90 (rdC v p Ap cp budget used vf true vb' c ve')) (ho' : OwnL 4 1 RBool w' (rb + 1) (rb + 1) vf bs) (h1 : RBools w' (SBt rb w' vf) [vb'] bs) (h2 : RIntss w' (SBt rb w' vf) [ve'] (entB p bs)) : RDs w0 rb v p Ap cp budget w' bs ⟨st.steps, some (bs, c)⟩ := by
 have hz := h.rlt
 have hlo := h.lo
 subst hu
 exact ⟨h.k.trans k (fun b hb e => by have e : b = rb := e; omega), h.P, h.lo, RPrs.ok.mono h.pr (fun _ hb => hb) (fun b hb => k.block b (by have : b < rb := hb; omega) (by have : b < rb := hb; show ¬ b = rb; omega)), vf, true, vb', c, ve', hb', ho', rfl, rfl, h1, h2⟩
end
def RDPost (w0 : World) (rb : Nat) (v : PV) (p : Pb) (Ap : Option Addr) (cp budget : Nat) (bs : List Bool) (r : Bool × SSt) (e : Ending) (w' : World) : Prop :=
 e = .returned (.bool r.1) ∧ KeepsAll w0 w' ∧ (r.1 = true → RDs w0 rb v p Ap cp budget w' bs r.2 ∧ r.2.steps ≤ budget)

set_option maxRecDepth 100000 in
set_option maxHeartbeats 1000000 in
theorem rdecide_leaf (w0 : World) (rb : Nat) (v : PV) (p : Pb) (Ap : Option Addr) (cp budget : Nat) (w : World) (bs : List Bool) (st : SSt) (h : RDs w0 rb v p Ap cp budget w bs st) (hl : bs.length = (xs p).length) :
  Calls Try.prog 44 #[.pointer (some ⟨rb, 0, none⟩)] w fun e w' => e = .returned (.bool true) ∧ KeepsAll w w' := by
 obtain ⟨vf, fd, vb, vc, ve, hb, ho, _⟩ := h.b
 obtain ⟨Af, cf, rfl, hcf, hcf2⟩ := ho.form
 have q5 := hb.cell 5
 have q8 := hb.cell 8
 simp [rdC] at q5 q8
 rw [← hl] at q5
 clear h hb ho
 go_enter Try.func44, Try.ntmps44
 go_wp2_with fail
 refine wp_region_lexB (fun w' => ∃ y : Ext w, w' = y.val) [0, 1, 2, 3, 4, 5, 6, 7, 8, 9, 10] (by kernel_rfl) (by kernel_rfl) ⟨⟨_, (Keeps.refl _ _).drew⟩, rfl⟩ ?_
 have y5 := Ext.cell q5
 have y8 := Ext.cell q8
 iterate 11 (first | (refine lex_q _ rfl rfl rfl ?_; go_big_quiet_step (fail); refine wpQuiet_nil ?_) | (refine lex_nil _ rfl _ rfl rfl _ rfl ?_; go_simp))
 clear y5 y8
 simp only [wpLex]
 refine NoPanic.normal ?_
 go_wp2
 go_ret
 exact ⟨rfl, (Keeps.refl _ _).drew⟩

end Go.Proofs.Ytilbbpbjhoidhaa
