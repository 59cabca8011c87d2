/- The reference's LineOf and Seconds at no train; the two contracts for any number of trains. Conditions: as each theorem says. Contract of the reference's look of chapter 37. Conditions: as each theorem says. Chapter 37, plain: what Solve returns is what Verify accepts. No program in sight. Contract of the reference's sameLists of chapter 37. Conditions: as the theorem says. Contract of the reference's Arcs for orders of any uses that the paths have. Conditions: as the theorem says. Plain: what orders of open uses give to the reference's Arcs and LineOf. No program in sight. -/
import Derived.Test.YtilbbpbjhoidhaaV13
import Derived.Test.YtilbbpbjhoidhaaV41
import Derived.Test.YtilbbpbjhoidhaaV40
import Derived.Test.YtilbbpbjhoidhaaV39
import Derived.Test.YtilbbpbjhoidhaaV33
import Derived.Test.YtilbbpbjhoidhaaV05
import Derived.Test.YtilbbpbjhoidhaaV06
import Derived.Deep.Cut
import Derived.Test.YtilbbpbjhoidhaaV12
import Derived.Test.YtilbbpbjhoidhaaV08
import Derived.Test.YtilbbpbjhoidhaaV17
import Derived.Test.YtilbbpbjhoidhaaV35
namespace Go.Proofs.Ytilbbpbjhoidhaa
open Go.RowKit

set_option maxRecDepth 100000 in
set_option maxHeartbeats 1000000 in
theorem LineOf_zero (A A2 A3 : Option Addr) (c c2 c3 : Nat) (w : World) (h3 : RInts w (Old w) [.slice A3 ([] : List Int).length c3] []) :
  Calls Try.prog 25 #[.slice A 0 c, .slice A2 0 c2, .slice A3 0 c3] w fun e w' => e = .returned (.tuple #[.slice none 0 0, .bool true]) ∧ KeepsAll w w' := by
 have H3 := Lib.hid h3; clear h3
 have hd : decide ((0 : Int) < 0) = false := by decide
 go_enter Try.func25, Try.ntmps25
 go_wp2
 go_loopw [8, 19] (fun v i wr => i = .int .i64 0 ∧ v = .int .i64 0 ∧ w = wr) (fun _ _ _ => 0)
 case atStart => exact ⟨rfl, rfl, rfl⟩
 case round =>
  obtain ⟨rfl, rfl, rfl⟩ := hrel
  go_wp2
  go_loopw [36] (fun i wr => i = .int .i64 0 ∧ KeepsAll w wr) (fun _ _ => 0)
  case atStart => exact ⟨rfl, Keeps.refl _ _⟩
  case round =>
   obtain ⟨rfl, hkr⟩ := hrel
   have KR := Lib.hid hkr; clear hkr
   have A4 := Lib.hid (KR.out.rdo' RInts.ok H3.out)
   have hzr := KR.out.size
   go_wp2_with (at_builtin; refine wpList_append_M tyInt RInt.ok RInt.one rfl (.const (.slice none 0 0)) (.tmp 63) rfl (OwnL.nil (base := wr.heap.size) (lo := wr.heap.size)) rfl rfl (S := Old wr) (S2 := fun _ => False) A4.out (fun _ _ h => h) (fun _ h => h.elim) (by simp) (by simp) (Nat.le_refl _) ?_; intro v5 w5 HO5 HK5 HA5; rw [List.nil_append] at HO5; have K5 : KeepsAll wr w5 := HK5.mono (fun _ _ h => (by simp [Value.ownBlock] at h)); have K5' := Lib.hid (KR.out.tr K5); clear HO5 HK5 HA5 K5)
   go_loopw [14] (fun v wr => v = .slice none 0 0 ∧ KeepsAll w wr) (fun _ _ => 0)
   case atStart => exact ⟨rfl, K5'.out⟩
   case round =>
    obtain ⟨rfl, hkr⟩ := hrel
    have KR2 := Lib.hid hkr; clear hkr
    go_wp2
    go_ret2
    exact ⟨rfl, KR2.out⟩

set_option maxRecDepth 100000 in
set_option maxHeartbeats 1000000 in
theorem Seconds_zero (n : Int) (A A2 A3 A4 : Option Addr) (c c2 c3 c4 : Nat) (w : World) :
  Calls Try.prog 27 #[.slice A 0 c, .slice A2 0 c2, .slice A3 0 c3, .slice A4 0 c4, .int .i64 n] w fun e w' => e = .returned (.slice none 0 0) ∧ KeepsAll w w' := by
 have hd : decide ((0 : Int) < 0) = false := by decide
 go_enter Try.func27, Try.ntmps27
 go_wp2
 go_loopw [11, 23] (fun v i wr => i = .int .i64 0 ∧ v = .slice none 0 0 ∧ w = wr) (fun _ _ _ => 0)
 case atStart => exact ⟨rfl, rfl, rfl⟩
 case round =>
  obtain ⟨rfl, rfl, rfl⟩ := hrel
  go_wp2
  go_loopw [58] (fun v wr => v = .int .i64 0 ∧ w = wr) (fun _ _ => 0)
  case atStart => exact ⟨rfl, rfl⟩
  case round =>
   obtain ⟨rfl, rfl⟩ := hrel
   go_wp2
   go_ret
   exact ⟨rfl, by first | exact Keeps.refl _ _ | exact (Keeps.refl _ _).drew | exact (Keeps.refl _ _).drewN _⟩

theorem LineOf_all (ps : List (List Stage)) (arcs : List RArc) (at_ : List Int) (A A2 A3 : Option Addr) (c c2 c3 : Nat) (w : World) (h : RPaths w (Old w) [.slice A ps.length c] ps) (h2 : RRArcs w (Old w) [.slice A2 arcs.length c2] arcs) (h3 : RInts w (Old w) [.slice A3 at_.length c3] at_)
  (hv : valid ps = true) (hg : Gd ps at_) (hin : ∀ a ∈ arcs, (0 ≤ a.frm.tr ∧ a.frm.tr < ps.length) ∧ 0 ≤ a.to.tr ∧ a.to.tr < ps.length) :
  Calls Try.prog 25 #[.slice A ps.length c, .slice A2 arcs.length c2, .slice A3 at_.length c3] w fun e w' => ∃ v, e = .returned (.tuple #[v, .bool (lineR ps arcs at_).2]) ∧ RRefs w' (Old w') [v] (lineR ps arcs at_).1 ∧ KeepsAll w w' := by
 by_cases h1 : 1 ≤ ps.length
 ·exact LineOf_any ps arcs at_ A A2 A3 c c2 c3 w h h2 h3 hv h1 hg hin
 ·obtain rfl : ps = [] := List.eq_nil_of_length_eq_zero (by omega)
  obtain rfl : at_ = [] := List.eq_nil_of_length_eq_zero (by have := hg.1; simpa using this)
  obtain rfl : arcs = [] := by
   cases arcs with
   | nil => rfl
   | cons a l => have := (hin a (by simp)).1; simp at this; omega
  have e : lineR ([] : List (List Stage)) [] [] = ([], true) := by decide
  rw [e]
  refine (LineOf_zero A A2 A3 c c2 c3 w h3).mono ?_
  rintro e w' ⟨rfl, k⟩
  exact ⟨_, rfl, RSlice.mkNil, k⟩

theorem Seconds_freshA (ps : List (List Stage)) (arcs : List RArc) (L : List Ref) (at_ : List Int) (n : Int) (A A2 A3 A4 : Option Addr) (c c2 c3 c4 : Nat) (w : World) (h : RPaths w (Old w) [.slice A ps.length c] ps) (h2 : RRArcs w (Old w) [.slice A2 arcs.length c2] arcs) (h3 : RRefs w (Old w) [.slice A3 L.length c3] L) (h4 : RInts w (Old w) [.slice A4 at_.length c4] at_)
  (hv : valid ps = true) (hg : Gd ps at_) (hn : 0 ≤ n ∧ n ≤ 4194304) (hL : L.length ≤ 650) (hLe : ∀ u ∈ L, ∃ (t k : Nat) (p : List Stage), ps[t]? = some p ∧ k ≤ p.length ∧ u = ⟨(t : Int), (k : Int)⟩)
  (hwt : ∀ a ∈ arcs, 0 ≤ a.wt ∧ a.wt ≤ 4194304) (hend : ∀ a ∈ arcs, ∃ (t k : Nat) (p : List Stage), ps[t]? = some p ∧ k ≤ p.length ∧ a.frm = ⟨(t : Int), (k : Int)⟩) :
  Calls Try.prog 27 #[.slice A ps.length c, .slice A2 arcs.length c2, .slice A3 L.length c3, .slice A4 at_.length c4, .int .i64 n] w fun e w' => ∃ v, e = .returned v ∧ RIntss w' (Fresh w w') [v] (tabOf ps (secs (stepR ps arcs at_ n) (initR at_ n) L)) ∧ KeepsAll w w' := by
 by_cases h1 : 1 ≤ ps.length
 ·exact Seconds_fresh ps arcs L at_ n A A2 A3 A4 c c2 c3 c4 w h h2 h3 h4 hv h1 hg hn hL hLe hwt hend
 ·obtain rfl : ps = [] := List.eq_nil_of_length_eq_zero (by omega)
  obtain rfl : at_ = [] := List.eq_nil_of_length_eq_zero (by have := hg.1; simpa using this)
  obtain rfl : arcs = [] := by
   cases arcs with
   | nil => rfl
   | cons a l => obtain ⟨t, k, p, hp, _⟩ := hend a (by simp); simp at hp
  obtain rfl : L = [] := by
   cases L with
   | nil => rfl
   | cons a l => obtain ⟨t, k, p, hp, _⟩ := hLe a (by simp); simp at hp
  refine (Seconds_zero n A A2 A3 A4 c c2 c3 c4 w).mono ?_
  rintro e w' ⟨rfl, k⟩
  exact ⟨_, rfl, RSlice.mkNil, k⟩

theorem costE_tab {p : Pb} (hc : checkP p = true) {T : Tab} (hT : ∀ u, -1 ≤ T u ∧ T u ≤ 4294967296) : costE p (tabOf p.ps T) = costT p T p.ps.length := by
 have hok : ∀ t, t < p.ps.length → enOk p (tabOf p.ps T) t = true := fun t ht => by
  unfold enOk
  rw [tabOf_at T ht]
  simp only [Bool.and_eq_true, decide_eq_true_eq, List.all_eq_true]
  refine ⟨rowOf_len p.ps T t, fun x hx => ?_⟩
  unfold rowOf at hx
  obtain ⟨k, _, rfl⟩ := List.mem_map.1 hx
  unfold secOk
  rw [Bool.and_eq_true, decide_eq_true_eq, decide_eq_true_eq]
  exact hT _
 rw [costE_yes hc (tabOf_len _ _) hok]
 have key : ∀ n, n ≤ p.ps.length → costEn p (tabOf p.ps T) n = costT p T n := by
  intro n
  induction n with
  | zero => intro _; rfl
  | succ n ih =>
   intro hn
   unfold costEn costT
   rw [ih (by omega)]
   have : lastOf p (tabOf p.ps T) n = T ⟨(n : Int), (lenAt p.ps n : Int)⟩ := by
    unfold lastOf
    rw [tabOf_at T (by omega)]
    show ((rowOf p.ps T n)[lenAt p.ps n]?).getD 0 = _
    rw [rowOf_at T (Nat.le_refl _)]
    rfl
   rw [this]
 exact key _ (Nat.le_refl _)
theorem choice_facts {p : Pb} (hc : checkP p = true) {D : List RArc} (hD : DOk p.ps p.at_ D) (hk : okD p.ps p.at_ D = true) :
  tabOf p.ps (secs (stepR p.ps (arcsD p.ps D) p.at_ p.now) (initR p.at_ p.now) (lineR p.ps (arcsD p.ps D) p.at_).1) = tabOf p.ps (secD p D) ∧ costE p (tabOf p.ps (secD p D)) = costD p D ∧ (lineR p.ps (arcsD p.ps D) p.at_).1.length ≤ 650 ∧ ∀ u ∈ (lineR p.ps (arcsD p.ps D) p.at_).1, ∃ (t k : Nat) (q : List Stage), p.ps[t]? = some q ∧ k ≤ q.length ∧ u = ⟨(t : Int), (k : Int)⟩ := by
 have hg := checkP_Gd hc
 have ho := checkP_ok hc
 obtain ⟨_, ht⟩ := topo_of_ok hg hD hk
 have hl := topo_len ho.v ht
 have hs := secS_ref (n := p.now) hD ht
 refine ⟨by rw [hs]; rfl, costE_tab hc (fun u => ?_), hl, fun u hu => ?_⟩
 ·have := secS_bd (L := (lineR p.ps (arcsD p.ps D) p.at_).1) ho.v hD ho.n u
  refine ⟨this.1, Int.le_trans this.2 ?_⟩
  omega
 ·obtain ⟨⟨t, k, q, h1, h2, h3⟩, _⟩ := (ht.mem u).1 hu
  exact ⟨t, k, q, h1, h2, h3⟩

section
variable {P : Program} {l : List Oper} {Q : Exit → Act → World → Prop} {C : World → Prop} {need : Nat → Bool}
end

theorem ordL_res (ps : List (List Stage)) (at_ : List Int) (T : LTab) : ∀ n, (ordL ps at_ T n).map (·.res) = openTo ps at_ n
 | 0 => rfl
 | n + 1 => by
  rw [ordL, openTo, List.map_append, ordL_res ps at_ T n]
  by_cases e : openA ps at_ (n : Int) = []
  ·rw [if_pos e, if_pos (by rw [e]; rfl)]; rfl
  ·rw [if_neg e, if_neg (fun h => e (List.length_eq_zero_iff.1 h))]; rfl
theorem mem_ordL {ps : List (List Stage)} {at_ : List Int} {T : LTab} {o : Order} : ∀ n : Nat, o ∈ ordL ps at_ T n ↔ ∃ r : Nat, r < n ∧ ¬ openA ps at_ (r : Int) = [] ∧ o = ⟨(r : Int), sortB (fun u v => decide (cmpL ps at_ T (r : Int) u v < 0)) (openA ps at_ (r : Int))⟩
 | 0 => by simp [ordL]
 | n + 1 => by
  rw [ordL, List.mem_append, mem_ordL n]
  constructor
  ·rintro (⟨r, h1, h2, h3⟩ | h)
   ·exact ⟨r, by omega, h2, h3⟩
   ·by_cases e : openA ps at_ (n : Int) = []
    ·rw [if_pos (by rw [e]; rfl)] at h; simp at h
    ·rw [if_neg (fun h => e (List.length_eq_zero_iff.1 h))] at h
     exact ⟨n, by omega, e, by simpa using h⟩
  ·rintro ⟨r, h1, h2, h3⟩
   by_cases e : r = n
   ·subst e
    right
    rw [if_neg (fun h => h2 (List.length_eq_zero_iff.1 h)), h3]
    simp
   ·exact .inl ⟨r, by omega, h2, h3⟩
section
variable {p : Pb} {bs : List Bool}
def sortD (p : Pb) (bs : List Bool) (r : Int) : List Ref := sortB (precD p.ps (decs p.ps (xs p) bs) r) (openA p.ps p.at_ r)
structure SoF (p : Pb) (bs : List Bool) (r : Int) : Prop where
 eq : sortB (fun u v => decide (cmpL p.ps p.at_ (labD p.ps p.at_ p.now (decs p.ps (xs p) bs)) r u v < 0)) (openA p.ps p.at_ r) = sortD p bs r
 tot : Tot (precD p.ps (decs p.ps (xs p) bs) r) (openA p.ps p.at_ r)
 pw : (sortD p bs r).Pairwise fun a b => precD p.ps (decs p.ps (xs p) bs) r a b = true
 perm : (sortD p bs r).Perm (openA p.ps p.at_ r)
theorem soF (hc : checkP p = true) (hm : psMade p.ps) (hl : bs.length = (xs p).length) (hk : okB p bs = true) {r : Nat} (hr : r < 144) : SoF p bs (r : Int) := by
 have hg := checkP_Gd hc
 have hv := psMade.valid hm
 have hk' : okD p.ps p.at_ (decs p.ps (xs p) bs) = true := hk
 obtain ⟨ho, ht⟩ := topo_of_ok hg (decs_ok bs) hk'
 have hd : Dec p.ps p.at_ (decs p.ps (xs p) bs) (r : Int) (openA p.ps p.at_ (r : Int)) := made_dec (psMade.valid hm) hl hr
 have hlab : labD p.ps p.at_ p.now (decs p.ps (xs p) bs) = labS p.ps p.at_ p.now (decs p.ps (xs p) bs) (lineR p.ps (arcsD p.ps (decs p.ps (xs p) bs)) p.at_).1 := rfl
 have ht : Topo p.ps p.at_ (decs p.ps (xs p) bs) (lineR p.ps (arcsD p.ps (decs p.ps (xs p) bs)) p.at_).1 := ht
 have ho : ∀ a ∈ decs p.ps (xs p) bs, doneR p.at_ a.to = false := ho
 have hT : Tot (precD p.ps (decs p.ps (xs p) bs) (r : Int)) (openA p.ps p.at_ (r : Int)) := prec_tot ht ho hd
 obtain ⟨hs, hp⟩ := sortB_sorted hT hd.nd
 exact ⟨by rw [hlab]; exact sortB_congr (fun u hu v hv' => prec_lab (n := p.now) hv ht ho hd hu hv'), hT, hs, hp⟩
theorem mem_ordB (hc : checkP p = true) (hm : psMade p.ps) (hl : bs.length = (xs p).length) (hk : okB p bs = true) {o : Order} : o ∈ ordB p bs ↔ ∃ r : Nat, r < 144 ∧ ¬ openA p.ps p.at_ (r : Int) = [] ∧ o = ⟨(r : Int), sortD p bs (r : Int)⟩ := by
 unfold ordB
 rw [mem_ordL]
 constructor
 ·rintro ⟨r, h1, h2, h3⟩
  exact ⟨r, h1, h2, by rw [h3, (soF hc hm hl hk h1).eq]⟩
 ·rintro ⟨r, h1, h2, h3⟩
  exact ⟨r, h1, h2, by rw [h3, (soF hc hm hl hk h1).eq]⟩
theorem SoF.before {r : Int} (h : SoF p bs r) : (sortD p bs r).Pairwise Before := h.pw.imp fun {a b} hab e => by
 unfold precD at hab
 rw [if_pos e] at hab
 simpa using hab
theorem sol_okS (hc : checkP p = true) (hm : psMade p.ps) (hl : bs.length = (xs p).length) (hk : okB p bs = true) : okS p.ps p.at_ (ordB p bs) = true := by
 rw [okS_iff]
 refine ⟨ordL_res _ _ _ _, fun o ho => ?_⟩
 obtain ⟨r, h1, _, rfl⟩ := (mem_ordB hc hm hl hk).1 ho
 have hs := soF hc hm hl hk h1
 exact exactly_before.2 ⟨hs.perm.length_eq, fun u hu => hs.perm.mem_iff.1 hu, hs.before⟩
theorem sol_arcs (hc : checkP p = true) (hm : psMade p.ps) (hl : bs.length = (xs p).length) (hk : okB p bs = true) (a : RArc) : a ∈ fulS p.ps (ordB p bs) ↔ a ∈ decs p.ps (xs p) bs := by
 rw [mem_fulS]
 constructor
 ·rintro ⟨o, ho, ha⟩
  obtain ⟨r, h1, _, rfl⟩ := (mem_ordB hc hm hl hk).1 ho
  obtain ⟨j, v, u, g1, g2, g3, rfl⟩ := mem_orderR.1 ha
  have hs := soF hc hm hl hk h1
  have h2 : precD p.ps (decs p.ps (xs p) bs) (r : Int) u v = true := by
   obtain ⟨i, hi⟩ := List.mem_iff_getElem?.1 g2
   rw [List.getElem?_take] at hi
   split at hi
   ·obtain ⟨k1, e1⟩ := List.getElem?_eq_some_iff.1 hi
    obtain ⟨k2, e2⟩ := List.getElem?_eq_some_iff.1 g1
    have h4 := List.pairwise_iff_getElem.1 hs.pw i j k1 k2 (by assumption)
    rwa [e1, e2] at h4
   ·cases hi
  unfold precD at h2
  rw [if_neg g3] at h2
  rw [betw_arc]
  simpa using h2
 ·intro ha
  have hex : ∃ x ∈ xs p, ∃ b, a = dArc p.ps x b := zipWith_mem ha
  obtain ⟨x, hx, b, e⟩ := hex
  obtain ⟨m1, m2, m3⟩ := mem_pairs hx
  have hres : ∃ r : Nat, r < 144 ∧ x.res = (r : Int) := by
   have hx' : x ∈ pairsP p.ps p.at_ := hx
   unfold pairsP pairsTo at hx'
   obtain ⟨r, h1, h2⟩ := List.mem_flatMap.1 hx'
   refine ⟨r, by simpa using h1, ?_⟩
   unfold pairsL at h2
   obtain ⟨u, _, h4⟩ := List.mem_flatMap.1 h2
   obtain ⟨v, _, h6⟩ := List.mem_map.1 h4
   rw [← h6]
  obtain ⟨r, hr, hre⟩ := hres
  rw [hre] at m1 m2
  have hs := soF hc hm hl hk hr
  have key : ∀ u v : Ref, u ∈ openA p.ps p.at_ (r : Int) → v ∈ openA p.ps p.at_ (r : Int) → u.tr ≠ v.tr → arc0 (relOf p.ps (r : Int) u) v ∈ decs p.ps (xs p) bs → ∃ o ∈ ordB p bs, arc0 (relOf p.ps (r : Int) u) v ∈ orderR p.ps o := fun u v hu hv hne hd => by
   have hp1 : precD p.ps (decs p.ps (xs p) bs) (r : Int) u v = true := by
    unfold precD
    rw [if_neg hne]
    simpa using hd
   have hp2 := hs.tot.asym u hu v hv hp1
   refine ⟨⟨(r : Int), sortD p bs (r : Int)⟩, (mem_ordB hc hm hl hk).2 ⟨r, hr, fun e => (by rw [e] at hu; simp at hu), rfl⟩, ?_⟩
   rw [mem_orderR]
   have hus := hs.perm.mem_iff.2 hu
   have hvs := hs.perm.mem_iff.2 hv
   obtain ⟨i, hi⟩ := List.mem_iff_getElem?.1 hus
   obtain ⟨j, hj⟩ := List.mem_iff_getElem?.1 hvs
   have hij : i < j := by
    rcases Nat.lt_trichotomy i j with g | g | g
    ·exact g
    ·subst g; rw [hi] at hj; injection hj with hj; exact absurd (by rw [hj]) hne
    ·obtain ⟨g1, e1⟩ := List.getElem?_eq_some_iff.1 hi
     obtain ⟨g2, e2⟩ := List.getElem?_eq_some_iff.1 hj
     have := List.pairwise_iff_getElem.1 hs.pw j i g2 g1 g
     rw [e1, e2, hp2] at this
     cases this
   refine ⟨j, v, u, hj, ?_, hne, rfl⟩
   rw [List.mem_iff_getElem?]
   exact ⟨i, by rw [List.getElem?_take, if_pos hij]; exact hi⟩
  unfold dArc at e
  rw [hre] at e
  cases b with
  | true => rw [if_pos rfl] at e; subst e; exact key _ _ m1 m2 (by omega) ha
  | false => rw [if_neg (by simp)] at e; subst e; exact key _ _ m2 m1 (by omega) ha
theorem sol_okD (hc : checkP p = true) (hm : psMade p.ps) (hl : bs.length = (xs p).length) (hk : okB p bs = true) : okD p.ps p.at_ (fulS p.ps (ordB p bs)) = true := by
 have hs := sol_arcs hc hm hl hk
 obtain ⟨ho, ht⟩ := topo_of_ok (checkP_Gd hc) (decs_ok bs) hk
 exact ok_of_topo (checkP_Gd hc) (dok_sub (fun a ha => (hs a).1 ha) (decs_ok bs)) (fun a ha => ho a ((hs a).1 ha)) (topo_sub (fun a ha => (hs a).1 ha) ht)
theorem sol_sec (hc : checkP p = true) (hm : psMade p.ps) (hl : bs.length = (xs p).length) (hk : okB p bs = true) : secD p (fulS p.ps (ordB p bs)) = secD p (decs p.ps (xs p) bs) := by
 have hs := sol_arcs hc hm hl hk
 have hg := checkP_Gd hc
 obtain ⟨_, ht⟩ := topo_of_ok hg (decs_ok bs) hk
 obtain ⟨_, ht'⟩ := topo_of_ok hg (dok_sub (fun a ha => (hs a).1 ha) (decs_ok bs)) (sol_okD hc hm hl hk)
 funext u
 exact Int.le_antisymm (solS_sub (fun a ha => (hs a).1 ha) phS_mono ht' ht u) (solS_sub (fun a ha => (hs a).2 ha) phS_mono ht ht' u)
theorem sol_ver (hc : checkP p = true) (hm : psMade p.ps) (hl : bs.length = (xs p).length) (hk : okB p bs = true) : verR p ⟨ordB p bs, entB p bs, costB p bs⟩ = true := by
 unfold verR
 rw [hc, sol_okS hc hm hl hk, sol_okD hc hm hl hk, sol_sec hc hm hl hk]
 have h2 : costB p bs = costE p (entB p bs) := (choice_facts hc (decs_ok bs) hk).2.1.symm
 simp only [Bool.true_and, Bool.and_eq_true, decide_eq_true_eq]
 exact ⟨rfl, h2⟩
theorem solve_ver (hc : checkP p = true) {b : Int} (hb : 1 ≤ b ∧ b ≤ 1048576) (h : (solveP b p).2.2 = 0) : ∃ bs, bs.length = (xs p).length ∧ okB p bs = true ∧ (solveP b p).1 = ⟨ordB p bs, entB p bs, costB p bs⟩ := by
 obtain ⟨g1, _⟩ := search_ok hc b.toNat
 rcases solve_cases hc hb with ⟨_, e⟩ | ⟨_, _, e⟩ | ⟨bs, c, f, best, e⟩
 ·rw [e] at h; cases h
 ·rw [e] at h; cases h
 ·obtain ⟨l1, o1, c1⟩ := g1 bs c best
  exact ⟨bs, l1, o1, by rw [e, c1]⟩
end

theorem lists_take {α : Type} {a b : List α} (hl : a.length = b.length) (h : a.take a.length = b.take a.length) : a = b := by
 rw [List.take_length, hl, List.take_length] at h
 exact h
theorem take_step {α : Type} {a b : List α} {k : Nat} {x y : α} (h : a.take k = b.take k) (hx : a[k]? = some x) (hy : b[k]? = some y) (e : x = y) : a.take (k + 1) = b.take (k + 1) := by
 rw [List.take_add_one, List.take_add_one, h, hx, hy, e]
theorem at_ne {α : Type} {a b : List α} {k : Nat} {x y : α} (hx : a[k]? = some x) (hy : b[k]? = some y) (e : x ≠ y) : a ≠ b := fun h => by
 subst h
 rw [hx] at hy
 injection hy with hy
 exact e hy

set_option maxRecDepth 100000 in
set_option maxHeartbeats 1000000 in
theorem sameLists_any (a b : List (List Int)) (A A2 : Option Addr) (c c2 : Nat) (w : World) (h : RIntss w (Old w) [.slice A a.length c] a) (h2 : RIntss w (Old w) [.slice A2 b.length c2] b) :
  Calls Try.prog 58 #[.slice A a.length c, .slice A2 b.length c2] w fun e w' => e = .returned (.bool (decide (a = b))) ∧ KeepsAll w w' := by
 have hc := h.caps
 have hc2 := h2.caps
 have H := Lib.hid h; clear h
 have H2 := Lib.hid h2; clear h2
 have HNO : Hid (∀ W, KeepsAll w W → a ≠ b → (fun (e : Ending) w' => e = .returned (.bool (decide (a = b))) ∧ KeepsAll w w') (.returned (.bool false)) W) := fun W hW hne => ⟨by rw [decide_eq_false hne], hW⟩
 have HYES : Hid (∀ W, KeepsAll w W → a = b → (fun (e : Ending) w' => e = .returned (.bool (decide (a = b))) ∧ KeepsAll w w') (.returned (.bool true)) W) := fun W hW hne => ⟨by rw [decide_eq_true hne], hW⟩
 generalize (fun (e : Ending) w' => e = .returned (.bool (decide (a = b))) ∧ KeepsAll w w') = PP at *
 go_enter Try.func58, Try.ntmps58
 by_cases hl : a.length = b.length
 ·have HLN := Lib.hid hl
  have hl1 : a.length ≤ b.length := by omega
  have hl2 : b.length ≤ a.length := by omega
  have hll : ((a.length : Int) != (b.length : Int)) = false := by rw [hl]; simp
  clear hl
  go_wp2_with fail
  go_loopw [14] (fun iv wr => ∃ k : Nat, k ≤ a.length ∧ iv = .int .i64 (k : Int) ∧ a.take k = b.take k ∧ KeepsAll w wr) (fun iv _ => a.length - (intOf iv).toNat)
  case atStart => exact ⟨0, Nat.zero_le _, rfl, rfl, Keeps.refl _ _⟩
  case round =>
   obtain ⟨k, hk, rfl, htk, hkr⟩ := hrel
   have KR := Lib.hid hkr
   have HTK := Lib.hid htk
   clear hkr htk
   by_cases hlt : k < a.length
   ·obtain ⟨b1, o1, x, Ax, cx, hA1, hb1, hx, m0w, hr1⟩ := RSS.at_ H.out hlt
    subst hA1
    obtain ⟨b2, o2, y, Ay, cy, hA2, hb2, hy, n0w, hr2⟩ := RSS.at_ H2.out (k := k) (by omega)
    subst hA2
    have HX := Lib.hid hx
    have HY := Lib.hid hy
    have HR1 := Lib.hid hr1
    have HR2 := Lib.hid hr2
    have hb1 : b1 < w.heap.size := hb1
    have hb2 : b2 < w.heap.size := hb2
    have M0 := Lib.hid m0w
    have N0 := Lib.hid n0w
    have m0 := KR.out.cellK hb1 m0w
    have n0 := KR.out.cellK hb2 n0w
    clear m0w n0w
    have hxc := hr1.caps
    have hyc := hr2.caps
    have hk2 : k < b.length := by omega
    clear hx hy hr1 hr2
    by_cases hxl : x.length = y.length
    ·have HXL := Lib.hid hxl
     have hx1 : x.length ≤ y.length := by omega
     have hx2 : y.length ≤ x.length := by omega
     have hxx : ((x.length : Int) != (y.length : Int)) = false := by rw [hxl]; simp
     clear hxl
     go_wp2_with fail
     go_quiet (fail)
     go_wp2_with fail
     go_loopw [33] (fun iv wr => ∃ m : Nat, m ≤ x.length ∧ iv = .int .i64 (m : Int) ∧ x.take m = y.take m ∧ KeepsAll w wr) (fun iv _ => x.length - (intOf iv).toNat)
     case atStart => exact ⟨0, Nat.zero_le _, rfl, rfl, by first | exact KR.out | exact KR.out.drewN _ | exact KR.out.drew⟩
     case round =>
      obtain ⟨m, hm, rfl, htm, hkm⟩ := hrel
      have KM := Lib.hid hkm
      have HTM := Lib.hid htm
      clear hkm htm
      by_cases hlm : m < x.length
      ·obtain ⟨b3, o3, u, hA3, hb3, hu, q0⟩ := RInts.atK KM.out HR1.out hlm
       subst hA3
       obtain ⟨b4, o4, z, hA4, hb4, hz, q1⟩ := RInts.atK KM.out HR2.out (k := m) (by omega)
       subst hA4
       have r0 := KM.out.cellK hb1 M0.out
       have r1 := KM.out.cellK hb2 N0.out
       have HU := Lib.hid hu
       have HZ := Lib.hid hz
       have hm2 : m < y.length := by omega
       clear hu hz
       by_cases huz : u = z
       ·have HT3 := Lib.hid (take_step HTM.out HU.out HZ.out huz)
        subst huz
        go_wp2_with fail
        go_quiet (fail)
        go_wp2_with fail
        go_roundw
        case rel => exact ⟨m + 1, by omega, by go_num, HT3.out, by first | exact KM.out | exact KM.out.drewN _ | exact KM.out.drew⟩
        case measure => simp [intOf]; omega
       ·have huz' : (u != z) = true := by simpa using huz
        have HNE := Lib.hid (at_ne HX.out HY.out (at_ne HU.out HZ.out huz))
        go_wp2_with fail
        go_quiet (fail)
        go_wp2_with fail
        first | exact HNO.out _ (KM.out.drewN _) HNE.out | exact HNO.out _ KM.out.drew HNE.out | exact HNO.out _ KM.out HNE.out
      ·obtain rfl : m = x.length := by omega
       have e : x = y := lists_take HXL.out HTM.out
       have HT2 := Lib.hid (take_step HTK.out HX.out HY.out e)
       go_wp2
       go_roundw
       case rel => exact ⟨k + 1, by omega, by go_num, HT2.out, KM.out⟩
       case measure => simp [intOf]; omega
    ·have hxx : ((x.length : Int) != (y.length : Int)) = true := by simp; omega
     have HNE := Lib.hid (at_ne HX.out HY.out (fun e => hxl (by rw [e])))
     go_wp2_with fail
     go_quiet (fail)
     go_wp2_with fail
     first | exact HNO.out _ (KR.out.drewN _) HNE.out | exact HNO.out _ KR.out.drew HNE.out | exact HNO.out _ KR.out HNE.out
   ·obtain rfl : k = a.length := by omega
    have Q := Lib.hid (HYES.out _ KR.out (lists_take HLN.out HTK.out))
    go_wp2_with fail
    exact Q.out
 ·have hll : ((a.length : Int) != (b.length : Int)) = true := by simp; omega
  have Q := Lib.hid (HNO.out _ (Keeps.refl _ _) (fun e => hl (by rw [e])))
  go_wp2_with fail
  exact Q.out

set_option maxRecDepth 100000 in
set_option maxHeartbeats 2000000 in
theorem ArcsO_any (ps : List (List Stage)) (os : List Order) (A A2 : Option Addr) (c c2 : Nat) (w : World) (hf : valid ps = true ∧ os.length ≤ 144 ∧ ∀ o ∈ os, (∀ u ∈ o.uses, u ∈ allU ps o.res) ∧ o.uses.length ≤ 640) (h : RPaths w (Old w) [.slice A ps.length c] ps) (h2 : ROrders w (Old w) [.slice A2 os.length c2] os) :
  Calls Try.prog 30 #[.slice A ps.length c, .slice A2 os.length c2] w fun e w' => ∃ v, e = .returned v ∧ OwnL 57 5 RRArc w' w.heap.size w.heap.size v (refArcs ps os) ∧ (refArcs ps os).length ≤ 60000000 ∧ KeepsAll w w' := by
 have hc := h.caps
 have hc2 := h2.caps
 have H := Lib.hid h; clear h
 have H2 := Lib.hid h2; clear h2
 have HV := Lib.hid hf.1
 have hol := hf.2.1
 have HF := Lib.hid hf.2.2
 have hps10 := (valid_lens hf.1).1
 have hcl : (chainR ps).length ≤ 640 := by
  have := chainR_len (ps := ps) (fun p hp => ((valid_lens hf.1).2 p hp).2) ps.length
  rw [List.take_length] at this; omega
 have HOL : Hid (∀ a, a ≤ os.length → (chainR ps ++ (os.take a).flatMap (orderR ps)).length ≤ 640 + a * 409600) := fun a _ => by
  have := ordersR_len ps os (fun o ho => (hf.2.2 o ho).2) 409600 rfl a
  rw [List.length_append]; omega
 clear hf
 go_enter Try.func30, Try.ntmps30
 go_wp2_with fail
 refine (Chain_any ps A c w HV.out H.out).mono ?_
 rintro e w1 ⟨v, rfl, ho, k1⟩
 obtain ⟨B, d, rfl, hd1, hd2⟩ := ho.form
 have HO := Lib.hid ho; have K1 := Lib.hid k1
 clear ho k1
 go_wp2
 go_loopw [5, 16] (fun v i wr => ∃ a : Nat, a ≤ os.length ∧ i = .int .i64 a ∧ OwnL 57 5 RRArc wr w.heap.size w.heap.size v (chainR ps ++ (os.take a).flatMap (orderR ps)) ∧ KeepsAll w wr) (fun _ i _ => os.length - (intOf i).toNat)
 case atStart => exact ⟨0, Nat.zero_le _, rfl, by simpa using HO.out, K1.out⟩
 case round =>
  obtain ⟨a, ha, rfl, ho, hkr⟩ := hrel
  obtain ⟨Aa, ca, rfl, hca, hca2⟩ := ho.form
  have HO1 := Lib.hid ho; clear ho
  have KR := Lib.hid hkr; clear hkr
  have hsz := KR.out.size
  have hDl := HOL.out a ha
  by_cases hlt : a < os.length
  ·obtain ⟨bo, oo, o, Au, cu, hbo, hbol, hoo, m0, m1, hus⟩ := ROrders.atK KR.out H2.out hlt
   subst hbo
   have hcu := hus.caps
   have HUS := Lib.hid hus
   have hof := HF.out o (List.mem_of_getElem? hoo)
   have HIN := Lib.hid hof.1
   have hul := hof.2
   have HQ : Hid (chainR ps ++ (os.take (a + 1)).flatMap (orderR ps) = (chainR ps ++ (os.take a).flatMap (orderR ps)) ++ orderR ps o) := by show _ = _; rw [List.take_add_one, hoo]; simp
   clear hof hoo hus
   generalize chainR ps ++ (os.take a).flatMap (orderR ps) = D at HO1 HQ hDl hca ⊢
   have hda : decide ((a : Int) < (os.length : Int)) = true := by simp; omega
   go_wp2
   generalize hW3 : World.alloc wr _ = W3
   have KW3 : Hid (KeepsAll w W3) := by subst hW3; exact KR.out.alloc _
   have BO : Hid (Blk W3 wr.heap.size 44 #[.int .i64 o.res, .slice Au o.uses.length cu]) := by subst hW3; exact Blk.new _ _ _
   have HO3 : Hid (OwnL 57 5 RRArc W3 w.heap.size w.heap.size (.slice Aa D.length ca) D) := by subst hW3; exact HO1.out.alloc RRArc.ok _
   clear hW3 m0 m1 hbol HO1
   generalize wr.heap.size = zo at *
   go_loopw [5, 23] (fun v i wr => ∃ b : Nat, b ≤ o.uses.length ∧ i = .int .i64 b ∧ OwnL 57 5 RRArc wr w.heap.size w.heap.size v (D ++ orderRTo ps o b) ∧ KeepsAll w wr ∧ Blk wr zo 44 #[.int .i64 o.res, .slice Au o.uses.length cu]) (fun _ i _ => o.uses.length - (intOf i).toNat)
   case atStart => exact ⟨0, Nat.zero_le _, rfl, by simpa [orderRTo] using HO3.out, KW3.out, BO.out⟩
   case round =>
    obtain ⟨b, hb, rfl, ho, hkr, hbo⟩ := hrel
    obtain ⟨Ab, cb, rfl, hcb, hcb2⟩ := ho.form
    have HO4 := Lib.hid ho; clear ho
    have KB := Lib.hid hkr; clear hkr
    have HBO := Lib.hid hbo
    have f1 := hbo.cell 1
    have f0 := hbo.cell 0
    simp at f0 f1
    have hzo := hbo.lt
    clear hbo
    have hEl : (D ++ orderRTo ps o b).length ≤ 640 + a * 409600 + b * 640 := by
     have := orderRTo_len ps o hul b
     rw [List.length_append]; omega
    by_cases hltb : b < o.uses.length
    ·obtain ⟨bx, ox, v, hbo, hbxl, hv, m0, m1⟩ := RRefs.atK KB.out HUS.out hltb
     subst hbo
     have HQ2 : Hid (D ++ orderRTo ps o (b + 1) = (D ++ orderRTo ps o b) ++ useR ps o.res (o.uses.take b) v) := by show _ = _; rw [orderRTo_succ hv, List.append_assoc]
     clear hv
     generalize D ++ orderRTo ps o b = E at HO4 HQ2 hEl hcb ⊢
     have hdbo : decide ((b : Int) < (o.uses.length : Int)) = true := by simp; omega
     go_wp2
     generalize hW4 : World.alloc wr _ = W4
     have KW4 : Hid (KeepsAll w W4) := by subst hW4; exact KB.out.alloc _
     have BV : Hid (Blk W4 wr.heap.size 46 #[.int .i64 v.tr, .int .i64 v.st]) := by subst hW4; exact Blk.new _ _ _
     have BO4 : Hid (Blk W4 zo 44 #[.int .i64 o.res, .slice (some ⟨bx, ox, none⟩) o.uses.length cu]) := by subst hW4; exact HBO.out.alloc _
     have HO5 : Hid (OwnL 57 5 RRArc W4 w.heap.size w.heap.size (.slice Ab E.length cb) E) := by subst hW4; exact HO4.out.alloc RRArc.ok _
     clear hW4 m0 m1 f0 f1 hbxl hzo HO4
     generalize wr.heap.size = zv at *
     go_loopw [5, 33] (fun x i wr => ∃ cc : Nat, cc ≤ b ∧ i = .int .i64 cc ∧ OwnL 57 5 RRArc wr w.heap.size w.heap.size x (E ++ useR ps o.res (o.uses.take cc) v) ∧ KeepsAll w wr ∧ Blk wr zo 44 #[.int .i64 o.res, .slice (some ⟨bx, ox, none⟩) o.uses.length cu] ∧ Blk wr zv 46 #[.int .i64 v.tr, .int .i64 v.st]) (fun _ i _ => b - (intOf i).toNat)
     case atStart => exact ⟨0, Nat.zero_le _, rfl, by simpa [useR] using HO5.out, KW4.out, BO4.out, BV.out⟩
     case round =>
      obtain ⟨cc, hcc, rfl, ho, hkr, hbo, hbv⟩ := hrel
      obtain ⟨Ac, cz, rfl, hcz, hcz2⟩ := ho.form
      have HO6 := Lib.hid ho; clear ho
      have KC := Lib.hid hkr; clear hkr
      have HBO6 := Lib.hid hbo
      have HBV6 := Lib.hid hbv
      have f0 := hbo.cell 0
      have e0 := hbv.cell 0
      have e1 := hbv.cell 1
      simp at f0 e0 e1
      have hzo := hbo.lt
      have hzv := hbv.lt
      clear hbo hbv
      have hGl : (E ++ useR ps o.res (o.uses.take cc) v).length ≤ 640 + a * 409600 + b * 640 + cc := by
       have h1 := useR_len ps o.res (o.uses.take cc) v
       have h2 : (o.uses.take cc).length ≤ cc := by simp; omega
       rw [List.length_append]; omega
      by_cases hltc : cc < b
      ·obtain ⟨by_, oy, w_, hbo, hbyl, hw, m0, m1⟩ := RRefs.atK KC.out HUS.out (k := cc) (by omega)
       injection hbo with hbo; injection hbo with hy1 hy2; subst hy1 hy2
       obtain ⟨tw, kw, pw, sw, hpw, hsw, _, hwe⟩ := mem_allU.1 (HIN.out w_ (List.mem_of_getElem? hw))
       subst hwe
       simp only [] at m0 m1
       have HQ3 : Hid (E ++ useR ps o.res (o.uses.take (cc + 1)) v = (E ++ useR ps o.res (o.uses.take cc) v) ++ (if (tw : Int) ≠ v.tr then [betw ps o.res ⟨(tw : Int), (kw : Int)⟩ v] else [])) := by
        show _ = _
        rw [List.take_add_one, hw, Option.toList_some, useR_snoc, List.append_assoc]
       have hkw : kw ≤ 1000000 := by
        have h1 := getElem?_lt hsw
        have h2 := ((valid_lens HV.out).2 pw (List.mem_of_getElem? hpw)).2
        omega
       have HBW : Hid (∀ W, KeepsAll w W → Calls Try.prog 24 #[.slice A ps.length c, .int .i64 o.res, .agg #[.int .i64 (tw : Int), .int .i64 (kw : Int)], .agg #[.int .i64 v.tr, .int .i64 v.st]] W fun e w' => e = .returned (.agg #[.int .i64 (tw : Int), .int .i64 (relOf ps o.res ⟨(tw : Int), (kw : Int)⟩).st, .int .i64 v.tr, .int .i64 v.st, .int .i64 0]) ∧ KeepsAll W w') := fun W hW => Between_any ps o.res A c W (hW.rdo' RPaths.ok H.out) tw kw pw sw v hpw hsw hkw
       have HBE : Hid (betw ps o.res ⟨(tw : Int), (kw : Int)⟩ v = ⟨⟨(tw : Int), (relOf ps o.res ⟨(tw : Int), (kw : Int)⟩).st⟩, v, 0⟩) := by
        show _ = _
        unfold betw
        have h1 := relOf_tr ps o.res ⟨(tw : Int), (kw : Int)⟩
        cases hq : relOf ps o.res ⟨(tw : Int), (kw : Int)⟩ with
        | mk x y => rw [hq] at h1; simp only at h1; rw [h1]
       clear hw hpw hsw hkw
       generalize (relOf ps o.res ⟨(tw : Int), (kw : Int)⟩).st = ks at HBW HBE
       generalize betw ps o.res ⟨(tw : Int), (kw : Int)⟩ v = ba at HQ3 HBE
       generalize E ++ useR ps o.res (o.uses.take cc) v = G at HO6 HQ3 hGl hcz ⊢
       have hdc : decide ((cc : Int) < (b : Int)) = true := by simp; omega
       by_cases hne : (tw : Int) = v.tr
       ·have hne' : ((tw : Int) != v.tr) = false := by simpa using hne
        have HQ4 : Hid (E ++ useR ps o.res (o.uses.take (cc + 1)) v = G) := by rw [HQ3.out, if_neg (by simpa using hne), List.append_nil]; rfl
        clear hne HQ3
        go_wp2
        go_roundw
        case rel => exact ⟨cc + 1, by omega, by go_num, by rw [HQ4.out]; exact HO6.out.alloc RRArc.ok _, KC.out.alloc _, HBO6.out.alloc _, HBV6.out.alloc _⟩
        case measure => simp [intOf]; omega
       ·have hne' : ((tw : Int) != v.tr) = true := by simpa using hne
        have HQ4 : Hid (E ++ useR ps o.res (o.uses.take (cc + 1)) v = G ++ [⟨⟨(tw : Int), ks⟩, v, 0⟩]) := by rw [HQ3.out, if_pos hne, HBE.out]; rfl
        clear hne HQ3 HBE
        go_wp2_with fail
        generalize hW5 : World.alloc wr _ = W5
        have KW5 : Hid (KeepsAll w W5) := by subst hW5; exact KC.out.alloc _
        have HO7 : Hid (OwnL 57 5 RRArc W5 w.heap.size w.heap.size (.slice Ac G.length cz) G) := by subst hW5; exact HO6.out.alloc RRArc.ok _
        have BO7 := Lib.hid (show Blk W5 zo _ _ by subst hW5; exact HBO6.out.alloc _)
        have BV7 := Lib.hid (show Blk W5 zv _ _ by subst hW5; exact HBV6.out.alloc _)
        clear hW5 m0 m1 e0 e1 f0 hbyl hzo hzv HO6
        refine (HBW.out W5 KW5.out).mono ?_
        rintro e w6 ⟨rfl, k6⟩
        have K6 := Lib.hid (KW5.out.tr k6)
        have HO8 := Lib.hid (HO7.out.keeps RRArc.ok k6 (fun _ _ h => h.elim))
        have BO8 := Lib.hid (BO7.out.kept k6 (by simp))
        have BV8 := Lib.hid (BV7.out.kept k6 (by simp))
        have NO := Lib.hid (HO8.out.ne_blk BO8.out (by decide))
        have NV := Lib.hid (HO8.out.ne_blk BV8.out (by decide))
        have hz6 := K6.out.size
        clear k6 HO7 BO7 BV7 KW5
        go_wp2_with (at_builtin; refine wpList_append_L tyRArc RRArc.ok rfl (.tmp 42) (.tmp 49) rfl (HO8.out.alloc RRArc.ok _) rfl _ [.int .i64 (tw : Int), .int .i64 ks, .int .i64 v.tr, .int .i64 v.st, .int .i64 0] rfl (Blk.new' _ _ _ (by simp)) rfl ⟨⟨(tw : Int), ks⟩, v, 0⟩ (S := fun _ => False) rfl (fun _ h => h.elim) (by simp [Value.oneCell']) (by omega) (by omega) (by simp; omega) ?_; intro v9 w9 HO9 HK9 HA9; obtain ⟨A9, c9, hv9, _, _⟩ := HO9.form; rw [List.length_append, List.length_singleton] at hv9; subst hv9)
        go_roundw
        case rel => exact ⟨cc + 1, by omega, by go_num, by rw [HQ4.out]; exact HO9, ((K6.out.alloc _).trans HK9 (fun x hx e => (by have := HO8.out.lt e; omega))), (BO8.out.alloc _).kept HK9 NO.out, (BV8.out.alloc _).kept HK9 NV.out⟩
        case measure => simp [intOf]; omega
      ·obtain rfl : cc = b := by omega
       go_wp2
       go_roundw
       case rel => exact ⟨cc + 1, by omega, by go_num, by rw [HQ2.out]; exact HO6.out, KC.out, HBO6.out⟩
       case measure => simp [intOf]; omega
    ·obtain rfl : b = o.uses.length := by omega
     rw [orderRTo_all] at HO4 ⊢
     go_wp2
     go_roundw
     case rel => exact ⟨a + 1, by omega, by go_num, by rw [HQ.out]; exact HO4.out, KB.out⟩
     case measure => simp [intOf]; omega
  ·obtain rfl : a = os.length := by omega
   rw [List.take_length] at HO1 hDl ⊢
   go_wp2
   go_ret
   exact ⟨_, rfl, HO1.out, by unfold refArcs; omega, KR.out⟩

theorem openTo_len (ps : List (List Stage)) (at_ : List Int) : ∀ n, (openTo ps at_ n).length ≤ n
 | 0 => by simp [openTo]
 | n + 1 => by
  have := openTo_len ps at_ n
  rw [openTo, List.length_append]
  split <;> simp <;> omega
theorem okS_arcs {ps : List (List Stage)} {at_ : List Int} {os : List Order} (hv : valid ps = true) (h : okS ps at_ os = true) : valid ps = true ∧ os.length ≤ 144 ∧ ∀ o ∈ os, (∀ u ∈ o.uses, u ∈ allU ps o.res) ∧ o.uses.length ≤ 640 := by
 obtain ⟨h1, h2⟩ := okS_iff.1 h
 refine ⟨hv, ?_, fun o ho => ?_⟩
 ·have := congrArg List.length h1
  rw [List.length_map] at this
  have := openTo_len ps at_ 144
  omega
 ·obtain ⟨g1, g2, _⟩ := exactly_before.1 (h2 o ho)
  refine ⟨fun u hu => (List.mem_filter.1 (g2 u hu)).1, ?_⟩
  rw [g1]
  have h3 := openA_len ps at_ o.res
  have h4 := allU_le (fun p hp => ((valid_lens hv).2 p hp).2) o.res ps.length (Nat.le_refl _)
  rw [List.take_length] at h4
  have := (valid_lens hv).1
  omega
theorem dok_in {ps : List (List Stage)} {at_ : List Int} {D : List RArc} (hD : DOk ps at_ D) : ∀ a ∈ arcsD ps D, (0 ≤ a.frm.tr ∧ a.frm.tr < ps.length) ∧ 0 ≤ a.to.tr ∧ a.to.tr < ps.length := fun a ha => by
 obtain ⟨⟨t, k, q, q1, _, q3⟩, ⟨t', k', q', q1', _, q3'⟩⟩ := arcsD_ends hD ha
 have := getElem?_lt q1
 have := getElem?_lt q1'
 rw [q3, q3']
 exact ⟨⟨by show (0 : Int) ≤ (t : Int); omega, by show (t : Int) < _; omega⟩, by show (0 : Int) ≤ (t' : Int); omega, by show (t' : Int) < _; omega⟩

end Go.Proofs.Ytilbbpbjhoidhaa
