/- Contract of the reference's look of chapter 37. Conditions: as each theorem says. Chapter 37, plain: what Solve returns is what Verify accepts. No program in sight. Sorting the seconds of Times gives the same orders again: the plain law. No program in sight. Contract of precedence.Times. Conditions: as the theorem says. Tables of entries in memory: a row of rows of integers, one for each stage. Conditions: as each theorem says. The search of chapter 36 as a plain function, and what it finds. No program in sight. Contract of takeover.entries. Conditions: as the theorem says. takeover.Orders as a plain function; what a search that succeeds gives. No program in sight. The map of examined states: its keys are arrays of ten small integers. Conditions: as each theorem says. -/
import Derived.Test.YtilbbpbjhoidhaaS46
import Derived.Test.YtilbbpbjhoidhaaS14
import Derived.Test.YtilbbpbjhoidhaaS47
import Derived.Test.YtilbbpbjhoidhaaS39
import Derived.Test.YtilbbpbjhoidhaaS09
import Derived.Test.YtilbbpbjhoidhaaS16
import Derived.Test.YtilbbpbjhoidhaaS07
import Derived.Test.YtilbbpbjhoidhaaS15
import Derived.Test.YtilbbpbjhoidhaaS04
import Derived.DeepKeys3
namespace Go.Proofs.Ytilbbpbjhoidhaa
open Go.RowKit

section
variable {P : Program} {l : List Oper} {Q : Exit → Act → World → Prop} {C : World → Prop} {need : Nat → Bool}
end

theorem ordL_res (ps : List (List Stage)) (at_ : List Int) (T : LTab) : ∀ n, (ordL ps at_ T n).map (·.res) = openTo ps at_ n
 | 0 => rfl
 | n + 1 => by
  rw [ordL, openTo, List.map_append, ordL_res ps at_ T n]
  by_cases e : openA ps at_ (n : Int) = []
  ·rw [if_pos e, if_pos (by rw [e]; rfl)]; rfl
  ·rw [if_neg e, if_neg (fun h => e (List.length_eq_zero_iff.1 h))]; rfl
theorem mem_ordL {ps : List (List Stage)} {at_ : List Int} {T : LTab} {o : Order} : ∀ n : Nat, o ∈ ordL ps at_ T n ↔ ∃ r : Nat, r < n ∧ ¬ openA ps at_ (r : Int) = [] ∧ o = ⟨(r : Int), sortB (fun u v => decide (cmpL ps at_ T (r : Int) u v < 0)) (openA ps at_ (r : Int))⟩
 | 0 => by simp [ordL]
 | n + 1 => by
  rw [ordL, List.mem_append, mem_ordL n]
  constructor
  ·rintro (⟨r, h1, h2, h3⟩ | h)
   ·exact ⟨r, by omega, h2, h3⟩
   ·by_cases e : openA ps at_ (n : Int) = []
    ·rw [if_pos (by rw [e]; rfl)] at h; simp at h
    ·rw [if_neg (fun h => e (List.length_eq_zero_iff.1 h))] at h
     exact ⟨n, by omega, e, by simpa using h⟩
  ·rintro ⟨r, h1, h2, h3⟩
   by_cases e : r = n
   ·subst e
    right
    rw [if_neg (fun h => h2 (List.length_eq_zero_iff.1 h)), h3]
    simp
   ·exact .inl ⟨r, by omega, h2, h3⟩
section
variable {p : Pb} {bs : List Bool}
/-- the uses of a resource as a solution orders them -/
def sortD (p : Pb) (bs : List Bool) (r : Int) : List Ref := sortB (precD p.ps (decs p.ps (xs p) bs) r) (openA p.ps p.at_ r)
structure SoF (p : Pb) (bs : List Bool) (r : Int) : Prop where
 eq : sortB (fun u v => decide (cmpL p.ps p.at_ (labD p.ps p.at_ p.now (decs p.ps (xs p) bs)) r u v < 0)) (openA p.ps p.at_ r) = sortD p bs r
 tot : Tot (precD p.ps (decs p.ps (xs p) bs) r) (openA p.ps p.at_ r)
 pw : (sortD p bs r).Pairwise fun a b => precD p.ps (decs p.ps (xs p) bs) r a b = true
 perm : (sortD p bs r).Perm (openA p.ps p.at_ r)
theorem soF (hc : checkP p = true) (hm : psMade p.ps) (hl : bs.length = (xs p).length) (hk : okB p bs = true) {r : Nat} (hr : r < 144) : SoF p bs (r : Int) := by
 have hg := checkP_Gd hc
 have hv := psMade.valid hm
 have hk' : okD p.ps p.at_ (decs p.ps (xs p) bs) = true := hk
 obtain ⟨ho, ht⟩ := topo_of_ok hg (decs_ok bs) hk'
 have hd : Dec p.ps p.at_ (decs p.ps (xs p) bs) (r : Int) (openA p.ps p.at_ (r : Int)) := made_dec hm hl hr
 have hlab : labD p.ps p.at_ p.now (decs p.ps (xs p) bs) = labS p.ps p.at_ p.now (decs p.ps (xs p) bs) (lineR p.ps (arcsD p.ps (decs p.ps (xs p) bs)) p.at_).1 := rfl
 have ht : Topo p.ps p.at_ (decs p.ps (xs p) bs) (lineR p.ps (arcsD p.ps (decs p.ps (xs p) bs)) p.at_).1 := ht
 have ho : ∀ a ∈ decs p.ps (xs p) bs, doneR p.at_ a.to = false := ho
 have hT : Tot (precD p.ps (decs p.ps (xs p) bs) (r : Int)) (openA p.ps p.at_ (r : Int)) := prec_tot ht ho hd
 obtain ⟨hs, hp⟩ := sortB_sorted hT hd.nd
 exact ⟨by rw [hlab]; exact sortB_congr (fun u hu v hv' => prec_lab (n := p.now) hv ht ho hd hu hv'), hT, hs, hp⟩
theorem mem_ordB (hc : checkP p = true) (hm : psMade p.ps) (hl : bs.length = (xs p).length) (hk : okB p bs = true) {o : Order} : o ∈ ordB p bs ↔ ∃ r : Nat, r < 144 ∧ ¬ openA p.ps p.at_ (r : Int) = [] ∧ o = ⟨(r : Int), sortD p bs (r : Int)⟩ := by
 unfold ordB
 rw [mem_ordL]
 constructor
 ·rintro ⟨r, h1, h2, h3⟩
  exact ⟨r, h1, h2, by rw [h3, (soF hc hm hl hk h1).eq]⟩
 ·rintro ⟨r, h1, h2, h3⟩
  exact ⟨r, h1, h2, by rw [h3, (soF hc hm hl hk h1).eq]⟩
theorem SoF.before {r : Int} (h : SoF p bs r) : (sortD p bs r).Pairwise Before := h.pw.imp fun {a b} hab e => by
 unfold precD at hab
 rw [if_pos e] at hab
 simpa using hab
theorem sol_okS (hc : checkP p = true) (hm : psMade p.ps) (hl : bs.length = (xs p).length) (hk : okB p bs = true) : okS p.ps p.at_ (ordB p bs) = true := by
 rw [okS_iff]
 refine ⟨ordL_res _ _ _ _, fun o ho => ?_⟩
 obtain ⟨r, h1, _, rfl⟩ := (mem_ordB hc hm hl hk).1 ho
 have hs := soF hc hm hl hk h1
 exact exactly_before.2 ⟨hs.perm.length_eq, fun u hu => hs.perm.mem_iff.1 hu, hs.before⟩
/-- the arcs of a solution's orders are the decided ones -/
theorem sol_arcs (hc : checkP p = true) (hm : psMade p.ps) (hl : bs.length = (xs p).length) (hk : okB p bs = true) (a : RArc) : a ∈ fulS p.ps (ordB p bs) ↔ a ∈ decs p.ps (xs p) bs := by
 rw [mem_fulS]
 constructor
 ·rintro ⟨o, ho, ha⟩
  obtain ⟨r, h1, _, rfl⟩ := (mem_ordB hc hm hl hk).1 ho
  obtain ⟨j, v, u, g1, g2, g3, rfl⟩ := mem_orderR.1 ha
  have hs := soF hc hm hl hk h1
  have h2 : precD p.ps (decs p.ps (xs p) bs) (r : Int) u v = true := by
   obtain ⟨i, hi⟩ := List.mem_iff_getElem?.1 g2
   rw [List.getElem?_take] at hi
   split at hi
   ·obtain ⟨k1, e1⟩ := List.getElem?_eq_some_iff.1 hi
    obtain ⟨k2, e2⟩ := List.getElem?_eq_some_iff.1 g1
    have h4 := List.pairwise_iff_getElem.1 hs.pw i j k1 k2 (by assumption)
    rwa [e1, e2] at h4
   ·cases hi
  unfold precD at h2
  rw [if_neg g3] at h2
  rw [betw_arc]
  simpa using h2
 ·intro ha
  have hex : ∃ x ∈ xs p, ∃ b, a = dArc p.ps x b := zipWith_mem ha
  obtain ⟨x, hx, b, e⟩ := hex
  obtain ⟨m1, m2, m3⟩ := mem_pairs hx
  have hres : ∃ r : Nat, r < 144 ∧ x.res = (r : Int) := by
   have hx' : x ∈ pairsP p.ps p.at_ := hx
   unfold pairsP pairsTo at hx'
   obtain ⟨r, h1, h2⟩ := List.mem_flatMap.1 hx'
   refine ⟨r, by simpa using h1, ?_⟩
   unfold pairsL at h2
   obtain ⟨u, _, h4⟩ := List.mem_flatMap.1 h2
   obtain ⟨v, _, h6⟩ := List.mem_map.1 h4
   rw [← h6]
  obtain ⟨r, hr, hre⟩ := hres
  rw [hre] at m1 m2
  have hs := soF hc hm hl hk hr
  have key : ∀ u v : Ref, u ∈ openA p.ps p.at_ (r : Int) → v ∈ openA p.ps p.at_ (r : Int) → u.tr ≠ v.tr → arc0 (relOf p.ps (r : Int) u) v ∈ decs p.ps (xs p) bs → ∃ o ∈ ordB p bs, arc0 (relOf p.ps (r : Int) u) v ∈ orderR p.ps o := fun u v hu hv hne hd => by
   have hp1 : precD p.ps (decs p.ps (xs p) bs) (r : Int) u v = true := by
    unfold precD
    rw [if_neg hne]
    simpa using hd
   have hp2 := hs.tot.asym u hu v hv hp1
   refine ⟨⟨(r : Int), sortD p bs (r : Int)⟩, (mem_ordB hc hm hl hk).2 ⟨r, hr, fun e => (by rw [e] at hu; simp at hu), rfl⟩, ?_⟩
   rw [mem_orderR]
   have hus := hs.perm.mem_iff.2 hu
   have hvs := hs.perm.mem_iff.2 hv
   obtain ⟨i, hi⟩ := List.mem_iff_getElem?.1 hus
   obtain ⟨j, hj⟩ := List.mem_iff_getElem?.1 hvs
   have hij : i < j := by
    rcases Nat.lt_trichotomy i j with g | g | g
    ·exact g
    ·subst g; rw [hi] at hj; injection hj with hj; exact absurd (by rw [hj]) hne
    ·obtain ⟨g1, e1⟩ := List.getElem?_eq_some_iff.1 hi
     obtain ⟨g2, e2⟩ := List.getElem?_eq_some_iff.1 hj
     have := List.pairwise_iff_getElem.1 hs.pw j i g2 g1 g
     rw [e1, e2, hp2] at this
     cases this
   refine ⟨j, v, u, hj, ?_, hne, rfl⟩
   rw [List.mem_iff_getElem?]
   exact ⟨i, by rw [List.getElem?_take, if_pos hij]; exact hi⟩
  unfold dArc at e
  rw [hre] at e
  cases b with
  | true => rw [if_pos rfl] at e; subst e; exact key _ _ m1 m2 (by omega) ha
  | false => rw [if_neg (by simp)] at e; subst e; exact key _ _ m2 m1 (by omega) ha
theorem sol_okD (hc : checkP p = true) (hm : psMade p.ps) (hl : bs.length = (xs p).length) (hk : okB p bs = true) : okD p.ps p.at_ (fulS p.ps (ordB p bs)) = true := by
 have hs := sol_arcs hc hm hl hk
 obtain ⟨ho, ht⟩ := topo_of_ok (checkP_Gd hc) (decs_ok bs) hk
 exact ok_of_topo (checkP_Gd hc) (dok_sub (fun a ha => (hs a).1 ha) (decs_ok bs)) (fun a ha => ho a ((hs a).1 ha)) (topo_sub (fun a ha => (hs a).1 ha) ht)
end

/-- in ascending order of the seconds, then of train and stage -/
def EnLt (en : List (List Int)) (v u : Ref) : Prop := enAt en v < enAt en u ∨ enAt en v = enAt en u ∧ Lex v u
theorem EnLt.asymm {en : List (List Int)} {u v : Ref} (h1 : EnLt en u v) (h2 : EnLt en v u) : u = v := by
 unfold EnLt Lex at *
 cases u; cases v
 simp only [Ref.mk.injEq] at *
 omega

/-- the table without the last second of each row -/
def rowS (ps : List (List Stage)) (T : Tab) (t : Nat) : List Int := (List.range (lenAt ps t)).map fun k : Nat => T ⟨(t : Int), (k : Int)⟩
def tabS (ps : List (List Stage)) (T : Tab) : List (List Int) := (List.range ps.length).map fun t => rowS ps T t
theorem rowS_len (ps : List (List Stage)) (T : Tab) (t : Nat) : (rowS ps T t).length = lenAt ps t := by simp [rowS]
theorem rowS_at {ps : List (List Stage)} (T : Tab) {t k : Nat} (hk : k < lenAt ps t) : (rowS ps T t)[k]? = some (T ⟨(t : Int), (k : Int)⟩) := by
 unfold rowS
 rw [List.getElem?_map, List.getElem?_range (by omega)]; rfl
theorem tabS_len (ps : List (List Stage)) (T : Tab) : (tabS ps T).length = ps.length := by simp [tabS]
theorem tabS_at {ps : List (List Stage)} (T : Tab) {t : Nat} (ht : t < ps.length) : (tabS ps T)[t]? = some (rowS ps T t) := by
 unfold tabS
 rw [List.getElem?_map, List.getElem?_range ht]; rfl

section
variable {ps : List (List Stage)} {os : List Order} {at_ : List Int} {n : Int}
end

theorem Tb.base {ps : List (List Stage)} {w w2 wr : World} {N m : Nat} {gs : Nat → Nat} {T : Tab} (h : Tb ps w2 wr N m gs T) (k : KeepsAll w w2) : Tb ps w wr N m gs T :=
 ⟨h.n, h.r, h.inj, fun t ht => Nat.le_trans k.size (h.lo t ht), Nat.le_trans k.size h.nlo, k.tr h.k⟩

theorem rowS_upd_other {ps : List (List Stage)} {T : Tab} {t u k : Nat} {x : Int} (h : u ≠ t) : rowS ps (upd T ⟨(t : Int), (k : Int)⟩ x) u = rowS ps T u := by
 unfold rowS
 apply List.map_congr_left
 intro j _
 unfold upd
 rw [if_neg]
 intro e; injection e with e1 e2; omega
theorem rowS_upd {ps : List (List Stage)} {T : Tab} {t k : Nat} {x : Int} : rowS ps (upd T ⟨(t : Int), (k : Int)⟩ x) t = (rowS ps T t).set k x := by
 apply List.ext_getElem?
 intro j
 rw [List.getElem?_set]
 by_cases hj : j < lenAt ps t
 ·rw [rowS_at _ (by omega)]
  by_cases e : k = j
  ·subst e
   rw [if_pos rfl, if_pos (by rw [rowS_len]; exact hj)]
   unfold upd; rw [if_pos rfl]
  ·rw [if_neg e, rowS_at _ (by omega)]
   unfold upd
   rw [if_neg]
   intro e'; injection e' with e1 e2; omega
 ·have h1 : (rowS ps (upd T ⟨(t : Int), (k : Int)⟩ x) t)[j]? = none := List.getElem?_eq_none (by rw [rowS_len]; omega)
  have h2 : (rowS ps T t)[j]? = none := List.getElem?_eq_none (by rw [rowS_len]; omega)
  rw [h1, h2]
  by_cases e : k = j
  ·rw [if_pos e, if_neg (by rw [rowS_len]; omega)]
  ·rw [if_neg e]
theorem rowS_const (ps : List (List Stage)) (x : Int) (t : Nat) : rowS ps (fun _ => x) t = List.replicate (lenAt ps t) x := by
 unfold rowS
 rw [List.map_const']; simp

def slE (ps : List (List Stage)) (gs : Nat → Nat) (t : Nat) : Value := .slice (some ⟨gs t, 0, none⟩) (lenAt ps t) (lenAt ps t)
/-- the first m rows of a table: the outer row is block N -/
structure Te (ps : List (List Stage)) (w wr : World) (N m : Nat) (gs : Nat → Nat) (T : Tab) : Prop where
 n : ∃ cur, Blk wr N 22 cur ∧ ∀ t, t < m → cur[t]? = some (slE ps gs t)
 r : ∀ t, t < m → Blk wr (gs t) 3 (cellsI (rowS ps T t))
 inj : ∀ t u, t < m → u < m → gs t = gs u → t = u
 lo : ∀ t, t < m → w.heap.size ≤ gs t
 nlo : w.heap.size ≤ N
 k : KeepsAll w wr
section
variable {ps : List (List Stage)} {w wr w' : World} {N m : Nat} {gs : Nat → Nat} {T : Tab}
theorem Te.keep (h : Te ps w wr N m gs T) (k : KeepsAll wr w') : Te ps w w' N m gs T := by
 obtain ⟨cur, h1, h2⟩ := h.n
 exact ⟨⟨cur, h1.kept k (by simp), h2⟩, fun t ht => (h.r t ht).kept k (by simp), h.inj, h.lo, h.nlo, h.k.tr k⟩
theorem Te.ne (h : Te ps w wr N m gs T) {t : Nat} (ht : t < m) : N ≠ gs t := by
 obtain ⟨cur, h1, h2⟩ := h.n
 exact Blk.ne_ h1 (h.r t ht) (by decide)
theorem Te.outer (h : Te ps w wr N m gs T) {t : Nat} (ht : t < m) : wr.cell? ⟨N, t, none⟩ = some (slE ps gs t) := by
 obtain ⟨cur, h1, h2⟩ := h.n
 rw [h1.cell, h2 t ht]
theorem Te.inner (h : Te ps w wr N m gs T) {t k : Nat} (ht : t < m) (hk : k < lenAt ps t) : wr.cell? ⟨gs t, k, none⟩ = some (.int .i64 (T ⟨(t : Int), (k : Int)⟩)) := by
 rw [(h.r t ht).cell, cellsI_at (rowS_at T hk)]
theorem Te.nlt (h : Te ps w wr N m gs T) : N < wr.heap.size := by obtain ⟨cur, h1, _⟩ := h.n; exact h1.lt
theorem Te.set (h : Te ps w wr N m gs T) {t k : Nat} (ht : t < m) (x : Int) : Te ps w (wr.setCell ⟨gs t, k, none⟩ (.int .i64 x)) N m gs (upd T ⟨(t : Int), (k : Int)⟩ x) := by
 obtain ⟨cur, h1, h2⟩ := h.n
 refine ⟨⟨cur, h1.far (h.ne ht) _, h2⟩, fun u hu => ?_, h.inj, h.lo, h.nlo, h.k.setCell (fun hh => absurd hh (by have := h.lo t ht; simp; omega)) _⟩
 by_cases e : u = t
 ·subst e
  rw [rowS_upd, ← cellsI_set]
  exact (h.r u hu).set_ k _
 ·rw [rowS_upd_other e]
  exact (h.r u hu).far (fun e' => e (h.inj u t hu ht e')) _
theorem Te.congr {T' : Tab} (h : Te ps w wr N m gs T) (he : ∀ t, t < m → rowS ps T t = rowS ps T' t) : Te ps w wr N m gs T' :=
 ⟨h.n, fun t ht => by rw [← he t ht]; exact h.r t ht, h.inj, h.lo, h.nlo, h.k⟩
theorem Te.read (h : Te ps w wr N ps.length gs T) {c : Nat} (hc : ps.length ≤ c) (hc2 : c ≤ 9223372036854775807) (hl : ∀ t, lenAt ps t ≤ 1000000) : RIntss wr (Old wr) [.slice (some ⟨N, 0, none⟩) ps.length c] (tabS ps T) := by
 refine ⟨_, _, by rw [tabS_len], by rw [tabS_len]; exact hc, hc2, fun _ => ⟨N, 0, rfl, h.nlt, fun j x hx => ?_⟩⟩
 have hj : j < ps.length := by have := getElem?_lt hx; rwa [tabS_len] at this
 rw [tabS_at T hj] at hx
 injection hx with hx
 subst hx
 refine ⟨[slE ps gs j], rfl, ?_, fun i u hu => ?_⟩
 ·have := RInts.ofBlk (S := Old wr) (rowS ps T j) (h.r j hj) (h.r j hj).lt (by rw [rowS_len]; have := hl j; omega)
  rw [rowS_len] at this
  exact this
 ·have : i = 0 := by have := getElem?_lt hu; simp at this; omega
  subst this
  simp at hu; subst hu
  simpa using h.outer hj
/-- one row more -/
theorem Te.add {x : Int} (h : Te ps w wr N m gs (fun _ => x)) (k : KeepsAll wr w') {g : Nat} (hg : wr.heap.size ≤ g) (hb : Blk w' g 3 (cellsI (List.replicate (lenAt ps m) x))) {cur : Array Value} (hn : Blk w' N 22 cur) (hcur : ∀ t, t < m → cur[t]? = some (slE ps gs t)) (hm : m < cur.size) :
  Te ps w (w'.setCell ⟨N, m, none⟩ (.slice (some ⟨g, 0, none⟩) (lenAt ps m) (lenAt ps m))) N (m + 1) (gsAdd gs m g) (fun _ => x) := by
 have hgs : ∀ t, t < m → gs t < wr.heap.size := fun t ht => (h.r t ht).lt
 have hw := h.k.size
 have hNg : N ≠ g := by have := h.nlt; omega
 refine ⟨⟨_, hn.set_ m _, fun t ht => ?_⟩, fun t ht => ?_, fun t u ht hu he => ?_, fun t ht => ?_, h.nlo, (h.k.tr k).setCell (fun hh => absurd hh (by have := h.nlo; simp; omega)) _⟩
 ·rw [Array.getElem?_setIfInBounds]
  unfold slE gsAdd
  by_cases e : t = m
  ·subst e; simp [hm]
  ·rw [if_neg (fun e' => e e'.symm), hcur t (by omega)]
   unfold slE
   rw [if_neg e]
 ·unfold gsAdd
  by_cases e : t = m
  ·subst e; rw [if_pos rfl, rowS_const]; exact hb.far (fun e => hNg e.symm) _
  ·rw [if_neg e]
   exact ((h.r t (by omega)).kept k (by simp)).far (fun e' => h.ne (by omega) e'.symm) _
 ·unfold gsAdd at he
  by_cases e1 : t = m
  ·by_cases e2 : u = m
   ·omega
   ·rw [if_pos e1, if_neg e2] at he
    have := hgs u (by omega); omega
  ·by_cases e2 : u = m
   ·rw [if_neg e1, if_pos e2] at he
    have := hgs t (by omega); omega
   ·rw [if_neg e1, if_neg e2] at he
    exact h.inj t u (by omega) (by omega) he
 ·unfold gsAdd
  by_cases e1 : t = m
  ·rw [if_pos e1]; omega
  ·rw [if_neg e1]; exact h.lo t (by omega)
end

def secNow (ps : List (List Stage)) (now : List Int) (t : Nat) : Int := secAt ((ps[t]?).getD []) (nowAt now t)
/-- the next section of a train is held by another one -/
def blockedB (ps : List (List Stage)) (now : List Int) (t : Nat) : Bool := match ((ps[t]?).getD [])[(nowAt now t + 1).toNat]? with
 | none => false
 | some s => (List.range ps.length).any fun u => decide (u ≠ t) && decide (secNow ps now u = s.sec)
def canMv (ps : List (List Stage)) (now : List Int) (t : Nat) : Bool := decide (nowAt now t < lenAt ps t) && !blockedB ps now t
def stepN (now : List Int) (t : Nat) : List Int := now.set t (nowAt now t + 1)
abbrev SOut := Int × List (List Int) × List Int
def tryT (ps : List (List Stage)) (rc : List Int → List (List Int) → List Int → SOut) (now : List Int) : List Nat → List (List Int) → List Int → SOut
 | [], seen, mv => (19, seen, mv)
 | t :: ts, seen, mv => if (canMv ps now t && !decide (stepN now t ∈ seen)) = true then
   (if (rc (stepN now t) seen (mv ++ [(t : Int)])).1 = 19 then tryT ps rc now ts (rc (stepN now t) seen (mv ++ [(t : Int)])).2.1 mv else rc (stepN now t) seen (mv ++ [(t : Int)]))
  else tryT ps rc now ts seen mv
def exam (ps : List (List Stage)) (budget : Nat) : Nat → List Int → List (List Int) → List Int → SOut
 | 0, _, seen, mv => (19, seen, mv)
 | f + 1, now, seen, mv => if seen.length = budget then (15, seen, mv) else if leftB ps now = true then (0, seen ++ [now], mv) else tryT ps (exam ps budget f) now (List.range ps.length) (seen ++ [now]) mv
def searchP (ps : List (List Stage)) (at_ : List Int) (budget : Int) : List Int × Int × Int :=
 if checkState ps at_ ≠ 0 then ([], 0, checkState ps at_)
 else if budget < 1 ∨ 1048576 < budget then ([], 0, 4)
 else if (exam ps budget.toNat (total ps at_ + 1) at_ [] []).1 = 0 then ((exam ps budget.toNat (total ps at_ + 1) at_ [] []).2.2, ((exam ps budget.toNat (total ps at_ + 1) at_ [] []).2.1.length : Int), 0)
 else if (exam ps budget.toNat (total ps at_ + 1) at_ [] []).1 = 19 then ([], ((exam ps budget.toNat (total ps at_ + 1) at_ [] []).2.1.length : Int), 19)
 else ([], 0, 15)

/-- a sequence of moves, each of which can be made -/
def Legal (ps : List (List Stage)) : List Int → List Int → Prop
 | _, [] => True
 | now, x :: r => ∃ t : Nat, x = (t : Int) ∧ t < ps.length ∧ canMv ps now t = true ∧ Legal ps (stepN now t) r
def runM (now : List Int) (l : List Int) : List Int := l.foldl (fun n x => stepN n x.toNat) now
theorem canMv_lt {ps : List (List Stage)} {now : List Int} {t : Nat} (h : canMv ps now t = true) : nowAt now t < lenAt ps t := by
 simp only [canMv, Bool.and_eq_true, decide_eq_true_eq] at h; exact h.1

section
variable {ps : List (List Stage)} {budget : Nat}
/-- what a call of exam gives -/
structure ExOk (ps : List (List Stage)) (budget : Nat) (now : List Int) (seen : List (List Int)) (mv : List Int) (r : SOut) : Prop where
 code : r.1 = 0 ∨ r.1 = 15 ∨ r.1 = 19
 pre : ∃ l, r.2.1 = seen ++ l
 found : r.1 = 0 → ∃ q, r.2.2 = mv ++ q ∧ Legal ps now q ∧ leftB ps (runM now q) = true
 stuck : r.1 = 19 → now ∈ r.2.1 ∧ ∀ x ∈ r.2.1, x ∈ seen ∨ (leftB ps x = false ∧ ∀ t, t < ps.length → canMv ps x t = true → stepN x t ∈ r.2.1)
 nd : seen.Nodup → now ∉ seen → r.2.1.Nodup
 gd : (∀ x ∈ seen, Gd ps x) → ∀ x ∈ r.2.1, Gd ps x
 le : seen.length ≤ budget → r.2.1.length ≤ budget
 full : r.1 = 15 → seen.length ≤ budget → r.2.1.length = budget
structure TrOk (ps : List (List Stage)) (budget : Nat) (now : List Int) (ts : List Nat) (seen : List (List Int)) (mv : List Int) (r : SOut) : Prop where
 code : r.1 = 0 ∨ r.1 = 15 ∨ r.1 = 19
 pre : ∃ l, r.2.1 = seen ++ l
 found : r.1 = 0 → ∃ q, r.2.2 = mv ++ q ∧ Legal ps now q ∧ leftB ps (runM now q) = true
 stuck : r.1 = 19 → (∀ t ∈ ts, canMv ps now t = true → stepN now t ∈ r.2.1) ∧ ∀ x ∈ r.2.1, x ∈ seen ∨ (leftB ps x = false ∧ ∀ t, t < ps.length → canMv ps x t = true → stepN x t ∈ r.2.1)
 nd : seen.Nodup → r.2.1.Nodup
 gd : (∀ x ∈ seen, Gd ps x) → ∀ x ∈ r.2.1, Gd ps x
 le : seen.length ≤ budget → r.2.1.length ≤ budget
 full : r.1 = 15 → seen.length ≤ budget → r.2.1.length = budget
theorem tryT_ok {rc : List Int → List (List Int) → List Int → SOut} {now : List Int} (hrc : ∀ t, t < ps.length → canMv ps now t = true → ∀ seen mv, ExOk ps budget (stepN now t) seen mv (rc (stepN now t) seen mv)) :
  ∀ (ts : List Nat), (∀ t ∈ ts, t < ps.length) → ∀ seen mv, TrOk ps budget now ts seen mv (tryT ps rc now ts seen mv)
 | [], _, seen, mv => ⟨.inr (.inr rfl), ⟨[], by simp [tryT]⟩, fun h => by simp [tryT] at h, fun _ => ⟨by simp, fun x hx => .inl hx⟩, fun h => h, fun h => h, fun h => h, fun h => by simp [tryT] at h⟩
 | t :: ts, hts, seen, mv => by
  have ht := hts t (by simp)
  have ih := fun seen mv => tryT_ok hrc ts (fun u hu => hts u (by simp [hu])) seen mv
  simp only [tryT]
  by_cases g : (canMv ps now t && !decide (stepN now t ∈ seen)) = true
  ·rw [if_pos g]
   simp only [Bool.and_eq_true, Bool.not_eq_true', decide_eq_false_iff_not] at g
   have hr := hrc t ht g.1 seen (mv ++ [(t : Int)])
   generalize rc (stepN now t) seen (mv ++ [(t : Int)]) = r at *
   by_cases g2 : r.1 = 19
   ·rw [if_pos g2]
    have h2 := ih r.2.1 mv
    generalize tryT ps rc now ts r.2.1 mv = r2 at *
    obtain ⟨l1, e1⟩ := hr.pre
    obtain ⟨l2, e2⟩ := h2.pre
    have hsub : ∀ x ∈ r.2.1, x ∈ r2.2.1 := fun x hx => by rw [e2]; exact List.mem_append_left _ hx
    obtain ⟨s1, s2⟩ := hr.stuck g2
    refine ⟨h2.code, ⟨l1 ++ l2, by rw [e2, e1, List.append_assoc]⟩, h2.found, fun h => ?_, fun h => h2.nd (hr.nd h g.2), fun h => h2.gd (hr.gd h), fun h => h2.le (hr.le h), fun h h' => h2.full h (hr.le h')⟩
    obtain ⟨q1, q2⟩ := h2.stuck h
    refine ⟨fun u hu hc => ?_, fun x hx => ?_⟩
    ·rcases List.mem_cons.1 hu with rfl | hu
     ·exact hsub _ s1
     ·exact q1 u hu hc
    ·rcases q2 x hx with h3 | h3
     ·rcases s2 x h3 with h4 | ⟨h4, h5⟩
      ·exact .inl h4
      ·exact .inr ⟨h4, fun u hu hc => hsub _ (h5 u hu hc)⟩
     ·exact .inr h3
   ·rw [if_neg g2]
    refine ⟨hr.code, hr.pre, fun h => ?_, fun h => absurd h g2, fun h => hr.nd h g.2, hr.gd, hr.le, hr.full⟩
    obtain ⟨q, h1, h2, h3⟩ := hr.found h
    refine ⟨(t : Int) :: q, by rw [h1]; simp, ⟨t, rfl, ht, g.1, h2⟩, ?_⟩
    have : runM now ((t : Int) :: q) = runM (stepN now t) q := by simp [runM]
    rw [this]; exact h3
  ·rw [if_neg g]
   have h2 := ih seen mv
   refine ⟨h2.code, h2.pre, h2.found, fun h => ?_, h2.nd, h2.gd, h2.le, h2.full⟩
   obtain ⟨q1, q2⟩ := h2.stuck h
   obtain ⟨l2, e2⟩ := h2.pre
   refine ⟨fun u hu hc => ?_, q2⟩
   rcases List.mem_cons.1 hu with rfl | hu
   ·rw [hc] at g
    simp at g
    rw [e2]; exact List.mem_append_left _ g
   ·exact q1 u hu hc
theorem exam_ok : ∀ (f : Nat) (now : List Int), Gd ps now → total ps now < f → ∀ seen mv, ExOk ps budget now seen mv (exam ps budget f now seen mv)
 | 0, _, _, h, _, _ => by omega
 | f + 1, now, hg, hf, seen, mv => by
  simp only [exam]
  by_cases g1 : seen.length = budget
  ·rw [if_pos g1]
   exact ⟨.inr (.inl rfl), ⟨[], by simp⟩, fun h => by simp at h, fun h => by simp at h, fun h _ => h, fun h => h, fun h => h, fun _ _ => g1⟩
  ·rw [if_neg g1]
   by_cases g2 : leftB ps now = true
   ·rw [if_pos g2]
    refine ⟨.inl rfl, ⟨[now], rfl⟩, fun _ => ⟨[], by simp, trivial, g2⟩, fun h => by simp at h, fun h1 h2 => List.nodup_append.2 ⟨h1, by simp, fun a ha b hb => by simp at hb; subst hb; rintro rfl; exact h2 ha⟩, fun h x hx => ?_, fun h => by simp; omega, fun h => by simp at h⟩
    rcases List.mem_append.1 hx with hx | hx
    ·exact h x hx
    ·simp at hx; subst hx; exact hg
   ·rw [if_neg g2]
    have h := tryT_ok (rc := exam ps budget f) (now := now) (fun t ht hc seen mv => exam_ok f (stepN now t) (hg.step ht (canMv_lt hc)) (by have := total_step hg ht (canMv_lt hc); unfold stepN; omega) seen mv) (List.range ps.length) (fun t ht => List.mem_range.1 ht) (seen ++ [now]) mv
    generalize tryT ps (exam ps budget f) now (List.range ps.length) (seen ++ [now]) mv = r at *
    obtain ⟨l, e⟩ := h.pre
    refine ⟨h.code, ⟨now :: l, by rw [e]; simp⟩, h.found, fun hs => ?_, fun h1 h2 => h.nd (List.nodup_append.2 ⟨h1, by simp, fun a ha b hb => by simp at hb; subst hb; rintro rfl; exact h2 ha⟩), fun hh => h.gd (fun x hx => ?_), fun hl => h.le (by simp; omega), fun hc hl => h.full hc (by simp; omega)⟩
    ·obtain ⟨q1, q2⟩ := h.stuck hs
     refine ⟨by rw [e]; simp, fun x hx => ?_⟩
     rcases q2 x hx with h3 | h3
     ·rcases List.mem_append.1 h3 with h3 | h3
      ·exact .inl h3
      ·simp at h3; subst h3
       exact .inr ⟨by simpa using g2, fun t ht hc => q1 t (List.mem_range.2 ht) hc⟩
     ·exact .inr h3
    ·rcases List.mem_append.1 hx with hx | hx
     ·exact hh x hx
     ·simp at hx; subst hx; exact hg
/-- what is closed under moves holds all that moves lead to -/
theorem closed_run {S : List (List Int)} (hS : ∀ x ∈ S, leftB ps x = false ∧ ∀ t, t < ps.length → canMv ps x t = true → stepN x t ∈ S) : ∀ (q now : List Int), now ∈ S → Legal ps now q → leftB ps (runM now q) = false
 | [], now, hn, _ => (hS now hn).1
 | x :: q, now, hn, h => by
  obtain ⟨t, rfl, ht, hc, hr⟩ := h
  have : runM now ((t : Int) :: q) = runM (stepN now t) q := by simp [runM]
  rw [this]
  exact closed_run hS q _ ((hS now hn).2 t ht hc) hr

/-- all positions -/
def allPos : List (List Stage) → List (List Int)
 | [] => [[]]
 | p :: ps => (List.range (p.length + 2)).flatMap fun k : Nat => (allPos ps).map fun l => ((k : Int) - 1) :: l
theorem mem_allPos : ∀ (ps : List (List Stage)) (l : List Int), Gd ps l → l ∈ allPos ps
 | [], l, h => by have := h.1; simp at this; subst this; simp [allPos]
 | p :: ps, [], h => by have := h.1; simp at this
 | p :: ps, a :: l, h => by
  have h0 := h.2 0 (by simp)
  simp [nowAt, lenAt] at h0
  simp only [allPos, List.mem_flatMap, List.mem_range, List.mem_map]
  refine ⟨(a + 1).toNat, by omega, l, mem_allPos ps l ⟨by have := h.1; simpa using this, fun t ht => ?_⟩, by congr 1; omega⟩
  have := h.2 (t + 1) (by simp; omega)
  simpa [nowAt, lenAt] using this
theorem allPos_len : ∀ (ps : List (List Stage)), (∀ p ∈ ps, p.length ≤ 4) → (allPos ps).length ≤ 6 ^ ps.length
 | [], _ => by simp [allPos]
 | p :: ps, h => by
  have ih := allPos_len ps (fun q hq => h q (by simp [hq]))
  have hp := h p (by simp)
  have : (allPos (p :: ps)).length = (p.length + 2) * (allPos ps).length := by
   simp only [allPos, List.length_flatMap, List.length_map]
   rw [List.map_const', List.sum_replicate_nat]
   simp
  rw [this, List.length_cons, Nat.pow_succ, Nat.mul_comm]
  exact Nat.mul_le_mul ih (by omega)
theorem nodup_leL {l m : List (List Int)} (hl : l.Nodup) (h : ∀ x ∈ l, x ∈ m) : l.length ≤ m.length := by
 induction l generalizing m with
 | nil => simp
 | cons a l ih =>
  obtain ⟨ha, hl⟩ := List.nodup_cons.1 hl
  have hm := h a (by simp)
  have := ih (m := m.erase a) hl (fun x hx => by
   have hx' := h x (by simp [hx])
   exact (List.mem_erase_of_ne (by rintro rfl; exact ha hx)).2 hx')
  rw [List.length_erase_of_mem hm] at this
  have := List.length_pos_of_mem hm
  simp; omega
/-- the search of made paths never runs out of a great budget, and it finds moves if there are any -/
theorem exam_made (hm : psMade ps) {at_ : List Int} (hg : Gd ps at_) (hb : 216 < budget) : (exam ps budget (total ps at_ + 1) at_ [] []).1 ≠ 15 := by
 have h := exam_ok (ps := ps) (budget := budget) (total ps at_ + 1) at_ hg (by omega) [] []
 intro e
 have h1 := h.full e (by simp)
 have h2 := nodup_leL (h.nd (by simp) (by simp)) (m := allPos ps) (fun x hx => mem_allPos ps x (h.gd (by simp) x hx))
 have h3 := allPos_len ps (fun p hp => (hm.2.2 p hp).2.1)
 have h4 : 6 ^ ps.length ≤ 6 ^ 3 := Nat.pow_le_pow_right (by omega) hm.2.1
 omega
theorem exam_complete {at_ : List Int} (hg : Gd ps at_) {q : List Int} (hq : Legal ps at_ q) (hl : leftB ps (runM at_ q) = true) : (exam ps budget (total ps at_ + 1) at_ [] []).1 ≠ 19 := by
 have h := exam_ok (ps := ps) (budget := budget) (total ps at_ + 1) at_ hg (by omega) [] []
 intro e
 obtain ⟨h1, h2⟩ := h.stuck e
 have := closed_run (S := (exam ps budget (total ps at_ + 1) at_ [] []).2.1) (fun x hx => by
  rcases h2 x hx with h3 | h3
  ·simp at h3
  ·exact h3) q at_ h1 hq
 rw [hl] at this; cases this
end

theorem runM_snoc (now l : List Int) (x : Int) : runM now (l ++ [x]) = stepN (runM now l) x.toNat := by unfold runM; rw [List.foldl_append]; rfl
theorem legal_at {ps : List (List Stage)} : ∀ (mv now : List Int), Gd ps now → Legal ps now mv → ∀ (k : Nat) x, mv[k]? = some x → Gd ps (runM now (mv.take k)) ∧ ∃ t : Nat, x = (t : Int) ∧ t < ps.length ∧ canMv ps (runM now (mv.take k)) t = true
 | [], _, _, _, k, x, h => by simp at h
 | y :: mv, now, hg, hl, k, x, h => by
  obtain ⟨t, rfl, ht, hc, hr⟩ := hl
  cases k with
  | zero => simp at h; subst h; exact ⟨hg, t, rfl, ht, hc⟩
  | succ k =>
   have := legal_at mv (stepN now t) (hg.step ht (canMv_lt hc)) hr k x (by simpa using h)
   have e : runM now (((t : Int) :: mv).take (k + 1)) = runM (stepN now t) (mv.take k) := by simp [runM]
   rw [e]; exact this

theorem Te.far {ps : List (List Stage)} {w wr : World} {N m : Nat} {gs : Nat → Nat} {T : Tab} (h : Te ps w wr N m gs T) {p : Addr} (hN : N ≠ p.block) (hg : ∀ t, t < m → gs t ≠ p.block) (hw : w.heap.size ≤ p.block) (v : Value) : Te ps w (wr.setCell p v) N m gs T := by
 obtain ⟨cur, h1, h2⟩ := h.n
 exact ⟨⟨cur, h1.far hN v, h2⟩, fun t ht => (h.r t ht).far (hg t ht) v, h.inj, h.lo, h.nlo, h.k.setCell (fun hh => absurd hh (by omega)) v⟩

theorem legal_gd {ps : List (List Stage)} : ∀ (q now : List Int), Gd ps now → Legal ps now q → Gd ps (runM now q)
 | [], now, h, _ => h
 | x :: q, now, hg, h => by
  obtain ⟨t, rfl, ht, hc, hr⟩ := h
  have e : runM now ((t : Int) :: q) = runM (stepN now t) q := by simp [runM]
  rw [e]
  exact legal_gd q _ (hg.step ht (canMv_lt hc)) hr
theorem searchP_ok {ps : List (List Stage)} {at_ : List Int} {budget : Int} (hg : Gd ps at_) (h : (searchP ps at_ budget).2.2 = 0) : Legal ps at_ (searchP ps at_ budget).1 ∧ leftB ps (runM at_ (searchP ps at_ budget).1) = true := by
 have hx := exam_ok (ps := ps) (budget := budget.toNat) (total ps at_ + 1) at_ hg (by omega) [] []
 unfold searchP at h ⊢
 by_cases g0 : checkState ps at_ = 0
 ·rw [if_neg (by simpa using g0)] at h ⊢
  by_cases g1 : budget < 1 ∨ 1048576 < budget
  ·rw [if_pos g1] at h; simp at h
  ·rw [if_neg g1] at h ⊢
   by_cases g2 : (exam ps budget.toNat (total ps at_ + 1) at_ [] []).1 = 0
   ·rw [if_pos g2] at h ⊢
    obtain ⟨q, e, h1, h2⟩ := hx.found g2
    simp only [List.nil_append] at e
    rw [e]; exact ⟨h1, h2⟩
   ·rw [if_neg g2] at h
    split at h <;> simp at h
 ·rw [if_pos (by simpa using g0)] at h
  exact absurd h g0

def pos8 (now : List Int) (i : Nat) : Value := .int .i8 (nowAt now i)
def posC (now : List Int) : Array Value := #[pos8 now 0, pos8 now 1, pos8 now 2, pos8 now 3, pos8 now 4, pos8 now 5, pos8 now 6, pos8 now 7, pos8 now 8, pos8 now 9]
def posV (now : List Int) : Value := .agg (posC now)
/-- ten or fewer positions, each of which fits into eight bits -/
def Fits (now : List Int) : Prop := now.length ≤ 10 ∧ ∀ t, -128 ≤ nowAt now t ∧ nowAt now t ≤ 127

/-- block r is a map whose keys are the states ks, each with true -/
structure PMap (w : World) (r n : Nat) (ks : List (List Int)) : Prop where
 ex : ∃ es clock, w.heap[r]? = some (.map es clock) ∧ es.toList.map (·.key) = ks.map posV ∧ ∀ e ∈ es.toList, e.val = .bool true
 fit : ∀ x ∈ ks, Fits x ∧ x.length = n
section
variable {w w' : World} {r n : Nat} {ks : List (List Int)}
theorem PMap.lt (h : PMap w r n ks) : r < w.heap.size := by
 obtain ⟨es, clock, h1, _⟩ := h.ex; exact (Array.getElem?_eq_some_iff.1 h1).1
theorem PMap.kept {C : Foot} (h : PMap w r n ks) (k : Keeps C w w') (hn : ¬ C r) : PMap w' r n ks := by
 obtain ⟨es, clock, h1, h2⟩ := h.ex; exact ⟨⟨es, clock, (k.block r h.lt hn).trans h1, h2⟩, h.fit⟩
theorem PMap.new (w : World) (n : Nat) : PMap (w.alloc (.map #[] 0)) w.heap.size n [] :=
 ⟨⟨#[], 0, heap_alloc_new w _, rfl, by simp⟩, by simp⟩
theorem PMap.len (h : PMap w r n ks) : ∃ es clock, w.heap[r]? = some (.map es clock) ∧ es.size = ks.length := by
 obtain ⟨es, clock, h1, h2, _⟩ := h.ex
 exact ⟨es, clock, h1, by have := congrArg List.length h2; simpa using this⟩

end
end Go.Proofs.Ytilbbpbjhoidhaa
