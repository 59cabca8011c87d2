/- Chapter 37, plain: trying all choices, by the bits of a number. No program in sight. The reference's search of chapter 37 in memory; contract of chosen. Conditions: as each theorem says. -/
import Derived.Test.YtilbbpbjhoidhaaL46
import Derived.Test.YtilbbpbjhoidhaaL47
import Derived.Test.YtilbbpbjhoidhaaL13
import Derived.Test.YtilbbpbjhoidhaaL09
import Derived.Test.YtilbbpbjhoidhaaL35
import Derived.Deep.Cut
namespace Go.Proofs.Ytilbbpbjhoidhaa
open Go.RowKit

/-- the choice that a number's bits tell -/
def csOf (s n : Nat) : List Bool := (List.range n).map fun i => decide (s / 2 ^ i % 2 = 0)
theorem csOf_len (s n : Nat) : (csOf s n).length = n := by simp [csOf]
theorem csOf_at (s : Nat) {n a : Nat} (h : a < n) : (csOf s n)[a]? = some (decide (s / 2 ^ a % 2 = 0)) := by
 unfold csOf
 rw [List.getElem?_map, List.getElem?_range h]
 rfl
theorem csOf_all : ∀ cs : List Bool, ∃ s, s < 2 ^ cs.length ∧ csOf s cs.length = cs
 | [] => ⟨0, by simp, rfl⟩
 | b :: l => by
  obtain ⟨s, h1, h2⟩ := csOf_all l
  refine ⟨(if b = true then 0 else 1) + 2 * s, ?_, ?_⟩
  ·rw [List.length_cons, Nat.pow_succ]; split <;> omega
  ·unfold csOf at h2 ⊢
   rw [List.length_cons, List.range_succ_eq_map, List.map_cons, List.map_map]
   congr 1
   ·cases b with
    | true => simp
    | false => simp
   ·refine Eq.trans (List.map_congr_left fun i _ => ?_) h2
    show decide (((if b = true then 0 else 1) + 2 * s) / 2 ^ (i + 1) % 2 = 0) = _
    have e : ((if b = true then 0 else 1) + 2 * s) / 2 ^ (i + 1) = s / 2 ^ i := by
     rw [Nat.pow_succ, Nat.mul_comm (2 ^ i) 2, ← Nat.div_div_eq_div_mul]
     have e2 : ((if b = true then 0 else 1) + 2 * s) / 2 = s := by split <;> omega
     rw [e2]
    rw [e]
/-- the best of the first choices -/
structure LstI (p : Pb) (s : Nat) (best : Int) (found : Bool) : Prop where
 hit : found = true → ∃ cs, cs.length = (xs p).length ∧ okB p cs = true ∧ costB p cs = best
 low : ∀ k, k < s → okB p (csOf k (xs p).length) = true → found = true ∧ best ≤ costB p (csOf k (xs p).length)
theorem LstI.start (p : Pb) : LstI p 0 0 false := ⟨fun h => (by cases h), fun k h => (by omega)⟩
theorem LstI.bad {p : Pb} {s : Nat} {best : Int} {found : Bool} (h : LstI p s best found) (hk : okB p (csOf s (xs p).length) = false) : LstI p (s + 1) best found :=
 ⟨h.hit, fun k hlt ho => by
  by_cases e : k = s
  ·subst e; rw [hk] at ho; cases ho
  ·exact h.low k (by omega) ho⟩
theorem LstI.take {p : Pb} {s : Nat} {best : Int} {found : Bool} (h : LstI p s best found) (hk : okB p (csOf s (xs p).length) = true) (hb : found = false ∨ costB p (csOf s (xs p).length) < best) : LstI p (s + 1) (costB p (csOf s (xs p).length)) true :=
 ⟨fun _ => ⟨_, csOf_len _ _, hk, rfl⟩, fun k hlt ho => by
  refine ⟨rfl, ?_⟩
  by_cases e : k = s
  ·subst e; exact Int.le_refl _
  ·obtain ⟨h1, h2⟩ := h.low k (by omega) ho
   rcases hb with hb | hb
   ·rw [hb] at h1; cases h1
   ·omega⟩
theorem LstI.leave {p : Pb} {s : Nat} {best : Int} {found : Bool} (h : LstI p s best found) (hf : found = true) (hb : ¬ costB p (csOf s (xs p).length) < best) : LstI p (s + 1) best found :=
 ⟨h.hit, fun k hlt ho => by
  by_cases e : k = s
  ·subst e; exact ⟨hf, by omega⟩
  ·exact h.low k (by omega) ho⟩
theorem LstI.done {p : Pb} {best : Int} {found : Bool} (h : LstI p (2 ^ (xs p).length) best found) (hc : checkP p = true) (hn : (xs p).length ≤ 8) : (found = true ∧ (solveP 5000 p).2.2 = 0 ∧ (solveP 5000 p).1.cost = best) ∨ (found = false ∧ (solveP 5000 p).2.2 = 19) := by
 have hst : (searchD (5000 : Int).toNat p).1 = true := by
  rw [searchD_eq]
  refine (decF_steps (p := p) (5000 : Int).toNat (xs p).length [] ⟨0, none⟩ ?_).1
  show 0 + 2 ^ ((xs p).length + 1) ≤ 5000 + 2
  have h1 : 2 ^ ((xs p).length + 1) ≤ 2 ^ 9 := Nat.pow_le_pow_right (by omega) (by omega)
  have h2 : (2 : Nat) ^ 9 = 512 := rfl
  omega
 obtain ⟨g1, g2⟩ := search_ok hc (5000 : Int).toNat
 rcases solve_cases hc (b := 5000) (by omega) with ⟨e, _⟩ | ⟨_, e, e2⟩ | ⟨bs, c, f, best', e⟩
 ·rw [hst] at e; cases e
 ·right
  refine ⟨?_, by rw [e2]⟩
  cases hf : found with
  | false => rfl
  | true =>
   obtain ⟨cs, l1, l2, _⟩ := h.hit hf
   obtain ⟨b, c, hb, _⟩ := g2 hst cs l1 l2
   rw [e] at hb; cases hb
 ·left
  obtain ⟨l1, o1, c1⟩ := g1 bs c best'
  obtain ⟨k, hk, hk2⟩ := csOf_all bs
  rw [l1] at hk hk2
  obtain ⟨h1, h2⟩ := h.low k hk (by rw [hk2]; exact o1)
  rw [hk2] at h2
  obtain ⟨cs, m1, m2, m3⟩ := h.hit h1
  obtain ⟨b', c', hb, hle⟩ := g2 hst cs m1 m2
  rw [best'] at hb
  injection hb with hb
  injection hb with hb1 hb2
  refine ⟨h1, by rw [e], ?_⟩
  rw [e]
  show c = best
  omega

abbrev RPrs := RSlice 5 RPr
theorem RPrs.ok : Rd.Ok RPrs := RSlice.ok RPr.ok
theorem RPrs.at_ {w : World} {S : Foot} {A : Option Addr} {n c : Nat} {l : List Pr} (h : RPrs w S [.slice A n c] l) {k : Nat} (hk : k < l.length) :
  ∃ b o x, A = some ⟨b, o, none⟩ ∧ S b ∧ l[k]? = some x ∧ w.cell? ⟨b, o + k * 5, none⟩ = some (.int .i64 x.res) ∧ w.cell? ⟨b, o + k * 5 + 1, none⟩ = some (.int .i64 x.u.tr) ∧ w.cell? ⟨b, o + k * 5 + 2, none⟩ = some (.int .i64 x.u.st) ∧ w.cell? ⟨b, o + k * 5 + 3, none⟩ = some (.int .i64 x.v.tr) ∧ w.cell? ⟨b, o + k * 5 + 4, none⟩ = some (.int .i64 x.v.st) := by
 obtain ⟨b, o, x, es, rfl, hb, hx, h1, h2, h3⟩ := h.get hk
 cases h2
 exact ⟨b, o, x, rfl, hb, hx, by simpa using h3 0 _ rfl, by simpa [Nat.add_assoc] using h3 1 _ rfl, by simpa [Nat.add_assoc] using h3 2 _ rfl, by simpa [Nat.add_assoc] using h3 3 _ rfl, by simpa [Nat.add_assoc] using h3 4 _ rfl⟩
def rdC (v : PV) (p : Pb) (Ap : Option Addr) (cp budget used : Nat) (vf : Value) (fd : Bool) (vb : Value) (vc : Int) (ve : Value) : Array Value :=
 #[.slice v.A p.ps.length v.c, .slice v.A2 p.at_.length v.c2, .slice v.A3 p.due.length v.c3, .slice v.A4 p.wgt.length v.c4, .int .i64 p.now, .slice Ap (xs p).length cp, .int .i64 (budget : Int), .int .i64 (used : Int), vf, .bool fd, vb, .int .i64 vc, ve]
/-- the best choice so far -/
def RBest (w : World) (S : Foot) (p : Pb) (best : Option (List Bool × Int)) (fd : Bool) (vb : Value) (vc : Int) (ve : Value) : Prop :=
 match best with
 | none => fd = false
 | some b => fd = true ∧ vc = b.2 ∧ RBools w S [vb] b.1 ∧ RIntss w S [ve] (entB p b.1)
theorem RBest.mono {w w' : World} {S S' : Foot} {p : Pb} {best : Option (List Bool × Int)} {fd : Bool} {vb : Value} {vc : Int} {ve : Value} (h : RBest w S p best fd vb vc ve) (hS : ∀ b, S b → S' b) (hw : ∀ b, S b → w'.heap[b]? = w.heap[b]?) : RBest w' S' p best fd vb vc ve := by
 unfold RBest at *
 cases best with
 | none => exact h
 | some b => exact ⟨h.1, h.2.1, RBools.ok.mono h.2.2.1 hS hw, RIntss.ok.mono h.2.2.2 hS hw⟩
def SBt (rb : Nat) (w : World) (vf : Value) : Foot := fun b => rb < b ∧ b < w.heap.size ∧ vf.ownBlock ≠ some b
/-- the search in memory -/
structure RDs (w0 : World) (rb : Nat) (v : PV) (p : Pb) (Ap : Option Addr) (cp budget : Nat) (w : World) (bs : List Bool) (st : SSt) : Prop where
 k : KeepsAll w0 w
 P : RPb w0 (Old w0) v p
 lo : w0.heap.size ≤ rb
 pr : RPrs w (fun b => b < rb) [.slice Ap (xs p).length cp] (xs p)
 b : ∃ vf fd vb vc ve, Blk w rb 90 (rdC v p Ap cp budget st.steps vf fd vb vc ve) ∧ OwnL 4 1 RBool w (rb + 1) (rb + 1) vf bs ∧ RBest w (SBt rb w vf) p st.best fd vb vc ve
section
variable {w0 w w' : World} {rb : Nat} {v : PV} {p : Pb} {Ap : Option Addr} {cp budget : Nat} {bs : List Bool} {st : SSt}
theorem RDs.rlt (h : RDs w0 rb v p Ap cp budget w bs st) : rb < w.heap.size := by obtain ⟨_, _, _, _, _, hb, _⟩ := h.b; exact hb.lt
theorem RDs.keep (h : RDs w0 rb v p Ap cp budget w bs st) (k : KeepsAll w w') : RDs w0 rb v p Ap cp budget w' bs st := by
 obtain ⟨vf, fd, vb, vc, ve, h1, h2, h3⟩ := h.b
 have hz := h.rlt
 refine ⟨h.k.tr k, h.P, h.lo, RPrs.ok.mono h.pr (fun _ hb => hb) (fun b hb => k.block b (by have : b < rb := hb; omega) (by simp)), vf, fd, vb, vc, ve, h1.kept k (by simp), h2.keepsF RBool.flat k (by simp), h3.mono (fun b hb => ⟨hb.1, Nat.lt_of_lt_of_le hb.2.1 k.size, hb.2.2⟩) (fun b hb => k.block b hb.2.1 (by simp))⟩
/-- what the functions read -/
theorem RDs.rpb (h : RDs w0 rb v p Ap cp budget w bs st) : RPb w (Old w) v p := h.P.kept h.k
end
theorem decs_take (ps : List (List Stage)) {l : List Pr} {bs : List Bool} {i : Nat} {x : Pr} {b : Bool} (hx : l[i]? = some x) (hb : bs[i]? = some b) : decs ps l (bs.take (i + 1)) = decs ps l (bs.take i) ++ [dArc ps x b] := by
 have hl : (bs.take i).length = i := by rw [List.length_take]; have := getElem?_lt hb; omega
 rw [List.take_add_one, hb, Option.toList_some, decs_snoc ps b (by rw [hl]; exact hx)]
/-- Between at a pair -/
theorem betw_pr {p : Pb} (hv : valid p.ps = true) {v : PV} {w : World} (h : RPb w (Old w) v p) {r : Int} {u y : Ref} (hu : u ∈ openA p.ps p.at_ r) :
  Calls Try.prog 24 #[.slice v.A p.ps.length v.c, .int .i64 r, .agg #[.int .i64 u.tr, .int .i64 u.st], .agg #[.int .i64 y.tr, .int .i64 y.st]] w fun e w' => e = .returned (.agg #[.int .i64 (betw p.ps r u y).frm.tr, .int .i64 (betw p.ps r u y).frm.st, .int .i64 y.tr, .int .i64 y.st, .int .i64 0]) ∧ KeepsAll w w' := by
 unfold openA openU at hu
 obtain ⟨hu, _⟩ := List.mem_filter.1 hu
 obtain ⟨tw, kw, pw, sw, hpw, hsw, _, rfl⟩ := mem_allU.1 hu
 have hk : kw ≤ 1000000 := by
  have h1 := getElem?_lt hsw
  have h2 := ((valid_lens hv).2 pw (List.mem_of_getElem? hpw)).2
  omega
 have h1 := relOf_tr p.ps r ⟨(tw : Int), (kw : Int)⟩
 refine (Between_any p.ps r v.A v.c w h.P tw kw pw sw y hpw hsw hk).mono ?_
 rintro e w' ⟨rfl, hk⟩
 refine ⟨?_, hk⟩
 show _ = Ending.returned (.agg #[.int .i64 (relOf p.ps r ⟨(tw : Int), (kw : Int)⟩).tr, _, _, _, _])
 rw [h1]
 rfl

end Go.Proofs.Ytilbbpbjhoidhaa
