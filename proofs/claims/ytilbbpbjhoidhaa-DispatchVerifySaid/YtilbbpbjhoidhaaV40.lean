/- The reference's search of chapter 37 in memory; contract of chosen. Conditions: as each theorem says. -/
import Derived.Test.YtilbbpbjhoidhaaV39
import Derived.Test.YtilbbpbjhoidhaaV12
import Derived.Test.YtilbbpbjhoidhaaV08
import Derived.Test.YtilbbpbjhoidhaaV30
import Derived.Deep.Cut
namespace Go.Proofs.Ytilbbpbjhoidhaa
open Go.RowKit

abbrev RPrs := RSlice 5 RPr
theorem RPrs.ok : Rd.Ok RPrs := RSlice.ok RPr.ok
theorem RPrs.at_ {w : World} {S : Foot} {A : Option Addr} {n c : Nat} {l : List Pr} (h : RPrs w S [.slice A n c] l) {k : Nat} (hk : k < l.length) :
  ∃ b o x, A = some ⟨b, o, none⟩ ∧ S b ∧ l[k]? = some x ∧ w.cell? ⟨b, o + k * 5, none⟩ = some (.int .i64 x.res) ∧ w.cell? ⟨b, o + k * 5 + 1, none⟩ = some (.int .i64 x.u.tr) ∧ w.cell? ⟨b, o + k * 5 + 2, none⟩ = some (.int .i64 x.u.st) ∧ w.cell? ⟨b, o + k * 5 + 3, none⟩ = some (.int .i64 x.v.tr) ∧ w.cell? ⟨b, o + k * 5 + 4, none⟩ = some (.int .i64 x.v.st) := by
 obtain ⟨b, o, x, es, rfl, hb, hx, h1, h2, h3⟩ := h.get hk
 cases h2
 exact ⟨b, o, x, rfl, hb, hx, by simpa using h3 0 _ rfl, by simpa [Nat.add_assoc] using h3 1 _ rfl, by simpa [Nat.add_assoc] using h3 2 _ rfl, by simpa [Nat.add_assoc] using h3 3 _ rfl, by simpa [Nat.add_assoc] using h3 4 _ rfl⟩
def rdC (v : PV) (p : Pb) (Ap : Option Addr) (cp budget used : Nat) (vf : Value) (fd : Bool) (vb : Value) (vc : Int) (ve : Value) : Array Value :=
 #[.slice v.A p.ps.length v.c, .slice v.A2 p.at_.length v.c2, .slice v.A3 p.due.length v.c3, .slice v.A4 p.wgt.length v.c4, .int .i64 p.now, .slice Ap (xs p).length cp, .int .i64 (budget : Int), .int .i64 (used : Int), vf, .bool fd, vb, .int .i64 vc, ve]
def RBest (w : World) (S : Foot) (p : Pb) (best : Option (List Bool × Int)) (fd : Bool) (vb : Value) (vc : Int) (ve : Value) : Prop :=
 match best with
 | none => fd = false
 | some b => fd = true ∧ vc = b.2 ∧ RBools w S [vb] b.1 ∧ RIntss w S [ve] (entB p b.1)
theorem RBest.mono {w w' : World} {S S' : Foot} {p : Pb} {best : Option (List Bool × Int)} {fd : Bool} {vb : Value} {vc : Int} {ve : Value} (h : RBest w S p best fd vb vc ve) (hS : ∀ b, S b → S' b) (hw : ∀ b, S b → w'.heap[b]? = w.heap[b]?) : RBest w' S' p best fd vb vc ve := by
 unfold RBest at *
 cases best with
 | none => exact h
 | some b => exact ⟨h.1, h.2.1, RBools.ok.mono h.2.2.1 hS hw, RIntss.ok.mono h.2.2.2 hS hw⟩
def SBt (rb : Nat) (w : World) (vf : Value) : Foot := fun b => rb < b ∧ b < w.heap.size ∧ vf.ownBlock ≠ some b
structure RDs (w0 : World) (rb : Nat) (v : PV) (p : Pb) (Ap : Option Addr) (cp budget : Nat) (w : World) (bs : List Bool) (st : SSt) : Prop where
 k : KeepsAll w0 w
 P : RPb w0 (Old w0) v p
 lo : w0.heap.size ≤ rb
 pr : RPrs w (fun b => b < rb) [.slice Ap (xs p).length cp] (xs p)
 b : ∃ vf fd vb vc ve, Blk w rb 90 (rdC v p Ap cp budget st.steps vf fd vb vc ve) ∧ OwnL 4 1 RBool w (rb + 1) (rb + 1) vf bs ∧ RBest w (SBt rb w vf) p st.best fd vb vc ve
section
variable {w0 w w' : World} {rb : Nat} {v : PV} {p : Pb} {Ap : Option Addr} {cp budget : Nat} {bs : List Bool} {st : SSt}
theorem RDs.rlt (h : RDs w0 rb v p Ap cp budget w bs st) : rb < w.heap.size := by obtain ⟨_, _, _, _, _, hb, _⟩ := h.b; exact hb.lt
theorem RDs.keep (h : RDs w0 rb v p Ap cp budget w bs st) (k : KeepsAll w w') : RDs w0 rb v p Ap cp budget w' bs st := by
 obtain ⟨vf, fd, vb, vc, ve, h1, h2, h3⟩ := h.b
 have hz := h.rlt
 refine ⟨h.k.tr k, h.P, h.lo, RPrs.ok.mono h.pr (fun _ hb => hb) (fun b hb => k.block b (by have : b < rb := hb; omega) (by simp)), vf, fd, vb, vc, ve, h1.kept k (by simp), h2.keepsF RBool.flat k (by simp), h3.mono (fun b hb => ⟨hb.1, Nat.lt_of_lt_of_le hb.2.1 k.size, hb.2.2⟩) (fun b hb => k.block b hb.2.1 (by simp))⟩
theorem RDs.rpb (h : RDs w0 rb v p Ap cp budget w bs st) : RPb w (Old w) v p := h.P.kept h.k
end

end Go.Proofs.Ytilbbpbjhoidhaa
