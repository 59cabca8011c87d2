/- Contract of the recursive search of takeover.Identify. Conditions: as each theorem says. -/
import Derived.Test.YtigmldildefdgaaIdent
namespace Go.Proofs.Ytigmldildefdgaa
open Go.RowKit

/-- the search's struct with its fields as they stand -/
structure IdRaw (w : World) (g : Nat) (A : Option Addr) (c : Nat) (ps : List (List Stage)) (A2 : Option Addr) (c2 : Nat) (exp : List Int) (mis : Int) (budget steps : Nat) (f : Int → Option Value) (at_ : List Int) (vat : Value) (best : List Int) (sm : Int) (un : Bool) : Prop where
  blk : ∃ vb, Blk w g 87 #[.slice A ps.length c, .slice A2 exp.length c2, .map (some (g + 1)), .int .i64 mis, .int .i64 budget, .int .i64 steps, vat, vb, .int .i64 sm, .bool un] ∧
    RInts w (fun b => g + 2 ≤ b ∧ b < w.heap.size ∧ vat.ownBlock ≠ some b) [vb] best
  map : ∃ ks, MapIs w (g + 1) ks f
  at_ : OwnL 3 1 RInt w (g + 2) (g + 2) vat at_
  pth : RPaths w (fun b => b < g) [.slice A ps.length c] ps
  ex : RInts w (fun b => b < g) [.slice A2 exp.length c2] exp

section
variable {w w' : World} {g : Nat} {A : Option Addr} {c : Nat} {ps : List (List Stage)} {A2 : Option Addr} {c2 : Nat} {exp occ : List Int} {budget : Nat} {at_ held : List Int} {vat : Value} {s : ISt}
  {mis : Int} {steps : Nat} {f : Int → Option Value} {best : List Int} {sm : Int} {un : Bool}
theorem IdSt.raw (h : IdSt w g A c ps A2 c2 exp occ budget at_ held vat s) : IdRaw w g A c ps A2 c2 exp ((occ.length : Int) - (held.length : Int)) budget s.steps (freeF occ held) at_ vat s.best (if s.found = 0 then -1 else s.sum) (decide (s.found = 1)) := ⟨h.blk, h.map, h.at_, h.pth, h.ex⟩
theorem IdRaw.st (h : IdRaw w g A c ps A2 c2 exp ((occ.length : Int) - (held.length : Int)) budget s.steps (freeF occ held) at_ vat s.best (if s.found = 0 then -1 else s.sum) (decide (s.found = 1))) (h1 : held.Nodup) (h2 : ∀ x ∈ held, x ∈ occ) (h3 : s.found ≠ 0 → 0 ≤ s.sum ∧ s.sum ≤ 1000) :
    IdSt w g A c ps A2 c2 exp occ budget at_ held vat s := ⟨h.blk, h.map, h.at_, h.pth, h.ex, h1, h2, h3⟩
theorem IdRaw.lt (h : IdRaw w g A c ps A2 c2 exp mis budget steps f at_ vat best sm un) : g + 1 < w.heap.size := by obtain ⟨ks, hm⟩ := h.map; exact hm.lt
theorem IdRaw.keeps0 (h : IdRaw w g A c ps A2 c2 exp mis budget steps f at_ vat best sm un) (k : KeepsAll w w') : IdRaw w' g A c ps A2 c2 exp mis budget steps f at_ vat best sm un := by
  have hg := h.lt
  obtain ⟨vb, h1, h2⟩ := h.blk
  obtain ⟨ks, hm⟩ := h.map
  refine ⟨⟨vb, h1.kept k (by simp), k.rd RInts.ok h2 (fun b hb => ⟨hb.2.1, by simp⟩) (fun b hb => ⟨hb.1, Nat.lt_of_lt_of_le hb.2.1 k.size, hb.2.2⟩)⟩, ⟨ks, hm.kept k (by simp)⟩, h.at_.keeps RInt.ok k (fun _ _ h => h.elim), ?_, ?_⟩
  · exact k.rd RPaths.ok h.pth (fun b hb => ⟨by omega, by simp⟩) (fun _ h => h)
  · exact k.rd RInts.ok h.ex (fun b hb => ⟨by omega, by simp⟩) (fun _ h => h)
/-- the struct alone has turned, at is as it was -/
theorem IdRaw.set {mis' : Int} {steps' : Nat} (h : IdRaw w g A c ps A2 c2 exp mis budget steps f at_ vat best sm un) (k : Keeps (· = g) w w')
    (hb : ∀ vb, Blk w g 87 #[.slice A ps.length c, .slice A2 exp.length c2, .map (some (g + 1)), .int .i64 mis, .int .i64 budget, .int .i64 steps, vat, vb, .int .i64 sm, .bool un] → Blk w' g 87 #[.slice A ps.length c, .slice A2 exp.length c2, .map (some (g + 1)), .int .i64 mis', .int .i64 budget, .int .i64 steps', vat, vb, .int .i64 sm, .bool un]) :
    IdRaw w' g A c ps A2 c2 exp mis' budget steps' f at_ vat best sm un := by
  have hg := h.lt
  obtain ⟨vb, h1, h2⟩ := h.blk
  obtain ⟨ks, hm⟩ := h.map
  refine ⟨⟨vb, hb vb h1, k.rd RInts.ok h2 (fun b hb => ⟨hb.2.1, by omega⟩) (fun b hb => ⟨hb.1, Nat.lt_of_lt_of_le hb.2.1 k.size, hb.2.2⟩)⟩, ⟨ks, hm.kept k (by omega)⟩, h.at_.keeps RInt.ok k (fun b _ h => by omega), ?_, ?_⟩
  · exact k.rd RPaths.ok h.pth (fun b hb => ⟨by omega, by omega⟩) (fun _ h => h)
  · exact k.rd RInts.ok h.ex (fun b hb => ⟨by omega, by omega⟩) (fun _ h => h)
theorem IdRaw.setSteps (h : IdRaw w g A c ps A2 c2 exp mis budget steps f at_ vat best sm un) (n : Nat) (k : Nat) : IdRaw ((w.drewN k).setCell ⟨g, 5, none⟩ (.int .i64 n)) g A c ps A2 c2 exp mis budget n f at_ vat best sm un :=
  h.set (((Keeps.refl (· = g) w).drewN k).setCell (p := ⟨g, 5, none⟩) (fun _ => rfl) _) (fun vb hb => by have := (show Blk (w.drewN k) g _ _ from hb).set_ 5 (.int .i64 n); simpa using this)
theorem IdRaw.setMis (h : IdRaw w g A c ps A2 c2 exp mis budget steps f at_ vat best sm un) (n : Int) : IdRaw (w.setCell ⟨g, 3, none⟩ (.int .i64 n)) g A c ps A2 c2 exp n budget steps f at_ vat best sm un :=
  h.set ((Keeps.refl (· = g) w).setCell (p := ⟨g, 3, none⟩) (fun _ => rfl) _) (fun vb hb => by have := hb.set_ 3 (.int .i64 n); simpa using this)
/-- the map alone has turned -/
theorem IdRaw.setMap {f' : Int → Option Value} (h : IdRaw w g A c ps A2 c2 exp mis budget steps f at_ vat best sm un) (k : Keeps (· = g + 1) w w') (hm : ∃ ks, MapIs w' (g + 1) ks f') : IdRaw w' g A c ps A2 c2 exp mis budget steps f' at_ vat best sm un := by
  have hg := h.lt
  obtain ⟨vb, h1, h2⟩ := h.blk
  refine ⟨⟨vb, h1.kept k (by omega), k.rd RInts.ok h2 (fun b hb => ⟨hb.2.1, by omega⟩) (fun b hb => ⟨hb.1, Nat.lt_of_lt_of_le hb.2.1 k.size, hb.2.2⟩)⟩, hm, h.at_.keeps RInt.ok k (fun b _ h => by omega), ?_, ?_⟩
  · exact k.rd RPaths.ok h.pth (fun b hb => ⟨by omega, by omega⟩) (fun _ h => h)
  · exact k.rd RInts.ok h.ex (fun b hb => ⟨by omega, by omega⟩) (fun _ h => h)
theorem IdRaw.push {o : Obj} {vat' : Value} {x : Int} (h : IdRaw w g A c ps A2 c2 exp mis budget steps f at_ vat best sm un) (ho : OwnL 3 1 RInt w' (g + 2) (g + 2) vat' (at_ ++ [x])) (k : Keeps (fun b => vat.ownBlock = some b) (w.alloc o) w')
    (ha : vat'.ownBlock = vat.ownBlock ∨ vat'.ownBlock = some (w.alloc o).heap.size) : IdRaw (w'.setCell ⟨g, 6, none⟩ vat') g A c ps A2 c2 exp mis budget steps f (at_ ++ [x]) vat' best sm un := by
  have hg := h.lt
  obtain ⟨vb, h1, h2⟩ := h.blk
  obtain ⟨ks, hm⟩ := h.map
  have far : ∀ b, b < g + 2 → ¬ (vat.ownBlock = some b) := fun b hb e => by have := h.at_.lt e; omega
  have k2 : Keeps (fun b => vat.ownBlock = some b) w w' := ((Keeps.refl _ w).alloc o).trans k (fun _ _ h => h)
  have k3 : Keeps (fun b => vat.ownBlock = some b ∨ b = g) w (w'.setCell ⟨g, 6, none⟩ vat') := (k2.mono (fun _ _ h => .inl h)).setCell (p := ⟨g, 6, none⟩) (fun _ => .inr rfl) _
  have kg := (Keeps.refl (· = g) w').setCell (p := ⟨g, 6, none⟩) (fun _ => rfl) vat'
  refine ⟨⟨vb, ?_, ?_⟩, ⟨ks, hm.kept k3 (fun e => by rcases e with e | e; exact far _ (by omega) e; omega)⟩, ho.keeps RInt.ok kg (fun b _ e => by omega), ?_, ?_⟩
  · have := (h1.kept k2 (far g (by omega))).set_ 6 vat'; simpa using this
  · refine k3.rd RInts.ok h2 (fun b hb => ⟨hb.2.1, fun e => by rcases e with e | e; exact hb.2.2 e; omega⟩) (fun b hb => ⟨hb.1, Nat.lt_of_lt_of_le hb.2.1 k3.size, fun e => ?_⟩)
    rcases ha with ha | ha
    · exact hb.2.2 (by rw [← ha]; exact e)
    · rw [ha] at e; injection e with e; have := hb.2.1; simp at e; omega
  · exact k3.rd RPaths.ok h.pth (fun b hb => ⟨by omega, fun e => by rcases e with e | e; exact far b (by omega) e; omega⟩) (fun _ h => h)
  · exact k3.rd RInts.ok h.ex (fun b hb => ⟨by omega, fun e => by rcases e with e | e; exact far b (by omega) e; omega⟩) (fun _ h => h)
theorem IdRaw.cut {Aa : Addr} {n cc t : Nat} (h : IdRaw w g A c ps A2 c2 exp mis budget steps f at_ (.slice (some Aa) n cc) best sm un) (ht : t ≤ at_.length) : IdRaw (w.setCell ⟨g, 6, none⟩ (.slice (some Aa) t cc)) g A c ps A2 c2 exp mis budget steps f (at_.take t) (.slice (some Aa) t cc) best sm un := by
  have hg := h.lt
  obtain ⟨vb, h1, h2⟩ := h.blk
  obtain ⟨ks, hm⟩ := h.map
  have k := (Keeps.refl (· = g) w).setCell (p := ⟨g, 6, none⟩) (fun _ => rfl) (.slice (some Aa) t cc)
  refine ⟨⟨vb, by have := h1.set_ 6 (.slice (some Aa) t cc); simpa using this, k.rd RInts.ok h2 (fun b hb => ⟨hb.2.1, by omega⟩) (fun b hb => ⟨hb.1, Nat.lt_of_lt_of_le hb.2.1 k.size, hb.2.2⟩)⟩, ⟨ks, hm.kept k (by omega)⟩, (h.at_.cut ht (.inl (by simp))).keeps RInt.ok k (fun b _ h => by omega), ?_, ?_⟩
  · exact k.rd RPaths.ok h.pth (fun b hb => ⟨by omega, by omega⟩) (fun _ h => h)
  · exact k.rd RInts.ok h.ex (fun b hb => ⟨by omega, by omega⟩) (fun _ h => h)
end

end Go.Proofs.Ytigmldildefdgaa
