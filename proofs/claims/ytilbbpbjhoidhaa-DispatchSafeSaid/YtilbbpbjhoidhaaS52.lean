/- The reference's search of chapter 36: contract of examine. Conditions: as each theorem says. -/
import Derived.Test.YtilbbpbjhoidhaaS51
import Derived.Test.YtilbbpbjhoidhaaS09
namespace Go.Proofs.Ytilbbpbjhoidhaa
open Go.RowKit

def OwnC (rb : Nat) (vs vp : Value) : Foot := fun b => b = rb ∨ vs.ownBlock = some b ∨ vp.ownBlock = some b
def AtF (w : World) (rb : Nat) (vs vp : Value) : Foot := fun b => b < w.heap.size ∧ ¬ OwnC rb vs vp b
/-- what a part of the search may turn -/
structure EvX (w : World) (rb : Nat) (vs vp : Value) (w' : World) (vs' vp' : Value) : Prop where
 k : Keeps (OwnC rb vs vp) w w'
 o : ∀ b, OwnC rb vs' vp' b → OwnC rb vs vp b ∨ w.heap.size ≤ b
theorem EvX.refl (w : World) (rb : Nat) (vs vp : Value) : EvX w rb vs vp w vs vp := ⟨Keeps.refl _ _, fun _ h => .inl h⟩
theorem EvX.trans {w w' w'' : World} {rb : Nat} {vs vp vs' vp' vs'' vp'' : Value} (h : EvX w rb vs vp w' vs' vp') (k : EvX w' rb vs' vp' w'' vs'' vp'') : EvX w rb vs vp w'' vs'' vp'' :=
 ⟨h.k.trans k.k (fun b hb hc => by rcases h.o b hc with h1 | h1; exact h1; omega), fun b hb => by
  rcases k.o b hb with h1 | h1
  ·exact h.o b h1
  ·right; have := h.k.size; omega⟩
theorem EvX.keep {w w' w'' : World} {rb : Nat} {vs vp vs' vp' : Value} (h : EvX w rb vs vp w' vs' vp') (k : KeepsAll w' w'') : EvX w rb vs vp w'' vs' vp' := h.trans ⟨k.mono (fun _ _ h => h.elim), fun _ h => .inl h⟩
theorem EvX.at_ {w w' : World} {rb : Nat} {vs vp vs' vp' : Value} (h : EvX w rb vs vp w' vs' vp') {cs : List Value} {x : List Int} (hr : RInts w (AtF w rb vs vp) cs x) : RInts w' (AtF w' rb vs' vp') cs x :=
 h.k.rd RInts.ok hr (fun b hb => hb) (fun b hb => ⟨Nat.lt_of_lt_of_le hb.1 h.k.size, fun hc => by
  rcases h.o b hc with h1 | h1
  ·exact hb.2 h1
  ·have := hb.1; omega⟩)
theorem AtF.old {w : World} {rb : Nat} {vs vp : Value} {cs : List Value} {x : List Int} (hr : RInts w (AtF w rb vs vp) cs x) : RInts w (Old w) cs x := RInts.ok.mono hr (fun _ hb => hb.1) (fun _ _ => rfl)
section
variable {w0 w w' : World} {rb : Nat} {A : Option Addr} {c : Nat} {ps : List (List Stage)} {budget used : Nat} {vs : List Value} {seen : List (List Int)} {vseen vseen' vplan vplan' : Value} {plan plan' : List Int}
theorem RSr.evP (_h : RSr w0 w rb A c ps budget used vs seen vseen vplan plan) (k : Keeps (fun b => vplan.ownBlock = some b) w w') (ho : vplan'.ownBlock = vplan.ownBlock ∨ ∃ b, vplan'.ownBlock = some b ∧ w.heap.size ≤ b) : EvX w rb vseen vplan (w'.setCell ⟨rb, 4, none⟩ vplan') vseen vplan' := by
 refine ⟨Keeps.setCell (C := OwnC rb vseen vplan) (k.mono (fun b _ h => .inr (.inr h))) (p := ⟨rb, 4, none⟩) (fun _ => .inl rfl) _, fun b hb => ?_⟩
 rcases hb with hb | hb | hb
 ·exact .inl (.inl hb)
 ·exact .inl (.inr (.inl hb))
 ·rcases ho with e | ⟨b', e, hb'⟩
  ·rw [e] at hb; exact .inl (.inr (.inr hb))
  ·rw [e] at hb; injection hb with hb; exact .inr (by omega)
theorem RSr.evStep (w : World) (rb u : Nat) (vseen vplan : Value) : EvX w rb vseen vplan (w.setCell ⟨rb, 2, none⟩ (.int .i64 (u : Int))) vseen vplan :=
 ⟨Keeps.setCell (C := OwnC rb vseen vplan) (Keeps.refl _ _) (p := ⟨rb, 2, none⟩) (fun _ => .inl rfl) _, fun _ h => .inl h⟩
/-- one more state -/
theorem RSr.setS (h : RSr w0 w rb A c ps budget used vs seen vseen vplan plan) {v : Value} {x : List Int} (hx : Gd ps x) (hr : RInts w (RowF w rb vseen vplan) [v] x) (k : Keeps (fun b => vseen.ownBlock = some b) w w') (hm : OwnL 22 1 RVal w' (rb + 1) (rb + 1) vseen' (vs ++ [v])) (ho : vseen'.ownBlock = vseen.ownBlock ∨ ∃ b, vseen'.ownBlock = some b ∧ w.heap.size ≤ b) :
  RSr w0 (w'.setCell ⟨rb, 3, none⟩ vseen') rb A c ps budget used (vs ++ [v]) (seen ++ [x]) vseen' vplan plan ∧ EvX w rb vseen vplan (w'.setCell ⟨rb, 3, none⟩ vseen') vseen' vplan := by
 have hlo := h.lo
 have hpl := fun b (e : vplan.ownBlock = some b) => h.po.lt e
 have hsl := fun b (e : vseen.ownBlock = some b) => h.so.lt e
 have k2 : Keeps (fun b => b = rb ∨ vseen.ownBlock = some b) w (w'.setCell ⟨rb, 3, none⟩ vseen') := (k.mono (fun b _ h => .inr h)).setCell (p := ⟨rb, 3, none⟩) (fun _ => .inl rfl) _
 have hz : (w'.setCell ⟨rb, 3, none⟩ vseen').heap.size = w'.heap.size := by simp [World.setCell]
 have hws := k.size
 have hrow : ∀ v x, RInts w (RowF w rb vseen vplan) [v] x → RInts (w'.setCell ⟨rb, 3, none⟩ vseen') (RowF (w'.setCell ⟨rb, 3, none⟩ vseen') rb vseen' vplan) [v] x := fun v x hr => by
  refine k2.rd RInts.ok hr (fun b hb => ⟨hb.2.1, fun e => ?_⟩) (fun b hb => ⟨hb.1, by rw [hz]; exact Nat.lt_of_lt_of_le hb.2.1 hws, fun e => ?_, hb.2.2.2⟩)
  ·rcases e with e | e
   ·have := hb.1; omega
   ·exact hb.2.2.1 e
  ·rcases ho with e2 | ⟨b', e2, hb'⟩
   ·rw [e2] at e; exact hb.2.2.1 e
   ·rw [e2] at e; injection e with e; have := hb.2.1; omega
 refine ⟨⟨?_, hm.keepsF RVal.flat (Keeps.setCell (C := (· = rb)) (Keeps.refl _ _) (p := ⟨rb, 3, none⟩) (fun _ => rfl) _) (fun b hb e => by have := hm.lt hb; omega), ?_, by simp [h.sl], fun j u y hu hy => ?_, fun y hy => ?_, fun b hb hp => ?_, h.lo, h.k.trans k2 (fun b hb e => by
  rcases e with e | e
  ·omega
  ·have := hsl b e; omega)⟩, ⟨k2.mono (fun b _ e => by rcases e with e | e; exact .inl e; exact .inr (.inl e)), fun b hb => ?_⟩⟩
 ·have hb := (h.b.kept k (fun e => by have := hsl rb e; omega)).set_ 3 vseen'
  simpa using hb
 ·exact h.po.keepsF RInt.flat k2 (fun b hb e => by
   rcases e with e | e
   ·have := hpl b hb; omega
   ·exact h.ne b e hb)
 ·by_cases hj : j < vs.length
  ·rw [List.getElem?_append_left hj] at hu
   rw [List.getElem?_append_left (by rw [← h.sl]; exact hj)] at hy
   exact hrow _ _ (h.rows j u y hu hy)
  ·have hjl : j = vs.length := by have := getElem?_lt hu; simp at this; omega
   subst hjl
   rw [List.getElem?_append_right (Nat.le_refl _)] at hu
   rw [h.sl, List.getElem?_append_right (Nat.le_refl _)] at hy
   simp at hu hy
   subst hu hy
   exact hrow _ _ hr
 ·rcases List.mem_append.1 hy with hy | hy
  ·exact h.gd y hy
  ·simp at hy; subst hy; exact hx
 ·rcases ho with e2 | ⟨b', e2, hb'⟩
  ·rw [e2] at hb; exact h.ne b hb hp
  ·rw [e2] at hb; injection hb with hb; have := hpl b hp; omega
 ·rcases hb with hb | hb | hb
  ·exact .inl (.inl hb)
  ·rcases ho with e | ⟨b', e, hb'⟩
   ·rw [e] at hb; exact .inl (.inr (.inl hb))
   ·rw [e] at hb; injection hb with hb; exact .inr (by omega)
  ·exact .inl (.inr (.inr hb))
end
/-- what a call of the reference's examine leaves -/
structure RxPost (w0 w : World) (rb : Nat) (A : Option Addr) (c : Nat) (ps : List (List Stage)) (budget : Nat) (vseen vplan : Value) (plan : List Int) (r : SOut) (w' : World) : Prop where
 ex : ∃ (used' : Nat) (vs' : List Value) (vseen' vplan' : Value) (plan' : List Int), RSr w0 w' rb A c ps budget used' vs' r.2.1 vseen' vplan' plan' ∧ (r.1 ≠ 15 → used' = r.2.1.length) ∧ (r.1 = 15 → used' = budget + 1) ∧ (r.1 = 0 → plan' = r.2.2) ∧ (r.1 ≠ 0 → plan' = plan) ∧ EvX w rb vseen vplan w' vseen' vplan'

theorem next_facts {w3 w6 : World} {now : List Int} {v6 : Value} {k : Nat} {x : Int} (hx : now[k]? = some x) (ho : OwnL 3 1 RInt w6 w3.heap.size w3.heap.size v6 now) (hk : KeepsAll w3 w6) :
  ∃ g6 c6, v6 = .slice (some ⟨g6, 0, none⟩) now.length c6 ∧ w6.cell? ⟨g6, k, none⟩ = some (.int .i64 x) ∧ w6.frozen? ⟨g6, k, none⟩ = false ∧ g6 < w6.heap.size ∧ now.length ≤ c6 ∧ c6 ≤ 9223372036854775807 ∧
   Hid (KeepsAll w3 (w6.setCell ⟨g6, k, none⟩ (.int .i64 (x + 1))) ∧ RInts (w6.setCell ⟨g6, k, none⟩ (.int .i64 (x + 1))) (fun b => w3.heap.size ≤ b ∧ b < (w6.setCell ⟨g6, k, none⟩ (.int .i64 (x + 1))).heap.size) [.slice (some ⟨g6, 0, none⟩) now.length c6] (now.set k (x + 1))) := by
 have hl := getElem?_lt hx
 obtain ⟨A6, c6, rfl, h1, h2⟩ := ho.form
 obtain ⟨g6, rfl, hg6⟩ := ho.some_ (by omega)
 have hr := ho.read RInt.ok (by omega) (S := Old w6) (fun _ _ h => h) (fun _ _ h => h)
 obtain ⟨b, o, y, e, _, hy, hc⟩ := RInts.at_ (show RInts w6 (Old w6) [.slice (some ⟨g6, 0, none⟩) now.length c6] now from hr) (k := k) hl
 injection e with e; injection e with e1 e2; subst e1 e2
 rw [hx] at hy; injection hy with hy; subst hy
 rw [Nat.zero_add] at hc
 have hs := ho.setI k (x + 1)
 refine ⟨g6, c6, rfl, hc, ho.frz k, (ho.lt rfl).2, h1, h2, ⟨hk.setCell (fun hh => absurd hh (by simp; omega)) _, ?_⟩⟩
 have := hs.read RInt.ok (by omega) (S := fun b => w3.heap.size ≤ b ∧ b < (w6.setCell ⟨g6, k, none⟩ (.int .i64 (x + 1))).heap.size) (fun b h1 h2 => ⟨h1, h2⟩) (fun b h1 h2 => ⟨h1, h2⟩)
 exact this

set_option maxRecDepth 100000 in
set_option maxHeartbeats 4000000 in
theorem rexam_any (w0 : World) (rb : Nat) (A : Option Addr) (c : Nat) (ps : List (List Stage)) (budget : Nat) (hP : RPaths w0 (Old w0) [.slice A ps.length c] ps) (hv : valid ps = true) (hbud : budget ≤ 1048576) :
  ∀ (f : Nat) (w : World) (now : List Int) (Aa : Option Addr) (ca : Nat) (vs : List Value) (seen : List (List Int)) (vseen vplan : Value) (plan : List Int), total ps now < f → Gd ps now → RSr w0 w rb A c ps budget seen.length vs seen vseen vplan plan → seen.length ≤ budget → plan.length + total ps now ≤ 1000 → RInts w (AtF w rb vseen vplan) [.slice Aa now.length ca] now →
  Calls Try.prog 64 #[.pointer (some ⟨rb, 0, none⟩), .slice Aa now.length ca] w fun e w' => e = .returned (.bool (decide ((exam ps budget f now seen plan).1 = 0))) ∧ RxPost w0 w rb A c ps budget vseen vplan plan (exam ps budget f now seen plan) w' := by
 intro f
 induction f with
 | zero => intro w now Aa ca vs seen vseen vplan plan h; omega
 | succ f ih =>
  intro w now Aa ca vs seen vseen vplan plan hf hg hs hsl hml hat
  have hc := hP.caps
  have hca := hat.caps
  have hl10 := (valid_lens hv).1
  have IH := Lib.hid ih
  have HS := Lib.hid hs
  have HP := Lib.hid hP
  have HV := Lib.hid hv
  have HG := Lib.hid hg
  have HAT := Lib.hid hat
  have HF : Hid (total ps now ≤ f) := by show _ ≤ _; omega
  have HML := Lib.hid hml
  have b2 := hs.b.cell 2
  simp at b2
  have q2 := hs.b.frozen 2
  have hsz := hs.b.lt
  have hu1 : IntKind.i64.wrap ((seen.length : Int) + 1) = (seen.length : Int) + 1 := IntWalk.i64_in _ (by omega)
  have H1 : Hid (RSr w0 (w.setCell ⟨rb, 2, none⟩ (.int .i64 ((seen.length : Int) + 1))) rb A c ps budget (seen.length + 1) vs seen vseen vplan plan) := hs.step (seen.length + 1)
  have E1 : Hid (EvX w rb vseen vplan (w.setCell ⟨rb, 2, none⟩ (.int .i64 ((seen.length : Int) + 1))) vseen vplan) := RSr.evStep w rb (seen.length + 1) vseen vplan
  clear ih hs hP hv hg hat hf hml
  go_enter Try.func64, Try.ntmps64
  go_wp2
  generalize World.setCell w _ _ = w1 at *
  clear b2 q2 hsz hu1
  have b1 := H1.out.b.cell 1
  have b2 := H1.out.b.cell 2
  simp at b1 b2
  have hsz := H1.out.b.lt
  by_cases g1 : seen.length = budget
  ·have g1' : decide ((budget : Int) < (seen.length : Int) + 1) = true := by simp; omega
   have Q : Hid (exam ps budget (f + 1) now seen plan = (15, seen, plan)) := by show _ = _; simp only [exam]; rw [if_pos g1]
   have HU : Hid (seen.length + 1 = budget + 1) := by show _ = _; omega
   clear g1 IH
   go_quiet (fail)
   go_wp2
   go_ret
   rw [Q.out]
   exact ⟨rfl, ⟨seen.length + 1, vs, vseen, vplan, plan, H1.out.keep ((Keeps.refl _ _).drewN _), fun h => absurd rfl h, fun _ => HU.out, fun h => by simp at h, fun _ => rfl, E1.out.keep ((Keeps.refl _ _).drewN _)⟩⟩
  ·have g1' : decide ((budget : Int) < (seen.length : Int) + 1) = false := by simp; omega
   have hsl2 : seen.length + 1 ≤ budget := by omega
   have HR : Hid (exam ps budget (f + 1) now seen plan = if leftB ps now = true then (0, seen ++ [now], plan) else tryT ps (exam ps budget f) now (List.range ps.length) (seen ++ [now]) plan) := by show _ = _; simp only [exam]; rw [if_neg g1]
   clear g1
   obtain ⟨R, HRQ⟩ : ∃ R, Hid (exam ps budget (f + 1) now seen plan = R) := ⟨_, rfl⟩
   rw [HRQ.out] at HR
   go_quiet (fail)
   go_wp2
   generalize hWA : World.drewN w1 _ = wA
   have HA : Hid (RSr w0 wA rb A c ps budget (seen.length + 1) vs seen vseen vplan plan) := by subst hWA; exact H1.out.keep ((Keeps.refl _ _).drewN _)
   have EA : Hid (EvX w rb vseen vplan wA vseen vplan) := by subst hWA; exact E1.out.keep ((Keeps.refl _ _).drewN _)
   clear hWA H1 E1 b1 b2 hsz g1'
   obtain ⟨As, cs, rfl, hcs1, hcs2⟩ := HA.out.so.form
   have HSLV := Lib.hid HA.out.sl
   have b3 := HA.out.b.cell 3
   simp at b3
   have hsz := HA.out.b.lt
   have hnow : 0 ≤ now.length := Nat.zero_le _
   have hnl : now.length ≤ 10 := by rw [HG.out.1]; exact hl10
   have hvl : vs.length ≤ 1048576 := by have := HSLV.out; omega
   refine wp_region_lex (fun w' => ∃ x : ExtC (fun b => (Value.slice As vs.length cs).ownBlock = some b) wA, w' = x.val) [0, 1, 2, 3, 4, 5, 6, 7, 8, 9, 10, 11] (by kernel_rfl) (by kernel_rfl) (ExtC.start _ _) ?_
   have xb3 := ExtC.cell (C := fun b => (Value.slice As vs.length cs).ownBlock = some b) b3 (fun e => by have h1 : rb + 1 ≤ rb := (HA.out.so.lt e).1; omega)
   iterate 2 (refine lex_q _ rfl rfl rfl ?_; go_big_quiet_step (fail); refine wpQuiet_nil ?_)
   refine lex_nil _ rfl _ rfl rfl _ rfl ?_; go_simp
   iterate 3 (refine lex_q _ rfl rfl rfl ?_; go_big_quiet_step (fail); refine wpQuiet_nil ?_)
   refine lex_a _ rfl rfl true (by kernel_rfl) ?_
   obtain ⟨wd, hwd⟩ : ∃ wd : World, wd = wA.drew := ⟨_, rfl⟩
   have HD : Hid (RSr w0 wd rb A c ps budget (seen.length + 1) vs seen (.slice As vs.length cs) vplan plan) := by subst hwd; exact HA.out.keep (Keeps.refl _ _).drew
   have ED : Hid (EvX w rb (.slice As vs.length cs) vplan wd (.slice As vs.length cs) vplan) := by subst hwd; exact EA.out.keep (Keeps.refl _ _).drew
   have KAD : Hid (KeepsAll wA wd) := by subst hwd; exact (Keeps.refl _ _).drew
   have RA := Lib.hid (AtF.old (ED.out.at_ HAT.out))
   rw [← hwd]
   clear hwd HA EA
   go_wp2_with (at_builtin; refine wpList_append_M tyInt RInt.ok RInt.one rfl (.const (.slice none 0 0)) (.tmp 28) rfl (OwnL.nil (base := wd.heap.size) (lo := wd.heap.size)) rfl rfl (S := Old wd) (S2 := fun _ => False) RA.out (fun _ _ h => h) (fun _ h => h.elim) (by simp; omega) (by simp; omega) (Nat.le_refl _) ?_; intro v5 w5 HO5 HK5 HA5; rw [List.nil_append] at HO5; have HO5' := Lib.hid HO5; have K5' : Hid (KeepsAll wd w5) := HK5.mono (fun _ _ h => (by simp [Value.ownBlock] at h)); obtain ⟨A5, c5, hv5, hc51, hc52⟩ := HO5.form; subst hv5; clear HO5 HK5 HA5)
   refine ⟨fun _ => ⟨⟨_, ((KAD.out.tr K5'.out).mono (fun _ _ h => h.elim))⟩, rfl⟩, ?_⟩
   have HROW : Hid (RInts w5 (fun b => wd.heap.size ≤ b ∧ b < w5.heap.size) [.slice A5 now.length c5] now) := HO5'.out.read RInt.ok (by omega) (fun b h1 h2 => ⟨h1, h2⟩) (fun b h1 h2 => ⟨h1, h2⟩)
   have H5 := Lib.hid (HD.out.keep K5'.out)
   have hz5 := H5.out.b.lt
   have hpo := Lib.hid (fun b (e : vplan.ownBlock = some b) => (HD.out.po.lt e).2)
   have hso := Lib.hid (fun b (e : (Value.slice As vs.length cs).ownBlock = some b) => (HD.out.so.lt e).2)
   have hrbd : rb < wd.heap.size := HD.out.b.lt
   clear HO5' RA
   refine lex_a _ rfl rfl true (by kernel_rfl) ?_
   go_wp2
   generalize hW6 : World.alloc w5 _ = w6
   have K6 : KeepsAll w5 w6 := by subst hW6; exact (Keeps.refl _ _).alloc _
   have B6 : Hid (Blk w6 w5.heap.size 22 [Value.slice A5 now.length c5].toArray) := by subst hW6; exact Blk.new _ _ _
   refine ⟨fun _ => ⟨⟨_, (((KAD.out.tr K5'.out).tr K6).mono (fun _ _ h => h.elim))⟩, rfl⟩, ?_⟩
   have H6 := Lib.hid (H5.out.keep K6)
   have E6 := Lib.hid ((ED.out.keep K5'.out).keep K6)
   have HK56 := Lib.hid ((KAD.out.tr K5'.out).tr K6)
   have hz6 := H6.out.b.lt
   have HROW6 : Hid (RInts w6 (RowF w6 rb (.slice As vs.length cs) vplan) [.slice A5 now.length c5] now) := by
    show RInts _ _ _ _
    have hk := K6.size
    exact K6.rd RInts.ok HROW.out (fun b hb => ⟨hb.2, by simp⟩) (fun b hb => ⟨by have := hb.1; omega, Nat.lt_of_lt_of_le hb.2 K6.size, fun e => by have := hso.out b e; have := hb.1; omega, fun e => by have := hpo.out b e; have := hb.1; omega⟩)
   have HAF : Hid (∀ (v7 : Value) (w7 : World), OwnL 22 1 RVal w7 (rb + 1) (rb + 1) v7 (vs ++ [.slice A5 now.length c5]) → Keeps (fun b => (Value.slice As vs.length cs).ownBlock = some b) w6 w7 → (v7.ownBlock = (Value.slice As vs.length cs).ownBlock ∨ v7.ownBlock = some w6.heap.size) → (RSr w0 (w7.setCell ⟨rb, 3, none⟩ v7) rb A c ps budget (seen.length + 1) (vs ++ [.slice A5 now.length c5]) (seen ++ [now]) v7 vplan plan ∧ EvX w rb (.slice As vs.length cs) vplan (w7.setCell ⟨rb, 3, none⟩ v7) v7 vplan) ∧ w7.cell? ⟨rb, 3, none⟩ = some (.slice As vs.length cs) ∧ w7.frozen? ⟨rb, 3, none⟩ = false ∧ rb < w7.heap.size) := fun v7 w7 ho hk hown => by
    obtain ⟨q1, q2⟩ := H6.out.setS HG.out HROW6.out hk ho (hown.imp id (fun e => ⟨_, e, Nat.le_refl _⟩))
    have hb := H6.out.b.kept hk (fun e => by have h1 : rb + 1 ≤ rb := (H6.out.so.lt e).1; omega)
    have hb3 := hb.cell 3
    simp at hb3
    exact ⟨⟨q1, E6.out.trans q2⟩, hb3, hb.frozen 3, hb.lt⟩
   clear hW6 K6 HROW HD ED H5 hz5
   refine lex_a _ rfl rfl true (by kernel_rfl) ?_
   go_wp2_with (at_builtin; refine wpList_append_L tyIntss RVal.ok rfl (.tmp 27) (.tmp 30) rfl H6.out.so rfl _ [.slice A5 now.length c5] rfl B6.out rfl (.slice A5 now.length c5) (S := fun _ => False) rfl (fun _ h => h.elim) (by simp [Value.oneCell']) (by omega) (by omega) (by omega) ?_; intro v7 w7 HO7 HK7 HA7; obtain ⟨A7, c7, hv7, hc71, hc72⟩ := HO7.form; rw [List.length_append, List.length_singleton] at hv7 hc71; subst hv7; have HK7' := Lib.hid HK7; obtain ⟨HRE, e3, f3, z3⟩ := HAF.out _ w7 HO7 HK7 HA7; have HRE7 := Lib.hid HRE; clear HRE HO7 HK7 HA7)
   refine ⟨fun _ => ⟨⟨_, (HK56.out.mono (fun _ _ h => h.elim)).trans HK7'.out (fun _ _ h => h)⟩, rfl⟩, ?_⟩
   refine lex_nil _ rfl _ rfl rfl _ rfl ?_; go_simp
   refine lex_q _ rfl rfl rfl ?_; go_big_quiet_step (fail); refine wpQuiet_nil ?_
   refine lex_a _ rfl rfl false (by kernel_rfl) ?_
   go_wp2
   (try refine ⟨fun h => (by cases h), ?_⟩)
   simp only [wpLex]
   refine NoPanic.normal ?_
   clear e3 f3 z3 HAF HROW6 H6 E6 B6 HK56 HK7' xb3 b3
   generalize World.setCell w7 _ _ = w8 at *
   have HLEN1 : Hid ((seen ++ [now]).length = seen.length + 1) := by show _ = _; simp
   have H8 : Hid (RSr w0 w8 rb A c ps budget (seen ++ [now]).length (vs ++ [.slice A5 now.length c5]) (seen ++ [now]) (.slice A7 (vs.length + 1) c7) vplan plan) := by rw [HLEN1.out]; exact HRE7.out.1
   have E8 := Lib.hid HRE7.out.2
   have AT8 := Lib.hid (E8.out.at_ HAT.out)
   clear HRE7
   have b0 := H8.out.b.cell 0
   simp at b0
   have hsz8 := H8.out.b.lt
   have HLF := Lib.hid (Left_any ps now A Aa c ca w8 (H8.out.k.rdo' RPaths.ok HP.out) (AtF.old AT8.out) HG.out.1)
   have HSL1 : Hid ((seen ++ [now]).length ≤ budget) := by show _ ≤ _; rw [HLEN1.out]; omega
   generalize seen ++ [now] = seen1 at *
   generalize vs ++ [Value.slice A5 now.length c5] = vs1 at *
   generalize Value.slice A7 (vs.length + 1) c7 = vseen1 at *
   go_wp2_with fail
   refine HLF.out.mono ?_
   rintro e w9 ⟨rfl, n9, rfl⟩
   clear HLF
   have H9 := Lib.hid (H8.out.keep ((Keeps.refl _ _).drewN n9))
   have E9 := Lib.hid (E8.out.keep ((Keeps.refl _ _).drewN n9))
   generalize w8.drewN n9 = w9 at *
   clear H8 E8 AT8 b0 hsz8
   by_cases g2 : leftB ps now = true
   ·have HQ : Hid (R = (0, seen1, plan)) := by show _ = _; rw [HR.out, if_pos g2]
    rw [g2]
    clear HR
    go_wp2
    go_ret
    rw [HRQ.out, HQ.out]
    exact ⟨rfl, ⟨seen1.length, vs1, vseen1, vplan, plan, H9.out, fun _ => rfl, fun h => by simp at h, fun _ => rfl, fun h => absurd rfl h, E9.out⟩⟩
   ·have g2' : leftB ps now = false := by simpa using g2
    have HRR : Hid (tryT ps (exam ps budget f) now ((List.range ps.length).drop 0) seen1 plan = R) := by show _ = _; rw [HR.out, if_neg g2, List.drop_zero]
    rw [g2']
    clear HR g2 g2'
    have b0 := H9.out.b.cell 0
    simp at b0
    have hsz9 := H9.out.b.lt
    go_wp2
    clear b0 hsz9
    go_loopw [45] (fun v wr => ∃ (k : Nat) (vs2 : List Value) (seen2 : List (List Int)) (vseen2 vplan2 : Value), k ≤ ps.length ∧ v = .int .i64 (k : Int) ∧ RSr w0 wr rb A c ps budget seen2.length vs2 seen2 vseen2 vplan2 plan ∧ seen2.length ≤ budget ∧ EvX w rb (.slice As vs.length cs) vplan wr vseen2 vplan2 ∧ tryT ps (exam ps budget f) now ((List.range ps.length).drop k) seen2 plan = R) (fun v _ => ps.length - (intOf v).toNat)
    case atStart => exact ⟨0, vs1, seen1, vseen1, vplan, Nat.zero_le _, rfl, H9.out, HSL1.out, E9.out, HRR.out⟩
    case round =>
     clear H9 E9 HRR HSL1
     obtain ⟨k, vs, seen, vseen, vplan, hk, rfl, hsr, hsl, hev, htr⟩ := hrel
     have HS := Lib.hid hsr
     have HE := Lib.hid hev
     have HSL := Lib.hid hsl
     have HTR := Lib.hid htr
     have b0 := hsr.b.cell 0
     simp at b0
     have hsz := hsr.b.lt
     have HAK := Lib.hid (hev.at_ HAT.out)
     clear hsr hev htr
     by_cases hlt : k < ps.length
     ·have hdk : decide ((k : Int) < (ps.length : Int)) = true := by simp; omega
      have HDR : Hid ((List.range ps.length).drop k = k :: (List.range ps.length).drop (k + 1)) := by
       show _ = _
       rw [List.drop_eq_getElem_cons (by simp; exact hlt)]; simp
      rw [HDR.out] at HTR
      have HCM := Lib.hid (movable_any ps now A Aa c ca wr k (HS.out.k.rdo' RPaths.ok HP.out) (AtF.old HAK.out) HV.out HG.out hlt)
      go_wp2_with fail
      refine HCM.out.mono ?_
      rintro e w3 ⟨rfl, k3⟩
      have H3 := Lib.hid (HS.out.keep k3)
      have E3 := Lib.hid (HE.out.keep k3)
      clear k3 HCM HS HE b0 hsz HAK
      cases g3 : canMv ps now k with
      | false =>
       have HTN : Hid (tryT ps (exam ps budget f) now ((List.range ps.length).drop (k + 1)) seen plan = R) := by
        have h := HTR.out
        simp only [tryT] at h
        rw [g3] at h
        show _ = _
        simpa using h
       go_wp2
       go_roundw
       case rel => exact ⟨k + 1, vs, seen, vseen, vplan, by omega, by go_num, H3.out, HSL.out, E3.out, HTN.out⟩
       case measure => simp [intOf]; omega
      | true =>
       have htl : k < now.length := by rw [HG.out.1]; exact hlt
       have hx : now[k]? = some now[k] := List.getElem?_eq_getElem htl
       have hnx := nowAt_of hx
       have hkl := canMv_lt g3
       have hG := HG.out.2 k hlt
       have h64 := lenAt_le HV.out k
       have HG2 := Lib.hid (HG.out.step hlt hkl)
       have HTOT := Lib.hid (total_step HG.out hlt hkl)
       have HTRY : Hid (tryT ps (exam ps budget f) now (k :: (List.range ps.length).drop (k + 1)) seen plan = if (now.set k (nowAt now k + 1)) ∈ seen then tryT ps (exam ps budget f) now ((List.range ps.length).drop (k + 1)) seen plan else if (exam ps budget f (now.set k (nowAt now k + 1)) seen (plan ++ [(k : Int)])).1 = 19 then tryT ps (exam ps budget f) now ((List.range ps.length).drop (k + 1)) (exam ps budget f (now.set k (nowAt now k + 1)) seen (plan ++ [(k : Int)])).2.1 plan else exam ps budget f (now.set k (nowAt now k + 1)) seen (plan ++ [(k : Int)])) := by
        show _ = _
        simp only [tryT]
        rw [g3]
        by_cases e : stepN now k ∈ seen
        ·have e' : now.set k (nowAt now k + 1) ∈ seen := e
         rw [if_pos e', if_neg (by simp [e])]
        ·have e' : now.set k (nowAt now k + 1) ∉ seen := e
         rw [if_neg e', if_pos (by simp [e])]; rfl
       rw [HTRY.out] at HTR
       clear HTRY
       have HAF : Hid (∀ (v6 : Value) (w6 : World), OwnL 3 1 RInt w6 w3.heap.size w3.heap.size v6 now → KeepsAll w3 w6 → _) := fun v6 w6 h1 h2 => next_facts hx h1 h2
       have RA := Lib.hid (AtF.old (E3.out.at_ HAT.out))
       have HNL2 : Hid ((now.set k (nowAt now k + 1)).length = now.length) := by show _ = _; simp
       have HLN := Lib.hid HG.out.1
       rw [hnx] at HTR HG2 HTOT HNL2 hG hkl
       generalize now[k] = x at *
       generalize hn2 : now.set k (x + 1) = n2 at *
       have hs1 : IntKind.i64.wrap (x + 1) = x + 1 := IntWalk.i64_in _ (by omega)
       have hml := HML.out
       have htot := HTOT.out
       have hFF := HF.out
       clear hx hnx hn2 g3 hkl
       go_wp2_with (at_builtin; refine wpList_append_M tyInt RInt.ok RInt.one rfl (.const (.slice none 0 0)) (.tmp 56) rfl (OwnL.nil (base := w3.heap.size) (lo := w3.heap.size)) rfl rfl (S := Old w3) (S2 := fun _ => False) RA.out (fun _ _ h => h) (fun _ h => h.elim) (by simp; omega) (by simp; omega) (Nat.le_refl _) ?_; intro v6 w6 HO6 HK6 HA6; rw [List.nil_append] at HO6; obtain ⟨g6, c6, hv6, q0, q1, q2, hc61, hc62, HPOST⟩ := HAF.out v6 w6 HO6 (HK6.mono (fun _ _ h => (by simp [Value.ownBlock] at h))); subst hv6; clear HO6 HK6 HA6)
       clear q0 q1 q2 hs1 RA
       generalize World.setCell w6 _ _ = w7 at *
       have H7 := Lib.hid (H3.out.keep HPOST.out.1)
       have E7 := Lib.hid (E3.out.keep HPOST.out.1)
       have NX7 : Hid (RInts w7 (AtF w7 rb vseen vplan) [.slice (some ⟨g6, 0, none⟩) now.length c6] n2) := RInts.ok.mono HPOST.out.2 (fun b hb => ⟨hb.2, fun e => by
        rcases e with e | e | e
        ·have := H3.out.b.lt; have := hb.1; omega
        ·have := (H3.out.so.lt e).2; have := hb.1; omega
        ·have := (H3.out.po.lt e).2; have := hb.1; omega⟩) (fun _ _ => rfl)
       have HKN : Hid (Calls Try.prog 83 #[.pointer (some ⟨rb, 0, none⟩), .slice (some ⟨g6, 0, none⟩) now.length c6] w7 fun e w' => e = .returned (.bool (decide (n2 ∈ seen))) ∧ KeepsAll w7 w') := by
        have h := known_any w0 w7 rb A c ps budget seen.length vs seen vseen vplan plan n2 (some ⟨g6, 0, none⟩) c6 H7.out (by rw [HNL2.out]; exact AtF.old NX7.out) (by rw [HNL2.out, HLN.out])
        rw [HNL2.out] at h
        exact h
       clear HPOST H3 E3 HAF
       refine HKN.out.mono ?_
       rintro e w8 ⟨rfl, k8⟩
       have H8 := Lib.hid (H7.out.keep k8)
       have E8 := Lib.hid (E7.out.keep k8)
       have NX8 := Lib.hid ((EvX.refl w7 rb vseen vplan).keep k8 |>.at_ NX7.out)
       clear k8 HKN H7 E7 NX7
       by_cases g4 : n2 ∈ seen
       ·rw [if_pos g4] at HTR
        rw [decide_eq_true g4]
        clear g4
        go_wp2
        go_roundw
        case rel => exact ⟨k + 1, vs, seen, vseen, vplan, by omega, by go_num, H8.out, HSL.out, E8.out, HTR.out⟩
        case measure => simp [intOf]; omega
       ·rw [if_neg g4] at HTR
        rw [decide_eq_false g4]
        clear g4
        obtain ⟨Ap, cp, rfl, hcp1, hcp2⟩ := H8.out.po.form
        have b4 := H8.out.b.cell 4
        simp at b4
        have hz8 := H8.out.b.lt
        have HAF2 : Hid (∀ (o : Obj) (v9 : Value) (w9 : World), OwnL 3 1 RInt w9 (rb + 1) (rb + 1) v9 (plan ++ [(k : Int)]) → Keeps (fun b => (Value.slice Ap plan.length cp).ownBlock = some b) (w8.alloc o) w9 → (v9.ownBlock = (Value.slice Ap plan.length cp).ownBlock ∨ v9.ownBlock = some (w8.alloc o).heap.size) → (RSr w0 (w9.setCell ⟨rb, 4, none⟩ v9) rb A c ps budget seen.length vs seen vseen v9 (plan ++ [(k : Int)]) ∧ EvX w8 rb vseen (.slice Ap plan.length cp) (w9.setCell ⟨rb, 4, none⟩ v9) vseen v9) ∧ w9.cell? ⟨rb, 4, none⟩ = some (.slice Ap plan.length cp) ∧ w9.frozen? ⟨rb, 4, none⟩ = false ∧ rb < w9.heap.size) := fun o v9 w9 ho hk hown => by
         have ha := H8.out.keep ((Keeps.refl (fun _ => False) w8).alloc o)
         have ho2 : v9.ownBlock = (Value.slice Ap plan.length cp).ownBlock ∨ ∃ b, v9.ownBlock = some b ∧ (w8.alloc o).heap.size ≤ b := hown.imp id (fun e => ⟨_, e, Nat.le_refl _⟩)
         have hb := ha.b.kept hk (fun e => by have h1 : rb + 1 ≤ rb := (ha.po.lt e).1; omega)
         have hb4 := hb.cell 4
         simp at hb4
         exact ⟨⟨ha.setP hk ho ho2, ((EvX.refl _ _ _ _).keep ((Keeps.refl (fun _ => False) w8).alloc o)).trans (ha.evP hk ho2)⟩, hb4, hb.frozen 4, hb.lt⟩
        go_wp2_with (at_builtin; refine wpList_append_L tyInt RInt.ok rfl (.tmp 71) (.tmp 73) rfl (H8.out.po.alloc RInt.ok _) rfl _ [.int .i64 (k : Int)] rfl (Blk.new' _ _ _ (by simp)) rfl (k : Int) (S := fun _ => False) rfl (fun _ h => h.elim) (by simp [Value.oneCell']) (by omega) (by omega) (by simp; omega) ?_; intro v9 w9 HO9 HK9 HA9; obtain ⟨A9, c9, hv9, hc91, hc92⟩ := HO9.form; rw [List.length_append, List.length_singleton] at hv9 hc91; subst hv9; obtain ⟨HRE, e4, f4, z4⟩ := HAF2.out _ _ w9 HO9 HK9 HA9; have HRE9 := Lib.hid HRE; clear HRE HO9 HK9 HA9)
        clear e4 f4 z4 b4 hz8 HAF2
        generalize World.setCell w9 _ _ = wB at *
        have NXB := Lib.hid (HRE9.out.2.at_ NX8.out)
        have EB := Lib.hid (E8.out.trans HRE9.out.2)
        have HB := Lib.hid HRE9.out.1
        clear HRE9 NX8 E8 H8
        have HIH : Hid (Calls Try.prog 64 #[.pointer (some ⟨rb, 0, none⟩), .slice (some ⟨g6, 0, none⟩) now.length c6] wB fun e w' => e = .returned (.bool (decide ((exam ps budget f n2 seen (plan ++ [(k : Int)])).1 = 0))) ∧ RxPost w0 wB rb A c ps budget vseen (.slice A9 (plan.length + 1) c9) (plan ++ [(k : Int)]) (exam ps budget f n2 seen (plan ++ [(k : Int)])) w') := by
         have h := IH.out wB n2 (some ⟨g6, 0, none⟩) c6 vs seen vseen (.slice A9 (plan.length + 1) c9) (plan ++ [(k : Int)]) (by omega) HG2.out HB.out HSL.out (by simp; omega) (by rw [HNL2.out]; exact NXB.out)
         rw [HNL2.out] at h
         exact h
        have HXO := Lib.hid (exam_ok (ps := ps) (budget := budget) f n2 HG2.out (by omega) seen (plan ++ [(k : Int)]))
        refine HIH.out.mono ?_
        rintro e wC ⟨rfl, hpost⟩
        have HCODE := Lib.hid HXO.out.code
        have HLE := Lib.hid (HXO.out.le HSL.out)
        clear HIH HXO HB NXB
        obtain ⟨uC, vsC, vsnC, vplC, plC, hC, hu1, hu2, hp1, hp2, hevC⟩ := hpost.ex
        clear hpost
        generalize exam ps budget f n2 seen (plan ++ [(k : Int)]) = r7 at *
        obtain ⟨e7, s7, m7⟩ := r7
        simp only [] at hC hu1 hu2 hp1 hp2 HCODE HLE HTR ⊢
        have HC := Lib.hid hC
        have EC := Lib.hid (EB.out.trans hevC)
        clear hC hevC EB
        by_cases g5 : e7 = 0
        ·subst g5
         have HQ : Hid (R = (0, s7, m7)) := by
          have h := HTR.out
          rw [if_neg (by omega)] at h
          exact h.symm
         obtain rfl := hp1 rfl
         obtain rfl := hu1 (by omega)
         rw [show decide ((0 : Int) = 0) = true from rfl]
         clear HTR HCODE
         go_wp2
         go_ret
         rw [HRQ.out, HQ.out]
         exact ⟨rfl, ⟨_, vsC, vsnC, vplC, _, HC.out, fun _ => rfl, fun h => by simp at h, fun _ => rfl, fun h => absurd rfl h, EC.out⟩⟩
        ·rw [decide_eq_false g5]
         obtain rfl := hp2 g5
         obtain ⟨AC, cC, rfl, hcC1, hcC2⟩ := HC.out.po.form
         obtain ⟨gC, rfl⟩ := HC.out.po.addr (by simp)
         rw [List.length_append, List.length_singleton] at hcC1 HC EC
         have b4 := HC.out.b.cell 4
         simp at b4
         have hzC := HC.out.b.lt
         have hs1 : IntKind.i64.wrap (((plan.length + 1 : Nat) : Int) - 1) = ((plan.length : Nat) : Int) := by rw [show (((plan.length + 1 : Nat) : Int) - 1) = ((plan.length : Nat) : Int) from by omega]; exact IntWalk.i64_in _ (by omega)
         have G5 := Lib.hid g5
         clear hp1 hp2 g5
         go_wp2
         refine wp_region_lex (fun w' => ∃ x : Ext wC, w' = x.val) [0, 1, 2, 3, 4, 5, 6, 7, 8, 9, 10, 11, 12, 13, 14] (by kernel_rfl) (by kernel_rfl) ⟨⟨_, (Keeps.refl _ _).drew⟩, rfl⟩ ?_
         have x4 := Ext.cell b4
         iterate 2 (refine lex_q _ rfl rfl rfl ?_; go_big_quiet_step (fail); refine wpQuiet_nil ?_)
         refine lex_nil _ rfl _ rfl rfl _ rfl ?_; go_simp
         iterate 3 (refine lex_q _ rfl rfl rfl ?_; go_big_quiet_step (fail); refine wpQuiet_nil ?_)
         refine lex_nil _ rfl _ rfl rfl _ rfl ?_; go_simp
         iterate 5 (refine lex_q _ rfl rfl rfl ?_; go_big_quiet_step (fail); refine wpQuiet_nil ?_)
         refine lex_nil _ rfl _ rfl rfl _ rfl ?_; go_simp
         refine lex_q _ rfl rfl rfl ?_; go_big_quiet_step (fail); refine wpQuiet_nil ?_
         refine lex_a _ rfl rfl false (by kernel_rfl) ?_
         obtain ⟨wd2, hwd2⟩ : ∃ wd2 : World, wd2 = wC.drew := ⟨_, rfl⟩
         have HD2 : Hid (RSr w0 wd2 rb A c ps budget uC vsC s7 vsnC (.slice (some ⟨gC, 0, none⟩) (plan.length + 1) cC) (plan ++ [(k : Int)])) := by subst hwd2; exact HC.out.keep (Keeps.refl _ _).drew
         have KCD : Hid (KeepsAll wC wd2) := by subst hwd2; exact (Keeps.refl _ _).drew
         have ED2 := Lib.hid (EC.out.keep KCD.out)
         rw [← hwd2]
         clear hwd2 x4 b4 HC EC hzC hs1
         have b4 := HD2.out.b.cell 4
         simp at b4
         have f4 := HD2.out.b.frozen 4
         have hzD := HD2.out.b.lt
         have hcut : OwnL 3 1 RInt wd2 (rb + 1) (rb + 1) (.slice (some ⟨gC, 0, none⟩) plan.length cC) plan := by
          have h := HD2.out.po.cut (k := plan.length) (by simp) (.inl (by simp))
          rw [List.take_left' rfl] at h
          exact h
         have H10 : Hid (RSr w0 (wd2.setCell ⟨rb, 4, none⟩ (.slice (some ⟨gC, 0, none⟩) plan.length cC)) rb A c ps budget uC vsC s7 vsnC (.slice (some ⟨gC, 0, none⟩) plan.length cC) plan) := HD2.out.setP (Keeps.refl _ _) hcut (.inl rfl)
         have E10 := Lib.hid (ED2.out.trans (HD2.out.evP (w' := wd2) (vplan' := .slice (some ⟨gC, 0, none⟩) plan.length cC) (Keeps.refl _ _) (.inl rfl)))
         clear hcut
         go_wp2
         (try refine ⟨fun h => (by cases h), ?_⟩)
         simp only [wpLex]
         refine NoPanic.normal ?_
         clear b4 f4 hzD HD2 ED2
         generalize World.setCell wd2 _ _ = wE at *
         have b1 := H10.out.b.cell 1
         have b2 := H10.out.b.cell 2
         simp at b1 b2
         have hzE := H10.out.b.lt
         rcases HCODE.out with hc0 | hc0 | hc0
         ·exact absurd hc0 G5.out
         ·subst hc0
          obtain rfl := hu2 rfl
          have HQ : Hid (R = (15, s7, m7)) := by
           have h := HTR.out
           rw [if_neg (by omega)] at h
           exact h.symm
          have g6' : decide (budget < budget + 1) = true := by simp
          clear HTR HCODE hu1 hu2
          go_wp2
          go_quiet (fail)
          go_wp2
          go_ret
          rw [HRQ.out, HQ.out]
          exact ⟨rfl, ⟨_, vsC, vsnC, _, plan, H10.out.keep ((Keeps.refl _ _).drewN _), fun h => absurd rfl h, fun _ => rfl, fun h => by simp at h, fun _ => rfl, E10.out.keep ((Keeps.refl _ _).drewN _)⟩⟩
         ·subst hc0
          obtain rfl := hu1 (by omega)
          rw [if_pos rfl] at HTR
          have hle := HLE.out
          have g6' : decide (budget < s7.length) = false := by simp; omega
          clear HCODE hu1 hu2
          go_wp2
          go_quiet (fail)
          go_wp2
          go_roundw
          case rel => exact ⟨k + 1, vsC, s7, vsnC, _, by omega, by go_num, H10.out.keep ((Keeps.refl _ _).drewN _), HLE.out, E10.out.keep ((Keeps.refl _ _).drewN _), HTR.out⟩
          case measure => simp [intOf]; omega
     ·obtain rfl : k = ps.length := by omega
      have hdk : decide ((ps.length : Int) < (ps.length : Int)) = false := by simp
      have Q : Hid (R = (19, seen, plan)) := by
       show _ = _
       have h := HTR.out
       rw [List.drop_of_length_le (by simp)] at h
       simp only [tryT] at h
       exact h.symm
      go_wp2
      go_ret
      rw [HRQ.out, Q.out]
      exact ⟨rfl, ⟨seen.length, vs, vseen, vplan, plan, HS.out, fun _ => rfl, fun h => by simp at h, fun h => by simp at h, fun _ => rfl, HE.out⟩⟩

end Go.Proofs.Ytilbbpbjhoidhaa
