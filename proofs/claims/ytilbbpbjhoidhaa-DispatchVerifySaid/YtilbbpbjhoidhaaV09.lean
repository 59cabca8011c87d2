/- Contract of the maker of paths: what it returns is valid and small. Conditions: as the theorem says. -/
import Derived.Test.YtilbbpbjhoidhaaV05
import Derived.Test.YtilbbpbjhoidhaaV07
import Derived.Test.YtilbbpbjhoidhaaV06
import Derived.Deep.AppendLies
namespace Go.Proofs.Ytilbbpbjhoidhaa
open Go.RowKit

def stMade (s : Stage) : Prop := 0 ≤ s.sec ∧ s.sec < 5 ∧ (s.pts = [] ∨ s.pts = [5] ∨ s.pts = [6]) ∧ 0 ≤ s.mn ∧ s.mn < 20 ∧ 0 ≤ s.nt ∧ s.nt < 60
def apart : List Stage → Prop
 | s :: s' :: r => s.sec ≠ s'.sec ∧ apart (s' :: r)
 | _ => True
def pMade (p : List Stage) : Prop := 1 ≤ p.length ∧ p.length ≤ 4 ∧ (∀ s ∈ p, stMade s) ∧ apart p
def psMade (ps : List (List Stage)) : Prop := 1 ≤ ps.length ∧ ps.length ≤ 3 ∧ ∀ p ∈ ps, pMade p

structure PInv (w wr : World) (v : Value) (n : Nat) : Prop where
 k : KeepsAll w wr
 src : ∃ rest, Src wr (Old w) w.heap.size rest
 out : ∃ ps : List (List Stage), n ≤ 3 ∧ ps.length + n ≤ 3 ∧ 1 ≤ ps.length + n ∧ (∀ p ∈ ps, pMade p) ∧ OwnL 100 1 RPath wr (w.heap.size + 1) (w.heap.size + 1) v ps
structure SInv (w w0 wr : World) (v : Value) (p : List Stage) (n : Nat) : Prop where
 k : Keeps (fun b => b = w.heap.size) w0 wr
 src : ∃ rest, Src wr (Old w) w.heap.size rest
 out : n ≤ 4 ∧ p.length + n ≤ 4 ∧ 1 ≤ p.length + n ∧ (∀ s ∈ p, stMade s) ∧ apart p ∧ OwnL 99 4 RStage wr w0.heap.size w0.heap.size v p

theorem SInv.lt {w w0 wr : World} {v : Value} {p : List Stage} {n : Nat} (h : SInv w w0 wr v p n) : w.heap.size < wr.heap.size := by obtain ⟨r, hr⟩ := h.src; exact hr.lt
theorem SInv.keep {w w0 wr w' : World} {v : Value} {p : List Stage} {n : Nat} {C : Foot} (h : SInv w w0 wr v p n) (hw0 : w.heap.size < w0.heap.size) (k : Keeps C wr w') (hC : ∀ b, b < wr.heap.size → C b → b = w.heap.size) (hs : ∃ rest, Src w' (Old w) w.heap.size rest) : SInv w w0 w' v p n := by
 refine ⟨h.k.trans k (fun x hx hc => hC x (Nat.lt_of_lt_of_le hx h.k.size) hc), hs, ?_⟩
 obtain ⟨h1, h2, h3, h4, h5, h6⟩ := h.out
 exact ⟨h1, h2, h3, h4, h5, h6.keeps RStage.ok k (fun b hb hc => by have := hC b hb hc; omega)⟩
theorem SInv.alloc {w w0 wr : World} {v : Value} {p : List Stage} {n : Nat} (h : SInv w w0 wr v p n) (hw0 : w.heap.size < w0.heap.size) (o : Obj) : SInv w w0 (wr.alloc o) v p n := by
 have hz := h.lt
 refine h.keep hw0 ((Keeps.refl (fun _ => False) wr).alloc o) (fun _ _ h => h.elim) ?_
 obtain ⟨r, hr⟩ := h.src
 exact ⟨r, hr.keeps ((Keeps.refl (fun _ => False) wr).alloc o) (fun b hb => ⟨by have : b < w.heap.size := hb; omega, by simp⟩) (by simp)⟩
theorem SInv.drew {w w0 wr : World} {v : Value} {p : List Stage} {n : Nat} (h : SInv w w0 wr v p n) (hw0 : w.heap.size < w0.heap.size) : SInv w w0 wr.drew v p n :=
 h.keep hw0 ((Keeps.refl (fun _ => False) wr).drew) (fun _ _ h => h.elim) h.src
theorem Next_S {w w0 wr : World} {v : Value} {p : List Stage} {m : Nat} (h : SInv w w0 wr v p m) (hw0 : w.heap.size < w0.heap.size) (n : Int) (hn : 0 < n) (hn2 : n ≤ 9223372036854775807) :
  Calls Try.prog 36 #[.pointer (some ⟨w.heap.size, 0, none⟩), .int .i64 n] wr fun e w' => ∃ q : Nat, e = .returned (.int .i64 q) ∧ (q : Int) < n ∧ SInv w w0 w' v p m ∧ Keeps (· = w.heap.size) wr w' ∧ w'.heap.size = wr.heap.size := by
 obtain ⟨rest, hsrc⟩ := h.src
 have hz := hsrc.lt
 refine (Next_any wr (Old w) w.heap.size rest n hn hn2 hsrc (fun b hb => ⟨by have : b < w.heap.size := hb; omega, by have : b < w.heap.size := hb; omega⟩)).mono ?_
 rintro e w' ⟨rfl, hs, hk, hz'⟩
 have hr := nextV_range rest n hn
 exact ⟨(nextV rest n).toNat, by rw [Int.toNat_of_nonneg hr.1], by omega, h.keep hw0 hk (fun b _ e => e) ⟨_, hs⟩, hk, hz'⟩

theorem apart_snoc : ∀ (p : List Stage) (s : Stage), apart p → (∀ q, p.getLast? = some q → q.sec ≠ s.sec) → apart (p ++ [s])
 | [], s, _, _ => by simp [apart]
 | [q], s, _, h => by simp [apart]; exact h q rfl
 | q :: q' :: r, s, h, hl => by
  simp only [apart, List.cons_append] at h ⊢
  exact ⟨h.1, apart_snoc (q' :: r) s h.2 (fun x hx => hl x (by rw [List.getLast?_cons_cons]; exact hx))⟩
theorem SInv.grow {w w0 wr w13 : World} {v v' : Value} {p : List Stage} {m : Nat} {o : Obj} {s : Stage} (h : SInv w w0 wr v p m) (hw0 : w.heap.size < w0.heap.size) (hm : 0 < m) (ho : OwnL 99 4 RStage w13 w0.heap.size w0.heap.size v' (p ++ [s]))
  (hk : Keeps (fun b => v.ownBlock = some b) (wr.alloc o) w13) (hs : stMade s) (hl : ∀ q, p.getLast? = some q → q.sec ≠ s.sec) : SInv w w0 w13 v' (p ++ [s]) (m - 1) := by
 obtain ⟨h1, h2, h3, h4, h5, h6⟩ := h.out
 have k2 : Keeps (fun b => v.ownBlock = some b) wr w13 := ((Keeps.refl _ wr).alloc o).trans hk (fun _ _ h => h)
 have far : ∀ b, b < w0.heap.size → ¬ (v.ownBlock = some b) := fun b hb e => by have := h6.lt e; omega
 refine ⟨h.k.trans k2 (fun x hx e => absurd e (far x hx)), ?_, ⟨by omega, by simp; omega, by simp; omega, ?_, apart_snoc p s h5 hl, ho⟩⟩
 ·obtain ⟨r, hr⟩ := h.src
  have := hr.lt
  exact ⟨r, hr.keeps k2 (fun b hb => by have hb' : b < w.heap.size := hb; exact ⟨by omega, far b (by omega)⟩) (far _ hw0)⟩
 ·intro x hx
  rcases List.mem_append.1 hx with hx | hx
  ·exact h4 x hx
  ·simp at hx; subst hx; exact hs
theorem PInv.grow {w w3 wr w13 : World} {v v' vp : Value} {ps : List (List Stage)} {p : List Stage} {n : Nat} {o : Obj} (hk3 : KeepsAll w w3) (hin : SInv w w3 wr vp p 0) (_hw3 : w.heap.size < w3.heap.size)
  (hop : OwnL 100 1 RPath w3 (w.heap.size + 1) (w.heap.size + 1) v ps) (hpm : ∀ p ∈ ps, pMade p) (hn3 : n ≤ 3) (hnl : ps.length + n ≤ 3) (hlt : 0 < n) (hp : pMade p)
  (ho : OwnL 100 1 RPath w13 (w.heap.size + 1) (w.heap.size + 1) v' (ps ++ [p])) (hk : Keeps (fun b => v.ownBlock = some b) (wr.alloc o) w13) : PInv w w13 v' (n - 1) := by
 have k2 : Keeps (fun b => v.ownBlock = some b) wr w13 := ((Keeps.refl _ wr).alloc o).trans hk (fun _ _ h => h)
 have far : ∀ b, b < w.heap.size + 1 → ¬ (v.ownBlock = some b) := fun b hb e => by have := hop.lt e; omega
 refine ⟨(hk3.trans hin.k (fun x hx e => by omega)).trans k2 (fun x hx e => absurd e (far x (by omega))), ?_, ⟨ps ++ [p], by omega, by simp; omega, by simp; omega, ?_, ho⟩⟩
 ·obtain ⟨r, hr⟩ := hin.src
  have := hr.lt
  exact ⟨r, hr.keeps k2 (fun b hb => by have hb' : b < w.heap.size := hb; exact ⟨by omega, far b (by omega)⟩) (far _ (by omega))⟩
 ·intro x hx
  rcases List.mem_append.1 hx with hx | hx
  ·exact hpm x hx
  ·simp at hx; subst hx; exact hp
structure XInv (w w0 w7 wr : World) (v : Value) (p : List Stage) (m : Nat) (vp : Value) (a b c : Int) : Prop where
 i : SInv w w0 w7 v p m
 k : Keeps (fun b => b = w.heap.size) w7 wr
 src : ∃ rest, Src wr (Old w) w.heap.size rest
 x : Blk wr w7.heap.size 99 #[.int .i64 a, vp, .int .i64 b, .int .i64 c]
theorem XInv.s {w w0 w7 wr : World} {v vp : Value} {p : List Stage} {m : Nat} {a b c : Int} (h : XInv w w0 w7 wr v p m vp a b c) (hw0 : w.heap.size < w0.heap.size) : SInv w w0 wr v p m :=
 h.i.keep hw0 h.k (fun _ _ e => e) h.src
theorem XInv.step {w w0 w7 wr w' : World} {v vp vp' : Value} {p : List Stage} {m : Nat} {a b c a' : Int} {C : Foot} (h : XInv w w0 w7 wr v p m vp a b c) (k : Keeps C wr w') (hC : ∀ b, b < w7.heap.size → C b → b = w.heap.size)
  (hs : ∃ rest, Src w' (Old w) w.heap.size rest) (hx : Blk w' w7.heap.size 99 #[.int .i64 a', vp', .int .i64 b, .int .i64 c]) : XInv w w0 w7 w' v p m vp' a' b c :=
 ⟨h.i, h.k.trans k (fun x hx hc => hC x hx hc), hs, hx⟩
theorem XInv.srcK {w w0 w7 wr w' : World} {v vp : Value} {p : List Stage} {m : Nat} {a b c : Int} {C : Foot} (h : XInv w w0 w7 wr v p m vp a b c) (k : Keeps C wr w') (hC : ∀ b, b ≤ w.heap.size → ¬ C b) : ∃ rest, Src w' (Old w) w.heap.size rest := by
 obtain ⟨r, hr⟩ := h.src
 have := hr.lt
 exact ⟨r, hr.keeps k (fun b hb => by have : b < w.heap.size := hb; exact ⟨by omega, hC b (by omega)⟩) (hC _ (Nat.le_refl _))⟩

set_option maxRecDepth 100000 in
set_option maxHeartbeats 1000000 in
theorem Paths_any (l : List Int) (A : Option Addr) (c : Nat) (w : World) (h : RInts w (Old w) [.slice A l.length c] l) :
  Calls Try.prog 33 #[.slice A l.length c] w fun e w' => ∃ v ps, e = .returned v ∧ RPaths w' (Fresh w w') [v] ps ∧ psMade ps ∧ KeepsAll w w' := by
 have hc := h.caps
 have H := Lib.hid h; clear h
 go_enter Try.func33, Try.ntmps33
 go_wp2_with fail
 refine (From_any w A c l H.out).mono ?_
 rintro e w1 ⟨rfl, hsrc1, hk1, hz1⟩
 have HZ1 := Lib.hid hz1; clear hz1
 have hz1 : w.heap.size < w1.heap.size := by have := HZ1.out; omega
 go_wp2_with fail
 refine (Next_any _ (Old w) w.heap.size l _ (by omega) (by omega) hsrc1 (fun b hb => ⟨by have : b < w.heap.size := hb; omega, by have : b < w.heap.size := hb; omega⟩)).mono ?_
 rintro e w2 ⟨rfl, hsrc2, hk2, hz2⟩
 have hnr := nextV_range l 3 (by omega)
 generalize nextV l 3 = nx at hnr
 obtain ⟨n0, rfl⟩ := Int.eq_ofNat_of_zero_le hnr.1
 have hi0 : PInv w w2 (.slice none 0 0) (1 + n0) := ⟨hk1.trans hk2 (fun x hx e => by omega), ⟨_, hsrc2⟩, ⟨[], by omega, by simp; omega, by simp, by simp, OwnL.nil⟩⟩
 clear hk2 hz2 hsrc1 hk1 hsrc2 HZ1 hz1
 go_wp2
 go_loopw [4, 5] (fun v i wr => ∃ n : Nat, i = .int .i64 n ∧ PInv w wr v n) (fun _ i _ => (intOf i).toNat)
 case atStart => exact ⟨_, by go_num, hi0⟩
 case round =>
  obtain ⟨n, rfl, hinv⟩ := hrel
  clear hi0
  obtain ⟨ps, hn3, hnl, hn1, hpm, hop⟩ := hinv.out
  have HPM := Lib.hid hpm; clear hpm
  have HOP := Lib.hid hop; clear hop
  by_cases hlt : 0 < n
  ·obtain ⟨rest, hsrc⟩ := hinv.src
   have hzs := hsrc.lt
   go_wp2_with fail
   refine (Next_any _ (Old w) w.heap.size rest _ (by omega) (by omega) hsrc (fun b hb => ⟨by have : b < w.heap.size := hb; omega, by have : b < w.heap.size := hb; omega⟩)).mono ?_
   rintro e w3 ⟨rfl, hsrc3, hk3, hz3⟩
   have hnr3 := nextV_range rest 4 (by omega)
   generalize nextV rest 4 = nx3 at hnr3
   obtain ⟨m0, rfl⟩ := Int.eq_ofNat_of_zero_le hnr3.1
   have HK3 := Lib.hid (hinv.k.trans hk3 (fun x hx e => by omega))
   have HOP3 := Lib.hid (HOP.out.keeps RPath.ok hk3 (fun b hb e => by omega))
   have hi3 : SInv w w3 w3 (.slice none 0 0) [] (1 + m0) := ⟨Keeps.refl _ _, ⟨_, hsrc3⟩, ⟨by omega, by simp; omega, by simp, by simp, by simp [apart], OwnL.nil⟩⟩
   have hw3 := hsrc3.lt
   clear hsrc hk3 hz3 hsrc3 hinv HOP
   go_wp2
   go_loopw [6, 7] (fun v i wr => ∃ (m : Nat) (p : List Stage), i = .int .i64 m ∧ SInv w w3 wr v p m) (fun _ i _ => (intOf i).toNat)
   case atStart => exact ⟨_, _, by go_num, hi3⟩
   case round =>
    obtain ⟨m, p, rfl, hin⟩ := hrel
    clear hi3
    have hzr := hin.lt
    by_cases hml : 0 < m
    ·obtain ⟨hm4, hml4, hm1, hst, hap, hop⟩ := hin.out
     obtain ⟨Ap, cp, rfl, hcp, hcp2⟩ := hop.form
     have HST := Lib.hid hst; clear hst
     have HAP := Lib.hid hap; clear hap
     have HIN := Lib.hid hin; clear hin
     clear hop
     go_wp2_with fail
     refine (Next_S HIN.out hw3 _ (by omega) (by omega)).mono ?_
     rintro e w4 ⟨q1, rfl, hq1, hin4, hk4, hz4⟩
     have HIN4 := Lib.hid hin4; clear hin4 hk4 hz4
     go_wp2_with fail
     refine (Next_S HIN4.out hw3 _ (by omega) (by omega)).mono ?_
     rintro e w5 ⟨q2, rfl, hq2, hin5, hk5, hz5⟩
     have HIN5 := Lib.hid hin5; clear hin5 hk5 hz5
     go_wp2_with fail
     refine (Next_S HIN5.out hw3 _ (by omega) (by omega)).mono ?_
     rintro e w6 ⟨q3, rfl, hq3, hin6, hk6, hz6⟩
     have HIN6 := Lib.hid hin6; clear hin6 hk6 hz6
     go_wp2_with fail
     refine (Next_S HIN6.out hw3 _ (by omega) (by omega)).mono ?_
     rintro e w7 ⟨q4, rfl, hq4, hin7, hk7, hz7⟩
     have HIN7 := Lib.hid hin7; clear hin7 hk7 hz7 HIN HIN4 HIN5 HIN6
     have hm0 : (0 : Int) ≤ (q3 : Int) * (q4 : Int) := Int.mul_nonneg (by omega) (by omega)
     have hm58 : (q3 : Int) * (q4 : Int) < 60 := by
      have : (q3 : Int) * (q4 : Int) ≤ 2 * (q4 : Int) := Int.mul_le_mul_of_nonneg_right (by omega) (by omega)
      omega
     go_wp2
     generalize hW8 : World.alloc w7 _ = W8
     have HX8 : Hid (XInv w w3 w7 W8 (.slice Ap p.length cp) p m (.slice none 0 0) (q1 : Int) (q2 : Int) ((q3 : Int) * (q4 : Int))) := by
      subst hW8
      exact ⟨HIN7.out, (Keeps.refl _ _).alloc _, (HIN7.out.alloc hw3 _).src, Blk.new _ _ _⟩
     clear hW8
     have h7 := HIN7.out.lt
     have e0 := HX8.out.x.cell 0
     have f0 := HX8.out.x.frozen 0
     simp at e0
     have h77 := HIN7.out.lt
     by_cases g1 : 0 < p.length
     ·have hR := (HX8.out.s hw3).out.2.2.2.2.2.read RStage.ok (by omega) (S := fun b => b < W8.heap.size) (fun _ _ h => h) (fun _ _ h => h)
      obtain ⟨b5, o5, sl, A5, c5, rfl, hb5, hs5, k5, _⟩ := RPath.at_ hR (k := p.length - 1) (by omega)
      have HS5 := Lib.hid hs5; clear hs5 hR
      by_cases g2 : (sl.sec == (q1 : Int)) = true
      ·go_quiet (fail)
       go_wp2_with fail
       generalize hW9 : World.setCell (World.drewN W8 _) _ _ = W9
       have HX9 : Hid (XInv w w3 w7 W9 (.slice (some ⟨b5, o5, none⟩) p.length cp) p m (.slice none 0 0) (((q1 : Int) + 1) % 5) (q2 : Int) ((q3 : Int) * (q4 : Int))) := by
        subst hW9
        have KK := fun n => ((Keeps.refl (fun b => b = w7.heap.size) W8).drewN n).setCell (p := ⟨w7.heap.size, 0, none⟩) (fun _ => rfl) (.int .i64 (((q1 : Int) + 1) % 5))
        exact HX8.out.step (KK _) (fun b hb e => by omega) (HX8.out.srcK (KK _) (fun b hb e => by omega)) (HX8.out.x.set_ 0 _)
       clear hW9
       have LAST : Hid (∀ q, p.getLast? = some q → q.sec ≠ ((q1 : Int) + 1) % 5) := fun q hq => by
        rw [List.getLast?_eq_getElem?, HS5.out] at hq
        injection hq with hq
        subst hq
        have : sl.sec = (q1 : Int) := by simpa using g2
        rw [this]; omega
       go_wp2_with fail
       refine (Next_S (HX9.out.s hw3) hw3 _ (by omega) (by omega)).mono ?_
       rintro e w10 ⟨q5, rfl, hq5, hin10, hk10, hz10⟩
       have HX10 : Hid (XInv w w3 w7 w10 (.slice (some ⟨b5, o5, none⟩) p.length cp) p m (.slice none 0 0) (((q1 : Int) + 1) % 5) (q2 : Int) ((q3 : Int) * (q4 : Int))) := HX9.out.step hk10 (fun _ _ e => e) hin10.src (HX9.out.x.kept hk10 (by omega))
       clear hin10 hk10 hz10 HX9 e0 f0
       by_cases g5 : q5 = 0
       ·subst g5
        have e1 := HX10.out.x.cell 1
        simp at e1
        go_wp2
        have HS10 := Lib.hid ((HX10.out.s hw3).drew hw3)
        have hzx := HX10.out.x.lt
        refine wp_region_lex (fun w' => ∃ x : ExtC (fun b => b = w.heap.size) w10, w' = x.val) [0, 1, 2, 3, 4, 5, 6, 7, 8] (by kernel_rfl) (by kernel_rfl) (ExtC.start _ _) ?_
        have xe1 := ExtC.cell (C := fun b => b = w.heap.size) e1 (by simp; omega)
        iterate 3 (refine lex_q _ rfl rfl rfl ?_; go_big_quiet_step (fail); refine wpQuiet_nil ?_)
        refine lex_a _ rfl rfl true (by kernel_rfl) ?_
        go_wp2_with (go_at_call 36; refine (Next_S HS10.out hw3 _ (by omega) (by omega)).mono ?_; rintro e w11 ⟨q6, rfl, hq6, HS11, HK11, HZ11⟩)
        have K11 : Keeps (fun b => b = w.heap.size) w10 w11 := ((Keeps.refl _ _).drew).trans HK11 (fun _ _ h => h)
        have HX11 : Hid (XInv w w3 w7 w11 (.slice (some ⟨b5, o5, none⟩) p.length cp) p m (.slice none 0 0) (((q1 : Int) + 1) % 5) (q2 : Int) ((q3 : Int) * (q4 : Int))) := HX10.out.step K11 (fun _ _ e => e) HS11.src (HX10.out.x.kept K11 (by omega))
        have hz11 : w10.heap.size ≤ w11.heap.size := K11.size
        refine ⟨fun _ => ⟨⟨w11, K11⟩, rfl⟩, ?_⟩
        have HK11' := Lib.hid K11; clear K11 HK11 HZ11 HS11
        refine lex_q _ rfl rfl rfl ?_
        go_big_quiet_step (fail)
        refine wpQuiet_nil ?_
        refine lex_a _ rfl rfl true (by kernel_rfl) ?_
        go_wp2
        refine ⟨fun _ => ⟨⟨_, HK11'.out.alloc _⟩, rfl⟩, ?_⟩
        refine lex_a _ rfl rfl true (by kernel_rfl) ?_
        go_wp2_with (at_builtin; refine wpList_append_L tyInt RInt.ok rfl (.tmp 59) (.tmp 63) rfl (OwnL.nil (base := w11.heap.size) (lo := w11.heap.size)) rfl w11.heap.size [.int .i64 (5 + (q6 : Int))] rfl (Blk.new _ _ _) rfl (5 + (q6 : Int)) (S := fun _ => False) rfl (fun _ h => h.elim) (by simp [Value.oneCell']) (by simp) (by simp) (by simp) ?_; intro v12 w12 HO12 HK12 HA12)
        have K12 : KeepsAll w11 w12 := ((Keeps.refl _ _).alloc _).trans HK12 (fun _ _ h => by simp [Value.ownBlock] at h)
        obtain ⟨A12, c12, hv12, _, _⟩ := HO12.form
        simp only [List.nil_append, List.length_cons, List.length_nil, Nat.zero_add] at hv12
        subst hv12
        have HR12 : Hid (RInts w12 (fun b => w11.heap.size ≤ b ∧ b < w12.heap.size) [.slice A12 1 c12] [5 + (q6 : Int)]) := HO12.read RInt.ok (by omega) (S := fun b => w11.heap.size ≤ b ∧ b < w12.heap.size) (fun _ h1 h2 => ⟨h1, h2⟩) (fun _ h1 h2 => ⟨h1, h2⟩)
        have HX12 : Hid (XInv w w3 w7 w12 (.slice (some ⟨b5, o5, none⟩) p.length cp) p m (.slice none 0 0) (((q1 : Int) + 1) % 5) (q2 : Int) ((q3 : Int) * (q4 : Int))) := HX11.out.step K12 (fun _ _ e => e.elim) (HX11.out.srcK K12 (fun _ _ h => h)) (HX11.out.x.kept K12 (by simp))
        have hz12 : w11.heap.size ≤ w12.heap.size := K12.size
        have HK12' : Hid (Keeps (fun b => b = w.heap.size) w10 w12) := HK11'.out.trans K12 (fun _ _ h => h.elim)
        clear HO12 HK12 HA12 K12
        have e12 := HX12.out.x.cell 1
        have f12 := HX12.out.x.frozen 1
        simp at e12
        refine ⟨fun _ => ⟨⟨_, HK12'.out⟩, rfl⟩, ?_⟩
        refine lex_q _ rfl rfl rfl ?_
        go_big_quiet_step (fail)
        refine wpQuiet_nil ?_
        refine lex_a _ rfl rfl false (by kernel_rfl) ?_
        go_wp2
        refine ⟨fun h => (by cases h), ?_⟩
        generalize hWF : World.setCell w12 _ _ = WF
        have KF : Keeps (fun b => b = w7.heap.size) w12 WF := by subst hWF; exact (Keeps.refl (fun b => b = w7.heap.size) _).setCell (p := ⟨w7.heap.size, 1, none⟩) (fun _ => rfl) _
        have HXF : Hid (XInv w w3 w7 WF (.slice (some ⟨b5, o5, none⟩) p.length cp) p m (.slice A12 1 c12) (((q1 : Int) + 1) % 5) (q2 : Int) ((q3 : Int) * (q4 : Int))) := HX12.out.step KF (fun b hb e => by omega) (HX12.out.srcK KF (fun b hb e => by omega)) (by subst hWF; exact HX12.out.x.set_ 1 _)
        have HRF : Hid (∀ o, RInts (WF.alloc o) (fun b => w11.heap.size ≤ b ∧ b < w12.heap.size) [.slice A12 1 c12] [5 + (q6 : Int)]) := fun o =>
         (KF.alloc o).rd RInts.ok HR12.out (fun k hk => ⟨hk.2, by omega⟩) (fun _ h => h)
        have hKF := KF.size
        have HFAR : Hid (∀ b, w11.heap.size ≤ b → (Value.slice (some ⟨b5, o5, none⟩) p.length cp).ownBlock ≠ some b) := fun b hb e => by
         have := HX10.out.i.out.2.2.2.2.2.lt e; omega
        have STM : Hid (stMade ⟨((q1 : Int) + 1) % 5, [5 + (q6 : Int)], (q2 : Int), (q3 : Int) * (q4 : Int)⟩) := by
         have h56 : 5 + (q6 : Int) = 5 ∨ 5 + (q6 : Int) = 6 := by omega
         show stMade _
         refine ⟨by simp only []; omega, by simp only []; omega, ?_, by simp only []; omega, by simp only []; omega, by simp only []; omega, by simp only []; omega⟩
         rcases h56 with h | h <;> simp only [h] <;> simp
        clear KF hWF e12 f12 xe1 e1
        show wpLex _ _ _ _ _ _ _ _ _
        simp only [wpLex]
        refine NoPanic.normal ?_
        have HSF := Lib.hid (HXF.out.s hw3)
        have HOF := Lib.hid HSF.out.out.2.2.2.2.2
        have hxl := HXF.out.x.lt
        have c0 := HXF.out.x.cell 0
        have c1 := HXF.out.x.cell 1
        have c2 := HXF.out.x.cell 2
        have c3 := HXF.out.x.cell 3
        simp at c0 c1 c2 c3
        have hkw := HXF.out.k.size
        have hkw0 := HXF.out.i.k.size
        go_wp2_with (at_builtin; refine wpList_append_L tyStage RStage.ok rfl (.tmp 66) (.tmp 68) rfl (HOF.out.alloc RStage.ok _) rfl _ [.int .i64 (((q1 : Int) + 1) % 5), .slice A12 1 c12, .int .i64 (q2 : Int), .int .i64 ((q3 : Int) * (q4 : Int))] rfl (Blk.new' _ _ _ (by simp)) rfl (⟨((q1 : Int) + 1) % 5, [5 + (q6 : Int)], (q2 : Int), (q3 : Int) * (q4 : Int)⟩) (S := fun b => w11.heap.size ≤ b ∧ b < w12.heap.size) (⟨_, rfl, HRF.out _⟩) (fun b hb => ⟨by omega, by simp; omega, HFAR.out b hb.1⟩) (by simp [Value.oneCell']) (by omega) (by omega) (by simp; omega) ?_; intro v13 w13 HO13 HK13 HA13)
        have HS13 : Hid (SInv w w3 w13 v13 (p ++ [⟨((q1 : Int) + 1) % 5, [5 + (q6 : Int)], (q2 : Int), (q3 : Int) * (q4 : Int)⟩]) (m - 1)) := HSF.out.grow hw3 hml HO13 HK13 STM.out LAST.out
        clear HO13 HK13 HA13
        go_wp2
        go_roundw
        case rel => exact ⟨m - 1, _, by go_num, HS13.out⟩
        case measure => simp [intOf]; omega
       ·have g5' : ((q5 : Int) == 0) = false := by simp; omega
        have STM : Hid (stMade ⟨((q1 : Int) + 1) % 5, [], (q2 : Int), (q3 : Int) * (q4 : Int)⟩) := by
         show stMade _
         exact ⟨by simp only []; omega, by simp only []; omega, .inl rfl, by simp only []; omega, by simp only []; omega, by simp only []; omega, by simp only []; omega⟩
        have HSF := Lib.hid (HX10.out.s hw3)
        have HOF := Lib.hid HSF.out.out.2.2.2.2.2
        have hxl := HX10.out.x.lt
        have c0 := HX10.out.x.cell 0
        have c1 := HX10.out.x.cell 1
        have c2 := HX10.out.x.cell 2
        have c3 := HX10.out.x.cell 3
        simp at c0 c1 c2 c3
        have hkw := HX10.out.k.size
        have hkw0 := HX10.out.i.k.size
        go_wp2_with (at_builtin; refine wpList_append_L tyStage RStage.ok rfl (.tmp 66) (.tmp 68) rfl (HOF.out.alloc RStage.ok _) rfl _ [.int .i64 (((q1 : Int) + 1) % 5), .slice none 0 0, .int .i64 (q2 : Int), .int .i64 ((q3 : Int) * (q4 : Int))] rfl (Blk.new' _ _ _ (by simp)) rfl (⟨((q1 : Int) + 1) % 5, [], (q2 : Int), (q3 : Int) * (q4 : Int)⟩) (S := fun _ => False) (⟨_, rfl, RSlice.mkNil⟩) (fun _ h => h.elim) (by simp [Value.oneCell']) (by omega) (by omega) (by simp; omega) ?_; intro v13 w13 HO13 HK13 HA13)
        have HS13 : Hid (SInv w w3 w13 v13 (p ++ [⟨((q1 : Int) + 1) % 5, [], (q2 : Int), (q3 : Int) * (q4 : Int)⟩]) (m - 1)) := HSF.out.grow hw3 hml HO13 HK13 STM.out LAST.out
        clear HO13 HK13 HA13
        go_wp2
        go_roundw
        case rel => exact ⟨m - 1, _, by go_num, HS13.out⟩
        case measure => simp [intOf]; omega
      ·have g2' : (sl.sec == (q1 : Int)) = false := by simpa using g2
       go_quiet (fail)
       generalize hW9 : World.drewN W8 _ = W9
       have HX9 : Hid (XInv w w3 w7 W9 (.slice (some ⟨b5, o5, none⟩) p.length cp) p m (.slice none 0 0) ((q1 : Int)) (q2 : Int) ((q3 : Int) * (q4 : Int))) := by
        subst hW9
        exact HX8.out.step ((Keeps.refl (fun _ => False) _).drewN _) (fun _ _ h => h.elim) HX8.out.src HX8.out.x
       clear hW9
       have LAST : Hid (∀ q, p.getLast? = some q → q.sec ≠ (q1 : Int)) := fun q hq => by
        rw [List.getLast?_eq_getElem?, HS5.out] at hq
        injection hq with hq
        subst hq
        simpa using g2
       go_wp2_with fail
       refine (Next_S (HX9.out.s hw3) hw3 _ (by omega) (by omega)).mono ?_
       rintro e w10 ⟨q5, rfl, hq5, hin10, hk10, hz10⟩
       have HX10 : Hid (XInv w w3 w7 w10 (.slice (some ⟨b5, o5, none⟩) p.length cp) p m (.slice none 0 0) ((q1 : Int)) (q2 : Int) ((q3 : Int) * (q4 : Int))) := HX9.out.step hk10 (fun _ _ e => e) hin10.src (HX9.out.x.kept hk10 (by omega))
       clear hin10 hk10 hz10 HX9 e0 f0
       by_cases g5 : q5 = 0
       ·subst g5
        have e1 := HX10.out.x.cell 1
        simp at e1
        go_wp2
        have HS10 := Lib.hid ((HX10.out.s hw3).drew hw3)
        have hzx := HX10.out.x.lt
        refine wp_region_lex (fun w' => ∃ x : ExtC (fun b => b = w.heap.size) w10, w' = x.val) [0, 1, 2, 3, 4, 5, 6, 7, 8] (by kernel_rfl) (by kernel_rfl) (ExtC.start _ _) ?_
        have xe1 := ExtC.cell (C := fun b => b = w.heap.size) e1 (by simp; omega)
        iterate 3 (refine lex_q _ rfl rfl rfl ?_; go_big_quiet_step (fail); refine wpQuiet_nil ?_)
        refine lex_a _ rfl rfl true (by kernel_rfl) ?_
        go_wp2_with (go_at_call 36; refine (Next_S HS10.out hw3 _ (by omega) (by omega)).mono ?_; rintro e w11 ⟨q6, rfl, hq6, HS11, HK11, HZ11⟩)
        have K11 : Keeps (fun b => b = w.heap.size) w10 w11 := ((Keeps.refl _ _).drew).trans HK11 (fun _ _ h => h)
        have HX11 : Hid (XInv w w3 w7 w11 (.slice (some ⟨b5, o5, none⟩) p.length cp) p m (.slice none 0 0) ((q1 : Int)) (q2 : Int) ((q3 : Int) * (q4 : Int))) := HX10.out.step K11 (fun _ _ e => e) HS11.src (HX10.out.x.kept K11 (by omega))
        have hz11 : w10.heap.size ≤ w11.heap.size := K11.size
        refine ⟨fun _ => ⟨⟨w11, K11⟩, rfl⟩, ?_⟩
        have HK11' := Lib.hid K11; clear K11 HK11 HZ11 HS11
        refine lex_q _ rfl rfl rfl ?_
        go_big_quiet_step (fail)
        refine wpQuiet_nil ?_
        refine lex_a _ rfl rfl true (by kernel_rfl) ?_
        go_wp2
        refine ⟨fun _ => ⟨⟨_, HK11'.out.alloc _⟩, rfl⟩, ?_⟩
        refine lex_a _ rfl rfl true (by kernel_rfl) ?_
        go_wp2_with (at_builtin; refine wpList_append_L tyInt RInt.ok rfl (.tmp 59) (.tmp 63) rfl (OwnL.nil (base := w11.heap.size) (lo := w11.heap.size)) rfl w11.heap.size [.int .i64 (5 + (q6 : Int))] rfl (Blk.new _ _ _) rfl (5 + (q6 : Int)) (S := fun _ => False) rfl (fun _ h => h.elim) (by simp [Value.oneCell']) (by simp) (by simp) (by simp) ?_; intro v12 w12 HO12 HK12 HA12)
        have K12 : KeepsAll w11 w12 := ((Keeps.refl _ _).alloc _).trans HK12 (fun _ _ h => by simp [Value.ownBlock] at h)
        obtain ⟨A12, c12, hv12, _, _⟩ := HO12.form
        simp only [List.nil_append, List.length_cons, List.length_nil, Nat.zero_add] at hv12
        subst hv12
        have HR12 : Hid (RInts w12 (fun b => w11.heap.size ≤ b ∧ b < w12.heap.size) [.slice A12 1 c12] [5 + (q6 : Int)]) := HO12.read RInt.ok (by omega) (S := fun b => w11.heap.size ≤ b ∧ b < w12.heap.size) (fun _ h1 h2 => ⟨h1, h2⟩) (fun _ h1 h2 => ⟨h1, h2⟩)
        have HX12 : Hid (XInv w w3 w7 w12 (.slice (some ⟨b5, o5, none⟩) p.length cp) p m (.slice none 0 0) ((q1 : Int)) (q2 : Int) ((q3 : Int) * (q4 : Int))) := HX11.out.step K12 (fun _ _ e => e.elim) (HX11.out.srcK K12 (fun _ _ h => h)) (HX11.out.x.kept K12 (by simp))
        have hz12 : w11.heap.size ≤ w12.heap.size := K12.size
        have HK12' : Hid (Keeps (fun b => b = w.heap.size) w10 w12) := HK11'.out.trans K12 (fun _ _ h => h.elim)
        clear HO12 HK12 HA12 K12
        have e12 := HX12.out.x.cell 1
        have f12 := HX12.out.x.frozen 1
        simp at e12
        refine ⟨fun _ => ⟨⟨_, HK12'.out⟩, rfl⟩, ?_⟩
        refine lex_q _ rfl rfl rfl ?_
        go_big_quiet_step (fail)
        refine wpQuiet_nil ?_
        refine lex_a _ rfl rfl false (by kernel_rfl) ?_
        go_wp2
        refine ⟨fun h => (by cases h), ?_⟩
        generalize hWF : World.setCell w12 _ _ = WF
        have KF : Keeps (fun b => b = w7.heap.size) w12 WF := by subst hWF; exact (Keeps.refl (fun b => b = w7.heap.size) _).setCell (p := ⟨w7.heap.size, 1, none⟩) (fun _ => rfl) _
        have HXF : Hid (XInv w w3 w7 WF (.slice (some ⟨b5, o5, none⟩) p.length cp) p m (.slice A12 1 c12) ((q1 : Int)) (q2 : Int) ((q3 : Int) * (q4 : Int))) := HX12.out.step KF (fun b hb e => by omega) (HX12.out.srcK KF (fun b hb e => by omega)) (by subst hWF; exact HX12.out.x.set_ 1 _)
        have HRF : Hid (∀ o, RInts (WF.alloc o) (fun b => w11.heap.size ≤ b ∧ b < w12.heap.size) [.slice A12 1 c12] [5 + (q6 : Int)]) := fun o =>
         (KF.alloc o).rd RInts.ok HR12.out (fun k hk => ⟨hk.2, by omega⟩) (fun _ h => h)
        have hKF := KF.size
        have HFAR : Hid (∀ b, w11.heap.size ≤ b → (Value.slice (some ⟨b5, o5, none⟩) p.length cp).ownBlock ≠ some b) := fun b hb e => by
         have := HX10.out.i.out.2.2.2.2.2.lt e; omega
        have STM : Hid (stMade ⟨(q1 : Int), [5 + (q6 : Int)], (q2 : Int), (q3 : Int) * (q4 : Int)⟩) := by
         have h56 : 5 + (q6 : Int) = 5 ∨ 5 + (q6 : Int) = 6 := by omega
         show stMade _
         refine ⟨by simp only []; omega, by simp only []; omega, ?_, by simp only []; omega, by simp only []; omega, by simp only []; omega, by simp only []; omega⟩
         rcases h56 with h | h <;> simp only [h] <;> simp
        clear KF hWF e12 f12 xe1 e1
        show wpLex _ _ _ _ _ _ _ _ _
        simp only [wpLex]
        refine NoPanic.normal ?_
        have HSF := Lib.hid (HXF.out.s hw3)
        have HOF := Lib.hid HSF.out.out.2.2.2.2.2
        have hxl := HXF.out.x.lt
        have c0 := HXF.out.x.cell 0
        have c1 := HXF.out.x.cell 1
        have c2 := HXF.out.x.cell 2
        have c3 := HXF.out.x.cell 3
        simp at c0 c1 c2 c3
        have hkw := HXF.out.k.size
        have hkw0 := HXF.out.i.k.size
        go_wp2_with (at_builtin; refine wpList_append_L tyStage RStage.ok rfl (.tmp 66) (.tmp 68) rfl (HOF.out.alloc RStage.ok _) rfl _ [.int .i64 ((q1 : Int)), .slice A12 1 c12, .int .i64 (q2 : Int), .int .i64 ((q3 : Int) * (q4 : Int))] rfl (Blk.new' _ _ _ (by simp)) rfl (⟨(q1 : Int), [5 + (q6 : Int)], (q2 : Int), (q3 : Int) * (q4 : Int)⟩) (S := fun b => w11.heap.size ≤ b ∧ b < w12.heap.size) (⟨_, rfl, HRF.out _⟩) (fun b hb => ⟨by omega, by simp; omega, HFAR.out b hb.1⟩) (by simp [Value.oneCell']) (by omega) (by omega) (by simp; omega) ?_; intro v13 w13 HO13 HK13 HA13)
        have HS13 : Hid (SInv w w3 w13 v13 (p ++ [⟨(q1 : Int), [5 + (q6 : Int)], (q2 : Int), (q3 : Int) * (q4 : Int)⟩]) (m - 1)) := HSF.out.grow hw3 hml HO13 HK13 STM.out LAST.out
        clear HO13 HK13 HA13
        go_wp2
        go_roundw
        case rel => exact ⟨m - 1, _, by go_num, HS13.out⟩
        case measure => simp [intOf]; omega
       ·have g5' : ((q5 : Int) == 0) = false := by simp; omega
        have STM : Hid (stMade ⟨(q1 : Int), [], (q2 : Int), (q3 : Int) * (q4 : Int)⟩) := by
         show stMade _
         exact ⟨by simp only []; omega, by simp only []; omega, .inl rfl, by simp only []; omega, by simp only []; omega, by simp only []; omega, by simp only []; omega⟩
        have HSF := Lib.hid (HX10.out.s hw3)
        have HOF := Lib.hid HSF.out.out.2.2.2.2.2
        have hxl := HX10.out.x.lt
        have c0 := HX10.out.x.cell 0
        have c1 := HX10.out.x.cell 1
        have c2 := HX10.out.x.cell 2
        have c3 := HX10.out.x.cell 3
        simp at c0 c1 c2 c3
        have hkw := HX10.out.k.size
        have hkw0 := HX10.out.i.k.size
        go_wp2_with (at_builtin; refine wpList_append_L tyStage RStage.ok rfl (.tmp 66) (.tmp 68) rfl (HOF.out.alloc RStage.ok _) rfl _ [.int .i64 ((q1 : Int)), .slice none 0 0, .int .i64 (q2 : Int), .int .i64 ((q3 : Int) * (q4 : Int))] rfl (Blk.new' _ _ _ (by simp)) rfl (⟨(q1 : Int), [], (q2 : Int), (q3 : Int) * (q4 : Int)⟩) (S := fun _ => False) (⟨_, rfl, RSlice.mkNil⟩) (fun _ h => h.elim) (by simp [Value.oneCell']) (by omega) (by omega) (by simp; omega) ?_; intro v13 w13 HO13 HK13 HA13)
        have HS13 : Hid (SInv w w3 w13 v13 (p ++ [⟨(q1 : Int), [], (q2 : Int), (q3 : Int) * (q4 : Int)⟩]) (m - 1)) := HSF.out.grow hw3 hml HO13 HK13 STM.out LAST.out
        clear HO13 HK13 HA13
        go_wp2
        go_roundw
        case rel => exact ⟨m - 1, _, by go_num, HS13.out⟩
        case measure => simp [intOf]; omega
     ·have g1' : decide ((0 : Int) < (p.length : Int)) = false := decide_eq_false (by omega)
      go_quiet (fail)
      generalize hW9 : World.drewN W8 _ = W9
      have HX9 : Hid (XInv w w3 w7 W9 (.slice Ap p.length cp) p m (.slice none 0 0) ((q1 : Int)) (q2 : Int) ((q3 : Int) * (q4 : Int))) := by
       subst hW9
       exact HX8.out.step ((Keeps.refl (fun _ => False) _).drewN _) (fun _ _ h => h.elim) HX8.out.src HX8.out.x
      clear hW9
      have LAST : Hid (∀ q, p.getLast? = some q → q.sec ≠ (q1 : Int)) := fun q hq => by
       have : p = [] := List.eq_nil_of_length_eq_zero (by omega)
       subst this; simp at hq
      go_wp2_with fail
      refine (Next_S (HX9.out.s hw3) hw3 _ (by omega) (by omega)).mono ?_
      rintro e w10 ⟨q5, rfl, hq5, hin10, hk10, hz10⟩
      have HX10 : Hid (XInv w w3 w7 w10 (.slice Ap p.length cp) p m (.slice none 0 0) ((q1 : Int)) (q2 : Int) ((q3 : Int) * (q4 : Int))) := HX9.out.step hk10 (fun _ _ e => e) hin10.src (HX9.out.x.kept hk10 (by omega))
      clear hin10 hk10 hz10 HX9 e0 f0
      by_cases g5 : q5 = 0
      ·subst g5
       have e1 := HX10.out.x.cell 1
       simp at e1
       go_wp2
       have HS10 := Lib.hid ((HX10.out.s hw3).drew hw3)
       have hzx := HX10.out.x.lt
       refine wp_region_lex (fun w' => ∃ x : ExtC (fun b => b = w.heap.size) w10, w' = x.val) [0, 1, 2, 3, 4, 5, 6, 7, 8] (by kernel_rfl) (by kernel_rfl) (ExtC.start _ _) ?_
       have xe1 := ExtC.cell (C := fun b => b = w.heap.size) e1 (by simp; omega)
       iterate 3 (refine lex_q _ rfl rfl rfl ?_; go_big_quiet_step (fail); refine wpQuiet_nil ?_)
       refine lex_a _ rfl rfl true (by kernel_rfl) ?_
       go_wp2_with (go_at_call 36; refine (Next_S HS10.out hw3 _ (by omega) (by omega)).mono ?_; rintro e w11 ⟨q6, rfl, hq6, HS11, HK11, HZ11⟩)
       have K11 : Keeps (fun b => b = w.heap.size) w10 w11 := ((Keeps.refl _ _).drew).trans HK11 (fun _ _ h => h)
       have HX11 : Hid (XInv w w3 w7 w11 (.slice Ap p.length cp) p m (.slice none 0 0) ((q1 : Int)) (q2 : Int) ((q3 : Int) * (q4 : Int))) := HX10.out.step K11 (fun _ _ e => e) HS11.src (HX10.out.x.kept K11 (by omega))
       have hz11 : w10.heap.size ≤ w11.heap.size := K11.size
       refine ⟨fun _ => ⟨⟨w11, K11⟩, rfl⟩, ?_⟩
       have HK11' := Lib.hid K11; clear K11 HK11 HZ11 HS11
       refine lex_q _ rfl rfl rfl ?_
       go_big_quiet_step (fail)
       refine wpQuiet_nil ?_
       refine lex_a _ rfl rfl true (by kernel_rfl) ?_
       go_wp2
       refine ⟨fun _ => ⟨⟨_, HK11'.out.alloc _⟩, rfl⟩, ?_⟩
       refine lex_a _ rfl rfl true (by kernel_rfl) ?_
       go_wp2_with (at_builtin; refine wpList_append_L tyInt RInt.ok rfl (.tmp 59) (.tmp 63) rfl (OwnL.nil (base := w11.heap.size) (lo := w11.heap.size)) rfl w11.heap.size [.int .i64 (5 + (q6 : Int))] rfl (Blk.new _ _ _) rfl (5 + (q6 : Int)) (S := fun _ => False) rfl (fun _ h => h.elim) (by simp [Value.oneCell']) (by simp) (by simp) (by simp) ?_; intro v12 w12 HO12 HK12 HA12)
       have K12 : KeepsAll w11 w12 := ((Keeps.refl _ _).alloc _).trans HK12 (fun _ _ h => by simp [Value.ownBlock] at h)
       obtain ⟨A12, c12, hv12, _, _⟩ := HO12.form
       simp only [List.nil_append, List.length_cons, List.length_nil, Nat.zero_add] at hv12
       subst hv12
       have HR12 : Hid (RInts w12 (fun b => w11.heap.size ≤ b ∧ b < w12.heap.size) [.slice A12 1 c12] [5 + (q6 : Int)]) := HO12.read RInt.ok (by omega) (S := fun b => w11.heap.size ≤ b ∧ b < w12.heap.size) (fun _ h1 h2 => ⟨h1, h2⟩) (fun _ h1 h2 => ⟨h1, h2⟩)
       have HX12 : Hid (XInv w w3 w7 w12 (.slice Ap p.length cp) p m (.slice none 0 0) ((q1 : Int)) (q2 : Int) ((q3 : Int) * (q4 : Int))) := HX11.out.step K12 (fun _ _ e => e.elim) (HX11.out.srcK K12 (fun _ _ h => h)) (HX11.out.x.kept K12 (by simp))
       have hz12 : w11.heap.size ≤ w12.heap.size := K12.size
       have HK12' : Hid (Keeps (fun b => b = w.heap.size) w10 w12) := HK11'.out.trans K12 (fun _ _ h => h.elim)
       clear HO12 HK12 HA12 K12
       have e12 := HX12.out.x.cell 1
       have f12 := HX12.out.x.frozen 1
       simp at e12
       refine ⟨fun _ => ⟨⟨_, HK12'.out⟩, rfl⟩, ?_⟩
       refine lex_q _ rfl rfl rfl ?_
       go_big_quiet_step (fail)
       refine wpQuiet_nil ?_
       refine lex_a _ rfl rfl false (by kernel_rfl) ?_
       go_wp2
       refine ⟨fun h => (by cases h), ?_⟩
       generalize hWF : World.setCell w12 _ _ = WF
       have KF : Keeps (fun b => b = w7.heap.size) w12 WF := by subst hWF; exact (Keeps.refl (fun b => b = w7.heap.size) _).setCell (p := ⟨w7.heap.size, 1, none⟩) (fun _ => rfl) _
       have HXF : Hid (XInv w w3 w7 WF (.slice Ap p.length cp) p m (.slice A12 1 c12) ((q1 : Int)) (q2 : Int) ((q3 : Int) * (q4 : Int))) := HX12.out.step KF (fun b hb e => by omega) (HX12.out.srcK KF (fun b hb e => by omega)) (by subst hWF; exact HX12.out.x.set_ 1 _)
       have HRF : Hid (∀ o, RInts (WF.alloc o) (fun b => w11.heap.size ≤ b ∧ b < w12.heap.size) [.slice A12 1 c12] [5 + (q6 : Int)]) := fun o =>
        (KF.alloc o).rd RInts.ok HR12.out (fun k hk => ⟨hk.2, by omega⟩) (fun _ h => h)
       have hKF := KF.size
       have HFAR : Hid (∀ b, w11.heap.size ≤ b → (Value.slice Ap p.length cp).ownBlock ≠ some b) := fun b hb e => by
        have := HX10.out.i.out.2.2.2.2.2.lt e; omega
       have STM : Hid (stMade ⟨(q1 : Int), [5 + (q6 : Int)], (q2 : Int), (q3 : Int) * (q4 : Int)⟩) := by
        have h56 : 5 + (q6 : Int) = 5 ∨ 5 + (q6 : Int) = 6 := by omega
        show stMade _
        refine ⟨by simp only []; omega, by simp only []; omega, ?_, by simp only []; omega, by simp only []; omega, by simp only []; omega, by simp only []; omega⟩
        rcases h56 with h | h <;> simp only [h] <;> simp
       clear KF hWF e12 f12 xe1 e1
       show wpLex _ _ _ _ _ _ _ _ _
       simp only [wpLex]
       refine NoPanic.normal ?_
       have HSF := Lib.hid (HXF.out.s hw3)
       have HOF := Lib.hid HSF.out.out.2.2.2.2.2
       have hxl := HXF.out.x.lt
       have c0 := HXF.out.x.cell 0
       have c1 := HXF.out.x.cell 1
       have c2 := HXF.out.x.cell 2
       have c3 := HXF.out.x.cell 3
       simp at c0 c1 c2 c3
       have hkw := HXF.out.k.size
       have hkw0 := HXF.out.i.k.size
       go_wp2_with (at_builtin; refine wpList_append_L tyStage RStage.ok rfl (.tmp 66) (.tmp 68) rfl (HOF.out.alloc RStage.ok _) rfl _ [.int .i64 ((q1 : Int)), .slice A12 1 c12, .int .i64 (q2 : Int), .int .i64 ((q3 : Int) * (q4 : Int))] rfl (Blk.new' _ _ _ (by simp)) rfl (⟨(q1 : Int), [5 + (q6 : Int)], (q2 : Int), (q3 : Int) * (q4 : Int)⟩) (S := fun b => w11.heap.size ≤ b ∧ b < w12.heap.size) (⟨_, rfl, HRF.out _⟩) (fun b hb => ⟨by omega, by simp; omega, HFAR.out b hb.1⟩) (by simp [Value.oneCell']) (by omega) (by omega) (by simp; omega) ?_; intro v13 w13 HO13 HK13 HA13)
       have HS13 : Hid (SInv w w3 w13 v13 (p ++ [⟨(q1 : Int), [5 + (q6 : Int)], (q2 : Int), (q3 : Int) * (q4 : Int)⟩]) (m - 1)) := HSF.out.grow hw3 hml HO13 HK13 STM.out LAST.out
       clear HO13 HK13 HA13
       go_wp2
       go_roundw
       case rel => exact ⟨m - 1, _, by go_num, HS13.out⟩
       case measure => simp [intOf]; omega
      ·have g5' : ((q5 : Int) == 0) = false := by simp; omega
       have STM : Hid (stMade ⟨(q1 : Int), [], (q2 : Int), (q3 : Int) * (q4 : Int)⟩) := by
        show stMade _
        exact ⟨by simp only []; omega, by simp only []; omega, .inl rfl, by simp only []; omega, by simp only []; omega, by simp only []; omega, by simp only []; omega⟩
       have HSF := Lib.hid (HX10.out.s hw3)
       have HOF := Lib.hid HSF.out.out.2.2.2.2.2
       have hxl := HX10.out.x.lt
       have c0 := HX10.out.x.cell 0
       have c1 := HX10.out.x.cell 1
       have c2 := HX10.out.x.cell 2
       have c3 := HX10.out.x.cell 3
       simp at c0 c1 c2 c3
       have hkw := HX10.out.k.size
       have hkw0 := HX10.out.i.k.size
       go_wp2_with (at_builtin; refine wpList_append_L tyStage RStage.ok rfl (.tmp 66) (.tmp 68) rfl (HOF.out.alloc RStage.ok _) rfl _ [.int .i64 ((q1 : Int)), .slice none 0 0, .int .i64 (q2 : Int), .int .i64 ((q3 : Int) * (q4 : Int))] rfl (Blk.new' _ _ _ (by simp)) rfl (⟨(q1 : Int), [], (q2 : Int), (q3 : Int) * (q4 : Int)⟩) (S := fun _ => False) (⟨_, rfl, RSlice.mkNil⟩) (fun _ h => h.elim) (by simp [Value.oneCell']) (by omega) (by omega) (by simp; omega) ?_; intro v13 w13 HO13 HK13 HA13)
       have HS13 : Hid (SInv w w3 w13 v13 (p ++ [⟨(q1 : Int), [], (q2 : Int), (q3 : Int) * (q4 : Int)⟩]) (m - 1)) := HSF.out.grow hw3 hml HO13 HK13 STM.out LAST.out
       clear HO13 HK13 HA13
       go_wp2
       go_roundw
       case rel => exact ⟨m - 1, _, by go_num, HS13.out⟩
       case measure => simp [intOf]; omega
    ·obtain ⟨hm4, hml4, hm1, hst, hap, hop⟩ := hin.out
     obtain rfl : m = 0 := by omega
     have PM : Hid (pMade p) := ⟨by omega, by omega, hst, hap⟩
     obtain ⟨Ap, cp, rfl, hcp, hcp2⟩ := hop.form
     have HRD := Lib.hid (hop.read RStage.ok (by omega) (S := fun b => w3.heap.size ≤ b ∧ b < wr.heap.size) (fun _ h1 h2 => ⟨h1, h2⟩) (fun _ h1 h2 => ⟨h1, h2⟩))
     have HIN := Lib.hid hin; clear hin hop hst hap
     have HOPW := Lib.hid (HOP3.out.keeps RPath.ok HIN.out.k (fun b hb e => by omega))
     have hpsl : ps.length ≤ 3 := by omega
     have hkz := HIN.out.k.size
     have HFAR : Hid (∀ b, w3.heap.size ≤ b → u4.ownBlock ≠ some b) := fun b hb e => by
      have := HOP3.out.lt e; omega
     go_wp2_with (at_builtin; refine wpList_append_L tyPath RPath.ok rfl (.tmp 70) (.tmp 72) rfl (HOPW.out.alloc RPath.ok _) rfl _ [.slice Ap p.length cp] rfl (Blk.new' _ _ _ (by simp)) rfl p (S := fun b => w3.heap.size ≤ b ∧ b < wr.heap.size) (RPath.ok.mono HRD.out (fun _ h => h) (fun b hb => Below.heap_alloc _ _ b hb.2)) (fun b hb => ⟨by omega, by simp; omega, HFAR.out b hb.1⟩) (by simp [Value.oneCell']) (by omega) (by omega) (by simp; omega) ?_; intro v13 w13 HO13 HK13 HA13)
     have HP13 : Hid (PInv w w13 v13 (n - 1)) := PInv.grow HK3.out HIN.out hw3 HOP3.out HPM.out hn3 hnl hlt PM.out HO13 HK13
     clear HO13 HK13 HA13
     go_wp2
     go_roundw
     case rel => exact ⟨n - 1, by go_num, HP13.out⟩
     case measure => simp [intOf]; omega
  ·obtain rfl : n = 0 := by omega
   obtain ⟨Ao, co, rfl, _, _⟩ := HOP.out.form
   have HRD := Lib.hid (HOP.out.read RPath.ok (by omega) (S := Fresh w wr) (fun b h1 h2 => ⟨by omega, h2⟩) (fun b h1 h2 => ⟨by omega, h2⟩))
   have PSM : Hid (psMade ps) := ⟨by omega, by omega, HPM.out⟩
   have HK := Lib.hid hinv.k
   clear hinv
   go_wp2
   go_ret
   exact ⟨_, ps, rfl, HRD.out, PSM.out, HK.out⟩

end Go.Proofs.Ytilbbpbjhoidhaa
