/- Contract of follow of chapter 37. Conditions: as the theorem says. Contracts of what Verify of chapter 37 calls: IndexFunc over orders, EqualFunc and Equal. Conditions: as each theorem says. -/
import Derived.Test.YtilbbpbjhoidhaaE31
import Derived.Deep.Cut
namespace Go.Proofs.Ytilbbpbjhoidhaa
open Go.RowKit

theorem arcT_same {ps : List (List Stage)} {r : Int} {pre : List Ref} {v : Ref} {t : Nat} (h : (t : Int) = v.tr) : arcT ps r pre v t = [] := if_pos h
theorem arcT_none {ps : List (List Stage)} {r : Int} {pre : List Ref} {v : Ref} {t : Nat} (h : lastU pre (t : Int) = none) : arcT ps r pre v t = [] := by
 unfold arcT; rw [h]; split <;> rfl
theorem arcT_some {ps : List (List Stage)} {r : Int} {pre : List Ref} {v u : Ref} {t : Nat} (hne : ¬ (t : Int) = v.tr) (h : lastU pre (t : Int) = some u) : arcT ps r pre v t = [arc0 (relOf ps r u) v] := by
 unfold arcT; rw [if_neg hne, h]
theorem okSeq_one {ps : List (List Stage)} {at_ : List Int} {D : List RArc} {a : RArc} : okSeq ps at_ D [a] = okD ps at_ (D ++ [a]) := by simp [okSeq]
theorem fill_neg {n k : Nat} (hk : k < n) : (List.replicate k (-1) ++ List.replicate (n - k) (0 : Int))[k]? = some 0 ∧ (List.replicate k (-1) ++ List.replicate (n - k) (0 : Int)).set k (-1) = List.replicate (k + 1) (-1) ++ List.replicate (n - (k + 1)) 0 := by
 constructor
 ·rw [List.getElem?_append_right (by simp), List.length_replicate, Nat.sub_self, List.getElem?_replicate, if_pos (by omega)]
 ·rw [List.set_append_right _ _ (by simp), List.length_replicate, Nat.sub_self, show n - k = (n - (k + 1)) + 1 from by omega, List.replicate_succ, List.set_cons_zero, List.replicate_succ', List.append_assoc]; rfl
def FoR (s : GS) (r : Int) (l o : List Ref) (D : List RArc) (j : Nat) (D' : List RArc) : Prop :=
 folF s.ps s.at_ r l [] o D = folF s.ps s.at_ r l (o.take j) (o.drop j) D' ∧ ∀ u ∈ o.take j, u ∈ l
theorem FoR.bad {s : GS} {r : Int} {l o : List Ref} {D D' : List RArc} {j : Nat} {v : Ref} (h : FoR s r l o D j D') (hv : o[j]? = some v) (hb : folBad l (o.take j) v = true) : folF s.ps s.at_ r l [] o D = none := by
 rw [h.1, drop_cons' hv, folF, if_pos hb]
theorem FoR.ref {s : GS} {r : Int} {l o : List Ref} {D D' : List RArc} {j : Nat} {v : Ref} (h : FoR s r l o D j D') (hv : o[j]? = some v) {t : Nat} (ht : t ≤ s.ps.length) (hb : okSeq s.ps s.at_ D' (arcsTo s.ps r (o.take j) v t) = false) : folF s.ps s.at_ r l [] o D = none := by
 have := okSeq_to_le hb (s.ps.length - t)
 rw [show t + (s.ps.length - t) = s.ps.length by omega] at this
 rw [h.1, drop_cons' hv, folF]
 split
 ·rfl
 ·rw [if_neg (by rw [this]; simp)]
theorem FoR.step {s : GS} {r : Int} {l o : List Ref} {D D' : List RArc} {j : Nat} {v : Ref} (h : FoR s r l o D j D') (hv : o[j]? = some v) (hb : folBad l (o.take j) v = false) (hvl : v ∈ l) (hok : okSeq s.ps s.at_ D' (arcsTo s.ps r (o.take j) v s.ps.length) = true) : FoR s r l o D (j + 1) (D' ++ arcsTo s.ps r (o.take j) v s.ps.length) := by
 refine ⟨?_, fun u hu => ?_⟩
 ·rw [h.1, drop_cons' hv, folF, if_neg (by rw [hb]; simp), if_pos hok, List.take_add_one, hv]; rfl
 ·rw [List.take_add_one, hv] at hu
  rcases List.mem_append.1 hu with hu | hu
  ·exact h.2 u hu
  ·simp at hu; subst hu; exact hvl

theorem RUses.cells {w : World} {S : Foot} {ps : List (List Stage)} {r : Int} {b o n c : Nat} {l : List Ref} (h : RUses w S [.slice (some ⟨b, o, none⟩) n c] (l.map (useOf ps r))) {k : Nat} {u : Ref} (hk : l[k]? = some u) :
  S b ∧ w.cell? ⟨b, o + k * 4, none⟩ = some (.int .i64 u.tr) ∧ w.cell? ⟨b, o + k * 4 + 1, none⟩ = some (.int .i64 u.st) ∧ w.cell? ⟨b, o + k * 4 + 2, none⟩ = some (.int .i64 (evF ps r u).1) ∧ w.cell? ⟨b, o + k * 4 + 3, none⟩ = some (.int .i64 (evF ps r u).2) := by
 obtain ⟨b', o', x, hA, hS, hx, h0, h1, h2, h3⟩ := h.at_ (k := k) (by rw [List.length_map]; exact getElem?_lt hk)
 injection hA with hA
 injection hA with e1 e2 _
 subst e1 e2
 rw [List.getElem?_map, hk] at hx
 injection hx with hx
 subst hx
 exact ⟨hS, h0, h1, h2, h3⟩
theorem ch_keeps {s : GS} {w0 wr w' : World} {D : List RArc} {a : RArc} {d' : GD} (h : Gm s w0 wr d') (hc : ChPost (s.fr wr d') w0 D a d' w') : Keeps (GOwn s d') wr w' := by
 obtain ⟨d1, hg, _, _⟩ := hc
 have k1 := h.k
 have k2 := hg.k
 exact ⟨k2.os.trans k1.os.symm, k2.tape.trans k1.tape.symm, k2.output.trans k1.output.symm, hg.zs, fun b hb hn => (hg.frk hb hn).1⟩
theorem lastI_none {l pre : List Ref} {t : Int} (h : lastU pre t = none) : lastI l pre t = -1 := by unfold lastI; rw [h]
theorem lastI_some {l pre : List Ref} {t : Int} {u : Ref} (h : lastU pre t = some u) (hl : ∀ x ∈ pre, x ∈ l) : ∃ i : Nat, lastI l pre t = (i : Int) ∧ l[i]? = some u ∧ u.tr = t := by
 obtain ⟨h1, h2⟩ := lastU_mem h
 obtain ⟨i, h3, h4⟩ := idxU_mem (hl u h1)
 exact ⟨i, by unfold lastI; rw [h]; exact h3, h4, h2⟩

set_option maxRecDepth 100000 in
set_option maxHeartbeats 1000000 in
theorem follow_any (s : GS) (w0 w : World) (d : GD) (D : List RArc) (v : PV) (due wgt : List Int) (hsp : GSP s w0 v due wgt) (hs : SOk s) (hZ : ∀ b, ¬ s.Z b) (h : Gm s w0 w d) (hp : GP s D d) (r : Int) (l o : List Ref) (Al Ao : Option Addr) (cl co : Nat) (hDl : D.length + l.length * 10 ≤ 80000000) (hll : l.length ≤ 1000)
  (hl : RUses w (fun b => b < w.heap.size ∧ ¬ GOwn s d b) [.slice Al l.length cl] (l.map (useOf s.ps r))) (ho : RRefs w (fun b => b < w.heap.size ∧ ¬ GOwn s d b) [.slice Ao o.length co] o) (huse : ∀ u ∈ l, u ∈ openA s.ps s.at_ r) :
  Calls Try.prog 51 #[.pointer (some ⟨s.gb, 0, none⟩), .slice Ao o.length co, .slice Al l.length cl] w (FoPost s w0 w d (folQ s.ps s.at_ r l o D)) := by
 have hlc := hl.caps
 have hoc := ho.caps
 have hps10 := (valid_lens hs.v).1
 have HL := Lib.hid hl
 have HO := Lib.hid ho
 have H := Lib.hid h
 have HP := Lib.hid hp
 have HS := Lib.hid hs
 have HU := Lib.hid huse
 have HZ := Lib.hid hZ
 have c0 := h.c0
 rw [hsp.vp] at c0
 have hgz := h.b.lt
 have hmk := mkInts s.ps.length (by omega)
 clear h hp hsp hs huse hl ho hZ
 by_cases hlen : o.length = l.length
 ·have HQ : Hid (folQ s.ps s.at_ r l o D = folF s.ps s.at_ r l [] o D) := by show _ = _; unfold folQ; rw [if_pos hlen]
  rw [HQ.out]
  clear HQ
  have hlen' : ((o.length : Int) == (l.length : Int)) = true := by simp [hlen]
  generalize hPP : FoPost s w0 w d (folF s.ps s.at_ r l [] o D) = PP
  have HPP := Lib.hid hPP
  clear hPP
  have hol : o.length ≤ l.length := by omega
  have hne : ((o.length : Int) != (l.length : Int)) = false := by simp [hlen]
  have HNE := Lib.hid hne
  clear hlen hne
  go_enter Try.func51, Try.ntmps51
  go_wp2
  rw [HNE.out]
  clear hlen' HNE
  generalize hW : World.alloc w _ = W
  have hF0 : FoG s w0 w d w.heap.size (List.replicate 0 (-1) ++ List.replicate (s.ps.length - 0) 0) D D.length W d := by
   subst hW
   exact ⟨H.out.keep ((Keeps.refl _ _).alloc _), HP.out, Frm.keep ((Keeps.refl _ _).alloc _), by simpa using Blk.new w _ _, fun e => by have := H.out.own_lt e; omega, Nat.le_refl _⟩
  have HF0 := Lib.hid hF0
  clear hW hF0 hmk
  obtain ⟨lb, hlb⟩ : ∃ lb, lb = w.heap.size := ⟨_, rfl⟩
  rw [← hlb] at HF0 ⊢
  have hbs : s.bs ≤ lb := by rw [hlb]; exact H.out.bsz
  have hlbw : w.heap.size ≤ lb := by omega
  have HBS := Lib.hid hbs
  have HLBW := Lib.hid hlbw
  clear hlb hbs hlbw
  go_loopw [28] (fun i wr => ∃ (k : Nat) (d' : GD), k ≤ s.ps.length ∧ i = .int .i64 k ∧ FoG s w0 w d lb (List.replicate k (-1) ++ List.replicate (s.ps.length - k) 0) D D.length wr d') (fun i _ => s.ps.length - (intOf i).toNat)
  case atStart => exact ⟨0, d, Nat.zero_le _, rfl, HF0.out⟩
  case round =>
   obtain ⟨k, d', hk, rfl, hi⟩ := hrel
   clear HF0
   by_cases hlt : k < s.ps.length
   ·have q0 := hi.b.cell k
    have q1 := hi.b.frozen k
    have qz := hi.b.lt
    rw [cellsI_at (fill_neg hlt).1] at q0
    have HN : Hid (FoG s w0 w d lb (List.replicate (k + 1) (-1) ++ List.replicate (s.ps.length - (k + 1)) 0) D D.length (wr.setCell ⟨lb, k, none⟩ (.int .i64 (-1))) d') := by
     have := hi.set_ HZ.out HBS.out k (-1)
     rw [(fill_neg hlt).2] at this
     exact this
    clear hi
    go_wp2
    go_roundw
    case rel => exact ⟨k + 1, d', by omega, by go_num, HN.out⟩
    case measure => simp [intOf]; omega
   ·obtain rfl : k = s.ps.length := by omega
    have e : List.replicate s.ps.length (-1) ++ List.replicate (s.ps.length - s.ps.length) (0 : Int) = lastsL s.ps.length l (o.take 0) := by simp [lastsL_nil]
    rw [e] at hi
    clear e hlt
    have HI := Lib.hid hi
    clear hi
    have HR0 : Hid (FoR s r l o D 0 D) := ⟨by simp, by simp⟩
    go_wp2
    go_loopw [37] (fun i wr => ∃ (j : Nat) (d' : GD) (D' : List RArc), j ≤ o.length ∧ i = .int .i64 (j : Int) ∧ FoG s w0 w d lb (lastsL s.ps.length l (o.take j)) D' (D.length + j * 10) wr d' ∧ FoR s r l o D j D') (fun i _ => o.length - (intOf i).toNat)
    case atStart => exact ⟨0, d', D, by omega, rfl, HI.out, HR0.out⟩
    case round =>
     obtain ⟨j, d', D', hj, rfl, hi, hr⟩ := hrel
     clear HI HR0
     have HI := Lib.hid hi
     have HR := Lib.hid hr
     clear hi hr
     by_cases hlt : j < o.length
     ·have HLr : Hid (RUses wr (Old wr) [.slice Al l.length cl] (l.map (useOf s.ps r))) := HI.out.rd RUses.ok (RUses.ok.mono HL.out (fun b hb => (⟨hb.1, hb.2, by have := HLBW.out; have := hb.1; omega⟩ : b < w.heap.size ∧ ¬ GOwn s d b ∧ b ≠ lb)) (fun _ _ => rfl))
      have hor : RRefs wr (Old wr) [.slice Ao o.length co] o := HI.out.rd RRefs.ok (RRefs.ok.mono HO.out (fun b hb => (⟨hb.1, hb.2, by have := HLBW.out; have := hb.1; omega⟩ : b < w.heap.size ∧ ¬ GOwn s d b ∧ b ≠ lb)) (fun _ _ => rfl))
      obtain ⟨bo, oo, u, rfl, hbo, hu, n0, n1⟩ := RRefs.atK (Keeps.refl _ _) hor hlt
      have HX := Lib.hid hu
      clear hu hor
      have HIX : Hid (∀ W, KeepsAll wr W → Blk W wr.heap.size 46 #[.int .i64 u.tr, .int .i64 u.st] → Calls Try.prog 74 #[.slice Al l.length cl, .func (.func 75) #[] #[.pointer (some ⟨wr.heap.size, 0, none⟩)]] W fun e w' => e = .returned (.int .i64 (idxU l u)) ∧ KeepsAll W w') := fun W hW hB =>
       follow_idx s.ps r l u wr.heap.size Al cl W (hW.rdo' RUses.ok HLr.out) hB
      go_wp2_with fail
      refine (HIX.out _ ((Keeps.refl _ _).alloc _) (Blk.new _ _ _)).mono ?_
      rintro e w2 ⟨rfl, k2⟩
      have K2 : KeepsAll wr w2 := ((Keeps.refl _ _).alloc _).tr k2
      have HB2 : Hid (Blk w2 wr.heap.size 46 #[.int .i64 u.tr, .int .i64 u.st]) := (Blk.new _ _ _).kept k2 (by simp)
      have HI2 := Lib.hid (HI.out.keep K2)
      have hzr : ¬ GOwn s d' wr.heap.size ∧ wr.heap.size ≠ lb := ⟨fun e => by have := HI.out.g.own_lt e; omega, by have := HI.out.b.lt; omega⟩
      have HZR := Lib.hid hzr
      clear HIX HI HLr n0 n1 k2 K2 hzr hbo
      generalize wr.heap.size = zr at *
      have e0 := HB2.out.cell 0
      have e1 := HB2.out.cell 1
      simp at e0 e1
      have hz2 := HB2.out.lt
      by_cases hvl : u ∈ l
      ·obtain ⟨i, hidx, hi⟩ := idxU_mem hvl
       obtain ⟨⟨t, kk, pp, hpp, hkk, hue⟩, hud⟩ := HU.out u hvl |> open_use
       have htn : t < s.ps.length := getElem?_lt hpp
       have hut : u.tr = (t : Int) := by rw [hue]
       have hil : i < l.length := getElem?_lt hi
       have hpre := HR.out.2
       have q0 := HI2.out.b.cell t
       have q1 := HI2.out.b.frozen t
       have qz := HI2.out.b.lt
       rw [cellsI_at (lastsL_at l (o.take j) htn)] at q0
       have hbd : Hid (folBad l (o.take j) u = decide ((i : Int) ≤ lastI l (o.take j) (t : Int))) := by
        show _ = _
        unfold folBad
        rw [hidx, hut]
        simp
        omega
       rw [hidx]
       have hi0 : decide ((i : Int) < 0) = false := by simp
       have HVL := Lib.hid hvl
       have HII := Lib.hid hi
       have HIDX := Lib.hid hidx
       have HUT := Lib.hid hut
       rw [hut] at e0
       clear hvl hidx hi hud hue hpp hkk hut hpre
       by_cases hge : lastI l (o.take j) (t : Int) ≥ (i : Int)
       ·have hge' : decide (lastI l (o.take j) (t : Int) ≥ (i : Int)) = true := by simpa using hge
        have Q : Hid (∀ W, KeepsAll w2 W → PP (.returned (.bool false)) W) := fun W hW => by
         show PP _ _; rw [← HPP.out, HR.out.bad HX.out (by rw [hbd.out]; simpa using hge)]
         exact HI2.out.no HLBW.out hW
        clear HI2 HPP HR HX HZR HB2 HL HO H HP HS HU HZ hbd HVL HII HIDX HUT hge
        generalize lastI l (o.take j) (t : Int) = x at *
        go_wp2
        exact Q.out _ (Keeps.refl _ _)
       ·have hge' : decide (lastI l (o.take j) (t : Int) ≥ (i : Int)) = false := by simpa using hge
        have HBD : Hid (folBad l (o.take j) u = false) := by show _ = _; rw [hbd.out]; simpa using hge
        clear hbd hge
        generalize hxx : lastI l (o.take j) (t : Int) = x at *
        clear hxx
        obtain ⟨bl, ol, _, hAl, _⟩ := RUses.at_ HL.out (k := i) (by rw [List.length_map]; exact hil)
        subst hAl
        have hA0 : FoG s w0 w d lb (lastsL s.ps.length l (o.take j)) (D' ++ arcsTo s.ps r (o.take j) u 0) (D.length + j * 10 + 0) w2 d' := by
         rw [show arcsTo s.ps r (o.take j) u 0 = [] from rfl, List.append_nil]; exact HI2.out
        have HA0 := Lib.hid hA0
        clear hA0
        go_wp2
        clear q0 q1 qz e0 e1 hz2
        go_loopw [57] (fun iv wx => ∃ (t' : Nat) (d2 : GD), t' ≤ s.ps.length ∧ iv = .int .i64 (t' : Int) ∧ FoG s w0 w d lb (lastsL s.ps.length l (o.take j)) (D' ++ arcsTo s.ps r (o.take j) u t') (D.length + j * 10 + t') wx d2 ∧ okSeq s.ps s.at_ D' (arcsTo s.ps r (o.take j) u t') = true ∧ Blk wx zr 46 #[.int .i64 u.tr, .int .i64 u.st] ∧ ¬ GOwn s d2 zr) (fun iv _ => s.ps.length - (intOf iv).toNat)
        case atStart => exact ⟨0, d', Nat.zero_le _, rfl, HA0.out, rfl, HB2.out, HZR.out.1⟩
        case round =>
         obtain ⟨t', d2, ht', rfl, hf2, hok2, hb2, hn2⟩ := hrel
         clear HA0 HI2 HB2
         have HF2 := Lib.hid hf2
         have HOK2 := Lib.hid hok2
         have HB2 := Lib.hid hb2
         have HN2 := Lib.hid hn2
         have e0 := hb2.cell 0
         simp at e0
         rw [HUT.out] at e0
         have hz2 := hb2.lt
         clear hf2 hok2 hb2 hn2
         by_cases hlt2 : t' < s.ps.length
         ·have q0 := HF2.out.b.cell t'
          rw [cellsI_at (lastsL_at l (o.take j) hlt2)] at q0
          have qz := HF2.out.b.lt
          have hpre := HR.out.2
          have hdl := HF2.out.dl
          have HNX : Hid (∀ (W : World) (d3 : GD) (D3 : List RArc), D3 = D' ++ arcsTo s.ps r (o.take j) u (t' + 1) → okSeq s.ps s.at_ D' (arcsTo s.ps r (o.take j) u (t' + 1)) = true → FoG s w0 w d lb (lastsL s.ps.length l (o.take j)) D3 (D.length + j * 10 + (t' + 1)) W d3 → Blk W zr 46 #[.int .i64 u.tr, .int .i64 u.st] → ¬ GOwn s d3 zr →
            ∃ (t2 : Nat) (d2 : GD), t2 ≤ s.ps.length ∧ (Value.int .i64 ((t' : Int) + 1)) = .int .i64 (t2 : Int) ∧ FoG s w0 w d lb (lastsL s.ps.length l (o.take j)) (D' ++ arcsTo s.ps r (o.take j) u t2) (D.length + j * 10 + t2) W d2 ∧ okSeq s.ps s.at_ D' (arcsTo s.ps r (o.take j) u t2) = true ∧ Blk W zr 46 #[.int .i64 u.tr, .int .i64 u.st] ∧ ¬ GOwn s d2 zr) := by
           rintro W d3 D3 rfl h1 h2 h3 h4
           exact ⟨t' + 1, d3, by omega, by simp, h2, h1, h3, h4⟩
          have HSK : Hid (arcT s.ps r (o.take j) u t' = [] → ∀ W, KeepsAll wr W → ∃ (t2 : Nat) (d2 : GD), t2 ≤ s.ps.length ∧ (Value.int .i64 ((t' : Int) + 1)) = .int .i64 (t2 : Int) ∧ FoG s w0 w d lb (lastsL s.ps.length l (o.take j)) (D' ++ arcsTo s.ps r (o.take j) u t2) (D.length + j * 10 + t2) W d2 ∧ okSeq s.ps s.at_ D' (arcsTo s.ps r (o.take j) u t2) = true ∧ Blk W zr 46 #[.int .i64 u.tr, .int .i64 u.st] ∧ ¬ GOwn s d2 zr) := fun he W hW => by
           have e : arcsTo s.ps r (o.take j) u (t' + 1) = arcsTo s.ps r (o.take j) u t' := by rw [arcsTo, he, List.append_nil]
           have h1 := HF2.out.keep hW
           exact HNX.out W d2 _ rfl (by rw [e]; exact HOK2.out) (by rw [e]; exact ⟨h1.g, h1.gp, h1.fr, h1.b, h1.ln, by have := h1.dl; omega⟩) (HB2.out.kept hW (by simp)) HN2.out
          by_cases hsame : (t' : Int) = u.tr
          ·have heq : t' = t := by have := HUT.out; omega
           have HQ := Lib.hid (HSK.out (arcT_same hsame))
           subst heq
           clear hsame HSK HNX HF2 HOK2 HB2 HN2 HPP HR HX HZR HL HO H HP HS HU HZ HBD HVL HII HIDX HUT hpre hdl
           generalize lastI l (o.take j) (t' : Int) = x' at *
           go_wp2_with fail
           refine wp_region_lex (fun w' => ∃ x : Ext wr, w' = x.val) [0, 1, 2, 3, 4, 5, 6, 7, 8, 9, 10, 11, 12, 13, 14, 15, 16, 17, 18, 19, 20] (by kernel_rfl) (by kernel_rfl) ⟨⟨_, (Keeps.refl _ _).drew⟩, rfl⟩ ?_
           have y0 := Ext.cell e0
           iterate 5 (refine lex_q _ rfl rfl rfl ?_; go_big_quiet_step (fail); refine wpQuiet_nil ?_)
           iterate 2 (refine lex_skip _ rfl rfl rfl ?_; go_simp)
           iterate 2 (refine lex_q _ rfl rfl rfl ?_; go_big_quiet_step (fail); refine wpQuiet_nil ?_)
           iterate 9 (refine lex_skip _ rfl rfl rfl ?_; go_simp)
           refine lex_skipa _ rfl rfl rfl ⟨⟨_, (Keeps.refl _ _).drew⟩, rfl⟩ ?_; go_simp
           refine lex_skip _ rfl rfl rfl ?_; go_simp
           (refine lex_q _ rfl rfl rfl ?_; go_big_quiet_step (fail); refine wpQuiet_nil ?_)
           clear y0
           simp only [wpLex]
           refine NoPanic.normal ?_
           go_wp2
           go_roundw
           case rel => exact HQ.out _ (Keeps.refl _ _).drew
           case measure => simp [intOf]; omega
          ·have hneq : ¬ t' = t := by have := HUT.out; omega
           have hneq1 : (t' == t) = false := by simpa using hneq
           have hneq2 : ((t' : Int) == (t : Int)) = false := by simp; omega
           have hneq3 : decide (t' = t) = false := decide_eq_false hneq
           have hneq4 : (t' != t) = true := by simp [hneq]
           have hneq5 : ((t' : Int) != (t : Int)) = true := by simp; omega
           cases hlu : lastU (o.take j) (t' : Int) with
           | none =>
            have HQ := Lib.hid (HSK.out (arcT_none hlu))
            rw [lastI_none hlu] at q0
            clear hlu hsame HSK HNX HF2 HOK2 HB2 HN2 HPP HR HX HZR HL HO H HP HS HU HZ HBD HVL HII HIDX HUT hpre hdl
            go_wp2_with fail
            refine wp_region_lex (fun w' => ∃ x : Ext wr, w' = x.val) [0, 1, 2, 3, 4, 5, 6, 7, 8, 9, 10, 11, 12, 13, 14, 15, 16, 17, 18, 19, 20] (by kernel_rfl) (by kernel_rfl) ⟨⟨_, (Keeps.refl _ _).drew⟩, rfl⟩ ?_
            have y0 := Ext.cell e0
            iterate 9 (refine lex_q _ rfl rfl rfl ?_; go_big_quiet_step (fail); refine wpQuiet_nil ?_)
            iterate 9 (refine lex_skip _ rfl rfl rfl ?_; go_simp)
            refine lex_skipa _ rfl rfl rfl ⟨⟨_, (Keeps.refl _ _).drew⟩, rfl⟩ ?_; go_simp
            refine lex_skip _ rfl rfl rfl ?_; go_simp
            (refine lex_q _ rfl rfl rfl ?_; go_big_quiet_step (fail); refine wpQuiet_nil ?_)
            clear y0
            simp only [wpLex]
            refine NoPanic.normal ?_
            go_wp2
            go_roundw
            case rel => exact HQ.out _ (Keeps.refl _ _).drew
            case measure => simp [intOf]; omega
           | some q =>
            obtain ⟨ju, hju, hq, hqt⟩ := lastI_some hlu hpre
            rw [hju] at q0
            have hjl : ju < l.length := getElem?_lt hq
            have hju0 : decide ((ju : Int) ≥ 0) = true := by simp
            have harc := arcT_some (ps := s.ps) (r := r) hsame hlu
            have HLx : RUses wr (fun b => SFt s w d lb b ∧ b < wr.heap.size) [.slice (some ⟨bl, ol, none⟩) l.length cl] (l.map (useOf s.ps r)) := RUses.ok.mono HL.out (fun b hb => ⟨(⟨hb.1, hb.2, by have := HLBW.out; have := hb.1; omega⟩ : b < w.heap.size ∧ ¬ GOwn s d b ∧ b ≠ lb), Nat.lt_of_lt_of_le hb.1 HF2.out.fr.sz⟩) (fun b hb => (HF2.out.fr.bl b (⟨hb.1, hb.2, by have := HLBW.out; have := hb.1; omega⟩ : b < w.heap.size ∧ ¬ GOwn s d b ∧ b ≠ lb)).1)
            obtain ⟨hbl, a0, a1, a2, a3⟩ := HLx.cells hq
            obtain ⟨_, b0, b1, b2, b3⟩ := HLx.cells HII.out
            have hbn := (HF2.out.fr.bl bl hbl.1).2
            have hb3z := hbl.2
            have hqo := HU.out q (List.mem_of_getElem? hq)
            have huo := HU.out u HVL.out
            have hs2 : (o.take j)[0]? = (o.take j)[0]? := rfl
            have HCH : Hid (∀ W, KeepsAll wr W → Calls Try.prog 70 #[.pointer (some ⟨s.gb, 0, none⟩), .agg #[.int .i64 q.tr, .int .i64 q.st, .int .i64 (evF s.ps r q).1, .int .i64 (evF s.ps r q).2], .agg #[.int .i64 u.tr, .int .i64 u.st, .int .i64 (evF s.ps r u).1, .int .i64 (evF s.ps r u).2]] W fun e w1 =>
              e = .returned (.bool (okD s.ps s.at_ (D' ++ arcsTo s.ps r (o.take j) u t' ++ [arc0 (relOf s.ps r q) u]))) ∧ ChPost (s.fr W d2) w0 (D' ++ arcsTo s.ps r (o.take j) u t') (arc0 (relOf s.ps r q) u) d2 w1 ∧ Keeps (GOwn s d2) wr w1) := fun W hW => by
             have hM := HF2.out.keep hW
             refine Calls.mono ?_ (fun e w1 (he : _ ∧ _) => ⟨he.1, he.2, (hW.mono (C := GOwn s d2) (fun _ _ h => h.elim)).trans (ch_keeps hM.g he.2) (fun _ _ h => h)⟩)
             exact choose_pr (s.fr W d2) w0 W _ d2 (HS.out.fr _) hM.g.toFr (hM.gp.fr W) (by omega) r q u (open_use hqo).2.1 (open_use hqo).2.2 (open_use huo).1 (by rw [hqt]; exact hsame)
            have HNO : Hid (okD s.ps s.at_ (D' ++ arcsTo s.ps r (o.take j) u t' ++ [arc0 (relOf s.ps r q) u]) = false → ∀ W w1, KeepsAll wr W → ChPost (s.fr W d2) w0 (D' ++ arcsTo s.ps r (o.take j) u t') (arc0 (relOf s.ps r q) u) d2 w1 → PP (.returned (.bool false)) w1) := fun hok W w1 hW hc => by
             rw [← HPP.out, HR.out.ref HX.out (t := t' + 1) (by omega) (by rw [arcsTo, okSeq_app, harc, okSeq_one, hok, Bool.and_false])]
             obtain ⟨d3, g1, g2⟩ := (HF2.out.keep hW).refuse HZ.out hc
             exact ⟨lb, d3, HLBW.out, g1, g2, rfl⟩
            have HYS : Hid (okD s.ps s.at_ (D' ++ arcsTo s.ps r (o.take j) u t' ++ [arc0 (relOf s.ps r q) u]) = true → ∀ W w1, KeepsAll wr W → ChPost (s.fr W d2) w0 (D' ++ arcsTo s.ps r (o.take j) u t') (arc0 (relOf s.ps r q) u) d2 w1 → ∃ (t2 : Nat) (d2 : GD), t2 ≤ s.ps.length ∧ (Value.int .i64 ((t' : Int) + 1)) = .int .i64 (t2 : Int) ∧ FoG s w0 w d lb (lastsL s.ps.length l (o.take j)) (D' ++ arcsTo s.ps r (o.take j) u t2) (D.length + j * 10 + t2) w1 d2 ∧ okSeq s.ps s.at_ D' (arcsTo s.ps r (o.take j) u t2) = true ∧ Blk w1 zr 46 #[.int .i64 u.tr, .int .i64 u.st] ∧ ¬ GOwn s d2 zr) := fun hok W w1 hW hc => by
             obtain ⟨d3, g1, g2⟩ := (HF2.out.keep hW).choose HZ.out hc hok
             obtain ⟨g3, g4⟩ := g2 _ _ _ (HB2.out.kept hW (by simp)) HN2.out
             exact HNX.out w1 d3 (D' ++ arcsTo s.ps r (o.take j) u t' ++ [arc0 (relOf s.ps r q) u]) (by rw [arcsTo, harc, List.append_assoc]) (by rw [arcsTo, okSeq_app, harc, okSeq_one, HOK2.out, hok]; rfl) (by rw [show D.length + j * 10 + (t' + 1) = D.length + j * 10 + t' + 1 by omega]; exact g1) g3 g4
            clear hlu hsame HSK HNX HF2 HOK2 HB2 HPP HR HX HZR HL HO H HP HS HU HZ HBD HVL HII HIDX HUT hpre hdl harc HLx hq hqt hju hbl hqo huo hs2
            generalize okD s.ps s.at_ (D' ++ arcsTo s.ps r (o.take j) u t' ++ [arc0 (relOf s.ps r q) u]) = res at *
            have hn2 := HN2.out
            go_wp2_with fail
            refine wp_region_lex (fun w' => ∃ x : ExtC (GOwn s d2) wr, w' = x.val) [0, 1, 2, 3, 4, 5, 6, 7, 8, 9, 10, 11, 12, 13, 14, 15, 16, 17, 18, 19, 20] (by kernel_rfl) (by kernel_rfl) (ExtC.start _ _) ?_
            have y0 := ExtC.cell e0 hn2
            have x0 := ExtC.cell a0 hbn
            have x1 := ExtC.cell a1 hbn
            have x2 := ExtC.cell a2 hbn
            have x3 := ExtC.cell a3 hbn
            have x4 := ExtC.cell b0 hbn
            have x5 := ExtC.cell b1 hbn
            have x6 := ExtC.cell b2 hbn
            have x7 := ExtC.cell b3 hbn
            iterate 18 (refine lex_q _ rfl rfl rfl ?_; go_big_quiet_step (fail); refine wpQuiet_nil ?_)
            refine lex_a _ rfl rfl true (by kernel_rfl) ?_
            go_wp2_with fail
            refine (HCH.out _ (Keeps.refl _ _).drew).mono ?_
            rintro e w1 ⟨rfl, hcp, hkp⟩
            have HCP := Lib.hid hcp
            have HKP := Lib.hid hkp
            clear hcp hkp x0 x1 x2 x3 x4 x5 x6 x7 y0 a0 a1 a2 a3 b0 b1 b2 b3 q0 e0
            cases res with
            | false =>
             have Q := Lib.hid (HNO.out rfl _ _ (Keeps.refl _ _).drew HCP.out)
             clear HNO HYS HCP HCH
             go_wp2
             refine ⟨fun _ => ⟨⟨_, HKP.out⟩, rfl⟩, ?_⟩
             iterate 2 (refine lex_q _ rfl rfl rfl ?_; go_big_quiet_step (fail); refine wpQuiet_nil ?_)
             simp only [wpLex]
             refine NoPanic.normal ?_
             go_wp2
             exact Q.out
            | true =>
             have Q := Lib.hid (HYS.out rfl _ _ (Keeps.refl _ _).drew HCP.out)
             clear HNO HYS HCP HCH
             go_wp2
             refine ⟨fun _ => ⟨⟨_, HKP.out⟩, rfl⟩, ?_⟩
             iterate 2 (refine lex_q _ rfl rfl rfl ?_; go_big_quiet_step (fail); refine wpQuiet_nil ?_)
             simp only [wpLex]
             refine NoPanic.normal ?_
             go_wp2
             go_roundw
             case rel => exact Q.out
             case measure => simp [intOf]; omega
         ·obtain rfl : t' = s.ps.length := by omega
          have q0 := HF2.out.b.cell t
          rw [cellsI_at (lastsL_at l (o.take j) htn)] at q0
          have q1 := HF2.out.b.frozen t
          have qz := HF2.out.b.lt
          have HN : Hid (∃ (j2 : Nat) (d2 : GD) (D2 : List RArc), j2 ≤ o.length ∧ (Value.int .i64 ((j : Int) + 1)) = .int .i64 (j2 : Int) ∧ FoG s w0 w d lb (lastsL s.ps.length l (o.take j2)) D2 (D.length + j2 * 10) (wr.setCell ⟨lb, t, none⟩ (.int .i64 (i : Int))) d2 ∧ FoR s r l o D j2 D2) := by
           have h1 := HF2.out.set_ HZ.out HBS.out t (i : Int)
           have e1 : lastsL s.ps.length l (o.take (j + 1)) = (lastsL s.ps.length l (o.take j)).set t (i : Int) := by
            rw [List.take_add_one, HX.out]
            show lastsL _ _ (_ ++ [u]) = _
            rw [lastsL_snoc _ _ _ u HUT.out, HIDX.out]
           refine ⟨j + 1, d2, D' ++ arcsTo s.ps r (o.take j) u s.ps.length, by omega, by simp, ?_, HR.out.step HX.out HBD.out HVL.out HOK2.out⟩
           rw [e1]
           exact ⟨h1.g, h1.gp, h1.fr, h1.b, h1.ln, by have := h1.dl; omega⟩
          clear HF2 HOK2 HB2 HN2 HPP HR HX HZR HL HO H HP HS HU HZ HBD HVL HII HIDX HUT
          go_wp2
          go_roundw
          case rel => exact HN.out
          case measure => simp [intOf]; omega
      ·have hidx := idxU_no hvl
       have Q : Hid (∀ W, KeepsAll w2 W → PP (.returned (.bool false)) W) := fun W hW => by
        show PP _ _; rw [← HPP.out, HR.out.bad HX.out (by unfold folBad; rw [hidx]; rfl)]
        exact HI2.out.no HLBW.out hW
       rw [hidx]
       clear hvl hidx HI2 HPP HR HX HZR HB2 HL HO H HP HS HU HZ
       go_wp2
       exact Q.out _ (Keeps.refl _ _)
     ·obtain rfl : j = o.length := by omega
      have Q : Hid (PP (.returned (.bool true)) wr) := by
       show PP _ _; rw [← HPP.out, HR.out.1]
       rw [List.drop_length, folF]
       exact HI.out.yes HLBW.out (Keeps.refl _ _)
      clear HI HR HPP
      go_wp2
      exact Q.out
 ·have HQ : Hid (folQ s.ps s.at_ r l o D = none) := by show _ = _; unfold folQ; rw [if_neg hlen]
  rw [HQ.out]
  have hlen' : ((o.length : Int) == (l.length : Int)) = false := by simp; omega
  have Q : Hid (∀ W, KeepsAll w W → FoPost s w0 w d none (.returned (.bool false)) W) := fun W hW => ⟨w.heap.size, d, Nat.le_refl _, H.out.keep hW, Frm.keep hW, rfl⟩
  clear HQ hlen H HP HS HU HL HO HZ
  generalize FoPost s w0 w d none = PP at *
  go_enter Try.func51, Try.ntmps51
  go_wp2
  exact Q.out _ (Keeps.refl _ _)

set_option maxRecDepth 100000 in
set_option maxHeartbeats 1000000 in
theorem verify1_any (r : Int) (cb : Nat) (x : Order) (va : Value) (w : World) (hb : Blk w cb 3 #[.int .i64 r]) :
  Calls Try.prog 50 #[.agg #[.int .i64 x.res, va], .pointer (some ⟨cb, 0, none⟩)] w fun e w' => e = .returned (.bool (decide (x.res = r))) ∧ KeepsAll w w' := by
 have c0 := hb.cell 0
 simp at c0
 have hcz := hb.lt
 clear hb
 have Q1 : Hid (x.res = r → decide (x.res = r) = true) := fun e => decide_eq_true e
 have Q2 : Hid (x.res ≠ r → decide (x.res = r) = false) := fun e => decide_eq_false e
 generalize decide (x.res = r) = res at *
 by_cases he : x.res = r
 ·have Q := Lib.hid (Q1.out he)
  subst he
  clear Q1 Q2
  go_enter Try.func50, Try.ntmps50
  go_wp2
  go_ret
  exact ⟨by rw [Q.out]; rfl, (Keeps.refl _ _).alloc _⟩
 ·have Q := Lib.hid (Q2.out he)
  clear Q1 Q2
  have he' : (x.res == r) = false := by simpa using he
  go_enter Try.func50, Try.ntmps50
  go_wp2
  go_ret
  exact ⟨by rw [Q.out]; rfl, (Keeps.refl _ _).alloc _⟩
theorem enters_verify1 : Enters 50 := fun _ _ => by kernel_rfl
theorem enters_equal : Enters 54 := fun _ _ => by kernel_rfl
def TestsOrd (F cb : Nat) (w : World) (l : List Order) (pr : Order → Bool) : Prop := ∀ a ∈ l, ∀ va W, KeepsAll w W → Calls Try.prog F #[.agg #[.int .i64 a.res, va], .pointer (some ⟨cb, 0, none⟩)] W fun e w' => e = .returned (.bool (pr a)) ∧ KeepsAll W w'
set_option maxRecDepth 100000 in
set_option maxHeartbeats 1000000 in
theorem IndexOrd_any (F cb : Nat) (l : List Order) (pr : Order → Bool) (A : Option Addr) (c : Nat) (w : World) (h : ROrders w (Old w) [.slice A l.length c] l) (hE : Enters F) (hF : TestsOrd F cb w l pr) :
  Calls Try.prog 49 #[.slice A l.length c, .func (.func F) #[] #[.pointer (some ⟨cb, 0, none⟩)]] w fun e w' => e = .returned (.int .i64 (idxF pr l)) ∧ KeepsAll w w' := by
 have hc := h.caps
 have H := Lib.hid h; clear h
 have HF := Lib.hid hF; clear hF
 have hcf : ∀ (args : Array Value) (w : World), (callFunc F args).run Try.prog w = .ok (.enter F args) w := hE
 clear hE
 go_enter Try.func49, Try.ntmps49
 go_wp2
 go_loopw [8] (fun i wr => ∃ k : Nat, k ≤ l.length ∧ i = .int .i64 k ∧ (∀ y ∈ l.take k, pr y = false) ∧ KeepsAll w wr) (fun i _ => l.length - (intOf i).toNat)
 case atStart => exact ⟨0, Nat.zero_le _, rfl, by simp, Keeps.refl _ _⟩
 case round =>
  obtain ⟨k, hk, rfl, hno, hkr⟩ := hrel
  have HNO := Lib.hid hno; clear hno
  have KR := Lib.hid hkr; clear hkr
  by_cases hlt : k < l.length
  ·obtain ⟨b, o, a, A', c', rfl, hb, ha, m0, m1, _⟩ := ROrders.atK KR.out H.out hlt
   have HC := Lib.hid (HF.out a (List.mem_of_getElem? ha) (.slice A' a.uses.length c') wr KR.out)
   have HAA := Lib.hid ha; clear ha
   go_wp2_with fail
   refine HC.out.mono ?_
   rintro e w2 ⟨rfl, hk2⟩
   have K2 := Lib.hid (KR.out.tr hk2); clear hk2
   by_cases g : pr a = true
   ·have Q := Lib.hid (idxF_stop HAA.out g HNO.out)
    rw [g]; clear g
    go_wp2
    go_ret
    exact ⟨by rw [Q.out]; rfl, K2.out⟩
   ·have g' : pr a = false := by simpa using g
    have Q : Hid (∀ y ∈ l.take (k + 1), pr y = false) := fun y hy => by
     rw [List.take_add_one, HAA.out] at hy; simp at hy
     rcases hy with hy | rfl
     ·exact HNO.out y hy
     ·exact g'
    rw [g']; clear g g'
    go_wp2
    go_roundw
    case rel => exact ⟨k + 1, by omega, by go_num, Q.out, K2.out⟩
    case measure => simp [intOf]; omega
  ·obtain rfl : k = l.length := by omega
   have Q : Hid (idxF pr l = -1) := by
    have := HNO.out; rw [List.take_length] at this
    exact idxF_none this
   go_wp2
   go_ret
   exact ⟨by rw [Q.out]; rfl, KR.out⟩
theorem verify_idx (r : Int) (l : List Order) (cb : Nat) (A : Option Addr) (c : Nat) (w : World) (h : ROrders w (Old w) [.slice A l.length c] l) (hb : Blk w cb 3 #[.int .i64 r]) :
  Calls Try.prog 49 #[.slice A l.length c, .func (.func 50) #[] #[.pointer (some ⟨cb, 0, none⟩)]] w fun e w' => e = .returned (.int .i64 (idxF (fun o : Order => decide (o.res = r)) l)) ∧ KeepsAll w w' :=
 IndexOrd_any 50 cb l _ A c w h enters_verify1 (fun a _ va W hW => verify1_any r cb a va W (hb.kept hW (by simp)))

theorem take_eq_succ {α : Type} {a b : List α} {k : Nat} {x y : α} (h : a.take k = b.take k) (hx : a[k]? = some x) (hy : b[k]? = some y) (e : x = y) : a.take (k + 1) = b.take (k + 1) := by
 rw [List.take_add_one, List.take_add_one, h, hx, hy, e]
set_option maxRecDepth 100000 in
set_option maxHeartbeats 1000000 in
theorem EqInts_any (a b : List Int) (A B : Option Addr) (c c2 : Nat) (w : World) (h : RInts w (Old w) [.slice A a.length c] a) (h2 : RInts w (Old w) [.slice B b.length c2] b) :
  Calls Try.prog 54 #[.slice A a.length c, .slice B b.length c2] w fun e w' => e = .returned (.bool (decide (a = b))) ∧ KeepsAll w w' := by
 have hc := h.caps
 have hc2 := h2.caps
 have H := Lib.hid h; clear h
 have H2 := Lib.hid h2; clear h2
 by_cases hl : a.length = b.length
 ·have hl' : ((a.length : Int) != (b.length : Int)) = false := by simp [hl]
  have hle : a.length ≤ b.length := by omega
  have HL := Lib.hid hl; clear hl
  go_enter Try.func54, Try.ntmps54
  go_wp2
  clear hl'
  go_loopw [13] (fun i wr => ∃ k : Nat, k ≤ a.length ∧ i = .int .i64 k ∧ a.take k = b.take k ∧ KeepsAll w wr) (fun i _ => a.length - (intOf i).toNat)
  case atStart => exact ⟨0, Nat.zero_le _, rfl, rfl, Keeps.refl _ _⟩
  case round =>
   obtain ⟨k, hk, rfl, hno, hkr⟩ := hrel
   have HNO := Lib.hid hno; clear hno
   have KR := Lib.hid hkr; clear hkr
   by_cases hlt : k < a.length
   ·obtain ⟨ba, oa, x, rfl, hba, hx, m0⟩ := RInts.atK KR.out H.out hlt
    obtain ⟨bb, ob, y, rfl, hbb, hy, m1⟩ := RInts.atK KR.out H2.out (show k < b.length by omega)
    have hlt2 : k < b.length := by omega
    have HXX := Lib.hid hx; clear hx
    have HYY := Lib.hid hy; clear hy
    by_cases g : x = y
    ·have Q := Lib.hid (take_eq_succ HNO.out HXX.out HYY.out g)
     have K2 := Lib.hid KR.out.drew
     subst g
     go_wp2
     go_quiet (fail)
     go_wp2
     go_roundw
     case rel => first | exact ⟨k + 1, by omega, by go_num, Q.out, K2.out⟩ | exact ⟨k + 1, by omega, by go_num, Q.out, KR.out.drewN _⟩ | exact ⟨k + 1, by omega, by go_num, Q.out, KR.out⟩
     case measure => simp [intOf]; omega
    ·have g' : (x != y) = true := by simpa using g
     have Q : Hid (decide (a = b) = false) := by
      refine decide_eq_false fun e => g ?_
      have h1 := HXX.out
      rw [e, HYY.out] at h1
      injection h1 with h1; exact h1.symm
     clear g
     go_wp2
     go_quiet (fail)
     go_wp2
     go_ret
     first | exact ⟨by rw [Q.out]; rfl, KR.out.drewN _⟩ | exact ⟨by rw [Q.out]; rfl, KR.out.drew⟩ | exact ⟨by rw [Q.out]; rfl, KR.out⟩
   ·obtain rfl : k = a.length := by omega
    have Q : Hid (decide (a = b) = true) := by
     refine decide_eq_true ?_
     have h1 := HNO.out
     rw [List.take_length, HL.out, List.take_length] at h1
     exact h1
    go_wp2
    go_ret
    exact ⟨by rw [Q.out]; rfl, KR.out⟩
 ·have hl' : ((a.length : Int) != (b.length : Int)) = true := by simp; omega
  have Q : Hid (decide (a = b) = false) := decide_eq_false fun e => hl (by rw [e])
  clear hl
  go_enter Try.func54, Try.ntmps54
  go_wp2
  go_ret
  exact ⟨by rw [Q.out]; rfl, Keeps.refl _ _⟩

set_option maxRecDepth 100000 in
set_option maxHeartbeats 1000000 in
theorem EqRows_any (a b : List (List Int)) (A B : Option Addr) (c c2 : Nat) (w : World) (h : RIntss w (Old w) [.slice A a.length c] a) (h2 : RIntss w (Old w) [.slice B b.length c2] b) :
  Calls Try.prog 52 #[.slice A a.length c, .slice B b.length c2, .func (.func 54) #[] #[]] w fun e w' => e = .returned (.bool (decide (a = b))) ∧ KeepsAll w w' := by
 have hc := h.caps
 have hc2 := h2.caps
 have H := Lib.hid h; clear h
 have H2 := Lib.hid h2; clear h2
 have hcf : ∀ (args : Array Value) (w : World), (callFunc 54 args).run Try.prog w = .ok (.enter 54 args) w := enters_equal
 by_cases hl : a.length = b.length
 ·have hl' : ((a.length : Int) != (b.length : Int)) = false := by simp [hl]
  have hle : a.length ≤ b.length := by omega
  have HL := Lib.hid hl; clear hl
  go_enter Try.func52, Try.ntmps52
  go_wp2
  clear hl'
  go_loopw [17] (fun i wr => ∃ k : Nat, k ≤ a.length ∧ i = .int .i64 k ∧ a.take k = b.take k ∧ KeepsAll w wr) (fun i _ => a.length - (intOf i).toNat)
  case atStart => exact ⟨0, Nat.zero_le _, rfl, rfl, Keeps.refl _ _⟩
  case round =>
   obtain ⟨k, hk, rfl, hno, hkr⟩ := hrel
   have HNO := Lib.hid hno; clear hno
   have KR := Lib.hid hkr; clear hkr
   by_cases hlt : k < a.length
   ·obtain ⟨ba, oa, x, Ax, cx, rfl, hba, hx, m0, rx⟩ := RSS.atK KR.out H.out hlt
    obtain ⟨bb, ob, y, Ay, cy, rfl, hbb, hy, m1, ry⟩ := RSS.atK KR.out H2.out (show k < b.length by omega)
    have hlt2 : k < b.length := by omega
    have HC := Lib.hid (EqInts_any x y Ax Ay cx cy wr (KR.out.rdo' RInts.ok rx) (KR.out.rdo' RInts.ok ry))
    have HXX := Lib.hid hx; clear hx
    have HYY := Lib.hid hy; clear hy
    clear rx ry
    go_wp2_with fail
    refine HC.out.mono ?_
    rintro e w2 ⟨rfl, hk2⟩
    have K2 := Lib.hid (KR.out.tr hk2); clear hk2 HC
    by_cases g : x = y
    ·have Q := Lib.hid (take_eq_succ HNO.out HXX.out HYY.out g)
     rw [decide_eq_true g]
     clear g
     go_wp2
     go_roundw
     case rel => exact ⟨k + 1, by omega, by go_num, Q.out, K2.out⟩
     case measure => simp [intOf]; omega
    ·have Q : Hid (decide (a = b) = false) := by
      refine decide_eq_false fun e => g ?_
      have h1 := HXX.out
      rw [e, HYY.out] at h1
      injection h1 with h1; exact h1.symm
     rw [decide_eq_false g]
     clear g
     go_wp2
     go_ret
     exact ⟨by rw [Q.out]; rfl, K2.out⟩
   ·obtain rfl : k = a.length := by omega
    have Q : Hid (decide (a = b) = true) := by
     refine decide_eq_true ?_
     have h1 := HNO.out
     rw [List.take_length, HL.out, List.take_length] at h1
     exact h1
    go_wp2
    go_ret
    exact ⟨by rw [Q.out]; rfl, KR.out⟩
 ·have hl' : ((a.length : Int) != (b.length : Int)) = true := by simp; omega
  have Q : Hid (decide (a = b) = false) := decide_eq_false fun e => hl (by rw [e])
  clear hl
  go_enter Try.func52, Try.ntmps52
  go_wp2
  go_ret
  exact ⟨by rw [Q.out]; rfl, Keeps.refl _ _⟩

end Go.Proofs.Ytilbbpbjhoidhaa
