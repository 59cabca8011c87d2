/- The reference's search of chapter 37 in memory; contract of chosen. Conditions: as each theorem says. -/
import Derived.Test.YtilbbpbjhoidhaaE35
import Derived.Test.YtilbbpbjhoidhaaE10
import Derived.Test.YtilbbpbjhoidhaaE07
import Derived.Test.YtilbbpbjhoidhaaE28
import Derived.Deep.Cut
namespace Go.Proofs.Ytilbbpbjhoidhaa
open Go.RowKit

abbrev RPrs := RSlice 5 RPr
theorem RPrs.ok : Rd.Ok RPrs := RSlice.ok RPr.ok
theorem RPrs.at_ {w : World} {S : Foot} {A : Option Addr} {n c : Nat} {l : List Pr} (h : RPrs w S [.slice A n c] l) {k : Nat} (hk : k < l.length) :
  ∃ b o x, A = some ⟨b, o, none⟩ ∧ S b ∧ l[k]? = some x ∧ w.cell? ⟨b, o + k * 5, none⟩ = some (.int .i64 x.res) ∧ w.cell? ⟨b, o + k * 5 + 1, none⟩ = some (.int .i64 x.u.tr) ∧ w.cell? ⟨b, o + k * 5 + 2, none⟩ = some (.int .i64 x.u.st) ∧ w.cell? ⟨b, o + k * 5 + 3, none⟩ = some (.int .i64 x.v.tr) ∧ w.cell? ⟨b, o + k * 5 + 4, none⟩ = some (.int .i64 x.v.st) := by
 obtain ⟨b, o, x, es, rfl, hb, hx, h1, h2, h3⟩ := h.get hk
 cases h2
 exact ⟨b, o, x, rfl, hb, hx, by simpa using h3 0 _ rfl, by simpa [Nat.add_assoc] using h3 1 _ rfl, by simpa [Nat.add_assoc] using h3 2 _ rfl, by simpa [Nat.add_assoc] using h3 3 _ rfl, by simpa [Nat.add_assoc] using h3 4 _ rfl⟩
def rdC (v : PV) (p : Pb) (Ap : Option Addr) (cp budget used : Nat) (vf : Value) (fd : Bool) (vb : Value) (vc : Int) (ve : Value) : Array Value :=
 #[.slice v.A p.ps.length v.c, .slice v.A2 p.at_.length v.c2, .slice v.A3 p.due.length v.c3, .slice v.A4 p.wgt.length v.c4, .int .i64 p.now, .slice Ap (xs p).length cp, .int .i64 (budget : Int), .int .i64 (used : Int), vf, .bool fd, vb, .int .i64 vc, ve]
def RBest (w : World) (S : Foot) (p : Pb) (best : Option (List Bool × Int)) (fd : Bool) (vb : Value) (vc : Int) (ve : Value) : Prop :=
 match best with
 | none => fd = false
 | some b => fd = true ∧ vc = b.2 ∧ RBools w S [vb] b.1 ∧ RIntss w S [ve] (entB p b.1)
theorem RBest.mono {w w' : World} {S S' : Foot} {p : Pb} {best : Option (List Bool × Int)} {fd : Bool} {vb : Value} {vc : Int} {ve : Value} (h : RBest w S p best fd vb vc ve) (hS : ∀ b, S b → S' b) (hw : ∀ b, S b → w'.heap[b]? = w.heap[b]?) : RBest w' S' p best fd vb vc ve := by
 unfold RBest at *
 cases best with
 | none => exact h
 | some b => exact ⟨h.1, h.2.1, RBools.ok.mono h.2.2.1 hS hw, RIntss.ok.mono h.2.2.2 hS hw⟩
def SBt (rb : Nat) (w : World) (vf : Value) : Foot := fun b => rb < b ∧ b < w.heap.size ∧ vf.ownBlock ≠ some b
structure RDs (w0 : World) (rb : Nat) (v : PV) (p : Pb) (Ap : Option Addr) (cp budget : Nat) (w : World) (bs : List Bool) (st : SSt) : Prop where
 k : KeepsAll w0 w
 P : RPb w0 (Old w0) v p
 lo : w0.heap.size ≤ rb
 pr : RPrs w (fun b => b < rb) [.slice Ap (xs p).length cp] (xs p)
 b : ∃ vf fd vb vc ve, Blk w rb 90 (rdC v p Ap cp budget st.steps vf fd vb vc ve) ∧ OwnL 4 1 RBool w (rb + 1) (rb + 1) vf bs ∧ RBest w (SBt rb w vf) p st.best fd vb vc ve
section
variable {w0 w w' : World} {rb : Nat} {v : PV} {p : Pb} {Ap : Option Addr} {cp budget : Nat} {bs : List Bool} {st : SSt}
theorem RDs.rlt (h : RDs w0 rb v p Ap cp budget w bs st) : rb < w.heap.size := by obtain ⟨_, _, _, _, _, hb, _⟩ := h.b; exact hb.lt
theorem RDs.keep (h : RDs w0 rb v p Ap cp budget w bs st) (k : KeepsAll w w') : RDs w0 rb v p Ap cp budget w' bs st := by
 obtain ⟨vf, fd, vb, vc, ve, h1, h2, h3⟩ := h.b
 have hz := h.rlt
 refine ⟨h.k.tr k, h.P, h.lo, RPrs.ok.mono h.pr (fun _ hb => hb) (fun b hb => k.block b (by have : b < rb := hb; omega) (by simp)), vf, fd, vb, vc, ve, h1.kept k (by simp), h2.keepsF RBool.flat k (by simp), h3.mono (fun b hb => ⟨hb.1, Nat.lt_of_lt_of_le hb.2.1 k.size, hb.2.2⟩) (fun b hb => k.block b hb.2.1 (by simp))⟩
theorem RDs.rpb (h : RDs w0 rb v p Ap cp budget w bs st) : RPb w (Old w) v p := h.P.kept h.k
end
theorem decs_take (ps : List (List Stage)) {l : List Pr} {bs : List Bool} {i : Nat} {x : Pr} {b : Bool} (hx : l[i]? = some x) (hb : bs[i]? = some b) : decs ps l (bs.take (i + 1)) = decs ps l (bs.take i) ++ [dArc ps x b] := by
 have hl : (bs.take i).length = i := by rw [List.length_take]; have := getElem?_lt hb; omega
 rw [List.take_add_one, hb, Option.toList_some, decs_snoc ps b (by rw [hl]; exact hx)]
theorem betw_pr {p : Pb} (hv : valid p.ps = true) {v : PV} {w : World} (h : RPb w (Old w) v p) {r : Int} {u y : Ref} (hu : u ∈ openA p.ps p.at_ r) :
  Calls Try.prog 24 #[.slice v.A p.ps.length v.c, .int .i64 r, .agg #[.int .i64 u.tr, .int .i64 u.st], .agg #[.int .i64 y.tr, .int .i64 y.st]] w fun e w' => e = .returned (.agg #[.int .i64 (betw p.ps r u y).frm.tr, .int .i64 (betw p.ps r u y).frm.st, .int .i64 y.tr, .int .i64 y.st, .int .i64 0]) ∧ KeepsAll w w' := by
 unfold openA openU at hu
 obtain ⟨hu, _⟩ := List.mem_filter.1 hu
 obtain ⟨tw, kw, pw, sw, hpw, hsw, _, rfl⟩ := mem_allU.1 hu
 have hk : kw ≤ 1000000 := by
  have h1 := getElem?_lt hsw
  have h2 := ((valid_lens hv).2 pw (List.mem_of_getElem? hpw)).2
  omega
 have h1 := relOf_tr p.ps r ⟨(tw : Int), (kw : Int)⟩
 refine (Between_any p.ps r v.A v.c w h.P tw kw pw sw y hpw hsw hk).mono ?_
 rintro e w' ⟨rfl, hk⟩
 refine ⟨?_, hk⟩
 show _ = Ending.returned (.agg #[.int .i64 (relOf p.ps r ⟨(tw : Int), (kw : Int)⟩).tr, _, _, _, _])
 rw [h1]
 rfl

set_option maxRecDepth 100000 in
set_option maxHeartbeats 1000000 in
theorem chosen_any (w0 : World) (rb : Nat) (v : PV) (p : Pb) (Ap : Option Addr) (cp budget : Nat) (w : World) (bs : List Bool) (st : SSt) (h : RDs w0 rb v p Ap cp budget w bs st) (hv : valid p.ps = true) (hl : bs.length ≤ (xs p).length) :
  Calls Try.prog 72 #[.pointer (some ⟨rb, 0, none⟩)] w fun e w' => ∃ A c, e = .returned (.slice A (arcsD p.ps (decs p.ps (xs p) bs)).length c) ∧ RRArcs w' (Fresh w w') [.slice A (arcsD p.ps (decs p.ps (xs p) bs)).length c] (arcsD p.ps (decs p.ps (xs p) bs)) ∧ KeepsAll w w' := by
 obtain ⟨vf, fd, vb, vc, ve, hb, ho, _⟩ := h.b
 obtain ⟨Af, cf, rfl, hcf, hcf2⟩ := ho.form
 have HPB := Lib.hid h.rpb
 have HPR := Lib.hid h.pr
 have HF : Hid (RBools w (Old w) [.slice Af bs.length cf] bs) := ho.readF RBool.ok RBool.flat (fun b hb => (ho.lt hb).2)
 have HB := Lib.hid hb
 have HV := Lib.hid hv
 have HLT := Lib.hid h.rlt
 have hxl := pairsTo_big hv p.at_ 144
 have hxl : (xs p).length ≤ 144 * 409600 := hxl
 have hps := (valid_lens hv).1
 have hcl : (chainR p.ps).length ≤ 640 := by
  have h1 := chainR_len (ps := p.ps) (fun q hq => ((valid_lens hv).2 q hq).2) p.ps.length
  rw [List.take_length] at h1
  omega
 have HCH : Hid (∀ W, KeepsAll w W → Calls Try.prog 23 #[.slice v.A p.ps.length v.c] W fun e w' => ∃ v, e = .returned v ∧ OwnL 57 5 RRArc w' W.heap.size W.heap.size v (chainR p.ps) ∧ KeepsAll W w') := fun W hW => Chain_any p.ps v.A v.c W hv (HPB.out.kept hW).P
 have q0 := hb.cell 0
 have q5 := hb.cell 5
 have q8 := hb.cell 8
 simp [rdC] at q0 q5 q8
 have hbz := hb.lt
 clear h hb ho hv
 go_enter Try.func72, Try.ntmps72
 go_wp2_with fail
 refine (HCH.out w (Keeps.refl _ _)).mono ?_
 rintro e w1 ⟨v1, rfl, hch, k1⟩
 have HC := Lib.hid hch
 have K1 := Lib.hid k1
 have q81 := k1.cellK (p := ⟨rb, 8, none⟩) hbz q8
 have hbz1 := Nat.lt_of_lt_of_le hbz k1.size
 clear hch k1 HCH q0 q5 q8
 go_wp2
 clear q81
 go_loopw [3, 18] (fun vv i wr => ∃ a : Nat, a ≤ bs.length ∧ i = .int .i64 (a : Int) ∧ OwnL 57 5 RRArc wr w.heap.size w.heap.size vv (arcsD p.ps (decs p.ps (xs p) (bs.take a))) ∧ KeepsAll w wr) (fun _ i _ => bs.length - (intOf i).toNat)
 case atStart => exact ⟨0, Nat.zero_le _, rfl, by (have e : arcsD p.ps (decs p.ps (xs p) (bs.take 0)) = chainR p.ps := by unfold arcsD decs; simp); rw [e]; exact HC.out, K1.out⟩
 case round =>
  obtain ⟨a, ha, rfl, ho, hkr⟩ := hrel
  obtain ⟨Ac, cc, rfl, hcc, hcc2⟩ := ho.form
  have HO := Lib.hid ho
  have KR := Lib.hid hkr
  have hEl : (arcsD p.ps (decs p.ps (xs p) (bs.take a))).length ≤ 640 + a := by
   have h1 : (decs p.ps (xs p) (bs.take a)).length ≤ a := by
    unfold decs
    rw [List.length_zipWith]
    have : (bs.take a).length ≤ a := by rw [List.length_take]; omega
    omega
   unfold arcsD
   rw [List.length_append]; omega
  clear ho hkr
  by_cases hlt : a < bs.length
  ·obtain ⟨bf, of_, b, hAf, hbf, hbb, m0⟩ := RBools.at_ HF.out hlt
   subst hAf
   have hax : a < (xs p).length := by omega
   obtain ⟨bp, op, x, hAp, hbp, hx, n0, n1, n2, n3, n4⟩ := RPrs.at_ HPR.out hax
   subst hAp
   have hbp' : bp < rb := hbp
   have hbf' : bf < w.heap.size := hbf
   have hbpw : bp < w.heap.size := by have := HLT.out; omega
   have HQ : Hid (arcsD p.ps (decs p.ps (xs p) (bs.take (a + 1))) = arcsD p.ps (decs p.ps (xs p) (bs.take a)) ++ [dArc p.ps x b]) := by
    show _ = _
    rw [decs_take p.ps hx hbb]
    unfold arcsD
    rw [List.append_assoc]
   obtain ⟨mu, mv, _⟩ := mem_pairs (List.mem_of_getElem? hx)
   have HMU := Lib.hid mu
   have HMV := Lib.hid mv
   replace m0 := KR.out.cellK hbf' m0
   replace n0 := KR.out.cellK hbpw n0
   replace n1 := KR.out.cellK hbpw n1
   replace n2 := KR.out.cellK hbpw n2
   replace n3 := KR.out.cellK hbpw n3
   replace n4 := KR.out.cellK hbpw n4
   have hbr := HB.out.kept KR.out (by simp)
   have r0 := hbr.cell 0
   have r5 := hbr.cell 5
   simp [rdC] at r0 r5
   have hbfr := Nat.lt_of_lt_of_le hbf' KR.out.size
   have hbpr := Nat.lt_of_lt_of_le hbpw KR.out.size
   have hszr := KR.out.size
   have hrr := hbr.lt
   clear mu mv hx hbb hbp hbf hbr
   generalize arcsD p.ps (decs p.ps (xs p) (bs.take a)) = E at HO HQ hEl hcc ⊢
   go_upto_region 6 with (fail)
   generalize hW4 : World.alloc wr _ = W4
   have k4 : KeepsAll wr W4 := by subst hW4; exact (Keeps.refl _ _).alloc _
   have hbx : Blk W4 wr.heap.size 55 #[.int .i64 x.res, .int .i64 x.u.tr, .int .i64 x.u.st, .int .i64 x.v.tr, .int .i64 x.v.st] := by subst hW4; exact Blk.new _ _ _
   have KW4 := Lib.hid (KR.out.tr k4)
   have HO4 := Lib.hid (HO.out.keeps RRArc.ok k4 (fun _ _ h => h.elim))
   have r04 := k4.cellK (p := ⟨rb, 0, none⟩) hrr r0
   have nr : ¬ ((Value.slice Ac E.length cc).ownBlock = some rb) := fun e => by have := (HO.out.lt e).1; have := HLT.out; omega
   have nx : ¬ ((Value.slice Ac E.length cc).ownBlock = some wr.heap.size) := fun e => by have := (HO.out.lt e).2; omega
   have x0 := hbx.cell 0
   have x1 := hbx.cell 1
   have x2 := hbx.cell 2
   have x3 := hbx.cell 3
   have x4 := hbx.cell 4
   simp at x0 x1 x2 x3 x4
   clear hW4 k4 hbx HO r0 r5 m0 n0 n1 n2 n3 n4
   generalize wr.heap.size = zx at *
   cases b with
   | true =>
    have HBW : Hid (∀ W, KeepsAll w W → Calls Try.prog 24 #[.slice v.A p.ps.length v.c, .int .i64 x.res, .agg #[.int .i64 x.u.tr, .int .i64 x.u.st], .agg #[.int .i64 x.v.tr, .int .i64 x.v.st]] W fun e w' => e = .returned (.agg #[.int .i64 (betw p.ps x.res x.u x.v).frm.tr, .int .i64 (betw p.ps x.res x.u x.v).frm.st, .int .i64 x.v.tr, .int .i64 x.v.st, .int .i64 0]) ∧ KeepsAll W w') := fun W hW =>
     betw_pr HV.out (HPB.out.kept hW) HMU.out
    have HD : Hid (dArc p.ps x true = ⟨⟨(betw p.ps x.res x.u x.v).frm.tr, (betw p.ps x.res x.u x.v).frm.st⟩, ⟨x.v.tr, x.v.st⟩, 0⟩) := rfl
    generalize (betw p.ps x.res x.u x.v).frm.tr = ft at *
    generalize (betw p.ps x.res x.u x.v).frm.st = fs at *
    go_wp2
    refine wp_region_lex (fun w' => ∃ y : ExtC (fun b => (Value.slice Ac E.length cc).ownBlock = some b) W4, w' = y.val) [0, 1, 2, 3, 4, 5, 6, 7, 8, 9, 10, 11, 12, 13, 14, 15] (by kernel_rfl) (by kernel_rfl) (ExtC.start _ _) ?_
    have y0 := ExtC.cell (C := fun b => (Value.slice Ac E.length cc).ownBlock = some b) r04 nr
    have z0 := ExtC.cell (C := fun b => (Value.slice Ac E.length cc).ownBlock = some b) x0 nx
    have z1 := ExtC.cell (C := fun b => (Value.slice Ac E.length cc).ownBlock = some b) x1 nx
    have z2 := ExtC.cell (C := fun b => (Value.slice Ac E.length cc).ownBlock = some b) x2 nx
    have z3 := ExtC.cell (C := fun b => (Value.slice Ac E.length cc).ownBlock = some b) x3 nx
    have z4 := ExtC.cell (C := fun b => (Value.slice Ac E.length cc).ownBlock = some b) x4 nx
    iterate 12 (first | (refine lex_q _ rfl rfl rfl ?_; go_big_quiet_step (fail); refine wpQuiet_nil ?_) | (refine lex_nil _ rfl _ rfl rfl _ rfl ?_; go_simp))
    clear y0 z0 z1 z2 z3 z4
    refine lex_a _ rfl rfl true (by kernel_rfl) ?_
    go_wp2_with fail
    refine (HBW.out _ KW4.out.drew).mono ?_
    rintro e w6 ⟨rfl, k6⟩
    have K46 := Lib.hid ((Keeps.refl (fun b => (Value.slice Ac E.length cc).ownBlock = some b) W4).drew.trans k6 (fun _ _ h => h.elim))
    have K6 := Lib.hid (KW4.out.drew.tr k6)
    have HO6 := Lib.hid ((HO4.out.drew RRArc.ok).keeps RRArc.ok k6 (fun _ _ h => h.elim))
    clear k6 HBW
    go_wp2
    refine ⟨fun _ => ⟨⟨_, K46.out⟩, rfl⟩, ?_⟩
    refine lex_a _ rfl rfl true (by kernel_rfl) ?_
    go_wp2
    refine ⟨fun _ => ⟨⟨_, K46.out.alloc _⟩, rfl⟩, ?_⟩
    generalize hW7 : World.alloc w6 _ = W7
    have k7 : KeepsAll w6 W7 := by subst hW7; exact (Keeps.refl _ _).alloc _
    have BY : Hid (Blk W7 w6.heap.size 57 [.int .i64 ft, .int .i64 fs, .int .i64 x.v.tr, .int .i64 x.v.st, .int .i64 0].toArray) := by subst hW7; exact Blk.new _ _ _
    have HO7 := Lib.hid (HO6.out.keeps RRArc.ok k7 (fun _ _ h => h.elim))
    have K7 := Lib.hid (K6.out.tr k7)
    have hz7 := K7.out.size
    have K47 := Lib.hid (K46.out.trans k7 (fun _ _ h => h.elim))
    clear hW7 k7 K46 HO6 K6
    refine lex_a _ rfl rfl true (by kernel_rfl) ?_
    go_wp2_with (at_builtin; go_loud (refine wpList_append_L tyRArc RRArc.ok rfl (.tmp 31) (.tmp 44) rfl HO7.out rfl _ [.int .i64 ft, .int .i64 fs, .int .i64 x.v.tr, .int .i64 x.v.st, .int .i64 0] rfl BY.out rfl ⟨⟨ft, fs⟩, ⟨x.v.tr, x.v.st⟩, 0⟩ (S := fun _ => False) rfl (fun _ h => h.elim) (by simp [Value.oneCell']) (by omega) (by omega) hz7 ?_; intro v9 w9 HO9 HK9 HA9; obtain ⟨A9, c9, hv9, _, _⟩ := HO9.form; rw [List.length_append, List.length_singleton] at hv9; subst hv9))
    refine ⟨fun _ => ⟨⟨_, K47.out.trans HK9 (fun _ _ h => h)⟩, rfl⟩, ?_⟩
    refine lex_q _ rfl rfl rfl ?_; go_big_quiet_step (fail); refine wpQuiet_nil ?_
    simp only [wpLex]
    refine NoPanic.normal ?_
    have KF : Hid (KeepsAll w w9) := K7.out.trans HK9 (fun y hy e => (by have := (HO7.out.lt e).1; omega))
    have HOF := Lib.hid HO9
    clear HO9 HK9 HA9 HO7 K7 BY
    go_wp2
    go_roundw
    case rel => exact ⟨a + 1, by omega, by go_num, by rw [HQ.out, HD.out]; first | exact HOF.out | exact HOF.out.drew RRArc.ok, by first | exact KF.out | exact KF.out.drew⟩
    case measure => simp [intOf]; omega
   | false =>
    have HBW : Hid (∀ W, KeepsAll w W → Calls Try.prog 24 #[.slice v.A p.ps.length v.c, .int .i64 x.res, .agg #[.int .i64 x.v.tr, .int .i64 x.v.st], .agg #[.int .i64 x.u.tr, .int .i64 x.u.st]] W fun e w' => e = .returned (.agg #[.int .i64 (betw p.ps x.res x.v x.u).frm.tr, .int .i64 (betw p.ps x.res x.v x.u).frm.st, .int .i64 x.u.tr, .int .i64 x.u.st, .int .i64 0]) ∧ KeepsAll W w') := fun W hW =>
     betw_pr HV.out (HPB.out.kept hW) HMV.out
    have HD : Hid (dArc p.ps x false = ⟨⟨(betw p.ps x.res x.v x.u).frm.tr, (betw p.ps x.res x.v x.u).frm.st⟩, ⟨x.u.tr, x.u.st⟩, 0⟩) := rfl
    generalize (betw p.ps x.res x.v x.u).frm.tr = ft at *
    generalize (betw p.ps x.res x.v x.u).frm.st = fs at *
    go_wp2
    refine wp_region_lex (fun w' => ∃ y : ExtC (fun b => (Value.slice Ac E.length cc).ownBlock = some b) W4, w' = y.val) [0, 1, 2, 3, 4, 5, 6, 7, 8, 9, 10, 11, 12, 13, 14, 15] (by kernel_rfl) (by kernel_rfl) (ExtC.start _ _) ?_
    have y0 := ExtC.cell (C := fun b => (Value.slice Ac E.length cc).ownBlock = some b) r04 nr
    have z0 := ExtC.cell (C := fun b => (Value.slice Ac E.length cc).ownBlock = some b) x0 nx
    have z1 := ExtC.cell (C := fun b => (Value.slice Ac E.length cc).ownBlock = some b) x1 nx
    have z2 := ExtC.cell (C := fun b => (Value.slice Ac E.length cc).ownBlock = some b) x2 nx
    have z3 := ExtC.cell (C := fun b => (Value.slice Ac E.length cc).ownBlock = some b) x3 nx
    have z4 := ExtC.cell (C := fun b => (Value.slice Ac E.length cc).ownBlock = some b) x4 nx
    iterate 12 (first | (refine lex_q _ rfl rfl rfl ?_; go_big_quiet_step (fail); refine wpQuiet_nil ?_) | (refine lex_nil _ rfl _ rfl rfl _ rfl ?_; go_simp))
    clear y0 z0 z1 z2 z3 z4
    refine lex_a _ rfl rfl true (by kernel_rfl) ?_
    go_wp2_with fail
    refine (HBW.out _ KW4.out.drew).mono ?_
    rintro e w6 ⟨rfl, k6⟩
    have K46 := Lib.hid ((Keeps.refl (fun b => (Value.slice Ac E.length cc).ownBlock = some b) W4).drew.trans k6 (fun _ _ h => h.elim))
    have K6 := Lib.hid (KW4.out.drew.tr k6)
    have HO6 := Lib.hid ((HO4.out.drew RRArc.ok).keeps RRArc.ok k6 (fun _ _ h => h.elim))
    clear k6 HBW
    go_wp2
    refine ⟨fun _ => ⟨⟨_, K46.out⟩, rfl⟩, ?_⟩
    refine lex_a _ rfl rfl true (by kernel_rfl) ?_
    go_wp2
    refine ⟨fun _ => ⟨⟨_, K46.out.alloc _⟩, rfl⟩, ?_⟩
    generalize hW7 : World.alloc w6 _ = W7
    have k7 : KeepsAll w6 W7 := by subst hW7; exact (Keeps.refl _ _).alloc _
    have BY : Hid (Blk W7 w6.heap.size 57 [.int .i64 ft, .int .i64 fs, .int .i64 x.u.tr, .int .i64 x.u.st, .int .i64 0].toArray) := by subst hW7; exact Blk.new _ _ _
    have HO7 := Lib.hid (HO6.out.keeps RRArc.ok k7 (fun _ _ h => h.elim))
    have K7 := Lib.hid (K6.out.tr k7)
    have hz7 := K7.out.size
    have K47 := Lib.hid (K46.out.trans k7 (fun _ _ h => h.elim))
    clear hW7 k7 K46 HO6 K6
    refine lex_a _ rfl rfl true (by kernel_rfl) ?_
    go_wp2_with (at_builtin; go_loud (refine wpList_append_L tyRArc RRArc.ok rfl (.tmp 46) (.tmp 59) rfl HO7.out rfl _ [.int .i64 ft, .int .i64 fs, .int .i64 x.u.tr, .int .i64 x.u.st, .int .i64 0] rfl BY.out rfl ⟨⟨ft, fs⟩, ⟨x.u.tr, x.u.st⟩, 0⟩ (S := fun _ => False) rfl (fun _ h => h.elim) (by simp [Value.oneCell']) (by omega) (by omega) hz7 ?_; intro v9 w9 HO9 HK9 HA9; obtain ⟨A9, c9, hv9, _, _⟩ := HO9.form; rw [List.length_append, List.length_singleton] at hv9; subst hv9))
    refine ⟨fun _ => ⟨⟨_, K47.out.trans HK9 (fun _ _ h => h)⟩, rfl⟩, ?_⟩
    refine lex_q _ rfl rfl rfl ?_; go_big_quiet_step (fail); refine wpQuiet_nil ?_
    simp only [wpLex]
    refine NoPanic.normal ?_
    have KF : Hid (KeepsAll w w9) := K7.out.trans HK9 (fun y hy e => (by have := (HO7.out.lt e).1; omega))
    have HOF := Lib.hid HO9
    clear HO9 HK9 HA9 HO7 K7 BY
    go_wp2
    go_roundw
    case rel => exact ⟨a + 1, by omega, by go_num, by rw [HQ.out, HD.out]; first | exact HOF.out | exact HOF.out.drew RRArc.ok, by first | exact KF.out | exact KF.out.drew⟩
    case measure => simp [intOf]; omega
  ·obtain rfl : a = bs.length := by omega
   rw [List.take_length] at HO hcc hEl ⊢
   go_wp2
   go_ret
   exact ⟨_, _, rfl, HO.out.readF RRArc.ok RRArc.flat (fun b hb => HO.out.lt hb), KR.out⟩

end Go.Proofs.Ytilbbpbjhoidhaa
