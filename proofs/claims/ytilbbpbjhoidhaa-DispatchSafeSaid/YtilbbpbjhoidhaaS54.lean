/- The statement DispatchSafe: its function returns true. No condition beyond the arguments' reading. From a row's argument that is a slice of integers to its reading. No condition. -/
import Derived.Test.YtilbbpbjhoidhaaS46
import Derived.Test.YtilbbpbjhoidhaaS50
import Derived.Test.YtilbbpbjhoidhaaS53
import Derived.Test.YtilbbpbjhoidhaaS11
import Derived.Test.YtilbbpbjhoidhaaS01
import Derived.Test.YtilbbpbjhoidhaaRows
import Derived.ProofKit
import Derived.OpenShut
import Derived.ShutString
import Derived.ChangeOld
import Derived.Below
namespace Go.Proofs.Ytilbbpbjhoidhaa
open Go.RowKit

theorem openTo_len (ps : List (List Stage)) (at_ : List Int) : ∀ n, (openTo ps at_ n).length ≤ n
 | 0 => by simp [openTo]
 | n + 1 => by
  have := openTo_len ps at_ n
  rw [openTo, List.length_append]
  split <;> simp <;> omega
/-- what the reference's Arcs asks of orders of open uses -/
theorem okS_arcs {ps : List (List Stage)} {at_ : List Int} {os : List Order} (hv : valid ps = true) (h : okS ps at_ os = true) : valid ps = true ∧ os.length ≤ 144 ∧ ∀ o ∈ os, (∀ u ∈ o.uses, u ∈ allU ps o.res) ∧ o.uses.length ≤ 640 := by
 obtain ⟨h1, h2⟩ := okS_iff.1 h
 refine ⟨hv, ?_, fun o ho => ?_⟩
 ·have := congrArg List.length h1
  rw [List.length_map] at this
  have := openTo_len ps at_ 144
  omega
 ·obtain ⟨g1, g2, _⟩ := exactly_before.1 (h2 o ho)
  refine ⟨fun u hu => (List.mem_filter.1 (g2 u hu)).1, ?_⟩
  rw [g1]
  have h3 := openA_len ps at_ o.res
  have h4 := allU_le (fun p hp => ((valid_lens hv).2 p hp).2) o.res ps.length (Nat.le_refl _)
  rw [List.take_length] at h4
  have := (valid_lens hv).1
  omega
theorem dok_in {ps : List (List Stage)} {at_ : List Int} {D : List RArc} (hD : DOk ps at_ D) : ∀ a ∈ arcsD ps D, (0 ≤ a.frm.tr ∧ a.frm.tr < ps.length) ∧ 0 ≤ a.to.tr ∧ a.to.tr < ps.length := fun a ha => by
 obtain ⟨⟨t, k, q, q1, _, q3⟩, ⟨t', k', q', q1', _, q3'⟩⟩ := arcsD_ends hD ha
 have := getElem?_lt q1
 have := getElem?_lt q1'
 rw [q3, q3']
 exact ⟨⟨by show (0 : Int) ≤ (t : Int); omega, by show (t : Int) < _; omega⟩, by show (0 : Int) ≤ (t' : Int); omega, by show (t' : Int) < _; omega⟩
theorem mv_any {ps : List (List Stage)} {now : List Int} {t : Nat} (ht : t < ps.length) (hc : canMv ps now t = true) : (mvL ps now ps.length).any (fun x => decide (x = (t : Int))) = true := by
 rw [List.any_eq_true]
 exact ⟨(t : Int), mem_mvL.2 ⟨t, ht, hc, rfl⟩, by simp⟩

set_option maxRecDepth 100000 in
set_option maxHeartbeats 4000000 in
theorem DispatchSafe_any (lp la ld : List Int) (Ap Aa Ad : Option Addr) (cp ca cd : Nat) (now : Int) (w : World) (h : RInts w (Old w) [.slice Ap lp.length cp] lp) (h2 : RInts w (Old w) [.slice Aa la.length ca] la) (h3 : RInts w (Old w) [.slice Ad ld.length cd] ld) :
  Calls Try.prog 9 #[.slice Ap lp.length cp, .slice Aa la.length ca, .slice Ad ld.length cd, .int .i64 now] w fun e w' => e = .returned (.bool true) ∧ KeepsAll w w' := by
 have H := Lib.hid h
 have H2 := Lib.hid h2
 have H3 := Lib.hid h3
 clear h h2 h3
 go_enter Try.func9, Try.ntmps9
 go_wp2_with fail
 refine (small37_any lp la ld Ap Aa Ad cp ca cd now w H.out H2.out H3.out).mono ?_
 rintro e w1 ⟨v, p, rfl, hr, hm, hp2, k1⟩
 have hr1 := hr.old
 have HR := Lib.hid hr1
 have HM := Lib.hid hm
 have K1 := Lib.hid k1
 clear hr hr1 hm k1 H H2 H3 hp2
 unfold PV.cs
 go_wp2_with fail
 generalize hW2 : World.alloc w1 _ = W2
 have k2 : KeepsAll w1 W2 := by subst hW2; exact (Keeps.refl _ _).alloc _
 have hbx : Blk W2 w1.heap.size 25 #[.slice v.A p.ps.length v.c, .slice v.A2 p.at_.length v.c2, .slice v.A3 p.due.length v.c3, .slice v.A4 p.wgt.length v.c4, .int .i64 p.now] := by subst hW2; exact Blk.new _ _ _
 have HR2 := Lib.hid (HR.out.kept k2)
 have HBX2 := Lib.hid hbx
 have K2 := Lib.hid (K1.out.tr k2)
 clear hW2 k2 hbx HR K1
 generalize w1.heap.size = zx at *
 have HC : Hid (∀ W, RPb W (Old W) v p → Calls Try.prog 21 #[.agg #[.slice v.A p.ps.length v.c, .slice v.A2 p.at_.length v.c2, .slice v.A3 p.due.length v.c3, .slice v.A4 p.wgt.length v.c4, .int .i64 p.now]] W fun e w' => e = .returned (.bool (checkP p)) ∧ KeepsAll W w') := fun W hW => RDspCheck_any p v W hW
 have HS : Hid (∀ W, RPb W (Old W) v p → Calls Try.prog 13 #[.agg #[.slice v.A p.ps.length v.c, .slice v.A2 p.at_.length v.c2, .slice v.A3 p.due.length v.c3, .slice v.A4 p.wgt.length v.c4, .int .i64 p.now], .int .i64 20000] W (SolvePost 20000 p W)) := fun W hW => DspSolve_any p v W 20000 hW (fun _ => made_open HM.out.ps)
 have HSR : Hid (∀ W, RPb W (Old W) v p → Calls Try.prog 29 #[.slice v.A p.ps.length v.c, .slice v.A2 p.at_.length v.c2, .int .i64 1048576] W fun e w' => ∃ v2, e = .returned (.tuple #[v2, .int .i64 (searchP p.ps p.at_ 1048576).2.1, .int .i64 (searchP p.ps p.at_ 1048576).2.2]) ∧ KeepsAll W w') := fun W hW => (RSearch_any p.ps p.at_ 1048576 v.A v.A2 v.c v.c2 W hW.P hW.A).mono fun e w' ⟨v2, he, _, hk⟩ => ⟨v2, he, hk⟩
 have HL := Lib.hid (fun (hc : checkP p = true) => safe_law hc HM.out.ps (b := 20000) (by omega))
 have HPS : Hid (1 ≤ p.ps.length) := Lib.hid HM.out.ps.1
 have HV := Lib.hid (psMade.valid HM.out.ps)
 have HAL : Hid (p.at_.length = p.ps.length) := Lib.hid (good_Gd.1 HM.out.at_).1
 have HGD := Lib.hid (good_Gd.1 HM.out.at_)
 clear HM
 have x0 := HBX2.out.cell 0
 have x1 := HBX2.out.cell 1
 have x2 := HBX2.out.cell 2
 have x3 := HBX2.out.cell 3
 have x4 := HBX2.out.cell 4
 simp at x0 x1 x2 x3 x4
 go_wp2_with fail
 refine (HC.out _ HR2.out).mono ?_
 rintro e w4 ⟨rfl, k4⟩
 have K4 := Lib.hid (K2.out.tr k4)
 have HR4 := Lib.hid (HR2.out.kept k4)
 have HBX4 := Lib.hid (HBX2.out.kept k4 (by simp))
 clear k4 HR2 HBX2 K2 HC x0 x1 x2 x3 x4
 cases hc : checkP p with
 | false =>
  clear hc HL
  go_wp2_with fail
  refine (awake37_any w4).mono ?_
  rintro e w5 ⟨rfl, k5⟩
  have K5 := Lib.hid (K4.out.tr k5)
  clear k5
  go_wp2
  go_ret
  exact ⟨rfl, K5.out⟩
 | true =>
  have HL1 := Lib.hid (HL.out hc)
  clear hc HL
  have x0 := HBX4.out.cell 0
  have x1 := HBX4.out.cell 1
  simp at x0 x1
  go_wp2_with fail
  refine (HSR.out _ HR4.out).mono ?_
  rintro e w5 ⟨v5, rfl, k5⟩
  have K5 := Lib.hid (K4.out.tr k5)
  have HR5 := Lib.hid (HR4.out.kept k5)
  have HBX5 := Lib.hid (HBX4.out.kept k5 (by simp))
  clear k5 HR4 HBX4 K4 HSR x0 x1
  generalize (searchP p.ps p.at_ 1048576).2.2 = sc at *
  generalize (searchP p.ps p.at_ 1048576).2.1 = sn at *
  have x0 := HBX5.out.cell 0
  have x1 := HBX5.out.cell 1
  have x2 := HBX5.out.cell 2
  have x3 := HBX5.out.cell 3
  have x4 := HBX5.out.cell 4
  simp at x0 x1 x2 x3 x4
  go_wp2_with fail
  refine (HS.out _ HR5.out).mono ?_
  rintro e w6 ⟨a, b, c, rfl, rs, k6⟩
  obtain ⟨Ao, co, Ae, ce, rfl, rfl, rfl, ro, re⟩ := rs.form
  have K6 := Lib.hid (K5.out.tr k6)
  have HR6 := Lib.hid (HR5.out.kept k6)
  have HBX6 := Lib.hid (HBX5.out.kept k6 (by simp))
  have HRO6 := Lib.hid ro
  clear k6 HR5 HBX5 K5 HS rs ro re x0 x1 x2 x3 x4
  simp only []
  generalize (solveP 20000 p).2.2 = er at *
  generalize (solveP 20000 p).1.cost = cost1 at *
  generalize (solveP 20000 p).1.os = os at *
  generalize (solveP 20000 p).1.en.length = el1 at *
  generalize (solveP 20000 p).2.1 = st1 at *
  go_upto_region 6 with (fail)
  generalize hW7 : World.alloc w6 _ = W7
  have k7 : KeepsAll w6 W7 := by subst hW7; exact (Keeps.refl _ _).alloc _
  have hbs : Blk W7 w6.heap.size 31 #[.slice Ao os.length co, .slice Ae el1 ce, .int .i64 cost1] := by subst hW7; exact Blk.new _ _ _
  have HR7 := Lib.hid (HR6.out.kept k7)
  have HBX7 := Lib.hid (HBX6.out.kept k7 (by simp))
  have HRO7 := Lib.hid (k7.rdo' ROrders.ok HRO6.out)
  have HBS7 := Lib.hid hbs
  have K7 := Lib.hid (K6.out.tr k7)
  clear hW7 k7 hbs HR6 HBX6 K6 HRO6
  generalize w6.heap.size = zs at *
  rcases HL1.out with rfl | ⟨rfl, hsc⟩ | ⟨rfl, rfl, hos, hok, hln⟩
  ·clear HL1
   go_wp2_with fail
   refine (awake37_any _).mono ?_
   rintro e w8 ⟨rfl, k8⟩
   have K8 := Lib.hid (K7.out.tr k8)
   clear k8
   go_wp2
   go_ret
   exact ⟨rfl, K8.out⟩
  ·clear HL1
   have hsc' : (sc == 0) = false := by simpa using hsc
   go_wp2_with fail
   refine (awake37_any _).mono ?_
   rintro e w8 ⟨rfl, k8⟩
   have K8 := Lib.hid (K7.out.tr k8)
   clear k8
   go_wp2
   go_ret
   exact ⟨rfl, K8.out⟩
  ·have HOS := Lib.hid hos
   have HLN := Lib.hid hln
   have HOKD := Lib.hid hok
   clear HL1 hos hln hok
   have HDK := Lib.hid (dok_ful HOS.out)
   have HAR : Hid (∀ W, RPb W (Old W) v p → ROrders W (Old W) [.slice Ao os.length co] os → Calls Try.prog 30 #[.slice v.A p.ps.length v.c, .slice Ao os.length co] W fun e w' => ∃ A c, e = .returned (.slice A (refArcs p.ps os).length c) ∧ RRArcs w' (Old w') [.slice A (refArcs p.ps os).length c] (refArcs p.ps os) ∧ KeepsAll W w') := fun W hW hO =>
    (ArcsO_any p.ps os v.A Ao v.c co W (okS_arcs HV.out HOS.out) hW.P hO).mono fun e w' ⟨va, he, ho, _, hk⟩ => by
     obtain ⟨A, c, rfl, _, _⟩ := ho.form
     exact ⟨A, c, he, ho.readF RRArc.ok RRArc.flat (fun b hb => (ho.lt hb).2), hk⟩
   have HLO : Hid (∀ W A c, RPb W (Old W) v p → RRArcs W (Old W) [.slice A (refArcs p.ps os).length c] (refArcs p.ps os) → Calls Try.prog 25 #[.slice v.A p.ps.length v.c, .slice A (refArcs p.ps os).length c, .slice v.A2 p.at_.length v.c2] W fun e w' => ∃ v2, e = .returned (.tuple #[v2, .bool true]) ∧ RRefs w' (Old w') [v2] (lineR p.ps (refArcs p.ps os) p.at_).1 ∧ KeepsAll W w') := fun W A c hW hA => by
    have := LineOf_any p.ps (refArcs p.ps os) p.at_ v.A A v.A2 v.c c v.c2 W hW.P hA hW.A HV.out HPS.out HGD.out (dok_in HDK.out)
    have e : (lineR p.ps (refArcs p.ps os) p.at_).2 = true := HOKD.out
    rw [e] at this
    exact this
   clear HOS HOKD HDK
   generalize refArcs p.ps os = RA at *
   generalize (lineR p.ps RA p.at_).1 = L at *
   have q0 := HBX7.out.cell 0
   have q1 := HBX7.out.cell 1
   have s0 := HBS7.out.cell 0
   simp at q0 q1 s0
   go_upto_region 12 with (fail)
   refine wp_region_lexB (fun w' => ∃ y : Ext W7, w' = y.val) [0, 1, 2, 3, 4, 5, 7, 8, 6, 9, 10, 11, 12, 13, 14] (by kernel_rfl) (by kernel_rfl) ⟨⟨_, (Keeps.refl _ _).drew⟩, rfl⟩ ?_
   have y0 := Ext.cell q0
   have y1 := Ext.cell q1
   have y2 := Ext.cell s0
   iterate 8 (first | (refine lex_q _ rfl rfl rfl ?_; go_big_quiet_step (fail); refine wpQuiet_nil ?_) | (refine lex_nil _ rfl _ rfl rfl _ rfl ?_; go_simp))
   clear y0 y1 y2
   refine lex_a _ rfl rfl true (by kernel_rfl) ?_
   go_wp2_with fail
   have kd : KeepsAll W7 W7.drew := (Keeps.refl _ _).drew
   refine (HAR.out W7.drew (HR7.out.kept kd) (kd.rdo' ROrders.ok HRO7.out)).mono ?_
   rintro e w8 ⟨A8, c8, rfl, ha8, k8⟩
   have K8 := Lib.hid (kd.tr k8)
   have HLO8 := Lib.hid (HLO.out w8 A8 c8 (HR7.out.kept (kd.tr k8)) ha8)
   clear k8 kd ha8 HAR HLO
   go_wp2
   refine ⟨fun _ => ⟨⟨_, K8.out⟩, rfl⟩, ?_⟩
   refine lex_a _ rfl rfl true (by kernel_rfl) ?_
   go_wp2_with fail
   refine HLO8.out.mono ?_
   rintro e w9 ⟨v9, rfl, hl9, k9⟩
   obtain ⟨A9, c9, rfl⟩ := RSlice.form hl9
   have HL9 := Lib.hid hl9
   have K9 := Lib.hid (K8.out.tr k9)
   clear k9 hl9 HLO8
   go_wp2
   refine ⟨fun _ => ⟨⟨_, K9.out⟩, rfl⟩, ?_⟩
   iterate 5 (refine lex_q _ rfl rfl rfl ?_; go_big_quiet_step (fail); refine wpQuiet_nil ?_)
   simp only [wpLex]
   refine NoPanic.normal ?_
   have HR9 := Lib.hid (HR7.out.kept K9.out)
   have HBX9 := Lib.hid (HBX7.out.kept K9.out (by simp))
   have KW9 := Lib.hid (K7.out.tr K9.out)
   clear HR7 HBX7 K7 K8 K9 HBS7 HRO7 q0 q1 s0
   have hpl : p.ps.length ≤ 10 := (valid_lens HV.out).1
   have hal1 : p.at_.length ≤ 10 := by have := HAL.out; omega
   have hal2 : 1 ≤ p.at_.length := by have := HAL.out; have := HPS.out; omega
   have x1 := HBX9.out.cell 1
   simp at x1
   go_upto_region 15 with (fail)
   go_wp2_with (at_builtin; go_loud (refine wpList_append_M tyInt RInt.ok RInt.one rfl (.const (.slice none 0 0)) (.tmp 84) rfl (OwnL.nil (base := w9.heap.size) (lo := w9.heap.size)) rfl rfl (S := Old w9) (S2 := fun _ => False) HR9.out.A (fun _ _ h => h) (fun _ h => h.elim) (by simp; omega) (by simp; omega) (Nat.le_refl _) ?_; intro v10 w10 HO10 HK10 HA10; rw [List.nil_append] at HO10; have K10 : KeepsAll w9 w10 := HK10.mono (fun _ _ h => (by simp [Value.ownBlock] at h)); obtain ⟨A10, c10, hv10, hc10, hc110⟩ := HO10.form; subst hv10; have HO10' := Lib.hid HO10; have K10' := Lib.hid K10; clear HO10 HK10 HA10 K10))
   obtain ⟨b9, hA10, hb9⟩ := HO10'.out.some_ (by omega)
   subst hA10
   have HR10 := Lib.hid (HR9.out.kept K10'.out)
   have HBX10 := Lib.hid (HBX9.out.kept K10'.out (by simp))
   have hn : ∃ n, n = p.at_.length := ⟨_, rfl⟩
   obtain ⟨n, hn⟩ := hn
   have HNP : Hid (n = p.ps.length) := by rw [hn]; exact HAL.out
   rw [← hn] at HO10' hc10 hal1 hal2
   rw [← hn]
   clear hn x1
   have HLT9 := Lib.hid HBX9.out.lt
   have hLc := HL9.out.caps
   have K10w := Lib.hid (KW9.out.tr K10'.out)
   have HL10 := Lib.hid (K10'.out.rdo' RRefs.ok HL9.out)
   go_loopw [88] (fun i wr => ∃ (a : Nat) (cur : List Int), a ≤ L.length ∧ i = .int .i64 (a : Int) ∧ LnOk p.ps cur (L.drop a) ∧ cur.length = n ∧ OwnL 3 1 RInt wr w9.heap.size w9.heap.size (.slice (some ⟨b9, 0, none⟩) n c10) cur ∧ KeepsAll w9 wr) (fun i _ => L.length - (intOf i).toNat)
   case atStart => exact ⟨0, p.at_, Nat.zero_le _, rfl, by rw [List.drop_zero]; exact HLN.out, by have := HNP.out; have := HAL.out; omega, HO10'.out, K10'.out⟩
   case round =>
    obtain ⟨a, cur, ha, rfl, hln, hcl, ho, hkr⟩ := hrel
    have HO := Lib.hid ho
    have KR := Lib.hid hkr
    have HLN1 := Lib.hid hln
    clear ho hkr hln
    by_cases hla : a < L.length
    ·obtain ⟨u, hu⟩ : ∃ u, L[a]? = some u := ⟨_, List.getElem?_eq_getElem hla⟩
     have hdr : L.drop a = u :: L.drop (a + 1) := drop_cons' hu
     obtain ⟨hgd, hcs, t, hut, htl, hcm, hrest⟩ : Gd p.ps cur ∧ checkState p.ps cur = 0 ∧ ∃ t : Nat, u.tr = (t : Int) ∧ t < p.ps.length ∧ canMv p.ps cur t = true ∧ LnOk p.ps (stepN cur t) (L.drop (a + 1)) := by
      have := HLN1.out
      rw [hdr] at this
      exact this
     have HREST := Lib.hid hrest
     have HANY := Lib.hid (mv_any htl hcm)
     have hlt1 := canMv_lt hcm
     have hl64 := lenAt_le HV.out t
     have hge := hgd.2 t htl
     obtain ⟨bL, oL, u', hAL, hbL, hu', m0, m1⟩ := RRefs.atK (KR.out.trans (Keeps.refl _ _) (fun _ _ e => e)) HL9.out hla
     rw [hu] at hu'
     injection hu' with hu'
     subst hu' hAL
     rw [hut] at m0
     have HCS := Lib.hid hcs
     clear hrest hcs hgd HLN1 hdr hcm
     have htn : t < n := by rw [HNP.out]; exact htl
     go_upto_region 19 with (fail)
     generalize hW3 : World.alloc wr _ = W3
     have k3 : KeepsAll wr W3 := by subst hW3; exact (Keeps.refl _ _).alloc _
     have hbz : Blk W3 wr.heap.size 46 #[.int .i64 (t : Int), .int .i64 u.st] := by subst hW3; exact Blk.new _ _ _
     have K3 := Lib.hid (KR.out.tr k3)
     have HO3 := Lib.hid (HO.out.keeps RInt.ok k3 (fun _ _ h => h.elim))
     have HBZ3 := Lib.hid hbz
     have HBX3 := Lib.hid (HBX9.out.kept K3.out (by simp))
     have HR3 := Lib.hid (HR9.out.kept K3.out)
     clear hW3 k3 hbz m0 m1 HO KR hbL
     generalize wr.heap.size = zu at *
     have hI : RInts W3 (Old W3) [.slice (some ⟨b9, 0, none⟩) cur.length c10] cur := by rw [hcl]; exact HO3.out.readF RInt.ok RInt.flat (fun b hb => (HO3.out.lt hb).2)
     have HMO : Hid (Calls Try.prog 31 #[.slice v.A p.ps.length v.c, .slice (some ⟨b9, 0, none⟩) n c10] W3 fun e w' => ∃ A3 c3, e = .returned (.slice A3 (mvL p.ps cur p.ps.length).length c3) ∧ RInts w' (Fresh W3 w') [.slice A3 (mvL p.ps cur p.ps.length).length c3] (mvL p.ps cur p.ps.length) ∧ KeepsAll W3 w') := by
      have := RMoves_any p.ps cur v.A (some ⟨b9, 0, none⟩) v.c c10 W3 HR3.out.P hI HCS.out
      rw [hcl] at this
      exact this
     have hml := mvL_len p.ps cur p.ps.length
     clear hI HCS
     generalize mvL p.ps cur p.ps.length = ML at *
     have q0 := HBX3.out.cell 0
     simp at q0
     go_wp2_with fail
     refine HMO.out.mono ?_
     rintro e w4 ⟨A4, c4, rfl, hm4, k4⟩
     have HM4 : Hid (RInts w4 (Old w4) [.slice A4 ML.length c4] ML) := RInts.ok.mono hm4 (fun _ hb => hb.2) (fun _ _ => rfl)
     have K4 := Lib.hid (K3.out.tr k4)
     have HO4 := Lib.hid (HO3.out.keeps RInt.ok k4 (fun _ _ h => h.elim))
     have HBZ4 := Lib.hid (HBZ3.out.kept k4 (by simp))
     clear hm4 k4 HMO HO3 K3 HBZ3 HBX3 HR3 q0
     go_wp2_with fail
     go_loopw [21, 98] (fun b i wr => ∃ m : Nat, m ≤ ML.length ∧ i = .int .i64 (m : Int) ∧ b = .bool ((ML.take m).any fun x => decide (x = (t : Int))) ∧ KeepsAll w4 wr) (fun _ i _ => ML.length - (intOf i).toNat)
     case atStart => exact ⟨0, Nat.zero_le _, rfl, by simp, Keeps.refl _ _⟩
     case round =>
      obtain ⟨m, hm, rfl, rfl, hkr⟩ := hrel
      have KM := Lib.hid hkr
      clear hkr
      by_cases hlm : m < ML.length
      ·obtain ⟨bm, om, x, hAm, hbm, hx, mx⟩ := RInts.atK KM.out HM4.out hlm
       subst hAm
       have z0 := (HBZ4.out.kept KM.out (by simp)).cell 0
       simp at z0
       have HNX : Hid (((ML.take (m + 1)).any fun x => decide (x = (t : Int))) = (((ML.take m).any fun x => decide (x = (t : Int))) || decide (x = (t : Int)))) := by show _ = _; rw [List.take_add_one, hx, List.any_append]; simp
       clear hx
       cases hf : (ML.take m).any fun x => decide (x = (t : Int)) with
       | true =>
        have HN2 : Hid (((ML.take (m + 1)).any fun x => decide (x = (t : Int))) = true) := by show _ = _; rw [HNX.out, hf]; rfl
        clear hf HNX
        go_wp2_with fail
        go_roundw
        case rel => exact ⟨m + 1, by omega, by go_num, by rw [HN2.out], KM.out⟩
        case measure => simp [intOf]; omega
       | false =>
        by_cases hxt : x = (t : Int)
        ·have HN2 : Hid (((ML.take (m + 1)).any fun x => decide (x = (t : Int))) = true) := by show _ = _; rw [HNX.out, hf, decide_eq_true hxt]; rfl
         subst hxt
         clear hf HNX
         go_wp2_with fail
         go_roundw
         case rel => exact ⟨m + 1, by omega, by go_num, by rw [HN2.out], KM.out⟩
         case measure => simp [intOf]; omega
        ·have HN2 : Hid (((ML.take (m + 1)).any fun x => decide (x = (t : Int))) = false) := by show _ = _; rw [HNX.out, hf, decide_eq_false hxt]; rfl
         have hxt' : (x == (t : Int)) = false := by simpa using hxt
         clear hf HNX
         go_wp2_with fail
         go_roundw
         case rel => exact ⟨m + 1, by omega, by go_num, by rw [HN2.out], KM.out⟩
         case measure => simp [intOf]; omega
      ·obtain rfl : m = ML.length := by omega
       rw [List.take_length, HANY.out]
       have KF := Lib.hid (K4.out.tr KM.out)
       have HO5 := Lib.hid (HO4.out.keeps RInt.ok KM.out (fun _ _ h => h.elim))
       have z0 := (HBZ4.out.kept KM.out (by simp)).cell 0
       simp at z0
       have o7 : RInts wr (Old wr) [.slice (some ⟨b9, 0, none⟩) cur.length c10] cur := by rw [hcl]; exact HO5.out.readF RInt.ok RInt.flat (fun b hb => (HO5.out.lt hb).2)
       obtain ⟨b', o', x', hA', _, hx', ox⟩ := RInts.at_ o7 (by rw [hcl]; exact htn)
       injection hA' with hA'
       injection hA' with e1 e2 _
       subst e1 e2
       rw [Nat.zero_add] at ox
       have of_ := HO5.out.frz t
       have hzb := (HO5.out.lt rfl).2
       have hnx : nowAt cur t = x' := nowAt_of hx'
       rw [hnx] at hlt1 hge
       have hwx : IntKind.i64.wrap (x' + 1) = x' + 1 := IntWalk.i64_in _ (by omega)
       have HST : Hid (stepN cur t = cur.set t (x' + 1)) := by show _ = _; unfold stepN; rw [hnx]
       clear o7 hx' hnx HANY
       go_wp2_with fail
       go_roundw
       case rel =>
        refine ⟨a + 1, stepN cur t, by omega, by go_num, HREST.out, by rw [HST.out, List.length_set]; exact hcl, ?_, ?_⟩
        ·rw [HST.out]
         first | exact HO5.out.setI t (x' + 1) | exact (HO5.out.setI t (x' + 1)).drew RInt.ok
        ·have hkk : Keeps (fun b => b = b9) wr (World.setCell wr ⟨b9, t, none⟩ (.int .i64 (x' + 1))) := (Keeps.refl (fun b => b = b9) wr).setCell (p := ⟨b9, t, none⟩) (fun _ => rfl) _
         exact KF.out.trans hkk (fun b hb e => by have e : b = b9 := e; omega)
       case measure => simp [intOf]; omega
    ·obtain rfl : a = L.length := by omega
     have hfin : Gd p.ps cur ∧ leftB p.ps cur = true := by
      have := HLN1.out
      rw [List.drop_length] at this
      exact this
     have HFIN := Lib.hid hfin
     clear HLN1 hfin
     go_wp2_with fail
     refine (awake37_any _).mono ?_
     rintro e w5 ⟨rfl, k5⟩
     have K5 := Lib.hid (KR.out.tr k5)
     have HO5 := Lib.hid (HO.out.keeps RInt.ok k5 (fun _ _ h => h.elim))
     have q0 := (HBX9.out.kept K5.out (by simp)).cell 0
     simp at q0
     have hI : RInts w5 (Old w5) [.slice (some ⟨b9, 0, none⟩) cur.length c10] cur := by rw [hcl]; exact HO5.out.readF RInt.ok RInt.flat (fun b hb => (HO5.out.lt hb).2)
     have HLE : Hid (Calls Try.prog 32 #[.slice v.A p.ps.length v.c, .slice (some ⟨b9, 0, none⟩) n c10] w5 fun e w' => e = .returned (.bool true) ∧ ∃ n, w' = w5.drewN n) := by
      have := Left_any p.ps cur v.A (some ⟨b9, 0, none⟩) v.c c10 w5 (HR9.out.kept K5.out).P hI HFIN.out.1.1
      rw [hcl, HFIN.out.2] at this
      exact this
     clear k5 hI HO HFIN
     go_wp2_with fail
     refine HLE.out.mono ?_
     rintro e w6 ⟨rfl, dn, rfl⟩
     have K6 : Hid (KeepsAll w (w5.drewN dn)) := (KW9.out.tr K5.out).drewN dn
     go_wp2
     go_ret
     exact ⟨rfl, K6.out⟩

open Go.ChangeShapes Go.WideShapes Go.ChangeAt Go.RowKit

theorem rowOwn : ownKnob Try.prog.godebug = none := by kernel_rfl
theorem rowLaid : laidOutB Try.prog = true := by kernel_rfl

theorem cell_lt {w : World} {p : Addr} {v : Value} (h : w.cell? p = some v) : p.block < w.heap.size := by
 rcases Nat.lt_or_ge p.block w.heap.size with h1 | h1
 ·exact h1
 ·have : w.heap[p.block]? = none := Array.getElem?_eq_none h1
  simp [World.cell?, this] at h

theorem ints_of_row {W : World} {a : Option Addr} {len cap : Nat} {zs : List Int}
  (h : (a = none ∧ len = 0 ∧ cap = 0 ∧ zs = []) ∨ ∃ x, a = some x ∧ len ≤ cap ∧ cap ≤ maxLen ∧ zs.length = cap ∧ (∀ i, i < zs.length → W.cell? (x.add i) = some (.int .i64 (zs.getD i 0)))) :
  ∃ l : List Int, len = l.length ∧ RInts W (Old W) [.slice a l.length cap] l := by
 rcases h with ⟨rfl, rfl, rfl, rfl⟩ | ⟨x, rfl, hl, hm, hz, hc⟩
 ·exact ⟨[], rfl, RSlice.mkNil⟩
 ·have hlen : (zs.take len).length = len := by simp; omega
  refine ⟨zs.take len, hlen.symm, some x, cap, rfl, by omega, by simpa [maxLen] using hm, fun hne => ?_⟩
  have hpos : 0 < len := by
   rcases Nat.eq_zero_or_pos len with h0 | h0
   ·subst h0; simp at hne
   ·exact h0
  have h0 := hc 0 (by omega)
  obtain ⟨b, o, spot⟩ := x
  have hspot : spot = none := by simpa [Addr.add] using World.cell?_spot h0
  subst hspot
  refine ⟨b, o, rfl, by have := cell_lt h0; show b < _; simpa [Addr.add] using this, fun j y hy => ?_⟩
  have hj := (List.getElem?_eq_some_iff.1 hy).1
  have hj2 : j < len := by omega
  refine ⟨[.int .i64 y], rfl, rfl, fun i u hu => ?_⟩
  have hi : i = 0 := by
   rcases i with _ | i
   ·rfl
   ·simp at hu
  subst hi
  simp at hu; subst hu
  have := hc j (by omega)
  rw [List.getElem?_take_of_lt hj2] at hy
  rw [List.getD_eq_getElem?_getD, hy] at this
  rcases j with _ | j
  ·simpa [Addr.add] using this
  ·simpa [Addr.add] using this

theorem trod_ints {H : Type} {enc : TypeId × Value → H} {W : World} {a : Option Addr} {len cap : Nat} {d : DataW H} {p : List MemPlace} (h : DataW.Trod enc Try.prog W 0 (fun _ => true) true 22 (.slice a len cap) d p) :
  ∃ l : List Int, len = l.length ∧ RInts W (Old W) [.slice a l.length cap] l := by
 obtain ⟨fuel, hf⟩ := h
 rcases open_ints Try.underlying22 Try.underlying3 (by kernel_rfl) hf with ⟨hcs, _⟩ | ⟨x, l, c, zs, hcs, _, hl, hm, hz, _, hcell, hwz⟩
 ·simp [Value.cells] at hcs
  obtain ⟨rfl, rfl, rfl⟩ := hcs
  exact ints_of_row (zs := []) (.inl ⟨rfl, rfl, rfl, rfl⟩)
 ·simp [Value.cells] at hcs
  obtain ⟨rfl, rfl, rfl⟩ := hcs
  exact ints_of_row (zs := zs) (.inr ⟨_, rfl, hl, hm, by simpa using hz, hcell⟩)

end Go.Proofs.Ytilbbpbjhoidhaa
