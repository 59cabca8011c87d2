/- The search of chapter 36 in memory. Conditions: as each theorem says. -/
import Derived.Test.YtbfgmbakeofcbaaGreatK40
import Derived.Test.YtbfgmbakeofcbaaGreatK32
namespace Go.Proofs.YtbfgmbakeofcbaaGreat
open Go.RowKit

theorem PMap.lenRun {w : World} {r n : Nat} {ks : List (List Int)} (h : PMap w r n ks) (ty : TypeId) : (Builtin.len_ #[99] ty #[.map (some r)]).run Tryz.prog w = .ok (.int .i64 (ks.length : Int)) w := by
  obtain ⟨es, clock, h1, h2⟩ := h.len
  have hg : (getObj r).run Tryz.prog w = .ok (.map es clock) w := by simp [getObj, Sem.run, h1]
  simp [Builtin.len_, run_underlying Tryz.underlying99, hg, h2, goInt]

/-- the search lies in block sb, its state in block g, its map in block mr -/
structure Sr (w0 w : World) (sb g mr : Nat) (A : Option Addr) (c : Nat) (ps : List (List Stage)) (budget : Nat) (now : List Int) (hd : Nat → Int) (seen : List (List Int)) (vmv : Value) (mv : List Int) : Prop where
  d : DSt w0 w g A c ps now hd
  hh : HdOk ps now hd
  gd : Gd ps now
  b : Blk w sb 101 #[.pointer (some ⟨g, 0, none⟩), .map (some mr), .int .i64 (budget : Int), vmv]
  m : PMap w mr ps.length seen
  mv : OwnL 3 1 RInt w (sb + 1) (sb + 1) vmv mv
  gs : g < sb
  ms : mr < sb
  lm : w0.heap.size ≤ mr
  ne : g ≠ mr
section
variable {w0 w w' : World} {sb g mr : Nat} {A : Option Addr} {c : Nat} {ps : List (List Stage)} {budget : Nat} {now now' : List Int} {hd hd' : Nat → Int} {seen seen' : List (List Int)} {vmv vmv' : Value} {mv mv' : List Int}
theorem Sr.keep (h : Sr w0 w sb g mr A c ps budget now hd seen vmv mv) (k : KeepsAll w w') : Sr w0 w' sb g mr A c ps budget now hd seen vmv mv :=
  ⟨h.d.keep k, h.hh, h.gd, h.b.kept k (by simp), h.m.kept k (by simp), h.mv.keeps RInt.ok k (fun _ _ h => h.elim), h.gs, h.ms, h.lm, h.ne⟩
theorem Sr.lo (h : Sr w0 w sb g mr A c ps budget now hd seen vmv mv) : w0.heap.size ≤ sb := Nat.le_trans h.lm (Nat.le_of_lt h.ms)
theorem Sr.setD (h : Sr w0 w sb g mr A c ps budget now hd seen vmv mv) (k : Keeps (· = g) w w') (hd1 : DSt w0 w' g A c ps now' hd') (hh : HdOk ps now' hd') (hg : Gd ps now') : Sr w0 w' sb g mr A c ps budget now' hd' seen vmv mv :=
  ⟨hd1, hh, hg, h.b.kept k (fun e => by have := h.gs; omega), h.m.kept k (fun e => h.ne e.symm), h.mv.keeps RInt.ok k (fun b _ e => by have := h.gs; omega), h.gs, h.ms, h.lm, h.ne⟩
theorem Sr.setM (h : Sr w0 w sb g mr A c ps budget now hd seen vmv mv) (k : Keeps (· = mr) w w') (hm : PMap w' mr ps.length seen') : Sr w0 w' sb g mr A c ps budget now hd seen' vmv mv :=
  ⟨h.d.keepC k h.ne (fun b e => by have := h.lm; omega), h.hh, h.gd, h.b.kept k (fun e => by have := h.ms; omega), hm, h.mv.keeps RInt.ok k (fun b _ e => by have := h.ms; omega), h.gs, h.ms, h.lm, h.ne⟩
/-- new moves are laid into the struct -/
theorem Sr.setMv (h : Sr w0 w sb g mr A c ps budget now hd seen vmv mv) (k : Keeps (fun b => sb < b) w w') (hm : OwnL 3 1 RInt w' (sb + 1) (sb + 1) vmv' mv') : Sr w0 (w'.setCell ⟨sb, 3, none⟩ vmv') sb g mr A c ps budget now hd seen vmv' mv' := by
  have k2 : Keeps (fun b => sb ≤ b) w (w'.setCell ⟨sb, 3, none⟩ vmv') := (k.mono (fun b _ h => Nat.le_of_lt h)).setCell (p := ⟨sb, 3, none⟩) (fun _ => Nat.le_refl _) _
  have hlo := h.lo
  refine ⟨h.d.keepC k2 (fun e => by have := h.gs; omega) (fun b hb => by omega), h.hh, h.gd, ?_, h.m.kept k2 (fun e => by have := h.ms; omega), hm.keeps RInt.ok ((Keeps.refl (· = sb) w').setCell (p := ⟨sb, 3, none⟩) (fun _ => rfl) _) (fun b _ e => by omega), h.gs, h.ms, h.lm, h.ne⟩
  have hb := (h.b.kept k (fun e => by omega)).set_ 3 vmv'
  simpa using hb
end
theorem Gd.fits {ps : List (List Stage)} {now : List Int} (hv : valid ps = true) (h : Gd ps now) : Fits now := by
  have hl := (valid_lens hv).1
  refine ⟨by rw [h.1]; exact hl, fun t => ?_⟩
  by_cases ht : t < ps.length
  · have := h.2 t ht
    have := lenAt_le hv t
    omega
  · unfold nowAt
    rw [List.getElem?_eq_none (by rw [h.1]; omega)]
    simp

theorem secNow_res {ps : List (List Stage)} (hv : valid ps = true) {now : List Int} {t : Nat} (ht : t < ps.length) (h0 : 0 ≤ secNow ps now t) : ∃ r : Nat, r < 144 ∧ secNow ps now t = (r : Int) := by
  have hp : ps[t]? = some ps[t] := List.getElem?_eq_getElem ht
  unfold secNow at h0 ⊢
  rw [hp] at h0 ⊢
  simp only [Option.getD_some] at h0 ⊢
  obtain ⟨k, s, _, hs, e⟩ := secAt_some h0
  obtain ⟨n, hn, h144⟩ := isRes_nat (stageOk_sec (valid_stage hv (List.mem_of_getElem? hp) (List.mem_of_getElem? hs)))
  exact ⟨n, h144, by rw [e, hn]⟩
/-- back to where the train came from -/
theorem HdOk.back {ps : List (List Stage)} {now : List Int} {hd : Nat → Int} {t : Nat} {x : Int} (hv : valid ps = true) (h : HdOk ps now hd) (ht : t < ps.length) (hl : now.length = ps.length) : ∀ u, u < ps.length → u ≠ t → 0 ≤ secNow ps ((now.set t x).set t (nowAt now t)) t → secNow ps (now.set t x) u ≠ secNow ps ((now.set t x).set t (nowAt now t)) t := by
  intro u hu hut h0
  have e : secNow ps ((now.set t x).set t (nowAt now t)) t = secNow ps now t := by
    rw [secNow_set (by simp; omega), if_pos rfl]; rfl
  rw [e] at h0 ⊢
  rw [secNow_set (by omega), if_neg (fun e => hut e.symm)]
  intro he
  obtain ⟨r, hr, hs⟩ := secNow_res hv ht h0
  have h1 := (h r hr).1 t ht hs
  have h2 := (h r hr).1 u hu (by rw [he, hs])
  omega
theorem set_back {now : List Int} {t : Nat} (x : Int) (ht : t < now.length) : (now.set t x).set t (nowAt now t) = now := by
  rw [List.set_set]
  have : nowAt now t = now[t] := nowAt_of (List.getElem?_eq_getElem ht)
  rw [this, List.set_getElem_self]
def leftTo (ps : List (List Stage)) (now : List Int) (k : Nat) : Bool := (List.range k).all fun t => !decide (nowAt now t < lenAt ps t)
theorem leftTo_succ (ps : List (List Stage)) (now : List Int) (k : Nat) : leftTo ps now (k + 1) = (leftTo ps now k && !decide (nowAt now k < lenAt ps k)) := by unfold leftTo; rw [List.range_succ, List.all_append]; simp
theorem OwnL.addr {t size : Nat} {α : Type} {E : Rd α} {w : World} {base lo : Nat} {A : Option Addr} {n c : Nat} {l : List α} (h : OwnL t size E w base lo (.slice A n c) l) (hl : 0 < l.length) : ∃ g, A = some ⟨g, 0, none⟩ := by
  obtain ⟨g, e, _⟩ := h.some_ hl; exact ⟨g, e⟩

theorem tryT_mv {ps : List (List Stage)} {rc : List Int → List (List Int) → List Int → SOut} {now : List Int} : ∀ (ts : List Nat) (seen : List (List Int)) (mv : List Int), (tryT ps rc now ts seen mv).1 = 19 → (tryT ps rc now ts seen mv).2.2 = mv
  | [], _, _, _ => rfl
  | t :: ts, seen, mv, h => by
    simp only [tryT] at h ⊢
    by_cases g : (canMv ps now t && !decide (stepN now t ∈ seen)) = true
    · rw [if_pos g] at h ⊢
      by_cases g2 : (rc (stepN now t) seen (mv ++ [(t : Int)])).1 = 19
      · rw [if_pos g2] at h ⊢; exact tryT_mv ts _ _ h
      · rw [if_neg g2] at h; exact absurd h g2
    · rw [if_neg g] at h ⊢; exact tryT_mv ts _ _ h
theorem exam_mv {ps : List (List Stage)} {budget : Nat} (f : Nat) (now : List Int) (seen : List (List Int)) (mv : List Int) (h : (exam ps budget f now seen mv).1 = 19) : (exam ps budget f now seen mv).2.2 = mv := by
  cases f with
  | zero => rfl
  | succ f =>
    simp only [exam] at h ⊢
    by_cases g1 : seen.length = budget
    · rw [if_pos g1] at h; simp at h
    · rw [if_neg g1] at h ⊢
      by_cases g2 : leftB ps now = true
      · rw [if_pos g2] at h; simp at h
      · rw [if_neg g2] at h ⊢; exact tryT_mv _ _ _ h

set_option maxRecDepth 100000 in
set_option maxHeartbeats 4000000 in
theorem examine_any (w0 : World) (sb g mr : Nat) (A : Option Addr) (c : Nat) (ps : List (List Stage)) (budget : Nat) (hP : RPaths w0 (Old w0) [.slice A ps.length c] ps) (hv : valid ps = true) (_hbud : budget ≤ 1048576) :
    ∀ (f : Nat) (w : World) (now : List Int) (hd : Nat → Int) (seen : List (List Int)) (vmv : Value) (mv : List Int), total ps now < f → Sr w0 w sb g mr A c ps budget now hd seen vmv mv → now ∉ seen → mv.length + total ps now ≤ 1000 → seen.length ≤ budget →
    Calls Tryz.prog 59 #[.pointer (some ⟨sb, 0, none⟩)] w fun e w' => ∃ now' hd' vmv', e = .returned (.int .i64 (exam ps budget f now seen mv).1) ∧ Sr w0 w' sb g mr A c ps budget now' hd' (exam ps budget f now seen mv).2.1 vmv' (exam ps budget f now seen mv).2.2 ∧ ((exam ps budget f now seen mv).1 = 19 → now' = now) := by
  intro f
  induction f with
  | zero => intro w now hd seen vmv mv h; omega
  | succ f ih =>
    intro w now hd seen vmv mv hf hs hn hml hsl
    have hc := hP.caps
    have hl10 := (valid_lens hv).1
    have IH := Lib.hid ih
    clear ih
    have HS := Lib.hid hs
    have HN := Lib.hid hn
    have HP := Lib.hid hP
    have HV := Lib.hid hv
    have HF : Hid (total ps now ≤ f) := by show _ ≤ _; omega
    have HML := Lib.hid hml
    have HSL := Lib.hid hsl
    have b0 := hs.b.cell 0
    have b1 := hs.b.cell 1
    have b2 := hs.b.cell 2
    simp at b0 b1 b2
    have hsz := hs.b.lt
    have XLEN : ∀ (x : Ext w) (ty : TypeId), (Builtin.len_ #[99] ty #[.map (some mr)]).run Tryz.prog x.val = .ok (.int .i64 (seen.length : Int)) x.val := fun x ty => PMap.lenRun (HS.out.m.kept x.keeps (by simp)) ty
    clear hs hn hP hv hf hml
    by_cases g1 : seen.length = budget
    · have g1' : ((seen.length : Int) == (budget : Int)) = true := by simp; omega
      have Q : Hid (exam ps budget (f + 1) now seen mv = (15, seen, mv)) := by show _ = _; simp only [exam]; rw [if_pos g1]
      clear g1 IH
      go_enter Tryz.func59, Tryz.ntmps59
      go_wp2
      refine wp_region_lex (fun w' => ∃ x : Ext w, w' = x.val) [0, 1, 2, 3, 4, 5, 6, 7, 8, 9] (by kernel_rfl) (by kernel_rfl) ⟨⟨_, (Keeps.refl _ _).drew⟩, rfl⟩ ?_
      have x1 := Ext.cell b1
      have x2 := Ext.cell b2
      refine lex_q _ rfl rfl rfl ?_; go_big_quiet_step (fail); refine wpQuiet_nil ?_
      refine lex_nil _ rfl _ rfl rfl _ rfl ?_; go_simp
      iterate 4 (refine lex_q _ rfl rfl rfl ?_; go_big_quiet_step (fail); refine wpQuiet_nil ?_)
      refine lex_nil _ rfl _ rfl rfl _ rfl ?_; go_simp
      iterate 3 (refine lex_q _ rfl rfl rfl ?_; go_big_quiet_step (fail); refine wpQuiet_nil ?_)
      simp only [wpLex]
      refine NoPanic.normal ?_
      go_wp2
      go_ret
      rw [Q.out]
      exact ⟨now, hd, vmv, rfl, HS.out.keep (Keeps.refl _ _).drew, fun h => by simp at h⟩
    · have g1' : ((seen.length : Int) == (budget : Int)) = false := by simp; omega
      have hsl2 : seen.length + 1 ≤ budget := by omega
      have HR : Hid (exam ps budget (f + 1) now seen mv = if leftB ps now = true then (0, seen ++ [now], mv) else tryT ps (exam ps budget f) now (List.range ps.length) (seen ++ [now]) mv) := by show _ = _; simp only [exam]; rw [if_neg g1]
      clear g1
      generalize exam ps budget (f + 1) now seen mv = R at *
      go_enter Tryz.func59, Tryz.ntmps59
      go_wp2
      refine wp_region_lex (fun w' => ∃ x : Ext w, w' = x.val) [0, 1, 2, 3, 4, 5, 6, 7, 8, 9] (by kernel_rfl) (by kernel_rfl) ⟨⟨_, (Keeps.refl _ _).drew⟩, rfl⟩ ?_
      have x1 := Ext.cell b1
      have x2 := Ext.cell b2
      refine lex_q _ rfl rfl rfl ?_; go_big_quiet_step (fail); refine wpQuiet_nil ?_
      refine lex_nil _ rfl _ rfl rfl _ rfl ?_; go_simp
      iterate 4 (refine lex_q _ rfl rfl rfl ?_; go_big_quiet_step (fail); refine wpQuiet_nil ?_)
      refine lex_nil _ rfl _ rfl rfl _ rfl ?_; go_simp
      iterate 3 (refine lex_q _ rfl rfl rfl ?_; go_big_quiet_step (fail); refine wpQuiet_nil ?_)
      simp only [wpLex]
      refine NoPanic.normal ?_
      clear x1 x2 XLEN b0 b1 b2 hsz
      go_wp2
      generalize hWA : World.drew w = wA
      have HA : Hid (Sr w0 wA sb g mr A c ps budget now hd seen vmv mv) := by subst hWA; exact HS.out.keep (Keeps.refl _ _).drew
      clear hWA HS g1'
      have b0 := HA.out.b.cell 0
      have b1 := HA.out.b.cell 1
      simp at b0 b1
      have hsz := HA.out.b.lt
      have hgz := HA.out.d.lt
      have p0 : wA.cell? ⟨g, 1, none⟩ = some (.int .i8 (nowAt now 0)) := HA.out.d.cat (t := 0) (by omega)
      have p1 : wA.cell? ⟨g, 2, none⟩ = some (.int .i8 (nowAt now 1)) := HA.out.d.cat (t := 1) (by omega)
      have p2 : wA.cell? ⟨g, 3, none⟩ = some (.int .i8 (nowAt now 2)) := HA.out.d.cat (t := 2) (by omega)
      have p3 : wA.cell? ⟨g, 4, none⟩ = some (.int .i8 (nowAt now 3)) := HA.out.d.cat (t := 3) (by omega)
      have p4 : wA.cell? ⟨g, 5, none⟩ = some (.int .i8 (nowAt now 4)) := HA.out.d.cat (t := 4) (by omega)
      have p5 : wA.cell? ⟨g, 6, none⟩ = some (.int .i8 (nowAt now 5)) := HA.out.d.cat (t := 5) (by omega)
      have p6 : wA.cell? ⟨g, 7, none⟩ = some (.int .i8 (nowAt now 6)) := HA.out.d.cat (t := 6) (by omega)
      have p7 : wA.cell? ⟨g, 8, none⟩ = some (.int .i8 (nowAt now 7)) := HA.out.d.cat (t := 7) (by omega)
      have p8 : wA.cell? ⟨g, 9, none⟩ = some (.int .i8 (nowAt now 8)) := HA.out.d.cat (t := 8) (by omega)
      have p9 : wA.cell? ⟨g, 10, none⟩ = some (.int .i8 (nowAt now 9)) := HA.out.d.cat (t := 9) (by omega)
      refine wp_region_lex (fun w' => ∃ x : Ext wA, w' = x.val) [0, 1, 2, 3, 4, 5, 6, 7, 8, 9, 10, 11] (by kernel_rfl) (by kernel_rfl) ⟨⟨_, (Keeps.refl _ _).drew⟩, rfl⟩ ?_
      have x0 := Ext.cell b0
      have x1 := Ext.cell b1
      have y0 := Ext.cell p0
      have y1 := Ext.cell p1
      have y2 := Ext.cell p2
      have y3 := Ext.cell p3
      have y4 := Ext.cell p4
      have y5 := Ext.cell p5
      have y6 := Ext.cell p6
      have y7 := Ext.cell p7
      have y8 := Ext.cell p8
      have y9 := Ext.cell p9
      refine lex_q _ rfl rfl rfl ?_; go_big_quiet_step (fail); refine wpQuiet_nil ?_
      refine lex_nil _ rfl _ rfl rfl _ rfl ?_; go_simp
      iterate 3 (refine lex_q _ rfl rfl rfl ?_; go_big_quiet_step (fail); refine wpQuiet_nil ?_)
      refine lex_nil _ rfl _ rfl rfl _ rfl ?_; go_simp
      iterate 2 (refine lex_q _ rfl rfl rfl ?_; go_big_quiet_step (fail); refine wpQuiet_nil ?_)
      refine lex_nil _ rfl _ rfl rfl _ rfl ?_; go_simp
      iterate 2 (refine lex_q _ rfl rfl rfl ?_; go_big_quiet_step (fail); refine wpQuiet_nil ?_)
      refine lex_a _ rfl rfl false (by kernel_rfl) ?_
      clear x0 x1 y0 y1 y2 y3 y4 y5 y6 y7 y8 y9 p0 p1 p2 p3 p4 p5 p6 p7 p8 p9 b0 b1
      obtain ⟨wd, hwd⟩ : ∃ wd : World, wd = wA.drew := ⟨_, rfl⟩
      have HD : Hid (Sr w0 wd sb g mr A c ps budget now hd seen vmv mv) := by subst hwd; exact HA.out.keep (Keeps.refl _ _).drew
      rw [← hwd]
      obtain ⟨wm, hrun, hm, km, hzm⟩ := HD.out.m.update (HD.out.gd.fits HV.out) HD.out.gd.1 HN.out
      have HB := Lib.hid (HD.out.setM km hm)
      have hrun2 : (Instr.mapUpdate 99 (.map (some mr)) (.agg #[.int .i8 (nowAt now 0), .int .i8 (nowAt now 1), .int .i8 (nowAt now 2), .int .i8 (nowAt now 3), .int .i8 (nowAt now 4), .int .i8 (nowAt now 5), .int .i8 (nowAt now 6), .int .i8 (nowAt now 7), .int .i8 (nowAt now 8), .int .i8 (nowAt now 9)]) (.bool true)).run Tryz.prog wd = .ok () wm := hrun
      clear hwd hrun hm km hzm HA HD
      go_wp2
      (try refine ⟨fun h => (by cases h), ?_⟩)
      simp only [wpLex]
      refine NoPanic.normal ?_
      clear hrun2
      have HPC : Hid (∀ W, Sr w0 W sb g mr A c ps budget now hd (seen ++ [now]) vmv mv → W.cell? ⟨sb, 0, none⟩ = some (.pointer (some ⟨g, 0, none⟩)) ∧ W.cell? ⟨g, 0, none⟩ = some (.slice A ps.length c) ∧ sb < W.heap.size ∧ g < W.heap.size) := fun W hW => by
        have b0 := hW.b.cell 0
        simp at b0
        exact ⟨b0, hW.d.c0, hW.b.lt, hW.d.lt⟩
      obtain ⟨b0, c0, hsz2, hgz2⟩ := HPC.out wm HB.out
      clear hsz hgz
      go_wp2
      clear b0 c0 hsz2 hgz2
      go_loopw [3, 37] (fun v3 v wr => ∃ k : Nat, k ≤ ps.length ∧ v = .int .i64 (k : Int) ∧ v3 = .bool (leftTo ps now k) ∧ KeepsAll wm wr) (fun _ v _ => ps.length - (intOf v).toNat)
      case atStart => exact ⟨0, Nat.zero_le _, rfl, rfl, Keeps.refl _ _⟩
      case round =>
        obtain ⟨k, hk, rfl, rfl, hkr⟩ := hrel
        have KR := Lib.hid hkr
        have HR1 := Lib.hid (HB.out.keep hkr)
        obtain ⟨b0, c0, hsz2, hgz2⟩ := HPC.out wr HR1.out
        clear hkr
        by_cases hlt : k < ps.length
        · have hdk : decide ((k : Int) < (ps.length : Int)) = true := by simp; omega
          have HL := Lib.hid (hasLeft_any w0 wr g A c ps now hd k HP.out HV.out HR1.out.gd hlt HR1.out.d)
          have HSC := Lib.hid (leftTo_succ ps now k)
          cases g2 : leftTo ps now k with
          | true =>
            rw [g2] at HSC
            go_wp2_with fail
            refine HL.out.mono ?_
            rintro e w3 ⟨rfl, k3⟩
            have K3 := Lib.hid (KR.out.tr k3)
            clear k3 HL
            generalize (!decide (nowAt now k < lenAt ps k)) = bb at *
            go_wp2
            go_roundw
            case rel => exact ⟨k + 1, by omega, by go_num, by rw [HSC.out]; simp, K3.out⟩
            case measure => simp [intOf]; omega
          | false =>
            rw [g2] at HSC
            clear HL
            go_wp2
            go_roundw
            case rel => exact ⟨k + 1, by omega, by go_num, by rw [HSC.out]; simp, KR.out⟩
            case measure => simp [intOf]; omega
        · obtain rfl : k = ps.length := by omega
          have hdk : decide ((ps.length : Int) < (ps.length : Int)) = false := by simp
          have HLB : Hid (leftTo ps now ps.length = leftB ps now) := rfl
          rw [HLB.out]
          clear HLB
          cases g2 : leftB ps now with
          | true =>
            have HQ : Hid (R = (0, seen ++ [now], mv)) := by show _ = _; rw [HR.out, if_pos g2]
            clear HR
            go_wp2
            go_ret
            rw [HQ.out]
            exact ⟨now, hd, vmv, rfl, HR1.out, fun h => by simp at h⟩
          | false =>
            have HRR : Hid (tryT ps (exam ps budget f) now ((List.range ps.length).drop 0) (seen ++ [now]) mv = R) := by show _ = _; rw [HR.out, if_neg (by rw [g2]; simp), List.drop_zero]
            clear HR HPC KR HB hk hlt
            have HSL1 : Hid ((seen ++ [now]).length ≤ budget) := by show _ ≤ _; simp; omega
            generalize seen ++ [now] = seen1 at *
            generalize wr = wL at *
            go_wp2
            clear b0 c0 hsz2 hgz2
            go_loopw [59] (fun v wr => ∃ (k : Nat) (hd : Nat → Int) (seen : List (List Int)) (vmv : Value), k ≤ ps.length ∧ v = .int .i64 (k : Int) ∧ Sr w0 wr sb g mr A c ps budget now hd seen vmv mv ∧ seen.length ≤ budget ∧ tryT ps (exam ps budget f) now ((List.range ps.length).drop k) seen mv = R) (fun v _ => ps.length - (intOf v).toNat)
            case atStart => exact ⟨0, hd, seen1, vmv, Nat.zero_le _, rfl, HR1.out, HSL1.out, HRR.out⟩
            case round =>
              clear HR1 HSL1 HRR
              obtain ⟨k, hd, seen, vmv, hk, rfl, hsr, hsl, htr⟩ := hrel
              have HS := Lib.hid hsr
              have HSL := Lib.hid hsl
              have HTR := Lib.hid htr
              clear hsl htr
              have b0 := hsr.b.cell 0
              simp at b0
              have hsz := hsr.b.lt
              by_cases hlt : k < ps.length
              · have hdk : decide ((k : Int) < (ps.length : Int)) = true := by simp; omega
                have HDR : Hid ((List.range ps.length).drop k = k :: (List.range ps.length).drop (k + 1)) := by
                  show _ = _
                  rw [List.drop_eq_getElem_cons (by simp; exact hlt)]; simp
                rw [HDR.out] at HTR
                have HCM := Lib.hid (canMove_any w0 wr g A c ps now hd k HP.out HV.out hsr.gd hlt hsr.d hsr.hh)
                clear hsr
                go_wp2_with fail
                refine HCM.out.mono ?_
                rintro e w3 ⟨rfl, k3⟩
                have H3 := Lib.hid (HS.out.keep k3)
                clear k3 HCM HS b0 hsz
                cases g3 : canMv ps now k with
                | false =>
                  have HTN : Hid (tryT ps (exam ps budget f) now ((List.range ps.length).drop (k + 1)) seen mv = R) := by
                    have h := HTR.out
                    simp only [tryT] at h
                    rw [g3] at h
                    show _ = _
                    simpa using h
                  go_wp2
                  go_roundw
                  case rel => exact ⟨k + 1, hd, seen, vmv, by omega, by go_num, H3.out, HSL.out, HTN.out⟩
                  case measure => simp [intOf]; omega
                | true =>
                  have htl : k < now.length := by rw [H3.out.gd.1]; exact hlt
                  have hkl := canMv_lt g3
                  have hG := H3.out.gd.2 k hlt
                  have h64 := lenAt_le HV.out k
                  have HG2 := Lib.hid (H3.out.gd.step hlt hkl)
                  have HTOT := Lib.hid (total_step H3.out.gd hlt hkl)
                  have HH2 := Lib.hid (H3.out.hh.set hlt H3.out.gd.1 (canMv_free hlt H3.out.gd g3))
                  have HBK : Hid (∀ u, u < ps.length → u ≠ k → 0 ≤ secNow ps ((now.set k (nowAt now k + 1)).set k (nowAt now k)) k → secNow ps (now.set k (nowAt now k + 1)) u ≠ secNow ps ((now.set k (nowAt now k + 1)).set k (nowAt now k)) k) := HdOk.back HV.out H3.out.hh hlt H3.out.gd.1
                  have HSB := Lib.hid (set_back (now := now) (t := k) (nowAt now k + 1) htl)
                  have HG1 := Lib.hid H3.out.gd
                  have HCM := Lib.hid g3
                  have HST := Lib.hid (set_any w0 w3 g A c ps now hd k (nowAt now k + 1) HP.out HV.out H3.out.gd HG2.out hlt H3.out.d)
                  have HTRY : Hid (tryT ps (exam ps budget f) now (k :: (List.range ps.length).drop (k + 1)) seen mv = if (now.set k (nowAt now k + 1)) ∈ seen then tryT ps (exam ps budget f) now ((List.range ps.length).drop (k + 1)) seen mv else if (exam ps budget f (now.set k (nowAt now k + 1)) seen (mv ++ [(k : Int)])).1 = 19 then tryT ps (exam ps budget f) now ((List.range ps.length).drop (k + 1)) (exam ps budget f (now.set k (nowAt now k + 1)) seen (mv ++ [(k : Int)])).2.1 mv else exam ps budget f (now.set k (nowAt now k + 1)) seen (mv ++ [(k : Int)])) := by
                    show _ = _
                    simp only [tryT]
                    rw [g3]
                    by_cases e : stepN now k ∈ seen
                    · have e' : now.set k (nowAt now k + 1) ∈ seen := e
                      rw [if_pos e', if_neg (by simp [e])]
                    · have e' : now.set k (nowAt now k + 1) ∉ seen := e
                      rw [if_neg e', if_pos (by simp [e])]; rfl
                  rw [HTRY.out] at HTR
                  clear HTRY
                  have pk := H3.out.d.cat (t := k) (by omega)
                  have b0 := H3.out.b.cell 0
                  simp at b0
                  have hsz := H3.out.b.lt
                  have hgz := H3.out.d.lt
                  generalize hx : nowAt now k = x at *
                  generalize hn2 : now.set k (x + 1) = n2 at *
                  have HX := Lib.hid hx
                  have hw8 : IntKind.i8.wrap (x + 1) = x + 1 := IntWalk.i8_in _ (by omega)
                  clear hx hn2 g3 hkl
                  go_wp2_with fail
                  refine HST.out.mono ?_
                  rintro e w4 ⟨rfl, h4, k4⟩
                  have H4 := Lib.hid (H3.out.setD k4 h4 HH2.out HG2.out)
                  generalize holdF ps n2 k (k : Int) (holdF ps now k (-1) hd) = hd4 at *
                  clear h4 k4 HST HH2 H3 b0 pk hsz hgz hw8 hG h64
                  have b0 := H4.out.b.cell 0
                  have b1 := H4.out.b.cell 1
                  simp at b0 b1
                  have hsz := H4.out.b.lt
                  have hgz := H4.out.d.lt
                  have p0 : w4.cell? ⟨g, 1, none⟩ = some (.int .i8 (nowAt n2 0)) := H4.out.d.cat (t := 0) (by omega)
                  have p1 : w4.cell? ⟨g, 2, none⟩ = some (.int .i8 (nowAt n2 1)) := H4.out.d.cat (t := 1) (by omega)
                  have p2 : w4.cell? ⟨g, 3, none⟩ = some (.int .i8 (nowAt n2 2)) := H4.out.d.cat (t := 2) (by omega)
                  have p3 : w4.cell? ⟨g, 4, none⟩ = some (.int .i8 (nowAt n2 3)) := H4.out.d.cat (t := 3) (by omega)
                  have p4 : w4.cell? ⟨g, 5, none⟩ = some (.int .i8 (nowAt n2 4)) := H4.out.d.cat (t := 4) (by omega)
                  have p5 : w4.cell? ⟨g, 6, none⟩ = some (.int .i8 (nowAt n2 5)) := H4.out.d.cat (t := 5) (by omega)
                  have p6 : w4.cell? ⟨g, 7, none⟩ = some (.int .i8 (nowAt n2 6)) := H4.out.d.cat (t := 6) (by omega)
                  have p7 : w4.cell? ⟨g, 8, none⟩ = some (.int .i8 (nowAt n2 7)) := H4.out.d.cat (t := 7) (by omega)
                  have p8 : w4.cell? ⟨g, 9, none⟩ = some (.int .i8 (nowAt n2 8)) := H4.out.d.cat (t := 8) (by omega)
                  have p9 : w4.cell? ⟨g, 10, none⟩ = some (.int .i8 (nowAt n2 9)) := H4.out.d.cat (t := 9) (by omega)
                  go_wp2
                  refine wp_region_lex (fun w' => ∃ x : Ext w4, w' = x.val) [0, 1, 2, 3, 4, 5, 6, 7, 8, 9, 10, 11, 12] (by kernel_rfl) (by kernel_rfl) ⟨⟨_, (Keeps.refl _ _).drew⟩, rfl⟩ ?_
                  have XL : ∀ x : Ext w4, (Instr.lookup 99 (.map (some mr)) (.agg #[.int .i8 (nowAt n2 0), .int .i8 (nowAt n2 1), .int .i8 (nowAt n2 2), .int .i8 (nowAt n2 3), .int .i8 (nowAt n2 4), .int .i8 (nowAt n2 5), .int .i8 (nowAt n2 6), .int .i8 (nowAt n2 7), .int .i8 (nowAt n2 8), .int .i8 (nowAt n2 9)]) false).run Tryz.prog x.val = .ok (.bool (decide (n2 ∈ seen))) x.val := fun x => PMap.lookup (H4.out.m.kept x.keeps (by simp)) (HG2.out.fits HV.out) HG2.out.1
                  have x0 := Ext.cell b0
                  have x1 := Ext.cell b1
                  have y0 := Ext.cell p0
                  have y1 := Ext.cell p1
                  have y2 := Ext.cell p2
                  have y3 := Ext.cell p3
                  have y4 := Ext.cell p4
                  have y5 := Ext.cell p5
                  have y6 := Ext.cell p6
                  have y7 := Ext.cell p7
                  have y8 := Ext.cell p8
                  have y9 := Ext.cell p9
                  generalize hin : decide (n2 ∈ seen) = ins at XL
                  refine lex_q _ rfl rfl rfl ?_; go_big_quiet_step (fail); refine wpQuiet_nil ?_
                  refine lex_nil _ rfl _ rfl rfl _ rfl ?_; go_simp
                  iterate 3 (refine lex_q _ rfl rfl rfl ?_; go_big_quiet_step (fail); refine wpQuiet_nil ?_)
                  refine lex_nil _ rfl _ rfl rfl _ rfl ?_; go_simp
                  iterate 2 (refine lex_q _ rfl rfl rfl ?_; go_big_quiet_step (fail); refine wpQuiet_nil ?_)
                  refine lex_nil _ rfl _ rfl rfl _ rfl ?_; go_simp
                  iterate 4 (refine lex_q _ rfl rfl rfl ?_; go_big_quiet_step (fail); refine wpQuiet_nil ?_)
                  simp only [wpLex]
                  refine NoPanic.normal ?_
                  clear x0 x1 y0 y1 y2 y3 y4 y5 y6 y7 y8 y9 p0 p1 p2 p3 p4 p5 p6 p7 p8 p9 b0 b1 XL
                  generalize hW5 : World.drew w4 = w5
                  have H5 : Hid (Sr w0 w5 sb g mr A c ps budget n2 hd4 seen vmv mv) := by subst hW5; exact H4.out.keep (Keeps.refl _ _).drew
                  clear hW5 H4 hsz hgz
                  have b0 := H5.out.b.cell 0
                  simp at b0
                  have hsz := H5.out.b.lt
                  have HIN := Lib.hid hin
                  clear hin
                  cases ins with
                  | true =>
                    have HNIN : Hid (n2 ∈ seen) := by show _ ∈ _; exact of_decide_eq_true HIN.out
                    have HTN : Hid (tryT ps (exam ps budget f) now ((List.range ps.length).drop (k + 1)) seen mv = R) := by
                      have h := HTR.out
                      rw [if_pos HNIN.out] at h
                      exact h
                    have HS5 := Lib.hid (set_any w0 w5 g A c ps n2 hd4 k x HP.out HV.out HG2.out (by rw [HSB.out]; exact HG1.out) hlt H5.out.d)
                    have HHB := Lib.hid (H5.out.hh.set hlt H5.out.gd.1 HBK.out)
                    rw [HSB.out] at HS5 HHB
                    go_wp2_with fail
                    refine HS5.out.mono ?_
                    rintro e w6 ⟨rfl, h6, k6⟩
                    have H6 := Lib.hid (H5.out.setD k6 h6 HHB.out HG1.out)
                    clear h6 k6 HS5 HHB
                    go_wp2
                    go_roundw
                    case rel => exact ⟨k + 1, _, seen, vmv, by omega, by go_num, H6.out, HSL.out, HTN.out⟩
                    case measure => simp [intOf]; omega
                  | false =>
                    have HNIN : Hid (n2 ∉ seen) := by show ¬ _; exact of_decide_eq_false HIN.out
                    have HTN := HTR
                    rw [if_neg HNIN.out] at HTN
                    clear HTR
                    obtain ⟨Am, cm, rfl, hcm1, hcm2⟩ := H5.out.mv.form
                    have b3 := H5.out.b.cell 3
                    simp at b3
                    have hml := HML.out
                    have htot := HTOT.out
                    have hz5 := H5.out.b.lt
                    have HAF : Hid (∀ (o : Obj) (v6 : Value) (w6 : World), OwnL 3 1 RInt w6 (sb + 1) (sb + 1) v6 (mv ++ [(k : Int)]) → Keeps (fun b => (Value.slice Am mv.length cm).ownBlock = some b) (w5.alloc o) w6 → Sr w0 (w6.setCell ⟨sb, 3, none⟩ v6) sb g mr A c ps budget n2 hd4 seen v6 (mv ++ [(k : Int)]) ∧ w6.cell? ⟨sb, 3, none⟩ = some (.slice Am mv.length cm) ∧ w6.frozen? ⟨sb, 3, none⟩ = false ∧ sb < w6.heap.size) := fun o v6 w6 ho hk => by
                      have k2 : Keeps (fun b => sb < b) w5 w6 := ((Keeps.refl (fun b => sb < b) w5).alloc o).trans hk (fun b _ e => by have := H5.out.mv.lt e; omega)
                      have hb := H5.out.b.kept k2 (fun e => by omega)
                      have hb3 := hb.cell 3
                      simp at hb3
                      exact ⟨H5.out.setMv k2 ho, hb3, hb.frozen 3, hb.lt⟩
                    clear b0
                    go_wp2_with (at_builtin; refine wpList_append_L tyInt RInt.ok rfl (.tmp 103) (.tmp 105) rfl (H5.out.mv.alloc RInt.ok _) rfl _ [.int .i64 (k : Int)] rfl (Blk.new' _ _ _ (by simp)) rfl (k : Int) (S := fun _ => False) rfl (fun _ h => h.elim) (by simp [Value.oneCell']) (by omega) (by omega) (by simp; omega) ?_; intro v6 w6 HO6 HK6 HA6; obtain ⟨A6, c6, hv6, hc61, hc62⟩ := HO6.form; rw [List.length_append, List.length_singleton] at hv6 hc61; subst hv6; obtain ⟨HRP, E6, F6, Z6⟩ := HAF.out _ _ w6 HO6 HK6; have HRP6 := Lib.hid HRP; clear HRP HO6 HK6 HA6)
                    clear b3 hsz hz5 E6 F6 Z6 HAF H5
                    have HMVE := Lib.hid (exam_mv (ps := ps) (budget := budget) f n2 seen (mv ++ [(k : Int)]))
                    have HLE : Hid (seen.length ≤ budget → (exam ps budget f n2 seen (mv ++ [(k : Int)])).2.1.length ≤ budget) := (exam_ok (ps := ps) (budget := budget) f n2 HG2.out (by have := HF.out; omega) seen (mv ++ [(k : Int)])).le
                    refine (IH.out _ n2 hd4 seen (.slice A6 (mv.length + 1) c6) (mv ++ [(k : Int)]) (by have := HF.out; omega) HRP6.out HNIN.out (by simp; omega) HSL.out).mono ?_
                    rintro e w7 ⟨n7, hd7, v7, rfl, h7, hb7⟩
                    generalize exam ps budget f n2 seen (mv ++ [(k : Int)]) = r7 at *
                    obtain ⟨e7, s7, m7⟩ := r7
                    simp only [] at h7 hb7 HMVE HLE HTN ⊢
                    have H7 := Lib.hid h7
                    clear h7 HRP6
                    by_cases g5 : e7 = 19
                    · obtain rfl := hb7 g5
                      have hm7 := HMVE.out g5
                      subst g5
                      subst hm7
                      have HS7 := Lib.hid (HLE.out HSL.out)
                      rw [if_pos rfl] at HTN
                      clear hb7 HMVE HLE
                      obtain ⟨A7, c7, rfl, hc71, hc72⟩ := H7.out.mv.form
                      obtain ⟨g7, rfl⟩ := H7.out.mv.addr (by simp)
                      rw [List.length_append, List.length_singleton] at hc71 H7
                      have q3 := H7.out.b.cell 3
                      simp at q3
                      have hsz := H7.out.b.lt
                      have hs1 : IntKind.i64.wrap (((mv.length + 1 : Nat) : Int) - 1) = ((mv.length : Nat) : Int) := by rw [show (((mv.length + 1 : Nat) : Int) - 1) = ((mv.length : Nat) : Int) from by omega]; exact IntWalk.i64_in _ (by omega)
                      go_wp2
                      refine wp_region_lex (fun w' => ∃ x : Ext w7, w' = x.val) [0, 1, 2, 3, 4, 5, 6, 7, 8, 9, 10, 11, 12, 13, 14] (by kernel_rfl) (by kernel_rfl) ⟨⟨_, (Keeps.refl _ _).drew⟩, rfl⟩ ?_
                      have x3 := Ext.cell q3
                      iterate 2 (refine lex_q _ rfl rfl rfl ?_; go_big_quiet_step (fail); refine wpQuiet_nil ?_)
                      refine lex_nil _ rfl _ rfl rfl _ rfl ?_; go_simp
                      iterate 3 (refine lex_q _ rfl rfl rfl ?_; go_big_quiet_step (fail); refine wpQuiet_nil ?_)
                      refine lex_nil _ rfl _ rfl rfl _ rfl ?_; go_simp
                      iterate 5 (refine lex_q _ rfl rfl rfl ?_; go_big_quiet_step (fail); refine wpQuiet_nil ?_)
                      refine lex_nil _ rfl _ rfl rfl _ rfl ?_; go_simp
                      refine lex_q _ rfl rfl rfl ?_; go_big_quiet_step (fail); refine wpQuiet_nil ?_
                      refine lex_a _ rfl rfl false (by kernel_rfl) ?_
                      obtain ⟨wd, hwd⟩ : ∃ wd : World, wd = w7.drew := ⟨_, rfl⟩
                      have HD7 : Hid (Sr w0 wd sb g mr A c ps budget n7 hd7 s7 (.slice (some ⟨g7, 0, none⟩) (mv.length + 1) c7) (mv ++ [(k : Int)])) := by subst hwd; exact H7.out.keep (Keeps.refl _ _).drew
                      rw [← hwd]
                      clear hwd x3 q3 H7 hsz hs1
                      have q3 := HD7.out.b.cell 3
                      simp at q3
                      have q4 := HD7.out.b.frozen 3
                      have hsz := HD7.out.b.lt
                      have H8 : Hid (Sr w0 (wd.setCell ⟨sb, 3, none⟩ (.slice (some ⟨g7, 0, none⟩) mv.length c7)) sb g mr A c ps budget n7 hd7 s7 (.slice (some ⟨g7, 0, none⟩) mv.length c7) mv) := by
                        have h := HD7.out.setMv (Keeps.refl _ _) (HD7.out.mv.cut (k := mv.length) (by simp) (.inl (by simp)))
                        rw [List.take_left' rfl] at h
                        exact h
                      go_wp2
                      (try refine ⟨fun h => (by cases h), ?_⟩)
                      simp only [wpLex]
                      refine NoPanic.normal ?_
                      clear q3 q4 hsz HD7
                      generalize World.setCell wd _ _ = w8 at *
                      have b0 := H8.out.b.cell 0
                      simp at b0
                      have hsz := H8.out.b.lt
                      have HS5 := Lib.hid (set_any w0 w8 g A c ps n7 hd7 k x HP.out HV.out HG2.out (by rw [HSB.out]; exact HG1.out) hlt H8.out.d)
                      have HHB := Lib.hid (H8.out.hh.set hlt H8.out.gd.1 HBK.out)
                      rw [HSB.out] at HS5 HHB
                      go_wp2_with fail
                      refine HS5.out.mono ?_
                      rintro e w9 ⟨rfl, h9, k9⟩
                      have H9 := Lib.hid (H8.out.setD k9 h9 HHB.out HG1.out)
                      clear h9 k9 HS5 HHB H8
                      go_wp2
                      go_roundw
                      case rel => exact ⟨k + 1, _, s7, _, by omega, by go_num, H9.out, HS7.out, HTN.out⟩
                      case measure => simp [intOf]; omega
                    · have g5' : (e7 != 19) = true := by simpa using g5
                      rw [if_neg g5] at HTN
                      have HQ : Hid (R = (e7, s7, m7)) := HTN.out.symm
                      clear HTN hb7 HMVE HLE
                      go_wp2
                      go_ret
                      rw [HQ.out]
                      exact ⟨n7, hd7, v7, rfl, H7.out, fun h => absurd h g5⟩
              · obtain rfl : k = ps.length := by omega
                have hdk : decide ((ps.length : Int) < (ps.length : Int)) = false := by simp
                clear hsr
                have Q : Hid (R = (19, seen, mv)) := by
                  show _ = _
                  have h := HTR.out
                  rw [List.drop_of_length_le (by simp)] at h
                  simp only [tryT] at h
                  exact h.symm
                go_wp2
                go_ret
                rw [Q.out]
                exact ⟨now, hd, vmv, rfl, HS.out, fun _ => rfl⟩

end Go.Proofs.YtbfgmbakeofcbaaGreat
