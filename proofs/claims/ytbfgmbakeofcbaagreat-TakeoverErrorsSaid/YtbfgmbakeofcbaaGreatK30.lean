/- Contract of the maker of entries: what it returns fits the paths and ascends. Conditions: as the theorem says. What the maker of paths makes is valid. No program in sight. Contracts of the reference's Over and Left. Conditions: as each theorem says. Contracts of SameOrders and SameLists at equal lists. Conditions: as each theorem says. -/
import Derived.Test.YtbfgmbakeofcbaaGreatK28
import Derived.Test.YtbfgmbakeofcbaaGreatK18
import Derived.Test.YtbfgmbakeofcbaaGreatK06
import Derived.Test.YtbfgmbakeofcbaaGreatK15
import Derived.Test.YtbfgmbakeofcbaaGreatK29
namespace Go.Proofs.YtbfgmbakeofcbaaGreat
open Go.RowKit

theorem tyIntss : ElemTy Tryz.prog 35 23 1 24 := .mk' Tryz.underlying35 (z := .slice none 0 0) (by kernel_rfl) rfl (by omega)
theorem rowAsc_snoc : ∀ (l : List Int) (x : Int), rowAsc l = true → (∀ y ∈ l, y ≤ x) → rowAsc (l ++ [x]) = true
  | [], _, _, _ => rfl
  | [a], x, _, h => by have := h a (by simp); simp [rowAsc, this]
  | a :: b :: r, x, h, hx => by
    simp only [rowAsc, Bool.and_eq_true] at h
    have := rowAsc_snoc (b :: r) x h.2 (fun y hy => hx y (by simp at hy ⊢; exact .inr hy))
    simp only [List.cons_append, rowAsc, Bool.and_eq_true] at this ⊢
    exact ⟨h.1, this⟩
theorem rowsOk_snoc : ∀ (ps : List (List Stage)) (en : List (List Int)) (p : List Stage) (l : List Int), en.length = ps.length → rowsOk ps en = true → l.length = p.length → rowAsc l = true → rowsOk (ps ++ [p]) (en ++ [l]) = true
  | [], [], p, l, _, _, h1, h2 => by simp [rowsOk, h1, h2]
  | [], _ :: _, _, _, h, _, _, _ => by simp at h
  | _ :: _, [], _, _, h, _, _, _ => by simp at h
  | q :: ps, m :: en, p, l, h, hr, h1, h2 => by
    simp only [List.cons_append, rowsOk, Bool.and_eq_true] at hr ⊢
    exact ⟨hr.1, rowsOk_snoc ps en p l (by simpa using h) hr.2 h1 h2⟩
/-- a row of integers that may be written -/
def RIntsU : Rd (List Int) := fun w S cs l => RInts w S cs l ∧ (l ≠ [] → ∀ b o n c, cs = [.slice (some ⟨b, o, none⟩) n c] → ∀ k, w.frozen? ⟨b, k, none⟩ = false)
abbrev RIntssU := RSlice 1 RIntsU
theorem RIntsU.ok : Rd.Ok RIntsU := by
  refine ⟨?_⟩
  intro w w' S S' cs l h hS hw
  refine ⟨RInts.ok.mono h.1 hS hw, fun hn b o n c hc k => ?_⟩
  obtain ⟨A, c', hc', _, _, h3⟩ := h.1
  obtain ⟨b', o', hA, hb, _⟩ := h3 hn
  subst hA
  rw [hc] at hc'
  injection hc' with hc' _
  injection hc' with hc' _ _
  injection hc' with hc'
  injection hc' with hc' _
  subst hc'
  have := h.2 hn b o n c hc k
  unfold World.frozen? at this ⊢
  rw [hw b hb]; exact this
theorem RIntssU.ok : Rd.Ok RIntssU := RSlice.ok RIntsU.ok
theorem RIntssU.plain {w : World} {S : Foot} {cs : List Value} {l : List (List Int)} (h : RIntssU w S cs l) : RIntss w S cs l := by
  obtain ⟨A, c, e, h1, h2, h3⟩ := h
  refine ⟨A, c, e, h1, h2, fun hn => ?_⟩
  obtain ⟨b, o, hA, hb, hx⟩ := h3 hn
  refine ⟨b, o, hA, hb, fun j x hj => ?_⟩
  obtain ⟨es, e1, e2, e3⟩ := hx j x hj
  exact ⟨es, e1, e2.1, e3⟩
theorem OwnL.thaw {α : Type} {t size : Nat} {E : Rd α} {w : World} {base lo : Nat} {b o n c : Nat} {l : List α} (h : OwnL t size E w base lo (.slice (some ⟨b, o, none⟩) n c) l) (k : Nat) : w.frozen? ⟨b, k, none⟩ = false := by
  obtain ⟨ess, _, h2, _⟩ := h
  rcases h2.2 with ⟨he, _⟩ | ⟨g, cap, cur, he, hb, hh, _⟩
  · cases he
  · injection he with he
    injection he with he
    injection he with he
    subst he
    simp [World.frozen?, hh]
/-- entries that fit -/
def EnOk (ps : List (List Stage)) (en : List (List Int)) : Prop := en.length = ps.length ∧ rowsOk ps en = true ∧ ∀ l ∈ en, ∀ x ∈ l, 0 ≤ x ∧ x ≤ 2000
structure EOut (ps : List (List Stage)) (w wr : World) (v : Value) (t : Nat) : Prop where
  k : KeepsAll w wr
  src : ∃ rest, Src wr (Old w) w.heap.size rest
  out : ∃ en, OwnL 23 1 RIntsU wr (w.heap.size + 1) (w.heap.size + 1) v en ∧ EnOk (ps.take t) en
structure ERow (w w0 wr : World) (v : Value) (row : List Int) (n : Nat) (x : Int) : Prop where
  k : Keeps (fun b => b = w.heap.size) w0 wr
  src : ∃ rest, Src wr (Old w) w.heap.size rest
  own : OwnL 3 1 RInt wr w0.heap.size w0.heap.size v row
  len : row.length = n
  asc : rowAsc row = true
  rng : ∀ y ∈ row, 0 ≤ y ∧ y ≤ x
  x0 : 0 ≤ x
  x1 : x ≤ 40 + 25 * n

set_option maxRecDepth 100000 in
set_option maxHeartbeats 2000000 in
theorem Enter_fresh (ps : List (List Stage)) (l : List Int) (A A2 : Option Addr) (c c2 : Nat) (w : World) (h : RPaths w (Old w) [.slice A ps.length c] ps) (h2 : RInts w (Old w) [.slice A2 l.length c2] l) (hps : ps.length ≤ 1000) (hpl : ∀ p ∈ ps, p.length ≤ 64) :
    Calls Tryz.prog 13 #[.slice A ps.length c, .slice A2 l.length c2] w fun e w' => ∃ v en, e = .returned v ∧ RIntssU w' (Fresh w w') [v] en ∧ EnOk ps en ∧ KeepsAll w w' := by
  have hc := h.caps
  have H := Lib.hid h; clear h
  have H2 := Lib.hid h2; clear h2
  have HPL := Lib.hid hpl; clear hpl
  go_enter Tryz.func13, Tryz.ntmps13
  go_wp2_with fail
  refine (From_any w A2 c2 l H2.out).mono ?_
  rintro e w1 ⟨rfl, hsrc1, hk1, hz1⟩
  have HI : Hid (EOut ps w w1 (.slice none 0 0) 0) := ⟨hk1, ⟨_, hsrc1⟩, [], OwnL.nil, rfl, rfl, by simp⟩
  clear hsrc1 hk1 hz1
  go_wp2
  go_loopw [6, 15] (fun v i wr => ∃ t : Nat, t ≤ ps.length ∧ i = .int .i64 t ∧ EOut ps w wr v t) (fun _ i _ => ps.length - (intOf i).toNat)
  case atStart => exact ⟨0, Nat.zero_le _, rfl, HI.out⟩
  case round =>
    obtain ⟨t, ht, rfl, hi⟩ := hrel
    clear HI
    have KR := Lib.hid hi.k
    obtain ⟨rest, hsrc⟩ := hi.src
    obtain ⟨en, hoe, hen⟩ := hi.out
    obtain ⟨Ao, co, rfl, hco, hco2⟩ := hoe.form
    have hzs := hsrc.lt
    have HSRC := Lib.hid hsrc; have HOE := Lib.hid hoe; have HEN := Lib.hid hen
    have henl : en.length ≤ 1000 := by have := hen.1; rw [List.length_take] at this; omega
    clear hi hsrc hoe hen
    by_cases hlt : t < ps.length
    · obtain ⟨b, o, p, A', c', hbo, hb, hp, k1, hr⟩ := RSS.atK KR.out H.out hlt
      subst hbo
      have hpl := HPL.out p (List.mem_of_getElem? hp)
      have HP := Lib.hid hp
      have hcp := hr.caps
      clear hp hr
      have hdt : decide ((t : Int) < (ps.length : Int)) = true := by simp; omega
      go_wp2_with fail
      refine (Next_any wr (Old w) w.heap.size rest 40 (by omega) (by omega) HSRC.out (fun b hb => ⟨by have : b < w.heap.size := hb; omega, by have : b < w.heap.size := hb; omega⟩)).mono ?_
      rintro e w3 ⟨rfl, hsrc3, hk3, hz3⟩
      have hnr := nextV_range rest 40 (by omega)
      generalize nextV rest 40 = x0 at hnr
      have K3 := Lib.hid (KR.out.trans hk3 (fun x hx e => by omega))
      have HOE3 := Lib.hid (HOE.out.keeps RIntsU.ok hk3 (fun b hb e => by omega))
      have HR0 : Hid (ERow w w3 w3 (.slice none 0 0) [] 0 x0) := ⟨Keeps.refl _ _, ⟨_, hsrc3⟩, OwnL.nil, rfl, rfl, by simp, hnr.1, by omega⟩
      have hw3 := hsrc3.lt
      clear hsrc3 hk3 hz3 HOE HSRC KR
      obtain ⟨wo, hwo⟩ : ∃ wo : World, wo = wr := ⟨_, rfl⟩
      clear hwo
      go_wp2
      go_loopw [9, 10, 23] (fun vx v i wr => ∃ (k : Nat) (x : Int) (row : List Int), k ≤ p.length ∧ i = .int .i64 k ∧ vx = .int .i64 x ∧ ERow w w3 wr v row k x) (fun _ _ i _ => p.length - (intOf i).toNat)
      case atStart => exact ⟨0, x0, [], Nat.zero_le _, rfl, rfl, HR0.out⟩
      case round =>
        obtain ⟨k, x, row, hk, rfl, rfl, hi⟩ := hrel
        clear HR0
        obtain ⟨rest2, hsrc⟩ := hi.src
        obtain ⟨Ar, cr, rfl, hcr, hcr2⟩ := hi.own.form
        have hzs := hsrc.lt
        have hx0 := hi.x0
        have hx1 := hi.x1
        have hrl : row.length ≤ 64 := by have := hi.len; omega
        have HI := Lib.hid hi
        have hkz := hi.k.size
        clear hi
        by_cases hlt2 : k < p.length
        · go_wp2_with (at_builtin; refine wpList_append_L tyInt RInt.ok rfl (.tmp 25) (.tmp 27) rfl (HI.out.own.alloc RInt.ok _) rfl _ [.int .i64 x] rfl (Blk.new' _ _ _ (by simp)) rfl x (S := fun _ => False) rfl (fun _ h => h.elim) (by simp [Value.oneCell']) (by omega) (by omega) (by simp; omega) ?_; intro v5 w5 HO5 HK5 HA5; obtain ⟨A5, c5, hv5, hv51, hv52⟩ := HO5.form; rw [List.length_append, List.length_singleton] at hv5; subst hv5)
          have FAR : ∀ b, b < w3.heap.size → ¬ ((Value.slice Ar row.length cr).ownBlock = some b) := fun b hb e => by have := HI.out.own.lt e; omega
          have K5 : Keeps (fun b => (Value.slice Ar row.length cr).ownBlock = some b) wr w5 := ((Keeps.refl _ wr).alloc _).trans HK5 (fun _ _ h => h)
          have hsrc5 := hsrc.keeps K5 (fun b hb => ⟨by have : b < w.heap.size := hb; omega, FAR b (by have : b < w.heap.size := hb; omega)⟩) (FAR _ hw3)
          have HK35 : Hid (Keeps (fun b => b = w.heap.size) w3 w5) := HI.out.k.trans K5 (fun x hx e => absurd e (FAR x hx))
          have HO5' := Lib.hid HO5
          have HS5 := Lib.hid hsrc5
          have hz5 := hsrc5.lt
          clear HO5 HK5 HA5 K5 FAR hsrc5
          refine (Next_any w5 (Old w) w.heap.size rest2 25 (by omega) (by omega) HS5.out (fun b hb => ⟨by have : b < w.heap.size := hb; omega, by have : b < w.heap.size := hb; omega⟩)).mono ?_
          rintro e w6 ⟨rfl, hsrc6, hk6, hz6⟩
          have hnr6 := nextV_range rest2 25 (by omega)
          generalize nextV rest2 25 = y at hnr6
          have HR6 : Hid (ERow w w3 w6 (.slice A5 (row.length + 1) c5) (row ++ [x]) (k + 1) (x + y)) := by
            refine ⟨HK35.out.trans hk6 (fun _ _ h => h), ⟨_, hsrc6⟩, HO5'.out.keeps RInt.ok hk6 (fun b hb e => by omega), by simp [HI.out.len], rowAsc_snoc _ _ HI.out.asc (fun z hz => (HI.out.rng z hz).2), fun z hz => ?_, by omega, by omega⟩
            rcases List.mem_append.1 hz with hz | hz
            · have := HI.out.rng z hz; omega
            · simp at hz; omega
          clear hsrc6 hk6 hz6
          go_wp2
          go_roundw
          case rel => exact ⟨k + 1, x + y, _, by omega, by go_num, rfl, HR6.out⟩
          case measure => simp [intOf]; omega
        · obtain rfl : k = p.length := by omega
          have HROW : Hid (RIntsU wr (fun b => w3.heap.size ≤ b ∧ b < wr.heap.size) [.slice Ar row.length cr] row) := ⟨HI.out.own.read RInt.ok (by omega) (fun _ a b => ⟨a, b⟩) (fun _ a b => ⟨a, b⟩), fun _ b o n c hc k => by injection hc with hc _; injection hc with hc _ _; subst hc; exact HI.out.own.thaw k⟩
          have HOEr := Lib.hid (HOE3.out.keeps RIntsU.ok HI.out.k (fun b hb e => by omega))
          have FARO : Hid (∀ b, w3.heap.size ≤ b → (Value.slice Ao en.length co).ownBlock ≠ some b) := fun b hb e => by have := HOE3.out.lt e; omega
          go_wp2_with (at_builtin; refine wpList_append_L tyIntss RIntsU.ok rfl (.tmp 34) (.tmp 36) rfl (HOEr.out.alloc RIntsU.ok _) rfl _ [.slice Ar row.length cr] rfl (Blk.new' _ _ _ (by simp)) rfl row (S := fun b => w3.heap.size ≤ b ∧ b < wr.heap.size) (((Keeps.refl (fun _ => False) wr).alloc _).rd RIntsU.ok HROW.out (fun b hb => ⟨hb.2, by simp⟩) (fun _ h => h)) (fun b hb => ⟨by have := hb.1; omega, by have := hb.2; simp; omega, FARO.out b hb.1⟩) (by simp [Value.oneCell']) (by omega) (by omega) (by simp; omega) ?_; intro v7 w7 HO7 HK7 HA7; obtain ⟨A7, c7, hv7, hv71, hv72⟩ := HO7.form; rw [List.length_append, List.length_singleton] at hv7; subst hv7)
          have FAR : ∀ b, b < w.heap.size + 1 → ¬ ((Value.slice Ao en.length co).ownBlock = some b) := fun b hb e => by have := HOEr.out.lt e; omega
          have K7 : Keeps (fun b => (Value.slice Ao en.length co).ownBlock = some b) wr w7 := ((Keeps.refl _ wr).alloc _).trans HK7 (fun _ _ h => h)
          have HF : Hid (EOut ps w w7 (.slice A7 (en.length + 1) c7) (t + 1)) := by
            refine ⟨(K3.out.trans HI.out.k (fun x hx e => by omega)).trans K7 (fun x hx e => absurd e (FAR x (by omega))), ⟨_, hsrc.keeps K7 (fun b hb => ⟨by have : b < w.heap.size := hb; omega, FAR b (by have : b < w.heap.size := hb; omega)⟩) (FAR _ (by omega))⟩, en ++ [row], HO7, ?_⟩
            have e : ps.take (t + 1) = ps.take t ++ [p] := by rw [List.take_add_one, HP.out]; rfl
            rw [e]
            refine ⟨by simp [HEN.out.1], rowsOk_snoc _ _ _ _ HEN.out.1 HEN.out.2.1 HI.out.len HI.out.asc, fun m hm z hz => ?_⟩
            rcases List.mem_append.1 hm with hm | hm
            · exact HEN.out.2.2 m hm z hz
            · simp at hm; subst hm
              have := HI.out.rng z hz; omega
          clear HO7 HK7 HA7 K7 FAR
          go_roundw
          case rel => exact ⟨t + 1, by omega, by go_num, HF.out⟩
          case measure => simp [intOf]; omega
    · obtain rfl : t = ps.length := by omega
      rw [List.take_length] at HEN
      go_wp2
      go_ret
      exact ⟨_, en, rfl, HOE.out.read RIntsU.ok (by omega) (S := Fresh w wr) (fun b h1 h2 => ⟨by omega, h2⟩) (fun b h1 h2 => ⟨by omega, h2⟩), HEN.out, KR.out⟩

theorem Enter_any (ps : List (List Stage)) (l : List Int) (A A2 : Option Addr) (c c2 : Nat) (w : World) (h : RPaths w (Old w) [.slice A ps.length c] ps) (h2 : RInts w (Old w) [.slice A2 l.length c2] l) (hps : ps.length ≤ 1000) (hpl : ∀ p ∈ ps, p.length ≤ 64) :
    Calls Tryz.prog 13 #[.slice A ps.length c, .slice A2 l.length c2] w fun e w' => ∃ v en, e = .returned v ∧ RIntss w' (Old w') [v] en ∧ EnOk ps en ∧ KeepsAll w w' :=
  (Enter_fresh ps l A A2 c c2 w h h2 hps hpl).mono fun _ w' ⟨v, en, h1, h2, h3, h4⟩ => ⟨v, en, h1, RIntss.ok.mono (S' := Old w') h2.plain (fun _ hb => hb.2) (fun _ _ => rfl), h3, h4⟩

theorem apart_at : ∀ (p : List Stage), apart p → ∀ (j : Nat) (a b : Stage), p[j]? = some a → p[j + 1]? = some b → a.sec ≠ b.sec
  | [], _, j, a, b, h, _ => by simp at h
  | [x], _, j, a, b, _, h => by simp at h
  | x :: y :: r, h, 0, a, b, ha, hb => by simp at ha hb; subst ha hb; exact h.1
  | x :: y :: r, h, j + 1, a, b, ha, hb => apart_at (y :: r) h.2 j a b (by simpa using ha) (by simpa using hb)
theorem stMade.ok {s : Stage} (h : stMade s) : stageOk s = true := by
  obtain ⟨h1, h2, h3, h4, h5, h6, h7⟩ := h
  rcases h3 with h3 | h3 | h3 <;> simp [stageOk, isRes, isClk, h3, ptsFrom, ptOk] <;> omega
theorem steps_made {p : List Stage} (h1 : ∀ s ∈ p, stMade s) (h2 : apart p) : ∀ (l : List Stage) (j : Nat), p.drop j = l → stepsFrom p j l = true
  | [], j, _ => rfl
  | s :: l, j, h => by
    have hs : p[j]? = some s := by have := congrArg (·[0]?) h; simpa using this
    have hd := drop_cons' hs
    rw [h] at hd; injection hd with _ hd
    simp only [stepsFrom, Bool.and_eq_true, stepOk]
    refine ⟨⟨(h1 s (List.mem_of_getElem? hs)).ok, ?_⟩, steps_made h1 h2 l (j + 1) hd.symm⟩
    by_cases hj : 0 < j
    · have hj1 : p[j - 1]? = some (p[j - 1]'(by have := getElem?_lt hs; omega)) := List.getElem?_eq_getElem _
      have := apart_at p h2 (j - 1) _ s hj1 (by rw [show j - 1 + 1 = j from by omega]; exact hs)
      rw [hj1]; simp; exact .inr this
    · simp [hj]
theorem psMade.valid {ps : List (List Stage)} (h : psMade ps) : valid ps = true := by
  simp only [Go.Proofs.YtbfgmbakeofcbaaGreat.valid, Bool.and_eq_true, decide_eq_true_eq, List.all_eq_true]
  refine ⟨⟨by have := h.2.1; omega, fun p hp => ?_⟩, ?_⟩
  · have hp := h.2.2 p hp
    simp only [pathOk, Bool.and_eq_true, decide_eq_true_eq]
    exact ⟨⟨hp.1, by have := hp.2.1; omega⟩, steps_made hp.2.2.1 hp.2.2.2 p 0 rfl⟩
  · simp only [noClash, List.all_eq_true]
    intro r _
    simp only [Bool.not_eq_true', Bool.and_eq_false_iff, decide_eq_false_iff_not]
    by_cases hr : (r : Int) < 5
    · right
      intro hm
      simp only [List.mem_flatMap, List.mem_flatten] at hm
      obtain ⟨s, ⟨p, hp, hs⟩, hm⟩ := hm
      rcases ((h.2.2 p hp).2.2.1 s hs).2.2.1 with e | e | e <;> rw [e] at hm <;> simp at hm <;> omega
    · left
      intro hm
      simp only [List.mem_map, List.mem_flatten] at hm
      obtain ⟨s, ⟨p, hp, hs⟩, hm⟩ := hm
      have := ((h.2.2 p hp).2.2.1 s hs).2.1
      omega

theorem psMade.s8 {ps : List (List Stage)} (h : psMade ps) : secs8 ps := fun p hp s hs => by have := (h.2.2 p hp).2.2.1 s hs; have h1 := this.1; have h2 := this.2.1; omega
theorem psMade.l {ps : List (List Stage)} (h : psMade ps) : ps.length ≤ 1000 := by have := h.2.1; omega
theorem psMade.pl {ps : List (List Stage)} (h : psMade ps) : ∀ p ∈ ps, p.length ≤ 1000 := fun p hp => by have := (h.2.2 p hp).2.1; omega
theorem RSlice.form {α : Type} {size : Nat} {E : Rd α} {w : World} {S : Foot} {v : Value} {l : List α} (h : RSlice size E w S [v] l) : ∃ A c, v = .slice A l.length c := by
  obtain ⟨A, c, he, _⟩ := h; injection he with he _; exact ⟨A, c, he⟩

theorem Uses_ext {W : World} (x : Ext W) (s : Stage) (r : Int) (Ap : Option Addr) (cp : Nat) (h : RInts W (Old W) [.slice Ap s.pts.length cp] s.pts) :
    Calls Tryz.prog 66 #[.agg (stC s Ap cp), .int .i64 r] x.val fun e w'' => e = .returned (.tuple #[.bool (decide (r ∈ stUses s)), .bool (s.sec == r)]) ∧ ∃ y : Ext W, w'' = y.val :=
  ext_call x (Uses_any s r Ap cp x.val (x.keeps.rdo' RInts.ok h))
/-- a use is over -/
def overB (ps : List (List Stage)) (now : List Int) (u : Ref) (r : Int) : Bool := decide ((relOf ps r u).st ≤ nowAt now u.tr.toNat)
set_option maxRecDepth 100000 in
set_option maxHeartbeats 1000000 in
theorem Over_any (ps : List (List Stage)) (now : List Int) (r : Int) (A A2 : Option Addr) (c c2 : Nat) (w : World) (h : RPaths w (Old w) [.slice A ps.length c] ps) (h2 : RInts w (Old w) [.slice A2 now.length c2] now) (t k : Nat) (p : List Stage) (s : Stage) (x : Int) (hp : ps[t]? = some p) (hs : p[k]? = some s) (hx : now[t]? = some x) :
    Calls Tryz.prog 46 #[.slice A ps.length c, .slice A2 now.length c2, .agg #[.int .i64 (t : Int), .int .i64 (k : Int)], .int .i64 r] w fun e w' => e = .returned (.bool (overB ps now ⟨(t : Int), (k : Int)⟩ r)) ∧ KeepsAll w w' := by
  have hc := h.caps
  have hc2 := h2.caps
  have HQ : Hid (overB ps now ⟨(t : Int), (k : Int)⟩ r = if s.sec = r then decide (x > (k : Int)) else decide (x ≥ (k : Int))) := by
    show overB _ _ _ _ = _
    unfold overB relOf secOf
    simp only [Int.toNat_natCast, hp, hs, Option.getD_some, Option.elim_some, nowAt_of hx]
    split
    · show decide ((k : Int) + 1 ≤ x) = _
      rw [decide_eq_decide]; constructor <;> intro h <;> omega
    · rfl
  have ht := getElem?_lt hp
  have hkl := getElem?_lt hs
  have htx := getElem?_lt hx
  obtain ⟨b, o, p', A', c', hbo, hb, hp', k1, hr⟩ := RSS.at_ h ht
  subst hbo
  obtain rfl := same_of hp' hp
  have hcp := hr.caps
  obtain ⟨b2, o2, s', As, cs, hbo, hb2, hs', m0, m1, m2, m3, hpts⟩ := RPath.at_ hr hkl
  subst hbo
  obtain rfl := same_of hs' hs
  obtain ⟨b3, o3, x', hbo, hb3, hx', q0⟩ := h2.at_ htx
  subst hbo
  obtain rfl := same_of hx' hx
  have HPTS := Lib.hid hpts
  clear h h2 hr hp hp' hs hs' hx hx' hpts
  go_enter Tryz.func46, Tryz.ntmps46
  go_wp2
  generalize hW : World.alloc w _ = W
  have KW : KeepsAll w W := by subst hW; exact (Keeps.refl _ _).alloc _
  have BX : Blk W w.heap.size 69 #[.int .i64 (t : Int), .int .i64 (k : Int)] := by subst hW; exact Blk.new _ _ _
  have e0 := BX.cell 0
  have e1 := BX.cell 1
  simp at e0 e1
  have hz := BX.lt
  replace k1 := KW.cellK (p := ⟨b, o + t, none⟩) hb k1
  replace m0 := KW.cellK (p := ⟨b2, o2 + k * 4, none⟩) hb2 m0
  replace m1 := KW.cellK (p := ⟨b2, o2 + k * 4 + 1, none⟩) hb2 m1
  replace m2 := KW.cellK (p := ⟨b2, o2 + k * 4 + 2, none⟩) hb2 m2
  replace m3 := KW.cellK (p := ⟨b2, o2 + k * 4 + 3, none⟩) hb2 m3
  replace q0 := KW.cellK (p := ⟨b3, o3 + t, none⟩) hb3 q0
  have HP2 := Lib.hid (KW.rdo' RInts.ok HPTS.out)
  have KW' := Lib.hid KW
  clear hW KW BX HPTS
  refine wp_region_ext (by kernel_rfl) (by kernel_rfl) ?_
  have y0 := Ext.cell e0
  have y1 := Ext.cell e1
  have y2 := Ext.cell k1
  have z0 := Ext.cell m0
  have z1 := Ext.cell m1
  have z2 := Ext.cell m2
  have z3 := Ext.cell m3
  have z4 := Ext.cell q0
  repeat (go_big_quiet_step ((go_at_call 66; exact Uses_ext _ s' r As cs HP2.out)))
  refine wpQuiet_nil ?_
  rintro _ ⟨X, rfl⟩
  have f0 := y0 X
  have f1 := y1 X
  have f2 := z4 X
  have KX := Lib.hid (KW'.out.tr X.keeps)
  clear y0 y1 y2 z0 z1 z2 z3 z4 e0 e1 k1 m0 m1 m2 m3 q0
  generalize X.val = WX at *
  by_cases g : s'.sec = r
  · have g' : (s'.sec == r) = true := by simpa using g
    have Q : Hid (overB ps now ⟨(t : Int), (k : Int)⟩ r = decide (x' > (k : Int))) := by show _ = _; rw [HQ.out, if_pos g]
    rw [g']
    clear g g' HQ
    go_wp2
    go_quiet (fail)
    go_wp2
    go_ret
    exact ⟨by rw [Q.out]; rfl, KX.out.drewN _⟩
  · have g' : (s'.sec == r) = false := by simpa using g
    have Q : Hid (overB ps now ⟨(t : Int), (k : Int)⟩ r = decide (x' ≥ (k : Int))) := by show _ = _; rw [HQ.out, if_neg g]
    rw [g']
    clear g g' HQ
    go_wp2
    go_quiet (fail)
    go_wp2
    go_ret
    exact ⟨by rw [Q.out]; rfl, KX.out.drewN _⟩

def leftB (ps : List (List Stage)) (now : List Int) : Bool := (List.range ps.length).all fun t => !decide (nowAt now t < lenAt ps t)
set_option maxHeartbeats 400000 in
theorem Left_any (ps : List (List Stage)) (now : List Int) (A A2 : Option Addr) (c c2 : Nat) (w : World) (h : RPaths w (Old w) [.slice A ps.length c] ps) (h2 : RInts w (Old w) [.slice A2 now.length c2] now) (hl : now.length = ps.length) :
    Calls Tryz.prog 96 #[.slice A ps.length c, .slice A2 now.length c2] w fun e w' => e = .returned (.bool (leftB ps now)) ∧ ∃ n, w' = w.drewN n := by
  have hc := h.caps
  have hc2 := h2.caps
  have l1 : now.length ≤ ps.length := by omega
  have l2 : ps.length ≤ now.length := by omega
  clear hl
  have H := Lib.hid h; clear h
  have H2 := Lib.hid h2; clear h2
  go_enter Tryz.func96, Tryz.ntmps96
  go_wp2
  go_loopw [8] (fun i wr => ∃ t n : Nat, t ≤ ps.length ∧ i = .int .i64 t ∧ wr = w.drewN n ∧ ∀ u, u < t → (lenAt ps u : Int) ≤ nowAt now u) (fun i _ => ps.length - (intOf i).toNat)
  case atStart => exact ⟨0, 0, Nat.zero_le _, rfl, rfl, fun u hu => by omega⟩
  case round =>
    obtain ⟨t, n, ht, rfl, rfl, hall⟩ := hrel
    have HALL := Lib.hid hall; clear hall
    by_cases hlt : t < ps.length
    · obtain ⟨b, o, p, A', c', hbo, hb, hp, k1, hr⟩ := RSS.at_ H.out hlt
      subst hbo
      have hcp := hr.caps
      obtain ⟨b3, o3, x, hbo, hb3, hx, q0⟩ := H2.out.at_ (k := t) (by omega)
      subst hbo
      have en := nowAt_of hx
      have el := lenAt_of hp
      clear hr
      by_cases g : x < p.length
      · have g' : decide (x < (p.length : Int)) = true := by simpa using g
        have Q : Hid (leftB ps now = false) := by
          show leftB ps now = false
          unfold leftB
          rw [List.all_eq_false]
          exact ⟨t, List.mem_range.2 hlt, by rw [en, el]; simpa using g⟩
        clear hx hp en el g
        go_wp2
        go_quiet (fail)
        go_wp2
        go_ret
        exact ⟨by rw [Q.out]; rfl, _, drewNN _ _ _⟩
      · have g' : decide (x < (p.length : Int)) = false := by simpa using g
        have Q : Hid (∀ u, u < t + 1 → (lenAt ps u : Int) ≤ nowAt now u) := fun u hu => by
          by_cases e : u = t
          · subst e; rw [en, el]; omega
          · exact HALL.out u (by omega)
        clear hx hp en el g
        go_wp2
        go_quiet (fail)
        go_wp2
        go_roundw
        case rel => exact ⟨t + 1, _, by omega, by go_num, rfl, Q.out⟩
        case measure => simp [intOf]; omega
    · obtain rfl : t = ps.length := by omega
      have Q : Hid (leftB ps now = true) := by
        show leftB ps now = true
        unfold leftB
        rw [List.all_eq_true]
        intro u hu
        have := HALL.out u (List.mem_range.1 hu)
        simpa using this
      go_wp2
      go_ret
      exact ⟨by rw [Q.out]; rfl, _, rfl⟩

set_option maxHeartbeats 1000000 in
theorem SameOrders_same (l : List Order) (A A2 : Option Addr) (c c2 : Nat) (w : World) (h : ROrders w (Old w) [.slice A l.length c] l) (h2 : ROrders w (Old w) [.slice A2 l.length c2] l) :
    Calls Tryz.prog 16 #[.slice A l.length c, .slice A2 l.length c2] w fun e w' => e = .returned (.bool true) ∧ KeepsAll w w' := by
  have hc := h.caps
  have hc2 := h2.caps
  have H := Lib.hid h; clear h
  have H2 := Lib.hid h2; clear h2
  go_enter Tryz.func16, Tryz.ntmps16
  go_wp2
  go_loopw [13] (fun v wr => ∃ k : Nat, k ≤ l.length ∧ v = .int .i64 (k : Int) ∧ KeepsAll w wr) (fun v _ => l.length - (intOf v).toNat)
  case atStart => exact ⟨0, Nat.zero_le _, rfl, Keeps.refl _ _⟩
  case round =>
    obtain ⟨k, hk, rfl, hkr⟩ := hrel
    have KR := Lib.hid hkr; clear hkr
    by_cases hlt : k < l.length
    · obtain ⟨b, o, x, Ax, cx, hbo, hb, hx, m0, m1, hus⟩ := ROrders.atK KR.out H.out hlt
      subst hbo
      obtain ⟨b2, o2, y, Ay, cy, hbo, hb2, hy, n0, n1, hus2⟩ := ROrders.atK KR.out H2.out hlt
      subst hbo
      obtain rfl := same_of hx hy
      have HCL : Hid (∀ xx : Ext wr, Calls Tryz.prog 42 #[.slice Ax x.uses.length cx, .slice Ay x.uses.length cy] xx.val fun e w'' => e = .returned (.bool true) ∧ ∃ y : Ext wr, w'' = y.val) := fun xx => ext_call xx ((SameRef_any x.uses x.uses Ax Ay cx cy xx.val (Old xx.val) (Old xx.val) ((KR.out.tr xx.keeps).rdo' RRefs.ok hus) ((KR.out.tr xx.keeps).rdo' RRefs.ok hus2)).mono (fun e w' ⟨h1, n, h2⟩ => ⟨h1.trans (by simp), by rw [h2]; exact (Keeps.refl _ _).drewN _⟩))
      clear hx hy hus hus2
      have hne : (x.res != x.res) = false := by simp
      have hdk : decide ((k : Int) < (l.length : Int)) = true := by simp; omega
      go_wp2
      refine wp_region_ext (by kernel_rfl) (by kernel_rfl) ?_
      have y0 := Ext.cell m0
      have y1 := Ext.cell m1
      have y2 := Ext.cell n0
      have y3 := Ext.cell n1
      repeat (go_big_quiet_step ((go_at_call 42; exact HCL.out _)))
      refine wpQuiet_nil ?_
      rintro _ ⟨X, rfl⟩
      have KX := Lib.hid (KR.out.tr X.keeps)
      clear y0 y1 y2 y3 m0 m1 n0 n1 HCL
      generalize X.val = WX at *
      go_wp2
      go_roundw
      case rel => exact ⟨k + 1, by omega, by go_num, KX.out⟩
      case measure => simp [intOf]; omega
    · obtain rfl : k = l.length := by omega
      have hdk : decide ((l.length : Int) < (l.length : Int)) = false := by simp
      go_wp2
      go_ret
      exact ⟨rfl, KR.out⟩

end Go.Proofs.YtbfgmbakeofcbaaGreat
