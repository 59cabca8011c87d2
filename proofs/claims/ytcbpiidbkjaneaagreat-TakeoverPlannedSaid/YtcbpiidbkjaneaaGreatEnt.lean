/- Contract of the maker of entries: what it returns fits the paths and ascends. Conditions: as the theorem says. -/
import Derived.Test.YtcbpiidbkjaneaaGreatSortP
import Derived.Test.YtcbpiidbkjaneaaGreatAtK
import Derived.Test.YtcbpiidbkjaneaaGreatMade
namespace Go.Proofs.YtcbpiidbkjaneaaGreat
open Go.RowKit

theorem tyIntss : ElemTy Tryz.prog 35 23 1 24 := .mk' Tryz.underlying35 (z := .slice none 0 0) (by kernel_rfl) rfl (by omega)
theorem rowAsc_snoc : ∀ (l : List Int) (x : Int), rowAsc l = true → (∀ y ∈ l, y ≤ x) → rowAsc (l ++ [x]) = true
  | [], _, _, _ => rfl
  | [a], x, _, h => by have := h a (by simp); simp [rowAsc, this]
  | a :: b :: r, x, h, hx => by
    simp only [rowAsc, Bool.and_eq_true] at h
    have := rowAsc_snoc (b :: r) x h.2 (fun y hy => hx y (by simp at hy ⊢; exact .inr hy))
    simp only [List.cons_append, rowAsc, Bool.and_eq_true] at this ⊢
    exact ⟨h.1, this⟩
theorem rowsOk_snoc : ∀ (ps : List (List Stage)) (en : List (List Int)) (p : List Stage) (l : List Int), en.length = ps.length → rowsOk ps en = true → l.length = p.length → rowAsc l = true → rowsOk (ps ++ [p]) (en ++ [l]) = true
  | [], [], p, l, _, _, h1, h2 => by simp [rowsOk, h1, h2]
  | [], _ :: _, _, _, h, _, _, _ => by simp at h
  | _ :: _, [], _, _, h, _, _, _ => by simp at h
  | q :: ps, m :: en, p, l, h, hr, h1, h2 => by
    simp only [List.cons_append, rowsOk, Bool.and_eq_true] at hr ⊢
    exact ⟨hr.1, rowsOk_snoc ps en p l (by simpa using h) hr.2 h1 h2⟩
/-- a row of integers that may be written -/
def RIntsU : Rd (List Int) := fun w S cs l => RInts w S cs l ∧ (l ≠ [] → ∀ b o n c, cs = [.slice (some ⟨b, o, none⟩) n c] → ∀ k, w.frozen? ⟨b, k, none⟩ = false)
abbrev RIntssU := RSlice 1 RIntsU
theorem RIntsU.ok : Rd.Ok RIntsU := by
  refine ⟨?_⟩
  intro w w' S S' cs l h hS hw
  refine ⟨RInts.ok.mono h.1 hS hw, fun hn b o n c hc k => ?_⟩
  obtain ⟨A, c', hc', _, _, h3⟩ := h.1
  obtain ⟨b', o', hA, hb, _⟩ := h3 hn
  subst hA
  rw [hc] at hc'
  injection hc' with hc' _
  injection hc' with hc' _ _
  injection hc' with hc'
  injection hc' with hc' _
  subst hc'
  have := h.2 hn b o n c hc k
  unfold World.frozen? at this ⊢
  rw [hw b hb]; exact this
theorem RIntssU.ok : Rd.Ok RIntssU := RSlice.ok RIntsU.ok
theorem RIntssU.plain {w : World} {S : Foot} {cs : List Value} {l : List (List Int)} (h : RIntssU w S cs l) : RIntss w S cs l := by
  obtain ⟨A, c, e, h1, h2, h3⟩ := h
  refine ⟨A, c, e, h1, h2, fun hn => ?_⟩
  obtain ⟨b, o, hA, hb, hx⟩ := h3 hn
  refine ⟨b, o, hA, hb, fun j x hj => ?_⟩
  obtain ⟨es, e1, e2, e3⟩ := hx j x hj
  exact ⟨es, e1, e2.1, e3⟩
theorem OwnL.thaw {α : Type} {t size : Nat} {E : Rd α} {w : World} {base lo : Nat} {b o n c : Nat} {l : List α} (h : OwnL t size E w base lo (.slice (some ⟨b, o, none⟩) n c) l) (k : Nat) : w.frozen? ⟨b, k, none⟩ = false := by
  obtain ⟨ess, _, h2, _⟩ := h
  rcases h2.2 with ⟨he, _⟩ | ⟨g, cap, cur, he, hb, hh, _⟩
  · cases he
  · injection he with he
    injection he with he
    injection he with he
    subst he
    simp [World.frozen?, hh]
/-- entries that fit -/
def EnOk (ps : List (List Stage)) (en : List (List Int)) : Prop := en.length = ps.length ∧ rowsOk ps en = true ∧ ∀ l ∈ en, ∀ x ∈ l, 0 ≤ x ∧ x ≤ 2000
structure EOut (ps : List (List Stage)) (w wr : World) (v : Value) (t : Nat) : Prop where
  k : KeepsAll w wr
  src : ∃ rest, Src wr (Old w) w.heap.size rest
  out : ∃ en, OwnL 23 1 RIntsU wr (w.heap.size + 1) (w.heap.size + 1) v en ∧ EnOk (ps.take t) en
structure ERow (w w0 wr : World) (v : Value) (row : List Int) (n : Nat) (x : Int) : Prop where
  k : Keeps (fun b => b = w.heap.size) w0 wr
  src : ∃ rest, Src wr (Old w) w.heap.size rest
  own : OwnL 3 1 RInt wr w0.heap.size w0.heap.size v row
  len : row.length = n
  asc : rowAsc row = true
  rng : ∀ y ∈ row, 0 ≤ y ∧ y ≤ x
  x0 : 0 ≤ x
  x1 : x ≤ 40 + 25 * n

set_option maxRecDepth 100000 in
set_option maxHeartbeats 2000000 in
theorem Enter_fresh (ps : List (List Stage)) (l : List Int) (A A2 : Option Addr) (c c2 : Nat) (w : World) (h : RPaths w (Old w) [.slice A ps.length c] ps) (h2 : RInts w (Old w) [.slice A2 l.length c2] l) (hps : ps.length ≤ 1000) (hpl : ∀ p ∈ ps, p.length ≤ 64) :
    Calls Tryz.prog 13 #[.slice A ps.length c, .slice A2 l.length c2] w fun e w' => ∃ v en, e = .returned v ∧ RIntssU w' (Fresh w w') [v] en ∧ EnOk ps en ∧ KeepsAll w w' := by
  have hc := h.caps
  have H := Lib.hid h; clear h
  have H2 := Lib.hid h2; clear h2
  have HPL := Lib.hid hpl; clear hpl
  go_enter Tryz.func13, Tryz.ntmps13
  go_wp2_with fail
  refine (From_any w A2 c2 l H2.out).mono ?_
  rintro e w1 ⟨rfl, hsrc1, hk1, hz1⟩
  have HI : Hid (EOut ps w w1 (.slice none 0 0) 0) := ⟨hk1, ⟨_, hsrc1⟩, [], OwnL.nil, rfl, rfl, by simp⟩
  clear hsrc1 hk1 hz1
  go_wp2
  go_loopw [6, 15] (fun v i wr => ∃ t : Nat, t ≤ ps.length ∧ i = .int .i64 t ∧ EOut ps w wr v t) (fun _ i _ => ps.length - (intOf i).toNat)
  case atStart => exact ⟨0, Nat.zero_le _, rfl, HI.out⟩
  case round =>
    obtain ⟨t, ht, rfl, hi⟩ := hrel
    clear HI
    have KR := Lib.hid hi.k
    obtain ⟨rest, hsrc⟩ := hi.src
    obtain ⟨en, hoe, hen⟩ := hi.out
    obtain ⟨Ao, co, rfl, hco, hco2⟩ := hoe.form
    have hzs := hsrc.lt
    have HSRC := Lib.hid hsrc; have HOE := Lib.hid hoe; have HEN := Lib.hid hen
    have henl : en.length ≤ 1000 := by have := hen.1; rw [List.length_take] at this; omega
    clear hi hsrc hoe hen
    by_cases hlt : t < ps.length
    · obtain ⟨b, o, p, A', c', hbo, hb, hp, k1, hr⟩ := RSS.atK KR.out H.out hlt
      subst hbo
      have hpl := HPL.out p (List.mem_of_getElem? hp)
      have HP := Lib.hid hp
      have hcp := hr.caps
      clear hp hr
      have hdt : decide ((t : Int) < (ps.length : Int)) = true := by simp; omega
      go_wp2_with fail
      refine (Next_any wr (Old w) w.heap.size rest 40 (by omega) (by omega) HSRC.out (fun b hb => ⟨by have : b < w.heap.size := hb; omega, by have : b < w.heap.size := hb; omega⟩)).mono ?_
      rintro e w3 ⟨rfl, hsrc3, hk3, hz3⟩
      have hnr := nextV_range rest 40 (by omega)
      generalize nextV rest 40 = x0 at hnr
      have K3 := Lib.hid (KR.out.trans hk3 (fun x hx e => by omega))
      have HOE3 := Lib.hid (HOE.out.keeps RIntsU.ok hk3 (fun b hb e => by omega))
      have HR0 : Hid (ERow w w3 w3 (.slice none 0 0) [] 0 x0) := ⟨Keeps.refl _ _, ⟨_, hsrc3⟩, OwnL.nil, rfl, rfl, by simp, hnr.1, by omega⟩
      have hw3 := hsrc3.lt
      clear hsrc3 hk3 hz3 HOE HSRC KR
      obtain ⟨wo, hwo⟩ : ∃ wo : World, wo = wr := ⟨_, rfl⟩
      clear hwo
      go_wp2
      go_loopw [9, 10, 23] (fun vx v i wr => ∃ (k : Nat) (x : Int) (row : List Int), k ≤ p.length ∧ i = .int .i64 k ∧ vx = .int .i64 x ∧ ERow w w3 wr v row k x) (fun _ _ i _ => p.length - (intOf i).toNat)
      case atStart => exact ⟨0, x0, [], Nat.zero_le _, rfl, rfl, HR0.out⟩
      case round =>
        obtain ⟨k, x, row, hk, rfl, rfl, hi⟩ := hrel
        clear HR0
        obtain ⟨rest2, hsrc⟩ := hi.src
        obtain ⟨Ar, cr, rfl, hcr, hcr2⟩ := hi.own.form
        have hzs := hsrc.lt
        have hx0 := hi.x0
        have hx1 := hi.x1
        have hrl : row.length ≤ 64 := by have := hi.len; omega
        have HI := Lib.hid hi
        have hkz := hi.k.size
        clear hi
        by_cases hlt2 : k < p.length
        · go_wp2_with (at_builtin; refine wpList_append_L tyInt RInt.ok rfl (.tmp 25) (.tmp 27) rfl (HI.out.own.alloc RInt.ok _) rfl _ [.int .i64 x] rfl (Blk.new' _ _ _ (by simp)) rfl x (S := fun _ => False) rfl (fun _ h => h.elim) (by simp [Value.oneCell']) (by omega) (by omega) (by simp; omega) ?_; intro v5 w5 HO5 HK5 HA5; obtain ⟨A5, c5, hv5, hv51, hv52⟩ := HO5.form; rw [List.length_append, List.length_singleton] at hv5; subst hv5)
          have FAR : ∀ b, b < w3.heap.size → ¬ ((Value.slice Ar row.length cr).ownBlock = some b) := fun b hb e => by have := HI.out.own.lt e; omega
          have K5 : Keeps (fun b => (Value.slice Ar row.length cr).ownBlock = some b) wr w5 := ((Keeps.refl _ wr).alloc _).trans HK5 (fun _ _ h => h)
          have hsrc5 := hsrc.keeps K5 (fun b hb => ⟨by have : b < w.heap.size := hb; omega, FAR b (by have : b < w.heap.size := hb; omega)⟩) (FAR _ hw3)
          have HK35 : Hid (Keeps (fun b => b = w.heap.size) w3 w5) := HI.out.k.trans K5 (fun x hx e => absurd e (FAR x hx))
          have HO5' := Lib.hid HO5
          have HS5 := Lib.hid hsrc5
          have hz5 := hsrc5.lt
          clear HO5 HK5 HA5 K5 FAR hsrc5
          refine (Next_any w5 (Old w) w.heap.size rest2 25 (by omega) (by omega) HS5.out (fun b hb => ⟨by have : b < w.heap.size := hb; omega, by have : b < w.heap.size := hb; omega⟩)).mono ?_
          rintro e w6 ⟨rfl, hsrc6, hk6, hz6⟩
          have hnr6 := nextV_range rest2 25 (by omega)
          generalize nextV rest2 25 = y at hnr6
          have HR6 : Hid (ERow w w3 w6 (.slice A5 (row.length + 1) c5) (row ++ [x]) (k + 1) (x + y)) := by
            refine ⟨HK35.out.trans hk6 (fun _ _ h => h), ⟨_, hsrc6⟩, HO5'.out.keeps RInt.ok hk6 (fun b hb e => by omega), by simp [HI.out.len], rowAsc_snoc _ _ HI.out.asc (fun z hz => (HI.out.rng z hz).2), fun z hz => ?_, by omega, by omega⟩
            rcases List.mem_append.1 hz with hz | hz
            · have := HI.out.rng z hz; omega
            · simp at hz; omega
          clear hsrc6 hk6 hz6
          go_wp2
          go_roundw
          case rel => exact ⟨k + 1, x + y, _, by omega, by go_num, rfl, HR6.out⟩
          case measure => simp [intOf]; omega
        · obtain rfl : k = p.length := by omega
          have HROW : Hid (RIntsU wr (fun b => w3.heap.size ≤ b ∧ b < wr.heap.size) [.slice Ar row.length cr] row) := ⟨HI.out.own.read RInt.ok (by omega) (fun _ a b => ⟨a, b⟩) (fun _ a b => ⟨a, b⟩), fun _ b o n c hc k => by injection hc with hc _; injection hc with hc _ _; subst hc; exact HI.out.own.thaw k⟩
          have HOEr := Lib.hid (HOE3.out.keeps RIntsU.ok HI.out.k (fun b hb e => by omega))
          have FARO : Hid (∀ b, w3.heap.size ≤ b → (Value.slice Ao en.length co).ownBlock ≠ some b) := fun b hb e => by have := HOE3.out.lt e; omega
          go_wp2_with (at_builtin; refine wpList_append_L tyIntss RIntsU.ok rfl (.tmp 34) (.tmp 36) rfl (HOEr.out.alloc RIntsU.ok _) rfl _ [.slice Ar row.length cr] rfl (Blk.new' _ _ _ (by simp)) rfl row (S := fun b => w3.heap.size ≤ b ∧ b < wr.heap.size) (((Keeps.refl (fun _ => False) wr).alloc _).rd RIntsU.ok HROW.out (fun b hb => ⟨hb.2, by simp⟩) (fun _ h => h)) (fun b hb => ⟨by have := hb.1; omega, by have := hb.2; simp; omega, FARO.out b hb.1⟩) (by simp [Value.oneCell']) (by omega) (by omega) (by simp; omega) ?_; intro v7 w7 HO7 HK7 HA7; obtain ⟨A7, c7, hv7, hv71, hv72⟩ := HO7.form; rw [List.length_append, List.length_singleton] at hv7; subst hv7)
          have FAR : ∀ b, b < w.heap.size + 1 → ¬ ((Value.slice Ao en.length co).ownBlock = some b) := fun b hb e => by have := HOEr.out.lt e; omega
          have K7 : Keeps (fun b => (Value.slice Ao en.length co).ownBlock = some b) wr w7 := ((Keeps.refl _ wr).alloc _).trans HK7 (fun _ _ h => h)
          have HF : Hid (EOut ps w w7 (.slice A7 (en.length + 1) c7) (t + 1)) := by
            refine ⟨(K3.out.trans HI.out.k (fun x hx e => by omega)).trans K7 (fun x hx e => absurd e (FAR x (by omega))), ⟨_, hsrc.keeps K7 (fun b hb => ⟨by have : b < w.heap.size := hb; omega, FAR b (by have : b < w.heap.size := hb; omega)⟩) (FAR _ (by omega))⟩, en ++ [row], HO7, ?_⟩
            have e : ps.take (t + 1) = ps.take t ++ [p] := by rw [List.take_add_one, HP.out]; rfl
            rw [e]
            refine ⟨by simp [HEN.out.1], rowsOk_snoc _ _ _ _ HEN.out.1 HEN.out.2.1 HI.out.len HI.out.asc, fun m hm z hz => ?_⟩
            rcases List.mem_append.1 hm with hm | hm
            · exact HEN.out.2.2 m hm z hz
            · simp at hm; subst hm
              have := HI.out.rng z hz; omega
          clear HO7 HK7 HA7 K7 FAR
          go_roundw
          case rel => exact ⟨t + 1, by omega, by go_num, HF.out⟩
          case measure => simp [intOf]; omega
    · obtain rfl : t = ps.length := by omega
      rw [List.take_length] at HEN
      go_wp2
      go_ret
      exact ⟨_, en, rfl, HOE.out.read RIntsU.ok (by omega) (S := Fresh w wr) (fun b h1 h2 => ⟨by omega, h2⟩) (fun b h1 h2 => ⟨by omega, h2⟩), HEN.out, KR.out⟩

theorem Enter_any (ps : List (List Stage)) (l : List Int) (A A2 : Option Addr) (c c2 : Nat) (w : World) (h : RPaths w (Old w) [.slice A ps.length c] ps) (h2 : RInts w (Old w) [.slice A2 l.length c2] l) (hps : ps.length ≤ 1000) (hpl : ∀ p ∈ ps, p.length ≤ 64) :
    Calls Tryz.prog 13 #[.slice A ps.length c, .slice A2 l.length c2] w fun e w' => ∃ v en, e = .returned v ∧ RIntss w' (Old w') [v] en ∧ EnOk ps en ∧ KeepsAll w w' :=
  (Enter_fresh ps l A A2 c c2 w h h2 hps hpl).mono fun _ w' ⟨v, en, h1, h2, h3, h4⟩ => ⟨v, en, h1, RIntss.ok.mono (S' := Old w') h2.plain (fun _ hb => hb.2) (fun _ _ => rfl), h3, h4⟩

end Go.Proofs.YtcbpiidbkjaneaaGreat
