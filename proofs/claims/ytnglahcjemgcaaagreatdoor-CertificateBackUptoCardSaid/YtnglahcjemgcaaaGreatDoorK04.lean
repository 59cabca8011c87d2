/- Contracts of the reference's plain, one and Lines: the lines of words of a text. Conditions: as each theorem says. Contract of the reference's Lines: the lines of words of a text. Conditions: as each theorem says. Contracts of Number, of the program and of the reference: both return numV. Conditions: as each theorem says. -/
import Derived.Test.YtnglahcjemgcaaaGreatDoorK03
import Derived.Test.YtnglahcjemgcaaaGreatDoorK02
import Derived.BigRegion
import Derived.Test.YtnglahcjemgcaaaGreatDoorK01
import Derived.Deep.Cut
namespace Go.Proofs.YtnglahcjemgcaaaGreatDoor
section
open Go.RowKit

theorem plain_any (c : UInt8) (w : World) : Calls Tryz.prog 51 #[.int .u8 c.toNat] w fun e w' => e = .returned (.bool (isW c)) ∧ w = w' := by
  have HC : Hid (isW c = (decide (33 ≤ (c.toNat : Int)) && decide ((c.toNat : Int) ≤ 126) && !decide ((c.toNat : Int) = 35))) := by
    show _ = _
    have h35 := u8_int c 35
    have e4 : (35 : UInt8).toNat = 35 := rfl
    rw [e4] at h35
    unfold isW isP
    rw [Bool.eq_iff_iff]
    simp only [Bool.and_eq_true, decide_eq_true_eq, UInt8.le_iff_toNat_le, bne_iff_ne, ne_eq, h35, Bool.not_eq_true', decide_eq_false_iff_not]
    have e1 : (33 : UInt8).toNat = 33 := rfl
    have e2 : (126 : UInt8).toNat = 126 := rfl
    rw [e1, e2]
    norm_cast
  have hr : 0 ≤ (c.toNat : Int) := by omega
  rw [HC.out]
  clear HC
  generalize (c.toNat : Int) = x at *
  go_enter Tryz.func51, Tryz.ntmps51
  go_wp2
  all_goals (go_ret; refine ⟨congrArg (fun b => Ending.returned (Value.bool b)) ?_, rfl⟩; rw [Bool.eq_iff_iff]; simp_all <;> omega)
theorem flatten_set3 : ∀ (ess : List (List Value)) (k : Nat) (a b c a' : Value), (∀ es ∈ ess, es.length = 3) → ess[k]? = some [a, b, c] → (ess.set k [a', b, c]).flatten = ess.flatten.set (k * 3) a'
  | [], k, a, b, c, a', _, h => by simp at h
  | e :: rest, 0, a, b, c, a', _, h => by simp at h; subst h; simp
  | e :: rest, k + 1, a, b, c, a', hl, h => by
    have ih := flatten_set3 rest k a b c a' (fun es hes => hl es (List.mem_cons_of_mem _ hes)) (by simpa using h)
    obtain ⟨p, q, r, rfl⟩ : ∃ p q r, e = [p, q, r] := by
      have := hl e (List.mem_cons_self ..)
      match e, this with
      | [p, q, r], _ => exact ⟨p, q, r, rfl⟩
    rw [List.set_cons_succ, List.flatten_cons, List.flatten_cons, ih, show (k + 1) * 3 = k * 3 + 1 + 1 + 1 from by omega]
    rfl
/-- a line's word gets another text -/
theorem OwnL.setT {t : Nat} {w : World} {base lo : Nat} {g n c : Nat} {l : List Wd} {k : Int} (h : OwnL t 3 (RWd k) w base lo (.slice (some ⟨g, 0, none⟩) n c) l) {j : Nat} {x : Wd} (hx : l[j]? = some x) (u : Bs) :
    OwnL t 3 (RWd k) (w.setCell ⟨g, j * 3, none⟩ (.string (mkS u))) base lo (.slice (some ⟨g, 0, none⟩) n c) (l.set j (u, x.2)) := by
  obtain ⟨ess, h1, h2, h3⟩ := h
  have hk : j < l.length := (List.getElem?_eq_some_iff.1 hx).1
  obtain ⟨es, e1, e2, e3⟩ := h3 j x hx
  have hall : ∀ es ∈ ess, es.length = 3 := by
    intro es hes
    obtain ⟨i, hi, e⟩ := List.getElem_of_mem hes
    have hl : i < l.length := by omega
    obtain ⟨es', e1, e2, _⟩ := h3 i l[i] (List.getElem?_eq_getElem hl)
    rw [List.getElem?_eq_getElem hi, e] at e1
    injection e1 with e1; subst e1; exact e2
  cases e3
  rcases h2.2 with ⟨hh, _⟩ | ⟨g', cap, cur, he, hb, hh, hnc, hcm, hcs, htk⟩
  · cases hh
  injection he with he hn hc
  injection he with he; injection he with he; subst he hc hn
  have hlt : j * 3 < l.length * 3 := by omega
  refine ⟨ess.set j [.string (mkS u), .int .i64 k, .int .i64 x.2], by simp [h1], ⟨?_, .inr ⟨g, c, cur.setIfInBounds (j * 3) (.string (mkS u)), by rw [List.length_set], hb, Blk.set_ (t := t) (cs := cur) hh (j * 3) _, by rw [List.length_set]; exact hnc, hcm, by simpa using hcs, ?_⟩⟩, fun i y hy => ?_⟩
  · rw [flatten_set3 ess j _ _ _ _ hall e1, List.length_set, List.length_set, h2.1]
  · rw [flatten_set3 ess j _ _ _ _ hall e1, List.length_set, Array.toList_setIfInBounds, List.take_set, htk]
  · rw [List.getElem?_set] at hy
    have hlen : ess.length = l.length := h1
    by_cases e : j = i
    · subst e
      rw [if_pos rfl, if_pos hk] at hy
      injection hy with hy; subst hy
      exact ⟨[.string (mkS u), .int .i64 k, .int .i64 x.2], by rw [List.getElem?_set_self (by omega)], rfl, rfl⟩
    · rw [if_neg e] at hy
      obtain ⟨es, f1, f2, f3⟩ := h3 i y hy
      exact ⟨es, by rw [List.getElem?_set_ne e]; exact f1, f2, f3⟩
theorem OwnL.wd {t : Nat} {w : World} {base lo : Nat} {A : Option Addr} {n c : Nat} {l : List Wd} {k : Int} (h : OwnL t 3 (RWd k) w base lo (.slice A n c) l) {j : Nat} {x : Wd} (hx : l[j]? = some x) :
    ∃ g, A = some ⟨g, 0, none⟩ ∧ base ≤ g ∧ w.cell? ⟨g, j * 3, none⟩ = some (.string (mkS x.1)) ∧ w.frozen? ⟨g, j * 3, none⟩ = false := by
  have hj : j < l.length := (List.getElem?_eq_some_iff.1 hx).1
  have hr := h.readT RWd.flt (S := fun _ => True) (fun _ _ => trivial)
  obtain ⟨ess, h1, h2, h3⟩ := h
  rcases h2.2 with ⟨e, hn⟩ | ⟨g', cap, cur, e, hb, hh, _⟩
  · omega
  · injection e with e1 e2 e3
    subst e1 e2 e3
    obtain ⟨b, o, y, es, hA, -, hy, hl, he, hc⟩ := hr.get hj
    injection hA with hA
    injection hA with hA1 hA2
    subst hA1 hA2
    rw [hx] at hy
    injection hy with hy
    subst hy
    cases he
    refine ⟨g', rfl, hb, ?_, Blk.frozen (t := t) (cs := cur) hh _⟩
    have := hc 0 _ rfl
    simpa using this
theorem mkS_app (a b : Bs) : mkS a ++ mkS b = mkS (a ++ b) := by unfold mkS; rw [ByteArray.mk_append_mk]
def OneE (k : Int) (w w' : World) (e : Ending) : Option (List Wd) → Prop
  | none => e = .returned (.tuple #[.slice none 0 0, .int .i64 2])
  | some ws => if 64 < ws.length then e = .returned (.tuple #[.slice none 0 0, .int .i64 7]) else ∃ A c, e = .returned (.tuple #[.slice A ws.length c, .int .i64 0]) ∧ RWds k w' (Fresh w w') [.slice A ws.length c] ws
/-- the last byte read: whether it is one of a word -/
def LastW (l : Bs) (n : Nat) (c : Bs) : Prop := (c = [] → ∀ m x, n = m + 1 → l[m]? = some x → isW x = false) ∧ (c ≠ [] → ∃ m x, n = m + 1 ∧ l[m]? = some x ∧ isW x = true ∧ c.length ≤ n)
set_option maxHeartbeats 4000000 in
set_option maxRecDepth 100000 in
theorem one_any (t : Bs) (htl : t.length ≤ 65536) (k : Int) (w : World) : Calls Tryz.prog 33 #[.string (mkS t), .int .i64 k] w fun e w' => OneE k w w' e (wordsL t) ∧ KeepsAll w w' := by
  have hts : (mkS t).size = t.length := mkS_size t
  have key : ∀ (i : Nat) (h : i < (mkS t).size), t[i]? = some ((mkS t)[i]) := fun i h => by
    have hi : i < t.length := by rw [← hts]; exact h
    rw [mkS_at t i t[i] (List.getElem?_eq_getElem hi) h, List.getElem?_eq_getElem hi]
  have KEY := Lib.hid key
  have HEX : Hid (∀ n x, t[n]? = some x → (mkS t).extract n (n + 1) = mkS [x]) := fun n x hx => by
    rw [mkS_ext]
    congr 1
    have hn : n < t.length := (List.getElem?_eq_some_iff.1 hx).1
    rw [List.take_add_one, hx, Option.toList_some, List.drop_append_of_le_length (by simp; omega), List.drop_eq_nil_of_le (by simp; omega), List.nil_append]
  clear key
  generalize mkS t = tb at *
  go_enter Tryz.func33, Tryz.ntmps33
  go_wp2
  go_loopw [4, 5, 6, 7] (fun v4 v5 v6 i wr => ∃ (n : Nat) (a : List Wd) (c : Bs), n ≤ t.length ∧ i = .int .i64 (n : Int) ∧ v4 = .slice none 0 0 ∧ v5 = .int .i64 0 ∧ OwnL 46 3 (RWd k) wr w.heap.size w.heap.size v6 (flushW a c n) ∧ KeepsAll w wr ∧ scanW (t.drop n) a c n = wordsL t ∧ LastW t n c ∧ a.length + c.length ≤ n) (fun _ _ _ i _ => t.length - (intOf i).toNat)
  case atStart => exact ⟨0, [], [], Nat.zero_le _, rfl, rfl, rfl, OwnL.nil, Keeps.refl _ _, rfl, ⟨(fun _ m x h => by cases h), fun h => absurd rfl h⟩, Nat.le_refl _⟩
  case round =>
    obtain ⟨n, a, c, hn, rfl, rfl, rfl, ho, hk, hsc, hst, ha⟩ := hrel
    obtain ⟨A, cp, rfl, hcp1, hcp2⟩ := ho.form
    have HO := Lib.hid ho
    have HK := Lib.hid hk
    have HST := Lib.hid hst
    have hsz := hk.size
    clear ho hk hst
    by_cases hlt : n < t.length
    · obtain ⟨x, hx⟩ : ∃ x, t[n]? = some x := ⟨t[n], List.getElem?_eq_getElem hlt⟩
      have hxe : ∀ h : n < tb.size, ((tb[n]).toNat : Int) = (x.toNat : Int) := fun h => by have := KEY.out n h; rw [hx] at this; rw [Option.some.inj this]
      have hdr : t.drop n = x :: t.drop (n + 1) := by
        rw [List.drop_eq_getElem_cons hlt]
        congr 1
        rw [List.getElem?_eq_getElem hlt] at hx
        exact Option.some.inj hx
      rw [hdr, scanW] at hsc
      have HX := Lib.hid (HEX.out n x hx)
      have HPL := Lib.hid (plain_any x wr)
      have h35 := u8_int x 35
      have h32 := u8_int x 32
      have h9 := u8_int x 9
      have e35 : (35 : UInt8).toNat = 35 := rfl
      have e32 : (32 : UInt8).toNat = 32 := rfl
      have e9 : (9 : UInt8).toNat = 9 := rfl
      rw [e35] at h35
      rw [e32] at h32
      rw [e9] at h9
      clear hdr e35 e32 e9
      have hzr : 0 ≤ (x.toNat : Int) := by omega
      by_cases hx35 : x = 35
      · have hz : (x.toNat : Int) = 35 := by rw [h35] at hx35; exact_mod_cast hx35
        rw [if_pos hx35] at hsc
        have HWF := hsc.symm
        clear hsc h35 h32 h9 hx35 HPL HX hx
        generalize (x.toNat : Int) = z at *
        subst hz
        have HW : Hid (wordsL t = some (flushW a c n)) := HWF
        generalize flushW a c n = ws at *
        by_cases h64 : 64 < ws.length
        · go_wp2
          refine bodyPost_ret (v := .tuple #[.slice none 0 0, .int .i64 7]) (by simp [results, Tryz.results33, go_sem]) rfl ?_
          exact ⟨by rw [HW.out]; show (if _ then _ else _); rw [if_pos h64], HK.out⟩
        · go_wp2
          refine bodyPost_ret (v := .tuple #[.slice A ws.length cp, .int .i64 0]) (by simp [results, Tryz.results33, go_sem]) rfl ?_
          exact ⟨by rw [HW.out]; show (if _ then _ else _); rw [if_neg h64]; exact ⟨A, cp, rfl, HO.out.readT RWd.flt (fun b hb => HO.out.lt hb)⟩, HK.out⟩
      · have hz35 : ¬ (x.toNat : Int) = 35 := fun h => hx35 (by rw [h35]; exact_mod_cast h)
        rw [if_neg hx35] at hsc
        have hz35b : ((x.toNat : Int) == 35) = false := by simpa using hz35
        by_cases hbl : isBl x = true
        · rw [if_pos hbl] at hsc
          have hz : (x.toNat : Int) = 32 ∨ (x.toNat : Int) = 9 := by
            simp only [isBl, Bool.or_eq_true, beq_iff_eq, h32, h9] at hbl
            exact_mod_cast hbl
          have HSC := Lib.hid hsc
          have HF : Hid (flushW (flushW a c n) [] (n + 1) = flushW a c n) := rfl
          have hwx : isW x = false := by
            simp only [isBl, Bool.or_eq_true, beq_iff_eq] at hbl
            rcases hbl with rfl | rfl <;> decide
          have HL : Hid (LastW t (n + 1) []) := ⟨fun _ m y hm hy => by
            have : m = n := by omega
            subst this
            rw [hx] at hy
            rw [← Option.some.inj hy]
            exact hwx, fun h => absurd rfl h⟩
          have hfl : (flushW a c n).length ≤ n := by
            unfold flushW; split
            · omega
            · rename_i h0; have := List.length_pos_iff.2 h0; simp; omega
          clear hsc h35 h32 h9 hx35 HPL HX hx hbl hwx HST
          generalize (x.toNat : Int) = z at *
          have hrel2 : ∃ (n' : Nat) (a' : List Wd) (c' : Bs), n' ≤ t.length ∧ (n' : Int) = (n : Int) + 1 ∧ OwnL 46 3 (RWd k) wr w.heap.size w.heap.size (.slice A (flushW a c n).length cp) (flushW a' c' n') ∧ KeepsAll w wr ∧ scanW (t.drop n') a' c' n' = wordsL t ∧ LastW t n' c' ∧ a'.length + c'.length ≤ n' := ⟨n + 1, flushW a c n, [], by omega, by omega, by rw [HF.out]; exact HO.out, HK.out, HSC.out, HL.out, by simp; omega⟩
          have HREL := Lib.hid hrel2
          clear hrel2 hfl
          generalize (flushW a c n).length = fl at *
          rcases hz with rfl | rfl
          · go_wp2
            obtain ⟨n', a', c', q1, q2, q3, q4, q5, q6, q7⟩ := HREL.out
            go_roundw
            case rel => exact ⟨n', a', c', q1, by rw [q2], rfl, rfl, q3, q4, q5, q6, q7⟩
            case measure => simp [intOf]; omega
          · go_wp2
            obtain ⟨n', a', c', q1, q2, q3, q4, q5, q6, q7⟩ := HREL.out
            go_roundw
            case rel => exact ⟨n', a', c', q1, by rw [q2], rfl, rfl, q3, q4, q5, q6, q7⟩
            case measure => simp [intOf]; omega
        · rw [if_neg hbl] at hsc
          have hz32 : ¬ (x.toNat : Int) = 32 := fun h => hbl (by simp only [isBl, Bool.or_eq_true, beq_iff_eq, h32]; left; exact_mod_cast h)
          have hz9 : ¬ (x.toNat : Int) = 9 := fun h => hbl (by simp only [isBl, Bool.or_eq_true, beq_iff_eq, h9]; right; exact_mod_cast h)
          have hz32b : ((x.toNat : Int) == 32) = false := by simpa using hz32
          have hz9b : ((x.toNat : Int) == 9) = false := by simpa using hz9
          by_cases hp : isP x = true
          · rw [if_pos hp] at hsc
            have hwx : isW x = true := by simp [isW, hp, hx35]
            rw [hwx] at HPL
            have HSC := Lib.hid hsc
            have HXT := HX
            clear hsc h35 h32 h9 hbl hp hzr
            rcases Nat.eq_zero_or_pos n with rfl | hnp
            · obtain rfl : c = [] := by
                cases c with
                | nil => rfl
                | cons y r =>
                  obtain ⟨m, _, h, _⟩ := HST.out.2 (by simp)
                  omega
              have hXX : tb.extract 0 1 = mkS [x] := HX.out
              have HL : Hid (LastW t 1 [x]) := ⟨(fun h => by cases h), fun _ => ⟨0, x, rfl, hx, hwx, by simp⟩⟩
              have ho0 : OwnL 46 3 (RWd k) wr w.heap.size w.heap.size (.slice A a.length cp) a := HO.out
              have HO0 := Lib.hid ho0
              have HF : Hid (flushW a [x] 1 = a ++ [([x], 1)]) := rfl
              have ha0 : a.length = 0 := by simpa using ha
              have HA0 := Lib.hid ha0
              have hla : a.length ≤ 70000 := by omega
              rw [show flushW a [] 0 = a from rfl]
              clear HX HXT HO HEX hx hx35 HST ho0 hcp1 ha KEY ha0
              generalize (x.toNat : Int) = z at *
              go_wp2_with (first | (go_at_call 51; refine (HPL.out).mono ?_; rintro e w' ⟨rfl, rfl⟩) | (at_builtin; go_loud (have KB : KeepsAll wr (wr.alloc (.cells #[.string (mkS [x]), .int .i64 k, .int .i64 1] 46)) := (Keeps.refl _ _).alloc _; refine wpList_append_L tyWd RWd.ok rfl (.tmp 63) (.tmp 73) rfl (HO0.out.keepsT RWd.flt KB (by simp)) rfl _ [.string (mkS [x]), .int .i64 k, .int .i64 1] rfl (Blk.new wr 46 #[.string (mkS [x]), .int .i64 k, .int .i64 1]) rfl (([x], 1) : Wd) (S := fun _ => False) rfl (fun _ h => h.elim) (by simp [Value.oneCell']) (by omega) (by omega) (by simp; omega) ?_; intro v8 w8 HO8 HK8 HA8)))
              go_roundw
              case rel =>
                obtain ⟨A8, c8, hv8, hc8, hc9⟩ := HO8.form
                exact ⟨1, a, [x], by omega, rfl, rfl, rfl, by rw [HF.out]; exact HO8, (HK.out.alloc _).trans HK8 (fun y hy e => by have := (HO0.out.lt e).1; omega), HSC.out, HL.out, by have := HA0.out; show a.length + 1 ≤ 1; omega⟩
              case measure => simp [intOf]; omega
            · obtain ⟨m, rfl⟩ : ∃ m, n = m + 1 := ⟨n - 1, by omega⟩
              obtain ⟨y, hy⟩ : ∃ y, t[m]? = some y := ⟨t[m], List.getElem?_eq_getElem (by omega)⟩
              have hye : ∀ h : m < tb.size, ((tb[m]).toNat : Int) = (y.toNat : Int) := fun h => by have := KEY.out m h; rw [hy] at this; rw [Option.some.inj this]
              have HP2 := Lib.hid (plain_any y wr)
              have HL : Hid (LastW t (m + 1 + 1) (c ++ [x])) := ⟨(fun h => by simp at h), fun _ => ⟨m + 1, x, rfl, hx, hwx, by have := ha; simp; omega⟩⟩
              have hXX : tb.extract (m + 1) (m + 1 + 1) = mkS [x] := HX.out
              by_cases hc : c = []
              · subst hc
                have hyw : isW y = false := HST.out.1 rfl m y rfl hy
                rw [hyw] at HP2
                have ho0 : OwnL 46 3 (RWd k) wr w.heap.size w.heap.size (.slice A a.length cp) a := HO.out
                have HO0 := Lib.hid ho0
                have HF : Hid (flushW a [x] (m + 1 + 1) = a ++ [([x], ((m : Int) + 1) + 1)]) := by
                  show _ = _
                  unfold flushW
                  rw [if_neg (by simp)]
                  have : (((m + 1 + 1 : Nat)) : Int) - (([x] : Bs).length : Int) + 1 = ((m : Int) + 1) + 1 := by simp
                  rw [this]
                have hla : a.length ≤ 70000 := by have := ha; simp at this; omega
                have hlm : a.length ≤ m + 1 := by have := ha; simpa using this
                rw [show flushW a [] (m + 1) = a from rfl]
                clear HX HXT HO HEX hx hx35 HST ho0 hcp1 ha KEY hy
                generalize (x.toNat : Int) = z at *
                generalize (y.toNat : Int) = z2 at *
                go_wp2_with (first | (go_at_call 51; with_reducible refine (HPL.out).mono ?_; rintro e w' ⟨rfl, rfl⟩) | (go_at_call 51; with_reducible refine (HP2.out).mono ?_; rintro e w' ⟨rfl, rfl⟩) | (at_builtin; go_loud (have KB : KeepsAll wr (wr.alloc (.cells #[.string (mkS [x]), .int .i64 k, .int .i64 ((m : Int) + 1 + 1)] 46)) := (Keeps.refl _ _).alloc _; refine wpList_append_L tyWd RWd.ok rfl (.tmp 63) (.tmp 73) rfl (HO0.out.keepsT RWd.flt KB (by simp)) rfl _ [.string (mkS [x]), .int .i64 k, .int .i64 ((m : Int) + 1 + 1)] rfl (Blk.new wr 46 #[.string (mkS [x]), .int .i64 k, .int .i64 ((m : Int) + 1 + 1)]) rfl (([x], (m : Int) + 1 + 1) : Wd) (S := fun _ => False) rfl (fun _ h => h.elim) (by simp [Value.oneCell']) (by omega) (by omega) (by simp; omega) ?_; intro v8 w8 HO8 HK8 HA8)))
                go_roundw
                case rel => exact ⟨m + 1 + 1, a, [x], by omega, by go_num, rfl, rfl, by rw [HF.out]; exact HO8, (HK.out.alloc _).trans HK8 (fun y hy e => by have := (HO0.out.lt e).1; omega), HSC.out, HL.out, by simp; omega⟩
                case measure => simp [intOf]; omega
              · obtain ⟨m', y', hm', hy', hyw, hcl⟩ := HST.out.2 hc
                obtain rfl : m' = m := by omega
                rw [hy] at hy'
                obtain rfl := Option.some.inj hy'
                rw [hyw] at HP2
                obtain ⟨col, hcol⟩ : ∃ col : Int, col = ((m' + 1 : Nat) : Int) - c.length + 1 := ⟨_, rfl⟩
                have hfl : flushW a c (m' + 1) = a ++ [(c, col)] := by unfold flushW; rw [if_neg hc, hcol]
                have HF : Hid (flushW a (c ++ [x]) (m' + 1 + 1) = a ++ [(c ++ [x], col)]) := by
                  show _ = _
                  unfold flushW
                  rw [if_neg (by simp), hcol]
                  have : (((m' + 1 + 1 : Nat)) : Int) - ((c ++ [x]).length : Int) + 1 = ((m' + 1 : Nat) : Int) - c.length + 1 := by simp; omega
                  rw [this]
                have hfll : (a ++ [((c, col) : Wd)]).length = a.length + 1 := by simp
                rw [hfl, hfll] at HO
                rw [hfl, hfll]
                have hac : a.length + c.length ≤ m' + 1 := ha
                obtain ⟨g, rfl, hg, hcell, hfz⟩ := HO.out.wd (j := a.length) (x := (c, col)) (by simp)
                have hst2 := HO.out.setT (j := a.length) (x := (c, col)) (by simp) (c ++ [x])
                have hset : (a ++ [((c, col) : Wd)]).set a.length (c ++ [x], col) = a ++ [(c ++ [x], col)] := by
                  rw [List.set_append_right _ _ (Nat.le_refl _)]
                  simp
                have happ : mkS c ++ mkS [x] = mkS (c ++ [x]) := mkS_app c [x]
                have HS2 : Hid (OwnL 46 3 (RWd k) (wr.setCell ⟨g, a.length * 3, none⟩ (.string (mkS (c ++ [x])))) w.heap.size w.heap.size (.slice (some ⟨g, 0, none⟩) (a.length + 1) cp) (a ++ [(c ++ [x], col)])) := by
                  have := hst2
                  rw [hset] at this
                  exact this
                have HKS : Hid (KeepsAll w (wr.setCell ⟨g, a.length * 3, none⟩ (.string (mkS (c ++ [x]))))) := HK.out.setCell (fun h => by have : g < w.heap.size := h; omega) _
                have hcx : (c ++ [x]).length = c.length + 1 := by simp
                have hmx : (mkS [x]).size = 1 := mkS_size _
                have hal1 : (a.length : Int) < (a.length : Int) + 1 := by omega
                have hcs : (mkS c).size = c.length := mkS_size c
                have HCX := Lib.hid hcx
                clear HX HXT HO HEX hx hx35 HST hcp1 ha KEY hy hst2 hset hfl hfll hcol hc hcl hyw hm' hcx
                generalize (x.toNat : Int) = z at *
                generalize (y.toNat : Int) = z2 at *
                generalize mkS (c ++ [x]) = nt at *
                generalize mkS c = ct at *
                go_wp2_with (first | (go_at_call 51; with_reducible refine (HPL.out).mono ?_; rintro e w' ⟨rfl, rfl⟩) | (go_at_call 51; with_reducible refine (HP2.out).mono ?_; rintro e w' ⟨rfl, rfl⟩))
                refine wp_region_lex (fun w' => ∃ x : Ext wr, w' = x.val) [0, 1, 2, 3, 4, 5, 6, 7, 8, 9, 10, 11, 12, 13, 14, 15] (by kernel_rfl) (by kernel_rfl) ⟨⟨_, (Keeps.refl _ _).drew⟩, rfl⟩ ?_
                have y0 := Ext.cell hcell
                iterate 15 (refine lex_q _ rfl rfl rfl ?_; go_big_quiet_step (fail); refine wpQuiet_nil ?_)
                clear y0
                refine lex_a _ rfl rfl false (by kernel_rfl) ?_
                go_wp2
                (try refine ⟨fun h => (by cases h), ?_⟩)
                simp only [wpLex]
                refine NoPanic.normal ?_
                go_wp2
                go_roundw
                case rel => exact ⟨m' + 1 + 1, a, c ++ [x], by omega, by go_num, rfl, rfl, by rw [HF.out]; exact HS2.out.drew RWd.ok, HKS.out.drew, HSC.out, HL.out, by rw [HCX.out]; omega⟩
                case measure => simp [intOf]; omega
          · rw [if_neg hp] at hsc
            have HN : Hid (wordsL t = none) := hsc.symm
            have hwx : isW x = false := by simp [isW, hp]
            rw [hwx] at HPL
            clear hsc h35 h32 h9 hx35 HX hx hbl hwx HST hp
            generalize (x.toNat : Int) = z at *
            go_wp2_with (go_at_call 51; refine (HPL.out).mono ?_; rintro e w' ⟨rfl, rfl⟩)
            refine bodyPost_ret (v := .tuple #[.slice none 0 0, .int .i64 2]) (by simp [results, Tryz.results33, go_sem]) rfl ?_
            exact ⟨by rw [HN.out]; rfl, HK.out⟩
    · obtain rfl : n = t.length := by omega
      rw [List.drop_length, scanW] at hsc
      have HWF := hsc.symm
      clear hsc
      have hnn : ¬ t.length < t.length := by omega
      have HW : Hid (wordsL t = some (flushW a c t.length)) := HWF
      generalize flushW a c t.length = ws at *
      by_cases h64 : 64 < ws.length
      · go_wp2
        refine bodyPost_ret (v := .tuple #[.slice none 0 0, .int .i64 7]) (by simp [results, Tryz.results33, go_sem]) rfl ?_
        exact ⟨by rw [HW.out]; show (if _ then _ else _); rw [if_pos h64], HK.out⟩
      · go_wp2
        refine bodyPost_ret (v := .tuple #[.slice A ws.length cp, .int .i64 0]) (by simp [results, Tryz.results33, go_sem]) rfl ?_
        exact ⟨by rw [HW.out]; show (if _ then _ else _); rw [if_neg h64]; exact ⟨A, cp, rfl, HO.out.readT RWd.flt (fun b hb => HO.out.lt hb)⟩, HK.out⟩
end

section
open Go.RowKit

theorem piece_hit (s : Bs) (n m : Nat) (hnm : n ≤ m) (hm : m < s.length) (hno : ∀ q, n ≤ q → q < m → s[q]? ≠ some 10) (hx : s[m]? = some 10) :
    piecesL (s.drop n) = ((s.take m).drop n) :: piecesL (s.drop (m + 1)) := by
  have e : s.drop n = ((s.take m).drop n) ++ 10 :: s.drop (m + 1) := by
    have h1 : s = s.take m ++ 10 :: s.drop (m + 1) := by
      have h2 : s.drop m = 10 :: s.drop (m + 1) := by
        rw [List.drop_eq_getElem_cons hm]
        congr 1
        rw [List.getElem?_eq_getElem hm] at hx
        exact Option.some.inj hx
      rw [← h2, List.take_append_drop]
    conv => lhs; rw [h1]
    rw [List.drop_append_of_le_length (by simp; omega)]
  rw [e]
  refine piecesL_hit _ _ (fun c hc => ?_)
  rintro rfl
  obtain ⟨i, hi, hc2⟩ := List.getElem_of_mem hc
  have hi2 : n + i < m := by simp at hi; omega
  refine hno (n + i) (by omega) hi2 ?_
  rw [List.getElem_drop, List.getElem_take] at hc2
  rw [List.getElem?_eq_getElem (by omega), hc2]
theorem piece_end (s : Bs) (n : Nat) (hno : ∀ q, n ≤ q → q < s.length → s[q]? ≠ some 10) : piecesL (s.drop n) = [(s.take s.length).drop n] := by
  rw [List.take_length]
  refine piecesL_none _ (fun c hc => ?_)
  rintro rfl
  obtain ⟨i, hi, hc2⟩ := List.getElem_of_mem hc
  have hi2 : n + i < s.length := by simp at hi; omega
  refine hno (n + i) (by omega) hi2 ?_
  rw [List.getElem_drop] at hc2
  rw [List.getElem?_eq_getElem hi2, hc2]
/-- one piece more -/
theorem piece_go (s : Bs) (n m k : Nat) (acc : List Ln) (hnm : n ≤ m) (hm : m ≤ s.length) (hno : ∀ q, n ≤ q → q < m → s[q]? ≠ some 10) (hx : m = s.length ∨ s[m]? = some 10) :
    goLines (piecesL (s.drop n)) k acc = match wordsL ((s.take m).drop n) with
      | none => .inr (k, 2)
      | some ws => if 64 < ws.length then .inr (k, 7) else goLines (piecesL (s.drop (m + 1))) (k + 1) (if ws = [] then acc else acc ++ [(k, ws)]) := by
  by_cases h : m = s.length
  · subst h
    rw [piece_end s n hno, goLines]
    have e : s.drop (s.length + 1) = [] := List.drop_eq_nil_of_le (by omega)
    rw [e]
    cases wordsL ((s.take s.length).drop n) with
    | none => rfl
    | some ws =>
      simp only []
      split
      · rfl
      · rw [show piecesL [] = [[]] from rfl, goLines_end]
        rfl
  · rw [piece_hit s n m hnm (by omega) hno (hx.resolve_left h), goLines]
    cases wordsL ((s.take m).drop n) <;> rfl
set_option maxHeartbeats 8000000 in
set_option maxRecDepth 100000 in
theorem rLines_any (s : Bs) (hl : s.length ≤ 9223372036854775807) (w : World) : Calls Tryz.prog 17 #[.string (mkS s)] w fun e w' => LinesE w w' e (linesT s) ∧ KeepsAll w w' := by
  have hts : (mkS s).size = s.length := mkS_size s
  by_cases h : 65536 < s.length
  · have HL : Hid (linesT s = .inr (0, 7)) := by show _ = _; unfold linesT; rw [if_pos h]
    generalize mkS s = tb at *
    go_enter Tryz.func17, Tryz.ntmps17
    go_wp2
    refine bodyPost_ret (v := .tuple #[.slice none 0 0, .int .i64 0, .int .i64 7]) (by simp [results, Tryz.results17, go_sem]) rfl ?_
    exact ⟨by rw [HL.out]; rfl, Keeps.refl _ _⟩
  · have HL : Hid (linesT s = goLines (piecesL (s.drop 0)) 1 []) := by show _ = _; unfold linesT; rw [if_neg h]; rfl
    have key : ∀ (i : Nat) (h : i < (mkS s).size), s[i]? = some ((mkS s)[i]) := fun i h => by
      have hi : i < s.length := by rw [← hts]; exact h
      rw [mkS_at s i s[i] (List.getElem?_eq_getElem hi) h, List.getElem?_eq_getElem hi]
    have KEY := Lib.hid key
    have HEX : Hid (∀ a b : Nat, (mkS s).extract a b = mkS ((s.take b).drop a)) := fun a b => mkS_ext s a b
    clear key
    generalize mkS s = tb at *
    generalize linesT s = GG at *
    go_enter Tryz.func17, Tryz.ntmps17
    go_wp2
    go_loopw [2, 3, 4, 5, 6, 7] (fun v2 v3 v4 v5 v6 i wr => ∃ (n k : Nat) (acc : List Ln), n ≤ s.length + 1 ∧ i = .int .i64 (n : Int) ∧ v2 = .slice none 0 0 ∧ v3 = .int .i64 0 ∧ v4 = .int .i64 0 ∧ v6 = .int .i64 (k : Int) ∧ OwnL 42 1 RLn wr w.heap.size w.heap.size v5 acc ∧ KeepsAll w wr ∧ GG = goLines (piecesL (s.drop n)) k acc ∧ k ≤ n + 1 ∧ acc.length ≤ n) (fun _ _ _ _ _ i _ => s.length + 1 - (intOf i).toNat)
    case atStart => exact ⟨0, 1, [], by omega, rfl, rfl, rfl, rfl, rfl, OwnL.nil, Keeps.refl _ _, HL.out, by omega, Nat.le_refl _⟩
    case round =>
      obtain ⟨n, k, acc, hn, rfl, rfl, rfl, rfl, rfl, ho, hk, hG, hkn, han⟩ := hrel
      obtain ⟨A, cp, rfl, hcp1, hcp2⟩ := ho.form
      have HO := Lib.hid ho
      have HK := Lib.hid hk
      have HG := Lib.hid hG
      have hsz := hk.size
      clear ho hk hG HL
      by_cases hlt : n < s.length
      · obtain ⟨wo, rfl⟩ : ∃ wo : World, wo = wr := ⟨_, rfl⟩
        go_wp2
        go_loopw [8] (fun j wr => ∃ m : Nat, n ≤ m ∧ m ≤ s.length ∧ j = .int .i64 (m : Int) ∧ (∀ q, n ≤ q → q < m → s[q]? ≠ some 10) ∧ wr = wo) (fun j _ => s.length - (intOf j).toNat)
        case atStart => exact ⟨n, Nat.le_refl _, by omega, rfl, (fun q h1 h2 => by omega), rfl⟩
        case round =>
          obtain ⟨m, hnm, hm, rfl, hno, rfl⟩ := hrel
          have HNO := Lib.hid hno
          clear hno
          by_cases hmlt : m < s.length
          · obtain ⟨x, hx⟩ : ∃ x, s[m]? = some x := ⟨s[m], List.getElem?_eq_getElem hmlt⟩
            have hxe : ∀ h : m < tb.size, ((tb[m]).toNat : Int) = (x.toNat : Int) := fun h => by have := KEY.out m h; rw [hx] at this; rw [Option.some.inj this]
            have h10 := u8_int x 10
            have e10 : (10 : UInt8).toNat = 10 := rfl
            rw [e10] at h10
            by_cases hx10 : x = 10
            · have hz : (x.toNat : Int) = 10 := by rw [h10] at hx10; exact_mod_cast hx10
              have HP := Lib.hid (piece_go s n m k acc hnm hm HNO.out (.inr (by rw [hx, hx10])))
              clear h10 e10 hx10 hx
              generalize (x.toNat : Int) = z at *
              subst hz
              have hX : tb.extract n m = mkS ((s.take m).drop n) := HEX.out n m
              have hpl : ((s.take m).drop n).length ≤ 65536 := by simp; omega
              have HONE := Lib.hid (fun W1 => one_any ((s.take m).drop n) hpl (k : Int) W1)
              generalize (s.take m).drop n = p at *
              clear HNO hpl
              cases hw : wordsL p with
              | none =>
                have HF : Hid (GG = .inr (k, 2)) := by show _ = _; rw [HG.out, HP.out, hw]
                rw [hw] at HONE
                clear HP hw
                go_wp2_with (go_at_call 33; refine (HONE.out _).mono ?_; rintro e w2 ⟨rfl, hk2⟩)
                refine bodyPost_ret (v := .tuple #[.slice none 0 0, .int .i64 (k : Int), .int .i64 2]) (by simp [results, Tryz.results17, go_sem]) rfl ?_
                exact ⟨by rw [HF.out]; rfl, HK.out.trA hk2⟩
              | some ws =>
                rw [hw] at HONE
                by_cases h64 : 64 < ws.length
                · have HF : Hid (GG = .inr (k, 7)) := by show _ = _; rw [HG.out, HP.out, hw]; simp only []; rw [if_pos h64]
                  have HO7 : Hid (∀ W1, Calls Tryz.prog 33 #[.string (mkS p), .int .i64 (k : Int)] W1 fun e w' => e = .returned (.tuple #[.slice none 0 0, .int .i64 7]) ∧ KeepsAll W1 w') := fun W1 => (HONE.out W1).mono fun e w' ⟨h1, h2⟩ => ⟨by
                    have h3 : (if 64 < ws.length then e = .returned (.tuple #[.slice none 0 0, .int .i64 7]) else _) := h1
                    rw [if_pos h64] at h3
                    exact h3, h2⟩
                  clear HP hw h64 HONE
                  go_wp2_with (go_at_call 33; refine (HO7.out _).mono ?_; rintro e w2 ⟨rfl, hk2⟩)
                  refine bodyPost_ret (v := .tuple #[.slice none 0 0, .int .i64 (k : Int), .int .i64 7]) (by simp [results, Tryz.results17, go_sem]) rfl ?_
                  exact ⟨by rw [HF.out]; rfl, HK.out.trA hk2⟩
                · have HO0 : Hid (∀ W1, Calls Tryz.prog 33 #[.string (mkS p), .int .i64 (k : Int)] W1 fun e w' => (∃ A c, e = .returned (.tuple #[.slice A ws.length c, .int .i64 0]) ∧ RWds (k : Int) w' (Fresh W1 w') [.slice A ws.length c] ws) ∧ KeepsAll W1 w') := fun W1 => (HONE.out W1).mono fun e w' ⟨h1, h2⟩ => ⟨by
                    have h3 : (if 64 < ws.length then _ else ∃ A c, e = .returned (.tuple #[.slice A ws.length c, .int .i64 0]) ∧ RWds (k : Int) w' (Fresh W1 w') [.slice A ws.length c] ws) := h1
                    rw [if_neg h64] at h3
                    exact h3, h2⟩
                  have hcap : ws.length ≤ 64 := by omega
                  by_cases h0 : ws = []
                  · have HF : Hid (GG = goLines (piecesL (s.drop (m + 1))) (k + 1) acc) := by show _ = _; rw [HG.out, HP.out, hw]; simp only []; rw [if_neg h64, if_pos h0]
                    have hl0 : ws.length = 0 := by rw [h0]; rfl
                    clear HP hw h64 HONE h0
                    go_wp2_with (go_at_call 33; refine (HO0.out _).mono ?_; rintro e w2 ⟨⟨A2, c2, rfl, hw2⟩, hk2⟩)
                    go_roundw
                    case rel => exact ⟨m + 1, k + 1, acc, by omega, by go_num, rfl, rfl, rfl, by go_num, HO.out.keeps RLn.ok hk2 (fun _ _ h => h.elim), HK.out.trA hk2, HF.out, by omega, by omega⟩
                    case measure => simp [intOf]; omega
                  · have HF : Hid (GG = goLines (piecesL (s.drop (m + 1))) (k + 1) (acc ++ [(k, ws)])) := by show _ = _; rw [HG.out, HP.out, hw]; simp only []; rw [if_neg h64, if_neg h0]
                    have hl0 : 0 < ws.length := List.length_pos_iff.2 h0
                    clear HP hw h64 HONE h0
                    go_wp2_with (first
                      | (go_at_call 33; refine (HO0.out _).mono ?_; rintro e w2 ⟨⟨A2, c2, rfl, hw2⟩, hk2⟩; have HW2 := Lib.hid hw2; have HK2 := Lib.hid hk2; have hsz2 := hk2.size; clear hw2 hk2)
                      | (at_builtin; go_loud (
                          have KB : KeepsAll w2 (w2.alloc (.cells #[.slice A2 ws.length c2] 42)) := (Keeps.refl _ _).alloc _
                          have hown := (HO.out.keeps RLn.ok HK2.out (fun _ _ h => h.elim)).alloc RLn.ok (.cells #[.slice A2 ws.length c2] 42)
                          refine wpList_append_L tyLn RLn.ok rfl (.tmp 49) (.tmp 51) rfl hown rfl _ [.slice A2 ws.length c2] rfl (Blk.new w2 42 #[.slice A2 ws.length c2]) rfl ((k, ws) : Ln) (S := fun b => wr.heap.size ≤ b ∧ b < w2.heap.size ∧ (Value.slice A acc.length cp).ownBlock ≠ some b) ?hr1 ?hr2 (by simp [Value.oneCell']) (by omega) (by omega) (by simp; omega) ?_
                          rotate_left 2
                          intro v8 w8 HO8 HK8 HA8)))
                    case hr1 =>
                      show RWds (k : Int) _ _ _ ws
                      refine (RSlice.ok RWd.ok).mono HW2.out (fun b hb => ?_) (fun b hb => Below.heap_alloc w2 _ b hb.2)
                      exact ⟨hb.1, hb.2, fun e => by have := (HO.out.lt e).2; have := hb.1; omega⟩
                    case hr2 =>
                      intro b hb
                      exact ⟨by have := hb.1; omega, by have := hb.2.1; simp; omega, hb.2.2⟩
                    go_roundw
                    case rel =>
                      exact ⟨m + 1, k + 1, acc ++ [(k, ws)], by omega, by go_num, rfl, rfl, rfl, by go_num, HO8, ((HK.out.trA HK2.out).alloc _).trans HK8 (fun b hb e => by have := (HO.out.lt e).1; omega), HF.out, by omega, by simp; omega⟩
                    case measure => simp [intOf]; omega
            · have hz : ¬ (x.toNat : Int) = 10 := fun h => hx10 (by rw [h10]; exact_mod_cast h)
              have hzb : ((x.toNat : Int) == 10) = false := by simpa using hz
              have HN2 : Hid (∀ q, n ≤ q → q < m + 1 → s[q]? ≠ some 10) := fun q h1 h2 => by
                rcases Nat.lt_or_ge q m with h3 | h3
                · exact HNO.out q h1 h3
                · obtain rfl : q = m := by omega
                  rw [hx]
                  intro e
                  exact hx10 (Option.some.inj e)
              clear h10 e10 hx10 hx HNO
              generalize (x.toNat : Int) = z at *
              go_wp2
              go_roundw
              case rel => exact ⟨m + 1, by omega, by omega, by go_num, HN2.out, trivial⟩
              case measure => simp [intOf]; omega
          · obtain rfl : m = s.length := by omega
            have HP := Lib.hid (piece_go s n s.length k acc hnm hm HNO.out (.inl rfl))
            have hX : tb.extract n s.length = mkS ((s.take s.length).drop n) := HEX.out n s.length
            have hpl : ((s.take s.length).drop n).length ≤ 65536 := by simp; omega
            have HONE := Lib.hid (fun W1 => one_any ((s.take s.length).drop n) hpl (k : Int) W1)
            generalize (s.take s.length).drop n = p at *
            clear HNO hpl
            cases hw : wordsL p with
            | none =>
              have HF : Hid (GG = .inr (k, 2)) := by show _ = _; rw [HG.out, HP.out, hw]
              rw [hw] at HONE
              clear HP hw
              go_wp2_with (go_at_call 33; refine (HONE.out _).mono ?_; rintro e w2 ⟨rfl, hk2⟩)
              refine bodyPost_ret (v := .tuple #[.slice none 0 0, .int .i64 (k : Int), .int .i64 2]) (by simp [results, Tryz.results17, go_sem]) rfl ?_
              exact ⟨by rw [HF.out]; rfl, HK.out.trA hk2⟩
            | some ws =>
              rw [hw] at HONE
              by_cases h64 : 64 < ws.length
              · have HF : Hid (GG = .inr (k, 7)) := by show _ = _; rw [HG.out, HP.out, hw]; simp only []; rw [if_pos h64]
                have HO7 : Hid (∀ W1, Calls Tryz.prog 33 #[.string (mkS p), .int .i64 (k : Int)] W1 fun e w' => e = .returned (.tuple #[.slice none 0 0, .int .i64 7]) ∧ KeepsAll W1 w') := fun W1 => (HONE.out W1).mono fun e w' ⟨h1, h2⟩ => ⟨by
                  have h3 : (if 64 < ws.length then e = .returned (.tuple #[.slice none 0 0, .int .i64 7]) else _) := h1
                  rw [if_pos h64] at h3
                  exact h3, h2⟩
                clear HP hw h64 HONE
                go_wp2_with (go_at_call 33; refine (HO7.out _).mono ?_; rintro e w2 ⟨rfl, hk2⟩)
                refine bodyPost_ret (v := .tuple #[.slice none 0 0, .int .i64 (k : Int), .int .i64 7]) (by simp [results, Tryz.results17, go_sem]) rfl ?_
                exact ⟨by rw [HF.out]; rfl, HK.out.trA hk2⟩
              · have HO0 : Hid (∀ W1, Calls Tryz.prog 33 #[.string (mkS p), .int .i64 (k : Int)] W1 fun e w' => (∃ A c, e = .returned (.tuple #[.slice A ws.length c, .int .i64 0]) ∧ RWds (k : Int) w' (Fresh W1 w') [.slice A ws.length c] ws) ∧ KeepsAll W1 w') := fun W1 => (HONE.out W1).mono fun e w' ⟨h1, h2⟩ => ⟨by
                  have h3 : (if 64 < ws.length then _ else ∃ A c, e = .returned (.tuple #[.slice A ws.length c, .int .i64 0]) ∧ RWds (k : Int) w' (Fresh W1 w') [.slice A ws.length c] ws) := h1
                  rw [if_neg h64] at h3
                  exact h3, h2⟩
                have hcap : ws.length ≤ 64 := by omega
                by_cases h0 : ws = []
                · have HF : Hid (GG = goLines (piecesL (s.drop (s.length + 1))) (k + 1) acc) := by show _ = _; rw [HG.out, HP.out, hw]; simp only []; rw [if_neg h64, if_pos h0]
                  have hl0 : ws.length = 0 := by rw [h0]; rfl
                  clear HP hw h64 HONE h0
                  go_wp2_with (go_at_call 33; refine (HO0.out _).mono ?_; rintro e w2 ⟨⟨A2, c2, rfl, hw2⟩, hk2⟩)
                  go_roundw
                  case rel => exact ⟨s.length + 1, k + 1, acc, by omega, by go_num, rfl, rfl, rfl, by go_num, HO.out.keeps RLn.ok hk2 (fun _ _ h => h.elim), HK.out.trA hk2, HF.out, by omega, by omega⟩
                  case measure => simp [intOf]; omega
                · have HF : Hid (GG = goLines (piecesL (s.drop (s.length + 1))) (k + 1) (acc ++ [(k, ws)])) := by show _ = _; rw [HG.out, HP.out, hw]; simp only []; rw [if_neg h64, if_neg h0]
                  have hl0 : 0 < ws.length := List.length_pos_iff.2 h0
                  clear HP hw h64 HONE h0
                  go_wp2_with (first
                    | (go_at_call 33; refine (HO0.out _).mono ?_; rintro e w2 ⟨⟨A2, c2, rfl, hw2⟩, hk2⟩; have HW2 := Lib.hid hw2; have HK2 := Lib.hid hk2; have hsz2 := hk2.size; clear hw2 hk2)
                    | (at_builtin; go_loud (
                        have KB : KeepsAll w2 (w2.alloc (.cells #[.slice A2 ws.length c2] 42)) := (Keeps.refl _ _).alloc _
                        have hown := (HO.out.keeps RLn.ok HK2.out (fun _ _ h => h.elim)).alloc RLn.ok (.cells #[.slice A2 ws.length c2] 42)
                        refine wpList_append_L tyLn RLn.ok rfl (.tmp 49) (.tmp 51) rfl hown rfl _ [.slice A2 ws.length c2] rfl (Blk.new w2 42 #[.slice A2 ws.length c2]) rfl ((k, ws) : Ln) (S := fun b => wr.heap.size ≤ b ∧ b < w2.heap.size ∧ (Value.slice A acc.length cp).ownBlock ≠ some b) ?hr1 ?hr2 (by simp [Value.oneCell']) (by omega) (by omega) (by simp; omega) ?_
                        rotate_left 2
                        intro v8 w8 HO8 HK8 HA8)))
                  case hr1 =>
                    show RWds (k : Int) _ _ _ ws
                    refine (RSlice.ok RWd.ok).mono HW2.out (fun b hb => ?_) (fun b hb => Below.heap_alloc w2 _ b hb.2)
                    exact ⟨hb.1, hb.2, fun e => by have := (HO.out.lt e).2; have := hb.1; omega⟩
                  case hr2 =>
                    intro b hb
                    exact ⟨by have := hb.1; omega, by have := hb.2.1; simp; omega, hb.2.2⟩
                  go_roundw
                  case rel =>
                    exact ⟨s.length + 1, k + 1, acc ++ [(k, ws)], by omega, by go_num, rfl, rfl, rfl, by go_num, HO8, ((HK.out.trA HK2.out).alloc _).trans HK8 (fun b hb e => by have := (HO.out.lt e).1; omega), HF.out, by omega, by simp; omega⟩
                  case measure => simp [intOf]; omega
      · have hfin : GG = .inl acc := by
          rw [HG.out, List.drop_eq_nil_of_le (by omega)]
          exact goLines_end k acc
        have HF := Lib.hid hfin
        clear hfin
        go_wp2
        refine bodyPost_ret (v := .tuple #[.slice A acc.length cp, .int .i64 0, .int .i64 0]) (by simp [results, Tryz.results17, go_sem]) rfl ?_
        exact ⟨by rw [HF.out]; exact ⟨A, cp, rfl, HO.out.read RLn.ok (by decide) (fun b h1 h2 => ⟨h1, h2⟩) (fun b h1 h2 => ⟨h1, h2⟩)⟩, HK.out⟩
end

section
open Go.RowKit

theorem wDig_any (c : UInt8) (w : World) : Calls Tryz.prog 57 #[.int .u8 c.toNat] w fun e w' => e = .returned (.bool (isD c)) ∧ w = w' := by
  go_enter Tryz.func57, Tryz.ntmps57
  go_wp2
  all_goals (go_ret; refine ⟨congrArg (fun b => Ending.returned (Value.bool b)) ?_, rfl⟩; rw [Bool.eq_iff_iff]; simp [isD, UInt8.le_iff_toNat_le]; omega)
theorem rDig_any (c : UInt8) (w : World) : Calls Tryz.prog 34 #[.int .u8 c.toNat] w fun e w' => e = .returned (.bool (isD c)) ∧ w = w' := by
  go_enter Tryz.func34, Tryz.ntmps34
  go_wp2
  all_goals (go_ret; refine ⟨congrArg (fun b => Ending.returned (Value.bool b)) ?_, rfl⟩; rw [Bool.eq_iff_iff]; simp [isD, UInt8.le_iff_toNat_le]; omega)
def numE : Option Int → Ending
  | none => .returned (.tuple #[.int .i64 0, .bool false])
  | some n => .returned (.tuple #[.int .i64 n, .bool true])
theorem all_takeD (l : Bs) (i : Nat) (c : UInt8) (h : l[i]? = some c) : (l.take (i + 1)).all isD = ((l.take i).all isD && isD c) := by
  rw [List.take_add_one, h, Option.toList_some, List.all_append]
  simp
theorem valD_take (l : Bs) (i : Nat) (c : UInt8) (h : l[i]? = some c) : valD (l.take (i + 1)) 0 = 10 * valD (l.take i) 0 + ((c.toNat : Int) - 48) := by
  rw [List.take_add_one, h, Option.toList_some, valD_snoc]
theorem valD_le (l : Bs) (i : Nat) (h : l.all isD = true) : valD (l.take i) 0 ≤ valD l 0 := by
  have hh : l.all isD = true := h
  have e : valD l 0 = valD (l.drop i) (valD (l.take i) 0) := by
    unfold valD
    rw [← List.foldl_append, List.take_append_drop]
  rw [e]
  have ht : (l.take i).all isD = true := List.all_eq_true.2 fun c hc => List.all_eq_true.1 hh c (List.mem_of_mem_take hc)
  have hd : (l.drop i).all isD = true := List.all_eq_true.2 fun c hc => List.all_eq_true.1 hh c (List.mem_of_mem_drop hc)
  exact valD_mono _ hd _ (valD_mono _ ht 0 (by omega))
def numD (d : Bs) (neg : Bool) : Option Int :=
  if d = [] ∨ (d.head? = some 48 ∧ (neg = true ∨ 1 < d.length)) then none
  else if d.all isD = true then
    if 1099511627776 < valD d 0 then none else some (if neg = true then -(valD d 0) else valD d 0)
  else none
theorem numV_D (s : Bs) : numV s = numD (Lib.trimPrefix s [45]) (Lib.hasPrefix s [45]) := rfl
theorem numD_nil (neg : Bool) : numD [] neg = none := by simp [numD]
theorem numD_zero (d : Bs) (neg : Bool) (h : d.head? = some 48) (h2 : neg = true ∨ 1 < d.length) : numD d neg = none := by
  unfold numD; rw [if_pos (.inr ⟨h, h2⟩)]
theorem numD_bad (d : Bs) (neg : Bool) (h : d.all isD ≠ true) : numD d neg = none := by
  unfold numD; rw [if_neg h]; split <;> rfl
theorem numD_big (d : Bs) (neg : Bool) (h : 1099511627776 < valD d 0) : numD d neg = none := by
  unfold numD; rw [if_pos h]; split
  · rfl
  · split <;> rfl
theorem numD_long (d : Bs) (neg : Bool) (h : 13 < d.length) : numD d neg = none := by
  by_cases ha : d.all isD = true
  · by_cases h0 : d.head? = some 48
    · exact numD_zero d neg h0 (.inr (by omega))
    · exact numD_big d neg (valD_long d ha h0 h)
  · exact numD_bad d neg ha
theorem numD_ok (d : Bs) (neg : Bool) (h1 : d ≠ []) (h2 : ¬ (d.head? = some 48 ∧ (neg = true ∨ 1 < d.length))) (h3 : d.all isD = true) (h4 : valD d 0 ≤ 1099511627776) : numD d neg = some (if neg = true then -(valD d 0) else valD d 0) := by
  unfold numD
  rw [if_neg (fun h => h.elim h1 h2), if_pos h3, if_neg (by omega)]
set_option maxHeartbeats 2000000 in
set_option maxRecDepth 100000 in
theorem wNum_any (s : Bs) (hl : s.length ≤ 9223372036854775807) (w : World) : Calls Tryz.prog 32 #[.string (mkS s)] w fun e w' => e = numE (numV s) ∧ w' = w := by
  have HCP := Lib.hid (cutPrefix_any s [45] w)
  have hdl : (Lib.trimPrefix s [45]).length ≤ s.length := by unfold Lib.trimPrefix; split <;> simp
  rw [numV_D]
  generalize hd : Lib.trimPrefix s [45] = d at *
  generalize Lib.hasPrefix s [45] = neg at *
  generalize mkS s = sb at *
  have hts : (mkS d).size = d.length := mkS_size d
  have key : ∀ (i : Nat) (h : i < (mkS d).size), d[i]? = some ((mkS d)[i]) := fun i h => by
    have hi : i < d.length := by rw [← hts]; exact h
    rw [mkS_at d i d[i] (List.getElem?_eq_getElem hi) h, List.getElem?_eq_getElem hi]
  have KEY := Lib.hid key
  clear key hd
  have hdl2 := mkS_list d
  generalize mkS d = db at *
  have hE : db.toList = d := by rw [ByteArray.toList_eq]; exact hdl2
  have HHEAD : Hid (∀ h : 0 < db.size, d.head? = some db[0]) := fun h => by
    have := KEY.out 0 h
    rw [← this, List.head?_eq_getElem?]
  by_cases hd0 : d = []
  · subst hd0
    rw [numD_nil]
    go_enter Tryz.func32, Tryz.ntmps32
    go_wp2_with (go_at_call 56; refine (HCP.out).mono ?_; rintro e w' ⟨rfl, rfl⟩)
    go_ret2
    exact ⟨rfl, rfl⟩
  · have hE1 : ¬ db.toList = [] := by rw [hE]; exact hd0
    have hE2 : db.toList.isEmpty = false := by rw [hE]; simpa using hd0
    have hpos : 0 < d.length := by cases d with
      | nil => exact absurd rfl hd0
      | cons x r => simp
    clear hE
    by_cases hz : d.head? = some 48 ∧ (neg = true ∨ 1 < d.length)
    · have HN : Hid (numD d neg = none) := numD_zero d neg hz.1 hz.2
      have h48 : ∀ h : 0 < db.size, (db[0].toNat : Int) = 48 := fun h => by
        have := HHEAD.out h
        rw [hz.1] at this
        rw [← Option.some.inj this]
        rfl
      obtain ⟨-, hz2⟩ := hz
      clear HHEAD KEY
      cases neg
      · have hz3 : 1 < d.length := by simpa using hz2
        clear hz2
        go_enter Tryz.func32, Tryz.ntmps32
        go_wp2_with (go_at_call 56; refine (HCP.out).mono ?_; rintro e w' ⟨rfl, rfl⟩)
        go_ret2
        exact ⟨by rw [HN.out]; rfl, rfl⟩
      · clear hz2
        go_enter Tryz.func32, Tryz.ntmps32
        go_wp2_with (go_at_call 56; refine (HCP.out).mono ?_; rintro e w' ⟨rfl, rfl⟩)
        go_ret2
        exact ⟨by rw [HN.out]; rfl, rfl⟩
    · have HOK : Hid (∀ x, valD d 0 = x → d.all isD = true → x ≤ 1099511627776 → numD d neg = some (if neg = true then -x else x)) := fun x hx h1 h2 => by
        subst hx
        exact numD_ok d neg hd0 hz h1 h2
      have HBAD : Hid (d.all isD ≠ true → numD d neg = none) := numD_bad d neg
      have HBIG : Hid (1099511627776 < valD d 0 → numD d neg = none) := numD_big d neg
      have hcase : (d.head? = some 48 ∧ neg = false ∧ d.length = 1) ∨ ¬ d.head? = some 48 := by
        by_cases h0 : d.head? = some 48
        · refine .inl ⟨h0, ?_, ?_⟩
          · cases neg with
            | false => rfl
            | true => exact absurd ⟨h0, .inl rfl⟩ hz
          · rcases Nat.lt_or_ge 1 d.length with h1 | h1
            · exact absurd ⟨h0, .inr h1⟩ hz
            · omega
        · exact .inr h0
      have H48 : Hid (∀ h : 0 < db.size, ((db[0].toNat : Int) = 48 ↔ d.head? = some 48)) := fun h => by
        rw [HHEAD.out h, Option.some.injEq, u8_int]
        exact Iff.rfl
      clear hz HHEAD
      go_enter Tryz.func32, Tryz.ntmps32
      rcases hcase with ⟨h0, rfl, hd1⟩ | h0
      · have h48 : ∀ h : 0 < db.size, (db[0].toNat : Int) = 48 := fun h => (H48.out h).2 h0
        go_upto_region 4 with (go_at_call 56; refine (HCP.out).mono ?_; rintro e w' ⟨rfl, rfl⟩)
        clear h48 H48 hE1 hE2 h0
        go_wp2
        go_loopw [2, 3, 6, 30] (fun v2 v3 v6 i wr => ∃ (b : Nat) (x : Int), b ≤ d.length ∧ i = .int .i64 (b : Int) ∧ v2 = .int .i64 0 ∧ v3 = .bool false ∧ v6 = .int .i64 x ∧ valD (d.take b) 0 = x ∧ 0 ≤ x ∧ x ≤ 1099511627776 ∧ (d.take b).all isD = true ∧ wr = w') (fun _ _ _ i _ => d.length - (intOf i).toNat)
        case atStart => exact ⟨0, 0, Nat.zero_le _, rfl, rfl, rfl, rfl, rfl, by omega, by omega, rfl, rfl⟩
        case round =>
          obtain ⟨b, x, hb, rfl, rfl, rfl, rfl, hv, hx0, hx1, hall, rfl⟩ := hrel
          have HV := Lib.hid hv
          have HALL := Lib.hid hall
          clear hv hall
          by_cases hlt : b < d.length
          · obtain ⟨y, hy⟩ : ∃ y, d[b]? = some y := ⟨d[b], List.getElem?_eq_getElem hlt⟩
            have hxe : ∀ h : b < db.size, db[b] = y := fun h => by have := KEY.out b h; rw [hy] at this; exact (Option.some.inj this).symm
            by_cases hD : isD y = true
            · have HCL : Hid (Calls Tryz.prog 57 #[.int .u8 (y.toNat : Int)] wr fun e w' => e = .returned (.bool true) ∧ w' = wr) := by
                have := wDig_any y wr
                rw [hD] at this
                exact this.mono fun e w' ⟨h1, h2⟩ => ⟨h1, h2.symm⟩
              have hyr : 48 ≤ (y.toNat : Int) ∧ (y.toNat : Int) ≤ 57 := by have := isD_val hD; omega
              have HNX : Hid (valD (d.take (b + 1)) 0 = 10 * x + ((y.toNat : Int) - 48)) := by show _ = _; rw [valD_take d b y hy, HV.out]
              have HNA : Hid ((d.take (b + 1)).all isD = true) := by show _ = _; rw [all_takeD d b y hy, HALL.out, hD]; rfl
              have HGT : Hid (1099511627776 < 10 * x + ((y.toNat : Int) - 48) → numD d false = none) := fun hg => by
                by_cases ha : d.all isD = true
                · exact HBIG.out (Int.lt_of_lt_of_le (by rw [HNX.out]; exact hg) (valD_le d (b + 1) ha))
                · exact HBAD.out ha
              have hze : ∀ h : b < db.size, ((db[b]).toNat : Int) = (y.toNat : Int) := fun h => by rw [hxe h]
              clear HOK HBAD HBIG hD hy hxe
              generalize (y.toNat : Int) = z at *
              by_cases hg : 1099511627776 < 10 * x + (z - 48)
              · have HN := Lib.hid (HGT.out hg)
                go_wp2_with (go_at_call 57; refine (HCL.out).mono ?_; rintro e w' ⟨rfl, rfl⟩)
                go_ret2
                exact ⟨by rw [HN.out]; rfl, rfl⟩
              · go_wp2_with (go_at_call 57; refine (HCL.out).mono ?_; rintro e w' ⟨rfl, rfl⟩)
                go_roundw
                case rel => exact ⟨b + 1, 10 * x + (z - 48), by omega, by go_num, rfl, rfl, rfl, HNX.out, by omega, by omega, HNA.out, trivial⟩
                case measure => simp [intOf]; omega
            · have hD2 : isD y = false := by simpa using hD
              have HCL : Hid (Calls Tryz.prog 57 #[.int .u8 (y.toNat : Int)] wr fun e w' => e = .returned (.bool false) ∧ w' = wr) := by
                have := wDig_any y wr
                rw [hD2] at this
                exact this.mono fun e w' ⟨h1, h2⟩ => ⟨h1, h2.symm⟩
              have HN : Hid (numD d false = none) := HBAD.out (fun ha => hD (List.all_eq_true.1 ha y (List.mem_of_getElem? hy)))
              have hze : ∀ h : b < db.size, ((db[b]).toNat : Int) = (y.toNat : Int) := fun h => by rw [hxe h]
              clear HOK HBAD HBIG hD hy hD2 hxe
              generalize (y.toNat : Int) = z at *
              go_wp2_with (go_at_call 57; refine (HCL.out).mono ?_; rintro e w' ⟨rfl, rfl⟩)
              go_ret2
              exact ⟨by rw [HN.out]; rfl, rfl⟩
          · obtain rfl : b = d.length := by omega
            have HFIN : Hid (numD d false = some x) := HOK.out x (by rw [← HV.out, List.take_length]) (by rw [← HALL.out, List.take_length]) hx1
            clear HOK HBAD HBIG
            go_wp2
            go_ret2
            exact ⟨by rw [HFIN.out]; rfl, rfl⟩
      · have h48 : ∀ h : 0 < db.size, ¬ (db[0].toNat : Int) = 48 := fun h e => h0 ((H48.out h).1 e)
        go_upto_region 4 with (go_at_call 56; refine (HCP.out).mono ?_; rintro e w' ⟨rfl, rfl⟩)
        clear h48 H48 hE1 hE2
        go_wp2
        go_loopw [2, 3, 6, 30] (fun v2 v3 v6 i wr => ∃ (b : Nat) (x : Int), b ≤ d.length ∧ i = .int .i64 (b : Int) ∧ v2 = .int .i64 0 ∧ v3 = .bool false ∧ v6 = .int .i64 x ∧ valD (d.take b) 0 = x ∧ 0 ≤ x ∧ x ≤ 1099511627776 ∧ (d.take b).all isD = true ∧ wr = w') (fun _ _ _ i _ => d.length - (intOf i).toNat)
        case atStart => exact ⟨0, 0, Nat.zero_le _, rfl, rfl, rfl, rfl, rfl, by omega, by omega, rfl, rfl⟩
        case round =>
          obtain ⟨b, x, hb, rfl, rfl, rfl, rfl, hv, hx0, hx1, hall, rfl⟩ := hrel
          have HV := Lib.hid hv
          have HALL := Lib.hid hall
          clear hv hall
          by_cases hlt : b < d.length
          · obtain ⟨y, hy⟩ : ∃ y, d[b]? = some y := ⟨d[b], List.getElem?_eq_getElem hlt⟩
            have hxe : ∀ h : b < db.size, db[b] = y := fun h => by have := KEY.out b h; rw [hy] at this; exact (Option.some.inj this).symm
            by_cases hD : isD y = true
            · have HCL : Hid (Calls Tryz.prog 57 #[.int .u8 (y.toNat : Int)] wr fun e w' => e = .returned (.bool true) ∧ w' = wr) := by
                have := wDig_any y wr
                rw [hD] at this
                exact this.mono fun e w' ⟨h1, h2⟩ => ⟨h1, h2.symm⟩
              have hyr : 48 ≤ (y.toNat : Int) ∧ (y.toNat : Int) ≤ 57 := by have := isD_val hD; omega
              have HNX : Hid (valD (d.take (b + 1)) 0 = 10 * x + ((y.toNat : Int) - 48)) := by show _ = _; rw [valD_take d b y hy, HV.out]
              have HNA : Hid ((d.take (b + 1)).all isD = true) := by show _ = _; rw [all_takeD d b y hy, HALL.out, hD]; rfl
              have HGT : Hid (1099511627776 < 10 * x + ((y.toNat : Int) - 48) → numD d neg = none) := fun hg => by
                by_cases ha : d.all isD = true
                · exact HBIG.out (Int.lt_of_lt_of_le (by rw [HNX.out]; exact hg) (valD_le d (b + 1) ha))
                · exact HBAD.out ha
              have hze : ∀ h : b < db.size, ((db[b]).toNat : Int) = (y.toNat : Int) := fun h => by rw [hxe h]
              clear HOK HBAD HBIG hD hy hxe
              generalize (y.toNat : Int) = z at *
              by_cases hg : 1099511627776 < 10 * x + (z - 48)
              · have HN := Lib.hid (HGT.out hg)
                go_wp2_with (go_at_call 57; refine (HCL.out).mono ?_; rintro e w' ⟨rfl, rfl⟩)
                go_ret2
                exact ⟨by rw [HN.out]; rfl, rfl⟩
              · go_wp2_with (go_at_call 57; refine (HCL.out).mono ?_; rintro e w' ⟨rfl, rfl⟩)
                go_roundw
                case rel => exact ⟨b + 1, 10 * x + (z - 48), by omega, by go_num, rfl, rfl, rfl, HNX.out, by omega, by omega, HNA.out, trivial⟩
                case measure => simp [intOf]; omega
            · have hD2 : isD y = false := by simpa using hD
              have HCL : Hid (Calls Tryz.prog 57 #[.int .u8 (y.toNat : Int)] wr fun e w' => e = .returned (.bool false) ∧ w' = wr) := by
                have := wDig_any y wr
                rw [hD2] at this
                exact this.mono fun e w' ⟨h1, h2⟩ => ⟨h1, h2.symm⟩
              have HN : Hid (numD d neg = none) := HBAD.out (fun ha => hD (List.all_eq_true.1 ha y (List.mem_of_getElem? hy)))
              have hze : ∀ h : b < db.size, ((db[b]).toNat : Int) = (y.toNat : Int) := fun h => by rw [hxe h]
              clear HOK HBAD HBIG hD hy hD2 hxe
              generalize (y.toNat : Int) = z at *
              go_wp2_with (go_at_call 57; refine (HCL.out).mono ?_; rintro e w' ⟨rfl, rfl⟩)
              go_ret2
              exact ⟨by rw [HN.out]; rfl, rfl⟩
          · obtain rfl : b = d.length := by omega
            have HFIN : Hid (numD d neg = some (if neg = true then -x else x)) := HOK.out x (by rw [← HV.out, List.take_length]) (by rw [← HALL.out, List.take_length]) hx1
            clear HOK HBAD HBIG
            cases neg
            · go_wp2
              go_ret2
              exact ⟨by rw [HFIN.out]; rfl, rfl⟩
            · go_wp2
              go_ret2
              exact ⟨by rw [HFIN.out]; rfl, rfl⟩
end
end Go.Proofs.YtnglahcjemgcaaaGreatDoor
