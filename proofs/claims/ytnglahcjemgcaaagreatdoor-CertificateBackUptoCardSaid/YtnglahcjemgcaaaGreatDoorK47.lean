/- The outcome of Format at the example's record, for the run with known data. Conditions: as each theorem says. -/
import Derived.Test.YtnglahcjemgcaaaGreatDoorK13
import Derived.Test.YtnglahcjemgcaaaGreatDoorK06
namespace Go.Proofs.YtnglahcjemgcaaaGreatDoor
open Go.RowKit

/-- the table of powers stands and is not among the blocks that turn -/
def tabI : Foot → World → Prop := fun C w => TabW w ∧ ∀ g, Tryz.prog.globalNamed "internal/strconv.uint64pow10" = some g → ¬ C g
theorem tabI_ok : InvOk tabI := ⟨fun _ _ _ _ ⟨h1, h2⟩ k hC => ⟨h1.kept k h2, fun g hg hc => h2 g hg (hC g (h1.lt g hg) hc)⟩⟩
def recV : List Value := [.int .i64 100, .int .i64 8, .int .i64 0, .int .i64 0, .int .i64 0, .int .i64 0]
def fmtArg : List Value → Option Nat
  | [.slice (some ⟨L, 0, none⟩) 1 1] => some L
  | _ => none
def fmtHook : Hook := fun f args H n =>
  match Nat.beq f 8 with
  | false => none
  | true => match fmtArg args with
    | none => none
    | some L => match H.at L with
      | some (.cells cs _ _) => match veqL veqA cs recV with
        | true => some (.string ⟨#[49, 48, 48, 32, 56, 32, 48, 32, 48, 32, 48, 32, 48, 10]⟩, H, n)
        | false => none
      | _ => none
theorem fmtArg_eq {args : List Value} {L : Nat} (h : fmtArg args = some L) : args = [.slice (some ⟨L, 0, none⟩) 1 1] := by
  unfold fmtArg at h
  split at h
  · cases h; rfl
  · cases h
theorem itoa100 : Lib.itoa 100 = [49, 48, 48] := by
  unfold Lib.itoa
  rw [if_neg (by decide), show (100 : Int).toNat = 100 from rfl, Lib.decDigits, dif_neg (by decide), Lib.decDigits, dif_neg (by decide), Lib.decDigits, dif_pos (by decide)]
  rfl
theorem itoa8 : Lib.itoa 8 = [56] := by
  unfold Lib.itoa
  rw [if_neg (by decide), show (8 : Int).toNat = 8 from rfl, Lib.decDigits, dif_pos (by decide)]
  rfl
theorem itoa0 : Lib.itoa 0 = [48] := by
  unfold Lib.itoa
  rw [if_neg (by decide), show (0 : Int).toNat = 0 from rfl, Lib.decDigits, dif_pos (by decide)]
  rfl
theorem fmt_ex : fmtL [[100, 8, 0, 0, 0, 0]] = [49, 48, 48, 32, 56, 32, 48, 32, 48, 32, 48, 32, 48, 10] := by
  rw [fmtL_ok _ (by intro r hr; have : r = [100, 8, 0, 0, 0, 0] := by simpa using hr
                    rw [this]; decide)]
  simp only [List.map_cons, List.map_nil, itoa100, itoa8, itoa0]
  rfl
theorem fmt_fn : ∃ fi, fnOf Tryz.prog 8 = some fi := Option.isSome_iff_exists.1 (by kernel_rfl)
theorem Rel.later {C : Foot} {w0 w w' : World} {s : Sg} {H : Hp} (r : Rel C w0 s H w) (k : KeepsAll w w') : Rel C w0 s H w' :=
  ⟨r.keep.trans k (fun _ _ h => h.elim), fun L i b h1 h2 => ⟨(r.live L i b h1 h2).1, (r.live L i b h1 h2).2.mono (Sg.le_refl s) (k.block i.bl (r.live L i b h1 h2).2.lt (fun h => h))⟩, r.inj⟩
theorem fmtHook_ok : HookOk Tryz.prog tabI fmtHook := by
  intro f args H n v H' n' h
  unfold fmtHook at h
  split at h
  · cases h
  · rename_i hf
    split at h
    · cases h
    · rename_i L hL
      split at h
      case h_2 => cases h
      rename_i cs e es hH
      split at h
      case h_2 => cases h
      rename_i hcs
      cases h
      have hf' : f = 8 := Nat.eq_of_beq_eq_true hf
      have ha := fmtArg_eq hL
      have hc := veqL_eq (fun _ _ => veqA_eq) _ _ hcs
      subst hf' ha hc
      refine ⟨fmt_fn, fun C w0 s args' w hi r hv hl => ?_⟩
      obtain ⟨v', hargs, hv'⟩ : ∃ v', args' = #[v'] ∧ VR s (.slice (some ⟨L, 0, none⟩) 1 1) v' := by
        obtain ⟨l, hl⟩ : ∃ l, args'.toList = l := ⟨_, rfl⟩
        rw [hl] at hv
        match l, hv, hl with
        | [v'], hv, hl => exact ⟨v', Array.toList_inj.1 hl, hv.head⟩
        | [], hv, _ => exact absurd hv.1 (by simp)
        | _ :: _ :: _, hv, _ => exact absurd hv.1 (by simp)
      subst hargs
      cases hv' with
      | slc L' o n c i hs hc =>
        obtain ⟨h1, hbr⟩ := r.live L i _ hs hH
        obtain ⟨he, hpos, c', rest, hh, hsz, hvl⟩ := id hbr
        have hc' : c' = recV := VL.eqF (f := fun v => match v with | .int _ _ => true | _ => false) (fun v v' hv r => by cases r <;> first | rfl | cases hv) (by rfl) hvl
        subst hc'
        have hrd : RRecs w (Old w) [.slice (some ⟨i.bl, 0, none⟩) ([[100, 8, 0, 0, 0, 0]] : List Rc).length 1] [[100, 8, 0, 0, 0, 0]] := by
          refine ⟨_, _, rfl, by decide, by decide, fun _ => ⟨i.bl, 0, rfl, hbr.lt, fun j x hx => ?_⟩⟩
          have hj : j = 0 := by
            have := (List.getElem?_eq_some_iff.1 hx).1
            simpa using this
          subst hj
          have hx' : x = [100, 8, 0, 0, 0, 0] := by simpa using hx.symm
          subst hx'
          refine ⟨recV, rfl, ⟨rfl, rfl⟩, fun q u hu => ?_⟩
          have hq : q < 6 := (List.getElem?_eq_some_iff.1 hu).1
          simp only [World.cell?, hh, Option.isSome_none, Nat.zero_add, Nat.zero_mul]
          have : ((recV ++ rest).toArray)[q]? = some u := by
            rw [List.getElem?_toArray, List.getElem?_append_left (by exact hq)]
            exact hu
          simpa using this
        have := cFormat_any [[100, 8, 0, 0, 0, 0]] (by decide) (some ⟨i.bl, 0, none⟩) 1 w hrd (hi.1.kept r.keep hi.2)
        rw [fmt_ex] at this
        refine this.mono ?_
        rintro e w' ⟨rfl, hk⟩
        exact ⟨s, _, rfl, .str _, r.later hk, Up.refl s n, hl⟩
end Go.Proofs.YtnglahcjemgcaaaGreatDoor
