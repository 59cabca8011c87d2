/- From a row's argument that is a slice of slices or of structs to its reading. No condition. From a row's arguments (a slice of records, a text) to their readings, and what the bound gives. No condition. What both statements about certificates need of the row: the table from the list, a world for the witness. No condition. The statement CertificateBack, second form, lifted to the row's form. No condition. The statement CertificateText, second form, lifted to the row's form. No condition. A row's facts from its closure as a list. No condition. -/
import Derived.Test.YtnglahcjemgcaaaGreatDoorK50
import Derived.Test.YtnglahcjemgcaaaGreatDoorK51
import Derived.Deep.Slices
import Derived.ChangeArms
import Derived.DataReads
import Derived.Test.YtnglahcjemgcaaaGreatDoorK06
import Derived.ChangeMaps5
import Derived.Lib.LaidTab
import Derived.MakeChecks
import Derived.Lay
import Derived.Deep.DeepHandedRow
import Derived.Test.YtnglahcjemgcaaaGreatDoorK49
namespace Go.Proofs.YtnglahcjemgcaaaGreatDoor
section
open Go.ChangeShapes Go.WideShapes Go.ChangeAt Go.RowKit

section
variable {H : Type} {enc : TypeId × Value → H} {W : World}
/-- the cells of a value of type t read by E -/
def Opens {α : Type} (enc : TypeId × Value → H) (W : World) (t size : Nat) (E : Rd α) : Prop := ∀ (n : Nat) (cs : List Value) (x : DataW H × List MemPlace), DataW.trod enc Tryz.prog W 0 (fun _ => true) true n t cs = some x → cs.length = size ∧ ∃ y, E W (Old W) cs y
theorem add_none (b o j : Nat) : (Addr.mk b o none).add j = ⟨b, o + j, none⟩ := by
  unfold Addr.add; split
  · subst_vars; rfl
  · simp
theorem opens_slice {α : Type} {T t size : Nat} {E : Rd α} (ht : Tryz.prog.underlying T = some (.slice t)) (hsz : Tryz.prog.cellsOf t = size) (hp : 0 < size) (hE : Opens enc W t size E) : Opens enc W T 1 (RSlice size E) := fun n cs x h => by
  rcases Go.Deep.open_slice ht h with ⟨rfl, _⟩ | ⟨a, len, cap, m, n', D, Pl, rfl, _, hl, hm, hmm, _, hel⟩
  · exact ⟨rfl, [], RSlice.mkNil⟩
  · refine ⟨rfl, ?_⟩
    rw [hsz] at hel
    have hmc : m = cap := hmm
    by_cases h0 : len = 0
    · subst h0
      exact ⟨[], some a, cap, rfl, Nat.zero_le _, by simpa [maxLen] using hm, fun h => absurd rfl h⟩
    · obtain ⟨cs0, hc0, _⟩ := hel 0 (by omega)
      obtain ⟨_, hl0, hcell0⟩ := World.cells?_some hc0
      have hcc := hcell0 0 hp
      have hs0 : cs0[0]? = some (cs0[0]'(by omega)) := List.getElem?_eq_getElem _
      rw [hs0] at hcc
      obtain ⟨b, o, spot⟩ := a
      have hspot : spot = none := by simpa [Addr.add] using World.cell?_spot hcc
      subst hspot
      have hblk : b < W.heap.size := by have := cell_lt hcc; simpa [Addr.add] using this
      obtain ⟨l, hl1, hl2⟩ := list_choose (P := fun j y => ∃ es, es.length = size ∧ E W (Old W) es y ∧ ∀ i u, es[i]? = some u → W.cell? ⟨b, o + (j * size + i), none⟩ = some u) len (fun j hj => by
        obtain ⟨cs', hc, htr⟩ := hel j (by omega)
        obtain ⟨_, hlc, hcell⟩ := World.cells?_some hc
        obtain ⟨hl', y, hy⟩ := hE n' cs' _ htr
        refine ⟨y, cs', hl', hy, fun i u hu => ?_⟩
        have hi : i < size := by rw [← hl']; exact getElem?_lt hu
        have := hcell i hi
        rw [add_none, add_none, hu, Nat.add_assoc] at this
        exact this)
      exact ⟨l, some ⟨b, o, none⟩, cap, by rw [hl1], by omega, by simpa [maxLen] using hm, fun _ => ⟨b, o, rfl, hblk, hl2⟩⟩
theorem two {cs : List Value} (h : cs.length = 2) : ∃ a b, cs = [a, b] := by
  match cs, h with
  | [a, b], _ => exact ⟨a, b, rfl⟩
theorem some_of {α : Type} {xs : List α} {i n : Nat} {z : Option α} (hl : xs.length = n) (hi : i < n) (h : z = xs[i]?) : ∃ x, z = some x := ⟨xs[i]'(by omega), by rw [h]; exact List.getElem?_eq_getElem _⟩

end

end

section
open Go.ChangeShapes Go.WideShapes Go.ChangeAt Go.RowKit

section
variable {H : Type} {enc : TypeId × Value → H} {W : World}
theorem six {cs : List Value} (h : cs.length = 6) : ∃ a b c d e f, cs = [a, b, c, d, e, f] := by
  match cs, h with
  | [a, b, c, d, e, f], _ => exact ⟨a, b, c, d, e, f, rfl⟩
theorem opens_rec : Opens enc W 32 6 RRec := fun n cs x h => by
  obtain ⟨xs, m, _, _, hl, hxl, hf⟩ := DataW.trod_struct Tryz.underlying32 h
  have hc : Tryz.prog.cellsOf 32 = 6 := by kernel_rfl
  have hci : Tryz.prog.cellsOf 3 = 1 := by kernel_rfl
  rw [hc] at hl
  obtain ⟨a, b, c, d, e, f, rfl⟩ := six hl
  refine ⟨rfl, ?_⟩
  have q0 : DataW.trod enc Tryz.prog W 0 (fun _ => true) true m 3 (([a, b, c, d, e, f].drop 0).take (Tryz.prog.cellsOf 3)) = xs[0]? := hf 0 _ rfl
  have q1 : DataW.trod enc Tryz.prog W 0 (fun _ => true) true m 3 (([a, b, c, d, e, f].drop 1).take (Tryz.prog.cellsOf 3)) = xs[1]? := hf 1 _ rfl
  have q2 : DataW.trod enc Tryz.prog W 0 (fun _ => true) true m 3 (([a, b, c, d, e, f].drop 2).take (Tryz.prog.cellsOf 3)) = xs[2]? := hf 2 _ rfl
  have q3 : DataW.trod enc Tryz.prog W 0 (fun _ => true) true m 3 (([a, b, c, d, e, f].drop 3).take (Tryz.prog.cellsOf 3)) = xs[3]? := hf 3 _ rfl
  have q4 : DataW.trod enc Tryz.prog W 0 (fun _ => true) true m 3 (([a, b, c, d, e, f].drop 4).take (Tryz.prog.cellsOf 3)) = xs[4]? := hf 4 _ rfl
  have q5 : DataW.trod enc Tryz.prog W 0 (fun _ => true) true m 3 (([a, b, c, d, e, f].drop 5).take (Tryz.prog.cellsOf 3)) = xs[5]? := hf 5 _ rfl
  rw [hci] at q0 q1 q2 q3 q4 q5
  obtain ⟨x0, h0⟩ := some_of hxl (i := 0) (by simp) q0
  obtain ⟨x1, h1⟩ := some_of hxl (i := 1) (by simp) q1
  obtain ⟨x2, h2⟩ := some_of hxl (i := 2) (by simp) q2
  obtain ⟨x3, h3⟩ := some_of hxl (i := 3) (by simp) q3
  obtain ⟨x4, h4⟩ := some_of hxl (i := 4) (by simp) q4
  obtain ⟨x5, h5⟩ := some_of hxl (i := 5) (by simp) q5
  obtain ⟨z0, e0, _, _⟩ := DataW.trod_int Tryz.underlying3 h0
  obtain ⟨z1, e1, _, _⟩ := DataW.trod_int Tryz.underlying3 h1
  obtain ⟨z2, e2, _, _⟩ := DataW.trod_int Tryz.underlying3 h2
  obtain ⟨z3, e3, _, _⟩ := DataW.trod_int Tryz.underlying3 h3
  obtain ⟨z4, e4, _, _⟩ := DataW.trod_int Tryz.underlying3 h4
  obtain ⟨z5, e5, _, _⟩ := DataW.trod_int Tryz.underlying3 h5
  injection e0 with e0; injection e1 with e1; injection e2 with e2; injection e3 with e3; injection e4 with e4; injection e5 with e5
  subst e0 e1 e2 e3 e4 e5
  exact ⟨[z0, z1, z2, z3, z4, z5], rfl, rfl⟩
theorem opens_recs : Opens enc W 22 1 RRecs := opens_slice Tryz.underlying22 (by kernel_rfl) (by omega) opens_rec
/-- with the number of elements of what is read -/
theorem trod_recs {a : Option Addr} {len cap : Nat} {d : DataW H} {p : List MemPlace} (h : DataW.Trod enc Tryz.prog W 0 (fun _ => true) true 22 (.slice a len cap) d p) : ∃ l : List Rc, len = l.length ∧ RRecs W (Old W) [.slice a l.length cap] l ∧ (l = [] ∨ ∃ es sp, d = .slice es sp ∧ es.length = l.length) := by
  obtain ⟨fuel, hf⟩ := h
  obtain ⟨_, l, hl⟩ := opens_recs fuel _ _ hf
  have e : (Value.slice a len cap).cells.toList = [.slice a len cap] := rfl
  rw [e] at hl
  have := hl.len; subst this
  refine ⟨l, rfl, hl, ?_⟩
  rcases Go.Deep.open_slice Tryz.underlying22 hf with ⟨h1, _⟩ | ⟨_, len, _, m, _, D, _, h1, _, _, _, _, h2, _⟩
  · rw [e] at h1
    injection h1 with h1
    injection h1 with _ h1 _
    exact .inl (List.eq_nil_of_length_eq_zero h1)
  · rw [e] at h1
    injection h1 with h1
    injection h1 with _ h1 _
    right
    injection h2 with h2 _
    exact ⟨_, _, h2, by simp [h1]⟩
theorem bulk_one (d : DataW H) : 1 ≤ Rows.uptoBulk d := by
  cases d with
  | lit l => cases l <;> simp [Rows.uptoBulk]
  | nil => simp [Rows.uptoBulk]
  | ptr d => simp [Rows.uptoBulk]
  | slice elems spare => simp [Rows.uptoBulk]
  | agg parts => simp [Rows.uptoBulk]
  | iface t d => simp [Rows.uptoBulk]
  | map entries => simp [Rows.uptoBulk]
  | held h => simp [Rows.uptoBulk]
theorem bulk_len (l : List (DataW H)) : l.length ≤ Rows.uptoBulkAll l := by
  induction l with
  | nil => simp [Rows.uptoBulkAll]
  | cons x r ih => have := bulk_one x; simp only [Rows.uptoBulkAll, List.length_cons]; omega
theorem bulk_part {d : DataW H} {l : List (DataW H)} (h : d ∈ l) : Rows.uptoBulk d ≤ Rows.uptoBulkAll l := by
  induction l with
  | nil => cases h
  | cons x r ih =>
    simp only [Rows.uptoBulkAll]
    cases List.mem_cons.1 h with
    | inl e => subst e; omega
    | inr e => have := ih e; omega
theorem bulk_slice (elems spare : List (DataW H)) : elems.length ≤ Rows.uptoBulk (.slice elems spare) := by
  have h1 := bulk_len elems
  simp only [Rows.uptoBulk]
  omega
theorem bulk_string (bytes : List UInt8) : bytes.length ≤ Rows.uptoBulk (DataW.lit (H := H) (.string bytes)) := by
  simp [Rows.uptoBulk]
theorem bulk_recs {l : List Rc} {d : DataW H} {ds : List (DataW H)} (hm : d ∈ ds) (hk : Rows.uptoSmall H ds = true) (h : l = [] ∨ ∃ es sp, d = .slice es sp ∧ es.length = l.length) : l.length ≤ 1048576 := by
  have hb : Rows.uptoBulkAll ds ≤ 1048576 := of_decide_eq_true hk
  rcases h with rfl | ⟨es, sp, rfl, he⟩
  · exact Nat.zero_le _
  · have h1 := bulk_part hm
    have h2 := bulk_slice es sp
    omega
theorem bulk_str {s : List UInt8} {ds : List (DataW H)} (hm : DataW.lit (.string s) ∈ ds) (hk : Rows.uptoSmall H ds = true) : s.length ≤ 1048576 := by
  have hb : Rows.uptoBulkAll ds ≤ 1048576 := of_decide_eq_true hk
  have h1 := bulk_part hm
  have h2 := bulk_string (H := H) s
  omega
end

/-- the third of the listed variables -/
theorem tab_third {P : Program} {W : World} {x y : String × DataW Unit} {rest : List (String × DataW Unit)} {name : String} {k : IntKind} {zs : List Int} {g : Nat} {t e : TypeId} {n : Nat}
    (hg : P.globalNamed name = some g) (hty : (P.globals[g]?).map (·.type) = some t) (ht : P.underlying t = some (.array n e)) (he : P.underlying e = some (.int k)) (hce : P.cellsOf e = 1) (hct : P.cellsOf t = n)
    (h : laidMet P (x :: y :: (name, Lib.tabData k zs) :: rest) W) : Lib.TabIs P W name k zs := by
  obtain ⟨ps, ⟨_, _, _, _, _, _, _, _, _, _, ⟨_, _, _, _, _, _, _, _, _, _, ⟨g', t', cs, fuel, p, q, hg', ht', hvar, hd, _, _⟩, _⟩, _⟩, _⟩ := h
  obtain rfl := Option.some.inj (hg.symm.trans hg')
  obtain rfl := Option.some.inj (hty.symm.trans ht')
  unfold Lib.TabIs
  rw [hvar, ← Lib.cells_of_tab ht he hce hct hd]
end

section
open Go.ChangeShapes Go.WideShapes Go.ChangeAt Go.RowKit

theorem tab43_of {W : World} {l : List (String × DataW Unit)} (hl : l = Rows.certificateTextUptoRow.laid) (h : laidMetH Tryz.prog l W) : TabW W := by
  subst hl
  rw [MakeChecks.laidMetH_plain _ _ _ (by kernel_rfl)] at h
  exact tab_third (n := 20) (t := 284) (e := 193) (by kernel_rfl : Tryz.prog.globalNamed "internal/strconv.uint64pow10" = some 0) (by kernel_rfl) Tryz.underlying284 Tryz.underlying193 (by kernel_rfl) (by kernel_rfl) h
noncomputable def world43 (os : Os) : World := World.laidAll Tryz.prog os Rows.certificateTextUptoRow.laid
theorem met43 (os : Os) (args : Array Value) : laidMetH Tryz.prog Rows.certificateTextUptoRow.laid ((world43 os).forCall (fun _ _ => 0) ⟨#[], args, []⟩).memory := by
  rw [MakeChecks.laidMetH_plain _ _ _ (by kernel_rfl)]
  exact laidMet_laidAll _ (by kernel_rfl) (by kernel_rfl)
end

section
open Go.ChangeShapes Go.WideShapes Go.ChangeAt Go.RowKit
open Go.ChangeMaps (open_string shut_string)

theorem certificateBack_reads (os : Os) {H : Type} (enc : TypeId × Value → H) : ∃ places, DataW.whole enc Tryz.prog ((world43 os).forCall (fun _ _ => 0) ⟨#[], #[.slice none 0 0, .slice none 0 0], []⟩).memory Tryz.f4.params.toList Rows.certificateBackSpec.vars false (#[.slice none 0 0, .slice none 0 0] : Array Value).toList 8 = some ([.nil, .nil], [], places) :=
  ⟨[], by kernel_rfl⟩
set_option maxRecDepth 100000 in
theorem certificateBack_there (os : Os) (H : Type) (enc : TypeId × Value → H) :
    ∃ (w : World) (tape : Tape) (i : Input), w.os = os ∧ (w.forCall tape i).Shaped Tryz.checked.prog ∧ i.vars = [] ∧ Input.okWide Tryz.checked.prog (w.forCall tape i) .any w.heap.size 4 i ∧
      (Rows.OpenSpec.upto Rows.certificateBackSpec).preRow enc Tryz.checked.prog Tryz.f4 Rows.certificateBackUptoRow.domain false Rows.certificateBackUptoRow.laid (w.forCall tape i).memory i.args ∧ ({} : Assume).holds Tryz.checked.prog (lone (Frame.enter Tryz.checked.prog 4 i.args .normal) [] (w.forCall tape i)) := by
  obtain ⟨places, hx⟩ := certificateBack_reads os enc
  have hok : Input.okWideB Tryz.checked.prog ((world43 os).forCall (fun _ _ => 0) ⟨#[], #[.slice none 0 0, .slice none 0 0], []⟩) 4 ⟨#[], #[.slice none 0 0, .slice none 0 0], []⟩ = true := by kernel_rfl
  refine ⟨world43 os, fun _ _ => 0, ⟨#[], #[.slice none 0 0, .slice none 0 0], []⟩, World.laidAll_os _ _ _, World.shaped_of_ZipB (by kernel_rfl) (by kernel_rfl), (Input.okWide_of_okWideB (base := 0) hok).1, (Input.okWide_of_okWideB hok).2,
    OpenSpec.preRow_of_cond 8 hx (by kernel_rfl) (fun k hk => by cases hk; kernel_rfl) (by kernel_rfl) (met43 os _), ?_⟩
  simp only [Assume.holds]
  exact ⟨by simp, by simp, fun _ => Modest.zero, by simp, by simp⟩
set_option maxRecDepth 100000 in
theorem certificateBack_lifted (os : Os) (started : os.Started) (H : Type) (enc : TypeId × Value → H) (F : Stop.Interp) :
    ReturnsInHanded {} Tryz.checked os 4 .any ((Rows.OpenSpec.upto Rows.certificateBackSpec).preRow enc Tryz.prog Tryz.f4 Rows.certificateBackUptoRow.domain false Rows.certificateBackUptoRow.laid) (((Rows.OpenSpec.upto Rows.certificateBackSpec).at F).post enc Tryz.prog Tryz.f4 false true false false) := by
  refine returnsInHanded_of_row (C := Tryz.checked) (s := Rows.OpenSpec.upto Rows.certificateBackSpec) rowOwn started (by kernel_rfl) Tryz.func4 (certificateBack_there os H enc) ?_
  intro W base args ds gs before hval0 hW _ hcond _ hL _ _
  have hval : ∀ (j : Nat) t v, Tryz.f4.params[j]? = some t → args[j]? = some v → Value.okWide Tryz.prog W .any base t v := hval0
  have hW' := hW
  obtain ⟨p, q, hA0, hV, rfl, hfz, hnd⟩ := hW
  have hA : DataW.TrodAll enc Tryz.prog W 0 (fun _ => true) true Tryz.f4.params.toList args.toList ds p := hA0
  rw [Tryz.params4] at hA hval
  obtain ⟨v0, vs0, d0, ds0, p0, q0, hargs, rfl, rfl, h0, r0⟩ := trodAll_cons hA
  obtain ⟨v1, vs1, d1, ds1, p1, q1, rfl, rfl, rfl, h1, r1⟩ := trodAll_cons r0
  obtain ⟨rfl, rfl, rfl⟩ := trodAll_nil r1
  obtain rfl : args = #[v0, v1] := by cases args; simp_all
  obtain ⟨rfl, rfl⟩ := trodVars_none hV
  obtain ⟨a0, len0, cap0, rfl⟩ := okWide_slice Tryz.underlying23 (hval 0 23 v0 rfl rfl)
  obtain ⟨a1, len1, cap1, rfl⟩ := okWide_slice Tryz.underlying22 (hval 1 22 v1 rfl rfl)
  have lt0 : ∀ x ∈ p0, x.block < W.heap.size := by obtain ⟨m, hm⟩ := h0; exact DataW.trod_lt m _ _ _ hm
  have lt1 : ∀ x ∈ p1, x.block < W.heap.size := by obtain ⟨m, hm⟩ := h1; exact DataW.trod_lt m _ _ _ hm
  obtain ⟨l0, e0, R0⟩ := trod_ints h0
  obtain ⟨l1, e1, R1, hd1⟩ := trod_recs h1
  subst e0
  subst e1
  have hl1 : l1.length ≤ 1048576 := bulk_recs (by simp) (hcond _ rfl) hd1
  have T := tab43_of (l := Rows.certificateBackUptoRow.laid) rfl hL
  clear hA0 hval0
  refine (back_walk l1 hl1 l0 a1 a0 cap1 cap0 W R1 R0 T).mono fun e W' ⟨he, kk⟩ => ?_
  subst he
  have bel : Below W.heap.size W W' := kk.toBelow (Nat.le_refl _) (fun _ _ h => h)
  exact ⟨_, rfl, _, _, _, [], _, [], hW', trodAll_mk1 (shut_bool Tryz.underlying4 _), (trodAll_cons_mk (Below.trod rowLaid (by kernel_rfl) (of_decide_eq_true (by kernel_rfl)) h0 bel lt0) (trodAll_cons_mk (Below.trod rowLaid (by kernel_rfl) (of_decide_eq_true (by kernel_rfl)) h1 bel lt1) trodAll_mk0)), rfl, bel.frame _, fun h => by cases h⟩
end

section
open Go.ChangeShapes Go.WideShapes Go.ChangeAt Go.RowKit
open Go.ChangeMaps (open_string shut_string)

theorem certificateText_reads (os : Os) {H : Type} (enc : TypeId × Value → H) : ∃ places, DataW.whole enc Tryz.prog ((world43 os).forCall (fun _ _ => 0) ⟨#[], #[.slice none 0 0, .string .empty, .slice none 0 0], []⟩).memory Tryz.f3.params.toList Rows.certificateTextSpec.vars false (#[.slice none 0 0, .string .empty, .slice none 0 0] : Array Value).toList 8 = some ([.nil, .lit (.string []), .nil], [], places) :=
  ⟨[], by kernel_rfl⟩
set_option maxRecDepth 100000 in
theorem certificateText_there (os : Os) (H : Type) (enc : TypeId × Value → H) :
    ∃ (w : World) (tape : Tape) (i : Input), w.os = os ∧ (w.forCall tape i).Shaped Tryz.checked.prog ∧ i.vars = [] ∧ Input.okWide Tryz.checked.prog (w.forCall tape i) .any w.heap.size 3 i ∧
      (Rows.OpenSpec.upto Rows.certificateTextSpec).preRow enc Tryz.checked.prog Tryz.f3 Rows.certificateTextUptoRow.domain false Rows.certificateTextUptoRow.laid (w.forCall tape i).memory i.args ∧ ({} : Assume).holds Tryz.checked.prog (lone (Frame.enter Tryz.checked.prog 3 i.args .normal) [] (w.forCall tape i)) := by
  obtain ⟨places, hx⟩ := certificateText_reads os enc
  have hok : Input.okWideB Tryz.checked.prog ((world43 os).forCall (fun _ _ => 0) ⟨#[], #[.slice none 0 0, .string .empty, .slice none 0 0], []⟩) 3 ⟨#[], #[.slice none 0 0, .string .empty, .slice none 0 0], []⟩ = true := by kernel_rfl
  refine ⟨world43 os, fun _ _ => 0, ⟨#[], #[.slice none 0 0, .string .empty, .slice none 0 0], []⟩, World.laidAll_os _ _ _, World.shaped_of_ZipB (by kernel_rfl) (by kernel_rfl), (Input.okWide_of_okWideB (base := 0) hok).1, (Input.okWide_of_okWideB hok).2,
    OpenSpec.preRow_of_cond 8 hx (by kernel_rfl) (fun k hk => by cases hk; kernel_rfl) (by kernel_rfl) (met43 os _), ?_⟩
  simp only [Assume.holds]
  exact ⟨by simp, by simp, fun _ => Modest.zero, by simp, by simp⟩
set_option maxRecDepth 100000 in
theorem certificateText_lifted (os : Os) (started : os.Started) (H : Type) (enc : TypeId × Value → H) (F : Stop.Interp) :
    ReturnsInHanded {} Tryz.checked os 3 .any ((Rows.OpenSpec.upto Rows.certificateTextSpec).preRow enc Tryz.prog Tryz.f3 Rows.certificateTextUptoRow.domain false Rows.certificateTextUptoRow.laid) (((Rows.OpenSpec.upto Rows.certificateTextSpec).at F).post enc Tryz.prog Tryz.f3 false true false false) := by
  refine returnsInHanded_of_row (C := Tryz.checked) (s := Rows.OpenSpec.upto Rows.certificateTextSpec) rowOwn started (by kernel_rfl) Tryz.func3 (certificateText_there os H enc) ?_
  intro W base args ds gs before hval0 hW _ hcond _ hL _ _
  have hval : ∀ (j : Nat) t v, Tryz.f3.params[j]? = some t → args[j]? = some v → Value.okWide Tryz.prog W .any base t v := hval0
  have hW' := hW
  obtain ⟨p, q, hA0, hV, rfl, hfz, hnd⟩ := hW
  have hA : DataW.TrodAll enc Tryz.prog W 0 (fun _ => true) true Tryz.f3.params.toList args.toList ds p := hA0
  rw [Tryz.params3] at hA hval
  obtain ⟨v0, vs0, d0, ds0, p0, q0, hargs, rfl, rfl, h0, r0⟩ := trodAll_cons hA
  obtain ⟨v1, vs1, d1, ds1, p1, q1, rfl, rfl, rfl, h1, r1⟩ := trodAll_cons r0
  obtain ⟨v2, vs2, d2, ds2, p2, q2, rfl, rfl, rfl, h2, r2⟩ := trodAll_cons r1
  obtain ⟨rfl, rfl, rfl⟩ := trodAll_nil r2
  obtain rfl : args = #[v0, v1, v2] := by cases args; simp_all
  obtain ⟨rfl, rfl⟩ := trodVars_none hV
  obtain ⟨a0, len0, cap0, rfl⟩ := okWide_slice Tryz.underlying22 (hval 0 22 v0 rfl rfl)
  obtain ⟨s, rfl, rfl, rfl, hmax⟩ := open_string Tryz.underlying9 (hval 1 9 v1 rfl rfl) h1
  obtain ⟨a2, len2, cap2, rfl⟩ := okWide_slice Tryz.underlying23 (hval 2 23 v2 rfl rfl)
  have lt0 : ∀ x ∈ p0, x.block < W.heap.size := by obtain ⟨m, hm⟩ := h0; exact DataW.trod_lt m _ _ _ hm
  have lt2 : ∀ x ∈ p2, x.block < W.heap.size := by obtain ⟨m, hm⟩ := h2; exact DataW.trod_lt m _ _ _ hm
  obtain ⟨l0, e0, R0, hd0⟩ := trod_recs h0
  obtain ⟨l2, e2, R2⟩ := trod_ints h2
  subst e0
  subst e2
  have hl0 : l0.length ≤ 1048576 := bulk_recs (by simp) (hcond _ rfl) hd0
  have hl1 : s.data.toList.length ≤ 9000000000000000000 := Nat.le_trans (bulk_str (by simp) (hcond _ rfl)) (by decide)
  have T := tab43_of rfl hL
  have WK := text_walk l0 hl0 s.data.toList hl1 l2 a0 a2 cap0 cap2 W R0 R2 T
  rw [mkS_data] at WK
  clear hA0 hval0
  refine (WK).mono fun e W' ⟨he, kk⟩ => ?_
  subst he
  have bel : Below W.heap.size W W' := kk.toBelow (Nat.le_refl _) (fun _ _ h => h)
  exact ⟨_, rfl, _, _, _, [], _, [], hW', trodAll_mk1 (shut_bool Tryz.underlying4 _), (trodAll_cons_mk (Below.trod rowLaid (by kernel_rfl) (of_decide_eq_true (by kernel_rfl)) h0 bel lt0) (trodAll_cons_mk (shut_string Tryz.underlying9 hmax) (trodAll_cons_mk (Below.trod rowLaid (by kernel_rfl) (of_decide_eq_true (by kernel_rfl)) h2 bel lt2) trodAll_mk0))), rfl, bel.frame _, fun h => by cases h⟩
end

section
open Go.ChangeShapes Go.WideShapes Go.ChangeAt Go.RowKit

theorem recurses_unf (P : Program) (f : FuncId) (h : P.unfollowed f = true) : P.recurses f = true := by
  unfold Program.recurses
  rw [h]; rfl
theorem inPlace_of {P : Program} {f : FuncId} {L : List FuncId} (h : P.closure f = L) : P.inPlace f = L.filterMap fun g => (P.funcs[g]?).bind fun fn => if fn.ours || fn.body.isNone || fn.name == "runtime.NumGoroutine" then some fn.name else none := by
  unfold Program.inPlace; rw [h]
theorem unfollowed_of {P : Program} {f g : FuncId} {L : List FuncId} (h : P.closure f = L) (hg : L.contains g = true) (h2 : ((P.funcs[g]?).any fun fn => match fn.body with | some c => c.unfollowed | none => entryCalls fn) = true) : P.unfollowed f = true := by
  unfold Program.unfollowed
  rw [h]
  exact List.any_eq_true.2 ⟨g, by simpa using hg, h2⟩
theorem varsNamed_of {P : Program} {f : FuncId} {L : List FuncId} (h : P.closure f = L) : P.varsNamed f = (((L.flatMap fun g => ((P.funcs[g]?).bind (·.body)).elim [] Code.globalsNamed).eraseDups).filterMap (fun g => (P.globals[g]?).map (·.name)) ++
   L.filterMap fun g => (P.funcs[g]?).bind fun fn => if fn.body.isNone then entryReads.lookup fn.name else none).eraseDups := by
  unfold Program.varsNamed; rw [h]
theorem ofJand {a b : Bool} (h1 : a = true) (h2 : b = true) : (a && b) = true := by rw [h1, h2]; rfl
end
end Go.Proofs.YtnglahcjemgcaaaGreatDoor
