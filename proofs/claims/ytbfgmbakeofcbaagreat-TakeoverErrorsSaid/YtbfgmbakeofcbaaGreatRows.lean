/-
  No cell of these rows narrows 'for every input' (looked for: loops, veiled, ifaces, maps, wideKeys, modest, calm, conditions, laid).
  DERIVED. THE GIVEN ROWS OF THIS SEAT. 3 by the template 'for every input the law returns true; each argument reads behind the call as it read before'; 0 by the template 'total and deterministic' (their statements: YtbfgmbakeofcbaaGreatTotals.lean).
  GIVEN WITH THE SEED: the statements are not yours to turn. If you find one false, say at which input.
  Laid BY PROGRAM, IN A SANDBOX (cutbox-rows.mjs): the forced cells as the released guide's own fill.sh prints them over the translation 8c61afd4ed0f1cc0… (all of the seat's roots in one cut). By AI agents, Wed Nov 11 2026. No macro, syntax, notation, axiom, sorry.
-/
import Derived.Test.YtbfgmbakeofcbaaGreatChecked
import GoSem.Claim
import GoSem.ClaimJoined
import GoSem.ClaimMapViews
import Derived.JoinedTies
import Derived.KernelRfl
namespace Go.Proofs.YtbfgmbakeofcbaaGreat
/- THE CELL 'sum', in the pinned program and in every row, IS THE sha256 OF THE DUMP (.gsa) THAT YtbfgmbakeofcbaaGreatProg.lean LOADS. Nothing in Lean hashes anything: it is a label: what it is worth is what the hold of that sum in a sandbox is worth. -/
noncomputable def Tryz.pinned : Pinned := { name := "ytbfgmbakeofcbaagreat", sum := "8c61afd4ed0f1cc0e0acc6fd25c97b421948c0053f2dc7e3f8d502d39533fc8c", checked := Tryz.checked }
namespace Rows
def none {H : Type} : Left H := { results := [], args := [] }

/-- 'railplanlaw38.TakeoverErrors': WHATEVER THE INPUT: true; the input reads as it did. -/
def takeoverErrorsSpec : ChangeSpec := { name := "takeoverErrors", fn := fun _ => fun
  | [d1, d2, d3, d4, d5, d6] => { results := [.lit (.bool true)], args := [d1, d2, d3, d4, d5, d6] }
  | _ => none }
def takeoverErrorsRow : OpenClaim := { program := "ytbfgmbakeofcbaagreat", sum := "8c61afd4ed0f1cc0e0acc6fd25c97b421948c0053f2dc7e3f8d502d39533fc8c", func := "railplan/railplanlaw38.TakeoverErrors", spec := "takeoverErrors", unfollowed := true, recurses := true, plainKeys := false, apart := false }
def TakeoverErrorsSaid : Prop := takeoverErrorsRow.holds Tryz.pinned (OpenSpec.ofChange takeoverErrorsSpec)

/-- ITS FALSE NEIGHBOUR: 'it returns false'. Refute it at one input. -/
def takeoverErrorsWrong : ChangeSpec := { name := "takeoverErrors", fn := fun _ => fun
  | [d1, d2, d3, d4, d5, d6] => { results := [.lit (.bool false)], args := [d1, d2, d3, d4, d5, d6] }
  | _ => none }
def TakeoverErrorsWrongFalsely : Prop := takeoverErrorsRow.holds Tryz.pinned (OpenSpec.ofChange takeoverErrorsWrong)

/-- 'railplanlaw38.TakeoverOrders': WHATEVER THE INPUT: true; the input reads as it did. -/
def takeoverOrdersSpec : ChangeSpec := { name := "takeoverOrders", fn := fun _ => fun
  | [d1, d2, d3, d4] => { results := [.lit (.bool true)], args := [d1, d2, d3, d4] }
  | _ => none }
def takeoverOrdersRow : OpenClaim := { program := "ytbfgmbakeofcbaagreat", sum := "8c61afd4ed0f1cc0e0acc6fd25c97b421948c0053f2dc7e3f8d502d39533fc8c", func := "railplan/railplanlaw38.TakeoverOrders", spec := "takeoverOrders", unfollowed := true, recurses := true, plainKeys := false, apart := false }
def TakeoverOrdersSaid : Prop := takeoverOrdersRow.holds Tryz.pinned (OpenSpec.ofChange takeoverOrdersSpec)

/-- ITS FALSE NEIGHBOUR: 'it returns false'. Refute it at one input. -/
def takeoverOrdersWrong : ChangeSpec := { name := "takeoverOrders", fn := fun _ => fun
  | [d1, d2, d3, d4] => { results := [.lit (.bool false)], args := [d1, d2, d3, d4] }
  | _ => none }
def TakeoverOrdersWrongFalsely : Prop := takeoverOrdersRow.holds Tryz.pinned (OpenSpec.ofChange takeoverOrdersWrong)

/-- 'railplanlaw38.TakeoverPlanned': WHATEVER THE INPUT: true; the input reads as it did. -/
def takeoverPlannedSpec : ChangeSpec := { name := "takeoverPlanned", fn := fun _ => fun
  | [d1, d2, d3, d4] => { results := [.lit (.bool true)], args := [d1, d2, d3, d4] }
  | _ => none }
def takeoverPlannedRow : OpenClaim := { program := "ytbfgmbakeofcbaagreat", sum := "8c61afd4ed0f1cc0e0acc6fd25c97b421948c0053f2dc7e3f8d502d39533fc8c", func := "railplan/railplanlaw38.TakeoverPlanned", spec := "takeoverPlanned", unfollowed := true, recurses := true, plainKeys := false, apart := false }
def TakeoverPlannedSaid : Prop := takeoverPlannedRow.holds Tryz.pinned (OpenSpec.ofChange takeoverPlannedSpec)

/-- ITS FALSE NEIGHBOUR: 'it returns false'. Refute it at one input. -/
def takeoverPlannedWrong : ChangeSpec := { name := "takeoverPlanned", fn := fun _ => fun
  | [d1, d2, d3, d4] => { results := [.lit (.bool false)], args := [d1, d2, d3, d4] }
  | _ => none }
def TakeoverPlannedWrongFalsely : Prop := takeoverPlannedRow.holds Tryz.pinned (OpenSpec.ofChange takeoverPlannedWrong)

/- THE SECOND FORM. 'bulk': how many values and letters a reading holds, each counted each time it is reached (what is shared counts as often as it is met; a slice's spare places count too). A statement '..UptoSaid' is the law's where the arguments, and the package variables that the reading takes, are together of bulk at most 1048576: NARROWER than '..Said'. Prove '..Said' where nothing that the law and all that it calls make is longer than what came in: it says more and counts as full. Else prove '..UptoSaid'. A law counts once. -/
mutual
def uptoBulk {H : Type} : DataW H → Nat
  | .lit (.string bytes) => bytes.length + 1
  | .lit _ => 1
  | .nil => 1
  | .ptr d => uptoBulk d + 1
  | .slice elems spare => uptoBulkAll elems + uptoBulkAll spare + 1
  | .agg parts => uptoBulkAll parts + 1
  | .iface _ d => uptoBulk d + 1
  | .map entries => uptoBulkEntries entries + 1
  | .held _ => 1
def uptoBulkAll {H : Type} : List (DataW H) → Nat
  | [] => 0
  | d :: r => uptoBulk d + uptoBulkAll r
def uptoBulkEntries {H : Type} : List (Lit × DataW H) → Nat
  | [] => 0
  | x :: r => uptoBulkEntry x + uptoBulkEntries r
def uptoBulkEntry {H : Type} : Lit × DataW H → Nat
  | (.string bytes, d) => bytes.length + uptoBulk d + 1
  | (_, d) => uptoBulk d + 1
 end
def uptoSmall : (H : Type) → List (DataW H) → Bool := fun _ ds => decide (uptoBulkAll ds ≤ 1048576)
def OpenSpec.upto (s : _root_.Go.ChangeSpec) : _root_.Go.OpenSpec := { _root_.Go.OpenSpec.ofChange s with cond := some uptoSmall }

/-- 'railplanlaw38.TakeoverErrors', WHERE WHAT IT READS IS OF BULK AT MOST 1048576: true; the input reads as it did. -/
def takeoverErrorsUptoRow : OpenClaim := { program := "ytbfgmbakeofcbaagreat", sum := "8c61afd4ed0f1cc0e0acc6fd25c97b421948c0053f2dc7e3f8d502d39533fc8c", func := "railplan/railplanlaw38.TakeoverErrors", spec := "takeoverErrors", unfollowed := true, recurses := true, plainKeys := false, apart := false, narrowed := true }
def TakeoverErrorsUptoSaid : Prop := takeoverErrorsUptoRow.holds Tryz.pinned (OpenSpec.upto takeoverErrorsSpec)

/-- 'railplanlaw38.TakeoverOrders', WHERE WHAT IT READS IS OF BULK AT MOST 1048576: true; the input reads as it did. -/
def takeoverOrdersUptoRow : OpenClaim := { program := "ytbfgmbakeofcbaagreat", sum := "8c61afd4ed0f1cc0e0acc6fd25c97b421948c0053f2dc7e3f8d502d39533fc8c", func := "railplan/railplanlaw38.TakeoverOrders", spec := "takeoverOrders", unfollowed := true, recurses := true, plainKeys := false, apart := false, narrowed := true }
def TakeoverOrdersUptoSaid : Prop := takeoverOrdersUptoRow.holds Tryz.pinned (OpenSpec.upto takeoverOrdersSpec)

/-- 'railplanlaw38.TakeoverPlanned', WHERE WHAT IT READS IS OF BULK AT MOST 1048576: true; the input reads as it did. -/
def takeoverPlannedUptoRow : OpenClaim := { program := "ytbfgmbakeofcbaagreat", sum := "8c61afd4ed0f1cc0e0acc6fd25c97b421948c0053f2dc7e3f8d502d39533fc8c", func := "railplan/railplanlaw38.TakeoverPlanned", spec := "takeoverPlanned", unfollowed := true, recurses := true, plainKeys := false, apart := false, narrowed := true }
def TakeoverPlannedUptoSaid : Prop := takeoverPlannedUptoRow.holds Tryz.pinned (OpenSpec.upto takeoverPlannedSpec)

end Rows
end Go.Proofs.YtbfgmbakeofcbaaGreat
