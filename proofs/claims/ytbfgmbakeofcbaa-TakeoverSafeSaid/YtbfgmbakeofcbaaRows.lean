/-
  No cell of these rows narrows 'for every input' (looked for: loops, veiled, ifaces, maps, wideKeys, modest, calm, conditions, laid).
  DERIVED. THE GIVEN ROWS OF THIS SEAT. 3 by the template 'for every input the law returns true; each argument reads behind the call as it read before'; 0 by the template 'total and deterministic' (their statements: YtbfgmbakeofcbaaTotals.lean).
  GIVEN WITH THE SEED: the statements are not yours to turn. If you find one false, say at which input.
  Laid BY PROGRAM, IN A SANDBOX (cutbox-rows.mjs): the forced cells as the released guide's own fill.sh prints them over the translation 8d2dabc6186db63d… (all of the seat's roots in one cut). By AI agents, Wed Nov 11 2026. No macro, syntax, notation, axiom, sorry.
-/
import Derived.Test.YtbfgmbakeofcbaaChecked
import GoSem.Claim
import GoSem.ClaimJoined
import GoSem.ClaimMapViews
import Derived.JoinedTies
import Derived.KernelRfl
namespace Go.Proofs.Ytbfgmbakeofcbaa
/- THE CELL 'sum', in the pinned program and in every row, IS THE sha256 OF THE DUMP (.gsa) THAT YtbfgmbakeofcbaaProg.lean LOADS. Nothing in Lean hashes anything: it is a label: what it is worth is what the hold of that sum in a sandbox is worth. -/
noncomputable def Try.pinned : Pinned := { name := "ytbfgmbakeofcbaa", sum := "8d2dabc6186db63d317f8f5187dbd1ebbe866e943b959a34f85775fdb7db7905", checked := Try.checked }
namespace Rows
def none {H : Type} : Left H := { results := [], args := [] }

/-- 'railplanlaw38.TakeoverLine': WHATEVER THE INPUT: true; the input reads as it did. -/
def takeoverLineSpec : ChangeSpec := { name := "takeoverLine", fn := fun _ => fun
  | [d1, d2, d3] => { results := [.lit (.bool true)], args := [d1, d2, d3] }
  | _ => none }
def takeoverLineRow : OpenClaim := { program := "ytbfgmbakeofcbaa", sum := "8d2dabc6186db63d317f8f5187dbd1ebbe866e943b959a34f85775fdb7db7905", func := "railplan/railplanlaw38.TakeoverLine", spec := "takeoverLine", unfollowed := true, recurses := true, plainKeys := false, apart := false }
def TakeoverLineSaid : Prop := takeoverLineRow.holds Try.pinned (OpenSpec.ofChange takeoverLineSpec)

/-- ITS FALSE NEIGHBOUR: 'it returns false'. Refute it at one input. -/
def takeoverLineWrong : ChangeSpec := { name := "takeoverLine", fn := fun _ => fun
  | [d1, d2, d3] => { results := [.lit (.bool false)], args := [d1, d2, d3] }
  | _ => none }
def TakeoverLineWrongFalsely : Prop := takeoverLineRow.holds Try.pinned (OpenSpec.ofChange takeoverLineWrong)

/-- 'railplanlaw38.TakeoverSafe': WHATEVER THE INPUT: true; the input reads as it did. -/
def takeoverSafeSpec : ChangeSpec := { name := "takeoverSafe", fn := fun _ => fun
  | [d1, d2, d3] => { results := [.lit (.bool true)], args := [d1, d2, d3] }
  | _ => none }
def takeoverSafeRow : OpenClaim := { program := "ytbfgmbakeofcbaa", sum := "8d2dabc6186db63d317f8f5187dbd1ebbe866e943b959a34f85775fdb7db7905", func := "railplan/railplanlaw38.TakeoverSafe", spec := "takeoverSafe", unfollowed := true, recurses := true, plainKeys := false, apart := false }
def TakeoverSafeSaid : Prop := takeoverSafeRow.holds Try.pinned (OpenSpec.ofChange takeoverSafeSpec)

/-- ITS FALSE NEIGHBOUR: 'it returns false'. Refute it at one input. -/
def takeoverSafeWrong : ChangeSpec := { name := "takeoverSafe", fn := fun _ => fun
  | [d1, d2, d3] => { results := [.lit (.bool false)], args := [d1, d2, d3] }
  | _ => none }
def TakeoverSafeWrongFalsely : Prop := takeoverSafeRow.holds Try.pinned (OpenSpec.ofChange takeoverSafeWrong)

/-- 'railplanlaw38.TakeoverSteady': WHATEVER THE INPUT: true; the input reads as it did. -/
def takeoverSteadySpec : ChangeSpec := { name := "takeoverSteady", fn := fun _ => fun
  | [d1, d2, d3] => { results := [.lit (.bool true)], args := [d1, d2, d3] }
  | _ => none }
def takeoverSteadyRow : OpenClaim := { program := "ytbfgmbakeofcbaa", sum := "8d2dabc6186db63d317f8f5187dbd1ebbe866e943b959a34f85775fdb7db7905", func := "railplan/railplanlaw38.TakeoverSteady", spec := "takeoverSteady", unfollowed := true, recurses := true, plainKeys := false, apart := false }
def TakeoverSteadySaid : Prop := takeoverSteadyRow.holds Try.pinned (OpenSpec.ofChange takeoverSteadySpec)

/-- ITS FALSE NEIGHBOUR: 'it returns false'. Refute it at one input. -/
def takeoverSteadyWrong : ChangeSpec := { name := "takeoverSteady", fn := fun _ => fun
  | [d1, d2, d3] => { results := [.lit (.bool false)], args := [d1, d2, d3] }
  | _ => none }
def TakeoverSteadyWrongFalsely : Prop := takeoverSteadyRow.holds Try.pinned (OpenSpec.ofChange takeoverSteadyWrong)

/- THE SECOND FORM. 'bulk': how many values and letters a reading holds, each counted each time it is reached (what is shared counts as often as it is met; a slice's spare places count too). A statement '..UptoSaid' is the law's where the arguments, and the package variables that the reading takes, are together of bulk at most 1048576: NARROWER than '..Said'. Prove '..Said' where nothing that the law and all that it calls make is longer than what came in: it says more and counts as full. Else prove '..UptoSaid'. A law counts once. -/
mutual
def uptoBulk {H : Type} : DataW H → Nat
  | .lit (.string bytes) => bytes.length + 1
  | .lit _ => 1
  | .nil => 1
  | .ptr d => uptoBulk d + 1
  | .slice elems spare => uptoBulkAll elems + uptoBulkAll spare + 1
  | .agg parts => uptoBulkAll parts + 1
  | .iface _ d => uptoBulk d + 1
  | .map entries => uptoBulkEntries entries + 1
  | .held _ => 1
def uptoBulkAll {H : Type} : List (DataW H) → Nat
  | [] => 0
  | d :: r => uptoBulk d + uptoBulkAll r
def uptoBulkEntries {H : Type} : List (Lit × DataW H) → Nat
  | [] => 0
  | x :: r => uptoBulkEntry x + uptoBulkEntries r
def uptoBulkEntry {H : Type} : Lit × DataW H → Nat
  | (.string bytes, d) => bytes.length + uptoBulk d + 1
  | (_, d) => uptoBulk d + 1
 end
def uptoSmall : (H : Type) → List (DataW H) → Bool := fun _ ds => decide (uptoBulkAll ds ≤ 1048576)
def OpenSpec.upto (s : _root_.Go.ChangeSpec) : _root_.Go.OpenSpec := { _root_.Go.OpenSpec.ofChange s with cond := some uptoSmall }

/-- 'railplanlaw38.TakeoverLine', WHERE WHAT IT READS IS OF BULK AT MOST 1048576: true; the input reads as it did. -/
def takeoverLineUptoRow : OpenClaim := { program := "ytbfgmbakeofcbaa", sum := "8d2dabc6186db63d317f8f5187dbd1ebbe866e943b959a34f85775fdb7db7905", func := "railplan/railplanlaw38.TakeoverLine", spec := "takeoverLine", unfollowed := true, recurses := true, plainKeys := false, apart := false, narrowed := true }
def TakeoverLineUptoSaid : Prop := takeoverLineUptoRow.holds Try.pinned (OpenSpec.upto takeoverLineSpec)

/-- 'railplanlaw38.TakeoverSafe', WHERE WHAT IT READS IS OF BULK AT MOST 1048576: true; the input reads as it did. -/
def takeoverSafeUptoRow : OpenClaim := { program := "ytbfgmbakeofcbaa", sum := "8d2dabc6186db63d317f8f5187dbd1ebbe866e943b959a34f85775fdb7db7905", func := "railplan/railplanlaw38.TakeoverSafe", spec := "takeoverSafe", unfollowed := true, recurses := true, plainKeys := false, apart := false, narrowed := true }
def TakeoverSafeUptoSaid : Prop := takeoverSafeUptoRow.holds Try.pinned (OpenSpec.upto takeoverSafeSpec)

/-- 'railplanlaw38.TakeoverSteady', WHERE WHAT IT READS IS OF BULK AT MOST 1048576: true; the input reads as it did. -/
def takeoverSteadyUptoRow : OpenClaim := { program := "ytbfgmbakeofcbaa", sum := "8d2dabc6186db63d317f8f5187dbd1ebbe866e943b959a34f85775fdb7db7905", func := "railplan/railplanlaw38.TakeoverSteady", spec := "takeoverSteady", unfollowed := true, recurses := true, plainKeys := false, apart := false, narrowed := true }
def TakeoverSteadyUptoSaid : Prop := takeoverSteadyUptoRow.holds Try.pinned (OpenSpec.upto takeoverSteadySpec)

end Rows
end Go.Proofs.Ytbfgmbakeofcbaa
