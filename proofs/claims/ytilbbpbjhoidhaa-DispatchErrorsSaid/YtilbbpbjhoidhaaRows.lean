/-
  No cell of these rows narrows 'for every input' (looked for: loops, veiled, ifaces, maps, wideKeys, modest, calm, conditions, laid).
  DERIVED. THE GIVEN ROWS OF THIS SEAT. 8 by the template 'for every input the law returns true; each argument reads behind the call as it read before'; 0 by the template 'total and deterministic' (their statements: YtilbbpbjhoidhaaTotals.lean).
  GIVEN WITH THE SEED: the statements are not yours to turn. If you find one false, say at which input.
  Laid BY PROGRAM, IN A SANDBOX (cutbox-rows.mjs): the forced cells as the released guide's own fill.sh prints them over the translation efcce9758f48f93a… (all of the seat's roots in one cut). By AI agents, Wed Nov 11 2026. No macro, syntax, notation, axiom, sorry.
-/
import Derived.Test.YtilbbpbjhoidhaaChecked
import GoSem.Claim
import GoSem.ClaimJoined
import GoSem.ClaimMapViews
import Derived.JoinedTies
import Derived.KernelRfl
namespace Go.Proofs.Ytilbbpbjhoidhaa
/- THE CELL 'sum', in the pinned program and in every row, IS THE sha256 OF THE DUMP (.gsa) THAT YtilbbpbjhoidhaaProg.lean LOADS. Nothing in Lean hashes anything: it is a label: what it is worth is what the hold of that sum in a sandbox is worth. -/
noncomputable def Try.pinned : Pinned := { name := "ytilbbpbjhoidhaa", sum := "efcce9758f48f93a50064e4755c17105e919af9fc79c65fe7bd359bd1e721bee", checked := Try.checked }
namespace Rows
def none {H : Type} : Left H := { results := [], args := [] }

/-- 'railplanlaw37.DispatchSolve': WHATEVER THE INPUT: true; the input reads as it did. -/
def dispatchSolveSpec : ChangeSpec := { name := "dispatchSolve", fn := fun _ => fun
  | [d1, d2, d3, d4, d5] => { results := [.lit (.bool true)], args := [d1, d2, d3, d4, d5] }
  | _ => none }
def dispatchSolveRow : OpenClaim := { program := "ytilbbpbjhoidhaa", sum := "efcce9758f48f93a50064e4755c17105e919af9fc79c65fe7bd359bd1e721bee", func := "railplan/railplanlaw37.DispatchSolve", spec := "dispatchSolve", unfollowed := true, recurses := true, apart := false }
def DispatchSolveSaid : Prop := dispatchSolveRow.holds Try.pinned (OpenSpec.ofChange dispatchSolveSpec)

/-- ITS FALSE NEIGHBOUR: 'it returns false'. Refute it at one input. -/
def dispatchSolveWrong : ChangeSpec := { name := "dispatchSolve", fn := fun _ => fun
  | [d1, d2, d3, d4, d5] => { results := [.lit (.bool false)], args := [d1, d2, d3, d4, d5] }
  | _ => none }
def DispatchSolveWrongFalsely : Prop := dispatchSolveRow.holds Try.pinned (OpenSpec.ofChange dispatchSolveWrong)

/-- 'railplanlaw37.DispatchErrors': WHATEVER THE INPUT: true; the input reads as it did. -/
def dispatchErrorsSpec : ChangeSpec := { name := "dispatchErrors", fn := fun _ => fun
  | [d1, d2] => { results := [.lit (.bool true)], args := [d1, d2] }
  | _ => none }
def dispatchErrorsRow : OpenClaim := { program := "ytilbbpbjhoidhaa", sum := "efcce9758f48f93a50064e4755c17105e919af9fc79c65fe7bd359bd1e721bee", func := "railplan/railplanlaw37.DispatchErrors", spec := "dispatchErrors", unfollowed := true, recurses := true, apart := false }
def DispatchErrorsSaid : Prop := dispatchErrorsRow.holds Try.pinned (OpenSpec.ofChange dispatchErrorsSpec)

/-- ITS FALSE NEIGHBOUR: 'it returns false'. Refute it at one input. -/
def dispatchErrorsWrong : ChangeSpec := { name := "dispatchErrors", fn := fun _ => fun
  | [d1, d2] => { results := [.lit (.bool false)], args := [d1, d2] }
  | _ => none }
def DispatchErrorsWrongFalsely : Prop := dispatchErrorsRow.holds Try.pinned (OpenSpec.ofChange dispatchErrorsWrong)

/-- 'railplanlaw37.DispatchVerify': WHATEVER THE INPUT: true; the input reads as it did. -/
def dispatchVerifySpec : ChangeSpec := { name := "dispatchVerify", fn := fun _ => fun
  | [d1, d2, d3, d4, d5, d6, d7] => { results := [.lit (.bool true)], args := [d1, d2, d3, d4, d5, d6, d7] }
  | _ => none }
def dispatchVerifyRow : OpenClaim := { program := "ytilbbpbjhoidhaa", sum := "efcce9758f48f93a50064e4755c17105e919af9fc79c65fe7bd359bd1e721bee", func := "railplan/railplanlaw37.DispatchVerify", spec := "dispatchVerify", unfollowed := true, recurses := true, apart := false }
def DispatchVerifySaid : Prop := dispatchVerifyRow.holds Try.pinned (OpenSpec.ofChange dispatchVerifySpec)

/-- ITS FALSE NEIGHBOUR: 'it returns false'. Refute it at one input. -/
def dispatchVerifyWrong : ChangeSpec := { name := "dispatchVerify", fn := fun _ => fun
  | [d1, d2, d3, d4, d5, d6, d7] => { results := [.lit (.bool false)], args := [d1, d2, d3, d4, d5, d6, d7] }
  | _ => none }
def DispatchVerifyWrongFalsely : Prop := dispatchVerifyRow.holds Try.pinned (OpenSpec.ofChange dispatchVerifyWrong)

/-- 'railplanlaw37.DispatchArbitrary': WHATEVER THE INPUT: true; the input reads as it did. -/
def dispatchArbitrarySpec : ChangeSpec := { name := "dispatchArbitrary", fn := fun _ => fun
  | [d1, d2, d3, d4, d5] => { results := [.lit (.bool true)], args := [d1, d2, d3, d4, d5] }
  | _ => none }
def dispatchArbitraryRow : OpenClaim := { program := "ytilbbpbjhoidhaa", sum := "efcce9758f48f93a50064e4755c17105e919af9fc79c65fe7bd359bd1e721bee", func := "railplan/railplanlaw37.DispatchArbitrary", spec := "dispatchArbitrary", unfollowed := true, recurses := true, apart := false }
def DispatchArbitrarySaid : Prop := dispatchArbitraryRow.holds Try.pinned (OpenSpec.ofChange dispatchArbitrarySpec)

/-- ITS FALSE NEIGHBOUR: 'it returns false'. Refute it at one input. -/
def dispatchArbitraryWrong : ChangeSpec := { name := "dispatchArbitrary", fn := fun _ => fun
  | [d1, d2, d3, d4, d5] => { results := [.lit (.bool false)], args := [d1, d2, d3, d4, d5] }
  | _ => none }
def DispatchArbitraryWrongFalsely : Prop := dispatchArbitraryRow.holds Try.pinned (OpenSpec.ofChange dispatchArbitraryWrong)

/-- 'railplanlaw37.DispatchLeast': WHATEVER THE INPUT: true; the input reads as it did. -/
def dispatchLeastSpec : ChangeSpec := { name := "dispatchLeast", fn := fun _ => fun
  | [d1, d2, d3, d4] => { results := [.lit (.bool true)], args := [d1, d2, d3, d4] }
  | _ => none }
def dispatchLeastRow : OpenClaim := { program := "ytilbbpbjhoidhaa", sum := "efcce9758f48f93a50064e4755c17105e919af9fc79c65fe7bd359bd1e721bee", func := "railplan/railplanlaw37.DispatchLeast", spec := "dispatchLeast", unfollowed := true, recurses := true, apart := false }
def DispatchLeastSaid : Prop := dispatchLeastRow.holds Try.pinned (OpenSpec.ofChange dispatchLeastSpec)

/-- ITS FALSE NEIGHBOUR: 'it returns false'. Refute it at one input. -/
def dispatchLeastWrong : ChangeSpec := { name := "dispatchLeast", fn := fun _ => fun
  | [d1, d2, d3, d4] => { results := [.lit (.bool false)], args := [d1, d2, d3, d4] }
  | _ => none }
def DispatchLeastWrongFalsely : Prop := dispatchLeastRow.holds Try.pinned (OpenSpec.ofChange dispatchLeastWrong)

/-- 'railplanlaw37.DispatchBound': WHATEVER THE INPUT: true; the input reads as it did. -/
def dispatchBoundSpec : ChangeSpec := { name := "dispatchBound", fn := fun _ => fun
  | [d1, d2, d3, d4] => { results := [.lit (.bool true)], args := [d1, d2, d3, d4] }
  | _ => none }
def dispatchBoundRow : OpenClaim := { program := "ytilbbpbjhoidhaa", sum := "efcce9758f48f93a50064e4755c17105e919af9fc79c65fe7bd359bd1e721bee", func := "railplan/railplanlaw37.DispatchBound", spec := "dispatchBound", unfollowed := true, recurses := true, apart := false }
def DispatchBoundSaid : Prop := dispatchBoundRow.holds Try.pinned (OpenSpec.ofChange dispatchBoundSpec)

/-- ITS FALSE NEIGHBOUR: 'it returns false'. Refute it at one input. -/
def dispatchBoundWrong : ChangeSpec := { name := "dispatchBound", fn := fun _ => fun
  | [d1, d2, d3, d4] => { results := [.lit (.bool false)], args := [d1, d2, d3, d4] }
  | _ => none }
def DispatchBoundWrongFalsely : Prop := dispatchBoundRow.holds Try.pinned (OpenSpec.ofChange dispatchBoundWrong)

/-- 'railplanlaw37.DispatchSafe': WHATEVER THE INPUT: true; the input reads as it did. -/
def dispatchSafeSpec : ChangeSpec := { name := "dispatchSafe", fn := fun _ => fun
  | [d1, d2, d3, d4] => { results := [.lit (.bool true)], args := [d1, d2, d3, d4] }
  | _ => none }
def dispatchSafeRow : OpenClaim := { program := "ytilbbpbjhoidhaa", sum := "efcce9758f48f93a50064e4755c17105e919af9fc79c65fe7bd359bd1e721bee", func := "railplan/railplanlaw37.DispatchSafe", spec := "dispatchSafe", unfollowed := true, recurses := true, apart := false }
def DispatchSafeSaid : Prop := dispatchSafeRow.holds Try.pinned (OpenSpec.ofChange dispatchSafeSpec)

/-- ITS FALSE NEIGHBOUR: 'it returns false'. Refute it at one input. -/
def dispatchSafeWrong : ChangeSpec := { name := "dispatchSafe", fn := fun _ => fun
  | [d1, d2, d3, d4] => { results := [.lit (.bool false)], args := [d1, d2, d3, d4] }
  | _ => none }
def DispatchSafeWrongFalsely : Prop := dispatchSafeRow.holds Try.pinned (OpenSpec.ofChange dispatchSafeWrong)

/-- 'railplanlaw37.DispatchLater': WHATEVER THE INPUT: true; the input reads as it did. -/
def dispatchLaterSpec : ChangeSpec := { name := "dispatchLater", fn := fun _ => fun
  | [d1, d2, d3, d4, d5, d6] => { results := [.lit (.bool true)], args := [d1, d2, d3, d4, d5, d6] }
  | _ => none }
def dispatchLaterRow : OpenClaim := { program := "ytilbbpbjhoidhaa", sum := "efcce9758f48f93a50064e4755c17105e919af9fc79c65fe7bd359bd1e721bee", func := "railplan/railplanlaw37.DispatchLater", spec := "dispatchLater", unfollowed := true, recurses := true, apart := false }
def DispatchLaterSaid : Prop := dispatchLaterRow.holds Try.pinned (OpenSpec.ofChange dispatchLaterSpec)

/-- ITS FALSE NEIGHBOUR: 'it returns false'. Refute it at one input. -/
def dispatchLaterWrong : ChangeSpec := { name := "dispatchLater", fn := fun _ => fun
  | [d1, d2, d3, d4, d5, d6] => { results := [.lit (.bool false)], args := [d1, d2, d3, d4, d5, d6] }
  | _ => none }
def DispatchLaterWrongFalsely : Prop := dispatchLaterRow.holds Try.pinned (OpenSpec.ofChange dispatchLaterWrong)

/- THE SECOND FORM. 'bulk': how many values and letters a reading holds, each counted each time it is reached (what is shared counts as often as it is met; a slice's spare places count too). A statement '..UptoSaid' is the law's where the arguments, and the package variables that the reading takes, are together of bulk at most 1048576: NARROWER than '..Said'. Prove '..Said' where nothing that the law and all that it calls make is longer than what came in: it says more and counts as full. Else prove '..UptoSaid'. A law counts once. -/
mutual
def uptoBulk {H : Type} : DataW H → Nat
  | .lit (.string bytes) => bytes.length + 1
  | .lit _ => 1
  | .nil => 1
  | .ptr d => uptoBulk d + 1
  | .slice elems spare => uptoBulkAll elems + uptoBulkAll spare + 1
  | .agg parts => uptoBulkAll parts + 1
  | .iface _ d => uptoBulk d + 1
  | .map entries => uptoBulkEntries entries + 1
  | .held _ => 1
def uptoBulkAll {H : Type} : List (DataW H) → Nat
  | [] => 0
  | d :: r => uptoBulk d + uptoBulkAll r
def uptoBulkEntries {H : Type} : List (Lit × DataW H) → Nat
  | [] => 0
  | x :: r => uptoBulkEntry x + uptoBulkEntries r
def uptoBulkEntry {H : Type} : Lit × DataW H → Nat
  | (.string bytes, d) => bytes.length + uptoBulk d + 1
  | (_, d) => uptoBulk d + 1
 end
def uptoSmall : (H : Type) → List (DataW H) → Bool := fun _ ds => decide (uptoBulkAll ds ≤ 1048576)
def OpenSpec.upto (s : _root_.Go.ChangeSpec) : _root_.Go.OpenSpec := { _root_.Go.OpenSpec.ofChange s with cond := some uptoSmall }

/-- 'railplanlaw37.DispatchSolve', WHERE WHAT IT READS IS OF BULK AT MOST 1048576: true; the input reads as it did. -/
def dispatchSolveUptoRow : OpenClaim := { program := "ytilbbpbjhoidhaa", sum := "efcce9758f48f93a50064e4755c17105e919af9fc79c65fe7bd359bd1e721bee", func := "railplan/railplanlaw37.DispatchSolve", spec := "dispatchSolve", unfollowed := true, recurses := true, apart := false, narrowed := true }
def DispatchSolveUptoSaid : Prop := dispatchSolveUptoRow.holds Try.pinned (OpenSpec.upto dispatchSolveSpec)

/-- 'railplanlaw37.DispatchErrors', WHERE WHAT IT READS IS OF BULK AT MOST 1048576: true; the input reads as it did. -/
def dispatchErrorsUptoRow : OpenClaim := { program := "ytilbbpbjhoidhaa", sum := "efcce9758f48f93a50064e4755c17105e919af9fc79c65fe7bd359bd1e721bee", func := "railplan/railplanlaw37.DispatchErrors", spec := "dispatchErrors", unfollowed := true, recurses := true, apart := false, narrowed := true }
def DispatchErrorsUptoSaid : Prop := dispatchErrorsUptoRow.holds Try.pinned (OpenSpec.upto dispatchErrorsSpec)

/-- 'railplanlaw37.DispatchVerify', WHERE WHAT IT READS IS OF BULK AT MOST 1048576: true; the input reads as it did. -/
def dispatchVerifyUptoRow : OpenClaim := { program := "ytilbbpbjhoidhaa", sum := "efcce9758f48f93a50064e4755c17105e919af9fc79c65fe7bd359bd1e721bee", func := "railplan/railplanlaw37.DispatchVerify", spec := "dispatchVerify", unfollowed := true, recurses := true, apart := false, narrowed := true }
def DispatchVerifyUptoSaid : Prop := dispatchVerifyUptoRow.holds Try.pinned (OpenSpec.upto dispatchVerifySpec)

/-- 'railplanlaw37.DispatchArbitrary', WHERE WHAT IT READS IS OF BULK AT MOST 1048576: true; the input reads as it did. -/
def dispatchArbitraryUptoRow : OpenClaim := { program := "ytilbbpbjhoidhaa", sum := "efcce9758f48f93a50064e4755c17105e919af9fc79c65fe7bd359bd1e721bee", func := "railplan/railplanlaw37.DispatchArbitrary", spec := "dispatchArbitrary", unfollowed := true, recurses := true, apart := false, narrowed := true }
def DispatchArbitraryUptoSaid : Prop := dispatchArbitraryUptoRow.holds Try.pinned (OpenSpec.upto dispatchArbitrarySpec)

/-- 'railplanlaw37.DispatchLeast', WHERE WHAT IT READS IS OF BULK AT MOST 1048576: true; the input reads as it did. -/
def dispatchLeastUptoRow : OpenClaim := { program := "ytilbbpbjhoidhaa", sum := "efcce9758f48f93a50064e4755c17105e919af9fc79c65fe7bd359bd1e721bee", func := "railplan/railplanlaw37.DispatchLeast", spec := "dispatchLeast", unfollowed := true, recurses := true, apart := false, narrowed := true }
def DispatchLeastUptoSaid : Prop := dispatchLeastUptoRow.holds Try.pinned (OpenSpec.upto dispatchLeastSpec)

/-- 'railplanlaw37.DispatchBound', WHERE WHAT IT READS IS OF BULK AT MOST 1048576: true; the input reads as it did. -/
def dispatchBoundUptoRow : OpenClaim := { program := "ytilbbpbjhoidhaa", sum := "efcce9758f48f93a50064e4755c17105e919af9fc79c65fe7bd359bd1e721bee", func := "railplan/railplanlaw37.DispatchBound", spec := "dispatchBound", unfollowed := true, recurses := true, apart := false, narrowed := true }
def DispatchBoundUptoSaid : Prop := dispatchBoundUptoRow.holds Try.pinned (OpenSpec.upto dispatchBoundSpec)

/-- 'railplanlaw37.DispatchSafe', WHERE WHAT IT READS IS OF BULK AT MOST 1048576: true; the input reads as it did. -/
def dispatchSafeUptoRow : OpenClaim := { program := "ytilbbpbjhoidhaa", sum := "efcce9758f48f93a50064e4755c17105e919af9fc79c65fe7bd359bd1e721bee", func := "railplan/railplanlaw37.DispatchSafe", spec := "dispatchSafe", unfollowed := true, recurses := true, apart := false, narrowed := true }
def DispatchSafeUptoSaid : Prop := dispatchSafeUptoRow.holds Try.pinned (OpenSpec.upto dispatchSafeSpec)

/-- 'railplanlaw37.DispatchLater', WHERE WHAT IT READS IS OF BULK AT MOST 1048576: true; the input reads as it did. -/
def dispatchLaterUptoRow : OpenClaim := { program := "ytilbbpbjhoidhaa", sum := "efcce9758f48f93a50064e4755c17105e919af9fc79c65fe7bd359bd1e721bee", func := "railplan/railplanlaw37.DispatchLater", spec := "dispatchLater", unfollowed := true, recurses := true, apart := false, narrowed := true }
def DispatchLaterUptoSaid : Prop := dispatchLaterUptoRow.holds Try.pinned (OpenSpec.upto dispatchLaterSpec)

end Rows
end Go.Proofs.Ytilbbpbjhoidhaa
