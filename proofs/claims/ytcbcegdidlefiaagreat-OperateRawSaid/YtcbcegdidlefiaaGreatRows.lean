/-
  No cell of these rows narrows 'for every input' (looked for: loops, veiled, ifaces, maps, wideKeys, modest, calm, conditions, laid).
  DERIVED. THE GIVEN ROWS OF THIS SEAT. 6 by the template 'for every input the law returns true; each argument reads behind the call as it read before'; 0 by the template 'total and deterministic' (their statements: YtcbcegdidlefiaaGreatTotals.lean).
  GIVEN WITH THE SEED: the statements are not yours to turn. If you find one false, say at which input.
  Laid BY PROGRAM, IN A SANDBOX (cutbox-rows.mjs): the forced cells as the released guide's own fill.sh prints them over the translation e0cbb802b6541c21… (all of the seat's roots in one cut). By AI agents, Wed Nov 11 2026. No macro, syntax, notation, axiom, sorry.
-/
import Derived.Test.YtcbcegdidlefiaaGreatChecked
import GoSem.Claim
import GoSem.ClaimJoined
import GoSem.ClaimMapViews
import Derived.JoinedTies
import Derived.KernelRfl
namespace Go.Proofs.YtcbcegdidlefiaaGreat
/- THE CELL 'sum', in the pinned program and in every row, IS THE sha256 OF THE DUMP (.gsa) THAT YtcbcegdidlefiaaGreatProg.lean LOADS. Nothing in Lean hashes anything: it is a label: what it is worth is what the hold of that sum in a sandbox is worth. -/
noncomputable def Tryz.pinned : Pinned := { name := "ytcbcegdidlefiaagreat", sum := "e0cbb802b6541c21f9a8df1b54227780571d5d0f80448f574bc7346bbeea15a3", checked := Tryz.checked }
namespace Rows
def none {H : Type} : Left H := { results := [], args := [] }

/-- 'railplanlaw39.OperateCalm': WHATEVER THE INPUT: true; the input reads as it did. -/
def operateCalmSpec : ChangeSpec := { name := "operateCalm", fn := fun _ => fun
  | [d1, d2, d3] => { results := [.lit (.bool true)], args := [d1, d2, d3] }
  | _ => none }
def operateCalmRow : OpenClaim := { program := "ytcbcegdidlefiaagreat", sum := "e0cbb802b6541c21f9a8df1b54227780571d5d0f80448f574bc7346bbeea15a3", func := "railplan/railplanlaw39.OperateCalm", spec := "operateCalm", unfollowed := true, recurses := true, plainKeys := false, apart := false }
def OperateCalmSaid : Prop := operateCalmRow.holds Tryz.pinned (OpenSpec.ofChange operateCalmSpec)

/-- ITS FALSE NEIGHBOUR: 'it returns false'. Refute it at one input. -/
def operateCalmWrong : ChangeSpec := { name := "operateCalm", fn := fun _ => fun
  | [d1, d2, d3] => { results := [.lit (.bool false)], args := [d1, d2, d3] }
  | _ => none }
def OperateCalmWrongFalsely : Prop := operateCalmRow.holds Tryz.pinned (OpenSpec.ofChange operateCalmWrong)

/-- 'railplanlaw39.OperateIncidents': WHATEVER THE INPUT: true; the input reads as it did. -/
def operateIncidentsSpec : ChangeSpec := { name := "operateIncidents", fn := fun _ => fun
  | [d1, d2, d3, d4, d5, d6] => { results := [.lit (.bool true)], args := [d1, d2, d3, d4, d5, d6] }
  | _ => none }
def operateIncidentsRow : OpenClaim := { program := "ytcbcegdidlefiaagreat", sum := "e0cbb802b6541c21f9a8df1b54227780571d5d0f80448f574bc7346bbeea15a3", func := "railplan/railplanlaw39.OperateIncidents", spec := "operateIncidents", unfollowed := true, recurses := true, plainKeys := false, apart := false }
def OperateIncidentsSaid : Prop := operateIncidentsRow.holds Tryz.pinned (OpenSpec.ofChange operateIncidentsSpec)

/-- ITS FALSE NEIGHBOUR: 'it returns false'. Refute it at one input. -/
def operateIncidentsWrong : ChangeSpec := { name := "operateIncidents", fn := fun _ => fun
  | [d1, d2, d3, d4, d5, d6] => { results := [.lit (.bool false)], args := [d1, d2, d3, d4, d5, d6] }
  | _ => none }
def OperateIncidentsWrongFalsely : Prop := operateIncidentsRow.holds Tryz.pinned (OpenSpec.ofChange operateIncidentsWrong)

/-- 'railplanlaw39.OperateFree': WHATEVER THE INPUT: true; the input reads as it did. -/
def operateFreeSpec : ChangeSpec := { name := "operateFree", fn := fun _ => fun
  | [d1, d2] => { results := [.lit (.bool true)], args := [d1, d2] }
  | _ => none }
def operateFreeRow : OpenClaim := { program := "ytcbcegdidlefiaagreat", sum := "e0cbb802b6541c21f9a8df1b54227780571d5d0f80448f574bc7346bbeea15a3", func := "railplan/railplanlaw39.OperateFree", spec := "operateFree", unfollowed := true, recurses := true, plainKeys := false, apart := false }
def OperateFreeSaid : Prop := operateFreeRow.holds Tryz.pinned (OpenSpec.ofChange operateFreeSpec)

/-- ITS FALSE NEIGHBOUR: 'it returns false'. Refute it at one input. -/
def operateFreeWrong : ChangeSpec := { name := "operateFree", fn := fun _ => fun
  | [d1, d2] => { results := [.lit (.bool false)], args := [d1, d2] }
  | _ => none }
def OperateFreeWrongFalsely : Prop := operateFreeRow.holds Tryz.pinned (OpenSpec.ofChange operateFreeWrong)

/-- 'railplanlaw39.OperateMade': WHATEVER THE INPUT: true; the input reads as it did. -/
def operateMadeSpec : ChangeSpec := { name := "operateMade", fn := fun _ => fun
  | [d1, d2, d3, d4] => { results := [.lit (.bool true)], args := [d1, d2, d3, d4] }
  | _ => none }
def operateMadeRow : OpenClaim := { program := "ytcbcegdidlefiaagreat", sum := "e0cbb802b6541c21f9a8df1b54227780571d5d0f80448f574bc7346bbeea15a3", func := "railplan/railplanlaw39.OperateMade", spec := "operateMade", unfollowed := true, recurses := true, plainKeys := false, apart := false }
def OperateMadeSaid : Prop := operateMadeRow.holds Tryz.pinned (OpenSpec.ofChange operateMadeSpec)

/-- ITS FALSE NEIGHBOUR: 'it returns false'. Refute it at one input. -/
def operateMadeWrong : ChangeSpec := { name := "operateMade", fn := fun _ => fun
  | [d1, d2, d3, d4] => { results := [.lit (.bool false)], args := [d1, d2, d3, d4] }
  | _ => none }
def OperateMadeWrongFalsely : Prop := operateMadeRow.holds Tryz.pinned (OpenSpec.ofChange operateMadeWrong)

/-- 'railplanlaw39.OperateRaw': WHATEVER THE INPUT: true; the input reads as it did. -/
def operateRawSpec : ChangeSpec := { name := "operateRaw", fn := fun _ => fun
  | [d1, d2] => { results := [.lit (.bool true)], args := [d1, d2] }
  | _ => none }
def operateRawRow : OpenClaim := { program := "ytcbcegdidlefiaagreat", sum := "e0cbb802b6541c21f9a8df1b54227780571d5d0f80448f574bc7346bbeea15a3", func := "railplan/railplanlaw39.OperateRaw", spec := "operateRaw", unfollowed := true, recurses := true, plainKeys := false, apart := false }
def OperateRawSaid : Prop := operateRawRow.holds Tryz.pinned (OpenSpec.ofChange operateRawSpec)

/-- ITS FALSE NEIGHBOUR: 'it returns false'. Refute it at one input. -/
def operateRawWrong : ChangeSpec := { name := "operateRaw", fn := fun _ => fun
  | [d1, d2] => { results := [.lit (.bool false)], args := [d1, d2] }
  | _ => none }
def OperateRawWrongFalsely : Prop := operateRawRow.holds Tryz.pinned (OpenSpec.ofChange operateRawWrong)

/-- 'railplanlaw39.OperateMake': WHATEVER THE INPUT: true; the input reads as it did. -/
def operateMakeSpec : ChangeSpec := { name := "operateMake", fn := fun _ => fun
  | [d1, d2, d3, d4, d5, d6] => { results := [.lit (.bool true)], args := [d1, d2, d3, d4, d5, d6] }
  | _ => none }
def operateMakeRow : OpenClaim := { program := "ytcbcegdidlefiaagreat", sum := "e0cbb802b6541c21f9a8df1b54227780571d5d0f80448f574bc7346bbeea15a3", func := "railplan/railplanlaw39.OperateMake", spec := "operateMake", unfollowed := true, recurses := true, plainKeys := false, apart := false }
def OperateMakeSaid : Prop := operateMakeRow.holds Tryz.pinned (OpenSpec.ofChange operateMakeSpec)

/-- ITS FALSE NEIGHBOUR: 'it returns false'. Refute it at one input. -/
def operateMakeWrong : ChangeSpec := { name := "operateMake", fn := fun _ => fun
  | [d1, d2, d3, d4, d5, d6] => { results := [.lit (.bool false)], args := [d1, d2, d3, d4, d5, d6] }
  | _ => none }
def OperateMakeWrongFalsely : Prop := operateMakeRow.holds Tryz.pinned (OpenSpec.ofChange operateMakeWrong)

/- THE SECOND FORM. 'bulk': how many values and letters a reading holds, each counted each time it is reached (what is shared counts as often as it is met; a slice's spare places count too). A statement '..UptoSaid' is the law's where the arguments, and the package variables that the reading takes, are together of bulk at most 1048576: NARROWER than '..Said'. Prove '..Said' where nothing that the law and all that it calls make is longer than what came in: it says more and counts as full. Else prove '..UptoSaid'. A law counts once. -/
mutual
def uptoBulk {H : Type} : DataW H → Nat
  | .lit (.string bytes) => bytes.length + 1
  | .lit _ => 1
  | .nil => 1
  | .ptr d => uptoBulk d + 1
  | .slice elems spare => uptoBulkAll elems + uptoBulkAll spare + 1
  | .agg parts => uptoBulkAll parts + 1
  | .iface _ d => uptoBulk d + 1
  | .map entries => uptoBulkEntries entries + 1
  | .held _ => 1
def uptoBulkAll {H : Type} : List (DataW H) → Nat
  | [] => 0
  | d :: r => uptoBulk d + uptoBulkAll r
def uptoBulkEntries {H : Type} : List (Lit × DataW H) → Nat
  | [] => 0
  | x :: r => uptoBulkEntry x + uptoBulkEntries r
def uptoBulkEntry {H : Type} : Lit × DataW H → Nat
  | (.string bytes, d) => bytes.length + uptoBulk d + 1
  | (_, d) => uptoBulk d + 1
 end
def uptoSmall : (H : Type) → List (DataW H) → Bool := fun _ ds => decide (uptoBulkAll ds ≤ 1048576)
def OpenSpec.upto (s : _root_.Go.ChangeSpec) : _root_.Go.OpenSpec := { _root_.Go.OpenSpec.ofChange s with cond := some uptoSmall }

/-- 'railplanlaw39.OperateCalm', WHERE WHAT IT READS IS OF BULK AT MOST 1048576: true; the input reads as it did. -/
def operateCalmUptoRow : OpenClaim := { program := "ytcbcegdidlefiaagreat", sum := "e0cbb802b6541c21f9a8df1b54227780571d5d0f80448f574bc7346bbeea15a3", func := "railplan/railplanlaw39.OperateCalm", spec := "operateCalm", unfollowed := true, recurses := true, plainKeys := false, apart := false, narrowed := true }
def OperateCalmUptoSaid : Prop := operateCalmUptoRow.holds Tryz.pinned (OpenSpec.upto operateCalmSpec)

/-- 'railplanlaw39.OperateIncidents', WHERE WHAT IT READS IS OF BULK AT MOST 1048576: true; the input reads as it did. -/
def operateIncidentsUptoRow : OpenClaim := { program := "ytcbcegdidlefiaagreat", sum := "e0cbb802b6541c21f9a8df1b54227780571d5d0f80448f574bc7346bbeea15a3", func := "railplan/railplanlaw39.OperateIncidents", spec := "operateIncidents", unfollowed := true, recurses := true, plainKeys := false, apart := false, narrowed := true }
def OperateIncidentsUptoSaid : Prop := operateIncidentsUptoRow.holds Tryz.pinned (OpenSpec.upto operateIncidentsSpec)

/-- 'railplanlaw39.OperateFree', WHERE WHAT IT READS IS OF BULK AT MOST 1048576: true; the input reads as it did. -/
def operateFreeUptoRow : OpenClaim := { program := "ytcbcegdidlefiaagreat", sum := "e0cbb802b6541c21f9a8df1b54227780571d5d0f80448f574bc7346bbeea15a3", func := "railplan/railplanlaw39.OperateFree", spec := "operateFree", unfollowed := true, recurses := true, plainKeys := false, apart := false, narrowed := true }
def OperateFreeUptoSaid : Prop := operateFreeUptoRow.holds Tryz.pinned (OpenSpec.upto operateFreeSpec)

/-- 'railplanlaw39.OperateMade', WHERE WHAT IT READS IS OF BULK AT MOST 1048576: true; the input reads as it did. -/
def operateMadeUptoRow : OpenClaim := { program := "ytcbcegdidlefiaagreat", sum := "e0cbb802b6541c21f9a8df1b54227780571d5d0f80448f574bc7346bbeea15a3", func := "railplan/railplanlaw39.OperateMade", spec := "operateMade", unfollowed := true, recurses := true, plainKeys := false, apart := false, narrowed := true }
def OperateMadeUptoSaid : Prop := operateMadeUptoRow.holds Tryz.pinned (OpenSpec.upto operateMadeSpec)

/-- 'railplanlaw39.OperateRaw', WHERE WHAT IT READS IS OF BULK AT MOST 1048576: true; the input reads as it did. -/
def operateRawUptoRow : OpenClaim := { program := "ytcbcegdidlefiaagreat", sum := "e0cbb802b6541c21f9a8df1b54227780571d5d0f80448f574bc7346bbeea15a3", func := "railplan/railplanlaw39.OperateRaw", spec := "operateRaw", unfollowed := true, recurses := true, plainKeys := false, apart := false, narrowed := true }
def OperateRawUptoSaid : Prop := operateRawUptoRow.holds Tryz.pinned (OpenSpec.upto operateRawSpec)

/-- 'railplanlaw39.OperateMake', WHERE WHAT IT READS IS OF BULK AT MOST 1048576: true; the input reads as it did. -/
def operateMakeUptoRow : OpenClaim := { program := "ytcbcegdidlefiaagreat", sum := "e0cbb802b6541c21f9a8df1b54227780571d5d0f80448f574bc7346bbeea15a3", func := "railplan/railplanlaw39.OperateMake", spec := "operateMake", unfollowed := true, recurses := true, plainKeys := false, apart := false, narrowed := true }
def OperateMakeUptoSaid : Prop := operateMakeUptoRow.holds Tryz.pinned (OpenSpec.upto operateMakeSpec)

end Rows
end Go.Proofs.YtcbcegdidlefiaaGreat
