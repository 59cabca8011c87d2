/-
  DERIVED. GIVEN WITH THE SEED: THE CARDS: each row of YtnglahcjemgcaaaGreatDoorRows.lean that lists a variable, with what it lists TIED to the program's text (the seventh form; the later family's looks); each row that meets fmt, with fmt's text TOLD by the authors' own Lean function (tested against real Go, not proved from fmt's source: count such statements apart). THE CARD IS WHAT COUNTS. Prove the row's statement (the work); the ties are given (YtnglahcjemgcaaaGreatDoorTie.lean); close each card by the builder's one call (the guide's Derived/Test/ToyasCard.lean, 'card_holds'). Laid BY PROGRAM, IN A SANDBOX (cutbox-door.mjs). By AI agents, Wed Nov 11 2026. No macro, syntax, notation, axiom, sorry.
-/
import Derived.Test.YtnglahcjemgcaaaGreatDoorRows
import GoSem.ClaimSeven
namespace Go.Proofs.YtnglahcjemgcaaaGreatDoor
namespace Rows

/-- THE TIED CARD OF 'railplanlaw43.CertificateText'. -/
def certificateTextCard : Claim7 := { stood := { row := certificateTextRow, standIns := [], harness := (true, "d05f88f86a0b555480a3ab983b167ec01818ec88f77093b1f11be6a647e53100"), looks := false }, kinds := [], alts := [], laidByText := true, laidKinds := [.data, .data, .data, .data, .pinned], laidTests := true, laidLooks := .later }
def CertificateTextCardSaid : Prop := Claim7.holds Tryz.pinned (.plain (OpenSpec.ofChange certificateTextSpec)) certificateTextCard

/-- THE TIED CARD OF 'railplanlaw43.CertificateBack'. -/
def certificateBackCard : Claim7 := { stood := { row := certificateBackRow, standIns := [], harness := (true, "d05f88f86a0b555480a3ab983b167ec01818ec88f77093b1f11be6a647e53100"), looks := false }, kinds := [], alts := [], laidByText := true, laidKinds := [.data, .data, .data, .data, .pinned], laidTests := true, laidLooks := .later }
def CertificateBackCardSaid : Prop := Claim7.holds Tryz.pinned (.plain (OpenSpec.ofChange certificateBackSpec)) certificateBackCard

/-- THE SECOND FORM's CARD OF 'railplanlaw43.CertificateText'. -/
def certificateTextUptoCard : Claim7 := { stood := { row := certificateTextUptoRow, standIns := [], harness := (true, "d05f88f86a0b555480a3ab983b167ec01818ec88f77093b1f11be6a647e53100"), looks := false }, kinds := [], alts := [], laidByText := true, laidKinds := [.data, .data, .data, .data, .pinned], laidTests := true, laidLooks := .later }
def CertificateTextUptoCardSaid : Prop := Claim7.holds Tryz.pinned (.plain (OpenSpec.upto certificateTextSpec)) certificateTextUptoCard

/-- THE SECOND FORM's CARD OF 'railplanlaw43.CertificateBack'. -/
def certificateBackUptoCard : Claim7 := { stood := { row := certificateBackUptoRow, standIns := [], harness := (true, "d05f88f86a0b555480a3ab983b167ec01818ec88f77093b1f11be6a647e53100"), looks := false }, kinds := [], alts := [], laidByText := true, laidKinds := [.data, .data, .data, .data, .pinned], laidTests := true, laidLooks := .later }
def CertificateBackUptoCardSaid : Prop := Claim7.holds Tryz.pinned (.plain (OpenSpec.upto certificateBackSpec)) certificateBackUptoCard
end Rows
end Go.Proofs.YtnglahcjemgcaaaGreatDoor
