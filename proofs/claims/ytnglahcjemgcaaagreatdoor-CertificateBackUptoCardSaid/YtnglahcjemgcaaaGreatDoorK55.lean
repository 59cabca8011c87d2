/- The row's facts of CertificateBack, one after the other. No condition. -/
import Derived.Test.YtnglahcjemgcaaaGreatDoorK52
namespace Go.Proofs.YtnglahcjemgcaaaGreatDoor
open Go.ChangeShapes Go.WideShapes Go.ChangeAt Go.RowKit

/-- the functions that the law reaches -/
def cbkL : List FuncId := [4, 5, 13, 14, 12, 8, 19, 20, 35, 58, 91, 92, 157, 156, 158, 93, 94, 159, 160, 234, 235, 21, 36, 54, 37, 59, 95, 38, 39, 9, 23, 42, 17, 33, 51, 68, 114, 18, 34, 195, 115, 196, 117, 69, 116, 197, 276, 118, 119, 198, 199, 22, 40, 60, 96, 161, 236, 293, 57, 162, 163, 237, 151, 238, 239, 240, 97, 98, 164, 241, 242, 294, 295, 99, 165, 166, 100, 167, 168, 243, 296, 320, 330, 335, 343, 344, 321, 244, 297, 298, 169, 245, 299, 300, 322, 331, 336, 345, 346, 348, 349, 350, 347, 337, 332, 170, 61, 101, 102, 62, 103, 63, 105, 180, 104, 171, 177, 193, 172, 246, 173, 247, 248, 174, 249, 250, 301, 175, 176, 178, 179, 64, 65, 67, 112, 194, 113, 107, 185, 255, 256, 188, 183, 252, 253, 254, 258, 257, 302, 186, 187, 189, 182, 251, 259, 303, 308, 263, 309, 324, 323, 333, 310, 325, 264, 304, 306, 260, 305, 262, 265, 266, 261, 307, 190, 267, 191, 106, 181, 184, 66, 108, 192, 268, 269, 311, 270, 271, 312, 313, 326, 272, 273, 274, 275, 109, 111, 110, 41, 24, 43, 70, 120, 200, 121, 201, 277, 122, 202, 278, 314, 208, 130, 203, 204, 125, 123, 205, 206, 279, 316, 315, 327, 334, 338, 339, 340, 341, 342, 328, 71, 124, 44, 72, 73, 129, 126, 127, 207, 128, 74, 131, 209, 280, 281, 132, 210, 75, 133, 211, 282, 134, 136, 213, 214, 135, 212, 45, 46, 47, 76, 137, 78, 77, 79, 138, 140, 139, 215, 283, 216, 284, 217, 285, 317, 318, 329, 319, 141, 218, 219, 286, 220, 287, 288, 289, 221, 222, 223, 80, 142, 224, 145, 227, 290, 228, 229, 225, 143, 147, 226, 146, 144, 81, 82, 148, 25, 48, 83, 149, 49, 84, 85, 150, 152, 50, 26, 10, 27, 28, 29, 6, 15, 30, 52, 86, 87, 153, 88, 154, 230, 291, 231, 232, 233, 292, 31, 53, 89, 55, 16, 32, 56, 90, 155, 11]
theorem cbkCl : Tryz.checked.prog.closure 4 = cbkL := by kernel_rfl
theorem cbkUn : Tryz.checked.prog.unfollowed 4 = true := unfollowed_of (g := 64) cbkCl (by kernel_rfl) (by kernel_rfl)
theorem cbkJ1 : (Rows.certificateBackUptoRow.wf (OpenSpec.ofChange (Rows.OpenSpec.upto Rows.certificateBackSpec).bare)) = true := by kernel_rfl
theorem cbkJ2 : (laidOutB Tryz.checked.prog) = true := by kernel_rfl
theorem cbkJ3 : (mapsRowed Tryz.checked.prog) = true := by kernel_rfl
theorem cbkJ4 : (Tryz.f4.params.all (Tryz.checked.prog.readableRec ·)) = true := by kernel_rfl
theorem cbkJ5 : (namedTie Tryz.checked.prog Rows.certificateBackUptoRow.named (Rows.OpenSpec.upto Rows.certificateBackSpec).bare.vars) = true := by kernel_rfl
theorem cbkJ6 : ((Rows.certificateBackUptoRow.stops == [])) = true := by kernel_rfl
theorem cbkJ7 : ((Tryz.checked.prog.stops == [])) = true := by kernel_rfl
theorem cbkJ8 : ((Rows.certificateBackUptoRow.knobs == [])) = true := by kernel_rfl
theorem cbkJ9 : ((Tryz.checked.prog.stopKnobs == [])) = true := by kernel_rfl
theorem cbkJ10 : ((Rows.certificateBackUptoRow.inPlace == Tryz.checked.prog.inPlace 4)) = true := by rw [inPlace_of cbkCl]; kernel_rfl
theorem cbkJ11 : ((Rows.certificateBackUptoRow.unfollowed == Tryz.checked.prog.unfollowed 4)) = true := by rw [cbkUn]; kernel_rfl
theorem cbkJ12 : ((Rows.certificateBackUptoRow.recurses == Tryz.checked.prog.recurses 4)) = true := by rw [recurses_unf _ _ cbkUn]; kernel_rfl
theorem cbkJ13 : ((Rows.certificateBackUptoRow.named == Tryz.checked.prog.varsNamed 4)) = true := by rw [varsNamed_of cbkCl]; kernel_rfl
theorem cbkJ14 : ((Rows.certificateBackUptoRow.maps == (Tryz.f4.params.toList ++ (Rows.OpenSpec.upto Rows.certificateBackSpec).bare.plain.varTypes Tryz.checked.prog).any (Tryz.checked.prog.mapsRec ·))) = true := by kernel_rfl
theorem cbkJ15 : ((Rows.certificateBackUptoRow.ifaces == (Tryz.f4.params.toList ++ (Rows.OpenSpec.upto Rows.certificateBackSpec).bare.plain.varTypes Tryz.checked.prog).any (Tryz.checked.prog.ifacesRec ·))) = true := by kernel_rfl
theorem cbkJ16 : ((Rows.certificateBackUptoRow.mapsOut == Tryz.checked.prog.mapsAmong Tryz.f4.resultTypes.toList)) = true := by kernel_rfl
theorem cbkJ17 : ((Rows.certificateBackUptoRow.loops == (Tryz.f4.params.toList ++ (Rows.OpenSpec.upto Rows.certificateBackSpec).bare.plain.varTypes Tryz.checked.prog).any (Tryz.checked.prog.loopsFrom ·))) = true := by kernel_rfl
theorem cbkJ18 : ((Rows.certificateBackUptoRow.wideKeys == (Tryz.f4.params.toList ++ (Rows.OpenSpec.upto Rows.certificateBackSpec).bare.plain.varTypes Tryz.checked.prog ++ Tryz.f4.resultTypes.toList).any (Tryz.checked.prog.wideKeysFrom ·))) = true := by kernel_rfl
theorem cbkJ19 : ((Rows.OpenSpec.upto Rows.certificateBackSpec).bare.vars.all (Tryz.checked.prog.varReadable ·)) = true := by kernel_rfl
theorem cbkJ20 : (Tryz.f4.resultTypes.all (fun t => Tryz.checked.prog.readableRec t && decide (t < Tryz.checked.prog.types.size))) = true := by kernel_rfl
theorem cbkJ21 : ((Rows.certificateBackUptoRow.ifacesOut == Tryz.f4.resultTypes.toList.any (Tryz.checked.prog.ifacesRec ·))) = true := by kernel_rfl
theorem cbkJ22 : ((Rows.certificateBackUptoRow.loopsOut == Tryz.f4.resultTypes.toList.any (Tryz.checked.prog.loopsFrom ·))) = true := by kernel_rfl
theorem cbkJ23 : ((Rows.certificateBackUptoRow.plainKeys == Tryz.checked.prog.plainKeys)) = true := by kernel_rfl
theorem cbkJ24 : (Rows.certificateBackUptoRow.shortTexts.isNone) = true := by kernel_rfl
theorem cbkJ25 : (Tryz.checked.prog.stopsHeard) = true := by kernel_rfl
theorem cbkJ26 : (Tryz.checked.prog.mayEnter) = true := by kernel_rfl
theorem cbkJ27 : ((Rows.certificateBackUptoRow.lifted == Tryz.checked.prog.liftsFinal)) = true := by kernel_rfl
theorem cbkJ28 : ((Tryz.checked.prog.make == some Rows.certificateBackUptoRow.make)) = true := by kernel_rfl
theorem cbkJ29 : ((Rows.certificateBackUptoRow.kinds == (if Rows.certificateBackUptoRow.domain.isEmpty then [] else Tryz.f4.params.toList.map fun t => match Tryz.checked.prog.underlying t with | some (.int k) => some k | _ => none))) = true := by kernel_rfl
theorem cbkJ30 : ((Rows.certificateBackUptoRow.pinned == Rows.certificateBackUptoRow.pinnedBy)) = true := by kernel_rfl
theorem cbkJ31 : ((Rows.certificateBackUptoRow.veiled == (Tryz.f4.params.toList ++ (Rows.OpenSpec.upto Rows.certificateBackSpec).bare.plain.varTypes Tryz.checked.prog ++ Tryz.f4.resultTypes.toList).any (Tryz.checked.prog.veiledRec ·))) = true := by kernel_rfl
theorem cbkJ32 : (Rows.certificateBackUptoRow.veiledFits Tryz.checked.prog Tryz.f4.params.toList (Tryz.f4.params.toList ++ (Rows.OpenSpec.upto Rows.certificateBackSpec).bare.plain.varTypes Tryz.checked.prog ++ Tryz.f4.resultTypes.toList)) = true := by kernel_rfl
set_option maxRecDepth 100000 in
theorem cbkJ : joinedFacts Tryz.checked.prog 4 Tryz.f4 ((Rows.OpenSpec.upto Rows.certificateBackSpec).bare) Rows.certificateBackUptoRow = true := by
  have h2 := ofJand cbkJ1 cbkJ2
  have h3 := ofJand h2 cbkJ3
  have h4 := ofJand h3 cbkJ4
  have h5 := ofJand h4 cbkJ5
  have h6 := ofJand h5 cbkJ6
  have h7 := ofJand h6 cbkJ7
  have h8 := ofJand h7 cbkJ8
  have h9 := ofJand h8 cbkJ9
  have h10 := ofJand h9 cbkJ10
  have h11 := ofJand h10 cbkJ11
  have h12 := ofJand h11 cbkJ12
  have h13 := ofJand h12 cbkJ13
  have h14 := ofJand h13 cbkJ14
  have h15 := ofJand h14 cbkJ15
  have h16 := ofJand h15 cbkJ16
  have h17 := ofJand h16 cbkJ17
  have h18 := ofJand h17 cbkJ18
  have h19 := ofJand h18 cbkJ19
  have h20 := ofJand h19 cbkJ20
  have h21 := ofJand h20 cbkJ21
  have h22 := ofJand h21 cbkJ22
  have h23 := ofJand h22 cbkJ23
  have h24 := ofJand h23 cbkJ24
  have h25 := ofJand h24 cbkJ25
  have h26 := ofJand h25 cbkJ26
  have h27 := ofJand h26 cbkJ27
  have h28 := ofJand h27 cbkJ28
  have h29 := ofJand h28 cbkJ29
  have h30 := ofJand h29 cbkJ30
  have h31 := ofJand h30 cbkJ31
  have h32 := ofJand h31 cbkJ32
  unfold joinedFacts
  exact h32
end Go.Proofs.YtnglahcjemgcaaaGreatDoor
