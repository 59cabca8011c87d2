/- The row's facts of CertificateText, one after the other. No condition. -/
import Derived.Test.YtnglahcjemgcaaaGreatDoorK52
namespace Go.Proofs.YtnglahcjemgcaaaGreatDoor
open Go.ChangeShapes Go.WideShapes Go.ChangeAt Go.RowKit

/-- the functions that the law reaches -/
def ctxL : List FuncId := [3, 5, 13, 14, 12, 6, 15, 30, 52, 86, 87, 153, 88, 154, 230, 291, 231, 232, 233, 292, 31, 53, 89, 54, 55, 16, 32, 56, 90, 155, 57, 7, 17, 33, 51, 18, 34, 8, 19, 20, 35, 58, 91, 92, 157, 156, 158, 93, 94, 159, 160, 234, 235, 21, 36, 37, 59, 95, 38, 39, 9, 23, 42, 68, 114, 195, 115, 196, 117, 69, 116, 197, 276, 118, 119, 198, 199, 22, 40, 60, 96, 161, 236, 293, 162, 163, 237, 151, 238, 239, 240, 97, 98, 164, 241, 242, 294, 295, 99, 165, 166, 100, 167, 168, 243, 296, 320, 330, 335, 343, 344, 321, 244, 297, 298, 169, 245, 299, 300, 322, 331, 336, 345, 346, 348, 349, 350, 347, 337, 332, 170, 61, 101, 102, 62, 103, 63, 105, 180, 104, 171, 177, 193, 172, 246, 173, 247, 248, 174, 249, 250, 301, 175, 176, 178, 179, 64, 65, 67, 112, 194, 113, 107, 185, 255, 256, 188, 183, 252, 253, 254, 258, 257, 302, 186, 187, 189, 182, 251, 259, 303, 308, 263, 309, 324, 323, 333, 310, 325, 264, 304, 306, 260, 305, 262, 265, 266, 261, 307, 190, 267, 191, 106, 181, 184, 66, 108, 192, 268, 269, 311, 270, 271, 312, 313, 326, 272, 273, 274, 275, 109, 111, 110, 41, 24, 43, 70, 120, 200, 121, 201, 277, 122, 202, 278, 314, 208, 130, 203, 204, 125, 123, 205, 206, 279, 316, 315, 327, 334, 338, 339, 340, 341, 342, 328, 71, 124, 44, 72, 73, 129, 126, 127, 207, 128, 74, 131, 209, 280, 281, 132, 210, 75, 133, 211, 282, 134, 136, 213, 214, 135, 212, 45, 46, 47, 76, 137, 78, 77, 79, 138, 140, 139, 215, 283, 216, 284, 217, 285, 317, 318, 329, 319, 141, 218, 219, 286, 220, 287, 288, 289, 221, 222, 223, 80, 142, 224, 145, 227, 290, 228, 229, 225, 143, 147, 226, 146, 144, 81, 82, 148, 25, 48, 83, 149, 49, 84, 85, 150, 152, 50, 26, 10, 27, 28, 29, 11]
theorem ctxCl : Tryz.checked.prog.closure 3 = ctxL := by kernel_rfl
theorem ctxUn : Tryz.checked.prog.unfollowed 3 = true := unfollowed_of (g := 15) ctxCl (by kernel_rfl) (by kernel_rfl)
theorem ctxJ1 : (Rows.certificateTextUptoRow.wf (OpenSpec.ofChange (Rows.OpenSpec.upto Rows.certificateTextSpec).bare)) = true := by kernel_rfl
theorem ctxJ2 : (laidOutB Tryz.checked.prog) = true := by kernel_rfl
theorem ctxJ3 : (mapsRowed Tryz.checked.prog) = true := by kernel_rfl
theorem ctxJ4 : (Tryz.f3.params.all (Tryz.checked.prog.readableRec ·)) = true := by kernel_rfl
theorem ctxJ5 : (namedTie Tryz.checked.prog Rows.certificateTextUptoRow.named (Rows.OpenSpec.upto Rows.certificateTextSpec).bare.vars) = true := by kernel_rfl
theorem ctxJ6 : ((Rows.certificateTextUptoRow.stops == [])) = true := by kernel_rfl
theorem ctxJ7 : ((Tryz.checked.prog.stops == [])) = true := by kernel_rfl
theorem ctxJ8 : ((Rows.certificateTextUptoRow.knobs == [])) = true := by kernel_rfl
theorem ctxJ9 : ((Tryz.checked.prog.stopKnobs == [])) = true := by kernel_rfl
theorem ctxJ10 : ((Rows.certificateTextUptoRow.inPlace == Tryz.checked.prog.inPlace 3)) = true := by rw [inPlace_of ctxCl]; kernel_rfl
theorem ctxJ11 : ((Rows.certificateTextUptoRow.unfollowed == Tryz.checked.prog.unfollowed 3)) = true := by rw [ctxUn]; kernel_rfl
theorem ctxJ12 : ((Rows.certificateTextUptoRow.recurses == Tryz.checked.prog.recurses 3)) = true := by rw [recurses_unf _ _ ctxUn]; kernel_rfl
theorem ctxJ13 : ((Rows.certificateTextUptoRow.named == Tryz.checked.prog.varsNamed 3)) = true := by rw [varsNamed_of ctxCl]; kernel_rfl
theorem ctxJ14 : ((Rows.certificateTextUptoRow.maps == (Tryz.f3.params.toList ++ (Rows.OpenSpec.upto Rows.certificateTextSpec).bare.plain.varTypes Tryz.checked.prog).any (Tryz.checked.prog.mapsRec ·))) = true := by kernel_rfl
theorem ctxJ15 : ((Rows.certificateTextUptoRow.ifaces == (Tryz.f3.params.toList ++ (Rows.OpenSpec.upto Rows.certificateTextSpec).bare.plain.varTypes Tryz.checked.prog).any (Tryz.checked.prog.ifacesRec ·))) = true := by kernel_rfl
theorem ctxJ16 : ((Rows.certificateTextUptoRow.mapsOut == Tryz.checked.prog.mapsAmong Tryz.f3.resultTypes.toList)) = true := by kernel_rfl
theorem ctxJ17 : ((Rows.certificateTextUptoRow.loops == (Tryz.f3.params.toList ++ (Rows.OpenSpec.upto Rows.certificateTextSpec).bare.plain.varTypes Tryz.checked.prog).any (Tryz.checked.prog.loopsFrom ·))) = true := by kernel_rfl
theorem ctxJ18 : ((Rows.certificateTextUptoRow.wideKeys == (Tryz.f3.params.toList ++ (Rows.OpenSpec.upto Rows.certificateTextSpec).bare.plain.varTypes Tryz.checked.prog ++ Tryz.f3.resultTypes.toList).any (Tryz.checked.prog.wideKeysFrom ·))) = true := by kernel_rfl
theorem ctxJ19 : ((Rows.OpenSpec.upto Rows.certificateTextSpec).bare.vars.all (Tryz.checked.prog.varReadable ·)) = true := by kernel_rfl
theorem ctxJ20 : (Tryz.f3.resultTypes.all (fun t => Tryz.checked.prog.readableRec t && decide (t < Tryz.checked.prog.types.size))) = true := by kernel_rfl
theorem ctxJ21 : ((Rows.certificateTextUptoRow.ifacesOut == Tryz.f3.resultTypes.toList.any (Tryz.checked.prog.ifacesRec ·))) = true := by kernel_rfl
theorem ctxJ22 : ((Rows.certificateTextUptoRow.loopsOut == Tryz.f3.resultTypes.toList.any (Tryz.checked.prog.loopsFrom ·))) = true := by kernel_rfl
theorem ctxJ23 : ((Rows.certificateTextUptoRow.plainKeys == Tryz.checked.prog.plainKeys)) = true := by kernel_rfl
theorem ctxJ24 : (Rows.certificateTextUptoRow.shortTexts.isNone) = true := by kernel_rfl
theorem ctxJ25 : (Tryz.checked.prog.stopsHeard) = true := by kernel_rfl
theorem ctxJ26 : (Tryz.checked.prog.mayEnter) = true := by kernel_rfl
theorem ctxJ27 : ((Rows.certificateTextUptoRow.lifted == Tryz.checked.prog.liftsFinal)) = true := by kernel_rfl
theorem ctxJ28 : ((Tryz.checked.prog.make == some Rows.certificateTextUptoRow.make)) = true := by kernel_rfl
theorem ctxJ29 : ((Rows.certificateTextUptoRow.kinds == (if Rows.certificateTextUptoRow.domain.isEmpty then [] else Tryz.f3.params.toList.map fun t => match Tryz.checked.prog.underlying t with | some (.int k) => some k | _ => none))) = true := by kernel_rfl
theorem ctxJ30 : ((Rows.certificateTextUptoRow.pinned == Rows.certificateTextUptoRow.pinnedBy)) = true := by kernel_rfl
theorem ctxJ31 : ((Rows.certificateTextUptoRow.veiled == (Tryz.f3.params.toList ++ (Rows.OpenSpec.upto Rows.certificateTextSpec).bare.plain.varTypes Tryz.checked.prog ++ Tryz.f3.resultTypes.toList).any (Tryz.checked.prog.veiledRec ·))) = true := by kernel_rfl
theorem ctxJ32 : (Rows.certificateTextUptoRow.veiledFits Tryz.checked.prog Tryz.f3.params.toList (Tryz.f3.params.toList ++ (Rows.OpenSpec.upto Rows.certificateTextSpec).bare.plain.varTypes Tryz.checked.prog ++ Tryz.f3.resultTypes.toList)) = true := by kernel_rfl
set_option maxRecDepth 100000 in
theorem ctxJ : joinedFacts Tryz.checked.prog 3 Tryz.f3 ((Rows.OpenSpec.upto Rows.certificateTextSpec).bare) Rows.certificateTextUptoRow = true := by
  have h2 := ofJand ctxJ1 ctxJ2
  have h3 := ofJand h2 ctxJ3
  have h4 := ofJand h3 ctxJ4
  have h5 := ofJand h4 ctxJ5
  have h6 := ofJand h5 ctxJ6
  have h7 := ofJand h6 ctxJ7
  have h8 := ofJand h7 ctxJ8
  have h9 := ofJand h8 ctxJ9
  have h10 := ofJand h9 ctxJ10
  have h11 := ofJand h10 ctxJ11
  have h12 := ofJand h11 ctxJ12
  have h13 := ofJand h12 ctxJ13
  have h14 := ofJand h13 ctxJ14
  have h15 := ofJand h14 ctxJ15
  have h16 := ofJand h15 ctxJ16
  have h17 := ofJand h16 ctxJ17
  have h18 := ofJand h17 ctxJ18
  have h19 := ofJand h18 ctxJ19
  have h20 := ofJand h19 ctxJ20
  have h21 := ofJand h20 ctxJ21
  have h22 := ofJand h21 ctxJ22
  have h23 := ofJand h22 ctxJ23
  have h24 := ofJand h23 ctxJ24
  have h25 := ofJand h24 ctxJ25
  have h26 := ofJand h25 ctxJ26
  have h27 := ofJand h26 ctxJ27
  have h28 := ofJand h27 ctxJ28
  have h29 := ofJand h28 ctxJ29
  have h30 := ofJand h29 ctxJ30
  have h31 := ofJand h30 ctxJ31
  have h32 := ofJand h31 ctxJ32
  unfold joinedFacts
  exact h32
end Go.Proofs.YtnglahcjemgcaaaGreatDoor
