/- The row's facts of OperateFree, one after the other. No condition. -/
import Derived.Test.YtcbcegdidlefiaaGreatK12
namespace Go.Proofs.YtcbcegdidlefiaaGreat
open Go.ChangeShapes Go.WideShapes Go.ChangeAt Go.RowKit

theorem recurses_unf (P : Program) (f : FuncId) (h : P.unfollowed f = true) : P.recurses f = true := by
  unfold Program.recurses
  rw [h]; rfl
theorem inPlace_of {P : Program} {f : FuncId} {L : List FuncId} (h : P.closure f = L) : P.inPlace f = L.filterMap fun g => (P.funcs[g]?).bind fun fn => if fn.ours || fn.body.isNone || fn.name == "runtime.NumGoroutine" then some fn.name else none := by
  unfold Program.inPlace; rw [h]
theorem unfollowed_of {P : Program} {f g : FuncId} {L : List FuncId} (h : P.closure f = L) (hg : L.contains g = true) (h2 : ((P.funcs[g]?).any fun fn => match fn.body with | some c => c.unfollowed | none => entryCalls fn) = true) : P.unfollowed f = true := by
  unfold Program.unfollowed
  rw [h]
  exact List.any_eq_true.2 ⟨g, by simpa using hg, h2⟩
theorem varsNamed_of {P : Program} {f : FuncId} {L : List FuncId} (h : P.closure f = L) : P.varsNamed f = (((L.flatMap fun g => ((P.funcs[g]?).bind (·.body)).elim [] Code.globalsNamed).eraseDups).filterMap (fun g => (P.globals[g]?).map (·.name)) ++
   L.filterMap fun g => (P.funcs[g]?).bind fun fn => if fn.body.isNone then entryReads.lookup fn.name else none).eraseDups := by
  unfold Program.varsNamed; rw [h]
/-- the functions that the law reaches -/
def ofL : List FuncId := [5, 19, 20, 12, 11, 38, 107, 187, 288, 391, 188, 289, 392, 287, 393, 290, 394, 99, 33, 98, 184, 286, 100, 101, 185, 186, 39, 37, 105, 32, 58, 31, 95, 179, 181, 35, 102, 103, 94, 34, 180, 97, 96, 182, 285, 386, 387, 388, 389, 390, 183, 13, 40, 108, 189, 268, 381, 382, 190, 191, 291, 292, 293, 294, 295, 109, 110, 192, 296, 297, 395, 396, 111, 193, 194, 112, 195, 196, 298, 397, 455, 474, 422, 464, 465, 452, 299, 398, 399, 57, 142, 251, 252, 374, 451, 472, 487, 488, 493, 494, 495, 489, 473, 453, 197, 41, 113, 117, 42, 44, 120, 114, 115, 198, 300, 400, 401, 199, 301, 145, 201, 63, 62, 200, 144, 261, 262, 302, 402, 403, 456, 404, 376, 377, 405, 457, 458, 475, 406, 407, 408, 409, 116, 202, 208, 317, 417, 462, 477, 303, 304, 410, 318, 203, 305, 411, 412, 460, 459, 476, 306, 413, 307, 204, 43, 118, 119, 205, 308, 309, 414, 310, 311, 415, 416, 461, 312, 313, 314, 315, 45, 46, 47, 121, 48, 122, 207, 206, 316, 123, 209, 210, 211, 319, 418, 320, 419, 420, 463, 421, 212, 321, 213, 125, 124, 214, 215, 322, 323, 216, 217, 218, 324, 423, 425, 426, 428, 424, 466, 478, 479, 490, 480, 481, 491, 492, 496, 482, 483, 484, 485, 325, 326, 427, 327, 429, 328, 49, 50, 128, 230, 129, 127, 223, 333, 334, 226, 221, 330, 331, 332, 336, 335, 430, 224, 225, 227, 220, 329, 337, 431, 380, 340, 436, 467, 341, 432, 434, 338, 433, 264, 342, 343, 339, 435, 228, 344, 229, 126, 219, 222, 51, 130, 231, 345, 346, 437, 347, 348, 438, 439, 468, 349, 350, 351, 352, 131, 21, 59, 60, 143, 253, 254, 375, 255, 256, 378, 379, 454, 257, 258, 259, 260, 61, 22]
theorem ofCl : Tryz.checked.prog.closure 5 = ofL := by kernel_rfl
theorem ofUn : Tryz.checked.prog.unfollowed 5 = true := unfollowed_of (g := 253) ofCl (by kernel_rfl) (by kernel_rfl)
theorem ofJand {a b : Bool} (h1 : a = true) (h2 : b = true) : (a && b) = true := by rw [h1, h2]; rfl
theorem ofJ1 : (Rows.operateFreeRow.wf (OpenSpec.ofChange Rows.operateFreeSpec)) = true := by kernel_rfl
theorem ofJ2 : (laidOutB Tryz.checked.prog) = true := by kernel_rfl
theorem ofJ3 : (mapsRowed Tryz.checked.prog) = true := by kernel_rfl
theorem ofJ4 : (Tryz.f5.params.all (Tryz.checked.prog.readableRec ·)) = true := by kernel_rfl
theorem ofJ5 : (namedTie Tryz.checked.prog Rows.operateFreeRow.named Rows.operateFreeSpec.vars) = true := by kernel_rfl
theorem ofJ6 : ((Rows.operateFreeRow.stops == [])) = true := by kernel_rfl
theorem ofJ7 : ((Tryz.checked.prog.stops == [])) = true := by kernel_rfl
theorem ofJ8 : ((Rows.operateFreeRow.knobs == [])) = true := by kernel_rfl
theorem ofJ9 : ((Tryz.checked.prog.stopKnobs == [])) = true := by kernel_rfl
theorem ofJ10 : ((Rows.operateFreeRow.inPlace == Tryz.checked.prog.inPlace 5)) = true := by rw [inPlace_of ofCl]; kernel_rfl
theorem ofJ11 : ((Rows.operateFreeRow.unfollowed == Tryz.checked.prog.unfollowed 5)) = true := by rw [ofUn]; kernel_rfl
theorem ofJ12 : ((Rows.operateFreeRow.recurses == Tryz.checked.prog.recurses 5)) = true := by rw [recurses_unf _ _ ofUn]; kernel_rfl
theorem ofJ13 : ((Rows.operateFreeRow.named == Tryz.checked.prog.varsNamed 5)) = true := by rw [varsNamed_of ofCl]; kernel_rfl
theorem ofJ14 : ((Rows.operateFreeRow.maps == (Tryz.f5.params.toList ++ Rows.operateFreeSpec.plain.varTypes Tryz.checked.prog).any (Tryz.checked.prog.mapsRec ·))) = true := by kernel_rfl
theorem ofJ15 : ((Rows.operateFreeRow.ifaces == (Tryz.f5.params.toList ++ Rows.operateFreeSpec.plain.varTypes Tryz.checked.prog).any (Tryz.checked.prog.ifacesRec ·))) = true := by kernel_rfl
theorem ofJ16 : ((Rows.operateFreeRow.mapsOut == Tryz.checked.prog.mapsAmong Tryz.f5.resultTypes.toList)) = true := by kernel_rfl
theorem ofJ17 : ((Rows.operateFreeRow.loops == (Tryz.f5.params.toList ++ Rows.operateFreeSpec.plain.varTypes Tryz.checked.prog).any (Tryz.checked.prog.loopsFrom ·))) = true := by kernel_rfl
theorem ofJ18 : ((Rows.operateFreeRow.wideKeys == (Tryz.f5.params.toList ++ Rows.operateFreeSpec.plain.varTypes Tryz.checked.prog ++ Tryz.f5.resultTypes.toList).any (Tryz.checked.prog.wideKeysFrom ·))) = true := by kernel_rfl
theorem ofJ19 : (Rows.operateFreeSpec.vars.all (Tryz.checked.prog.varReadable ·)) = true := by kernel_rfl
theorem ofJ20 : (Tryz.f5.resultTypes.all (fun t => Tryz.checked.prog.readableRec t && decide (t < Tryz.checked.prog.types.size))) = true := by kernel_rfl
theorem ofJ21 : ((Rows.operateFreeRow.ifacesOut == Tryz.f5.resultTypes.toList.any (Tryz.checked.prog.ifacesRec ·))) = true := by kernel_rfl
theorem ofJ22 : ((Rows.operateFreeRow.loopsOut == Tryz.f5.resultTypes.toList.any (Tryz.checked.prog.loopsFrom ·))) = true := by kernel_rfl
theorem ofJ23 : ((Rows.operateFreeRow.plainKeys == Tryz.checked.prog.plainKeys)) = true := by kernel_rfl
theorem ofJ24 : (Rows.operateFreeRow.shortTexts.isNone) = true := by kernel_rfl
theorem ofJ25 : (Tryz.checked.prog.stopsHeard) = true := by kernel_rfl
theorem ofJ26 : (Tryz.checked.prog.mayEnter) = true := by kernel_rfl
theorem ofJ27 : ((Rows.operateFreeRow.lifted == Tryz.checked.prog.liftsFinal)) = true := by kernel_rfl
theorem ofJ28 : ((Tryz.checked.prog.make == some Rows.operateFreeRow.make)) = true := by kernel_rfl
theorem ofJ29 : ((Rows.operateFreeRow.kinds == (if Rows.operateFreeRow.domain.isEmpty then [] else Tryz.f5.params.toList.map fun t => match Tryz.checked.prog.underlying t with | some (.int k) => some k | _ => none))) = true := by kernel_rfl
theorem ofJ30 : ((Rows.operateFreeRow.pinned == Rows.operateFreeRow.pinnedBy)) = true := by kernel_rfl
theorem ofJ31 : ((Rows.operateFreeRow.veiled == (Tryz.f5.params.toList ++ Rows.operateFreeSpec.plain.varTypes Tryz.checked.prog ++ Tryz.f5.resultTypes.toList).any (Tryz.checked.prog.veiledRec ·))) = true := by kernel_rfl
theorem ofJ32 : (Rows.operateFreeRow.veiledFits Tryz.checked.prog Tryz.f5.params.toList (Tryz.f5.params.toList ++ Rows.operateFreeSpec.plain.varTypes Tryz.checked.prog ++ Tryz.f5.resultTypes.toList)) = true := by kernel_rfl
set_option maxRecDepth 100000 in
theorem ofJ : joinedFacts Tryz.checked.prog 5 Tryz.f5 Rows.operateFreeSpec Rows.operateFreeRow = true := by
  have h2 := ofJand ofJ1 ofJ2
  have h3 := ofJand h2 ofJ3
  have h4 := ofJand h3 ofJ4
  have h5 := ofJand h4 ofJ5
  have h6 := ofJand h5 ofJ6
  have h7 := ofJand h6 ofJ7
  have h8 := ofJand h7 ofJ8
  have h9 := ofJand h8 ofJ9
  have h10 := ofJand h9 ofJ10
  have h11 := ofJand h10 ofJ11
  have h12 := ofJand h11 ofJ12
  have h13 := ofJand h12 ofJ13
  have h14 := ofJand h13 ofJ14
  have h15 := ofJand h14 ofJ15
  have h16 := ofJand h15 ofJ16
  have h17 := ofJand h16 ofJ17
  have h18 := ofJand h17 ofJ18
  have h19 := ofJand h18 ofJ19
  have h20 := ofJand h19 ofJ20
  have h21 := ofJand h20 ofJ21
  have h22 := ofJand h21 ofJ22
  have h23 := ofJand h22 ofJ23
  have h24 := ofJand h23 ofJ24
  have h25 := ofJand h24 ofJ25
  have h26 := ofJand h25 ofJ26
  have h27 := ofJand h26 ofJ27
  have h28 := ofJand h27 ofJ28
  have h29 := ofJand h28 ofJ29
  have h30 := ofJand h29 ofJ30
  have h31 := ofJand h30 ofJ31
  have h32 := ofJand h31 ofJ32
  unfold joinedFacts
  exact h32
end Go.Proofs.YtcbcegdidlefiaaGreat
