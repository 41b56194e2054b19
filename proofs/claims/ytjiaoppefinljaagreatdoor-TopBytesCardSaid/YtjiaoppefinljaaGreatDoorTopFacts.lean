/- Closed facts of the program and of the row. -/
import Derived.Test.YtjiaoppefinljaaGreatDoorRows
import Derived.Test.YtjiaoppefinljaaGreatDoorCards
import Derived.JoinedOf
import Derived.ProofKit
namespace Go.Proofs.YtjiaoppefinljaaGreatDoor
namespace TF
open Go
set_option maxRecDepth 1000000
def clo : List FuncId := [3, 4, 10, 24, 6, 16, 35, 36, 17, 37, 49, 59, 71, 18, 38, 50, 19, 39, 25, 41, 51, 60, 72, 26, 27, 42, 52, 11, 29, 28, 43, 53, 61, 73, 64, 79, 119, 121, 120, 157, 209, 210, 83, 257, 213, 258, 276, 277, 212, 12, 13, 32, 34, 31, 33, 14, 15, 63, 74, 75, 77, 123, 158, 159, 124, 160, 125, 161, 211, 126, 76, 122, 78, 127, 62, 54, 65, 67, 84, 131, 164, 166, 214, 221, 260, 278, 289, 294, 300, 295, 296, 297, 301, 261, 279, 290, 263, 285, 284, 292, 280, 281, 264, 262, 282, 291, 298, 302, 303, 305, 299, 304, 283, 215, 167, 216, 259, 165, 218, 217, 199, 132, 168, 219, 176, 224, 220, 169, 133, 170, 141, 134, 135, 171, 222, 265, 275, 235, 57, 137, 136, 172, 85, 87, 88, 90, 89, 86, 92, 91, 94, 93, 96, 95, 98, 97, 100, 99, 66, 80, 81, 82, 128, 129, 130, 162, 163, 55, 68, 101, 103, 138, 139, 140, 173, 102, 105, 104, 107, 106, 109, 108, 111, 110, 113, 112, 7, 20, 40, 9, 21, 23, 69, 114, 143, 142, 174, 175, 223, 177, 144, 178, 179, 145, 181, 180, 225, 146, 182, 226, 147, 183, 227, 184, 185, 148, 186, 187, 149, 188, 228, 229, 230, 266, 189, 192, 232, 233, 231, 267, 234, 268, 269, 286, 293, 190, 236, 191, 150, 193, 196, 240, 241, 242, 271, 287, 237, 197, 194, 195, 239, 238, 270, 198, 243, 151, 200, 201, 244, 272, 245, 246, 202, 248, 247, 273, 250, 251, 249, 203, 252, 205, 206, 253, 254, 255, 274, 288, 256, 204, 44, 30, 45, 46, 56, 47, 48, 58, 70, 115, 116, 153, 152, 154, 117, 118, 155, 156, 207, 208, 5, 8, 22]
theorem clo_eq : Tryz.prog.closure 3 = clo := by kernel_rfl
theorem k1 : Rows.topBytesRow.wf (OpenSpec.ofChange Rows.topBytesSpec) = true := by kernel_rfl
theorem k2 : laidOutB Tryz.prog = true := by kernel_rfl
theorem k3 : mapsRowed Tryz.prog = true := by kernel_rfl
theorem k4 : Tryz.f3.params.all (Tryz.prog.readableRec ·) = true := by kernel_rfl
theorem k5 : namedTie Tryz.prog Rows.topBytesRow.named Rows.topBytesSpec.vars = true := by kernel_rfl
theorem k6 : (Rows.topBytesRow.stops == []) = true := by kernel_rfl
theorem k7 : (Tryz.prog.stops == []) = true := by kernel_rfl
theorem k8 : (Rows.topBytesRow.knobs == []) = true := by kernel_rfl
theorem k9 : (Tryz.prog.stopKnobs == []) = true := by kernel_rfl
theorem k10 : (Rows.topBytesRow.inPlace == Tryz.prog.inPlace 3) = true := by (unfold Program.inPlace; rw [clo_eq]; kernel_rfl)
theorem k11u : Tryz.prog.unfollowed 3 = true := by (unfold Program.unfollowed; rw [clo_eq]; kernel_rfl)
theorem k11 : (Rows.topBytesRow.unfollowed == Tryz.prog.unfollowed 3) = true := by (rw [k11u]; kernel_rfl)
theorem k12 : (Rows.topBytesRow.recurses == Tryz.prog.recurses 3) = true := by (unfold Program.recurses; rw [k11u, Bool.true_or]; kernel_rfl)
theorem k13 : (Rows.topBytesRow.named == Tryz.prog.varsNamed 3) = true := by (unfold Program.varsNamed; rw [clo_eq]; kernel_rfl)
theorem k14 : (Rows.topBytesRow.maps == (Tryz.f3.params.toList ++ Rows.topBytesSpec.plain.varTypes Tryz.prog).any (Tryz.prog.mapsRec ·)) = true := by kernel_rfl
theorem k15 : (Rows.topBytesRow.ifaces == (Tryz.f3.params.toList ++ Rows.topBytesSpec.plain.varTypes Tryz.prog).any (Tryz.prog.ifacesRec ·)) = true := by kernel_rfl
theorem k16 : (Rows.topBytesRow.mapsOut == Tryz.prog.mapsAmong Tryz.f3.resultTypes.toList) = true := by kernel_rfl
theorem k17 : (Rows.topBytesRow.loops == (Tryz.f3.params.toList ++ Rows.topBytesSpec.plain.varTypes Tryz.prog).any (Tryz.prog.loopsFrom ·)) = true := by kernel_rfl
theorem k17b : (Rows.topBytesRow.wideKeys == (Tryz.f3.params.toList ++ Rows.topBytesSpec.plain.varTypes Tryz.prog ++ Tryz.f3.resultTypes.toList).any (Tryz.prog.wideKeysFrom ·)) = true := by kernel_rfl
theorem k18 : Rows.topBytesSpec.vars.all (Tryz.prog.varReadable ·) = true := by kernel_rfl
theorem k19 : Tryz.f3.resultTypes.all (fun t => Tryz.prog.readableRec t && decide (t < Tryz.prog.types.size)) = true := by kernel_rfl
theorem k20 : (Rows.topBytesRow.ifacesOut == Tryz.f3.resultTypes.toList.any (Tryz.prog.ifacesRec ·)) = true := by kernel_rfl
theorem k21 : (Rows.topBytesRow.loopsOut == Tryz.f3.resultTypes.toList.any (Tryz.prog.loopsFrom ·)) = true := by kernel_rfl
theorem k22 : (Rows.topBytesRow.plainKeys == Tryz.prog.plainKeys) = true := by kernel_rfl
theorem k23 : Rows.topBytesRow.shortTexts.isNone = true := by kernel_rfl
theorem k23b : Tryz.prog.stopsHeard = true := by kernel_rfl
theorem k24 : Tryz.prog.mayEnter = true := by kernel_rfl
theorem k24b : (Rows.topBytesRow.lifted == Tryz.prog.liftsFinal) = true := by kernel_rfl
theorem k24c : (Tryz.prog.make == some Rows.topBytesRow.make) = true := by kernel_rfl
theorem k25 : (Rows.topBytesRow.kinds == (if Rows.topBytesRow.domain.isEmpty then [] else Tryz.f3.params.toList.map fun t => match Tryz.prog.underlying t with | some (.int k) => some k | _ => none)) = true := by kernel_rfl
theorem k26 : (Rows.topBytesRow.pinned == Rows.topBytesRow.pinnedBy) = true := by kernel_rfl
theorem k27 : (Rows.topBytesRow.veiled == (Tryz.f3.params.toList ++ Rows.topBytesSpec.plain.varTypes Tryz.prog ++ Tryz.f3.resultTypes.toList).any (Tryz.prog.veiledRec ·)) = true := by kernel_rfl
theorem k28 : Rows.topBytesRow.veiledFits Tryz.prog Tryz.f3.params.toList (Tryz.f3.params.toList ++ Rows.topBytesSpec.plain.varTypes Tryz.prog ++ Tryz.f3.resultTypes.toList) = true := by kernel_rfl
theorem goes1 : ((Tryz.prog.closure 3).any fun g => (Tryz.prog.funcs[g]?).any Func.goes) = false := by (rw [clo_eq]; kernel_rfl)
theorem goes2 : Tryz.prog.funcs.any Func.goes = false := by kernel_rfl
theorem named3 : Tryz.prog.funcNamed "homecoming/homecomingtop.TopBytes" = some 3 := by kernel_rfl
theorem wfText : Rows.topBytesRow.wfByText (OpenSpec.ofChange Rows.topBytesSpec) = true := by kernel_rfl
theorem mainIs : Tryz.prog.mainIs = some (true, "afe250588a6dc981ca84152c0c2ae2ccbe69f02346fb932d50207090f3d89c1f".toList) := by kernel_rfl
theorem looks : false = Tryz.prog.looks [] := by kernel_rfl
theorem stand : ([9, 22].all fun u => !Tryz.prog.wantsStandIn u) = true := by kernel_rfl
theorem joined : joinedFacts Tryz.prog 3 Tryz.f3 Rows.topBytesSpec Rows.topBytesRow = true := by
  unfold joinedFacts
  simp only [Bool.and_eq_true]
  exact ⟨⟨⟨⟨⟨⟨⟨⟨⟨⟨⟨⟨⟨⟨⟨⟨⟨⟨⟨⟨⟨⟨⟨⟨⟨⟨⟨⟨⟨⟨⟨k1, k2⟩, k3⟩, k4⟩, k5⟩, k6⟩, k7⟩, k8⟩, k9⟩, k10⟩, k11⟩, k12⟩, k13⟩, k14⟩, k15⟩, k16⟩, k17⟩, k17b⟩, k18⟩, k19⟩, k20⟩, k21⟩, k22⟩, k23⟩, k23b⟩, k24⟩, k24b⟩, k24c⟩, k25⟩, k26⟩, k27⟩, k28⟩
theorem goes_f : Tryz.prog.goes 3 = false := by
  unfold Program.goes
  rw [goes1, goes2, Bool.and_false, Bool.or_false]
theorem goes_from : Tryz.prog.goesFrom "homecoming/homecomingtop.TopBytes" = false := by
  unfold Program.goesFrom
  rw [named3, Option.any_some, goes_f]
theorem goes3 : false = Rows.topBytesRow.goesBy Tryz.prog := by
  unfold OpenClaim.goesBy Program.goesAt
  rw [show Rows.topBytesRow.func = "homecoming/homecomingtop.TopBytes" from rfl, show Rows.topBytesRow.start = .entering from rfl, goes_from]
  rfl
end TF
end Go.Proofs.YtjiaoppefinljaaGreatDoor
