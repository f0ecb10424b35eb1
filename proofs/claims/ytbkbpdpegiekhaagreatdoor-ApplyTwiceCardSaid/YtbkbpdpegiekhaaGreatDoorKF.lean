/- Closed facts of the program that every row asks. -/
import Derived.Test.YtbkbpdpegiekhaaGreatDoorRows
import Derived.JoinedOf
namespace Go.Proofs.YtbkbpdpegiekhaaGreatDoor
open Go
theorem and2 {a b : Bool} (h : a = true) (k : b = true) : (a && b) = true := by rw [h, k]; rfl
theorem kf_c2 : (laidOutB Tryz.prog) = true := by kernel_rfl
theorem kf_c3 : (mapsRowed Tryz.prog) = true := by kernel_rfl
theorem kf_c7 : ((Tryz.prog.stops == [])) = true := by kernel_rfl
theorem kf_c9 : ((Tryz.prog.stopKnobs == [])) = true := by kernel_rfl
theorem kf_c23 : ((Rows.squashEmptyRow.plainKeys == Tryz.prog.plainKeys)) = true := by kernel_rfl
theorem kf_c25 : (Tryz.prog.stopsHeard) = true := by kernel_rfl
theorem kf_c26 : (Tryz.prog.mayEnter) = true := by kernel_rfl
theorem kf_c27 : ((Rows.squashEmptyRow.lifted == Tryz.prog.liftsFinal)) = true := by kernel_rfl
theorem kf_c28 : ((Tryz.prog.make == some Rows.squashEmptyRow.make)) = true := by kernel_rfl
theorem kf_main : Tryz.prog.mainIs = some (true, "c930284ee8cdeca3734823b1d00b740428cf56745f4bb0a91e541e0e25e41985".toList) := by kernel_rfl
end Go.Proofs.YtbkbpdpegiekhaaGreatDoor
