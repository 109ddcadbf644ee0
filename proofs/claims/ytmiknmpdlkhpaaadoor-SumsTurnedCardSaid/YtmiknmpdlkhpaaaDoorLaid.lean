/- What the listed variable gives a walk (the table of half a byte), and a start that meets the condition. -/
import Derived.Test.YtmiknmpdlkhpaaaDoorRows
import Derived.Test.YtmiknmpdlkhpaaaDoorHalf
import Derived.LaidMore
import Derived.Stop.Joined
import Derived.Lib.LaidTab
import Derived.ProofKit
namespace Go.Proofs.YtmiknmpdlkhpaaaDoor
open Go
abbrev laidRow : List (String × DataW Unit) := [("mortise/sums.half", Rows.laid_mortise_sums_half)]
theorem gHalf : Tryd.prog.globalNamed "mortise/sums.half" = some 0 := by kernel_rfl
theorem tHalf : (Tryd.prog.globals[0]?).map (·.type) = some 36 := by kernel_rfl
theorem cHalf : Tryd.prog.cellsOf 36 = 16 := by kernel_rfl
theorem cU32 : Tryd.prog.cellsOf 22 = 1 := by kernel_rfl
theorem half_of_laid {W : World} (h : laidMetH Tryd.prog laidRow W) : Mor.HalfIs W := by
  rw [MakeChecks.laidMetH_plain _ _ _ (by kernel_rfl)] at h
  have h' : laidMet Tryd.prog [("mortise/sums.half", Lib.tabData .u32 (Mor.half.map fun (n : Nat) => (n : Int)))] W := h
  have hT := Lib.tabIs_of_head gHalf tHalf Tryd.underlying36 Tryd.underlying22 cU32 cHalf h'
  refine ⟨fun i hi => ?_⟩
  have hc := hT.cell gHalf i (by simpa [Mor.half] using hi)
  rw [hc]
  congr 2
  simp only [List.getD_eq_getElem?_getD, List.getElem?_map]
  have hl : i < Mor.half.length := by simpa [Mor.half] using hi
  rw [List.getElem?_eq_getElem hl]
  rfl
theorem door_met (os : Os) (args : Array Value) : laidMetH Tryd.prog laidRow ((World.doorLaid Tryd.prog 14 os).forCall (fun _ _ => 0) ⟨#[], args, []⟩).memory :=
  laidMetH_of_parts3 (fuel := 8) (laidMet_of_run' 8 (by kernel_rfl) (by kernel_rfl)) (by kernel_rfl) (by kernel_rfl)
end Go.Proofs.YtmiknmpdlkhpaaaDoor
