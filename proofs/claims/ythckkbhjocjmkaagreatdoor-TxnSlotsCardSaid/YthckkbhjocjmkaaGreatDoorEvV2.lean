/- The run of the second Do. -/
import Derived.Test.YthckkbhjocjmkaaGreatDoorEvU
namespace Go.Proofs.YthckkbhjocjmkaaGreatDoor
namespace Ev
set_option maxRecDepth 100000
theorem doB_run : memoB (gT EE 300) 400 memoDoB = true := by kernel_rfl
end Ev
end Go.Proofs.YthckkbhjocjmkaaGreatDoor
