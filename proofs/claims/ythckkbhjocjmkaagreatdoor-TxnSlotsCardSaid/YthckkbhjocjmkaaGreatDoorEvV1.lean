/- The run of txn.New, and that of the first Do. -/
import Derived.Test.YthckkbhjocjmkaaGreatDoorEvU
namespace Go.Proofs.YthckkbhjocjmkaaGreatDoor
namespace Ev
set_option maxRecDepth 100000
theorem new_run : memoB (gT EE 300) 400 memoNew = true := by kernel_rfl
theorem doA_run : memoB (gT EE 300) 400 memoDoA = true := by kernel_rfl
end Ev
end Go.Proofs.YthckkbhjocjmkaaGreatDoor
