/- The run of the first Commit. -/
import Derived.Test.YthckkbhjocjmkaaGreatDoorEvU
namespace Go.Proofs.YthckkbhjocjmkaaGreatDoor
namespace Ev
set_option maxRecDepth 100000
theorem c1_run : memoB (gT EE 300) 400 memoC1 = true := by kernel_rfl
end Ev
end Go.Proofs.YthckkbhjocjmkaaGreatDoor
