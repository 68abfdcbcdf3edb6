/- The run of the second Commit. -/
import Derived.Test.YthckkbhjocjmkaaGreatDoorEvU
namespace Go.Proofs.YthckkbhjocjmkaaGreatDoor
namespace Ev
set_option maxRecDepth 100000
theorem c2_run : memoB (gT EE 300) 400 memoC2 = true := by kernel_rfl
end Ev
end Go.Proofs.YthckkbhjocjmkaaGreatDoor
