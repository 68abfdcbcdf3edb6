/- The second call of slices.SortedFunc at a map of five keys. -/
import Derived.Test.YthckkbhjocjmkaaGreatDoorEvR
namespace Go.Proofs.YthckkbhjocjmkaaGreatDoor
namespace Ev
set_option maxRecDepth 100000
theorem m44B : memoB (gS EE 100) 200 (memo44 esB) = true := by kernel_rfl
end Ev
end Go.Proofs.YthckkbhjocjmkaaGreatDoor
