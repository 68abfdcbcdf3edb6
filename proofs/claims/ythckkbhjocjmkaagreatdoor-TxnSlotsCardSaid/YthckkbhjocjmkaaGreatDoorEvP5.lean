/- The sort of five keys, orders 75 to 89. -/
import Derived.Test.YthckkbhjocjmkaaGreatDoorEvO
namespace Go.Proofs.YthckkbhjocjmkaaGreatDoor
namespace Ev
set_option maxRecDepth 100000
theorem sort_5 : ps5.all (fun p => memoB (gOf EE 100) 100 (sortMemo p)) = true := by kernel_rfl
end Ev
end Go.Proofs.YthckkbhjocjmkaaGreatDoor
