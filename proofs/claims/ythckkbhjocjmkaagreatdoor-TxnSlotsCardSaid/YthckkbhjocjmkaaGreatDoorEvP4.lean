/- The sort of five keys, orders 60 to 74. -/
import Derived.Test.YthckkbhjocjmkaaGreatDoorEvO
namespace Go.Proofs.YthckkbhjocjmkaaGreatDoor
namespace Ev
set_option maxRecDepth 100000
theorem sort_4 : ps4.all (fun p => memoB (gOf EE 100) 100 (sortMemo p)) = true := by kernel_rfl
end Ev
end Go.Proofs.YthckkbhjocjmkaaGreatDoor
