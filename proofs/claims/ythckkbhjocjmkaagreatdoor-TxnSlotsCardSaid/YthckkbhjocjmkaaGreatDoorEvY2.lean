/- The call of TxnSlots at the slots 32 to 47. -/
import Derived.Test.YthckkbhjocjmkaaGreatDoorEvX
namespace Go.Proofs.YthckkbhjocjmkaaGreatDoor
namespace Ev
set_option maxRecDepth 100000
theorem slots_2 : (List.range' 32 16).all (fun i => memoB (gM EE [4, 5] memosX 300) 400 (slotMemo (Int.ofNat i))) = true := by kernel_rfl
end Ev
end Go.Proofs.YthckkbhjocjmkaaGreatDoor
