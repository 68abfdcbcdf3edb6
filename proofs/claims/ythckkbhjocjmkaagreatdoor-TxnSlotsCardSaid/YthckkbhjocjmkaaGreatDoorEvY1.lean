/- The call of TxnSlots at the slots 16 to 31. -/
import Derived.Test.YthckkbhjocjmkaaGreatDoorEvX
namespace Go.Proofs.YthckkbhjocjmkaaGreatDoor
namespace Ev
set_option maxRecDepth 100000
theorem slots_1 : (List.range' 16 16).all (fun i => memoB (gM EE [4, 5] memosX 300) 400 (slotMemo (Int.ofNat i))) = true := by kernel_rfl
end Ev
end Go.Proofs.YthckkbhjocjmkaaGreatDoor
