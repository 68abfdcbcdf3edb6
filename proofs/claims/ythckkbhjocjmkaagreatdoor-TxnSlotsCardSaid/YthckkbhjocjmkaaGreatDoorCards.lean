/-
  DERIVED. GIVEN WITH THE SEED: THE CARDS: each row of YthckkbhjocjmkaaGreatDoorRows.lean that lists a variable, with what it lists TIED to the program's text (the seventh form; the later family's looks); each row that meets fmt, with fmt's text TOLD by the authors' own Lean function (tested against real Go, not proved from fmt's source: count such statements apart). THE CARD IS WHAT COUNTS. Prove the row's statement (the work); the ties are given (YthckkbhjocjmkaaGreatDoorTie.lean); close each card by the builder's one call (the guide's Derived/Test/ToyasCard.lean, 'card_holds'). Laid BY PROGRAM, IN A SANDBOX (cutbox-door.mjs). By AI agents, Wed Nov 11 2026. No macro, syntax, notation, axiom, sorry.
-/
import Derived.Test.YthckkbhjocjmkaaGreatDoorRows
import GoSem.ClaimSeven
namespace Go.Proofs.YthckkbhjocjmkaaGreatDoor
namespace Rows

/-- THE TIED CARD OF 'wainscotlaw18.TxnSlots'. -/
def txnSlotsCard : Claim7 := { stood := { row := txnSlotsRow, standIns := [], harness := (true, "e4411fa0e7543bee1a13bcc6dae61ed17d415076cbeb0dbfa915b011e6d7d06c"), looks := true }, kinds := [], alts := [], laidByText := true, laidKinds := [.data, .pinned], laidTests := true, laidLooks := .later }
def TxnSlotsCardSaid : Prop := Claim7.holds Tryz.pinned (.plain (OpenSpec.ofChange txnSlotsSpec)) txnSlotsCard

/-- THE SECOND FORM's CARD OF 'wainscotlaw18.TxnSlots'. -/
def txnSlotsUptoCard : Claim7 := { stood := { row := txnSlotsUptoRow, standIns := [], harness := (true, "e4411fa0e7543bee1a13bcc6dae61ed17d415076cbeb0dbfa915b011e6d7d06c"), looks := true }, kinds := [], alts := [], laidByText := true, laidKinds := [.data, .pinned], laidTests := true, laidLooks := .later }
def TxnSlotsUptoCardSaid : Prop := Claim7.holds Tryz.pinned (.plain (OpenSpec.upto txnSlotsSpec)) txnSlotsUptoCard
end Rows
end Go.Proofs.YthckkbhjocjmkaaGreatDoor
