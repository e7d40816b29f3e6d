/-
  DERIVED. GIVEN WITH THE SEED: THE CARDS: each row of YtajpgjbepebcmaaGreatDoorRows.lean that lists a variable, with what it lists TIED to the program's text (the seventh form; the later family's looks); each row that meets fmt, with fmt's text TOLD by the authors' own Lean function (tested against real Go, not proved from fmt's source: count such statements apart). THE CARD IS WHAT COUNTS. Prove the row's statement (the work); the ties are given (YtajpgjbepebcmaaGreatDoorTie.lean); close each card by the builder's one call (the guide's Derived/Test/ToyasCard.lean, 'card_holds'). Laid BY PROGRAM, IN A SANDBOX (cutbox-door.mjs). By AI agents, Wed Nov 11 2026. No macro, syntax, notation, axiom, sorry.
-/
import Derived.Test.YtajpgjbepebcmaaGreatDoorRows
import GoSem.ClaimSeven
namespace Go.Proofs.YtajpgjbepebcmaaGreatDoor
namespace Rows

/-- THE TIED CARD OF 'emendatorlaw16.EditMoves'. -/
def editMovesCard : Claim7 := { stood := { row := editMovesRow, standIns := [], harness := (true, "5f59c649a3d583e2c5874b939f5be88a80e73cacfdc7f65fc91d60afe98ceaab"), looks := true }, kinds := [], alts := [], laidByText := true, laidKinds := [.data, .data, .data, .data, .pinned], laidTests := true, laidLooks := .later }
def EditMovesCardSaid : Prop := Claim7.holds Tryz.pinned (.plain (OpenSpec.ofChange editMovesSpec)) editMovesCard

/-- THE TIED CARD OF 'emendatorlaw16.EditJoinsAll'. -/
def editJoinsAllCard : Claim7 := { stood := { row := editJoinsAllRow, standIns := [], harness := (true, "5f59c649a3d583e2c5874b939f5be88a80e73cacfdc7f65fc91d60afe98ceaab"), looks := true }, kinds := [], alts := [], laidByText := true, laidKinds := [.data, .data, .data, .data, .pinned], laidTests := true, laidLooks := .later }
def EditJoinsAllCardSaid : Prop := Claim7.holds Tryz.pinned (.plain (OpenSpec.ofChange editJoinsAllSpec)) editJoinsAllCard

/-- THE TIED CARD OF 'emendatorlaw16.EditYanks'. -/
def editYanksCard : Claim7 := { stood := { row := editYanksRow, standIns := [], harness := (true, "5f59c649a3d583e2c5874b939f5be88a80e73cacfdc7f65fc91d60afe98ceaab"), looks := true }, kinds := [], alts := [], laidByText := true, laidKinds := [.data, .data, .data, .data, .pinned], laidTests := true, laidLooks := .later }
def EditYanksCardSaid : Prop := Claim7.holds Tryz.pinned (.plain (OpenSpec.ofChange editYanksSpec)) editYanksCard

/-- THE SECOND FORM's CARD OF 'emendatorlaw16.EditMoves'. -/
def editMovesUptoCard : Claim7 := { stood := { row := editMovesUptoRow, standIns := [], harness := (true, "5f59c649a3d583e2c5874b939f5be88a80e73cacfdc7f65fc91d60afe98ceaab"), looks := true }, kinds := [], alts := [], laidByText := true, laidKinds := [.data, .data, .data, .data, .pinned], laidTests := true, laidLooks := .later }
def EditMovesUptoCardSaid : Prop := Claim7.holds Tryz.pinned (.plain (OpenSpec.upto editMovesSpec)) editMovesUptoCard

/-- THE SECOND FORM's CARD OF 'emendatorlaw16.EditJoinsAll'. -/
def editJoinsAllUptoCard : Claim7 := { stood := { row := editJoinsAllUptoRow, standIns := [], harness := (true, "5f59c649a3d583e2c5874b939f5be88a80e73cacfdc7f65fc91d60afe98ceaab"), looks := true }, kinds := [], alts := [], laidByText := true, laidKinds := [.data, .data, .data, .data, .pinned], laidTests := true, laidLooks := .later }
def EditJoinsAllUptoCardSaid : Prop := Claim7.holds Tryz.pinned (.plain (OpenSpec.upto editJoinsAllSpec)) editJoinsAllUptoCard

/-- THE SECOND FORM's CARD OF 'emendatorlaw16.EditYanks'. -/
def editYanksUptoCard : Claim7 := { stood := { row := editYanksUptoRow, standIns := [], harness := (true, "5f59c649a3d583e2c5874b939f5be88a80e73cacfdc7f65fc91d60afe98ceaab"), looks := true }, kinds := [], alts := [], laidByText := true, laidKinds := [.data, .data, .data, .data, .pinned], laidTests := true, laidLooks := .later }
def EditYanksUptoCardSaid : Prop := Claim7.holds Tryz.pinned (.plain (OpenSpec.upto editYanksSpec)) editYanksUptoCard
end Rows
end Go.Proofs.YtajpgjbepebcmaaGreatDoor
