/-
  DERIVED. GIVEN WITH THE SEED: THE CARDS: each row of YtgoppocfbhbamaaGreatDoorRows.lean that lists a variable, with what it lists TIED to the program's text (the seventh form; the later family's looks); each row that meets fmt, with fmt's text TOLD by the authors' own Lean function (tested against real Go, not proved from fmt's source: count such statements apart). THE CARD IS WHAT COUNTS. Prove the row's statement (the work); the ties are given (YtgoppocfbhbamaaGreatDoorTie.lean); close each card by the builder's one call (the guide's Derived/Test/ToyasCard.lean, 'card_holds'). Laid BY PROGRAM, IN A SANDBOX (cutbox-door.mjs). By AI agents, Wed Nov 11 2026. No macro, syntax, notation, axiom, sorry.
-/
import Derived.Test.YtgoppocfbhbamaaGreatDoorRows
import GoSem.ClaimSeven
namespace Go.Proofs.YtgoppocfbhbamaaGreatDoor
namespace Rows

/-- THE TIED CARD OF 'amanuensislaw15.ShowTerm'. -/
def showTermCard : Claim7 := { stood := { row := showTermRow, standIns := [], harness := (true, "1ed1b53ae3ca65177d769e7c92d7a7b1043e1b8748b39cd8e0b272b3d8652c46"), looks := true }, kinds := [], alts := [], laidByText := true, laidKinds := [.data, .data, .data], laidTests := true, laidLooks := .later }
def ShowTermCardSaid : Prop := Claim7.holds Tryz.pinned (.plain (OpenSpec.ofChange showTermSpec)) showTermCard

/-- THE TIED CARD OF 'amanuensislaw15.ShowBack'. -/
def showBackCard : Claim7 := { stood := { row := showBackRow, standIns := [], harness := (true, "1ed1b53ae3ca65177d769e7c92d7a7b1043e1b8748b39cd8e0b272b3d8652c46"), looks := true }, kinds := [], alts := [], laidByText := true, laidKinds := [.data, .data, .data], laidTests := true, laidLooks := .later }
def ShowBackCardSaid : Prop := Claim7.holds Tryz.pinned (.plain (OpenSpec.ofChange showBackSpec)) showBackCard

/-- THE SECOND FORM's CARD OF 'amanuensislaw15.ShowTerm'. -/
def showTermUptoCard : Claim7 := { stood := { row := showTermUptoRow, standIns := [], harness := (true, "1ed1b53ae3ca65177d769e7c92d7a7b1043e1b8748b39cd8e0b272b3d8652c46"), looks := true }, kinds := [], alts := [], laidByText := true, laidKinds := [.data, .data, .data], laidTests := true, laidLooks := .later }
def ShowTermUptoCardSaid : Prop := Claim7.holds Tryz.pinned (.plain (OpenSpec.upto showTermSpec)) showTermUptoCard

/-- THE SECOND FORM's CARD OF 'amanuensislaw15.ShowBack'. -/
def showBackUptoCard : Claim7 := { stood := { row := showBackUptoRow, standIns := [], harness := (true, "1ed1b53ae3ca65177d769e7c92d7a7b1043e1b8748b39cd8e0b272b3d8652c46"), looks := true }, kinds := [], alts := [], laidByText := true, laidKinds := [.data, .data, .data], laidTests := true, laidLooks := .later }
def ShowBackUptoCardSaid : Prop := Claim7.holds Tryz.pinned (.plain (OpenSpec.upto showBackSpec)) showBackUptoCard
end Rows
end Go.Proofs.YtgoppocfbhbamaaGreatDoor
