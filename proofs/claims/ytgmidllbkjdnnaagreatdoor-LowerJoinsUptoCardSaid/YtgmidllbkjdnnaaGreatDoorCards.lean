/-
  DERIVED. GIVEN WITH THE SEED: THE CARDS: each row of YtgmidllbkjdnnaaGreatDoorRows.lean that lists a variable, with what it lists TIED to the program's text (the seventh form; the later family's looks); each row that meets fmt, with fmt's text TOLD by the authors' own Lean function (tested against real Go, not proved from fmt's source: count such statements apart). THE CARD IS WHAT COUNTS. Prove the row's statement (the work); the ties are given (YtgmidllbkjdnnaaGreatDoorTie.lean); close each card by the builder's one call (the guide's Derived/Test/ToyasCard.lean, 'card_holds'). Laid BY PROGRAM, IN A SANDBOX (cutbox-door.mjs). By AI agents, Wed Nov 11 2026. No macro, syntax, notation, axiom, sorry.
-/
import Derived.Test.YtgmidllbkjdnnaaGreatDoorRows
import GoSem.ClaimSeven
namespace Go.Proofs.YtgmidllbkjdnnaaGreatDoor
namespace Rows

/-- THE TIED CARD OF 'wayfarerlaw21.LowerLays'. -/
def lowerLaysCard : Claim7 := { stood := { row := lowerLaysRow, standIns := [], harness := (true, "4392ba41deaf0b660be66529ebb478e976ce3ba8f4d2fc6230b380dfeb5535a6"), looks := false }, kinds := [], alts := [], laidByText := true, laidKinds := [.data], laidTests := true, laidLooks := .later }
def LowerLaysCardSaid : Prop := Claim7.holds Tryz.pinned (.plain (OpenSpec.ofChange lowerLaysSpec)) lowerLaysCard

/-- THE TIED CARD OF 'wayfarerlaw21.LowerRaises'. -/
def lowerRaisesCard : Claim7 := { stood := { row := lowerRaisesRow, standIns := [], harness := (true, "4392ba41deaf0b660be66529ebb478e976ce3ba8f4d2fc6230b380dfeb5535a6"), looks := false }, kinds := [], alts := [], laidByText := true, laidKinds := [.data], laidTests := true, laidLooks := .later }
def LowerRaisesCardSaid : Prop := Claim7.holds Tryz.pinned (.plain (OpenSpec.ofChange lowerRaisesSpec)) lowerRaisesCard

/-- THE TIED CARD OF 'wayfarerlaw21.LowerJoins'. -/
def lowerJoinsCard : Claim7 := { stood := { row := lowerJoinsRow, standIns := [], harness := (true, "4392ba41deaf0b660be66529ebb478e976ce3ba8f4d2fc6230b380dfeb5535a6"), looks := false }, kinds := [], alts := [], laidByText := true, laidKinds := [.data], laidTests := true, laidLooks := .later }
def LowerJoinsCardSaid : Prop := Claim7.holds Tryz.pinned (.plain (OpenSpec.ofChange lowerJoinsSpec)) lowerJoinsCard

/-- THE SECOND FORM's CARD OF 'wayfarerlaw21.LowerLays'. -/
def lowerLaysUptoCard : Claim7 := { stood := { row := lowerLaysUptoRow, standIns := [], harness := (true, "4392ba41deaf0b660be66529ebb478e976ce3ba8f4d2fc6230b380dfeb5535a6"), looks := false }, kinds := [], alts := [], laidByText := true, laidKinds := [.data], laidTests := true, laidLooks := .later }
def LowerLaysUptoCardSaid : Prop := Claim7.holds Tryz.pinned (.plain (OpenSpec.upto lowerLaysSpec)) lowerLaysUptoCard

/-- THE SECOND FORM's CARD OF 'wayfarerlaw21.LowerRaises'. -/
def lowerRaisesUptoCard : Claim7 := { stood := { row := lowerRaisesUptoRow, standIns := [], harness := (true, "4392ba41deaf0b660be66529ebb478e976ce3ba8f4d2fc6230b380dfeb5535a6"), looks := false }, kinds := [], alts := [], laidByText := true, laidKinds := [.data], laidTests := true, laidLooks := .later }
def LowerRaisesUptoCardSaid : Prop := Claim7.holds Tryz.pinned (.plain (OpenSpec.upto lowerRaisesSpec)) lowerRaisesUptoCard

/-- THE SECOND FORM's CARD OF 'wayfarerlaw21.LowerJoins'. -/
def lowerJoinsUptoCard : Claim7 := { stood := { row := lowerJoinsUptoRow, standIns := [], harness := (true, "4392ba41deaf0b660be66529ebb478e976ce3ba8f4d2fc6230b380dfeb5535a6"), looks := false }, kinds := [], alts := [], laidByText := true, laidKinds := [.data], laidTests := true, laidLooks := .later }
def LowerJoinsUptoCardSaid : Prop := Claim7.holds Tryz.pinned (.plain (OpenSpec.upto lowerJoinsSpec)) lowerJoinsUptoCard
end Rows
end Go.Proofs.YtgmidllbkjdnnaaGreatDoor
