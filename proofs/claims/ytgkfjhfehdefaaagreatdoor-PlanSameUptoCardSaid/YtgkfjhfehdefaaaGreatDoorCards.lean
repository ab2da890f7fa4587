/-
  DERIVED. GIVEN WITH THE SEED: THE CARDS: each row of YtgkfjhfehdefaaaGreatDoorRows.lean that lists a variable, with what it lists TIED to the program's text (the seventh form; the later family's looks); each row that meets fmt, with fmt's text TOLD by the authors' own Lean function (tested against real Go, not proved from fmt's source: count such statements apart). THE CARD IS WHAT COUNTS. Prove the row's statement (the work); the ties are given (YtgkfjhfehdefaaaGreatDoorTie.lean); close each card by the builder's one call (the guide's Derived/Test/ToyasCard.lean, 'card_holds'). Laid BY PROGRAM, IN A SANDBOX (cutbox-door.mjs). By AI agents, Wed Nov 11 2026. No macro, syntax, notation, axiom, sorry.
-/
import Derived.Test.YtgkfjhfehdefaaaGreatDoorRows
import GoSem.ClaimSeven
namespace Go.Proofs.YtgkfjhfehdefaaaGreatDoor
namespace Rows

/-- THE TIED CARD OF 'wayfarerlaw12.PlanChecks'. -/
def planChecksCard : Claim7 := { stood := { row := planChecksRow, standIns := [], harness := (true, "ce3836d62448de380f9c6b0a22fa70596bb9c8c3fd5d380e5cd997214a8d5365"), looks := false }, kinds := [], alts := [], laidByText := true, laidKinds := [.data], laidTests := true, laidLooks := .later }
def PlanChecksCardSaid : Prop := Claim7.holds Tryz.pinned (.plain (OpenSpec.ofChange planChecksSpec)) planChecksCard

/-- THE TIED CARD OF 'wayfarerlaw12.PlanSame'. -/
def planSameCard : Claim7 := { stood := { row := planSameRow, standIns := [], harness := (true, "ce3836d62448de380f9c6b0a22fa70596bb9c8c3fd5d380e5cd997214a8d5365"), looks := false }, kinds := [], alts := [], laidByText := true, laidKinds := [.data], laidTests := true, laidLooks := .later }
def PlanSameCardSaid : Prop := Claim7.holds Tryz.pinned (.plain (OpenSpec.ofChange planSameSpec)) planSameCard

/-- THE SECOND FORM's CARD OF 'wayfarerlaw12.PlanChecks'. -/
def planChecksUptoCard : Claim7 := { stood := { row := planChecksUptoRow, standIns := [], harness := (true, "ce3836d62448de380f9c6b0a22fa70596bb9c8c3fd5d380e5cd997214a8d5365"), looks := false }, kinds := [], alts := [], laidByText := true, laidKinds := [.data], laidTests := true, laidLooks := .later }
def PlanChecksUptoCardSaid : Prop := Claim7.holds Tryz.pinned (.plain (OpenSpec.upto planChecksSpec)) planChecksUptoCard

/-- THE SECOND FORM's CARD OF 'wayfarerlaw12.PlanSame'. -/
def planSameUptoCard : Claim7 := { stood := { row := planSameUptoRow, standIns := [], harness := (true, "ce3836d62448de380f9c6b0a22fa70596bb9c8c3fd5d380e5cd997214a8d5365"), looks := false }, kinds := [], alts := [], laidByText := true, laidKinds := [.data], laidTests := true, laidLooks := .later }
def PlanSameUptoCardSaid : Prop := Claim7.holds Tryz.pinned (.plain (OpenSpec.upto planSameSpec)) planSameUptoCard
end Rows
end Go.Proofs.YtgkfjhfehdefaaaGreatDoor
