/-
  DERIVED. GIVEN WITH THE SEED: THE CARDS: each row of YtgkfjhfehdefaaaDoorRows.lean that lists a variable, with what it lists TIED to the program's text (the seventh form; the later family's looks); each row that meets fmt, with fmt's text TOLD by the authors' own Lean function (tested against real Go, not proved from fmt's source: count such statements apart). THE CARD IS WHAT COUNTS. Prove the row's statement (the work); the ties are given (YtgkfjhfehdefaaaDoorTie.lean); close each card by the builder's one call (the guide's Derived/Test/ToyasCard.lean, 'card_holds'). Laid BY PROGRAM, IN A SANDBOX (cutbox-door.mjs). By AI agents, Wed Nov 11 2026. No macro, syntax, notation, axiom, sorry.
-/
import Derived.Test.YtgkfjhfehdefaaaDoorRows
import GoSem.ClaimSeven
namespace Go.Proofs.YtgkfjhfehdefaaaDoor
namespace Rows

/-- THE TIED CARD OF 'wayfarerlaw12.PlanUses'. -/
def planUsesCard : Claim7 := { stood := { row := planUsesRow, standIns := [], harness := (true, "e0ca822a2d11107d4606b2e0687f33e6454f51241f7296c95e987ae926de098d"), looks := false }, kinds := [], alts := [], laidByText := true, laidKinds := [.data], laidTests := true, laidLooks := .later }
def PlanUsesCardSaid : Prop := Claim7.holds Tryd.pinned (.plain (OpenSpec.ofChange planUsesSpec)) planUsesCard

/-- THE TIED CARD OF 'wayfarerlaw12.PlanJoins'. -/
def planJoinsCard : Claim7 := { stood := { row := planJoinsRow, standIns := [], harness := (true, "e0ca822a2d11107d4606b2e0687f33e6454f51241f7296c95e987ae926de098d"), looks := false }, kinds := [], alts := [], laidByText := true, laidKinds := [.data], laidTests := true, laidLooks := .later }
def PlanJoinsCardSaid : Prop := Claim7.holds Tryd.pinned (.plain (OpenSpec.ofChange planJoinsSpec)) planJoinsCard

/-- THE TIED CARD OF 'wayfarerlaw12.PlanHurt'. -/
def planHurtCard : Claim7 := { stood := { row := planHurtRow, standIns := [], harness := (true, "e0ca822a2d11107d4606b2e0687f33e6454f51241f7296c95e987ae926de098d"), looks := false }, kinds := [], alts := [], laidByText := true, laidKinds := [.data], laidTests := true, laidLooks := .later }
def PlanHurtCardSaid : Prop := Claim7.holds Tryd.pinned (.plain (OpenSpec.ofChange planHurtSpec)) planHurtCard

/-- THE TIED CARD OF 'wayfarerlaw12.PlanBy'. -/
def planByCard : Claim7 := { stood := { row := planByRow, standIns := [], harness := (true, "e0ca822a2d11107d4606b2e0687f33e6454f51241f7296c95e987ae926de098d"), looks := false }, kinds := [], alts := [], laidByText := true, laidKinds := [.data], laidTests := true, laidLooks := .later }
def PlanByCardSaid : Prop := Claim7.holds Tryd.pinned (.plain (OpenSpec.ofChange planBySpec)) planByCard

/-- THE SECOND FORM's CARD OF 'wayfarerlaw12.PlanUses'. -/
def planUsesUptoCard : Claim7 := { stood := { row := planUsesUptoRow, standIns := [], harness := (true, "e0ca822a2d11107d4606b2e0687f33e6454f51241f7296c95e987ae926de098d"), looks := false }, kinds := [], alts := [], laidByText := true, laidKinds := [.data], laidTests := true, laidLooks := .later }
def PlanUsesUptoCardSaid : Prop := Claim7.holds Tryd.pinned (.plain (OpenSpec.upto planUsesSpec)) planUsesUptoCard

/-- THE SECOND FORM's CARD OF 'wayfarerlaw12.PlanJoins'. -/
def planJoinsUptoCard : Claim7 := { stood := { row := planJoinsUptoRow, standIns := [], harness := (true, "e0ca822a2d11107d4606b2e0687f33e6454f51241f7296c95e987ae926de098d"), looks := false }, kinds := [], alts := [], laidByText := true, laidKinds := [.data], laidTests := true, laidLooks := .later }
def PlanJoinsUptoCardSaid : Prop := Claim7.holds Tryd.pinned (.plain (OpenSpec.upto planJoinsSpec)) planJoinsUptoCard

/-- THE SECOND FORM's CARD OF 'wayfarerlaw12.PlanHurt'. -/
def planHurtUptoCard : Claim7 := { stood := { row := planHurtUptoRow, standIns := [], harness := (true, "e0ca822a2d11107d4606b2e0687f33e6454f51241f7296c95e987ae926de098d"), looks := false }, kinds := [], alts := [], laidByText := true, laidKinds := [.data], laidTests := true, laidLooks := .later }
def PlanHurtUptoCardSaid : Prop := Claim7.holds Tryd.pinned (.plain (OpenSpec.upto planHurtSpec)) planHurtUptoCard

/-- THE SECOND FORM's CARD OF 'wayfarerlaw12.PlanBy'. -/
def planByUptoCard : Claim7 := { stood := { row := planByUptoRow, standIns := [], harness := (true, "e0ca822a2d11107d4606b2e0687f33e6454f51241f7296c95e987ae926de098d"), looks := false }, kinds := [], alts := [], laidByText := true, laidKinds := [.data], laidTests := true, laidLooks := .later }
def PlanByUptoCardSaid : Prop := Claim7.holds Tryd.pinned (.plain (OpenSpec.upto planBySpec)) planByUptoCard
end Rows
end Go.Proofs.YtgkfjhfehdefaaaDoor
