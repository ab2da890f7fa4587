/-
  DERIVED. GIVEN WITH THE SEED: THE CARDS: each row of YtgmidllbkjdnnaaDoorRows.lean that lists a variable, with what it lists TIED to the program's text (the seventh form; the later family's looks); each row that meets fmt, with fmt's text TOLD by the authors' own Lean function (tested against real Go, not proved from fmt's source: count such statements apart). THE CARD IS WHAT COUNTS. Prove the row's statement (the work); the ties are given (YtgmidllbkjdnnaaDoorTie.lean); close each card by the builder's one call (the guide's Derived/Test/ToyasCard.lean, 'card_holds'). Laid BY PROGRAM, IN A SANDBOX (cutbox-door.mjs). By AI agents, Wed Nov 11 2026. No macro, syntax, notation, axiom, sorry.
-/
import Derived.Test.YtgmidllbkjdnnaaDoorRows
import GoSem.ClaimSeven
namespace Go.Proofs.YtgmidllbkjdnnaaDoor
namespace Rows

/-- THE TIED CARD OF 'wayfarerlaw21.LowerSame'. -/
def lowerSameCard : Claim7 := { stood := { row := lowerSameRow, standIns := [], harness := (true, "69a411f2658a4e759222f996f6a9013375e1af60915595b81dd40a6586661fef"), looks := false }, kinds := [], alts := [], laidByText := true, laidKinds := [.data], laidTests := true, laidLooks := .later }
def LowerSameCardSaid : Prop := Claim7.holds Tryd.pinned (.plain (OpenSpec.ofChange lowerSameSpec)) lowerSameCard

/-- THE TIED CARD OF 'wayfarerlaw21.LowerWhole'. -/
def lowerWholeCard : Claim7 := { stood := { row := lowerWholeRow, standIns := [], harness := (true, "69a411f2658a4e759222f996f6a9013375e1af60915595b81dd40a6586661fef"), looks := false }, kinds := [], alts := [], laidByText := true, laidKinds := [.data], laidTests := true, laidLooks := .later }
def LowerWholeCardSaid : Prop := Claim7.holds Tryd.pinned (.plain (OpenSpec.ofChange lowerWholeSpec)) lowerWholeCard

/-- THE TIED CARD OF 'wayfarerlaw21.LowerHurt'. -/
def lowerHurtCard : Claim7 := { stood := { row := lowerHurtRow, standIns := [], harness := (true, "69a411f2658a4e759222f996f6a9013375e1af60915595b81dd40a6586661fef"), looks := false }, kinds := [], alts := [], laidByText := true, laidKinds := [.data], laidTests := true, laidLooks := .later }
def LowerHurtCardSaid : Prop := Claim7.holds Tryd.pinned (.plain (OpenSpec.ofChange lowerHurtSpec)) lowerHurtCard

/-- THE SECOND FORM's CARD OF 'wayfarerlaw21.LowerSame'. -/
def lowerSameUptoCard : Claim7 := { stood := { row := lowerSameUptoRow, standIns := [], harness := (true, "69a411f2658a4e759222f996f6a9013375e1af60915595b81dd40a6586661fef"), looks := false }, kinds := [], alts := [], laidByText := true, laidKinds := [.data], laidTests := true, laidLooks := .later }
def LowerSameUptoCardSaid : Prop := Claim7.holds Tryd.pinned (.plain (OpenSpec.upto lowerSameSpec)) lowerSameUptoCard

/-- THE SECOND FORM's CARD OF 'wayfarerlaw21.LowerWhole'. -/
def lowerWholeUptoCard : Claim7 := { stood := { row := lowerWholeUptoRow, standIns := [], harness := (true, "69a411f2658a4e759222f996f6a9013375e1af60915595b81dd40a6586661fef"), looks := false }, kinds := [], alts := [], laidByText := true, laidKinds := [.data], laidTests := true, laidLooks := .later }
def LowerWholeUptoCardSaid : Prop := Claim7.holds Tryd.pinned (.plain (OpenSpec.upto lowerWholeSpec)) lowerWholeUptoCard

/-- THE SECOND FORM's CARD OF 'wayfarerlaw21.LowerHurt'. -/
def lowerHurtUptoCard : Claim7 := { stood := { row := lowerHurtUptoRow, standIns := [], harness := (true, "69a411f2658a4e759222f996f6a9013375e1af60915595b81dd40a6586661fef"), looks := false }, kinds := [], alts := [], laidByText := true, laidKinds := [.data], laidTests := true, laidLooks := .later }
def LowerHurtUptoCardSaid : Prop := Claim7.holds Tryd.pinned (.plain (OpenSpec.upto lowerHurtSpec)) lowerHurtUptoCard
end Rows
end Go.Proofs.YtgmidllbkjdnnaaDoor
