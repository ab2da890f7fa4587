/- Rows looked through. -/
import Derived.Test.YtgkfjhfehdefaaaGreatDoorPvC
namespace Go.Proofs.YtgkfjhfehdefaaaGreatDoor.W
open Go.Proofs.YtgkfjhfehdefaaaGreatDoor.Flat
set_option linter.unusedVariables false
set_option linter.unusedSimpArgs false
end Go.Proofs.YtgkfjhfehdefaaaGreatDoor.W
