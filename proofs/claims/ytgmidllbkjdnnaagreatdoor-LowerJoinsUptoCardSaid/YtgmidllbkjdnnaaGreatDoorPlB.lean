/- Does a plan use any of some? -/
import Derived.Test.YtgmidllbkjdnnaaGreatDoorPlA
namespace Go.Proofs.YtgmidllbkjdnnaaGreatDoor.W
open Go.Proofs.YtgmidllbkjdnnaaGreatDoor.Flat
set_option linter.unusedVariables false
set_option linter.unusedSimpArgs false
end Go.Proofs.YtgmidllbkjdnnaaGreatDoor.W
