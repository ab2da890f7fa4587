/- The reference's Uses. -/
import Derived.Test.YtgmidllbkjdnnaaGreatDoorPlW
namespace Go.Proofs.YtgmidllbkjdnnaaGreatDoor.W
open Go.Proofs.YtgmidllbkjdnnaaGreatDoor.Flat
set_option linter.unusedVariables false
set_option linter.unusedSimpArgs false
end Go.Proofs.YtgmidllbkjdnnaaGreatDoor.W
