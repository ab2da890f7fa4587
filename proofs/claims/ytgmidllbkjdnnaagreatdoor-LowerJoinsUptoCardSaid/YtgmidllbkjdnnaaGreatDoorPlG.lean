/- Does anything hang on trails? Are two plans the same? -/
import Derived.Test.YtgmidllbkjdnnaaGreatDoorPlQ
namespace Go.Proofs.YtgmidllbkjdnnaaGreatDoor.W
open Go.Proofs.YtgmidllbkjdnnaaGreatDoor.Flat
set_option linter.unusedVariables false
set_option linter.unusedSimpArgs false
theorem zqu (a b:List GStep):wL (a++b)=wL a+wL b:=by unfold wL;rw[List.map_append,zny]
end Go.Proofs.YtgmidllbkjdnnaaGreatDoor.W
