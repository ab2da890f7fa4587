/- Does a plan use any of some? -/
import Derived.Test.YtgmidllbkjdnnaaDoorPlA
namespace Go.Proofs.YtgmidllbkjdnnaaDoor.W
open Go.Proofs.YtgmidllbkjdnnaaDoor.Flat
set_option linter.unusedVariables false
set_option linter.unusedSimpArgs false
end Go.Proofs.YtgmidllbkjdnnaaDoor.W
