/- Hunks and changes that pass one another: the document's way. -/
import Derived.Test.YtmijejoddoolpaaTd2
import Derived.Test.YtmijejoddoolpaaTc3
namespace Go.Proofs.Ytmijejoddoolpaa
open Go.Vam Go.Qm
set_option linter.unusedVariables false
set_option linter.unusedSimpArgs false
set_option maxRecDepth 8000
set_option maxHeartbeats 2000000

end Go.Proofs.Ytmijejoddoolpaa
