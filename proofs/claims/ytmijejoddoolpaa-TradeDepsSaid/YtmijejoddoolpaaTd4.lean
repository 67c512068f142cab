/- Changes that pass one another: the document's answer. -/
import Derived.Test.YtmijejoddoolpaaTd3
namespace Go.Proofs.Ytmijejoddoolpaa
open Go.Vam Go.Qm
set_option linter.unusedVariables false
set_option linter.unusedSimpArgs false
set_option maxRecDepth 8000
set_option maxHeartbeats 2000000

end Go.Proofs.Ytmijejoddoolpaa
