/- Changes that pass one another: the document's answer. -/
import Derived.Test.YtfjlopdofjbfgaaTd3
namespace Go.Proofs.Ytfjlopdofjbfgaa
open Go.Vam Go.Qm
set_option linter.unusedVariables false
set_option linter.unusedSimpArgs false
set_option maxRecDepth 8000
set_option maxHeartbeats 2000000

end Go.Proofs.Ytfjlopdofjbfgaa
