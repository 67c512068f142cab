/- Lists of changes: tidied. -/
import Derived.Test.YtfjlopdofjbfgaaGreatTa4
namespace Go.Proofs.YtfjlopdofjbfgaaGreat
open Go.Vam Go.Qm
set_option linter.unusedVariables false
set_option linter.unusedSimpArgs false
set_option maxRecDepth 8000

end Go.Proofs.YtfjlopdofjbfgaaGreat
