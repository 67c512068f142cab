/- Lists of changes: tidied. -/
import Derived.Test.YtmijejoddoolpaaGreatTa4
namespace Go.Proofs.YtmijejoddoolpaaGreat
open Go.Vam Go.Qm
set_option linter.unusedVariables false
set_option linter.unusedSimpArgs false
set_option maxRecDepth 8000

end Go.Proofs.YtmijejoddoolpaaGreat
