/- Changes: the document's answer; the law's first steps. -/
import Derived.Test.YtfjlopdofjbfgaaTc2
import Derived.Test.YtfjlopdofjbfgaaTb5
namespace Go.Proofs.Ytfjlopdofjbfgaa
open Go.Vam Go.Qm
set_option linter.unusedVariables false
set_option linter.unusedSimpArgs false
set_option maxRecDepth 8000

def aw8p : Prim := ⟨0, ⟨#[97]⟩, ⟨#[]⟩, ⟨0, [], []⟩⟩
def aw8q : Prim := ⟨3, ⟨#[97]⟩, ⟨#[]⟩, ⟨0, [], [⟨#[120]⟩]⟩⟩
theorem aw8a : applyP [] aw8p = ([⟨⟨#[97]⟩, []⟩], 0) := by kernel_rfl
theorem aw8b : applyP [⟨⟨#[97]⟩, []⟩] aw8q = ([⟨⟨#[97]⟩, [⟨#[120]⟩]⟩], 0) := by kernel_rfl
end Go.Proofs.Ytfjlopdofjbfgaa
