/- The document's Tidy; Tight; the statements of layer 11. -/
import Derived.Test.YtfjlopdofjbfgaaGreatTa5
import Derived.Test.YtfjlopdofjbfgaaGreatG10
namespace Go.Proofs.YtfjlopdofjbfgaaGreat
open Go.Vam Go.Qm
set_option linter.unusedVariables false
set_option linter.unusedSimpArgs false
set_option maxRecDepth 8000

def aw11 : List Prim := [⟨0, ⟨#[97]⟩, ⟨#[]⟩, ⟨0, [], []⟩⟩, ⟨0, ⟨#[98]⟩, ⟨#[]⟩, ⟨0, [], []⟩⟩, ⟨1, ⟨#[98]⟩, ⟨#[]⟩, ⟨0, [], []⟩⟩, ⟨1, ⟨#[97]⟩, ⟨#[]⟩, ⟨0, [], []⟩⟩]
theorem aw11_B : ∀ p ∈ aw11, primB p := by
  intro p hp
  simp only [aw11, List.mem_cons, List.not_mem_nil, or_false] at hp
  rcases hp with rfl | rfl | rfl | rfl <;> exact ⟨by simp, by simp⟩
theorem aw11_len : aw11.length * 96 ≤ 140737488355328 := by simp [aw11]
theorem aw11_tidy : tidyL aw11 = [] ∧ (tidyL (aw11.take 1)).length = 1 ∧ (tidyL (aw11.take 2)).length = 2 := by decide +kernel
end Go.Proofs.YtfjlopdofjbfgaaGreat
