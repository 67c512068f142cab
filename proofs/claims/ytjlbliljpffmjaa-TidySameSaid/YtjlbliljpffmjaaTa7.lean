/- The statements of layer 11. -/
import Derived.Test.YtjlbliljpffmjaaTa6
namespace Go.Proofs.Ytjlbliljpffmjaa
open Go.Vam Go.Qm
set_option linter.unusedVariables false
set_option linter.unusedSimpArgs false
set_option maxRecDepth 8000

theorem turnL_B {l : List Prim} (hB : ∀ p ∈ l, primB p) : ∀ p ∈ turnL l, primB p := by
  intro p hp
  obtain ⟨q, hq, rfl⟩ := List.mem_map.1 hp
  exact turnP_B (hB q (by simpa using hq))
end Go.Proofs.Ytjlbliljpffmjaa
