/- The statement 'TidyTight' of the seat, for every input: the call returns true and each argument reads as it did. -/
import Derived.Test.YtncipmjchifcgaaRows
import Derived.Test.YtncipmjchifcgaaTa7
import Derived.Test.YtncipmjchifcgaaQm3
import Derived.ProofKit
set_option linter.unusedSimpArgs false
namespace Go.Proofs.Ytncipmjchifcgaa.tidyTight
open Go.Vam Go.Qm Go.RowKit Go.Proofs.Ytncipmjchifcgaa
set_option linter.unusedVariables false
theorem own : ownKnob Try.prog.godebug = none := by kernel_rfl
theorem laidOut : laidOutB Try.prog = true := by kernel_rfl
theorem sh22 : shOf Try.prog 6 22 = some ([.sl 96 primSh]) := by kernel_rfl
theorem da22 : (Try.prog.underlying 22).map descA = some false := by kernel_rfl
set_option maxRecDepth 100000 in
theorem lifted (os : Os) (started : os.Started) (H : Type) (enc : TypeId × Value → H) :
    ReturnsInHanded {} Try.checked os 5 .any (Rows.tidyTightSpec.pre6 enc Try.prog Try.f5 Rows.tidyTightRow.domain false) (Rows.tidyTightSpec.post enc Try.prog Try.f5 false true false false) := by
  refine law_lifted (C := Try.checked) own laidOut started (by kernel_rfl) Try.func5
    (ChangeSpec.witness6 (enc := enc) (C := Try.checked) false ⟨#[], #[.slice none 0 0], []⟩ 8 (by kernel_rfl) (by kernel_rfl) (by kernel_rfl) (by kernel_rfl))
    6 [22] 4 rfl rfl (by kernel_rfl) (by kernel_rfl) (by kernel_rfl) rfl ?_ ?_
  · intro ds h
    match ds, h with
    | [d0], _ => rfl
  · intro l h
    obtain ⟨x0, l0, rfl, b00, b01, h⟩ := arg_prims sh22 da22 h
    obtain rfl := arg_end h
    exact law_TidyTight x0 b00 b01
theorem over : Rows.tidyTightRow.holds Try.pinned (OpenSpec.ofChange Rows.tidyTightSpec) :=
  OpenClaim.holds_of_wide 5 Try.f5 rfl rfl rfl rfl rfl rfl rfl ⟨rfl, rfl, rfl, rfl, rfl⟩ rfl rfl rfl rfl rfl (by kernel_rfl) Try.func5 (by kernel_rfl)
    (of_decide_eq_true (by kernel_rfl)) (by unfold Func.isWrapper; first | (rw [if_pos (by decide +kernel)]; kernel_rfl) | (rw [if_neg (by decide +kernel)]; exact ⟨rfl, rfl⟩))
    (fun os started H enc _ => lifted os started H enc)
end Go.Proofs.Ytncipmjchifcgaa.tidyTight
namespace Go.Proofs.Ytncipmjchifcgaa
/-- The statement. -/
theorem tidyTight_holds : Rows.TidyTightSaid := tidyTight.over
#print axioms tidyTight_holds
end Go.Proofs.Ytncipmjchifcgaa
