/- The statement 'FlowSteps' of the seat, for every input: the call returns true and each argument reads as it did. -/
import Derived.Test.YtfjlopdofjbfgaaRows
import Derived.Test.YtfjlopdofjbfgaaTg3
import Derived.Test.YtfjlopdofjbfgaaG10
import Derived.ProofKit
set_option linter.unusedSimpArgs false
namespace Go.Proofs.Ytfjlopdofjbfgaa.flowSteps
open Go.Vam Go.Qm Go.RowKit Go.Proofs.Ytfjlopdofjbfgaa
set_option linter.unusedVariables false
theorem own : ownKnob Try.prog.godebug = none := by kernel_rfl
theorem laidOut : laidOutB Try.prog = true := by kernel_rfl
theorem sh22 : shOf Try.prog 9 22 = some ([.sl 96 primSh]) := by kernel_rfl
theorem da22 : (Try.prog.underlying 22).map descA = some false := by kernel_rfl
theorem sh30 : shOf Try.prog 9 30 = some ([.sl 40 fileSh]) := by kernel_rfl
theorem da30 : (Try.prog.underlying 30).map descA = some false := by kernel_rfl
set_option maxRecDepth 100000 in
theorem lifted (os : Os) (started : os.Started) (H : Type) (enc : TypeId × Value → H) :
    ReturnsInHanded {} Try.checked os 6 .any (Rows.flowStepsSpec.pre6 enc Try.prog Try.f6 Rows.flowStepsRow.domain false) (Rows.flowStepsSpec.post enc Try.prog Try.f6 false true false false) := by
  refine law_lifted (C := Try.checked) own laidOut started (by kernel_rfl) Try.func6
    (ChangeSpec.witness6 (enc := enc) (C := Try.checked) false ⟨#[], #[.slice none 0 0, .slice none 0 0], []⟩ 8 (by kernel_rfl) (by kernel_rfl) (by kernel_rfl) (by kernel_rfl))
    9 [30, 22] 4 rfl rfl (by kernel_rfl) (by kernel_rfl) (by kernel_rfl) rfl ?_ ?_
  · intro ds h
    match ds, h with
    | [d0, d1], _ => rfl
  · intro l h
    obtain ⟨x0, l0, rfl, b00, h⟩ := arg_tree sh30 da30 h
    obtain ⟨x1, l1, rfl, b10, b11, h⟩ := arg_prims sh22 da22 h
    obtain rfl := arg_end h
    exact law_FlowSteps x0 b00 x1 b10 b11
theorem over : Rows.flowStepsRow.holds Try.pinned (OpenSpec.ofChange Rows.flowStepsSpec) :=
  OpenClaim.holds_of_wide 6 Try.f6 rfl rfl rfl rfl rfl rfl rfl ⟨rfl, rfl, rfl, rfl, rfl⟩ rfl rfl rfl rfl rfl (by kernel_rfl) Try.func6 (by kernel_rfl)
    (of_decide_eq_true (by kernel_rfl)) (by unfold Func.isWrapper; first | (rw [if_pos (by decide +kernel)]; kernel_rfl) | (rw [if_neg (by decide +kernel)]; exact ⟨rfl, rfl⟩))
    (fun os started H enc _ => lifted os started H enc)
end Go.Proofs.Ytfjlopdofjbfgaa.flowSteps
namespace Go.Proofs.Ytfjlopdofjbfgaa
/-- The statement. -/
theorem flowSteps_holds : Rows.FlowStepsSaid := flowSteps.over
#print axioms flowSteps_holds
end Go.Proofs.Ytfjlopdofjbfgaa
