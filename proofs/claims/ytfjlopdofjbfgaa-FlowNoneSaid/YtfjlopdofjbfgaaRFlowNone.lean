/- The statement 'FlowNone' of the seat, for every input: the call returns true and each argument reads as it did. -/
import Derived.Test.YtfjlopdofjbfgaaRows
import Derived.Test.YtfjlopdofjbfgaaTg2
import Derived.Test.YtfjlopdofjbfgaaG10
import Derived.ProofKit
set_option linter.unusedSimpArgs false
namespace Go.Proofs.Ytfjlopdofjbfgaa.flowNone
open Go.Vam Go.Qm Go.RowKit Go.Proofs.Ytfjlopdofjbfgaa
set_option linter.unusedVariables false
theorem own : ownKnob Try.prog.godebug = none := by kernel_rfl
theorem laidOut : laidOutB Try.prog = true := by kernel_rfl
theorem sh22 : shOf Try.prog 9 22 = some ([.sl 96 primSh]) := by kernel_rfl
theorem da22 : (Try.prog.underlying 22).map descA = some false := by kernel_rfl
set_option maxRecDepth 100000 in
theorem lifted (os : Os) (started : os.Started) (H : Type) (enc : TypeId × Value → H) :
    ReturnsInHanded {} Try.checked os 5 .any (Rows.flowNoneSpec.pre6 enc Try.prog Try.f5 Rows.flowNoneRow.domain false) (Rows.flowNoneSpec.post enc Try.prog Try.f5 false true false false) := by
  refine law_lifted (C := Try.checked) own laidOut started (by kernel_rfl) Try.func5
    (ChangeSpec.witness6 (enc := enc) (C := Try.checked) false ⟨#[], #[.slice none 0 0, .slice none 0 0], []⟩ 8 (by kernel_rfl) (by kernel_rfl) (by kernel_rfl) (by kernel_rfl))
    9 [22, 22] 4 rfl rfl (by kernel_rfl) (by kernel_rfl) (by kernel_rfl) rfl ?_ ?_
  · intro ds h
    match ds, h with
    | [d0, d1], _ => rfl
  · intro l h
    obtain ⟨x0, l0, rfl, b00, b01, h⟩ := arg_prims sh22 da22 h
    obtain ⟨x1, l1, rfl, b10, b11, h⟩ := arg_prims sh22 da22 h
    obtain rfl := arg_end h
    exact law_FlowNone x0 b00 b01 x1 b10 b11
theorem over : Rows.flowNoneRow.holds Try.pinned (OpenSpec.ofChange Rows.flowNoneSpec) :=
  OpenClaim.holds_of_wide 5 Try.f5 rfl rfl rfl rfl rfl rfl rfl ⟨rfl, rfl, rfl, rfl, rfl⟩ rfl rfl rfl rfl rfl (by kernel_rfl) Try.func5 (by kernel_rfl)
    (of_decide_eq_true (by kernel_rfl)) (by unfold Func.isWrapper; first | (rw [if_pos (by decide +kernel)]; kernel_rfl) | (rw [if_neg (by decide +kernel)]; exact ⟨rfl, rfl⟩))
    (fun os started H enc _ => lifted os started H enc)
end Go.Proofs.Ytfjlopdofjbfgaa.flowNone
namespace Go.Proofs.Ytfjlopdofjbfgaa
/-- The statement. -/
theorem flowNone_holds : Rows.FlowNoneSaid := flowNone.over
#print axioms flowNone_holds
end Go.Proofs.Ytfjlopdofjbfgaa
