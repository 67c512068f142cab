/- The statement 'FlowTells' of the seat, for every input: the call returns true and each argument reads as it did. -/
import Derived.Test.YtfjlopdofjbfgaaGreatRows
import Derived.Test.YtfjlopdofjbfgaaGreatTg4
import Derived.Test.YtfjlopdofjbfgaaGreatG10
import Derived.ProofKit
set_option linter.unusedSimpArgs false
namespace Go.Proofs.YtfjlopdofjbfgaaGreat.flowTells
open Go.Vam Go.Qm Go.RowKit Go.Proofs.YtfjlopdofjbfgaaGreat
set_option linter.unusedVariables false
theorem own : ownKnob Tryz.prog.godebug = none := by kernel_rfl
theorem laidOut : laidOutB Tryz.prog = true := by kernel_rfl
theorem sh23 : shOf Tryz.prog 9 23 = some ([.sl 40 fileSh]) := by kernel_rfl
theorem da23 : (Tryz.prog.underlying 23).map descA = some false := by kernel_rfl
theorem sh24 : shOf Tryz.prog 9 24 = some ([.sl 96 primSh]) := by kernel_rfl
theorem da24 : (Tryz.prog.underlying 24).map descA = some false := by kernel_rfl
set_option maxRecDepth 100000 in
theorem lifted (os : Os) (started : os.Started) (H : Type) (enc : TypeId × Value → H) :
    ReturnsInHanded {} Tryz.checked os 3 .any (Rows.flowTellsSpec.pre6 enc Tryz.prog Tryz.f3 Rows.flowTellsRow.domain false) (Rows.flowTellsSpec.post enc Tryz.prog Tryz.f3 false true false false) := by
  refine law_lifted (C := Tryz.checked) own laidOut started (by kernel_rfl) Tryz.func3
    (ChangeSpec.witness6 (enc := enc) (C := Tryz.checked) false ⟨#[], #[.slice none 0 0, .slice none 0 0, .slice none 0 0], []⟩ 8 (by kernel_rfl) (by kernel_rfl) (by kernel_rfl) (by kernel_rfl))
    9 [23, 24, 24] 4 rfl rfl (by kernel_rfl) (by kernel_rfl) (by kernel_rfl) rfl ?_ ?_
  · intro ds h
    match ds, h with
    | [d0, d1, d2], _ => rfl
  · intro l h
    obtain ⟨x0, l0, rfl, b00, h⟩ := arg_tree sh23 da23 h
    obtain ⟨x1, l1, rfl, b10, b11, h⟩ := arg_prims sh24 da24 h
    obtain ⟨x2, l2, rfl, b20, b21, h⟩ := arg_prims sh24 da24 h
    obtain rfl := arg_end h
    exact law_FlowTells x0 b00 x1 b10 b11 x2 b20 b21
theorem over : Rows.flowTellsRow.holds Tryz.pinned (OpenSpec.ofChange Rows.flowTellsSpec) :=
  OpenClaim.holds_of_wide 3 Tryz.f3 rfl rfl rfl rfl rfl rfl rfl ⟨rfl, rfl, rfl, rfl, rfl⟩ rfl rfl rfl rfl rfl (by kernel_rfl) Tryz.func3 (by kernel_rfl)
    (of_decide_eq_true (by kernel_rfl)) (by unfold Func.isWrapper; first | (rw [if_pos (by decide +kernel)]; kernel_rfl) | (rw [if_neg (by decide +kernel)]; exact ⟨rfl, rfl⟩))
    (fun os started H enc _ => lifted os started H enc)
end Go.Proofs.YtfjlopdofjbfgaaGreat.flowTells
namespace Go.Proofs.YtfjlopdofjbfgaaGreat
/-- The statement. -/
theorem flowTells_holds : Rows.FlowTellsSaid := flowTells.over
#print axioms flowTells_holds
end Go.Proofs.YtfjlopdofjbfgaaGreat
