/- The statement 'MergeTells' of the seat, for every input: the call returns true and each argument reads as it did. -/
import Derived.Test.YtmfbcgheffdghaaGreatRows
import Derived.Test.YtmfbcgheffdghaaGreatS18
import Derived.Test.YtmfbcgheffdghaaGreatG11
import Derived.ProofKit
set_option linter.unusedSimpArgs false
namespace Go.Proofs.YtmfbcgheffdghaaGreat.mergeTells
open Go.Vam Go.Qm Go.RowKit Go.Proofs.YtmfbcgheffdghaaGreat
set_option linter.unusedVariables false
theorem own : ownKnob Tryz.prog.godebug = none := by kernel_rfl
theorem laidOut : laidOutB Tryz.prog = true := by kernel_rfl
theorem sh22 : shOf Tryz.prog 9 22 = some ([.sl 80 namedSh]) := by kernel_rfl
theorem da22 : (Tryz.prog.underlying 22).map descA = some false := by kernel_rfl
set_option maxRecDepth 100000 in
theorem lifted (os : Os) (started : os.Started) (H : Type) (enc : TypeId × Value → H) :
    ReturnsInHanded {} Tryz.checked os 5 .any (Rows.mergeTellsSpec.pre6 enc Tryz.prog Tryz.f5 Rows.mergeTellsRow.domain false) (Rows.mergeTellsSpec.post enc Tryz.prog Tryz.f5 false true false false) := by
  refine law_lifted (C := Tryz.checked) own laidOut started (by kernel_rfl) Tryz.func5
    (ChangeSpec.witness6 (enc := enc) (C := Tryz.checked) false ⟨#[], #[.slice none 0 0, .slice none 0 0], []⟩ 8 (by kernel_rfl) (by kernel_rfl) (by kernel_rfl) (by kernel_rfl))
    9 [22, 22] 4 rfl rfl (by kernel_rfl) (by kernel_rfl) (by kernel_rfl) rfl ?_ ?_
  · intro ds h
    match ds, h with
    | [d0, d1], _ => rfl
  · intro l h
    obtain ⟨x0, l0, rfl, b00, b01, h⟩ := arg_nameds sh22 da22 h
    obtain ⟨x1, l1, rfl, b10, b11, h⟩ := arg_nameds sh22 da22 h
    obtain rfl := arg_end h
    exact law_MergeTells x0 b00 b01 x1 b10 b11
theorem over : Rows.mergeTellsRow.holds Tryz.pinned (OpenSpec.ofChange Rows.mergeTellsSpec) :=
  OpenClaim.holds_of_wide 5 Tryz.f5 rfl rfl rfl rfl rfl rfl rfl ⟨rfl, rfl, rfl, rfl, rfl⟩ rfl rfl rfl rfl rfl (by kernel_rfl) Tryz.func5 (by kernel_rfl)
    (of_decide_eq_true (by kernel_rfl)) (by unfold Func.isWrapper; first | (rw [if_pos (by decide +kernel)]; kernel_rfl) | (rw [if_neg (by decide +kernel)]; exact ⟨rfl, rfl⟩))
    (fun os started H enc _ => lifted os started H enc)
end Go.Proofs.YtmfbcgheffdghaaGreat.mergeTells
namespace Go.Proofs.YtmfbcgheffdghaaGreat
/-- The statement. -/
theorem mergeTells_holds : Rows.MergeTellsSaid := mergeTells.over
#print axioms mergeTells_holds
end Go.Proofs.YtmfbcgheffdghaaGreat
