/- The statement 'PatchFind' of the seat, for every input: the call returns true and each argument reads as it did. -/
import Derived.Test.YtmijejoddoolpaaRows
import Derived.Test.YtmijejoddoolpaaTf3
import Derived.Test.YtmijejoddoolpaaG10
import Derived.ProofKit
set_option linter.unusedSimpArgs false
namespace Go.Proofs.Ytmijejoddoolpaa.patchFind
open Go.Vam Go.Qm Go.RowKit Go.Proofs.Ytmijejoddoolpaa
set_option linter.unusedVariables false
theorem own : ownKnob Try.prog.godebug = none := by kernel_rfl
theorem laidOut : laidOutB Try.prog = true := by kernel_rfl
theorem sh23 : shOf Try.prog 9 23 = some idSh := by kernel_rfl
theorem da23 : (Try.prog.underlying 23).map descA = some true := by kernel_rfl
theorem sh35 : shOf Try.prog 9 35 = some ([.sl 80 namedSh]) := by kernel_rfl
theorem da35 : (Try.prog.underlying 35).map descA = some false := by kernel_rfl
set_option maxRecDepth 100000 in
theorem lifted (os : Os) (started : os.Started) (H : Type) (enc : TypeId × Value → H) :
    ReturnsInHanded {} Try.checked os 6 .any (Rows.patchFindSpec.pre6 enc Try.prog Try.f6 Rows.patchFindRow.domain false) (Rows.patchFindSpec.post enc Try.prog Try.f6 false true false false) := by
  refine law_lifted (C := Try.checked) own laidOut started (by kernel_rfl) Try.func6
    (ChangeSpec.witness6 (enc := enc) (C := Try.checked) false ⟨#[], #[.slice none 0 0, .slice none 0 0, .agg #[.int .i64 0, .int .i64 0]], []⟩ 8 (by kernel_rfl) (by kernel_rfl) (by kernel_rfl) (by kernel_rfl))
    9 [35, 35, 23] 4 rfl rfl (by kernel_rfl) (by kernel_rfl) (by kernel_rfl) rfl ?_ ?_
  · intro ds h
    match ds, h with
    | [d0, d1, d2], _ => rfl
  · intro l h
    obtain ⟨x0, l0, rfl, b00, b01, h⟩ := arg_nameds sh35 da35 h
    obtain ⟨x1, l1, rfl, b10, b11, h⟩ := arg_nameds sh35 da35 h
    obtain ⟨x2, l2, rfl, b20, h⟩ := arg_id sh23 da23 h
    obtain rfl := arg_end h
    exact law_PatchFind x0 b00 b01 x1 b10 b11 x2 b20
theorem over : Rows.patchFindRow.holds Try.pinned (OpenSpec.ofChange Rows.patchFindSpec) :=
  OpenClaim.holds_of_wide 6 Try.f6 rfl rfl rfl rfl rfl rfl rfl ⟨rfl, rfl, rfl, rfl, rfl⟩ rfl rfl rfl rfl rfl (by kernel_rfl) Try.func6 (by kernel_rfl)
    (of_decide_eq_true (by kernel_rfl)) (by unfold Func.isWrapper; first | (rw [if_pos (by decide +kernel)]; kernel_rfl) | (rw [if_neg (by decide +kernel)]; exact ⟨rfl, rfl⟩))
    (fun os started H enc _ => lifted os started H enc)
end Go.Proofs.Ytmijejoddoolpaa.patchFind
namespace Go.Proofs.Ytmijejoddoolpaa
/-- The statement. -/
theorem patchFind_holds : Rows.PatchFindSaid := patchFind.over
#print axioms patchFind_holds
end Go.Proofs.Ytmijejoddoolpaa
