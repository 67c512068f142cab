/- The statement 'PassNever' of the seat, for every input: the call returns true and each argument reads as it did. -/
import Derived.Test.YtjlbliljpffmjaaRows
import Derived.Test.YtjlbliljpffmjaaTd6
import Derived.Test.YtjlbliljpffmjaaG9
import Derived.ProofKit
set_option linter.unusedSimpArgs false
namespace Go.Proofs.Ytjlbliljpffmjaa.passNever
open Go.Vam Go.Qm Go.RowKit Go.Proofs.Ytjlbliljpffmjaa
set_option linter.unusedVariables false
theorem own : ownKnob Try.prog.godebug = none := by kernel_rfl
theorem laidOut : laidOutB Try.prog = true := by kernel_rfl
theorem sh26 : shOf Try.prog 6 26 = some primSh := by kernel_rfl
theorem da26 : (Try.prog.underlying 26).map descA = some true := by kernel_rfl
set_option maxRecDepth 100000 in
theorem lifted (os : Os) (started : os.Started) (H : Type) (enc : TypeId × Value → H) :
    ReturnsInHanded {} Try.checked os 4 .any (Rows.passNeverSpec.pre6 enc Try.prog Try.f4 Rows.passNeverRow.domain false) (Rows.passNeverSpec.post enc Try.prog Try.f4 false true false false) := by
  refine law_lifted (C := Try.checked) own laidOut started (by kernel_rfl) Try.func4
    (ChangeSpec.witness6 (enc := enc) (C := Try.checked) false ⟨#[], #[.agg #[.int .i64 0, .string ByteArray.empty, .string ByteArray.empty, .int .i64 0, .slice none 0 0, .slice none 0 0], .agg #[.int .i64 0, .string ByteArray.empty, .string ByteArray.empty, .int .i64 0, .slice none 0 0, .slice none 0 0]], []⟩ 8 (by kernel_rfl) (by kernel_rfl) (by kernel_rfl) (by kernel_rfl))
    6 [26, 26] 4 rfl rfl (by kernel_rfl) (by kernel_rfl) (by kernel_rfl) rfl ?_ ?_
  · intro ds h
    match ds, h with
    | [d0, d1], _ => rfl
  · intro l h
    obtain ⟨x0, l0, rfl, b00, b01, h⟩ := arg_prim sh26 da26 h
    obtain ⟨x1, l1, rfl, b10, b11, h⟩ := arg_prim sh26 da26 h
    obtain rfl := arg_end h
    exact law_PassNever x0 b00 b01 x1 b10 b11
theorem over : Rows.passNeverRow.holds Try.pinned (OpenSpec.ofChange Rows.passNeverSpec) :=
  OpenClaim.holds_of_wide 4 Try.f4 rfl rfl rfl rfl rfl rfl rfl ⟨rfl, rfl, rfl, rfl, rfl⟩ rfl rfl rfl rfl rfl (by kernel_rfl) Try.func4 (by kernel_rfl)
    (of_decide_eq_true (by kernel_rfl)) (by unfold Func.isWrapper; first | (rw [if_pos (by decide +kernel)]; kernel_rfl) | (rw [if_neg (by decide +kernel)]; exact ⟨rfl, rfl⟩))
    (fun os started H enc _ => lifted os started H enc)
end Go.Proofs.Ytjlbliljpffmjaa.passNever
namespace Go.Proofs.Ytjlbliljpffmjaa
/-- The statement. -/
theorem passNever_holds : Rows.PassNeverSaid := passNever.over
#print axioms passNever_holds
end Go.Proofs.Ytjlbliljpffmjaa
