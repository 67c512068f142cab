/- The statement 'PassSame' of the seat, for every input: the call returns true and each argument reads as it did. -/
import Derived.Test.YtjlbliljpffmjaaRows
import Derived.Test.YtjlbliljpffmjaaTd8
import Derived.Test.YtjlbliljpffmjaaG9
import Derived.ProofKit
set_option linter.unusedSimpArgs false
namespace Go.Proofs.Ytjlbliljpffmjaa.passSame
open Go.Vam Go.Qm Go.RowKit Go.Proofs.Ytjlbliljpffmjaa
set_option linter.unusedVariables false
theorem own : ownKnob Try.prog.godebug = none := by kernel_rfl
theorem laidOut : laidOutB Try.prog = true := by kernel_rfl
theorem sh26 : shOf Try.prog 6 26 = some primSh := by kernel_rfl
theorem da26 : (Try.prog.underlying 26).map descA = some true := by kernel_rfl
theorem sh35 : shOf Try.prog 6 35 = some ([.sl 40 fileSh]) := by kernel_rfl
theorem da35 : (Try.prog.underlying 35).map descA = some false := by kernel_rfl
set_option maxRecDepth 100000 in
theorem lifted (os : Os) (started : os.Started) (H : Type) (enc : TypeId × Value → H) :
    ReturnsInHanded {} Try.checked os 11 .any (Rows.passSameSpec.pre6 enc Try.prog Try.f11 Rows.passSameRow.domain false) (Rows.passSameSpec.post enc Try.prog Try.f11 false true false false) := by
  refine law_lifted (C := Try.checked) own laidOut started (by kernel_rfl) Try.func11
    (ChangeSpec.witness6 (enc := enc) (C := Try.checked) false ⟨#[], #[.slice none 0 0, .agg #[.int .i64 0, .string ByteArray.empty, .string ByteArray.empty, .int .i64 0, .slice none 0 0, .slice none 0 0], .agg #[.int .i64 0, .string ByteArray.empty, .string ByteArray.empty, .int .i64 0, .slice none 0 0, .slice none 0 0]], []⟩ 8 (by kernel_rfl) (by kernel_rfl) (by kernel_rfl) (by kernel_rfl))
    6 [35, 26, 26] 4 rfl rfl (by kernel_rfl) (by kernel_rfl) (by kernel_rfl) rfl ?_ ?_
  · intro ds h
    match ds, h with
    | [d0, d1, d2], _ => rfl
  · intro l h
    obtain ⟨x0, l0, rfl, b00, h⟩ := arg_tree sh35 da35 h
    obtain ⟨x1, l1, rfl, b10, b11, h⟩ := arg_prim sh26 da26 h
    obtain ⟨x2, l2, rfl, b20, b21, h⟩ := arg_prim sh26 da26 h
    obtain rfl := arg_end h
    exact law_PassSame x0 b00 x1 b10 b11 x2 b20 b21
theorem over : Rows.passSameRow.holds Try.pinned (OpenSpec.ofChange Rows.passSameSpec) :=
  OpenClaim.holds_of_wide 11 Try.f11 rfl rfl rfl rfl rfl rfl rfl ⟨rfl, rfl, rfl, rfl, rfl⟩ rfl rfl rfl rfl rfl (by kernel_rfl) Try.func11 (by kernel_rfl)
    (of_decide_eq_true (by kernel_rfl)) (by unfold Func.isWrapper; first | (rw [if_pos (by decide +kernel)]; kernel_rfl) | (rw [if_neg (by decide +kernel)]; exact ⟨rfl, rfl⟩))
    (fun os started H enc _ => lifted os started H enc)
end Go.Proofs.Ytjlbliljpffmjaa.passSame
namespace Go.Proofs.Ytjlbliljpffmjaa
/-- The statement. -/
theorem passSame_holds : Rows.PassSameSaid := passSame.over
#print axioms passSame_holds
end Go.Proofs.Ytjlbliljpffmjaa
