/- The statement 'TidySame' of the seat, for every input: the call returns true and each argument reads as it did. -/
import Derived.Test.YtjlbliljpffmjaaRows
import Derived.Test.YtjlbliljpffmjaaTe2
import Derived.Test.YtjlbliljpffmjaaG9
import Derived.ProofKit
set_option linter.unusedSimpArgs false
namespace Go.Proofs.Ytjlbliljpffmjaa.tidySame
open Go.Vam Go.Qm Go.RowKit Go.Proofs.Ytjlbliljpffmjaa
set_option linter.unusedVariables false
theorem own : ownKnob Try.prog.godebug = none := by kernel_rfl
theorem laidOut : laidOutB Try.prog = true := by kernel_rfl
theorem sh35 : shOf Try.prog 6 35 = some ([.sl 40 fileSh]) := by kernel_rfl
theorem da35 : (Try.prog.underlying 35).map descA = some false := by kernel_rfl
theorem sh36 : shOf Try.prog 6 36 = some ([.sl 96 primSh]) := by kernel_rfl
theorem da36 : (Try.prog.underlying 36).map descA = some false := by kernel_rfl
set_option maxRecDepth 100000 in
theorem lifted (os : Os) (started : os.Started) (H : Type) (enc : TypeId × Value → H) :
    ReturnsInHanded {} Try.checked os 10 .any (Rows.tidySameSpec.pre6 enc Try.prog Try.f10 Rows.tidySameRow.domain false) (Rows.tidySameSpec.post enc Try.prog Try.f10 false true false false) := by
  refine law_lifted (C := Try.checked) own laidOut started (by kernel_rfl) Try.func10
    (ChangeSpec.witness6 (enc := enc) (C := Try.checked) false ⟨#[], #[.slice none 0 0, .slice none 0 0], []⟩ 8 (by kernel_rfl) (by kernel_rfl) (by kernel_rfl) (by kernel_rfl))
    6 [35, 36] 4 rfl rfl (by kernel_rfl) (by kernel_rfl) (by kernel_rfl) rfl ?_ ?_
  · intro ds h
    match ds, h with
    | [d0, d1], _ => rfl
  · intro l h
    obtain ⟨x0, l0, rfl, b00, h⟩ := arg_tree sh35 da35 h
    obtain ⟨x1, l1, rfl, b10, b11, h⟩ := arg_prims sh36 da36 h
    obtain rfl := arg_end h
    exact law_TidySame x0 b00 x1 b10 b11
theorem over : Rows.tidySameRow.holds Try.pinned (OpenSpec.ofChange Rows.tidySameSpec) :=
  OpenClaim.holds_of_wide 10 Try.f10 rfl rfl rfl rfl rfl rfl rfl ⟨rfl, rfl, rfl, rfl, rfl⟩ rfl rfl rfl rfl rfl (by kernel_rfl) Try.func10 (by kernel_rfl)
    (of_decide_eq_true (by kernel_rfl)) (by unfold Func.isWrapper; first | (rw [if_pos (by decide +kernel)]; kernel_rfl) | (rw [if_neg (by decide +kernel)]; exact ⟨rfl, rfl⟩))
    (fun os started H enc _ => lifted os started H enc)
end Go.Proofs.Ytjlbliljpffmjaa.tidySame
namespace Go.Proofs.Ytjlbliljpffmjaa
/-- The statement. -/
theorem tidySame_holds : Rows.TidySameSaid := tidySame.over
#print axioms tidySame_holds
end Go.Proofs.Ytjlbliljpffmjaa
