/- The statement 'PrimOnce' of the seat, for every input: the call returns true and each argument reads as it did. -/
import Derived.Test.YtncipmjchifcgaaRows
import Derived.Test.YtncipmjchifcgaaTc4
import Derived.Test.YtncipmjchifcgaaQm3
import Derived.ProofKit
set_option linter.unusedSimpArgs false
namespace Go.Proofs.Ytncipmjchifcgaa.primOnce
open Go.Vam Go.Qm Go.RowKit Go.Proofs.Ytncipmjchifcgaa
set_option linter.unusedVariables false
theorem own : ownKnob Try.prog.godebug = none := by kernel_rfl
theorem laidOut : laidOutB Try.prog = true := by kernel_rfl
theorem sh32 : shOf Try.prog 6 32 = some primSh := by kernel_rfl
theorem da32 : (Try.prog.underlying 32).map descA = some true := by kernel_rfl
theorem sh36 : shOf Try.prog 6 36 = some ([.sl 40 fileSh]) := by kernel_rfl
theorem da36 : (Try.prog.underlying 36).map descA = some false := by kernel_rfl
set_option maxRecDepth 100000 in
theorem lifted (os : Os) (started : os.Started) (H : Type) (enc : TypeId × Value → H) :
    ReturnsInHanded {} Try.checked os 9 .any (Rows.primOnceSpec.pre6 enc Try.prog Try.f9 Rows.primOnceRow.domain false) (Rows.primOnceSpec.post enc Try.prog Try.f9 false true false false) := by
  refine law_lifted (C := Try.checked) own laidOut started (by kernel_rfl) Try.func9
    (ChangeSpec.witness6 (enc := enc) (C := Try.checked) false ⟨#[], #[.slice none 0 0, .agg #[.int .i64 0, .string ByteArray.empty, .string ByteArray.empty, .int .i64 0, .slice none 0 0, .slice none 0 0]], []⟩ 8 (by kernel_rfl) (by kernel_rfl) (by kernel_rfl) (by kernel_rfl))
    6 [36, 32] 4 rfl rfl (by kernel_rfl) (by kernel_rfl) (by kernel_rfl) rfl ?_ ?_
  · intro ds h
    match ds, h with
    | [d0, d1], _ => rfl
  · intro l h
    obtain ⟨x0, l0, rfl, b00, h⟩ := arg_tree sh36 da36 h
    obtain ⟨x1, l1, rfl, b10, b11, h⟩ := arg_prim sh32 da32 h
    obtain rfl := arg_end h
    exact law_PrimOnce x0 b00 x1 b10 b11
theorem over : Rows.primOnceRow.holds Try.pinned (OpenSpec.ofChange Rows.primOnceSpec) :=
  OpenClaim.holds_of_wide 9 Try.f9 rfl rfl rfl rfl rfl rfl rfl ⟨rfl, rfl, rfl, rfl, rfl⟩ rfl rfl rfl rfl rfl (by kernel_rfl) Try.func9 (by kernel_rfl)
    (of_decide_eq_true (by kernel_rfl)) (by unfold Func.isWrapper; first | (rw [if_pos (by decide +kernel)]; kernel_rfl) | (rw [if_neg (by decide +kernel)]; exact ⟨rfl, rfl⟩))
    (fun os started H enc _ => lifted os started H enc)
end Go.Proofs.Ytncipmjchifcgaa.primOnce
namespace Go.Proofs.Ytncipmjchifcgaa
/-- The statement. -/
theorem primOnce_holds : Rows.PrimOnceSaid := primOnce.over
#print axioms primOnce_holds
end Go.Proofs.Ytncipmjchifcgaa
