/- The statement 'TradeDeps' of the seat, for every input: the call returns true and each argument reads as it did. -/
import Derived.Test.YtmijejoddoolpaaRows
import Derived.Test.YtmijejoddoolpaaTh3
import Derived.Test.YtmijejoddoolpaaG10
import Derived.ProofKit
set_option linter.unusedSimpArgs false
namespace Go.Proofs.Ytmijejoddoolpaa.tradeDeps
open Go.Vam Go.Qm Go.RowKit Go.Proofs.Ytmijejoddoolpaa
set_option linter.unusedVariables false
theorem own : ownKnob Try.prog.godebug = none := by kernel_rfl
theorem laidOut : laidOutB Try.prog = true := by kernel_rfl
theorem sh27 : shOf Try.prog 9 27 = some namedSh := by kernel_rfl
theorem da27 : (Try.prog.underlying 27).map descA = some true := by kernel_rfl
set_option maxRecDepth 100000 in
theorem lifted (os : Os) (started : os.Started) (H : Type) (enc : TypeId × Value → H) :
    ReturnsInHanded {} Try.checked os 9 .any (Rows.tradeDepsSpec.pre6 enc Try.prog Try.f9 Rows.tradeDepsRow.domain false) (Rows.tradeDepsSpec.post enc Try.prog Try.f9 false true false false) := by
  refine law_lifted (C := Try.checked) own laidOut started (by kernel_rfl) Try.func9
    (ChangeSpec.witness6 (enc := enc) (C := Try.checked) false ⟨#[], #[.agg #[.int .i64 0, .int .i64 0, .slice none 0 0, .string ByteArray.empty, .slice none 0 0], .agg #[.int .i64 0, .int .i64 0, .slice none 0 0, .string ByteArray.empty, .slice none 0 0]], []⟩ 8 (by kernel_rfl) (by kernel_rfl) (by kernel_rfl) (by kernel_rfl))
    9 [27, 27] 4 rfl rfl (by kernel_rfl) (by kernel_rfl) (by kernel_rfl) rfl ?_ ?_
  · intro ds h
    match ds, h with
    | [d0, d1], _ => rfl
  · intro l h
    obtain ⟨x0, l0, rfl, b00, b01, h⟩ := arg_named sh27 da27 h
    obtain ⟨x1, l1, rfl, b10, b11, h⟩ := arg_named sh27 da27 h
    obtain rfl := arg_end h
    exact law_TradeDeps x0 b00 b01 x1 b10 b11
theorem over : Rows.tradeDepsRow.holds Try.pinned (OpenSpec.ofChange Rows.tradeDepsSpec) :=
  OpenClaim.holds_of_wide 9 Try.f9 rfl rfl rfl rfl rfl rfl rfl ⟨rfl, rfl, rfl, rfl, rfl⟩ rfl rfl rfl rfl rfl (by kernel_rfl) Try.func9 (by kernel_rfl)
    (of_decide_eq_true (by kernel_rfl)) (by unfold Func.isWrapper; first | (rw [if_pos (by decide +kernel)]; kernel_rfl) | (rw [if_neg (by decide +kernel)]; exact ⟨rfl, rfl⟩))
    (fun os started H enc _ => lifted os started H enc)
end Go.Proofs.Ytmijejoddoolpaa.tradeDeps
namespace Go.Proofs.Ytmijejoddoolpaa
/-- The statement. -/
theorem tradeDeps_holds : Rows.TradeDepsSaid := tradeDeps.over
#print axioms tradeDeps_holds
end Go.Proofs.Ytmijejoddoolpaa
