/- The statement 'BubbleNeeds' of the seat, for every input: the call returns true and each argument reads as it did. -/
import Derived.Test.YthfogkmhgepgaaaRows
import Derived.Test.YthfogkmhgepgaaaS13
import Derived.Test.YthfogkmhgepgaaaG11
import Derived.ProofKit
set_option linter.unusedSimpArgs false
namespace Go.Proofs.Ythfogkmhgepgaaa.bubbleNeeds
open Go.Vam Go.Qm Go.RowKit Go.Proofs.Ythfogkmhgepgaaa
set_option linter.unusedVariables false
theorem own : ownKnob Try.prog.godebug = none := by kernel_rfl
theorem laidOut : laidOutB Try.prog = true := by kernel_rfl
theorem sh22 : shOf Try.prog 9 22 = some ([.sl 80 namedSh]) := by kernel_rfl
theorem da22 : (Try.prog.underlying 22).map descA = some false := by kernel_rfl
theorem sh23 : shOf Try.prog 9 23 = some ([.sl 16 idSh]) := by kernel_rfl
theorem da23 : (Try.prog.underlying 23).map descA = some false := by kernel_rfl
set_option maxRecDepth 100000 in
theorem lifted (os : Os) (started : os.Started) (H : Type) (enc : TypeId × Value → H) :
    ReturnsInHanded {} Try.checked os 4 .any (Rows.bubbleNeedsSpec.pre6 enc Try.prog Try.f4 Rows.bubbleNeedsRow.domain false) (Rows.bubbleNeedsSpec.post enc Try.prog Try.f4 false true false false) := by
  refine law_lifted (C := Try.checked) own laidOut started (by kernel_rfl) Try.func4
    (ChangeSpec.witness6 (enc := enc) (C := Try.checked) false ⟨#[], #[.slice none 0 0, .slice none 0 0], []⟩ 8 (by kernel_rfl) (by kernel_rfl) (by kernel_rfl) (by kernel_rfl))
    9 [22, 23] 4 rfl rfl (by kernel_rfl) (by kernel_rfl) (by kernel_rfl) rfl ?_ ?_
  · intro ds h
    match ds, h with
    | [d0, d1], _ => rfl
  · intro l h
    obtain ⟨x0, l0, rfl, b00, b01, h⟩ := arg_nameds sh22 da22 h
    obtain ⟨x1, l1, rfl, b10, b11, h⟩ := arg_ids sh23 da23 h
    obtain rfl := arg_end h
    exact law_BubbleNeeds x0 b00 b01 x1 b10 b11
theorem over : Rows.bubbleNeedsRow.holds Try.pinned (OpenSpec.ofChange Rows.bubbleNeedsSpec) :=
  OpenClaim.holds_of_wide 4 Try.f4 rfl rfl rfl rfl rfl rfl rfl ⟨rfl, rfl, rfl, rfl, rfl⟩ rfl rfl rfl rfl rfl (by kernel_rfl) Try.func4 (by kernel_rfl)
    (of_decide_eq_true (by kernel_rfl)) (by unfold Func.isWrapper; first | (rw [if_pos (by decide +kernel)]; kernel_rfl) | (rw [if_neg (by decide +kernel)]; exact ⟨rfl, rfl⟩))
    (fun os started H enc _ => lifted os started H enc)
end Go.Proofs.Ythfogkmhgepgaaa.bubbleNeeds
namespace Go.Proofs.Ythfogkmhgepgaaa
/-- The statement. -/
theorem bubbleNeeds_holds : Rows.BubbleNeedsSaid := bubbleNeeds.over
#print axioms bubbleNeeds_holds
end Go.Proofs.Ythfogkmhgepgaaa
