/- The statement 'BubbleSame' of the seat, for every input: the call returns true and each argument reads as it did. -/
import Derived.Test.YthfogkmhgepgaaaGreatRows
import Derived.Test.YthfogkmhgepgaaaGreatTk7
import Derived.Test.YthfogkmhgepgaaaGreatG11
import Derived.ProofKit
set_option linter.unusedSimpArgs false
namespace Go.Proofs.YthfogkmhgepgaaaGreat.bubbleSame
open Go.Vam Go.Qm Go.RowKit Go.Proofs.YthfogkmhgepgaaaGreat
set_option linter.unusedVariables false
theorem own : ownKnob Tryz.prog.godebug = none := by kernel_rfl
theorem laidOut : laidOutB Tryz.prog = true := by kernel_rfl
theorem sh22 : shOf Tryz.prog 9 22 = some ([.sl 80 namedSh]) := by kernel_rfl
theorem da22 : (Tryz.prog.underlying 22).map descA = some false := by kernel_rfl
theorem sh23 : shOf Tryz.prog 9 23 = some ([.sl 16 idSh]) := by kernel_rfl
theorem da23 : (Tryz.prog.underlying 23).map descA = some false := by kernel_rfl
theorem sh39 : shOf Tryz.prog 9 39 = some ([.sl 40 fileSh]) := by kernel_rfl
theorem da39 : (Tryz.prog.underlying 39).map descA = some false := by kernel_rfl
set_option maxRecDepth 100000 in
theorem lifted (os : Os) (started : os.Started) (H : Type) (enc : TypeId × Value → H) :
    ReturnsInHanded {} Tryz.checked os 7 .any (Rows.bubbleSameSpec.pre6 enc Tryz.prog Tryz.f7 Rows.bubbleSameRow.domain false) (Rows.bubbleSameSpec.post enc Tryz.prog Tryz.f7 false true false false) := by
  refine law_lifted (C := Tryz.checked) own laidOut started (by kernel_rfl) Tryz.func7
    (ChangeSpec.witness6 (enc := enc) (C := Tryz.checked) false ⟨#[], #[.slice none 0 0, .slice none 0 0, .slice none 0 0], []⟩ 8 (by kernel_rfl) (by kernel_rfl) (by kernel_rfl) (by kernel_rfl))
    9 [39, 22, 23] 4 rfl rfl (by kernel_rfl) (by kernel_rfl) (by kernel_rfl) rfl ?_ ?_
  · intro ds h
    match ds, h with
    | [d0, d1, d2], _ => rfl
  · intro l h
    obtain ⟨x0, l0, rfl, b00, h⟩ := arg_tree sh39 da39 h
    obtain ⟨x1, l1, rfl, b10, b11, h⟩ := arg_nameds sh22 da22 h
    obtain ⟨x2, l2, rfl, b20, b21, h⟩ := arg_ids sh23 da23 h
    obtain rfl := arg_end h
    exact law_BubbleSame x0 b00 x1 b10 b11 x2 b20 b21
theorem over : Rows.bubbleSameRow.holds Tryz.pinned (OpenSpec.ofChange Rows.bubbleSameSpec) :=
  OpenClaim.holds_of_wide 7 Tryz.f7 rfl rfl rfl rfl rfl rfl rfl ⟨rfl, rfl, rfl, rfl, rfl⟩ rfl rfl rfl rfl rfl (by kernel_rfl) Tryz.func7 (by kernel_rfl)
    (of_decide_eq_true (by kernel_rfl)) (by unfold Func.isWrapper; first | (rw [if_pos (by decide +kernel)]; kernel_rfl) | (rw [if_neg (by decide +kernel)]; exact ⟨rfl, rfl⟩))
    (fun os started H enc _ => lifted os started H enc)
end Go.Proofs.YthfogkmhgepgaaaGreat.bubbleSame
namespace Go.Proofs.YthfogkmhgepgaaaGreat
/-- The statement. -/
theorem bubbleSame_holds : Rows.BubbleSameSaid := bubbleSame.over
#print axioms bubbleSame_holds
end Go.Proofs.YthfogkmhgepgaaaGreat
