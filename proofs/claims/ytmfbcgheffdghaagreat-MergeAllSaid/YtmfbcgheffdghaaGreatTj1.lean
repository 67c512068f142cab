/- slices.Insert of one named patch: what it does to a list of one's own. -/
import Derived.Test.YtmfbcgheffdghaaGreatTt
import Derived.Test.YtmfbcgheffdghaaGreatG8
import Derived.WalkKit
import Derived.Lib.Walk
import Derived.Lib.SliceRun
import Derived.Lib.JoinLaws
import Derived.Lib.AppendZeros
import Derived.Lib.AppendZerosOnto
import Derived.Lib.Overlaps
import Derived.Laws.Externs
import Derived.Laws.IdiomCopy
import Derived.Shelf.Spec.SlicesInsert
namespace Go.Proofs.YtmfbcgheffdghaaGreat
open Go.RowKit Go.Lib
set_option linter.unusedVariables false
set_option linter.unusedSimpArgs false
theorem infFNamed : ∃ i : TypeInfo, Tryz.prog.info? 36 = some i ∧ i.size = 5 ∧ i.bytes = 80 := by
  have h : (Tryz.prog.info? 36).map (fun i => (i.size, i.bytes)) = some (5, 80) := by kernel_rfl
  cases h1 : Tryz.prog.info? 36 with
  | none => rw [h1] at h; simp at h
  | some i =>
    rw [h1] at h
    simp only [Option.map_some, Option.some.injEq, Prod.mk.injEq] at h
    exact ⟨i, rfl, h.1, h.2⟩
theorem szFNamed (w : World) : (Go.sizeOf 36).run Tryz.prog w = .ok 5 w := by
  obtain ⟨i, h, h1, _⟩ := infFNamed
  simp [Go.sizeOf, typeInfo, h, h1]
theorem mixFNamed : Tryz.prog.follows .mixedOrders = true := by kernel_rfl
def insA1Named (cur : Array Value) (n i : Nat) : Array Value := Go.Vam.over cur ((i + 1) * 5) ((cur.toList.take (n * 5)).drop (i * 5))
def insA2Named (cur : Array Value) (xs : List Value) (i : Nat) : Array Value := Go.Vam.over cur (i * 5) xs
def insB0NamedNamed (cur : Array Value) (z : Array Value) (n i G : Nat) : Array Value := ((cur.toList.take (i * 5)).toArray ++ Builtin.zeroCells z (n + 1 - i) ++ Builtin.zeroCells z (G - (n + 1)))
def insB2Named (cur : Array Value) (row : List Value) (n i : Nat) : Array Value := Go.Vam.over cur ((i + 1) * 5) row
set_option maxHeartbeats 4000000 in
set_option maxRecDepth 100000 in
set_option maxHeartbeats 4000000 in
set_option maxRecDepth 100000 in
set_option maxHeartbeats 4000000 in
set_option maxRecDepth 100000 in
set_option maxHeartbeats 4000000 in
set_option maxRecDepth 100000 in
set_option maxHeartbeats 4000000 in
set_option maxRecDepth 100000 in
theorem zeroNamed : ∃ z : Value, (Tryz.prog.info? 36).bind (·.zero) = some z ∧ z.cells.size = 5 ∧ ∀ v ∈ z.cells.toList, v.oneCell' = true := by
  have h : ((Tryz.prog.info? 36).bind (·.zero)).map (fun z => (z.cells.size == 5) && z.cells.toList.all fun v => v.oneCell') = some true := by kernel_rfl
  cases hz : (Tryz.prog.info? 36).bind (·.zero) with
  | none => rw [hz] at h; simp at h
  | some z =>
    rw [hz] at h
    simp only [Option.map_some, Option.some.injEq, Bool.and_eq_true, beq_iff_eq, List.all_eq_true] at h
    exact ⟨z, rfl, h.1, h.2⟩
end Go.Proofs.YtmfbcgheffdghaaGreat
