/-
  No cell of these rows narrows 'for every input' (looked for: loops, veiled, ifaces, maps, wideKeys, modest, calm, conditions, laid).
  DERIVED. THE GIVEN ROWS OF THIS SEAT. 2 by the template 'for every input the law returns true; each argument reads behind the call as it read before'; 0 by the template 'total and deterministic' (their statements: YtfjlopdofjbfgaaGreatTotals.lean).
  GIVEN WITH THE SEED: the statements are not yours to turn. If you find one false, say at which input.
  Laid BY PROGRAM, IN A SANDBOX (cutbox-rows.mjs): the forced cells as the released guide's own fill.sh prints them over the translation 086b60eb6813cc6d… (all of the seat's roots in one cut). By AI agents, Wed Nov 11 2026. No macro, syntax, notation, axiom, sorry.
-/
import Derived.Test.YtfjlopdofjbfgaaGreatChecked
import GoSem.Claim
import GoSem.ClaimJoined
import GoSem.ClaimMapViews
import Derived.JoinedTies
import Derived.KernelRfl
namespace Go.Proofs.YtfjlopdofjbfgaaGreat
/- THE CELL 'sum', in the pinned program and in every row, IS THE sha256 OF THE DUMP (.gsa) THAT YtfjlopdofjbfgaaGreatProg.lean LOADS. Nothing in Lean hashes anything: it is a label: what it is worth is what the hold of that sum in a sandbox is worth. -/
noncomputable def Tryz.pinned : Pinned := { name := "ytfjlopdofjbfgaagreat", sum := "086b60eb6813cc6d6c112321fb22ef93ad36b6b055e3fb8437b4d348bc90ac8f", checked := Tryz.checked }
namespace Rows
def none {H : Type} : Left H := { results := [], args := [] }

/-- 'quiltmakerlaw10.FlowTells': WHATEVER THE INPUT: true; the input reads as it did. -/
def flowTellsSpec : ChangeSpec := { name := "flowTells", fn := fun _ => fun
  | [d1, d2, d3] => { results := [.lit (.bool true)], args := [d1, d2, d3] }
  | _ => none }
def flowTellsRow : OpenClaim := { program := "ytfjlopdofjbfgaagreat", sum := "086b60eb6813cc6d6c112321fb22ef93ad36b6b055e3fb8437b4d348bc90ac8f", func := "quiltmaker/quiltmakerlaw10.FlowTells", spec := "flowTells", inPlace := ["slices.overlaps[quiltmaker/api.File]", "internal/bytealg.IndexByteString"], unfollowed := true, recurses := true, apart := false }
def FlowTellsSaid : Prop := flowTellsRow.holds Tryz.pinned (OpenSpec.ofChange flowTellsSpec)

/-- ITS FALSE NEIGHBOUR: 'it returns false'. Refute it at one input. -/
def flowTellsWrong : ChangeSpec := { name := "flowTells", fn := fun _ => fun
  | [d1, d2, d3] => { results := [.lit (.bool false)], args := [d1, d2, d3] }
  | _ => none }
def FlowTellsWrongFalsely : Prop := flowTellsRow.holds Tryz.pinned (OpenSpec.ofChange flowTellsWrong)

/-- 'quiltmakerlaw10.FlowPasses': WHATEVER THE INPUT: true; the input reads as it did. -/
def flowPassesSpec : ChangeSpec := { name := "flowPasses", fn := fun _ => fun
  | [d1, d2] => { results := [.lit (.bool true)], args := [d1, d2] }
  | _ => none }
def flowPassesRow : OpenClaim := { program := "ytfjlopdofjbfgaagreat", sum := "086b60eb6813cc6d6c112321fb22ef93ad36b6b055e3fb8437b4d348bc90ac8f", func := "quiltmaker/quiltmakerlaw10.FlowPasses", spec := "flowPasses", inPlace := ["slices.overlaps[quiltmaker/api.File]", "internal/bytealg.IndexByteString"], unfollowed := true, recurses := true, apart := false }
def FlowPassesSaid : Prop := flowPassesRow.holds Tryz.pinned (OpenSpec.ofChange flowPassesSpec)

/-- ITS FALSE NEIGHBOUR: 'it returns false'. Refute it at one input. -/
def flowPassesWrong : ChangeSpec := { name := "flowPasses", fn := fun _ => fun
  | [d1, d2] => { results := [.lit (.bool false)], args := [d1, d2] }
  | _ => none }
def FlowPassesWrongFalsely : Prop := flowPassesRow.holds Tryz.pinned (OpenSpec.ofChange flowPassesWrong)

/- THE SECOND FORM. 'bulk': how many values and letters a reading holds, each counted each time it is reached (what is shared counts as often as it is met; a slice's spare places count too). A statement '..UptoSaid' is the law's where the arguments, and the package variables that the reading takes, are together of bulk at most 1048576: NARROWER than '..Said'. Prove '..Said' where nothing that the law and all that it calls make is longer than what came in: it says more and counts as full. Else prove '..UptoSaid'. A law counts once. -/
mutual
def uptoBulk {H : Type} : DataW H → Nat
  | .lit (.string bytes) => bytes.length + 1
  | .lit _ => 1
  | .nil => 1
  | .ptr d => uptoBulk d + 1
  | .slice elems spare => uptoBulkAll elems + uptoBulkAll spare + 1
  | .agg parts => uptoBulkAll parts + 1
  | .iface _ d => uptoBulk d + 1
  | .map entries => uptoBulkEntries entries + 1
  | .held _ => 1
def uptoBulkAll {H : Type} : List (DataW H) → Nat
  | [] => 0
  | d :: r => uptoBulk d + uptoBulkAll r
def uptoBulkEntries {H : Type} : List (Lit × DataW H) → Nat
  | [] => 0
  | x :: r => uptoBulkEntry x + uptoBulkEntries r
def uptoBulkEntry {H : Type} : Lit × DataW H → Nat
  | (.string bytes, d) => bytes.length + uptoBulk d + 1
  | (_, d) => uptoBulk d + 1
 end
def uptoSmall : (H : Type) → List (DataW H) → Bool := fun _ ds => decide (uptoBulkAll ds ≤ 1048576)
def OpenSpec.upto (s : _root_.Go.ChangeSpec) : _root_.Go.OpenSpec := { _root_.Go.OpenSpec.ofChange s with cond := some uptoSmall }

/-- 'quiltmakerlaw10.FlowTells', WHERE WHAT IT READS IS OF BULK AT MOST 1048576: true; the input reads as it did. -/
def flowTellsUptoRow : OpenClaim := { program := "ytfjlopdofjbfgaagreat", sum := "086b60eb6813cc6d6c112321fb22ef93ad36b6b055e3fb8437b4d348bc90ac8f", func := "quiltmaker/quiltmakerlaw10.FlowTells", spec := "flowTells", inPlace := ["slices.overlaps[quiltmaker/api.File]", "internal/bytealg.IndexByteString"], unfollowed := true, recurses := true, apart := false, narrowed := true }
def FlowTellsUptoSaid : Prop := flowTellsUptoRow.holds Tryz.pinned (OpenSpec.upto flowTellsSpec)

/-- 'quiltmakerlaw10.FlowPasses', WHERE WHAT IT READS IS OF BULK AT MOST 1048576: true; the input reads as it did. -/
def flowPassesUptoRow : OpenClaim := { program := "ytfjlopdofjbfgaagreat", sum := "086b60eb6813cc6d6c112321fb22ef93ad36b6b055e3fb8437b4d348bc90ac8f", func := "quiltmaker/quiltmakerlaw10.FlowPasses", spec := "flowPasses", inPlace := ["slices.overlaps[quiltmaker/api.File]", "internal/bytealg.IndexByteString"], unfollowed := true, recurses := true, apart := false, narrowed := true }
def FlowPassesUptoSaid : Prop := flowPassesUptoRow.holds Tryz.pinned (OpenSpec.upto flowPassesSpec)

end Rows
end Go.Proofs.YtfjlopdofjbfgaaGreat
