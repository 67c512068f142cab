/-
  No cell of these rows narrows 'for every input' (looked for: loops, veiled, ifaces, maps, wideKeys, modest, calm, conditions, laid).
  DERIVED. THE GIVEN ROWS OF THIS SEAT. 6 by the template 'for every input the law returns true; each argument reads behind the call as it read before'; 0 by the template 'total and deterministic' (their statements: YtmfbcgheffdghaaGreatTotals.lean).
  GIVEN WITH THE SEED: the statements are not yours to turn. If you find one false, say at which input.
  Laid BY PROGRAM, IN A SANDBOX (cutbox-rows.mjs): the forced cells as the released guide's own fill.sh prints them over the translation 706d9a6e1ee4e4d6… (all of the seat's roots in one cut). By AI agents, Wed Nov 11 2026. No macro, syntax, notation, axiom, sorry.
-/
import Derived.Test.YtmfbcgheffdghaaGreatChecked
import GoSem.Claim
import GoSem.ClaimJoined
import GoSem.ClaimMapViews
import Derived.JoinedTies
import Derived.KernelRfl
namespace Go.Proofs.YtmfbcgheffdghaaGreat
/- THE CELL 'sum', in the pinned program and in every row, IS THE sha256 OF THE DUMP (.gsa) THAT YtmfbcgheffdghaaGreatProg.lean LOADS. Nothing in Lean hashes anything: it is a label: what it is worth is what the hold of that sum in a sandbox is worth. -/
noncomputable def Tryz.pinned : Pinned := { name := "ytmfbcgheffdghaagreat", sum := "706d9a6e1ee4e4d6c7b97fd1dd54bfc8858e6be322ab2a1bca47ba6dda8e4d68", checked := Tryz.checked }
namespace Rows
def none {H : Type} : Left H := { results := [], args := [] }

/-- 'quiltmakerlaw18.MergeAll': WHATEVER THE INPUT: true; the input reads as it did. -/
def mergeAllSpec : ChangeSpec := { name := "mergeAll", fn := fun _ => fun
  | [d1, d2] => { results := [.lit (.bool true)], args := [d1, d2] }
  | _ => none }
def mergeAllRow : OpenClaim := { program := "ytmfbcgheffdghaagreat", sum := "706d9a6e1ee4e4d6c7b97fd1dd54bfc8858e6be322ab2a1bca47ba6dda8e4d68", func := "quiltmaker/quiltmakerlaw18.MergeAll", spec := "mergeAll", inPlace := ["slices.overlaps[quiltmaker/api.File]", "internal/bytealg.IndexByteString"], unfollowed := true, recurses := true, plainKeys := false, apart := false }
def MergeAllSaid : Prop := mergeAllRow.holds Tryz.pinned (OpenSpec.ofChange mergeAllSpec)

/-- ITS FALSE NEIGHBOUR: 'it returns false'. Refute it at one input. -/
def mergeAllWrong : ChangeSpec := { name := "mergeAll", fn := fun _ => fun
  | [d1, d2] => { results := [.lit (.bool false)], args := [d1, d2] }
  | _ => none }
def MergeAllWrongFalsely : Prop := mergeAllRow.holds Tryz.pinned (OpenSpec.ofChange mergeAllWrong)

/-- 'quiltmakerlaw18.MergeTurns': WHATEVER THE INPUT: true; the input reads as it did. -/
def mergeTurnsSpec : ChangeSpec := { name := "mergeTurns", fn := fun _ => fun
  | [d1, d2] => { results := [.lit (.bool true)], args := [d1, d2] }
  | _ => none }
def mergeTurnsRow : OpenClaim := { program := "ytmfbcgheffdghaagreat", sum := "706d9a6e1ee4e4d6c7b97fd1dd54bfc8858e6be322ab2a1bca47ba6dda8e4d68", func := "quiltmaker/quiltmakerlaw18.MergeTurns", spec := "mergeTurns", inPlace := ["slices.overlaps[quiltmaker/api.File]", "internal/bytealg.IndexByteString"], unfollowed := true, recurses := true, plainKeys := false, apart := false }
def MergeTurnsSaid : Prop := mergeTurnsRow.holds Tryz.pinned (OpenSpec.ofChange mergeTurnsSpec)

/-- ITS FALSE NEIGHBOUR: 'it returns false'. Refute it at one input. -/
def mergeTurnsWrong : ChangeSpec := { name := "mergeTurns", fn := fun _ => fun
  | [d1, d2] => { results := [.lit (.bool false)], args := [d1, d2] }
  | _ => none }
def MergeTurnsWrongFalsely : Prop := mergeTurnsRow.holds Tryz.pinned (OpenSpec.ofChange mergeTurnsWrong)

/-- 'quiltmakerlaw18.MergeTells': WHATEVER THE INPUT: true; the input reads as it did. -/
def mergeTellsSpec : ChangeSpec := { name := "mergeTells", fn := fun _ => fun
  | [d1, d2] => { results := [.lit (.bool true)], args := [d1, d2] }
  | _ => none }
def mergeTellsRow : OpenClaim := { program := "ytmfbcgheffdghaagreat", sum := "706d9a6e1ee4e4d6c7b97fd1dd54bfc8858e6be322ab2a1bca47ba6dda8e4d68", func := "quiltmaker/quiltmakerlaw18.MergeTells", spec := "mergeTells", inPlace := ["slices.overlaps[quiltmaker/api.File]", "internal/bytealg.IndexByteString"], unfollowed := true, recurses := true, plainKeys := false, apart := false }
def MergeTellsSaid : Prop := mergeTellsRow.holds Tryz.pinned (OpenSpec.ofChange mergeTellsSpec)

/-- ITS FALSE NEIGHBOUR: 'it returns false'. Refute it at one input. -/
def mergeTellsWrong : ChangeSpec := { name := "mergeTells", fn := fun _ => fun
  | [d1, d2] => { results := [.lit (.bool false)], args := [d1, d2] }
  | _ => none }
def MergeTellsWrongFalsely : Prop := mergeTellsRow.holds Tryz.pinned (OpenSpec.ofChange mergeTellsWrong)

/-- 'quiltmakerlaw18.MergeSelf': WHATEVER THE INPUT: true; the input reads as it did. -/
def mergeSelfSpec : ChangeSpec := { name := "mergeSelf", fn := fun _ => fun
  | [d1, d2] => { results := [.lit (.bool true)], args := [d1, d2] }
  | _ => none }
def mergeSelfRow : OpenClaim := { program := "ytmfbcgheffdghaagreat", sum := "706d9a6e1ee4e4d6c7b97fd1dd54bfc8858e6be322ab2a1bca47ba6dda8e4d68", func := "quiltmaker/quiltmakerlaw18.MergeSelf", spec := "mergeSelf", inPlace := ["slices.overlaps[quiltmaker/api.File]", "internal/bytealg.IndexByteString"], unfollowed := true, recurses := true, plainKeys := false, apart := false }
def MergeSelfSaid : Prop := mergeSelfRow.holds Tryz.pinned (OpenSpec.ofChange mergeSelfSpec)

/-- ITS FALSE NEIGHBOUR: 'it returns false'. Refute it at one input. -/
def mergeSelfWrong : ChangeSpec := { name := "mergeSelf", fn := fun _ => fun
  | [d1, d2] => { results := [.lit (.bool false)], args := [d1, d2] }
  | _ => none }
def MergeSelfWrongFalsely : Prop := mergeSelfRow.holds Tryz.pinned (OpenSpec.ofChange mergeSelfWrong)

/-- 'quiltmakerlaw18.MergeOrder': WHATEVER THE INPUT: true; the input reads as it did. -/
def mergeOrderSpec : ChangeSpec := { name := "mergeOrder", fn := fun _ => fun
  | [d1, d2] => { results := [.lit (.bool true)], args := [d1, d2] }
  | _ => none }
def mergeOrderRow : OpenClaim := { program := "ytmfbcgheffdghaagreat", sum := "706d9a6e1ee4e4d6c7b97fd1dd54bfc8858e6be322ab2a1bca47ba6dda8e4d68", func := "quiltmaker/quiltmakerlaw18.MergeOrder", spec := "mergeOrder", inPlace := ["slices.overlaps[quiltmaker/api.File]", "internal/bytealg.IndexByteString"], unfollowed := true, recurses := true, plainKeys := false, apart := false }
def MergeOrderSaid : Prop := mergeOrderRow.holds Tryz.pinned (OpenSpec.ofChange mergeOrderSpec)

/-- ITS FALSE NEIGHBOUR: 'it returns false'. Refute it at one input. -/
def mergeOrderWrong : ChangeSpec := { name := "mergeOrder", fn := fun _ => fun
  | [d1, d2] => { results := [.lit (.bool false)], args := [d1, d2] }
  | _ => none }
def MergeOrderWrongFalsely : Prop := mergeOrderRow.holds Tryz.pinned (OpenSpec.ofChange mergeOrderWrong)

/-- 'quiltmakerlaw18.MergeMissing': WHATEVER THE INPUT: true; the input reads as it did. -/
def mergeMissingSpec : ChangeSpec := { name := "mergeMissing", fn := fun _ => fun
  | [d1, d2] => { results := [.lit (.bool true)], args := [d1, d2] }
  | _ => none }
def mergeMissingRow : OpenClaim := { program := "ytmfbcgheffdghaagreat", sum := "706d9a6e1ee4e4d6c7b97fd1dd54bfc8858e6be322ab2a1bca47ba6dda8e4d68", func := "quiltmaker/quiltmakerlaw18.MergeMissing", spec := "mergeMissing", inPlace := ["slices.overlaps[quiltmaker/api.File]", "internal/bytealg.IndexByteString"], unfollowed := true, recurses := true, plainKeys := false, apart := false }
def MergeMissingSaid : Prop := mergeMissingRow.holds Tryz.pinned (OpenSpec.ofChange mergeMissingSpec)

/-- ITS FALSE NEIGHBOUR: 'it returns false'. Refute it at one input. -/
def mergeMissingWrong : ChangeSpec := { name := "mergeMissing", fn := fun _ => fun
  | [d1, d2] => { results := [.lit (.bool false)], args := [d1, d2] }
  | _ => none }
def MergeMissingWrongFalsely : Prop := mergeMissingRow.holds Tryz.pinned (OpenSpec.ofChange mergeMissingWrong)

/- THE SECOND FORM. 'bulk': how many values and letters a reading holds, each counted each time it is reached (what is shared counts as often as it is met; a slice's spare places count too). A statement '..UptoSaid' is the law's where the arguments, and the package variables that the reading takes, are together of bulk at most 1048576: NARROWER than '..Said'. Prove '..Said' where nothing that the law and all that it calls make is longer than what came in: it says more and counts as full. Else prove '..UptoSaid'. A law counts once. -/
mutual
def uptoBulk {H : Type} : DataW H → Nat
  | .lit (.string bytes) => bytes.length + 1
  | .lit _ => 1
  | .nil => 1
  | .ptr d => uptoBulk d + 1
  | .slice elems spare => uptoBulkAll elems + uptoBulkAll spare + 1
  | .agg parts => uptoBulkAll parts + 1
  | .iface _ d => uptoBulk d + 1
  | .map entries => uptoBulkEntries entries + 1
  | .held _ => 1
def uptoBulkAll {H : Type} : List (DataW H) → Nat
  | [] => 0
  | d :: r => uptoBulk d + uptoBulkAll r
def uptoBulkEntries {H : Type} : List (Lit × DataW H) → Nat
  | [] => 0
  | x :: r => uptoBulkEntry x + uptoBulkEntries r
def uptoBulkEntry {H : Type} : Lit × DataW H → Nat
  | (.string bytes, d) => bytes.length + uptoBulk d + 1
  | (_, d) => uptoBulk d + 1
 end
def uptoSmall : (H : Type) → List (DataW H) → Bool := fun _ ds => decide (uptoBulkAll ds ≤ 1048576)
def OpenSpec.upto (s : _root_.Go.ChangeSpec) : _root_.Go.OpenSpec := { _root_.Go.OpenSpec.ofChange s with cond := some uptoSmall }

/-- 'quiltmakerlaw18.MergeAll', WHERE WHAT IT READS IS OF BULK AT MOST 1048576: true; the input reads as it did. -/
def mergeAllUptoRow : OpenClaim := { program := "ytmfbcgheffdghaagreat", sum := "706d9a6e1ee4e4d6c7b97fd1dd54bfc8858e6be322ab2a1bca47ba6dda8e4d68", func := "quiltmaker/quiltmakerlaw18.MergeAll", spec := "mergeAll", inPlace := ["slices.overlaps[quiltmaker/api.File]", "internal/bytealg.IndexByteString"], unfollowed := true, recurses := true, plainKeys := false, apart := false, narrowed := true }
def MergeAllUptoSaid : Prop := mergeAllUptoRow.holds Tryz.pinned (OpenSpec.upto mergeAllSpec)

/-- 'quiltmakerlaw18.MergeTurns', WHERE WHAT IT READS IS OF BULK AT MOST 1048576: true; the input reads as it did. -/
def mergeTurnsUptoRow : OpenClaim := { program := "ytmfbcgheffdghaagreat", sum := "706d9a6e1ee4e4d6c7b97fd1dd54bfc8858e6be322ab2a1bca47ba6dda8e4d68", func := "quiltmaker/quiltmakerlaw18.MergeTurns", spec := "mergeTurns", inPlace := ["slices.overlaps[quiltmaker/api.File]", "internal/bytealg.IndexByteString"], unfollowed := true, recurses := true, plainKeys := false, apart := false, narrowed := true }
def MergeTurnsUptoSaid : Prop := mergeTurnsUptoRow.holds Tryz.pinned (OpenSpec.upto mergeTurnsSpec)

/-- 'quiltmakerlaw18.MergeTells', WHERE WHAT IT READS IS OF BULK AT MOST 1048576: true; the input reads as it did. -/
def mergeTellsUptoRow : OpenClaim := { program := "ytmfbcgheffdghaagreat", sum := "706d9a6e1ee4e4d6c7b97fd1dd54bfc8858e6be322ab2a1bca47ba6dda8e4d68", func := "quiltmaker/quiltmakerlaw18.MergeTells", spec := "mergeTells", inPlace := ["slices.overlaps[quiltmaker/api.File]", "internal/bytealg.IndexByteString"], unfollowed := true, recurses := true, plainKeys := false, apart := false, narrowed := true }
def MergeTellsUptoSaid : Prop := mergeTellsUptoRow.holds Tryz.pinned (OpenSpec.upto mergeTellsSpec)

/-- 'quiltmakerlaw18.MergeSelf', WHERE WHAT IT READS IS OF BULK AT MOST 1048576: true; the input reads as it did. -/
def mergeSelfUptoRow : OpenClaim := { program := "ytmfbcgheffdghaagreat", sum := "706d9a6e1ee4e4d6c7b97fd1dd54bfc8858e6be322ab2a1bca47ba6dda8e4d68", func := "quiltmaker/quiltmakerlaw18.MergeSelf", spec := "mergeSelf", inPlace := ["slices.overlaps[quiltmaker/api.File]", "internal/bytealg.IndexByteString"], unfollowed := true, recurses := true, plainKeys := false, apart := false, narrowed := true }
def MergeSelfUptoSaid : Prop := mergeSelfUptoRow.holds Tryz.pinned (OpenSpec.upto mergeSelfSpec)

/-- 'quiltmakerlaw18.MergeOrder', WHERE WHAT IT READS IS OF BULK AT MOST 1048576: true; the input reads as it did. -/
def mergeOrderUptoRow : OpenClaim := { program := "ytmfbcgheffdghaagreat", sum := "706d9a6e1ee4e4d6c7b97fd1dd54bfc8858e6be322ab2a1bca47ba6dda8e4d68", func := "quiltmaker/quiltmakerlaw18.MergeOrder", spec := "mergeOrder", inPlace := ["slices.overlaps[quiltmaker/api.File]", "internal/bytealg.IndexByteString"], unfollowed := true, recurses := true, plainKeys := false, apart := false, narrowed := true }
def MergeOrderUptoSaid : Prop := mergeOrderUptoRow.holds Tryz.pinned (OpenSpec.upto mergeOrderSpec)

/-- 'quiltmakerlaw18.MergeMissing', WHERE WHAT IT READS IS OF BULK AT MOST 1048576: true; the input reads as it did. -/
def mergeMissingUptoRow : OpenClaim := { program := "ytmfbcgheffdghaagreat", sum := "706d9a6e1ee4e4d6c7b97fd1dd54bfc8858e6be322ab2a1bca47ba6dda8e4d68", func := "quiltmaker/quiltmakerlaw18.MergeMissing", spec := "mergeMissing", inPlace := ["slices.overlaps[quiltmaker/api.File]", "internal/bytealg.IndexByteString"], unfollowed := true, recurses := true, plainKeys := false, apart := false, narrowed := true }
def MergeMissingUptoSaid : Prop := mergeMissingUptoRow.holds Tryz.pinned (OpenSpec.upto mergeMissingSpec)

end Rows
end Go.Proofs.YtmfbcgheffdghaaGreat
