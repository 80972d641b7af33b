/-
  No cell of these rows narrows 'for every input' (looked for: loops, veiled, ifaces, maps, wideKeys, modest, calm, conditions, laid).
  DERIVED. THE GIVEN ROWS OF THIS SEAT. 4 by the template 'for every input the law returns true; each argument reads behind the call as it read before'; 0 by the template 'total and deterministic' (their statements: YtcmdnlpkplaapaaTotals.lean).
  GIVEN WITH THE SEED: the statements are not yours to turn. If you find one false, say at which input.
  Laid BY PROGRAM, IN A SANDBOX (cutbox-rows.mjs): the forced cells as the released guide's own fill.sh prints them over the translation 3eb8d6f1c50da629… (all of the seat's roots in one cut). By AI agents, Wed Nov 11 2026. No macro, syntax, notation, axiom, sorry.
-/
import Derived.Test.YtcmdnlpkplaapaaChecked
import GoSem.Claim
import GoSem.ClaimJoined
import GoSem.ClaimMapViews
import Derived.JoinedTies
import Derived.KernelRfl
namespace Go.Proofs.Ytcmdnlpkplaapaa
/- THE CELL 'sum', in the pinned program and in every row, IS THE sha256 OF THE DUMP (.gsa) THAT YtcmdnlpkplaapaaProg.lean LOADS. Nothing in Lean hashes anything: it is a label: what it is worth is what the hold of that sum in a sandbox is worth. -/
noncomputable def Try.pinned : Pinned := { name := "ytcmdnlpkplaapaa", sum := "3eb8d6f1c50da629e18029f75ca054fd1412eb1b830a75a6ccc6e87c71921ef9", checked := Try.checked }
namespace Rows
def none {H : Type} : Left H := { results := [], args := [] }

/-- 'azimuthlaw04.TreeFull': WHATEVER THE INPUT: true; the input reads as it did. -/
def treeFullSpec : ChangeSpec := { name := "treeFull", fn := fun _ => fun
  | [d] => { results := [.lit (.bool true)], args := [d] }
  | _ => none }
def treeFullRow : OpenClaim := { program := "ytcmdnlpkplaapaa", sum := "3eb8d6f1c50da629e18029f75ca054fd1412eb1b830a75a6ccc6e87c71921ef9", func := "azimuth/azimuthlaw04.TreeFull", spec := "treeFull", inPlace := ["math.Float64frombits", "internal/bytealg.IndexByteString"], unfollowed := true, recurses := true, apart := false }
def TreeFullSaid : Prop := treeFullRow.holds Try.pinned (OpenSpec.ofChange treeFullSpec)

/-- ITS FALSE NEIGHBOUR: 'it returns false'. Refute it at one input. -/
def treeFullWrong : ChangeSpec := { name := "treeFull", fn := fun _ => fun
  | [d] => { results := [.lit (.bool false)], args := [d] }
  | _ => none }
def TreeFullWrongFalsely : Prop := treeFullRow.holds Try.pinned (OpenSpec.ofChange treeFullWrong)

/-- 'azimuthlaw04.TreeAround': WHATEVER THE INPUT: true; the input reads as it did. -/
def treeAroundSpec : ChangeSpec := { name := "treeAround", fn := fun _ => fun
  | [d1, d2] => { results := [.lit (.bool true)], args := [d1, d2] }
  | _ => none }
def treeAroundRow : OpenClaim := { program := "ytcmdnlpkplaapaa", sum := "3eb8d6f1c50da629e18029f75ca054fd1412eb1b830a75a6ccc6e87c71921ef9", func := "azimuth/azimuthlaw04.TreeAround", spec := "treeAround", inPlace := ["math.Float64frombits", "internal/bytealg.IndexByteString"], unfollowed := true, recurses := true, apart := false }
def TreeAroundSaid : Prop := treeAroundRow.holds Try.pinned (OpenSpec.ofChange treeAroundSpec)

/-- ITS FALSE NEIGHBOUR: 'it returns false'. Refute it at one input. -/
def treeAroundWrong : ChangeSpec := { name := "treeAround", fn := fun _ => fun
  | [d1, d2] => { results := [.lit (.bool false)], args := [d1, d2] }
  | _ => none }
def TreeAroundWrongFalsely : Prop := treeAroundRow.holds Try.pinned (OpenSpec.ofChange treeAroundWrong)

/-- 'azimuthlaw04.TreeSame': WHATEVER THE INPUT: true; the input reads as it did. -/
def treeSameSpec : ChangeSpec := { name := "treeSame", fn := fun _ => fun
  | [d1, d2, d3] => { results := [.lit (.bool true)], args := [d1, d2, d3] }
  | _ => none }
def treeSameRow : OpenClaim := { program := "ytcmdnlpkplaapaa", sum := "3eb8d6f1c50da629e18029f75ca054fd1412eb1b830a75a6ccc6e87c71921ef9", func := "azimuth/azimuthlaw04.TreeSame", spec := "treeSame", inPlace := ["math.Float64frombits", "internal/bytealg.IndexByteString"], unfollowed := true, recurses := true, apart := false }
def TreeSameSaid : Prop := treeSameRow.holds Try.pinned (OpenSpec.ofChange treeSameSpec)

/-- ITS FALSE NEIGHBOUR: 'it returns false'. Refute it at one input. -/
def treeSameWrong : ChangeSpec := { name := "treeSame", fn := fun _ => fun
  | [d1, d2, d3] => { results := [.lit (.bool false)], args := [d1, d2, d3] }
  | _ => none }
def TreeSameWrongFalsely : Prop := treeSameRow.holds Try.pinned (OpenSpec.ofChange treeSameWrong)

/-- 'azimuthlaw04.TreeBuilds': WHATEVER THE INPUT: true; the input reads as it did. -/
def treeBuildsSpec : ChangeSpec := { name := "treeBuilds", fn := fun _ => fun
  | [d] => { results := [.lit (.bool true)], args := [d] }
  | _ => none }
def treeBuildsRow : OpenClaim := { program := "ytcmdnlpkplaapaa", sum := "3eb8d6f1c50da629e18029f75ca054fd1412eb1b830a75a6ccc6e87c71921ef9", func := "azimuth/azimuthlaw04.TreeBuilds", spec := "treeBuilds", inPlace := ["math.Float64frombits", "internal/bytealg.IndexByteString"], unfollowed := true, recurses := true, apart := false }
def TreeBuildsSaid : Prop := treeBuildsRow.holds Try.pinned (OpenSpec.ofChange treeBuildsSpec)

/-- ITS FALSE NEIGHBOUR: 'it returns false'. Refute it at one input. -/
def treeBuildsWrong : ChangeSpec := { name := "treeBuilds", fn := fun _ => fun
  | [d] => { results := [.lit (.bool false)], args := [d] }
  | _ => none }
def TreeBuildsWrongFalsely : Prop := treeBuildsRow.holds Try.pinned (OpenSpec.ofChange treeBuildsWrong)

/- THE SECOND FORM. 'bulk': how many values and letters a reading holds, each counted each time it is reached (what is shared counts as often as it is met; a slice's spare places count too). A statement '..UptoSaid' is the law's where the arguments, and the package variables that the reading takes, are together of bulk at most 1048576: NARROWER than '..Said'. Prove '..Said' where nothing that the law and all that it calls make is longer than what came in: it says more and counts as full. Else prove '..UptoSaid'. A law counts once. -/
mutual
def uptoBulk {H : Type} : DataW H → Nat
  | .lit (.string bytes) => bytes.length + 1
  | .lit _ => 1
  | .nil => 1
  | .ptr d => uptoBulk d + 1
  | .slice elems spare => uptoBulkAll elems + uptoBulkAll spare + 1
  | .agg parts => uptoBulkAll parts + 1
  | .iface _ d => uptoBulk d + 1
  | .map entries => uptoBulkEntries entries + 1
  | .held _ => 1
def uptoBulkAll {H : Type} : List (DataW H) → Nat
  | [] => 0
  | d :: r => uptoBulk d + uptoBulkAll r
def uptoBulkEntries {H : Type} : List (Lit × DataW H) → Nat
  | [] => 0
  | x :: r => uptoBulkEntry x + uptoBulkEntries r
def uptoBulkEntry {H : Type} : Lit × DataW H → Nat
  | (.string bytes, d) => bytes.length + uptoBulk d + 1
  | (_, d) => uptoBulk d + 1
 end
def uptoSmall : (H : Type) → List (DataW H) → Bool := fun _ ds => decide (uptoBulkAll ds ≤ 1048576)
def OpenSpec.upto (s : _root_.Go.ChangeSpec) : _root_.Go.OpenSpec := { _root_.Go.OpenSpec.ofChange s with cond := some uptoSmall }

/-- 'azimuthlaw04.TreeFull', WHERE WHAT IT READS IS OF BULK AT MOST 1048576: true; the input reads as it did. -/
def treeFullUptoRow : OpenClaim := { program := "ytcmdnlpkplaapaa", sum := "3eb8d6f1c50da629e18029f75ca054fd1412eb1b830a75a6ccc6e87c71921ef9", func := "azimuth/azimuthlaw04.TreeFull", spec := "treeFull", inPlace := ["math.Float64frombits", "internal/bytealg.IndexByteString"], unfollowed := true, recurses := true, apart := false, narrowed := true }
def TreeFullUptoSaid : Prop := treeFullUptoRow.holds Try.pinned (OpenSpec.upto treeFullSpec)

/-- 'azimuthlaw04.TreeAround', WHERE WHAT IT READS IS OF BULK AT MOST 1048576: true; the input reads as it did. -/
def treeAroundUptoRow : OpenClaim := { program := "ytcmdnlpkplaapaa", sum := "3eb8d6f1c50da629e18029f75ca054fd1412eb1b830a75a6ccc6e87c71921ef9", func := "azimuth/azimuthlaw04.TreeAround", spec := "treeAround", inPlace := ["math.Float64frombits", "internal/bytealg.IndexByteString"], unfollowed := true, recurses := true, apart := false, narrowed := true }
def TreeAroundUptoSaid : Prop := treeAroundUptoRow.holds Try.pinned (OpenSpec.upto treeAroundSpec)

/-- 'azimuthlaw04.TreeSame', WHERE WHAT IT READS IS OF BULK AT MOST 1048576: true; the input reads as it did. -/
def treeSameUptoRow : OpenClaim := { program := "ytcmdnlpkplaapaa", sum := "3eb8d6f1c50da629e18029f75ca054fd1412eb1b830a75a6ccc6e87c71921ef9", func := "azimuth/azimuthlaw04.TreeSame", spec := "treeSame", inPlace := ["math.Float64frombits", "internal/bytealg.IndexByteString"], unfollowed := true, recurses := true, apart := false, narrowed := true }
def TreeSameUptoSaid : Prop := treeSameUptoRow.holds Try.pinned (OpenSpec.upto treeSameSpec)

/-- 'azimuthlaw04.TreeBuilds', WHERE WHAT IT READS IS OF BULK AT MOST 1048576: true; the input reads as it did. -/
def treeBuildsUptoRow : OpenClaim := { program := "ytcmdnlpkplaapaa", sum := "3eb8d6f1c50da629e18029f75ca054fd1412eb1b830a75a6ccc6e87c71921ef9", func := "azimuth/azimuthlaw04.TreeBuilds", spec := "treeBuilds", inPlace := ["math.Float64frombits", "internal/bytealg.IndexByteString"], unfollowed := true, recurses := true, apart := false, narrowed := true }
def TreeBuildsUptoSaid : Prop := treeBuildsUptoRow.holds Try.pinned (OpenSpec.upto treeBuildsSpec)

end Rows
end Go.Proofs.Ytcmdnlpkplaapaa
