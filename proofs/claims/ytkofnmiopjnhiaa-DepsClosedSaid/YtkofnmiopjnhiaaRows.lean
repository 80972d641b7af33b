/-
  No cell of these rows narrows 'for every input' (looked for: loops, veiled, ifaces, maps, wideKeys, modest, calm, conditions, laid).
  DERIVED. THE GIVEN ROWS OF THIS SEAT. 6 by the template 'for every input the law returns true; each argument reads behind the call as it read before'; 0 by the template 'total and deterministic' (their statements: YtkofnmiopjnhiaaTotals.lean).
  GIVEN WITH THE SEED: the statements are not yours to turn. If you find one false, say at which input.
  Laid BY PROGRAM, IN A SANDBOX (cutbox-rows.mjs): the forced cells as the released guide's own fill.sh prints them over the translation f95e9890b918e4d2… (all of the seat's roots in one cut). By AI agents, Wed Nov 11 2026. No macro, syntax, notation, axiom, sorry.
-/
import Derived.Test.YtkofnmiopjnhiaaChecked
import GoSem.Claim
import GoSem.ClaimJoined
import GoSem.ClaimMapViews
import Derived.JoinedTies
import Derived.KernelRfl
namespace Go.Proofs.Ytkofnmiopjnhiaa
/- THE CELL 'sum', in the pinned program and in every row, IS THE sha256 OF THE DUMP (.gsa) THAT YtkofnmiopjnhiaaProg.lean LOADS. Nothing in Lean hashes anything: it is a label: what it is worth is what the hold of that sum in a sandbox is worth. -/
noncomputable def Try.pinned : Pinned := { name := "ytkofnmiopjnhiaa", sum := "f95e9890b918e4d28e09ccbe23668b69394094270a74dec735229fbdc93e9074", checked := Try.checked }
namespace Rows
def none {H : Type} : Left H := { results := [], args := [] }

/-- 'azimuthlaw24.DepsClosed': WHATEVER THE INPUT: true; the input reads as it did. -/
def depsClosedSpec : ChangeSpec := { name := "depsClosed", fn := fun _ => fun
  | [d] => { results := [.lit (.bool true)], args := [d] }
  | _ => none }
def depsClosedRow : OpenClaim := { program := "ytkofnmiopjnhiaa", sum := "f95e9890b918e4d28e09ccbe23668b69394094270a74dec735229fbdc93e9074", func := "azimuth/azimuthlaw24.DepsClosed", spec := "depsClosed", unfollowed := true, recurses := true, apart := false }
def DepsClosedSaid : Prop := depsClosedRow.holds Try.pinned (OpenSpec.ofChange depsClosedSpec)

/-- ITS FALSE NEIGHBOUR: 'it returns false'. Refute it at one input. -/
def depsClosedWrong : ChangeSpec := { name := "depsClosed", fn := fun _ => fun
  | [d] => { results := [.lit (.bool false)], args := [d] }
  | _ => none }
def DepsClosedWrongFalsely : Prop := depsClosedRow.holds Try.pinned (OpenSpec.ofChange depsClosedWrong)

/-- 'azimuthlaw24.DepsPuts': WHATEVER THE INPUT: true; the input reads as it did. -/
def depsPutsSpec : ChangeSpec := { name := "depsPuts", fn := fun _ => fun
  | [d1, d2] => { results := [.lit (.bool true)], args := [d1, d2] }
  | _ => none }
def depsPutsRow : OpenClaim := { program := "ytkofnmiopjnhiaa", sum := "f95e9890b918e4d28e09ccbe23668b69394094270a74dec735229fbdc93e9074", func := "azimuth/azimuthlaw24.DepsPuts", spec := "depsPuts", unfollowed := true, recurses := true, apart := false }
def DepsPutsSaid : Prop := depsPutsRow.holds Try.pinned (OpenSpec.ofChange depsPutsSpec)

/-- ITS FALSE NEIGHBOUR: 'it returns false'. Refute it at one input. -/
def depsPutsWrong : ChangeSpec := { name := "depsPuts", fn := fun _ => fun
  | [d1, d2] => { results := [.lit (.bool false)], args := [d1, d2] }
  | _ => none }
def DepsPutsWrongFalsely : Prop := depsPutsRow.holds Try.pinned (OpenSpec.ofChange depsPutsWrong)

/-- 'azimuthlaw25.OrderAny': WHATEVER THE INPUT: true; the input reads as it did. -/
def orderAnySpec : ChangeSpec := { name := "orderAny", fn := fun _ => fun
  | [d] => { results := [.lit (.bool true)], args := [d] }
  | _ => none }
def orderAnyRow : OpenClaim := { program := "ytkofnmiopjnhiaa", sum := "f95e9890b918e4d28e09ccbe23668b69394094270a74dec735229fbdc93e9074", func := "azimuth/azimuthlaw25.OrderAny", spec := "orderAny", unfollowed := true, recurses := true, apart := false }
def OrderAnySaid : Prop := orderAnyRow.holds Try.pinned (OpenSpec.ofChange orderAnySpec)

/-- ITS FALSE NEIGHBOUR: 'it returns false'. Refute it at one input. -/
def orderAnyWrong : ChangeSpec := { name := "orderAny", fn := fun _ => fun
  | [d] => { results := [.lit (.bool false)], args := [d] }
  | _ => none }
def OrderAnyWrongFalsely : Prop := orderAnyRow.holds Try.pinned (OpenSpec.ofChange orderAnyWrong)

/-- 'azimuthlaw25.OrderLong': WHATEVER THE INPUT: true; the input reads as it did. -/
def orderLongSpec : ChangeSpec := { name := "orderLong", fn := fun _ => fun
  | [d1, d2] => { results := [.lit (.bool true)], args := [d1, d2] }
  | _ => none }
def orderLongRow : OpenClaim := { program := "ytkofnmiopjnhiaa", sum := "f95e9890b918e4d28e09ccbe23668b69394094270a74dec735229fbdc93e9074", func := "azimuth/azimuthlaw25.OrderLong", spec := "orderLong", unfollowed := true, recurses := true, apart := false }
def OrderLongSaid : Prop := orderLongRow.holds Try.pinned (OpenSpec.ofChange orderLongSpec)

/-- ITS FALSE NEIGHBOUR: 'it returns false'. Refute it at one input. -/
def orderLongWrong : ChangeSpec := { name := "orderLong", fn := fun _ => fun
  | [d1, d2] => { results := [.lit (.bool false)], args := [d1, d2] }
  | _ => none }
def OrderLongWrongFalsely : Prop := orderLongRow.holds Try.pinned (OpenSpec.ofChange orderLongWrong)

/-- 'azimuthlaw25.OrderGroups': WHATEVER THE INPUT: true; the input reads as it did. -/
def orderGroupsSpec : ChangeSpec := { name := "orderGroups", fn := fun _ => fun
  | [d] => { results := [.lit (.bool true)], args := [d] }
  | _ => none }
def orderGroupsRow : OpenClaim := { program := "ytkofnmiopjnhiaa", sum := "f95e9890b918e4d28e09ccbe23668b69394094270a74dec735229fbdc93e9074", func := "azimuth/azimuthlaw25.OrderGroups", spec := "orderGroups", unfollowed := true, recurses := true, apart := false }
def OrderGroupsSaid : Prop := orderGroupsRow.holds Try.pinned (OpenSpec.ofChange orderGroupsSpec)

/-- ITS FALSE NEIGHBOUR: 'it returns false'. Refute it at one input. -/
def orderGroupsWrong : ChangeSpec := { name := "orderGroups", fn := fun _ => fun
  | [d] => { results := [.lit (.bool false)], args := [d] }
  | _ => none }
def OrderGroupsWrongFalsely : Prop := orderGroupsRow.holds Try.pinned (OpenSpec.ofChange orderGroupsWrong)

/-- 'azimuthlaw25.OrderAbove': WHATEVER THE INPUT: true; the input reads as it did. -/
def orderAboveSpec : ChangeSpec := { name := "orderAbove", fn := fun _ => fun
  | [d1, d2] => { results := [.lit (.bool true)], args := [d1, d2] }
  | _ => none }
def orderAboveRow : OpenClaim := { program := "ytkofnmiopjnhiaa", sum := "f95e9890b918e4d28e09ccbe23668b69394094270a74dec735229fbdc93e9074", func := "azimuth/azimuthlaw25.OrderAbove", spec := "orderAbove", unfollowed := true, recurses := true, apart := false }
def OrderAboveSaid : Prop := orderAboveRow.holds Try.pinned (OpenSpec.ofChange orderAboveSpec)

/-- ITS FALSE NEIGHBOUR: 'it returns false'. Refute it at one input. -/
def orderAboveWrong : ChangeSpec := { name := "orderAbove", fn := fun _ => fun
  | [d1, d2] => { results := [.lit (.bool false)], args := [d1, d2] }
  | _ => none }
def OrderAboveWrongFalsely : Prop := orderAboveRow.holds Try.pinned (OpenSpec.ofChange orderAboveWrong)

/- THE SECOND FORM. 'bulk': how many values and letters a reading holds, each counted each time it is reached (what is shared counts as often as it is met; a slice's spare places count too). A statement '..UptoSaid' is the law's where the arguments, and the package variables that the reading takes, are together of bulk at most 1048576: NARROWER than '..Said'. Prove '..Said' where nothing that the law and all that it calls make is longer than what came in: it says more and counts as full. Else prove '..UptoSaid'. A law counts once. -/
mutual
def uptoBulk {H : Type} : DataW H → Nat
  | .lit (.string bytes) => bytes.length + 1
  | .lit _ => 1
  | .nil => 1
  | .ptr d => uptoBulk d + 1
  | .slice elems spare => uptoBulkAll elems + uptoBulkAll spare + 1
  | .agg parts => uptoBulkAll parts + 1
  | .iface _ d => uptoBulk d + 1
  | .map entries => uptoBulkEntries entries + 1
  | .held _ => 1
def uptoBulkAll {H : Type} : List (DataW H) → Nat
  | [] => 0
  | d :: r => uptoBulk d + uptoBulkAll r
def uptoBulkEntries {H : Type} : List (Lit × DataW H) → Nat
  | [] => 0
  | x :: r => uptoBulkEntry x + uptoBulkEntries r
def uptoBulkEntry {H : Type} : Lit × DataW H → Nat
  | (.string bytes, d) => bytes.length + uptoBulk d + 1
  | (_, d) => uptoBulk d + 1
 end
def uptoSmall : (H : Type) → List (DataW H) → Bool := fun _ ds => decide (uptoBulkAll ds ≤ 1048576)
def OpenSpec.upto (s : _root_.Go.ChangeSpec) : _root_.Go.OpenSpec := { _root_.Go.OpenSpec.ofChange s with cond := some uptoSmall }

/-- 'azimuthlaw24.DepsClosed', WHERE WHAT IT READS IS OF BULK AT MOST 1048576: true; the input reads as it did. -/
def depsClosedUptoRow : OpenClaim := { program := "ytkofnmiopjnhiaa", sum := "f95e9890b918e4d28e09ccbe23668b69394094270a74dec735229fbdc93e9074", func := "azimuth/azimuthlaw24.DepsClosed", spec := "depsClosed", unfollowed := true, recurses := true, apart := false, narrowed := true }
def DepsClosedUptoSaid : Prop := depsClosedUptoRow.holds Try.pinned (OpenSpec.upto depsClosedSpec)

/-- 'azimuthlaw24.DepsPuts', WHERE WHAT IT READS IS OF BULK AT MOST 1048576: true; the input reads as it did. -/
def depsPutsUptoRow : OpenClaim := { program := "ytkofnmiopjnhiaa", sum := "f95e9890b918e4d28e09ccbe23668b69394094270a74dec735229fbdc93e9074", func := "azimuth/azimuthlaw24.DepsPuts", spec := "depsPuts", unfollowed := true, recurses := true, apart := false, narrowed := true }
def DepsPutsUptoSaid : Prop := depsPutsUptoRow.holds Try.pinned (OpenSpec.upto depsPutsSpec)

/-- 'azimuthlaw25.OrderAny', WHERE WHAT IT READS IS OF BULK AT MOST 1048576: true; the input reads as it did. -/
def orderAnyUptoRow : OpenClaim := { program := "ytkofnmiopjnhiaa", sum := "f95e9890b918e4d28e09ccbe23668b69394094270a74dec735229fbdc93e9074", func := "azimuth/azimuthlaw25.OrderAny", spec := "orderAny", unfollowed := true, recurses := true, apart := false, narrowed := true }
def OrderAnyUptoSaid : Prop := orderAnyUptoRow.holds Try.pinned (OpenSpec.upto orderAnySpec)

/-- 'azimuthlaw25.OrderLong', WHERE WHAT IT READS IS OF BULK AT MOST 1048576: true; the input reads as it did. -/
def orderLongUptoRow : OpenClaim := { program := "ytkofnmiopjnhiaa", sum := "f95e9890b918e4d28e09ccbe23668b69394094270a74dec735229fbdc93e9074", func := "azimuth/azimuthlaw25.OrderLong", spec := "orderLong", unfollowed := true, recurses := true, apart := false, narrowed := true }
def OrderLongUptoSaid : Prop := orderLongUptoRow.holds Try.pinned (OpenSpec.upto orderLongSpec)

/-- 'azimuthlaw25.OrderGroups', WHERE WHAT IT READS IS OF BULK AT MOST 1048576: true; the input reads as it did. -/
def orderGroupsUptoRow : OpenClaim := { program := "ytkofnmiopjnhiaa", sum := "f95e9890b918e4d28e09ccbe23668b69394094270a74dec735229fbdc93e9074", func := "azimuth/azimuthlaw25.OrderGroups", spec := "orderGroups", unfollowed := true, recurses := true, apart := false, narrowed := true }
def OrderGroupsUptoSaid : Prop := orderGroupsUptoRow.holds Try.pinned (OpenSpec.upto orderGroupsSpec)

/-- 'azimuthlaw25.OrderAbove', WHERE WHAT IT READS IS OF BULK AT MOST 1048576: true; the input reads as it did. -/
def orderAboveUptoRow : OpenClaim := { program := "ytkofnmiopjnhiaa", sum := "f95e9890b918e4d28e09ccbe23668b69394094270a74dec735229fbdc93e9074", func := "azimuth/azimuthlaw25.OrderAbove", spec := "orderAbove", unfollowed := true, recurses := true, apart := false, narrowed := true }
def OrderAboveUptoSaid : Prop := orderAboveUptoRow.holds Try.pinned (OpenSpec.upto orderAboveSpec)

end Rows
end Go.Proofs.Ytkofnmiopjnhiaa
