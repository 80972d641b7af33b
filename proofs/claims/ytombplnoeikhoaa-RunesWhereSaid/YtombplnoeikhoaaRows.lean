/-
  No cell of these rows narrows 'for every input' (looked for: loops, veiled, ifaces, maps, wideKeys, modest, calm, conditions, laid).
  DERIVED. THE GIVEN ROWS OF THIS SEAT. 5 by the template 'for every input the law returns true; each argument reads behind the call as it read before'; 0 by the template 'total and deterministic' (their statements: YtombplnoeikhoaaTotals.lean).
  GIVEN WITH THE SEED: the statements are not yours to turn. If you find one false, say at which input.
  Laid BY PROGRAM, IN A SANDBOX (cutbox-rows.mjs): the forced cells as the released guide's own fill.sh prints them over the translation a4b6a5a9ee738667… (all of the seat's roots in one cut). By AI agents, Wed Nov 11 2026. No macro, syntax, notation, axiom, sorry.
-/
import Derived.Test.YtombplnoeikhoaaChecked
import GoSem.Claim
import GoSem.ClaimJoined
import GoSem.ClaimMapViews
import Derived.JoinedTies
import Derived.KernelRfl
namespace Go.Proofs.Ytombplnoeikhoaa
/- THE CELL 'sum', in the pinned program and in every row, IS THE sha256 OF THE DUMP (.gsa) THAT YtombplnoeikhoaaProg.lean LOADS. Nothing in Lean hashes anything: it is a label: what it is worth is what the hold of that sum in a sandbox is worth. -/
noncomputable def Try.pinned : Pinned := { name := "ytombplnoeikhoaa", sum := "a4b6a5a9ee7386671c54daa00ba2c37157027f4478337924d65993ca82a89ffc", checked := Try.checked }
namespace Rows
def none {H : Type} : Left H := { results := [], args := [] }

/-- 'azimuthlaw01.RunesWhere': WHATEVER THE INPUT: true; the input reads as it did. -/
def runesWhereSpec : ChangeSpec := { name := "runesWhere", fn := fun _ => fun
  | [d1, d2] => { results := [.lit (.bool true)], args := [d1, d2] }
  | _ => none }
def runesWhereRow : OpenClaim := { program := "ytombplnoeikhoaa", sum := "a4b6a5a9ee7386671c54daa00ba2c37157027f4478337924d65993ca82a89ffc", func := "azimuth/azimuthlaw01.RunesWhere", spec := "runesWhere", unfollowed := true, recurses := true, apart := false }
def RunesWhereSaid : Prop := runesWhereRow.holds Try.pinned (OpenSpec.ofChange runesWhereSpec)

/-- ITS FALSE NEIGHBOUR: 'it returns false'. Refute it at one input. -/
def runesWhereWrong : ChangeSpec := { name := "runesWhere", fn := fun _ => fun
  | [d1, d2] => { results := [.lit (.bool false)], args := [d1, d2] }
  | _ => none }
def RunesWhereWrongFalsely : Prop := runesWhereRow.holds Try.pinned (OpenSpec.ofChange runesWhereWrong)

/-- 'azimuthlaw01.RunesCuts': WHATEVER THE INPUT: true; the input reads as it did. -/
def runesCutsSpec : ChangeSpec := { name := "runesCuts", fn := fun _ => fun
  | [d1, d2] => { results := [.lit (.bool true)], args := [d1, d2] }
  | _ => none }
def runesCutsRow : OpenClaim := { program := "ytombplnoeikhoaa", sum := "a4b6a5a9ee7386671c54daa00ba2c37157027f4478337924d65993ca82a89ffc", func := "azimuth/azimuthlaw01.RunesCuts", spec := "runesCuts", unfollowed := true, recurses := true, apart := false }
def RunesCutsSaid : Prop := runesCutsRow.holds Try.pinned (OpenSpec.ofChange runesCutsSpec)

/-- ITS FALSE NEIGHBOUR: 'it returns false'. Refute it at one input. -/
def runesCutsWrong : ChangeSpec := { name := "runesCuts", fn := fun _ => fun
  | [d1, d2] => { results := [.lit (.bool false)], args := [d1, d2] }
  | _ => none }
def RunesCutsWrongFalsely : Prop := runesCutsRow.holds Try.pinned (OpenSpec.ofChange runesCutsWrong)

/-- 'azimuthlaw01.RunesReads': WHATEVER THE INPUT: true; the input reads as it did. -/
def runesReadsSpec : ChangeSpec := { name := "runesReads", fn := fun _ => fun
  | [d] => { results := [.lit (.bool true)], args := [d] }
  | _ => none }
def runesReadsRow : OpenClaim := { program := "ytombplnoeikhoaa", sum := "a4b6a5a9ee7386671c54daa00ba2c37157027f4478337924d65993ca82a89ffc", func := "azimuth/azimuthlaw01.RunesReads", spec := "runesReads", unfollowed := true, recurses := true, apart := false }
def RunesReadsSaid : Prop := runesReadsRow.holds Try.pinned (OpenSpec.ofChange runesReadsSpec)

/-- ITS FALSE NEIGHBOUR: 'it returns false'. Refute it at one input. -/
def runesReadsWrong : ChangeSpec := { name := "runesReads", fn := fun _ => fun
  | [d] => { results := [.lit (.bool false)], args := [d] }
  | _ => none }
def RunesReadsWrongFalsely : Prop := runesReadsRow.holds Try.pinned (OpenSpec.ofChange runesReadsWrong)

/-- 'azimuthlaw01.RunesJoin': WHATEVER THE INPUT: true; the input reads as it did. -/
def runesJoinSpec : ChangeSpec := { name := "runesJoin", fn := fun _ => fun
  | [d1, d2] => { results := [.lit (.bool true)], args := [d1, d2] }
  | _ => none }
def runesJoinRow : OpenClaim := { program := "ytombplnoeikhoaa", sum := "a4b6a5a9ee7386671c54daa00ba2c37157027f4478337924d65993ca82a89ffc", func := "azimuth/azimuthlaw01.RunesJoin", spec := "runesJoin", unfollowed := true, recurses := true, apart := false }
def RunesJoinSaid : Prop := runesJoinRow.holds Try.pinned (OpenSpec.ofChange runesJoinSpec)

/-- ITS FALSE NEIGHBOUR: 'it returns false'. Refute it at one input. -/
def runesJoinWrong : ChangeSpec := { name := "runesJoin", fn := fun _ => fun
  | [d1, d2] => { results := [.lit (.bool false)], args := [d1, d2] }
  | _ => none }
def RunesJoinWrongFalsely : Prop := runesJoinRow.holds Try.pinned (OpenSpec.ofChange runesJoinWrong)

/-- 'azimuthlaw01.RunesEncodes': WHATEVER THE INPUT: true; the input reads as it did. -/
def runesEncodesSpec : ChangeSpec := { name := "runesEncodes", fn := fun _ => fun
  | [d] => { results := [.lit (.bool true)], args := [d] }
  | _ => none }
def runesEncodesRow : OpenClaim := { program := "ytombplnoeikhoaa", sum := "a4b6a5a9ee7386671c54daa00ba2c37157027f4478337924d65993ca82a89ffc", func := "azimuth/azimuthlaw01.RunesEncodes", spec := "runesEncodes", unfollowed := true, recurses := true, apart := false }
def RunesEncodesSaid : Prop := runesEncodesRow.holds Try.pinned (OpenSpec.ofChange runesEncodesSpec)

/-- ITS FALSE NEIGHBOUR: 'it returns false'. Refute it at one input. -/
def runesEncodesWrong : ChangeSpec := { name := "runesEncodes", fn := fun _ => fun
  | [d] => { results := [.lit (.bool false)], args := [d] }
  | _ => none }
def RunesEncodesWrongFalsely : Prop := runesEncodesRow.holds Try.pinned (OpenSpec.ofChange runesEncodesWrong)

/- THE SECOND FORM. 'bulk': how many values and letters a reading holds, each counted each time it is reached (what is shared counts as often as it is met; a slice's spare places count too). A statement '..UptoSaid' is the law's where the arguments, and the package variables that the reading takes, are together of bulk at most 1048576: NARROWER than '..Said'. Prove '..Said' where nothing that the law and all that it calls make is longer than what came in: it says more and counts as full. Else prove '..UptoSaid'. A law counts once. -/
mutual
def uptoBulk {H : Type} : DataW H → Nat
  | .lit (.string bytes) => bytes.length + 1
  | .lit _ => 1
  | .nil => 1
  | .ptr d => uptoBulk d + 1
  | .slice elems spare => uptoBulkAll elems + uptoBulkAll spare + 1
  | .agg parts => uptoBulkAll parts + 1
  | .iface _ d => uptoBulk d + 1
  | .map entries => uptoBulkEntries entries + 1
  | .held _ => 1
def uptoBulkAll {H : Type} : List (DataW H) → Nat
  | [] => 0
  | d :: r => uptoBulk d + uptoBulkAll r
def uptoBulkEntries {H : Type} : List (Lit × DataW H) → Nat
  | [] => 0
  | x :: r => uptoBulkEntry x + uptoBulkEntries r
def uptoBulkEntry {H : Type} : Lit × DataW H → Nat
  | (.string bytes, d) => bytes.length + uptoBulk d + 1
  | (_, d) => uptoBulk d + 1
 end
def uptoSmall : (H : Type) → List (DataW H) → Bool := fun _ ds => decide (uptoBulkAll ds ≤ 1048576)
def OpenSpec.upto (s : _root_.Go.ChangeSpec) : _root_.Go.OpenSpec := { _root_.Go.OpenSpec.ofChange s with cond := some uptoSmall }

/-- 'azimuthlaw01.RunesWhere', WHERE WHAT IT READS IS OF BULK AT MOST 1048576: true; the input reads as it did. -/
def runesWhereUptoRow : OpenClaim := { program := "ytombplnoeikhoaa", sum := "a4b6a5a9ee7386671c54daa00ba2c37157027f4478337924d65993ca82a89ffc", func := "azimuth/azimuthlaw01.RunesWhere", spec := "runesWhere", unfollowed := true, recurses := true, apart := false, narrowed := true }
def RunesWhereUptoSaid : Prop := runesWhereUptoRow.holds Try.pinned (OpenSpec.upto runesWhereSpec)

/-- 'azimuthlaw01.RunesCuts', WHERE WHAT IT READS IS OF BULK AT MOST 1048576: true; the input reads as it did. -/
def runesCutsUptoRow : OpenClaim := { program := "ytombplnoeikhoaa", sum := "a4b6a5a9ee7386671c54daa00ba2c37157027f4478337924d65993ca82a89ffc", func := "azimuth/azimuthlaw01.RunesCuts", spec := "runesCuts", unfollowed := true, recurses := true, apart := false, narrowed := true }
def RunesCutsUptoSaid : Prop := runesCutsUptoRow.holds Try.pinned (OpenSpec.upto runesCutsSpec)

/-- 'azimuthlaw01.RunesReads', WHERE WHAT IT READS IS OF BULK AT MOST 1048576: true; the input reads as it did. -/
def runesReadsUptoRow : OpenClaim := { program := "ytombplnoeikhoaa", sum := "a4b6a5a9ee7386671c54daa00ba2c37157027f4478337924d65993ca82a89ffc", func := "azimuth/azimuthlaw01.RunesReads", spec := "runesReads", unfollowed := true, recurses := true, apart := false, narrowed := true }
def RunesReadsUptoSaid : Prop := runesReadsUptoRow.holds Try.pinned (OpenSpec.upto runesReadsSpec)

/-- 'azimuthlaw01.RunesJoin', WHERE WHAT IT READS IS OF BULK AT MOST 1048576: true; the input reads as it did. -/
def runesJoinUptoRow : OpenClaim := { program := "ytombplnoeikhoaa", sum := "a4b6a5a9ee7386671c54daa00ba2c37157027f4478337924d65993ca82a89ffc", func := "azimuth/azimuthlaw01.RunesJoin", spec := "runesJoin", unfollowed := true, recurses := true, apart := false, narrowed := true }
def RunesJoinUptoSaid : Prop := runesJoinUptoRow.holds Try.pinned (OpenSpec.upto runesJoinSpec)

/-- 'azimuthlaw01.RunesEncodes', WHERE WHAT IT READS IS OF BULK AT MOST 1048576: true; the input reads as it did. -/
def runesEncodesUptoRow : OpenClaim := { program := "ytombplnoeikhoaa", sum := "a4b6a5a9ee7386671c54daa00ba2c37157027f4478337924d65993ca82a89ffc", func := "azimuth/azimuthlaw01.RunesEncodes", spec := "runesEncodes", unfollowed := true, recurses := true, apart := false, narrowed := true }
def RunesEncodesUptoSaid : Prop := runesEncodesUptoRow.holds Try.pinned (OpenSpec.upto runesEncodesSpec)

end Rows
end Go.Proofs.Ytombplnoeikhoaa
