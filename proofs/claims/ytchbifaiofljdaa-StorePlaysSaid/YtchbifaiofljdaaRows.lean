/-
  No cell of these rows narrows 'for every input' (looked for: loops, veiled, ifaces, maps, wideKeys, modest, calm, conditions, laid).
  DERIVED. THE GIVEN ROWS OF THIS SEAT. 9 by the template 'for every input the law returns true; each argument reads behind the call as it read before'; 0 by the template 'total and deterministic' (their statements: YtchbifaiofljdaaTotals.lean).
  GIVEN WITH THE SEED: the statements are not yours to turn. If you find one false, say at which input.
  Laid BY PROGRAM, IN A SANDBOX (cutbox-rows.mjs): the forced cells as the released guide's own fill.sh prints them over the translation 5e5dc15dfdda238d… (all of the seat's roots in one cut). By AI agents, Wed Nov 11 2026. No macro, syntax, notation, axiom, sorry.
-/
import Derived.Test.YtchbifaiofljdaaChecked
import GoSem.Claim
import GoSem.ClaimJoined
import GoSem.ClaimMapViews
import Derived.JoinedTies
import Derived.KernelRfl
namespace Go.Proofs.Ytchbifaiofljdaa
/- THE CELL 'sum', in the pinned program and in every row, IS THE sha256 OF THE DUMP (.gsa) THAT YtchbifaiofljdaaProg.lean LOADS. Nothing in Lean hashes anything: it is a label: what it is worth is what the hold of that sum in a sandbox is worth. -/
noncomputable def Try.pinned : Pinned := { name := "ytchbifaiofljdaa", sum := "5e5dc15dfdda238d52377c8c86994473952331d6ea3bef0b8e48962e3c43c335", checked := Try.checked }
namespace Rows
def none {H : Type} : Left H := { results := [], args := [] }

/-- 'azimuthlaw23.StoreFull': WHATEVER THE INPUT: true; the input reads as it did. -/
def storeFullSpec : ChangeSpec := { name := "storeFull", fn := fun _ => fun
  | [d] => { results := [.lit (.bool true)], args := [d] }
  | _ => none }
def storeFullRow : OpenClaim := { program := "ytchbifaiofljdaa", sum := "5e5dc15dfdda238d52377c8c86994473952331d6ea3bef0b8e48962e3c43c335", func := "azimuth/azimuthlaw23.StoreFull", spec := "storeFull", unfollowed := true, recurses := true, apart := false }
def StoreFullSaid : Prop := storeFullRow.holds Try.pinned (OpenSpec.ofChange storeFullSpec)

/-- ITS FALSE NEIGHBOUR: 'it returns false'. Refute it at one input. -/
def storeFullWrong : ChangeSpec := { name := "storeFull", fn := fun _ => fun
  | [d] => { results := [.lit (.bool false)], args := [d] }
  | _ => none }
def StoreFullWrongFalsely : Prop := storeFullRow.holds Try.pinned (OpenSpec.ofChange storeFullWrong)

/-- 'azimuthlaw03.LexerBlanks': WHATEVER THE INPUT: true; the input reads as it did. -/
def lexerBlanksSpec : ChangeSpec := { name := "lexerBlanks", fn := fun _ => fun
  | [d] => { results := [.lit (.bool true)], args := [d] }
  | _ => none }
def lexerBlanksRow : OpenClaim := { program := "ytchbifaiofljdaa", sum := "5e5dc15dfdda238d52377c8c86994473952331d6ea3bef0b8e48962e3c43c335", func := "azimuth/azimuthlaw03.LexerBlanks", spec := "lexerBlanks", inPlace := ["internal/bytealg.IndexByteString", "math.Float64frombits"], unfollowed := true, recurses := true, apart := false }
def LexerBlanksSaid : Prop := lexerBlanksRow.holds Try.pinned (OpenSpec.ofChange lexerBlanksSpec)

/-- ITS FALSE NEIGHBOUR: 'it returns false'. Refute it at one input. -/
def lexerBlanksWrong : ChangeSpec := { name := "lexerBlanks", fn := fun _ => fun
  | [d] => { results := [.lit (.bool false)], args := [d] }
  | _ => none }
def LexerBlanksWrongFalsely : Prop := lexerBlanksRow.holds Try.pinned (OpenSpec.ofChange lexerBlanksWrong)

/-- 'azimuthlaw03.LexerReads': WHATEVER THE INPUT: true; the input reads as it did. -/
def lexerReadsSpec : ChangeSpec := { name := "lexerReads", fn := fun _ => fun
  | [d] => { results := [.lit (.bool true)], args := [d] }
  | _ => none }
def lexerReadsRow : OpenClaim := { program := "ytchbifaiofljdaa", sum := "5e5dc15dfdda238d52377c8c86994473952331d6ea3bef0b8e48962e3c43c335", func := "azimuth/azimuthlaw03.LexerReads", spec := "lexerReads", inPlace := ["internal/bytealg.IndexByteString", "math.Float64frombits"], unfollowed := true, recurses := true, apart := false }
def LexerReadsSaid : Prop := lexerReadsRow.holds Try.pinned (OpenSpec.ofChange lexerReadsSpec)

/-- ITS FALSE NEIGHBOUR: 'it returns false'. Refute it at one input. -/
def lexerReadsWrong : ChangeSpec := { name := "lexerReads", fn := fun _ => fun
  | [d] => { results := [.lit (.bool false)], args := [d] }
  | _ => none }
def LexerReadsWrongFalsely : Prop := lexerReadsRow.holds Try.pinned (OpenSpec.ofChange lexerReadsWrong)

/-- 'azimuthlaw03.LexerLong': WHATEVER THE INPUT: true; the input reads as it did. -/
def lexerLongSpec : ChangeSpec := { name := "lexerLong", fn := fun _ => fun
  | [d] => { results := [.lit (.bool true)], args := [d] }
  | _ => none }
def lexerLongRow : OpenClaim := { program := "ytchbifaiofljdaa", sum := "5e5dc15dfdda238d52377c8c86994473952331d6ea3bef0b8e48962e3c43c335", func := "azimuth/azimuthlaw03.LexerLong", spec := "lexerLong", inPlace := ["internal/bytealg.IndexByteString", "math.Float64frombits"], unfollowed := true, recurses := true, apart := false }
def LexerLongSaid : Prop := lexerLongRow.holds Try.pinned (OpenSpec.ofChange lexerLongSpec)

/-- ITS FALSE NEIGHBOUR: 'it returns false'. Refute it at one input. -/
def lexerLongWrong : ChangeSpec := { name := "lexerLong", fn := fun _ => fun
  | [d] => { results := [.lit (.bool false)], args := [d] }
  | _ => none }
def LexerLongWrongFalsely : Prop := lexerLongRow.holds Try.pinned (OpenSpec.ofChange lexerLongWrong)

/-- 'azimuthlaw03.LexerNames': WHATEVER THE INPUT: true; the input reads as it did. -/
def lexerNamesSpec : ChangeSpec := { name := "lexerNames", fn := fun _ => fun
  | [d] => { results := [.lit (.bool true)], args := [d] }
  | _ => none }
def lexerNamesRow : OpenClaim := { program := "ytchbifaiofljdaa", sum := "5e5dc15dfdda238d52377c8c86994473952331d6ea3bef0b8e48962e3c43c335", func := "azimuth/azimuthlaw03.LexerNames", spec := "lexerNames", inPlace := ["internal/bytealg.IndexByteString", "math.Float64frombits"], unfollowed := true, recurses := true, apart := false }
def LexerNamesSaid : Prop := lexerNamesRow.holds Try.pinned (OpenSpec.ofChange lexerNamesSpec)

/-- ITS FALSE NEIGHBOUR: 'it returns false'. Refute it at one input. -/
def lexerNamesWrong : ChangeSpec := { name := "lexerNames", fn := fun _ => fun
  | [d] => { results := [.lit (.bool false)], args := [d] }
  | _ => none }
def LexerNamesWrongFalsely : Prop := lexerNamesRow.holds Try.pinned (OpenSpec.ofChange lexerNamesWrong)

/-- 'azimuthlaw03.LexerWrites': WHATEVER THE INPUT: true; the input reads as it did. -/
def lexerWritesSpec : ChangeSpec := { name := "lexerWrites", fn := fun _ => fun
  | [d] => { results := [.lit (.bool true)], args := [d] }
  | _ => none }
def lexerWritesRow : OpenClaim := { program := "ytchbifaiofljdaa", sum := "5e5dc15dfdda238d52377c8c86994473952331d6ea3bef0b8e48962e3c43c335", func := "azimuth/azimuthlaw03.LexerWrites", spec := "lexerWrites", inPlace := ["internal/bytealg.IndexByteString", "math.Float64frombits"], unfollowed := true, recurses := true, apart := false }
def LexerWritesSaid : Prop := lexerWritesRow.holds Try.pinned (OpenSpec.ofChange lexerWritesSpec)

/-- ITS FALSE NEIGHBOUR: 'it returns false'. Refute it at one input. -/
def lexerWritesWrong : ChangeSpec := { name := "lexerWrites", fn := fun _ => fun
  | [d] => { results := [.lit (.bool false)], args := [d] }
  | _ => none }
def LexerWritesWrongFalsely : Prop := lexerWritesRow.holds Try.pinned (OpenSpec.ofChange lexerWritesWrong)

/-- 'azimuthlaw23.StoreRounds': WHATEVER THE INPUT: true; the input reads as it did. -/
def storeRoundsSpec : ChangeSpec := { name := "storeRounds", fn := fun _ => fun
  | [d1, d2, d3] => { results := [.lit (.bool true)], args := [d1, d2, d3] }
  | _ => none }
def storeRoundsRow : OpenClaim := { program := "ytchbifaiofljdaa", sum := "5e5dc15dfdda238d52377c8c86994473952331d6ea3bef0b8e48962e3c43c335", func := "azimuth/azimuthlaw23.StoreRounds", spec := "storeRounds", unfollowed := true, recurses := true, apart := false }
def StoreRoundsSaid : Prop := storeRoundsRow.holds Try.pinned (OpenSpec.ofChange storeRoundsSpec)

/-- ITS FALSE NEIGHBOUR: 'it returns false'. Refute it at one input. -/
def storeRoundsWrong : ChangeSpec := { name := "storeRounds", fn := fun _ => fun
  | [d1, d2, d3] => { results := [.lit (.bool false)], args := [d1, d2, d3] }
  | _ => none }
def StoreRoundsWrongFalsely : Prop := storeRoundsRow.holds Try.pinned (OpenSpec.ofChange storeRoundsWrong)

/-- 'azimuthlaw23.StorePlays': WHATEVER THE INPUT: true; the input reads as it did. -/
def storePlaysSpec : ChangeSpec := { name := "storePlays", fn := fun _ => fun
  | [d1, d2] => { results := [.lit (.bool true)], args := [d1, d2] }
  | _ => none }
def storePlaysRow : OpenClaim := { program := "ytchbifaiofljdaa", sum := "5e5dc15dfdda238d52377c8c86994473952331d6ea3bef0b8e48962e3c43c335", func := "azimuth/azimuthlaw23.StorePlays", spec := "storePlays", unfollowed := true, recurses := true, apart := false }
def StorePlaysSaid : Prop := storePlaysRow.holds Try.pinned (OpenSpec.ofChange storePlaysSpec)

/-- ITS FALSE NEIGHBOUR: 'it returns false'. Refute it at one input. -/
def storePlaysWrong : ChangeSpec := { name := "storePlays", fn := fun _ => fun
  | [d1, d2] => { results := [.lit (.bool false)], args := [d1, d2] }
  | _ => none }
def StorePlaysWrongFalsely : Prop := storePlaysRow.holds Try.pinned (OpenSpec.ofChange storePlaysWrong)

/-- 'azimuthlaw23.StoreNone': WHATEVER THE INPUT: true; the input reads as it did. -/
def storeNoneSpec : ChangeSpec := { name := "storeNone", fn := fun _ => fun
  | [d] => { results := [.lit (.bool true)], args := [d] }
  | _ => none }
def storeNoneRow : OpenClaim := { program := "ytchbifaiofljdaa", sum := "5e5dc15dfdda238d52377c8c86994473952331d6ea3bef0b8e48962e3c43c335", func := "azimuth/azimuthlaw23.StoreNone", spec := "storeNone", unfollowed := true, recurses := true, apart := false }
def StoreNoneSaid : Prop := storeNoneRow.holds Try.pinned (OpenSpec.ofChange storeNoneSpec)

/-- ITS FALSE NEIGHBOUR: 'it returns false'. Refute it at one input. -/
def storeNoneWrong : ChangeSpec := { name := "storeNone", fn := fun _ => fun
  | [d] => { results := [.lit (.bool false)], args := [d] }
  | _ => none }
def StoreNoneWrongFalsely : Prop := storeNoneRow.holds Try.pinned (OpenSpec.ofChange storeNoneWrong)

/- THE SECOND FORM. 'bulk': how many values and letters a reading holds, each counted each time it is reached (what is shared counts as often as it is met; a slice's spare places count too). A statement '..UptoSaid' is the law's where the arguments, and the package variables that the reading takes, are together of bulk at most 1048576: NARROWER than '..Said'. Prove '..Said' where nothing that the law and all that it calls make is longer than what came in: it says more and counts as full. Else prove '..UptoSaid'. A law counts once. -/
mutual
def uptoBulk {H : Type} : DataW H → Nat
  | .lit (.string bytes) => bytes.length + 1
  | .lit _ => 1
  | .nil => 1
  | .ptr d => uptoBulk d + 1
  | .slice elems spare => uptoBulkAll elems + uptoBulkAll spare + 1
  | .agg parts => uptoBulkAll parts + 1
  | .iface _ d => uptoBulk d + 1
  | .map entries => uptoBulkEntries entries + 1
  | .held _ => 1
def uptoBulkAll {H : Type} : List (DataW H) → Nat
  | [] => 0
  | d :: r => uptoBulk d + uptoBulkAll r
def uptoBulkEntries {H : Type} : List (Lit × DataW H) → Nat
  | [] => 0
  | x :: r => uptoBulkEntry x + uptoBulkEntries r
def uptoBulkEntry {H : Type} : Lit × DataW H → Nat
  | (.string bytes, d) => bytes.length + uptoBulk d + 1
  | (_, d) => uptoBulk d + 1
 end
def uptoSmall : (H : Type) → List (DataW H) → Bool := fun _ ds => decide (uptoBulkAll ds ≤ 1048576)
def OpenSpec.upto (s : _root_.Go.ChangeSpec) : _root_.Go.OpenSpec := { _root_.Go.OpenSpec.ofChange s with cond := some uptoSmall }

/-- 'azimuthlaw23.StoreFull', WHERE WHAT IT READS IS OF BULK AT MOST 1048576: true; the input reads as it did. -/
def storeFullUptoRow : OpenClaim := { program := "ytchbifaiofljdaa", sum := "5e5dc15dfdda238d52377c8c86994473952331d6ea3bef0b8e48962e3c43c335", func := "azimuth/azimuthlaw23.StoreFull", spec := "storeFull", unfollowed := true, recurses := true, apart := false, narrowed := true }
def StoreFullUptoSaid : Prop := storeFullUptoRow.holds Try.pinned (OpenSpec.upto storeFullSpec)

/-- 'azimuthlaw03.LexerBlanks', WHERE WHAT IT READS IS OF BULK AT MOST 1048576: true; the input reads as it did. -/
def lexerBlanksUptoRow : OpenClaim := { program := "ytchbifaiofljdaa", sum := "5e5dc15dfdda238d52377c8c86994473952331d6ea3bef0b8e48962e3c43c335", func := "azimuth/azimuthlaw03.LexerBlanks", spec := "lexerBlanks", inPlace := ["internal/bytealg.IndexByteString", "math.Float64frombits"], unfollowed := true, recurses := true, apart := false, narrowed := true }
def LexerBlanksUptoSaid : Prop := lexerBlanksUptoRow.holds Try.pinned (OpenSpec.upto lexerBlanksSpec)

/-- 'azimuthlaw03.LexerReads', WHERE WHAT IT READS IS OF BULK AT MOST 1048576: true; the input reads as it did. -/
def lexerReadsUptoRow : OpenClaim := { program := "ytchbifaiofljdaa", sum := "5e5dc15dfdda238d52377c8c86994473952331d6ea3bef0b8e48962e3c43c335", func := "azimuth/azimuthlaw03.LexerReads", spec := "lexerReads", inPlace := ["internal/bytealg.IndexByteString", "math.Float64frombits"], unfollowed := true, recurses := true, apart := false, narrowed := true }
def LexerReadsUptoSaid : Prop := lexerReadsUptoRow.holds Try.pinned (OpenSpec.upto lexerReadsSpec)

/-- 'azimuthlaw03.LexerLong', WHERE WHAT IT READS IS OF BULK AT MOST 1048576: true; the input reads as it did. -/
def lexerLongUptoRow : OpenClaim := { program := "ytchbifaiofljdaa", sum := "5e5dc15dfdda238d52377c8c86994473952331d6ea3bef0b8e48962e3c43c335", func := "azimuth/azimuthlaw03.LexerLong", spec := "lexerLong", inPlace := ["internal/bytealg.IndexByteString", "math.Float64frombits"], unfollowed := true, recurses := true, apart := false, narrowed := true }
def LexerLongUptoSaid : Prop := lexerLongUptoRow.holds Try.pinned (OpenSpec.upto lexerLongSpec)

/-- 'azimuthlaw03.LexerNames', WHERE WHAT IT READS IS OF BULK AT MOST 1048576: true; the input reads as it did. -/
def lexerNamesUptoRow : OpenClaim := { program := "ytchbifaiofljdaa", sum := "5e5dc15dfdda238d52377c8c86994473952331d6ea3bef0b8e48962e3c43c335", func := "azimuth/azimuthlaw03.LexerNames", spec := "lexerNames", inPlace := ["internal/bytealg.IndexByteString", "math.Float64frombits"], unfollowed := true, recurses := true, apart := false, narrowed := true }
def LexerNamesUptoSaid : Prop := lexerNamesUptoRow.holds Try.pinned (OpenSpec.upto lexerNamesSpec)

/-- 'azimuthlaw03.LexerWrites', WHERE WHAT IT READS IS OF BULK AT MOST 1048576: true; the input reads as it did. -/
def lexerWritesUptoRow : OpenClaim := { program := "ytchbifaiofljdaa", sum := "5e5dc15dfdda238d52377c8c86994473952331d6ea3bef0b8e48962e3c43c335", func := "azimuth/azimuthlaw03.LexerWrites", spec := "lexerWrites", inPlace := ["internal/bytealg.IndexByteString", "math.Float64frombits"], unfollowed := true, recurses := true, apart := false, narrowed := true }
def LexerWritesUptoSaid : Prop := lexerWritesUptoRow.holds Try.pinned (OpenSpec.upto lexerWritesSpec)

/-- 'azimuthlaw23.StoreRounds', WHERE WHAT IT READS IS OF BULK AT MOST 1048576: true; the input reads as it did. -/
def storeRoundsUptoRow : OpenClaim := { program := "ytchbifaiofljdaa", sum := "5e5dc15dfdda238d52377c8c86994473952331d6ea3bef0b8e48962e3c43c335", func := "azimuth/azimuthlaw23.StoreRounds", spec := "storeRounds", unfollowed := true, recurses := true, apart := false, narrowed := true }
def StoreRoundsUptoSaid : Prop := storeRoundsUptoRow.holds Try.pinned (OpenSpec.upto storeRoundsSpec)

/-- 'azimuthlaw23.StorePlays', WHERE WHAT IT READS IS OF BULK AT MOST 1048576: true; the input reads as it did. -/
def storePlaysUptoRow : OpenClaim := { program := "ytchbifaiofljdaa", sum := "5e5dc15dfdda238d52377c8c86994473952331d6ea3bef0b8e48962e3c43c335", func := "azimuth/azimuthlaw23.StorePlays", spec := "storePlays", unfollowed := true, recurses := true, apart := false, narrowed := true }
def StorePlaysUptoSaid : Prop := storePlaysUptoRow.holds Try.pinned (OpenSpec.upto storePlaysSpec)

/-- 'azimuthlaw23.StoreNone', WHERE WHAT IT READS IS OF BULK AT MOST 1048576: true; the input reads as it did. -/
def storeNoneUptoRow : OpenClaim := { program := "ytchbifaiofljdaa", sum := "5e5dc15dfdda238d52377c8c86994473952331d6ea3bef0b8e48962e3c43c335", func := "azimuth/azimuthlaw23.StoreNone", spec := "storeNone", unfollowed := true, recurses := true, apart := false, narrowed := true }
def StoreNoneUptoSaid : Prop := storeNoneUptoRow.holds Try.pinned (OpenSpec.upto storeNoneSpec)

end Rows
end Go.Proofs.Ytchbifaiofljdaa
