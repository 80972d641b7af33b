/- The engine, part Z: summaries: the index of a byte in a text. -/
import Derived.Test.YtkofnmiopjnhiaaEngY
set_option linter.unusedVariables false
set_option linter.unusedSimpArgs false
namespace Go.Proofs.Eng
open Go Go.RowKit

def idxOf (s : ByteArray) (c : Int) : Int :=
  match (List.range s.size).find? fun i => s[i]! == c.toNat.toUInt8 with
  | some i => (i : Int)
  | none => -1

end Go.Proofs.Eng
