/- The engine, part AH: a summary: slices.Sorted(maps.Keys(m)), of a map keyed by texts. -/
import Derived.Test.YtcmdnlpkplaapaaEngAG
import Derived.Test.YtcmdnlpkplaapaaEngAI
import Derived.Shelf.SlIter.Nil
import Derived.Shelf.SortM.Plain
import Derived.Shelf.SortM.SortNone
set_option linter.unusedVariables false
set_option linter.unusedSimpArgs false
namespace Go.Proofs.Eng
open Go Go.RowKit Go.Shelf

/-! ### The plain sort -/
/-! ### The contract, as the kit has it -/
/-! ### The summary -/
end Go.Proofs.Eng
