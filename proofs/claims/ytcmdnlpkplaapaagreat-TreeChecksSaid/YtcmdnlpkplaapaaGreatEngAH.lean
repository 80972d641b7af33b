import Derived.Test.YtcmdnlpkplaapaaGreatEngAG
import Derived.Test.YtcmdnlpkplaapaaGreatEngAI
import Derived.Shelf.SlIter.Nil
import Derived.Shelf.SortM.Plain
import Derived.Shelf.SortM.SortNone
