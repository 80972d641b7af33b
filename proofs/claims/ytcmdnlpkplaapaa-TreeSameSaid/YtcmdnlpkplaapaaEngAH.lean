import Derived.Test.YtcmdnlpkplaapaaEngAG
import Derived.Test.YtcmdnlpkplaapaaEngAI
import Derived.Shelf.SlIter.Nil
import Derived.Shelf.SortM.Plain
import Derived.Shelf.SortM.SortNone
