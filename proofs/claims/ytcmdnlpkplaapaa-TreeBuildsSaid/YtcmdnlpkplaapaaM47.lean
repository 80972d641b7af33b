import Derived.Test.YtcmdnlpkplaapaaM32
/- Templates of functions, as the engine takes them; numbers of functions and types by names. Printed by tm.py. -/
set_option linter.unusedVariables false
set_option maxRecDepth 100000
namespace Go.Proofs.Eng
open Go

end Go.Proofs.Eng
/- Templates of functions, as the engine takes them; numbers of functions and types by names. Printed by tm.py. -/
set_option linter.unusedVariables false
set_option maxRecDepth 100000
namespace Go.Proofs.Eng
open Go

end Go.Proofs.Eng
