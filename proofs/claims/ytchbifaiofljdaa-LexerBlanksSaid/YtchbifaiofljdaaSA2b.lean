/- Seat 2: more of what its table holds. -/
import Derived.Test.YtchbifaiofljdaaSA2
import Derived.Test.YtchbifaiofljdaaM39
set_option linter.unusedVariables false
set_option maxRecDepth 100000
namespace Go.Proofs.Y2
open Go Go.Proofs.Eng
theorem hasNames : Has gam tab (f_law03_LexerNames nm) (C_law03_LexerNames nm) := hasR tab_law03_LexerNames (by kernel_rfl)
theorem hasWritesL : Has gam tab (f_law03_LexerWrites nm) (C_law03_LexerWrites nm) := hasR tab_law03_LexerWrites (by kernel_rfl)
theorem hasBlanksL : Has gam tab (f_law03_LexerBlanks nm) (C_law03_LexerBlanks nm) := hasR tab_law03_LexerBlanks (by kernel_rfl)
theorem hasWrite : Has gam tab (f_law03_write nm) (C_law03_write nm) := hasR tab_law03_write (by kernel_rfl)
theorem hasQuote : Has gam tab (f_lexer_Quote nm) (C_lexer_Quote nm) := hasR tab_lexer_Quote (by kernel_rfl)
end Go.Proofs.Y2
