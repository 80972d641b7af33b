/- The engine, part AK: loops over functions that lay objects of their own. -/
import Derived.Test.YtcmdnlpkplaapaaM26
import Derived.Test.YtcmdnlpkplaapaaEngAI
set_option linter.unusedVariables false
set_option linter.unusedSimpArgs false
namespace Go.Proofs.Eng
open Go Go.RowKit

section
variable {Γ : Sums} {A : Tab} {H0 : Hp}

theorem Loc.still {H H' : Hp} {os : List (Nat × AObj)} (h : Loc H0 H os) (k : Mut H H' []) : Loc H0 H' os :=
 h.mut k (by simp) (fun p hp => ⟨k.get' (h.get hp) (by simp),h.ge hp⟩) h.nd

end
end Go.Proofs.Eng
