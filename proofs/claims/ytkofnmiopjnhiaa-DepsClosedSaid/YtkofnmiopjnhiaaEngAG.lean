/- The engine, part AG: arguments read; from the limit to what a row asks. -/
import Derived.Test.YtkofnmiopjnhiaaM26
set_option linter.unusedVariables false
set_option linter.unusedSimpArgs false
namespace Go.Proofs.Eng
open Go Go.RowKit Go.ChangeShapes Go.WideShapes Go.ChangeAt

def isT : Option (AV × Option Hp) → Bool
  | some (.lit (.bool true), none) => true
  | _ => false
theorem isT_spec {r : Option (AV × Option Hp)} (h : isT r = true) : r = some (avBool true, none) := by
  unfold isT at h
  split at h
  · rfl
  · simp at h

section
variable {P : Program} {W : World}

end
end Go.Proofs.Eng
