/- LexerLong, run by the engine: whatever the byte, true. No condition. -/
import Derived.Test.YtchbifaiofljdaaEngTab3
set_option linter.unusedVariables false
set_option maxRecDepth 100000
namespace Go.Proofs.Y3
open Go Go.Proofs.Eng
def isT : Option (AV × Option Hp) → Bool
  | some (.lit (.bool true), none) => true
  | _ => false
theorem isT_spec {r : Option (AV × Option Hp)} (h : isT r = true) : r = some (.lit (.bool true), none) := by
  unfold isT at h
  split at h
  · rfl
  · simp at h
theorem q6 (c : Int) : isT ((env (gIndexByte 85) tab 100).ent 6 [.lit (.int .u8 c)] ⟨[], none⟩) = true := by kernel_rfl
theorem law6 (c : Int) : ∃ h, (env (gIndexByte 85) tab 100).ent 6 [.lit (.int .u8 c)] ⟨[], none⟩ = some (.lit (.bool true), h) := ⟨none, isT_spec (q6 c)⟩
end Go.Proofs.Y3
