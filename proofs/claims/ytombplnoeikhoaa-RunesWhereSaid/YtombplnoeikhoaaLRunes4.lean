/- The law RunesWhere, run by the engine. -/
import Derived.Test.YtombplnoeikhoaaWWhere2
import Derived.Test.YtombplnoeikhoaaLRunes1
set_option linter.unusedVariables false
set_option linter.unusedSimpArgs false
set_option maxRecDepth 100000
namespace Go.Proofs.Eng
open Go
section
variable {Γ : Sums} {A : Tab} {N : Nat → Nat}
theorem law_RunesWhere (hr : Runes Γ A N) (hf : Ref01 Γ A N) (w1 : Has Γ A (f_runes_Where N) (C_runes_Where N)) (w2 : Has Γ A (f_runes_Where_1 N) (C_runes_Where_1 N)) (w3 : Has Γ A (f_ref01_Where N) (C_ref01_Where N)) (h : Has Γ A (f_law01_RunesWhere N) (C_law01_RunesWhere N))
    (hlives : (lim Γ A).call (f_law01_lives N) [] H00 = some (avBool true, none)) (at' : Int) (x : AV) (b : List UInt8) (hx : IsBytes x b) : ∃ q, (lim Γ A).ent (f_law01_RunesWhere N) [x, avInt .i64 at'] H00 = some q ∧ q.1 = avBool true := by
  apply h.entP (by rfl)
  have hlen := hx.len
  rw [List.length_map] at hlen
  by_cases h400 : 400 < b.length
  · have h400' : (400 : Int) < b.length := by omega
    simp [C_law01_RunesWhere, hlives, hlen, h400']
  · have h400' : ¬ (400 : Int) < b.length := by omega
    have e1 := fun H => runes_Where_call hr.toRunesAll w1 w2 x b at' H (IsBytes.v hx) (by omega)
    have e2 := fun H => ref01_Where_call hf w3 x b at' H (IsBytes.v hx) (by omega)
    simp [C_law01_RunesWhere, hlives, hlen, h400', e1, e2]
end
end Go.Proofs.Eng
