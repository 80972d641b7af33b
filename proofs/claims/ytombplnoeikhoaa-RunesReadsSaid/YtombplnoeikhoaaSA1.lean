/- Seat 1: what its table holds; the law's lives. -/
import Derived.Test.YtombplnoeikhoaaTabA1
import Derived.Test.YtombplnoeikhoaaLRunes1
import Derived.Test.YtombplnoeikhoaaEngAG
set_option linter.unusedVariables false
set_option maxRecDepth 100000
namespace Go.Proofs.Y1
open Go Go.Proofs.Eng
theorem has {f : FuncId} {fn : AFunc} (h : tab f = some fn) : Has noG tab f fn := ⟨h, fun _ _ => rfl⟩
theorem hasRunes : Runes noG tab nm := ⟨⟨has tab_runes_size, has tab_runes_sign, has tab_runes_first, has tab_runes_All, has tab_runes_All_1⟩, has tab_runes_Bad, has tab_runes_Count⟩
theorem hasRef01 : Ref01 noG tab nm := ⟨has tab_ref01_value, has tab_ref01_Encode, has tab_ref01_First, has tab_ref01_Signs⟩
theorem lives_b : (lim noG tab).call (f_law01_lives nm) [] (halloc H00 (.cells [avBool false] (t_bool nm))) = some (avBool true, none) := lim_of_env (n := 60) (isT_spec (by kernel_rfl))
end Go.Proofs.Y1
