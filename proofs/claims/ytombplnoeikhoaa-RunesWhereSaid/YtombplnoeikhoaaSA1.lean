/- Seat 1: what its table holds; the law's lives. -/
import Derived.Test.YtombplnoeikhoaaTabA1
import Derived.Test.YtombplnoeikhoaaLRunes1
import Derived.Test.YtombplnoeikhoaaLRunes2
import Derived.Test.YtombplnoeikhoaaLRunes3
import Derived.Test.YtombplnoeikhoaaLRunes4
import Derived.Test.YtombplnoeikhoaaEngAG
set_option linter.unusedVariables false
set_option maxRecDepth 100000
namespace Go.Proofs.Y1
open Go Go.Proofs.Eng
theorem has {f : FuncId} {fn : AFunc} (h : tab f = some fn) : Has noG tab f fn := ⟨h, fun _ _ => rfl⟩
theorem hasRunes : Runes noG tab nm := ⟨⟨has tab_runes_size, has tab_runes_sign, has tab_runes_first, has tab_runes_All, has tab_runes_All_1⟩, has tab_runes_Bad, has tab_runes_Count⟩
theorem hasRef01 : Ref01 noG tab nm := ⟨has tab_ref01_value, has tab_ref01_Encode, has tab_ref01_First, has tab_ref01_Signs⟩
theorem lives_b : (lim noG tab).call (f_law01_lives nm) [] (halloc H00 (.cells [avBool false] (t_bool nm))) = some (avBool true, none) := lim_of_env (n := 60) (isT_spec (by kernel_rfl))
theorem lives_0 : (lim noG tab).call (f_law01_lives nm) [] H00 = some (avBool true, none) := lim_of_env (n := 60) (isT_spec (by kernel_rfl))
theorem lives_i (n : Int) : (lim noG tab).call (f_law01_lives nm) [] (halloc H00 (.cells [avInt .i64 n] (t_int nm))) = some (avBool true, none) := lim_of_env (n := 60) (isT_spec (by kernel_rfl))
theorem lives_rb (n : Int) : (lim noG tab).call (f_law01_lives nm) [] (halloc (halloc H00 (.cells [avInt .i32 n] (t_int32 nm))) (.cells [avBool false] (t_bool nm))) = some (avBool true, none) := lim_of_env (n := 60) (isT_spec (by kernel_rfl))
theorem int32_bound {n : Int} (h : (Lit.int .i32 n).wf = true) : -2147483648 ≤ n ∧ n ≤ 2147483647 := by
  simp [Lit.wf, IntKind.min, IntKind.max, IntKind.signed, IntKind.bits] at h
  exact h
end Go.Proofs.Y1
