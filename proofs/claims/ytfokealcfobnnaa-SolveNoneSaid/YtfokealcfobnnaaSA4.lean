/- Seat 4: what its table holds; the summaries; the law's lives. -/
import Derived.Test.YtfokealcfobnnaaTabA4
import Derived.Test.YtfokealcfobnnaaEngAG
set_option linter.unusedVariables false
set_option maxRecDepth 100000
namespace Go.Proofs.Y4
open Go Go.Proofs.Eng
def fIB : FuncId := f_internal_bytealg_IndexByteString nm
def fFB : FuncId := f_math_Float64frombits nm
def gam : Sums := gOr (gIndexByte fIB) (gFromBits fFB)
theorem has {f : FuncId} {fn : AFunc} (h : tab f = some fn) (h1 : (f == fIB) = false) (h2 : (f == fFB) = false) : Has gam tab f fn := by
  refine ⟨h, fun args H => ?_⟩
  have e1 : f ≠ fIB := by simpa using h1
  have e2 : f ≠ fFB := by simpa using h2
  simp [gam, gOr, gIndexByte, gFromBits, e1, e2]
theorem hasR {f : FuncId} {fn : AFunc} (h : tab f = some fn) (hk : (f == fIB || f == fFB) = false) : Has gam tab f fn := by
  rw [Bool.or_eq_false_iff] at hk
  exact has h hk.1 hk.2
theorem lives_13 : (lim gam tab).call (f_law13_lives nm) [] { l := [], d := none } = some (avBool true, none) := lim_of_env (n := 60) (isT_spec (by kernel_rfl))
theorem gamok : GOK Try.prog gam := gOr_ok (indexByte_ok (f0 := fIB) (fn := Try.f98) Try.func98 (by kernel_rfl) (by kernel_rfl) (by rfl) (by rfl)) (fromBits_ok (f0 := fFB) (fn := Try.f71) Try.func71 (by kernel_rfl) (by kernel_rfl) (by rfl) (by rfl))
end Go.Proofs.Y4
