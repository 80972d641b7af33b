/- Seat 5: what its table holds; the summaries; the law's lives. -/
import Derived.Test.YtcmdnlpkplaapaaM36
import Derived.Test.YtcmdnlpkplaapaaTabA5
import Derived.Test.YtcmdnlpkplaapaaEngAG
set_option linter.unusedVariables false
set_option maxRecDepth 100000
namespace Go.Proofs.Y5
open Go Go.Proofs.Eng
def fIB : FuncId := f_internal_bytealg_IndexByteString nm
def fFB : FuncId := f_math_Float64frombits nm
def gam : Sums := gOr (gIndexByte fIB) (gFromBits fFB)
theorem has {f : FuncId} {fn : AFunc} (h : tab f = some fn) (h1 : (f == fIB) = false) (h2 : (f == fFB) = false) : Has gam tab f fn := by
  refine ⟨h, fun args H => ?_⟩
  have e1 : f ≠ fIB := by simpa using h1
  have e2 : f ≠ fFB := by simpa using h2
  simp [gam, gOr, gIndexByte, gFromBits, e1, e2]
theorem hasR {f : FuncId} {fn : AFunc} (h : tab f = some fn) (hk : (f == fIB || f == fFB) = false) : Has gam tab f fn := by
  rw [Bool.or_eq_false_iff] at hk
  exact has h hk.1 hk.2
theorem hasB : TreeB gam tab nm := ⟨hasR tab_slices_Clone_sl_string_string (by kernel_rfl), hasR tab_slices_Clone_sl_int_int (by kernel_rfl), hasR tab_slices_Clone_sl_api_Alias_api_Alias (by kernel_rfl), hasR tab_tree_cloneTerm (by kernel_rfl), hasR tab_tree_cloneType (by kernel_rfl),
  hasR tab_p_tree_Builder_Term (by kernel_rfl), hasR tab_p_tree_Builder_Type (by kernel_rfl), hasR tab_tree_New (by kernel_rfl), hasR tab_tree_Clone (by kernel_rfl), hasR tab_p_tree_Builder_Tree (by kernel_rfl)⟩
theorem hasFull : Has gam tab (f_law04_TreeFull nm) (C_law04_TreeFull nm) := hasR tab_law04_TreeFull (by kernel_rfl)
theorem lives_04 : (lim gam tab).call (f_law04_lives nm) [] { l := [], d := none } = some (avBool true, none) := lim_of_env (n := 60) (isT_spec (by kernel_rfl))
theorem gamok : GOK Try.prog gam := gOr_ok (indexByte_ok (f0 := fIB) (fn := Try.f107) Try.func107 (by kernel_rfl) (by kernel_rfl) (by rfl) (by rfl)) (fromBits_ok (f0 := fFB) (fn := Try.f76) Try.func76 (by kernel_rfl) (by kernel_rfl) (by rfl) (by rfl))
end Go.Proofs.Y5
