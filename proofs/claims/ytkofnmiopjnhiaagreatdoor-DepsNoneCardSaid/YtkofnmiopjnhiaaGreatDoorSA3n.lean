/- Seat 3 (DepsNone): what its table holds; the summaries; the law's lives; the law. -/
import Derived.Test.YtkofnmiopjnhiaaGreatDoorM32
import Derived.Test.YtkofnmiopjnhiaaGreatDoorEngAG
import Derived.Test.YtkofnmiopjnhiaaGreatDoorEngAL
import Derived.Test.YtkofnmiopjnhiaaGreatDoorTabA3n
import Derived.Test.YtkofnmiopjnhiaaGreatDoorLayA3
set_option linter.unusedVariables false
set_option linter.unusedSimpArgs false
set_option maxRecDepth 100000
namespace Go.Proofs.Y3n
open Go Go.Proofs.Eng Go.Shelf
def fSo : FuncId := f_slices_Sorted_string nm
def fK1 : FuncId := f_maps_Keys_map_string_sl_string_string_sl_string_1 nm
def fK2 : FuncId := f_maps_Keys_map_string_bool_string_bool_1 nm
def gam : Sums := gOr (gSorted fSo fK1 (t_string nm)) (gSorted fSo fK2 (t_string nm))
theorem gamok : GOK Tryz.prog gam := by
  have h1 := sortedOK_of2 (P := Tryz.prog) Go.Proofs.Y3k.Tryz_sorted26 (κ := Go.Proofs.Y3k.Tryz_keys27_ren) { Go.Proofs.Y3k.Tryz_keys27 with } Go.Proofs.Y3k.Tryz_sort24 (by rfl) (by rfl)
  have h2 := sortedOK_of2 (P := Tryz.prog) Go.Proofs.Y3k.Tryz_sorted26 (κ := Go.Proofs.Y3k.Tryz_keys28_ren) { Go.Proofs.Y3k.Tryz_keys28 with } Go.Proofs.Y3k.Tryz_sort24 (by rfl) (by rfl)
  exact gOr_ok (sorted_ok h1) (sorted_ok h2)
theorem lives_24 : (lim gam tab).call (f_law24_lives nm) [] { l := [], d := none } = some (avBool true, none) := lim_of_env (n := 60) (isT_spec (by kernel_rfl))
abbrev nilP' : AV := .lit (.pointer none)
abbrev H00 : Hp := { l := [], d := none }
theorem on_nil (s : ByteArray) : (lim gam tab).call (f_p_deps_Net_On nm) [nilP', .lit (.string s)] H00 = some (.tup [avNilS, avBool false], none) := lim_of_env (n := 20) (by kernel_rfl)
theorem put_nil (s : ByteArray) : (lim gam tab).call (f_p_deps_Net_Put nm) [nilP', .lit (.string s), avNilS] H00 = some (avInt .i64 1, none) := lim_of_env (n := 20) (by kernel_rfl)
theorem names_nil : (lim gam tab).call (f_p_deps_Net_Names nm) [nilP'] H00 = some (avNilS, none) := lim_of_env (n := 20) (by kernel_rfl)
theorem missing_nil : (lim gam tab).call (f_p_deps_Net_Missing nm) [nilP'] H00 = some (avNilS, none) := lim_of_env (n := 20) (by kernel_rfl)
theorem users_nil (s : ByteArray) : ∃ g, (lim gam tab).call (f_p_deps_Net_Users nm) [nilP', .lit (.string s)] H00 = some (avNilS, g) ∧ g.getD H00 = H00 := ⟨none, lim_of_env (n := 20) (by kernel_rfl), rfl⟩
theorem cone_nil (s : ByteArray) : (lim gam tab).call (f_p_deps_Net_Cone nm) [nilP', .lit (.string s)] H00 = some (avNilS, none) := lim_of_env (n := 20) (by kernel_rfl)
def ofR : AV × Option Hp := ((env gam tab 30).call (f_deps_Of nm) [nilP'] H00).getD (avU, none)
theorem of_nil : (lim gam tab).call (f_deps_Of nm) [nilP'] H00 = some (ofR.1, ofR.2) := lim_of_env (n := 30) (by kernel_rfl)
theorem of_names : (lim gam tab).call (f_p_deps_Net_Names nm) [ofR.1] (ofR.2.getD H00) = some (avNilS, none) := lim_of_env (n := 30) (by kernel_rfl)
theorem hasNone : Has gam tab (f_law24_DepsNone nm) (C_law24_DepsNone nm) := by
  refine ⟨tab_law24_DepsNone, fun args H => ?_⟩
  have e1 : f_law24_DepsNone nm ≠ fSo := by
    have : (f_law24_DepsNone nm == fSo) = false := by kernel_rfl
    simpa using this
  simp [gam, gOr, gSorted, e1]
theorem law_none (s : ByteArray) : ∃ r, (lim gam tab).ent (f_law24_DepsNone nm) [.lit (.string s)] { l := [], d := none } = some r ∧ r.1 = avBool true := by
  have e1 := lives_24
  have e2 := on_nil s
  have e3 := put_nil s
  have e4 := names_nil
  have e5 := missing_nil
  obtain ⟨g, e6, e7⟩ := users_nil s
  have e8 := cone_nil s
  have e9 := of_nil
  have e10 := of_names
  have w0 : IntKind.i64.wrap 0 = 0 := by decide
  apply hasNone.entP (by rfl)
  by_cases c : 100 < (bl s).length
  · have c' : (100 : Int) < (bl s).length := by omega
    simp [C_law24_DepsNone, e1, c, c']
  · have c' : ¬ (100 : Int) < (bl s).length := by omega
    simp [C_law24_DepsNone, e1, c, c', e2, e3, e4, e5, e6, e7, e8, e9, e10, bindH_opt, w0]
end Go.Proofs.Y3n
