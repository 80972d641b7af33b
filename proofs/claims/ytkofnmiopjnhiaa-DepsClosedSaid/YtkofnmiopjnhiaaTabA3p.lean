/- The seat's table: the numbers of functions and types, and that the templates are the program's functions. Printed by tm.py. -/
import Derived.Test.YtkofnmiopjnhiaaProg
import Derived.Test.YtkofnmiopjnhiaaM33
import Derived.Test.YtkofnmiopjnhiaaM34
import Derived.Test.YtkofnmiopjnhiaaM39
import Derived.KernelRfl
set_option linter.unusedVariables false
set_option maxRecDepth 100000
namespace Go.Proofs.Y3p
open Go Go.Proofs.Eng

def nmF : List Nat := [0, 1, 2, 0, 0, 0, 0, 0, 0, 0, 0, 0, 0, 0, 0, 0, 0, 0, 0, 0, 0, 0, 0, 0, 101, 102, 103, 104, 105, 106, 107, 108, 109, 110, 111, 112, 113, 114, 115, 116, 117, 0, 0, 0, 0, 0, 0, 0, 0, 0, 0, 0, 0, 0, 0, 0, 0, 0, 55, 44, 31, 0, 0, 0, 0, 0, 0, 0, 0, 0, 0, 0, 0, 0, 42, 69, 52, 53, 54, 0, 16, 0, 37, 0, 0, 0, 0, 0, 0, 0, 68, 0, 0, 0, 0, 0, 0, 0, 0, 0, 0, 0, 62, 43, 59, 35, 0, 0, 0, 0, 80, 57, 58, 0, 0, 0, 70, 71, 72, 73, 74, 75, 46, 76, 77, 78, 79, 0, 0, 90, 91, 92, 93, 94, 65, 99, 0, 0, 0, 9, 26, 12, 13, 30, 15, 14, 0, 0, 0, 18, 11, 22, 34, 32, 33, 36, 38, 39, 40, 41, 0, 0, 0, 0, 0, 0, 0, 0, 0, 0, 0, 17, 56, 60, 61, 0, 0, 0, 0, 0, 0, 0, 0, 0, 0, 0, 0, 0, 0, 0, 0, 0, 0, 0, 0, 0, 0, 0, 0, 0, 0, 0, 0, 0, 0, 0, 0, 0, 0, 0, 0, 0, 0, 0, 0, 0, 0, 0, 0, 0, 0, 0, 0, 0, 0, 0, 0, 0, 0, 0, 0, 0, 0, 0, 0, 0, 0, 0, 0, 0, 0, 0, 0, 0, 0, 0, 0, 0, 0, 0, 0, 0, 0, 0, 0, 0, 0, 0, 0, 0, 0, 0, 0, 0, 0, 0, 0, 0, 0, 0, 0, 0, 0, 0, 0, 0, 0, 0, 0, 0, 0, 0, 0, 0, 0, 0, 0, 0, 0, 0, 0, 0, 0, 0, 0, 0, 0, 0, 0, 0, 0, 0, 0, 0, 0, 0, 0, 0, 0, 0, 0, 0, 0, 0, 0, 0, 0, 0, 0, 0, 0, 0, 0, 0, 0, 0, 0, 0, 0, 0, 0, 0, 0, 0, 0, 0, 0, 0, 0, 0, 47, 0, 0, 0, 0, 0, 0, 0, 66, 0, 0, 0, 0, 0, 81, 82, 83, 84, 85, 86, 87, 88, 89, 0, 0, 0, 0, 95, 96, 97, 98, 0, 100, 0, 0, 0, 0, 0, 0, 0, 0, 0, 0, 0, 0, 0, 0, 0, 0, 0, 0, 0, 0, 0, 0, 0, 0, 0, 0, 0, 0, 0, 0, 0, 0, 0, 0, 0, 0, 0, 0, 0, 0, 0, 0, 0, 0, 0, 0, 0, 0, 0, 0, 0, 0, 0, 0, 0, 0, 0, 0, 0, 0, 0, 0, 0, 0, 0, 0, 0, 0, 0, 0, 0, 0, 0, 0, 0, 0, 0, 0, 0, 0, 0, 0, 0, 0, 0, 0, 0, 0, 0, 0, 0, 0, 0, 0, 0, 0, 0, 0, 0, 0, 0, 0, 0, 0, 0, 0, 23, 0, 0, 0, 0, 0, 0, 0, 0, 0, 0, 0, 0, 0, 0, 0, 0, 0, 0, 0, 0, 0, 0, 0, 0, 0, 0, 0, 0, 0, 0, 0, 0, 0, 0, 0, 0, 0, 0, 0, 0, 0, 0, 0, 0, 0, 0, 0, 0, 0, 0, 0, 0, 0, 0, 0, 0, 0, 0, 0, 0, 0, 0, 0, 0, 0, 0, 0, 0, 0, 0, 0, 0, 0, 0, 0, 0, 0, 0, 0, 0, 0, 0, 0, 0, 0, 0, 0, 3, 4, 5, 6, 7, 8, 10, 19, 20, 21, 24, 25, 27, 28, 29, 45, 48, 49, 50, 51, 63, 64, 67]
def nmT : List Nat := [3, 4, 5, 21, 48, 44, 0, 9, 0, 0, 0, 0, 0, 0, 0, 27, 115, 25, 36, 35, 0, 60, 33, 0, 0, 0, 0, 0, 0, 0, 0, 0, 0, 0, 0, 0, 0, 0, 0, 0, 0, 0, 0, 0, 0, 0, 0, 0, 0, 0, 0, 0, 0, 0, 0, 0, 0, 0, 0, 0, 0, 29, 46, 73, 76, 92]
def nm (i : Nat) : Nat := if i < 100000 then nmF.getD i 0 else nmT.getD (i - 100000) 0

def tab : Tab := fun f => match f with
  | 9 => some (C_law24_lives nm)
  | 10 => some (C_law24_Few nm)
  | 11 => some (C_deps_New nm)
  | 12 => some (C_p_deps_Net_Put nm)
  | 13 => some (C_p_deps_Net_Names nm)
  | 14 => some (C_p_deps_Net_Cone nm)
  | 15 => some (C_p_deps_Net_Users nm)
  | 16 => some (C_ref04_Name nm)
  | 22 => some (C_law07_Same nm)
  | 26 => some (C_p_deps_Net_On nm)
  | 30 => some (C_p_deps_Net_Missing nm)
  | 31 => some (C_lexer_IsName nm)
  | 32 => some (C_slices_ContainsFunc_sl_string_string nm)
  | 33 => some (C_p_deps_Net_Put_1 nm)
  | 34 => some (C_slices_Clone_sl_string_string nm)
  | 36 => some (C_slices_Compact_sl_string_string nm)
  | 38 => some (C_maps_Keys_map_string_sl_string_string_sl_string nm)
  | 39 => some (C_maps_Keys_map_string_bool_string_bool nm)
  | 40 => some (C_slices_DeleteFunc_sl_string_string nm)
  | 41 => some (C_p_deps_Net_Users_1 nm)
  | 42 => some (C_slices_Contains_sl_string_string nm)
  | 43 => some (C_ref04_Tag nm)
  | 44 => some (C_ref03_IsWord nm)
  | 52 => some (C_lexer_low nm)
  | 53 => some (C_lexer_run nm)
  | 54 => some (C_lexer_inName nm)
  | 55 => some (C_lexer_IsWord nm)
  | 56 => some (C_slices_IndexFunc_sl_string_string nm)
  | 62 => some (C_slices_Index_sl_string_string nm)
  | 68 => some (C_lexer_digit nm)
  | 69 => some (C_lexer_words nm)
  | _ => none

theorem tk {A af : AFunc} {f : FuncId} {fn : Func} (h : some A = some af) (h1 : Try.prog.funcs[f]? = some fn) (h2 : pFunc Try.prog fn = some { A with frz := false }) : ∃ fn, Try.prog.funcs[f]? = some fn ∧ pFunc Try.prog fn = some { af with frz := false } := by
  cases h; exact ⟨fn, h1, h2⟩
theorem tab_ok : TOK Try.prog tab := by
  intro f af h
  unfold tab at h
  split at h
  · exact tk h Try.func9 (by kernel_rfl)
  · exact tk h Try.func10 (by kernel_rfl)
  · exact tk h Try.func11 (by kernel_rfl)
  · exact tk h Try.func12 (by kernel_rfl)
  · exact tk h Try.func13 (by kernel_rfl)
  · exact tk h Try.func14 (by kernel_rfl)
  · exact tk h Try.func15 (by kernel_rfl)
  · exact tk h Try.func16 (by kernel_rfl)
  · exact tk h Try.func22 (by kernel_rfl)
  · exact tk h Try.func26 (by kernel_rfl)
  · exact tk h Try.func30 (by kernel_rfl)
  · exact tk h Try.func31 (by kernel_rfl)
  · exact tk h Try.func32 (by kernel_rfl)
  · exact tk h Try.func33 (by kernel_rfl)
  · exact tk h Try.func34 (by kernel_rfl)
  · exact tk h Try.func36 (by kernel_rfl)
  · exact tk h Try.func38 (by kernel_rfl)
  · exact tk h Try.func39 (by kernel_rfl)
  · exact tk h Try.func40 (by kernel_rfl)
  · exact tk h Try.func41 (by kernel_rfl)
  · exact tk h Try.func42 (by kernel_rfl)
  · exact tk h Try.func43 (by kernel_rfl)
  · exact tk h Try.func44 (by kernel_rfl)
  · exact tk h Try.func52 (by kernel_rfl)
  · exact tk h Try.func53 (by kernel_rfl)
  · exact tk h Try.func54 (by kernel_rfl)
  · exact tk h Try.func55 (by kernel_rfl)
  · exact tk h Try.func56 (by kernel_rfl)
  · exact tk h Try.func62 (by kernel_rfl)
  · exact tk h Try.func68 (by kernel_rfl)
  · exact tk h Try.func69 (by kernel_rfl)
  · simp at h

theorem tab_law24_Few : tab (f_law24_Few nm) = some (C_law24_Few nm) := by kernel_rfl
theorem tab_deps_New : tab (f_deps_New nm) = some (C_deps_New nm) := by kernel_rfl
theorem tab_p_deps_Net_Names : tab (f_p_deps_Net_Names nm) = some (C_p_deps_Net_Names nm) := by kernel_rfl
theorem tab_p_deps_Net_Cone : tab (f_p_deps_Net_Cone nm) = some (C_p_deps_Net_Cone nm) := by kernel_rfl
theorem tab_p_deps_Net_Users : tab (f_p_deps_Net_Users nm) = some (C_p_deps_Net_Users nm) := by kernel_rfl
theorem tab_ref04_Name : tab (f_ref04_Name nm) = some (C_ref04_Name nm) := by kernel_rfl
theorem tab_law07_Same : tab (f_law07_Same nm) = some (C_law07_Same nm) := by kernel_rfl
theorem tab_p_deps_Net_On : tab (f_p_deps_Net_On nm) = some (C_p_deps_Net_On nm) := by kernel_rfl
theorem tab_p_deps_Net_Missing : tab (f_p_deps_Net_Missing nm) = some (C_p_deps_Net_Missing nm) := by kernel_rfl
theorem tab_lexer_IsName : tab (f_lexer_IsName nm) = some (C_lexer_IsName nm) := by kernel_rfl
theorem tab_slices_ContainsFunc_sl_string_string : tab (f_slices_ContainsFunc_sl_string_string nm) = some (C_slices_ContainsFunc_sl_string_string nm) := by kernel_rfl
theorem tab_p_deps_Net_Put_1 : tab (f_p_deps_Net_Put_1 nm) = some (C_p_deps_Net_Put_1 nm) := by kernel_rfl
theorem tab_slices_Clone_sl_string_string : tab (f_slices_Clone_sl_string_string nm) = some (C_slices_Clone_sl_string_string nm) := by kernel_rfl
theorem tab_slices_Compact_sl_string_string : tab (f_slices_Compact_sl_string_string nm) = some (C_slices_Compact_sl_string_string nm) := by kernel_rfl
theorem tab_maps_Keys_map_string_sl_string_string_sl_string : tab (f_maps_Keys_map_string_sl_string_string_sl_string nm) = some (C_maps_Keys_map_string_sl_string_string_sl_string nm) := by kernel_rfl
theorem tab_maps_Keys_map_string_bool_string_bool : tab (f_maps_Keys_map_string_bool_string_bool nm) = some (C_maps_Keys_map_string_bool_string_bool nm) := by kernel_rfl
theorem tab_slices_DeleteFunc_sl_string_string : tab (f_slices_DeleteFunc_sl_string_string nm) = some (C_slices_DeleteFunc_sl_string_string nm) := by kernel_rfl
theorem tab_p_deps_Net_Users_1 : tab (f_p_deps_Net_Users_1 nm) = some (C_p_deps_Net_Users_1 nm) := by kernel_rfl
theorem tab_slices_Contains_sl_string_string : tab (f_slices_Contains_sl_string_string nm) = some (C_slices_Contains_sl_string_string nm) := by kernel_rfl
theorem tab_ref04_Tag : tab (f_ref04_Tag nm) = some (C_ref04_Tag nm) := by kernel_rfl
theorem tab_ref03_IsWord : tab (f_ref03_IsWord nm) = some (C_ref03_IsWord nm) := by kernel_rfl
theorem tab_lexer_low : tab (f_lexer_low nm) = some (C_lexer_low nm) := by kernel_rfl
theorem tab_lexer_run : tab (f_lexer_run nm) = some (C_lexer_run nm) := by kernel_rfl
theorem tab_lexer_inName : tab (f_lexer_inName nm) = some (C_lexer_inName nm) := by kernel_rfl
theorem tab_lexer_IsWord : tab (f_lexer_IsWord nm) = some (C_lexer_IsWord nm) := by kernel_rfl
theorem tab_slices_IndexFunc_sl_string_string : tab (f_slices_IndexFunc_sl_string_string nm) = some (C_slices_IndexFunc_sl_string_string nm) := by kernel_rfl
theorem tab_slices_Index_sl_string_string : tab (f_slices_Index_sl_string_string nm) = some (C_slices_Index_sl_string_string nm) := by kernel_rfl
theorem tab_lexer_digit : tab (f_lexer_digit nm) = some (C_lexer_digit nm) := by kernel_rfl
theorem tab_lexer_words : tab (f_lexer_words nm) = some (C_lexer_words nm) := by kernel_rfl
end Go.Proofs.Y3p
