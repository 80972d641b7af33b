/- The seat's table: the numbers of functions and types, and that the templates are the program's functions. Printed by tm.py. -/
import Derived.Test.YtkofnmiopjnhiaaGreatDoorProg
import Derived.Test.YtkofnmiopjnhiaaGreatDoorM32
import Derived.Test.YtkofnmiopjnhiaaGreatDoorM37
import Derived.KernelRfl
set_option linter.unusedVariables false
set_option maxRecDepth 100000
namespace Go.Proofs.Y3n
open Go Go.Proofs.Eng

def nmF : List Nat := [0, 1, 2, 0, 0, 0, 0, 0, 0, 0, 0, 137, 162, 71, 0, 0, 158, 0, 163, 185, 186, 118, 194, 157, 233, 234, 235, 236, 237, 238, 239, 240, 241, 242, 243, 244, 245, 246, 247, 248, 254, 0, 0, 0, 0, 0, 0, 0, 0, 0, 0, 13, 14, 0, 0, 96, 36, 0, 50, 122, 21, 0, 0, 0, 0, 0, 0, 0, 32, 249, 35, 138, 139, 72, 31, 82, 47, 48, 49, 0, 0, 58, 26, 59, 164, 165, 166, 167, 168, 169, 81, 170, 171, 172, 119, 120, 121, 123, 124, 125, 126, 127, 57, 0, 54, 24, 95, 187, 188, 189, 94, 52, 53, 195, 196, 152, 83, 84, 85, 86, 87, 88, 89, 90, 91, 92, 93, 199, 182, 131, 132, 133, 134, 135, 136, 161, 250, 3, 4, 5, 6, 7, 8, 9, 10, 11, 12, 15, 16, 17, 18, 19, 20, 22, 23, 25, 27, 28, 29, 30, 33, 34, 37, 38, 39, 40, 41, 42, 43, 44, 45, 46, 51, 55, 56, 60, 61, 62, 63, 64, 65, 66, 67, 68, 69, 70, 73, 74, 75, 76, 77, 78, 79, 80, 97, 98, 99, 100, 101, 102, 103, 104, 105, 106, 107, 108, 109, 110, 111, 112, 113, 114, 115, 116, 117, 128, 129, 130, 140, 141, 142, 143, 144, 145, 146, 147, 148, 149, 150, 151, 153, 154, 155, 156, 159, 160, 173, 174, 175, 176, 177, 178, 179, 180, 181, 183, 184, 190, 191, 192, 193, 197, 198, 200, 201, 202, 203, 204, 205, 206, 207, 208, 209, 210, 211, 212, 213, 214, 215, 216, 217, 218, 219, 220, 221, 222, 223, 224, 225, 226, 227, 228, 229, 230, 231, 232, 251, 252, 253, 255, 256, 257, 258, 259, 260, 261, 262]
def nmT : List Nat := [3, 4, 5, 21, 37, 91, 0, 9, 34, 45, 82, 0, 0, 70, 72, 24, 164, 23, 32, 36, 43, 54, 62, 80, 88, 93, 106, 111, 125, 145, 155, 180, 232, 237, 239, 245, 0, 0, 0, 0, 0, 0, 0, 0, 0, 0, 0, 0, 0, 0, 0, 0, 0, 0, 0, 0, 0, 0, 0, 0, 0, 0, 0, 0, 0, 0]
def nm (i : Nat) : Nat := if i < 100000 then nmF.getD i 0 else nmT.getD (i - 100000) 0

def tab : Tab := fun f => match f with
  | 3 => some (C_law24_DepsNone nm)
  | 5 => some (C_law24_lives nm)
  | 6 => some (C_p_deps_Net_On nm)
  | 7 => some (C_p_deps_Net_Put nm)
  | 8 => some (C_p_deps_Net_Names nm)
  | 9 => some (C_p_deps_Net_Missing nm)
  | 10 => some (C_p_deps_Net_Users nm)
  | 11 => some (C_p_deps_Net_Cone nm)
  | 12 => some (C_deps_Of nm)
  | 18 => some (C_deps_New nm)
  | 19 => some (C_law07_Same nm)
  | 20 => some (C_slices_Clone_sl_string_string nm)
  | 21 => some (C_lexer_IsName nm)
  | 22 => some (C_slices_ContainsFunc_sl_string_string nm)
  | 23 => some (C_p_deps_Net_Put_1 nm)
  | 24 => some (C_slices_Sort_sl_string_string nm)
  | 25 => some (C_slices_Compact_sl_string_string nm)
  | 27 => some (C_maps_Keys_map_string_sl_string_string_sl_string nm)
  | 28 => some (C_maps_Keys_map_string_bool_string_bool nm)
  | 29 => some (C_slices_DeleteFunc_sl_string_string nm)
  | 30 => some (C_p_deps_Net_Users_1 nm)
  | 31 => some (C_slices_Contains_sl_string_string nm)
  | 32 => some (C_p_store_Store_All nm)
  | 35 => some (C_slices_Clone_sl_byte_byte nm)
  | 47 => some (C_lexer_low nm)
  | 48 => some (C_lexer_run nm)
  | 49 => some (C_lexer_inName nm)
  | 50 => some (C_lexer_IsWord nm)
  | 51 => some (C_slices_IndexFunc_sl_string_string nm)
  | 52 => some (C_slices_pdqsortOrdered_string nm)
  | 53 => some (C_math_bits_Len nm)
  | 57 => some (C_slices_Index_sl_string_string nm)
  | 58 => some (C_p_store_Store_All_1 nm)
  | 59 => some (C_maps_Keys_map_string_sl_byte_string_sl_byte nm)
  | 81 => some (C_lexer_digit nm)
  | 82 => some (C_lexer_words nm)
  | 83 => some (C_slices_insertionSortOrdered_string nm)
  | 84 => some (C_slices_heapSortOrdered_string nm)
  | 85 => some (C_slices_breakPatternsOrdered_string nm)
  | 86 => some (C_slices_choosePivotOrdered_string nm)
  | 87 => some (C_slices_reverseRangeOrdered_string nm)
  | 88 => some (C_slices_partialInsertionSortOrdered_string nm)
  | 89 => some (C_cmp_Less_string nm)
  | 90 => some (C_slices_partitionEqualOrdered_string nm)
  | 91 => some (C_slices_partitionOrdered_string nm)
  | 92 => some (C_math_bits_Len32 nm)
  | 93 => some (C_math_bits_Len64 nm)
  | 131 => some (C_slices_siftDownOrdered_string nm)
  | 132 => some (C_slices_nextPowerOfTwo nm)
  | 133 => some (C_p_slices_xorshift_Next nm)
  | 134 => some (C_slices_medianAdjacentOrdered_string nm)
  | 135 => some (C_slices_medianOrdered_string nm)
  | 136 => some (C_cmp_isNaN_string nm)
  | 161 => some (C_slices_order2Ordered_string nm)
  | _ => none

theorem res3 : pFunc Tryz.prog Tryz.f3 = some { C_law24_DepsNone nm with frz := false } := by kernel_rfl
theorem res5 : pFunc Tryz.prog Tryz.f5 = some { C_law24_lives nm with frz := false } := by kernel_rfl
theorem res6 : pFunc Tryz.prog Tryz.f6 = some { C_p_deps_Net_On nm with frz := false } := by kernel_rfl
theorem res7 : pFunc Tryz.prog Tryz.f7 = some { C_p_deps_Net_Put nm with frz := false } := by kernel_rfl
theorem res8 : pFunc Tryz.prog Tryz.f8 = some { C_p_deps_Net_Names nm with frz := false } := by kernel_rfl
theorem res9 : pFunc Tryz.prog Tryz.f9 = some { C_p_deps_Net_Missing nm with frz := false } := by kernel_rfl
theorem res10 : pFunc Tryz.prog Tryz.f10 = some { C_p_deps_Net_Users nm with frz := false } := by kernel_rfl
theorem res11 : pFunc Tryz.prog Tryz.f11 = some { C_p_deps_Net_Cone nm with frz := false } := by kernel_rfl
theorem res12 : pFunc Tryz.prog Tryz.f12 = some { C_deps_Of nm with frz := false } := by kernel_rfl
theorem res18 : pFunc Tryz.prog Tryz.f18 = some { C_deps_New nm with frz := false } := by kernel_rfl
theorem res19 : pFunc Tryz.prog Tryz.f19 = some { C_law07_Same nm with frz := false } := by kernel_rfl
theorem res20 : pFunc Tryz.prog Tryz.f20 = some { C_slices_Clone_sl_string_string nm with frz := false } := by kernel_rfl
theorem res21 : pFunc Tryz.prog Tryz.f21 = some { C_lexer_IsName nm with frz := false } := by kernel_rfl
theorem res22 : pFunc Tryz.prog Tryz.f22 = some { C_slices_ContainsFunc_sl_string_string nm with frz := false } := by kernel_rfl
theorem res23 : pFunc Tryz.prog Tryz.f23 = some { C_p_deps_Net_Put_1 nm with frz := false } := by kernel_rfl
theorem res24 : pFunc Tryz.prog Tryz.f24 = some { C_slices_Sort_sl_string_string nm with frz := false } := by kernel_rfl
theorem res25 : pFunc Tryz.prog Tryz.f25 = some { C_slices_Compact_sl_string_string nm with frz := false } := by kernel_rfl
theorem res27 : pFunc Tryz.prog Tryz.f27 = some { C_maps_Keys_map_string_sl_string_string_sl_string nm with frz := false } := by kernel_rfl
theorem res28 : pFunc Tryz.prog Tryz.f28 = some { C_maps_Keys_map_string_bool_string_bool nm with frz := false } := by kernel_rfl
theorem res29 : pFunc Tryz.prog Tryz.f29 = some { C_slices_DeleteFunc_sl_string_string nm with frz := false } := by kernel_rfl
theorem res30 : pFunc Tryz.prog Tryz.f30 = some { C_p_deps_Net_Users_1 nm with frz := false } := by kernel_rfl
theorem res31 : pFunc Tryz.prog Tryz.f31 = some { C_slices_Contains_sl_string_string nm with frz := false } := by kernel_rfl
theorem res32 : pFunc Tryz.prog Tryz.f32 = some { C_p_store_Store_All nm with frz := false } := by kernel_rfl
theorem res35 : pFunc Tryz.prog Tryz.f35 = some { C_slices_Clone_sl_byte_byte nm with frz := false } := by kernel_rfl
theorem res47 : pFunc Tryz.prog Tryz.f47 = some { C_lexer_low nm with frz := false } := by kernel_rfl
theorem res48 : pFunc Tryz.prog Tryz.f48 = some { C_lexer_run nm with frz := false } := by kernel_rfl
theorem res49 : pFunc Tryz.prog Tryz.f49 = some { C_lexer_inName nm with frz := false } := by kernel_rfl
theorem res50 : pFunc Tryz.prog Tryz.f50 = some { C_lexer_IsWord nm with frz := false } := by kernel_rfl
theorem res51 : pFunc Tryz.prog Tryz.f51 = some { C_slices_IndexFunc_sl_string_string nm with frz := false } := by kernel_rfl
theorem res52 : pFunc Tryz.prog Tryz.f52 = some { C_slices_pdqsortOrdered_string nm with frz := false } := by kernel_rfl
theorem res53 : pFunc Tryz.prog Tryz.f53 = some { C_math_bits_Len nm with frz := false } := by kernel_rfl
theorem res57 : pFunc Tryz.prog Tryz.f57 = some { C_slices_Index_sl_string_string nm with frz := false } := by kernel_rfl
theorem res58 : pFunc Tryz.prog Tryz.f58 = some { C_p_store_Store_All_1 nm with frz := false } := by kernel_rfl
theorem res59 : pFunc Tryz.prog Tryz.f59 = some { C_maps_Keys_map_string_sl_byte_string_sl_byte nm with frz := false } := by kernel_rfl
theorem res81 : pFunc Tryz.prog Tryz.f81 = some { C_lexer_digit nm with frz := false } := by kernel_rfl
theorem res82 : pFunc Tryz.prog Tryz.f82 = some { C_lexer_words nm with frz := false } := by kernel_rfl
theorem res83 : pFunc Tryz.prog Tryz.f83 = some { C_slices_insertionSortOrdered_string nm with frz := false } := by kernel_rfl
theorem res84 : pFunc Tryz.prog Tryz.f84 = some { C_slices_heapSortOrdered_string nm with frz := false } := by kernel_rfl
theorem res85 : pFunc Tryz.prog Tryz.f85 = some { C_slices_breakPatternsOrdered_string nm with frz := false } := by kernel_rfl
theorem res86 : pFunc Tryz.prog Tryz.f86 = some { C_slices_choosePivotOrdered_string nm with frz := false } := by kernel_rfl
theorem res87 : pFunc Tryz.prog Tryz.f87 = some { C_slices_reverseRangeOrdered_string nm with frz := false } := by kernel_rfl
theorem res88 : pFunc Tryz.prog Tryz.f88 = some { C_slices_partialInsertionSortOrdered_string nm with frz := false } := by kernel_rfl
theorem res89 : pFunc Tryz.prog Tryz.f89 = some { C_cmp_Less_string nm with frz := false } := by kernel_rfl
theorem res90 : pFunc Tryz.prog Tryz.f90 = some { C_slices_partitionEqualOrdered_string nm with frz := false } := by kernel_rfl
theorem res91 : pFunc Tryz.prog Tryz.f91 = some { C_slices_partitionOrdered_string nm with frz := false } := by kernel_rfl
theorem res92 : pFunc Tryz.prog Tryz.f92 = some { C_math_bits_Len32 nm with frz := false } := by kernel_rfl
theorem res93 : pFunc Tryz.prog Tryz.f93 = some { C_math_bits_Len64 nm with frz := false } := by kernel_rfl
theorem res131 : pFunc Tryz.prog Tryz.f131 = some { C_slices_siftDownOrdered_string nm with frz := false } := by kernel_rfl
theorem res132 : pFunc Tryz.prog Tryz.f132 = some { C_slices_nextPowerOfTwo nm with frz := false } := by kernel_rfl
theorem res133 : pFunc Tryz.prog Tryz.f133 = some { C_p_slices_xorshift_Next nm with frz := false } := by kernel_rfl
theorem res134 : pFunc Tryz.prog Tryz.f134 = some { C_slices_medianAdjacentOrdered_string nm with frz := false } := by kernel_rfl
theorem res135 : pFunc Tryz.prog Tryz.f135 = some { C_slices_medianOrdered_string nm with frz := false } := by kernel_rfl
theorem res136 : pFunc Tryz.prog Tryz.f136 = some { C_cmp_isNaN_string nm with frz := false } := by kernel_rfl
theorem res161 : pFunc Tryz.prog Tryz.f161 = some { C_slices_order2Ordered_string nm with frz := false } := by kernel_rfl

theorem tab_ok : TOK Tryz.prog tab := by
  intro f af h
  unfold tab at h
  split at h
  · simp only [Option.some.injEq] at h; subst h; exact ⟨Tryz.f3, Tryz.func3, res3⟩
  · simp only [Option.some.injEq] at h; subst h; exact ⟨Tryz.f5, Tryz.func5, res5⟩
  · simp only [Option.some.injEq] at h; subst h; exact ⟨Tryz.f6, Tryz.func6, res6⟩
  · simp only [Option.some.injEq] at h; subst h; exact ⟨Tryz.f7, Tryz.func7, res7⟩
  · simp only [Option.some.injEq] at h; subst h; exact ⟨Tryz.f8, Tryz.func8, res8⟩
  · simp only [Option.some.injEq] at h; subst h; exact ⟨Tryz.f9, Tryz.func9, res9⟩
  · simp only [Option.some.injEq] at h; subst h; exact ⟨Tryz.f10, Tryz.func10, res10⟩
  · simp only [Option.some.injEq] at h; subst h; exact ⟨Tryz.f11, Tryz.func11, res11⟩
  · simp only [Option.some.injEq] at h; subst h; exact ⟨Tryz.f12, Tryz.func12, res12⟩
  · simp only [Option.some.injEq] at h; subst h; exact ⟨Tryz.f18, Tryz.func18, res18⟩
  · simp only [Option.some.injEq] at h; subst h; exact ⟨Tryz.f19, Tryz.func19, res19⟩
  · simp only [Option.some.injEq] at h; subst h; exact ⟨Tryz.f20, Tryz.func20, res20⟩
  · simp only [Option.some.injEq] at h; subst h; exact ⟨Tryz.f21, Tryz.func21, res21⟩
  · simp only [Option.some.injEq] at h; subst h; exact ⟨Tryz.f22, Tryz.func22, res22⟩
  · simp only [Option.some.injEq] at h; subst h; exact ⟨Tryz.f23, Tryz.func23, res23⟩
  · simp only [Option.some.injEq] at h; subst h; exact ⟨Tryz.f24, Tryz.func24, res24⟩
  · simp only [Option.some.injEq] at h; subst h; exact ⟨Tryz.f25, Tryz.func25, res25⟩
  · simp only [Option.some.injEq] at h; subst h; exact ⟨Tryz.f27, Tryz.func27, res27⟩
  · simp only [Option.some.injEq] at h; subst h; exact ⟨Tryz.f28, Tryz.func28, res28⟩
  · simp only [Option.some.injEq] at h; subst h; exact ⟨Tryz.f29, Tryz.func29, res29⟩
  · simp only [Option.some.injEq] at h; subst h; exact ⟨Tryz.f30, Tryz.func30, res30⟩
  · simp only [Option.some.injEq] at h; subst h; exact ⟨Tryz.f31, Tryz.func31, res31⟩
  · simp only [Option.some.injEq] at h; subst h; exact ⟨Tryz.f32, Tryz.func32, res32⟩
  · simp only [Option.some.injEq] at h; subst h; exact ⟨Tryz.f35, Tryz.func35, res35⟩
  · simp only [Option.some.injEq] at h; subst h; exact ⟨Tryz.f47, Tryz.func47, res47⟩
  · simp only [Option.some.injEq] at h; subst h; exact ⟨Tryz.f48, Tryz.func48, res48⟩
  · simp only [Option.some.injEq] at h; subst h; exact ⟨Tryz.f49, Tryz.func49, res49⟩
  · simp only [Option.some.injEq] at h; subst h; exact ⟨Tryz.f50, Tryz.func50, res50⟩
  · simp only [Option.some.injEq] at h; subst h; exact ⟨Tryz.f51, Tryz.func51, res51⟩
  · simp only [Option.some.injEq] at h; subst h; exact ⟨Tryz.f52, Tryz.func52, res52⟩
  · simp only [Option.some.injEq] at h; subst h; exact ⟨Tryz.f53, Tryz.func53, res53⟩
  · simp only [Option.some.injEq] at h; subst h; exact ⟨Tryz.f57, Tryz.func57, res57⟩
  · simp only [Option.some.injEq] at h; subst h; exact ⟨Tryz.f58, Tryz.func58, res58⟩
  · simp only [Option.some.injEq] at h; subst h; exact ⟨Tryz.f59, Tryz.func59, res59⟩
  · simp only [Option.some.injEq] at h; subst h; exact ⟨Tryz.f81, Tryz.func81, res81⟩
  · simp only [Option.some.injEq] at h; subst h; exact ⟨Tryz.f82, Tryz.func82, res82⟩
  · simp only [Option.some.injEq] at h; subst h; exact ⟨Tryz.f83, Tryz.func83, res83⟩
  · simp only [Option.some.injEq] at h; subst h; exact ⟨Tryz.f84, Tryz.func84, res84⟩
  · simp only [Option.some.injEq] at h; subst h; exact ⟨Tryz.f85, Tryz.func85, res85⟩
  · simp only [Option.some.injEq] at h; subst h; exact ⟨Tryz.f86, Tryz.func86, res86⟩
  · simp only [Option.some.injEq] at h; subst h; exact ⟨Tryz.f87, Tryz.func87, res87⟩
  · simp only [Option.some.injEq] at h; subst h; exact ⟨Tryz.f88, Tryz.func88, res88⟩
  · simp only [Option.some.injEq] at h; subst h; exact ⟨Tryz.f89, Tryz.func89, res89⟩
  · simp only [Option.some.injEq] at h; subst h; exact ⟨Tryz.f90, Tryz.func90, res90⟩
  · simp only [Option.some.injEq] at h; subst h; exact ⟨Tryz.f91, Tryz.func91, res91⟩
  · simp only [Option.some.injEq] at h; subst h; exact ⟨Tryz.f92, Tryz.func92, res92⟩
  · simp only [Option.some.injEq] at h; subst h; exact ⟨Tryz.f93, Tryz.func93, res93⟩
  · simp only [Option.some.injEq] at h; subst h; exact ⟨Tryz.f131, Tryz.func131, res131⟩
  · simp only [Option.some.injEq] at h; subst h; exact ⟨Tryz.f132, Tryz.func132, res132⟩
  · simp only [Option.some.injEq] at h; subst h; exact ⟨Tryz.f133, Tryz.func133, res133⟩
  · simp only [Option.some.injEq] at h; subst h; exact ⟨Tryz.f134, Tryz.func134, res134⟩
  · simp only [Option.some.injEq] at h; subst h; exact ⟨Tryz.f135, Tryz.func135, res135⟩
  · simp only [Option.some.injEq] at h; subst h; exact ⟨Tryz.f136, Tryz.func136, res136⟩
  · simp only [Option.some.injEq] at h; subst h; exact ⟨Tryz.f161, Tryz.func161, res161⟩
  · simp at h

theorem tab_law24_DepsNone : tab (f_law24_DepsNone nm) = some (C_law24_DepsNone nm) := by kernel_rfl
theorem tab_law24_lives : tab (f_law24_lives nm) = some (C_law24_lives nm) := by kernel_rfl
theorem tab_p_deps_Net_On : tab (f_p_deps_Net_On nm) = some (C_p_deps_Net_On nm) := by kernel_rfl
theorem tab_p_deps_Net_Put : tab (f_p_deps_Net_Put nm) = some (C_p_deps_Net_Put nm) := by kernel_rfl
theorem tab_p_deps_Net_Names : tab (f_p_deps_Net_Names nm) = some (C_p_deps_Net_Names nm) := by kernel_rfl
theorem tab_p_deps_Net_Missing : tab (f_p_deps_Net_Missing nm) = some (C_p_deps_Net_Missing nm) := by kernel_rfl
theorem tab_p_deps_Net_Users : tab (f_p_deps_Net_Users nm) = some (C_p_deps_Net_Users nm) := by kernel_rfl
theorem tab_p_deps_Net_Cone : tab (f_p_deps_Net_Cone nm) = some (C_p_deps_Net_Cone nm) := by kernel_rfl
theorem tab_deps_Of : tab (f_deps_Of nm) = some (C_deps_Of nm) := by kernel_rfl
theorem tab_deps_New : tab (f_deps_New nm) = some (C_deps_New nm) := by kernel_rfl
theorem tab_law07_Same : tab (f_law07_Same nm) = some (C_law07_Same nm) := by kernel_rfl
theorem tab_slices_Clone_sl_string_string : tab (f_slices_Clone_sl_string_string nm) = some (C_slices_Clone_sl_string_string nm) := by kernel_rfl
theorem tab_lexer_IsName : tab (f_lexer_IsName nm) = some (C_lexer_IsName nm) := by kernel_rfl
theorem tab_slices_ContainsFunc_sl_string_string : tab (f_slices_ContainsFunc_sl_string_string nm) = some (C_slices_ContainsFunc_sl_string_string nm) := by kernel_rfl
theorem tab_p_deps_Net_Put_1 : tab (f_p_deps_Net_Put_1 nm) = some (C_p_deps_Net_Put_1 nm) := by kernel_rfl
theorem tab_slices_Sort_sl_string_string : tab (f_slices_Sort_sl_string_string nm) = some (C_slices_Sort_sl_string_string nm) := by kernel_rfl
theorem tab_slices_Compact_sl_string_string : tab (f_slices_Compact_sl_string_string nm) = some (C_slices_Compact_sl_string_string nm) := by kernel_rfl
theorem tab_maps_Keys_map_string_sl_string_string_sl_string : tab (f_maps_Keys_map_string_sl_string_string_sl_string nm) = some (C_maps_Keys_map_string_sl_string_string_sl_string nm) := by kernel_rfl
theorem tab_maps_Keys_map_string_bool_string_bool : tab (f_maps_Keys_map_string_bool_string_bool nm) = some (C_maps_Keys_map_string_bool_string_bool nm) := by kernel_rfl
theorem tab_slices_DeleteFunc_sl_string_string : tab (f_slices_DeleteFunc_sl_string_string nm) = some (C_slices_DeleteFunc_sl_string_string nm) := by kernel_rfl
theorem tab_p_deps_Net_Users_1 : tab (f_p_deps_Net_Users_1 nm) = some (C_p_deps_Net_Users_1 nm) := by kernel_rfl
theorem tab_slices_Contains_sl_string_string : tab (f_slices_Contains_sl_string_string nm) = some (C_slices_Contains_sl_string_string nm) := by kernel_rfl
theorem tab_p_store_Store_All : tab (f_p_store_Store_All nm) = some (C_p_store_Store_All nm) := by kernel_rfl
theorem tab_slices_Clone_sl_byte_byte : tab (f_slices_Clone_sl_byte_byte nm) = some (C_slices_Clone_sl_byte_byte nm) := by kernel_rfl
theorem tab_lexer_low : tab (f_lexer_low nm) = some (C_lexer_low nm) := by kernel_rfl
theorem tab_lexer_run : tab (f_lexer_run nm) = some (C_lexer_run nm) := by kernel_rfl
theorem tab_lexer_inName : tab (f_lexer_inName nm) = some (C_lexer_inName nm) := by kernel_rfl
theorem tab_lexer_IsWord : tab (f_lexer_IsWord nm) = some (C_lexer_IsWord nm) := by kernel_rfl
theorem tab_slices_IndexFunc_sl_string_string : tab (f_slices_IndexFunc_sl_string_string nm) = some (C_slices_IndexFunc_sl_string_string nm) := by kernel_rfl
theorem tab_slices_pdqsortOrdered_string : tab (f_slices_pdqsortOrdered_string nm) = some (C_slices_pdqsortOrdered_string nm) := by kernel_rfl
theorem tab_math_bits_Len : tab (f_math_bits_Len nm) = some (C_math_bits_Len nm) := by kernel_rfl
theorem tab_slices_Index_sl_string_string : tab (f_slices_Index_sl_string_string nm) = some (C_slices_Index_sl_string_string nm) := by kernel_rfl
theorem tab_p_store_Store_All_1 : tab (f_p_store_Store_All_1 nm) = some (C_p_store_Store_All_1 nm) := by kernel_rfl
theorem tab_maps_Keys_map_string_sl_byte_string_sl_byte : tab (f_maps_Keys_map_string_sl_byte_string_sl_byte nm) = some (C_maps_Keys_map_string_sl_byte_string_sl_byte nm) := by kernel_rfl
theorem tab_lexer_digit : tab (f_lexer_digit nm) = some (C_lexer_digit nm) := by kernel_rfl
theorem tab_lexer_words : tab (f_lexer_words nm) = some (C_lexer_words nm) := by kernel_rfl
theorem tab_slices_insertionSortOrdered_string : tab (f_slices_insertionSortOrdered_string nm) = some (C_slices_insertionSortOrdered_string nm) := by kernel_rfl
theorem tab_slices_heapSortOrdered_string : tab (f_slices_heapSortOrdered_string nm) = some (C_slices_heapSortOrdered_string nm) := by kernel_rfl
theorem tab_slices_breakPatternsOrdered_string : tab (f_slices_breakPatternsOrdered_string nm) = some (C_slices_breakPatternsOrdered_string nm) := by kernel_rfl
theorem tab_slices_choosePivotOrdered_string : tab (f_slices_choosePivotOrdered_string nm) = some (C_slices_choosePivotOrdered_string nm) := by kernel_rfl
theorem tab_slices_reverseRangeOrdered_string : tab (f_slices_reverseRangeOrdered_string nm) = some (C_slices_reverseRangeOrdered_string nm) := by kernel_rfl
theorem tab_slices_partialInsertionSortOrdered_string : tab (f_slices_partialInsertionSortOrdered_string nm) = some (C_slices_partialInsertionSortOrdered_string nm) := by kernel_rfl
theorem tab_cmp_Less_string : tab (f_cmp_Less_string nm) = some (C_cmp_Less_string nm) := by kernel_rfl
theorem tab_slices_partitionEqualOrdered_string : tab (f_slices_partitionEqualOrdered_string nm) = some (C_slices_partitionEqualOrdered_string nm) := by kernel_rfl
theorem tab_slices_partitionOrdered_string : tab (f_slices_partitionOrdered_string nm) = some (C_slices_partitionOrdered_string nm) := by kernel_rfl
theorem tab_math_bits_Len32 : tab (f_math_bits_Len32 nm) = some (C_math_bits_Len32 nm) := by kernel_rfl
theorem tab_math_bits_Len64 : tab (f_math_bits_Len64 nm) = some (C_math_bits_Len64 nm) := by kernel_rfl
theorem tab_slices_siftDownOrdered_string : tab (f_slices_siftDownOrdered_string nm) = some (C_slices_siftDownOrdered_string nm) := by kernel_rfl
theorem tab_slices_nextPowerOfTwo : tab (f_slices_nextPowerOfTwo nm) = some (C_slices_nextPowerOfTwo nm) := by kernel_rfl
theorem tab_p_slices_xorshift_Next : tab (f_p_slices_xorshift_Next nm) = some (C_p_slices_xorshift_Next nm) := by kernel_rfl
theorem tab_slices_medianAdjacentOrdered_string : tab (f_slices_medianAdjacentOrdered_string nm) = some (C_slices_medianAdjacentOrdered_string nm) := by kernel_rfl
theorem tab_slices_medianOrdered_string : tab (f_slices_medianOrdered_string nm) = some (C_slices_medianOrdered_string nm) := by kernel_rfl
theorem tab_cmp_isNaN_string : tab (f_cmp_isNaN_string nm) = some (C_cmp_isNaN_string nm) := by kernel_rfl
theorem tab_slices_order2Ordered_string : tab (f_slices_order2Ordered_string nm) = some (C_slices_order2Ordered_string nm) := by kernel_rfl
end Go.Proofs.Y3n
