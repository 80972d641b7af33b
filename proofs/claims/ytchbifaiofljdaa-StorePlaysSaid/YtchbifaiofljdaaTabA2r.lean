/- The seat's table: the numbers of functions and types, and that the templates are the program's functions. Printed by tm.py. -/
import Derived.Test.YtchbifaiofljdaaProg
import Derived.Test.YtchbifaiofljdaaM34
import Derived.Test.YtchbifaiofljdaaM37
import Derived.Test.YtchbifaiofljdaaM46
import Derived.Test.YtchbifaiofljdaaEngFlaw01
import Derived.KernelRfl
set_option linter.unusedVariables false
set_option maxRecDepth 100000
namespace Go.Proofs.Y2r
open Go Go.Proofs.Eng

def nmF : List Nat := [0, 1, 2, 0, 0, 0, 0, 0, 0, 0, 0, 33, 48, 36, 0, 0, 80, 0, 49, 74, 75, 60, 84, 79, 108, 109, 110, 111, 112, 113, 114, 115, 116, 117, 118, 119, 120, 121, 122, 123, 125, 3, 4, 5, 6, 7, 8, 9, 10, 11, 12, 13, 14, 15, 16, 17, 18, 19, 20, 21, 22, 23, 24, 25, 26, 27, 28, 29, 30, 31, 32, 34, 35, 37, 38, 39, 40, 41, 42, 43, 44, 45, 46, 47, 50, 51, 52, 53, 54, 55, 56, 57, 58, 59, 61, 62, 63, 64, 65, 66, 67, 68, 69, 70, 71, 72, 73, 76, 77, 78, 81, 82, 83, 85, 86, 87, 88, 89, 90, 91, 92, 93, 94, 95, 96, 97, 98, 99, 100, 101, 102, 103, 104, 105, 106, 107, 124]
def nmT : List Nat := [3, 4, 5, 21, 27, 64, 0, 9, 23, 32, 36, 42, 44, 56, 58, 69, 123, 0, 39, 0, 0, 0, 0, 0, 0, 0, 0, 0, 0, 0, 0, 0, 0, 0, 0, 0, 0, 0, 0, 0, 0, 0, 0, 0, 0, 0, 0, 0, 0, 0, 0, 0, 0, 0, 0, 0, 0, 0, 0, 0, 0]
def nm (i : Nat) : Nat := if i < 100000 then nmF.getD i 0 else nmT.getD (i - 100000) 0

def tab : Tab := fun f => match f with
  | 9 => some (C_law23_StoreRounds nm)
  | 12 => some (C_law23_lives nm)
  | 13 => some (C_store_New nm)
  | 14 => some (C_p_store_Store_Set nm)
  | 15 => some (C_p_store_Store_Delete nm)
  | 17 => some (C_lexer_Lex nm)
  | 18 => some (C_ref03_Lex nm)
  | 20 => some (C_lexer_IsWord nm)
  | 21 => some (C_ref03_IsWord nm)
  | 22 => some (C_lexer_IsName nm)
  | 24 => some (C_law23_do nm)
  | 25 => some (C_p_store_Store_Rename nm)
  | 26 => some (C_law23_is nm)
  | 27 => some (C_p_store_Store_Turn nm)
  | 29 => some (C_p_store_Store_Text nm)
  | 30 => some (C_p_store_Store_All nm)
  | 31 => some (C_p_store_Store_Len nm)
  | 32 => some (C_slices_Clone_sl_byte_byte nm)
  | 33 => some (C_runes_Bad nm)
  | 34 => some (C_lexer_blank nm)
  | 35 => some (C_lexer_one nm)
  | 36 => some (C_ref01_Signs nm)
  | 37 => some (C_ref03_one nm)
  | 38 => some (C_slices_Contains_sl_string_string nm)
  | 39 => some (C_lexer_words nm)
  | 40 => some (C_lexer_low nm)
  | 41 => some (C_lexer_run nm)
  | 42 => some (C_lexer_inName nm)
  | 44 => some (C_ref04_Name nm)
  | 45 => some (C_p_store_Store_All_1 nm)
  | 47 => some (C_maps_Keys_map_string_sl_byte_string_sl_byte nm)
  | 48 => some (C_runes_All nm)
  | 49 => some (C_runes_size nm)
  | 50 => some (C_strings_IndexByte nm)
  | 51 => some (C_strings_HasPrefix nm)
  | 52 => some (C_lexer_blank_1 nm)
  | 53 => some (C_lexer_float nm)
  | 54 => some (C_lexer_high nm)
  | 55 => some (C_lexer_inAlias nm)
  | 56 => some (C_lexer_digit nm)
  | 57 => some (C_lexer_number nm)
  | 58 => some (C_lexer_text nm)
  | 59 => some (C_lexer_signs nm)
  | 60 => some (C_ref01_First nm)
  | 61 => some (C_ref03_hex nm)
  | 62 => some (C_ref03_low nm)
  | 63 => some (C_ref03_name nm)
  | 64 => some (C_ref03_high nm)
  | 65 => some (C_ref03_digit nm)
  | 66 => some (C_ref03_number nm)
  | 67 => some (C_ref03_str nm)
  | 68 => some (C_ref03_sign nm)
  | 69 => some (C_slices_Index_sl_string_string nm)
  | 70 => some (C_ref04_Tag nm)
  | 74 => some (C_runes_All_1 nm)
  | 75 => some (C_runes_first nm)
  | 76 => some (C_internal_stringslite_IndexByte nm)
  | 77 => some (C_internal_stringslite_HasPrefix nm)
  | 78 => some (C_floats_Parse nm)
  | 79 => some (C_ref01_value nm)
  | 80 => some (C_ref01_Encode nm)
  | 84 => some (C_runes_sign nm)
  | 86 => some (C_strings_CutPrefix nm)
  | 87 => some (C_floats_Of nm)
  | 99 => some (C_internal_stringslite_CutPrefix nm)
  | _ => none

theorem res9 : pFunc Try.prog Try.f9 = some { C_law23_StoreRounds nm with frz := false } := by kernel_rfl
theorem res12 : pFunc Try.prog Try.f12 = some { C_law23_lives nm with frz := false } := by kernel_rfl
theorem res13 : pFunc Try.prog Try.f13 = some { C_store_New nm with frz := false } := by kernel_rfl
theorem res14 : pFunc Try.prog Try.f14 = some { C_p_store_Store_Set nm with frz := false } := by kernel_rfl
theorem res15 : pFunc Try.prog Try.f15 = some { C_p_store_Store_Delete nm with frz := false } := by kernel_rfl
theorem res17 : pFunc Try.prog Try.f17 = some { C_lexer_Lex nm with frz := false } := by kernel_rfl
theorem res18 : pFunc Try.prog Try.f18 = some { C_ref03_Lex nm with frz := false } := by kernel_rfl
theorem res20 : pFunc Try.prog Try.f20 = some { C_lexer_IsWord nm with frz := false } := by kernel_rfl
theorem res21 : pFunc Try.prog Try.f21 = some { C_ref03_IsWord nm with frz := false } := by kernel_rfl
theorem res22 : pFunc Try.prog Try.f22 = some { C_lexer_IsName nm with frz := false } := by kernel_rfl
theorem res24 : pFunc Try.prog Try.f24 = some { C_law23_do nm with frz := false } := by kernel_rfl
theorem res25 : pFunc Try.prog Try.f25 = some { C_p_store_Store_Rename nm with frz := false } := by kernel_rfl
theorem res26 : pFunc Try.prog Try.f26 = some { C_law23_is nm with frz := false } := by kernel_rfl
theorem res27 : pFunc Try.prog Try.f27 = some { C_p_store_Store_Turn nm with frz := false } := by kernel_rfl
theorem res29 : pFunc Try.prog Try.f29 = some { C_p_store_Store_Text nm with frz := false } := by kernel_rfl
theorem res30 : pFunc Try.prog Try.f30 = some { C_p_store_Store_All nm with frz := false } := by kernel_rfl
theorem res31 : pFunc Try.prog Try.f31 = some { C_p_store_Store_Len nm with frz := false } := by kernel_rfl
theorem res32 : pFunc Try.prog Try.f32 = some { C_slices_Clone_sl_byte_byte nm with frz := false } := by kernel_rfl
theorem res33 : pFunc Try.prog Try.f33 = some { C_runes_Bad nm with frz := false } := by kernel_rfl
theorem res34 : pFunc Try.prog Try.f34 = some { C_lexer_blank nm with frz := false } := by kernel_rfl
theorem res35 : pFunc Try.prog Try.f35 = some { C_lexer_one nm with frz := false } := by kernel_rfl
theorem res36 : pFunc Try.prog Try.f36 = some { C_ref01_Signs nm with frz := false } := by kernel_rfl
theorem res37 : pFunc Try.prog Try.f37 = some { C_ref03_one nm with frz := false } := by kernel_rfl
theorem res38 : pFunc Try.prog Try.f38 = some { C_slices_Contains_sl_string_string nm with frz := false } := by kernel_rfl
theorem res39 : pFunc Try.prog Try.f39 = some { C_lexer_words nm with frz := false } := by kernel_rfl
theorem res40 : pFunc Try.prog Try.f40 = some { C_lexer_low nm with frz := false } := by kernel_rfl
theorem res41 : pFunc Try.prog Try.f41 = some { C_lexer_run nm with frz := false } := by kernel_rfl
theorem res42 : pFunc Try.prog Try.f42 = some { C_lexer_inName nm with frz := false } := by kernel_rfl
theorem res44 : pFunc Try.prog Try.f44 = some { C_ref04_Name nm with frz := false } := by kernel_rfl
theorem res45 : pFunc Try.prog Try.f45 = some { C_p_store_Store_All_1 nm with frz := false } := by kernel_rfl
theorem res47 : pFunc Try.prog Try.f47 = some { C_maps_Keys_map_string_sl_byte_string_sl_byte nm with frz := false } := by kernel_rfl
theorem res48 : pFunc Try.prog Try.f48 = some { C_runes_All nm with frz := false } := by kernel_rfl
theorem res49 : pFunc Try.prog Try.f49 = some { C_runes_size nm with frz := false } := by kernel_rfl
theorem res50 : pFunc Try.prog Try.f50 = some { C_strings_IndexByte nm with frz := false } := by kernel_rfl
theorem res51 : pFunc Try.prog Try.f51 = some { C_strings_HasPrefix nm with frz := false } := by kernel_rfl
theorem res52 : pFunc Try.prog Try.f52 = some { C_lexer_blank_1 nm with frz := false } := by kernel_rfl
theorem res53 : pFunc Try.prog Try.f53 = some { C_lexer_float nm with frz := false } := by kernel_rfl
theorem res54 : pFunc Try.prog Try.f54 = some { C_lexer_high nm with frz := false } := by kernel_rfl
theorem res55 : pFunc Try.prog Try.f55 = some { C_lexer_inAlias nm with frz := false } := by kernel_rfl
theorem res56 : pFunc Try.prog Try.f56 = some { C_lexer_digit nm with frz := false } := by kernel_rfl
theorem res57 : pFunc Try.prog Try.f57 = some { C_lexer_number nm with frz := false } := by kernel_rfl
theorem res58 : pFunc Try.prog Try.f58 = some { C_lexer_text nm with frz := false } := by kernel_rfl
theorem res59 : pFunc Try.prog Try.f59 = some { C_lexer_signs nm with frz := false } := by kernel_rfl
theorem res60 : pFunc Try.prog Try.f60 = some { C_ref01_First nm with frz := false } := by kernel_rfl
theorem res61 : pFunc Try.prog Try.f61 = some { C_ref03_hex nm with frz := false } := by kernel_rfl
theorem res62 : pFunc Try.prog Try.f62 = some { C_ref03_low nm with frz := false } := by kernel_rfl
theorem res63 : pFunc Try.prog Try.f63 = some { C_ref03_name nm with frz := false } := by kernel_rfl
theorem res64 : pFunc Try.prog Try.f64 = some { C_ref03_high nm with frz := false } := by kernel_rfl
theorem res65 : pFunc Try.prog Try.f65 = some { C_ref03_digit nm with frz := false } := by kernel_rfl
theorem res66 : pFunc Try.prog Try.f66 = some { C_ref03_number nm with frz := false } := by kernel_rfl
theorem res67 : pFunc Try.prog Try.f67 = some { C_ref03_str nm with frz := false } := by kernel_rfl
theorem res68 : pFunc Try.prog Try.f68 = some { C_ref03_sign nm with frz := false } := by kernel_rfl
theorem res69 : pFunc Try.prog Try.f69 = some { C_slices_Index_sl_string_string nm with frz := false } := by kernel_rfl
theorem res70 : pFunc Try.prog Try.f70 = some { C_ref04_Tag nm with frz := false } := by kernel_rfl
theorem res74 : pFunc Try.prog Try.f74 = some { C_runes_All_1 nm with frz := false } := by kernel_rfl
theorem res75 : pFunc Try.prog Try.f75 = some { C_runes_first nm with frz := false } := by kernel_rfl
theorem res76 : pFunc Try.prog Try.f76 = some { C_internal_stringslite_IndexByte nm with frz := false } := by kernel_rfl
theorem res77 : pFunc Try.prog Try.f77 = some { C_internal_stringslite_HasPrefix nm with frz := false } := by kernel_rfl
theorem res78 : pFunc Try.prog Try.f78 = some { C_floats_Parse nm with frz := false } := by kernel_rfl
theorem res79 : pFunc Try.prog Try.f79 = some { C_ref01_value nm with frz := false } := by kernel_rfl
theorem res80 : pFunc Try.prog Try.f80 = some { C_ref01_Encode nm with frz := false } := by kernel_rfl
theorem res84 : pFunc Try.prog Try.f84 = some { C_runes_sign nm with frz := false } := by kernel_rfl
theorem res86 : pFunc Try.prog Try.f86 = some { C_strings_CutPrefix nm with frz := false } := by kernel_rfl
theorem res87 : pFunc Try.prog Try.f87 = some { C_floats_Of nm with frz := false } := by kernel_rfl
theorem res99 : pFunc Try.prog Try.f99 = some { C_internal_stringslite_CutPrefix nm with frz := false } := by kernel_rfl

theorem tab_ok : TOK Try.prog tab := by
  intro f af h
  unfold tab at h
  split at h
  · simp only [Option.some.injEq] at h; subst h; exact ⟨Try.f9, Try.func9, res9⟩
  · simp only [Option.some.injEq] at h; subst h; exact ⟨Try.f12, Try.func12, res12⟩
  · simp only [Option.some.injEq] at h; subst h; exact ⟨Try.f13, Try.func13, res13⟩
  · simp only [Option.some.injEq] at h; subst h; exact ⟨Try.f14, Try.func14, res14⟩
  · simp only [Option.some.injEq] at h; subst h; exact ⟨Try.f15, Try.func15, res15⟩
  · simp only [Option.some.injEq] at h; subst h; exact ⟨Try.f17, Try.func17, res17⟩
  · simp only [Option.some.injEq] at h; subst h; exact ⟨Try.f18, Try.func18, res18⟩
  · simp only [Option.some.injEq] at h; subst h; exact ⟨Try.f20, Try.func20, res20⟩
  · simp only [Option.some.injEq] at h; subst h; exact ⟨Try.f21, Try.func21, res21⟩
  · simp only [Option.some.injEq] at h; subst h; exact ⟨Try.f22, Try.func22, res22⟩
  · simp only [Option.some.injEq] at h; subst h; exact ⟨Try.f24, Try.func24, res24⟩
  · simp only [Option.some.injEq] at h; subst h; exact ⟨Try.f25, Try.func25, res25⟩
  · simp only [Option.some.injEq] at h; subst h; exact ⟨Try.f26, Try.func26, res26⟩
  · simp only [Option.some.injEq] at h; subst h; exact ⟨Try.f27, Try.func27, res27⟩
  · simp only [Option.some.injEq] at h; subst h; exact ⟨Try.f29, Try.func29, res29⟩
  · simp only [Option.some.injEq] at h; subst h; exact ⟨Try.f30, Try.func30, res30⟩
  · simp only [Option.some.injEq] at h; subst h; exact ⟨Try.f31, Try.func31, res31⟩
  · simp only [Option.some.injEq] at h; subst h; exact ⟨Try.f32, Try.func32, res32⟩
  · simp only [Option.some.injEq] at h; subst h; exact ⟨Try.f33, Try.func33, res33⟩
  · simp only [Option.some.injEq] at h; subst h; exact ⟨Try.f34, Try.func34, res34⟩
  · simp only [Option.some.injEq] at h; subst h; exact ⟨Try.f35, Try.func35, res35⟩
  · simp only [Option.some.injEq] at h; subst h; exact ⟨Try.f36, Try.func36, res36⟩
  · simp only [Option.some.injEq] at h; subst h; exact ⟨Try.f37, Try.func37, res37⟩
  · simp only [Option.some.injEq] at h; subst h; exact ⟨Try.f38, Try.func38, res38⟩
  · simp only [Option.some.injEq] at h; subst h; exact ⟨Try.f39, Try.func39, res39⟩
  · simp only [Option.some.injEq] at h; subst h; exact ⟨Try.f40, Try.func40, res40⟩
  · simp only [Option.some.injEq] at h; subst h; exact ⟨Try.f41, Try.func41, res41⟩
  · simp only [Option.some.injEq] at h; subst h; exact ⟨Try.f42, Try.func42, res42⟩
  · simp only [Option.some.injEq] at h; subst h; exact ⟨Try.f44, Try.func44, res44⟩
  · simp only [Option.some.injEq] at h; subst h; exact ⟨Try.f45, Try.func45, res45⟩
  · simp only [Option.some.injEq] at h; subst h; exact ⟨Try.f47, Try.func47, res47⟩
  · simp only [Option.some.injEq] at h; subst h; exact ⟨Try.f48, Try.func48, res48⟩
  · simp only [Option.some.injEq] at h; subst h; exact ⟨Try.f49, Try.func49, res49⟩
  · simp only [Option.some.injEq] at h; subst h; exact ⟨Try.f50, Try.func50, res50⟩
  · simp only [Option.some.injEq] at h; subst h; exact ⟨Try.f51, Try.func51, res51⟩
  · simp only [Option.some.injEq] at h; subst h; exact ⟨Try.f52, Try.func52, res52⟩
  · simp only [Option.some.injEq] at h; subst h; exact ⟨Try.f53, Try.func53, res53⟩
  · simp only [Option.some.injEq] at h; subst h; exact ⟨Try.f54, Try.func54, res54⟩
  · simp only [Option.some.injEq] at h; subst h; exact ⟨Try.f55, Try.func55, res55⟩
  · simp only [Option.some.injEq] at h; subst h; exact ⟨Try.f56, Try.func56, res56⟩
  · simp only [Option.some.injEq] at h; subst h; exact ⟨Try.f57, Try.func57, res57⟩
  · simp only [Option.some.injEq] at h; subst h; exact ⟨Try.f58, Try.func58, res58⟩
  · simp only [Option.some.injEq] at h; subst h; exact ⟨Try.f59, Try.func59, res59⟩
  · simp only [Option.some.injEq] at h; subst h; exact ⟨Try.f60, Try.func60, res60⟩
  · simp only [Option.some.injEq] at h; subst h; exact ⟨Try.f61, Try.func61, res61⟩
  · simp only [Option.some.injEq] at h; subst h; exact ⟨Try.f62, Try.func62, res62⟩
  · simp only [Option.some.injEq] at h; subst h; exact ⟨Try.f63, Try.func63, res63⟩
  · simp only [Option.some.injEq] at h; subst h; exact ⟨Try.f64, Try.func64, res64⟩
  · simp only [Option.some.injEq] at h; subst h; exact ⟨Try.f65, Try.func65, res65⟩
  · simp only [Option.some.injEq] at h; subst h; exact ⟨Try.f66, Try.func66, res66⟩
  · simp only [Option.some.injEq] at h; subst h; exact ⟨Try.f67, Try.func67, res67⟩
  · simp only [Option.some.injEq] at h; subst h; exact ⟨Try.f68, Try.func68, res68⟩
  · simp only [Option.some.injEq] at h; subst h; exact ⟨Try.f69, Try.func69, res69⟩
  · simp only [Option.some.injEq] at h; subst h; exact ⟨Try.f70, Try.func70, res70⟩
  · simp only [Option.some.injEq] at h; subst h; exact ⟨Try.f74, Try.func74, res74⟩
  · simp only [Option.some.injEq] at h; subst h; exact ⟨Try.f75, Try.func75, res75⟩
  · simp only [Option.some.injEq] at h; subst h; exact ⟨Try.f76, Try.func76, res76⟩
  · simp only [Option.some.injEq] at h; subst h; exact ⟨Try.f77, Try.func77, res77⟩
  · simp only [Option.some.injEq] at h; subst h; exact ⟨Try.f78, Try.func78, res78⟩
  · simp only [Option.some.injEq] at h; subst h; exact ⟨Try.f79, Try.func79, res79⟩
  · simp only [Option.some.injEq] at h; subst h; exact ⟨Try.f80, Try.func80, res80⟩
  · simp only [Option.some.injEq] at h; subst h; exact ⟨Try.f84, Try.func84, res84⟩
  · simp only [Option.some.injEq] at h; subst h; exact ⟨Try.f86, Try.func86, res86⟩
  · simp only [Option.some.injEq] at h; subst h; exact ⟨Try.f87, Try.func87, res87⟩
  · simp only [Option.some.injEq] at h; subst h; exact ⟨Try.f99, Try.func99, res99⟩
  · simp at h

theorem tab_store_New : tab (f_store_New nm) = some (C_store_New nm) := by kernel_rfl
theorem tab_p_store_Store_Set : tab (f_p_store_Store_Set nm) = some (C_p_store_Store_Set nm) := by kernel_rfl
theorem tab_p_store_Store_Delete : tab (f_p_store_Store_Delete nm) = some (C_p_store_Store_Delete nm) := by kernel_rfl
theorem tab_lexer_IsWord : tab (f_lexer_IsWord nm) = some (C_lexer_IsWord nm) := by kernel_rfl
theorem tab_ref03_IsWord : tab (f_ref03_IsWord nm) = some (C_ref03_IsWord nm) := by kernel_rfl
theorem tab_lexer_IsName : tab (f_lexer_IsName nm) = some (C_lexer_IsName nm) := by kernel_rfl
theorem tab_law23_do : tab (f_law23_do nm) = some (C_law23_do nm) := by kernel_rfl
theorem tab_p_store_Store_Rename : tab (f_p_store_Store_Rename nm) = some (C_p_store_Store_Rename nm) := by kernel_rfl
theorem tab_law23_is : tab (f_law23_is nm) = some (C_law23_is nm) := by kernel_rfl
theorem tab_p_store_Store_Turn : tab (f_p_store_Store_Turn nm) = some (C_p_store_Store_Turn nm) := by kernel_rfl
theorem tab_p_store_Store_Text : tab (f_p_store_Store_Text nm) = some (C_p_store_Store_Text nm) := by kernel_rfl
theorem tab_p_store_Store_All : tab (f_p_store_Store_All nm) = some (C_p_store_Store_All nm) := by kernel_rfl
theorem tab_p_store_Store_Len : tab (f_p_store_Store_Len nm) = some (C_p_store_Store_Len nm) := by kernel_rfl
theorem tab_slices_Clone_sl_byte_byte : tab (f_slices_Clone_sl_byte_byte nm) = some (C_slices_Clone_sl_byte_byte nm) := by kernel_rfl
theorem tab_slices_Contains_sl_string_string : tab (f_slices_Contains_sl_string_string nm) = some (C_slices_Contains_sl_string_string nm) := by kernel_rfl
theorem tab_lexer_words : tab (f_lexer_words nm) = some (C_lexer_words nm) := by kernel_rfl
theorem tab_lexer_low : tab (f_lexer_low nm) = some (C_lexer_low nm) := by kernel_rfl
theorem tab_lexer_run : tab (f_lexer_run nm) = some (C_lexer_run nm) := by kernel_rfl
theorem tab_lexer_inName : tab (f_lexer_inName nm) = some (C_lexer_inName nm) := by kernel_rfl
theorem tab_ref04_Name : tab (f_ref04_Name nm) = some (C_ref04_Name nm) := by kernel_rfl
theorem tab_p_store_Store_All_1 : tab (f_p_store_Store_All_1 nm) = some (C_p_store_Store_All_1 nm) := by kernel_rfl
theorem tab_maps_Keys_map_string_sl_byte_string_sl_byte : tab (f_maps_Keys_map_string_sl_byte_string_sl_byte nm) = some (C_maps_Keys_map_string_sl_byte_string_sl_byte nm) := by kernel_rfl
theorem tab_lexer_blank_1 : tab (f_lexer_blank_1 nm) = some (C_lexer_blank_1 nm) := by kernel_rfl
theorem tab_lexer_high : tab (f_lexer_high nm) = some (C_lexer_high nm) := by kernel_rfl
theorem tab_lexer_inAlias : tab (f_lexer_inAlias nm) = some (C_lexer_inAlias nm) := by kernel_rfl
theorem tab_lexer_digit : tab (f_lexer_digit nm) = some (C_lexer_digit nm) := by kernel_rfl
theorem tab_lexer_number : tab (f_lexer_number nm) = some (C_lexer_number nm) := by kernel_rfl
theorem tab_lexer_signs : tab (f_lexer_signs nm) = some (C_lexer_signs nm) := by kernel_rfl
theorem tab_ref03_hex : tab (f_ref03_hex nm) = some (C_ref03_hex nm) := by kernel_rfl
theorem tab_ref03_low : tab (f_ref03_low nm) = some (C_ref03_low nm) := by kernel_rfl
theorem tab_ref03_name : tab (f_ref03_name nm) = some (C_ref03_name nm) := by kernel_rfl
theorem tab_ref03_high : tab (f_ref03_high nm) = some (C_ref03_high nm) := by kernel_rfl
theorem tab_ref03_digit : tab (f_ref03_digit nm) = some (C_ref03_digit nm) := by kernel_rfl
theorem tab_ref03_number : tab (f_ref03_number nm) = some (C_ref03_number nm) := by kernel_rfl
theorem tab_ref03_str : tab (f_ref03_str nm) = some (C_ref03_str nm) := by kernel_rfl
theorem tab_ref03_sign : tab (f_ref03_sign nm) = some (C_ref03_sign nm) := by kernel_rfl
theorem tab_slices_Index_sl_string_string : tab (f_slices_Index_sl_string_string nm) = some (C_slices_Index_sl_string_string nm) := by kernel_rfl
theorem tab_ref04_Tag : tab (f_ref04_Tag nm) = some (C_ref04_Tag nm) := by kernel_rfl
end Go.Proofs.Y2r
