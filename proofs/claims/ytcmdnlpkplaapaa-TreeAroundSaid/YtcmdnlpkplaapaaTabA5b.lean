/- The seat's table: the numbers of functions and types, and that the templates are the program's functions. Printed by tm.py. -/
import Derived.Test.YtcmdnlpkplaapaaProg
import Derived.Test.YtcmdnlpkplaapaaM27
import Derived.Test.YtcmdnlpkplaapaaM32
import Derived.Test.YtcmdnlpkplaapaaM26
import Derived.Test.YtcmdnlpkplaapaaM35
import Derived.Test.YtcmdnlpkplaapaaM38
import Derived.KernelRfl
set_option linter.unusedVariables false
set_option maxRecDepth 100000
namespace Go.Proofs.Y5b
open Go Go.Proofs.Eng

def nmF : List Nat := [0, 1, 2, 0, 0, 0, 0, 0, 0, 0, 0, 69, 83, 81, 0, 0, 105, 0, 84, 99, 100, 98, 106, 104, 110, 111, 112, 113, 114, 115, 116, 117, 118, 119, 120, 121, 122, 123, 124, 125, 127, 0, 0, 0, 0, 0, 0, 0, 0, 0, 0, 0, 0, 0, 0, 56, 0, 0, 75, 33, 51, 0, 0, 0, 0, 0, 0, 0, 0, 0, 0, 79, 80, 0, 67, 87, 72, 73, 74, 0, 14, 0, 0, 0, 89, 90, 91, 92, 93, 94, 86, 95, 96, 97, 0, 0, 0, 0, 0, 0, 0, 0, 82, 32, 0, 0, 0, 101, 102, 103, 0, 0, 0, 107, 108, 52, 0, 0, 0, 0, 0, 0, 0, 0, 0, 0, 0, 109, 76, 0, 0, 0, 0, 0, 0, 0, 126, 0, 0, 0, 0, 0, 0, 0, 0, 0, 0, 0, 0, 0, 0, 0, 46, 77, 0, 0, 0, 0, 0, 0, 0, 0, 0, 0, 0, 0, 0, 0, 0, 0, 0, 0, 88, 0, 0, 0, 0, 0, 0, 0, 23, 0, 0, 13, 0, 0, 0, 0, 0, 0, 0, 0, 0, 0, 0, 8, 11, 0, 0, 0, 0, 0, 0, 0, 0, 0, 0, 0, 26, 27, 28, 29, 30, 31, 0, 0, 0, 0, 22, 0, 0, 0, 0, 10, 9, 0, 0, 48, 49, 50, 53, 54, 55, 57, 0, 0, 45, 24, 25, 0, 0, 66, 68, 70, 71, 78, 0, 47, 0, 85, 0, 0, 0, 0, 0, 0, 0, 0, 0, 0, 0, 0, 0, 0, 0, 0, 0, 0, 0, 0, 0, 0, 0, 0, 0, 0, 0, 0, 0, 0, 0, 0, 0, 0, 0, 0, 0, 0, 0, 0, 0, 0, 0, 0, 0, 0, 0, 0, 0, 0, 0, 0, 0, 0, 0, 0, 0, 0, 0, 0, 0, 0, 0, 0, 0, 0, 0, 0, 0, 0, 0, 0, 0, 0, 0, 0, 0, 0, 0, 0, 0, 0, 0, 0, 0, 0, 0, 0, 0, 0, 0, 0, 0, 0, 0, 0, 0, 0, 0, 0, 0, 0, 0, 0, 0, 0, 0, 0, 0, 0, 0, 0, 0, 0, 0, 0, 0, 0, 0, 0, 0, 0, 0, 0, 7, 12, 21, 15, 17, 18, 19, 0, 0, 16, 40, 41, 42, 43, 44, 34, 35, 36, 37, 0, 0, 61, 62, 63, 64, 65, 58, 59, 0, 0, 0, 0, 0, 0, 0, 0, 0, 0, 0, 0, 20, 0, 39, 0, 0, 38, 0, 0, 0, 0, 0, 0, 0, 0, 0, 0, 0, 0, 0, 60, 0, 0, 0, 0, 0, 0, 0, 0, 0, 0, 0, 0, 0, 0, 0, 0, 0, 0, 0, 0, 0, 0, 0, 0, 0, 0, 0, 0, 0, 0, 0, 0, 0, 0, 0, 0, 0, 0, 0, 0, 0, 0, 0, 0, 0, 0, 0, 0, 0, 0, 0, 0, 0, 0, 0, 0, 0, 0, 0, 0, 0, 0, 0, 0, 0, 0, 0, 0, 0, 0, 0, 0, 0, 0, 0, 0, 0, 0, 0, 0, 0, 0, 0, 0, 0, 0, 0, 0, 0, 0, 0, 0, 0, 0, 0, 0, 0, 0, 0, 0, 0, 0, 0, 0, 0, 0, 0, 0, 0, 0, 0, 0, 0, 0, 0, 0, 0, 0, 0, 0, 0, 0, 0, 0, 0, 0, 0, 0, 0, 3, 4, 5, 6]
def nmT : List Nat := [3, 4, 5, 21, 93, 30, 0, 9, 0, 90, 95, 0, 0, 0, 0, 29, 0, 0, 45, 0, 40, 0, 110, 0, 57, 32, 0, 0, 35, 60, 0, 81, 0, 0, 0, 0, 0, 0, 0, 0, 0, 0, 0, 0, 0, 0, 0, 72, 0, 0, 0, 0, 0, 0, 0, 0, 0, 0, 0, 0, 0, 0, 0, 0, 0, 0]
def nm (i : Nat) : Nat := if i < 100000 then nmF.getD i 0 else nmT.getD (i - 100000) 0

def tab : Tab := fun f => match f with
  | 4 => some (C_law04_TreeAround nm)
  | 6 => some (C_law04_TreeBuilds nm)
  | 7 => some (C_law04_lives nm)
  | 8 => some (C_tree_New nm)
  | 9 => some (C_p_tree_Builder_Term nm)
  | 10 => some (C_p_tree_Builder_Type nm)
  | 11 => some (C_p_tree_Builder_Tree nm)
  | 12 => some (C_law04_Few nm)
  | 13 => some (C_tree_Check nm)
  | 14 => some (C_ref04_Name nm)
  | 15 => some (C_tree_Depth nm)
  | 16 => some (C_law04_same nm)
  | 17 => some (C_law04_all nm)
  | 18 => some (C_tree_Walk nm)
  | 19 => some (C_tree_Same nm)
  | 22 => some (C_tree_Clone nm)
  | 23 => some (C_p_tree_Builder_Alias nm)
  | 24 => some (C_tree_cloneTerm nm)
  | 25 => some (C_tree_cloneType nm)
  | 26 => some (C_tree_term nm)
  | 27 => some (C_tree_uses_note nm)
  | 28 => some (C_tree_typ nm)
  | 29 => some (C_tree_alias nm)
  | 30 => some (C_tree_Check_1 nm)
  | 31 => some (C_slices_ContainsFunc_tree_uses_int nm)
  | 32 => some (C_ref04_Tag nm)
  | 33 => some (C_ref03_IsWord nm)
  | 34 => some (C_tree_Walk_1 nm)
  | 35 => some (C_slices_Backward_sl_int_int nm)
  | 36 => some (C_tree_two_types nm)
  | 37 => some (C_tree_two_terms nm)
  | 45 => some (C_slices_Clone_sl_api_Alias_api_Alias nm)
  | 46 => some (C_slices_Clone_sl_string_string nm)
  | 47 => some (C_slices_Clone_sl_int_int nm)
  | 48 => some (C_tree_shapes nm)
  | 49 => some (C_tree_named nm)
  | 50 => some (C_tree_text nm)
  | 51 => some (C_lexer_IsName nm)
  | 52 => some (C_floats_Of nm)
  | 53 => some (C_tree_once nm)
  | 54 => some (C_tree_all nm)
  | 55 => some (C_tree_tag nm)
  | 56 => some (C_lexer_Lex nm)
  | 57 => some (C_slices_IndexFunc_tree_uses_int nm)
  | 58 => some (C_slices_Backward_sl_int_int_1 nm)
  | 59 => some (C_slices_Equal_sl_string_string nm)
  | 66 => some (C_tree_halves nm)
  | 67 => some (C_slices_Contains_sl_string_string nm)
  | 68 => some (C_tree_ops nm)
  | 69 => some (C_runes_Bad nm)
  | 70 => some (C_slices_ContainsFunc_sl_byte_byte nm)
  | 71 => some (C_tree_text_1 nm)
  | 72 => some (C_lexer_low nm)
  | 73 => some (C_lexer_run nm)
  | 74 => some (C_lexer_inName nm)
  | 75 => some (C_lexer_IsWord nm)
  | 77 => some (C_slices_ContainsFunc_sl_string_string nm)
  | 78 => some (C_tree_all_1 nm)
  | 79 => some (C_lexer_blank nm)
  | 80 => some (C_lexer_one nm)
  | 82 => some (C_slices_Index_sl_string_string nm)
  | 83 => some (C_runes_All nm)
  | 84 => some (C_runes_size nm)
  | 85 => some (C_slices_IndexFunc_sl_byte_byte nm)
  | 86 => some (C_lexer_digit nm)
  | 87 => some (C_lexer_words nm)
  | 88 => some (C_slices_IndexFunc_sl_string_string nm)
  | 89 => some (C_strings_IndexByte nm)
  | 90 => some (C_strings_HasPrefix nm)
  | 91 => some (C_lexer_blank_1 nm)
  | 92 => some (C_lexer_float nm)
  | 93 => some (C_lexer_high nm)
  | 94 => some (C_lexer_inAlias nm)
  | 95 => some (C_lexer_number nm)
  | 96 => some (C_lexer_text nm)
  | 97 => some (C_lexer_signs nm)
  | 99 => some (C_runes_All_1 nm)
  | 100 => some (C_runes_first nm)
  | 101 => some (C_internal_stringslite_IndexByte nm)
  | 102 => some (C_internal_stringslite_HasPrefix nm)
  | 103 => some (C_floats_Parse nm)
  | 106 => some (C_runes_sign nm)
  | 108 => some (C_strings_CutPrefix nm)
  | 109 => some (C_internal_stringslite_CutPrefix nm)
  | _ => none

theorem res4 : pFunc Try.prog Try.f4 = some { C_law04_TreeAround nm with frz := false } := by kernel_rfl
theorem res6 : pFunc Try.prog Try.f6 = some { C_law04_TreeBuilds nm with frz := false } := by kernel_rfl
theorem res7 : pFunc Try.prog Try.f7 = some { C_law04_lives nm with frz := false } := by kernel_rfl
theorem res8 : pFunc Try.prog Try.f8 = some { C_tree_New nm with frz := false } := by kernel_rfl
theorem res9 : pFunc Try.prog Try.f9 = some { C_p_tree_Builder_Term nm with frz := false } := by kernel_rfl
theorem res10 : pFunc Try.prog Try.f10 = some { C_p_tree_Builder_Type nm with frz := false } := by kernel_rfl
theorem res11 : pFunc Try.prog Try.f11 = some { C_p_tree_Builder_Tree nm with frz := false } := by kernel_rfl
theorem res12 : pFunc Try.prog Try.f12 = some { C_law04_Few nm with frz := false } := by kernel_rfl
theorem res13 : pFunc Try.prog Try.f13 = some { C_tree_Check nm with frz := false } := by kernel_rfl
theorem res14 : pFunc Try.prog Try.f14 = some { C_ref04_Name nm with frz := false } := by kernel_rfl
theorem res15 : pFunc Try.prog Try.f15 = some { C_tree_Depth nm with frz := false } := by kernel_rfl
theorem res16 : pFunc Try.prog Try.f16 = some { C_law04_same nm with frz := false } := by kernel_rfl
theorem res17 : pFunc Try.prog Try.f17 = some { C_law04_all nm with frz := false } := by kernel_rfl
theorem res18 : pFunc Try.prog Try.f18 = some { C_tree_Walk nm with frz := false } := by kernel_rfl
theorem res19 : pFunc Try.prog Try.f19 = some { C_tree_Same nm with frz := false } := by kernel_rfl
theorem res22 : pFunc Try.prog Try.f22 = some { C_tree_Clone nm with frz := false } := by kernel_rfl
theorem res23 : pFunc Try.prog Try.f23 = some { C_p_tree_Builder_Alias nm with frz := false } := by kernel_rfl
theorem res24 : pFunc Try.prog Try.f24 = some { C_tree_cloneTerm nm with frz := false } := by kernel_rfl
theorem res25 : pFunc Try.prog Try.f25 = some { C_tree_cloneType nm with frz := false } := by kernel_rfl
theorem res26 : pFunc Try.prog Try.f26 = some { C_tree_term nm with frz := false } := by kernel_rfl
theorem res27 : pFunc Try.prog Try.f27 = some { C_tree_uses_note nm with frz := false } := by kernel_rfl
theorem res28 : pFunc Try.prog Try.f28 = some { C_tree_typ nm with frz := false } := by kernel_rfl
theorem res29 : pFunc Try.prog Try.f29 = some { C_tree_alias nm with frz := false } := by kernel_rfl
theorem res30 : pFunc Try.prog Try.f30 = some { C_tree_Check_1 nm with frz := false } := by kernel_rfl
theorem res31 : pFunc Try.prog Try.f31 = some { C_slices_ContainsFunc_tree_uses_int nm with frz := false } := by kernel_rfl
theorem res32 : pFunc Try.prog Try.f32 = some { C_ref04_Tag nm with frz := false } := by kernel_rfl
theorem res33 : pFunc Try.prog Try.f33 = some { C_ref03_IsWord nm with frz := false } := by kernel_rfl
theorem res34 : pFunc Try.prog Try.f34 = some { C_tree_Walk_1 nm with frz := false } := by kernel_rfl
theorem res35 : pFunc Try.prog Try.f35 = some { C_slices_Backward_sl_int_int nm with frz := false } := by kernel_rfl
theorem res36 : pFunc Try.prog Try.f36 = some { C_tree_two_types nm with frz := false } := by kernel_rfl
theorem res37 : pFunc Try.prog Try.f37 = some { C_tree_two_terms nm with frz := false } := by kernel_rfl
theorem res45 : pFunc Try.prog Try.f45 = some { C_slices_Clone_sl_api_Alias_api_Alias nm with frz := false } := by kernel_rfl
theorem res46 : pFunc Try.prog Try.f46 = some { C_slices_Clone_sl_string_string nm with frz := false } := by kernel_rfl
theorem res47 : pFunc Try.prog Try.f47 = some { C_slices_Clone_sl_int_int nm with frz := false } := by kernel_rfl
theorem res48 : pFunc Try.prog Try.f48 = some { C_tree_shapes nm with frz := false } := by kernel_rfl
theorem res49 : pFunc Try.prog Try.f49 = some { C_tree_named nm with frz := false } := by kernel_rfl
theorem res50 : pFunc Try.prog Try.f50 = some { C_tree_text nm with frz := false } := by kernel_rfl
theorem res51 : pFunc Try.prog Try.f51 = some { C_lexer_IsName nm with frz := false } := by kernel_rfl
theorem res52 : pFunc Try.prog Try.f52 = some { C_floats_Of nm with frz := false } := by kernel_rfl
theorem res53 : pFunc Try.prog Try.f53 = some { C_tree_once nm with frz := false } := by kernel_rfl
theorem res54 : pFunc Try.prog Try.f54 = some { C_tree_all nm with frz := false } := by kernel_rfl
theorem res55 : pFunc Try.prog Try.f55 = some { C_tree_tag nm with frz := false } := by kernel_rfl
theorem res56 : pFunc Try.prog Try.f56 = some { C_lexer_Lex nm with frz := false } := by kernel_rfl
theorem res57 : pFunc Try.prog Try.f57 = some { C_slices_IndexFunc_tree_uses_int nm with frz := false } := by kernel_rfl
theorem res58 : pFunc Try.prog Try.f58 = some { C_slices_Backward_sl_int_int_1 nm with frz := false } := by kernel_rfl
theorem res59 : pFunc Try.prog Try.f59 = some { C_slices_Equal_sl_string_string nm with frz := false } := by kernel_rfl
theorem res66 : pFunc Try.prog Try.f66 = some { C_tree_halves nm with frz := false } := by kernel_rfl
theorem res67 : pFunc Try.prog Try.f67 = some { C_slices_Contains_sl_string_string nm with frz := false } := by kernel_rfl
theorem res68 : pFunc Try.prog Try.f68 = some { C_tree_ops nm with frz := false } := by kernel_rfl
theorem res69 : pFunc Try.prog Try.f69 = some { C_runes_Bad nm with frz := false } := by kernel_rfl
theorem res70 : pFunc Try.prog Try.f70 = some { C_slices_ContainsFunc_sl_byte_byte nm with frz := false } := by kernel_rfl
theorem res71 : pFunc Try.prog Try.f71 = some { C_tree_text_1 nm with frz := false } := by kernel_rfl
theorem res72 : pFunc Try.prog Try.f72 = some { C_lexer_low nm with frz := false } := by kernel_rfl
theorem res73 : pFunc Try.prog Try.f73 = some { C_lexer_run nm with frz := false } := by kernel_rfl
theorem res74 : pFunc Try.prog Try.f74 = some { C_lexer_inName nm with frz := false } := by kernel_rfl
theorem res75 : pFunc Try.prog Try.f75 = some { C_lexer_IsWord nm with frz := false } := by kernel_rfl
theorem res77 : pFunc Try.prog Try.f77 = some { C_slices_ContainsFunc_sl_string_string nm with frz := false } := by kernel_rfl
theorem res78 : pFunc Try.prog Try.f78 = some { C_tree_all_1 nm with frz := false } := by kernel_rfl
theorem res79 : pFunc Try.prog Try.f79 = some { C_lexer_blank nm with frz := false } := by kernel_rfl
theorem res80 : pFunc Try.prog Try.f80 = some { C_lexer_one nm with frz := false } := by kernel_rfl
theorem res82 : pFunc Try.prog Try.f82 = some { C_slices_Index_sl_string_string nm with frz := false } := by kernel_rfl
theorem res83 : pFunc Try.prog Try.f83 = some { C_runes_All nm with frz := false } := by kernel_rfl
theorem res84 : pFunc Try.prog Try.f84 = some { C_runes_size nm with frz := false } := by kernel_rfl
theorem res85 : pFunc Try.prog Try.f85 = some { C_slices_IndexFunc_sl_byte_byte nm with frz := false } := by kernel_rfl
theorem res86 : pFunc Try.prog Try.f86 = some { C_lexer_digit nm with frz := false } := by kernel_rfl
theorem res87 : pFunc Try.prog Try.f87 = some { C_lexer_words nm with frz := false } := by kernel_rfl
theorem res88 : pFunc Try.prog Try.f88 = some { C_slices_IndexFunc_sl_string_string nm with frz := false } := by kernel_rfl
theorem res89 : pFunc Try.prog Try.f89 = some { C_strings_IndexByte nm with frz := false } := by kernel_rfl
theorem res90 : pFunc Try.prog Try.f90 = some { C_strings_HasPrefix nm with frz := false } := by kernel_rfl
theorem res91 : pFunc Try.prog Try.f91 = some { C_lexer_blank_1 nm with frz := false } := by kernel_rfl
theorem res92 : pFunc Try.prog Try.f92 = some { C_lexer_float nm with frz := false } := by kernel_rfl
theorem res93 : pFunc Try.prog Try.f93 = some { C_lexer_high nm with frz := false } := by kernel_rfl
theorem res94 : pFunc Try.prog Try.f94 = some { C_lexer_inAlias nm with frz := false } := by kernel_rfl
theorem res95 : pFunc Try.prog Try.f95 = some { C_lexer_number nm with frz := false } := by kernel_rfl
theorem res96 : pFunc Try.prog Try.f96 = some { C_lexer_text nm with frz := false } := by kernel_rfl
theorem res97 : pFunc Try.prog Try.f97 = some { C_lexer_signs nm with frz := false } := by kernel_rfl
theorem res99 : pFunc Try.prog Try.f99 = some { C_runes_All_1 nm with frz := false } := by kernel_rfl
theorem res100 : pFunc Try.prog Try.f100 = some { C_runes_first nm with frz := false } := by kernel_rfl
theorem res101 : pFunc Try.prog Try.f101 = some { C_internal_stringslite_IndexByte nm with frz := false } := by kernel_rfl
theorem res102 : pFunc Try.prog Try.f102 = some { C_internal_stringslite_HasPrefix nm with frz := false } := by kernel_rfl
theorem res103 : pFunc Try.prog Try.f103 = some { C_floats_Parse nm with frz := false } := by kernel_rfl
theorem res106 : pFunc Try.prog Try.f106 = some { C_runes_sign nm with frz := false } := by kernel_rfl
theorem res108 : pFunc Try.prog Try.f108 = some { C_strings_CutPrefix nm with frz := false } := by kernel_rfl
theorem res109 : pFunc Try.prog Try.f109 = some { C_internal_stringslite_CutPrefix nm with frz := false } := by kernel_rfl

theorem tab_ok : TOK Try.prog tab := by
  intro f af h
  unfold tab at h
  split at h
  · simp only [Option.some.injEq] at h; subst h; exact ⟨Try.f4, Try.func4, res4⟩
  · simp only [Option.some.injEq] at h; subst h; exact ⟨Try.f6, Try.func6, res6⟩
  · simp only [Option.some.injEq] at h; subst h; exact ⟨Try.f7, Try.func7, res7⟩
  · simp only [Option.some.injEq] at h; subst h; exact ⟨Try.f8, Try.func8, res8⟩
  · simp only [Option.some.injEq] at h; subst h; exact ⟨Try.f9, Try.func9, res9⟩
  · simp only [Option.some.injEq] at h; subst h; exact ⟨Try.f10, Try.func10, res10⟩
  · simp only [Option.some.injEq] at h; subst h; exact ⟨Try.f11, Try.func11, res11⟩
  · simp only [Option.some.injEq] at h; subst h; exact ⟨Try.f12, Try.func12, res12⟩
  · simp only [Option.some.injEq] at h; subst h; exact ⟨Try.f13, Try.func13, res13⟩
  · simp only [Option.some.injEq] at h; subst h; exact ⟨Try.f14, Try.func14, res14⟩
  · simp only [Option.some.injEq] at h; subst h; exact ⟨Try.f15, Try.func15, res15⟩
  · simp only [Option.some.injEq] at h; subst h; exact ⟨Try.f16, Try.func16, res16⟩
  · simp only [Option.some.injEq] at h; subst h; exact ⟨Try.f17, Try.func17, res17⟩
  · simp only [Option.some.injEq] at h; subst h; exact ⟨Try.f18, Try.func18, res18⟩
  · simp only [Option.some.injEq] at h; subst h; exact ⟨Try.f19, Try.func19, res19⟩
  · simp only [Option.some.injEq] at h; subst h; exact ⟨Try.f22, Try.func22, res22⟩
  · simp only [Option.some.injEq] at h; subst h; exact ⟨Try.f23, Try.func23, res23⟩
  · simp only [Option.some.injEq] at h; subst h; exact ⟨Try.f24, Try.func24, res24⟩
  · simp only [Option.some.injEq] at h; subst h; exact ⟨Try.f25, Try.func25, res25⟩
  · simp only [Option.some.injEq] at h; subst h; exact ⟨Try.f26, Try.func26, res26⟩
  · simp only [Option.some.injEq] at h; subst h; exact ⟨Try.f27, Try.func27, res27⟩
  · simp only [Option.some.injEq] at h; subst h; exact ⟨Try.f28, Try.func28, res28⟩
  · simp only [Option.some.injEq] at h; subst h; exact ⟨Try.f29, Try.func29, res29⟩
  · simp only [Option.some.injEq] at h; subst h; exact ⟨Try.f30, Try.func30, res30⟩
  · simp only [Option.some.injEq] at h; subst h; exact ⟨Try.f31, Try.func31, res31⟩
  · simp only [Option.some.injEq] at h; subst h; exact ⟨Try.f32, Try.func32, res32⟩
  · simp only [Option.some.injEq] at h; subst h; exact ⟨Try.f33, Try.func33, res33⟩
  · simp only [Option.some.injEq] at h; subst h; exact ⟨Try.f34, Try.func34, res34⟩
  · simp only [Option.some.injEq] at h; subst h; exact ⟨Try.f35, Try.func35, res35⟩
  · simp only [Option.some.injEq] at h; subst h; exact ⟨Try.f36, Try.func36, res36⟩
  · simp only [Option.some.injEq] at h; subst h; exact ⟨Try.f37, Try.func37, res37⟩
  · simp only [Option.some.injEq] at h; subst h; exact ⟨Try.f45, Try.func45, res45⟩
  · simp only [Option.some.injEq] at h; subst h; exact ⟨Try.f46, Try.func46, res46⟩
  · simp only [Option.some.injEq] at h; subst h; exact ⟨Try.f47, Try.func47, res47⟩
  · simp only [Option.some.injEq] at h; subst h; exact ⟨Try.f48, Try.func48, res48⟩
  · simp only [Option.some.injEq] at h; subst h; exact ⟨Try.f49, Try.func49, res49⟩
  · simp only [Option.some.injEq] at h; subst h; exact ⟨Try.f50, Try.func50, res50⟩
  · simp only [Option.some.injEq] at h; subst h; exact ⟨Try.f51, Try.func51, res51⟩
  · simp only [Option.some.injEq] at h; subst h; exact ⟨Try.f52, Try.func52, res52⟩
  · simp only [Option.some.injEq] at h; subst h; exact ⟨Try.f53, Try.func53, res53⟩
  · simp only [Option.some.injEq] at h; subst h; exact ⟨Try.f54, Try.func54, res54⟩
  · simp only [Option.some.injEq] at h; subst h; exact ⟨Try.f55, Try.func55, res55⟩
  · simp only [Option.some.injEq] at h; subst h; exact ⟨Try.f56, Try.func56, res56⟩
  · simp only [Option.some.injEq] at h; subst h; exact ⟨Try.f57, Try.func57, res57⟩
  · simp only [Option.some.injEq] at h; subst h; exact ⟨Try.f58, Try.func58, res58⟩
  · simp only [Option.some.injEq] at h; subst h; exact ⟨Try.f59, Try.func59, res59⟩
  · simp only [Option.some.injEq] at h; subst h; exact ⟨Try.f66, Try.func66, res66⟩
  · simp only [Option.some.injEq] at h; subst h; exact ⟨Try.f67, Try.func67, res67⟩
  · simp only [Option.some.injEq] at h; subst h; exact ⟨Try.f68, Try.func68, res68⟩
  · simp only [Option.some.injEq] at h; subst h; exact ⟨Try.f69, Try.func69, res69⟩
  · simp only [Option.some.injEq] at h; subst h; exact ⟨Try.f70, Try.func70, res70⟩
  · simp only [Option.some.injEq] at h; subst h; exact ⟨Try.f71, Try.func71, res71⟩
  · simp only [Option.some.injEq] at h; subst h; exact ⟨Try.f72, Try.func72, res72⟩
  · simp only [Option.some.injEq] at h; subst h; exact ⟨Try.f73, Try.func73, res73⟩
  · simp only [Option.some.injEq] at h; subst h; exact ⟨Try.f74, Try.func74, res74⟩
  · simp only [Option.some.injEq] at h; subst h; exact ⟨Try.f75, Try.func75, res75⟩
  · simp only [Option.some.injEq] at h; subst h; exact ⟨Try.f77, Try.func77, res77⟩
  · simp only [Option.some.injEq] at h; subst h; exact ⟨Try.f78, Try.func78, res78⟩
  · simp only [Option.some.injEq] at h; subst h; exact ⟨Try.f79, Try.func79, res79⟩
  · simp only [Option.some.injEq] at h; subst h; exact ⟨Try.f80, Try.func80, res80⟩
  · simp only [Option.some.injEq] at h; subst h; exact ⟨Try.f82, Try.func82, res82⟩
  · simp only [Option.some.injEq] at h; subst h; exact ⟨Try.f83, Try.func83, res83⟩
  · simp only [Option.some.injEq] at h; subst h; exact ⟨Try.f84, Try.func84, res84⟩
  · simp only [Option.some.injEq] at h; subst h; exact ⟨Try.f85, Try.func85, res85⟩
  · simp only [Option.some.injEq] at h; subst h; exact ⟨Try.f86, Try.func86, res86⟩
  · simp only [Option.some.injEq] at h; subst h; exact ⟨Try.f87, Try.func87, res87⟩
  · simp only [Option.some.injEq] at h; subst h; exact ⟨Try.f88, Try.func88, res88⟩
  · simp only [Option.some.injEq] at h; subst h; exact ⟨Try.f89, Try.func89, res89⟩
  · simp only [Option.some.injEq] at h; subst h; exact ⟨Try.f90, Try.func90, res90⟩
  · simp only [Option.some.injEq] at h; subst h; exact ⟨Try.f91, Try.func91, res91⟩
  · simp only [Option.some.injEq] at h; subst h; exact ⟨Try.f92, Try.func92, res92⟩
  · simp only [Option.some.injEq] at h; subst h; exact ⟨Try.f93, Try.func93, res93⟩
  · simp only [Option.some.injEq] at h; subst h; exact ⟨Try.f94, Try.func94, res94⟩
  · simp only [Option.some.injEq] at h; subst h; exact ⟨Try.f95, Try.func95, res95⟩
  · simp only [Option.some.injEq] at h; subst h; exact ⟨Try.f96, Try.func96, res96⟩
  · simp only [Option.some.injEq] at h; subst h; exact ⟨Try.f97, Try.func97, res97⟩
  · simp only [Option.some.injEq] at h; subst h; exact ⟨Try.f99, Try.func99, res99⟩
  · simp only [Option.some.injEq] at h; subst h; exact ⟨Try.f100, Try.func100, res100⟩
  · simp only [Option.some.injEq] at h; subst h; exact ⟨Try.f101, Try.func101, res101⟩
  · simp only [Option.some.injEq] at h; subst h; exact ⟨Try.f102, Try.func102, res102⟩
  · simp only [Option.some.injEq] at h; subst h; exact ⟨Try.f103, Try.func103, res103⟩
  · simp only [Option.some.injEq] at h; subst h; exact ⟨Try.f106, Try.func106, res106⟩
  · simp only [Option.some.injEq] at h; subst h; exact ⟨Try.f108, Try.func108, res108⟩
  · simp only [Option.some.injEq] at h; subst h; exact ⟨Try.f109, Try.func109, res109⟩
  · simp at h

theorem tab_law04_Few : tab (f_law04_Few nm) = some (C_law04_Few nm) := by kernel_rfl
theorem tab_tree_Check : tab (f_tree_Check nm) = some (C_tree_Check nm) := by kernel_rfl
theorem tab_ref04_Name : tab (f_ref04_Name nm) = some (C_ref04_Name nm) := by kernel_rfl
theorem tab_tree_Depth : tab (f_tree_Depth nm) = some (C_tree_Depth nm) := by kernel_rfl
theorem tab_law04_same : tab (f_law04_same nm) = some (C_law04_same nm) := by kernel_rfl
theorem tab_law04_all : tab (f_law04_all nm) = some (C_law04_all nm) := by kernel_rfl
theorem tab_tree_Walk : tab (f_tree_Walk nm) = some (C_tree_Walk nm) := by kernel_rfl
theorem tab_tree_term : tab (f_tree_term nm) = some (C_tree_term nm) := by kernel_rfl
theorem tab_tree_uses_note : tab (f_tree_uses_note nm) = some (C_tree_uses_note nm) := by kernel_rfl
theorem tab_tree_typ : tab (f_tree_typ nm) = some (C_tree_typ nm) := by kernel_rfl
theorem tab_tree_alias : tab (f_tree_alias nm) = some (C_tree_alias nm) := by kernel_rfl
theorem tab_tree_Check_1 : tab (f_tree_Check_1 nm) = some (C_tree_Check_1 nm) := by kernel_rfl
theorem tab_slices_ContainsFunc_tree_uses_int : tab (f_slices_ContainsFunc_tree_uses_int nm) = some (C_slices_ContainsFunc_tree_uses_int nm) := by kernel_rfl
theorem tab_ref04_Tag : tab (f_ref04_Tag nm) = some (C_ref04_Tag nm) := by kernel_rfl
theorem tab_ref03_IsWord : tab (f_ref03_IsWord nm) = some (C_ref03_IsWord nm) := by kernel_rfl
theorem tab_tree_Walk_1 : tab (f_tree_Walk_1 nm) = some (C_tree_Walk_1 nm) := by kernel_rfl
theorem tab_slices_Backward_sl_int_int : tab (f_slices_Backward_sl_int_int nm) = some (C_slices_Backward_sl_int_int nm) := by kernel_rfl
theorem tab_tree_shapes : tab (f_tree_shapes nm) = some (C_tree_shapes nm) := by kernel_rfl
theorem tab_tree_named : tab (f_tree_named nm) = some (C_tree_named nm) := by kernel_rfl
theorem tab_tree_text : tab (f_tree_text nm) = some (C_tree_text nm) := by kernel_rfl
theorem tab_lexer_IsName : tab (f_lexer_IsName nm) = some (C_lexer_IsName nm) := by kernel_rfl
theorem tab_floats_Of : tab (f_floats_Of nm) = some (C_floats_Of nm) := by kernel_rfl
theorem tab_tree_once : tab (f_tree_once nm) = some (C_tree_once nm) := by kernel_rfl
theorem tab_tree_all : tab (f_tree_all nm) = some (C_tree_all nm) := by kernel_rfl
theorem tab_tree_tag : tab (f_tree_tag nm) = some (C_tree_tag nm) := by kernel_rfl
theorem tab_lexer_Lex : tab (f_lexer_Lex nm) = some (C_lexer_Lex nm) := by kernel_rfl
theorem tab_slices_IndexFunc_tree_uses_int : tab (f_slices_IndexFunc_tree_uses_int nm) = some (C_slices_IndexFunc_tree_uses_int nm) := by kernel_rfl
theorem tab_slices_Backward_sl_int_int_1 : tab (f_slices_Backward_sl_int_int_1 nm) = some (C_slices_Backward_sl_int_int_1 nm) := by kernel_rfl
theorem tab_tree_halves : tab (f_tree_halves nm) = some (C_tree_halves nm) := by kernel_rfl
theorem tab_slices_Contains_sl_string_string : tab (f_slices_Contains_sl_string_string nm) = some (C_slices_Contains_sl_string_string nm) := by kernel_rfl
theorem tab_tree_ops : tab (f_tree_ops nm) = some (C_tree_ops nm) := by kernel_rfl
theorem tab_runes_Bad : tab (f_runes_Bad nm) = some (C_runes_Bad nm) := by kernel_rfl
theorem tab_slices_ContainsFunc_sl_byte_byte : tab (f_slices_ContainsFunc_sl_byte_byte nm) = some (C_slices_ContainsFunc_sl_byte_byte nm) := by kernel_rfl
theorem tab_tree_text_1 : tab (f_tree_text_1 nm) = some (C_tree_text_1 nm) := by kernel_rfl
theorem tab_lexer_low : tab (f_lexer_low nm) = some (C_lexer_low nm) := by kernel_rfl
theorem tab_lexer_run : tab (f_lexer_run nm) = some (C_lexer_run nm) := by kernel_rfl
theorem tab_lexer_inName : tab (f_lexer_inName nm) = some (C_lexer_inName nm) := by kernel_rfl
theorem tab_lexer_IsWord : tab (f_lexer_IsWord nm) = some (C_lexer_IsWord nm) := by kernel_rfl
theorem tab_slices_ContainsFunc_sl_string_string : tab (f_slices_ContainsFunc_sl_string_string nm) = some (C_slices_ContainsFunc_sl_string_string nm) := by kernel_rfl
theorem tab_tree_all_1 : tab (f_tree_all_1 nm) = some (C_tree_all_1 nm) := by kernel_rfl
theorem tab_lexer_blank : tab (f_lexer_blank nm) = some (C_lexer_blank nm) := by kernel_rfl
theorem tab_lexer_one : tab (f_lexer_one nm) = some (C_lexer_one nm) := by kernel_rfl
theorem tab_slices_Index_sl_string_string : tab (f_slices_Index_sl_string_string nm) = some (C_slices_Index_sl_string_string nm) := by kernel_rfl
theorem tab_runes_All : tab (f_runes_All nm) = some (C_runes_All nm) := by kernel_rfl
theorem tab_runes_size : tab (f_runes_size nm) = some (C_runes_size nm) := by kernel_rfl
theorem tab_slices_IndexFunc_sl_byte_byte : tab (f_slices_IndexFunc_sl_byte_byte nm) = some (C_slices_IndexFunc_sl_byte_byte nm) := by kernel_rfl
theorem tab_lexer_digit : tab (f_lexer_digit nm) = some (C_lexer_digit nm) := by kernel_rfl
theorem tab_lexer_words : tab (f_lexer_words nm) = some (C_lexer_words nm) := by kernel_rfl
theorem tab_slices_IndexFunc_sl_string_string : tab (f_slices_IndexFunc_sl_string_string nm) = some (C_slices_IndexFunc_sl_string_string nm) := by kernel_rfl
theorem tab_strings_IndexByte : tab (f_strings_IndexByte nm) = some (C_strings_IndexByte nm) := by kernel_rfl
theorem tab_strings_HasPrefix : tab (f_strings_HasPrefix nm) = some (C_strings_HasPrefix nm) := by kernel_rfl
theorem tab_lexer_blank_1 : tab (f_lexer_blank_1 nm) = some (C_lexer_blank_1 nm) := by kernel_rfl
theorem tab_lexer_float : tab (f_lexer_float nm) = some (C_lexer_float nm) := by kernel_rfl
theorem tab_lexer_high : tab (f_lexer_high nm) = some (C_lexer_high nm) := by kernel_rfl
theorem tab_lexer_inAlias : tab (f_lexer_inAlias nm) = some (C_lexer_inAlias nm) := by kernel_rfl
theorem tab_lexer_number : tab (f_lexer_number nm) = some (C_lexer_number nm) := by kernel_rfl
theorem tab_lexer_text : tab (f_lexer_text nm) = some (C_lexer_text nm) := by kernel_rfl
theorem tab_lexer_signs : tab (f_lexer_signs nm) = some (C_lexer_signs nm) := by kernel_rfl
theorem tab_runes_All_1 : tab (f_runes_All_1 nm) = some (C_runes_All_1 nm) := by kernel_rfl
theorem tab_runes_first : tab (f_runes_first nm) = some (C_runes_first nm) := by kernel_rfl
theorem tab_internal_stringslite_IndexByte : tab (f_internal_stringslite_IndexByte nm) = some (C_internal_stringslite_IndexByte nm) := by kernel_rfl
theorem tab_internal_stringslite_HasPrefix : tab (f_internal_stringslite_HasPrefix nm) = some (C_internal_stringslite_HasPrefix nm) := by kernel_rfl
theorem tab_floats_Parse : tab (f_floats_Parse nm) = some (C_floats_Parse nm) := by kernel_rfl
theorem tab_runes_sign : tab (f_runes_sign nm) = some (C_runes_sign nm) := by kernel_rfl
theorem tab_strings_CutPrefix : tab (f_strings_CutPrefix nm) = some (C_strings_CutPrefix nm) := by kernel_rfl
theorem tab_internal_stringslite_CutPrefix : tab (f_internal_stringslite_CutPrefix nm) = some (C_internal_stringslite_CutPrefix nm) := by kernel_rfl
end Go.Proofs.Y5b
