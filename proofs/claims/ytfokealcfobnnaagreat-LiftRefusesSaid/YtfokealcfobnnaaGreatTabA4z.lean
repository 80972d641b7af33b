/- The seat's table: the numbers of functions and types, and that the templates are the program's functions. Printed by tm.py. -/
import Derived.Test.YtfokealcfobnnaaGreatProg
import Derived.Test.YtfokealcfobnnaaGreatM34
import Derived.Test.YtfokealcfobnnaaGreatM35
import Derived.Test.YtfokealcfobnnaaGreatM36
import Derived.KernelRfl
set_option linter.unusedVariables false
set_option maxRecDepth 100000
namespace Go.Proofs.Y4z
open Go Go.Proofs.Eng

def nmF : List Nat := [0, 1, 2, 0, 0, 0, 0, 0, 0, 0, 0, 111, 124, 0, 0, 0, 0, 0, 125, 139, 140, 0, 144, 0, 148, 149, 150, 151, 152, 153, 154, 155, 156, 157, 158, 159, 160, 161, 162, 163, 165, 0, 0, 0, 0, 0, 0, 0, 0, 0, 0, 0, 0, 0, 0, 106, 0, 0, 117, 60, 101, 0, 0, 0, 0, 0, 0, 0, 0, 0, 0, 121, 122, 0, 109, 128, 114, 115, 116, 0, 48, 0, 0, 0, 130, 131, 132, 133, 134, 135, 127, 136, 137, 138, 0, 0, 0, 0, 0, 0, 0, 0, 123, 49, 0, 0, 0, 141, 142, 143, 0, 0, 59, 145, 146, 102, 0, 0, 0, 0, 0, 0, 88, 0, 0, 75, 76, 147, 118, 0, 83, 84, 0, 0, 97, 0, 164, 0, 0, 0, 0, 0, 0, 0, 0, 0, 0, 0, 0, 0, 0, 0, 57, 119, 0, 0, 0, 0, 0, 0, 0, 0, 0, 0, 0, 0, 0, 0, 0, 0, 0, 0, 129, 0, 0, 0, 0, 0, 0, 0, 0, 0, 0, 81, 0, 0, 0, 0, 0, 0, 0, 0, 0, 0, 0, 0, 0, 0, 0, 0, 0, 0, 0, 0, 0, 0, 0, 0, 90, 91, 92, 93, 94, 95, 0, 0, 0, 0, 0, 0, 0, 0, 0, 0, 0, 0, 0, 98, 99, 100, 103, 104, 105, 107, 0, 0, 0, 0, 0, 0, 0, 108, 110, 112, 113, 120, 0, 40, 0, 126, 0, 0, 0, 0, 0, 0, 0, 0, 0, 0, 0, 0, 0, 0, 0, 0, 0, 0, 0, 0, 0, 0, 0, 0, 0, 0, 0, 0, 0, 0, 0, 0, 0, 0, 0, 0, 0, 0, 0, 0, 0, 0, 0, 0, 0, 0, 0, 3, 4, 5, 6, 7, 8, 9, 10, 11, 12, 13, 14, 15, 16, 17, 18, 19, 20, 21, 22, 23, 24, 25, 26, 27, 28, 29, 30, 31, 32, 33, 34, 35, 36, 37, 38, 39, 41, 42, 43, 44, 45, 46, 47, 50, 51, 52, 53, 54, 55, 56, 58, 61, 62, 63, 64, 65, 66, 67, 68, 69, 70, 71, 72, 73, 74, 77, 78, 79, 80, 82, 85, 86, 87, 89, 96]
def nmT : List Nat := [3, 4, 5, 21, 37, 39, 0, 9, 0, 174, 178, 0, 0, 0, 0, 38, 148, 0, 106, 0, 146, 0, 190, 0, 160, 141, 0, 0, 138, 0, 0, 166, 0, 0, 0, 0, 32, 41, 43, 71, 74, 79, 81, 85, 88, 93, 101, 0, 0, 0, 95, 72, 0, 0, 0, 0, 0, 0, 0, 0, 0]
def nm (i : Nat) : Nat := if i < 100000 then nmF.getD i 0 else nmT.getD (i - 100000) 0

def tab : Tab := fun f => match f with
  | 9 => some (C_law14_LiftRefuses nm)
  | 17 => some (C_p_arena_Arena_IsVar nm)
  | 18 => some (C_p_arena_Arena_Len nm)
  | 19 => some (C_p_arena_Arena_Low nm)
  | 20 => some (C_p_arena_Arena_Level nm)
  | 21 => some (C_p_arena_Arena_High nm)
  | 26 => some (C_law14_lives nm)
  | 28 => some (C_lift_Fresh nm)
  | 29 => some (C_p_arena_Arena_Head nm)
  | 30 => some (C_arena_New nm)
  | 31 => some (C_p_arena_Arena_Var nm)
  | 32 => some (C_lift_Reach nm)
  | 33 => some (C_lift_Free nm)
  | 34 => some (C_p_arena_Arena_At nm)
  | 39 => some (C_p_arena_Arena_there nm)
  | 40 => some (C_slices_Clone_sl_int_int nm)
  | 43 => some (C_p_lift_maker_part nm)
  | 44 => some (C_p_arena_Arena_right nm)
  | 45 => some (C_p_arena_Arena_room nm)
  | 46 => some (C_arena_clone nm)
  | 47 => some (C_slices_Sort_sl_int_int nm)
  | 54 => some (C_p_lift_maker_variable nm)
  | 55 => some (C_p_lift_maker_row nm)
  | 56 => some (C_graph_Check nm)
  | 57 => some (C_slices_Clone_sl_string_string nm)
  | 58 => some (C_slices_pdqsortOrdered_int nm)
  | 59 => some (C_math_bits_Len nm)
  | 61 => some (C_p_arena_Arena_Bound nm)
  | 65 => some (C_graph_head nm)
  | 66 => some (C_slices_insertionSortOrdered_int nm)
  | 67 => some (C_slices_heapSortOrdered_int nm)
  | 68 => some (C_slices_breakPatternsOrdered_int nm)
  | 69 => some (C_slices_choosePivotOrdered_int nm)
  | 70 => some (C_slices_reverseRangeOrdered_int nm)
  | 71 => some (C_slices_partialInsertionSortOrdered_int nm)
  | 72 => some (C_cmp_Less_int nm)
  | 73 => some (C_slices_partitionEqualOrdered_int nm)
  | 74 => some (C_slices_partitionOrdered_int nm)
  | 75 => some (C_math_bits_Len32 nm)
  | 76 => some (C_math_bits_Len64 nm)
  | 79 => some (C_graph_rising nm)
  | 80 => some (C_graph_typed nm)
  | 81 => some (C_tree_Check nm)
  | 82 => some (C_slices_siftDownOrdered_int nm)
  | 83 => some (C_slices_nextPowerOfTwo nm)
  | 84 => some (C_p_slices_xorshift_Next nm)
  | 85 => some (C_slices_medianAdjacentOrdered_int nm)
  | 86 => some (C_slices_medianOrdered_int nm)
  | 87 => some (C_cmp_isNaN_int nm)
  | 90 => some (C_tree_term nm)
  | 91 => some (C_tree_uses_note nm)
  | 92 => some (C_tree_typ nm)
  | 93 => some (C_tree_alias nm)
  | 94 => some (C_tree_Check_1 nm)
  | 95 => some (C_slices_ContainsFunc_tree_uses_int nm)
  | 96 => some (C_slices_order2Ordered_int nm)
  | 98 => some (C_tree_shapes nm)
  | 99 => some (C_tree_named nm)
  | 100 => some (C_tree_text nm)
  | 101 => some (C_lexer_IsName nm)
  | 102 => some (C_floats_Of nm)
  | 103 => some (C_tree_once nm)
  | 104 => some (C_tree_all nm)
  | 105 => some (C_tree_tag nm)
  | 106 => some (C_lexer_Lex nm)
  | 107 => some (C_slices_IndexFunc_tree_uses_int nm)
  | 108 => some (C_tree_halves nm)
  | 109 => some (C_slices_Contains_sl_string_string nm)
  | 110 => some (C_tree_ops nm)
  | 111 => some (C_runes_Bad nm)
  | 112 => some (C_slices_ContainsFunc_sl_byte_byte nm)
  | 113 => some (C_tree_text_1 nm)
  | 114 => some (C_lexer_low nm)
  | 115 => some (C_lexer_run nm)
  | 116 => some (C_lexer_inName nm)
  | 117 => some (C_lexer_IsWord nm)
  | 119 => some (C_slices_ContainsFunc_sl_string_string nm)
  | 120 => some (C_tree_all_1 nm)
  | 121 => some (C_lexer_blank nm)
  | 122 => some (C_lexer_one nm)
  | 123 => some (C_slices_Index_sl_string_string nm)
  | 124 => some (C_runes_All nm)
  | 125 => some (C_runes_size nm)
  | 126 => some (C_slices_IndexFunc_sl_byte_byte nm)
  | 127 => some (C_lexer_digit nm)
  | 128 => some (C_lexer_words nm)
  | 129 => some (C_slices_IndexFunc_sl_string_string nm)
  | 130 => some (C_strings_IndexByte nm)
  | 131 => some (C_strings_HasPrefix nm)
  | 132 => some (C_lexer_blank_1 nm)
  | 133 => some (C_lexer_float nm)
  | 134 => some (C_lexer_high nm)
  | 135 => some (C_lexer_inAlias nm)
  | 136 => some (C_lexer_number nm)
  | 137 => some (C_lexer_text nm)
  | 138 => some (C_lexer_signs nm)
  | 139 => some (C_runes_All_1 nm)
  | 140 => some (C_runes_first nm)
  | 141 => some (C_internal_stringslite_IndexByte nm)
  | 142 => some (C_internal_stringslite_HasPrefix nm)
  | 143 => some (C_floats_Parse nm)
  | 144 => some (C_runes_sign nm)
  | 146 => some (C_strings_CutPrefix nm)
  | 147 => some (C_internal_stringslite_CutPrefix nm)
  | _ => none

theorem res9 : pFunc Tryz.prog Tryz.f9 = some { C_law14_LiftRefuses nm with frz := false } := by kernel_rfl
theorem res17 : pFunc Tryz.prog Tryz.f17 = some { C_p_arena_Arena_IsVar nm with frz := false } := by kernel_rfl
theorem res18 : pFunc Tryz.prog Tryz.f18 = some { C_p_arena_Arena_Len nm with frz := false } := by kernel_rfl
theorem res19 : pFunc Tryz.prog Tryz.f19 = some { C_p_arena_Arena_Low nm with frz := false } := by kernel_rfl
theorem res20 : pFunc Tryz.prog Tryz.f20 = some { C_p_arena_Arena_Level nm with frz := false } := by kernel_rfl
theorem res21 : pFunc Tryz.prog Tryz.f21 = some { C_p_arena_Arena_High nm with frz := false } := by kernel_rfl
theorem res26 : pFunc Tryz.prog Tryz.f26 = some { C_law14_lives nm with frz := false } := by kernel_rfl
theorem res28 : pFunc Tryz.prog Tryz.f28 = some { C_lift_Fresh nm with frz := false } := by kernel_rfl
theorem res29 : pFunc Tryz.prog Tryz.f29 = some { C_p_arena_Arena_Head nm with frz := false } := by kernel_rfl
theorem res30 : pFunc Tryz.prog Tryz.f30 = some { C_arena_New nm with frz := false } := by kernel_rfl
theorem res31 : pFunc Tryz.prog Tryz.f31 = some { C_p_arena_Arena_Var nm with frz := false } := by kernel_rfl
theorem res32 : pFunc Tryz.prog Tryz.f32 = some { C_lift_Reach nm with frz := false } := by kernel_rfl
theorem res33 : pFunc Tryz.prog Tryz.f33 = some { C_lift_Free nm with frz := false } := by kernel_rfl
theorem res34 : pFunc Tryz.prog Tryz.f34 = some { C_p_arena_Arena_At nm with frz := false } := by kernel_rfl
theorem res39 : pFunc Tryz.prog Tryz.f39 = some { C_p_arena_Arena_there nm with frz := false } := by kernel_rfl
theorem res40 : pFunc Tryz.prog Tryz.f40 = some { C_slices_Clone_sl_int_int nm with frz := false } := by kernel_rfl
theorem res43 : pFunc Tryz.prog Tryz.f43 = some { C_p_lift_maker_part nm with frz := false } := by kernel_rfl
theorem res44 : pFunc Tryz.prog Tryz.f44 = some { C_p_arena_Arena_right nm with frz := false } := by kernel_rfl
theorem res45 : pFunc Tryz.prog Tryz.f45 = some { C_p_arena_Arena_room nm with frz := false } := by kernel_rfl
theorem res46 : pFunc Tryz.prog Tryz.f46 = some { C_arena_clone nm with frz := false } := by kernel_rfl
theorem res47 : pFunc Tryz.prog Tryz.f47 = some { C_slices_Sort_sl_int_int nm with frz := false } := by kernel_rfl
theorem res54 : pFunc Tryz.prog Tryz.f54 = some { C_p_lift_maker_variable nm with frz := false } := by kernel_rfl
theorem res55 : pFunc Tryz.prog Tryz.f55 = some { C_p_lift_maker_row nm with frz := false } := by kernel_rfl
theorem res56 : pFunc Tryz.prog Tryz.f56 = some { C_graph_Check nm with frz := false } := by kernel_rfl
theorem res57 : pFunc Tryz.prog Tryz.f57 = some { C_slices_Clone_sl_string_string nm with frz := false } := by kernel_rfl
theorem res58 : pFunc Tryz.prog Tryz.f58 = some { C_slices_pdqsortOrdered_int nm with frz := false } := by kernel_rfl
theorem res59 : pFunc Tryz.prog Tryz.f59 = some { C_math_bits_Len nm with frz := false } := by kernel_rfl
theorem res61 : pFunc Tryz.prog Tryz.f61 = some { C_p_arena_Arena_Bound nm with frz := false } := by kernel_rfl
theorem res65 : pFunc Tryz.prog Tryz.f65 = some { C_graph_head nm with frz := false } := by kernel_rfl
theorem res66 : pFunc Tryz.prog Tryz.f66 = some { C_slices_insertionSortOrdered_int nm with frz := false } := by kernel_rfl
theorem res67 : pFunc Tryz.prog Tryz.f67 = some { C_slices_heapSortOrdered_int nm with frz := false } := by kernel_rfl
theorem res68 : pFunc Tryz.prog Tryz.f68 = some { C_slices_breakPatternsOrdered_int nm with frz := false } := by kernel_rfl
theorem res69 : pFunc Tryz.prog Tryz.f69 = some { C_slices_choosePivotOrdered_int nm with frz := false } := by kernel_rfl
theorem res70 : pFunc Tryz.prog Tryz.f70 = some { C_slices_reverseRangeOrdered_int nm with frz := false } := by kernel_rfl
theorem res71 : pFunc Tryz.prog Tryz.f71 = some { C_slices_partialInsertionSortOrdered_int nm with frz := false } := by kernel_rfl
theorem res72 : pFunc Tryz.prog Tryz.f72 = some { C_cmp_Less_int nm with frz := false } := by kernel_rfl
theorem res73 : pFunc Tryz.prog Tryz.f73 = some { C_slices_partitionEqualOrdered_int nm with frz := false } := by kernel_rfl
theorem res74 : pFunc Tryz.prog Tryz.f74 = some { C_slices_partitionOrdered_int nm with frz := false } := by kernel_rfl
theorem res75 : pFunc Tryz.prog Tryz.f75 = some { C_math_bits_Len32 nm with frz := false } := by kernel_rfl
theorem res76 : pFunc Tryz.prog Tryz.f76 = some { C_math_bits_Len64 nm with frz := false } := by kernel_rfl
theorem res79 : pFunc Tryz.prog Tryz.f79 = some { C_graph_rising nm with frz := false } := by kernel_rfl
theorem res80 : pFunc Tryz.prog Tryz.f80 = some { C_graph_typed nm with frz := false } := by kernel_rfl
theorem res81 : pFunc Tryz.prog Tryz.f81 = some { C_tree_Check nm with frz := false } := by kernel_rfl
theorem res82 : pFunc Tryz.prog Tryz.f82 = some { C_slices_siftDownOrdered_int nm with frz := false } := by kernel_rfl
theorem res83 : pFunc Tryz.prog Tryz.f83 = some { C_slices_nextPowerOfTwo nm with frz := false } := by kernel_rfl
theorem res84 : pFunc Tryz.prog Tryz.f84 = some { C_p_slices_xorshift_Next nm with frz := false } := by kernel_rfl
theorem res85 : pFunc Tryz.prog Tryz.f85 = some { C_slices_medianAdjacentOrdered_int nm with frz := false } := by kernel_rfl
theorem res86 : pFunc Tryz.prog Tryz.f86 = some { C_slices_medianOrdered_int nm with frz := false } := by kernel_rfl
theorem res87 : pFunc Tryz.prog Tryz.f87 = some { C_cmp_isNaN_int nm with frz := false } := by kernel_rfl
theorem res90 : pFunc Tryz.prog Tryz.f90 = some { C_tree_term nm with frz := false } := by kernel_rfl
theorem res91 : pFunc Tryz.prog Tryz.f91 = some { C_tree_uses_note nm with frz := false } := by kernel_rfl
theorem res92 : pFunc Tryz.prog Tryz.f92 = some { C_tree_typ nm with frz := false } := by kernel_rfl
theorem res93 : pFunc Tryz.prog Tryz.f93 = some { C_tree_alias nm with frz := false } := by kernel_rfl
theorem res94 : pFunc Tryz.prog Tryz.f94 = some { C_tree_Check_1 nm with frz := false } := by kernel_rfl
theorem res95 : pFunc Tryz.prog Tryz.f95 = some { C_slices_ContainsFunc_tree_uses_int nm with frz := false } := by kernel_rfl
theorem res96 : pFunc Tryz.prog Tryz.f96 = some { C_slices_order2Ordered_int nm with frz := false } := by kernel_rfl
theorem res98 : pFunc Tryz.prog Tryz.f98 = some { C_tree_shapes nm with frz := false } := by kernel_rfl
theorem res99 : pFunc Tryz.prog Tryz.f99 = some { C_tree_named nm with frz := false } := by kernel_rfl
theorem res100 : pFunc Tryz.prog Tryz.f100 = some { C_tree_text nm with frz := false } := by kernel_rfl
theorem res101 : pFunc Tryz.prog Tryz.f101 = some { C_lexer_IsName nm with frz := false } := by kernel_rfl
theorem res102 : pFunc Tryz.prog Tryz.f102 = some { C_floats_Of nm with frz := false } := by kernel_rfl
theorem res103 : pFunc Tryz.prog Tryz.f103 = some { C_tree_once nm with frz := false } := by kernel_rfl
theorem res104 : pFunc Tryz.prog Tryz.f104 = some { C_tree_all nm with frz := false } := by kernel_rfl
theorem res105 : pFunc Tryz.prog Tryz.f105 = some { C_tree_tag nm with frz := false } := by kernel_rfl
theorem res106 : pFunc Tryz.prog Tryz.f106 = some { C_lexer_Lex nm with frz := false } := by kernel_rfl
theorem res107 : pFunc Tryz.prog Tryz.f107 = some { C_slices_IndexFunc_tree_uses_int nm with frz := false } := by kernel_rfl
theorem res108 : pFunc Tryz.prog Tryz.f108 = some { C_tree_halves nm with frz := false } := by kernel_rfl
theorem res109 : pFunc Tryz.prog Tryz.f109 = some { C_slices_Contains_sl_string_string nm with frz := false } := by kernel_rfl
theorem res110 : pFunc Tryz.prog Tryz.f110 = some { C_tree_ops nm with frz := false } := by kernel_rfl
theorem res111 : pFunc Tryz.prog Tryz.f111 = some { C_runes_Bad nm with frz := false } := by kernel_rfl
theorem res112 : pFunc Tryz.prog Tryz.f112 = some { C_slices_ContainsFunc_sl_byte_byte nm with frz := false } := by kernel_rfl
theorem res113 : pFunc Tryz.prog Tryz.f113 = some { C_tree_text_1 nm with frz := false } := by kernel_rfl
theorem res114 : pFunc Tryz.prog Tryz.f114 = some { C_lexer_low nm with frz := false } := by kernel_rfl
theorem res115 : pFunc Tryz.prog Tryz.f115 = some { C_lexer_run nm with frz := false } := by kernel_rfl
theorem res116 : pFunc Tryz.prog Tryz.f116 = some { C_lexer_inName nm with frz := false } := by kernel_rfl
theorem res117 : pFunc Tryz.prog Tryz.f117 = some { C_lexer_IsWord nm with frz := false } := by kernel_rfl
theorem res119 : pFunc Tryz.prog Tryz.f119 = some { C_slices_ContainsFunc_sl_string_string nm with frz := false } := by kernel_rfl
theorem res120 : pFunc Tryz.prog Tryz.f120 = some { C_tree_all_1 nm with frz := false } := by kernel_rfl
theorem res121 : pFunc Tryz.prog Tryz.f121 = some { C_lexer_blank nm with frz := false } := by kernel_rfl
theorem res122 : pFunc Tryz.prog Tryz.f122 = some { C_lexer_one nm with frz := false } := by kernel_rfl
theorem res123 : pFunc Tryz.prog Tryz.f123 = some { C_slices_Index_sl_string_string nm with frz := false } := by kernel_rfl
theorem res124 : pFunc Tryz.prog Tryz.f124 = some { C_runes_All nm with frz := false } := by kernel_rfl
theorem res125 : pFunc Tryz.prog Tryz.f125 = some { C_runes_size nm with frz := false } := by kernel_rfl
theorem res126 : pFunc Tryz.prog Tryz.f126 = some { C_slices_IndexFunc_sl_byte_byte nm with frz := false } := by kernel_rfl
theorem res127 : pFunc Tryz.prog Tryz.f127 = some { C_lexer_digit nm with frz := false } := by kernel_rfl
theorem res128 : pFunc Tryz.prog Tryz.f128 = some { C_lexer_words nm with frz := false } := by kernel_rfl
theorem res129 : pFunc Tryz.prog Tryz.f129 = some { C_slices_IndexFunc_sl_string_string nm with frz := false } := by kernel_rfl
theorem res130 : pFunc Tryz.prog Tryz.f130 = some { C_strings_IndexByte nm with frz := false } := by kernel_rfl
theorem res131 : pFunc Tryz.prog Tryz.f131 = some { C_strings_HasPrefix nm with frz := false } := by kernel_rfl
theorem res132 : pFunc Tryz.prog Tryz.f132 = some { C_lexer_blank_1 nm with frz := false } := by kernel_rfl
theorem res133 : pFunc Tryz.prog Tryz.f133 = some { C_lexer_float nm with frz := false } := by kernel_rfl
theorem res134 : pFunc Tryz.prog Tryz.f134 = some { C_lexer_high nm with frz := false } := by kernel_rfl
theorem res135 : pFunc Tryz.prog Tryz.f135 = some { C_lexer_inAlias nm with frz := false } := by kernel_rfl
theorem res136 : pFunc Tryz.prog Tryz.f136 = some { C_lexer_number nm with frz := false } := by kernel_rfl
theorem res137 : pFunc Tryz.prog Tryz.f137 = some { C_lexer_text nm with frz := false } := by kernel_rfl
theorem res138 : pFunc Tryz.prog Tryz.f138 = some { C_lexer_signs nm with frz := false } := by kernel_rfl
theorem res139 : pFunc Tryz.prog Tryz.f139 = some { C_runes_All_1 nm with frz := false } := by kernel_rfl
theorem res140 : pFunc Tryz.prog Tryz.f140 = some { C_runes_first nm with frz := false } := by kernel_rfl
theorem res141 : pFunc Tryz.prog Tryz.f141 = some { C_internal_stringslite_IndexByte nm with frz := false } := by kernel_rfl
theorem res142 : pFunc Tryz.prog Tryz.f142 = some { C_internal_stringslite_HasPrefix nm with frz := false } := by kernel_rfl
theorem res143 : pFunc Tryz.prog Tryz.f143 = some { C_floats_Parse nm with frz := false } := by kernel_rfl
theorem res144 : pFunc Tryz.prog Tryz.f144 = some { C_runes_sign nm with frz := false } := by kernel_rfl
theorem res146 : pFunc Tryz.prog Tryz.f146 = some { C_strings_CutPrefix nm with frz := false } := by kernel_rfl
theorem res147 : pFunc Tryz.prog Tryz.f147 = some { C_internal_stringslite_CutPrefix nm with frz := false } := by kernel_rfl

theorem tab_ok : TOK Tryz.prog tab := by
  intro f af h
  unfold tab at h
  split at h
  · simp only [Option.some.injEq] at h; subst h; exact ⟨Tryz.f9, Tryz.func9, res9⟩
  · simp only [Option.some.injEq] at h; subst h; exact ⟨Tryz.f17, Tryz.func17, res17⟩
  · simp only [Option.some.injEq] at h; subst h; exact ⟨Tryz.f18, Tryz.func18, res18⟩
  · simp only [Option.some.injEq] at h; subst h; exact ⟨Tryz.f19, Tryz.func19, res19⟩
  · simp only [Option.some.injEq] at h; subst h; exact ⟨Tryz.f20, Tryz.func20, res20⟩
  · simp only [Option.some.injEq] at h; subst h; exact ⟨Tryz.f21, Tryz.func21, res21⟩
  · simp only [Option.some.injEq] at h; subst h; exact ⟨Tryz.f26, Tryz.func26, res26⟩
  · simp only [Option.some.injEq] at h; subst h; exact ⟨Tryz.f28, Tryz.func28, res28⟩
  · simp only [Option.some.injEq] at h; subst h; exact ⟨Tryz.f29, Tryz.func29, res29⟩
  · simp only [Option.some.injEq] at h; subst h; exact ⟨Tryz.f30, Tryz.func30, res30⟩
  · simp only [Option.some.injEq] at h; subst h; exact ⟨Tryz.f31, Tryz.func31, res31⟩
  · simp only [Option.some.injEq] at h; subst h; exact ⟨Tryz.f32, Tryz.func32, res32⟩
  · simp only [Option.some.injEq] at h; subst h; exact ⟨Tryz.f33, Tryz.func33, res33⟩
  · simp only [Option.some.injEq] at h; subst h; exact ⟨Tryz.f34, Tryz.func34, res34⟩
  · simp only [Option.some.injEq] at h; subst h; exact ⟨Tryz.f39, Tryz.func39, res39⟩
  · simp only [Option.some.injEq] at h; subst h; exact ⟨Tryz.f40, Tryz.func40, res40⟩
  · simp only [Option.some.injEq] at h; subst h; exact ⟨Tryz.f43, Tryz.func43, res43⟩
  · simp only [Option.some.injEq] at h; subst h; exact ⟨Tryz.f44, Tryz.func44, res44⟩
  · simp only [Option.some.injEq] at h; subst h; exact ⟨Tryz.f45, Tryz.func45, res45⟩
  · simp only [Option.some.injEq] at h; subst h; exact ⟨Tryz.f46, Tryz.func46, res46⟩
  · simp only [Option.some.injEq] at h; subst h; exact ⟨Tryz.f47, Tryz.func47, res47⟩
  · simp only [Option.some.injEq] at h; subst h; exact ⟨Tryz.f54, Tryz.func54, res54⟩
  · simp only [Option.some.injEq] at h; subst h; exact ⟨Tryz.f55, Tryz.func55, res55⟩
  · simp only [Option.some.injEq] at h; subst h; exact ⟨Tryz.f56, Tryz.func56, res56⟩
  · simp only [Option.some.injEq] at h; subst h; exact ⟨Tryz.f57, Tryz.func57, res57⟩
  · simp only [Option.some.injEq] at h; subst h; exact ⟨Tryz.f58, Tryz.func58, res58⟩
  · simp only [Option.some.injEq] at h; subst h; exact ⟨Tryz.f59, Tryz.func59, res59⟩
  · simp only [Option.some.injEq] at h; subst h; exact ⟨Tryz.f61, Tryz.func61, res61⟩
  · simp only [Option.some.injEq] at h; subst h; exact ⟨Tryz.f65, Tryz.func65, res65⟩
  · simp only [Option.some.injEq] at h; subst h; exact ⟨Tryz.f66, Tryz.func66, res66⟩
  · simp only [Option.some.injEq] at h; subst h; exact ⟨Tryz.f67, Tryz.func67, res67⟩
  · simp only [Option.some.injEq] at h; subst h; exact ⟨Tryz.f68, Tryz.func68, res68⟩
  · simp only [Option.some.injEq] at h; subst h; exact ⟨Tryz.f69, Tryz.func69, res69⟩
  · simp only [Option.some.injEq] at h; subst h; exact ⟨Tryz.f70, Tryz.func70, res70⟩
  · simp only [Option.some.injEq] at h; subst h; exact ⟨Tryz.f71, Tryz.func71, res71⟩
  · simp only [Option.some.injEq] at h; subst h; exact ⟨Tryz.f72, Tryz.func72, res72⟩
  · simp only [Option.some.injEq] at h; subst h; exact ⟨Tryz.f73, Tryz.func73, res73⟩
  · simp only [Option.some.injEq] at h; subst h; exact ⟨Tryz.f74, Tryz.func74, res74⟩
  · simp only [Option.some.injEq] at h; subst h; exact ⟨Tryz.f75, Tryz.func75, res75⟩
  · simp only [Option.some.injEq] at h; subst h; exact ⟨Tryz.f76, Tryz.func76, res76⟩
  · simp only [Option.some.injEq] at h; subst h; exact ⟨Tryz.f79, Tryz.func79, res79⟩
  · simp only [Option.some.injEq] at h; subst h; exact ⟨Tryz.f80, Tryz.func80, res80⟩
  · simp only [Option.some.injEq] at h; subst h; exact ⟨Tryz.f81, Tryz.func81, res81⟩
  · simp only [Option.some.injEq] at h; subst h; exact ⟨Tryz.f82, Tryz.func82, res82⟩
  · simp only [Option.some.injEq] at h; subst h; exact ⟨Tryz.f83, Tryz.func83, res83⟩
  · simp only [Option.some.injEq] at h; subst h; exact ⟨Tryz.f84, Tryz.func84, res84⟩
  · simp only [Option.some.injEq] at h; subst h; exact ⟨Tryz.f85, Tryz.func85, res85⟩
  · simp only [Option.some.injEq] at h; subst h; exact ⟨Tryz.f86, Tryz.func86, res86⟩
  · simp only [Option.some.injEq] at h; subst h; exact ⟨Tryz.f87, Tryz.func87, res87⟩
  · simp only [Option.some.injEq] at h; subst h; exact ⟨Tryz.f90, Tryz.func90, res90⟩
  · simp only [Option.some.injEq] at h; subst h; exact ⟨Tryz.f91, Tryz.func91, res91⟩
  · simp only [Option.some.injEq] at h; subst h; exact ⟨Tryz.f92, Tryz.func92, res92⟩
  · simp only [Option.some.injEq] at h; subst h; exact ⟨Tryz.f93, Tryz.func93, res93⟩
  · simp only [Option.some.injEq] at h; subst h; exact ⟨Tryz.f94, Tryz.func94, res94⟩
  · simp only [Option.some.injEq] at h; subst h; exact ⟨Tryz.f95, Tryz.func95, res95⟩
  · simp only [Option.some.injEq] at h; subst h; exact ⟨Tryz.f96, Tryz.func96, res96⟩
  · simp only [Option.some.injEq] at h; subst h; exact ⟨Tryz.f98, Tryz.func98, res98⟩
  · simp only [Option.some.injEq] at h; subst h; exact ⟨Tryz.f99, Tryz.func99, res99⟩
  · simp only [Option.some.injEq] at h; subst h; exact ⟨Tryz.f100, Tryz.func100, res100⟩
  · simp only [Option.some.injEq] at h; subst h; exact ⟨Tryz.f101, Tryz.func101, res101⟩
  · simp only [Option.some.injEq] at h; subst h; exact ⟨Tryz.f102, Tryz.func102, res102⟩
  · simp only [Option.some.injEq] at h; subst h; exact ⟨Tryz.f103, Tryz.func103, res103⟩
  · simp only [Option.some.injEq] at h; subst h; exact ⟨Tryz.f104, Tryz.func104, res104⟩
  · simp only [Option.some.injEq] at h; subst h; exact ⟨Tryz.f105, Tryz.func105, res105⟩
  · simp only [Option.some.injEq] at h; subst h; exact ⟨Tryz.f106, Tryz.func106, res106⟩
  · simp only [Option.some.injEq] at h; subst h; exact ⟨Tryz.f107, Tryz.func107, res107⟩
  · simp only [Option.some.injEq] at h; subst h; exact ⟨Tryz.f108, Tryz.func108, res108⟩
  · simp only [Option.some.injEq] at h; subst h; exact ⟨Tryz.f109, Tryz.func109, res109⟩
  · simp only [Option.some.injEq] at h; subst h; exact ⟨Tryz.f110, Tryz.func110, res110⟩
  · simp only [Option.some.injEq] at h; subst h; exact ⟨Tryz.f111, Tryz.func111, res111⟩
  · simp only [Option.some.injEq] at h; subst h; exact ⟨Tryz.f112, Tryz.func112, res112⟩
  · simp only [Option.some.injEq] at h; subst h; exact ⟨Tryz.f113, Tryz.func113, res113⟩
  · simp only [Option.some.injEq] at h; subst h; exact ⟨Tryz.f114, Tryz.func114, res114⟩
  · simp only [Option.some.injEq] at h; subst h; exact ⟨Tryz.f115, Tryz.func115, res115⟩
  · simp only [Option.some.injEq] at h; subst h; exact ⟨Tryz.f116, Tryz.func116, res116⟩
  · simp only [Option.some.injEq] at h; subst h; exact ⟨Tryz.f117, Tryz.func117, res117⟩
  · simp only [Option.some.injEq] at h; subst h; exact ⟨Tryz.f119, Tryz.func119, res119⟩
  · simp only [Option.some.injEq] at h; subst h; exact ⟨Tryz.f120, Tryz.func120, res120⟩
  · simp only [Option.some.injEq] at h; subst h; exact ⟨Tryz.f121, Tryz.func121, res121⟩
  · simp only [Option.some.injEq] at h; subst h; exact ⟨Tryz.f122, Tryz.func122, res122⟩
  · simp only [Option.some.injEq] at h; subst h; exact ⟨Tryz.f123, Tryz.func123, res123⟩
  · simp only [Option.some.injEq] at h; subst h; exact ⟨Tryz.f124, Tryz.func124, res124⟩
  · simp only [Option.some.injEq] at h; subst h; exact ⟨Tryz.f125, Tryz.func125, res125⟩
  · simp only [Option.some.injEq] at h; subst h; exact ⟨Tryz.f126, Tryz.func126, res126⟩
  · simp only [Option.some.injEq] at h; subst h; exact ⟨Tryz.f127, Tryz.func127, res127⟩
  · simp only [Option.some.injEq] at h; subst h; exact ⟨Tryz.f128, Tryz.func128, res128⟩
  · simp only [Option.some.injEq] at h; subst h; exact ⟨Tryz.f129, Tryz.func129, res129⟩
  · simp only [Option.some.injEq] at h; subst h; exact ⟨Tryz.f130, Tryz.func130, res130⟩
  · simp only [Option.some.injEq] at h; subst h; exact ⟨Tryz.f131, Tryz.func131, res131⟩
  · simp only [Option.some.injEq] at h; subst h; exact ⟨Tryz.f132, Tryz.func132, res132⟩
  · simp only [Option.some.injEq] at h; subst h; exact ⟨Tryz.f133, Tryz.func133, res133⟩
  · simp only [Option.some.injEq] at h; subst h; exact ⟨Tryz.f134, Tryz.func134, res134⟩
  · simp only [Option.some.injEq] at h; subst h; exact ⟨Tryz.f135, Tryz.func135, res135⟩
  · simp only [Option.some.injEq] at h; subst h; exact ⟨Tryz.f136, Tryz.func136, res136⟩
  · simp only [Option.some.injEq] at h; subst h; exact ⟨Tryz.f137, Tryz.func137, res137⟩
  · simp only [Option.some.injEq] at h; subst h; exact ⟨Tryz.f138, Tryz.func138, res138⟩
  · simp only [Option.some.injEq] at h; subst h; exact ⟨Tryz.f139, Tryz.func139, res139⟩
  · simp only [Option.some.injEq] at h; subst h; exact ⟨Tryz.f140, Tryz.func140, res140⟩
  · simp only [Option.some.injEq] at h; subst h; exact ⟨Tryz.f141, Tryz.func141, res141⟩
  · simp only [Option.some.injEq] at h; subst h; exact ⟨Tryz.f142, Tryz.func142, res142⟩
  · simp only [Option.some.injEq] at h; subst h; exact ⟨Tryz.f143, Tryz.func143, res143⟩
  · simp only [Option.some.injEq] at h; subst h; exact ⟨Tryz.f144, Tryz.func144, res144⟩
  · simp only [Option.some.injEq] at h; subst h; exact ⟨Tryz.f146, Tryz.func146, res146⟩
  · simp only [Option.some.injEq] at h; subst h; exact ⟨Tryz.f147, Tryz.func147, res147⟩
  · simp at h

theorem tab_law14_LiftRefuses : tab (f_law14_LiftRefuses nm) = some (C_law14_LiftRefuses nm) := by kernel_rfl
theorem tab_p_arena_Arena_IsVar : tab (f_p_arena_Arena_IsVar nm) = some (C_p_arena_Arena_IsVar nm) := by kernel_rfl
theorem tab_p_arena_Arena_Len : tab (f_p_arena_Arena_Len nm) = some (C_p_arena_Arena_Len nm) := by kernel_rfl
theorem tab_p_arena_Arena_Low : tab (f_p_arena_Arena_Low nm) = some (C_p_arena_Arena_Low nm) := by kernel_rfl
theorem tab_p_arena_Arena_Level : tab (f_p_arena_Arena_Level nm) = some (C_p_arena_Arena_Level nm) := by kernel_rfl
theorem tab_p_arena_Arena_High : tab (f_p_arena_Arena_High nm) = some (C_p_arena_Arena_High nm) := by kernel_rfl
theorem tab_law14_lives : tab (f_law14_lives nm) = some (C_law14_lives nm) := by kernel_rfl
theorem tab_lift_Fresh : tab (f_lift_Fresh nm) = some (C_lift_Fresh nm) := by kernel_rfl
theorem tab_p_arena_Arena_Head : tab (f_p_arena_Arena_Head nm) = some (C_p_arena_Arena_Head nm) := by kernel_rfl
theorem tab_arena_New : tab (f_arena_New nm) = some (C_arena_New nm) := by kernel_rfl
theorem tab_p_arena_Arena_Var : tab (f_p_arena_Arena_Var nm) = some (C_p_arena_Arena_Var nm) := by kernel_rfl
theorem tab_lift_Reach : tab (f_lift_Reach nm) = some (C_lift_Reach nm) := by kernel_rfl
theorem tab_lift_Free : tab (f_lift_Free nm) = some (C_lift_Free nm) := by kernel_rfl
theorem tab_p_arena_Arena_At : tab (f_p_arena_Arena_At nm) = some (C_p_arena_Arena_At nm) := by kernel_rfl
theorem tab_p_arena_Arena_there : tab (f_p_arena_Arena_there nm) = some (C_p_arena_Arena_there nm) := by kernel_rfl
theorem tab_slices_Clone_sl_int_int : tab (f_slices_Clone_sl_int_int nm) = some (C_slices_Clone_sl_int_int nm) := by kernel_rfl
theorem tab_p_lift_maker_part : tab (f_p_lift_maker_part nm) = some (C_p_lift_maker_part nm) := by kernel_rfl
theorem tab_p_arena_Arena_right : tab (f_p_arena_Arena_right nm) = some (C_p_arena_Arena_right nm) := by kernel_rfl
theorem tab_p_arena_Arena_room : tab (f_p_arena_Arena_room nm) = some (C_p_arena_Arena_room nm) := by kernel_rfl
theorem tab_arena_clone : tab (f_arena_clone nm) = some (C_arena_clone nm) := by kernel_rfl
theorem tab_slices_Sort_sl_int_int : tab (f_slices_Sort_sl_int_int nm) = some (C_slices_Sort_sl_int_int nm) := by kernel_rfl
theorem tab_p_lift_maker_variable : tab (f_p_lift_maker_variable nm) = some (C_p_lift_maker_variable nm) := by kernel_rfl
theorem tab_p_lift_maker_row : tab (f_p_lift_maker_row nm) = some (C_p_lift_maker_row nm) := by kernel_rfl
theorem tab_graph_Check : tab (f_graph_Check nm) = some (C_graph_Check nm) := by kernel_rfl
theorem tab_slices_Clone_sl_string_string : tab (f_slices_Clone_sl_string_string nm) = some (C_slices_Clone_sl_string_string nm) := by kernel_rfl
theorem tab_slices_pdqsortOrdered_int : tab (f_slices_pdqsortOrdered_int nm) = some (C_slices_pdqsortOrdered_int nm) := by kernel_rfl
theorem tab_math_bits_Len : tab (f_math_bits_Len nm) = some (C_math_bits_Len nm) := by kernel_rfl
theorem tab_p_arena_Arena_Bound : tab (f_p_arena_Arena_Bound nm) = some (C_p_arena_Arena_Bound nm) := by kernel_rfl
theorem tab_graph_head : tab (f_graph_head nm) = some (C_graph_head nm) := by kernel_rfl
theorem tab_slices_insertionSortOrdered_int : tab (f_slices_insertionSortOrdered_int nm) = some (C_slices_insertionSortOrdered_int nm) := by kernel_rfl
theorem tab_slices_heapSortOrdered_int : tab (f_slices_heapSortOrdered_int nm) = some (C_slices_heapSortOrdered_int nm) := by kernel_rfl
theorem tab_slices_breakPatternsOrdered_int : tab (f_slices_breakPatternsOrdered_int nm) = some (C_slices_breakPatternsOrdered_int nm) := by kernel_rfl
theorem tab_slices_choosePivotOrdered_int : tab (f_slices_choosePivotOrdered_int nm) = some (C_slices_choosePivotOrdered_int nm) := by kernel_rfl
theorem tab_slices_reverseRangeOrdered_int : tab (f_slices_reverseRangeOrdered_int nm) = some (C_slices_reverseRangeOrdered_int nm) := by kernel_rfl
theorem tab_slices_partialInsertionSortOrdered_int : tab (f_slices_partialInsertionSortOrdered_int nm) = some (C_slices_partialInsertionSortOrdered_int nm) := by kernel_rfl
theorem tab_cmp_Less_int : tab (f_cmp_Less_int nm) = some (C_cmp_Less_int nm) := by kernel_rfl
theorem tab_slices_partitionEqualOrdered_int : tab (f_slices_partitionEqualOrdered_int nm) = some (C_slices_partitionEqualOrdered_int nm) := by kernel_rfl
theorem tab_slices_partitionOrdered_int : tab (f_slices_partitionOrdered_int nm) = some (C_slices_partitionOrdered_int nm) := by kernel_rfl
theorem tab_math_bits_Len32 : tab (f_math_bits_Len32 nm) = some (C_math_bits_Len32 nm) := by kernel_rfl
theorem tab_math_bits_Len64 : tab (f_math_bits_Len64 nm) = some (C_math_bits_Len64 nm) := by kernel_rfl
theorem tab_graph_rising : tab (f_graph_rising nm) = some (C_graph_rising nm) := by kernel_rfl
theorem tab_graph_typed : tab (f_graph_typed nm) = some (C_graph_typed nm) := by kernel_rfl
theorem tab_tree_Check : tab (f_tree_Check nm) = some (C_tree_Check nm) := by kernel_rfl
theorem tab_slices_siftDownOrdered_int : tab (f_slices_siftDownOrdered_int nm) = some (C_slices_siftDownOrdered_int nm) := by kernel_rfl
theorem tab_slices_nextPowerOfTwo : tab (f_slices_nextPowerOfTwo nm) = some (C_slices_nextPowerOfTwo nm) := by kernel_rfl
theorem tab_p_slices_xorshift_Next : tab (f_p_slices_xorshift_Next nm) = some (C_p_slices_xorshift_Next nm) := by kernel_rfl
theorem tab_slices_medianAdjacentOrdered_int : tab (f_slices_medianAdjacentOrdered_int nm) = some (C_slices_medianAdjacentOrdered_int nm) := by kernel_rfl
theorem tab_slices_medianOrdered_int : tab (f_slices_medianOrdered_int nm) = some (C_slices_medianOrdered_int nm) := by kernel_rfl
theorem tab_cmp_isNaN_int : tab (f_cmp_isNaN_int nm) = some (C_cmp_isNaN_int nm) := by kernel_rfl
theorem tab_tree_term : tab (f_tree_term nm) = some (C_tree_term nm) := by kernel_rfl
theorem tab_tree_uses_note : tab (f_tree_uses_note nm) = some (C_tree_uses_note nm) := by kernel_rfl
theorem tab_tree_typ : tab (f_tree_typ nm) = some (C_tree_typ nm) := by kernel_rfl
theorem tab_tree_alias : tab (f_tree_alias nm) = some (C_tree_alias nm) := by kernel_rfl
theorem tab_tree_Check_1 : tab (f_tree_Check_1 nm) = some (C_tree_Check_1 nm) := by kernel_rfl
theorem tab_slices_ContainsFunc_tree_uses_int : tab (f_slices_ContainsFunc_tree_uses_int nm) = some (C_slices_ContainsFunc_tree_uses_int nm) := by kernel_rfl
theorem tab_slices_order2Ordered_int : tab (f_slices_order2Ordered_int nm) = some (C_slices_order2Ordered_int nm) := by kernel_rfl
theorem tab_tree_shapes : tab (f_tree_shapes nm) = some (C_tree_shapes nm) := by kernel_rfl
theorem tab_tree_named : tab (f_tree_named nm) = some (C_tree_named nm) := by kernel_rfl
theorem tab_tree_text : tab (f_tree_text nm) = some (C_tree_text nm) := by kernel_rfl
theorem tab_lexer_IsName : tab (f_lexer_IsName nm) = some (C_lexer_IsName nm) := by kernel_rfl
theorem tab_floats_Of : tab (f_floats_Of nm) = some (C_floats_Of nm) := by kernel_rfl
theorem tab_tree_once : tab (f_tree_once nm) = some (C_tree_once nm) := by kernel_rfl
theorem tab_tree_all : tab (f_tree_all nm) = some (C_tree_all nm) := by kernel_rfl
theorem tab_tree_tag : tab (f_tree_tag nm) = some (C_tree_tag nm) := by kernel_rfl
theorem tab_lexer_Lex : tab (f_lexer_Lex nm) = some (C_lexer_Lex nm) := by kernel_rfl
theorem tab_slices_IndexFunc_tree_uses_int : tab (f_slices_IndexFunc_tree_uses_int nm) = some (C_slices_IndexFunc_tree_uses_int nm) := by kernel_rfl
theorem tab_tree_halves : tab (f_tree_halves nm) = some (C_tree_halves nm) := by kernel_rfl
theorem tab_slices_Contains_sl_string_string : tab (f_slices_Contains_sl_string_string nm) = some (C_slices_Contains_sl_string_string nm) := by kernel_rfl
theorem tab_tree_ops : tab (f_tree_ops nm) = some (C_tree_ops nm) := by kernel_rfl
theorem tab_runes_Bad : tab (f_runes_Bad nm) = some (C_runes_Bad nm) := by kernel_rfl
theorem tab_slices_ContainsFunc_sl_byte_byte : tab (f_slices_ContainsFunc_sl_byte_byte nm) = some (C_slices_ContainsFunc_sl_byte_byte nm) := by kernel_rfl
theorem tab_tree_text_1 : tab (f_tree_text_1 nm) = some (C_tree_text_1 nm) := by kernel_rfl
theorem tab_lexer_low : tab (f_lexer_low nm) = some (C_lexer_low nm) := by kernel_rfl
theorem tab_lexer_run : tab (f_lexer_run nm) = some (C_lexer_run nm) := by kernel_rfl
theorem tab_lexer_inName : tab (f_lexer_inName nm) = some (C_lexer_inName nm) := by kernel_rfl
theorem tab_lexer_IsWord : tab (f_lexer_IsWord nm) = some (C_lexer_IsWord nm) := by kernel_rfl
theorem tab_slices_ContainsFunc_sl_string_string : tab (f_slices_ContainsFunc_sl_string_string nm) = some (C_slices_ContainsFunc_sl_string_string nm) := by kernel_rfl
theorem tab_tree_all_1 : tab (f_tree_all_1 nm) = some (C_tree_all_1 nm) := by kernel_rfl
theorem tab_lexer_blank : tab (f_lexer_blank nm) = some (C_lexer_blank nm) := by kernel_rfl
theorem tab_lexer_one : tab (f_lexer_one nm) = some (C_lexer_one nm) := by kernel_rfl
theorem tab_slices_Index_sl_string_string : tab (f_slices_Index_sl_string_string nm) = some (C_slices_Index_sl_string_string nm) := by kernel_rfl
theorem tab_runes_All : tab (f_runes_All nm) = some (C_runes_All nm) := by kernel_rfl
theorem tab_runes_size : tab (f_runes_size nm) = some (C_runes_size nm) := by kernel_rfl
theorem tab_slices_IndexFunc_sl_byte_byte : tab (f_slices_IndexFunc_sl_byte_byte nm) = some (C_slices_IndexFunc_sl_byte_byte nm) := by kernel_rfl
theorem tab_lexer_digit : tab (f_lexer_digit nm) = some (C_lexer_digit nm) := by kernel_rfl
theorem tab_lexer_words : tab (f_lexer_words nm) = some (C_lexer_words nm) := by kernel_rfl
theorem tab_slices_IndexFunc_sl_string_string : tab (f_slices_IndexFunc_sl_string_string nm) = some (C_slices_IndexFunc_sl_string_string nm) := by kernel_rfl
theorem tab_strings_IndexByte : tab (f_strings_IndexByte nm) = some (C_strings_IndexByte nm) := by kernel_rfl
theorem tab_strings_HasPrefix : tab (f_strings_HasPrefix nm) = some (C_strings_HasPrefix nm) := by kernel_rfl
theorem tab_lexer_blank_1 : tab (f_lexer_blank_1 nm) = some (C_lexer_blank_1 nm) := by kernel_rfl
theorem tab_lexer_float : tab (f_lexer_float nm) = some (C_lexer_float nm) := by kernel_rfl
theorem tab_lexer_high : tab (f_lexer_high nm) = some (C_lexer_high nm) := by kernel_rfl
theorem tab_lexer_inAlias : tab (f_lexer_inAlias nm) = some (C_lexer_inAlias nm) := by kernel_rfl
theorem tab_lexer_number : tab (f_lexer_number nm) = some (C_lexer_number nm) := by kernel_rfl
theorem tab_lexer_text : tab (f_lexer_text nm) = some (C_lexer_text nm) := by kernel_rfl
theorem tab_lexer_signs : tab (f_lexer_signs nm) = some (C_lexer_signs nm) := by kernel_rfl
theorem tab_runes_All_1 : tab (f_runes_All_1 nm) = some (C_runes_All_1 nm) := by kernel_rfl
theorem tab_runes_first : tab (f_runes_first nm) = some (C_runes_first nm) := by kernel_rfl
theorem tab_internal_stringslite_IndexByte : tab (f_internal_stringslite_IndexByte nm) = some (C_internal_stringslite_IndexByte nm) := by kernel_rfl
theorem tab_internal_stringslite_HasPrefix : tab (f_internal_stringslite_HasPrefix nm) = some (C_internal_stringslite_HasPrefix nm) := by kernel_rfl
theorem tab_floats_Parse : tab (f_floats_Parse nm) = some (C_floats_Parse nm) := by kernel_rfl
theorem tab_runes_sign : tab (f_runes_sign nm) = some (C_runes_sign nm) := by kernel_rfl
theorem tab_strings_CutPrefix : tab (f_strings_CutPrefix nm) = some (C_strings_CutPrefix nm) := by kernel_rfl
theorem tab_internal_stringslite_CutPrefix : tab (f_internal_stringslite_CutPrefix nm) = some (C_internal_stringslite_CutPrefix nm) := by kernel_rfl
end Go.Proofs.Y4z
