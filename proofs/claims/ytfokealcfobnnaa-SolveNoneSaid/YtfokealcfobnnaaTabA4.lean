/- The seat's table: the numbers of functions and types, and that the templates are the program's functions. Printed by tm.py. -/
import Derived.Test.YtfokealcfobnnaaProg
import Derived.Test.YtfokealcfobnnaaM32
import Derived.Test.YtfokealcfobnnaaM33
import Derived.Test.YtfokealcfobnnaaM34
import Derived.KernelRfl
set_option linter.unusedVariables false
set_option maxRecDepth 100000
namespace Go.Proofs.Y4
open Go Go.Proofs.Eng

def nmF : List Nat := [0, 1, 2, 0, 0, 0, 0, 0, 0, 0, 0, 64, 77, 0, 0, 0, 0, 0, 78, 92, 93, 0, 97, 0, 101, 102, 103, 104, 105, 106, 107, 108, 109, 110, 111, 112, 113, 114, 115, 116, 118, 0, 0, 0, 0, 0, 0, 0, 0, 0, 0, 0, 0, 0, 0, 59, 0, 0, 70, 0, 54, 0, 0, 0, 0, 0, 0, 0, 0, 0, 0, 74, 75, 0, 62, 81, 67, 68, 69, 0, 0, 0, 0, 0, 83, 84, 85, 86, 87, 88, 80, 89, 90, 91, 0, 0, 0, 0, 0, 0, 0, 0, 76, 0, 0, 0, 0, 94, 95, 96, 0, 0, 0, 98, 99, 55, 0, 0, 0, 0, 0, 0, 41, 0, 0, 0, 0, 100, 71, 0, 0, 0, 0, 0, 50, 0, 117, 0, 0, 0, 0, 0, 0, 0, 0, 0, 0, 0, 0, 0, 0, 0, 24, 72, 0, 0, 0, 0, 0, 0, 0, 0, 0, 0, 0, 0, 0, 0, 0, 0, 0, 0, 82, 0, 0, 0, 0, 0, 0, 0, 0, 0, 0, 39, 0, 0, 0, 0, 0, 0, 0, 0, 0, 0, 0, 0, 0, 0, 0, 0, 0, 0, 0, 0, 0, 0, 0, 0, 43, 44, 45, 46, 47, 48, 0, 0, 0, 0, 0, 0, 0, 0, 0, 0, 0, 0, 0, 51, 52, 53, 56, 57, 58, 60, 0, 0, 0, 0, 0, 0, 0, 61, 63, 65, 66, 73, 0, 25, 0, 79, 0, 0, 0, 0, 0, 0, 0, 0, 0, 0, 0, 0, 0, 0, 0, 0, 0, 0, 0, 0, 0, 0, 0, 0, 0, 0, 0, 0, 0, 0, 0, 0, 0, 0, 0, 0, 0, 0, 0, 0, 0, 0, 0, 0, 0, 0, 0, 0, 0, 0, 0, 0, 0, 0, 0, 0, 4, 0, 6, 0, 7, 18, 12, 30, 19, 29, 27, 0, 5, 8, 0, 0, 0, 10, 9, 11, 0, 0, 21, 0, 0, 13, 14, 26, 34, 0, 0, 15, 16, 17, 0, 20, 22, 40, 0, 0, 0, 23, 0, 28, 31, 32, 49, 33, 0, 0, 0, 0, 0, 0, 0, 0, 0, 35, 36, 37, 38, 0, 0, 0, 0, 42, 0, 0, 0, 0, 0, 0, 0, 0, 0, 0, 0, 0, 0, 0, 0, 0, 0, 0, 0, 0, 0, 0, 0, 0, 0, 0, 0, 0, 0, 0, 0, 0, 0, 0, 0, 0, 0, 0, 0, 0, 0, 0, 0, 0, 0, 0, 0, 0, 0, 0, 0, 0, 0, 0, 0, 0, 0, 0, 0, 0, 0, 0, 0, 0, 0, 0, 0, 0, 0, 0, 0, 0, 0, 0, 0, 0, 0, 0, 0, 0, 0, 0, 0, 0, 0, 0, 0, 0, 0, 0, 0, 0, 0, 0, 0, 0, 0, 0, 0, 0, 0, 0, 0, 0, 0, 0, 0, 0, 0, 0, 0, 0, 0, 0, 0, 0, 0, 0, 0, 0, 0, 0, 0, 0, 0, 0, 0, 0, 0, 0, 0, 0, 0, 0, 0, 0, 0, 0, 0, 0, 0, 0, 0, 0, 0, 0, 0, 0, 0, 0, 0, 0, 0, 0, 0, 0, 0, 0, 0, 0, 0, 0, 0, 0, 0, 0, 0, 0, 0, 0, 0, 0, 0, 0, 0, 0, 0, 0, 0, 0, 0, 0, 0, 0, 0, 0, 0, 0, 0, 0, 3]
def nmT : List Nat := [3, 4, 5, 21, 121, 37, 0, 9, 0, 118, 123, 0, 0, 0, 0, 36, 0, 0, 100, 0, 96, 0, 135, 0, 106, 91, 0, 0, 87, 0, 0, 110, 0, 0, 0, 0, 0, 39, 0, 0, 66, 44, 46, 57, 51, 79, 0, 0, 0, 0, 0, 64, 0, 0, 0, 0, 0, 0, 0, 0, 0]
def nm (i : Nat) : Nat := if i < 100000 then nmF.getD i 0 else nmT.getD (i - 100000) 0

def tab : Tab := fun f => match f with
  | 3 => some (C_law13_SolveNone nm)
  | 4 => some (C_law13_lives nm)
  | 5 => some (C_p_solve_Solver_Clash nm)
  | 6 => some (C_solve_New nm)
  | 7 => some (C_p_solve_Solver_Claim nm)
  | 8 => some (C_p_solve_Solver_Claims nm)
  | 9 => some (C_arena_New nm)
  | 10 => some (C_p_arena_Arena_Head nm)
  | 11 => some (C_p_arena_Arena_Var nm)
  | 12 => some (C_p_arena_Arena_Len nm)
  | 13 => some (C_p_solve_Solver_ask nm)
  | 14 => some (C_p_solve_Solver_step nm)
  | 15 => some (C_p_arena_Arena_right nm)
  | 16 => some (C_p_arena_Arena_room nm)
  | 17 => some (C_arena_clone nm)
  | 18 => some (C_p_arena_Arena_IsVar nm)
  | 19 => some (C_p_arena_Arena_Level nm)
  | 20 => some (C_p_solve_Solver_bind nm)
  | 21 => some (C_p_arena_Arena_At nm)
  | 22 => some (C_p_solve_Solver_heads nm)
  | 23 => some (C_graph_Check nm)
  | 24 => some (C_slices_Clone_sl_string_string nm)
  | 25 => some (C_slices_Clone_sl_int_int nm)
  | 26 => some (C_p_arena_Arena_there nm)
  | 27 => some (C_solve_Raise nm)
  | 28 => some (C_p_arena_Arena_Bound nm)
  | 29 => some (C_p_arena_Arena_High nm)
  | 30 => some (C_p_arena_Arena_Low nm)
  | 31 => some (C_p_solve_Solver_variants nm)
  | 32 => some (C_solve_kid nm)
  | 33 => some (C_graph_head nm)
  | 34 => some (C_p_solve_raiser_part nm)
  | 35 => some (C_p_solve_Solver_any nm)
  | 36 => some (C_slices_BinarySearch_sl_string_string nm)
  | 37 => some (C_graph_rising nm)
  | 38 => some (C_graph_typed nm)
  | 39 => some (C_tree_Check nm)
  | 40 => some (C_p_solve_raiser_variable nm)
  | 41 => some (C_cmp_Less_string nm)
  | 42 => some (C_slices_isNaN_string nm)
  | 43 => some (C_tree_term nm)
  | 44 => some (C_tree_uses_note nm)
  | 45 => some (C_tree_typ nm)
  | 46 => some (C_tree_alias nm)
  | 47 => some (C_tree_Check_1 nm)
  | 48 => some (C_slices_ContainsFunc_tree_uses_int nm)
  | 49 => some (C_solve_way nm)
  | 50 => some (C_cmp_isNaN_string nm)
  | 51 => some (C_tree_shapes nm)
  | 52 => some (C_tree_named nm)
  | 53 => some (C_tree_text nm)
  | 54 => some (C_lexer_IsName nm)
  | 55 => some (C_floats_Of nm)
  | 56 => some (C_tree_once nm)
  | 57 => some (C_tree_all nm)
  | 58 => some (C_tree_tag nm)
  | 59 => some (C_lexer_Lex nm)
  | 60 => some (C_slices_IndexFunc_tree_uses_int nm)
  | 61 => some (C_tree_halves nm)
  | 62 => some (C_slices_Contains_sl_string_string nm)
  | 63 => some (C_tree_ops nm)
  | 64 => some (C_runes_Bad nm)
  | 65 => some (C_slices_ContainsFunc_sl_byte_byte nm)
  | 66 => some (C_tree_text_1 nm)
  | 67 => some (C_lexer_low nm)
  | 68 => some (C_lexer_run nm)
  | 69 => some (C_lexer_inName nm)
  | 70 => some (C_lexer_IsWord nm)
  | 72 => some (C_slices_ContainsFunc_sl_string_string nm)
  | 73 => some (C_tree_all_1 nm)
  | 74 => some (C_lexer_blank nm)
  | 75 => some (C_lexer_one nm)
  | 76 => some (C_slices_Index_sl_string_string nm)
  | 77 => some (C_runes_All nm)
  | 78 => some (C_runes_size nm)
  | 79 => some (C_slices_IndexFunc_sl_byte_byte nm)
  | 80 => some (C_lexer_digit nm)
  | 81 => some (C_lexer_words nm)
  | 82 => some (C_slices_IndexFunc_sl_string_string nm)
  | 83 => some (C_strings_IndexByte nm)
  | 84 => some (C_strings_HasPrefix nm)
  | 85 => some (C_lexer_blank_1 nm)
  | 86 => some (C_lexer_float nm)
  | 87 => some (C_lexer_high nm)
  | 88 => some (C_lexer_inAlias nm)
  | 89 => some (C_lexer_number nm)
  | 90 => some (C_lexer_text nm)
  | 91 => some (C_lexer_signs nm)
  | 92 => some (C_runes_All_1 nm)
  | 93 => some (C_runes_first nm)
  | 94 => some (C_internal_stringslite_IndexByte nm)
  | 95 => some (C_internal_stringslite_HasPrefix nm)
  | 96 => some (C_floats_Parse nm)
  | 97 => some (C_runes_sign nm)
  | 99 => some (C_strings_CutPrefix nm)
  | 100 => some (C_internal_stringslite_CutPrefix nm)
  | _ => none

theorem res3 : pFunc Try.prog Try.f3 = some { C_law13_SolveNone nm with frz := false } := by kernel_rfl
theorem res4 : pFunc Try.prog Try.f4 = some { C_law13_lives nm with frz := false } := by kernel_rfl
theorem res5 : pFunc Try.prog Try.f5 = some { C_p_solve_Solver_Clash nm with frz := false } := by kernel_rfl
theorem res6 : pFunc Try.prog Try.f6 = some { C_solve_New nm with frz := false } := by kernel_rfl
theorem res7 : pFunc Try.prog Try.f7 = some { C_p_solve_Solver_Claim nm with frz := false } := by kernel_rfl
theorem res8 : pFunc Try.prog Try.f8 = some { C_p_solve_Solver_Claims nm with frz := false } := by kernel_rfl
theorem res9 : pFunc Try.prog Try.f9 = some { C_arena_New nm with frz := false } := by kernel_rfl
theorem res10 : pFunc Try.prog Try.f10 = some { C_p_arena_Arena_Head nm with frz := false } := by kernel_rfl
theorem res11 : pFunc Try.prog Try.f11 = some { C_p_arena_Arena_Var nm with frz := false } := by kernel_rfl
theorem res12 : pFunc Try.prog Try.f12 = some { C_p_arena_Arena_Len nm with frz := false } := by kernel_rfl
theorem res13 : pFunc Try.prog Try.f13 = some { C_p_solve_Solver_ask nm with frz := false } := by kernel_rfl
theorem res14 : pFunc Try.prog Try.f14 = some { C_p_solve_Solver_step nm with frz := false } := by kernel_rfl
theorem res15 : pFunc Try.prog Try.f15 = some { C_p_arena_Arena_right nm with frz := false } := by kernel_rfl
theorem res16 : pFunc Try.prog Try.f16 = some { C_p_arena_Arena_room nm with frz := false } := by kernel_rfl
theorem res17 : pFunc Try.prog Try.f17 = some { C_arena_clone nm with frz := false } := by kernel_rfl
theorem res18 : pFunc Try.prog Try.f18 = some { C_p_arena_Arena_IsVar nm with frz := false } := by kernel_rfl
theorem res19 : pFunc Try.prog Try.f19 = some { C_p_arena_Arena_Level nm with frz := false } := by kernel_rfl
theorem res20 : pFunc Try.prog Try.f20 = some { C_p_solve_Solver_bind nm with frz := false } := by kernel_rfl
theorem res21 : pFunc Try.prog Try.f21 = some { C_p_arena_Arena_At nm with frz := false } := by kernel_rfl
theorem res22 : pFunc Try.prog Try.f22 = some { C_p_solve_Solver_heads nm with frz := false } := by kernel_rfl
theorem res23 : pFunc Try.prog Try.f23 = some { C_graph_Check nm with frz := false } := by kernel_rfl
theorem res24 : pFunc Try.prog Try.f24 = some { C_slices_Clone_sl_string_string nm with frz := false } := by kernel_rfl
theorem res25 : pFunc Try.prog Try.f25 = some { C_slices_Clone_sl_int_int nm with frz := false } := by kernel_rfl
theorem res26 : pFunc Try.prog Try.f26 = some { C_p_arena_Arena_there nm with frz := false } := by kernel_rfl
theorem res27 : pFunc Try.prog Try.f27 = some { C_solve_Raise nm with frz := false } := by kernel_rfl
theorem res28 : pFunc Try.prog Try.f28 = some { C_p_arena_Arena_Bound nm with frz := false } := by kernel_rfl
theorem res29 : pFunc Try.prog Try.f29 = some { C_p_arena_Arena_High nm with frz := false } := by kernel_rfl
theorem res30 : pFunc Try.prog Try.f30 = some { C_p_arena_Arena_Low nm with frz := false } := by kernel_rfl
theorem res31 : pFunc Try.prog Try.f31 = some { C_p_solve_Solver_variants nm with frz := false } := by kernel_rfl
theorem res32 : pFunc Try.prog Try.f32 = some { C_solve_kid nm with frz := false } := by kernel_rfl
theorem res33 : pFunc Try.prog Try.f33 = some { C_graph_head nm with frz := false } := by kernel_rfl
theorem res34 : pFunc Try.prog Try.f34 = some { C_p_solve_raiser_part nm with frz := false } := by kernel_rfl
theorem res35 : pFunc Try.prog Try.f35 = some { C_p_solve_Solver_any nm with frz := false } := by kernel_rfl
theorem res36 : pFunc Try.prog Try.f36 = some { C_slices_BinarySearch_sl_string_string nm with frz := false } := by kernel_rfl
theorem res37 : pFunc Try.prog Try.f37 = some { C_graph_rising nm with frz := false } := by kernel_rfl
theorem res38 : pFunc Try.prog Try.f38 = some { C_graph_typed nm with frz := false } := by kernel_rfl
theorem res39 : pFunc Try.prog Try.f39 = some { C_tree_Check nm with frz := false } := by kernel_rfl
theorem res40 : pFunc Try.prog Try.f40 = some { C_p_solve_raiser_variable nm with frz := false } := by kernel_rfl
theorem res41 : pFunc Try.prog Try.f41 = some { C_cmp_Less_string nm with frz := false } := by kernel_rfl
theorem res42 : pFunc Try.prog Try.f42 = some { C_slices_isNaN_string nm with frz := false } := by kernel_rfl
theorem res43 : pFunc Try.prog Try.f43 = some { C_tree_term nm with frz := false } := by kernel_rfl
theorem res44 : pFunc Try.prog Try.f44 = some { C_tree_uses_note nm with frz := false } := by kernel_rfl
theorem res45 : pFunc Try.prog Try.f45 = some { C_tree_typ nm with frz := false } := by kernel_rfl
theorem res46 : pFunc Try.prog Try.f46 = some { C_tree_alias nm with frz := false } := by kernel_rfl
theorem res47 : pFunc Try.prog Try.f47 = some { C_tree_Check_1 nm with frz := false } := by kernel_rfl
theorem res48 : pFunc Try.prog Try.f48 = some { C_slices_ContainsFunc_tree_uses_int nm with frz := false } := by kernel_rfl
theorem res49 : pFunc Try.prog Try.f49 = some { C_solve_way nm with frz := false } := by kernel_rfl
theorem res50 : pFunc Try.prog Try.f50 = some { C_cmp_isNaN_string nm with frz := false } := by kernel_rfl
theorem res51 : pFunc Try.prog Try.f51 = some { C_tree_shapes nm with frz := false } := by kernel_rfl
theorem res52 : pFunc Try.prog Try.f52 = some { C_tree_named nm with frz := false } := by kernel_rfl
theorem res53 : pFunc Try.prog Try.f53 = some { C_tree_text nm with frz := false } := by kernel_rfl
theorem res54 : pFunc Try.prog Try.f54 = some { C_lexer_IsName nm with frz := false } := by kernel_rfl
theorem res55 : pFunc Try.prog Try.f55 = some { C_floats_Of nm with frz := false } := by kernel_rfl
theorem res56 : pFunc Try.prog Try.f56 = some { C_tree_once nm with frz := false } := by kernel_rfl
theorem res57 : pFunc Try.prog Try.f57 = some { C_tree_all nm with frz := false } := by kernel_rfl
theorem res58 : pFunc Try.prog Try.f58 = some { C_tree_tag nm with frz := false } := by kernel_rfl
theorem res59 : pFunc Try.prog Try.f59 = some { C_lexer_Lex nm with frz := false } := by kernel_rfl
theorem res60 : pFunc Try.prog Try.f60 = some { C_slices_IndexFunc_tree_uses_int nm with frz := false } := by kernel_rfl
theorem res61 : pFunc Try.prog Try.f61 = some { C_tree_halves nm with frz := false } := by kernel_rfl
theorem res62 : pFunc Try.prog Try.f62 = some { C_slices_Contains_sl_string_string nm with frz := false } := by kernel_rfl
theorem res63 : pFunc Try.prog Try.f63 = some { C_tree_ops nm with frz := false } := by kernel_rfl
theorem res64 : pFunc Try.prog Try.f64 = some { C_runes_Bad nm with frz := false } := by kernel_rfl
theorem res65 : pFunc Try.prog Try.f65 = some { C_slices_ContainsFunc_sl_byte_byte nm with frz := false } := by kernel_rfl
theorem res66 : pFunc Try.prog Try.f66 = some { C_tree_text_1 nm with frz := false } := by kernel_rfl
theorem res67 : pFunc Try.prog Try.f67 = some { C_lexer_low nm with frz := false } := by kernel_rfl
theorem res68 : pFunc Try.prog Try.f68 = some { C_lexer_run nm with frz := false } := by kernel_rfl
theorem res69 : pFunc Try.prog Try.f69 = some { C_lexer_inName nm with frz := false } := by kernel_rfl
theorem res70 : pFunc Try.prog Try.f70 = some { C_lexer_IsWord nm with frz := false } := by kernel_rfl
theorem res72 : pFunc Try.prog Try.f72 = some { C_slices_ContainsFunc_sl_string_string nm with frz := false } := by kernel_rfl
theorem res73 : pFunc Try.prog Try.f73 = some { C_tree_all_1 nm with frz := false } := by kernel_rfl
theorem res74 : pFunc Try.prog Try.f74 = some { C_lexer_blank nm with frz := false } := by kernel_rfl
theorem res75 : pFunc Try.prog Try.f75 = some { C_lexer_one nm with frz := false } := by kernel_rfl
theorem res76 : pFunc Try.prog Try.f76 = some { C_slices_Index_sl_string_string nm with frz := false } := by kernel_rfl
theorem res77 : pFunc Try.prog Try.f77 = some { C_runes_All nm with frz := false } := by kernel_rfl
theorem res78 : pFunc Try.prog Try.f78 = some { C_runes_size nm with frz := false } := by kernel_rfl
theorem res79 : pFunc Try.prog Try.f79 = some { C_slices_IndexFunc_sl_byte_byte nm with frz := false } := by kernel_rfl
theorem res80 : pFunc Try.prog Try.f80 = some { C_lexer_digit nm with frz := false } := by kernel_rfl
theorem res81 : pFunc Try.prog Try.f81 = some { C_lexer_words nm with frz := false } := by kernel_rfl
theorem res82 : pFunc Try.prog Try.f82 = some { C_slices_IndexFunc_sl_string_string nm with frz := false } := by kernel_rfl
theorem res83 : pFunc Try.prog Try.f83 = some { C_strings_IndexByte nm with frz := false } := by kernel_rfl
theorem res84 : pFunc Try.prog Try.f84 = some { C_strings_HasPrefix nm with frz := false } := by kernel_rfl
theorem res85 : pFunc Try.prog Try.f85 = some { C_lexer_blank_1 nm with frz := false } := by kernel_rfl
theorem res86 : pFunc Try.prog Try.f86 = some { C_lexer_float nm with frz := false } := by kernel_rfl
theorem res87 : pFunc Try.prog Try.f87 = some { C_lexer_high nm with frz := false } := by kernel_rfl
theorem res88 : pFunc Try.prog Try.f88 = some { C_lexer_inAlias nm with frz := false } := by kernel_rfl
theorem res89 : pFunc Try.prog Try.f89 = some { C_lexer_number nm with frz := false } := by kernel_rfl
theorem res90 : pFunc Try.prog Try.f90 = some { C_lexer_text nm with frz := false } := by kernel_rfl
theorem res91 : pFunc Try.prog Try.f91 = some { C_lexer_signs nm with frz := false } := by kernel_rfl
theorem res92 : pFunc Try.prog Try.f92 = some { C_runes_All_1 nm with frz := false } := by kernel_rfl
theorem res93 : pFunc Try.prog Try.f93 = some { C_runes_first nm with frz := false } := by kernel_rfl
theorem res94 : pFunc Try.prog Try.f94 = some { C_internal_stringslite_IndexByte nm with frz := false } := by kernel_rfl
theorem res95 : pFunc Try.prog Try.f95 = some { C_internal_stringslite_HasPrefix nm with frz := false } := by kernel_rfl
theorem res96 : pFunc Try.prog Try.f96 = some { C_floats_Parse nm with frz := false } := by kernel_rfl
theorem res97 : pFunc Try.prog Try.f97 = some { C_runes_sign nm with frz := false } := by kernel_rfl
theorem res99 : pFunc Try.prog Try.f99 = some { C_strings_CutPrefix nm with frz := false } := by kernel_rfl
theorem res100 : pFunc Try.prog Try.f100 = some { C_internal_stringslite_CutPrefix nm with frz := false } := by kernel_rfl

theorem tab_ok : TOK Try.prog tab := by
  intro f af h
  unfold tab at h
  split at h
  · simp only [Option.some.injEq] at h; subst h; exact ⟨Try.f3, Try.func3, res3⟩
  · simp only [Option.some.injEq] at h; subst h; exact ⟨Try.f4, Try.func4, res4⟩
  · simp only [Option.some.injEq] at h; subst h; exact ⟨Try.f5, Try.func5, res5⟩
  · simp only [Option.some.injEq] at h; subst h; exact ⟨Try.f6, Try.func6, res6⟩
  · simp only [Option.some.injEq] at h; subst h; exact ⟨Try.f7, Try.func7, res7⟩
  · simp only [Option.some.injEq] at h; subst h; exact ⟨Try.f8, Try.func8, res8⟩
  · simp only [Option.some.injEq] at h; subst h; exact ⟨Try.f9, Try.func9, res9⟩
  · simp only [Option.some.injEq] at h; subst h; exact ⟨Try.f10, Try.func10, res10⟩
  · simp only [Option.some.injEq] at h; subst h; exact ⟨Try.f11, Try.func11, res11⟩
  · simp only [Option.some.injEq] at h; subst h; exact ⟨Try.f12, Try.func12, res12⟩
  · simp only [Option.some.injEq] at h; subst h; exact ⟨Try.f13, Try.func13, res13⟩
  · simp only [Option.some.injEq] at h; subst h; exact ⟨Try.f14, Try.func14, res14⟩
  · simp only [Option.some.injEq] at h; subst h; exact ⟨Try.f15, Try.func15, res15⟩
  · simp only [Option.some.injEq] at h; subst h; exact ⟨Try.f16, Try.func16, res16⟩
  · simp only [Option.some.injEq] at h; subst h; exact ⟨Try.f17, Try.func17, res17⟩
  · simp only [Option.some.injEq] at h; subst h; exact ⟨Try.f18, Try.func18, res18⟩
  · simp only [Option.some.injEq] at h; subst h; exact ⟨Try.f19, Try.func19, res19⟩
  · simp only [Option.some.injEq] at h; subst h; exact ⟨Try.f20, Try.func20, res20⟩
  · simp only [Option.some.injEq] at h; subst h; exact ⟨Try.f21, Try.func21, res21⟩
  · simp only [Option.some.injEq] at h; subst h; exact ⟨Try.f22, Try.func22, res22⟩
  · simp only [Option.some.injEq] at h; subst h; exact ⟨Try.f23, Try.func23, res23⟩
  · simp only [Option.some.injEq] at h; subst h; exact ⟨Try.f24, Try.func24, res24⟩
  · simp only [Option.some.injEq] at h; subst h; exact ⟨Try.f25, Try.func25, res25⟩
  · simp only [Option.some.injEq] at h; subst h; exact ⟨Try.f26, Try.func26, res26⟩
  · simp only [Option.some.injEq] at h; subst h; exact ⟨Try.f27, Try.func27, res27⟩
  · simp only [Option.some.injEq] at h; subst h; exact ⟨Try.f28, Try.func28, res28⟩
  · simp only [Option.some.injEq] at h; subst h; exact ⟨Try.f29, Try.func29, res29⟩
  · simp only [Option.some.injEq] at h; subst h; exact ⟨Try.f30, Try.func30, res30⟩
  · simp only [Option.some.injEq] at h; subst h; exact ⟨Try.f31, Try.func31, res31⟩
  · simp only [Option.some.injEq] at h; subst h; exact ⟨Try.f32, Try.func32, res32⟩
  · simp only [Option.some.injEq] at h; subst h; exact ⟨Try.f33, Try.func33, res33⟩
  · simp only [Option.some.injEq] at h; subst h; exact ⟨Try.f34, Try.func34, res34⟩
  · simp only [Option.some.injEq] at h; subst h; exact ⟨Try.f35, Try.func35, res35⟩
  · simp only [Option.some.injEq] at h; subst h; exact ⟨Try.f36, Try.func36, res36⟩
  · simp only [Option.some.injEq] at h; subst h; exact ⟨Try.f37, Try.func37, res37⟩
  · simp only [Option.some.injEq] at h; subst h; exact ⟨Try.f38, Try.func38, res38⟩
  · simp only [Option.some.injEq] at h; subst h; exact ⟨Try.f39, Try.func39, res39⟩
  · simp only [Option.some.injEq] at h; subst h; exact ⟨Try.f40, Try.func40, res40⟩
  · simp only [Option.some.injEq] at h; subst h; exact ⟨Try.f41, Try.func41, res41⟩
  · simp only [Option.some.injEq] at h; subst h; exact ⟨Try.f42, Try.func42, res42⟩
  · simp only [Option.some.injEq] at h; subst h; exact ⟨Try.f43, Try.func43, res43⟩
  · simp only [Option.some.injEq] at h; subst h; exact ⟨Try.f44, Try.func44, res44⟩
  · simp only [Option.some.injEq] at h; subst h; exact ⟨Try.f45, Try.func45, res45⟩
  · simp only [Option.some.injEq] at h; subst h; exact ⟨Try.f46, Try.func46, res46⟩
  · simp only [Option.some.injEq] at h; subst h; exact ⟨Try.f47, Try.func47, res47⟩
  · simp only [Option.some.injEq] at h; subst h; exact ⟨Try.f48, Try.func48, res48⟩
  · simp only [Option.some.injEq] at h; subst h; exact ⟨Try.f49, Try.func49, res49⟩
  · simp only [Option.some.injEq] at h; subst h; exact ⟨Try.f50, Try.func50, res50⟩
  · simp only [Option.some.injEq] at h; subst h; exact ⟨Try.f51, Try.func51, res51⟩
  · simp only [Option.some.injEq] at h; subst h; exact ⟨Try.f52, Try.func52, res52⟩
  · simp only [Option.some.injEq] at h; subst h; exact ⟨Try.f53, Try.func53, res53⟩
  · simp only [Option.some.injEq] at h; subst h; exact ⟨Try.f54, Try.func54, res54⟩
  · simp only [Option.some.injEq] at h; subst h; exact ⟨Try.f55, Try.func55, res55⟩
  · simp only [Option.some.injEq] at h; subst h; exact ⟨Try.f56, Try.func56, res56⟩
  · simp only [Option.some.injEq] at h; subst h; exact ⟨Try.f57, Try.func57, res57⟩
  · simp only [Option.some.injEq] at h; subst h; exact ⟨Try.f58, Try.func58, res58⟩
  · simp only [Option.some.injEq] at h; subst h; exact ⟨Try.f59, Try.func59, res59⟩
  · simp only [Option.some.injEq] at h; subst h; exact ⟨Try.f60, Try.func60, res60⟩
  · simp only [Option.some.injEq] at h; subst h; exact ⟨Try.f61, Try.func61, res61⟩
  · simp only [Option.some.injEq] at h; subst h; exact ⟨Try.f62, Try.func62, res62⟩
  · simp only [Option.some.injEq] at h; subst h; exact ⟨Try.f63, Try.func63, res63⟩
  · simp only [Option.some.injEq] at h; subst h; exact ⟨Try.f64, Try.func64, res64⟩
  · simp only [Option.some.injEq] at h; subst h; exact ⟨Try.f65, Try.func65, res65⟩
  · simp only [Option.some.injEq] at h; subst h; exact ⟨Try.f66, Try.func66, res66⟩
  · simp only [Option.some.injEq] at h; subst h; exact ⟨Try.f67, Try.func67, res67⟩
  · simp only [Option.some.injEq] at h; subst h; exact ⟨Try.f68, Try.func68, res68⟩
  · simp only [Option.some.injEq] at h; subst h; exact ⟨Try.f69, Try.func69, res69⟩
  · simp only [Option.some.injEq] at h; subst h; exact ⟨Try.f70, Try.func70, res70⟩
  · simp only [Option.some.injEq] at h; subst h; exact ⟨Try.f72, Try.func72, res72⟩
  · simp only [Option.some.injEq] at h; subst h; exact ⟨Try.f73, Try.func73, res73⟩
  · simp only [Option.some.injEq] at h; subst h; exact ⟨Try.f74, Try.func74, res74⟩
  · simp only [Option.some.injEq] at h; subst h; exact ⟨Try.f75, Try.func75, res75⟩
  · simp only [Option.some.injEq] at h; subst h; exact ⟨Try.f76, Try.func76, res76⟩
  · simp only [Option.some.injEq] at h; subst h; exact ⟨Try.f77, Try.func77, res77⟩
  · simp only [Option.some.injEq] at h; subst h; exact ⟨Try.f78, Try.func78, res78⟩
  · simp only [Option.some.injEq] at h; subst h; exact ⟨Try.f79, Try.func79, res79⟩
  · simp only [Option.some.injEq] at h; subst h; exact ⟨Try.f80, Try.func80, res80⟩
  · simp only [Option.some.injEq] at h; subst h; exact ⟨Try.f81, Try.func81, res81⟩
  · simp only [Option.some.injEq] at h; subst h; exact ⟨Try.f82, Try.func82, res82⟩
  · simp only [Option.some.injEq] at h; subst h; exact ⟨Try.f83, Try.func83, res83⟩
  · simp only [Option.some.injEq] at h; subst h; exact ⟨Try.f84, Try.func84, res84⟩
  · simp only [Option.some.injEq] at h; subst h; exact ⟨Try.f85, Try.func85, res85⟩
  · simp only [Option.some.injEq] at h; subst h; exact ⟨Try.f86, Try.func86, res86⟩
  · simp only [Option.some.injEq] at h; subst h; exact ⟨Try.f87, Try.func87, res87⟩
  · simp only [Option.some.injEq] at h; subst h; exact ⟨Try.f88, Try.func88, res88⟩
  · simp only [Option.some.injEq] at h; subst h; exact ⟨Try.f89, Try.func89, res89⟩
  · simp only [Option.some.injEq] at h; subst h; exact ⟨Try.f90, Try.func90, res90⟩
  · simp only [Option.some.injEq] at h; subst h; exact ⟨Try.f91, Try.func91, res91⟩
  · simp only [Option.some.injEq] at h; subst h; exact ⟨Try.f92, Try.func92, res92⟩
  · simp only [Option.some.injEq] at h; subst h; exact ⟨Try.f93, Try.func93, res93⟩
  · simp only [Option.some.injEq] at h; subst h; exact ⟨Try.f94, Try.func94, res94⟩
  · simp only [Option.some.injEq] at h; subst h; exact ⟨Try.f95, Try.func95, res95⟩
  · simp only [Option.some.injEq] at h; subst h; exact ⟨Try.f96, Try.func96, res96⟩
  · simp only [Option.some.injEq] at h; subst h; exact ⟨Try.f97, Try.func97, res97⟩
  · simp only [Option.some.injEq] at h; subst h; exact ⟨Try.f99, Try.func99, res99⟩
  · simp only [Option.some.injEq] at h; subst h; exact ⟨Try.f100, Try.func100, res100⟩
  · simp at h

theorem tab_law13_SolveNone : tab (f_law13_SolveNone nm) = some (C_law13_SolveNone nm) := by kernel_rfl
theorem tab_law13_lives : tab (f_law13_lives nm) = some (C_law13_lives nm) := by kernel_rfl
theorem tab_p_solve_Solver_Clash : tab (f_p_solve_Solver_Clash nm) = some (C_p_solve_Solver_Clash nm) := by kernel_rfl
theorem tab_solve_New : tab (f_solve_New nm) = some (C_solve_New nm) := by kernel_rfl
theorem tab_p_solve_Solver_Claim : tab (f_p_solve_Solver_Claim nm) = some (C_p_solve_Solver_Claim nm) := by kernel_rfl
theorem tab_p_solve_Solver_Claims : tab (f_p_solve_Solver_Claims nm) = some (C_p_solve_Solver_Claims nm) := by kernel_rfl
theorem tab_arena_New : tab (f_arena_New nm) = some (C_arena_New nm) := by kernel_rfl
theorem tab_p_arena_Arena_Head : tab (f_p_arena_Arena_Head nm) = some (C_p_arena_Arena_Head nm) := by kernel_rfl
theorem tab_p_arena_Arena_Var : tab (f_p_arena_Arena_Var nm) = some (C_p_arena_Arena_Var nm) := by kernel_rfl
theorem tab_p_arena_Arena_Len : tab (f_p_arena_Arena_Len nm) = some (C_p_arena_Arena_Len nm) := by kernel_rfl
theorem tab_p_solve_Solver_ask : tab (f_p_solve_Solver_ask nm) = some (C_p_solve_Solver_ask nm) := by kernel_rfl
theorem tab_p_solve_Solver_step : tab (f_p_solve_Solver_step nm) = some (C_p_solve_Solver_step nm) := by kernel_rfl
theorem tab_p_arena_Arena_right : tab (f_p_arena_Arena_right nm) = some (C_p_arena_Arena_right nm) := by kernel_rfl
theorem tab_p_arena_Arena_room : tab (f_p_arena_Arena_room nm) = some (C_p_arena_Arena_room nm) := by kernel_rfl
theorem tab_arena_clone : tab (f_arena_clone nm) = some (C_arena_clone nm) := by kernel_rfl
theorem tab_p_arena_Arena_IsVar : tab (f_p_arena_Arena_IsVar nm) = some (C_p_arena_Arena_IsVar nm) := by kernel_rfl
theorem tab_p_arena_Arena_Level : tab (f_p_arena_Arena_Level nm) = some (C_p_arena_Arena_Level nm) := by kernel_rfl
theorem tab_p_solve_Solver_bind : tab (f_p_solve_Solver_bind nm) = some (C_p_solve_Solver_bind nm) := by kernel_rfl
theorem tab_p_arena_Arena_At : tab (f_p_arena_Arena_At nm) = some (C_p_arena_Arena_At nm) := by kernel_rfl
theorem tab_p_solve_Solver_heads : tab (f_p_solve_Solver_heads nm) = some (C_p_solve_Solver_heads nm) := by kernel_rfl
theorem tab_graph_Check : tab (f_graph_Check nm) = some (C_graph_Check nm) := by kernel_rfl
theorem tab_slices_Clone_sl_string_string : tab (f_slices_Clone_sl_string_string nm) = some (C_slices_Clone_sl_string_string nm) := by kernel_rfl
theorem tab_slices_Clone_sl_int_int : tab (f_slices_Clone_sl_int_int nm) = some (C_slices_Clone_sl_int_int nm) := by kernel_rfl
theorem tab_p_arena_Arena_there : tab (f_p_arena_Arena_there nm) = some (C_p_arena_Arena_there nm) := by kernel_rfl
theorem tab_solve_Raise : tab (f_solve_Raise nm) = some (C_solve_Raise nm) := by kernel_rfl
theorem tab_p_arena_Arena_Bound : tab (f_p_arena_Arena_Bound nm) = some (C_p_arena_Arena_Bound nm) := by kernel_rfl
theorem tab_p_arena_Arena_High : tab (f_p_arena_Arena_High nm) = some (C_p_arena_Arena_High nm) := by kernel_rfl
theorem tab_p_arena_Arena_Low : tab (f_p_arena_Arena_Low nm) = some (C_p_arena_Arena_Low nm) := by kernel_rfl
theorem tab_p_solve_Solver_variants : tab (f_p_solve_Solver_variants nm) = some (C_p_solve_Solver_variants nm) := by kernel_rfl
theorem tab_solve_kid : tab (f_solve_kid nm) = some (C_solve_kid nm) := by kernel_rfl
theorem tab_graph_head : tab (f_graph_head nm) = some (C_graph_head nm) := by kernel_rfl
theorem tab_p_solve_raiser_part : tab (f_p_solve_raiser_part nm) = some (C_p_solve_raiser_part nm) := by kernel_rfl
theorem tab_p_solve_Solver_any : tab (f_p_solve_Solver_any nm) = some (C_p_solve_Solver_any nm) := by kernel_rfl
theorem tab_slices_BinarySearch_sl_string_string : tab (f_slices_BinarySearch_sl_string_string nm) = some (C_slices_BinarySearch_sl_string_string nm) := by kernel_rfl
theorem tab_graph_rising : tab (f_graph_rising nm) = some (C_graph_rising nm) := by kernel_rfl
theorem tab_graph_typed : tab (f_graph_typed nm) = some (C_graph_typed nm) := by kernel_rfl
theorem tab_tree_Check : tab (f_tree_Check nm) = some (C_tree_Check nm) := by kernel_rfl
theorem tab_p_solve_raiser_variable : tab (f_p_solve_raiser_variable nm) = some (C_p_solve_raiser_variable nm) := by kernel_rfl
theorem tab_cmp_Less_string : tab (f_cmp_Less_string nm) = some (C_cmp_Less_string nm) := by kernel_rfl
theorem tab_slices_isNaN_string : tab (f_slices_isNaN_string nm) = some (C_slices_isNaN_string nm) := by kernel_rfl
theorem tab_tree_term : tab (f_tree_term nm) = some (C_tree_term nm) := by kernel_rfl
theorem tab_tree_uses_note : tab (f_tree_uses_note nm) = some (C_tree_uses_note nm) := by kernel_rfl
theorem tab_tree_typ : tab (f_tree_typ nm) = some (C_tree_typ nm) := by kernel_rfl
theorem tab_tree_alias : tab (f_tree_alias nm) = some (C_tree_alias nm) := by kernel_rfl
theorem tab_tree_Check_1 : tab (f_tree_Check_1 nm) = some (C_tree_Check_1 nm) := by kernel_rfl
theorem tab_slices_ContainsFunc_tree_uses_int : tab (f_slices_ContainsFunc_tree_uses_int nm) = some (C_slices_ContainsFunc_tree_uses_int nm) := by kernel_rfl
theorem tab_solve_way : tab (f_solve_way nm) = some (C_solve_way nm) := by kernel_rfl
theorem tab_cmp_isNaN_string : tab (f_cmp_isNaN_string nm) = some (C_cmp_isNaN_string nm) := by kernel_rfl
theorem tab_tree_shapes : tab (f_tree_shapes nm) = some (C_tree_shapes nm) := by kernel_rfl
theorem tab_tree_named : tab (f_tree_named nm) = some (C_tree_named nm) := by kernel_rfl
theorem tab_tree_text : tab (f_tree_text nm) = some (C_tree_text nm) := by kernel_rfl
theorem tab_lexer_IsName : tab (f_lexer_IsName nm) = some (C_lexer_IsName nm) := by kernel_rfl
theorem tab_floats_Of : tab (f_floats_Of nm) = some (C_floats_Of nm) := by kernel_rfl
theorem tab_tree_once : tab (f_tree_once nm) = some (C_tree_once nm) := by kernel_rfl
theorem tab_tree_all : tab (f_tree_all nm) = some (C_tree_all nm) := by kernel_rfl
theorem tab_tree_tag : tab (f_tree_tag nm) = some (C_tree_tag nm) := by kernel_rfl
theorem tab_lexer_Lex : tab (f_lexer_Lex nm) = some (C_lexer_Lex nm) := by kernel_rfl
theorem tab_slices_IndexFunc_tree_uses_int : tab (f_slices_IndexFunc_tree_uses_int nm) = some (C_slices_IndexFunc_tree_uses_int nm) := by kernel_rfl
theorem tab_tree_halves : tab (f_tree_halves nm) = some (C_tree_halves nm) := by kernel_rfl
theorem tab_slices_Contains_sl_string_string : tab (f_slices_Contains_sl_string_string nm) = some (C_slices_Contains_sl_string_string nm) := by kernel_rfl
theorem tab_tree_ops : tab (f_tree_ops nm) = some (C_tree_ops nm) := by kernel_rfl
theorem tab_runes_Bad : tab (f_runes_Bad nm) = some (C_runes_Bad nm) := by kernel_rfl
theorem tab_slices_ContainsFunc_sl_byte_byte : tab (f_slices_ContainsFunc_sl_byte_byte nm) = some (C_slices_ContainsFunc_sl_byte_byte nm) := by kernel_rfl
theorem tab_tree_text_1 : tab (f_tree_text_1 nm) = some (C_tree_text_1 nm) := by kernel_rfl
theorem tab_lexer_low : tab (f_lexer_low nm) = some (C_lexer_low nm) := by kernel_rfl
theorem tab_lexer_run : tab (f_lexer_run nm) = some (C_lexer_run nm) := by kernel_rfl
theorem tab_lexer_inName : tab (f_lexer_inName nm) = some (C_lexer_inName nm) := by kernel_rfl
theorem tab_lexer_IsWord : tab (f_lexer_IsWord nm) = some (C_lexer_IsWord nm) := by kernel_rfl
theorem tab_slices_ContainsFunc_sl_string_string : tab (f_slices_ContainsFunc_sl_string_string nm) = some (C_slices_ContainsFunc_sl_string_string nm) := by kernel_rfl
theorem tab_tree_all_1 : tab (f_tree_all_1 nm) = some (C_tree_all_1 nm) := by kernel_rfl
theorem tab_lexer_blank : tab (f_lexer_blank nm) = some (C_lexer_blank nm) := by kernel_rfl
theorem tab_lexer_one : tab (f_lexer_one nm) = some (C_lexer_one nm) := by kernel_rfl
theorem tab_slices_Index_sl_string_string : tab (f_slices_Index_sl_string_string nm) = some (C_slices_Index_sl_string_string nm) := by kernel_rfl
theorem tab_runes_All : tab (f_runes_All nm) = some (C_runes_All nm) := by kernel_rfl
theorem tab_runes_size : tab (f_runes_size nm) = some (C_runes_size nm) := by kernel_rfl
theorem tab_slices_IndexFunc_sl_byte_byte : tab (f_slices_IndexFunc_sl_byte_byte nm) = some (C_slices_IndexFunc_sl_byte_byte nm) := by kernel_rfl
theorem tab_lexer_digit : tab (f_lexer_digit nm) = some (C_lexer_digit nm) := by kernel_rfl
theorem tab_lexer_words : tab (f_lexer_words nm) = some (C_lexer_words nm) := by kernel_rfl
theorem tab_slices_IndexFunc_sl_string_string : tab (f_slices_IndexFunc_sl_string_string nm) = some (C_slices_IndexFunc_sl_string_string nm) := by kernel_rfl
theorem tab_strings_IndexByte : tab (f_strings_IndexByte nm) = some (C_strings_IndexByte nm) := by kernel_rfl
theorem tab_strings_HasPrefix : tab (f_strings_HasPrefix nm) = some (C_strings_HasPrefix nm) := by kernel_rfl
theorem tab_lexer_blank_1 : tab (f_lexer_blank_1 nm) = some (C_lexer_blank_1 nm) := by kernel_rfl
theorem tab_lexer_float : tab (f_lexer_float nm) = some (C_lexer_float nm) := by kernel_rfl
theorem tab_lexer_high : tab (f_lexer_high nm) = some (C_lexer_high nm) := by kernel_rfl
theorem tab_lexer_inAlias : tab (f_lexer_inAlias nm) = some (C_lexer_inAlias nm) := by kernel_rfl
theorem tab_lexer_number : tab (f_lexer_number nm) = some (C_lexer_number nm) := by kernel_rfl
theorem tab_lexer_text : tab (f_lexer_text nm) = some (C_lexer_text nm) := by kernel_rfl
theorem tab_lexer_signs : tab (f_lexer_signs nm) = some (C_lexer_signs nm) := by kernel_rfl
theorem tab_runes_All_1 : tab (f_runes_All_1 nm) = some (C_runes_All_1 nm) := by kernel_rfl
theorem tab_runes_first : tab (f_runes_first nm) = some (C_runes_first nm) := by kernel_rfl
theorem tab_internal_stringslite_IndexByte : tab (f_internal_stringslite_IndexByte nm) = some (C_internal_stringslite_IndexByte nm) := by kernel_rfl
theorem tab_internal_stringslite_HasPrefix : tab (f_internal_stringslite_HasPrefix nm) = some (C_internal_stringslite_HasPrefix nm) := by kernel_rfl
theorem tab_floats_Parse : tab (f_floats_Parse nm) = some (C_floats_Parse nm) := by kernel_rfl
theorem tab_runes_sign : tab (f_runes_sign nm) = some (C_runes_sign nm) := by kernel_rfl
theorem tab_strings_CutPrefix : tab (f_strings_CutPrefix nm) = some (C_strings_CutPrefix nm) := by kernel_rfl
theorem tab_internal_stringslite_CutPrefix : tab (f_internal_stringslite_CutPrefix nm) = some (C_internal_stringslite_CutPrefix nm) := by kernel_rfl
end Go.Proofs.Y4
