/- The seat's table: the numbers of functions and types, and that the templates are the program's functions. Printed by tm.py. -/
import Derived.Test.YtcmdnlpkplaapaaGreatProg
import Derived.Test.YtcmdnlpkplaapaaGreatM27
import Derived.Test.YtcmdnlpkplaapaaGreatM31
import Derived.Test.YtcmdnlpkplaapaaGreatM26
import Derived.Test.YtcmdnlpkplaapaaGreatM35
import Derived.Test.YtcmdnlpkplaapaaGreatM34
import Derived.Test.YtcmdnlpkplaapaaGreatEngFlaw01
import Derived.Test.YtcmdnlpkplaapaaGreatM36
import Derived.KernelRfl
set_option linter.unusedVariables false
set_option maxRecDepth 100000
namespace Go.Proofs.Y5z
open Go Go.Proofs.Eng

def nmF : List Nat := [0,1,2,0,0,0,0,0,0,0,0,65,79,61,0,0,95,0,80,96,97,77,101,94,105,106,107,108,109,110,111,112,113,114,115,116,117,118,119,120,123,0,0,0,0,0,0,0,0,0,0,0,0,0,0,52,0,0,71,60,47,0,0,0,0,0,0,0,0,0,0,75,76,0,63,83,68,69,70,0,37,0,0,0,85,86,87,88,89,90,82,91,92,93,0,0,0,0,0,0,0,0,78,40,0,0,0,98,99,100,0,0,0,102,103,48,0,0,0,0,0,0,0,0,0,0,0,104,72,0,0,0,0,0,0,0,122,0,0,0,0,0,0,0,0,0,0,0,0,0,0,0,56,73,0,0,0,0,0,0,0,0,0,0,0,0,0,0,0,0,0,0,84,0,0,0,0,0,0,0,121,0,0,7,0,0,0,0,0,0,0,0,0,0,0,15,17,0,0,0,0,0,0,0,0,0,0,0,23,24,25,26,27,28,0,0,0,0,36,0,0,0,0,0,16,0,0,44,45,46,49,50,51,53,0,0,58,35,59,0,0,62,64,66,67,74,0,57,0,81,0,0,0,0,0,0,0,0,0,0,0,0,0,0,0,0,0,0,0,0,0,0,0,0,0,0,0,0,0,0,0,0,0,0,0,0,0,0,0,0,0,0,0,0,0,0,0,0,0,0,0,0,0,0,0,0,0,0,0,0,0,0,0,0,0,0,0,0,0,0,0,0,0,0,0,0,0,0,0,0,0,0,0,0,0,0,0,0,0,0,0,0,0,0,0,0,0,0,0,0,0,0,0,0,0,0,0,0,0,0,0,0,0,0,0,0,0,0,0,0,0,0,0,3,4,5,6,8,9,10,11,12,13,14,18,19,20,21,22,29,30,31,32,33,34,38,39,41,42,43,54,55]
def nmT : List Nat := [3,4,5,21,89,32,0,9,0,86,91,0,0,0,0,46,0,0,58,0,26,0,111,0,53,48,0,0,51,71,0,78,0,0,0,0,0,0,0,0,0,0,0,0,0,0,0,67,0,0,0,0,0,0,0,0,0,0,0,0,0,0,0,0,0,0]
def nm (i : Nat) : Nat := if i < 100000 then nmF.getD i 0 else nmT.getD (i - 100000) 0

def tab : Tab := fun f => match f with
 | 3 => some (C_law04_TreeChecks nm)
 | 4 => some (C_law04_lives nm)
 | 5 => some (C_law04_Few nm)
 | 6 => some (C_ref04_Right nm)
 | 7 => some (C_tree_Check nm)
 | 8 => some (C_tree_Depth nm)
 | 9 => some (C_law04_all nm)
 | 10 => some (C_tree_Walk nm)
 | 11 => some (C_tree_Same nm)
 | 12 => some (C_ref04_Walk nm)
 | 13 => some (C_ref04_Depth nm)
 | 14 => some (C_law04_same nm)
 | 15 => some (C_tree_New nm)
 | 16 => some (C_p_tree_Builder_Term nm)
 | 17 => some (C_p_tree_Builder_Tree nm)
 | 18 => some (C_ref04_term nm)
 | 19 => some (C_ref04_below nm)
 | 20 => some (C_ref04_typ nm)
 | 21 => some (C_ref04_Alias nm)
 | 22 => some (C_ref04_uses nm)
 | 23 => some (C_tree_term nm)
 | 24 => some (C_tree_uses_note nm)
 | 25 => some (C_tree_typ nm)
 | 26 => some (C_tree_alias nm)
 | 27 => some (C_tree_Check_1 nm)
 | 28 => some (C_slices_ContainsFunc_tree_uses_int nm)
 | 29 => some (C_tree_Walk_1 nm)
 | 30 => some (C_slices_Backward_sl_int_int nm)
 | 31 => some (C_tree_two_types nm)
 | 32 => some (C_tree_two_terms nm)
 | 33 => some (C_ref04_depthTerm nm)
 | 34 => some (C_ref04_depthType nm)
 | 35 => some (C_tree_cloneTerm nm)
 | 36 => some (C_tree_Clone nm)
 | 37 => some (C_ref04_Name nm)
 | 38 => some (C_ref04_text nm)
 | 39 => some (C_ref02_Parts nm)
 | 40 => some (C_ref04_Tag nm)
 | 41 => some (C_ref04_op nm)
 | 42 => some (C_ref04_names nm)
 | 43 => some (C_ref04_once nm)
 | 44 => some (C_tree_shapes nm)
 | 45 => some (C_tree_named nm)
 | 46 => some (C_tree_text nm)
 | 47 => some (C_lexer_IsName nm)
 | 48 => some (C_floats_Of nm)
 | 49 => some (C_tree_once nm)
 | 50 => some (C_tree_all nm)
 | 51 => some (C_tree_tag nm)
 | 52 => some (C_lexer_Lex nm)
 | 53 => some (C_slices_IndexFunc_tree_uses_int nm)
 | 54 => some (C_slices_Backward_sl_int_int_1 nm)
 | 55 => some (C_slices_Equal_sl_string_string nm)
 | 56 => some (C_slices_Clone_sl_string_string nm)
 | 57 => some (C_slices_Clone_sl_int_int nm)
 | 58 => some (C_slices_Clone_sl_api_Alias_api_Alias nm)
 | 59 => some (C_tree_cloneType nm)
 | 60 => some (C_ref03_IsWord nm)
 | 61 => some (C_ref01_Signs nm)
 | 62 => some (C_tree_halves nm)
 | 63 => some (C_slices_Contains_sl_string_string nm)
 | 64 => some (C_tree_ops nm)
 | 65 => some (C_runes_Bad nm)
 | 66 => some (C_slices_ContainsFunc_sl_byte_byte nm)
 | 67 => some (C_tree_text_1 nm)
 | 68 => some (C_lexer_low nm)
 | 69 => some (C_lexer_run nm)
 | 70 => some (C_lexer_inName nm)
 | 71 => some (C_lexer_IsWord nm)
 | 73 => some (C_slices_ContainsFunc_sl_string_string nm)
 | 74 => some (C_tree_all_1 nm)
 | 75 => some (C_lexer_blank nm)
 | 76 => some (C_lexer_one nm)
 | 77 => some (C_ref01_First nm)
 | 78 => some (C_slices_Index_sl_string_string nm)
 | 79 => some (C_runes_All nm)
 | 80 => some (C_runes_size nm)
 | 81 => some (C_slices_IndexFunc_sl_byte_byte nm)
 | 82 => some (C_lexer_digit nm)
 | 83 => some (C_lexer_words nm)
 | 84 => some (C_slices_IndexFunc_sl_string_string nm)
 | 85 => some (C_strings_IndexByte nm)
 | 86 => some (C_strings_HasPrefix nm)
 | 87 => some (C_lexer_blank_1 nm)
 | 88 => some (C_lexer_float nm)
 | 89 => some (C_lexer_high nm)
 | 90 => some (C_lexer_inAlias nm)
 | 91 => some (C_lexer_number nm)
 | 92 => some (C_lexer_text nm)
 | 93 => some (C_lexer_signs nm)
 | 94 => some (C_ref01_value nm)
 | 95 => some (C_ref01_Encode nm)
 | 96 => some (C_runes_All_1 nm)
 | 97 => some (C_runes_first nm)
 | 98 => some (C_internal_stringslite_IndexByte nm)
 | 99 => some (C_internal_stringslite_HasPrefix nm)
 | 100 => some (C_floats_Parse nm)
 | 101 => some (C_runes_sign nm)
 | 103 => some (C_strings_CutPrefix nm)
 | 104 => some (C_internal_stringslite_CutPrefix nm)
 | _ => none

theorem tk {A af : AFunc} {f : FuncId} {fn : Func} (h : some A = some af) (h1 : Tryz.prog.funcs[f]? = some fn) (h2 : pFunc Tryz.prog fn = some { A with frz := false }) : ∃ fn,Tryz.prog.funcs[f]? = some fn /\ pFunc Tryz.prog fn = some { af with frz := false } := by
 cases h; exact ⟨fn,h1,h2⟩
theorem tab_ok : TOK Tryz.prog tab := by
 intro f af h
 unfold tab at h
 split at h
 ·exact tk h Tryz.func3 (by kernel_rfl)
 ·exact tk h Tryz.func4 (by kernel_rfl)
 ·exact tk h Tryz.func5 (by kernel_rfl)
 ·exact tk h Tryz.func6 (by kernel_rfl)
 ·exact tk h Tryz.func7 (by kernel_rfl)
 ·exact tk h Tryz.func8 (by kernel_rfl)
 ·exact tk h Tryz.func9 (by kernel_rfl)
 ·exact tk h Tryz.func10 (by kernel_rfl)
 ·exact tk h Tryz.func11 (by kernel_rfl)
 ·exact tk h Tryz.func12 (by kernel_rfl)
 ·exact tk h Tryz.func13 (by kernel_rfl)
 ·exact tk h Tryz.func14 (by kernel_rfl)
 ·exact tk h Tryz.func15 (by kernel_rfl)
 ·exact tk h Tryz.func16 (by kernel_rfl)
 ·exact tk h Tryz.func17 (by kernel_rfl)
 ·exact tk h Tryz.func18 (by kernel_rfl)
 ·exact tk h Tryz.func19 (by kernel_rfl)
 ·exact tk h Tryz.func20 (by kernel_rfl)
 ·exact tk h Tryz.func21 (by kernel_rfl)
 ·exact tk h Tryz.func22 (by kernel_rfl)
 ·exact tk h Tryz.func23 (by kernel_rfl)
 ·exact tk h Tryz.func24 (by kernel_rfl)
 ·exact tk h Tryz.func25 (by kernel_rfl)
 ·exact tk h Tryz.func26 (by kernel_rfl)
 ·exact tk h Tryz.func27 (by kernel_rfl)
 ·exact tk h Tryz.func28 (by kernel_rfl)
 ·exact tk h Tryz.func29 (by kernel_rfl)
 ·exact tk h Tryz.func30 (by kernel_rfl)
 ·exact tk h Tryz.func31 (by kernel_rfl)
 ·exact tk h Tryz.func32 (by kernel_rfl)
 ·exact tk h Tryz.func33 (by kernel_rfl)
 ·exact tk h Tryz.func34 (by kernel_rfl)
 ·exact tk h Tryz.func35 (by kernel_rfl)
 ·exact tk h Tryz.func36 (by kernel_rfl)
 ·exact tk h Tryz.func37 (by kernel_rfl)
 ·exact tk h Tryz.func38 (by kernel_rfl)
 ·exact tk h Tryz.func39 (by kernel_rfl)
 ·exact tk h Tryz.func40 (by kernel_rfl)
 ·exact tk h Tryz.func41 (by kernel_rfl)
 ·exact tk h Tryz.func42 (by kernel_rfl)
 ·exact tk h Tryz.func43 (by kernel_rfl)
 ·exact tk h Tryz.func44 (by kernel_rfl)
 ·exact tk h Tryz.func45 (by kernel_rfl)
 ·exact tk h Tryz.func46 (by kernel_rfl)
 ·exact tk h Tryz.func47 (by kernel_rfl)
 ·exact tk h Tryz.func48 (by kernel_rfl)
 ·exact tk h Tryz.func49 (by kernel_rfl)
 ·exact tk h Tryz.func50 (by kernel_rfl)
 ·exact tk h Tryz.func51 (by kernel_rfl)
 ·exact tk h Tryz.func52 (by kernel_rfl)
 ·exact tk h Tryz.func53 (by kernel_rfl)
 ·exact tk h Tryz.func54 (by kernel_rfl)
 ·exact tk h Tryz.func55 (by kernel_rfl)
 ·exact tk h Tryz.func56 (by kernel_rfl)
 ·exact tk h Tryz.func57 (by kernel_rfl)
 ·exact tk h Tryz.func58 (by kernel_rfl)
 ·exact tk h Tryz.func59 (by kernel_rfl)
 ·exact tk h Tryz.func60 (by kernel_rfl)
 ·exact tk h Tryz.func61 (by kernel_rfl)
 ·exact tk h Tryz.func62 (by kernel_rfl)
 ·exact tk h Tryz.func63 (by kernel_rfl)
 ·exact tk h Tryz.func64 (by kernel_rfl)
 ·exact tk h Tryz.func65 (by kernel_rfl)
 ·exact tk h Tryz.func66 (by kernel_rfl)
 ·exact tk h Tryz.func67 (by kernel_rfl)
 ·exact tk h Tryz.func68 (by kernel_rfl)
 ·exact tk h Tryz.func69 (by kernel_rfl)
 ·exact tk h Tryz.func70 (by kernel_rfl)
 ·exact tk h Tryz.func71 (by kernel_rfl)
 ·exact tk h Tryz.func73 (by kernel_rfl)
 ·exact tk h Tryz.func74 (by kernel_rfl)
 ·exact tk h Tryz.func75 (by kernel_rfl)
 ·exact tk h Tryz.func76 (by kernel_rfl)
 ·exact tk h Tryz.func77 (by kernel_rfl)
 ·exact tk h Tryz.func78 (by kernel_rfl)
 ·exact tk h Tryz.func79 (by kernel_rfl)
 ·exact tk h Tryz.func80 (by kernel_rfl)
 ·exact tk h Tryz.func81 (by kernel_rfl)
 ·exact tk h Tryz.func82 (by kernel_rfl)
 ·exact tk h Tryz.func83 (by kernel_rfl)
 ·exact tk h Tryz.func84 (by kernel_rfl)
 ·exact tk h Tryz.func85 (by kernel_rfl)
 ·exact tk h Tryz.func86 (by kernel_rfl)
 ·exact tk h Tryz.func87 (by kernel_rfl)
 ·exact tk h Tryz.func88 (by kernel_rfl)
 ·exact tk h Tryz.func89 (by kernel_rfl)
 ·exact tk h Tryz.func90 (by kernel_rfl)
 ·exact tk h Tryz.func91 (by kernel_rfl)
 ·exact tk h Tryz.func92 (by kernel_rfl)
 ·exact tk h Tryz.func93 (by kernel_rfl)
 ·exact tk h Tryz.func94 (by kernel_rfl)
 ·exact tk h Tryz.func95 (by kernel_rfl)
 ·exact tk h Tryz.func96 (by kernel_rfl)
 ·exact tk h Tryz.func97 (by kernel_rfl)
 ·exact tk h Tryz.func98 (by kernel_rfl)
 ·exact tk h Tryz.func99 (by kernel_rfl)
 ·exact tk h Tryz.func100 (by kernel_rfl)
 ·exact tk h Tryz.func101 (by kernel_rfl)
 ·exact tk h Tryz.func103 (by kernel_rfl)
 ·exact tk h Tryz.func104 (by kernel_rfl)
 ·simp at h

theorem tab_law04_TreeChecks : tab (f_law04_TreeChecks nm) = some (C_law04_TreeChecks nm) := by kernel_rfl
theorem tab_law04_Few : tab (f_law04_Few nm) = some (C_law04_Few nm) := by kernel_rfl
theorem tab_ref04_Right : tab (f_ref04_Right nm) = some (C_ref04_Right nm) := by kernel_rfl
theorem tab_tree_Check : tab (f_tree_Check nm) = some (C_tree_Check nm) := by kernel_rfl
theorem tab_tree_Depth : tab (f_tree_Depth nm) = some (C_tree_Depth nm) := by kernel_rfl
theorem tab_law04_all : tab (f_law04_all nm) = some (C_law04_all nm) := by kernel_rfl
theorem tab_tree_Walk : tab (f_tree_Walk nm) = some (C_tree_Walk nm) := by kernel_rfl
theorem tab_tree_Same : tab (f_tree_Same nm) = some (C_tree_Same nm) := by kernel_rfl
theorem tab_ref04_Walk : tab (f_ref04_Walk nm) = some (C_ref04_Walk nm) := by kernel_rfl
theorem tab_ref04_Depth : tab (f_ref04_Depth nm) = some (C_ref04_Depth nm) := by kernel_rfl
theorem tab_law04_same : tab (f_law04_same nm) = some (C_law04_same nm) := by kernel_rfl
theorem tab_ref04_term : tab (f_ref04_term nm) = some (C_ref04_term nm) := by kernel_rfl
theorem tab_ref04_below : tab (f_ref04_below nm) = some (C_ref04_below nm) := by kernel_rfl
theorem tab_ref04_typ : tab (f_ref04_typ nm) = some (C_ref04_typ nm) := by kernel_rfl
theorem tab_ref04_Alias : tab (f_ref04_Alias nm) = some (C_ref04_Alias nm) := by kernel_rfl
theorem tab_ref04_uses : tab (f_ref04_uses nm) = some (C_ref04_uses nm) := by kernel_rfl
theorem tab_tree_term : tab (f_tree_term nm) = some (C_tree_term nm) := by kernel_rfl
theorem tab_tree_uses_note : tab (f_tree_uses_note nm) = some (C_tree_uses_note nm) := by kernel_rfl
theorem tab_tree_typ : tab (f_tree_typ nm) = some (C_tree_typ nm) := by kernel_rfl
theorem tab_tree_alias : tab (f_tree_alias nm) = some (C_tree_alias nm) := by kernel_rfl
theorem tab_tree_Check_1 : tab (f_tree_Check_1 nm) = some (C_tree_Check_1 nm) := by kernel_rfl
theorem tab_slices_ContainsFunc_tree_uses_int : tab (f_slices_ContainsFunc_tree_uses_int nm) = some (C_slices_ContainsFunc_tree_uses_int nm) := by kernel_rfl
theorem tab_tree_Walk_1 : tab (f_tree_Walk_1 nm) = some (C_tree_Walk_1 nm) := by kernel_rfl
theorem tab_slices_Backward_sl_int_int : tab (f_slices_Backward_sl_int_int nm) = some (C_slices_Backward_sl_int_int nm) := by kernel_rfl
theorem tab_tree_two_types : tab (f_tree_two_types nm) = some (C_tree_two_types nm) := by kernel_rfl
theorem tab_tree_two_terms : tab (f_tree_two_terms nm) = some (C_tree_two_terms nm) := by kernel_rfl
theorem tab_ref04_depthTerm : tab (f_ref04_depthTerm nm) = some (C_ref04_depthTerm nm) := by kernel_rfl
theorem tab_ref04_depthType : tab (f_ref04_depthType nm) = some (C_ref04_depthType nm) := by kernel_rfl
theorem tab_ref04_Name : tab (f_ref04_Name nm) = some (C_ref04_Name nm) := by kernel_rfl
theorem tab_ref04_text : tab (f_ref04_text nm) = some (C_ref04_text nm) := by kernel_rfl
theorem tab_ref02_Parts : tab (f_ref02_Parts nm) = some (C_ref02_Parts nm) := by kernel_rfl
theorem tab_ref04_Tag : tab (f_ref04_Tag nm) = some (C_ref04_Tag nm) := by kernel_rfl
theorem tab_ref04_op : tab (f_ref04_op nm) = some (C_ref04_op nm) := by kernel_rfl
theorem tab_ref04_names : tab (f_ref04_names nm) = some (C_ref04_names nm) := by kernel_rfl
theorem tab_ref04_once : tab (f_ref04_once nm) = some (C_ref04_once nm) := by kernel_rfl
theorem tab_tree_shapes : tab (f_tree_shapes nm) = some (C_tree_shapes nm) := by kernel_rfl
theorem tab_tree_named : tab (f_tree_named nm) = some (C_tree_named nm) := by kernel_rfl
theorem tab_tree_text : tab (f_tree_text nm) = some (C_tree_text nm) := by kernel_rfl
theorem tab_lexer_IsName : tab (f_lexer_IsName nm) = some (C_lexer_IsName nm) := by kernel_rfl
theorem tab_floats_Of : tab (f_floats_Of nm) = some (C_floats_Of nm) := by kernel_rfl
theorem tab_tree_once : tab (f_tree_once nm) = some (C_tree_once nm) := by kernel_rfl
theorem tab_tree_all : tab (f_tree_all nm) = some (C_tree_all nm) := by kernel_rfl
theorem tab_tree_tag : tab (f_tree_tag nm) = some (C_tree_tag nm) := by kernel_rfl
theorem tab_lexer_Lex : tab (f_lexer_Lex nm) = some (C_lexer_Lex nm) := by kernel_rfl
theorem tab_slices_IndexFunc_tree_uses_int : tab (f_slices_IndexFunc_tree_uses_int nm) = some (C_slices_IndexFunc_tree_uses_int nm) := by kernel_rfl
theorem tab_slices_Backward_sl_int_int_1 : tab (f_slices_Backward_sl_int_int_1 nm) = some (C_slices_Backward_sl_int_int_1 nm) := by kernel_rfl
theorem tab_slices_Equal_sl_string_string : tab (f_slices_Equal_sl_string_string nm) = some (C_slices_Equal_sl_string_string nm) := by kernel_rfl
theorem tab_ref03_IsWord : tab (f_ref03_IsWord nm) = some (C_ref03_IsWord nm) := by kernel_rfl
theorem tab_ref01_Signs : tab (f_ref01_Signs nm) = some (C_ref01_Signs nm) := by kernel_rfl
theorem tab_tree_halves : tab (f_tree_halves nm) = some (C_tree_halves nm) := by kernel_rfl
theorem tab_slices_Contains_sl_string_string : tab (f_slices_Contains_sl_string_string nm) = some (C_slices_Contains_sl_string_string nm) := by kernel_rfl
theorem tab_tree_ops : tab (f_tree_ops nm) = some (C_tree_ops nm) := by kernel_rfl
theorem tab_runes_Bad : tab (f_runes_Bad nm) = some (C_runes_Bad nm) := by kernel_rfl
theorem tab_slices_ContainsFunc_sl_byte_byte : tab (f_slices_ContainsFunc_sl_byte_byte nm) = some (C_slices_ContainsFunc_sl_byte_byte nm) := by kernel_rfl
theorem tab_tree_text_1 : tab (f_tree_text_1 nm) = some (C_tree_text_1 nm) := by kernel_rfl
theorem tab_lexer_low : tab (f_lexer_low nm) = some (C_lexer_low nm) := by kernel_rfl
theorem tab_lexer_run : tab (f_lexer_run nm) = some (C_lexer_run nm) := by kernel_rfl
theorem tab_lexer_inName : tab (f_lexer_inName nm) = some (C_lexer_inName nm) := by kernel_rfl
theorem tab_lexer_IsWord : tab (f_lexer_IsWord nm) = some (C_lexer_IsWord nm) := by kernel_rfl
theorem tab_slices_ContainsFunc_sl_string_string : tab (f_slices_ContainsFunc_sl_string_string nm) = some (C_slices_ContainsFunc_sl_string_string nm) := by kernel_rfl
theorem tab_tree_all_1 : tab (f_tree_all_1 nm) = some (C_tree_all_1 nm) := by kernel_rfl
theorem tab_lexer_blank : tab (f_lexer_blank nm) = some (C_lexer_blank nm) := by kernel_rfl
theorem tab_lexer_one : tab (f_lexer_one nm) = some (C_lexer_one nm) := by kernel_rfl
theorem tab_ref01_First : tab (f_ref01_First nm) = some (C_ref01_First nm) := by kernel_rfl
theorem tab_slices_Index_sl_string_string : tab (f_slices_Index_sl_string_string nm) = some (C_slices_Index_sl_string_string nm) := by kernel_rfl
theorem tab_runes_All : tab (f_runes_All nm) = some (C_runes_All nm) := by kernel_rfl
theorem tab_runes_size : tab (f_runes_size nm) = some (C_runes_size nm) := by kernel_rfl
theorem tab_slices_IndexFunc_sl_byte_byte : tab (f_slices_IndexFunc_sl_byte_byte nm) = some (C_slices_IndexFunc_sl_byte_byte nm) := by kernel_rfl
theorem tab_lexer_digit : tab (f_lexer_digit nm) = some (C_lexer_digit nm) := by kernel_rfl
theorem tab_lexer_words : tab (f_lexer_words nm) = some (C_lexer_words nm) := by kernel_rfl
theorem tab_slices_IndexFunc_sl_string_string : tab (f_slices_IndexFunc_sl_string_string nm) = some (C_slices_IndexFunc_sl_string_string nm) := by kernel_rfl
theorem tab_strings_IndexByte : tab (f_strings_IndexByte nm) = some (C_strings_IndexByte nm) := by kernel_rfl
theorem tab_strings_HasPrefix : tab (f_strings_HasPrefix nm) = some (C_strings_HasPrefix nm) := by kernel_rfl
theorem tab_lexer_blank_1 : tab (f_lexer_blank_1 nm) = some (C_lexer_blank_1 nm) := by kernel_rfl
theorem tab_lexer_float : tab (f_lexer_float nm) = some (C_lexer_float nm) := by kernel_rfl
theorem tab_lexer_high : tab (f_lexer_high nm) = some (C_lexer_high nm) := by kernel_rfl
theorem tab_lexer_inAlias : tab (f_lexer_inAlias nm) = some (C_lexer_inAlias nm) := by kernel_rfl
theorem tab_lexer_number : tab (f_lexer_number nm) = some (C_lexer_number nm) := by kernel_rfl
theorem tab_lexer_text : tab (f_lexer_text nm) = some (C_lexer_text nm) := by kernel_rfl
theorem tab_lexer_signs : tab (f_lexer_signs nm) = some (C_lexer_signs nm) := by kernel_rfl
theorem tab_ref01_value : tab (f_ref01_value nm) = some (C_ref01_value nm) := by kernel_rfl
theorem tab_ref01_Encode : tab (f_ref01_Encode nm) = some (C_ref01_Encode nm) := by kernel_rfl
theorem tab_runes_All_1 : tab (f_runes_All_1 nm) = some (C_runes_All_1 nm) := by kernel_rfl
theorem tab_runes_first : tab (f_runes_first nm) = some (C_runes_first nm) := by kernel_rfl
theorem tab_internal_stringslite_IndexByte : tab (f_internal_stringslite_IndexByte nm) = some (C_internal_stringslite_IndexByte nm) := by kernel_rfl
theorem tab_internal_stringslite_HasPrefix : tab (f_internal_stringslite_HasPrefix nm) = some (C_internal_stringslite_HasPrefix nm) := by kernel_rfl
theorem tab_floats_Parse : tab (f_floats_Parse nm) = some (C_floats_Parse nm) := by kernel_rfl
theorem tab_runes_sign : tab (f_runes_sign nm) = some (C_runes_sign nm) := by kernel_rfl
theorem tab_strings_CutPrefix : tab (f_strings_CutPrefix nm) = some (C_strings_CutPrefix nm) := by kernel_rfl
theorem tab_internal_stringslite_CutPrefix : tab (f_internal_stringslite_CutPrefix nm) = some (C_internal_stringslite_CutPrefix nm) := by kernel_rfl
end Go.Proofs.Y5z
