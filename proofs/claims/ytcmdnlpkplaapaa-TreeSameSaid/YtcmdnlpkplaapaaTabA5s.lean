/- The seat's table: the numbers of functions and types, and that the templates are the program's functions. Printed by tm.py. -/
import Derived.Test.YtcmdnlpkplaapaaProg
import Derived.Test.YtcmdnlpkplaapaaM27
import Derived.Test.YtcmdnlpkplaapaaM32
import Derived.Test.YtcmdnlpkplaapaaM26
import Derived.Test.YtcmdnlpkplaapaaM35
import Derived.Test.YtcmdnlpkplaapaaEngFlaw01
import Derived.Test.YtcmdnlpkplaapaaM36
import Derived.KernelRfl
set_option linter.unusedVariables false
set_option maxRecDepth 100000
namespace Go.Proofs.Y5s
open Go Go.Proofs.Eng

def nmF : List Nat := [0,1,2,0,0,0,0,0,0,0,0,69,83,81,0,0,105,0,84,99,100,98,106,104,110,111,112,113,114,115,116,117,118,119,120,121,122,123,124,125,127,0,0,0,0,0,0,0,0,0,0,0,0,0,0,56,0,0,75,33,51,0,0,0,0,0,0,0,0,0,0,79,80,0,67,87,72,73,74,0,14,0,0,0,89,90,91,92,93,94,86,95,96,97,0,0,0,0,0,0,0,0,82,32,0,0,0,101,102,103,0,0,0,107,108,52,0,0,0,0,0,0,0,0,0,0,0,109,76,0,0,0,0,0,0,0,126,0,0,0,0,0,0,0,0,0,0,0,0,0,0,0,46,77,0,0,0,0,0,0,0,0,0,0,0,0,0,0,0,0,0,0,88,0,0,0,0,0,0,0,23,0,0,13,0,0,0,0,0,0,0,0,0,0,0,8,11,0,0,0,0,0,0,0,0,0,0,0,26,27,28,29,30,31,0,0,0,0,22,0,0,0,0,10,9,0,0,48,49,50,53,54,55,57,0,0,45,24,25,0,0,66,68,70,71,78,0,47,0,85,0,0,0,0,0,0,0,0,0,0,0,0,0,0,0,0,0,0,0,0,0,0,0,0,0,0,0,0,0,0,0,0,0,0,0,0,0,0,0,0,0,0,0,0,0,0,0,0,0,0,0,0,0,0,0,0,0,0,0,0,0,0,0,0,0,0,0,0,0,0,0,0,0,0,0,0,0,0,0,0,0,0,0,0,0,0,0,0,0,0,0,0,0,0,0,0,0,0,0,0,0,0,0,0,0,0,0,0,0,0,0,0,0,0,0,0,0,0,0,0,0,0,0,0,7,12,21,15,17,18,19,0,0,16,40,41,42,43,44,34,35,36,37,0,0,61,62,63,64,65,58,59,0,0,0,0,0,0,0,0,0,0,0,0,20,0,39,0,0,38,0,0,0,0,0,0,0,0,0,0,0,0,0,60,0,0,0,0,0,0,0,0,0,0,0,0,0,0,0,0,0,0,0,0,0,0,0,0,0,0,0,0,0,0,0,0,0,0,0,0,0,0,0,0,0,0,0,0,0,0,0,0,0,0,0,0,0,0,0,0,0,0,0,0,0,0,0,0,0,0,0,0,0,0,0,0,0,0,0,0,0,0,0,0,0,0,0,0,0,0,0,0,0,0,0,0,0,0,0,0,0,0,0,0,0,0,0,0,0,0,0,0,0,0,0,0,0,0,0,0,0,0,0,0,0,0,0,0,0,0,0,0,0,3,4,5,6]
def nmT : List Nat := [3,4,5,21,93,30,0,9,0,90,95,0,0,0,0,29,0,0,45,0,40,0,110,0,57,32,0,0,35,60,0,81,0,0,0,0,0,0,0,0,0,0,0,0,0,0,0,72,0,0,0,0,0,0,0,0,0,0,0,0,0,0,0,0,0,0]
def nm (i : Nat) : Nat := if i < 100000 then nmF.getD i 0 else nmT.getD (i - 100000) 0

def tab : Tab := fun f => match f with
 | 5 => some (C_law04_TreeSame nm)
 | 7 => some (C_law04_lives nm)
 | 8 => some (C_tree_New nm)
 | 9 => some (C_p_tree_Builder_Term nm)
 | 10 => some (C_p_tree_Builder_Type nm)
 | 11 => some (C_p_tree_Builder_Tree nm)
 | 12 => some (C_law04_Few nm)
 | 13 => some (C_tree_Check nm)
 | 14 => some (C_ref04_Name nm)
 | 15 => some (C_tree_Depth nm)
 | 19 => some (C_tree_Same nm)
 | 20 => some (C_ref04_Same nm)
 | 21 => some (C_ref04_Right nm)
 | 22 => some (C_tree_Clone nm)
 | 24 => some (C_tree_cloneTerm nm)
 | 25 => some (C_tree_cloneType nm)
 | 26 => some (C_tree_term nm)
 | 27 => some (C_tree_uses_note nm)
 | 28 => some (C_tree_typ nm)
 | 29 => some (C_tree_alias nm)
 | 30 => some (C_tree_Check_1 nm)
 | 31 => some (C_slices_ContainsFunc_tree_uses_int nm)
 | 32 => some (C_ref04_Tag nm)
 | 33 => some (C_ref03_IsWord nm)
 | 36 => some (C_tree_two_types nm)
 | 37 => some (C_tree_two_terms nm)
 | 38 => some (C_ref04_SameType nm)
 | 39 => some (C_ref04_SameTerm nm)
 | 40 => some (C_ref04_term nm)
 | 41 => some (C_ref04_below nm)
 | 42 => some (C_ref04_typ nm)
 | 43 => some (C_ref04_Alias nm)
 | 44 => some (C_ref04_uses nm)
 | 45 => some (C_slices_Clone_sl_api_Alias_api_Alias nm)
 | 46 => some (C_slices_Clone_sl_string_string nm)
 | 47 => some (C_slices_Clone_sl_int_int nm)
 | 48 => some (C_tree_shapes nm)
 | 49 => some (C_tree_named nm)
 | 50 => some (C_tree_text nm)
 | 51 => some (C_lexer_IsName nm)
 | 52 => some (C_floats_Of nm)
 | 53 => some (C_tree_once nm)
 | 54 => some (C_tree_all nm)
 | 55 => some (C_tree_tag nm)
 | 56 => some (C_lexer_Lex nm)
 | 57 => some (C_slices_IndexFunc_tree_uses_int nm)
 | 59 => some (C_slices_Equal_sl_string_string nm)
 | 60 => some (C_ref04_same nm)
 | 61 => some (C_ref04_text nm)
 | 62 => some (C_ref02_Parts nm)
 | 63 => some (C_ref04_op nm)
 | 64 => some (C_ref04_names nm)
 | 65 => some (C_ref04_once nm)
 | 66 => some (C_tree_halves nm)
 | 67 => some (C_slices_Contains_sl_string_string nm)
 | 68 => some (C_tree_ops nm)
 | 69 => some (C_runes_Bad nm)
 | 70 => some (C_slices_ContainsFunc_sl_byte_byte nm)
 | 71 => some (C_tree_text_1 nm)
 | 72 => some (C_lexer_low nm)
 | 73 => some (C_lexer_run nm)
 | 74 => some (C_lexer_inName nm)
 | 75 => some (C_lexer_IsWord nm)
 | 77 => some (C_slices_ContainsFunc_sl_string_string nm)
 | 78 => some (C_tree_all_1 nm)
 | 79 => some (C_lexer_blank nm)
 | 80 => some (C_lexer_one nm)
 | 81 => some (C_ref01_Signs nm)
 | 82 => some (C_slices_Index_sl_string_string nm)
 | 83 => some (C_runes_All nm)
 | 84 => some (C_runes_size nm)
 | 85 => some (C_slices_IndexFunc_sl_byte_byte nm)
 | 86 => some (C_lexer_digit nm)
 | 87 => some (C_lexer_words nm)
 | 88 => some (C_slices_IndexFunc_sl_string_string nm)
 | 89 => some (C_strings_IndexByte nm)
 | 90 => some (C_strings_HasPrefix nm)
 | 91 => some (C_lexer_blank_1 nm)
 | 92 => some (C_lexer_float nm)
 | 93 => some (C_lexer_high nm)
 | 94 => some (C_lexer_inAlias nm)
 | 95 => some (C_lexer_number nm)
 | 96 => some (C_lexer_text nm)
 | 97 => some (C_lexer_signs nm)
 | 98 => some (C_ref01_First nm)
 | 99 => some (C_runes_All_1 nm)
 | 100 => some (C_runes_first nm)
 | 101 => some (C_internal_stringslite_IndexByte nm)
 | 102 => some (C_internal_stringslite_HasPrefix nm)
 | 103 => some (C_floats_Parse nm)
 | 104 => some (C_ref01_value nm)
 | 105 => some (C_ref01_Encode nm)
 | 106 => some (C_runes_sign nm)
 | 108 => some (C_strings_CutPrefix nm)
 | 109 => some (C_internal_stringslite_CutPrefix nm)
 | _ => none

theorem tk {A af : AFunc} {f : FuncId} {fn : Func} (h : some A = some af) (h1 : Try.prog.funcs[f]? = some fn) (h2 : pFunc Try.prog fn = some { A with frz := false }) : ∃ fn,Try.prog.funcs[f]? = some fn /\ pFunc Try.prog fn = some { af with frz := false } := by
 cases h; exact ⟨fn,h1,h2⟩
theorem tab_ok : TOK Try.prog tab := by
 intro f af h
 unfold tab at h
 split at h
 ·exact tk h Try.func5 (by kernel_rfl)
 ·exact tk h Try.func7 (by kernel_rfl)
 ·exact tk h Try.func8 (by kernel_rfl)
 ·exact tk h Try.func9 (by kernel_rfl)
 ·exact tk h Try.func10 (by kernel_rfl)
 ·exact tk h Try.func11 (by kernel_rfl)
 ·exact tk h Try.func12 (by kernel_rfl)
 ·exact tk h Try.func13 (by kernel_rfl)
 ·exact tk h Try.func14 (by kernel_rfl)
 ·exact tk h Try.func15 (by kernel_rfl)
 ·exact tk h Try.func19 (by kernel_rfl)
 ·exact tk h Try.func20 (by kernel_rfl)
 ·exact tk h Try.func21 (by kernel_rfl)
 ·exact tk h Try.func22 (by kernel_rfl)
 ·exact tk h Try.func24 (by kernel_rfl)
 ·exact tk h Try.func25 (by kernel_rfl)
 ·exact tk h Try.func26 (by kernel_rfl)
 ·exact tk h Try.func27 (by kernel_rfl)
 ·exact tk h Try.func28 (by kernel_rfl)
 ·exact tk h Try.func29 (by kernel_rfl)
 ·exact tk h Try.func30 (by kernel_rfl)
 ·exact tk h Try.func31 (by kernel_rfl)
 ·exact tk h Try.func32 (by kernel_rfl)
 ·exact tk h Try.func33 (by kernel_rfl)
 ·exact tk h Try.func36 (by kernel_rfl)
 ·exact tk h Try.func37 (by kernel_rfl)
 ·exact tk h Try.func38 (by kernel_rfl)
 ·exact tk h Try.func39 (by kernel_rfl)
 ·exact tk h Try.func40 (by kernel_rfl)
 ·exact tk h Try.func41 (by kernel_rfl)
 ·exact tk h Try.func42 (by kernel_rfl)
 ·exact tk h Try.func43 (by kernel_rfl)
 ·exact tk h Try.func44 (by kernel_rfl)
 ·exact tk h Try.func45 (by kernel_rfl)
 ·exact tk h Try.func46 (by kernel_rfl)
 ·exact tk h Try.func47 (by kernel_rfl)
 ·exact tk h Try.func48 (by kernel_rfl)
 ·exact tk h Try.func49 (by kernel_rfl)
 ·exact tk h Try.func50 (by kernel_rfl)
 ·exact tk h Try.func51 (by kernel_rfl)
 ·exact tk h Try.func52 (by kernel_rfl)
 ·exact tk h Try.func53 (by kernel_rfl)
 ·exact tk h Try.func54 (by kernel_rfl)
 ·exact tk h Try.func55 (by kernel_rfl)
 ·exact tk h Try.func56 (by kernel_rfl)
 ·exact tk h Try.func57 (by kernel_rfl)
 ·exact tk h Try.func59 (by kernel_rfl)
 ·exact tk h Try.func60 (by kernel_rfl)
 ·exact tk h Try.func61 (by kernel_rfl)
 ·exact tk h Try.func62 (by kernel_rfl)
 ·exact tk h Try.func63 (by kernel_rfl)
 ·exact tk h Try.func64 (by kernel_rfl)
 ·exact tk h Try.func65 (by kernel_rfl)
 ·exact tk h Try.func66 (by kernel_rfl)
 ·exact tk h Try.func67 (by kernel_rfl)
 ·exact tk h Try.func68 (by kernel_rfl)
 ·exact tk h Try.func69 (by kernel_rfl)
 ·exact tk h Try.func70 (by kernel_rfl)
 ·exact tk h Try.func71 (by kernel_rfl)
 ·exact tk h Try.func72 (by kernel_rfl)
 ·exact tk h Try.func73 (by kernel_rfl)
 ·exact tk h Try.func74 (by kernel_rfl)
 ·exact tk h Try.func75 (by kernel_rfl)
 ·exact tk h Try.func77 (by kernel_rfl)
 ·exact tk h Try.func78 (by kernel_rfl)
 ·exact tk h Try.func79 (by kernel_rfl)
 ·exact tk h Try.func80 (by kernel_rfl)
 ·exact tk h Try.func81 (by kernel_rfl)
 ·exact tk h Try.func82 (by kernel_rfl)
 ·exact tk h Try.func83 (by kernel_rfl)
 ·exact tk h Try.func84 (by kernel_rfl)
 ·exact tk h Try.func85 (by kernel_rfl)
 ·exact tk h Try.func86 (by kernel_rfl)
 ·exact tk h Try.func87 (by kernel_rfl)
 ·exact tk h Try.func88 (by kernel_rfl)
 ·exact tk h Try.func89 (by kernel_rfl)
 ·exact tk h Try.func90 (by kernel_rfl)
 ·exact tk h Try.func91 (by kernel_rfl)
 ·exact tk h Try.func92 (by kernel_rfl)
 ·exact tk h Try.func93 (by kernel_rfl)
 ·exact tk h Try.func94 (by kernel_rfl)
 ·exact tk h Try.func95 (by kernel_rfl)
 ·exact tk h Try.func96 (by kernel_rfl)
 ·exact tk h Try.func97 (by kernel_rfl)
 ·exact tk h Try.func98 (by kernel_rfl)
 ·exact tk h Try.func99 (by kernel_rfl)
 ·exact tk h Try.func100 (by kernel_rfl)
 ·exact tk h Try.func101 (by kernel_rfl)
 ·exact tk h Try.func102 (by kernel_rfl)
 ·exact tk h Try.func103 (by kernel_rfl)
 ·exact tk h Try.func104 (by kernel_rfl)
 ·exact tk h Try.func105 (by kernel_rfl)
 ·exact tk h Try.func106 (by kernel_rfl)
 ·exact tk h Try.func108 (by kernel_rfl)
 ·exact tk h Try.func109 (by kernel_rfl)
 ·simp at h

theorem tab_law04_TreeSame : tab (f_law04_TreeSame nm) = some (C_law04_TreeSame nm) := by kernel_rfl
theorem tab_tree_New : tab (f_tree_New nm) = some (C_tree_New nm) := by kernel_rfl
theorem tab_p_tree_Builder_Term : tab (f_p_tree_Builder_Term nm) = some (C_p_tree_Builder_Term nm) := by kernel_rfl
theorem tab_p_tree_Builder_Type : tab (f_p_tree_Builder_Type nm) = some (C_p_tree_Builder_Type nm) := by kernel_rfl
theorem tab_p_tree_Builder_Tree : tab (f_p_tree_Builder_Tree nm) = some (C_p_tree_Builder_Tree nm) := by kernel_rfl
theorem tab_law04_Few : tab (f_law04_Few nm) = some (C_law04_Few nm) := by kernel_rfl
theorem tab_tree_Check : tab (f_tree_Check nm) = some (C_tree_Check nm) := by kernel_rfl
theorem tab_ref04_Name : tab (f_ref04_Name nm) = some (C_ref04_Name nm) := by kernel_rfl
theorem tab_tree_Same : tab (f_tree_Same nm) = some (C_tree_Same nm) := by kernel_rfl
theorem tab_ref04_Same : tab (f_ref04_Same nm) = some (C_ref04_Same nm) := by kernel_rfl
theorem tab_ref04_Right : tab (f_ref04_Right nm) = some (C_ref04_Right nm) := by kernel_rfl
theorem tab_tree_Clone : tab (f_tree_Clone nm) = some (C_tree_Clone nm) := by kernel_rfl
theorem tab_tree_cloneTerm : tab (f_tree_cloneTerm nm) = some (C_tree_cloneTerm nm) := by kernel_rfl
theorem tab_tree_cloneType : tab (f_tree_cloneType nm) = some (C_tree_cloneType nm) := by kernel_rfl
theorem tab_tree_term : tab (f_tree_term nm) = some (C_tree_term nm) := by kernel_rfl
theorem tab_tree_uses_note : tab (f_tree_uses_note nm) = some (C_tree_uses_note nm) := by kernel_rfl
theorem tab_tree_typ : tab (f_tree_typ nm) = some (C_tree_typ nm) := by kernel_rfl
theorem tab_tree_alias : tab (f_tree_alias nm) = some (C_tree_alias nm) := by kernel_rfl
theorem tab_tree_Check_1 : tab (f_tree_Check_1 nm) = some (C_tree_Check_1 nm) := by kernel_rfl
theorem tab_slices_ContainsFunc_tree_uses_int : tab (f_slices_ContainsFunc_tree_uses_int nm) = some (C_slices_ContainsFunc_tree_uses_int nm) := by kernel_rfl
theorem tab_ref04_Tag : tab (f_ref04_Tag nm) = some (C_ref04_Tag nm) := by kernel_rfl
theorem tab_ref03_IsWord : tab (f_ref03_IsWord nm) = some (C_ref03_IsWord nm) := by kernel_rfl
theorem tab_tree_two_types : tab (f_tree_two_types nm) = some (C_tree_two_types nm) := by kernel_rfl
theorem tab_tree_two_terms : tab (f_tree_two_terms nm) = some (C_tree_two_terms nm) := by kernel_rfl
theorem tab_ref04_SameType : tab (f_ref04_SameType nm) = some (C_ref04_SameType nm) := by kernel_rfl
theorem tab_ref04_SameTerm : tab (f_ref04_SameTerm nm) = some (C_ref04_SameTerm nm) := by kernel_rfl
theorem tab_ref04_term : tab (f_ref04_term nm) = some (C_ref04_term nm) := by kernel_rfl
theorem tab_ref04_below : tab (f_ref04_below nm) = some (C_ref04_below nm) := by kernel_rfl
theorem tab_ref04_typ : tab (f_ref04_typ nm) = some (C_ref04_typ nm) := by kernel_rfl
theorem tab_ref04_Alias : tab (f_ref04_Alias nm) = some (C_ref04_Alias nm) := by kernel_rfl
theorem tab_ref04_uses : tab (f_ref04_uses nm) = some (C_ref04_uses nm) := by kernel_rfl
theorem tab_slices_Clone_sl_api_Alias_api_Alias : tab (f_slices_Clone_sl_api_Alias_api_Alias nm) = some (C_slices_Clone_sl_api_Alias_api_Alias nm) := by kernel_rfl
theorem tab_slices_Clone_sl_string_string : tab (f_slices_Clone_sl_string_string nm) = some (C_slices_Clone_sl_string_string nm) := by kernel_rfl
theorem tab_slices_Clone_sl_int_int : tab (f_slices_Clone_sl_int_int nm) = some (C_slices_Clone_sl_int_int nm) := by kernel_rfl
theorem tab_tree_shapes : tab (f_tree_shapes nm) = some (C_tree_shapes nm) := by kernel_rfl
theorem tab_tree_named : tab (f_tree_named nm) = some (C_tree_named nm) := by kernel_rfl
theorem tab_tree_text : tab (f_tree_text nm) = some (C_tree_text nm) := by kernel_rfl
theorem tab_lexer_IsName : tab (f_lexer_IsName nm) = some (C_lexer_IsName nm) := by kernel_rfl
theorem tab_floats_Of : tab (f_floats_Of nm) = some (C_floats_Of nm) := by kernel_rfl
theorem tab_tree_once : tab (f_tree_once nm) = some (C_tree_once nm) := by kernel_rfl
theorem tab_tree_all : tab (f_tree_all nm) = some (C_tree_all nm) := by kernel_rfl
theorem tab_tree_tag : tab (f_tree_tag nm) = some (C_tree_tag nm) := by kernel_rfl
theorem tab_lexer_Lex : tab (f_lexer_Lex nm) = some (C_lexer_Lex nm) := by kernel_rfl
theorem tab_slices_IndexFunc_tree_uses_int : tab (f_slices_IndexFunc_tree_uses_int nm) = some (C_slices_IndexFunc_tree_uses_int nm) := by kernel_rfl
theorem tab_slices_Equal_sl_string_string : tab (f_slices_Equal_sl_string_string nm) = some (C_slices_Equal_sl_string_string nm) := by kernel_rfl
theorem tab_ref04_same : tab (f_ref04_same nm) = some (C_ref04_same nm) := by kernel_rfl
theorem tab_ref04_text : tab (f_ref04_text nm) = some (C_ref04_text nm) := by kernel_rfl
theorem tab_ref02_Parts : tab (f_ref02_Parts nm) = some (C_ref02_Parts nm) := by kernel_rfl
theorem tab_ref04_op : tab (f_ref04_op nm) = some (C_ref04_op nm) := by kernel_rfl
theorem tab_ref04_names : tab (f_ref04_names nm) = some (C_ref04_names nm) := by kernel_rfl
theorem tab_ref04_once : tab (f_ref04_once nm) = some (C_ref04_once nm) := by kernel_rfl
theorem tab_tree_halves : tab (f_tree_halves nm) = some (C_tree_halves nm) := by kernel_rfl
theorem tab_slices_Contains_sl_string_string : tab (f_slices_Contains_sl_string_string nm) = some (C_slices_Contains_sl_string_string nm) := by kernel_rfl
theorem tab_tree_ops : tab (f_tree_ops nm) = some (C_tree_ops nm) := by kernel_rfl
theorem tab_runes_Bad : tab (f_runes_Bad nm) = some (C_runes_Bad nm) := by kernel_rfl
theorem tab_slices_ContainsFunc_sl_byte_byte : tab (f_slices_ContainsFunc_sl_byte_byte nm) = some (C_slices_ContainsFunc_sl_byte_byte nm) := by kernel_rfl
theorem tab_tree_text_1 : tab (f_tree_text_1 nm) = some (C_tree_text_1 nm) := by kernel_rfl
theorem tab_lexer_low : tab (f_lexer_low nm) = some (C_lexer_low nm) := by kernel_rfl
theorem tab_lexer_run : tab (f_lexer_run nm) = some (C_lexer_run nm) := by kernel_rfl
theorem tab_lexer_inName : tab (f_lexer_inName nm) = some (C_lexer_inName nm) := by kernel_rfl
theorem tab_lexer_IsWord : tab (f_lexer_IsWord nm) = some (C_lexer_IsWord nm) := by kernel_rfl
theorem tab_slices_ContainsFunc_sl_string_string : tab (f_slices_ContainsFunc_sl_string_string nm) = some (C_slices_ContainsFunc_sl_string_string nm) := by kernel_rfl
theorem tab_tree_all_1 : tab (f_tree_all_1 nm) = some (C_tree_all_1 nm) := by kernel_rfl
theorem tab_lexer_blank : tab (f_lexer_blank nm) = some (C_lexer_blank nm) := by kernel_rfl
theorem tab_lexer_one : tab (f_lexer_one nm) = some (C_lexer_one nm) := by kernel_rfl
theorem tab_ref01_Signs : tab (f_ref01_Signs nm) = some (C_ref01_Signs nm) := by kernel_rfl
theorem tab_slices_Index_sl_string_string : tab (f_slices_Index_sl_string_string nm) = some (C_slices_Index_sl_string_string nm) := by kernel_rfl
theorem tab_runes_All : tab (f_runes_All nm) = some (C_runes_All nm) := by kernel_rfl
theorem tab_runes_size : tab (f_runes_size nm) = some (C_runes_size nm) := by kernel_rfl
theorem tab_slices_IndexFunc_sl_byte_byte : tab (f_slices_IndexFunc_sl_byte_byte nm) = some (C_slices_IndexFunc_sl_byte_byte nm) := by kernel_rfl
theorem tab_lexer_digit : tab (f_lexer_digit nm) = some (C_lexer_digit nm) := by kernel_rfl
theorem tab_lexer_words : tab (f_lexer_words nm) = some (C_lexer_words nm) := by kernel_rfl
theorem tab_slices_IndexFunc_sl_string_string : tab (f_slices_IndexFunc_sl_string_string nm) = some (C_slices_IndexFunc_sl_string_string nm) := by kernel_rfl
theorem tab_strings_IndexByte : tab (f_strings_IndexByte nm) = some (C_strings_IndexByte nm) := by kernel_rfl
theorem tab_strings_HasPrefix : tab (f_strings_HasPrefix nm) = some (C_strings_HasPrefix nm) := by kernel_rfl
theorem tab_lexer_blank_1 : tab (f_lexer_blank_1 nm) = some (C_lexer_blank_1 nm) := by kernel_rfl
theorem tab_lexer_float : tab (f_lexer_float nm) = some (C_lexer_float nm) := by kernel_rfl
theorem tab_lexer_high : tab (f_lexer_high nm) = some (C_lexer_high nm) := by kernel_rfl
theorem tab_lexer_inAlias : tab (f_lexer_inAlias nm) = some (C_lexer_inAlias nm) := by kernel_rfl
theorem tab_lexer_number : tab (f_lexer_number nm) = some (C_lexer_number nm) := by kernel_rfl
theorem tab_lexer_text : tab (f_lexer_text nm) = some (C_lexer_text nm) := by kernel_rfl
theorem tab_lexer_signs : tab (f_lexer_signs nm) = some (C_lexer_signs nm) := by kernel_rfl
theorem tab_ref01_First : tab (f_ref01_First nm) = some (C_ref01_First nm) := by kernel_rfl
theorem tab_runes_All_1 : tab (f_runes_All_1 nm) = some (C_runes_All_1 nm) := by kernel_rfl
theorem tab_runes_first : tab (f_runes_first nm) = some (C_runes_first nm) := by kernel_rfl
theorem tab_internal_stringslite_IndexByte : tab (f_internal_stringslite_IndexByte nm) = some (C_internal_stringslite_IndexByte nm) := by kernel_rfl
theorem tab_internal_stringslite_HasPrefix : tab (f_internal_stringslite_HasPrefix nm) = some (C_internal_stringslite_HasPrefix nm) := by kernel_rfl
theorem tab_floats_Parse : tab (f_floats_Parse nm) = some (C_floats_Parse nm) := by kernel_rfl
theorem tab_ref01_value : tab (f_ref01_value nm) = some (C_ref01_value nm) := by kernel_rfl
theorem tab_ref01_Encode : tab (f_ref01_Encode nm) = some (C_ref01_Encode nm) := by kernel_rfl
theorem tab_runes_sign : tab (f_runes_sign nm) = some (C_runes_sign nm) := by kernel_rfl
theorem tab_strings_CutPrefix : tab (f_strings_CutPrefix nm) = some (C_strings_CutPrefix nm) := by kernel_rfl
theorem tab_internal_stringslite_CutPrefix : tab (f_internal_stringslite_CutPrefix nm) = some (C_internal_stringslite_CutPrefix nm) := by kernel_rfl
end Go.Proofs.Y5s
