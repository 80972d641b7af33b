import Derived.Test.YtkofnmiopjnhiaaGreatDoorEngAF
import Derived.Test.YtkofnmiopjnhiaaGreatDoorEngZ
/- Names of functions and types: N gives their numbers. Printed by tm.py. -/
namespace Go.Proofs.Eng
def f_main_main (N : Nat → Nat) : Nat := N 0
def f_gosem_cut (N : Nat → Nat) : Nat := N 1
def f_gosem_cut_init (N : Nat → Nat) : Nat := N 2
def f_law01_RunesWhere (N : Nat → Nat) : Nat := N 3
def f_law01_RunesCuts (N : Nat → Nat) : Nat := N 4
def f_law01_RunesReads (N : Nat → Nat) : Nat := N 5
def f_law01_RunesJoin (N : Nat → Nat) : Nat := N 6
def f_law01_RunesEncodes (N : Nat → Nat) : Nat := N 7
def f_law01_lives (N : Nat → Nat) : Nat := N 8
def f_runes_Where (N : Nat → Nat) : Nat := N 9
def f_ref01_Where (N : Nat → Nat) : Nat := N 10
def f_runes_Bad (N : Nat → Nat) : Nat := N 11
def f_runes_All (N : Nat → Nat) : Nat := N 12
def f_ref01_Signs (N : Nat → Nat) : Nat := N 13
def f_runes_Count (N : Nat → Nat) : Nat := N 14
def f_runes_Encode (N : Nat → Nat) : Nat := N 15
def f_ref01_Encode (N : Nat → Nat) : Nat := N 16
def f_runes_Where_1 (N : Nat → Nat) : Nat := N 17
def f_runes_size (N : Nat → Nat) : Nat := N 18
def f_runes_All_1 (N : Nat → Nat) : Nat := N 19
def f_runes_first (N : Nat → Nat) : Nat := N 20
def f_ref01_First (N : Nat → Nat) : Nat := N 21
def f_runes_sign (N : Nat → Nat) : Nat := N 22
def f_ref01_value (N : Nat → Nat) : Nat := N 23
def f_runtime_boundsError_Error (N : Nat → Nat) : Nat := N 24
def f_runtime_boundsError_RuntimeError (N : Nat → Nat) : Nat := N 25
def f_runtime_errorString_Error (N : Nat → Nat) : Nat := N 26
def f_runtime_errorString_RuntimeError (N : Nat → Nat) : Nat := N 27
def f_runtime_plainError_Error (N : Nat → Nat) : Nat := N 28
def f_runtime_plainError_RuntimeError (N : Nat → Nat) : Nat := N 29
def f_runtime_errorAddressString_Error (N : Nat → Nat) : Nat := N 30
def f_runtime_errorAddressString_RuntimeError (N : Nat → Nat) : Nat := N 31
def f_p_runtime_TypeAssertionError_Error (N : Nat → Nat) : Nat := N 32
def f_p_runtime_TypeAssertionError_RuntimeError (N : Nat → Nat) : Nat := N 33
def f_p_runtime_PanicNilError_Error (N : Nat → Nat) : Nat := N 34
def f_p_runtime_PanicNilError_RuntimeError (N : Nat → Nat) : Nat := N 35
def f_p_internal_abi_Type_Align (N : Nat → Nat) : Nat := N 36
def f_internal_runtime_maps_unhashableTypeError_Error (N : Nat → Nat) : Nat := N 37
def f_internal_runtime_maps_unhashableTypeError_RuntimeError (N : Nat → Nat) : Nat := N 38
def f_api_Errno_Error (N : Nat → Nat) : Nat := N 39
def f_internal_abi_Kind_String (N : Nat → Nat) : Nat := N 40
def f_law23_StoreFull (N : Nat → Nat) : Nat := N 41
def f_law03_LexerBlanks (N : Nat → Nat) : Nat := N 42
def f_law03_LexerReads (N : Nat → Nat) : Nat := N 43
def f_law03_LexerLong (N : Nat → Nat) : Nat := N 44
def f_law03_LexerNames (N : Nat → Nat) : Nat := N 45
def f_law03_LexerWrites (N : Nat → Nat) : Nat := N 46
def f_law23_StoreRounds (N : Nat → Nat) : Nat := N 47
def f_law23_StorePlays (N : Nat → Nat) : Nat := N 48
def f_law23_StoreNone (N : Nat → Nat) : Nat := N 49
def f_law23_lives (N : Nat → Nat) : Nat := N 50
def f_store_New (N : Nat → Nat) : Nat := N 51
def f_p_store_Store_Set (N : Nat → Nat) : Nat := N 52
def f_p_store_Store_Delete (N : Nat → Nat) : Nat := N 53
def f_law03_lives (N : Nat → Nat) : Nat := N 54
def f_lexer_Lex (N : Nat → Nat) : Nat := N 55
def f_ref03_Lex (N : Nat → Nat) : Nat := N 56
def f_ref03_Same (N : Nat → Nat) : Nat := N 57
def f_lexer_IsWord (N : Nat → Nat) : Nat := N 58
def f_ref03_IsWord (N : Nat → Nat) : Nat := N 59
def f_lexer_IsName (N : Nat → Nat) : Nat := N 60
def f_law03_write (N : Nat → Nat) : Nat := N 61
def f_law23_do (N : Nat → Nat) : Nat := N 62
def f_p_store_Store_Rename (N : Nat → Nat) : Nat := N 63
def f_law23_is (N : Nat → Nat) : Nat := N 64
def f_p_store_Store_Turn (N : Nat → Nat) : Nat := N 65
def f_p_store_Store_Copy (N : Nat → Nat) : Nat := N 66
def f_p_store_Store_Text (N : Nat → Nat) : Nat := N 67
def f_p_store_Store_All (N : Nat → Nat) : Nat := N 68
def f_p_store_Store_Len (N : Nat → Nat) : Nat := N 69
def f_slices_Clone_sl_byte_byte (N : Nat → Nat) : Nat := N 70
def f_lexer_blank (N : Nat → Nat) : Nat := N 71
def f_lexer_one (N : Nat → Nat) : Nat := N 72
def f_ref03_one (N : Nat → Nat) : Nat := N 73
def f_slices_Contains_sl_string_string (N : Nat → Nat) : Nat := N 74
def f_lexer_words (N : Nat → Nat) : Nat := N 75
def f_lexer_low (N : Nat → Nat) : Nat := N 76
def f_lexer_run (N : Nat → Nat) : Nat := N 77
def f_lexer_inName (N : Nat → Nat) : Nat := N 78
def f_lexer_Quote (N : Nat → Nat) : Nat := N 79
def f_ref04_Name (N : Nat → Nat) : Nat := N 80
def f_p_store_Store_All_1 (N : Nat → Nat) : Nat := N 81
def f_slices_Sorted_string (N : Nat → Nat) : Nat := N 82
def f_maps_Keys_map_string_sl_byte_string_sl_byte (N : Nat → Nat) : Nat := N 83
def f_strings_IndexByte (N : Nat → Nat) : Nat := N 84
def f_strings_HasPrefix (N : Nat → Nat) : Nat := N 85
def f_lexer_blank_1 (N : Nat → Nat) : Nat := N 86
def f_lexer_float (N : Nat → Nat) : Nat := N 87
def f_lexer_high (N : Nat → Nat) : Nat := N 88
def f_lexer_inAlias (N : Nat → Nat) : Nat := N 89
def f_lexer_digit (N : Nat → Nat) : Nat := N 90
def f_lexer_number (N : Nat → Nat) : Nat := N 91
def f_lexer_text (N : Nat → Nat) : Nat := N 92
def f_lexer_signs (N : Nat → Nat) : Nat := N 93
def f_ref03_hex (N : Nat → Nat) : Nat := N 94
def f_ref03_low (N : Nat → Nat) : Nat := N 95
def f_ref03_name (N : Nat → Nat) : Nat := N 96
def f_ref03_high (N : Nat → Nat) : Nat := N 97
def f_ref03_digit (N : Nat → Nat) : Nat := N 98
def f_ref03_number (N : Nat → Nat) : Nat := N 99
def f_ref03_str (N : Nat → Nat) : Nat := N 100
def f_ref03_sign (N : Nat → Nat) : Nat := N 101
def f_slices_Index_sl_string_string (N : Nat → Nat) : Nat := N 102
def f_ref04_Tag (N : Nat → Nat) : Nat := N 103
def f_slices_Collect_string (N : Nat → Nat) : Nat := N 104
def f_slices_Sort_sl_string_string (N : Nat → Nat) : Nat := N 105
def f_maps_Keys_map_string_sl_byte_string_sl_byte_1 (N : Nat → Nat) : Nat := N 106
def f_internal_stringslite_IndexByte (N : Nat → Nat) : Nat := N 107
def f_internal_stringslite_HasPrefix (N : Nat → Nat) : Nat := N 108
def f_floats_Parse (N : Nat → Nat) : Nat := N 109
def f_slices_AppendSeq_sl_string_string (N : Nat → Nat) : Nat := N 110
def f_slices_pdqsortOrdered_string (N : Nat → Nat) : Nat := N 111
def f_math_bits_Len (N : Nat → Nat) : Nat := N 112
def f_internal_bytealg_IndexByteString (N : Nat → Nat) : Nat := N 113
def f_strings_CutPrefix (N : Nat → Nat) : Nat := N 114
def f_floats_Of (N : Nat → Nat) : Nat := N 115
def f_slices_insertionSortOrdered_string (N : Nat → Nat) : Nat := N 116
def f_slices_heapSortOrdered_string (N : Nat → Nat) : Nat := N 117
def f_slices_breakPatternsOrdered_string (N : Nat → Nat) : Nat := N 118
def f_slices_choosePivotOrdered_string (N : Nat → Nat) : Nat := N 119
def f_slices_reverseRangeOrdered_string (N : Nat → Nat) : Nat := N 120
def f_slices_partialInsertionSortOrdered_string (N : Nat → Nat) : Nat := N 121
def f_cmp_Less_string (N : Nat → Nat) : Nat := N 122
def f_slices_partitionEqualOrdered_string (N : Nat → Nat) : Nat := N 123
def f_slices_partitionOrdered_string (N : Nat → Nat) : Nat := N 124
def f_math_bits_Len32 (N : Nat → Nat) : Nat := N 125
def f_math_bits_Len64 (N : Nat → Nat) : Nat := N 126
def f_internal_stringslite_CutPrefix (N : Nat → Nat) : Nat := N 127
def f_math_Float64frombits (N : Nat → Nat) : Nat := N 128
def f_slices_siftDownOrdered_string (N : Nat → Nat) : Nat := N 129
def f_slices_nextPowerOfTwo (N : Nat → Nat) : Nat := N 130
def f_p_slices_xorshift_Next (N : Nat → Nat) : Nat := N 131
def f_slices_medianAdjacentOrdered_string (N : Nat → Nat) : Nat := N 132
def f_slices_medianOrdered_string (N : Nat → Nat) : Nat := N 133
def f_cmp_isNaN_string (N : Nat → Nat) : Nat := N 134
def f_slices_order2Ordered_string (N : Nat → Nat) : Nat := N 135
def f_floats_Float_Kind (N : Nat → Nat) : Nat := N 136
def f_law24_DepsNone (N : Nat → Nat) : Nat := N 137
def f_law24_DepsStores (N : Nat → Nat) : Nat := N 138
def f_law24_lives (N : Nat → Nat) : Nat := N 139
def f_p_deps_Net_On (N : Nat → Nat) : Nat := N 140
def f_p_deps_Net_Put (N : Nat → Nat) : Nat := N 141
def f_p_deps_Net_Names (N : Nat → Nat) : Nat := N 142
def f_p_deps_Net_Missing (N : Nat → Nat) : Nat := N 143
def f_p_deps_Net_Users (N : Nat → Nat) : Nat := N 144
def f_p_deps_Net_Cone (N : Nat → Nat) : Nat := N 145
def f_deps_Of (N : Nat → Nat) : Nat := N 146
def f_ref05_Text (N : Nat → Nat) : Nat := N 147
def f_ref07_Free (N : Nat → Nat) : Nat := N 148
def f_law24_is (N : Nat → Nat) : Nat := N 149
def f_deps_New (N : Nat → Nat) : Nat := N 150
def f_law07_Same (N : Nat → Nat) : Nat := N 151
def f_slices_Clone_sl_string_string (N : Nat → Nat) : Nat := N 152
def f_slices_ContainsFunc_sl_string_string (N : Nat → Nat) : Nat := N 153
def f_p_deps_Net_Put_1 (N : Nat → Nat) : Nat := N 154
def f_slices_Compact_sl_string_string (N : Nat → Nat) : Nat := N 155
def f_maps_Keys_map_string_sl_string_string_sl_string (N : Nat → Nat) : Nat := N 156
def f_maps_Keys_map_string_bool_string_bool (N : Nat → Nat) : Nat := N 157
def f_slices_DeleteFunc_sl_string_string (N : Nat → Nat) : Nat := N 158
def f_p_deps_Net_Users_1 (N : Nat → Nat) : Nat := N 159
def f_parse_Text (N : Nat → Nat) : Nat := N 160
def f_scope_Free (N : Nat → Nat) : Nat := N 161
def f_p_ref05_Parser_take (N : Nat → Nat) : Nat := N 162
def f_p_ref05_Parser_now (N : Nat → Nat) : Nat := N 163
def f_p_ref05_Parser_text (N : Nat → Nat) : Nat := N 164
def f_p_ref05_Parser_must (N : Nat → Nat) : Nat := N 165
def f_p_ref05_Parser_Type (N : Nat → Nat) : Nat := N 166
def f_p_ref05_Parser_Term (N : Nat → Nat) : Nat := N 167
def f_p_ref05_Parser_end (N : Nat → Nat) : Nat := N 168
def f_ref07_without (N : Nat → Nat) : Nat := N 169
def f_ref07_join (N : Nat → Nat) : Nat := N 170
def f_law24_insert (N : Nat → Nat) : Nat := N 171
def f_slices_IndexFunc_sl_string_string (N : Nat → Nat) : Nat := N 172
def f_maps_Keys_map_string_sl_string_string_sl_string_1 (N : Nat → Nat) : Nat := N 173
def f_maps_Keys_map_string_bool_string_bool_1 (N : Nat → Nat) : Nat := N 174
def f_parse_run (N : Nat → Nat) : Nat := N 175
def f_parse_Text_1 (N : Nat → Nat) : Nat := N 176
def f_p_parse_reader_skip (N : Nat → Nat) : Nat := N 177
def f_p_parse_reader_kind (N : Nat → Nat) : Nat := N 178
def f_p_parse_reader_need (N : Nat → Nat) : Nat := N 179
def f_p_tree_Builder_Alias (N : Nat → Nat) : Nat := N 180
def f_p_parse_reader_typ (N : Nat → Nat) : Nat := N 181
def f_p_parse_reader_term (N : Nat → Nat) : Nat := N 182
def f_tree_Check (N : Nat → Nat) : Nat := N 183
def f_scope_ups (N : Nat → Nat) : Nat := N 184
def f_scope_binder (N : Nat → Nat) : Nat := N 185
def f_p_ref05_Parser_see (N : Nat → Nat) : Nat := N 186
def f_p_ref05_Parser_on (N : Nat → Nat) : Nat := N 187
def f_p_ref05_Parser_bad (N : Nat → Nat) : Nat := N 188
def f_p_ref05_Parser_stop (N : Nat → Nat) : Nat := N 189
def f_p_ref05_Parser_simple (N : Nat → Nat) : Nat := N 190
def f_p_ref05_Parser_typ (N : Nat → Nat) : Nat := N 191
def f_p_ref05_Parser_inner (N : Nat → Nat) : Nat := N 192
def f_ref07_insert (N : Nat → Nat) : Nat := N 193
def f_parse_run_1 (N : Nat → Nat) : Nat := N 194
def f_tree_New (N : Nat → Nat) : Nat := N 195
def f_p_tree_Builder_Tree (N : Nat → Nat) : Nat := N 196
def f_p_parse_reader_is (N : Nat → Nat) : Nat := N 197
def f_p_parse_reader_next (N : Nat → Nat) : Nat := N 198
def f_p_parse_reader_now (N : Nat → Nat) : Nat := N 199
def f_parse_wrong (N : Nat → Nat) : Nat := N 200
def f_p_parse_reader_enter (N : Nat → Nat) : Nat := N 201
def f_p_parse_reader_leave (N : Nat → Nat) : Nat := N 202
def f_p_parse_reader_simple (N : Nat → Nat) : Nat := N 203
def f_p_parse_reader_putType (N : Nat → Nat) : Nat := N 204
def f_p_parse_reader_put (N : Nat → Nat) : Nat := N 205
def f_p_parse_reader_arms (N : Nat → Nat) : Nat := N 206
def f_p_parse_reader_compare (N : Nat → Nat) : Nat := N 207
def f_tree_term (N : Nat → Nat) : Nat := N 208
def f_tree_uses_note (N : Nat → Nat) : Nat := N 209
def f_tree_typ (N : Nat → Nat) : Nat := N 210
def f_tree_alias (N : Nat → Nat) : Nat := N 211
def f_tree_Check_1 (N : Nat → Nat) : Nat := N 212
def f_slices_ContainsFunc_tree_uses_int (N : Nat → Nat) : Nat := N 213
def f_scope_binds (N : Nat → Nat) : Nat := N 214
def f_p_ref05_Parser_fresh (N : Nat → Nat) : Nat := N 215
def f_p_ref05_Parser_term (N : Nat → Nat) : Nat := N 216
def f_p_ref05_Parser_level (N : Nat → Nat) : Nat := N 217
def f_tree_Clone (N : Nat → Nat) : Nat := N 218
def f_parse_basic (N : Nat → Nat) : Nat := N 219
def f_p_parse_reader_fields (N : Nat → Nat) : Nat := N 220
def f_p_parse_reader_simple_1 (N : Nat → Nat) : Nat := N 221
def f_p_parse_reader_items (N : Nat → Nat) : Nat := N 222
def f_p_tree_Builder_Type (N : Nat → Nat) : Nat := N 223
def f_p_tree_Builder_Term (N : Nat → Nat) : Nat := N 224
def f_parse_once (N : Nat → Nat) : Nat := N 225
def f_p_parse_reader_join (N : Nat → Nat) : Nat := N 226
def f_tree_shapes (N : Nat → Nat) : Nat := N 227
def f_tree_named (N : Nat → Nat) : Nat := N 228
def f_tree_text (N : Nat → Nat) : Nat := N 229
def f_tree_once (N : Nat → Nat) : Nat := N 230
def f_tree_all (N : Nat → Nat) : Nat := N 231
def f_tree_tag (N : Nat → Nat) : Nat := N 232
def f_slices_IndexFunc_tree_uses_int (N : Nat → Nat) : Nat := N 233
def f_p_ref05_Parser_apply (N : Nat → Nat) : Nat := N 234
def f_p_ref05_Parser_signs (N : Nat → Nat) : Nat := N 235
def f_slices_Clone_sl_api_Alias_api_Alias (N : Nat → Nat) : Nat := N 236
def f_tree_cloneTerm (N : Nat → Nat) : Nat := N 237
def f_tree_cloneType (N : Nat → Nat) : Nat := N 238
def f_p_parse_reader_row (N : Nat → Nat) : Nat := N 239
def f_p_parse_reader_sum (N : Nat → Nat) : Nat := N 240
def f_tree_halves (N : Nat → Nat) : Nat := N 241
def f_tree_ops (N : Nat → Nat) : Nat := N 242
def f_slices_ContainsFunc_sl_byte_byte (N : Nat → Nat) : Nat := N 243
def f_tree_text_1 (N : Nat → Nat) : Nat := N 244
def f_tree_all_1 (N : Nat → Nat) : Nat := N 245
def f_p_ref05_Parser_unit (N : Nat → Nat) : Nat := N 246
def f_slices_Clone_sl_int_int (N : Nat → Nat) : Nat := N 247
def f_p_parse_reader_product (N : Nat → Nat) : Nat := N 248
def f_slices_IndexFunc_sl_byte_byte (N : Nat → Nat) : Nat := N 249
def f_p_ref05_Parser_post (N : Nat → Nat) : Nat := N 250
def f_p_parse_reader_apply (N : Nat → Nat) : Nat := N 251
def f_p_ref05_Parser_atom (N : Nat → Nat) : Nat := N 252
def f_p_parse_reader_unit (N : Nat → Nat) : Nat := N 253
def f_p_parse_reader_begins (N : Nat → Nat) : Nat := N 254
def f_ref05_number (N : Nat → Nat) : Nat := N 255
def f_ref05_bits (N : Nat → Nat) : Nat := N 256
def f_p_parse_reader_post (N : Nat → Nat) : Nat := N 257
def f_p_parse_reader_atom (N : Nat → Nat) : Nat := N 258
def f_strconv_ParseInt (N : Nat → Nat) : Nat := N 259
def f_p_parse_reader_round (N : Nat → Nat) : Nat := N 260
def f_p_parse_reader_atom_1 (N : Nat → Nat) : Nat := N 261
def f_internal_strconv_ParseInt (N : Nat → Nat) : Nat := N 262
def f_strconv_toError (N : Nat → Nat) : Nat := N 263
def f_internal_strconv_ParseUint (N : Nat → Nat) : Nat := N 264
def f_strconv_syntaxError (N : Nat → Nat) : Nat := N 265
def f_strconv_rangeError (N : Nat → Nat) : Nat := N 266
def f_strconv_baseError (N : Nat → Nat) : Nat := N 267
def f_strconv_bitSizeError (N : Nat → Nat) : Nat := N 268
def f_internal_strconv_lower (N : Nat → Nat) : Nat := N 269
def f_internal_strconv_underscoreOK (N : Nat → Nat) : Nat := N 270
def f_internal_stringslite_Clone (N : Nat → Nat) : Nat := N 271
def f_errors_New (N : Nat → Nat) : Nat := N 272
def f_strconv_Itoa (N : Nat → Nat) : Nat := N 273
def f_internal_strconv_Itoa (N : Nat → Nat) : Nat := N 274
def f_internal_strconv_FormatInt (N : Nat → Nat) : Nat := N 275
def f_internal_strconv_small (N : Nat → Nat) : Nat := N 276
def f_internal_strconv_numDigits (N : Nat → Nat) : Nat := N 277
def f_internal_strconv_formatBase10 (N : Nat → Nat) : Nat := N 278
def f_internal_strconv_formatBits (N : Nat → Nat) : Nat := N 279
def f_internal_strconv_log10Pow2 (N : Nat → Nat) : Nat := N 280
def f_internal_strconv_bool2_int (N : Nat → Nat) : Nat := N 281
def f_internal_strconv_isPowerOfTwo (N : Nat → Nat) : Nat := N 282
def f_math_bits_TrailingZeros (N : Nat → Nat) : Nat := N 283
def f_math_bits_TrailingZeros32 (N : Nat → Nat) : Nat := N 284
def f_math_bits_TrailingZeros64 (N : Nat → Nat) : Nat := N 285
def f_internal_strconv_Error_Error (N : Nat → Nat) : Nat := N 286
def f_p_strconv_NumError_Error (N : Nat → Nat) : Nat := N 287
def f_p_errors_errorString_Error (N : Nat → Nat) : Nat := N 288
def f_var_s_door_gosem_cut_vars_holds_initialisers_alone_see_the_manifest_s_row_cutvarsword_look_11_test_files_too (N : Nat → Nat) : Nat := N 289
def f_var_s_door_internal_strconv_uint64pow10_is_laid_by_its_own_initialiser_plain_data_look_11 (N : Nat → Nat) : Nat := N 290
def f_var_s_door_math_bits_deBruijn32tab_is_laid_by_its_own_initialiser_plain_data_look_11 (N : Nat → Nat) : Nat := N 291
def f_var_s_door_math_bits_deBruijn64tab_is_laid_by_its_own_initialiser_plain_data_look_11 (N : Nat → Nat) : Nat := N 292
def f_var_s_door_strconv_ErrRange_is_laid_by_its_own_call_of_errors_New_on_one_literal_look_11 (N : Nat → Nat) : Nat := N 293
def f_var_s_door_strconv_ErrSyntax_is_laid_by_its_own_call_of_errors_New_on_one_literal_look_11 (N : Nat → Nat) : Nat := N 294
def f_var_s_door_the_look_of_gosem_cut_vars_went_over_the_folder_that_the_caller_named_as_the_repository_s_root_look_11 (N : Nat → Nat) : Nat := N 295
def f_gosem_cut_vars (N : Nat → Nat) : Nat := N 296
def f_law13_SolveAgain (N : Nat → Nat) : Nat := N 297
def f_law13_SolveOrder (N : Nat → Nat) : Nat := N 298
def f_law13_SolveLevels (N : Nat → Nat) : Nat := N 299
def f_law13_SolveRaises (N : Nat → Nat) : Nat := N 300
def f_law13_SolveTells (N : Nat → Nat) : Nat := N 301
def f_law14_LiftApart (N : Nat → Nat) : Nat := N 302
def f_law14_LiftRefuses (N : Nat → Nat) : Nat := N 303
def f_law14_LiftCounts (N : Nat → Nat) : Nat := N 304
def f_law14_LiftReach (N : Nat → Nat) : Nat := N 305
def f_law13_lives (N : Nat → Nat) : Nat := N 306
def f_law13_Made (N : Nat → Nat) : Nat := N 307
def f_solve_New (N : Nat → Nat) : Nat := N 308
def f_law13_claims (N : Nat → Nat) : Nat := N 309
def f_p_solve_Solver_Claim (N : Nat → Nat) : Nat := N 310
def f_p_arena_Arena_IsVar (N : Nat → Nat) : Nat := N 311
def f_p_arena_Arena_Len (N : Nat → Nat) : Nat := N 312
def f_p_arena_Arena_Low (N : Nat → Nat) : Nat := N 313
def f_p_arena_Arena_Level (N : Nat → Nat) : Nat := N 314
def f_p_arena_Arena_High (N : Nat → Nat) : Nat := N 315
def f_solve_Raise (N : Nat → Nat) : Nat := N 316
def f_ref13_Holds (N : Nat → Nat) : Nat := N 317
def f_p_solve_Solver_Clash (N : Nat → Nat) : Nat := N 318
def f_p_solve_Solver_Claims (N : Nat → Nat) : Nat := N 319
def f_law14_lives (N : Nat → Nat) : Nat := N 320
def f_law14_bounded (N : Nat → Nat) : Nat := N 321
def f_lift_Fresh (N : Nat → Nat) : Nat := N 322
def f_p_arena_Arena_Head (N : Nat → Nat) : Nat := N 323
def f_arena_New (N : Nat → Nat) : Nat := N 324
def f_p_arena_Arena_Var (N : Nat → Nat) : Nat := N 325
def f_lift_Reach (N : Nat → Nat) : Nat := N 326
def f_lift_Free (N : Nat → Nat) : Nat := N 327
def f_p_arena_Arena_At (N : Nat → Nat) : Nat := N 328
def f_law08_Few (N : Nat → Nat) : Nat := N 329
def f_ref08_Right (N : Nat → Nat) : Nat := N 330
def f_p_solve_Solver_ask (N : Nat → Nat) : Nat := N 331
def f_p_solve_Solver_step (N : Nat → Nat) : Nat := N 332
def f_p_arena_Arena_there (N : Nat → Nat) : Nat := N 333
def f_p_solve_raiser_part (N : Nat → Nat) : Nat := N 334
def f_ref13_asks (N : Nat → Nat) : Nat := N 335
def f_p_lift_maker_part (N : Nat → Nat) : Nat := N 336
def f_p_arena_Arena_right (N : Nat → Nat) : Nat := N 337
def f_p_arena_Arena_room (N : Nat → Nat) : Nat := N 338
def f_arena_clone (N : Nat → Nat) : Nat := N 339
def f_slices_Sort_sl_int_int (N : Nat → Nat) : Nat := N 340
def f_p_solve_Solver_bind (N : Nat → Nat) : Nat := N 341
def f_p_solve_Solver_heads (N : Nat → Nat) : Nat := N 342
def f_p_solve_raiser_variable (N : Nat → Nat) : Nat := N 343
def f_ref13_find (N : Nat → Nat) : Nat := N 344
def f_p_lift_maker_variable (N : Nat → Nat) : Nat := N 345
def f_p_lift_maker_row (N : Nat → Nat) : Nat := N 346
def f_graph_Check (N : Nat → Nat) : Nat := N 347
def f_slices_pdqsortOrdered_int (N : Nat → Nat) : Nat := N 348
def f_p_arena_Arena_Bound (N : Nat → Nat) : Nat := N 349
def f_p_solve_Solver_variants (N : Nat → Nat) : Nat := N 350
def f_solve_kid (N : Nat → Nat) : Nat := N 351
def f_solve_way (N : Nat → Nat) : Nat := N 352
def f_graph_head (N : Nat → Nat) : Nat := N 353
def f_slices_insertionSortOrdered_int (N : Nat → Nat) : Nat := N 354
def f_slices_heapSortOrdered_int (N : Nat → Nat) : Nat := N 355
def f_slices_breakPatternsOrdered_int (N : Nat → Nat) : Nat := N 356
def f_slices_choosePivotOrdered_int (N : Nat → Nat) : Nat := N 357
def f_slices_reverseRangeOrdered_int (N : Nat → Nat) : Nat := N 358
def f_slices_partialInsertionSortOrdered_int (N : Nat → Nat) : Nat := N 359
def f_cmp_Less_int (N : Nat → Nat) : Nat := N 360
def f_slices_partitionEqualOrdered_int (N : Nat → Nat) : Nat := N 361
def f_slices_partitionOrdered_int (N : Nat → Nat) : Nat := N 362
def f_p_solve_Solver_any (N : Nat → Nat) : Nat := N 363
def f_slices_BinarySearch_sl_string_string (N : Nat → Nat) : Nat := N 364
def f_graph_rising (N : Nat → Nat) : Nat := N 365
def f_graph_typed (N : Nat → Nat) : Nat := N 366
def f_slices_siftDownOrdered_int (N : Nat → Nat) : Nat := N 367
def f_slices_medianAdjacentOrdered_int (N : Nat → Nat) : Nat := N 368
def f_slices_medianOrdered_int (N : Nat → Nat) : Nat := N 369
def f_cmp_isNaN_int (N : Nat → Nat) : Nat := N 370
def f_slices_isNaN_string (N : Nat → Nat) : Nat := N 371
def f_slices_order2Ordered_int (N : Nat → Nat) : Nat := N 372
def f_law04_TreeChecks (N : Nat → Nat) : Nat := N 373
def f_law04_lives (N : Nat → Nat) : Nat := N 374
def f_law04_Few (N : Nat → Nat) : Nat := N 375
def f_ref04_Right (N : Nat → Nat) : Nat := N 376
def f_tree_Depth (N : Nat → Nat) : Nat := N 377
def f_law04_all (N : Nat → Nat) : Nat := N 378
def f_tree_Walk (N : Nat → Nat) : Nat := N 379
def f_tree_Same (N : Nat → Nat) : Nat := N 380
def f_ref04_Walk (N : Nat → Nat) : Nat := N 381
def f_ref04_Depth (N : Nat → Nat) : Nat := N 382
def f_law04_same (N : Nat → Nat) : Nat := N 383
def f_ref04_term (N : Nat → Nat) : Nat := N 384
def f_ref04_below (N : Nat → Nat) : Nat := N 385
def f_ref04_typ (N : Nat → Nat) : Nat := N 386
def f_ref04_Alias (N : Nat → Nat) : Nat := N 387
def f_ref04_uses (N : Nat → Nat) : Nat := N 388
def f_tree_Walk_1 (N : Nat → Nat) : Nat := N 389
def f_slices_Backward_sl_int_int (N : Nat → Nat) : Nat := N 390
def f_tree_two_types (N : Nat → Nat) : Nat := N 391
def f_tree_two_terms (N : Nat → Nat) : Nat := N 392
def f_ref04_depthTerm (N : Nat → Nat) : Nat := N 393
def f_ref04_depthType (N : Nat → Nat) : Nat := N 394
def f_ref04_text (N : Nat → Nat) : Nat := N 395
def f_ref02_Parts (N : Nat → Nat) : Nat := N 396
def f_ref04_op (N : Nat → Nat) : Nat := N 397
def f_ref04_names (N : Nat → Nat) : Nat := N 398
def f_ref04_once (N : Nat → Nat) : Nat := N 399
def f_slices_Backward_sl_int_int_1 (N : Nat → Nat) : Nat := N 400
def f_slices_Equal_sl_string_string (N : Nat → Nat) : Nat := N 401
def f_law06_PrintBack (N : Nat → Nat) : Nat := N 402
def f_law06_PrintParsed (N : Nat → Nat) : Nat := N 403
def f_law06_PrintFewest (N : Nat → Nat) : Nat := N 404
def f_law06_PrintTerms (N : Nat → Nat) : Nat := N 405
def f_law06_PrintAlone (N : Nat → Nat) : Nat := N 406
def f_law06_PrintTexts (N : Nat → Nat) : Nat := N 407
def f_law07_ScopeChecks (N : Nat → Nat) : Nat := N 408
def f_law07_ScopeFree (N : Nat → Nat) : Nat := N 409
def f_law07_ScopeThrough (N : Nat → Nat) : Nat := N 410
def f_law07_ScopeBinds (N : Nat → Nat) : Nat := N 411
def f_law06_lives (N : Nat → Nat) : Nat := N 412
def f_print_Text (N : Nat → Nat) : Nat := N 413
def f_ref04_Same (N : Nat → Nat) : Nat := N 414
def f_print_Term (N : Nat → Nat) : Nat := N 415
def f_ref04_SameTerm (N : Nat → Nat) : Nat := N 416
def f_parse_Type (N : Nat → Nat) : Nat := N 417
def f_print_Type (N : Nat → Nat) : Nat := N 418
def f_ref04_SameType (N : Nat → Nat) : Nat := N 419
def f_ref06_Text (N : Nat → Nat) : Nat := N 420
def f_ref06_Term (N : Nat → Nat) : Nat := N 421
def f_ref06_Type (N : Nat → Nat) : Nat := N 422
def f_law07_lives (N : Nat → Nat) : Nat := N 423
def f_scope_Check (N : Nat → Nat) : Nat := N 424
def f_ref07_Check (N : Nat → Nat) : Nat := N 425
def f_scope_Through (N : Nat → Nat) : Nat := N 426
def f_scope_Binder (N : Nat → Nat) : Nat := N 427
def f_ref07_Binder (N : Nat → Nat) : Nat := N 428
def f_ref07_Through (N : Nat → Nat) : Nat := N 429
def f_p_print_writer_put (N : Nat → Nat) : Nat := N 430
def f_p_print_writer_typ (N : Nat → Nat) : Nat := N 431
def f_p_print_writer_term (N : Nat → Nat) : Nat := N 432
def f_ref04_same (N : Nat → Nat) : Nat := N 433
def f_parse_Type_1 (N : Nat → Nat) : Nat := N 434
def f_print_alone (N : Nat → Nat) : Nat := N 435
def f_ref06_plain (N : Nat → Nat) : Nat := N 436
def f_ref06_rule (N : Nat → Nat) : Nat := N 437
def f_scope_named (N : Nat → Nat) : Nat := N 438
def f_scope_loops (N : Nat → Nat) : Nat := N 439
def f_slices_MinFunc_sl_api_Diag_api_Diag (N : Nat → Nat) : Nat := N 440
def f_scope_Check_1 (N : Nat → Nat) : Nat := N 441
def f_cmp_Or_int (N : Nat → Nat) : Nat := N 442
def f_cmp_Compare_int (N : Nat → Nat) : Nat := N 443
def f_cmp_Compare_api_Errno (N : Nat → Nat) : Nat := N 444
def f_cmp_Compare_string (N : Nat → Nat) : Nat := N 445
def f_ref07_Named (N : Nat → Nat) : Nat := N 446
def f_ref07_row (N : Nat → Nat) : Nat := N 447
def f_scope_through (N : Nat → Nat) : Nat := N 448
def f_ref07_in (N : Nat → Nat) : Nat := N 449
def f_print_level (N : Nat → Nat) : Nat := N 450
def f_strconv_AppendInt (N : Nat → Nat) : Nat := N 451
def f_strconv_FormatBool (N : Nat → Nat) : Nat := N 452
def f_floats_Float_Text (N : Nat → Nat) : Nat := N 453
def f_p_print_writer_arms (N : Nat → Nat) : Nat := N 454
def f_p_print_writer_fields (N : Nat → Nat) : Nat := N 455
def f_print_of (N : Nat → Nat) : Nat := N 456
def f_ref06_digits (N : Nat → Nat) : Nat := N 457
def f_ref06_quote (N : Nat → Nat) : Nat := N 458
def f_ref02_Text (N : Nat → Nat) : Nat := N 459
def f_slices_IndexFunc_sl_api_Alias_api_Alias (N : Nat → Nat) : Nat := N 460
def f_scope_named_1 (N : Nat → Nat) : Nat := N 461
def f_cmp_isNaN_api_Errno (N : Nat → Nat) : Nat := N 462
def f_internal_strconv_AppendInt (N : Nat → Nat) : Nat := N 463
def f_internal_strconv_FormatBool (N : Nat → Nat) : Nat := N 464
def f_internal_strconv_AppendUint (N : Nat → Nat) : Nat := N 465
def f_law15_PolarChecks (N : Nat → Nat) : Nat := N 466
def f_law15_PolarClosed (N : Nat → Nat) : Nat := N 467
def f_law15_PolarOf (N : Nat → Nat) : Nat := N 468
def f_law16_RefineNormal (N : Nat → Nat) : Nat := N 469
def f_law15_PolarMost (N : Nat → Nat) : Nat := N 470
def f_law16_RefineSame (N : Nat → Nat) : Nat := N 471
def f_law16_RefineNames (N : Nat → Nat) : Nat := N 472
def f_law16_RefineTwice (N : Nat → Nat) : Nat := N 473
def f_law15_lives (N : Nat → Nat) : Nat := N 474
def f_law15_Few (N : Nat → Nat) : Nat := N 475
def f_law15_Right (N : Nat → Nat) : Nat := N 476
def f_polar_Reach (N : Nat → Nat) : Nat := N 477
def f_polar_Check (N : Nat → Nat) : Nat := N 478
def f_law15_SameInts (N : Nat → Nat) : Nat := N 479
def f_polar_Closed (N : Nat → Nat) : Nat := N 480
def f_graph_Normal (N : Nat → Nat) : Nat := N 481
def f_law15_Bounded (N : Nat → Nat) : Nat := N 482
def f_polar_Of (N : Nat → Nat) : Nat := N 483
def f_ref15_Of (N : Nat → Nat) : Nat := N 484
def f_law15_parts (N : Nat → Nat) : Nat := N 485
def f_law15_SameHeads (N : Nat → Nat) : Nat := N 486
def f_law16_lives (N : Nat → Nat) : Nat := N 487
def f_refine_Normal (N : Nat → Nat) : Nat := N 488
def f_refine_Alike (N : Nat → Nat) : Nat := N 489
def f_refine_Idle (N : Nat → Nat) : Nat := N 490
def f_law16_States (N : Nat → Nat) : Nat := N 491
def f_ref16_Vars (N : Nat → Nat) : Nat := N 492
def f_ref16_Idle (N : Nat → Nat) : Nat := N 493
def f_ref16_Alike (N : Nat → Nat) : Nat := N 494
def f_ref16_Clean (N : Nat → Nat) : Nat := N 495
def f_law16_Is (N : Nat → Nat) : Nat := N 496
def f_ref16_Normal (N : Nat → Nat) : Nat := N 497
def f_refine_Same (N : Nat → Nat) : Nat := N 498
def f_law16_RefineNames_1 (N : Nat → Nat) : Nat := N 499
def f_polar_Auto_state (N : Nat → Nat) : Nat := N 500
def f_p_arena_Arena_Graph (N : Nat → Nat) : Nat := N 501
def f_graph_normal (N : Nat → Nat) : Nat := N 502
def f_p_polar_maker_number (N : Nat → Nat) : Nat := N 503
def f_p_polar_maker_state (N : Nat → Nat) : Nat := N 504
def f_p_ref15_maker_number (N : Nat → Nat) : Nat := N 505
def f_p_ref15_maker_merged (N : Nat → Nat) : Nat := N 506
def f_ref08_Equal (N : Nat → Nat) : Nat := N 507
def f_refine_idle (N : Nat → Nat) : Nat := N 508
def f_refine_classes (N : Nat → Nat) : Nat := N 509
def f_slices_SortFunc_sl_sl_int_sl_int (N : Nat → Nat) : Nat := N 510
def f_slices_Compare_sl_int_int (N : Nat → Nat) : Nat := N 511
def f_slices_CompactFunc_sl_sl_int_sl_int (N : Nat → Nat) : Nat := N 512
def f_slices_Equal_sl_int_int (N : Nat → Nat) : Nat := N 513
def f_ref16_Reach (N : Nat → Nat) : Nat := N 514
def f_ref16_has (N : Nat → Nat) : Nat := N 515
def f_ref16_plain (N : Nat → Nat) : Nat := N 516
def f_ref16_less (N : Nat → Nat) : Nat := N 517
def f_refine_same (N : Nat → Nat) : Nat := N 518
def f_polar_Auto_head (N : Nat → Nat) : Nat := N 519
def f_polar_rising_int (N : Nat → Nat) : Nat := N 520
def f_graph_classes (N : Nat → Nat) : Nat := N 521
def f_p_polar_maker_closed (N : Nat → Nat) : Nat := N 522
def f_polar_row_key (N : Nat → Nat) : Nat := N 523
def f_p_polar_maker_merged (N : Nat → Nat) : Nat := N 524
def f_ref15_Closed (N : Nat → Nat) : Nat := N 525
def f_ref15_same (N : Nat → Nat) : Nat := N 526
def f_ref15_insert (N : Nat → Nat) : Nat := N 527
def f_ref15_count (N : Nat → Nat) : Nat := N 528
def f_ref15_find (N : Nat → Nat) : Nat := N 529
def f_ref08_plain (N : Nat → Nat) : Nat := N 530
def f_refine_sign (N : Nat → Nat) : Nat := N 531
def f_slices_pdqsortCmpFunc_sl_int (N : Nat → Nat) : Nat := N 532
def f_slices_EqualFunc_sl_polar_State_sl_polar_State_polar_State_polar_State (N : Nat → Nat) : Nat := N 533
def f_refine_same_1 (N : Nat → Nat) : Nat := N 534
def f_slices_EqualFunc_sl_api_Head_sl_api_Head_api_Head_api_Head (N : Nat → Nat) : Nat := N 535
def f_refine_same_1_1 (N : Nat → Nat) : Nat := N 536
def f_graph_sign (N : Nat → Nat) : Nat := N 537
def f_polar_names (N : Nat → Nat) : Nat := N 538
def f_polar_kid (N : Nat → Nat) : Nat := N 539
def f_slices_insertionSortCmpFunc_sl_int (N : Nat → Nat) : Nat := N 540
def f_slices_heapSortCmpFunc_sl_int (N : Nat → Nat) : Nat := N 541
def f_slices_breakPatternsCmpFunc_sl_int (N : Nat → Nat) : Nat := N 542
def f_slices_choosePivotCmpFunc_sl_int (N : Nat → Nat) : Nat := N 543
def f_slices_reverseRangeCmpFunc_sl_int (N : Nat → Nat) : Nat := N 544
def f_slices_partialInsertionSortCmpFunc_sl_int (N : Nat → Nat) : Nat := N 545
def f_slices_partitionEqualCmpFunc_sl_int (N : Nat → Nat) : Nat := N 546
def f_slices_partitionCmpFunc_sl_int (N : Nat → Nat) : Nat := N 547
def f_polar_all (N : Nat → Nat) : Nat := N 548
def f_polar_some (N : Nat → Nat) : Nat := N 549
def f_polar_names_1 (N : Nat → Nat) : Nat := N 550
def f_polar_names_2 (N : Nat → Nat) : Nat := N 551
def f_slices_DeleteFunc_sl_api_Head_api_Head (N : Nat → Nat) : Nat := N 552
def f_slices_Clone_sl_api_Head_api_Head (N : Nat → Nat) : Nat := N 553
def f_slices_siftDownCmpFunc_sl_int (N : Nat → Nat) : Nat := N 554
def f_slices_medianAdjacentCmpFunc_sl_int (N : Nat → Nat) : Nat := N 555
def f_slices_medianCmpFunc_sl_int (N : Nat → Nat) : Nat := N 556
def f_polar_all_1 (N : Nat → Nat) : Nat := N 557
def f_slices_ContainsFunc_sl_api_Head_api_Head (N : Nat → Nat) : Nat := N 558
def f_polar_all_1_1 (N : Nat → Nat) : Nat := N 559
def f_slices_IndexFunc_sl_api_Head_api_Head (N : Nat → Nat) : Nat := N 560
def f_slices_order2CmpFunc_sl_int (N : Nat → Nat) : Nat := N 561
def f_law13_SolveNone (N : Nat → Nat) : Nat := N 562
def f_law04_TreeFull (N : Nat → Nat) : Nat := N 563
def f_law04_TreeAround (N : Nat → Nat) : Nat := N 564
def f_law04_TreeSame (N : Nat → Nat) : Nat := N 565
def f_law04_TreeBuilds (N : Nat → Nat) : Nat := N 566
def f_law24_DepsClosed (N : Nat → Nat) : Nat := N 567
def f_law24_DepsPuts (N : Nat → Nat) : Nat := N 568
def f_law25_OrderAny (N : Nat → Nat) : Nat := N 569
def f_law25_OrderLong (N : Nat → Nat) : Nat := N 570
def f_law25_OrderGroups (N : Nat → Nat) : Nat := N 571
def f_law25_OrderAbove (N : Nat → Nat) : Nat := N 572
def f_law24_Few (N : Nat → Nat) : Nat := N 573
def f_law25_Net (N : Nat → Nat) : Nat := N 574
def f_law25_lives (N : Nat → Nat) : Nat := N 575
def f_order_Groups (N : Nat → Nat) : Nat := N 576
def f_law25_OrderLong_1 (N : Nat → Nat) : Nat := N 577
def f_law25_in (N : Nat → Nat) : Nat := N 578
def f_law25_has (N : Nat → Nat) : Nat := N 579
def f_order_Above (N : Nat → Nat) : Nat := N 580
def f_order_Of (N : Nat → Nat) : Nat := N 581
def f_p_order_finder_look (N : Nat → Nat) : Nat := N 582
def f_slices_ContainsFunc_sl_int_int (N : Nat → Nat) : Nat := N 583
def f_order_Above_1 (N : Nat → Nat) : Nat := N 584
def f_slices_IndexFunc_sl_order_Group_order_Group (N : Nat → Nat) : Nat := N 585
def f_order_Of_1 (N : Nat → Nat) : Nat := N 586
def f_p_order_finder_enter (N : Nat → Nat) : Nat := N 587
def f_p_order_finder_leave (N : Nat → Nat) : Nat := N 588
def f_slices_IndexFunc_sl_int_int (N : Nat → Nat) : Nat := N 589
def t_int (N : Nat → Nat) : Nat := N 100000
def t_bool (N : Nat → Nat) : Nat := N 100001
def t_uint8 (N : Nat → Nat) : Nat := N 100002
def t_int32 (N : Nat → Nat) : Nat := N 100003
def t_sl_uint8 (N : Nat → Nat) : Nat := N 100004
def t_sl_int (N : Nat → Nat) : Nat := N 100005
def t_func_int32 (N : Nat → Nat) : Nat := N 100006
def t_string (N : Nat → Nat) : Nat := N 100007
def t_p_store_Store (N : Nat → Nat) : Nat := N 100008
def t_api_Diag (N : Nat → Nat) : Nat := N 100009
def t_api_Token (N : Nat → Nat) : Nat := N 100010
def t_map_string_string (N : Nat → Nat) : Nat := N 100011
def t_law23_Act (N : Nat → Nat) : Nat := N 100012
def t_map_string_sl_uint8 (N : Nat → Nat) : Nat := N 100013
def t_store_Store (N : Nat → Nat) : Nat := N 100014
def t_sl_string (N : Nat → Nat) : Nat := N 100015
def t_slices_xorshift (N : Nat → Nat) : Nat := N 100016
def t_p_deps_Net (N : Nat → Nat) : Nat := N 100017
def t_func_string_bool (N : Nat → Nat) : Nat := N 100018
def t_map_string_sl_string (N : Nat → Nat) : Nat := N 100019
def t_api_Tree (N : Nat → Nat) : Nat := N 100020
def t_deps_Net (N : Nat → Nat) : Nat := N 100021
def t_map_string_bool (N : Nat → Nat) : Nat := N 100022
def t_ref05_Parser (N : Nat → Nat) : Nat := N 100023
def t_api_Alias (N : Nat → Nat) : Nat := N 100024
def t_api_Node (N : Nat → Nat) : Nat := N 100025
def t_p_parse_reader (N : Nat → Nat) : Nat := N 100026
def t_parse_reader (N : Nat → Nat) : Nat := N 100027
def t_api_TypeNode (N : Nat → Nat) : Nat := N 100028
def t_tree_Builder (N : Nat → Nat) : Nat := N 100029
def t_scope_up (N : Nat → Nat) : Nat := N 100030
def t_tree_shape (N : Nat → Nat) : Nat := N 100031
def t_strconv_NumError (N : Nat → Nat) : Nat := N 100032
def t_errors_errorString (N : Nat → Nat) : Nat := N 100033
def t_24_uint8 (N : Nat → Nat) : Nat := N 100034
def t_65_uint8 (N : Nat → Nat) : Nat := N 100035
def t_2_int (N : Nat → Nat) : Nat := N 100036
def t_api_Head (N : Nat → Nat) : Nat := N 100037
def t_law13_Part (N : Nat → Nat) : Nat := N 100038
def t_ref13_Part (N : Nat → Nat) : Nat := N 100039
def t_api_Graph (N : Nat → Nat) : Nat := N 100040
def t_solve_claim (N : Nat → Nat) : Nat := N 100041
def t_solve_Solver (N : Nat → Nat) : Nat := N 100042
def t_arena_part (N : Nat → Nat) : Nat := N 100043
def t_arena_Arena (N : Nat → Nat) : Nat := N 100044
def t_solve_raiser (N : Nat → Nat) : Nat := N 100045
def t_lift_maker (N : Nat → Nat) : Nat := N 100046
def t_tree_two (N : Nat → Nat) : Nat := N 100047
def t_print_writer (N : Nat → Nat) : Nat := N 100048
def t_polar_Auto (N : Nat → Nat) : Nat := N 100049
def t_sl_bool (N : Nat → Nat) : Nat := N 100050
def t_sl_api_Head (N : Nat → Nat) : Nat := N 100051
def t_polar_State (N : Nat → Nat) : Nat := N 100052
def t_law15_pair (N : Nat → Nat) : Nat := N 100053
def t_ref15_State (N : Nat → Nat) : Nat := N 100054
def t_polar_maker (N : Nat → Nat) : Nat := N 100055
def t_polar_row (N : Nat → Nat) : Nat := N 100056
def t_ref15_maker (N : Nat → Nat) : Nat := N 100057
def t_ref15_Part (N : Nat → Nat) : Nat := N 100058
def t_ref16_State (N : Nat → Nat) : Nat := N 100059
def t_refine_signs (N : Nat → Nat) : Nat := N 100060
def t_law24_Row (N : Nat → Nat) : Nat := N 100061
def t_order_Group (N : Nat → Nat) : Nat := N 100062
def t_order_finder (N : Nat → Nat) : Nat := N 100063
def t_map_int_bool (N : Nat → Nat) : Nat := N 100064
def t_order_visit (N : Nat → Nat) : Nat := N 100065
end Go.Proofs.Eng
/- Templates of functions, as the engine takes them; numbers of functions and types by names. Printed by tm.py. -/
set_option linter.unusedVariables false
set_option maxRecDepth 100000
namespace Go.Proofs.Eng
open Go

/-- azimuth/floats.Of -/
def C_floats_Of (N : Nat → Nat) : AFunc := ⟨10, [.inl 2],
 .seq (
  .ops [⟨(some 2), .mov (.c (.lit (.int .u64 0))), none⟩]) (
 .seq (
  .seq (
   .ops [⟨(some 4), .mov (.t 0), none⟩, ⟨(some 5), .call (.c (.fn (f_math_Float64frombits N) [] [])) [(.t 4)], none⟩, ⟨(some 3), .mov (.t 5), none⟩]) (
  .seq (
   .ops [⟨(some 6), .mov (.t 3), none⟩, ⟨(some 7), .mov (.t 3), none⟩, ⟨(some 8), .eq true .pfloat (.t 6) (.t 7), none⟩]) (
  .cond (.t 8) (
   .seq (
    .ops [⟨(some 2), .mov (.c (.lit (.int .u64 9221120237041090561))), none⟩]) (
   .ret)) (
   .skip)))) (
 .seq (
  .ops [⟨(some 9), .mov (.t 0), none⟩, ⟨(some 2), .mov (.t 9), none⟩]) (
 .ret))), false⟩

def L_floats_Parse_1 (N : Nat → Nat) : AC :=
    .seq (
     .ops [⟨(some 23), .bin .lss (.t 22) (.t 21), none⟩]) (
    .seq (
     .cond (.t 23) (
      .skip) (
      .exit 0)) (
    .seq (
     .block 1 (
      .seq (
       .ops [⟨(some 24), .mov (.t 22), none⟩, ⟨(some 6), .mov (.t 24), none⟩]) (
      .seq (
       .ops [⟨(some 25), .mov (.t 0), none⟩, ⟨(some 26), .mov (.t 6), none⟩, ⟨(some 27), .sidx (.t 25) (.t 26), none⟩, ⟨(some 28), .call (.c (.fn (f_strings_IndexByte N) [] [])) [(.c (.lit (.string (mkS [48, 49, 50, 51, 52, 53, 54, 55, 56, 57, 97, 98, 99, 100, 101, 102])))), (.t 27)], none⟩, ⟨(some 7), .mov (.t 28), none⟩]) (
      .seq (
       .seq (
        .ops [⟨(some 29), .mov (.t 7), none⟩, ⟨(some 30), .bin .lss (.t 29) (.c (.lit (.int .i64 0))), none⟩]) (
       .cond (.t 30) (
        .seq (
         .ops [⟨(some 2), .mov (.c (.lit (.int .u64 0))), none⟩, ⟨(some 3), .mov (.c (.lit (.int .i64 14))), none⟩]) (
        .ret)) (
        .skip))) (
      .ops [⟨(some 31), .mov (.t 5), none⟩, ⟨(some 32), .bin .shl (.t 31) (.c (.lit (.int .u64 4))), none⟩, ⟨(some 33), .mov (.t 7), none⟩, ⟨(some 34), .conv (.toInt .u64) (.t 33), none⟩, ⟨(some 35), .bin .or (.t 32) (.t 34), none⟩, ⟨(some 5), .mov (.t 35), none⟩]))))) (
    .ops [⟨(some 36), .bin .add (.t 22) (.c (.lit (.int .i64 1))), none⟩, ⟨(some 22), .mov (.t 36), none⟩])))
def K_floats_Parse_1 (N : Nat → Nat) : AC :=
 .seq (
  .ops [⟨(some 37), .mov (.t 5), none⟩, ⟨(some 38), .call (.c (.fn (f_floats_Of N) [] [])) [(.t 37)], none⟩, ⟨(some 2), .mov (.t 38), none⟩, ⟨(some 3), .mov (.c (.lit (.int .i64 0))), none⟩]) (
 .ret)
/-- azimuth/floats.Parse -/
def C_floats_Parse (N : Nat → Nat) : AFunc := ⟨39, [.inl 2, .inl 3],
 .seq (
  .ops [⟨(some 2), .mov (.c (.lit (.int .u64 0))), none⟩, ⟨(some 3), .mov (.c (.lit (.int .i64 0))), none⟩]) (
 .seq (
  .ops [⟨(some 9), .mov (.t 0), none⟩, ⟨(some 10), .call (.c (.fn (f_strings_CutPrefix N) [] [])) [(.t 9), (.c (.lit (.string (mkS [102, 39]))))], none⟩, ⟨(some 8), .mov (.t 10), none⟩, ⟨(some 11), .extract (.t 8) 0, none⟩, ⟨(some 12), .extract (.t 8) 1, none⟩, ⟨(some 0), .mov (.t 11), none⟩, ⟨(some 4), .mov (.t 12), none⟩]) (
 .seq (
  .seq (
   .ops [⟨(some 13), .mov (.t 4), none⟩, ⟨(some 14), .un .not (.t 13), none⟩, ⟨(some 15), .mov (.t 14), none⟩, ⟨(some 16), .mov (.t 0), (some (15, false))⟩, ⟨(some 17), .lens (.t 16), (some (15, false))⟩, ⟨(some 18), .eq true .pint (.t 17) (.c (.lit (.int .i64 16))), (some (15, false))⟩, ⟨(some 19), .pick (.t 15) (.c (.lit (.bool true))) (.t 18), none⟩]) (
  .cond (.t 19) (
   .seq (
    .ops [⟨(some 2), .mov (.c (.lit (.int .u64 0))), none⟩, ⟨(some 3), .mov (.c (.lit (.int .i64 14))), none⟩]) (
   .ret)) (
   .skip))) (
 .seq (
  .ops [⟨(some 5), .mov (.c (.lit (.int .u64 0))), none⟩]) (
 .seq (
  .seq (
   .ops [⟨(some 20), .mov (.t 0), none⟩, ⟨(some 21), .lens (.t 20), none⟩, ⟨(some 22), .mov (.c (.lit (.int .i64 0))), none⟩]) (
  .block 0 (
   .loop (L_floats_Parse_1 N)))) (K_floats_Parse_1 N))))), false⟩

/-- azimuth/lexer.IsName -/
def C_lexer_IsName (N : Nat → Nat) : AFunc := ⟨22, [.inl 2],
 .seq (
  .ops [⟨(some 2), .mov (.c (.lit (.bool false))), none⟩]) (
 .seq (
  .ops [⟨(some 3), .mov (.t 0), none⟩, ⟨(some 4), .eq true .pstr (.t 3) (.c (.lit (.string (mkS [])))), none⟩, ⟨(some 5), .mov (.t 4), none⟩, ⟨(some 6), .mov (.t 0), (some (5, true))⟩, ⟨(some 7), .sidx (.t 6) (.c (.lit (.int .i64 0))), (some (5, true))⟩, ⟨(some 8), .call (.c (.fn (f_lexer_low N) [] [])) [(.t 7)], (some (5, true))⟩, ⟨(some 9), .pick (.t 5) (.t 8) (.c (.lit (.bool false))), none⟩, ⟨(some 10), .mov (.t 9), none⟩, ⟨(some 11), .mov (.t 0), (some (10, true))⟩, ⟨(some 12), .call (.c (.fn (f_lexer_run N) [] [])) [(.t 11), (.c (.fn (f_lexer_inName N) [] []))], (some (10, true))⟩, ⟨(some 13), .mov (.t 0), (some (10, true))⟩, ⟨(some 14), .lens (.t 13), (some (10, true))⟩, ⟨(some 15), .eq false .pint (.t 12) (.t 14), (some (10, true))⟩, ⟨(some 16), .pick (.t 10) (.t 15) (.c (.lit (.bool false))), none⟩, ⟨(some 17), .mov (.t 16), none⟩, ⟨(some 18), .mov (.t 0), (some (17, true))⟩, ⟨(some 19), .call (.c (.fn (f_lexer_IsWord N) [] [])) [(.t 18)], (some (17, true))⟩, ⟨(some 20), .un .not (.t 19), (some (17, true))⟩, ⟨(some 21), .pick (.t 17) (.t 20) (.c (.lit (.bool false))), none⟩, ⟨(some 2), .mov (.t 21), none⟩]) (
 .ret)), false⟩

/-- azimuth/lexer.IsWord -/
def C_lexer_IsWord (N : Nat → Nat) : AFunc := ⟨6, [.inl 2],
 .seq (
  .ops [⟨(some 2), .mov (.c (.lit (.bool false))), none⟩]) (
 .seq (
  .ops [⟨(some 3), .call (.c (.fn (f_lexer_words N) [] [])) [], none⟩, ⟨(some 4), .mov (.t 0), none⟩, ⟨(some 5), .call (.c (.fn (f_slices_Contains_sl_string_string N) [] [])) [(.t 3), (.t 4)], none⟩, ⟨(some 2), .mov (.t 5), none⟩]) (
 .ret)), false⟩

def L_lexer_Lex_1 (N : Nat → Nat) : AC :=
    .seq (
     .seq (
      .ops [⟨(some 24), .mov (.t 7), none⟩, ⟨(some 25), .mov (.t 6), none⟩, ⟨(some 26), .lens (.t 25), none⟩, ⟨(some 27), .bin .lss (.t 24) (.t 26), none⟩]) (
     .cond (.t 27) (
      .skip) (
      .exit 0))) (
    .block 1 (
     .seq (
      .ops [⟨(some 29), .mov (.t 6), none⟩, ⟨(some 30), .mov (.t 7), none⟩, ⟨(some 31), .slstr (.t 29) (some (.t 30)) none, none⟩, ⟨(some 32), .call (.c (.fn (f_lexer_one N) [] [])) [(.t 31)], none⟩, ⟨(some 28), .mov (.t 32), none⟩, ⟨(some 33), .extract (.t 28) 0, none⟩, ⟨(some 34), .extract (.t 28) 1, none⟩, ⟨(some 8), .new (t_api_Token N) (.agg [(.lit (.int .i64 0)), (.lit (.string (mkS []))), (.lit (.int .i64 0))]), none⟩, ⟨none, .store 3 (.t 8) (.t 33), none⟩, ⟨(some 9), .mov (.t 34), none⟩]) (
     .seq (
      .seq (
       .ops [⟨(some 35), .mov (.t 9), none⟩, ⟨(some 36), .eq false .pint (.t 35) (.c (.lit (.int .i64 0))), none⟩]) (
      .cond (.t 36) (
       .seq (
        .ops [⟨(some 37), .mov (.t 7), none⟩, ⟨(some 38), .build [(.lit (.int .i64 0)), (.lit (.int .i64 0)), (.lit (.string (mkS [])))] [(0, 1, (.c (.lit (.int .i64 3)))), (1, 1, (.t 37))], none⟩, ⟨(some 2), .mov (.c (.lit (.slice none 0 0))), none⟩, ⟨none, .store 3 (.t 3) (.t 38), none⟩]) (
       .ret)) (
       .skip))) (
     .seq (
      .ops [⟨(some 39), .mov (.t 7), none⟩, ⟨(some 40), .faddr 2 (.t 8), none⟩, ⟨none, .store 1 (.t 40) (.t 39), none⟩]) (
     .seq (
      .ops [⟨(some 41), .mov (.t 5), none⟩, ⟨(some 42), .load (some 3) (.t 8), none⟩, ⟨(some 43), .bslice (t_api_Token N) 3 (some 3) 1 [(.lit (.int .i64 0)), (.lit (.string (mkS []))), (.lit (.int .i64 0))] [(0, 3, (.t 42))], none⟩, ⟨(some 44), .append (t_api_Token N) 3 32 (.t 41) (.t 43), none⟩, ⟨(some 5), .mov (.t 44), none⟩]) (
     .seq (
      .ops [⟨(some 45), .mov (.t 7), none⟩, ⟨(some 46), .mov (.t 9), none⟩, ⟨(some 47), .bin .add (.t 45) (.t 46), none⟩, ⟨(some 7), .mov (.t 47), none⟩]) (
     .ops [⟨(some 48), .mov (.t 7), none⟩, ⟨(some 49), .mov (.t 6), none⟩, ⟨(some 50), .mov (.t 7), none⟩, ⟨(some 51), .slstr (.t 49) (some (.t 50)) none, none⟩, ⟨(some 52), .call (.c (.fn (f_lexer_blank N) [] [])) [(.t 51)], none⟩, ⟨(some 53), .bin .add (.t 48) (.t 52), none⟩, ⟨(some 7), .mov (.t 53), none⟩])))))))
def K_lexer_Lex_1 (N : Nat → Nat) : AC :=
 .seq (
  .ops [⟨(some 54), .mov (.t 5), none⟩, ⟨(some 55), .mov (.t 6), none⟩, ⟨(some 56), .lens (.t 55), none⟩, ⟨(some 57), .build [(.lit (.int .i64 0)), (.lit (.string (mkS []))), (.lit (.int .i64 0))] [(0, 1, (.c (.lit (.int .i64 0)))), (2, 1, (.t 56))], none⟩, ⟨(some 58), .bslice (t_api_Token N) 3 (some 3) 1 [(.lit (.int .i64 0)), (.lit (.string (mkS []))), (.lit (.int .i64 0))] [(0, 3, (.t 57))], none⟩, ⟨(some 59), .append (t_api_Token N) 3 32 (.t 54) (.t 58), none⟩, ⟨(some 60), .build [(.lit (.int .i64 0)), (.lit (.int .i64 0)), (.lit (.string (mkS [])))] [], none⟩, ⟨(some 2), .mov (.t 59), none⟩, ⟨none, .store 3 (.t 3) (.t 60), none⟩]) (
 .ret)
/-- azimuth/lexer.Lex -/
def C_lexer_Lex (N : Nat → Nat) : AFunc := ⟨61, [.inl 2, .inr (3, (some 3))],
 .seq (
  .ops [⟨(some 2), .mov (.c (.lit (.slice none 0 0))), none⟩, ⟨(some 3), .new (t_api_Diag N) (.agg [(.lit (.int .i64 0)), (.lit (.int .i64 0)), (.lit (.string (mkS [])))]), none⟩]) (
 .seq (
  .seq (
   .ops [⟨(some 10), .mov (.t 0), none⟩, ⟨(some 11), .len (.t 10), none⟩, ⟨(some 12), .bin .gtr (.t 11) (.c (.lit (.int .i64 1048576))), none⟩]) (
  .cond (.t 12) (
   .seq (
    .ops [⟨(some 13), .build [(.lit (.int .i64 0)), (.lit (.int .i64 0)), (.lit (.string (mkS [])))] [(0, 1, (.c (.lit (.int .i64 6))))], none⟩, ⟨(some 2), .mov (.c (.lit (.slice none 0 0))), none⟩, ⟨none, .store 3 (.t 3) (.t 13), none⟩]) (
   .ret)) (
   .skip))) (
 .seq (
  .seq (
   .ops [⟨(some 14), .mov (.t 0), none⟩, ⟨(some 15), .call (.c (.fn (f_runes_Bad N) [] [])) [(.t 14)], none⟩, ⟨(some 4), .mov (.t 15), none⟩]) (
  .seq (
   .ops [⟨(some 16), .mov (.t 4), none⟩, ⟨(some 17), .bin .geq (.t 16) (.c (.lit (.int .i64 0))), none⟩]) (
  .cond (.t 17) (
   .seq (
    .ops [⟨(some 18), .mov (.t 4), none⟩, ⟨(some 19), .build [(.lit (.int .i64 0)), (.lit (.int .i64 0)), (.lit (.string (mkS [])))] [(0, 1, (.c (.lit (.int .i64 2)))), (1, 1, (.t 18))], none⟩, ⟨(some 2), .mov (.c (.lit (.slice none 0 0))), none⟩, ⟨none, .store 3 (.t 3) (.t 19), none⟩]) (
   .ret)) (
   .skip)))) (
 .seq (
  .ops [⟨(some 5), .mov (.c (.lit (.slice none 0 0))), none⟩]) (
 .seq (
  .ops [⟨(some 20), .mov (.t 0), none⟩, ⟨(some 21), .conv .str (.t 20), none⟩, ⟨(some 6), .mov (.t 21), none⟩]) (
 .seq (
  .ops [⟨(some 22), .mov (.t 6), none⟩, ⟨(some 23), .call (.c (.fn (f_lexer_blank N) [] [])) [(.t 22)], none⟩, ⟨(some 7), .mov (.t 23), none⟩]) (
 .seq (
  .block 0 (
   .loop (L_lexer_Lex_1 N))) (K_lexer_Lex_1 N))))))), true⟩

def L_lexer_Quote_1 (N : Nat → Nat) : AC :=
    .seq (
     .ops [⟨(some 9), .bin .lss (.t 8) (.t 7), none⟩]) (
    .seq (
     .cond (.t 9) (
      .skip) (
      .exit 0)) (
    .seq (
     .block 1 (
      .seq (
       .ops [⟨(some 10), .mov (.t 8), none⟩, ⟨(some 4), .mov (.t 10), none⟩]) (
      .seq (
       .ops [⟨(some 11), .mov (.t 0), none⟩, ⟨(some 12), .mov (.t 4), none⟩, ⟨(some 13), .sidx (.t 11) (.t 12), none⟩]) (
      .block 2 (
       .seq (
        .seq (
         .ops [⟨(some 21), .eq false .pint (.t 13) (.c (.lit (.int .u8 34))), none⟩, ⟨(some 20), .mov (.t 21), none⟩]) (
        .cond (.t 20) (
         .skip) (
         .ops [⟨(some 22), .eq false .pint (.t 13) (.c (.lit (.int .u8 92))), none⟩, ⟨(some 20), .mov (.t 22), none⟩]))) (
       .cond (.t 20) (
        .ops [⟨(some 23), .mov (.t 3), none⟩, ⟨(some 24), .mov (.t 0), none⟩, ⟨(some 25), .mov (.t 4), none⟩, ⟨(some 26), .sidx (.t 24) (.t 25), none⟩, ⟨(some 27), .bslice (t_uint8 N) 1 none 2 [(.lit (.int .u8 0))] [(0, 1, (.c (.lit (.int .u8 92)))), (1, 1, (.t 26))], none⟩, ⟨(some 28), .append (t_uint8 N) 1 1 (.t 23) (.t 27), none⟩, ⟨(some 3), .mov (.t 28), none⟩]) (
        .seq (
         .ops [⟨(some 30), .eq false .pint (.t 13) (.c (.lit (.int .u8 10))), none⟩, ⟨(some 29), .mov (.t 30), none⟩]) (
        .cond (.t 29) (
         .ops [⟨(some 31), .mov (.t 3), none⟩, ⟨(some 32), .bslice (t_uint8 N) 1 none 2 [(.lit (.int .u8 0))] [(0, 1, (.c (.lit (.int .u8 92)))), (1, 1, (.c (.lit (.int .u8 110))))], none⟩, ⟨(some 33), .append (t_uint8 N) 1 1 (.t 31) (.t 32), none⟩, ⟨(some 3), .mov (.t 33), none⟩]) (
         .ops [⟨(some 14), .mov (.t 3), none⟩, ⟨(some 15), .mov (.t 0), none⟩, ⟨(some 16), .mov (.t 4), none⟩, ⟨(some 17), .sidx (.t 15) (.t 16), none⟩, ⟨(some 18), .bslice (t_uint8 N) 1 none 1 [(.lit (.int .u8 0))] [(0, 1, (.t 17))], none⟩, ⟨(some 19), .append (t_uint8 N) 1 1 (.t 14) (.t 18), none⟩, ⟨(some 3), .mov (.t 19), none⟩]))))))))) (
    .ops [⟨(some 34), .bin .add (.t 8) (.c (.lit (.int .i64 1))), none⟩, ⟨(some 8), .mov (.t 34), none⟩])))
def K_lexer_Quote_1 (N : Nat → Nat) : AC :=
 .seq (
  .ops [⟨(some 35), .mov (.t 3), none⟩, ⟨(some 36), .bslice (t_uint8 N) 1 none 1 [(.lit (.int .u8 0))] [(0, 1, (.c (.lit (.int .u8 34))))], none⟩, ⟨(some 37), .append (t_uint8 N) 1 1 (.t 35) (.t 36), none⟩, ⟨(some 38), .conv .str (.t 37), none⟩, ⟨(some 2), .mov (.t 38), none⟩]) (
 .ret)
/-- azimuth/lexer.Quote -/
def C_lexer_Quote (N : Nat → Nat) : AFunc := ⟨39, [.inl 2],
 .seq (
  .ops [⟨(some 2), .mov (.c (.lit (.string (mkS [])))), none⟩]) (
 .seq (
  .ops [⟨(some 5), .bslice (t_uint8 N) 1 none 1 [(.lit (.int .u8 0))] [(0, 1, (.c (.lit (.int .u8 34))))], none⟩, ⟨(some 3), .mov (.t 5), none⟩]) (
 .seq (
  .seq (
   .ops [⟨(some 6), .mov (.t 0), none⟩, ⟨(some 7), .lens (.t 6), none⟩, ⟨(some 8), .mov (.c (.lit (.int .i64 0))), none⟩]) (
  .block 0 (
   .loop (L_lexer_Quote_1 N)))) (K_lexer_Quote_1 N))), false⟩

def L_lexer_blank_1 (N : Nat → Nat) : AC :=
    .seq (
     .seq (
      .ops [⟨(some 4), .mov (.t 3), none⟩, ⟨(some 5), .mov (.t 0), none⟩, ⟨(some 6), .lens (.t 5), none⟩, ⟨(some 7), .bin .lss (.t 4) (.t 6), none⟩]) (
     .cond (.t 7) (
      .skip) (
      .exit 0))) (
    .block 1 (
     .block 2 (
      .seq (
       .ops [⟨(some 10), .mov (.t 0), none⟩, ⟨(some 11), .mov (.t 3), none⟩, ⟨(some 12), .sidx (.t 10) (.t 11), none⟩, ⟨(some 13), .call (.c (.fn (f_strings_IndexByte N) [] [])) [(.c (.lit (.string (mkS [32, 9, 10, 13])))), (.t 12)], none⟩, ⟨(some 14), .bin .geq (.t 13) (.c (.lit (.int .i64 0))), none⟩, ⟨(some 9), .mov (.t 14), none⟩]) (
      .cond (.t 9) (
       .ops [⟨(some 15), .mov (.t 3), none⟩, ⟨(some 16), .bin .add (.t 15) (.c (.lit (.int .i64 1))), none⟩, ⟨(some 3), .mov (.t 16), none⟩]) (
       .seq (
        .ops [⟨(some 18), .mov (.t 0), none⟩, ⟨(some 19), .mov (.t 3), none⟩, ⟨(some 20), .slstr (.t 18) (some (.t 19)) none, none⟩, ⟨(some 21), .call (.c (.fn (f_strings_HasPrefix N) [] [])) [(.t 20), (.c (.lit (.string (mkS [47, 47]))))], none⟩, ⟨(some 17), .mov (.t 21), none⟩]) (
       .cond (.t 17) (
        .ops [⟨(some 22), .mov (.t 3), none⟩, ⟨(some 23), .mov (.t 0), none⟩, ⟨(some 24), .mov (.t 3), none⟩, ⟨(some 25), .slstr (.t 23) (some (.t 24)) none, none⟩, ⟨(some 26), .call (.c (.fn (f_lexer_run N) [] [])) [(.t 25), (.c (.fn (f_lexer_blank_1 N) [] []))], none⟩, ⟨(some 27), .bin .add (.t 22) (.t 26), none⟩, ⟨(some 3), .mov (.t 27), none⟩]) (
        .seq (
         .ops [⟨(some 8), .mov (.t 3), none⟩, ⟨(some 2), .mov (.t 8), none⟩]) (
        .ret))))))))
def K_lexer_blank_1 (N : Nat → Nat) : AC :=
 .seq (
  .ops [⟨(some 28), .mov (.t 3), none⟩, ⟨(some 2), .mov (.t 28), none⟩]) (
 .ret)
/-- azimuth/lexer.blank -/
def C_lexer_blank (N : Nat → Nat) : AFunc := ⟨29, [.inl 2],
 .seq (
  .ops [⟨(some 2), .mov (.c (.lit (.int .i64 0))), none⟩]) (
 .seq (
  .ops [⟨(some 3), .mov (.c (.lit (.int .i64 0))), none⟩]) (
 .seq (
  .block 0 (
   .loop (L_lexer_blank_1 N))) (K_lexer_blank_1 N))), false⟩

/-- azimuth/lexer.blank$1 -/
def C_lexer_blank_1 (N : Nat → Nat) : AFunc := ⟨5, [.inl 2],
 .seq (
  .ops [⟨(some 2), .mov (.c (.lit (.bool false))), none⟩]) (
 .seq (
  .ops [⟨(some 3), .mov (.t 0), none⟩, ⟨(some 4), .eq true .pint (.t 3) (.c (.lit (.int .u8 10))), none⟩, ⟨(some 2), .mov (.t 4), none⟩]) (
 .ret)), false⟩

/-- azimuth/lexer.digit -/
def C_lexer_digit (N : Nat → Nat) : AFunc := ⟨9, [.inl 2],
 .seq (
  .ops [⟨(some 2), .mov (.c (.lit (.bool false))), none⟩]) (
 .seq (
  .ops [⟨(some 3), .mov (.t 0), none⟩, ⟨(some 4), .bin .geq (.t 3) (.c (.lit (.int .u8 48))), none⟩, ⟨(some 5), .mov (.t 4), none⟩, ⟨(some 6), .mov (.t 0), (some (5, true))⟩, ⟨(some 7), .bin .leq (.t 6) (.c (.lit (.int .u8 57))), (some (5, true))⟩, ⟨(some 8), .pick (.t 5) (.t 7) (.c (.lit (.bool false))), none⟩, ⟨(some 2), .mov (.t 8), none⟩]) (
 .ret)), false⟩

/-- azimuth/lexer.float -/
def C_lexer_float (N : Nat → Nat) : AFunc := ⟨19, [.inl 2, .inl 3],
 .seq (
  .ops [⟨(some 2), .mov (.c (.lit (.string (mkS [])))), none⟩, ⟨(some 3), .mov (.c (.lit (.bool false))), none⟩]) (
 .seq (
  .seq (
   .ops [⟨(some 6), .mov (.t 0), none⟩, ⟨(some 7), .lens (.t 6), none⟩, ⟨(some 8), .bin .lss (.t 7) (.c (.lit (.int .i64 18))), none⟩]) (
  .cond (.t 8) (
   .seq (
    .ops [⟨(some 2), .mov (.c (.lit (.string (mkS [])))), none⟩, ⟨(some 3), .mov (.c (.lit (.bool false))), none⟩]) (
   .ret)) (
   .skip))) (
 .seq (
  .ops [⟨(some 10), .mov (.t 0), none⟩, ⟨(some 11), .slstr (.t 10) none (some (.c (.lit (.int .i64 18)))), none⟩, ⟨(some 12), .call (.c (.fn (f_floats_Parse N) [] [])) [(.t 11)], none⟩, ⟨(some 9), .mov (.t 12), none⟩, ⟨(some 13), .extract (.t 9) 0, none⟩, ⟨(some 14), .extract (.t 9) 1, none⟩, ⟨(some 4), .mov (.t 13), none⟩, ⟨(some 5), .mov (.t 14), none⟩]) (
 .seq (
  .ops [⟨(some 15), .mov (.t 0), none⟩, ⟨(some 16), .slstr (.t 15) none (some (.c (.lit (.int .i64 18)))), none⟩, ⟨(some 17), .mov (.t 5), none⟩, ⟨(some 18), .eq false .pint (.t 17) (.c (.lit (.int .i64 0))), none⟩, ⟨(some 2), .mov (.t 16), none⟩, ⟨(some 3), .mov (.t 18), none⟩]) (
 .ret)))), false⟩

/-- azimuth/lexer.high -/
def C_lexer_high (N : Nat → Nat) : AFunc := ⟨9, [.inl 2],
 .seq (
  .ops [⟨(some 2), .mov (.c (.lit (.bool false))), none⟩]) (
 .seq (
  .ops [⟨(some 3), .mov (.t 0), none⟩, ⟨(some 4), .bin .geq (.t 3) (.c (.lit (.int .u8 65))), none⟩, ⟨(some 5), .mov (.t 4), none⟩, ⟨(some 6), .mov (.t 0), (some (5, true))⟩, ⟨(some 7), .bin .leq (.t 6) (.c (.lit (.int .u8 90))), (some (5, true))⟩, ⟨(some 8), .pick (.t 5) (.t 7) (.c (.lit (.bool false))), none⟩, ⟨(some 2), .mov (.t 8), none⟩]) (
 .ret)), false⟩

/-- azimuth/lexer.inAlias -/
def C_lexer_inAlias (N : Nat → Nat) : AFunc := ⟨17, [.inl 2],
 .seq (
  .ops [⟨(some 2), .mov (.c (.lit (.bool false))), none⟩]) (
 .seq (
  .ops [⟨(some 3), .mov (.t 0), none⟩, ⟨(some 4), .call (.c (.fn (f_lexer_high N) [] [])) [(.t 3)], none⟩, ⟨(some 5), .mov (.t 4), none⟩, ⟨(some 6), .mov (.t 0), (some (5, false))⟩, ⟨(some 7), .call (.c (.fn (f_lexer_digit N) [] [])) [(.t 6)], (some (5, false))⟩, ⟨(some 8), .pick (.t 5) (.c (.lit (.bool true))) (.t 7), none⟩, ⟨(some 9), .mov (.t 8), none⟩, ⟨(some 10), .mov (.t 0), (some (9, false))⟩, ⟨(some 11), .bin .geq (.t 10) (.c (.lit (.int .u8 97))), (some (9, false))⟩, ⟨(some 12), .mov (.t 11), (some (9, false))⟩, ⟨(some 13), .mov (.t 0), (some (12, true))⟩, ⟨(some 14), .bin .leq (.t 13) (.c (.lit (.int .u8 122))), (some (12, true))⟩, ⟨(some 15), .pick (.t 12) (.t 14) (.c (.lit (.bool false))), (some (9, false))⟩, ⟨(some 16), .pick (.t 9) (.c (.lit (.bool true))) (.t 15), none⟩, ⟨(some 2), .mov (.t 16), none⟩]) (
 .ret)), false⟩

/-- azimuth/lexer.inName -/
def C_lexer_inName (N : Nat → Nat) : AFunc := ⟨9, [.inl 2],
 .seq (
  .ops [⟨(some 2), .mov (.c (.lit (.bool false))), none⟩]) (
 .seq (
  .ops [⟨(some 3), .mov (.t 0), none⟩, ⟨(some 4), .call (.c (.fn (f_lexer_low N) [] [])) [(.t 3)], none⟩, ⟨(some 5), .mov (.t 4), none⟩, ⟨(some 6), .mov (.t 0), (some (5, false))⟩, ⟨(some 7), .call (.c (.fn (f_lexer_digit N) [] [])) [(.t 6)], (some (5, false))⟩, ⟨(some 8), .pick (.t 5) (.c (.lit (.bool true))) (.t 7), none⟩, ⟨(some 2), .mov (.t 8), none⟩]) (
 .ret)), false⟩

/-- azimuth/lexer.low -/
def C_lexer_low (N : Nat → Nat) : AFunc := ⟨13, [.inl 2],
 .seq (
  .ops [⟨(some 2), .mov (.c (.lit (.bool false))), none⟩]) (
 .seq (
  .ops [⟨(some 3), .mov (.t 0), none⟩, ⟨(some 4), .bin .geq (.t 3) (.c (.lit (.int .u8 97))), none⟩, ⟨(some 5), .mov (.t 4), none⟩, ⟨(some 6), .mov (.t 0), (some (5, true))⟩, ⟨(some 7), .bin .leq (.t 6) (.c (.lit (.int .u8 122))), (some (5, true))⟩, ⟨(some 8), .pick (.t 5) (.t 7) (.c (.lit (.bool false))), none⟩, ⟨(some 9), .mov (.t 8), none⟩, ⟨(some 10), .mov (.t 0), (some (9, false))⟩, ⟨(some 11), .eq false .pint (.t 10) (.c (.lit (.int .u8 95))), (some (9, false))⟩, ⟨(some 12), .pick (.t 9) (.c (.lit (.bool true))) (.t 11), none⟩, ⟨(some 2), .mov (.t 12), none⟩]) (
 .ret)), false⟩

/-- azimuth/lexer.number -/
def C_lexer_number (N : Nat → Nat) : AFunc := ⟨23, [.inl 2],
 .seq (
  .ops [⟨(some 2), .mov (.c (.lit (.bool false))), none⟩]) (
 .seq (
  .seq (
   .ops [⟨(some 3), .mov (.t 0), none⟩, ⟨(some 4), .lens (.t 3), none⟩, ⟨(some 5), .bin .gtr (.t 4) (.c (.lit (.int .i64 1))), none⟩, ⟨(some 6), .mov (.t 5), none⟩, ⟨(some 7), .mov (.t 0), (some (6, true))⟩, ⟨(some 8), .sidx (.t 7) (.c (.lit (.int .i64 0))), (some (6, true))⟩, ⟨(some 9), .eq false .pint (.t 8) (.c (.lit (.int .u8 48))), (some (6, true))⟩, ⟨(some 10), .pick (.t 6) (.t 9) (.c (.lit (.bool false))), none⟩]) (
  .cond (.t 10) (
   .seq (
    .ops [⟨(some 2), .mov (.c (.lit (.bool false))), none⟩]) (
   .ret)) (
   .skip))) (
 .seq (
  .ops [⟨(some 11), .mov (.t 0), none⟩, ⟨(some 12), .lens (.t 11), none⟩, ⟨(some 13), .bin .lss (.t 12) (.c (.lit (.int .i64 19))), none⟩, ⟨(some 14), .mov (.t 13), none⟩, ⟨(some 15), .mov (.t 0), (some (14, false))⟩, ⟨(some 16), .lens (.t 15), (some (14, false))⟩, ⟨(some 17), .eq false .pint (.t 16) (.c (.lit (.int .i64 19))), (some (14, false))⟩, ⟨(some 18), .mov (.t 17), (some (14, false))⟩, ⟨(some 19), .mov (.t 0), (some (18, true))⟩, ⟨(some 20), .bin .leq (.t 19) (.c (.lit (.string (mkS [57, 50, 50, 51, 51, 55, 50, 48, 51, 54, 56, 53, 52, 55, 55, 53, 56, 48, 55])))), (some (18, true))⟩, ⟨(some 21), .pick (.t 18) (.t 20) (.c (.lit (.bool false))), (some (14, false))⟩, ⟨(some 22), .pick (.t 14) (.c (.lit (.bool true))) (.t 21), none⟩, ⟨(some 2), .mov (.t 22), none⟩]) (
 .ret))), false⟩

def L_lexer_one_1 (N : Nat → Nat) : AC :=
    .seq (
     .ops [⟨(some 118), .bin .lss (.t 117) (.t 116), none⟩]) (
    .seq (
     .cond (.t 118) (
      .skip) (
      .exit 1)) (
    .seq (
     .block 2 (
      .seq (
       .ops [⟨(some 119), .iaddr 1 (.t 115) (.t 117), none⟩, ⟨(some 120), .load none (.t 119), none⟩, ⟨(some 14), .mov (.t 120), none⟩]) (
      .seq (
       .ops [⟨(some 121), .mov (.t 0), none⟩, ⟨(some 122), .mov (.t 14), none⟩, ⟨(some 123), .call (.c (.fn (f_strings_HasPrefix N) [] [])) [(.t 121), (.t 122)], none⟩]) (
      .cond (.t 123) (
       .seq (
        .ops [⟨(some 124), .mov (.t 14), none⟩, ⟨(some 125), .build [(.lit (.int .i64 0)), (.lit (.string (mkS []))), (.lit (.int .i64 0))] [(0, 1, (.c (.lit (.int .i64 8)))), (1, 1, (.t 124))], none⟩, ⟨(some 126), .mov (.t 14), none⟩, ⟨(some 127), .lens (.t 126), none⟩, ⟨none, .store 3 (.t 2) (.t 125), none⟩, ⟨(some 3), .mov (.t 127), none⟩]) (
       .ret)) (
       .skip))))) (
    .ops [⟨(some 128), .bin .add (.t 117) (.c (.lit (.int .i64 1))), none⟩, ⟨(some 117), .mov (.t 128), none⟩])))
def K_lexer_one_1 (N : Nat → Nat) : AC :=
 .seq (
  .ops [⟨(some 129), .build [(.lit (.int .i64 0)), (.lit (.string (mkS []))), (.lit (.int .i64 0))] [], none⟩, ⟨none, .store 3 (.t 2) (.t 129), none⟩, ⟨(some 3), .mov (.c (.lit (.int .i64 0))), none⟩]) (
 .ret)
/-- azimuth/lexer.one -/
def C_lexer_one (N : Nat → Nat) : AFunc := ⟨130, [.inr (2, (some 3)), .inl 3],
 .seq (
  .ops [⟨(some 2), .new (t_api_Token N) (.agg [(.lit (.int .i64 0)), (.lit (.string (mkS []))), (.lit (.int .i64 0))]), none⟩, ⟨(some 3), .mov (.c (.lit (.int .i64 0))), none⟩]) (
 .seq (
  .ops [⟨(some 15), .mov (.t 0), none⟩, ⟨(some 16), .sidx (.t 15) (.c (.lit (.int .i64 0))), none⟩, ⟨(some 4), .mov (.t 16), none⟩]) (
 .seq (
  .block 0 (
   .seq (
    .ops [⟨(some 18), .mov (.t 0), none⟩, ⟨(some 19), .call (.c (.fn (f_strings_HasPrefix N) [] [])) [(.t 18), (.c (.lit (.string (mkS [102, 39]))))], none⟩, ⟨(some 17), .mov (.t 19), none⟩]) (
   .cond (.t 17) (
    .seq (
     .ops [⟨(some 21), .mov (.t 0), none⟩, ⟨(some 22), .call (.c (.fn (f_lexer_float N) [] [])) [(.t 21)], none⟩, ⟨(some 20), .mov (.t 22), none⟩, ⟨(some 23), .extract (.t 20) 0, none⟩, ⟨(some 24), .extract (.t 20) 1, none⟩, ⟨(some 5), .mov (.t 23), none⟩, ⟨(some 6), .mov (.t 24), none⟩]) (
    .seq (
     .seq (
      .ops [⟨(some 25), .mov (.t 6), none⟩, ⟨(some 26), .un .not (.t 25), none⟩]) (
     .cond (.t 26) (
      .seq (
       .ops [⟨(some 27), .build [(.lit (.int .i64 0)), (.lit (.string (mkS []))), (.lit (.int .i64 0))] [], none⟩, ⟨none, .store 3 (.t 2) (.t 27), none⟩, ⟨(some 3), .mov (.c (.lit (.int .i64 0))), none⟩]) (
      .ret)) (
      .skip))) (
    .seq (
     .ops [⟨(some 28), .mov (.t 5), none⟩, ⟨(some 29), .build [(.lit (.int .i64 0)), (.lit (.string (mkS []))), (.lit (.int .i64 0))] [(0, 1, (.c (.lit (.int .i64 5)))), (1, 1, (.t 28))], none⟩, ⟨(some 30), .mov (.t 5), none⟩, ⟨(some 31), .lens (.t 30), none⟩, ⟨none, .store 3 (.t 2) (.t 29), none⟩, ⟨(some 3), .mov (.t 31), none⟩]) (
    .ret)))) (
    .seq (
     .ops [⟨(some 33), .mov (.t 4), none⟩, ⟨(some 34), .call (.c (.fn (f_lexer_low N) [] [])) [(.t 33)], none⟩, ⟨(some 32), .mov (.t 34), none⟩]) (
    .cond (.t 32) (
     .seq (
      .ops [⟨(some 35), .mov (.t 0), none⟩, ⟨(some 36), .call (.c (.fn (f_lexer_run N) [] [])) [(.t 35), (.c (.fn (f_lexer_inName N) [] []))], none⟩, ⟨(some 7), .mov (.t 36), none⟩]) (
     .seq (
      .seq (
       .ops [⟨(some 37), .mov (.t 0), none⟩, ⟨(some 38), .mov (.t 7), none⟩, ⟨(some 39), .slstr (.t 37) none (some (.t 38)), none⟩, ⟨(some 40), .call (.c (.fn (f_lexer_IsWord N) [] [])) [(.t 39)], none⟩]) (
      .cond (.t 40) (
       .seq (
        .ops [⟨(some 41), .mov (.t 0), none⟩, ⟨(some 42), .mov (.t 7), none⟩, ⟨(some 43), .slstr (.t 41) none (some (.t 42)), none⟩, ⟨(some 44), .build [(.lit (.int .i64 0)), (.lit (.string (mkS []))), (.lit (.int .i64 0))] [(0, 1, (.c (.lit (.int .i64 7)))), (1, 1, (.t 43))], none⟩, ⟨(some 45), .mov (.t 7), none⟩, ⟨none, .store 3 (.t 2) (.t 44), none⟩, ⟨(some 3), .mov (.t 45), none⟩]) (
       .ret)) (
       .skip))) (
     .seq (
      .ops [⟨(some 46), .mov (.t 0), none⟩, ⟨(some 47), .mov (.t 7), none⟩, ⟨(some 48), .slstr (.t 46) none (some (.t 47)), none⟩, ⟨(some 49), .build [(.lit (.int .i64 0)), (.lit (.string (mkS []))), (.lit (.int .i64 0))] [(0, 1, (.c (.lit (.int .i64 1)))), (1, 1, (.t 48))], none⟩, ⟨(some 50), .mov (.t 7), none⟩, ⟨none, .store 3 (.t 2) (.t 49), none⟩, ⟨(some 3), .mov (.t 50), none⟩]) (
     .ret)))) (
     .seq (
      .ops [⟨(some 52), .mov (.t 4), none⟩, ⟨(some 53), .call (.c (.fn (f_lexer_high N) [] [])) [(.t 52)], none⟩, ⟨(some 51), .mov (.t 53), none⟩]) (
     .cond (.t 51) (
      .seq (
       .ops [⟨(some 54), .mov (.t 0), none⟩, ⟨(some 55), .call (.c (.fn (f_lexer_run N) [] [])) [(.t 54), (.c (.fn (f_lexer_inAlias N) [] []))], none⟩, ⟨(some 8), .mov (.t 55), none⟩]) (
      .seq (
       .ops [⟨(some 56), .mov (.t 0), none⟩, ⟨(some 57), .mov (.t 8), none⟩, ⟨(some 58), .slstr (.t 56) none (some (.t 57)), none⟩, ⟨(some 59), .build [(.lit (.int .i64 0)), (.lit (.string (mkS []))), (.lit (.int .i64 0))] [(0, 1, (.c (.lit (.int .i64 2)))), (1, 1, (.t 58))], none⟩, ⟨(some 60), .mov (.t 8), none⟩, ⟨none, .store 3 (.t 2) (.t 59), none⟩, ⟨(some 3), .mov (.t 60), none⟩]) (
      .ret))) (
      .seq (
       .ops [⟨(some 62), .mov (.t 4), none⟩, ⟨(some 63), .call (.c (.fn (f_lexer_digit N) [] [])) [(.t 62)], none⟩, ⟨(some 61), .mov (.t 63), none⟩]) (
      .cond (.t 61) (
       .seq (
        .ops [⟨(some 64), .mov (.t 0), none⟩, ⟨(some 65), .call (.c (.fn (f_lexer_run N) [] [])) [(.t 64), (.c (.fn (f_lexer_digit N) [] []))], none⟩, ⟨(some 9), .mov (.t 65), none⟩]) (
       .seq (
        .seq (
         .ops [⟨(some 66), .mov (.t 0), none⟩, ⟨(some 67), .mov (.t 9), none⟩, ⟨(some 68), .slstr (.t 66) none (some (.t 67)), none⟩, ⟨(some 69), .call (.c (.fn (f_lexer_number N) [] [])) [(.t 68)], none⟩, ⟨(some 70), .un .not (.t 69), none⟩]) (
        .cond (.t 70) (
         .seq (
          .ops [⟨(some 71), .build [(.lit (.int .i64 0)), (.lit (.string (mkS []))), (.lit (.int .i64 0))] [], none⟩, ⟨none, .store 3 (.t 2) (.t 71), none⟩, ⟨(some 3), .mov (.c (.lit (.int .i64 0))), none⟩]) (
         .ret)) (
         .skip))) (
       .seq (
        .ops [⟨(some 72), .mov (.t 0), none⟩, ⟨(some 73), .mov (.t 9), none⟩, ⟨(some 74), .slstr (.t 72) none (some (.t 73)), none⟩, ⟨(some 75), .build [(.lit (.int .i64 0)), (.lit (.string (mkS []))), (.lit (.int .i64 0))] [(0, 1, (.c (.lit (.int .i64 4)))), (1, 1, (.t 74))], none⟩, ⟨(some 76), .mov (.t 9), none⟩, ⟨none, .store 3 (.t 2) (.t 75), none⟩, ⟨(some 3), .mov (.t 76), none⟩]) (
       .ret)))) (
       .seq (
        .ops [⟨(some 78), .mov (.t 4), none⟩, ⟨(some 79), .eq false .pint (.t 78) (.c (.lit (.int .u8 35))), none⟩, ⟨(some 80), .mov (.t 79), none⟩, ⟨(some 81), .mov (.t 0), (some (80, true))⟩, ⟨(some 82), .lens (.t 81), (some (80, true))⟩, ⟨(some 83), .bin .gtr (.t 82) (.c (.lit (.int .i64 1))), (some (80, true))⟩, ⟨(some 84), .pick (.t 80) (.t 83) (.c (.lit (.bool false))), none⟩, ⟨(some 85), .mov (.t 84), none⟩, ⟨(some 86), .mov (.t 0), (some (85, true))⟩, ⟨(some 87), .sidx (.t 86) (.c (.lit (.int .i64 1))), (some (85, true))⟩, ⟨(some 88), .call (.c (.fn (f_lexer_low N) [] [])) [(.t 87)], (some (85, true))⟩, ⟨(some 89), .pick (.t 85) (.t 88) (.c (.lit (.bool false))), none⟩, ⟨(some 77), .mov (.t 89), none⟩]) (
       .cond (.t 77) (
        .seq (
         .ops [⟨(some 90), .mov (.t 0), none⟩, ⟨(some 91), .slstr (.t 90) (some (.c (.lit (.int .i64 1)))) none, none⟩, ⟨(some 92), .call (.c (.fn (f_lexer_run N) [] [])) [(.t 91), (.c (.fn (f_lexer_inName N) [] []))], none⟩, ⟨(some 93), .bin .add (.c (.lit (.int .i64 1))) (.t 92), none⟩, ⟨(some 10), .mov (.t 93), none⟩]) (
        .seq (
         .ops [⟨(some 94), .mov (.t 0), none⟩, ⟨(some 95), .mov (.t 10), none⟩, ⟨(some 96), .slstr (.t 94) (some (.c (.lit (.int .i64 1)))) (some (.t 95)), none⟩, ⟨(some 97), .build [(.lit (.int .i64 0)), (.lit (.string (mkS []))), (.lit (.int .i64 0))] [(0, 1, (.c (.lit (.int .i64 3)))), (1, 1, (.t 96))], none⟩, ⟨(some 98), .mov (.t 10), none⟩, ⟨none, .store 3 (.t 2) (.t 97), none⟩, ⟨(some 3), .mov (.t 98), none⟩]) (
        .ret))) (
        .seq (
         .ops [⟨(some 100), .mov (.t 4), none⟩, ⟨(some 101), .eq false .pint (.t 100) (.c (.lit (.int .u8 34))), none⟩, ⟨(some 99), .mov (.t 101), none⟩]) (
        .cond (.t 99) (
         .seq (
          .ops [⟨(some 103), .mov (.t 0), none⟩, ⟨(some 104), .slstr (.t 103) (some (.c (.lit (.int .i64 1)))) none, none⟩, ⟨(some 105), .call (.c (.fn (f_lexer_text N) [] [])) [(.t 104)], none⟩, ⟨(some 102), .mov (.t 105), none⟩, ⟨(some 106), .extract (.t 102) 0, none⟩, ⟨(some 107), .extract (.t 102) 1, none⟩, ⟨(some 11), .mov (.t 106), none⟩, ⟨(some 12), .mov (.t 107), none⟩]) (
         .seq (
          .seq (
           .ops [⟨(some 108), .mov (.t 12), none⟩, ⟨(some 109), .bin .lss (.t 108) (.c (.lit (.int .i64 0))), none⟩]) (
          .cond (.t 109) (
           .seq (
            .ops [⟨(some 110), .build [(.lit (.int .i64 0)), (.lit (.string (mkS []))), (.lit (.int .i64 0))] [], none⟩, ⟨none, .store 3 (.t 2) (.t 110), none⟩, ⟨(some 3), .mov (.c (.lit (.int .i64 0))), none⟩]) (
           .ret)) (
           .skip))) (
         .seq (
          .ops [⟨(some 111), .mov (.t 11), none⟩, ⟨(some 112), .build [(.lit (.int .i64 0)), (.lit (.string (mkS []))), (.lit (.int .i64 0))] [(0, 1, (.c (.lit (.int .i64 6)))), (1, 1, (.t 111))], none⟩, ⟨(some 113), .mov (.t 12), none⟩, ⟨(some 114), .bin .add (.t 113) (.c (.lit (.int .i64 1))), none⟩, ⟨none, .store 3 (.t 2) (.t 112), none⟩, ⟨(some 3), .mov (.t 114), none⟩]) (
         .ret)))) (
         .skip)))))))))))))) (
 .seq (
  .seq (
   .ops [⟨(some 115), .call (.c (.fn (f_lexer_signs N) [] [])) [], none⟩, ⟨(some 116), .len (.t 115), none⟩, ⟨(some 117), .mov (.c (.lit (.int .i64 0))), none⟩]) (
  .block 1 (
   .loop (L_lexer_one_1 N)))) (K_lexer_one_1 N)))), false⟩

def L_lexer_run_1 (N : Nat → Nat) : AC :=
    .seq (
     .seq (
      .ops [⟨(some 6), .mov (.t 5), none⟩, ⟨(some 7), .mov (.t 0), none⟩, ⟨(some 8), .lens (.t 7), none⟩, ⟨(some 9), .bin .lss (.t 6) (.t 8), none⟩, ⟨(some 10), .mov (.t 9), none⟩, ⟨(some 11), .mov (.t 1), (some (10, true))⟩, ⟨(some 12), .mov (.t 0), (some (10, true))⟩, ⟨(some 13), .mov (.t 5), (some (10, true))⟩, ⟨(some 14), .sidx (.t 12) (.t 13), (some (10, true))⟩, ⟨(some 15), .call (.t 11) [(.t 14)], (some (10, true))⟩, ⟨(some 16), .pick (.t 10) (.t 15) (.c (.lit (.bool false))), none⟩]) (
     .cond (.t 16) (
      .skip) (
      .exit 0))) (
    .block 1 (
     .ops [⟨(some 17), .mov (.t 5), none⟩, ⟨(some 18), .bin .add (.t 17) (.c (.lit (.int .i64 1))), none⟩, ⟨(some 5), .mov (.t 18), none⟩]))
def K_lexer_run_1 (N : Nat → Nat) : AC :=
 .seq (
  .ops [⟨(some 19), .mov (.t 5), none⟩, ⟨(some 4), .mov (.t 19), none⟩]) (
 .ret)
/-- azimuth/lexer.run -/
def C_lexer_run (N : Nat → Nat) : AFunc := ⟨20, [.inl 4],
 .seq (
  .ops [⟨(some 4), .mov (.c (.lit (.int .i64 0))), none⟩]) (
 .seq (
  .ops [⟨(some 5), .mov (.c (.lit (.int .i64 0))), none⟩]) (
 .seq (
  .block 0 (
   .loop (L_lexer_run_1 N))) (K_lexer_run_1 N))), false⟩

/-- azimuth/lexer.signs -/
def C_lexer_signs (N : Nat → Nat) : AFunc := ⟨2, [.inl 0],
 .seq (
  .ops [⟨(some 0), .mov (.c (.lit (.slice none 0 0))), none⟩]) (
 .seq (
  .ops [⟨(some 1), .bslice (t_string N) 1 none 27 [(.lit (.string (mkS [])))] [(0, 1, (.c (.lit (.string (mkS [61, 62]))))), (1, 1, (.c (.lit (.string (mkS [45, 62]))))), (2, 1, (.c (.lit (.string (mkS [61, 61]))))), (3, 1, (.c (.lit (.string (mkS [46, 46]))))), (4, 1, (.c (.lit (.string (mkS [43, 46]))))), (5, 1, (.c (.lit (.string (mkS [45, 46]))))), (6, 1, (.c (.lit (.string (mkS [42, 46]))))), (7, 1, (.c (.lit (.string (mkS [47, 46]))))), (8, 1, (.c (.lit (.string (mkS [60, 46]))))), (9, 1, (.c (.lit (.string (mkS [40]))))), (10, 1, (.c (.lit (.string (mkS [41]))))), (11, 1, (.c (.lit (.string (mkS [123]))))), (12, 1, (.c (.lit (.string (mkS [125]))))), (13, 1, (.c (.lit (.string (mkS [91]))))), (14, 1, (.c (.lit (.string (mkS [93]))))), (15, 1, (.c (.lit (.string (mkS [44]))))), (16, 1, (.c (.lit (.string (mkS [59]))))), (17, 1, (.c (.lit (.string (mkS [58]))))), (18, 1, (.c (.lit (.string (mkS [46]))))), (19, 1, (.c (.lit (.string (mkS [61]))))), (20, 1, (.c (.lit (.string (mkS [124]))))), (21, 1, (.c (.lit (.string (mkS [43]))))), (22, 1, (.c (.lit (.string (mkS [45]))))), (23, 1, (.c (.lit (.string (mkS [42]))))), (24, 1, (.c (.lit (.string (mkS [47]))))), (25, 1, (.c (.lit (.string (mkS [60]))))), (26, 1, (.c (.lit (.string (mkS [94])))))], none⟩, ⟨(some 0), .mov (.t 1), none⟩]) (
 .ret)), true⟩

def L_lexer_text_1 (N : Nat → Nat) : AC :=
    .seq (
     .seq (
      .ops [⟨(some 8), .mov (.t 5), none⟩, ⟨(some 9), .mov (.t 0), none⟩, ⟨(some 10), .lens (.t 9), none⟩, ⟨(some 11), .bin .lss (.t 8) (.t 10), none⟩]) (
     .cond (.t 11) (
      .skip) (
      .exit 0))) (
    .seq (
     .block 1 (
      .seq (
       .ops [⟨(some 14), .mov (.t 0), none⟩, ⟨(some 15), .mov (.t 5), none⟩, ⟨(some 16), .sidx (.t 14) (.t 15), none⟩, ⟨(some 6), .mov (.t 16), none⟩]) (
      .block 2 (
       .seq (
        .ops [⟨(some 35), .mov (.t 6), none⟩, ⟨(some 36), .eq false .pint (.t 35) (.c (.lit (.int .u8 34))), none⟩, ⟨(some 34), .mov (.t 36), none⟩]) (
       .cond (.t 34) (
        .seq (
         .ops [⟨(some 37), .mov (.t 4), none⟩, ⟨(some 38), .conv .str (.t 37), none⟩, ⟨(some 39), .mov (.t 5), none⟩, ⟨(some 40), .bin .add (.t 39) (.c (.lit (.int .i64 1))), none⟩, ⟨(some 2), .mov (.t 38), none⟩, ⟨(some 3), .mov (.t 40), none⟩]) (
        .ret)) (
        .seq (
         .ops [⟨(some 42), .mov (.t 6), none⟩, ⟨(some 43), .bin .lss (.t 42) (.c (.lit (.int .u8 32))), none⟩, ⟨(some 41), .mov (.t 43), none⟩]) (
        .cond (.t 41) (
         .seq (
          .ops [⟨(some 2), .mov (.c (.lit (.string (mkS [])))), none⟩, ⟨(some 3), .mov (.c (.lit (.int .i64 (-1)))), none⟩]) (
         .ret)) (
         .seq (
          .ops [⟨(some 45), .mov (.t 6), none⟩, ⟨(some 46), .eq true .pint (.t 45) (.c (.lit (.int .u8 92))), none⟩, ⟨(some 44), .mov (.t 46), none⟩]) (
         .cond (.t 44) (
          .ops [⟨(some 47), .mov (.t 4), none⟩, ⟨(some 48), .mov (.t 6), none⟩, ⟨(some 49), .bslice (t_uint8 N) 1 none 1 [(.lit (.int .u8 0))] [(0, 1, (.t 48))], none⟩, ⟨(some 50), .append (t_uint8 N) 1 1 (.t 47) (.t 49), none⟩, ⟨(some 4), .mov (.t 50), none⟩]) (
          .seq (
           .ops [⟨(some 17), .mov (.t 5), none⟩, ⟨(some 18), .bin .add (.t 17) (.c (.lit (.int .i64 1))), none⟩, ⟨(some 5), .mov (.t 18), none⟩]) (
          .seq (
           .ops [⟨(some 7), .mov (.c (.lit (.int .i64 (-1)))), none⟩]) (
          .seq (
           .seq (
            .ops [⟨(some 19), .mov (.t 5), none⟩, ⟨(some 20), .mov (.t 0), none⟩, ⟨(some 21), .lens (.t 20), none⟩, ⟨(some 22), .bin .lss (.t 19) (.t 21), none⟩]) (
           .cond (.t 22) (
            .ops [⟨(some 23), .mov (.t 0), none⟩, ⟨(some 24), .mov (.t 5), none⟩, ⟨(some 25), .sidx (.t 23) (.t 24), none⟩, ⟨(some 26), .call (.c (.fn (f_strings_IndexByte N) [] [])) [(.c (.lit (.string (mkS [34, 92, 110])))), (.t 25)], none⟩, ⟨(some 7), .mov (.t 26), none⟩]) (
            .skip))) (
          .seq (
           .seq (
            .ops [⟨(some 27), .mov (.t 7), none⟩, ⟨(some 28), .bin .lss (.t 27) (.c (.lit (.int .i64 0))), none⟩]) (
           .cond (.t 28) (
            .seq (
             .ops [⟨(some 2), .mov (.c (.lit (.string (mkS [])))), none⟩, ⟨(some 3), .mov (.c (.lit (.int .i64 (-1)))), none⟩]) (
            .ret)) (
            .skip))) (
          .ops [⟨(some 29), .mov (.t 4), none⟩, ⟨(some 30), .mov (.t 7), none⟩, ⟨(some 31), .sidx (.c (.lit (.string (mkS [34, 92, 10])))) (.t 30), none⟩, ⟨(some 32), .bslice (t_uint8 N) 1 none 1 [(.lit (.int .u8 0))] [(0, 1, (.t 31))], none⟩, ⟨(some 33), .append (t_uint8 N) 1 1 (.t 29) (.t 32), none⟩, ⟨(some 4), .mov (.t 33), none⟩])))))))))))))) (
    .ops [⟨(some 12), .mov (.t 5), none⟩, ⟨(some 13), .bin .add (.t 12) (.c (.lit (.int .i64 1))), none⟩, ⟨(some 5), .mov (.t 13), none⟩]))
def K_lexer_text_1 (N : Nat → Nat) : AC :=
 .seq (
  .ops [⟨(some 2), .mov (.c (.lit (.string (mkS [])))), none⟩, ⟨(some 3), .mov (.c (.lit (.int .i64 (-1)))), none⟩]) (
 .ret)
/-- azimuth/lexer.text -/
def C_lexer_text (N : Nat → Nat) : AFunc := ⟨51, [.inl 2, .inl 3],
 .seq (
  .ops [⟨(some 2), .mov (.c (.lit (.string (mkS [])))), none⟩, ⟨(some 3), .mov (.c (.lit (.int .i64 0))), none⟩]) (
 .seq (
  .ops [⟨(some 4), .mov (.c (.lit (.slice none 0 0))), none⟩]) (
 .seq (
  .seq (
   .ops [⟨(some 5), .mov (.c (.lit (.int .i64 0))), none⟩]) (
  .block 0 (
   .loop (L_lexer_text_1 N)))) (K_lexer_text_1 N))), false⟩

/-- azimuth/lexer.words -/
def C_lexer_words (N : Nat → Nat) : AFunc := ⟨2, [.inl 0],
 .seq (
  .ops [⟨(some 0), .mov (.c (.lit (.slice none 0 0))), none⟩]) (
 .seq (
  .ops [⟨(some 1), .bslice (t_string N) 1 none 20 [(.lit (.string (mkS [])))] [(0, 1, (.c (.lit (.string (mkS [102, 117, 110]))))), (1, 1, (.c (.lit (.string (mkS [108, 101, 116]))))), (2, 1, (.c (.lit (.string (mkS [114, 101, 99]))))), (3, 1, (.c (.lit (.string (mkS [105, 110]))))), (4, 1, (.c (.lit (.string (mkS [105, 102]))))), (5, 1, (.c (.lit (.string (mkS [116, 104, 101, 110]))))), (6, 1, (.c (.lit (.string (mkS [101, 108, 115, 101]))))), (7, 1, (.c (.lit (.string (mkS [99, 97, 115, 101]))))), (8, 1, (.c (.lit (.string (mkS [111, 102]))))), (9, 1, (.c (.lit (.string (mkS [101, 110, 100]))))), (10, 1, (.c (.lit (.string (mkS [116, 114, 117, 101]))))), (11, 1, (.c (.lit (.string (mkS [102, 97, 108, 115, 101]))))), (12, 1, (.c (.lit (.string (mkS [105, 110, 116]))))), (13, 1, (.c (.lit (.string (mkS [98, 111, 111, 108]))))), (14, 1, (.c (.lit (.string (mkS [115, 116, 114]))))), (15, 1, (.c (.lit (.string (mkS [102, 108, 111, 97, 116]))))), (16, 1, (.c (.lit (.string (mkS [100, 121, 110]))))), (17, 1, (.c (.lit (.string (mkS [97, 110, 121]))))), (18, 1, (.c (.lit (.string (mkS [110, 111, 110, 101]))))), (19, 1, (.c (.lit (.string (mkS [116, 121, 112, 101])))))], none⟩, ⟨(some 0), .mov (.t 1), none⟩]) (
 .ret)), true⟩

/-- internal/stringslite.CutPrefix -/
def C_internal_stringslite_CutPrefix (N : Nat → Nat) : AFunc := ⟨15, [.inl 4, .inl 5],
 .seq (
  .ops [⟨(some 4), .mov (.c (.lit (.string (mkS [])))), none⟩, ⟨(some 5), .mov (.c (.lit (.bool false))), none⟩]) (
 .seq (
  .seq (
   .ops [⟨(some 6), .mov (.t 0), none⟩, ⟨(some 7), .mov (.t 1), none⟩, ⟨(some 8), .call (.c (.fn (f_internal_stringslite_HasPrefix N) [] [])) [(.t 6), (.t 7)], none⟩, ⟨(some 9), .un .not (.t 8), none⟩]) (
  .cond (.t 9) (
   .seq (
    .ops [⟨(some 10), .mov (.t 0), none⟩, ⟨(some 4), .mov (.t 10), none⟩, ⟨(some 5), .mov (.c (.lit (.bool false))), none⟩]) (
   .ret)) (
   .skip))) (
 .seq (
  .ops [⟨(some 11), .mov (.t 0), none⟩, ⟨(some 12), .mov (.t 1), none⟩, ⟨(some 13), .lens (.t 12), none⟩, ⟨(some 14), .slstr (.t 11) (some (.t 13)) none, none⟩, ⟨(some 4), .mov (.t 14), none⟩, ⟨(some 5), .mov (.c (.lit (.bool true))), none⟩]) (
 .ret))), false⟩

/-- internal/stringslite.HasPrefix -/
def C_internal_stringslite_HasPrefix (N : Nat → Nat) : AFunc := ⟨18, [.inl 4],
 .seq (
  .ops [⟨(some 4), .mov (.c (.lit (.bool false))), none⟩]) (
 .seq (
  .ops [⟨(some 5), .mov (.t 0), none⟩, ⟨(some 6), .lens (.t 5), none⟩, ⟨(some 7), .mov (.t 1), none⟩, ⟨(some 8), .lens (.t 7), none⟩, ⟨(some 9), .bin .geq (.t 6) (.t 8), none⟩, ⟨(some 10), .mov (.t 9), none⟩, ⟨(some 11), .mov (.t 0), (some (10, true))⟩, ⟨(some 12), .mov (.t 1), (some (10, true))⟩, ⟨(some 13), .lens (.t 12), (some (10, true))⟩, ⟨(some 14), .slstr (.t 11) none (some (.t 13)), (some (10, true))⟩, ⟨(some 15), .mov (.t 1), (some (10, true))⟩, ⟨(some 16), .eq false .pstr (.t 14) (.t 15), (some (10, true))⟩, ⟨(some 17), .pick (.t 10) (.t 16) (.c (.lit (.bool false))), none⟩, ⟨(some 4), .mov (.t 17), none⟩]) (
 .ret)), false⟩

/-- internal/stringslite.IndexByte -/
def C_internal_stringslite_IndexByte (N : Nat → Nat) : AFunc := ⟨8, [.inl 4],
 .seq (
  .ops [⟨(some 4), .mov (.c (.lit (.int .i64 0))), none⟩]) (
 .seq (
  .ops [⟨(some 5), .mov (.t 0), none⟩, ⟨(some 6), .mov (.t 1), none⟩, ⟨(some 7), .call (.c (.fn (f_internal_bytealg_IndexByteString N) [] [])) [(.t 5), (.t 6)], none⟩, ⟨(some 4), .mov (.t 7), none⟩]) (
 .ret)), false⟩

/-- slices.Contains[[]string,string] -/
def C_slices_Contains_sl_string_string (N : Nat → Nat) : AFunc := ⟨9, [.inl 4],
 .seq (
  .ops [⟨(some 4), .mov (.c (.lit (.bool false))), none⟩]) (
 .seq (
  .ops [⟨(some 5), .mov (.t 0), none⟩, ⟨(some 6), .mov (.t 1), none⟩, ⟨(some 7), .call (.c (.fn (f_slices_Index_sl_string_string N) [] [])) [(.t 5), (.t 6)], none⟩, ⟨(some 8), .bin .geq (.t 7) (.c (.lit (.int .i64 0))), none⟩, ⟨(some 4), .mov (.t 8), none⟩]) (
 .ret)), false⟩

def L_slices_Index_sl_string_string_1 (N : Nat → Nat) : AC :=
    .seq (
     .ops [⟨(some 9), .bin .lss (.t 8) (.t 7), none⟩]) (
    .seq (
     .cond (.t 9) (
      .skip) (
      .exit 0)) (
    .seq (
     .block 1 (
      .seq (
       .ops [⟨(some 10), .mov (.t 8), none⟩, ⟨(some 5), .mov (.t 10), none⟩]) (
      .seq (
       .ops [⟨(some 11), .mov (.t 1), none⟩, ⟨(some 12), .mov (.t 0), none⟩, ⟨(some 13), .mov (.t 5), none⟩, ⟨(some 14), .iaddr 1 (.t 12) (.t 13), none⟩, ⟨(some 15), .load none (.t 14), none⟩, ⟨(some 16), .eq false .pstr (.t 11) (.t 15), none⟩]) (
      .cond (.t 16) (
       .seq (
        .ops [⟨(some 17), .mov (.t 5), none⟩, ⟨(some 4), .mov (.t 17), none⟩]) (
       .ret)) (
       .skip))))) (
    .ops [⟨(some 18), .bin .add (.t 8) (.c (.lit (.int .i64 1))), none⟩, ⟨(some 8), .mov (.t 18), none⟩])))
def K_slices_Index_sl_string_string_1 (N : Nat → Nat) : AC :=
 .seq (
  .ops [⟨(some 4), .mov (.c (.lit (.int .i64 (-1)))), none⟩]) (
 .ret)
/-- slices.Index[[]string,string] -/
def C_slices_Index_sl_string_string (N : Nat → Nat) : AFunc := ⟨19, [.inl 4],
 .seq (
  .ops [⟨(some 4), .mov (.c (.lit (.int .i64 0))), none⟩]) (
 .seq (
  .seq (
   .ops [⟨(some 6), .mov (.t 0), none⟩, ⟨(some 7), .len (.t 6), none⟩, ⟨(some 8), .mov (.c (.lit (.int .i64 0))), none⟩]) (
  .block 0 (
   .loop (L_slices_Index_sl_string_string_1 N)))) (K_slices_Index_sl_string_string_1 N)), false⟩

/-- strings.CutPrefix -/
def C_strings_CutPrefix (N : Nat → Nat) : AFunc := ⟨11, [.inl 4, .inl 5],
 .seq (
  .ops [⟨(some 4), .mov (.c (.lit (.string (mkS [])))), none⟩, ⟨(some 5), .mov (.c (.lit (.bool false))), none⟩]) (
 .seq (
  .ops [⟨(some 6), .mov (.t 0), none⟩, ⟨(some 7), .mov (.t 1), none⟩, ⟨(some 8), .call (.c (.fn (f_internal_stringslite_CutPrefix N) [] [])) [(.t 6), (.t 7)], none⟩, ⟨(some 9), .extract (.t 8) 0, none⟩, ⟨(some 10), .extract (.t 8) 1, none⟩, ⟨(some 4), .mov (.t 9), none⟩, ⟨(some 5), .mov (.t 10), none⟩]) (
 .ret)), false⟩

/-- strings.HasPrefix -/
def C_strings_HasPrefix (N : Nat → Nat) : AFunc := ⟨8, [.inl 4],
 .seq (
  .ops [⟨(some 4), .mov (.c (.lit (.bool false))), none⟩]) (
 .seq (
  .ops [⟨(some 5), .mov (.t 0), none⟩, ⟨(some 6), .mov (.t 1), none⟩, ⟨(some 7), .call (.c (.fn (f_internal_stringslite_HasPrefix N) [] [])) [(.t 5), (.t 6)], none⟩, ⟨(some 4), .mov (.t 7), none⟩]) (
 .ret)), false⟩

/-- strings.IndexByte -/
def C_strings_IndexByte (N : Nat → Nat) : AFunc := ⟨8, [.inl 4],
 .seq (
  .ops [⟨(some 4), .mov (.c (.lit (.int .i64 0))), none⟩]) (
 .seq (
  .ops [⟨(some 5), .mov (.t 0), none⟩, ⟨(some 6), .mov (.t 1), none⟩, ⟨(some 7), .call (.c (.fn (f_internal_stringslite_IndexByte N) [] [])) [(.t 5), (.t 6)], none⟩, ⟨(some 4), .mov (.t 7), none⟩]) (
 .ret)), false⟩
end Go.Proofs.Eng
/- Texts: places, cuts; what the library's functions of texts tell, run by the engine. -/
set_option linter.unusedVariables false
set_option linter.unusedSimpArgs false
set_option maxRecDepth 100000
namespace Go.Proofs.Eng
open Go
section
variable {Γ : Sums} {A : Tab} {N : Nat → Nat}

@[simp] theorem resR_inr_inl {t u : Nat} {l : Option Nat} {ρ : Rho} {H : Hp} : resR [.inr (t, l), .inl u] ρ H = (aload H l (ρ t)).map fun a => .tup [a, ρ u] := by
  simp [resR, resOneR, List.mapM_cons]
  cases aload H l (ρ t) <;> rfl
@[simp] theorem resR_inl_inr {t u : Nat} {m : Option Nat} {ρ : Rho} {H : Hp} : resR [.inl t, .inr (u, m)] ρ H = (aload H m (ρ u)).map fun b => .tup [ρ t, b] := by
  simp [resR, resOneR, List.mapM_cons]
  cases aload H m (ρ u) <;> rfl
@[simp] theorem loadC3 {a b c : AV} : loadC (some 3) [a, b, c] = some (.agg [a, b, c]) := by simp [loadC]
@[simp] theorem loadC_one {a : AV} : loadC none [a] = some a := by simp [loadC]
/-- A call that wrote a cell of its own alone. -/
theorem settle_cell {H : Hp} {o o2 : AObj} {v : AV} (hu : v.under H.l.length = true) : settle H v (hset (halloc { l := H.l, d := none } o) H.l.length (some o2)) = (v, none) :=
  settle_keeps ((((Loc.start H).alloc o).set o2).keeps) hu
@[simp] theorem abin_geqB {c : UInt8} {n : Int} : abin .geq (avByte c) (.lit (.int .u8 n)) = some (avBool (decide (n ≤ c.toNat))) := by simp [avByte]
@[simp] theorem abin_leqB {c : UInt8} {n : Int} : abin .leq (avByte c) (.lit (.int .u8 n)) = some (avBool (decide ((c.toNat : Int) ≤ n))) := by simp [avByte]
@[simp] theorem abin_lssB {c : UInt8} {n : Int} : abin .lss (avByte c) (.lit (.int .u8 n)) = some (avBool (decide ((c.toNat : Int) < n))) := by simp [avByte]
@[simp] theorem abin_gtrB {c : UInt8} {n : Int} : abin .gtr (avByte c) (.lit (.int .u8 n)) = some (avBool (decide (n < (c.toNat : Int)))) := by simp [avByte]
@[simp] theorem aeq_byte {c : UInt8} {n : Int} : aeq .pint (avByte c) (.lit (.int .u8 n)) = some (decide ((c.toNat : Int) = n)) := by simp [avByte]
theorem asidx_str {k : IntKind} {s : List UInt8} {i : Int} (h0 : 0 ≤ i) (h : i.toNat < s.length) : asidx (avStr s) (.lit (.int k i)) = some (avByte s[i.toNat]) := by
  simp [asidx, h0, List.getElem?_eq_getElem h, avByte]
theorem asidx_nat {k : IntKind} {s : List UInt8} {i : Nat} (h : i < s.length) : asidx (avStr s) (.lit (.int k i)) = some (avByte s[i]) := by
  have := asidx_str (k := k) (s := s) (i := (i : Int)) (by omega) (by simpa using h)
  simpa using this
theorem aslstr_from {k : IntKind} {s : List UInt8} {i : Int} (h0 : 0 ≤ i) (h : i.toNat ≤ s.length) : aslstr (avStr s) (some (.lit (.int k i))) none = some (avStr (s.drop i.toNat)) := by
  have h1 : i ≤ (s.length : Int) := by omega
  simp [aslstr, aBound, h0, h1]
  rw [List.take_of_length_le (by simp)]
theorem aslstr_upto {k : IntKind} {s : List UInt8} {j : Int} (h0 : 0 ≤ j) (h : j.toNat ≤ s.length) : aslstr (avStr s) none (some (.lit (.int k j))) = some (avStr (s.take j.toNat)) := by
  have h1 : j ≤ (s.length : Int) := by omega
  simp [aslstr, aBound, h0, h1]
theorem aslstr_cut {k k' : IntKind} {s : List UInt8} {i j : Int} (h0 : 0 ≤ i) (h1 : i ≤ j) (h : j.toNat ≤ s.length) : aslstr (avStr s) (some (.lit (.int k i))) (some (.lit (.int k' j))) = some (avStr ((s.drop i.toNat).take (j.toNat - i.toNat))) := by
  have h2 : i ≤ max j 0 := by omega
  have h3 : 0 ≤ j := by omega
  have h4 : j ≤ (s.length : Int) := by omega
  simp [aslstr, aBound, h0, h2, h3, h4]

theorem settleZ_ra {H H1 : Hp} {es : List AV} {t : TypeId} {m : Nat} (h1 : H1 = halloc { l := H.l, d := none } (.arr 1 es t)) (hm : m = es.length) (hl : ∀ x ∈ es, ∃ v, x = .lit v) :
    settleZ true H (.ra 1 H.l.length 0 m) H1 = (.sl 1 es, none) := by
  subst h1; subst hm
  apply settleZ_frz
  · simp [keeps]
  · rw [frz_ra (es := es) (t := t) (by simp) (by simp) (by simp), List.drop_zero, List.take_length, frz_lits hl]
    rfl

/-! ### HasPrefix, CutPrefix, IndexByte -/
structure Strs (Γ : Sums) (A : Tab) (N : Nat → Nat) : Prop where
  has : Has Γ A (f_strings_HasPrefix N) (C_strings_HasPrefix N)
  has' : Has Γ A (f_internal_stringslite_HasPrefix N) (C_internal_stringslite_HasPrefix N)

theorem slite_HasPrefix_call (h : Has Γ A (f_internal_stringslite_HasPrefix N) (C_internal_stringslite_HasPrefix N)) (s t : List UInt8) (H : Hp) :
    (lim Γ A).call (f_internal_stringslite_HasPrefix N) [avStr s, avStr t] H = some (avBool (t.isPrefixOf s), none) := by
  apply h.call (by rfl)
  by_cases hl : t.length ≤ s.length
  · have hl' : (t.length : Int) ≤ s.length := by omega
    have e := aslstr_upto (k := .i64) (s := s) (j := (t.length : Int)) (by omega) (by simpa using hl)
    simp only [Int.toNat_natCast] at e
    by_cases he : s.take t.length = t
    · have hp : t.isPrefixOf s = true := by rw [List.isPrefixOf_iff_prefix, List.prefix_iff_eq_take]; exact he.symm
      simp [C_internal_stringslite_HasPrefix, hl', hl, e, he, hp]
    · have hp : t.isPrefixOf s = false := by
        rw [Bool.eq_false_iff]
        intro hp
        rw [List.isPrefixOf_iff_prefix, List.prefix_iff_eq_take] at hp
        exact he hp.symm
      simp [C_internal_stringslite_HasPrefix, hl', hl, e, he, hp]
  · have hl' : ¬ (t.length : Int) ≤ s.length := by omega
    have hp : t.isPrefixOf s = false := by
      rw [Bool.eq_false_iff]
      intro hp
      exact hl (List.isPrefixOf_iff_prefix.1 hp).length_le
    simp [C_internal_stringslite_HasPrefix, hl', hl, hp]
theorem HasPrefix_call (h : Strs Γ A N) (s t : List UInt8) (H : Hp) : (lim Γ A).call (f_strings_HasPrefix N) [avStr s, avStr t] H = some (avBool (t.isPrefixOf s), none) := by
  apply h.has.call (by rfl)
  simp [C_strings_HasPrefix, slite_HasPrefix_call h.has']
end
end Go.Proofs.Eng
/- Templates of functions, as the engine takes them; numbers of functions and types by names. Printed by tm.py. -/
set_option linter.unusedVariables false
set_option maxRecDepth 100000
namespace Go.Proofs.Eng
open Go

/-- azimuth/azimuthref01.Encode -/
def C_ref01_Encode (N : Nat → Nat) : AFunc := ⟨69, [.inl 2, .inl 3],
 .seq (
  .ops [⟨(some 2), .mov (.c (.lit (.slice none 0 0))), none⟩, ⟨(some 3), .mov (.c (.lit (.bool false))), none⟩]) (
 .seq (
  .seq (
   .ops [⟨(some 4), .mov (.t 0), none⟩, ⟨(some 5), .bin .lss (.t 4) (.c (.lit (.int .i64 0))), none⟩, ⟨(some 6), .mov (.t 5), none⟩, ⟨(some 7), .mov (.t 0), (some (6, false))⟩, ⟨(some 8), .bin .gtr (.t 7) (.c (.lit (.int .i64 1114111))), (some (6, false))⟩, ⟨(some 9), .pick (.t 6) (.c (.lit (.bool true))) (.t 8), none⟩, ⟨(some 10), .mov (.t 9), none⟩, ⟨(some 11), .mov (.t 0), (some (10, false))⟩, ⟨(some 12), .bin .geq (.t 11) (.c (.lit (.int .i64 55296))), (some (10, false))⟩, ⟨(some 13), .mov (.t 12), (some (10, false))⟩, ⟨(some 14), .mov (.t 0), (some (13, true))⟩, ⟨(some 15), .bin .leq (.t 14) (.c (.lit (.int .i64 57343))), (some (13, true))⟩, ⟨(some 16), .pick (.t 13) (.t 15) (.c (.lit (.bool false))), (some (10, false))⟩, ⟨(some 17), .pick (.t 10) (.c (.lit (.bool true))) (.t 16), none⟩]) (
  .cond (.t 17) (
   .seq (
    .ops [⟨(some 2), .mov (.c (.lit (.slice none 0 0))), none⟩, ⟨(some 3), .mov (.c (.lit (.bool false))), none⟩]) (
   .ret)) (
   .skip))) (
 .seq (
  .seq (
   .ops [⟨(some 18), .mov (.t 0), none⟩, ⟨(some 19), .bin .lss (.t 18) (.c (.lit (.int .i64 128))), none⟩]) (
  .cond (.t 19) (
   .seq (
    .ops [⟨(some 20), .mov (.t 0), none⟩, ⟨(some 21), .conv (.toInt .u8) (.t 20), none⟩, ⟨(some 22), .bslice (t_uint8 N) 1 none 1 [(.lit (.int .u8 0))] [(0, 1, (.t 21))], none⟩, ⟨(some 2), .mov (.t 22), none⟩, ⟨(some 3), .mov (.c (.lit (.bool true))), none⟩]) (
   .ret)) (
   .skip))) (
 .seq (
  .seq (
   .ops [⟨(some 23), .mov (.t 0), none⟩, ⟨(some 24), .bin .lss (.t 23) (.c (.lit (.int .i64 2048))), none⟩]) (
  .cond (.t 24) (
   .seq (
    .ops [⟨(some 25), .mov (.t 0), none⟩, ⟨(some 26), .bin .quo (.t 25) (.c (.lit (.int .i64 64))), none⟩, ⟨(some 27), .bin .add (.c (.lit (.int .i64 192))) (.t 26), none⟩, ⟨(some 28), .conv (.toInt .u8) (.t 27), none⟩, ⟨(some 29), .mov (.t 0), none⟩, ⟨(some 30), .bin .rem (.t 29) (.c (.lit (.int .i64 64))), none⟩, ⟨(some 31), .bin .add (.c (.lit (.int .i64 128))) (.t 30), none⟩, ⟨(some 32), .conv (.toInt .u8) (.t 31), none⟩, ⟨(some 33), .bslice (t_uint8 N) 1 none 2 [(.lit (.int .u8 0))] [(0, 1, (.t 28)), (1, 1, (.t 32))], none⟩, ⟨(some 2), .mov (.t 33), none⟩, ⟨(some 3), .mov (.c (.lit (.bool true))), none⟩]) (
   .ret)) (
   .skip))) (
 .seq (
  .seq (
   .ops [⟨(some 34), .mov (.t 0), none⟩, ⟨(some 35), .bin .lss (.t 34) (.c (.lit (.int .i64 65536))), none⟩]) (
  .cond (.t 35) (
   .seq (
    .ops [⟨(some 36), .mov (.t 0), none⟩, ⟨(some 37), .bin .quo (.t 36) (.c (.lit (.int .i64 4096))), none⟩, ⟨(some 38), .bin .add (.c (.lit (.int .i64 224))) (.t 37), none⟩, ⟨(some 39), .conv (.toInt .u8) (.t 38), none⟩, ⟨(some 40), .mov (.t 0), none⟩, ⟨(some 41), .bin .quo (.t 40) (.c (.lit (.int .i64 64))), none⟩, ⟨(some 42), .bin .rem (.t 41) (.c (.lit (.int .i64 64))), none⟩, ⟨(some 43), .bin .add (.c (.lit (.int .i64 128))) (.t 42), none⟩, ⟨(some 44), .conv (.toInt .u8) (.t 43), none⟩, ⟨(some 45), .mov (.t 0), none⟩, ⟨(some 46), .bin .rem (.t 45) (.c (.lit (.int .i64 64))), none⟩, ⟨(some 47), .bin .add (.c (.lit (.int .i64 128))) (.t 46), none⟩, ⟨(some 48), .conv (.toInt .u8) (.t 47), none⟩, ⟨(some 49), .bslice (t_uint8 N) 1 none 3 [(.lit (.int .u8 0))] [(0, 1, (.t 39)), (1, 1, (.t 44)), (2, 1, (.t 48))], none⟩, ⟨(some 2), .mov (.t 49), none⟩, ⟨(some 3), .mov (.c (.lit (.bool true))), none⟩]) (
   .ret)) (
   .skip))) (
 .seq (
  .ops [⟨(some 50), .mov (.t 0), none⟩, ⟨(some 51), .bin .quo (.t 50) (.c (.lit (.int .i64 262144))), none⟩, ⟨(some 52), .bin .add (.c (.lit (.int .i64 240))) (.t 51), none⟩, ⟨(some 53), .conv (.toInt .u8) (.t 52), none⟩, ⟨(some 54), .mov (.t 0), none⟩, ⟨(some 55), .bin .quo (.t 54) (.c (.lit (.int .i64 4096))), none⟩, ⟨(some 56), .bin .rem (.t 55) (.c (.lit (.int .i64 64))), none⟩, ⟨(some 57), .bin .add (.c (.lit (.int .i64 128))) (.t 56), none⟩, ⟨(some 58), .conv (.toInt .u8) (.t 57), none⟩, ⟨(some 59), .mov (.t 0), none⟩, ⟨(some 60), .bin .quo (.t 59) (.c (.lit (.int .i64 64))), none⟩, ⟨(some 61), .bin .rem (.t 60) (.c (.lit (.int .i64 64))), none⟩, ⟨(some 62), .bin .add (.c (.lit (.int .i64 128))) (.t 61), none⟩, ⟨(some 63), .conv (.toInt .u8) (.t 62), none⟩, ⟨(some 64), .mov (.t 0), none⟩, ⟨(some 65), .bin .rem (.t 64) (.c (.lit (.int .i64 64))), none⟩, ⟨(some 66), .bin .add (.c (.lit (.int .i64 128))) (.t 65), none⟩, ⟨(some 67), .conv (.toInt .u8) (.t 66), none⟩, ⟨(some 68), .bslice (t_uint8 N) 1 none 4 [(.lit (.int .u8 0))] [(0, 1, (.t 53)), (1, 1, (.t 58)), (2, 1, (.t 63)), (3, 1, (.t 67))], none⟩, ⟨(some 2), .mov (.t 68), none⟩, ⟨(some 3), .mov (.c (.lit (.bool true))), none⟩]) (
 .ret)))))), true⟩

def L_ref01_First_1 (N : Nat → Nat) : AC :=
    .seq (
     .seq (
      .ops [⟨(some 8), .mov (.t 4), none⟩, ⟨(some 9), .bin .leq (.t 8) (.c (.lit (.int .i64 4))), none⟩, ⟨(some 10), .mov (.t 9), none⟩, ⟨(some 11), .mov (.t 4), (some (10, true))⟩, ⟨(some 12), .mov (.t 0), (some (10, true))⟩, ⟨(some 13), .len (.t 12), (some (10, true))⟩, ⟨(some 14), .bin .leq (.t 11) (.t 13), (some (10, true))⟩, ⟨(some 15), .pick (.t 10) (.t 14) (.c (.lit (.bool false))), none⟩]) (
     .cond (.t 15) (
      .skip) (
      .exit 0))) (
    .seq (
     .block 1 (
      .seq (
       .ops [⟨(some 18), .mov (.t 0), none⟩, ⟨(some 19), .mov (.t 4), none⟩, ⟨(some 20), .slice 1 (.t 18) none (some (.t 19)), none⟩, ⟨(some 21), .call (.c (.fn (f_ref01_value N) [] [])) [(.t 20)], none⟩, ⟨(some 5), .mov (.t 21), none⟩]) (
      .seq (
       .ops [⟨(some 23), .mov (.t 5), none⟩, ⟨(some 24), .call (.c (.fn (f_ref01_Encode N) [] [])) [(.t 23)], none⟩, ⟨(some 22), .mov (.t 24), none⟩, ⟨(some 25), .extract (.t 22) 0, none⟩, ⟨(some 26), .extract (.t 22) 1, none⟩, ⟨(some 6), .mov (.t 25), none⟩, ⟨(some 7), .mov (.t 26), none⟩]) (
      .seq (
       .dops 6 [⟨(some 27), .mov (.t 7), none⟩, ⟨(some 28), .mov (.t 27), none⟩, ⟨(some 29), .mov (.t 6), (some (28, true))⟩, ⟨(some 30), .conv .str (.t 29), (some (28, true))⟩, ⟨(some 31), .mov (.t 0), (some (28, true))⟩, ⟨(some 32), .mov (.t 4), (some (28, true))⟩, ⟨(some 33), .slice 1 (.t 31) none (some (.t 32)), (some (28, true))⟩, ⟨(some 34), .conv .str (.t 33), (some (28, true))⟩, ⟨(some 35), .eq false .pstr (.t 30) (.t 34), (some (28, true))⟩, ⟨(some 36), .pick (.t 28) (.t 35) (.c (.lit (.bool false))), none⟩] [0, 0, 0, 2, 0, 0, 0, 2, 0, 0] []) (
      .cond (.t 36) (
       .seq (
        .ops [⟨(some 37), .mov (.t 5), none⟩, ⟨(some 38), .mov (.t 4), none⟩, ⟨(some 2), .mov (.t 37), none⟩, ⟨(some 3), .mov (.t 38), none⟩]) (
       .ret)) (
       .skip)))))) (
    .ops [⟨(some 16), .mov (.t 4), none⟩, ⟨(some 17), .bin .add (.t 16) (.c (.lit (.int .i64 1))), none⟩, ⟨(some 4), .mov (.t 17), none⟩]))
def K_ref01_First_1 (N : Nat → Nat) : AC :=
 .seq (
  .ops [⟨(some 2), .mov (.c (.lit (.int .i64 0))), none⟩, ⟨(some 3), .mov (.c (.lit (.int .i64 0))), none⟩]) (
 .ret)
/-- azimuth/azimuthref01.First -/
def C_ref01_First (N : Nat → Nat) : AFunc := ⟨39, [.inl 2, .inl 3],
 .seq (
  .ops [⟨(some 2), .mov (.c (.lit (.int .i64 0))), none⟩, ⟨(some 3), .mov (.c (.lit (.int .i64 0))), none⟩]) (
 .seq (
  .seq (
   .ops [⟨(some 4), .mov (.c (.lit (.int .i64 1))), none⟩]) (
  .block 0 (
   .loop (L_ref01_First_1 N)))) (K_ref01_First_1 N)), false⟩

def L_ref01_Signs_1 (N : Nat → Nat) : AC :=
    .seq (
     .seq (
      .ops [⟨(some 12), .mov (.t 7), none⟩, ⟨(some 13), .mov (.t 0), none⟩, ⟨(some 14), .len (.t 13), none⟩, ⟨(some 15), .bin .lss (.t 12) (.t 14), none⟩]) (
     .cond (.t 15) (
      .skip) (
      .exit 0))) (
    .block 1 (
     .seq (
      .ops [⟨(some 17), .mov (.t 0), none⟩, ⟨(some 18), .mov (.t 7), none⟩, ⟨(some 19), .slice 1 (.t 17) (some (.t 18)) none, none⟩, ⟨(some 20), .call (.c (.fn (f_ref01_First N) [] [])) [(.t 19)], none⟩, ⟨(some 16), .mov (.t 20), none⟩, ⟨(some 21), .extract (.t 16) 0, none⟩, ⟨(some 22), .extract (.t 16) 1, none⟩, ⟨(some 8), .mov (.t 21), none⟩, ⟨(some 9), .mov (.t 22), none⟩]) (
     .seq (
      .seq (
       .ops [⟨(some 23), .mov (.t 9), none⟩, ⟨(some 24), .eq false .pint (.t 23) (.c (.lit (.int .i64 0))), none⟩]) (
      .cond (.t 24) (
       .exit 0) (
       .skip))) (
     .seq (
      .ops [⟨(some 25), .mov (.t 5), none⟩, ⟨(some 26), .mov (.t 7), none⟩, ⟨(some 27), .bslice (t_int N) 1 none 1 [(.lit (.int .i64 0))] [(0, 1, (.t 26))], none⟩, ⟨(some 28), .append (t_int N) 1 8 (.t 25) (.t 27), none⟩, ⟨(some 5), .mov (.t 28), none⟩]) (
     .seq (
      .ops [⟨(some 29), .mov (.t 6), none⟩, ⟨(some 30), .mov (.t 8), none⟩, ⟨(some 31), .bslice (t_int N) 1 none 1 [(.lit (.int .i64 0))] [(0, 1, (.t 30))], none⟩, ⟨(some 32), .append (t_int N) 1 8 (.t 29) (.t 31), none⟩, ⟨(some 6), .mov (.t 32), none⟩]) (
     .ops [⟨(some 33), .mov (.t 7), none⟩, ⟨(some 34), .mov (.t 9), none⟩, ⟨(some 35), .bin .add (.t 33) (.t 34), none⟩, ⟨(some 7), .mov (.t 35), none⟩]))))))
def K_ref01_Signs_1 (N : Nat → Nat) : AC :=
 .seq (
  .ops [⟨(some 36), .mov (.t 5), none⟩, ⟨(some 37), .mov (.t 6), none⟩, ⟨(some 38), .mov (.t 7), none⟩, ⟨(some 2), .mov (.t 36), none⟩, ⟨(some 3), .mov (.t 37), none⟩, ⟨(some 4), .mov (.t 38), none⟩]) (
 .ret)
/-- azimuth/azimuthref01.Signs -/
def C_ref01_Signs (N : Nat → Nat) : AFunc := ⟨39, [.inl 2, .inl 3, .inl 4],
 .seq (
  .ops [⟨(some 2), .mov (.c (.lit (.slice none 0 0))), none⟩, ⟨(some 3), .mov (.c (.lit (.slice none 0 0))), none⟩, ⟨(some 4), .mov (.c (.lit (.int .i64 0))), none⟩]) (
 .seq (
  .ops [⟨(some 10), .bslice (t_int N) 1 none 0 [(.lit (.int .i64 0))] [], none⟩, ⟨(some 11), .bslice (t_int N) 1 none 0 [(.lit (.int .i64 0))] [], none⟩, ⟨(some 5), .mov (.t 10), none⟩, ⟨(some 6), .mov (.t 11), none⟩]) (
 .seq (
  .ops [⟨(some 7), .mov (.c (.lit (.int .i64 0))), none⟩]) (
 .seq (
  .block 0 (
   .loop (L_ref01_Signs_1 N))) (K_ref01_Signs_1 N)))), false⟩

def L_ref01_Where_1 (N : Nat → Nat) : AC :=
    .seq (
     .seq (
      .ops [⟨(some 21), .mov (.t 9), none⟩, ⟨(some 22), .mov (.t 0), none⟩, ⟨(some 23), .len (.t 22), none⟩, ⟨(some 24), .bin .lss (.t 21) (.t 23), none⟩]) (
     .cond (.t 24) (
      .skip) (
      .exit 0))) (
    .seq (
     .block 1 (
      .ops [⟨(some 27), .mov (.t 6), none⟩, ⟨(some 28), .mov (.t 9), none⟩, ⟨(some 29), .bslice (t_int N) 1 none 1 [(.lit (.int .i64 0))] [(0, 1, (.t 28))], none⟩, ⟨(some 30), .append (t_int N) 1 8 (.t 27) (.t 29), none⟩, ⟨(some 6), .mov (.t 30), none⟩])) (
    .ops [⟨(some 25), .mov (.t 9), none⟩, ⟨(some 26), .bin .add (.t 25) (.c (.lit (.int .i64 1))), none⟩, ⟨(some 9), .mov (.t 26), none⟩]))
def L_ref01_Where_2 (N : Nat → Nat) : AC :=
    .seq (
     .ops [⟨(some 34), .bin .lss (.t 33) (.t 32), none⟩]) (
    .seq (
     .cond (.t 34) (
      .skip) (
      .exit 2)) (
    .seq (
     .block 3 (
      .seq (
       .ops [⟨(some 35), .iaddr 1 (.t 31) (.t 33), none⟩, ⟨(some 36), .load none (.t 35), none⟩, ⟨(some 13), .mov (.t 36), none⟩]) (
      .seq (
       .seq (
        .ops [⟨(some 37), .mov (.t 13), none⟩, ⟨(some 38), .mov (.t 1), none⟩, ⟨(some 39), .bin .geq (.t 37) (.t 38), none⟩]) (
       .cond (.t 39) (
        .exit 2) (
        .skip))) (
      .seq (
       .ops [⟨(some 40), .mov (.t 11), none⟩, ⟨(some 41), .bin .add (.t 40) (.c (.lit (.int .i64 1))), none⟩, ⟨(some 11), .mov (.t 41), none⟩]) (
      .seq (
       .ops [⟨(some 42), .mov (.t 0), none⟩, ⟨(some 43), .mov (.t 13), none⟩, ⟨(some 44), .iaddr 1 (.t 42) (.t 43), none⟩, ⟨(some 45), .load none (.t 44), none⟩, ⟨(some 46), .eq false .pint (.t 45) (.c (.lit (.int .u8 10))), none⟩]) (
      .cond (.t 46) (
       .seq (
        .ops [⟨(some 47), .mov (.t 10), none⟩, ⟨(some 48), .bin .add (.t 47) (.c (.lit (.int .i64 1))), none⟩, ⟨(some 10), .mov (.t 48), none⟩]) (
       .ops [⟨(some 11), .mov (.c (.lit (.int .i64 1))), none⟩])) (
       .skip))))))) (
    .ops [⟨(some 49), .bin .add (.t 33) (.c (.lit (.int .i64 1))), none⟩, ⟨(some 33), .mov (.t 49), none⟩])))
def K_ref01_Where_2 (N : Nat → Nat) : AC :=
 .seq (
  .ops [⟨(some 50), .mov (.t 10), none⟩, ⟨(some 51), .mov (.t 11), none⟩, ⟨(some 4), .mov (.t 50), none⟩, ⟨(some 5), .mov (.t 51), none⟩]) (
 .ret)
def K_ref01_Where_1 (N : Nat → Nat) : AC :=
 .seq (
  .ops [⟨(some 10), .mov (.c (.lit (.int .i64 1))), none⟩, ⟨(some 11), .mov (.c (.lit (.int .i64 1))), none⟩]) (
 .seq (
  .seq (
   .ops [⟨(some 31), .mov (.t 6), none⟩, ⟨(some 32), .len (.t 31), none⟩, ⟨(some 33), .mov (.c (.lit (.int .i64 0))), none⟩]) (
  .block 2 (
   .loop (L_ref01_Where_2 N)))) (K_ref01_Where_2 N))
/-- azimuth/azimuthref01.Where -/
def C_ref01_Where (N : Nat → Nat) : AFunc := ⟨52, [.inl 4, .inl 5],
 .seq (
  .ops [⟨(some 4), .mov (.c (.lit (.int .i64 0))), none⟩, ⟨(some 5), .mov (.c (.lit (.int .i64 0))), none⟩]) (
 .seq (
  .ops [⟨(some 15), .mov (.t 0), none⟩, ⟨(some 16), .call (.c (.fn (f_ref01_Signs N) [] [])) [(.t 15)], none⟩, ⟨(some 14), .mov (.t 16), none⟩, ⟨(some 17), .extract (.t 14) 0, none⟩, ⟨(some 18), .extract (.t 14) 1, none⟩, ⟨(some 19), .extract (.t 14) 2, none⟩, ⟨(some 6), .mov (.t 17), none⟩, ⟨(some 7), .mov (.t 18), none⟩, ⟨(some 8), .mov (.t 19), none⟩]) (
 .seq (
  .seq (
   .ops [⟨(some 20), .mov (.t 8), none⟩, ⟨(some 9), .mov (.t 20), none⟩]) (
  .block 0 (
   .loop (L_ref01_Where_1 N)))) (K_ref01_Where_1 N))), false⟩

/-- azimuth/azimuthref01.value -/
def C_ref01_value (N : Nat → Nat) : AFunc := ⟨72, [.inl 2],
 .seq (
  .ops [⟨(some 2), .mov (.c (.lit (.int .i64 0))), none⟩]) (
 .seq (
  .seq (
   .ops [⟨(some 3), .mov (.t 0), none⟩, ⟨(some 4), .len (.t 3), none⟩]) (
  .block 0 (
   .seq (
    .ops [⟨(some 6), .eq false .pint (.t 4) (.c (.lit (.int .i64 1))), none⟩, ⟨(some 5), .mov (.t 6), none⟩]) (
   .cond (.t 5) (
    .seq (
     .ops [⟨(some 7), .mov (.t 0), none⟩, ⟨(some 8), .iaddr 1 (.t 7) (.c (.lit (.int .i64 0))), none⟩, ⟨(some 9), .load none (.t 8), none⟩, ⟨(some 10), .conv (.toInt .i64) (.t 9), none⟩, ⟨(some 2), .mov (.t 10), none⟩]) (
    .ret)) (
    .seq (
     .ops [⟨(some 12), .eq false .pint (.t 4) (.c (.lit (.int .i64 2))), none⟩, ⟨(some 11), .mov (.t 12), none⟩]) (
    .cond (.t 11) (
     .seq (
      .dops 5 [⟨(some 13), .mov (.t 0), none⟩, ⟨(some 14), .iaddr 1 (.t 13) (.c (.lit (.int .i64 0))), none⟩, ⟨(some 15), .load none (.t 14), none⟩, ⟨(some 16), .conv (.toInt .i64) (.t 15), none⟩, ⟨(some 17), .bin .rem (.t 16) (.c (.lit (.int .i64 32))), none⟩, ⟨(some 18), .bin .mul (.t 17) (.c (.lit (.int .i64 64))), none⟩, ⟨(some 19), .mov (.t 0), none⟩, ⟨(some 20), .iaddr 1 (.t 19) (.c (.lit (.int .i64 1))), none⟩, ⟨(some 21), .load none (.t 20), none⟩, ⟨(some 22), .conv (.toInt .i64) (.t 21), none⟩, ⟨(some 23), .bin .rem (.t 22) (.c (.lit (.int .i64 64))), none⟩, ⟨(some 24), .bin .add (.t 18) (.t 23), none⟩, ⟨(some 2), .mov (.t 24), none⟩] [0, 0, 2, 0, 0, 0, 0, 0, 2, 0, 0, 0, 0] []) (
     .ret)) (
     .seq (
      .ops [⟨(some 26), .eq false .pint (.t 4) (.c (.lit (.int .i64 3))), none⟩, ⟨(some 25), .mov (.t 26), none⟩]) (
     .cond (.t 25) (
      .seq (
       .dops 7 [⟨(some 27), .mov (.t 0), none⟩, ⟨(some 28), .iaddr 1 (.t 27) (.c (.lit (.int .i64 0))), none⟩, ⟨(some 29), .load none (.t 28), none⟩, ⟨(some 30), .conv (.toInt .i64) (.t 29), none⟩, ⟨(some 31), .bin .rem (.t 30) (.c (.lit (.int .i64 16))), none⟩, ⟨(some 32), .bin .mul (.t 31) (.c (.lit (.int .i64 4096))), none⟩, ⟨(some 33), .mov (.t 0), none⟩, ⟨(some 34), .iaddr 1 (.t 33) (.c (.lit (.int .i64 1))), none⟩, ⟨(some 35), .load none (.t 34), none⟩, ⟨(some 36), .conv (.toInt .i64) (.t 35), none⟩, ⟨(some 37), .bin .rem (.t 36) (.c (.lit (.int .i64 64))), none⟩, ⟨(some 38), .bin .mul (.t 37) (.c (.lit (.int .i64 64))), none⟩, ⟨(some 39), .bin .add (.t 32) (.t 38), none⟩, ⟨(some 40), .mov (.t 0), none⟩, ⟨(some 41), .iaddr 1 (.t 40) (.c (.lit (.int .i64 2))), none⟩, ⟨(some 42), .load none (.t 41), none⟩, ⟨(some 43), .conv (.toInt .i64) (.t 42), none⟩, ⟨(some 44), .bin .rem (.t 43) (.c (.lit (.int .i64 64))), none⟩, ⟨(some 45), .bin .add (.t 39) (.t 44), none⟩, ⟨(some 2), .mov (.t 45), none⟩] [0, 0, 2, 0, 0, 0, 0, 0, 2, 0, 0, 0, 0, 0, 0, 2, 0, 0, 0, 0] []) (
      .ret)) (
      .skip))))))))) (
 .seq (
  .dops 8 [⟨(some 46), .mov (.t 0), none⟩, ⟨(some 47), .iaddr 1 (.t 46) (.c (.lit (.int .i64 0))), none⟩, ⟨(some 48), .load none (.t 47), none⟩, ⟨(some 49), .conv (.toInt .i64) (.t 48), none⟩, ⟨(some 50), .bin .rem (.t 49) (.c (.lit (.int .i64 8))), none⟩, ⟨(some 51), .bin .mul (.t 50) (.c (.lit (.int .i64 262144))), none⟩, ⟨(some 52), .mov (.t 0), none⟩, ⟨(some 53), .iaddr 1 (.t 52) (.c (.lit (.int .i64 1))), none⟩, ⟨(some 54), .load none (.t 53), none⟩, ⟨(some 55), .conv (.toInt .i64) (.t 54), none⟩, ⟨(some 56), .bin .rem (.t 55) (.c (.lit (.int .i64 64))), none⟩, ⟨(some 57), .bin .mul (.t 56) (.c (.lit (.int .i64 4096))), none⟩, ⟨(some 58), .bin .add (.t 51) (.t 57), none⟩, ⟨(some 59), .mov (.t 0), none⟩, ⟨(some 60), .iaddr 1 (.t 59) (.c (.lit (.int .i64 2))), none⟩, ⟨(some 61), .load none (.t 60), none⟩, ⟨(some 62), .conv (.toInt .i64) (.t 61), none⟩, ⟨(some 63), .bin .rem (.t 62) (.c (.lit (.int .i64 64))), none⟩, ⟨(some 64), .bin .mul (.t 63) (.c (.lit (.int .i64 64))), none⟩, ⟨(some 65), .bin .add (.t 58) (.t 64), none⟩, ⟨(some 66), .mov (.t 0), none⟩, ⟨(some 67), .iaddr 1 (.t 66) (.c (.lit (.int .i64 3))), none⟩, ⟨(some 68), .load none (.t 67), none⟩, ⟨(some 69), .conv (.toInt .i64) (.t 68), none⟩, ⟨(some 70), .bin .rem (.t 69) (.c (.lit (.int .i64 64))), none⟩, ⟨(some 71), .bin .add (.t 65) (.t 70), none⟩, ⟨(some 2), .mov (.t 71), none⟩] [0, 0, 2, 0, 0, 0, 0, 0, 2, 0, 0, 0, 0, 0, 0, 2, 0, 0, 0, 0, 0, 0, 2, 0, 0, 0, 0] []) (
 .ret))), false⟩

/-- azimuth/runes.All -/
def C_runes_All (N : Nat → Nat) : AFunc := ⟨4, [.inl 2],
 .seq (
  .ops [⟨(some 1), .box (t_sl_uint8 N) (.t 0), none⟩, ⟨(some 2), .mov (.c (.lit .nilFunc)), none⟩]) (
 .seq (
  .ops [⟨(some 3), .mkfn (f_runes_All_1 N) [] [(.t 1)], none⟩, ⟨(some 2), .mov (.t 3), none⟩]) (
 .ret)), true⟩

def L_runes_All_1_1 (N : Nat → Nat) : AC :=
   .seq (
    .seq (
     .ops [⟨(some 6), .mov (.t 3), none⟩, ⟨(some 7), .load none (.t 1), none⟩, ⟨(some 8), .len (.t 7), none⟩, ⟨(some 9), .bin .lss (.t 6) (.t 8), none⟩]) (
    .cond (.t 9) (
     .skip) (
     .exit 0))) (
   .block 1 (
    .seq (
     .ops [⟨(some 11), .load none (.t 1), none⟩, ⟨(some 12), .mov (.t 3), none⟩, ⟨(some 13), .slice 1 (.t 11) (some (.t 12)) none, none⟩, ⟨(some 14), .call (.c (.fn (f_runes_first N) [] [])) [(.t 13)], none⟩, ⟨(some 10), .mov (.t 14), none⟩, ⟨(some 15), .extract (.t 10) 0, none⟩, ⟨(some 16), .extract (.t 10) 1, none⟩, ⟨(some 4), .mov (.t 15), none⟩, ⟨(some 5), .mov (.t 16), none⟩]) (
    .seq (
     .seq (
      .ops [⟨(some 17), .mov (.t 5), none⟩, ⟨(some 18), .eq false .pint (.t 17) (.c (.lit (.int .i64 0))), none⟩, ⟨(some 19), .mov (.t 18), none⟩, ⟨(some 20), .mov (.t 0), (some (19, false))⟩, ⟨(some 21), .mov (.t 3), (some (19, false))⟩, ⟨(some 22), .mov (.t 4), (some (19, false))⟩, ⟨(some 23), .call (.t 20) [(.t 21), (.t 22)], (some (19, false))⟩, ⟨(some 24), .un .not (.t 23), (some (19, false))⟩, ⟨(some 25), .pick (.t 19) (.c (.lit (.bool true))) (.t 24), none⟩]) (
     .cond (.t 25) (
      .ret) (
      .skip))) (
    .ops [⟨(some 26), .mov (.t 3), none⟩, ⟨(some 27), .mov (.t 5), none⟩, ⟨(some 28), .bin .add (.t 26) (.t 27), none⟩, ⟨(some 3), .mov (.t 28), none⟩]))))
/-- azimuth/runes.All$1 -/
def C_runes_All_1 (N : Nat → Nat) : AFunc := ⟨29, [],
 .seq (
  .ops [⟨(some 3), .mov (.c (.lit (.int .i64 0))), none⟩]) (
 .block 0 (
  .loop (L_runes_All_1_1 N))), false⟩

def L_runes_Bad_1 (N : Nat → Nat) : AC :=
    .seq (
     .ops [⟨(some 4), .mov (.t 8), none⟩]) (
    .ops [⟨(some 5), .mov (.t 9), none⟩])
def L_runes_Bad_2 (N : Nat → Nat) : AC :=
    .block 1 (
     .ops [⟨(some 10), .mov (.t 4), none⟩, ⟨(some 11), .mov (.t 5), none⟩, ⟨(some 12), .call (.c (.fn (f_runes_size N) [] [])) [(.t 11)], none⟩, ⟨(some 13), .bin .add (.t 10) (.t 12), none⟩, ⟨none, .store 1 (.t 3) (.t 13), none⟩])
def K_runes_Bad_1 (N : Nat → Nat) : AC :=
 .seq (
  .seq (
   .ops [⟨(some 14), .load none (.t 3), none⟩, ⟨(some 15), .mov (.t 0), none⟩, ⟨(some 16), .len (.t 15), none⟩, ⟨(some 17), .eq false .pint (.t 14) (.t 16), none⟩]) (
  .cond (.t 17) (
   .seq (
    .ops [⟨(some 2), .mov (.c (.lit (.int .i64 (-1)))), none⟩]) (
   .ret)) (
   .skip))) (
 .seq (
  .ops [⟨(some 18), .load none (.t 3), none⟩, ⟨(some 2), .mov (.t 18), none⟩]) (
 .ret))
/-- azimuth/runes.Bad -/
def C_runes_Bad (N : Nat → Nat) : AFunc := ⟨19, [.inl 2],
 .seq (
  .ops [⟨(some 2), .mov (.c (.lit (.int .i64 0))), none⟩]) (
 .seq (
  .ops [⟨(some 3), .new (t_int N) (.lit (.int .i64 0)), none⟩, ⟨none, .store 1 (.t 3) (.c (.lit (.int .i64 0))), none⟩]) (
 .seq (
  .seq (
   .ops [⟨(some 6), .mov (.t 0), none⟩, ⟨(some 7), .call (.c (.fn (f_runes_All N) [] [])) [(.t 6)], none⟩]) (
  .block 0 (
   .rangeFn (.t 7) [8, 9] (L_runes_Bad_1 N) (L_runes_Bad_2 N)))) (K_runes_Bad_1 N))), false⟩

def L_runes_Count_1 (N : Nat → Nat) : AC :=
    .skip
def L_runes_Count_2 (N : Nat → Nat) : AC :=
    .block 1 (
     .ops [⟨(some 8), .load none (.t 3), none⟩, ⟨(some 9), .bin .add (.t 8) (.c (.lit (.int .i64 1))), none⟩, ⟨none, .store 1 (.t 3) (.t 9), none⟩])
def K_runes_Count_1 (N : Nat → Nat) : AC :=
 .seq (
  .ops [⟨(some 10), .load none (.t 3), none⟩, ⟨(some 2), .mov (.t 10), none⟩]) (
 .ret)
/-- azimuth/runes.Count -/
def C_runes_Count (N : Nat → Nat) : AFunc := ⟨11, [.inl 2],
 .seq (
  .ops [⟨(some 2), .mov (.c (.lit (.int .i64 0))), none⟩]) (
 .seq (
  .ops [⟨(some 3), .new (t_int N) (.lit (.int .i64 0)), none⟩, ⟨none, .store 1 (.t 3) (.c (.lit (.int .i64 0))), none⟩]) (
 .seq (
  .seq (
   .ops [⟨(some 4), .mov (.t 0), none⟩, ⟨(some 5), .call (.c (.fn (f_runes_All N) [] [])) [(.t 4)], none⟩]) (
  .block 0 (
   .rangeFn (.t 5) [6, 7] (L_runes_Count_1 N) (L_runes_Count_2 N)))) (K_runes_Count_1 N))), false⟩

def L_runes_Encode_1 (N : Nat → Nat) : AC :=
    .seq (
     .seq (
      .ops [⟨(some 21), .mov (.t 6), none⟩, ⟨(some 22), .bin .gtr (.t 21) (.c (.lit (.int .i64 0))), none⟩]) (
     .cond (.t 22) (
      .skip) (
      .exit 0))) (
    .seq (
     .block 1 (
      .seq (
       .ops [⟨(some 25), .mov (.t 5), none⟩, ⟨(some 26), .mov (.t 6), none⟩, ⟨(some 27), .mov (.t 0), none⟩, ⟨(some 28), .bin .and (.t 27) (.c (.lit (.int .i32 63))), none⟩, ⟨(some 29), .conv (.toInt .u8) (.t 28), none⟩, ⟨(some 30), .bin .or (.c (.lit (.int .u8 128))) (.t 29), none⟩, ⟨(some 31), .iaddr 1 (.t 25) (.t 26), none⟩, ⟨none, .store 1 (.t 31) (.t 30), none⟩]) (
      .ops [⟨(some 32), .mov (.t 0), none⟩, ⟨(some 33), .bin .shr (.t 32) (.c (.lit (.int .u64 6))), none⟩, ⟨(some 0), .mov (.t 33), none⟩]))) (
    .ops [⟨(some 23), .mov (.t 6), none⟩, ⟨(some 24), .bin .sub (.t 23) (.c (.lit (.int .i64 1))), none⟩, ⟨(some 6), .mov (.t 24), none⟩]))
def K_runes_Encode_1 (N : Nat → Nat) : AC :=
 .seq (
  .ops [⟨(some 34), .mov (.t 5), none⟩, ⟨(some 35), .mov (.t 4), none⟩, ⟨(some 36), .bin .shr (.c (.lit (.int .i64 3840))) (.t 35), none⟩, ⟨(some 37), .conv (.toInt .u8) (.t 36), none⟩, ⟨(some 38), .mov (.t 0), none⟩, ⟨(some 39), .conv (.toInt .u8) (.t 38), none⟩, ⟨(some 40), .bin .or (.t 37) (.t 39), none⟩, ⟨(some 41), .iaddr 1 (.t 34) (.c (.lit (.int .i64 0))), none⟩, ⟨none, .store 1 (.t 41) (.t 40), none⟩]) (
 .seq (
  .ops [⟨(some 42), .mov (.t 5), none⟩, ⟨(some 2), .mov (.t 42), none⟩, ⟨(some 3), .mov (.c (.lit (.int .i64 0))), none⟩]) (
 .ret))
/-- azimuth/runes.Encode -/
def C_runes_Encode (N : Nat → Nat) : AFunc := ⟨43, [.inl 2, .inl 3],
 .seq (
  .ops [⟨(some 2), .mov (.c (.lit (.slice none 0 0))), none⟩, ⟨(some 3), .mov (.c (.lit (.int .i64 0))), none⟩]) (
 .seq (
  .seq (
   .ops [⟨(some 7), .mov (.t 0), none⟩, ⟨(some 8), .call (.c (.fn (f_runes_sign N) [] [])) [(.t 7)], none⟩, ⟨(some 9), .un .not (.t 8), none⟩]) (
  .cond (.t 9) (
   .seq (
    .ops [⟨(some 2), .mov (.c (.lit (.slice none 0 0))), none⟩, ⟨(some 3), .mov (.c (.lit (.int .i64 2))), none⟩]) (
   .ret)) (
   .skip))) (
 .seq (
  .ops [⟨(some 10), .mov (.t 0), none⟩, ⟨(some 11), .call (.c (.fn (f_runes_size N) [] [])) [(.t 10)], none⟩, ⟨(some 4), .mov (.t 11), none⟩]) (
 .seq (
  .seq (
   .ops [⟨(some 12), .mov (.t 4), none⟩, ⟨(some 13), .eq false .pint (.t 12) (.c (.lit (.int .i64 1))), none⟩]) (
  .cond (.t 13) (
   .seq (
    .ops [⟨(some 14), .mov (.t 0), none⟩, ⟨(some 15), .conv (.toInt .u8) (.t 14), none⟩, ⟨(some 16), .bslice (t_uint8 N) 1 none 1 [(.lit (.int .u8 0))] [(0, 1, (.t 15))], none⟩, ⟨(some 2), .mov (.t 16), none⟩, ⟨(some 3), .mov (.c (.lit (.int .i64 0))), none⟩]) (
   .ret)) (
   .skip))) (
 .seq (
  .ops [⟨(some 17), .mov (.t 4), none⟩, ⟨(some 18), .mkslice (t_uint8 N) 1 1 (.lit (.int .u8 0)) (.t 17) (.t 17), none⟩, ⟨(some 5), .mov (.t 18), none⟩]) (
 .seq (
  .seq (
   .ops [⟨(some 19), .mov (.t 4), none⟩, ⟨(some 20), .bin .sub (.t 19) (.c (.lit (.int .i64 1))), none⟩, ⟨(some 6), .mov (.t 20), none⟩]) (
  .block 0 (
   .loop (L_runes_Encode_1 N)))) (K_runes_Encode_1 N)))))), true⟩

def L_runes_Where_1 (N : Nat → Nat) : AC :=
    .seq (
     .ops [⟨(some 8), .mov (.t 17), none⟩]) (
    .ops [⟨(some 9), .mov (.t 18), none⟩])
def L_runes_Where_2 (N : Nat → Nat) : AC :=
    .block 1 (
     .seq (
      .seq (
       .ops [⟨(some 19), .mov (.t 8), none⟩, ⟨(some 20), .load none (.t 3), none⟩, ⟨(some 21), .bin .geq (.t 19) (.t 20), none⟩]) (
      .cond (.t 21) (
       .seq (
        .dops 9 [⟨(some 22), .load none (.t 4), none⟩, ⟨(some 23), .load none (.t 5), none⟩, ⟨none, .store 1 (.t 4) (.t 22), none⟩, ⟨none, .store 1 (.t 5) (.t 23), none⟩] [2, 2, 0, 0] [(5, 4)]) (
       .ret)) (
       .skip))) (
     .seq (
      .ops [⟨(some 24), .load none (.t 6), none⟩, ⟨(some 25), .mov (.t 9), none⟩, ⟨(some 26), .call (.t 24) [(.t 25)], none⟩]) (
     .ops [⟨(some 27), .mov (.t 8), none⟩, ⟨(some 28), .mov (.t 9), none⟩, ⟨(some 29), .call (.c (.fn (f_runes_size N) [] [])) [(.t 28)], none⟩, ⟨(some 30), .bin .add (.t 27) (.t 29), none⟩, ⟨none, .store 1 (.t 7) (.t 30), none⟩])))
def L_runes_Where_3 (N : Nat → Nat) : AC :=
    .seq (
     .seq (
      .ops [⟨(some 31), .load none (.t 7), none⟩, ⟨(some 32), .load none (.t 3), none⟩, ⟨(some 33), .bin .lss (.t 31) (.t 32), none⟩]) (
     .cond (.t 33) (
      .skip) (
      .exit 2))) (
    .seq (
     .block 3 (
      .dops 14 [⟨(some 36), .load none (.t 6), none⟩, ⟨(some 37), .mov (.t 0), none⟩, ⟨(some 38), .load none (.t 7), none⟩, ⟨(some 39), .iaddr 1 (.t 37) (.t 38), none⟩, ⟨(some 40), .load none (.t 39), none⟩, ⟨(some 41), .conv (.toInt .i32) (.t 40), none⟩, ⟨(some 42), .call (.t 36) [(.t 41)], none⟩] [2, 0, 2, 0, 2, 0, 0] [])) (
    .ops [⟨(some 34), .load none (.t 7), none⟩, ⟨(some 35), .bin .add (.t 34) (.c (.lit (.int .i64 1))), none⟩, ⟨none, .store 1 (.t 7) (.t 35), none⟩]))
def K_runes_Where_2 (N : Nat → Nat) : AC :=
 .seq (
  .dops 15 [⟨(some 43), .load none (.t 4), none⟩, ⟨(some 44), .load none (.t 5), none⟩, ⟨none, .store 1 (.t 4) (.t 43), none⟩, ⟨none, .store 1 (.t 5) (.t 44), none⟩] [2, 2, 0, 0] [(5, 4)]) (
 .ret)
def K_runes_Where_1 (N : Nat → Nat) : AC :=
 .seq (
  .block 2 (
   .loop (L_runes_Where_3 N))) (K_runes_Where_2 N)
/-- azimuth/runes.Where -/
def C_runes_Where (N : Nat → Nat) : AFunc := ⟨45, [.inr (4, none), .inr (5, none)],
 .seq (
  .ops [⟨(some 3), .box (t_int N) (.t 1), none⟩, ⟨(some 4), .new (t_int N) (.lit (.int .i64 0)), none⟩, ⟨(some 5), .new (t_int N) (.lit (.int .i64 0)), none⟩]) (
 .seq (
  .ops [⟨none, .store 1 (.t 4) (.c (.lit (.int .i64 1))), none⟩, ⟨none, .store 1 (.t 5) (.c (.lit (.int .i64 1))), none⟩]) (
 .seq (
  .ops [⟨(some 10), .load none (.t 3), none⟩, ⟨(some 11), .mov (.t 0), none⟩, ⟨(some 12), .len (.t 11), none⟩, ⟨(some 13), .mnmx false [(.t 10), (.t 12)], none⟩, ⟨none, .store 1 (.t 3) (.t 13), none⟩]) (
 .seq (
  .ops [⟨(some 14), .mkfn (f_runes_Where_1 N) [] [(.t 5), (.t 4)], none⟩, ⟨(some 6), .new (t_func_int32 N) (.lit .nilFunc), none⟩, ⟨none, .store 1 (.t 6) (.t 14), none⟩]) (
 .seq (
  .ops [⟨(some 7), .new (t_int N) (.lit (.int .i64 0)), none⟩, ⟨none, .store 1 (.t 7) (.c (.lit (.int .i64 0))), none⟩]) (
 .seq (
  .seq (
   .ops [⟨(some 15), .mov (.t 0), none⟩, ⟨(some 16), .call (.c (.fn (f_runes_All N) [] [])) [(.t 15)], none⟩]) (
  .block 0 (
   .rangeFn (.t 16) [17, 18] (L_runes_Where_1 N) (L_runes_Where_2 N)))) (K_runes_Where_1 N)))))), false⟩

/-- azimuth/runes.Where$1 -/
def C_runes_Where_1 (N : Nat → Nat) : AFunc := ⟨10, [],
 .seq (
  .ops [⟨(some 4), .load none (.t 1), none⟩, ⟨(some 5), .bin .add (.t 4) (.c (.lit (.int .i64 1))), none⟩, ⟨none, .store 1 (.t 1) (.t 5), none⟩]) (
 .seq (
  .ops [⟨(some 6), .mov (.t 0), none⟩, ⟨(some 7), .eq false .pint (.t 6) (.c (.lit (.int .i32 10))), none⟩]) (
 .cond (.t 7) (
  .seq (
   .ops [⟨(some 8), .load none (.t 2), none⟩, ⟨(some 9), .bin .add (.t 8) (.c (.lit (.int .i64 1))), none⟩, ⟨none, .store 1 (.t 2) (.t 9), none⟩]) (
  .ops [⟨none, .store 1 (.t 1) (.c (.lit (.int .i64 1))), none⟩])) (
  .skip))), false⟩

def L_runes_first_1 (N : Nat → Nat) : AC :=
    .seq (
     .seq (
      .ops [⟨(some 19), .mov (.t 4), none⟩, ⟨(some 20), .bin .lss (.t 19) (.c (.lit (.int .i64 4))), none⟩, ⟨(some 21), .mov (.t 20), none⟩, ⟨(some 22), .mov (.t 0), (some (21, true))⟩, ⟨(some 23), .iaddr 1 (.t 22) (.c (.lit (.int .i64 0))), (some (21, true))⟩, ⟨(some 24), .load none (.t 23), (some (21, true))⟩, ⟨(some 25), .mov (.t 4), (some (21, true))⟩, ⟨(some 26), .bin .shl (.t 24) (.t 25), (some (21, true))⟩, ⟨(some 27), .bin .and (.t 26) (.c (.lit (.int .u8 128))), (some (21, true))⟩, ⟨(some 28), .eq true .pint (.t 27) (.c (.lit (.int .u8 0))), (some (21, true))⟩, ⟨(some 29), .pick (.t 21) (.t 28) (.c (.lit (.bool false))), none⟩]) (
     .cond (.t 29) (
      .skip) (
      .exit 0))) (
    .block 1 (
     .ops [⟨(some 30), .mov (.t 4), none⟩, ⟨(some 31), .bin .add (.t 30) (.c (.lit (.int .i64 1))), none⟩, ⟨(some 4), .mov (.t 31), none⟩]))
def L_runes_first_2 (N : Nat → Nat) : AC :=
    .seq (
     .ops [⟨(some 58), .bin .lss (.t 57) (.t 56), none⟩]) (
    .seq (
     .cond (.t 58) (
      .skip) (
      .exit 2)) (
    .seq (
     .block 3 (
      .seq (
       .ops [⟨(some 59), .iaddr 1 (.t 55) (.t 57), none⟩, ⟨(some 60), .load none (.t 59), none⟩, ⟨(some 7), .mov (.t 60), none⟩]) (
      .seq (
       .seq (
        .ops [⟨(some 61), .mov (.t 7), none⟩, ⟨(some 62), .bin .and (.t 61) (.c (.lit (.int .u8 192))), none⟩, ⟨(some 63), .eq true .pint (.t 62) (.c (.lit (.int .u8 128))), none⟩]) (
       .cond (.t 63) (
        .seq (
         .ops [⟨(some 2), .mov (.c (.lit (.int .i32 0))), none⟩, ⟨(some 3), .mov (.c (.lit (.int .i64 0))), none⟩]) (
        .ret)) (
        .skip))) (
      .ops [⟨(some 64), .mov (.t 5), none⟩, ⟨(some 65), .bin .shl (.t 64) (.c (.lit (.int .u64 6))), none⟩, ⟨(some 66), .mov (.t 7), none⟩, ⟨(some 67), .bin .and (.t 66) (.c (.lit (.int .u8 63))), none⟩, ⟨(some 68), .conv (.toInt .i32) (.t 67), none⟩, ⟨(some 69), .bin .or (.t 65) (.t 68), none⟩, ⟨(some 5), .mov (.t 69), none⟩])))) (
    .ops [⟨(some 70), .bin .add (.t 57) (.c (.lit (.int .i64 1))), none⟩, ⟨(some 57), .mov (.t 70), none⟩])))
def K_runes_first_2 (N : Nat → Nat) : AC :=
 .seq (
  .seq (
   .ops [⟨(some 71), .mov (.t 5), none⟩, ⟨(some 72), .call (.c (.fn (f_runes_sign N) [] [])) [(.t 71)], none⟩, ⟨(some 73), .un .not (.t 72), none⟩, ⟨(some 74), .mov (.t 73), none⟩, ⟨(some 75), .mov (.t 5), (some (74, false))⟩, ⟨(some 76), .call (.c (.fn (f_runes_size N) [] [])) [(.t 75)], (some (74, false))⟩, ⟨(some 77), .mov (.t 4), (some (74, false))⟩, ⟨(some 78), .eq true .pint (.t 76) (.t 77), (some (74, false))⟩, ⟨(some 79), .pick (.t 74) (.c (.lit (.bool true))) (.t 78), none⟩]) (
  .cond (.t 79) (
   .seq (
    .ops [⟨(some 2), .mov (.c (.lit (.int .i32 0))), none⟩, ⟨(some 3), .mov (.c (.lit (.int .i64 0))), none⟩]) (
   .ret)) (
   .skip))) (
 .seq (
  .ops [⟨(some 80), .mov (.t 5), none⟩, ⟨(some 81), .mov (.t 4), none⟩, ⟨(some 2), .mov (.t 80), none⟩, ⟨(some 3), .mov (.t 81), none⟩]) (
 .ret))
def K_runes_first_1 (N : Nat → Nat) : AC :=
 .seq (
  .seq (
   .ops [⟨(some 32), .mov (.t 4), none⟩, ⟨(some 33), .bin .lss (.t 32) (.c (.lit (.int .i64 2))), none⟩, ⟨(some 34), .mov (.t 33), none⟩, ⟨(some 35), .mov (.t 0), (some (34, false))⟩, ⟨(some 36), .len (.t 35), (some (34, false))⟩, ⟨(some 37), .mov (.t 4), (some (34, false))⟩, ⟨(some 38), .bin .lss (.t 36) (.t 37), (some (34, false))⟩, ⟨(some 39), .pick (.t 34) (.c (.lit (.bool true))) (.t 38), none⟩, ⟨(some 40), .mov (.t 39), none⟩, ⟨(some 41), .mov (.t 0), (some (40, false))⟩, ⟨(some 42), .iaddr 1 (.t 41) (.c (.lit (.int .i64 0))), (some (40, false))⟩, ⟨(some 43), .load none (.t 42), (some (40, false))⟩, ⟨(some 44), .bin .geq (.t 43) (.c (.lit (.int .u8 248))), (some (40, false))⟩, ⟨(some 45), .pick (.t 40) (.c (.lit (.bool true))) (.t 44), none⟩]) (
  .cond (.t 45) (
   .seq (
    .ops [⟨(some 2), .mov (.c (.lit (.int .i32 0))), none⟩, ⟨(some 3), .mov (.c (.lit (.int .i64 0))), none⟩]) (
   .ret)) (
   .skip))) (
 .seq (
  .dops 10 [⟨(some 46), .mov (.t 0), none⟩, ⟨(some 47), .iaddr 1 (.t 46) (.c (.lit (.int .i64 0))), none⟩, ⟨(some 48), .load none (.t 47), none⟩, ⟨(some 49), .mov (.t 4), none⟩, ⟨(some 50), .bin .shr (.c (.lit (.int .u8 127))) (.t 49), none⟩, ⟨(some 51), .bin .and (.t 48) (.t 50), none⟩, ⟨(some 52), .conv (.toInt .i32) (.t 51), none⟩, ⟨(some 5), .mov (.t 52), none⟩] [0, 0, 0, 0, 0, 0, 0, 0] []) (
 .seq (
  .seq (
   .ops [⟨(some 53), .mov (.t 0), none⟩, ⟨(some 54), .mov (.t 4), none⟩, ⟨(some 55), .slice 1 (.t 53) (some (.c (.lit (.int .i64 1)))) (some (.t 54)), none⟩, ⟨(some 56), .len (.t 55), none⟩, ⟨(some 57), .mov (.c (.lit (.int .i64 0))), none⟩]) (
  .block 2 (
   .loop (L_runes_first_2 N)))) (K_runes_first_2 N)))
/-- azimuth/runes.first -/
def C_runes_first (N : Nat → Nat) : AFunc := ⟨82, [.inl 2, .inl 3],
 .seq (
  .ops [⟨(some 2), .mov (.c (.lit (.int .i32 0))), none⟩, ⟨(some 3), .mov (.c (.lit (.int .i64 0))), none⟩]) (
 .seq (
  .seq (
   .ops [⟨(some 8), .mov (.t 0), none⟩, ⟨(some 9), .len (.t 8), none⟩, ⟨(some 10), .eq false .pint (.t 9) (.c (.lit (.int .i64 0))), none⟩]) (
  .cond (.t 10) (
   .seq (
    .ops [⟨(some 2), .mov (.c (.lit (.int .i32 0))), none⟩, ⟨(some 3), .mov (.c (.lit (.int .i64 0))), none⟩]) (
   .ret)) (
   .skip))) (
 .seq (
  .seq (
   .ops [⟨(some 11), .mov (.t 0), none⟩, ⟨(some 12), .iaddr 1 (.t 11) (.c (.lit (.int .i64 0))), none⟩, ⟨(some 13), .load none (.t 12), none⟩, ⟨(some 14), .bin .lss (.t 13) (.c (.lit (.int .u8 128))), none⟩]) (
  .cond (.t 14) (
   .seq (
    .ops [⟨(some 15), .mov (.t 0), none⟩, ⟨(some 16), .iaddr 1 (.t 15) (.c (.lit (.int .i64 0))), none⟩, ⟨(some 17), .load none (.t 16), none⟩, ⟨(some 18), .conv (.toInt .i32) (.t 17), none⟩, ⟨(some 2), .mov (.t 18), none⟩, ⟨(some 3), .mov (.c (.lit (.int .i64 1))), none⟩]) (
   .ret)) (
   .skip))) (
 .seq (
  .ops [⟨(some 4), .mov (.c (.lit (.int .i64 0))), none⟩]) (
 .seq (
  .block 0 (
   .loop (L_runes_first_1 N))) (K_runes_first_1 N))))), false⟩

/-- azimuth/runes.sign -/
def C_runes_sign (N : Nat → Nat) : AFunc := ⟨17, [.inl 2],
 .seq (
  .ops [⟨(some 2), .mov (.c (.lit (.bool false))), none⟩]) (
 .seq (
  .ops [⟨(some 3), .mov (.t 0), none⟩, ⟨(some 4), .bin .geq (.t 3) (.c (.lit (.int .i32 0))), none⟩, ⟨(some 5), .mov (.t 4), none⟩, ⟨(some 6), .mov (.t 0), (some (5, true))⟩, ⟨(some 7), .bin .lss (.t 6) (.c (.lit (.int .i32 1114112))), (some (5, true))⟩, ⟨(some 8), .pick (.t 5) (.t 7) (.c (.lit (.bool false))), none⟩, ⟨(some 9), .mov (.t 8), none⟩, ⟨(some 10), .mov (.t 0), (some (9, true))⟩, ⟨(some 11), .bin .lss (.t 10) (.c (.lit (.int .i32 55296))), (some (9, true))⟩, ⟨(some 12), .mov (.t 11), (some (9, true))⟩, ⟨(some 13), .mov (.t 0), (some (12, false))⟩, ⟨(some 14), .bin .gtr (.t 13) (.c (.lit (.int .i32 57343))), (some (12, false))⟩, ⟨(some 15), .pick (.t 12) (.c (.lit (.bool true))) (.t 14), (some (9, true))⟩, ⟨(some 16), .pick (.t 9) (.t 15) (.c (.lit (.bool false))), none⟩, ⟨(some 2), .mov (.t 16), none⟩]) (
 .ret)), false⟩

/-- azimuth/runes.size -/
def C_runes_size (N : Nat → Nat) : AFunc := ⟨12, [.inl 2],
 .seq (
  .ops [⟨(some 2), .mov (.c (.lit (.int .i64 0))), none⟩]) (
 .seq (
  .block 0 (
   .seq (
    .ops [⟨(some 4), .mov (.t 0), none⟩, ⟨(some 5), .bin .lss (.t 4) (.c (.lit (.int .i32 128))), none⟩, ⟨(some 3), .mov (.t 5), none⟩]) (
   .cond (.t 3) (
    .seq (
     .ops [⟨(some 2), .mov (.c (.lit (.int .i64 1))), none⟩]) (
    .ret)) (
    .seq (
     .ops [⟨(some 7), .mov (.t 0), none⟩, ⟨(some 8), .bin .lss (.t 7) (.c (.lit (.int .i32 2048))), none⟩, ⟨(some 6), .mov (.t 8), none⟩]) (
    .cond (.t 6) (
     .seq (
      .ops [⟨(some 2), .mov (.c (.lit (.int .i64 2))), none⟩]) (
     .ret)) (
     .seq (
      .ops [⟨(some 10), .mov (.t 0), none⟩, ⟨(some 11), .bin .lss (.t 10) (.c (.lit (.int .i32 65536))), none⟩, ⟨(some 9), .mov (.t 11), none⟩]) (
     .cond (.t 9) (
      .seq (
       .ops [⟨(some 2), .mov (.c (.lit (.int .i64 3))), none⟩]) (
      .ret)) (
      .skip)))))))) (
 .seq (
  .ops [⟨(some 2), .mov (.c (.lit (.int .i64 4))), none⟩]) (
 .ret))), false⟩
end Go.Proofs.Eng
/- The functions of package runes, run by the engine. -/
set_option linter.unusedVariables false
set_option linter.unusedSimpArgs false
set_option maxRecDepth 100000
namespace Go.Proofs.Eng
open Go
section
variable {Γ : Sums} {A : Tab} {N : Nat → Nat}

def runeSize (r : Int) : Int := if r < 128 then 1 else if r < 2048 then 2 else if r < 65536 then 3 else 4
def runeSign (r : Int) : Bool := decide (0 ≤ r) && decide (r < 1114112) && (decide (r < 55296) || decide (57343 < r))

theorem runes_size_call (h : Has Γ A (f_runes_size N) (C_runes_size N)) (r : Int) (H : Hp) : (lim Γ A).call (f_runes_size N) [avInt .i32 r] H = some (avInt .i64 (runeSize r), none) := by
  apply h.call (by rfl)
  unfold runeSize
  by_cases h1 : r < 128
  · simp [C_runes_size, h1]
  · by_cases h2 : r < 2048
    · simp [C_runes_size, h1, h2]
    · by_cases h3 : r < 65536
      · simp [C_runes_size, h1, h2, h3]
      · simp [C_runes_size, h1, h2, h3]

theorem runes_sign_call (h : Has Γ A (f_runes_sign N) (C_runes_sign N)) (r : Int) (H : Hp) : (lim Γ A).call (f_runes_sign N) [avInt .i32 r] H = some (avBool (runeSign r), none) := by
  apply h.call (by rfl)
  unfold runeSign
  by_cases h1 : 0 ≤ r <;> by_cases h2 : r < 1114112 <;> by_cases h3 : r < 55296 <;> simp [C_runes_sign, h1, h2, h3]

/-! ### The sign at the head of bytes -/
def lead (b : UInt8) : Nat := if b.toNat < 128 then 0 else if b.toNat < 192 then 1 else if b.toNat < 224 then 2 else if b.toNat < 240 then 3 else 4
def isCont (b : UInt8) : Bool := decide (128 ≤ b.toNat) && decide (b.toNat < 192)
/-- What the bytes behind the first one add. -/
def accB (r : Int) : List UInt8 → Int
  | [] => r
  | b :: l => accB (r * 64 + ((b.toNat % 64 : Nat) : Int)) l
def headR (b0 : UInt8) : Int := ((b0.toNat % 2 ^ (7 - lead b0) : Nat) : Int)
def rfirst : List UInt8 → Int × Int
  | [] => (0, 0)
  | b0 :: l =>
    if b0.toNat < 128 then ((b0.toNat : Int), 1)
    else if lead b0 < 2 ∨ l.length + 1 < lead b0 ∨ 248 ≤ b0.toNat then (0, 0)
    else if ((l.take (lead b0 - 1)).all isCont) = true then
      if runeSign (accB (headR b0) (l.take (lead b0 - 1))) = true ∧ runeSize (accB (headR b0) (l.take (lead b0 - 1))) = lead b0 then (accB (headR b0) (l.take (lead b0 - 1)), (lead b0 : Int)) else (0, 0)
    else (0, 0)

theorem all256 {p : UInt8 → Bool} (h : (List.range 256).all (fun n => p (UInt8.ofNat n)) = true) (b : UInt8) : p b = true := by
  rw [List.all_eq_true] at h
  have := h b.toNat (by simp; exact b.toNat_lt)
  simpa using this

theorem bit_all : (List.range 256).all (fun i => (List.range 4).all fun n => decide (n ≤ lead (UInt8.ofNat i) → 128 ≤ (UInt8.ofNat i).toNat → decide (bAnd .u8 (bShl .u8 ((UInt8.ofNat i).toNat : Int) (n : Int)) 128 = 0) = !decide (n < lead (UInt8.ofNat i)))) = true := by decide +kernel
theorem bit_lead (b : UInt8) (n : Nat) (hn : n < 4) (h : n ≤ lead b) (hb : 128 ≤ b.toNat) : decide (bAnd .u8 (bShl .u8 (b.toNat : Int) (n : Int)) 128 = 0) = !decide (n < lead b) := by
  have := all256 (p := fun b => (List.range 4).all fun n => decide (n ≤ lead b → 128 ≤ b.toNat → decide (bAnd .u8 (bShl .u8 (b.toNat : Int) (n : Int)) 128 = 0) = !decide (n < lead b))) bit_all b
  rw [List.all_eq_true] at this
  have := this n (by simp; exact hn)
  simp only [decide_eq_true_eq] at this
  exact this h hb
theorem lead_le (b : UInt8) : lead b ≤ 4 := by unfold lead; (repeat' split) <;> omega

theorem first_loop1 {x : AV} {b0 : UInt8} {ρ : Rho} {H : Hp} {Q : Post} {p : AV} (hi : aiaddr 1 x (.lit (.int .i64 0)) = some p) (hi2 : aload H none p = some (avByte b0)) (hb : 128 ≤ b0.toNat) (h0 : ρ 0 = x) (h4 : ρ 4 = avInt .i64 0)
    (hQ : ∀ ρ' : Rho, ρ' 0 = x → ρ' 4 = avInt .i64 (lead b0) → Q (.exit 0) ρ' H) : wp (lim Γ A) none (.loop (L_runes_first_1 N)) ρ H Q := by
  refine wp_round (fun k ρ H' => H' = H ∧ ∃ n : Nat, ρ 0 = x ∧ ρ 4 = avInt .i64 n ∧ n ≤ lead b0 ∧ k = 4 - n) (n := 4) ⟨rfl, 0, h0, h4, by omega, rfl⟩ ?_
  rintro k ρ H' ⟨rfl, n, h0, h4, hn, rfl⟩
  have hl4 := lead_le b0
  by_cases hn4 : n < 4
  · have hbl := bit_lead b0 n hn4 hn (by omega)
    have hn5 : (n : Int) < 4 := by omega
    by_cases hnl : n < lead b0
    · simp only [hnl, decide_true, Bool.not_true, decide_eq_false_iff_not] at hbl
      have hw : IntKind.wrap .i64 ((n : Int) + 1) = ((n + 1 : Nat) : Int) := by rw [wrap64 (by omega) (by omega)]; omega
      simp [L_runes_first_1, h0, h4, hn5, hi, hi2, avByte, hbl, hw, -Int.natCast_add]
      exact ⟨4 - (n + 1), by omega, n + 1, rfl, by omega, rfl⟩
    · have hnl2 : n = lead b0 := by omega
      simp only [hnl, decide_false, Bool.not_false, decide_eq_true_eq] at hbl
      simp [L_runes_first_1, h0, h4, hn5, hi, hi2, avByte, hbl]
      apply hQ <;> simp [h0, h4, hnl2]
  · have hn5 : ¬ (n : Int) < 4 := by omega
    have hnl2 : n = lead b0 := by omega
    simp [L_runes_first_1, h0, h4, hn5]
    apply hQ <;> simp [h0, h4, hnl2]

theorem cont_and (b : UInt8) : decide (bAnd .u8 (b.toNat : Int) 192 = 128) = isCont b := by
  have := all256 (p := fun b => decide (decide (bAnd .u8 (b.toNat : Int) 192 = 128) = isCont b)) (by decide +kernel) b
  simpa only [decide_eq_true_eq] using this
theorem low6_and (b : UInt8) : IntKind.wrap .i32 (bAnd .u8 (b.toNat : Int) 63) = ((b.toNat % 64 : Nat) : Int) := by
  have := all256 (p := fun b => decide (IntKind.wrap .i32 (bAnd .u8 (b.toNat : Int) 63) = ((b.toNat % 64 : Nat) : Int))) (by decide +kernel) b
  simpa only [decide_eq_true_eq] using this
theorem wrap32 {a : Int} (h1 : -2147483648 ≤ a) (h2 : a ≤ 2147483647) : IntKind.wrap .i32 a = a := by
  simp only [IntKind.wrap, IntKind.bits, IntKind.signed]
  simp
  omega
theorem or_add {r y : Nat} (hr : r < 2 ^ 24) (hy : y < 64) : bOr .i32 (bShl .i32 (r : Int) 6) (y : Int) = ((r * 64 + y : Nat) : Int) := by
  have h6 : bShl .i32 (r : Int) 6 = (r : Int) * 2 ^ 6 := by
    show IntKind.wrap .i32 ((r : Int) * 2 ^ 6) = _
    rw [wrap32 (by omega) (by omega)]
  rw [h6]
  have h1 : (BitVec.ofInt 32 ((r : Int) * 2 ^ 6) ||| BitVec.ofInt 32 (y : Int)).toNat = r * 64 + y := by
    rw [BitVec.toNat_or]
    have e1 : (BitVec.ofInt 32 ((r : Int) * 2 ^ 6)).toNat = r <<< 6 := by
      rw [BitVec.toNat_ofInt, Nat.shiftLeft_eq]; omega
    have e2 : (BitVec.ofInt 32 (y : Int)).toNat = y := by
      rw [BitVec.toNat_ofInt]; omega
    rw [e1, e2, ← Nat.shiftLeft_add_eq_or_of_lt (by omega : y < 2 ^ 6), Nat.shiftLeft_eq]
  show IntKind.wrap .i32 (BitVec.ofInt 32 ((r : Int) * 2 ^ 6) ||| BitVec.ofInt 32 (y : Int)).toNat = _
  rw [h1, wrap32 (by omega) (by omega)]

theorem accB_snoc (r : Int) (l : List UInt8) (b : UInt8) : accB r (l ++ [b]) = accB r l * 64 + ((b.toNat % 64 : Nat) : Int) := by
  induction l generalizing r with
  | nil => rfl
  | cons a l ih => simp only [List.cons_append, accB]; rw [ih]
theorem accB_nat (r : Nat) (l : List UInt8) : ∃ m : Nat, accB r l = m ∧ m < (r + 1) * 64 ^ l.length := by
  induction l generalizing r with
  | nil => exact ⟨r, rfl, by simp⟩
  | cons a l ih =>
    obtain ⟨m, e, h⟩ := ih (r * 64 + a.toNat % 64)
    refine ⟨m, ?_, ?_⟩
    · simp only [accB]; rw [← e]; congr 1
    · refine Nat.lt_of_lt_of_le h ?_
      rw [List.length_cons, Nat.pow_succ, Nat.mul_comm (64 ^ l.length) 64, ← Nat.mul_assoc]
      apply Nat.mul_le_mul_right
      have : a.toNat % 64 < 64 := Nat.mod_lt _ (by omega)
      omega

/-- The bytes behind the first one. -/
theorem first_loop2 {y : AV} {m : List UInt8} {r0 : Nat} {n : AV} {ρ : Rho} {H : Hp} {Q : Post} (hy : VBytes H y m) (hm : m.length ≤ 3) (hr : r0 < 32) (h4 : ρ 4 = n) (h5 : ρ 5 = avInt .i32 r0) (h55 : ρ 55 = y) (h56 : ρ 56 = avInt .i64 m.length) (h57 : ρ 57 = avInt .i64 0)
    (hQ : ∀ ρ' : Rho, ρ' 4 = n → ρ' 5 = avInt .i32 (accB r0 m) → m.all isCont = true → Q (.exit 2) ρ' H) (hR : ∀ ρ' : Rho, ρ' 2 = avInt .i32 0 → ρ' 3 = avInt .i64 0 → m.all isCont = false → Q .ret ρ' H) : wp (lim Γ A) none (.loop (L_runes_first_2 N)) ρ H Q := by
  refine wp_round (fun k ρ H' => H' = H ∧ ∃ i : Nat, ρ 4 = n ∧ ρ 5 = avInt .i32 (accB r0 (m.take i)) ∧ ρ 55 = y ∧ ρ 56 = avInt .i64 m.length ∧ ρ 57 = avInt .i64 i ∧ i ≤ m.length ∧ (m.take i).all isCont = true ∧ k = m.length - i) (n := m.length)
    ⟨rfl, 0, h4, by simpa [accB] using h5, h55, h56, h57, by omega, by simp, by simp⟩ ?_
  rintro k ρ H' ⟨rfl, i, h4, h5, h55, h56, h57, hi, hc, rfl⟩
  by_cases hlt : i < m.length
  · have hlt' : (i : Int) < m.length := by omega
    obtain ⟨p, ha, ha2⟩ := VBytes.at' hy (k := .i64) (i := (i : Int)) (by omega) (by simpa using hlt)
    simp only [Int.toNat_natCast] at ha ha2
    have htk : m.take (i + 1) = m.take i ++ [m[i]] := List.take_succ_eq_append_getElem hlt
    have hca := cont_and m[i]
    by_cases hct : isCont m[i] = true
    · rw [hct, decide_eq_true_eq] at hca
      obtain ⟨q, hq, hq2⟩ := accB_nat r0 (m.take i)
      have hq3 : q < 2 ^ 24 := by
        refine Nat.lt_of_lt_of_le hq2 ?_
        have : (m.take i).length ≤ 2 := by simp; omega
        calc (r0 + 1) * 64 ^ (m.take i).length ≤ 32 * 64 ^ 2 := Nat.mul_le_mul (by omega) (Nat.pow_le_pow_right (by omega) this)
          _ ≤ 2 ^ 24 := by omega
      have ho := or_add hq3 (Nat.mod_lt m[i].toNat (by omega : 0 < 64))
      have hw : IntKind.wrap .i64 ((i : Int) + 1) = ((i + 1 : Nat) : Int) := by rw [wrap64 (by omega) (by omega)]; omega
      rw [hq] at h5
      simp [L_runes_first_2, h4, h5, h55, h56, h57, hlt', ha, ha2, avByte, hca, low6_and, ho, hw, -Int.natCast_emod, -Int.natCast_add, -Int.natCast_mul]
      refine ⟨m.length - (i + 1), by omega, i + 1, ?_, rfl, by omega, ?_, rfl⟩
      · rw [htk, accB_snoc, hq]; simp
      · rw [htk]
        intro z hz
        rcases List.mem_append.1 hz with hz | hz
        · exact List.all_eq_true.1 hc z hz
        · simp only [List.mem_singleton] at hz; subst hz; exact hct
    · rw [Bool.not_eq_true] at hct
      rw [hct, decide_eq_false_iff_not] at hca
      simp [L_runes_first_2, h4, h5, h55, h56, h57, hlt', ha, ha2, avByte, hca]
      apply hR
      · simp
      · simp
      · rw [List.all_eq_false]
        exact ⟨m[i], List.getElem_mem _, by simp [hct]⟩
  · have hlt' : ¬ (i : Int) < m.length := by omega
    have htk : m.take i = m := List.take_of_length_le (by omega)
    simp [L_runes_first_2, h4, h5, h55, h56, h57, hlt']
    rw [htk] at h5 hc
    apply hQ
    · simp [h4]
    · simp [h5]
    · exact hc

theorem head_and (b : UInt8) (h : 2 ≤ lead b) (h2 : b.toNat < 248) : IntKind.wrap .i32 (bAnd .u8 (b.toNat : Int) (bShr .u8 127 (lead b : Int))) = headR b := by
  have := all256 (p := fun b => decide (2 ≤ lead b → b.toNat < 248 → IntKind.wrap .i32 (bAnd .u8 (b.toNat : Int) (bShr .u8 127 (lead b : Int))) = headR b)) (by decide +kernel) b
  simp only [decide_eq_true_eq] at this
  exact this h h2

theorem runes_first_call (hsz : Has Γ A (f_runes_size N) (C_runes_size N)) (hsg : Has Γ A (f_runes_sign N) (C_runes_sign N)) (h : Has Γ A (f_runes_first N) (C_runes_first N)) (x : AV) (b : List UInt8) (H : Hp) (hx : VBytes H x b) :
    (lim Γ A).call (f_runes_first N) [x] H = some (.tup [avInt .i32 (rfirst b).1, avInt .i64 (rfirst b).2], none) := by
  apply h.call (by rfl)
  replace hx : VBytes { l := H.l, d := none } x b := Vw.dd hx none
  have hlen := hx.len
  cases b with
  | nil => 
    simp [C_runes_first, hlen, rfirst]
  | cons b0 l =>
    obtain ⟨p, hi, hi2⟩ := VBytes.at' hx (k := .i64) (i := 0) (by omega) (by simp)
    simp only [Int.reduceToNat, List.getElem_cons_zero] at hi hi2
    simp only [List.map_cons, List.length_cons, List.length_map] at hlen
    have hz : ¬ ((l.length : Int) + 1 = 0) := by omega
    by_cases h128 : b0.toNat < 128
    · have h1 : (b0.toNat : Int) < 128 := by omega
      have hw : IntKind.wrap .i32 (b0.toNat : Int) = b0.toNat := wrap32 (by omega) (by omega)
      simp [C_runes_first, hlen, rfirst, hz, hi, hi2, avByte, h1, h128, hw]
    · have h1 : ¬ (b0.toNat : Int) < 128 := by omega
      simp [C_runes_first, hlen, hz, hi, hi2, avByte, h1]
      refine first_loop1 hi hi2 (by omega) (by simp) (by simp) ?_
      intro ρ h0 h4
      simp only [blockP_exit, if_true, seqP_nrm]
      by_cases hl2 : lead b0 < 2
      · have hl3 : (lead b0 : Int) < 2 := by omega
        simp [K_runes_first_1, h0, h4, hl3, rfirst, h128, hl2]
      · have hl3 : ¬ (lead b0 : Int) < 2 := by omega
        by_cases hl5 : l.length + 1 < lead b0
        · have hl6 : (l.length : Int) + 1 < lead b0 := by omega
          simp [K_runes_first_1, h0, h4, hl3, rfirst, h128, hl2, hlen, hl5, hl6]
        · have hl6 : ¬ (l.length : Int) + 1 < lead b0 := by omega
          by_cases h248 : 248 ≤ b0.toNat
          · have h249 : 248 ≤ (b0.toNat : Int) := by omega
            simp [K_runes_first_1, h0, h4, hl3, rfirst, h128, hl2, hlen, hl5, hl6, hi, hi2, avByte, h248, h249]
          · have h249 : ¬ 248 ≤ (b0.toNat : Int) := by omega
            have hh := head_and b0 (by omega) (by omega)
            have h47 := lead_le b0
            obtain ⟨y, hy1, hy2⟩ := Vw.cut hx (k := .i64) (k' := .i64) (i := 1) (j := (lead b0 : Int)) (by omega) (by omega) (by simp; omega)
            simp only [List.map_cons, Int.reduceToNat, List.drop_succ_cons, List.drop_zero, Int.toNat_natCast, ← List.map_take] at hy2
            have hyl := hy2.len
            have hml : (l.take (lead b0 - 1)).length = lead b0 - 1 := by simp; omega
            rw [List.length_map, hml] at hyl
            have hf : rfirst (b0 :: l) = (if ((l.take (lead b0 - 1)).all isCont) = true then
                if runeSign (accB (headR b0) (l.take (lead b0 - 1))) = true ∧ runeSize (accB (headR b0) (l.take (lead b0 - 1))) = lead b0 then (accB (headR b0) (l.take (lead b0 - 1)), (lead b0 : Int)) else (0, 0)
              else (0, 0)) := by
              simp only [rfirst, h128, if_false, hl2, hl5, h248, or_self]
            simp [K_runes_first_1, h0, h4, hl3, hlen, hl6, hi, hi2, avByte, h249, hy1, hyl, hh]
            have hhr : headR b0 = ((b0.toNat % 2 ^ (7 - lead b0) : Nat) : Int) := rfl
            have hr32 : b0.toNat % 2 ^ (7 - lead b0) < 32 := by
              have : b0.toNat % 2 ^ (7 - lead b0) < 2 ^ (7 - lead b0) := Nat.mod_lt _ (Nat.two_pow_pos _)
              refine Nat.lt_of_lt_of_le this ?_
              exact Nat.pow_le_pow_right (by omega) (by omega : 7 - lead b0 ≤ 5)
            refine first_loop2 (m := l.take (lead b0 - 1)) (n := avInt .i64 (lead b0)) hy2 (by rw [hml]; omega) hr32 (by simp [h4]) (by simp [hhr]) (by simp) (by simp [hml]) (by simp) ?_ ?_
            · intro ρ h4 h5 hall
              simp only [blockP_exit, if_true, seqP_nrm]
              rw [hf, if_pos hall]
              rw [← hhr] at h5
              have e1 := runes_sign_call hsg (accB (headR b0) (l.take (lead b0 - 1))) { l := H.l, d := none }
              have e2 := runes_size_call hsz (accB (headR b0) (l.take (lead b0 - 1))) { l := H.l, d := none }
              by_cases hs1 : runeSign (accB (headR b0) (l.take (lead b0 - 1))) = true
              · by_cases hs2 : runeSize (accB (headR b0) (l.take (lead b0 - 1))) = lead b0
                · simp [K_runes_first_2, h4, h5, e1, e2, hs1, hs2]
                · simp [K_runes_first_2, h4, h5, e1, e2, hs1, hs2]
              · simp [K_runes_first_2, h4, h5, e1, hs1]
            · intro ρ h2 h3 hall
              rw [hf, hall]
              simp [h2, h3]

/-! ### All signs -/
/-- The signs of bytes, with their places. -/
def rsigns : Nat → Nat → List UInt8 → List (Nat × Int)
  | 0, _, _ => []
  | k + 1, at', b => if (rfirst b).2 = 0 then [] else (at', (rfirst b).1) :: rsigns k (at' + (rfirst b).2.toNat) (b.drop (rfirst b).2.toNat)
def allOf (b : List UInt8) : List (Nat × Int) := rsigns b.length 0 b
def encS (p : Nat × Int) : List AV := [avInt .i64 p.1, avInt .i32 p.2]

theorem rfirst_bound (b : List UInt8) : (rfirst b).2 = 0 ∨ (1 ≤ (rfirst b).2 ∧ (rfirst b).2 ≤ 4 ∧ (rfirst b).2 ≤ b.length) := by
  cases b with
  | nil => exact .inl rfl
  | cons b0 l =>
    have := lead_le b0
    simp only [rfirst]
    split
    · right; simp; omega
    · split
      · left; rfl
      · split
        · split
          · right; rename_i h _ _; simp; omega
          · left; rfl
        · left; rfl
theorem rsigns_fuel : ∀ (k j at' : Nat) (b : List UInt8), b.length ≤ k → b.length ≤ j → rsigns k at' b = rsigns j at' b
  | 0, 0, _, _, _, _ => rfl
  | 0, j + 1, at', b, h, _ => by
    have : b = [] := by cases b with | nil => rfl | cons => simp at h
    subst this; simp [rsigns, rfirst]
  | k + 1, 0, at', b, _, h => by
    have : b = [] := by cases b with | nil => rfl | cons => simp at h
    subst this; simp [rsigns, rfirst]
  | k + 1, j + 1, at', b, h1, h2 => by
    simp only [rsigns]
    rcases rfirst_bound b with h | ⟨h3, h4, h5⟩
    · simp [h]
    · have hne : ¬ (rfirst b).2 = 0 := by omega
      rw [if_neg hne, if_neg hne, rsigns_fuel k j _ _ (by simp; omega) (by simp; omega)]
theorem rsigns_step {at' : Nat} {b : List UInt8} (h : (rfirst b).2 ≠ 0) : rsigns b.length at' b = (at', (rfirst b).1) :: rsigns (b.drop (rfirst b).2.toNat).length (at' + (rfirst b).2.toNat) (b.drop (rfirst b).2.toNat) := by
  rcases rfirst_bound b with h' | ⟨h3, h4, h5⟩
  · exact absurd h' h
  · obtain ⟨k, hk⟩ : ∃ k, b.length = k + 1 := ⟨b.length - 1, by omega⟩
    rw [hk]
    simp only [rsigns]
    rw [if_neg h, rsigns_fuel k _ _ _ (by simp; omega) (Nat.le_refl _)]
theorem rsigns_stop {at' : Nat} {b : List UInt8} (h : (rfirst b).2 = 0) (k : Nat) : rsigns k at' b = [] := by
  cases k with
  | zero => rfl
  | succ k => simp [rsigns, h]

structure RunesAll (Γ : Sums) (A : Tab) (N : Nat → Nat) : Prop where
  size : Has Γ A (f_runes_size N) (C_runes_size N)
  sign : Has Γ A (f_runes_sign N) (C_runes_sign N)
  first : Has Γ A (f_runes_first N) (C_runes_first N)
  all : Has Γ A (f_runes_All N) (C_runes_All N)
  all1 : Has Γ A (f_runes_All_1 N) (C_runes_All_1 N)

theorem runes_All_call (h : RunesAll Γ A N) {x : AV} {b : List UInt8} (H : Hp) (hx : VBytes H x b) : (lim Γ A).call (f_runes_All N) [x] H = some (.fn (f_runes_All_1 N) [] [.vp [x]], none) := by
  apply h.all.call (by rfl)
  have hg := Vw.good hx
  simp [C_runes_All, hg.1]
  apply settleZ_frz
  · simp [keeps]
  · rw [frz_fn, mapM_cons', frz_ptr (cs := x.cells) (t := t_sl_uint8 N) (by simp) (by simp) (by simp), hg.2, List.drop_zero, mapM_cons', Vw.frz hx (bytes_lits b)]
    rfl

theorem runes_All_gen (h : RunesAll Γ A N) {x : AV} {b : List UInt8} (hb : b.length < 2 ^ 62) : GenW (lim Γ A) (f_runes_All_1 N) [] [.vp [x]] (fun H => VBytes H x b) ((allOf b).map encS) := by
  intro l H K Kx hl hV h0 hstep
  have hlen := Vw.len (hV _ _ h0)
  rw [List.length_map] at hlen
  have key : ∃ r, (lim Γ A).ent (f_runes_All_1 N) [.yld l, .vp [x]] H = some r ∧ ∃ H2, (r.2.getD H).l = H2.l ∧ (r.2.getD H).d = dminO H.d H2.d ∧ (K (allOf b).length H2 ∨ Kx H2) := by
    apply h.all1.entP (by rfl)
    simp [C_runes_All_1]
    -- what is owed at the end
    have fin : ∀ H', ((∃ m, H'.d = some m ∧ m ≤ l) ∨ H' = { l := H.l, d := none }) → (K (allOf b).length H' ∨ Kx H') → ∃ H2, ((settle H (.tup []) H').2.getD H).l = H2.l ∧ ((settle H (.tup []) H').2.getD H).d = dminO H.d H2.d ∧ (K (allOf b).length H2 ∨ Kx H2) := by
      rintro H' (⟨m, hm, hml⟩ | rfl) hk
      · refine ⟨H', ?_, ?_, hk⟩ <;> · have : keeps H H' = false := by simp [keeps, hm]; omega
                                      simp [settle, this]
      · refine ⟨_, ?_, ?_, hk⟩ <;> simp [settle, keeps, AV.under, AV.unders]
    refine wp_round (fun k ρ H' => ∃ i at' : Nat, ρ 0 = .yld l ∧ ρ 1 = .vp [x] ∧ ρ 3 = avInt .i64 at' ∧ at' ≤ b.length ∧ K i H' ∧ ((∃ m, H'.d = some m ∧ m ≤ l) ∨ H' = { l := H.l, d := none }) ∧ i ≤ (allOf b).length ∧
      (allOf b).drop i = rsigns (b.drop at').length at' (b.drop at') ∧ k = b.length - at') (n := b.length) ⟨0, 0, by simp, by simp, by simp, by omega, h0, .inr rfl, by omega, by simp [allOf], by simp⟩ ?_
    rintro k ρ H' ⟨i, at', r0, r1, r3, hat, hK, hd, hil, hs, rfl⟩
    have stop : rsigns (b.drop at').length at' (b.drop at') = [] → K (allOf b).length H' := by
      intro hn
      rw [hn] at hs
      have hi : (allOf b).length ≤ i := List.drop_eq_nil_iff.1 hs
      have : i = (allOf b).length := by omega
      rw [← this]; exact hK
    by_cases hlt : at' < b.length
    · have hlt' : (at' : Int) < b.length := by omega
      have hx := hV _ _ hK
      obtain ⟨y, hy1, hy2⟩ := Vw.from' hx (k := .i64) (i := (at' : Int)) (by omega) (by simp; omega)
      rw [Int.toNat_natCast, ← List.map_drop] at hy2
      have hf := runes_first_call h.size h.sign h.first y (b.drop at') H' hy2
      rcases rfirst_bound (b.drop at') with hz | ⟨h3, h4, h5⟩
      · simp [L_runes_All_1_1, r0, r1, r3, hlen, hlt', hy1, hf, hz]
        exact fin H' hd (.inl (stop (rsigns_stop hz _)))
      · have hz : ¬ (rfirst (b.drop at')).2 = 0 := by omega
        rw [rsigns_step hz] at hs
        have hi : i < (allOf b).length := by
          rcases Nat.lt_or_ge i (allOf b).length with h | h
          · exact h
          · rw [List.drop_eq_nil_of_le h] at hs; cases hs
        rw [List.drop_eq_getElem_cons hi] at hs
        injection hs with hs1 hs2
        obtain ⟨t, H'', e1, e2, e3, e4⟩ := hstep i (by simpa using hi) H' hK
        rw [List.getElem_map, hs1] at e1
        simp only [encS] at e1
        rw [List.length_drop] at h5
        cases t with
        | false =>
          simp [L_runes_All_1_1, r0, r1, r3, hlen, hlt', hy1, hf, hz, e1]
          exact fin H'' (.inl e2) (.inr (e4 rfl))
        | true =>
          have hw : IntKind.wrap .i64 ((at' : Int) + (rfirst (b.drop at')).2) = ((at' + (rfirst (b.drop at')).2.toNat : Nat) : Int) := by rw [wrap64 (by omega) (by omega)]; omega
          simp [L_runes_All_1_1, r0, r1, r3, hlen, hlt', hy1, hf, hz, e1, hw, -Int.natCast_add]
          refine ⟨b.length - (at' + (rfirst (b.drop at')).2.toNat), by omega, i + 1, at' + (rfirst (b.drop at')).2.toNat, rfl, by omega, e3 rfl, .inl e2, by omega, ?_, rfl⟩
          rw [hs2, List.drop_drop, List.length_drop]
    · have hlt' : ¬ (at' : Int) < b.length := by omega
      simp [L_runes_All_1_1, r0, r1, r3, hlen, hlt']
      refine fin H' hd (.inl (stop ?_))
      rw [List.drop_eq_nil_of_le (by omega)]
      exact rsigns_stop rfl _
  obtain ⟨r, e, H2, e1, e2, e3⟩ := key
  exact ⟨r.1, r.2, H2, e, e1, e2, by rw [List.length_map]; exact e3⟩

/-! ### Bad, Count -/
/-- Where the signs stop. -/
def rstop : Nat → Nat → List UInt8 → Nat
  | 0, at', _ => at'
  | k + 1, at', b => if (rfirst b).2 = 0 then at' else rstop k (at' + (rfirst b).2.toNat) (b.drop (rfirst b).2.toNat)
def stopOf (b : List UInt8) : Nat := rstop b.length 0 b
def badOf (b : List UInt8) : Int := if stopOf b = b.length then -1 else stopOf b
def endOf (init : Int) (l : List (Nat × Int)) : Int := l.foldl (fun _ p => (p.1 : Int) + runeSize p.2) init

theorem rfirst_size (b : List UInt8) (h : (rfirst b).2 ≠ 0) : runeSize (rfirst b).1 = (rfirst b).2 := by
  cases b with
  | nil => exact absurd rfl h
  | cons b0 l =>
    simp only [rfirst] at h ⊢
    split at h
    · rename_i h1; rw [if_pos h1]; simp [runeSize]; omega
    · rename_i h1
      rw [if_neg h1]
      split at h
      · exact absurd rfl h
      · rename_i h2
        rw [if_neg h2]
        split at h
        · rename_i h3
          rw [if_pos h3]
          split at h
          · rename_i h4; rw [if_pos h4]; exact h4.2
          · exact absurd rfl h
        · exact absurd rfl h
theorem endOf_rsigns : ∀ (k at' : Nat) (b : List UInt8), endOf at' (rsigns k at' b) = rstop k at' b
  | 0, at', b => rfl
  | k + 1, at', b => by
    simp only [rsigns, rstop]
    split
    · rfl
    · rename_i h
      have hb := rfirst_bound b
      have hs := rfirst_size b h
      simp only [endOf, List.foldl_cons, hs]
      have := endOf_rsigns k (at' + (rfirst b).2.toNat) (b.drop (rfirst b).2.toNat)
      simp only [endOf] at this
      rw [← this]
      congr 1
      omega
theorem rstop_le : ∀ (k at' : Nat) (b : List UInt8), rstop k at' b ≤ at' + b.length
  | 0, at', b => by simp [rstop]
  | k + 1, at', b => by
    simp only [rstop]
    split
    · omega
    · have hb := rfirst_bound b
      have := rstop_le k (at' + (rfirst b).2.toNat) (b.drop (rfirst b).2.toNat)
      rw [List.length_drop] at this
      omega
theorem rsigns_le : ∀ (k at' : Nat) (b : List UInt8), ∀ p ∈ rsigns k at' b, p.1 < at' + b.length
  | 0, at', b => by simp [rsigns]
  | k + 1, at', b => by
    intro p hp
    simp only [rsigns] at hp
    split at hp
    · simp at hp
    · have hb := rfirst_bound b
      rcases List.mem_cons.1 hp with rfl | hp
      · simp only []; omega
      · have := rsigns_le k (at' + (rfirst b).2.toNat) (b.drop (rfirst b).2.toNat) p hp
        rw [List.length_drop] at this
        omega

theorem rsigns_len : ∀ (k at' : Nat) (b : List UInt8), (rsigns k at' b).length ≤ k
  | 0, at', b => by simp [rsigns]
  | k + 1, at', b => by
    simp only [rsigns]
    split
    · simp
    · have := rsigns_len k (at' + (rfirst b).2.toNat) (b.drop (rfirst b).2.toNat)
      simp; omega
theorem rfirst_rune (b : List UInt8) : 0 ≤ (rfirst b).1 ∧ (rfirst b).1 < 1114112 := by
  cases b with
  | nil => simp [rfirst]
  | cons a l =>
    have ha := a.toNat_lt
    simp only [rfirst]
    split
    · simp only []; omega
    · split
      · simp
      · split
        · split
          · rename_i h
            have := h.1
            simp [runeSign] at this
            exact ⟨this.1.1, this.1.2⟩
          · simp
        · simp
theorem rsigns_rune : ∀ (k at' : Nat) (b : List UInt8), ∀ p ∈ rsigns k at' b, 0 ≤ p.2 ∧ p.2 < 1114112
  | 0, at', b => by simp [rsigns]
  | k + 1, at', b => by
    intro p hp
    simp only [rsigns] at hp
    split at hp
    · simp at hp
    · rcases List.mem_cons.1 hp with rfl | hp
      · exact rfirst_rune b
      · exact rsigns_rune k _ _ p hp
theorem endOf_take {b : List UInt8} {i : Nat} (hi : i < (allOf b).length) : endOf 0 ((allOf b).take (i + 1)) = ((allOf b)[i].1 : Int) + runeSize (allOf b)[i].2 := by
  rw [List.take_succ_eq_append_getElem hi]
  simp only [endOf, List.foldl_append, List.foldl_cons, List.foldl_nil]

theorem runes_Bad_call (h : RunesAll Γ A N) (hb : Has Γ A (f_runes_Bad N) (C_runes_Bad N)) {x : AV} {b : List UInt8} (H : Hp) (hx : VBytes H x b) (hl : b.length < 2 ^ 62) : (lim Γ A).call (f_runes_Bad N) [x] H = some (avInt .i64 (badOf b), none) := by
  apply hb.call (by rfl)
  have hlen := hx.len
  rw [List.length_map] at hlen
  have hall := runes_All_call h (hset (halloc { l := H.l, d := none } (.cells [AV.lit (.int .i64 0)] (t_int N))) H.l.length (some (.cells [AV.lit (.int .i64 0)] (t_int N)))) (x := x) (b := b) (Vw.loc hx (((Loc.start H).alloc _).set _))
  simp [C_runes_Bad, hall]
  refine wp_rangeFn (H0 := H) (os := [(H.l.length, .cells [avInt .i64 0] (t_int N))]) (by simp) (runes_All_gen h (x := x) hl) rfl (by simpa using ((Loc.start H).alloc (.cells [avInt .i64 0] (t_int N))).set (.cells [avInt .i64 0] (t_int N))) (by intro x hx; obtain ⟨p, _, rfl⟩ := List.mem_map.1 hx; rfl)
    (fun i os => os = [(H.l.length, .cells [avInt .i64 (endOf 0 ((allOf b).take i))] (t_int N))]) (fun _ _ => False) (fun _ _ _ _ _ hL _ => Vw.loc hx hL) (by simp [endOf]) ?_ ?_
  · rintro i hi l lo lb H' os' _ hL rfl
    simp only [List.length_map] at hi
    simp [L_runes_Bad_1, encS]
    refine ⟨_, hL, ?_⟩
    intro H1 hL1
    have a1 := hL1.get (p := (H.l.length, .cells [avInt .i64 (endOf 0 ((allOf b).take i))] (t_int N))) (by simp)
    simp only [] at a1
    have hle := rsigns_le _ _ _ _ (List.getElem_mem hi)
    have hsz : 1 ≤ runeSize (allOf b)[i].2 ∧ runeSize (allOf b)[i].2 ≤ 4 := by unfold runeSize; (repeat' split) <;> omega
    have hw : IntKind.wrap .i64 (((allOf b)[i].1 : Int) + runeSize (allOf b)[i].2) = endOf 0 ((allOf b).take (i + 1)) := by rw [wrap64 (by omega) (by omega), endOf_take hi]
    simp [L_runes_Bad_2, runes_size_call h.size, a1, hw]
    exact hL1.setMid (as := [_]) _
  · intro x H2 os2 hL hx
    rcases hx with ⟨rfl, rfl⟩ | ⟨_, hf⟩
    · have a1 := hL.head
      have he : endOf 0 ((allOf b).take ((allOf b).map encS).length) = stopOf b := by
        rw [List.length_map, List.take_length]; exact endOf_rsigns _ _ _
      rw [he] at a1
      by_cases hs : stopOf b = b.length
      · simp [K_runes_Bad_1, a1, hlen, hs, badOf]
        exact settle_keeps hL.keeps rfl
      · have hs' : ¬ (stopOf b : Int) = b.length := by omega
        simp [K_runes_Bad_1, a1, hlen, hs, hs', badOf]
        exact settle_keeps hL.keeps rfl
    · exact hf.elim

theorem runes_Count_call (h : RunesAll Γ A N) (hb : Has Γ A (f_runes_Count N) (C_runes_Count N)) {x : AV} {b : List UInt8} (H : Hp) (hx : VBytes H x b) (hl : b.length < 2 ^ 62) : (lim Γ A).call (f_runes_Count N) [x] H = some (avInt .i64 ((allOf b).length : Int), none) := by
  apply hb.call (by rfl)
  have hall := runes_All_call h (hset (halloc { l := H.l, d := none } (.cells [AV.lit (.int .i64 0)] (t_int N))) H.l.length (some (.cells [AV.lit (.int .i64 0)] (t_int N)))) (x := x) (b := b) (Vw.loc hx (((Loc.start H).alloc _).set _))
  simp [C_runes_Count, hall]
  refine wp_rangeFn (H0 := H) (os := [(H.l.length, .cells [avInt .i64 0] (t_int N))]) (by simp) (runes_All_gen h (x := x) hl) rfl (by simpa using ((Loc.start H).alloc (.cells [avInt .i64 0] (t_int N))).set (.cells [avInt .i64 0] (t_int N))) (by intro x hx; obtain ⟨p, _, rfl⟩ := List.mem_map.1 hx; rfl)
    (fun i os => i ≤ (allOf b).length ∧ os = [(H.l.length, .cells [avInt .i64 (i : Int)] (t_int N))]) (fun _ _ => False) (fun _ _ _ _ _ hL _ => Vw.loc hx hL) (by simp) ?_ ?_
  · rintro i hi l lo lb H' os' _ hL ⟨hil, rfl⟩
    simp only [List.length_map] at hi
    simp [L_runes_Count_1, encS]
    refine ⟨_, hL, ?_⟩
    intro H1 hL1
    have a1 := hL1.get (p := (H.l.length, .cells [avInt .i64 (i : Int)] (t_int N))) (by simp)
    simp only [] at a1
    have hll : (allOf b).length ≤ b.length := rsigns_len _ _ _
    have hw : IntKind.wrap .i64 ((i : Int) + 1) = ((i + 1 : Nat) : Int) := by rw [wrap64 (by omega) (by omega)]; omega
    simp [L_runes_Count_2, a1, hw, -Int.natCast_add]
    exact ⟨hL1.setMid (as := [_]) _, hi⟩
  · intro x H2 os2 hL hx
    rcases hx with ⟨rfl, _, rfl⟩ | ⟨_, hf⟩
    · have a1 := hL.head
      rw [List.length_map] at a1
      simp [K_runes_Count_1, a1]
      exact settle_keeps hL.keeps rfl
    · exact hf.elim
end
end Go.Proofs.Eng
/- The small functions of package lexer, run by the engine. -/
set_option linter.unusedVariables false
set_option linter.unusedSimpArgs false
set_option maxRecDepth 100000
namespace Go.Proofs.Eng
open Go
section
variable {Γ : Sums} {A : Tab} {N : Nat → Nat}

def isLow (c : UInt8) : Bool := decide (97 ≤ c.toNat) && decide (c.toNat ≤ 122) || decide (c.toNat = 95)
def isDigit (c : UInt8) : Bool := decide (48 ≤ c.toNat) && decide (c.toNat ≤ 57)
def isHigh (c : UInt8) : Bool := decide (65 ≤ c.toNat) && decide (c.toNat ≤ 90)
def isInName (c : UInt8) : Bool := isLow c || isDigit c
def isInAlias (c : UInt8) : Bool := isHigh c || isDigit c || (decide (97 ≤ c.toNat) && decide (c.toNat ≤ 122))
def notLine (c : UInt8) : Bool := !decide (c.toNat = 10)
def isBlank (c : UInt8) : Bool := decide (c.toNat = 32) || decide (c.toNat = 9) || decide (c.toNat = 10) || decide (c.toNat = 13)
def wordsL : List (List UInt8) := [[102, 117, 110], [108, 101, 116], [114, 101, 99], [105, 110], [105, 102], [116, 104, 101, 110], [101, 108, 115, 101], [99, 97, 115, 101], [111, 102], [101, 110, 100], [116, 114, 117, 101], [102, 97, 108, 115, 101], [105, 110, 116], [98, 111, 111, 108], [115, 116, 114], [102, 108, 111, 97, 116], [100, 121, 110], [97, 110, 121], [110, 111, 110, 101], [116, 121, 112, 101]]
def signsL : List (List UInt8) := [[61, 62], [45, 62], [61, 61], [46, 46], [43, 46], [45, 46], [42, 46], [47, 46], [60, 46], [40], [41], [123], [125], [91], [93], [44], [59], [58], [46], [61], [124], [43], [45], [42], [47], [60], [94]]

structure LexS (Γ : Sums) (A : Tab) (N : Nat → Nat) : Prop where
  low : Has Γ A (f_lexer_low N) (C_lexer_low N)
  high : Has Γ A (f_lexer_high N) (C_lexer_high N)
  digit : Has Γ A (f_lexer_digit N) (C_lexer_digit N)
  inName : Has Γ A (f_lexer_inName N) (C_lexer_inName N)
  inAlias : Has Γ A (f_lexer_inAlias N) (C_lexer_inAlias N)
  blank1 : Has Γ A (f_lexer_blank_1 N) (C_lexer_blank_1 N)
  run : Has Γ A (f_lexer_run N) (C_lexer_run N)
  words : Has Γ A (f_lexer_words N) (C_lexer_words N)
  signs : Has Γ A (f_lexer_signs N) (C_lexer_signs N)
  contains : Has Γ A (f_slices_Contains_sl_string_string N) (C_slices_Contains_sl_string_string N)
  index : Has Γ A (f_slices_Index_sl_string_string N) (C_slices_Index_sl_string_string N)
  isWord : Has Γ A (f_lexer_IsWord N) (C_lexer_IsWord N)
  isName : Has Γ A (f_lexer_IsName N) (C_lexer_IsName N)
  number : Has Γ A (f_lexer_number N) (C_lexer_number N)

theorem lexer_low_call (h : LexS Γ A N) (c : UInt8) (H : Hp) : (lim Γ A).call (f_lexer_low N) [avByte c] H = some (avBool (isLow c), none) := by
  apply h.low.call (by rfl)
  unfold isLow
  by_cases h1 : 97 ≤ c.toNat
  · have h1' : (97 : Int) ≤ c.toNat := by omega
    by_cases h2 : c.toNat ≤ 122
    · have h2' : (c.toNat : Int) ≤ 122 := by omega
      simp [C_lexer_low, avByte, h1, h1', h2, h2']
    · have h2' : ¬ (c.toNat : Int) ≤ 122 := by omega
      have h3 : ¬ c.toNat = 95 := by omega
      have h3' : ¬ (c.toNat : Int) = 95 := by omega
      simp [C_lexer_low, avByte, h1, h1', h2, h2', h3, h3']
  · have h1' : ¬ (97 : Int) ≤ c.toNat := by omega
    by_cases h3 : c.toNat = 95
    · have h3' : (c.toNat : Int) = 95 := by omega
      simp [C_lexer_low, avByte, h3, h3']
    · have h3' : ¬ (c.toNat : Int) = 95 := by omega
      simp [C_lexer_low, avByte, h1, h1', h3, h3']
theorem lexer_digit_call (h : LexS Γ A N) (c : UInt8) (H : Hp) : (lim Γ A).call (f_lexer_digit N) [avByte c] H = some (avBool (isDigit c), none) := by
  apply h.digit.call (by rfl)
  unfold isDigit
  by_cases h1 : 48 ≤ c.toNat
  · have h1' : (48 : Int) ≤ c.toNat := by omega
    by_cases h2 : c.toNat ≤ 57
    · have h2' : (c.toNat : Int) ≤ 57 := by omega
      simp [C_lexer_digit, avByte, h1, h1', h2, h2']
    · have h2' : ¬ (c.toNat : Int) ≤ 57 := by omega
      simp [C_lexer_digit, avByte, h1, h1', h2, h2']
  · have h1' : ¬ (48 : Int) ≤ c.toNat := by omega
    simp [C_lexer_digit, avByte, h1, h1']
theorem lexer_high_call (h : LexS Γ A N) (c : UInt8) (H : Hp) : (lim Γ A).call (f_lexer_high N) [avByte c] H = some (avBool (isHigh c), none) := by
  apply h.high.call (by rfl)
  unfold isHigh
  by_cases h1 : 65 ≤ c.toNat
  · have h1' : (65 : Int) ≤ c.toNat := by omega
    by_cases h2 : c.toNat ≤ 90
    · have h2' : (c.toNat : Int) ≤ 90 := by omega
      simp [C_lexer_high, avByte, h1, h1', h2, h2']
    · have h2' : ¬ (c.toNat : Int) ≤ 90 := by omega
      simp [C_lexer_high, avByte, h1, h1', h2, h2']
  · have h1' : ¬ (65 : Int) ≤ c.toNat := by omega
    simp [C_lexer_high, avByte, h1, h1']
theorem lexer_inName_call (h : LexS Γ A N) (c : UInt8) (H : Hp) : (lim Γ A).call (f_lexer_inName N) [avByte c] H = some (avBool (isInName c), none) := by
  apply h.inName.call (by rfl)
  unfold isInName
  have e1 := lexer_low_call h c
  have e2 := lexer_digit_call h c
  cases h1 : isLow c <;> rw [h1] at e1 <;> simp [C_lexer_inName, e1, e2]
theorem lexer_inAlias_call (h : LexS Γ A N) (c : UInt8) (H : Hp) : (lim Γ A).call (f_lexer_inAlias N) [avByte c] H = some (avBool (isInAlias c), none) := by
  apply h.inAlias.call (by rfl)
  unfold isInAlias
  have e1 := lexer_high_call h c
  have e2 := lexer_digit_call h c
  cases h1 : isHigh c <;> rw [h1] at e1
  · cases h2 : isDigit c <;> rw [h2] at e2
    · by_cases h3 : 97 ≤ c.toNat
      · have h3' : (97 : Int) ≤ c.toNat := by omega
        by_cases h4 : c.toNat ≤ 122
        · have h4' : (c.toNat : Int) ≤ 122 := by omega
          simp [C_lexer_inAlias, e1, e2, h3, h3', h4, h4']
        · have h4' : ¬ (c.toNat : Int) ≤ 122 := by omega
          simp [C_lexer_inAlias, e1, e2, h3, h3', h4, h4']
      · have h3' : ¬ (97 : Int) ≤ c.toNat := by omega
        simp [C_lexer_inAlias, e1, e2, h3, h3']
    · simp [C_lexer_inAlias, e1, e2]
  · simp [C_lexer_inAlias, e1, e2]
theorem lexer_blank1_call (h : LexS Γ A N) (c : UInt8) (H : Hp) : (lim Γ A).call (f_lexer_blank_1 N) [avByte c] H = some (avBool (notLine c), none) := by
  apply h.blank1.call (by rfl)
  unfold notLine
  by_cases h1 : c.toNat = 10
  · have h1' : (c.toNat : Int) = 10 := by omega
    simp [C_lexer_blank_1, avByte, h1, h1']
  · have h1' : ¬ (c.toNat : Int) = 10 := by omega
    simp [C_lexer_blank_1, avByte, h1, h1']

/-- How many of the first bytes may be. -/
def runB (p : UInt8 → Bool) (s : List UInt8) : Nat := (s.takeWhile p).length
theorem runB_le (p : UInt8 → Bool) (s : List UInt8) : runB p s ≤ s.length := (List.takeWhile_prefix p).length_le
theorem runB_take (p : UInt8 → Bool) (s : List UInt8) : s.take (runB p s) = s.takeWhile p := (List.prefix_iff_eq_take.1 (List.takeWhile_prefix p)).symm
theorem runB_drop (p : UInt8 → Bool) (s : List UInt8) (i : Nat) (h : (s.take i).all p = true) (hi : i ≤ s.length) : runB p s = i + runB p (s.drop i) := by
  induction i generalizing s with
  | zero => simp
  | succ i ih =>
    cases s with
    | nil => simp at hi
    | cons a s =>
      simp only [List.take_succ_cons, List.all_cons, Bool.and_eq_true] at h
      simp only [List.length_cons] at hi
      have := ih s h.2 (by omega)
      simp only [runB, List.takeWhile_cons, h.1, if_true, List.length_cons, List.drop_succ_cons] at this ⊢
      omega
theorem runB_stop {p : UInt8 → Bool} {a : UInt8} {s : List UInt8} (h : p a = false) : runB p (a :: s) = 0 := by simp [runB, h]

theorem lexer_run_call (h : LexS Γ A N) {g : FuncId} {p : UInt8 → Bool} (hp : ∀ c H, (lim Γ A).call g [avByte c] H = some (avBool (p c), none)) (s : List UInt8) (hs : s.length < 2 ^ 40) (H : Hp) :
    (lim Γ A).call (f_lexer_run N) [avStr s, .fn g [] []] H = some (avInt .i64 (runB p s : Nat), none) := by
  apply h.run.call (by rfl)
  simp [C_lexer_run, -Int.natCast_add]
  refine wp_round (fun k ρ H' => H' = { l := H.l, d := none } ∧ ∃ i : Nat, ρ 0 = avStr s ∧ ρ 1 = .fn g [] [] ∧ ρ 5 = avInt .i64 i ∧ i ≤ s.length ∧ (s.take i).all p = true ∧ k = s.length - i) (n := s.length) ⟨rfl, 0, rfl, rfl, rfl, by omega, by simp, rfl⟩ ?_
  rintro k ρ H' ⟨rfl, i, h0, h1, h5, hi, ha, rfl⟩
  have hrd := runB_drop p s i ha hi
  by_cases hl : i < s.length
  · have hl' : (i : Int) < s.length := by omega
    have hx := asidx_nat (k := .i64) hl
    have hd : s.drop i = s[i] :: s.drop (i + 1) := List.drop_eq_getElem_cons hl
    cases hc : p s[i]
    · have e := hp s[i]
      rw [hc] at e
      have : runB p s = i := by rw [hrd, hd, runB_stop hc]; omega
      simp [L_lexer_run_1, K_lexer_run_1, h0, h1, h5, hl', hx, e, this]
    · have e := hp s[i]
      rw [hc] at e
      have hw : IntKind.wrap .i64 ((i : Int) + 1) = ((i + 1 : Nat) : Int) := by rw [wrap64 (by omega) (by omega)]; omega
      simp [L_lexer_run_1, h0, h1, h5, hl', hx, e, hw, -Int.natCast_add]
      refine ⟨_, ?_, i + 1, rfl, by omega, ?_, rfl⟩
      · omega
      · have ha2 : (s.take (i + 1)).all p = true := by rw [List.take_succ_eq_append_getElem hl, List.all_append, ha]; simp [hc]
        exact List.all_eq_true.1 ha2
  · have hl' : ¬ (i : Int) < s.length := by omega
    have hi' : i = s.length := by omega
    have : runB p s = i := by rw [hrd, List.drop_of_length_le (by omega)]; simp [runB]
    simp [L_lexer_run_1, K_lexer_run_1, h0, h1, h5, hl', this]

theorem lexer_words_call (h : LexS Γ A N) (H : Hp) : (lim Γ A).call (f_lexer_words N) [] H = some (.sl 1 (wordsL.map avStr), none) := by
  apply h.words.call (by rfl)
  simp [C_lexer_words, wordsL]
  exact settleZ_ra rfl rfl (by simp)
theorem lexer_signs_call (h : LexS Γ A N) (H : Hp) : (lim Γ A).call (f_lexer_signs N) [] H = some (.sl 1 (signsL.map avStr), none) := by
  apply h.signs.call (by rfl)
  simp [C_lexer_signs, signsL]
  exact settleZ_ra rfl rfl (by simp)

/-! ### Words -/
theorem aiaddr_sln {sz : Nat} {xs : List AV} {k : IntKind} {i : Nat} {x : AV} (h : xs[i]? = some x) (hg : x.good = true) : aiaddr sz (.sl sz xs) (.lit (.int k i)) = some (.vp x.cells) := by
  simp [aiaddr, h, hg]
theorem index_call (h : LexS Γ A N) (l : List (List UInt8)) (s : List UInt8) (hl : l.length < 1000) (H : Hp) :
    ∃ i : Int, (lim Γ A).call (f_slices_Index_sl_string_string N) [.sl 1 (l.map avStr), avStr s] H = some (avInt .i64 i, none) ∧ (0 ≤ i ↔ s ∈ l) := by
  obtain ⟨R, hR⟩ : ∃ R : AV × Option Hp → Prop, R = fun r => ∃ i : Int, r = (avInt .i64 i, none) ∧ (0 ≤ i ↔ s ∈ l) := ⟨_, rfl⟩
  have key : ∃ r, (lim Γ A).call (f_slices_Index_sl_string_string N) [.sl 1 (l.map avStr), avStr s] H = some r ∧ R r := by
    apply h.index.callP (by rfl)
    simp [C_slices_Index_sl_string_string, asLen, -Int.natCast_add]
    refine wp_round (fun k ρ H' => H' = { l := H.l, d := none } ∧ ∃ i : Nat, ρ 0 = .sl 1 (l.map avStr) ∧ ρ 1 = avStr s ∧ ρ 7 = avInt .i64 l.length ∧ ρ 8 = avInt .i64 i ∧ i ≤ l.length ∧ (s ∉ l.take i) ∧ k = l.length - i) (n := l.length)
      ⟨rfl, 0, rfl, rfl, by simp, rfl, by omega, by simp, rfl⟩ ?_
    rintro k ρ H' ⟨rfl, i, h0, h1, h7, h8, hi, hn, rfl⟩
    by_cases hlt : i < l.length
    · have hlt' : (i : Int) < l.length := by omega
      have ha := aiaddr_sln (sz := 1) (xs := l.map avStr) (k := .i64) (i := i) (x := avStr l[i]) (by simp [hlt]) rfl
      by_cases he : s = l[i]
      · have hm : s ∈ l := by rw [he]; exact List.getElem_mem hlt
        simp [L_slices_Index_sl_string_string_1, h0, h1, h7, h8, hlt', ha, aload, he]
        rw [hR]
        refine ⟨i, rfl, ?_⟩
        simp [hm]
      · have hw : IntKind.wrap .i64 ((i : Int) + 1) = ((i + 1 : Nat) : Int) := by rw [wrap64 (by omega) (by omega)]; omega
        simp [L_slices_Index_sl_string_string_1, h0, h1, h7, h8, hlt', ha, aload, he, hw, -Int.natCast_add]
        refine ⟨_, ?_, i + 1, rfl, by omega, ?_, rfl⟩
        · omega
        · intro hm
          rw [List.take_succ_eq_append_getElem hlt] at hm
          rcases List.mem_append.1 hm with hm | hm
          · exact hn hm
          · exact he (List.mem_singleton.1 hm)
    · have hlt' : ¬ (i : Int) < l.length := by omega
      have hi' : i = l.length := by omega
      subst hi'
      simp only [List.take_length] at hn
      simp [L_slices_Index_sl_string_string_1, K_slices_Index_sl_string_string_1, h0, h1, h7, h8]
      rw [hR]
      refine ⟨-1, rfl, ?_⟩
      simp [hn]
  obtain ⟨r, e, hr⟩ := key
  rw [hR] at hr
  obtain ⟨i, rfl, hi⟩ := hr
  exact ⟨i, e, hi⟩

def isWordB (s : List UInt8) : Bool := decide (s ∈ wordsL)
theorem lexer_IsWord_call (h : LexS Γ A N) (s : List UInt8) (H : Hp) : (lim Γ A).call (f_lexer_IsWord N) [avStr s] H = some (avBool (isWordB s), none) := by
  apply h.isWord.call (by rfl)
  obtain ⟨i, e1, e2⟩ := index_call h wordsL s (by decide) { l := H.l, d := none }
  have e3 : (lim Γ A).call (f_slices_Contains_sl_string_string N) [.sl 1 (wordsL.map avStr), avStr s] { l := H.l, d := none } = some (avBool (isWordB s), none) := by
    apply h.contains.call (by rfl)
    simp [C_slices_Contains_sl_string_string, e1, isWordB, e2]
  simp only [C_lexer_IsWord]
  simp [lexer_words_call h, e3]

/-- Is it a name? -/
def isNameB (s : List UInt8) : Bool := !s.isEmpty && (s.head?.map isLow).getD false && decide (runB isInName s = s.length) && !isWordB s
theorem lexer_IsName_call (h : LexS Γ A N) (s : List UInt8) (hs : s.length < 2 ^ 40) (H : Hp) : (lim Γ A).call (f_lexer_IsName N) [avStr s] H = some (avBool (isNameB s), none) := by
  apply h.isName.call (by rfl)
  unfold isNameB
  cases s with
  | nil => simp [C_lexer_IsName]
  | cons c t =>
    have hx := asidx_nat (k := .i64) (s := c :: t) (i := 0) (by simp)
    simp only [List.getElem_cons_zero, Int.natCast_zero] at hx
    have e1 := lexer_low_call h c
    have e2 := lexer_run_call h (lexer_inName_call h) (c :: t) hs
    have e3 := lexer_IsWord_call h (c :: t)
    cases h1 : isLow c <;> rw [h1] at e1
    · simp [C_lexer_IsName, hx, e1, h1]
    · by_cases h2 : runB isInName (c :: t) = t.length + 1
      · have h2' : (runB isInName (c :: t) : Int) = (t.length : Int) + 1 := by omega
        simp [C_lexer_IsName, hx, e1, h1, e2, e3, h2, h2']
      · have h2' : ¬ (runB isInName (c :: t) : Int) = (t.length : Int) + 1 := by omega
        simp [C_lexer_IsName, hx, e1, h1, e2, e3, h2, h2']

/-! ### Numbers -/
def greatest : List UInt8 := [57, 50, 50, 51, 51, 55, 50, 48, 51, 54, 56, 53, 52, 55, 55, 53, 56, 48, 55]
def numberB (s : List UInt8) : Bool := !(decide (1 < s.length) && (s.head?.map fun c => decide (c.toNat = 48)).getD false) && (decide (s.length < 19) || decide (s.length = 19) && (Op.bytesLess s greatest || s == greatest))
theorem lexer_number_call (h : LexS Γ A N) (s : List UInt8) (H : Hp) : (lim Γ A).call (f_lexer_number N) [avStr s] H = some (avBool (numberB s), none) := by
  apply h.number.call (by rfl)
  unfold numberB
  by_cases h1 : 1 < s.length
  · have h1' : (1 : Int) < s.length := by omega
    obtain ⟨c, hh, hx⟩ : ∃ c, s.head? = some c ∧ asidx (avStr s) (.lit (.int .i64 0)) = some (avByte c) := by
      cases s with
      | nil => simp at h1
      | cons c t => exact ⟨c, rfl, asidx_nat (k := .i64) (s := c :: t) (i := 0) (by simp)⟩
    by_cases h2 : c.toNat = 48
    · have h2' : (c.toNat : Int) = 48 := by omega
      simp [C_lexer_number, hx, hh, h1, h1', h2, h2']
    · have h2' : ¬ (c.toNat : Int) = 48 := by omega
      by_cases h3 : s.length < 19
      · have h3' : (s.length : Int) < 19 := by omega
        simp [C_lexer_number, hx, hh, h1, h1', h2, h2', h3, h3']
      · have h3' : ¬ (s.length : Int) < 19 := by omega
        by_cases h4 : s.length = 19
        · have h4' : (s.length : Int) = 19 := by omega
          simp [C_lexer_number, hx, hh, h2, h2', h4, h4', greatest]
        · have h4' : ¬ (s.length : Int) = 19 := by omega
          simp [C_lexer_number, hx, hh, h1, h1', h2, h2', h3, h3', h4, h4', greatest]
  · have h1' : ¬ (1 : Int) < s.length := by omega
    have h3 : s.length < 19 := by omega
    have h3' : (s.length : Int) < 19 := by omega
    simp [C_lexer_number, h1, h1', h3, h3']
end
end Go.Proofs.Eng
