import Derived.Test.YtchbifaiofljdaaEngAF
import Derived.Test.YtchbifaiofljdaaEngZ
/- Names of functions and types: N gives their numbers. Printed by tm.py. -/
namespace Go.Proofs.Eng
def f_main_main (N : Nat → Nat) : Nat := N 0
def f_gosem_cut (N : Nat → Nat) : Nat := N 1
def f_gosem_cut_init (N : Nat → Nat) : Nat := N 2
def f_law01_RunesWhere (N : Nat → Nat) : Nat := N 3
def f_law01_RunesCuts (N : Nat → Nat) : Nat := N 4
def f_law01_RunesReads (N : Nat → Nat) : Nat := N 5
def f_law01_RunesJoin (N : Nat → Nat) : Nat := N 6
def f_law01_RunesEncodes (N : Nat → Nat) : Nat := N 7
def f_law01_lives (N : Nat → Nat) : Nat := N 8
def f_runes_Where (N : Nat → Nat) : Nat := N 9
def f_ref01_Where (N : Nat → Nat) : Nat := N 10
def f_runes_Bad (N : Nat → Nat) : Nat := N 11
def f_runes_All (N : Nat → Nat) : Nat := N 12
def f_ref01_Signs (N : Nat → Nat) : Nat := N 13
def f_runes_Count (N : Nat → Nat) : Nat := N 14
def f_runes_Encode (N : Nat → Nat) : Nat := N 15
def f_ref01_Encode (N : Nat → Nat) : Nat := N 16
def f_runes_Where_1 (N : Nat → Nat) : Nat := N 17
def f_runes_size (N : Nat → Nat) : Nat := N 18
def f_runes_All_1 (N : Nat → Nat) : Nat := N 19
def f_runes_first (N : Nat → Nat) : Nat := N 20
def f_ref01_First (N : Nat → Nat) : Nat := N 21
def f_runes_sign (N : Nat → Nat) : Nat := N 22
def f_ref01_value (N : Nat → Nat) : Nat := N 23
def f_runtime_boundsError_Error (N : Nat → Nat) : Nat := N 24
def f_runtime_boundsError_RuntimeError (N : Nat → Nat) : Nat := N 25
def f_runtime_errorString_Error (N : Nat → Nat) : Nat := N 26
def f_runtime_errorString_RuntimeError (N : Nat → Nat) : Nat := N 27
def f_runtime_plainError_Error (N : Nat → Nat) : Nat := N 28
def f_runtime_plainError_RuntimeError (N : Nat → Nat) : Nat := N 29
def f_runtime_errorAddressString_Error (N : Nat → Nat) : Nat := N 30
def f_runtime_errorAddressString_RuntimeError (N : Nat → Nat) : Nat := N 31
def f_p_runtime_TypeAssertionError_Error (N : Nat → Nat) : Nat := N 32
def f_p_runtime_TypeAssertionError_RuntimeError (N : Nat → Nat) : Nat := N 33
def f_p_runtime_PanicNilError_Error (N : Nat → Nat) : Nat := N 34
def f_p_runtime_PanicNilError_RuntimeError (N : Nat → Nat) : Nat := N 35
def f_p_internal_abi_Type_Align (N : Nat → Nat) : Nat := N 36
def f_internal_runtime_maps_unhashableTypeError_Error (N : Nat → Nat) : Nat := N 37
def f_internal_runtime_maps_unhashableTypeError_RuntimeError (N : Nat → Nat) : Nat := N 38
def f_api_Errno_Error (N : Nat → Nat) : Nat := N 39
def f_internal_abi_Kind_String (N : Nat → Nat) : Nat := N 40
def f_law23_StoreFull (N : Nat → Nat) : Nat := N 41
def f_law03_LexerBlanks (N : Nat → Nat) : Nat := N 42
def f_law03_LexerReads (N : Nat → Nat) : Nat := N 43
def f_law03_LexerLong (N : Nat → Nat) : Nat := N 44
def f_law03_LexerNames (N : Nat → Nat) : Nat := N 45
def f_law03_LexerWrites (N : Nat → Nat) : Nat := N 46
def f_law23_StoreRounds (N : Nat → Nat) : Nat := N 47
def f_law23_StorePlays (N : Nat → Nat) : Nat := N 48
def f_law23_StoreNone (N : Nat → Nat) : Nat := N 49
def f_law23_lives (N : Nat → Nat) : Nat := N 50
def f_store_New (N : Nat → Nat) : Nat := N 51
def f_p_store_Store_Set (N : Nat → Nat) : Nat := N 52
def f_p_store_Store_Delete (N : Nat → Nat) : Nat := N 53
def f_law03_lives (N : Nat → Nat) : Nat := N 54
def f_lexer_Lex (N : Nat → Nat) : Nat := N 55
def f_ref03_Lex (N : Nat → Nat) : Nat := N 56
def f_ref03_Same (N : Nat → Nat) : Nat := N 57
def f_lexer_IsWord (N : Nat → Nat) : Nat := N 58
def f_ref03_IsWord (N : Nat → Nat) : Nat := N 59
def f_lexer_IsName (N : Nat → Nat) : Nat := N 60
def f_law03_write (N : Nat → Nat) : Nat := N 61
def f_law23_do (N : Nat → Nat) : Nat := N 62
def f_p_store_Store_Rename (N : Nat → Nat) : Nat := N 63
def f_law23_is (N : Nat → Nat) : Nat := N 64
def f_p_store_Store_Turn (N : Nat → Nat) : Nat := N 65
def f_p_store_Store_Copy (N : Nat → Nat) : Nat := N 66
def f_p_store_Store_Text (N : Nat → Nat) : Nat := N 67
def f_p_store_Store_All (N : Nat → Nat) : Nat := N 68
def f_p_store_Store_Len (N : Nat → Nat) : Nat := N 69
def f_slices_Clone_sl_byte_byte (N : Nat → Nat) : Nat := N 70
def f_lexer_blank (N : Nat → Nat) : Nat := N 71
def f_lexer_one (N : Nat → Nat) : Nat := N 72
def f_ref03_one (N : Nat → Nat) : Nat := N 73
def f_slices_Contains_sl_string_string (N : Nat → Nat) : Nat := N 74
def f_lexer_words (N : Nat → Nat) : Nat := N 75
def f_lexer_low (N : Nat → Nat) : Nat := N 76
def f_lexer_run (N : Nat → Nat) : Nat := N 77
def f_lexer_inName (N : Nat → Nat) : Nat := N 78
def f_lexer_Quote (N : Nat → Nat) : Nat := N 79
def f_ref04_Name (N : Nat → Nat) : Nat := N 80
def f_p_store_Store_All_1 (N : Nat → Nat) : Nat := N 81
def f_slices_Sorted_string (N : Nat → Nat) : Nat := N 82
def f_maps_Keys_map_string_sl_byte_string_sl_byte (N : Nat → Nat) : Nat := N 83
def f_strings_IndexByte (N : Nat → Nat) : Nat := N 84
def f_strings_HasPrefix (N : Nat → Nat) : Nat := N 85
def f_lexer_blank_1 (N : Nat → Nat) : Nat := N 86
def f_lexer_float (N : Nat → Nat) : Nat := N 87
def f_lexer_high (N : Nat → Nat) : Nat := N 88
def f_lexer_inAlias (N : Nat → Nat) : Nat := N 89
def f_lexer_digit (N : Nat → Nat) : Nat := N 90
def f_lexer_number (N : Nat → Nat) : Nat := N 91
def f_lexer_text (N : Nat → Nat) : Nat := N 92
def f_lexer_signs (N : Nat → Nat) : Nat := N 93
def f_ref03_hex (N : Nat → Nat) : Nat := N 94
def f_ref03_low (N : Nat → Nat) : Nat := N 95
def f_ref03_name (N : Nat → Nat) : Nat := N 96
def f_ref03_high (N : Nat → Nat) : Nat := N 97
def f_ref03_digit (N : Nat → Nat) : Nat := N 98
def f_ref03_number (N : Nat → Nat) : Nat := N 99
def f_ref03_str (N : Nat → Nat) : Nat := N 100
def f_ref03_sign (N : Nat → Nat) : Nat := N 101
def f_slices_Index_sl_string_string (N : Nat → Nat) : Nat := N 102
def f_ref04_Tag (N : Nat → Nat) : Nat := N 103
def f_slices_Collect_string (N : Nat → Nat) : Nat := N 104
def f_slices_Sort_sl_string_string (N : Nat → Nat) : Nat := N 105
def f_maps_Keys_map_string_sl_byte_string_sl_byte_1 (N : Nat → Nat) : Nat := N 106
def f_internal_stringslite_IndexByte (N : Nat → Nat) : Nat := N 107
def f_internal_stringslite_HasPrefix (N : Nat → Nat) : Nat := N 108
def f_floats_Parse (N : Nat → Nat) : Nat := N 109
def f_slices_AppendSeq_sl_string_string (N : Nat → Nat) : Nat := N 110
def f_slices_pdqsortOrdered_string (N : Nat → Nat) : Nat := N 111
def f_math_bits_Len (N : Nat → Nat) : Nat := N 112
def f_internal_bytealg_IndexByteString (N : Nat → Nat) : Nat := N 113
def f_strings_CutPrefix (N : Nat → Nat) : Nat := N 114
def f_floats_Of (N : Nat → Nat) : Nat := N 115
def f_slices_insertionSortOrdered_string (N : Nat → Nat) : Nat := N 116
def f_slices_heapSortOrdered_string (N : Nat → Nat) : Nat := N 117
def f_slices_breakPatternsOrdered_string (N : Nat → Nat) : Nat := N 118
def f_slices_choosePivotOrdered_string (N : Nat → Nat) : Nat := N 119
def f_slices_reverseRangeOrdered_string (N : Nat → Nat) : Nat := N 120
def f_slices_partialInsertionSortOrdered_string (N : Nat → Nat) : Nat := N 121
def f_cmp_Less_string (N : Nat → Nat) : Nat := N 122
def f_slices_partitionEqualOrdered_string (N : Nat → Nat) : Nat := N 123
def f_slices_partitionOrdered_string (N : Nat → Nat) : Nat := N 124
def f_math_bits_Len32 (N : Nat → Nat) : Nat := N 125
def f_math_bits_Len64 (N : Nat → Nat) : Nat := N 126
def f_internal_stringslite_CutPrefix (N : Nat → Nat) : Nat := N 127
def f_math_Float64frombits (N : Nat → Nat) : Nat := N 128
def f_slices_siftDownOrdered_string (N : Nat → Nat) : Nat := N 129
def f_slices_nextPowerOfTwo (N : Nat → Nat) : Nat := N 130
def f_p_slices_xorshift_Next (N : Nat → Nat) : Nat := N 131
def f_slices_medianAdjacentOrdered_string (N : Nat → Nat) : Nat := N 132
def f_slices_medianOrdered_string (N : Nat → Nat) : Nat := N 133
def f_cmp_isNaN_string (N : Nat → Nat) : Nat := N 134
def f_slices_order2Ordered_string (N : Nat → Nat) : Nat := N 135
def f_floats_Float_Kind (N : Nat → Nat) : Nat := N 136
def f_law24_DepsNone (N : Nat → Nat) : Nat := N 137
def f_law24_DepsStores (N : Nat → Nat) : Nat := N 138
def f_law24_lives (N : Nat → Nat) : Nat := N 139
def f_p_deps_Net_On (N : Nat → Nat) : Nat := N 140
def f_p_deps_Net_Put (N : Nat → Nat) : Nat := N 141
def f_p_deps_Net_Names (N : Nat → Nat) : Nat := N 142
def f_p_deps_Net_Missing (N : Nat → Nat) : Nat := N 143
def f_p_deps_Net_Users (N : Nat → Nat) : Nat := N 144
def f_p_deps_Net_Cone (N : Nat → Nat) : Nat := N 145
def f_deps_Of (N : Nat → Nat) : Nat := N 146
def f_ref05_Text (N : Nat → Nat) : Nat := N 147
def f_ref07_Free (N : Nat → Nat) : Nat := N 148
def f_law24_is (N : Nat → Nat) : Nat := N 149
def f_deps_New (N : Nat → Nat) : Nat := N 150
def f_law07_Same (N : Nat → Nat) : Nat := N 151
def f_slices_Clone_sl_string_string (N : Nat → Nat) : Nat := N 152
def f_slices_ContainsFunc_sl_string_string (N : Nat → Nat) : Nat := N 153
def f_p_deps_Net_Put_1 (N : Nat → Nat) : Nat := N 154
def f_slices_Compact_sl_string_string (N : Nat → Nat) : Nat := N 155
def f_maps_Keys_map_string_sl_string_string_sl_string (N : Nat → Nat) : Nat := N 156
def f_maps_Keys_map_string_bool_string_bool (N : Nat → Nat) : Nat := N 157
def f_slices_DeleteFunc_sl_string_string (N : Nat → Nat) : Nat := N 158
def f_p_deps_Net_Users_1 (N : Nat → Nat) : Nat := N 159
def f_parse_Text (N : Nat → Nat) : Nat := N 160
def f_scope_Free (N : Nat → Nat) : Nat := N 161
def f_p_ref05_Parser_take (N : Nat → Nat) : Nat := N 162
def f_p_ref05_Parser_now (N : Nat → Nat) : Nat := N 163
def f_p_ref05_Parser_text (N : Nat → Nat) : Nat := N 164
def f_p_ref05_Parser_must (N : Nat → Nat) : Nat := N 165
def f_p_ref05_Parser_Type (N : Nat → Nat) : Nat := N 166
def f_p_ref05_Parser_Term (N : Nat → Nat) : Nat := N 167
def f_p_ref05_Parser_end (N : Nat → Nat) : Nat := N 168
def f_ref07_without (N : Nat → Nat) : Nat := N 169
def f_ref07_join (N : Nat → Nat) : Nat := N 170
def f_law24_insert (N : Nat → Nat) : Nat := N 171
def f_slices_IndexFunc_sl_string_string (N : Nat → Nat) : Nat := N 172
def f_maps_Keys_map_string_sl_string_string_sl_string_1 (N : Nat → Nat) : Nat := N 173
def f_maps_Keys_map_string_bool_string_bool_1 (N : Nat → Nat) : Nat := N 174
def f_parse_run (N : Nat → Nat) : Nat := N 175
def f_parse_Text_1 (N : Nat → Nat) : Nat := N 176
def f_p_parse_reader_skip (N : Nat → Nat) : Nat := N 177
def f_p_parse_reader_kind (N : Nat → Nat) : Nat := N 178
def f_p_parse_reader_need (N : Nat → Nat) : Nat := N 179
def f_p_tree_Builder_Alias (N : Nat → Nat) : Nat := N 180
def f_p_parse_reader_typ (N : Nat → Nat) : Nat := N 181
def f_p_parse_reader_term (N : Nat → Nat) : Nat := N 182
def f_tree_Check (N : Nat → Nat) : Nat := N 183
def f_scope_ups (N : Nat → Nat) : Nat := N 184
def f_scope_binder (N : Nat → Nat) : Nat := N 185
def f_p_ref05_Parser_see (N : Nat → Nat) : Nat := N 186
def f_p_ref05_Parser_on (N : Nat → Nat) : Nat := N 187
def f_p_ref05_Parser_bad (N : Nat → Nat) : Nat := N 188
def f_p_ref05_Parser_stop (N : Nat → Nat) : Nat := N 189
def f_p_ref05_Parser_simple (N : Nat → Nat) : Nat := N 190
def f_p_ref05_Parser_typ (N : Nat → Nat) : Nat := N 191
def f_p_ref05_Parser_inner (N : Nat → Nat) : Nat := N 192
def f_ref07_insert (N : Nat → Nat) : Nat := N 193
def f_parse_run_1 (N : Nat → Nat) : Nat := N 194
def f_tree_New (N : Nat → Nat) : Nat := N 195
def f_p_tree_Builder_Tree (N : Nat → Nat) : Nat := N 196
def f_p_parse_reader_is (N : Nat → Nat) : Nat := N 197
def f_p_parse_reader_next (N : Nat → Nat) : Nat := N 198
def f_p_parse_reader_now (N : Nat → Nat) : Nat := N 199
def f_parse_wrong (N : Nat → Nat) : Nat := N 200
def f_p_parse_reader_enter (N : Nat → Nat) : Nat := N 201
def f_p_parse_reader_leave (N : Nat → Nat) : Nat := N 202
def f_p_parse_reader_simple (N : Nat → Nat) : Nat := N 203
def f_p_parse_reader_putType (N : Nat → Nat) : Nat := N 204
def f_p_parse_reader_put (N : Nat → Nat) : Nat := N 205
def f_p_parse_reader_arms (N : Nat → Nat) : Nat := N 206
def f_p_parse_reader_compare (N : Nat → Nat) : Nat := N 207
def f_tree_term (N : Nat → Nat) : Nat := N 208
def f_tree_uses_note (N : Nat → Nat) : Nat := N 209
def f_tree_typ (N : Nat → Nat) : Nat := N 210
def f_tree_alias (N : Nat → Nat) : Nat := N 211
def f_tree_Check_1 (N : Nat → Nat) : Nat := N 212
def f_slices_ContainsFunc_tree_uses_int (N : Nat → Nat) : Nat := N 213
def f_scope_binds (N : Nat → Nat) : Nat := N 214
def f_p_ref05_Parser_fresh (N : Nat → Nat) : Nat := N 215
def f_p_ref05_Parser_term (N : Nat → Nat) : Nat := N 216
def f_p_ref05_Parser_level (N : Nat → Nat) : Nat := N 217
def f_tree_Clone (N : Nat → Nat) : Nat := N 218
def f_parse_basic (N : Nat → Nat) : Nat := N 219
def f_p_parse_reader_fields (N : Nat → Nat) : Nat := N 220
def f_p_parse_reader_simple_1 (N : Nat → Nat) : Nat := N 221
def f_p_parse_reader_items (N : Nat → Nat) : Nat := N 222
def f_p_tree_Builder_Type (N : Nat → Nat) : Nat := N 223
def f_p_tree_Builder_Term (N : Nat → Nat) : Nat := N 224
def f_parse_once (N : Nat → Nat) : Nat := N 225
def f_p_parse_reader_join (N : Nat → Nat) : Nat := N 226
def f_tree_shapes (N : Nat → Nat) : Nat := N 227
def f_tree_named (N : Nat → Nat) : Nat := N 228
def f_tree_text (N : Nat → Nat) : Nat := N 229
def f_tree_once (N : Nat → Nat) : Nat := N 230
def f_tree_all (N : Nat → Nat) : Nat := N 231
def f_tree_tag (N : Nat → Nat) : Nat := N 232
def f_slices_IndexFunc_tree_uses_int (N : Nat → Nat) : Nat := N 233
def f_p_ref05_Parser_apply (N : Nat → Nat) : Nat := N 234
def f_p_ref05_Parser_signs (N : Nat → Nat) : Nat := N 235
def f_slices_Clone_sl_api_Alias_api_Alias (N : Nat → Nat) : Nat := N 236
def f_tree_cloneTerm (N : Nat → Nat) : Nat := N 237
def f_tree_cloneType (N : Nat → Nat) : Nat := N 238
def f_p_parse_reader_row (N : Nat → Nat) : Nat := N 239
def f_p_parse_reader_sum (N : Nat → Nat) : Nat := N 240
def f_tree_halves (N : Nat → Nat) : Nat := N 241
def f_tree_ops (N : Nat → Nat) : Nat := N 242
def f_slices_ContainsFunc_sl_byte_byte (N : Nat → Nat) : Nat := N 243
def f_tree_text_1 (N : Nat → Nat) : Nat := N 244
def f_tree_all_1 (N : Nat → Nat) : Nat := N 245
def f_p_ref05_Parser_unit (N : Nat → Nat) : Nat := N 246
def f_slices_Clone_sl_int_int (N : Nat → Nat) : Nat := N 247
def f_p_parse_reader_product (N : Nat → Nat) : Nat := N 248
def f_slices_IndexFunc_sl_byte_byte (N : Nat → Nat) : Nat := N 249
def f_p_ref05_Parser_post (N : Nat → Nat) : Nat := N 250
def f_p_parse_reader_apply (N : Nat → Nat) : Nat := N 251
def f_p_ref05_Parser_atom (N : Nat → Nat) : Nat := N 252
def f_p_parse_reader_unit (N : Nat → Nat) : Nat := N 253
def f_p_parse_reader_begins (N : Nat → Nat) : Nat := N 254
def f_ref05_number (N : Nat → Nat) : Nat := N 255
def f_ref05_bits (N : Nat → Nat) : Nat := N 256
def f_p_parse_reader_post (N : Nat → Nat) : Nat := N 257
def f_p_parse_reader_atom (N : Nat → Nat) : Nat := N 258
def f_strconv_ParseInt (N : Nat → Nat) : Nat := N 259
def f_p_parse_reader_round (N : Nat → Nat) : Nat := N 260
def f_p_parse_reader_atom_1 (N : Nat → Nat) : Nat := N 261
def f_internal_strconv_ParseInt (N : Nat → Nat) : Nat := N 262
def f_strconv_toError (N : Nat → Nat) : Nat := N 263
def f_internal_strconv_ParseUint (N : Nat → Nat) : Nat := N 264
def f_strconv_syntaxError (N : Nat → Nat) : Nat := N 265
def f_strconv_rangeError (N : Nat → Nat) : Nat := N 266
def f_strconv_baseError (N : Nat → Nat) : Nat := N 267
def f_strconv_bitSizeError (N : Nat → Nat) : Nat := N 268
def f_internal_strconv_lower (N : Nat → Nat) : Nat := N 269
def f_internal_strconv_underscoreOK (N : Nat → Nat) : Nat := N 270
def f_internal_stringslite_Clone (N : Nat → Nat) : Nat := N 271
def f_errors_New (N : Nat → Nat) : Nat := N 272
def f_strconv_Itoa (N : Nat → Nat) : Nat := N 273
def f_internal_strconv_Itoa (N : Nat → Nat) : Nat := N 274
def f_internal_strconv_FormatInt (N : Nat → Nat) : Nat := N 275
def f_internal_strconv_small (N : Nat → Nat) : Nat := N 276
def f_internal_strconv_numDigits (N : Nat → Nat) : Nat := N 277
def f_internal_strconv_formatBase10 (N : Nat → Nat) : Nat := N 278
def f_internal_strconv_formatBits (N : Nat → Nat) : Nat := N 279
def f_internal_strconv_log10Pow2 (N : Nat → Nat) : Nat := N 280
def f_internal_strconv_bool2_int (N : Nat → Nat) : Nat := N 281
def f_internal_strconv_isPowerOfTwo (N : Nat → Nat) : Nat := N 282
def f_math_bits_TrailingZeros (N : Nat → Nat) : Nat := N 283
def f_math_bits_TrailingZeros32 (N : Nat → Nat) : Nat := N 284
def f_math_bits_TrailingZeros64 (N : Nat → Nat) : Nat := N 285
def f_internal_strconv_Error_Error (N : Nat → Nat) : Nat := N 286
def f_p_strconv_NumError_Error (N : Nat → Nat) : Nat := N 287
def f_p_errors_errorString_Error (N : Nat → Nat) : Nat := N 288
def f_var_s_door_gosem_cut_vars_holds_initialisers_alone_see_the_manifest_s_row_cutvarsword_look_11_test_files_too (N : Nat → Nat) : Nat := N 289
def f_var_s_door_internal_strconv_uint64pow10_is_laid_by_its_own_initialiser_plain_data_look_11 (N : Nat → Nat) : Nat := N 290
def f_var_s_door_math_bits_deBruijn32tab_is_laid_by_its_own_initialiser_plain_data_look_11 (N : Nat → Nat) : Nat := N 291
def f_var_s_door_math_bits_deBruijn64tab_is_laid_by_its_own_initialiser_plain_data_look_11 (N : Nat → Nat) : Nat := N 292
def f_var_s_door_strconv_ErrRange_is_laid_by_its_own_call_of_errors_New_on_one_literal_look_11 (N : Nat → Nat) : Nat := N 293
def f_var_s_door_strconv_ErrSyntax_is_laid_by_its_own_call_of_errors_New_on_one_literal_look_11 (N : Nat → Nat) : Nat := N 294
def f_var_s_door_the_look_of_gosem_cut_vars_went_over_the_folder_that_the_caller_named_as_the_repository_s_root_look_11 (N : Nat → Nat) : Nat := N 295
def f_gosem_cut_vars (N : Nat → Nat) : Nat := N 296
def f_law13_SolveAgain (N : Nat → Nat) : Nat := N 297
def f_law13_SolveOrder (N : Nat → Nat) : Nat := N 298
def f_law13_SolveLevels (N : Nat → Nat) : Nat := N 299
def f_law13_SolveRaises (N : Nat → Nat) : Nat := N 300
def f_law13_SolveTells (N : Nat → Nat) : Nat := N 301
def f_law14_LiftApart (N : Nat → Nat) : Nat := N 302
def f_law14_LiftRefuses (N : Nat → Nat) : Nat := N 303
def f_law14_LiftCounts (N : Nat → Nat) : Nat := N 304
def f_law14_LiftReach (N : Nat → Nat) : Nat := N 305
def f_law13_lives (N : Nat → Nat) : Nat := N 306
def f_law13_Made (N : Nat → Nat) : Nat := N 307
def f_solve_New (N : Nat → Nat) : Nat := N 308
def f_law13_claims (N : Nat → Nat) : Nat := N 309
def f_p_solve_Solver_Claim (N : Nat → Nat) : Nat := N 310
def f_p_arena_Arena_IsVar (N : Nat → Nat) : Nat := N 311
def f_p_arena_Arena_Len (N : Nat → Nat) : Nat := N 312
def f_p_arena_Arena_Low (N : Nat → Nat) : Nat := N 313
def f_p_arena_Arena_Level (N : Nat → Nat) : Nat := N 314
def f_p_arena_Arena_High (N : Nat → Nat) : Nat := N 315
def f_solve_Raise (N : Nat → Nat) : Nat := N 316
def f_ref13_Holds (N : Nat → Nat) : Nat := N 317
def f_p_solve_Solver_Clash (N : Nat → Nat) : Nat := N 318
def f_p_solve_Solver_Claims (N : Nat → Nat) : Nat := N 319
def f_law14_lives (N : Nat → Nat) : Nat := N 320
def f_law14_bounded (N : Nat → Nat) : Nat := N 321
def f_lift_Fresh (N : Nat → Nat) : Nat := N 322
def f_p_arena_Arena_Head (N : Nat → Nat) : Nat := N 323
def f_arena_New (N : Nat → Nat) : Nat := N 324
def f_p_arena_Arena_Var (N : Nat → Nat) : Nat := N 325
def f_lift_Reach (N : Nat → Nat) : Nat := N 326
def f_lift_Free (N : Nat → Nat) : Nat := N 327
def f_p_arena_Arena_At (N : Nat → Nat) : Nat := N 328
def f_law08_Few (N : Nat → Nat) : Nat := N 329
def f_ref08_Right (N : Nat → Nat) : Nat := N 330
def f_p_solve_Solver_ask (N : Nat → Nat) : Nat := N 331
def f_p_solve_Solver_step (N : Nat → Nat) : Nat := N 332
def f_p_arena_Arena_there (N : Nat → Nat) : Nat := N 333
def f_p_solve_raiser_part (N : Nat → Nat) : Nat := N 334
def f_ref13_asks (N : Nat → Nat) : Nat := N 335
def f_p_lift_maker_part (N : Nat → Nat) : Nat := N 336
def f_p_arena_Arena_right (N : Nat → Nat) : Nat := N 337
def f_p_arena_Arena_room (N : Nat → Nat) : Nat := N 338
def f_arena_clone (N : Nat → Nat) : Nat := N 339
def f_slices_Sort_sl_int_int (N : Nat → Nat) : Nat := N 340
def f_p_solve_Solver_bind (N : Nat → Nat) : Nat := N 341
def f_p_solve_Solver_heads (N : Nat → Nat) : Nat := N 342
def f_p_solve_raiser_variable (N : Nat → Nat) : Nat := N 343
def f_ref13_find (N : Nat → Nat) : Nat := N 344
def f_p_lift_maker_variable (N : Nat → Nat) : Nat := N 345
def f_p_lift_maker_row (N : Nat → Nat) : Nat := N 346
def f_graph_Check (N : Nat → Nat) : Nat := N 347
def f_slices_pdqsortOrdered_int (N : Nat → Nat) : Nat := N 348
def f_p_arena_Arena_Bound (N : Nat → Nat) : Nat := N 349
def f_p_solve_Solver_variants (N : Nat → Nat) : Nat := N 350
def f_solve_kid (N : Nat → Nat) : Nat := N 351
def f_solve_way (N : Nat → Nat) : Nat := N 352
def f_graph_head (N : Nat → Nat) : Nat := N 353
def f_slices_insertionSortOrdered_int (N : Nat → Nat) : Nat := N 354
def f_slices_heapSortOrdered_int (N : Nat → Nat) : Nat := N 355
def f_slices_breakPatternsOrdered_int (N : Nat → Nat) : Nat := N 356
def f_slices_choosePivotOrdered_int (N : Nat → Nat) : Nat := N 357
def f_slices_reverseRangeOrdered_int (N : Nat → Nat) : Nat := N 358
def f_slices_partialInsertionSortOrdered_int (N : Nat → Nat) : Nat := N 359
def f_cmp_Less_int (N : Nat → Nat) : Nat := N 360
def f_slices_partitionEqualOrdered_int (N : Nat → Nat) : Nat := N 361
def f_slices_partitionOrdered_int (N : Nat → Nat) : Nat := N 362
def f_p_solve_Solver_any (N : Nat → Nat) : Nat := N 363
def f_slices_BinarySearch_sl_string_string (N : Nat → Nat) : Nat := N 364
def f_graph_rising (N : Nat → Nat) : Nat := N 365
def f_graph_typed (N : Nat → Nat) : Nat := N 366
def f_slices_siftDownOrdered_int (N : Nat → Nat) : Nat := N 367
def f_slices_medianAdjacentOrdered_int (N : Nat → Nat) : Nat := N 368
def f_slices_medianOrdered_int (N : Nat → Nat) : Nat := N 369
def f_cmp_isNaN_int (N : Nat → Nat) : Nat := N 370
def f_slices_isNaN_string (N : Nat → Nat) : Nat := N 371
def f_slices_order2Ordered_int (N : Nat → Nat) : Nat := N 372
def f_law04_TreeChecks (N : Nat → Nat) : Nat := N 373
def f_law04_lives (N : Nat → Nat) : Nat := N 374
def f_law04_Few (N : Nat → Nat) : Nat := N 375
def f_ref04_Right (N : Nat → Nat) : Nat := N 376
def f_tree_Depth (N : Nat → Nat) : Nat := N 377
def f_law04_all (N : Nat → Nat) : Nat := N 378
def f_tree_Walk (N : Nat → Nat) : Nat := N 379
def f_tree_Same (N : Nat → Nat) : Nat := N 380
def f_ref04_Walk (N : Nat → Nat) : Nat := N 381
def f_ref04_Depth (N : Nat → Nat) : Nat := N 382
def f_law04_same (N : Nat → Nat) : Nat := N 383
def f_ref04_term (N : Nat → Nat) : Nat := N 384
def f_ref04_below (N : Nat → Nat) : Nat := N 385
def f_ref04_typ (N : Nat → Nat) : Nat := N 386
def f_ref04_Alias (N : Nat → Nat) : Nat := N 387
def f_ref04_uses (N : Nat → Nat) : Nat := N 388
def f_tree_Walk_1 (N : Nat → Nat) : Nat := N 389
def f_slices_Backward_sl_int_int (N : Nat → Nat) : Nat := N 390
def f_tree_two_types (N : Nat → Nat) : Nat := N 391
def f_tree_two_terms (N : Nat → Nat) : Nat := N 392
def f_ref04_depthTerm (N : Nat → Nat) : Nat := N 393
def f_ref04_depthType (N : Nat → Nat) : Nat := N 394
def f_ref04_text (N : Nat → Nat) : Nat := N 395
def f_ref02_Parts (N : Nat → Nat) : Nat := N 396
def f_ref04_op (N : Nat → Nat) : Nat := N 397
def f_ref04_names (N : Nat → Nat) : Nat := N 398
def f_ref04_once (N : Nat → Nat) : Nat := N 399
def f_slices_Backward_sl_int_int_1 (N : Nat → Nat) : Nat := N 400
def f_slices_Equal_sl_string_string (N : Nat → Nat) : Nat := N 401
def f_law06_PrintBack (N : Nat → Nat) : Nat := N 402
def f_law06_PrintParsed (N : Nat → Nat) : Nat := N 403
def f_law06_PrintFewest (N : Nat → Nat) : Nat := N 404
def f_law06_PrintTerms (N : Nat → Nat) : Nat := N 405
def f_law06_PrintAlone (N : Nat → Nat) : Nat := N 406
def f_law06_PrintTexts (N : Nat → Nat) : Nat := N 407
def f_law07_ScopeChecks (N : Nat → Nat) : Nat := N 408
def f_law07_ScopeFree (N : Nat → Nat) : Nat := N 409
def f_law07_ScopeThrough (N : Nat → Nat) : Nat := N 410
def f_law07_ScopeBinds (N : Nat → Nat) : Nat := N 411
def f_law06_lives (N : Nat → Nat) : Nat := N 412
def f_print_Text (N : Nat → Nat) : Nat := N 413
def f_ref04_Same (N : Nat → Nat) : Nat := N 414
def f_print_Term (N : Nat → Nat) : Nat := N 415
def f_ref04_SameTerm (N : Nat → Nat) : Nat := N 416
def f_parse_Type (N : Nat → Nat) : Nat := N 417
def f_print_Type (N : Nat → Nat) : Nat := N 418
def f_ref04_SameType (N : Nat → Nat) : Nat := N 419
def f_ref06_Text (N : Nat → Nat) : Nat := N 420
def f_ref06_Term (N : Nat → Nat) : Nat := N 421
def f_ref06_Type (N : Nat → Nat) : Nat := N 422
def f_law07_lives (N : Nat → Nat) : Nat := N 423
def f_scope_Check (N : Nat → Nat) : Nat := N 424
def f_ref07_Check (N : Nat → Nat) : Nat := N 425
def f_scope_Through (N : Nat → Nat) : Nat := N 426
def f_scope_Binder (N : Nat → Nat) : Nat := N 427
def f_ref07_Binder (N : Nat → Nat) : Nat := N 428
def f_ref07_Through (N : Nat → Nat) : Nat := N 429
def f_p_print_writer_put (N : Nat → Nat) : Nat := N 430
def f_p_print_writer_typ (N : Nat → Nat) : Nat := N 431
def f_p_print_writer_term (N : Nat → Nat) : Nat := N 432
def f_ref04_same (N : Nat → Nat) : Nat := N 433
def f_parse_Type_1 (N : Nat → Nat) : Nat := N 434
def f_print_alone (N : Nat → Nat) : Nat := N 435
def f_ref06_plain (N : Nat → Nat) : Nat := N 436
def f_ref06_rule (N : Nat → Nat) : Nat := N 437
def f_scope_named (N : Nat → Nat) : Nat := N 438
def f_scope_loops (N : Nat → Nat) : Nat := N 439
def f_slices_MinFunc_sl_api_Diag_api_Diag (N : Nat → Nat) : Nat := N 440
def f_scope_Check_1 (N : Nat → Nat) : Nat := N 441
def f_cmp_Or_int (N : Nat → Nat) : Nat := N 442
def f_cmp_Compare_int (N : Nat → Nat) : Nat := N 443
def f_cmp_Compare_api_Errno (N : Nat → Nat) : Nat := N 444
def f_cmp_Compare_string (N : Nat → Nat) : Nat := N 445
def f_ref07_Named (N : Nat → Nat) : Nat := N 446
def f_ref07_row (N : Nat → Nat) : Nat := N 447
def f_scope_through (N : Nat → Nat) : Nat := N 448
def f_ref07_in (N : Nat → Nat) : Nat := N 449
def f_print_level (N : Nat → Nat) : Nat := N 450
def f_strconv_AppendInt (N : Nat → Nat) : Nat := N 451
def f_strconv_FormatBool (N : Nat → Nat) : Nat := N 452
def f_floats_Float_Text (N : Nat → Nat) : Nat := N 453
def f_p_print_writer_arms (N : Nat → Nat) : Nat := N 454
def f_p_print_writer_fields (N : Nat → Nat) : Nat := N 455
def f_print_of (N : Nat → Nat) : Nat := N 456
def f_ref06_digits (N : Nat → Nat) : Nat := N 457
def f_ref06_quote (N : Nat → Nat) : Nat := N 458
def f_ref02_Text (N : Nat → Nat) : Nat := N 459
def f_slices_IndexFunc_sl_api_Alias_api_Alias (N : Nat → Nat) : Nat := N 460
def f_scope_named_1 (N : Nat → Nat) : Nat := N 461
def f_cmp_isNaN_api_Errno (N : Nat → Nat) : Nat := N 462
def f_internal_strconv_AppendInt (N : Nat → Nat) : Nat := N 463
def f_internal_strconv_FormatBool (N : Nat → Nat) : Nat := N 464
def f_internal_strconv_AppendUint (N : Nat → Nat) : Nat := N 465
def f_law15_PolarChecks (N : Nat → Nat) : Nat := N 466
def f_law15_PolarClosed (N : Nat → Nat) : Nat := N 467
def f_law15_PolarOf (N : Nat → Nat) : Nat := N 468
def f_law16_RefineNormal (N : Nat → Nat) : Nat := N 469
def f_law15_PolarMost (N : Nat → Nat) : Nat := N 470
def f_law16_RefineSame (N : Nat → Nat) : Nat := N 471
def f_law16_RefineNames (N : Nat → Nat) : Nat := N 472
def f_law16_RefineTwice (N : Nat → Nat) : Nat := N 473
def f_law15_lives (N : Nat → Nat) : Nat := N 474
def f_law15_Few (N : Nat → Nat) : Nat := N 475
def f_law15_Right (N : Nat → Nat) : Nat := N 476
def f_polar_Reach (N : Nat → Nat) : Nat := N 477
def f_polar_Check (N : Nat → Nat) : Nat := N 478
def f_law15_SameInts (N : Nat → Nat) : Nat := N 479
def f_polar_Closed (N : Nat → Nat) : Nat := N 480
def f_graph_Normal (N : Nat → Nat) : Nat := N 481
def f_law15_Bounded (N : Nat → Nat) : Nat := N 482
def f_polar_Of (N : Nat → Nat) : Nat := N 483
def f_ref15_Of (N : Nat → Nat) : Nat := N 484
def f_law15_parts (N : Nat → Nat) : Nat := N 485
def f_law15_SameHeads (N : Nat → Nat) : Nat := N 486
def f_law16_lives (N : Nat → Nat) : Nat := N 487
def f_refine_Normal (N : Nat → Nat) : Nat := N 488
def f_refine_Alike (N : Nat → Nat) : Nat := N 489
def f_refine_Idle (N : Nat → Nat) : Nat := N 490
def f_law16_States (N : Nat → Nat) : Nat := N 491
def f_ref16_Vars (N : Nat → Nat) : Nat := N 492
def f_ref16_Idle (N : Nat → Nat) : Nat := N 493
def f_ref16_Alike (N : Nat → Nat) : Nat := N 494
def f_ref16_Clean (N : Nat → Nat) : Nat := N 495
def f_law16_Is (N : Nat → Nat) : Nat := N 496
def f_ref16_Normal (N : Nat → Nat) : Nat := N 497
def f_refine_Same (N : Nat → Nat) : Nat := N 498
def f_law16_RefineNames_1 (N : Nat → Nat) : Nat := N 499
def f_polar_Auto_state (N : Nat → Nat) : Nat := N 500
def f_p_arena_Arena_Graph (N : Nat → Nat) : Nat := N 501
def f_graph_normal (N : Nat → Nat) : Nat := N 502
def f_p_polar_maker_number (N : Nat → Nat) : Nat := N 503
def f_p_polar_maker_state (N : Nat → Nat) : Nat := N 504
def f_p_ref15_maker_number (N : Nat → Nat) : Nat := N 505
def f_p_ref15_maker_merged (N : Nat → Nat) : Nat := N 506
def f_ref08_Equal (N : Nat → Nat) : Nat := N 507
def f_refine_idle (N : Nat → Nat) : Nat := N 508
def f_refine_classes (N : Nat → Nat) : Nat := N 509
def f_slices_SortFunc_sl_sl_int_sl_int (N : Nat → Nat) : Nat := N 510
def f_slices_Compare_sl_int_int (N : Nat → Nat) : Nat := N 511
def f_slices_CompactFunc_sl_sl_int_sl_int (N : Nat → Nat) : Nat := N 512
def f_slices_Equal_sl_int_int (N : Nat → Nat) : Nat := N 513
def f_ref16_Reach (N : Nat → Nat) : Nat := N 514
def f_ref16_has (N : Nat → Nat) : Nat := N 515
def f_ref16_plain (N : Nat → Nat) : Nat := N 516
def f_ref16_less (N : Nat → Nat) : Nat := N 517
def f_refine_same (N : Nat → Nat) : Nat := N 518
def f_polar_Auto_head (N : Nat → Nat) : Nat := N 519
def f_polar_rising_int (N : Nat → Nat) : Nat := N 520
def f_graph_classes (N : Nat → Nat) : Nat := N 521
def f_p_polar_maker_closed (N : Nat → Nat) : Nat := N 522
def f_polar_row_key (N : Nat → Nat) : Nat := N 523
def f_p_polar_maker_merged (N : Nat → Nat) : Nat := N 524
def f_ref15_Closed (N : Nat → Nat) : Nat := N 525
def f_ref15_same (N : Nat → Nat) : Nat := N 526
def f_ref15_insert (N : Nat → Nat) : Nat := N 527
def f_ref15_count (N : Nat → Nat) : Nat := N 528
def f_ref15_find (N : Nat → Nat) : Nat := N 529
def f_ref08_plain (N : Nat → Nat) : Nat := N 530
def f_refine_sign (N : Nat → Nat) : Nat := N 531
def f_slices_pdqsortCmpFunc_sl_int (N : Nat → Nat) : Nat := N 532
def f_slices_EqualFunc_sl_polar_State_sl_polar_State_polar_State_polar_State (N : Nat → Nat) : Nat := N 533
def f_refine_same_1 (N : Nat → Nat) : Nat := N 534
def f_slices_EqualFunc_sl_api_Head_sl_api_Head_api_Head_api_Head (N : Nat → Nat) : Nat := N 535
def f_refine_same_1_1 (N : Nat → Nat) : Nat := N 536
def f_graph_sign (N : Nat → Nat) : Nat := N 537
def f_polar_names (N : Nat → Nat) : Nat := N 538
def f_polar_kid (N : Nat → Nat) : Nat := N 539
def f_slices_insertionSortCmpFunc_sl_int (N : Nat → Nat) : Nat := N 540
def f_slices_heapSortCmpFunc_sl_int (N : Nat → Nat) : Nat := N 541
def f_slices_breakPatternsCmpFunc_sl_int (N : Nat → Nat) : Nat := N 542
def f_slices_choosePivotCmpFunc_sl_int (N : Nat → Nat) : Nat := N 543
def f_slices_reverseRangeCmpFunc_sl_int (N : Nat → Nat) : Nat := N 544
def f_slices_partialInsertionSortCmpFunc_sl_int (N : Nat → Nat) : Nat := N 545
def f_slices_partitionEqualCmpFunc_sl_int (N : Nat → Nat) : Nat := N 546
def f_slices_partitionCmpFunc_sl_int (N : Nat → Nat) : Nat := N 547
def f_polar_all (N : Nat → Nat) : Nat := N 548
def f_polar_some (N : Nat → Nat) : Nat := N 549
def f_polar_names_1 (N : Nat → Nat) : Nat := N 550
def f_polar_names_2 (N : Nat → Nat) : Nat := N 551
def f_slices_DeleteFunc_sl_api_Head_api_Head (N : Nat → Nat) : Nat := N 552
def f_slices_Clone_sl_api_Head_api_Head (N : Nat → Nat) : Nat := N 553
def f_slices_siftDownCmpFunc_sl_int (N : Nat → Nat) : Nat := N 554
def f_slices_medianAdjacentCmpFunc_sl_int (N : Nat → Nat) : Nat := N 555
def f_slices_medianCmpFunc_sl_int (N : Nat → Nat) : Nat := N 556
def f_polar_all_1 (N : Nat → Nat) : Nat := N 557
def f_slices_ContainsFunc_sl_api_Head_api_Head (N : Nat → Nat) : Nat := N 558
def f_polar_all_1_1 (N : Nat → Nat) : Nat := N 559
def f_slices_IndexFunc_sl_api_Head_api_Head (N : Nat → Nat) : Nat := N 560
def f_slices_order2CmpFunc_sl_int (N : Nat → Nat) : Nat := N 561
def f_law13_SolveNone (N : Nat → Nat) : Nat := N 562
def f_law04_TreeFull (N : Nat → Nat) : Nat := N 563
def f_law04_TreeAround (N : Nat → Nat) : Nat := N 564
def f_law04_TreeSame (N : Nat → Nat) : Nat := N 565
def f_law04_TreeBuilds (N : Nat → Nat) : Nat := N 566
def t_int (N : Nat → Nat) : Nat := N 100000
def t_bool (N : Nat → Nat) : Nat := N 100001
def t_uint8 (N : Nat → Nat) : Nat := N 100002
def t_int32 (N : Nat → Nat) : Nat := N 100003
def t_sl_uint8 (N : Nat → Nat) : Nat := N 100004
def t_sl_int (N : Nat → Nat) : Nat := N 100005
def t_func_int32 (N : Nat → Nat) : Nat := N 100006
def t_string (N : Nat → Nat) : Nat := N 100007
def t_p_store_Store (N : Nat → Nat) : Nat := N 100008
def t_api_Diag (N : Nat → Nat) : Nat := N 100009
def t_api_Token (N : Nat → Nat) : Nat := N 100010
def t_map_string_string (N : Nat → Nat) : Nat := N 100011
def t_law23_Act (N : Nat → Nat) : Nat := N 100012
def t_map_string_sl_uint8 (N : Nat → Nat) : Nat := N 100013
def t_store_Store (N : Nat → Nat) : Nat := N 100014
def t_sl_string (N : Nat → Nat) : Nat := N 100015
def t_slices_xorshift (N : Nat → Nat) : Nat := N 100016
def t_p_deps_Net (N : Nat → Nat) : Nat := N 100017
def t_func_string_bool (N : Nat → Nat) : Nat := N 100018
def t_map_string_sl_string (N : Nat → Nat) : Nat := N 100019
def t_api_Tree (N : Nat → Nat) : Nat := N 100020
def t_deps_Net (N : Nat → Nat) : Nat := N 100021
def t_map_string_bool (N : Nat → Nat) : Nat := N 100022
def t_ref05_Parser (N : Nat → Nat) : Nat := N 100023
def t_api_Alias (N : Nat → Nat) : Nat := N 100024
def t_api_Node (N : Nat → Nat) : Nat := N 100025
def t_p_parse_reader (N : Nat → Nat) : Nat := N 100026
def t_parse_reader (N : Nat → Nat) : Nat := N 100027
def t_api_TypeNode (N : Nat → Nat) : Nat := N 100028
def t_tree_Builder (N : Nat → Nat) : Nat := N 100029
def t_scope_up (N : Nat → Nat) : Nat := N 100030
def t_tree_shape (N : Nat → Nat) : Nat := N 100031
def t_strconv_NumError (N : Nat → Nat) : Nat := N 100032
def t_errors_errorString (N : Nat → Nat) : Nat := N 100033
def t_24_uint8 (N : Nat → Nat) : Nat := N 100034
def t_65_uint8 (N : Nat → Nat) : Nat := N 100035
def t_2_int (N : Nat → Nat) : Nat := N 100036
def t_api_Head (N : Nat → Nat) : Nat := N 100037
def t_law13_Part (N : Nat → Nat) : Nat := N 100038
def t_ref13_Part (N : Nat → Nat) : Nat := N 100039
def t_api_Graph (N : Nat → Nat) : Nat := N 100040
def t_solve_claim (N : Nat → Nat) : Nat := N 100041
def t_solve_Solver (N : Nat → Nat) : Nat := N 100042
def t_arena_part (N : Nat → Nat) : Nat := N 100043
def t_arena_Arena (N : Nat → Nat) : Nat := N 100044
def t_solve_raiser (N : Nat → Nat) : Nat := N 100045
def t_lift_maker (N : Nat → Nat) : Nat := N 100046
def t_tree_two (N : Nat → Nat) : Nat := N 100047
def t_print_writer (N : Nat → Nat) : Nat := N 100048
def t_polar_Auto (N : Nat → Nat) : Nat := N 100049
def t_sl_bool (N : Nat → Nat) : Nat := N 100050
def t_sl_api_Head (N : Nat → Nat) : Nat := N 100051
def t_polar_State (N : Nat → Nat) : Nat := N 100052
def t_law15_pair (N : Nat → Nat) : Nat := N 100053
def t_ref15_State (N : Nat → Nat) : Nat := N 100054
def t_polar_maker (N : Nat → Nat) : Nat := N 100055
def t_polar_row (N : Nat → Nat) : Nat := N 100056
def t_ref15_maker (N : Nat → Nat) : Nat := N 100057
def t_ref15_Part (N : Nat → Nat) : Nat := N 100058
def t_ref16_State (N : Nat → Nat) : Nat := N 100059
def t_refine_signs (N : Nat → Nat) : Nat := N 100060
end Go.Proofs.Eng
/- Templates of functions, as the engine takes them; numbers of functions and types by names. Printed by tm.py. -/
set_option linter.unusedVariables false
set_option maxRecDepth 100000
namespace Go.Proofs.Eng
open Go

/-- azimuth/azimuthref04.Name -/
def C_ref04_Name (N : Nat → Nat) : AFunc := ⟨10, [.inl 2],
 .seq (
  .ops [⟨(some 2), .mov (.c (.lit (.bool false))), none⟩]) (
 .seq (
  .ops [⟨(some 3), .mov (.t 0), none⟩, ⟨(some 4), .call (.c (.fn (f_ref04_Tag N) [] [])) [(.t 3)], none⟩, ⟨(some 5), .mov (.t 4), none⟩, ⟨(some 6), .mov (.t 0), (some (5, true))⟩, ⟨(some 7), .call (.c (.fn (f_ref03_IsWord N) [] [])) [(.t 6)], (some (5, true))⟩, ⟨(some 8), .un .not (.t 7), (some (5, true))⟩, ⟨(some 9), .pick (.t 5) (.t 8) (.c (.lit (.bool false))), none⟩, ⟨(some 2), .mov (.t 9), none⟩]) (
 .ret)), false⟩

def L_ref04_Tag_1 (N : Nat → Nat) : AC :=
    .seq (
     .seq (
      .ops [⟨(some 6), .mov (.t 3), none⟩, ⟨(some 7), .mov (.t 0), none⟩, ⟨(some 8), .lens (.t 7), none⟩, ⟨(some 9), .bin .lss (.t 6) (.t 8), none⟩]) (
     .cond (.t 9) (
      .skip) (
      .exit 0))) (
    .seq (
     .block 1 (
      .seq (
       .ops [⟨(some 12), .mov (.t 0), none⟩, ⟨(some 13), .mov (.t 3), none⟩, ⟨(some 14), .sidx (.t 12) (.t 13), none⟩, ⟨(some 4), .mov (.t 14), none⟩]) (
      .seq (
       .ops [⟨(some 15), .mov (.t 4), none⟩, ⟨(some 16), .bin .geq (.t 15) (.c (.lit (.int .u8 97))), none⟩, ⟨(some 17), .mov (.t 16), none⟩, ⟨(some 18), .mov (.t 4), (some (17, true))⟩, ⟨(some 19), .bin .leq (.t 18) (.c (.lit (.int .u8 122))), (some (17, true))⟩, ⟨(some 20), .pick (.t 17) (.t 19) (.c (.lit (.bool false))), none⟩, ⟨(some 21), .mov (.t 20), none⟩, ⟨(some 22), .mov (.t 4), (some (21, false))⟩, ⟨(some 23), .eq false .pint (.t 22) (.c (.lit (.int .u8 95))), (some (21, false))⟩, ⟨(some 24), .pick (.t 21) (.c (.lit (.bool true))) (.t 23), none⟩, ⟨(some 5), .mov (.t 24), none⟩]) (
      .seq (
       .ops [⟨(some 25), .mov (.t 5), none⟩, ⟨(some 26), .un .not (.t 25), none⟩, ⟨(some 27), .mov (.t 26), none⟩, ⟨(some 28), .mov (.t 3), (some (27, true))⟩, ⟨(some 29), .eq false .pint (.t 28) (.c (.lit (.int .i64 0))), (some (27, true))⟩, ⟨(some 30), .mov (.t 29), (some (27, true))⟩, ⟨(some 31), .mov (.t 4), (some (30, false))⟩, ⟨(some 32), .bin .lss (.t 31) (.c (.lit (.int .u8 48))), (some (30, false))⟩, ⟨(some 33), .pick (.t 30) (.c (.lit (.bool true))) (.t 32), (some (27, true))⟩, ⟨(some 34), .mov (.t 33), (some (27, true))⟩, ⟨(some 35), .mov (.t 4), (some (34, false))⟩, ⟨(some 36), .bin .gtr (.t 35) (.c (.lit (.int .u8 57))), (some (34, false))⟩, ⟨(some 37), .pick (.t 34) (.c (.lit (.bool true))) (.t 36), (some (27, true))⟩, ⟨(some 38), .pick (.t 27) (.t 37) (.c (.lit (.bool false))), none⟩]) (
      .cond (.t 38) (
       .seq (
        .ops [⟨(some 2), .mov (.c (.lit (.bool false))), none⟩]) (
       .ret)) (
       .skip)))))) (
    .ops [⟨(some 10), .mov (.t 3), none⟩, ⟨(some 11), .bin .add (.t 10) (.c (.lit (.int .i64 1))), none⟩, ⟨(some 3), .mov (.t 11), none⟩]))
def K_ref04_Tag_1 (N : Nat → Nat) : AC :=
 .seq (
  .ops [⟨(some 39), .mov (.t 0), none⟩, ⟨(some 40), .eq true .pstr (.t 39) (.c (.lit (.string (mkS [])))), none⟩, ⟨(some 2), .mov (.t 40), none⟩]) (
 .ret)
/-- azimuth/azimuthref04.Tag -/
def C_ref04_Tag (N : Nat → Nat) : AFunc := ⟨41, [.inl 2],
 .seq (
  .ops [⟨(some 2), .mov (.c (.lit (.bool false))), none⟩]) (
 .seq (
  .seq (
   .ops [⟨(some 3), .mov (.c (.lit (.int .i64 0))), none⟩]) (
  .block 0 (
   .loop (L_ref04_Tag_1 N)))) (K_ref04_Tag_1 N)), false⟩
end Go.Proofs.Eng
/- Templates of functions, as the engine takes them; numbers of functions and types by names. Printed by tm.py. -/
set_option linter.unusedVariables false
set_option maxRecDepth 100000
namespace Go.Proofs.Eng
open Go

def L_ref03_IsWord_1 (N : Nat → Nat) : AC :=
    .seq (
     .seq (
      .ops [⟨(some 7), .mov (.t 3), none⟩, ⟨(some 8), .mov (.t 0), none⟩, ⟨(some 9), .lens (.t 8), none⟩, ⟨(some 10), .bin .lss (.t 7) (.t 9), none⟩]) (
     .cond (.t 10) (
      .skip) (
      .exit 0))) (
    .seq (
     .block 1 (
      .seq (
       .ops [⟨(some 13), .mov (.t 0), none⟩, ⟨(some 14), .mov (.t 3), none⟩, ⟨(some 15), .sidx (.t 13) (.t 14), none⟩, ⟨(some 16), .bin .lss (.t 15) (.c (.lit (.int .u8 97))), none⟩, ⟨(some 17), .mov (.t 16), none⟩, ⟨(some 18), .mov (.t 0), (some (17, false))⟩, ⟨(some 19), .mov (.t 3), (some (17, false))⟩, ⟨(some 20), .sidx (.t 18) (.t 19), (some (17, false))⟩, ⟨(some 21), .bin .gtr (.t 20) (.c (.lit (.int .u8 122))), (some (17, false))⟩, ⟨(some 22), .pick (.t 17) (.c (.lit (.bool true))) (.t 21), none⟩]) (
      .cond (.t 22) (
       .seq (
        .ops [⟨(some 2), .mov (.c (.lit (.bool false))), none⟩]) (
       .ret)) (
       .skip)))) (
    .ops [⟨(some 11), .mov (.t 3), none⟩, ⟨(some 12), .bin .add (.t 11) (.c (.lit (.int .i64 1))), none⟩, ⟨(some 3), .mov (.t 12), none⟩]))
def L_ref03_IsWord_2 (N : Nat → Nat) : AC :=
    .seq (
     .seq (
      .ops [⟨(some 23), .mov (.t 4), none⟩, ⟨(some 24), .mov (.t 0), none⟩, ⟨(some 25), .lens (.t 24), none⟩, ⟨(some 26), .bin .add (.t 23) (.t 25), none⟩, ⟨(some 27), .bin .add (.t 26) (.c (.lit (.int .i64 2))), none⟩, ⟨(some 28), .bin .leq (.t 27) (.c (.lit (.int .i64 89))), none⟩]) (
     .cond (.t 28) (
      .skip) (
      .exit 2))) (
    .seq (
     .block 3 (
      .seq (
       .ops [⟨(some 31), .mov (.t 4), none⟩, ⟨(some 32), .mov (.t 4), none⟩, ⟨(some 33), .mov (.t 0), none⟩, ⟨(some 34), .lens (.t 33), none⟩, ⟨(some 35), .bin .add (.t 32) (.t 34), none⟩, ⟨(some 36), .bin .add (.t 35) (.c (.lit (.int .i64 2))), none⟩, ⟨(some 37), .slstr (.c (.lit (.string (mkS [32, 102, 117, 110, 32, 108, 101, 116, 32, 114, 101, 99, 32, 105, 110, 32, 105, 102, 32, 116, 104, 101, 110, 32, 101, 108, 115, 101, 32, 99, 97, 115, 101, 32, 111, 102, 32, 101, 110, 100, 32, 116, 114, 117, 101, 32, 102, 97, 108, 115, 101, 32, 105, 110, 116, 32, 98, 111, 111, 108, 32, 115, 116, 114, 32, 102, 108, 111, 97, 116, 32, 100, 121, 110, 32, 97, 110, 121, 32, 110, 111, 110, 101, 32, 116, 121, 112, 101, 32])))) (some (.t 31)) (some (.t 36)), none⟩, ⟨(some 38), .mov (.t 0), none⟩, ⟨(some 39), .bin .add (.c (.lit (.string (mkS [32])))) (.t 38), none⟩, ⟨(some 40), .bin .add (.t 39) (.c (.lit (.string (mkS [32])))), none⟩, ⟨(some 41), .eq false .pstr (.t 37) (.t 40), none⟩]) (
      .cond (.t 41) (
       .seq (
        .ops [⟨(some 2), .mov (.c (.lit (.bool true))), none⟩]) (
       .ret)) (
       .skip)))) (
    .ops [⟨(some 29), .mov (.t 4), none⟩, ⟨(some 30), .bin .add (.t 29) (.c (.lit (.int .i64 1))), none⟩, ⟨(some 4), .mov (.t 30), none⟩]))
def K_ref03_IsWord_2 (N : Nat → Nat) : AC :=
 .seq (
  .ops [⟨(some 2), .mov (.c (.lit (.bool false))), none⟩]) (
 .ret)
def K_ref03_IsWord_1 (N : Nat → Nat) : AC :=
 .seq (
  .seq (
   .ops [⟨(some 4), .mov (.c (.lit (.int .i64 0))), none⟩]) (
  .block 2 (
   .loop (L_ref03_IsWord_2 N)))) (K_ref03_IsWord_2 N)
/-- azimuth/azimuthref03.IsWord -/
def C_ref03_IsWord (N : Nat → Nat) : AFunc := ⟨42, [.inl 2],
 .seq (
  .ops [⟨(some 2), .mov (.c (.lit (.bool false))), none⟩]) (
 .seq (
  .seq (
   .ops [⟨(some 5), .mov (.t 0), none⟩, ⟨(some 6), .eq false .pstr (.t 5) (.c (.lit (.string (mkS [])))), none⟩]) (
  .cond (.t 6) (
   .seq (
    .ops [⟨(some 2), .mov (.c (.lit (.bool false))), none⟩]) (
   .ret)) (
   .skip))) (
 .seq (
  .seq (
   .ops [⟨(some 3), .mov (.c (.lit (.int .i64 0))), none⟩]) (
  .block 0 (
   .loop (L_ref03_IsWord_1 N)))) (K_ref03_IsWord_1 N))), false⟩

def L_ref03_Lex_2 (N : Nat → Nat) : AC :=
          .seq (
           .seq (
            .ops [⟨(some 80), .mov (.t 8), none⟩, ⟨(some 81), .mov (.t 0), none⟩, ⟨(some 82), .len (.t 81), none⟩, ⟨(some 83), .bin .lss (.t 80) (.t 82), none⟩, ⟨(some 84), .mov (.t 83), none⟩, ⟨(some 85), .mov (.t 0), (some (84, true))⟩, ⟨(some 86), .mov (.t 8), (some (84, true))⟩, ⟨(some 87), .iaddr 1 (.t 85) (.t 86), (some (84, true))⟩, ⟨(some 88), .load none (.t 87), (some (84, true))⟩, ⟨(some 89), .eq true .pint (.t 88) (.c (.lit (.int .u8 10))), (some (84, true))⟩, ⟨(some 90), .pick (.t 84) (.t 89) (.c (.lit (.bool false))), none⟩]) (
           .cond (.t 90) (
            .skip) (
            .exit 2))) (
          .block 3 (
           .ops [⟨(some 91), .mov (.t 8), none⟩, ⟨(some 92), .bin .add (.t 91) (.c (.lit (.int .i64 1))), none⟩, ⟨(some 8), .mov (.t 92), none⟩]))
def K_ref03_Lex_1 (N : Nat → Nat) : AC :=
 .exit 1
def K_ref03_Lex_2 (N : Nat → Nat) : AC :=
 .seq (
  .ops [⟨(some 94), .mov (.t 0), none⟩, ⟨(some 95), .mov (.t 8), none⟩, ⟨(some 96), .call (.c (.fn (f_ref03_one N) [] [])) [(.t 94), (.t 95)], none⟩, ⟨(some 93), .mov (.t 96), none⟩, ⟨(some 97), .extract (.t 93) 0, none⟩, ⟨(some 98), .extract (.t 93) 1, none⟩, ⟨(some 9), .new (t_api_Token N) (.agg [(.lit (.int .i64 0)), (.lit (.string (mkS []))), (.lit (.int .i64 0))]), none⟩, ⟨none, .store 3 (.t 9) (.t 97), none⟩, ⟨(some 10), .mov (.t 98), none⟩]) (
 .seq (
  .seq (
   .ops [⟨(some 99), .mov (.t 10), none⟩, ⟨(some 100), .eq false .pint (.t 99) (.c (.lit (.int .i64 0))), none⟩]) (
  .cond (.t 100) (
   .seq (
    .ops [⟨(some 101), .mov (.t 8), none⟩, ⟨(some 102), .build [(.lit (.int .i64 0)), (.lit (.int .i64 0)), (.lit (.string (mkS [])))] [(0, 1, (.c (.lit (.int .i64 3)))), (1, 1, (.t 101))], none⟩, ⟨(some 2), .mov (.c (.lit (.slice none 0 0))), none⟩, ⟨none, .store 3 (.t 3) (.t 102), none⟩]) (
   .ret)) (
   .skip))) (
 .seq (
  .ops [⟨(some 103), .mov (.t 8), none⟩, ⟨(some 104), .faddr 2 (.t 9), none⟩, ⟨none, .store 1 (.t 104) (.t 103), none⟩]) (
 .seq (
  .ops [⟨(some 105), .mov (.t 7), none⟩, ⟨(some 106), .load (some 3) (.t 9), none⟩, ⟨(some 107), .bslice (t_api_Token N) 3 (some 3) 1 [(.lit (.int .i64 0)), (.lit (.string (mkS []))), (.lit (.int .i64 0))] [(0, 3, (.t 106))], none⟩, ⟨(some 108), .append (t_api_Token N) 3 32 (.t 105) (.t 107), none⟩, ⟨(some 7), .mov (.t 108), none⟩]) (
 .ops [⟨(some 109), .mov (.t 8), none⟩, ⟨(some 110), .mov (.t 10), none⟩, ⟨(some 111), .bin .add (.t 109) (.t 110), none⟩, ⟨(some 8), .mov (.t 111), none⟩]))))
def L_ref03_Lex_1 (N : Nat → Nat) : AC :=
    .seq (
     .seq (
      .ops [⟨(some 28), .mov (.t 8), none⟩, ⟨(some 29), .mov (.t 0), none⟩, ⟨(some 30), .len (.t 29), none⟩, ⟨(some 31), .bin .lss (.t 28) (.t 30), none⟩]) (
     .cond (.t 31) (
      .skip) (
      .exit 0))) (
    .block 1 (
     .seq (
      .seq (
       .ops [⟨(some 32), .mov (.t 0), none⟩, ⟨(some 33), .mov (.t 8), none⟩, ⟨(some 34), .iaddr 1 (.t 32) (.t 33), none⟩, ⟨(some 35), .load none (.t 34), none⟩, ⟨(some 36), .eq false .pint (.t 35) (.c (.lit (.int .u8 32))), none⟩, ⟨(some 37), .mov (.t 36), none⟩, ⟨(some 38), .mov (.t 0), (some (37, false))⟩, ⟨(some 39), .mov (.t 8), (some (37, false))⟩, ⟨(some 40), .iaddr 1 (.t 38) (.t 39), (some (37, false))⟩, ⟨(some 41), .load none (.t 40), (some (37, false))⟩, ⟨(some 42), .eq false .pint (.t 41) (.c (.lit (.int .u8 9))), (some (37, false))⟩, ⟨(some 43), .pick (.t 37) (.c (.lit (.bool true))) (.t 42), none⟩, ⟨(some 44), .mov (.t 43), none⟩, ⟨(some 45), .mov (.t 0), (some (44, false))⟩, ⟨(some 46), .mov (.t 8), (some (44, false))⟩, ⟨(some 47), .iaddr 1 (.t 45) (.t 46), (some (44, false))⟩, ⟨(some 48), .load none (.t 47), (some (44, false))⟩, ⟨(some 49), .eq false .pint (.t 48) (.c (.lit (.int .u8 10))), (some (44, false))⟩, ⟨(some 50), .pick (.t 44) (.c (.lit (.bool true))) (.t 49), none⟩, ⟨(some 51), .mov (.t 50), none⟩, ⟨(some 52), .mov (.t 0), (some (51, false))⟩, ⟨(some 53), .mov (.t 8), (some (51, false))⟩, ⟨(some 54), .iaddr 1 (.t 52) (.t 53), (some (51, false))⟩, ⟨(some 55), .load none (.t 54), (some (51, false))⟩, ⟨(some 56), .eq false .pint (.t 55) (.c (.lit (.int .u8 13))), (some (51, false))⟩, ⟨(some 57), .pick (.t 51) (.c (.lit (.bool true))) (.t 56), none⟩]) (
      .cond (.t 57) (
       .seq (
        .ops [⟨(some 58), .mov (.t 8), none⟩, ⟨(some 59), .bin .add (.t 58) (.c (.lit (.int .i64 1))), none⟩, ⟨(some 8), .mov (.t 59), none⟩]) (
       .exit 1)) (
       .skip))) (
     .seq (
      .seq (
       .ops [⟨(some 60), .mov (.t 0), none⟩, ⟨(some 61), .mov (.t 8), none⟩, ⟨(some 62), .iaddr 1 (.t 60) (.t 61), none⟩, ⟨(some 63), .load none (.t 62), none⟩, ⟨(some 64), .eq false .pint (.t 63) (.c (.lit (.int .u8 47))), none⟩, ⟨(some 65), .mov (.t 64), none⟩, ⟨(some 66), .mov (.t 8), (some (65, true))⟩, ⟨(some 67), .bin .add (.t 66) (.c (.lit (.int .i64 1))), (some (65, true))⟩, ⟨(some 68), .mov (.t 0), (some (65, true))⟩, ⟨(some 69), .len (.t 68), (some (65, true))⟩, ⟨(some 70), .bin .lss (.t 67) (.t 69), (some (65, true))⟩, ⟨(some 71), .pick (.t 65) (.t 70) (.c (.lit (.bool false))), none⟩, ⟨(some 72), .mov (.t 71), none⟩, ⟨(some 73), .mov (.t 0), (some (72, true))⟩, ⟨(some 74), .mov (.t 8), (some (72, true))⟩, ⟨(some 75), .bin .add (.t 74) (.c (.lit (.int .i64 1))), (some (72, true))⟩, ⟨(some 76), .iaddr 1 (.t 73) (.t 75), (some (72, true))⟩, ⟨(some 77), .load none (.t 76), (some (72, true))⟩, ⟨(some 78), .eq false .pint (.t 77) (.c (.lit (.int .u8 47))), (some (72, true))⟩, ⟨(some 79), .pick (.t 72) (.t 78) (.c (.lit (.bool false))), none⟩]) (
      .cond (.t 79) (
       .seq (
        .block 2 (
         .loop (L_ref03_Lex_2 N))) (K_ref03_Lex_1 N)) (
       .skip))) (K_ref03_Lex_2 N))))
def K_ref03_Lex_3 (N : Nat → Nat) : AC :=
 .seq (
  .ops [⟨(some 112), .mov (.t 7), none⟩, ⟨(some 113), .mov (.t 8), none⟩, ⟨(some 114), .build [(.lit (.int .i64 0)), (.lit (.string (mkS []))), (.lit (.int .i64 0))] [(0, 1, (.c (.lit (.int .i64 0)))), (2, 1, (.t 113))], none⟩, ⟨(some 115), .bslice (t_api_Token N) 3 (some 3) 1 [(.lit (.int .i64 0)), (.lit (.string (mkS []))), (.lit (.int .i64 0))] [(0, 3, (.t 114))], none⟩, ⟨(some 116), .append (t_api_Token N) 3 32 (.t 112) (.t 115), none⟩, ⟨(some 117), .build [(.lit (.int .i64 0)), (.lit (.int .i64 0)), (.lit (.string (mkS [])))] [], none⟩, ⟨(some 2), .mov (.t 116), none⟩, ⟨none, .store 3 (.t 3) (.t 117), none⟩]) (
 .ret)
/-- azimuth/azimuthref03.Lex -/
def C_ref03_Lex (N : Nat → Nat) : AFunc := ⟨118, [.inl 2, .inr (3, (some 3))],
 .seq (
  .ops [⟨(some 2), .mov (.c (.lit (.slice none 0 0))), none⟩, ⟨(some 3), .new (t_api_Diag N) (.agg [(.lit (.int .i64 0)), (.lit (.int .i64 0)), (.lit (.string (mkS [])))]), none⟩]) (
 .seq (
  .seq (
   .ops [⟨(some 11), .mov (.t 0), none⟩, ⟨(some 12), .len (.t 11), none⟩, ⟨(some 13), .bin .gtr (.t 12) (.c (.lit (.int .i64 1048576))), none⟩]) (
  .cond (.t 13) (
   .seq (
    .ops [⟨(some 14), .build [(.lit (.int .i64 0)), (.lit (.int .i64 0)), (.lit (.string (mkS [])))] [(0, 1, (.c (.lit (.int .i64 6))))], none⟩, ⟨(some 2), .mov (.c (.lit (.slice none 0 0))), none⟩, ⟨none, .store 3 (.t 3) (.t 14), none⟩]) (
   .ret)) (
   .skip))) (
 .seq (
  .ops [⟨(some 16), .mov (.t 0), none⟩, ⟨(some 17), .call (.c (.fn (f_ref01_Signs N) [] [])) [(.t 16)], none⟩, ⟨(some 15), .mov (.t 17), none⟩, ⟨(some 18), .extract (.t 15) 0, none⟩, ⟨(some 19), .extract (.t 15) 1, none⟩, ⟨(some 20), .extract (.t 15) 2, none⟩, ⟨(some 4), .mov (.t 18), none⟩, ⟨(some 5), .mov (.t 19), none⟩, ⟨(some 6), .mov (.t 20), none⟩]) (
 .seq (
  .seq (
   .ops [⟨(some 21), .mov (.t 6), none⟩, ⟨(some 22), .mov (.t 0), none⟩, ⟨(some 23), .len (.t 22), none⟩, ⟨(some 24), .bin .lss (.t 21) (.t 23), none⟩]) (
  .cond (.t 24) (
   .seq (
    .ops [⟨(some 25), .mov (.t 6), none⟩, ⟨(some 26), .build [(.lit (.int .i64 0)), (.lit (.int .i64 0)), (.lit (.string (mkS [])))] [(0, 1, (.c (.lit (.int .i64 2)))), (1, 1, (.t 25))], none⟩, ⟨(some 2), .mov (.c (.lit (.slice none 0 0))), none⟩, ⟨none, .store 3 (.t 3) (.t 26), none⟩]) (
   .ret)) (
   .skip))) (
 .seq (
  .ops [⟨(some 27), .bslice (t_api_Token N) 3 (some 3) 0 [(.lit (.int .i64 0)), (.lit (.string (mkS []))), (.lit (.int .i64 0))] [], none⟩, ⟨(some 7), .mov (.t 27), none⟩]) (
 .seq (
  .ops [⟨(some 8), .mov (.c (.lit (.int .i64 0))), none⟩]) (
 .seq (
  .block 0 (
   .loop (L_ref03_Lex_1 N))) (K_ref03_Lex_3 N))))))), true⟩

def L_ref03_Same_1 (N : Nat → Nat) : AC :=
    .seq (
     .ops [⟨(some 14), .bin .lss (.t 13) (.t 12), none⟩]) (
    .seq (
     .cond (.t 14) (
      .skip) (
      .exit 0)) (
    .seq (
     .block 1 (
      .seq (
       .ops [⟨(some 15), .mov (.t 13), none⟩, ⟨(some 5), .mov (.t 15), none⟩]) (
      .seq (
       .dops 6 [⟨(some 16), .mov (.t 0), none⟩, ⟨(some 17), .mov (.t 5), none⟩, ⟨(some 18), .iaddr 3 (.t 16) (.t 17), none⟩, ⟨(some 19), .load (some 3) (.t 18), none⟩, ⟨(some 20), .mov (.t 1), none⟩, ⟨(some 21), .mov (.t 5), none⟩, ⟨(some 22), .iaddr 3 (.t 20) (.t 21), none⟩, ⟨(some 23), .load (some 3) (.t 22), none⟩, ⟨(some 24), .eq true (.struct [(0, none, .pint), (1, none, .pstr), (2, none, .pint)]) (.t 19) (.t 23), none⟩] [0, 0, 0, 2, 0, 0, 0, 2, 0] []) (
      .cond (.t 24) (
       .seq (
        .ops [⟨(some 4), .mov (.c (.lit (.bool false))), none⟩]) (
       .ret)) (
       .skip))))) (
    .ops [⟨(some 25), .bin .add (.t 13) (.c (.lit (.int .i64 1))), none⟩, ⟨(some 13), .mov (.t 25), none⟩])))
def K_ref03_Same_1 (N : Nat → Nat) : AC :=
 .seq (
  .ops [⟨(some 4), .mov (.c (.lit (.bool true))), none⟩]) (
 .ret)
/-- azimuth/azimuthref03.Same -/
def C_ref03_Same (N : Nat → Nat) : AFunc := ⟨26, [.inl 4],
 .seq (
  .ops [⟨(some 4), .mov (.c (.lit (.bool false))), none⟩]) (
 .seq (
  .seq (
   .ops [⟨(some 6), .mov (.t 0), none⟩, ⟨(some 7), .len (.t 6), none⟩, ⟨(some 8), .mov (.t 1), none⟩, ⟨(some 9), .len (.t 8), none⟩, ⟨(some 10), .eq true .pint (.t 7) (.t 9), none⟩]) (
  .cond (.t 10) (
   .seq (
    .ops [⟨(some 4), .mov (.c (.lit (.bool false))), none⟩]) (
   .ret)) (
   .skip))) (
 .seq (
  .seq (
   .ops [⟨(some 11), .mov (.t 0), none⟩, ⟨(some 12), .len (.t 11), none⟩, ⟨(some 13), .mov (.c (.lit (.int .i64 0))), none⟩]) (
  .block 0 (
   .loop (L_ref03_Same_1 N)))) (K_ref03_Same_1 N))), false⟩

/-- azimuth/azimuthref03.digit -/
def C_ref03_digit (N : Nat → Nat) : AFunc := ⟨9, [.inl 2],
 .seq (
  .ops [⟨(some 2), .mov (.c (.lit (.bool false))), none⟩]) (
 .seq (
  .ops [⟨(some 3), .mov (.t 0), none⟩, ⟨(some 4), .bin .geq (.t 3) (.c (.lit (.int .u8 48))), none⟩, ⟨(some 5), .mov (.t 4), none⟩, ⟨(some 6), .mov (.t 0), (some (5, true))⟩, ⟨(some 7), .bin .leq (.t 6) (.c (.lit (.int .u8 57))), (some (5, true))⟩, ⟨(some 8), .pick (.t 5) (.t 7) (.c (.lit (.bool false))), none⟩, ⟨(some 2), .mov (.t 8), none⟩]) (
 .ret)), false⟩

/-- azimuth/azimuthref03.hex -/
def C_ref03_hex (N : Nat → Nat) : AFunc := ⟨13, [.inl 2],
 .seq (
  .ops [⟨(some 2), .mov (.c (.lit (.bool false))), none⟩]) (
 .seq (
  .ops [⟨(some 3), .mov (.t 0), none⟩, ⟨(some 4), .call (.c (.fn (f_ref03_digit N) [] [])) [(.t 3)], none⟩, ⟨(some 5), .mov (.t 4), none⟩, ⟨(some 6), .mov (.t 0), (some (5, false))⟩, ⟨(some 7), .bin .geq (.t 6) (.c (.lit (.int .u8 97))), (some (5, false))⟩, ⟨(some 8), .mov (.t 7), (some (5, false))⟩, ⟨(some 9), .mov (.t 0), (some (8, true))⟩, ⟨(some 10), .bin .leq (.t 9) (.c (.lit (.int .u8 102))), (some (8, true))⟩, ⟨(some 11), .pick (.t 8) (.t 10) (.c (.lit (.bool false))), (some (5, false))⟩, ⟨(some 12), .pick (.t 5) (.c (.lit (.bool true))) (.t 11), none⟩, ⟨(some 2), .mov (.t 12), none⟩]) (
 .ret)), false⟩

/-- azimuth/azimuthref03.high -/
def C_ref03_high (N : Nat → Nat) : AFunc := ⟨9, [.inl 2],
 .seq (
  .ops [⟨(some 2), .mov (.c (.lit (.bool false))), none⟩]) (
 .seq (
  .ops [⟨(some 3), .mov (.t 0), none⟩, ⟨(some 4), .bin .geq (.t 3) (.c (.lit (.int .u8 65))), none⟩, ⟨(some 5), .mov (.t 4), none⟩, ⟨(some 6), .mov (.t 0), (some (5, true))⟩, ⟨(some 7), .bin .leq (.t 6) (.c (.lit (.int .u8 90))), (some (5, true))⟩, ⟨(some 8), .pick (.t 5) (.t 7) (.c (.lit (.bool false))), none⟩, ⟨(some 2), .mov (.t 8), none⟩]) (
 .ret)), false⟩

/-- azimuth/azimuthref03.low -/
def C_ref03_low (N : Nat → Nat) : AFunc := ⟨13, [.inl 2],
 .seq (
  .ops [⟨(some 2), .mov (.c (.lit (.bool false))), none⟩]) (
 .seq (
  .ops [⟨(some 3), .mov (.t 0), none⟩, ⟨(some 4), .bin .geq (.t 3) (.c (.lit (.int .u8 97))), none⟩, ⟨(some 5), .mov (.t 4), none⟩, ⟨(some 6), .mov (.t 0), (some (5, true))⟩, ⟨(some 7), .bin .leq (.t 6) (.c (.lit (.int .u8 122))), (some (5, true))⟩, ⟨(some 8), .pick (.t 5) (.t 7) (.c (.lit (.bool false))), none⟩, ⟨(some 9), .mov (.t 8), none⟩, ⟨(some 10), .mov (.t 0), (some (9, false))⟩, ⟨(some 11), .eq false .pint (.t 10) (.c (.lit (.int .u8 95))), (some (9, false))⟩, ⟨(some 12), .pick (.t 9) (.c (.lit (.bool true))) (.t 11), none⟩, ⟨(some 2), .mov (.t 12), none⟩]) (
 .ret)), false⟩

def L_ref03_name_1 (N : Nat → Nat) : AC :=
    .seq (
     .seq (
      .ops [⟨(some 18), .mov (.t 1), none⟩, ⟨(some 19), .mov (.t 5), none⟩, ⟨(some 20), .bin .add (.t 18) (.t 19), none⟩, ⟨(some 21), .mov (.t 0), none⟩, ⟨(some 22), .len (.t 21), none⟩, ⟨(some 23), .bin .lss (.t 20) (.t 22), none⟩, ⟨(some 24), .mov (.t 23), none⟩, ⟨(some 25), .mov (.t 0), (some (24, true))⟩, ⟨(some 26), .mov (.t 1), (some (24, true))⟩, ⟨(some 27), .mov (.t 5), (some (24, true))⟩, ⟨(some 28), .bin .add (.t 26) (.t 27), (some (24, true))⟩, ⟨(some 29), .iaddr 1 (.t 25) (.t 28), (some (24, true))⟩, ⟨(some 30), .load none (.t 29), (some (24, true))⟩, ⟨(some 31), .call (.c (.fn (f_ref03_low N) [] [])) [(.t 30)], (some (24, true))⟩, ⟨(some 32), .mov (.t 31), (some (24, true))⟩, ⟨(some 33), .mov (.t 0), (some (32, false))⟩, ⟨(some 34), .mov (.t 1), (some (32, false))⟩, ⟨(some 35), .mov (.t 5), (some (32, false))⟩, ⟨(some 36), .bin .add (.t 34) (.t 35), (some (32, false))⟩, ⟨(some 37), .iaddr 1 (.t 33) (.t 36), (some (32, false))⟩, ⟨(some 38), .load none (.t 37), (some (32, false))⟩, ⟨(some 39), .call (.c (.fn (f_ref03_digit N) [] [])) [(.t 38)], (some (32, false))⟩, ⟨(some 40), .pick (.t 32) (.c (.lit (.bool true))) (.t 39), (some (24, true))⟩, ⟨(some 41), .pick (.t 24) (.t 40) (.c (.lit (.bool false))), none⟩]) (
     .cond (.t 41) (
      .skip) (
      .exit 0))) (
    .block 1 (
     .ops [⟨(some 42), .mov (.t 5), none⟩, ⟨(some 43), .bin .add (.t 42) (.c (.lit (.int .i64 1))), none⟩, ⟨(some 5), .mov (.t 43), none⟩]))
def K_ref03_name_1 (N : Nat → Nat) : AC :=
 .seq (
  .ops [⟨(some 44), .mov (.t 5), none⟩, ⟨(some 4), .mov (.t 44), none⟩]) (
 .ret)
/-- azimuth/azimuthref03.name -/
def C_ref03_name (N : Nat → Nat) : AFunc := ⟨45, [.inl 4],
 .seq (
  .ops [⟨(some 4), .mov (.c (.lit (.int .i64 0))), none⟩]) (
 .seq (
  .seq (
   .ops [⟨(some 6), .mov (.t 1), none⟩, ⟨(some 7), .mov (.t 0), none⟩, ⟨(some 8), .len (.t 7), none⟩, ⟨(some 9), .bin .geq (.t 6) (.t 8), none⟩, ⟨(some 10), .mov (.t 9), none⟩, ⟨(some 11), .mov (.t 0), (some (10, false))⟩, ⟨(some 12), .mov (.t 1), (some (10, false))⟩, ⟨(some 13), .iaddr 1 (.t 11) (.t 12), (some (10, false))⟩, ⟨(some 14), .load none (.t 13), (some (10, false))⟩, ⟨(some 15), .call (.c (.fn (f_ref03_low N) [] [])) [(.t 14)], (some (10, false))⟩, ⟨(some 16), .un .not (.t 15), (some (10, false))⟩, ⟨(some 17), .pick (.t 10) (.c (.lit (.bool true))) (.t 16), none⟩]) (
  .cond (.t 17) (
   .seq (
    .ops [⟨(some 4), .mov (.c (.lit (.int .i64 0))), none⟩]) (
   .ret)) (
   .skip))) (
 .seq (
  .ops [⟨(some 5), .mov (.c (.lit (.int .i64 1))), none⟩]) (
 .seq (
  .block 0 (
   .loop (L_ref03_name_1 N))) (K_ref03_name_1 N)))), false⟩

def L_ref03_number_1 (N : Nat → Nat) : AC :=
    .seq (
     .seq (
      .ops [⟨(some 10), .mov (.t 1), none⟩, ⟨(some 11), .mov (.t 6), none⟩, ⟨(some 12), .bin .add (.t 10) (.t 11), none⟩, ⟨(some 13), .mov (.t 0), none⟩, ⟨(some 14), .len (.t 13), none⟩, ⟨(some 15), .bin .lss (.t 12) (.t 14), none⟩, ⟨(some 16), .mov (.t 15), none⟩, ⟨(some 17), .mov (.t 0), (some (16, true))⟩, ⟨(some 18), .mov (.t 1), (some (16, true))⟩, ⟨(some 19), .mov (.t 6), (some (16, true))⟩, ⟨(some 20), .bin .add (.t 18) (.t 19), (some (16, true))⟩, ⟨(some 21), .iaddr 1 (.t 17) (.t 20), (some (16, true))⟩, ⟨(some 22), .load none (.t 21), (some (16, true))⟩, ⟨(some 23), .call (.c (.fn (f_ref03_digit N) [] [])) [(.t 22)], (some (16, true))⟩, ⟨(some 24), .pick (.t 16) (.t 23) (.c (.lit (.bool false))), none⟩]) (
     .cond (.t 24) (
      .skip) (
      .exit 0))) (
    .block 1 (
     .seq (
      .ops [⟨(some 25), .mov (.t 0), none⟩, ⟨(some 26), .mov (.t 1), none⟩, ⟨(some 27), .mov (.t 6), none⟩, ⟨(some 28), .bin .add (.t 26) (.t 27), none⟩, ⟨(some 29), .iaddr 1 (.t 25) (.t 28), none⟩, ⟨(some 30), .load none (.t 29), none⟩, ⟨(some 31), .bin .sub (.t 30) (.c (.lit (.int .u8 48))), none⟩, ⟨(some 32), .conv (.toInt .u64) (.t 31), none⟩, ⟨(some 9), .mov (.t 32), none⟩]) (
     .seq (
      .seq (
       .ops [⟨(some 33), .mov (.t 7), none⟩, ⟨(some 34), .bin .gtr (.t 33) (.c (.lit (.int .u64 922337203685477580))), none⟩, ⟨(some 35), .mov (.t 34), none⟩, ⟨(some 36), .mov (.t 7), (some (35, false))⟩, ⟨(some 37), .eq false .pint (.t 36) (.c (.lit (.int .u64 922337203685477580))), (some (35, false))⟩, ⟨(some 38), .mov (.t 37), (some (35, false))⟩, ⟨(some 39), .mov (.t 9), (some (38, true))⟩, ⟨(some 40), .bin .gtr (.t 39) (.c (.lit (.int .u64 7))), (some (38, true))⟩, ⟨(some 41), .pick (.t 38) (.t 40) (.c (.lit (.bool false))), (some (35, false))⟩, ⟨(some 42), .pick (.t 35) (.c (.lit (.bool true))) (.t 41), none⟩]) (
      .cond (.t 42) (
       .ops [⟨(some 8), .mov (.c (.lit (.bool false))), none⟩]) (
       .skip))) (
     .seq (
      .seq (
       .ops [⟨(some 43), .mov (.t 8), none⟩]) (
      .cond (.t 43) (
       .ops [⟨(some 44), .mov (.t 7), none⟩, ⟨(some 45), .bin .mul (.t 44) (.c (.lit (.int .u64 10))), none⟩, ⟨(some 46), .mov (.t 9), none⟩, ⟨(some 47), .bin .add (.t 45) (.t 46), none⟩, ⟨(some 7), .mov (.t 47), none⟩]) (
       .skip))) (
     .ops [⟨(some 48), .mov (.t 6), none⟩, ⟨(some 49), .bin .add (.t 48) (.c (.lit (.int .i64 1))), none⟩, ⟨(some 6), .mov (.t 49), none⟩])))))
def K_ref03_number_1 (N : Nat → Nat) : AC :=
 .seq (
  .dops 11 [⟨(some 50), .mov (.t 6), none⟩, ⟨(some 51), .mov (.t 8), none⟩, ⟨(some 52), .mov (.t 51), none⟩, ⟨(some 53), .mov (.t 6), (some (52, true))⟩, ⟨(some 54), .eq false .pint (.t 53) (.c (.lit (.int .i64 1))), (some (52, true))⟩, ⟨(some 55), .mov (.t 54), (some (52, true))⟩, ⟨(some 56), .mov (.t 0), (some (55, false))⟩, ⟨(some 57), .mov (.t 1), (some (55, false))⟩, ⟨(some 58), .iaddr 1 (.t 56) (.t 57), (some (55, false))⟩, ⟨(some 59), .load none (.t 58), (some (55, false))⟩, ⟨(some 60), .eq true .pint (.t 59) (.c (.lit (.int .u8 48))), (some (55, false))⟩, ⟨(some 61), .pick (.t 55) (.c (.lit (.bool true))) (.t 60), (some (52, true))⟩, ⟨(some 62), .pick (.t 52) (.t 61) (.c (.lit (.bool false))), none⟩, ⟨(some 4), .mov (.t 50), none⟩, ⟨(some 5), .mov (.t 62), none⟩] [0, 0, 0, 0, 0, 0, 0, 0, 0, 0, 0, 0, 0, 0, 0] []) (
 .ret)
/-- azimuth/azimuthref03.number -/
def C_ref03_number (N : Nat → Nat) : AFunc := ⟨63, [.inl 4, .inl 5],
 .seq (
  .ops [⟨(some 4), .mov (.c (.lit (.int .i64 0))), none⟩, ⟨(some 5), .mov (.c (.lit (.bool false))), none⟩]) (
 .seq (
  .ops [⟨(some 6), .mov (.c (.lit (.int .i64 0))), none⟩]) (
 .seq (
  .ops [⟨(some 7), .mov (.c (.lit (.int .u64 0))), none⟩]) (
 .seq (
  .ops [⟨(some 8), .mov (.c (.lit (.bool true))), none⟩]) (
 .seq (
  .block 0 (
   .loop (L_ref03_number_1 N))) (K_ref03_number_1 N))))), false⟩

def L_ref03_one_1 (N : Nat → Nat) : AC :=
       .seq (
        .seq (
         .ops [⟨(some 45), .mov (.t 7), none⟩, ⟨(some 46), .bin .lss (.t 45) (.c (.lit (.int .i64 18))), none⟩]) (
        .cond (.t 46) (
         .skip) (
         .exit 1))) (
       .seq (
        .block 2 (
         .seq (
          .ops [⟨(some 49), .mov (.t 0), none⟩, ⟨(some 50), .mov (.t 1), none⟩, ⟨(some 51), .mov (.t 7), none⟩, ⟨(some 52), .bin .add (.t 50) (.t 51), none⟩, ⟨(some 53), .iaddr 1 (.t 49) (.t 52), none⟩, ⟨(some 54), .load none (.t 53), none⟩, ⟨(some 55), .call (.c (.fn (f_ref03_hex N) [] [])) [(.t 54)], none⟩, ⟨(some 56), .un .not (.t 55), none⟩]) (
         .cond (.t 56) (
          .seq (
           .ops [⟨(some 57), .build [(.lit (.int .i64 0)), (.lit (.string (mkS []))), (.lit (.int .i64 0))] [], none⟩, ⟨none, .store 3 (.t 4) (.t 57), none⟩, ⟨(some 5), .mov (.c (.lit (.int .i64 0))), none⟩]) (
          .ret)) (
          .skip)))) (
       .ops [⟨(some 47), .mov (.t 7), none⟩, ⟨(some 48), .bin .add (.t 47) (.c (.lit (.int .i64 1))), none⟩, ⟨(some 7), .mov (.t 48), none⟩]))
def K_ref03_one_1 (N : Nat → Nat) : AC :=
 .seq (
  .ops [⟨(some 58), .mov (.t 0), none⟩, ⟨(some 59), .mov (.t 1), none⟩, ⟨(some 60), .mov (.t 1), none⟩, ⟨(some 61), .bin .add (.t 60) (.c (.lit (.int .i64 18))), none⟩, ⟨(some 62), .slice 1 (.t 58) (some (.t 59)) (some (.t 61)), none⟩, ⟨(some 63), .conv .str (.t 62), none⟩, ⟨(some 64), .build [(.lit (.int .i64 0)), (.lit (.string (mkS []))), (.lit (.int .i64 0))] [(0, 1, (.c (.lit (.int .i64 5)))), (1, 1, (.t 63))], none⟩, ⟨none, .store 3 (.t 4) (.t 64), none⟩, ⟨(some 5), .mov (.c (.lit (.int .i64 18))), none⟩]) (
 .ret)
def L_ref03_one_2 (N : Nat → Nat) : AC :=
         .seq (
          .seq (
           .ops [⟨(some 89), .mov (.t 1), none⟩, ⟨(some 90), .mov (.t 10), none⟩, ⟨(some 91), .bin .add (.t 89) (.t 90), none⟩, ⟨(some 92), .mov (.t 0), none⟩, ⟨(some 93), .len (.t 92), none⟩, ⟨(some 94), .bin .lss (.t 91) (.t 93), none⟩, ⟨(some 95), .mov (.t 94), none⟩, ⟨(some 96), .mov (.t 0), (some (95, true))⟩, ⟨(some 97), .mov (.t 1), (some (95, true))⟩, ⟨(some 98), .mov (.t 10), (some (95, true))⟩, ⟨(some 99), .bin .add (.t 97) (.t 98), (some (95, true))⟩, ⟨(some 100), .iaddr 1 (.t 96) (.t 99), (some (95, true))⟩, ⟨(some 101), .load none (.t 100), (some (95, true))⟩, ⟨(some 102), .call (.c (.fn (f_ref03_high N) [] [])) [(.t 101)], (some (95, true))⟩, ⟨(some 103), .mov (.t 102), (some (95, true))⟩, ⟨(some 104), .mov (.t 0), (some (103, false))⟩, ⟨(some 105), .mov (.t 1), (some (103, false))⟩, ⟨(some 106), .mov (.t 10), (some (103, false))⟩, ⟨(some 107), .bin .add (.t 105) (.t 106), (some (103, false))⟩, ⟨(some 108), .iaddr 1 (.t 104) (.t 107), (some (103, false))⟩, ⟨(some 109), .load none (.t 108), (some (103, false))⟩, ⟨(some 110), .call (.c (.fn (f_ref03_digit N) [] [])) [(.t 109)], (some (103, false))⟩, ⟨(some 111), .pick (.t 103) (.c (.lit (.bool true))) (.t 110), (some (95, true))⟩, ⟨(some 112), .mov (.t 111), (some (95, true))⟩, ⟨(some 113), .mov (.t 0), (some (112, false))⟩, ⟨(some 114), .mov (.t 1), (some (112, false))⟩, ⟨(some 115), .mov (.t 10), (some (112, false))⟩, ⟨(some 116), .bin .add (.t 114) (.t 115), (some (112, false))⟩, ⟨(some 117), .iaddr 1 (.t 113) (.t 116), (some (112, false))⟩, ⟨(some 118), .load none (.t 117), (some (112, false))⟩, ⟨(some 119), .bin .geq (.t 118) (.c (.lit (.int .u8 97))), (some (112, false))⟩, ⟨(some 120), .mov (.t 119), (some (112, false))⟩, ⟨(some 121), .mov (.t 0), (some (120, true))⟩, ⟨(some 122), .mov (.t 1), (some (120, true))⟩, ⟨(some 123), .mov (.t 10), (some (120, true))⟩, ⟨(some 124), .bin .add (.t 122) (.t 123), (some (120, true))⟩, ⟨(some 125), .iaddr 1 (.t 121) (.t 124), (some (120, true))⟩, ⟨(some 126), .load none (.t 125), (some (120, true))⟩, ⟨(some 127), .bin .leq (.t 126) (.c (.lit (.int .u8 122))), (some (120, true))⟩, ⟨(some 128), .pick (.t 120) (.t 127) (.c (.lit (.bool false))), (some (112, false))⟩, ⟨(some 129), .pick (.t 112) (.c (.lit (.bool true))) (.t 128), (some (95, true))⟩, ⟨(some 130), .pick (.t 95) (.t 129) (.c (.lit (.bool false))), none⟩]) (
          .cond (.t 130) (
           .skip) (
           .exit 3))) (
         .block 4 (
          .ops [⟨(some 131), .mov (.t 10), none⟩, ⟨(some 132), .bin .add (.t 131) (.c (.lit (.int .i64 1))), none⟩, ⟨(some 10), .mov (.t 132), none⟩]))
def K_ref03_one_2 (N : Nat → Nat) : AC :=
 .seq (
  .ops [⟨(some 133), .mov (.t 0), none⟩, ⟨(some 134), .mov (.t 1), none⟩, ⟨(some 135), .mov (.t 1), none⟩, ⟨(some 136), .mov (.t 10), none⟩, ⟨(some 137), .bin .add (.t 135) (.t 136), none⟩, ⟨(some 138), .slice 1 (.t 133) (some (.t 134)) (some (.t 137)), none⟩, ⟨(some 139), .conv .str (.t 138), none⟩, ⟨(some 140), .build [(.lit (.int .i64 0)), (.lit (.string (mkS []))), (.lit (.int .i64 0))] [(0, 1, (.c (.lit (.int .i64 2)))), (1, 1, (.t 139))], none⟩, ⟨(some 141), .mov (.t 10), none⟩, ⟨none, .store 3 (.t 4) (.t 140), none⟩, ⟨(some 5), .mov (.t 141), none⟩]) (
 .ret)
def E_ref03_one_5 (N : Nat → Nat) : AC :=
        .seq (
         .ops [⟨(some 186), .mov (.t 6), none⟩, ⟨(some 187), .eq false .pint (.t 186) (.c (.lit (.int .u8 34))), none⟩, ⟨(some 185), .mov (.t 187), none⟩]) (
        .cond (.t 185) (
         .seq (
          .ops [⟨(some 189), .mov (.t 0), none⟩, ⟨(some 190), .mov (.t 1), none⟩, ⟨(some 191), .call (.c (.fn (f_ref03_str N) [] [])) [(.t 189), (.t 190)], none⟩, ⟨(some 188), .mov (.t 191), none⟩, ⟨(some 192), .extract (.t 188) 0, none⟩, ⟨(some 193), .extract (.t 188) 1, none⟩, ⟨(some 14), .mov (.t 192), none⟩, ⟨(some 15), .mov (.t 193), none⟩]) (
         .seq (
          .seq (
           .ops [⟨(some 194), .mov (.t 15), none⟩, ⟨(some 195), .eq false .pint (.t 194) (.c (.lit (.int .i64 0))), none⟩]) (
          .cond (.t 195) (
           .seq (
            .ops [⟨(some 196), .build [(.lit (.int .i64 0)), (.lit (.string (mkS []))), (.lit (.int .i64 0))] [], none⟩, ⟨none, .store 3 (.t 4) (.t 196), none⟩, ⟨(some 5), .mov (.c (.lit (.int .i64 0))), none⟩]) (
           .ret)) (
           .skip))) (
         .seq (
          .ops [⟨(some 197), .mov (.t 14), none⟩, ⟨(some 198), .build [(.lit (.int .i64 0)), (.lit (.string (mkS []))), (.lit (.int .i64 0))] [(0, 1, (.c (.lit (.int .i64 6)))), (1, 1, (.t 197))], none⟩, ⟨(some 199), .mov (.t 15), none⟩, ⟨none, .store 3 (.t 4) (.t 198), none⟩, ⟨(some 5), .mov (.t 199), none⟩]) (
         .ret)))) (
         .skip))
def E_ref03_one_4 (N : Nat → Nat) : AC :=
       .seq (
        .ops [⟨(some 164), .mov (.t 6), none⟩, ⟨(some 165), .eq false .pint (.t 164) (.c (.lit (.int .u8 35))), none⟩, ⟨(some 163), .mov (.t 165), none⟩]) (
       .cond (.t 163) (
        .seq (
         .ops [⟨(some 166), .mov (.t 0), none⟩, ⟨(some 167), .mov (.t 1), none⟩, ⟨(some 168), .bin .add (.t 167) (.c (.lit (.int .i64 1))), none⟩, ⟨(some 169), .call (.c (.fn (f_ref03_name N) [] [])) [(.t 166), (.t 168)], none⟩, ⟨(some 13), .mov (.t 169), none⟩]) (
        .seq (
         .seq (
          .ops [⟨(some 170), .mov (.t 13), none⟩, ⟨(some 171), .eq false .pint (.t 170) (.c (.lit (.int .i64 0))), none⟩]) (
         .cond (.t 171) (
          .seq (
           .ops [⟨(some 172), .build [(.lit (.int .i64 0)), (.lit (.string (mkS []))), (.lit (.int .i64 0))] [], none⟩, ⟨none, .store 3 (.t 4) (.t 172), none⟩, ⟨(some 5), .mov (.c (.lit (.int .i64 0))), none⟩]) (
          .ret)) (
          .skip))) (
        .seq (
         .ops [⟨(some 173), .mov (.t 0), none⟩, ⟨(some 174), .mov (.t 1), none⟩, ⟨(some 175), .bin .add (.t 174) (.c (.lit (.int .i64 1))), none⟩, ⟨(some 176), .mov (.t 1), none⟩, ⟨(some 177), .bin .add (.t 176) (.c (.lit (.int .i64 1))), none⟩, ⟨(some 178), .mov (.t 13), none⟩, ⟨(some 179), .bin .add (.t 177) (.t 178), none⟩, ⟨(some 180), .slice 1 (.t 173) (some (.t 175)) (some (.t 179)), none⟩, ⟨(some 181), .conv .str (.t 180), none⟩, ⟨(some 182), .build [(.lit (.int .i64 0)), (.lit (.string (mkS []))), (.lit (.int .i64 0))] [(0, 1, (.c (.lit (.int .i64 3)))), (1, 1, (.t 181))], none⟩, ⟨(some 183), .mov (.t 13), none⟩, ⟨(some 184), .bin .add (.t 183) (.c (.lit (.int .i64 1))), none⟩, ⟨none, .store 3 (.t 4) (.t 182), none⟩, ⟨(some 5), .mov (.t 184), none⟩]) (
        .ret)))) (E_ref03_one_5 N))
def E_ref03_one_3 (N : Nat → Nat) : AC :=
      .seq (
       .ops [⟨(some 143), .mov (.t 6), none⟩, ⟨(some 144), .call (.c (.fn (f_ref03_digit N) [] [])) [(.t 143)], none⟩, ⟨(some 142), .mov (.t 144), none⟩]) (
      .cond (.t 142) (
       .seq (
        .ops [⟨(some 146), .mov (.t 0), none⟩, ⟨(some 147), .mov (.t 1), none⟩, ⟨(some 148), .call (.c (.fn (f_ref03_number N) [] [])) [(.t 146), (.t 147)], none⟩, ⟨(some 145), .mov (.t 148), none⟩, ⟨(some 149), .extract (.t 145) 0, none⟩, ⟨(some 150), .extract (.t 145) 1, none⟩, ⟨(some 11), .mov (.t 149), none⟩, ⟨(some 12), .mov (.t 150), none⟩]) (
       .seq (
        .seq (
         .ops [⟨(some 151), .mov (.t 12), none⟩, ⟨(some 152), .un .not (.t 151), none⟩]) (
        .cond (.t 152) (
         .seq (
          .ops [⟨(some 153), .build [(.lit (.int .i64 0)), (.lit (.string (mkS []))), (.lit (.int .i64 0))] [], none⟩, ⟨none, .store 3 (.t 4) (.t 153), none⟩, ⟨(some 5), .mov (.c (.lit (.int .i64 0))), none⟩]) (
         .ret)) (
         .skip))) (
       .seq (
        .ops [⟨(some 154), .mov (.t 0), none⟩, ⟨(some 155), .mov (.t 1), none⟩, ⟨(some 156), .mov (.t 1), none⟩, ⟨(some 157), .mov (.t 11), none⟩, ⟨(some 158), .bin .add (.t 156) (.t 157), none⟩, ⟨(some 159), .slice 1 (.t 154) (some (.t 155)) (some (.t 158)), none⟩, ⟨(some 160), .conv .str (.t 159), none⟩, ⟨(some 161), .build [(.lit (.int .i64 0)), (.lit (.string (mkS []))), (.lit (.int .i64 0))] [(0, 1, (.c (.lit (.int .i64 4)))), (1, 1, (.t 160))], none⟩, ⟨(some 162), .mov (.t 11), none⟩, ⟨none, .store 3 (.t 4) (.t 161), none⟩, ⟨(some 5), .mov (.t 162), none⟩]) (
       .ret)))) (E_ref03_one_4 N))
def E_ref03_one_2 (N : Nat → Nat) : AC :=
     .seq (
      .ops [⟨(some 87), .mov (.t 6), none⟩, ⟨(some 88), .call (.c (.fn (f_ref03_high N) [] [])) [(.t 87)], none⟩, ⟨(some 86), .mov (.t 88), none⟩]) (
     .cond (.t 86) (
      .seq (
       .ops [⟨(some 10), .mov (.c (.lit (.int .i64 1))), none⟩]) (
      .seq (
       .block 3 (
        .loop (L_ref03_one_2 N))) (K_ref03_one_2 N))) (E_ref03_one_3 N))
def E_ref03_one_1 (N : Nat → Nat) : AC :=
    .seq (
     .ops [⟨(some 66), .mov (.t 6), none⟩, ⟨(some 67), .call (.c (.fn (f_ref03_low N) [] [])) [(.t 66)], none⟩, ⟨(some 65), .mov (.t 67), none⟩]) (
    .cond (.t 65) (
     .seq (
      .ops [⟨(some 68), .mov (.t 0), none⟩, ⟨(some 69), .mov (.t 1), none⟩, ⟨(some 70), .call (.c (.fn (f_ref03_name N) [] [])) [(.t 68), (.t 69)], none⟩, ⟨(some 8), .mov (.t 70), none⟩]) (
     .seq (
      .ops [⟨(some 71), .mov (.t 0), none⟩, ⟨(some 72), .mov (.t 1), none⟩, ⟨(some 73), .mov (.t 1), none⟩, ⟨(some 74), .mov (.t 8), none⟩, ⟨(some 75), .bin .add (.t 73) (.t 74), none⟩, ⟨(some 76), .slice 1 (.t 71) (some (.t 72)) (some (.t 75)), none⟩, ⟨(some 77), .conv .str (.t 76), none⟩, ⟨(some 9), .mov (.t 77), none⟩]) (
     .seq (
      .seq (
       .ops [⟨(some 78), .mov (.t 9), none⟩, ⟨(some 79), .call (.c (.fn (f_ref03_IsWord N) [] [])) [(.t 78)], none⟩]) (
      .cond (.t 79) (
       .seq (
        .ops [⟨(some 80), .mov (.t 9), none⟩, ⟨(some 81), .build [(.lit (.int .i64 0)), (.lit (.string (mkS []))), (.lit (.int .i64 0))] [(0, 1, (.c (.lit (.int .i64 7)))), (1, 1, (.t 80))], none⟩, ⟨(some 82), .mov (.t 8), none⟩, ⟨none, .store 3 (.t 4) (.t 81), none⟩, ⟨(some 5), .mov (.t 82), none⟩]) (
       .ret)) (
       .skip))) (
     .seq (
      .ops [⟨(some 83), .mov (.t 9), none⟩, ⟨(some 84), .build [(.lit (.int .i64 0)), (.lit (.string (mkS []))), (.lit (.int .i64 0))] [(0, 1, (.c (.lit (.int .i64 1)))), (1, 1, (.t 83))], none⟩, ⟨(some 85), .mov (.t 8), none⟩, ⟨none, .store 3 (.t 4) (.t 84), none⟩, ⟨(some 5), .mov (.t 85), none⟩]) (
     .ret))))) (E_ref03_one_2 N))
def K_ref03_one_3 (N : Nat → Nat) : AC :=
 .seq (
  .ops [⟨(some 200), .mov (.t 0), none⟩, ⟨(some 201), .mov (.t 1), none⟩, ⟨(some 202), .call (.c (.fn (f_ref03_sign N) [] [])) [(.t 200), (.t 201)], none⟩, ⟨(some 16), .mov (.t 202), none⟩]) (
 .seq (
  .seq (
   .ops [⟨(some 203), .mov (.t 16), none⟩, ⟨(some 204), .eq false .pint (.t 203) (.c (.lit (.int .i64 0))), none⟩]) (
  .cond (.t 204) (
   .seq (
    .ops [⟨(some 205), .build [(.lit (.int .i64 0)), (.lit (.string (mkS []))), (.lit (.int .i64 0))] [], none⟩, ⟨none, .store 3 (.t 4) (.t 205), none⟩, ⟨(some 5), .mov (.c (.lit (.int .i64 0))), none⟩]) (
   .ret)) (
   .skip))) (
 .seq (
  .ops [⟨(some 206), .mov (.t 0), none⟩, ⟨(some 207), .mov (.t 1), none⟩, ⟨(some 208), .mov (.t 1), none⟩, ⟨(some 209), .mov (.t 16), none⟩, ⟨(some 210), .bin .add (.t 208) (.t 209), none⟩, ⟨(some 211), .slice 1 (.t 206) (some (.t 207)) (some (.t 210)), none⟩, ⟨(some 212), .conv .str (.t 211), none⟩, ⟨(some 213), .build [(.lit (.int .i64 0)), (.lit (.string (mkS []))), (.lit (.int .i64 0))] [(0, 1, (.c (.lit (.int .i64 8)))), (1, 1, (.t 212))], none⟩, ⟨(some 214), .mov (.t 16), none⟩, ⟨none, .store 3 (.t 4) (.t 213), none⟩, ⟨(some 5), .mov (.t 214), none⟩]) (
 .ret)))
/-- azimuth/azimuthref03.one -/
def C_ref03_one (N : Nat → Nat) : AFunc := ⟨215, [.inr (4, (some 3)), .inl 5],
 .seq (
  .ops [⟨(some 4), .new (t_api_Token N) (.agg [(.lit (.int .i64 0)), (.lit (.string (mkS []))), (.lit (.int .i64 0))]), none⟩, ⟨(some 5), .mov (.c (.lit (.int .i64 0))), none⟩]) (
 .seq (
  .ops [⟨(some 17), .mov (.t 0), none⟩, ⟨(some 18), .mov (.t 1), none⟩, ⟨(some 19), .iaddr 1 (.t 17) (.t 18), none⟩, ⟨(some 20), .load none (.t 19), none⟩, ⟨(some 6), .mov (.t 20), none⟩]) (
 .seq (
  .block 0 (
   .seq (
    .ops [⟨(some 22), .mov (.t 6), none⟩, ⟨(some 23), .eq false .pint (.t 22) (.c (.lit (.int .u8 102))), none⟩, ⟨(some 24), .mov (.t 23), none⟩, ⟨(some 25), .mov (.t 1), (some (24, true))⟩, ⟨(some 26), .bin .add (.t 25) (.c (.lit (.int .i64 1))), (some (24, true))⟩, ⟨(some 27), .mov (.t 0), (some (24, true))⟩, ⟨(some 28), .len (.t 27), (some (24, true))⟩, ⟨(some 29), .bin .lss (.t 26) (.t 28), (some (24, true))⟩, ⟨(some 30), .pick (.t 24) (.t 29) (.c (.lit (.bool false))), none⟩, ⟨(some 31), .mov (.t 30), none⟩, ⟨(some 32), .mov (.t 0), (some (31, true))⟩, ⟨(some 33), .mov (.t 1), (some (31, true))⟩, ⟨(some 34), .bin .add (.t 33) (.c (.lit (.int .i64 1))), (some (31, true))⟩, ⟨(some 35), .iaddr 1 (.t 32) (.t 34), (some (31, true))⟩, ⟨(some 36), .load none (.t 35), (some (31, true))⟩, ⟨(some 37), .eq false .pint (.t 36) (.c (.lit (.int .u8 39))), (some (31, true))⟩, ⟨(some 38), .pick (.t 31) (.t 37) (.c (.lit (.bool false))), none⟩, ⟨(some 21), .mov (.t 38), none⟩]) (
   .cond (.t 21) (
    .seq (
     .seq (
      .ops [⟨(some 39), .mov (.t 1), none⟩, ⟨(some 40), .bin .add (.t 39) (.c (.lit (.int .i64 18))), none⟩, ⟨(some 41), .mov (.t 0), none⟩, ⟨(some 42), .len (.t 41), none⟩, ⟨(some 43), .bin .gtr (.t 40) (.t 42), none⟩]) (
     .cond (.t 43) (
      .seq (
       .ops [⟨(some 44), .build [(.lit (.int .i64 0)), (.lit (.string (mkS []))), (.lit (.int .i64 0))] [], none⟩, ⟨none, .store 3 (.t 4) (.t 44), none⟩, ⟨(some 5), .mov (.c (.lit (.int .i64 0))), none⟩]) (
      .ret)) (
      .skip))) (
    .seq (
     .seq (
      .ops [⟨(some 7), .mov (.c (.lit (.int .i64 2))), none⟩]) (
     .block 1 (
      .loop (L_ref03_one_1 N)))) (K_ref03_one_1 N))) (E_ref03_one_1 N)))) (K_ref03_one_3 N))), false⟩

/-- azimuth/azimuthref03.sign -/
def C_ref03_sign (N : Nat → Nat) : AFunc := ⟨49, [.inl 4],
 .seq (
  .ops [⟨(some 4), .mov (.c (.lit (.int .i64 0))), none⟩]) (
 .seq (
  .seq (
   .ops [⟨(some 5), .mov (.t 1), none⟩, ⟨(some 6), .bin .add (.t 5) (.c (.lit (.int .i64 2))), none⟩, ⟨(some 7), .mov (.t 0), none⟩, ⟨(some 8), .len (.t 7), none⟩, ⟨(some 9), .bin .leq (.t 6) (.t 8), none⟩]) (
  .cond (.t 9) (
   .seq (
    .ops [⟨(some 10), .mov (.t 0), none⟩, ⟨(some 11), .mov (.t 1), none⟩, ⟨(some 12), .mov (.t 1), none⟩, ⟨(some 13), .bin .add (.t 12) (.c (.lit (.int .i64 2))), none⟩, ⟨(some 14), .slice 1 (.t 10) (some (.t 11)) (some (.t 13)), none⟩, ⟨(some 15), .conv .str (.t 14), none⟩]) (
   .block 0 (
    .seq (
     .seq (
      .ops [⟨(some 17), .eq false .pstr (.t 15) (.c (.lit (.string (mkS [61, 62])))), none⟩, ⟨(some 16), .mov (.t 17), none⟩]) (
     .cond (.t 16) (
      .skip) (
      .seq (
       .ops [⟨(some 18), .eq false .pstr (.t 15) (.c (.lit (.string (mkS [45, 62])))), none⟩, ⟨(some 16), .mov (.t 18), none⟩]) (
      .cond (.t 16) (
       .skip) (
       .seq (
        .ops [⟨(some 19), .eq false .pstr (.t 15) (.c (.lit (.string (mkS [61, 61])))), none⟩, ⟨(some 16), .mov (.t 19), none⟩]) (
       .cond (.t 16) (
        .skip) (
        .seq (
         .ops [⟨(some 20), .eq false .pstr (.t 15) (.c (.lit (.string (mkS [46, 46])))), none⟩, ⟨(some 16), .mov (.t 20), none⟩]) (
        .cond (.t 16) (
         .skip) (
         .seq (
          .ops [⟨(some 21), .eq false .pstr (.t 15) (.c (.lit (.string (mkS [43, 46])))), none⟩, ⟨(some 16), .mov (.t 21), none⟩]) (
         .cond (.t 16) (
          .skip) (
          .seq (
           .ops [⟨(some 22), .eq false .pstr (.t 15) (.c (.lit (.string (mkS [45, 46])))), none⟩, ⟨(some 16), .mov (.t 22), none⟩]) (
          .cond (.t 16) (
           .skip) (
           .seq (
            .ops [⟨(some 23), .eq false .pstr (.t 15) (.c (.lit (.string (mkS [42, 46])))), none⟩, ⟨(some 16), .mov (.t 23), none⟩]) (
           .cond (.t 16) (
            .skip) (
            .seq (
             .ops [⟨(some 24), .eq false .pstr (.t 15) (.c (.lit (.string (mkS [47, 46])))), none⟩, ⟨(some 16), .mov (.t 24), none⟩]) (
            .cond (.t 16) (
             .skip) (
             .ops [⟨(some 25), .eq false .pstr (.t 15) (.c (.lit (.string (mkS [60, 46])))), none⟩, ⟨(some 16), .mov (.t 25), none⟩]))))))))))))))))) (
    .cond (.t 16) (
     .seq (
      .ops [⟨(some 4), .mov (.c (.lit (.int .i64 2))), none⟩]) (
     .ret)) (
     .skip))))) (
   .skip))) (
 .seq (
  .seq (
   .ops [⟨(some 26), .mov (.t 0), none⟩, ⟨(some 27), .mov (.t 1), none⟩, ⟨(some 28), .iaddr 1 (.t 26) (.t 27), none⟩, ⟨(some 29), .load none (.t 28), none⟩]) (
  .block 1 (
   .seq (
    .seq (
     .ops [⟨(some 31), .eq false .pint (.t 29) (.c (.lit (.int .u8 40))), none⟩, ⟨(some 30), .mov (.t 31), none⟩]) (
    .cond (.t 30) (
     .skip) (
     .seq (
      .ops [⟨(some 32), .eq false .pint (.t 29) (.c (.lit (.int .u8 41))), none⟩, ⟨(some 30), .mov (.t 32), none⟩]) (
     .cond (.t 30) (
      .skip) (
      .seq (
       .ops [⟨(some 33), .eq false .pint (.t 29) (.c (.lit (.int .u8 123))), none⟩, ⟨(some 30), .mov (.t 33), none⟩]) (
      .cond (.t 30) (
       .skip) (
       .seq (
        .ops [⟨(some 34), .eq false .pint (.t 29) (.c (.lit (.int .u8 125))), none⟩, ⟨(some 30), .mov (.t 34), none⟩]) (
       .cond (.t 30) (
        .skip) (
        .seq (
         .ops [⟨(some 35), .eq false .pint (.t 29) (.c (.lit (.int .u8 91))), none⟩, ⟨(some 30), .mov (.t 35), none⟩]) (
        .cond (.t 30) (
         .skip) (
         .seq (
          .ops [⟨(some 36), .eq false .pint (.t 29) (.c (.lit (.int .u8 93))), none⟩, ⟨(some 30), .mov (.t 36), none⟩]) (
         .cond (.t 30) (
          .skip) (
          .seq (
           .ops [⟨(some 37), .eq false .pint (.t 29) (.c (.lit (.int .u8 44))), none⟩, ⟨(some 30), .mov (.t 37), none⟩]) (
          .cond (.t 30) (
           .skip) (
           .seq (
            .ops [⟨(some 38), .eq false .pint (.t 29) (.c (.lit (.int .u8 59))), none⟩, ⟨(some 30), .mov (.t 38), none⟩]) (
           .cond (.t 30) (
            .skip) (
            .seq (
             .ops [⟨(some 39), .eq false .pint (.t 29) (.c (.lit (.int .u8 58))), none⟩, ⟨(some 30), .mov (.t 39), none⟩]) (
            .cond (.t 30) (
             .skip) (
             .seq (
              .ops [⟨(some 40), .eq false .pint (.t 29) (.c (.lit (.int .u8 46))), none⟩, ⟨(some 30), .mov (.t 40), none⟩]) (
             .cond (.t 30) (
              .skip) (
              .seq (
               .ops [⟨(some 41), .eq false .pint (.t 29) (.c (.lit (.int .u8 61))), none⟩, ⟨(some 30), .mov (.t 41), none⟩]) (
              .cond (.t 30) (
               .skip) (
               .seq (
                .ops [⟨(some 42), .eq false .pint (.t 29) (.c (.lit (.int .u8 124))), none⟩, ⟨(some 30), .mov (.t 42), none⟩]) (
               .cond (.t 30) (
                .skip) (
                .seq (
                 .ops [⟨(some 43), .eq false .pint (.t 29) (.c (.lit (.int .u8 43))), none⟩, ⟨(some 30), .mov (.t 43), none⟩]) (
                .cond (.t 30) (
                 .skip) (
                 .seq (
                  .ops [⟨(some 44), .eq false .pint (.t 29) (.c (.lit (.int .u8 45))), none⟩, ⟨(some 30), .mov (.t 44), none⟩]) (
                 .cond (.t 30) (
                  .skip) (
                  .seq (
                   .ops [⟨(some 45), .eq false .pint (.t 29) (.c (.lit (.int .u8 42))), none⟩, ⟨(some 30), .mov (.t 45), none⟩]) (
                  .cond (.t 30) (
                   .skip) (
                   .seq (
                    .ops [⟨(some 46), .eq false .pint (.t 29) (.c (.lit (.int .u8 47))), none⟩, ⟨(some 30), .mov (.t 46), none⟩]) (
                   .cond (.t 30) (
                    .skip) (
                    .seq (
                     .ops [⟨(some 47), .eq false .pint (.t 29) (.c (.lit (.int .u8 60))), none⟩, ⟨(some 30), .mov (.t 47), none⟩]) (
                    .cond (.t 30) (
                     .skip) (
                     .ops [⟨(some 48), .eq false .pint (.t 29) (.c (.lit (.int .u8 94))), none⟩, ⟨(some 30), .mov (.t 48), none⟩]))))))))))))))))))))))))))))))))))) (
   .cond (.t 30) (
    .seq (
     .ops [⟨(some 4), .mov (.c (.lit (.int .i64 1))), none⟩]) (
    .ret)) (
    .skip))))) (
 .seq (
  .ops [⟨(some 4), .mov (.c (.lit (.int .i64 0))), none⟩]) (
 .ret)))), false⟩

def L_ref03_str_1 (N : Nat → Nat) : AC :=
    .seq (
     .seq (
      .ops [⟨(some 10), .mov (.t 7), none⟩, ⟨(some 11), .mov (.t 0), none⟩, ⟨(some 12), .len (.t 11), none⟩, ⟨(some 13), .bin .lss (.t 10) (.t 12), none⟩]) (
     .cond (.t 13) (
      .skip) (
      .exit 0))) (
    .block 1 (
     .block 2 (
      .seq (
       .ops [⟨(some 25), .mov (.t 0), none⟩, ⟨(some 26), .mov (.t 7), none⟩, ⟨(some 27), .iaddr 1 (.t 25) (.t 26), none⟩, ⟨(some 28), .load none (.t 27), none⟩, ⟨(some 29), .eq false .pint (.t 28) (.c (.lit (.int .u8 34))), none⟩, ⟨(some 24), .mov (.t 29), none⟩]) (
      .cond (.t 24) (
       .seq (
        .ops [⟨(some 30), .mov (.t 6), none⟩, ⟨(some 31), .mov (.t 7), none⟩, ⟨(some 32), .bin .add (.t 31) (.c (.lit (.int .i64 1))), none⟩, ⟨(some 33), .mov (.t 1), none⟩, ⟨(some 34), .bin .sub (.t 32) (.t 33), none⟩, ⟨(some 4), .mov (.t 30), none⟩, ⟨(some 5), .mov (.t 34), none⟩]) (
       .ret)) (
       .seq (
        .ops [⟨(some 36), .mov (.t 0), none⟩, ⟨(some 37), .mov (.t 7), none⟩, ⟨(some 38), .iaddr 1 (.t 36) (.t 37), none⟩, ⟨(some 39), .load none (.t 38), none⟩, ⟨(some 40), .bin .lss (.t 39) (.c (.lit (.int .u8 32))), none⟩, ⟨(some 35), .mov (.t 40), none⟩]) (
       .cond (.t 35) (
        .seq (
         .ops [⟨(some 4), .mov (.c (.lit (.string (mkS [])))), none⟩, ⟨(some 5), .mov (.c (.lit (.int .i64 0))), none⟩]) (
        .ret)) (
        .seq (
         .ops [⟨(some 42), .mov (.t 0), none⟩, ⟨(some 43), .mov (.t 7), none⟩, ⟨(some 44), .iaddr 1 (.t 42) (.t 43), none⟩, ⟨(some 45), .load none (.t 44), none⟩, ⟨(some 46), .eq false .pint (.t 45) (.c (.lit (.int .u8 92))), none⟩, ⟨(some 41), .mov (.t 46), none⟩]) (
        .cond (.t 41) (
         .seq (
          .seq (
           .ops [⟨(some 47), .mov (.t 7), none⟩, ⟨(some 48), .bin .add (.t 47) (.c (.lit (.int .i64 1))), none⟩, ⟨(some 49), .mov (.t 0), none⟩, ⟨(some 50), .len (.t 49), none⟩, ⟨(some 51), .bin .geq (.t 48) (.t 50), none⟩]) (
          .cond (.t 51) (
           .seq (
            .ops [⟨(some 4), .mov (.c (.lit (.string (mkS [])))), none⟩, ⟨(some 5), .mov (.c (.lit (.int .i64 0))), none⟩]) (
           .ret)) (
           .skip))) (
         .seq (
          .seq (
           .ops [⟨(some 52), .mov (.t 0), none⟩, ⟨(some 53), .mov (.t 7), none⟩, ⟨(some 54), .bin .add (.t 53) (.c (.lit (.int .i64 1))), none⟩, ⟨(some 55), .iaddr 1 (.t 52) (.t 54), none⟩, ⟨(some 56), .load none (.t 55), none⟩]) (
          .block 3 (
           .seq (
            .ops [⟨(some 58), .eq false .pint (.t 56) (.c (.lit (.int .u8 34))), none⟩, ⟨(some 57), .mov (.t 58), none⟩]) (
           .cond (.t 57) (
            .ops [⟨(some 59), .mov (.t 6), none⟩, ⟨(some 60), .bslice (t_uint8 N) 1 none 1 [(.lit (.int .u8 0))] [(0, 1, (.c (.lit (.int .u8 34))))], none⟩, ⟨(some 61), .conv .str (.t 60), none⟩, ⟨(some 62), .bin .add (.t 59) (.t 61), none⟩, ⟨(some 6), .mov (.t 62), none⟩]) (
            .seq (
             .ops [⟨(some 64), .eq false .pint (.t 56) (.c (.lit (.int .u8 92))), none⟩, ⟨(some 63), .mov (.t 64), none⟩]) (
            .cond (.t 63) (
             .ops [⟨(some 65), .mov (.t 6), none⟩, ⟨(some 66), .bslice (t_uint8 N) 1 none 1 [(.lit (.int .u8 0))] [(0, 1, (.c (.lit (.int .u8 92))))], none⟩, ⟨(some 67), .conv .str (.t 66), none⟩, ⟨(some 68), .bin .add (.t 65) (.t 67), none⟩, ⟨(some 6), .mov (.t 68), none⟩]) (
             .seq (
              .ops [⟨(some 70), .eq false .pint (.t 56) (.c (.lit (.int .u8 110))), none⟩, ⟨(some 69), .mov (.t 70), none⟩]) (
             .cond (.t 69) (
              .ops [⟨(some 71), .mov (.t 6), none⟩, ⟨(some 72), .bslice (t_uint8 N) 1 none 1 [(.lit (.int .u8 0))] [(0, 1, (.c (.lit (.int .u8 10))))], none⟩, ⟨(some 73), .conv .str (.t 72), none⟩, ⟨(some 74), .bin .add (.t 71) (.t 73), none⟩, ⟨(some 6), .mov (.t 74), none⟩]) (
              .seq (
               .ops [⟨(some 4), .mov (.c (.lit (.string (mkS [])))), none⟩, ⟨(some 5), .mov (.c (.lit (.int .i64 0))), none⟩]) (
              .ret)))))))))) (
         .ops [⟨(some 75), .mov (.t 7), none⟩, ⟨(some 76), .bin .add (.t 75) (.c (.lit (.int .i64 2))), none⟩, ⟨(some 7), .mov (.t 76), none⟩]))) (
         .seq (
          .ops [⟨(some 14), .mov (.t 6), none⟩, ⟨(some 15), .mov (.t 0), none⟩, ⟨(some 16), .mov (.t 7), none⟩, ⟨(some 17), .mov (.t 7), none⟩, ⟨(some 18), .bin .add (.t 17) (.c (.lit (.int .i64 1))), none⟩, ⟨(some 19), .slice 1 (.t 15) (some (.t 16)) (some (.t 18)), none⟩, ⟨(some 20), .conv .str (.t 19), none⟩, ⟨(some 21), .bin .add (.t 14) (.t 20), none⟩, ⟨(some 6), .mov (.t 21), none⟩]) (
         .ops [⟨(some 22), .mov (.t 7), none⟩, ⟨(some 23), .bin .add (.t 22) (.c (.lit (.int .i64 1))), none⟩, ⟨(some 7), .mov (.t 23), none⟩]))))))))))
def K_ref03_str_1 (N : Nat → Nat) : AC :=
 .seq (
  .ops [⟨(some 4), .mov (.c (.lit (.string (mkS [])))), none⟩, ⟨(some 5), .mov (.c (.lit (.int .i64 0))), none⟩]) (
 .ret)
/-- azimuth/azimuthref03.str -/
def C_ref03_str (N : Nat → Nat) : AFunc := ⟨77, [.inl 4, .inl 5],
 .seq (
  .ops [⟨(some 4), .mov (.c (.lit (.string (mkS [])))), none⟩, ⟨(some 5), .mov (.c (.lit (.int .i64 0))), none⟩]) (
 .seq (
  .ops [⟨(some 6), .mov (.c (.lit (.string (mkS [])))), none⟩]) (
 .seq (
  .ops [⟨(some 8), .mov (.t 1), none⟩, ⟨(some 9), .bin .add (.t 8) (.c (.lit (.int .i64 1))), none⟩, ⟨(some 7), .mov (.t 9), none⟩]) (
 .seq (
  .block 0 (
   .loop (L_ref03_str_1 N))) (K_ref03_str_1 N)))), false⟩
end Go.Proofs.Eng
/- Templates of functions, as the engine takes them; numbers of functions and types by names. Printed by tm.py. -/
set_option linter.unusedVariables false
set_option maxRecDepth 100000
namespace Go.Proofs.Eng
open Go

/-- azimuth/floats.Of -/
def C_floats_Of (N : Nat → Nat) : AFunc := ⟨10, [.inl 2],
 .seq (
  .ops [⟨(some 2), .mov (.c (.lit (.int .u64 0))), none⟩]) (
 .seq (
  .seq (
   .ops [⟨(some 4), .mov (.t 0), none⟩, ⟨(some 5), .call (.c (.fn (f_math_Float64frombits N) [] [])) [(.t 4)], none⟩, ⟨(some 3), .mov (.t 5), none⟩]) (
  .seq (
   .ops [⟨(some 6), .mov (.t 3), none⟩, ⟨(some 7), .mov (.t 3), none⟩, ⟨(some 8), .eq true .pfloat (.t 6) (.t 7), none⟩]) (
  .cond (.t 8) (
   .seq (
    .ops [⟨(some 2), .mov (.c (.lit (.int .u64 9221120237041090561))), none⟩]) (
   .ret)) (
   .skip)))) (
 .seq (
  .ops [⟨(some 9), .mov (.t 0), none⟩, ⟨(some 2), .mov (.t 9), none⟩]) (
 .ret))), false⟩

def L_floats_Parse_1 (N : Nat → Nat) : AC :=
    .seq (
     .ops [⟨(some 23), .bin .lss (.t 22) (.t 21), none⟩]) (
    .seq (
     .cond (.t 23) (
      .skip) (
      .exit 0)) (
    .seq (
     .block 1 (
      .seq (
       .ops [⟨(some 24), .mov (.t 22), none⟩, ⟨(some 6), .mov (.t 24), none⟩]) (
      .seq (
       .ops [⟨(some 25), .mov (.t 0), none⟩, ⟨(some 26), .mov (.t 6), none⟩, ⟨(some 27), .sidx (.t 25) (.t 26), none⟩, ⟨(some 28), .call (.c (.fn (f_strings_IndexByte N) [] [])) [(.c (.lit (.string (mkS [48, 49, 50, 51, 52, 53, 54, 55, 56, 57, 97, 98, 99, 100, 101, 102])))), (.t 27)], none⟩, ⟨(some 7), .mov (.t 28), none⟩]) (
      .seq (
       .seq (
        .ops [⟨(some 29), .mov (.t 7), none⟩, ⟨(some 30), .bin .lss (.t 29) (.c (.lit (.int .i64 0))), none⟩]) (
       .cond (.t 30) (
        .seq (
         .ops [⟨(some 2), .mov (.c (.lit (.int .u64 0))), none⟩, ⟨(some 3), .mov (.c (.lit (.int .i64 14))), none⟩]) (
        .ret)) (
        .skip))) (
      .ops [⟨(some 31), .mov (.t 5), none⟩, ⟨(some 32), .bin .shl (.t 31) (.c (.lit (.int .u64 4))), none⟩, ⟨(some 33), .mov (.t 7), none⟩, ⟨(some 34), .conv (.toInt .u64) (.t 33), none⟩, ⟨(some 35), .bin .or (.t 32) (.t 34), none⟩, ⟨(some 5), .mov (.t 35), none⟩]))))) (
    .ops [⟨(some 36), .bin .add (.t 22) (.c (.lit (.int .i64 1))), none⟩, ⟨(some 22), .mov (.t 36), none⟩])))
def K_floats_Parse_1 (N : Nat → Nat) : AC :=
 .seq (
  .ops [⟨(some 37), .mov (.t 5), none⟩, ⟨(some 38), .call (.c (.fn (f_floats_Of N) [] [])) [(.t 37)], none⟩, ⟨(some 2), .mov (.t 38), none⟩, ⟨(some 3), .mov (.c (.lit (.int .i64 0))), none⟩]) (
 .ret)
/-- azimuth/floats.Parse -/
def C_floats_Parse (N : Nat → Nat) : AFunc := ⟨39, [.inl 2, .inl 3],
 .seq (
  .ops [⟨(some 2), .mov (.c (.lit (.int .u64 0))), none⟩, ⟨(some 3), .mov (.c (.lit (.int .i64 0))), none⟩]) (
 .seq (
  .ops [⟨(some 9), .mov (.t 0), none⟩, ⟨(some 10), .call (.c (.fn (f_strings_CutPrefix N) [] [])) [(.t 9), (.c (.lit (.string (mkS [102, 39]))))], none⟩, ⟨(some 8), .mov (.t 10), none⟩, ⟨(some 11), .extract (.t 8) 0, none⟩, ⟨(some 12), .extract (.t 8) 1, none⟩, ⟨(some 0), .mov (.t 11), none⟩, ⟨(some 4), .mov (.t 12), none⟩]) (
 .seq (
  .seq (
   .ops [⟨(some 13), .mov (.t 4), none⟩, ⟨(some 14), .un .not (.t 13), none⟩, ⟨(some 15), .mov (.t 14), none⟩, ⟨(some 16), .mov (.t 0), (some (15, false))⟩, ⟨(some 17), .lens (.t 16), (some (15, false))⟩, ⟨(some 18), .eq true .pint (.t 17) (.c (.lit (.int .i64 16))), (some (15, false))⟩, ⟨(some 19), .pick (.t 15) (.c (.lit (.bool true))) (.t 18), none⟩]) (
  .cond (.t 19) (
   .seq (
    .ops [⟨(some 2), .mov (.c (.lit (.int .u64 0))), none⟩, ⟨(some 3), .mov (.c (.lit (.int .i64 14))), none⟩]) (
   .ret)) (
   .skip))) (
 .seq (
  .ops [⟨(some 5), .mov (.c (.lit (.int .u64 0))), none⟩]) (
 .seq (
  .seq (
   .ops [⟨(some 20), .mov (.t 0), none⟩, ⟨(some 21), .lens (.t 20), none⟩, ⟨(some 22), .mov (.c (.lit (.int .i64 0))), none⟩]) (
  .block 0 (
   .loop (L_floats_Parse_1 N)))) (K_floats_Parse_1 N))))), false⟩

/-- azimuth/lexer.IsName -/
def C_lexer_IsName (N : Nat → Nat) : AFunc := ⟨22, [.inl 2],
 .seq (
  .ops [⟨(some 2), .mov (.c (.lit (.bool false))), none⟩]) (
 .seq (
  .ops [⟨(some 3), .mov (.t 0), none⟩, ⟨(some 4), .eq true .pstr (.t 3) (.c (.lit (.string (mkS [])))), none⟩, ⟨(some 5), .mov (.t 4), none⟩, ⟨(some 6), .mov (.t 0), (some (5, true))⟩, ⟨(some 7), .sidx (.t 6) (.c (.lit (.int .i64 0))), (some (5, true))⟩, ⟨(some 8), .call (.c (.fn (f_lexer_low N) [] [])) [(.t 7)], (some (5, true))⟩, ⟨(some 9), .pick (.t 5) (.t 8) (.c (.lit (.bool false))), none⟩, ⟨(some 10), .mov (.t 9), none⟩, ⟨(some 11), .mov (.t 0), (some (10, true))⟩, ⟨(some 12), .call (.c (.fn (f_lexer_run N) [] [])) [(.t 11), (.c (.fn (f_lexer_inName N) [] []))], (some (10, true))⟩, ⟨(some 13), .mov (.t 0), (some (10, true))⟩, ⟨(some 14), .lens (.t 13), (some (10, true))⟩, ⟨(some 15), .eq false .pint (.t 12) (.t 14), (some (10, true))⟩, ⟨(some 16), .pick (.t 10) (.t 15) (.c (.lit (.bool false))), none⟩, ⟨(some 17), .mov (.t 16), none⟩, ⟨(some 18), .mov (.t 0), (some (17, true))⟩, ⟨(some 19), .call (.c (.fn (f_lexer_IsWord N) [] [])) [(.t 18)], (some (17, true))⟩, ⟨(some 20), .un .not (.t 19), (some (17, true))⟩, ⟨(some 21), .pick (.t 17) (.t 20) (.c (.lit (.bool false))), none⟩, ⟨(some 2), .mov (.t 21), none⟩]) (
 .ret)), false⟩

/-- azimuth/lexer.IsWord -/
def C_lexer_IsWord (N : Nat → Nat) : AFunc := ⟨6, [.inl 2],
 .seq (
  .ops [⟨(some 2), .mov (.c (.lit (.bool false))), none⟩]) (
 .seq (
  .ops [⟨(some 3), .call (.c (.fn (f_lexer_words N) [] [])) [], none⟩, ⟨(some 4), .mov (.t 0), none⟩, ⟨(some 5), .call (.c (.fn (f_slices_Contains_sl_string_string N) [] [])) [(.t 3), (.t 4)], none⟩, ⟨(some 2), .mov (.t 5), none⟩]) (
 .ret)), false⟩

def L_lexer_Lex_1 (N : Nat → Nat) : AC :=
    .seq (
     .seq (
      .ops [⟨(some 24), .mov (.t 7), none⟩, ⟨(some 25), .mov (.t 6), none⟩, ⟨(some 26), .lens (.t 25), none⟩, ⟨(some 27), .bin .lss (.t 24) (.t 26), none⟩]) (
     .cond (.t 27) (
      .skip) (
      .exit 0))) (
    .block 1 (
     .seq (
      .ops [⟨(some 29), .mov (.t 6), none⟩, ⟨(some 30), .mov (.t 7), none⟩, ⟨(some 31), .slstr (.t 29) (some (.t 30)) none, none⟩, ⟨(some 32), .call (.c (.fn (f_lexer_one N) [] [])) [(.t 31)], none⟩, ⟨(some 28), .mov (.t 32), none⟩, ⟨(some 33), .extract (.t 28) 0, none⟩, ⟨(some 34), .extract (.t 28) 1, none⟩, ⟨(some 8), .new (t_api_Token N) (.agg [(.lit (.int .i64 0)), (.lit (.string (mkS []))), (.lit (.int .i64 0))]), none⟩, ⟨none, .store 3 (.t 8) (.t 33), none⟩, ⟨(some 9), .mov (.t 34), none⟩]) (
     .seq (
      .seq (
       .ops [⟨(some 35), .mov (.t 9), none⟩, ⟨(some 36), .eq false .pint (.t 35) (.c (.lit (.int .i64 0))), none⟩]) (
      .cond (.t 36) (
       .seq (
        .ops [⟨(some 37), .mov (.t 7), none⟩, ⟨(some 38), .build [(.lit (.int .i64 0)), (.lit (.int .i64 0)), (.lit (.string (mkS [])))] [(0, 1, (.c (.lit (.int .i64 3)))), (1, 1, (.t 37))], none⟩, ⟨(some 2), .mov (.c (.lit (.slice none 0 0))), none⟩, ⟨none, .store 3 (.t 3) (.t 38), none⟩]) (
       .ret)) (
       .skip))) (
     .seq (
      .ops [⟨(some 39), .mov (.t 7), none⟩, ⟨(some 40), .faddr 2 (.t 8), none⟩, ⟨none, .store 1 (.t 40) (.t 39), none⟩]) (
     .seq (
      .ops [⟨(some 41), .mov (.t 5), none⟩, ⟨(some 42), .load (some 3) (.t 8), none⟩, ⟨(some 43), .bslice (t_api_Token N) 3 (some 3) 1 [(.lit (.int .i64 0)), (.lit (.string (mkS []))), (.lit (.int .i64 0))] [(0, 3, (.t 42))], none⟩, ⟨(some 44), .append (t_api_Token N) 3 32 (.t 41) (.t 43), none⟩, ⟨(some 5), .mov (.t 44), none⟩]) (
     .seq (
      .ops [⟨(some 45), .mov (.t 7), none⟩, ⟨(some 46), .mov (.t 9), none⟩, ⟨(some 47), .bin .add (.t 45) (.t 46), none⟩, ⟨(some 7), .mov (.t 47), none⟩]) (
     .ops [⟨(some 48), .mov (.t 7), none⟩, ⟨(some 49), .mov (.t 6), none⟩, ⟨(some 50), .mov (.t 7), none⟩, ⟨(some 51), .slstr (.t 49) (some (.t 50)) none, none⟩, ⟨(some 52), .call (.c (.fn (f_lexer_blank N) [] [])) [(.t 51)], none⟩, ⟨(some 53), .bin .add (.t 48) (.t 52), none⟩, ⟨(some 7), .mov (.t 53), none⟩])))))))
def K_lexer_Lex_1 (N : Nat → Nat) : AC :=
 .seq (
  .ops [⟨(some 54), .mov (.t 5), none⟩, ⟨(some 55), .mov (.t 6), none⟩, ⟨(some 56), .lens (.t 55), none⟩, ⟨(some 57), .build [(.lit (.int .i64 0)), (.lit (.string (mkS []))), (.lit (.int .i64 0))] [(0, 1, (.c (.lit (.int .i64 0)))), (2, 1, (.t 56))], none⟩, ⟨(some 58), .bslice (t_api_Token N) 3 (some 3) 1 [(.lit (.int .i64 0)), (.lit (.string (mkS []))), (.lit (.int .i64 0))] [(0, 3, (.t 57))], none⟩, ⟨(some 59), .append (t_api_Token N) 3 32 (.t 54) (.t 58), none⟩, ⟨(some 60), .build [(.lit (.int .i64 0)), (.lit (.int .i64 0)), (.lit (.string (mkS [])))] [], none⟩, ⟨(some 2), .mov (.t 59), none⟩, ⟨none, .store 3 (.t 3) (.t 60), none⟩]) (
 .ret)
/-- azimuth/lexer.Lex -/
def C_lexer_Lex (N : Nat → Nat) : AFunc := ⟨61, [.inl 2, .inr (3, (some 3))],
 .seq (
  .ops [⟨(some 2), .mov (.c (.lit (.slice none 0 0))), none⟩, ⟨(some 3), .new (t_api_Diag N) (.agg [(.lit (.int .i64 0)), (.lit (.int .i64 0)), (.lit (.string (mkS [])))]), none⟩]) (
 .seq (
  .seq (
   .ops [⟨(some 10), .mov (.t 0), none⟩, ⟨(some 11), .len (.t 10), none⟩, ⟨(some 12), .bin .gtr (.t 11) (.c (.lit (.int .i64 1048576))), none⟩]) (
  .cond (.t 12) (
   .seq (
    .ops [⟨(some 13), .build [(.lit (.int .i64 0)), (.lit (.int .i64 0)), (.lit (.string (mkS [])))] [(0, 1, (.c (.lit (.int .i64 6))))], none⟩, ⟨(some 2), .mov (.c (.lit (.slice none 0 0))), none⟩, ⟨none, .store 3 (.t 3) (.t 13), none⟩]) (
   .ret)) (
   .skip))) (
 .seq (
  .seq (
   .ops [⟨(some 14), .mov (.t 0), none⟩, ⟨(some 15), .call (.c (.fn (f_runes_Bad N) [] [])) [(.t 14)], none⟩, ⟨(some 4), .mov (.t 15), none⟩]) (
  .seq (
   .ops [⟨(some 16), .mov (.t 4), none⟩, ⟨(some 17), .bin .geq (.t 16) (.c (.lit (.int .i64 0))), none⟩]) (
  .cond (.t 17) (
   .seq (
    .ops [⟨(some 18), .mov (.t 4), none⟩, ⟨(some 19), .build [(.lit (.int .i64 0)), (.lit (.int .i64 0)), (.lit (.string (mkS [])))] [(0, 1, (.c (.lit (.int .i64 2)))), (1, 1, (.t 18))], none⟩, ⟨(some 2), .mov (.c (.lit (.slice none 0 0))), none⟩, ⟨none, .store 3 (.t 3) (.t 19), none⟩]) (
   .ret)) (
   .skip)))) (
 .seq (
  .ops [⟨(some 5), .mov (.c (.lit (.slice none 0 0))), none⟩]) (
 .seq (
  .ops [⟨(some 20), .mov (.t 0), none⟩, ⟨(some 21), .conv .str (.t 20), none⟩, ⟨(some 6), .mov (.t 21), none⟩]) (
 .seq (
  .ops [⟨(some 22), .mov (.t 6), none⟩, ⟨(some 23), .call (.c (.fn (f_lexer_blank N) [] [])) [(.t 22)], none⟩, ⟨(some 7), .mov (.t 23), none⟩]) (
 .seq (
  .block 0 (
   .loop (L_lexer_Lex_1 N))) (K_lexer_Lex_1 N))))))), true⟩

def L_lexer_Quote_1 (N : Nat → Nat) : AC :=
    .seq (
     .ops [⟨(some 9), .bin .lss (.t 8) (.t 7), none⟩]) (
    .seq (
     .cond (.t 9) (
      .skip) (
      .exit 0)) (
    .seq (
     .block 1 (
      .seq (
       .ops [⟨(some 10), .mov (.t 8), none⟩, ⟨(some 4), .mov (.t 10), none⟩]) (
      .seq (
       .ops [⟨(some 11), .mov (.t 0), none⟩, ⟨(some 12), .mov (.t 4), none⟩, ⟨(some 13), .sidx (.t 11) (.t 12), none⟩]) (
      .block 2 (
       .seq (
        .seq (
         .ops [⟨(some 21), .eq false .pint (.t 13) (.c (.lit (.int .u8 34))), none⟩, ⟨(some 20), .mov (.t 21), none⟩]) (
        .cond (.t 20) (
         .skip) (
         .ops [⟨(some 22), .eq false .pint (.t 13) (.c (.lit (.int .u8 92))), none⟩, ⟨(some 20), .mov (.t 22), none⟩]))) (
       .cond (.t 20) (
        .ops [⟨(some 23), .mov (.t 3), none⟩, ⟨(some 24), .mov (.t 0), none⟩, ⟨(some 25), .mov (.t 4), none⟩, ⟨(some 26), .sidx (.t 24) (.t 25), none⟩, ⟨(some 27), .bslice (t_uint8 N) 1 none 2 [(.lit (.int .u8 0))] [(0, 1, (.c (.lit (.int .u8 92)))), (1, 1, (.t 26))], none⟩, ⟨(some 28), .append (t_uint8 N) 1 1 (.t 23) (.t 27), none⟩, ⟨(some 3), .mov (.t 28), none⟩]) (
        .seq (
         .ops [⟨(some 30), .eq false .pint (.t 13) (.c (.lit (.int .u8 10))), none⟩, ⟨(some 29), .mov (.t 30), none⟩]) (
        .cond (.t 29) (
         .ops [⟨(some 31), .mov (.t 3), none⟩, ⟨(some 32), .bslice (t_uint8 N) 1 none 2 [(.lit (.int .u8 0))] [(0, 1, (.c (.lit (.int .u8 92)))), (1, 1, (.c (.lit (.int .u8 110))))], none⟩, ⟨(some 33), .append (t_uint8 N) 1 1 (.t 31) (.t 32), none⟩, ⟨(some 3), .mov (.t 33), none⟩]) (
         .ops [⟨(some 14), .mov (.t 3), none⟩, ⟨(some 15), .mov (.t 0), none⟩, ⟨(some 16), .mov (.t 4), none⟩, ⟨(some 17), .sidx (.t 15) (.t 16), none⟩, ⟨(some 18), .bslice (t_uint8 N) 1 none 1 [(.lit (.int .u8 0))] [(0, 1, (.t 17))], none⟩, ⟨(some 19), .append (t_uint8 N) 1 1 (.t 14) (.t 18), none⟩, ⟨(some 3), .mov (.t 19), none⟩]))))))))) (
    .ops [⟨(some 34), .bin .add (.t 8) (.c (.lit (.int .i64 1))), none⟩, ⟨(some 8), .mov (.t 34), none⟩])))
def K_lexer_Quote_1 (N : Nat → Nat) : AC :=
 .seq (
  .ops [⟨(some 35), .mov (.t 3), none⟩, ⟨(some 36), .bslice (t_uint8 N) 1 none 1 [(.lit (.int .u8 0))] [(0, 1, (.c (.lit (.int .u8 34))))], none⟩, ⟨(some 37), .append (t_uint8 N) 1 1 (.t 35) (.t 36), none⟩, ⟨(some 38), .conv .str (.t 37), none⟩, ⟨(some 2), .mov (.t 38), none⟩]) (
 .ret)
/-- azimuth/lexer.Quote -/
def C_lexer_Quote (N : Nat → Nat) : AFunc := ⟨39, [.inl 2],
 .seq (
  .ops [⟨(some 2), .mov (.c (.lit (.string (mkS [])))), none⟩]) (
 .seq (
  .ops [⟨(some 5), .bslice (t_uint8 N) 1 none 1 [(.lit (.int .u8 0))] [(0, 1, (.c (.lit (.int .u8 34))))], none⟩, ⟨(some 3), .mov (.t 5), none⟩]) (
 .seq (
  .seq (
   .ops [⟨(some 6), .mov (.t 0), none⟩, ⟨(some 7), .lens (.t 6), none⟩, ⟨(some 8), .mov (.c (.lit (.int .i64 0))), none⟩]) (
  .block 0 (
   .loop (L_lexer_Quote_1 N)))) (K_lexer_Quote_1 N))), false⟩

def L_lexer_blank_1 (N : Nat → Nat) : AC :=
    .seq (
     .seq (
      .ops [⟨(some 4), .mov (.t 3), none⟩, ⟨(some 5), .mov (.t 0), none⟩, ⟨(some 6), .lens (.t 5), none⟩, ⟨(some 7), .bin .lss (.t 4) (.t 6), none⟩]) (
     .cond (.t 7) (
      .skip) (
      .exit 0))) (
    .block 1 (
     .block 2 (
      .seq (
       .ops [⟨(some 10), .mov (.t 0), none⟩, ⟨(some 11), .mov (.t 3), none⟩, ⟨(some 12), .sidx (.t 10) (.t 11), none⟩, ⟨(some 13), .call (.c (.fn (f_strings_IndexByte N) [] [])) [(.c (.lit (.string (mkS [32, 9, 10, 13])))), (.t 12)], none⟩, ⟨(some 14), .bin .geq (.t 13) (.c (.lit (.int .i64 0))), none⟩, ⟨(some 9), .mov (.t 14), none⟩]) (
      .cond (.t 9) (
       .ops [⟨(some 15), .mov (.t 3), none⟩, ⟨(some 16), .bin .add (.t 15) (.c (.lit (.int .i64 1))), none⟩, ⟨(some 3), .mov (.t 16), none⟩]) (
       .seq (
        .ops [⟨(some 18), .mov (.t 0), none⟩, ⟨(some 19), .mov (.t 3), none⟩, ⟨(some 20), .slstr (.t 18) (some (.t 19)) none, none⟩, ⟨(some 21), .call (.c (.fn (f_strings_HasPrefix N) [] [])) [(.t 20), (.c (.lit (.string (mkS [47, 47]))))], none⟩, ⟨(some 17), .mov (.t 21), none⟩]) (
       .cond (.t 17) (
        .ops [⟨(some 22), .mov (.t 3), none⟩, ⟨(some 23), .mov (.t 0), none⟩, ⟨(some 24), .mov (.t 3), none⟩, ⟨(some 25), .slstr (.t 23) (some (.t 24)) none, none⟩, ⟨(some 26), .call (.c (.fn (f_lexer_run N) [] [])) [(.t 25), (.c (.fn (f_lexer_blank_1 N) [] []))], none⟩, ⟨(some 27), .bin .add (.t 22) (.t 26), none⟩, ⟨(some 3), .mov (.t 27), none⟩]) (
        .seq (
         .ops [⟨(some 8), .mov (.t 3), none⟩, ⟨(some 2), .mov (.t 8), none⟩]) (
        .ret))))))))
def K_lexer_blank_1 (N : Nat → Nat) : AC :=
 .seq (
  .ops [⟨(some 28), .mov (.t 3), none⟩, ⟨(some 2), .mov (.t 28), none⟩]) (
 .ret)
/-- azimuth/lexer.blank -/
def C_lexer_blank (N : Nat → Nat) : AFunc := ⟨29, [.inl 2],
 .seq (
  .ops [⟨(some 2), .mov (.c (.lit (.int .i64 0))), none⟩]) (
 .seq (
  .ops [⟨(some 3), .mov (.c (.lit (.int .i64 0))), none⟩]) (
 .seq (
  .block 0 (
   .loop (L_lexer_blank_1 N))) (K_lexer_blank_1 N))), false⟩

/-- azimuth/lexer.blank$1 -/
def C_lexer_blank_1 (N : Nat → Nat) : AFunc := ⟨5, [.inl 2],
 .seq (
  .ops [⟨(some 2), .mov (.c (.lit (.bool false))), none⟩]) (
 .seq (
  .ops [⟨(some 3), .mov (.t 0), none⟩, ⟨(some 4), .eq true .pint (.t 3) (.c (.lit (.int .u8 10))), none⟩, ⟨(some 2), .mov (.t 4), none⟩]) (
 .ret)), false⟩

/-- azimuth/lexer.digit -/
def C_lexer_digit (N : Nat → Nat) : AFunc := ⟨9, [.inl 2],
 .seq (
  .ops [⟨(some 2), .mov (.c (.lit (.bool false))), none⟩]) (
 .seq (
  .ops [⟨(some 3), .mov (.t 0), none⟩, ⟨(some 4), .bin .geq (.t 3) (.c (.lit (.int .u8 48))), none⟩, ⟨(some 5), .mov (.t 4), none⟩, ⟨(some 6), .mov (.t 0), (some (5, true))⟩, ⟨(some 7), .bin .leq (.t 6) (.c (.lit (.int .u8 57))), (some (5, true))⟩, ⟨(some 8), .pick (.t 5) (.t 7) (.c (.lit (.bool false))), none⟩, ⟨(some 2), .mov (.t 8), none⟩]) (
 .ret)), false⟩

/-- azimuth/lexer.float -/
def C_lexer_float (N : Nat → Nat) : AFunc := ⟨19, [.inl 2, .inl 3],
 .seq (
  .ops [⟨(some 2), .mov (.c (.lit (.string (mkS [])))), none⟩, ⟨(some 3), .mov (.c (.lit (.bool false))), none⟩]) (
 .seq (
  .seq (
   .ops [⟨(some 6), .mov (.t 0), none⟩, ⟨(some 7), .lens (.t 6), none⟩, ⟨(some 8), .bin .lss (.t 7) (.c (.lit (.int .i64 18))), none⟩]) (
  .cond (.t 8) (
   .seq (
    .ops [⟨(some 2), .mov (.c (.lit (.string (mkS [])))), none⟩, ⟨(some 3), .mov (.c (.lit (.bool false))), none⟩]) (
   .ret)) (
   .skip))) (
 .seq (
  .ops [⟨(some 10), .mov (.t 0), none⟩, ⟨(some 11), .slstr (.t 10) none (some (.c (.lit (.int .i64 18)))), none⟩, ⟨(some 12), .call (.c (.fn (f_floats_Parse N) [] [])) [(.t 11)], none⟩, ⟨(some 9), .mov (.t 12), none⟩, ⟨(some 13), .extract (.t 9) 0, none⟩, ⟨(some 14), .extract (.t 9) 1, none⟩, ⟨(some 4), .mov (.t 13), none⟩, ⟨(some 5), .mov (.t 14), none⟩]) (
 .seq (
  .ops [⟨(some 15), .mov (.t 0), none⟩, ⟨(some 16), .slstr (.t 15) none (some (.c (.lit (.int .i64 18)))), none⟩, ⟨(some 17), .mov (.t 5), none⟩, ⟨(some 18), .eq false .pint (.t 17) (.c (.lit (.int .i64 0))), none⟩, ⟨(some 2), .mov (.t 16), none⟩, ⟨(some 3), .mov (.t 18), none⟩]) (
 .ret)))), false⟩

/-- azimuth/lexer.high -/
def C_lexer_high (N : Nat → Nat) : AFunc := ⟨9, [.inl 2],
 .seq (
  .ops [⟨(some 2), .mov (.c (.lit (.bool false))), none⟩]) (
 .seq (
  .ops [⟨(some 3), .mov (.t 0), none⟩, ⟨(some 4), .bin .geq (.t 3) (.c (.lit (.int .u8 65))), none⟩, ⟨(some 5), .mov (.t 4), none⟩, ⟨(some 6), .mov (.t 0), (some (5, true))⟩, ⟨(some 7), .bin .leq (.t 6) (.c (.lit (.int .u8 90))), (some (5, true))⟩, ⟨(some 8), .pick (.t 5) (.t 7) (.c (.lit (.bool false))), none⟩, ⟨(some 2), .mov (.t 8), none⟩]) (
 .ret)), false⟩

/-- azimuth/lexer.inAlias -/
def C_lexer_inAlias (N : Nat → Nat) : AFunc := ⟨17, [.inl 2],
 .seq (
  .ops [⟨(some 2), .mov (.c (.lit (.bool false))), none⟩]) (
 .seq (
  .ops [⟨(some 3), .mov (.t 0), none⟩, ⟨(some 4), .call (.c (.fn (f_lexer_high N) [] [])) [(.t 3)], none⟩, ⟨(some 5), .mov (.t 4), none⟩, ⟨(some 6), .mov (.t 0), (some (5, false))⟩, ⟨(some 7), .call (.c (.fn (f_lexer_digit N) [] [])) [(.t 6)], (some (5, false))⟩, ⟨(some 8), .pick (.t 5) (.c (.lit (.bool true))) (.t 7), none⟩, ⟨(some 9), .mov (.t 8), none⟩, ⟨(some 10), .mov (.t 0), (some (9, false))⟩, ⟨(some 11), .bin .geq (.t 10) (.c (.lit (.int .u8 97))), (some (9, false))⟩, ⟨(some 12), .mov (.t 11), (some (9, false))⟩, ⟨(some 13), .mov (.t 0), (some (12, true))⟩, ⟨(some 14), .bin .leq (.t 13) (.c (.lit (.int .u8 122))), (some (12, true))⟩, ⟨(some 15), .pick (.t 12) (.t 14) (.c (.lit (.bool false))), (some (9, false))⟩, ⟨(some 16), .pick (.t 9) (.c (.lit (.bool true))) (.t 15), none⟩, ⟨(some 2), .mov (.t 16), none⟩]) (
 .ret)), false⟩

/-- azimuth/lexer.inName -/
def C_lexer_inName (N : Nat → Nat) : AFunc := ⟨9, [.inl 2],
 .seq (
  .ops [⟨(some 2), .mov (.c (.lit (.bool false))), none⟩]) (
 .seq (
  .ops [⟨(some 3), .mov (.t 0), none⟩, ⟨(some 4), .call (.c (.fn (f_lexer_low N) [] [])) [(.t 3)], none⟩, ⟨(some 5), .mov (.t 4), none⟩, ⟨(some 6), .mov (.t 0), (some (5, false))⟩, ⟨(some 7), .call (.c (.fn (f_lexer_digit N) [] [])) [(.t 6)], (some (5, false))⟩, ⟨(some 8), .pick (.t 5) (.c (.lit (.bool true))) (.t 7), none⟩, ⟨(some 2), .mov (.t 8), none⟩]) (
 .ret)), false⟩

/-- azimuth/lexer.low -/
def C_lexer_low (N : Nat → Nat) : AFunc := ⟨13, [.inl 2],
 .seq (
  .ops [⟨(some 2), .mov (.c (.lit (.bool false))), none⟩]) (
 .seq (
  .ops [⟨(some 3), .mov (.t 0), none⟩, ⟨(some 4), .bin .geq (.t 3) (.c (.lit (.int .u8 97))), none⟩, ⟨(some 5), .mov (.t 4), none⟩, ⟨(some 6), .mov (.t 0), (some (5, true))⟩, ⟨(some 7), .bin .leq (.t 6) (.c (.lit (.int .u8 122))), (some (5, true))⟩, ⟨(some 8), .pick (.t 5) (.t 7) (.c (.lit (.bool false))), none⟩, ⟨(some 9), .mov (.t 8), none⟩, ⟨(some 10), .mov (.t 0), (some (9, false))⟩, ⟨(some 11), .eq false .pint (.t 10) (.c (.lit (.int .u8 95))), (some (9, false))⟩, ⟨(some 12), .pick (.t 9) (.c (.lit (.bool true))) (.t 11), none⟩, ⟨(some 2), .mov (.t 12), none⟩]) (
 .ret)), false⟩

/-- azimuth/lexer.number -/
def C_lexer_number (N : Nat → Nat) : AFunc := ⟨23, [.inl 2],
 .seq (
  .ops [⟨(some 2), .mov (.c (.lit (.bool false))), none⟩]) (
 .seq (
  .seq (
   .ops [⟨(some 3), .mov (.t 0), none⟩, ⟨(some 4), .lens (.t 3), none⟩, ⟨(some 5), .bin .gtr (.t 4) (.c (.lit (.int .i64 1))), none⟩, ⟨(some 6), .mov (.t 5), none⟩, ⟨(some 7), .mov (.t 0), (some (6, true))⟩, ⟨(some 8), .sidx (.t 7) (.c (.lit (.int .i64 0))), (some (6, true))⟩, ⟨(some 9), .eq false .pint (.t 8) (.c (.lit (.int .u8 48))), (some (6, true))⟩, ⟨(some 10), .pick (.t 6) (.t 9) (.c (.lit (.bool false))), none⟩]) (
  .cond (.t 10) (
   .seq (
    .ops [⟨(some 2), .mov (.c (.lit (.bool false))), none⟩]) (
   .ret)) (
   .skip))) (
 .seq (
  .ops [⟨(some 11), .mov (.t 0), none⟩, ⟨(some 12), .lens (.t 11), none⟩, ⟨(some 13), .bin .lss (.t 12) (.c (.lit (.int .i64 19))), none⟩, ⟨(some 14), .mov (.t 13), none⟩, ⟨(some 15), .mov (.t 0), (some (14, false))⟩, ⟨(some 16), .lens (.t 15), (some (14, false))⟩, ⟨(some 17), .eq false .pint (.t 16) (.c (.lit (.int .i64 19))), (some (14, false))⟩, ⟨(some 18), .mov (.t 17), (some (14, false))⟩, ⟨(some 19), .mov (.t 0), (some (18, true))⟩, ⟨(some 20), .bin .leq (.t 19) (.c (.lit (.string (mkS [57, 50, 50, 51, 51, 55, 50, 48, 51, 54, 56, 53, 52, 55, 55, 53, 56, 48, 55])))), (some (18, true))⟩, ⟨(some 21), .pick (.t 18) (.t 20) (.c (.lit (.bool false))), (some (14, false))⟩, ⟨(some 22), .pick (.t 14) (.c (.lit (.bool true))) (.t 21), none⟩, ⟨(some 2), .mov (.t 22), none⟩]) (
 .ret))), false⟩

def L_lexer_one_1 (N : Nat → Nat) : AC :=
    .seq (
     .ops [⟨(some 118), .bin .lss (.t 117) (.t 116), none⟩]) (
    .seq (
     .cond (.t 118) (
      .skip) (
      .exit 1)) (
    .seq (
     .block 2 (
      .seq (
       .ops [⟨(some 119), .iaddr 1 (.t 115) (.t 117), none⟩, ⟨(some 120), .load none (.t 119), none⟩, ⟨(some 14), .mov (.t 120), none⟩]) (
      .seq (
       .ops [⟨(some 121), .mov (.t 0), none⟩, ⟨(some 122), .mov (.t 14), none⟩, ⟨(some 123), .call (.c (.fn (f_strings_HasPrefix N) [] [])) [(.t 121), (.t 122)], none⟩]) (
      .cond (.t 123) (
       .seq (
        .ops [⟨(some 124), .mov (.t 14), none⟩, ⟨(some 125), .build [(.lit (.int .i64 0)), (.lit (.string (mkS []))), (.lit (.int .i64 0))] [(0, 1, (.c (.lit (.int .i64 8)))), (1, 1, (.t 124))], none⟩, ⟨(some 126), .mov (.t 14), none⟩, ⟨(some 127), .lens (.t 126), none⟩, ⟨none, .store 3 (.t 2) (.t 125), none⟩, ⟨(some 3), .mov (.t 127), none⟩]) (
       .ret)) (
       .skip))))) (
    .ops [⟨(some 128), .bin .add (.t 117) (.c (.lit (.int .i64 1))), none⟩, ⟨(some 117), .mov (.t 128), none⟩])))
def K_lexer_one_1 (N : Nat → Nat) : AC :=
 .seq (
  .ops [⟨(some 129), .build [(.lit (.int .i64 0)), (.lit (.string (mkS []))), (.lit (.int .i64 0))] [], none⟩, ⟨none, .store 3 (.t 2) (.t 129), none⟩, ⟨(some 3), .mov (.c (.lit (.int .i64 0))), none⟩]) (
 .ret)
/-- azimuth/lexer.one -/
def C_lexer_one (N : Nat → Nat) : AFunc := ⟨130, [.inr (2, (some 3)), .inl 3],
 .seq (
  .ops [⟨(some 2), .new (t_api_Token N) (.agg [(.lit (.int .i64 0)), (.lit (.string (mkS []))), (.lit (.int .i64 0))]), none⟩, ⟨(some 3), .mov (.c (.lit (.int .i64 0))), none⟩]) (
 .seq (
  .ops [⟨(some 15), .mov (.t 0), none⟩, ⟨(some 16), .sidx (.t 15) (.c (.lit (.int .i64 0))), none⟩, ⟨(some 4), .mov (.t 16), none⟩]) (
 .seq (
  .block 0 (
   .seq (
    .ops [⟨(some 18), .mov (.t 0), none⟩, ⟨(some 19), .call (.c (.fn (f_strings_HasPrefix N) [] [])) [(.t 18), (.c (.lit (.string (mkS [102, 39]))))], none⟩, ⟨(some 17), .mov (.t 19), none⟩]) (
   .cond (.t 17) (
    .seq (
     .ops [⟨(some 21), .mov (.t 0), none⟩, ⟨(some 22), .call (.c (.fn (f_lexer_float N) [] [])) [(.t 21)], none⟩, ⟨(some 20), .mov (.t 22), none⟩, ⟨(some 23), .extract (.t 20) 0, none⟩, ⟨(some 24), .extract (.t 20) 1, none⟩, ⟨(some 5), .mov (.t 23), none⟩, ⟨(some 6), .mov (.t 24), none⟩]) (
    .seq (
     .seq (
      .ops [⟨(some 25), .mov (.t 6), none⟩, ⟨(some 26), .un .not (.t 25), none⟩]) (
     .cond (.t 26) (
      .seq (
       .ops [⟨(some 27), .build [(.lit (.int .i64 0)), (.lit (.string (mkS []))), (.lit (.int .i64 0))] [], none⟩, ⟨none, .store 3 (.t 2) (.t 27), none⟩, ⟨(some 3), .mov (.c (.lit (.int .i64 0))), none⟩]) (
      .ret)) (
      .skip))) (
    .seq (
     .ops [⟨(some 28), .mov (.t 5), none⟩, ⟨(some 29), .build [(.lit (.int .i64 0)), (.lit (.string (mkS []))), (.lit (.int .i64 0))] [(0, 1, (.c (.lit (.int .i64 5)))), (1, 1, (.t 28))], none⟩, ⟨(some 30), .mov (.t 5), none⟩, ⟨(some 31), .lens (.t 30), none⟩, ⟨none, .store 3 (.t 2) (.t 29), none⟩, ⟨(some 3), .mov (.t 31), none⟩]) (
    .ret)))) (
    .seq (
     .ops [⟨(some 33), .mov (.t 4), none⟩, ⟨(some 34), .call (.c (.fn (f_lexer_low N) [] [])) [(.t 33)], none⟩, ⟨(some 32), .mov (.t 34), none⟩]) (
    .cond (.t 32) (
     .seq (
      .ops [⟨(some 35), .mov (.t 0), none⟩, ⟨(some 36), .call (.c (.fn (f_lexer_run N) [] [])) [(.t 35), (.c (.fn (f_lexer_inName N) [] []))], none⟩, ⟨(some 7), .mov (.t 36), none⟩]) (
     .seq (
      .seq (
       .ops [⟨(some 37), .mov (.t 0), none⟩, ⟨(some 38), .mov (.t 7), none⟩, ⟨(some 39), .slstr (.t 37) none (some (.t 38)), none⟩, ⟨(some 40), .call (.c (.fn (f_lexer_IsWord N) [] [])) [(.t 39)], none⟩]) (
      .cond (.t 40) (
       .seq (
        .ops [⟨(some 41), .mov (.t 0), none⟩, ⟨(some 42), .mov (.t 7), none⟩, ⟨(some 43), .slstr (.t 41) none (some (.t 42)), none⟩, ⟨(some 44), .build [(.lit (.int .i64 0)), (.lit (.string (mkS []))), (.lit (.int .i64 0))] [(0, 1, (.c (.lit (.int .i64 7)))), (1, 1, (.t 43))], none⟩, ⟨(some 45), .mov (.t 7), none⟩, ⟨none, .store 3 (.t 2) (.t 44), none⟩, ⟨(some 3), .mov (.t 45), none⟩]) (
       .ret)) (
       .skip))) (
     .seq (
      .ops [⟨(some 46), .mov (.t 0), none⟩, ⟨(some 47), .mov (.t 7), none⟩, ⟨(some 48), .slstr (.t 46) none (some (.t 47)), none⟩, ⟨(some 49), .build [(.lit (.int .i64 0)), (.lit (.string (mkS []))), (.lit (.int .i64 0))] [(0, 1, (.c (.lit (.int .i64 1)))), (1, 1, (.t 48))], none⟩, ⟨(some 50), .mov (.t 7), none⟩, ⟨none, .store 3 (.t 2) (.t 49), none⟩, ⟨(some 3), .mov (.t 50), none⟩]) (
     .ret)))) (
     .seq (
      .ops [⟨(some 52), .mov (.t 4), none⟩, ⟨(some 53), .call (.c (.fn (f_lexer_high N) [] [])) [(.t 52)], none⟩, ⟨(some 51), .mov (.t 53), none⟩]) (
     .cond (.t 51) (
      .seq (
       .ops [⟨(some 54), .mov (.t 0), none⟩, ⟨(some 55), .call (.c (.fn (f_lexer_run N) [] [])) [(.t 54), (.c (.fn (f_lexer_inAlias N) [] []))], none⟩, ⟨(some 8), .mov (.t 55), none⟩]) (
      .seq (
       .ops [⟨(some 56), .mov (.t 0), none⟩, ⟨(some 57), .mov (.t 8), none⟩, ⟨(some 58), .slstr (.t 56) none (some (.t 57)), none⟩, ⟨(some 59), .build [(.lit (.int .i64 0)), (.lit (.string (mkS []))), (.lit (.int .i64 0))] [(0, 1, (.c (.lit (.int .i64 2)))), (1, 1, (.t 58))], none⟩, ⟨(some 60), .mov (.t 8), none⟩, ⟨none, .store 3 (.t 2) (.t 59), none⟩, ⟨(some 3), .mov (.t 60), none⟩]) (
      .ret))) (
      .seq (
       .ops [⟨(some 62), .mov (.t 4), none⟩, ⟨(some 63), .call (.c (.fn (f_lexer_digit N) [] [])) [(.t 62)], none⟩, ⟨(some 61), .mov (.t 63), none⟩]) (
      .cond (.t 61) (
       .seq (
        .ops [⟨(some 64), .mov (.t 0), none⟩, ⟨(some 65), .call (.c (.fn (f_lexer_run N) [] [])) [(.t 64), (.c (.fn (f_lexer_digit N) [] []))], none⟩, ⟨(some 9), .mov (.t 65), none⟩]) (
       .seq (
        .seq (
         .ops [⟨(some 66), .mov (.t 0), none⟩, ⟨(some 67), .mov (.t 9), none⟩, ⟨(some 68), .slstr (.t 66) none (some (.t 67)), none⟩, ⟨(some 69), .call (.c (.fn (f_lexer_number N) [] [])) [(.t 68)], none⟩, ⟨(some 70), .un .not (.t 69), none⟩]) (
        .cond (.t 70) (
         .seq (
          .ops [⟨(some 71), .build [(.lit (.int .i64 0)), (.lit (.string (mkS []))), (.lit (.int .i64 0))] [], none⟩, ⟨none, .store 3 (.t 2) (.t 71), none⟩, ⟨(some 3), .mov (.c (.lit (.int .i64 0))), none⟩]) (
         .ret)) (
         .skip))) (
       .seq (
        .ops [⟨(some 72), .mov (.t 0), none⟩, ⟨(some 73), .mov (.t 9), none⟩, ⟨(some 74), .slstr (.t 72) none (some (.t 73)), none⟩, ⟨(some 75), .build [(.lit (.int .i64 0)), (.lit (.string (mkS []))), (.lit (.int .i64 0))] [(0, 1, (.c (.lit (.int .i64 4)))), (1, 1, (.t 74))], none⟩, ⟨(some 76), .mov (.t 9), none⟩, ⟨none, .store 3 (.t 2) (.t 75), none⟩, ⟨(some 3), .mov (.t 76), none⟩]) (
       .ret)))) (
       .seq (
        .ops [⟨(some 78), .mov (.t 4), none⟩, ⟨(some 79), .eq false .pint (.t 78) (.c (.lit (.int .u8 35))), none⟩, ⟨(some 80), .mov (.t 79), none⟩, ⟨(some 81), .mov (.t 0), (some (80, true))⟩, ⟨(some 82), .lens (.t 81), (some (80, true))⟩, ⟨(some 83), .bin .gtr (.t 82) (.c (.lit (.int .i64 1))), (some (80, true))⟩, ⟨(some 84), .pick (.t 80) (.t 83) (.c (.lit (.bool false))), none⟩, ⟨(some 85), .mov (.t 84), none⟩, ⟨(some 86), .mov (.t 0), (some (85, true))⟩, ⟨(some 87), .sidx (.t 86) (.c (.lit (.int .i64 1))), (some (85, true))⟩, ⟨(some 88), .call (.c (.fn (f_lexer_low N) [] [])) [(.t 87)], (some (85, true))⟩, ⟨(some 89), .pick (.t 85) (.t 88) (.c (.lit (.bool false))), none⟩, ⟨(some 77), .mov (.t 89), none⟩]) (
       .cond (.t 77) (
        .seq (
         .ops [⟨(some 90), .mov (.t 0), none⟩, ⟨(some 91), .slstr (.t 90) (some (.c (.lit (.int .i64 1)))) none, none⟩, ⟨(some 92), .call (.c (.fn (f_lexer_run N) [] [])) [(.t 91), (.c (.fn (f_lexer_inName N) [] []))], none⟩, ⟨(some 93), .bin .add (.c (.lit (.int .i64 1))) (.t 92), none⟩, ⟨(some 10), .mov (.t 93), none⟩]) (
        .seq (
         .ops [⟨(some 94), .mov (.t 0), none⟩, ⟨(some 95), .mov (.t 10), none⟩, ⟨(some 96), .slstr (.t 94) (some (.c (.lit (.int .i64 1)))) (some (.t 95)), none⟩, ⟨(some 97), .build [(.lit (.int .i64 0)), (.lit (.string (mkS []))), (.lit (.int .i64 0))] [(0, 1, (.c (.lit (.int .i64 3)))), (1, 1, (.t 96))], none⟩, ⟨(some 98), .mov (.t 10), none⟩, ⟨none, .store 3 (.t 2) (.t 97), none⟩, ⟨(some 3), .mov (.t 98), none⟩]) (
        .ret))) (
        .seq (
         .ops [⟨(some 100), .mov (.t 4), none⟩, ⟨(some 101), .eq false .pint (.t 100) (.c (.lit (.int .u8 34))), none⟩, ⟨(some 99), .mov (.t 101), none⟩]) (
        .cond (.t 99) (
         .seq (
          .ops [⟨(some 103), .mov (.t 0), none⟩, ⟨(some 104), .slstr (.t 103) (some (.c (.lit (.int .i64 1)))) none, none⟩, ⟨(some 105), .call (.c (.fn (f_lexer_text N) [] [])) [(.t 104)], none⟩, ⟨(some 102), .mov (.t 105), none⟩, ⟨(some 106), .extract (.t 102) 0, none⟩, ⟨(some 107), .extract (.t 102) 1, none⟩, ⟨(some 11), .mov (.t 106), none⟩, ⟨(some 12), .mov (.t 107), none⟩]) (
         .seq (
          .seq (
           .ops [⟨(some 108), .mov (.t 12), none⟩, ⟨(some 109), .bin .lss (.t 108) (.c (.lit (.int .i64 0))), none⟩]) (
          .cond (.t 109) (
           .seq (
            .ops [⟨(some 110), .build [(.lit (.int .i64 0)), (.lit (.string (mkS []))), (.lit (.int .i64 0))] [], none⟩, ⟨none, .store 3 (.t 2) (.t 110), none⟩, ⟨(some 3), .mov (.c (.lit (.int .i64 0))), none⟩]) (
           .ret)) (
           .skip))) (
         .seq (
          .ops [⟨(some 111), .mov (.t 11), none⟩, ⟨(some 112), .build [(.lit (.int .i64 0)), (.lit (.string (mkS []))), (.lit (.int .i64 0))] [(0, 1, (.c (.lit (.int .i64 6)))), (1, 1, (.t 111))], none⟩, ⟨(some 113), .mov (.t 12), none⟩, ⟨(some 114), .bin .add (.t 113) (.c (.lit (.int .i64 1))), none⟩, ⟨none, .store 3 (.t 2) (.t 112), none⟩, ⟨(some 3), .mov (.t 114), none⟩]) (
         .ret)))) (
         .skip)))))))))))))) (
 .seq (
  .seq (
   .ops [⟨(some 115), .call (.c (.fn (f_lexer_signs N) [] [])) [], none⟩, ⟨(some 116), .len (.t 115), none⟩, ⟨(some 117), .mov (.c (.lit (.int .i64 0))), none⟩]) (
  .block 1 (
   .loop (L_lexer_one_1 N)))) (K_lexer_one_1 N)))), false⟩

def L_lexer_run_1 (N : Nat → Nat) : AC :=
    .seq (
     .seq (
      .ops [⟨(some 6), .mov (.t 5), none⟩, ⟨(some 7), .mov (.t 0), none⟩, ⟨(some 8), .lens (.t 7), none⟩, ⟨(some 9), .bin .lss (.t 6) (.t 8), none⟩, ⟨(some 10), .mov (.t 9), none⟩, ⟨(some 11), .mov (.t 1), (some (10, true))⟩, ⟨(some 12), .mov (.t 0), (some (10, true))⟩, ⟨(some 13), .mov (.t 5), (some (10, true))⟩, ⟨(some 14), .sidx (.t 12) (.t 13), (some (10, true))⟩, ⟨(some 15), .call (.t 11) [(.t 14)], (some (10, true))⟩, ⟨(some 16), .pick (.t 10) (.t 15) (.c (.lit (.bool false))), none⟩]) (
     .cond (.t 16) (
      .skip) (
      .exit 0))) (
    .block 1 (
     .ops [⟨(some 17), .mov (.t 5), none⟩, ⟨(some 18), .bin .add (.t 17) (.c (.lit (.int .i64 1))), none⟩, ⟨(some 5), .mov (.t 18), none⟩]))
def K_lexer_run_1 (N : Nat → Nat) : AC :=
 .seq (
  .ops [⟨(some 19), .mov (.t 5), none⟩, ⟨(some 4), .mov (.t 19), none⟩]) (
 .ret)
/-- azimuth/lexer.run -/
def C_lexer_run (N : Nat → Nat) : AFunc := ⟨20, [.inl 4],
 .seq (
  .ops [⟨(some 4), .mov (.c (.lit (.int .i64 0))), none⟩]) (
 .seq (
  .ops [⟨(some 5), .mov (.c (.lit (.int .i64 0))), none⟩]) (
 .seq (
  .block 0 (
   .loop (L_lexer_run_1 N))) (K_lexer_run_1 N))), false⟩

/-- azimuth/lexer.signs -/
def C_lexer_signs (N : Nat → Nat) : AFunc := ⟨2, [.inl 0],
 .seq (
  .ops [⟨(some 0), .mov (.c (.lit (.slice none 0 0))), none⟩]) (
 .seq (
  .ops [⟨(some 1), .bslice (t_string N) 1 none 27 [(.lit (.string (mkS [])))] [(0, 1, (.c (.lit (.string (mkS [61, 62]))))), (1, 1, (.c (.lit (.string (mkS [45, 62]))))), (2, 1, (.c (.lit (.string (mkS [61, 61]))))), (3, 1, (.c (.lit (.string (mkS [46, 46]))))), (4, 1, (.c (.lit (.string (mkS [43, 46]))))), (5, 1, (.c (.lit (.string (mkS [45, 46]))))), (6, 1, (.c (.lit (.string (mkS [42, 46]))))), (7, 1, (.c (.lit (.string (mkS [47, 46]))))), (8, 1, (.c (.lit (.string (mkS [60, 46]))))), (9, 1, (.c (.lit (.string (mkS [40]))))), (10, 1, (.c (.lit (.string (mkS [41]))))), (11, 1, (.c (.lit (.string (mkS [123]))))), (12, 1, (.c (.lit (.string (mkS [125]))))), (13, 1, (.c (.lit (.string (mkS [91]))))), (14, 1, (.c (.lit (.string (mkS [93]))))), (15, 1, (.c (.lit (.string (mkS [44]))))), (16, 1, (.c (.lit (.string (mkS [59]))))), (17, 1, (.c (.lit (.string (mkS [58]))))), (18, 1, (.c (.lit (.string (mkS [46]))))), (19, 1, (.c (.lit (.string (mkS [61]))))), (20, 1, (.c (.lit (.string (mkS [124]))))), (21, 1, (.c (.lit (.string (mkS [43]))))), (22, 1, (.c (.lit (.string (mkS [45]))))), (23, 1, (.c (.lit (.string (mkS [42]))))), (24, 1, (.c (.lit (.string (mkS [47]))))), (25, 1, (.c (.lit (.string (mkS [60]))))), (26, 1, (.c (.lit (.string (mkS [94])))))], none⟩, ⟨(some 0), .mov (.t 1), none⟩]) (
 .ret)), true⟩

def L_lexer_text_1 (N : Nat → Nat) : AC :=
    .seq (
     .seq (
      .ops [⟨(some 8), .mov (.t 5), none⟩, ⟨(some 9), .mov (.t 0), none⟩, ⟨(some 10), .lens (.t 9), none⟩, ⟨(some 11), .bin .lss (.t 8) (.t 10), none⟩]) (
     .cond (.t 11) (
      .skip) (
      .exit 0))) (
    .seq (
     .block 1 (
      .seq (
       .ops [⟨(some 14), .mov (.t 0), none⟩, ⟨(some 15), .mov (.t 5), none⟩, ⟨(some 16), .sidx (.t 14) (.t 15), none⟩, ⟨(some 6), .mov (.t 16), none⟩]) (
      .block 2 (
       .seq (
        .ops [⟨(some 35), .mov (.t 6), none⟩, ⟨(some 36), .eq false .pint (.t 35) (.c (.lit (.int .u8 34))), none⟩, ⟨(some 34), .mov (.t 36), none⟩]) (
       .cond (.t 34) (
        .seq (
         .ops [⟨(some 37), .mov (.t 4), none⟩, ⟨(some 38), .conv .str (.t 37), none⟩, ⟨(some 39), .mov (.t 5), none⟩, ⟨(some 40), .bin .add (.t 39) (.c (.lit (.int .i64 1))), none⟩, ⟨(some 2), .mov (.t 38), none⟩, ⟨(some 3), .mov (.t 40), none⟩]) (
        .ret)) (
        .seq (
         .ops [⟨(some 42), .mov (.t 6), none⟩, ⟨(some 43), .bin .lss (.t 42) (.c (.lit (.int .u8 32))), none⟩, ⟨(some 41), .mov (.t 43), none⟩]) (
        .cond (.t 41) (
         .seq (
          .ops [⟨(some 2), .mov (.c (.lit (.string (mkS [])))), none⟩, ⟨(some 3), .mov (.c (.lit (.int .i64 (-1)))), none⟩]) (
         .ret)) (
         .seq (
          .ops [⟨(some 45), .mov (.t 6), none⟩, ⟨(some 46), .eq true .pint (.t 45) (.c (.lit (.int .u8 92))), none⟩, ⟨(some 44), .mov (.t 46), none⟩]) (
         .cond (.t 44) (
          .ops [⟨(some 47), .mov (.t 4), none⟩, ⟨(some 48), .mov (.t 6), none⟩, ⟨(some 49), .bslice (t_uint8 N) 1 none 1 [(.lit (.int .u8 0))] [(0, 1, (.t 48))], none⟩, ⟨(some 50), .append (t_uint8 N) 1 1 (.t 47) (.t 49), none⟩, ⟨(some 4), .mov (.t 50), none⟩]) (
          .seq (
           .ops [⟨(some 17), .mov (.t 5), none⟩, ⟨(some 18), .bin .add (.t 17) (.c (.lit (.int .i64 1))), none⟩, ⟨(some 5), .mov (.t 18), none⟩]) (
          .seq (
           .ops [⟨(some 7), .mov (.c (.lit (.int .i64 (-1)))), none⟩]) (
          .seq (
           .seq (
            .ops [⟨(some 19), .mov (.t 5), none⟩, ⟨(some 20), .mov (.t 0), none⟩, ⟨(some 21), .lens (.t 20), none⟩, ⟨(some 22), .bin .lss (.t 19) (.t 21), none⟩]) (
           .cond (.t 22) (
            .ops [⟨(some 23), .mov (.t 0), none⟩, ⟨(some 24), .mov (.t 5), none⟩, ⟨(some 25), .sidx (.t 23) (.t 24), none⟩, ⟨(some 26), .call (.c (.fn (f_strings_IndexByte N) [] [])) [(.c (.lit (.string (mkS [34, 92, 110])))), (.t 25)], none⟩, ⟨(some 7), .mov (.t 26), none⟩]) (
            .skip))) (
          .seq (
           .seq (
            .ops [⟨(some 27), .mov (.t 7), none⟩, ⟨(some 28), .bin .lss (.t 27) (.c (.lit (.int .i64 0))), none⟩]) (
           .cond (.t 28) (
            .seq (
             .ops [⟨(some 2), .mov (.c (.lit (.string (mkS [])))), none⟩, ⟨(some 3), .mov (.c (.lit (.int .i64 (-1)))), none⟩]) (
            .ret)) (
            .skip))) (
          .ops [⟨(some 29), .mov (.t 4), none⟩, ⟨(some 30), .mov (.t 7), none⟩, ⟨(some 31), .sidx (.c (.lit (.string (mkS [34, 92, 10])))) (.t 30), none⟩, ⟨(some 32), .bslice (t_uint8 N) 1 none 1 [(.lit (.int .u8 0))] [(0, 1, (.t 31))], none⟩, ⟨(some 33), .append (t_uint8 N) 1 1 (.t 29) (.t 32), none⟩, ⟨(some 4), .mov (.t 33), none⟩])))))))))))))) (
    .ops [⟨(some 12), .mov (.t 5), none⟩, ⟨(some 13), .bin .add (.t 12) (.c (.lit (.int .i64 1))), none⟩, ⟨(some 5), .mov (.t 13), none⟩]))
def K_lexer_text_1 (N : Nat → Nat) : AC :=
 .seq (
  .ops [⟨(some 2), .mov (.c (.lit (.string (mkS [])))), none⟩, ⟨(some 3), .mov (.c (.lit (.int .i64 (-1)))), none⟩]) (
 .ret)
/-- azimuth/lexer.text -/
def C_lexer_text (N : Nat → Nat) : AFunc := ⟨51, [.inl 2, .inl 3],
 .seq (
  .ops [⟨(some 2), .mov (.c (.lit (.string (mkS [])))), none⟩, ⟨(some 3), .mov (.c (.lit (.int .i64 0))), none⟩]) (
 .seq (
  .ops [⟨(some 4), .mov (.c (.lit (.slice none 0 0))), none⟩]) (
 .seq (
  .seq (
   .ops [⟨(some 5), .mov (.c (.lit (.int .i64 0))), none⟩]) (
  .block 0 (
   .loop (L_lexer_text_1 N)))) (K_lexer_text_1 N))), false⟩

/-- azimuth/lexer.words -/
def C_lexer_words (N : Nat → Nat) : AFunc := ⟨2, [.inl 0],
 .seq (
  .ops [⟨(some 0), .mov (.c (.lit (.slice none 0 0))), none⟩]) (
 .seq (
  .ops [⟨(some 1), .bslice (t_string N) 1 none 20 [(.lit (.string (mkS [])))] [(0, 1, (.c (.lit (.string (mkS [102, 117, 110]))))), (1, 1, (.c (.lit (.string (mkS [108, 101, 116]))))), (2, 1, (.c (.lit (.string (mkS [114, 101, 99]))))), (3, 1, (.c (.lit (.string (mkS [105, 110]))))), (4, 1, (.c (.lit (.string (mkS [105, 102]))))), (5, 1, (.c (.lit (.string (mkS [116, 104, 101, 110]))))), (6, 1, (.c (.lit (.string (mkS [101, 108, 115, 101]))))), (7, 1, (.c (.lit (.string (mkS [99, 97, 115, 101]))))), (8, 1, (.c (.lit (.string (mkS [111, 102]))))), (9, 1, (.c (.lit (.string (mkS [101, 110, 100]))))), (10, 1, (.c (.lit (.string (mkS [116, 114, 117, 101]))))), (11, 1, (.c (.lit (.string (mkS [102, 97, 108, 115, 101]))))), (12, 1, (.c (.lit (.string (mkS [105, 110, 116]))))), (13, 1, (.c (.lit (.string (mkS [98, 111, 111, 108]))))), (14, 1, (.c (.lit (.string (mkS [115, 116, 114]))))), (15, 1, (.c (.lit (.string (mkS [102, 108, 111, 97, 116]))))), (16, 1, (.c (.lit (.string (mkS [100, 121, 110]))))), (17, 1, (.c (.lit (.string (mkS [97, 110, 121]))))), (18, 1, (.c (.lit (.string (mkS [110, 111, 110, 101]))))), (19, 1, (.c (.lit (.string (mkS [116, 121, 112, 101])))))], none⟩, ⟨(some 0), .mov (.t 1), none⟩]) (
 .ret)), true⟩

/-- internal/stringslite.CutPrefix -/
def C_internal_stringslite_CutPrefix (N : Nat → Nat) : AFunc := ⟨15, [.inl 4, .inl 5],
 .seq (
  .ops [⟨(some 4), .mov (.c (.lit (.string (mkS [])))), none⟩, ⟨(some 5), .mov (.c (.lit (.bool false))), none⟩]) (
 .seq (
  .seq (
   .ops [⟨(some 6), .mov (.t 0), none⟩, ⟨(some 7), .mov (.t 1), none⟩, ⟨(some 8), .call (.c (.fn (f_internal_stringslite_HasPrefix N) [] [])) [(.t 6), (.t 7)], none⟩, ⟨(some 9), .un .not (.t 8), none⟩]) (
  .cond (.t 9) (
   .seq (
    .ops [⟨(some 10), .mov (.t 0), none⟩, ⟨(some 4), .mov (.t 10), none⟩, ⟨(some 5), .mov (.c (.lit (.bool false))), none⟩]) (
   .ret)) (
   .skip))) (
 .seq (
  .ops [⟨(some 11), .mov (.t 0), none⟩, ⟨(some 12), .mov (.t 1), none⟩, ⟨(some 13), .lens (.t 12), none⟩, ⟨(some 14), .slstr (.t 11) (some (.t 13)) none, none⟩, ⟨(some 4), .mov (.t 14), none⟩, ⟨(some 5), .mov (.c (.lit (.bool true))), none⟩]) (
 .ret))), false⟩

/-- internal/stringslite.HasPrefix -/
def C_internal_stringslite_HasPrefix (N : Nat → Nat) : AFunc := ⟨18, [.inl 4],
 .seq (
  .ops [⟨(some 4), .mov (.c (.lit (.bool false))), none⟩]) (
 .seq (
  .ops [⟨(some 5), .mov (.t 0), none⟩, ⟨(some 6), .lens (.t 5), none⟩, ⟨(some 7), .mov (.t 1), none⟩, ⟨(some 8), .lens (.t 7), none⟩, ⟨(some 9), .bin .geq (.t 6) (.t 8), none⟩, ⟨(some 10), .mov (.t 9), none⟩, ⟨(some 11), .mov (.t 0), (some (10, true))⟩, ⟨(some 12), .mov (.t 1), (some (10, true))⟩, ⟨(some 13), .lens (.t 12), (some (10, true))⟩, ⟨(some 14), .slstr (.t 11) none (some (.t 13)), (some (10, true))⟩, ⟨(some 15), .mov (.t 1), (some (10, true))⟩, ⟨(some 16), .eq false .pstr (.t 14) (.t 15), (some (10, true))⟩, ⟨(some 17), .pick (.t 10) (.t 16) (.c (.lit (.bool false))), none⟩, ⟨(some 4), .mov (.t 17), none⟩]) (
 .ret)), false⟩

/-- internal/stringslite.IndexByte -/
def C_internal_stringslite_IndexByte (N : Nat → Nat) : AFunc := ⟨8, [.inl 4],
 .seq (
  .ops [⟨(some 4), .mov (.c (.lit (.int .i64 0))), none⟩]) (
 .seq (
  .ops [⟨(some 5), .mov (.t 0), none⟩, ⟨(some 6), .mov (.t 1), none⟩, ⟨(some 7), .call (.c (.fn (f_internal_bytealg_IndexByteString N) [] [])) [(.t 5), (.t 6)], none⟩, ⟨(some 4), .mov (.t 7), none⟩]) (
 .ret)), false⟩

/-- slices.Contains[[]string,string] -/
def C_slices_Contains_sl_string_string (N : Nat → Nat) : AFunc := ⟨9, [.inl 4],
 .seq (
  .ops [⟨(some 4), .mov (.c (.lit (.bool false))), none⟩]) (
 .seq (
  .ops [⟨(some 5), .mov (.t 0), none⟩, ⟨(some 6), .mov (.t 1), none⟩, ⟨(some 7), .call (.c (.fn (f_slices_Index_sl_string_string N) [] [])) [(.t 5), (.t 6)], none⟩, ⟨(some 8), .bin .geq (.t 7) (.c (.lit (.int .i64 0))), none⟩, ⟨(some 4), .mov (.t 8), none⟩]) (
 .ret)), false⟩

def L_slices_Index_sl_string_string_1 (N : Nat → Nat) : AC :=
    .seq (
     .ops [⟨(some 9), .bin .lss (.t 8) (.t 7), none⟩]) (
    .seq (
     .cond (.t 9) (
      .skip) (
      .exit 0)) (
    .seq (
     .block 1 (
      .seq (
       .ops [⟨(some 10), .mov (.t 8), none⟩, ⟨(some 5), .mov (.t 10), none⟩]) (
      .seq (
       .ops [⟨(some 11), .mov (.t 1), none⟩, ⟨(some 12), .mov (.t 0), none⟩, ⟨(some 13), .mov (.t 5), none⟩, ⟨(some 14), .iaddr 1 (.t 12) (.t 13), none⟩, ⟨(some 15), .load none (.t 14), none⟩, ⟨(some 16), .eq false .pstr (.t 11) (.t 15), none⟩]) (
      .cond (.t 16) (
       .seq (
        .ops [⟨(some 17), .mov (.t 5), none⟩, ⟨(some 4), .mov (.t 17), none⟩]) (
       .ret)) (
       .skip))))) (
    .ops [⟨(some 18), .bin .add (.t 8) (.c (.lit (.int .i64 1))), none⟩, ⟨(some 8), .mov (.t 18), none⟩])))
def K_slices_Index_sl_string_string_1 (N : Nat → Nat) : AC :=
 .seq (
  .ops [⟨(some 4), .mov (.c (.lit (.int .i64 (-1)))), none⟩]) (
 .ret)
/-- slices.Index[[]string,string] -/
def C_slices_Index_sl_string_string (N : Nat → Nat) : AFunc := ⟨19, [.inl 4],
 .seq (
  .ops [⟨(some 4), .mov (.c (.lit (.int .i64 0))), none⟩]) (
 .seq (
  .seq (
   .ops [⟨(some 6), .mov (.t 0), none⟩, ⟨(some 7), .len (.t 6), none⟩, ⟨(some 8), .mov (.c (.lit (.int .i64 0))), none⟩]) (
  .block 0 (
   .loop (L_slices_Index_sl_string_string_1 N)))) (K_slices_Index_sl_string_string_1 N)), false⟩

/-- strings.CutPrefix -/
def C_strings_CutPrefix (N : Nat → Nat) : AFunc := ⟨11, [.inl 4, .inl 5],
 .seq (
  .ops [⟨(some 4), .mov (.c (.lit (.string (mkS [])))), none⟩, ⟨(some 5), .mov (.c (.lit (.bool false))), none⟩]) (
 .seq (
  .ops [⟨(some 6), .mov (.t 0), none⟩, ⟨(some 7), .mov (.t 1), none⟩, ⟨(some 8), .call (.c (.fn (f_internal_stringslite_CutPrefix N) [] [])) [(.t 6), (.t 7)], none⟩, ⟨(some 9), .extract (.t 8) 0, none⟩, ⟨(some 10), .extract (.t 8) 1, none⟩, ⟨(some 4), .mov (.t 9), none⟩, ⟨(some 5), .mov (.t 10), none⟩]) (
 .ret)), false⟩

/-- strings.HasPrefix -/
def C_strings_HasPrefix (N : Nat → Nat) : AFunc := ⟨8, [.inl 4],
 .seq (
  .ops [⟨(some 4), .mov (.c (.lit (.bool false))), none⟩]) (
 .seq (
  .ops [⟨(some 5), .mov (.t 0), none⟩, ⟨(some 6), .mov (.t 1), none⟩, ⟨(some 7), .call (.c (.fn (f_internal_stringslite_HasPrefix N) [] [])) [(.t 5), (.t 6)], none⟩, ⟨(some 4), .mov (.t 7), none⟩]) (
 .ret)), false⟩

/-- strings.IndexByte -/
def C_strings_IndexByte (N : Nat → Nat) : AFunc := ⟨8, [.inl 4],
 .seq (
  .ops [⟨(some 4), .mov (.c (.lit (.int .i64 0))), none⟩]) (
 .seq (
  .ops [⟨(some 5), .mov (.t 0), none⟩, ⟨(some 6), .mov (.t 1), none⟩, ⟨(some 7), .call (.c (.fn (f_internal_stringslite_IndexByte N) [] [])) [(.t 5), (.t 6)], none⟩, ⟨(some 4), .mov (.t 7), none⟩]) (
 .ret)), false⟩
end Go.Proofs.Eng
/- Texts: places, cuts; what the library's functions of texts tell, run by the engine. -/
set_option linter.unusedVariables false
set_option linter.unusedSimpArgs false
set_option maxRecDepth 100000
namespace Go.Proofs.Eng
open Go
section
variable {Γ : Sums} {A : Tab} {N : Nat → Nat}

@[simp] theorem resR_inr_inl {t u : Nat} {l : Option Nat} {ρ : Rho} {H : Hp} : resR [.inr (t, l), .inl u] ρ H = (aload H l (ρ t)).map fun a => .tup [a, ρ u] := by
  simp [resR, resOneR, List.mapM_cons]
  cases aload H l (ρ t) <;> rfl
@[simp] theorem resR_inl_inr {t u : Nat} {m : Option Nat} {ρ : Rho} {H : Hp} : resR [.inl t, .inr (u, m)] ρ H = (aload H m (ρ u)).map fun b => .tup [ρ t, b] := by
  simp [resR, resOneR, List.mapM_cons]
  cases aload H m (ρ u) <;> rfl
@[simp] theorem loadC3 {a b c : AV} : loadC (some 3) [a, b, c] = some (.agg [a, b, c]) := by simp [loadC]
@[simp] theorem loadC_one {a : AV} : loadC none [a] = some a := by simp [loadC]
/-- A call that wrote a cell of its own alone. -/
theorem settle_cell {H : Hp} {o o2 : AObj} {v : AV} (hu : v.under H.l.length = true) : settle H v (hset (halloc { l := H.l, d := none } o) H.l.length (some o2)) = (v, none) :=
  settle_keeps ((((Loc.start H).alloc o).set o2).keeps) hu
@[simp] theorem abin_geqB {c : UInt8} {n : Int} : abin .geq (avByte c) (.lit (.int .u8 n)) = some (avBool (decide (n ≤ c.toNat))) := by simp [avByte]
@[simp] theorem abin_leqB {c : UInt8} {n : Int} : abin .leq (avByte c) (.lit (.int .u8 n)) = some (avBool (decide ((c.toNat : Int) ≤ n))) := by simp [avByte]
@[simp] theorem abin_lssB {c : UInt8} {n : Int} : abin .lss (avByte c) (.lit (.int .u8 n)) = some (avBool (decide ((c.toNat : Int) < n))) := by simp [avByte]
@[simp] theorem abin_gtrB {c : UInt8} {n : Int} : abin .gtr (avByte c) (.lit (.int .u8 n)) = some (avBool (decide (n < (c.toNat : Int)))) := by simp [avByte]
@[simp] theorem aeq_byte {c : UInt8} {n : Int} : aeq .pint (avByte c) (.lit (.int .u8 n)) = some (decide ((c.toNat : Int) = n)) := by simp [avByte]
theorem asidx_str {k : IntKind} {s : List UInt8} {i : Int} (h0 : 0 ≤ i) (h : i.toNat < s.length) : asidx (avStr s) (.lit (.int k i)) = some (avByte s[i.toNat]) := by
  simp [asidx, h0, List.getElem?_eq_getElem h, avByte]
theorem asidx_nat {k : IntKind} {s : List UInt8} {i : Nat} (h : i < s.length) : asidx (avStr s) (.lit (.int k i)) = some (avByte s[i]) := by
  have := asidx_str (k := k) (s := s) (i := (i : Int)) (by omega) (by simpa using h)
  simpa using this
theorem aslstr_from {k : IntKind} {s : List UInt8} {i : Int} (h0 : 0 ≤ i) (h : i.toNat ≤ s.length) : aslstr (avStr s) (some (.lit (.int k i))) none = some (avStr (s.drop i.toNat)) := by
  have h1 : i ≤ (s.length : Int) := by omega
  simp [aslstr, aBound, h0, h1]
  rw [List.take_of_length_le (by simp)]
theorem aslstr_upto {k : IntKind} {s : List UInt8} {j : Int} (h0 : 0 ≤ j) (h : j.toNat ≤ s.length) : aslstr (avStr s) none (some (.lit (.int k j))) = some (avStr (s.take j.toNat)) := by
  have h1 : j ≤ (s.length : Int) := by omega
  simp [aslstr, aBound, h0, h1]
theorem aslstr_cut {k k' : IntKind} {s : List UInt8} {i j : Int} (h0 : 0 ≤ i) (h1 : i ≤ j) (h : j.toNat ≤ s.length) : aslstr (avStr s) (some (.lit (.int k i))) (some (.lit (.int k' j))) = some (avStr ((s.drop i.toNat).take (j.toNat - i.toNat))) := by
  have h2 : i ≤ max j 0 := by omega
  have h3 : 0 ≤ j := by omega
  have h4 : j ≤ (s.length : Int) := by omega
  simp [aslstr, aBound, h0, h2, h3, h4]

theorem settleZ_ra {H H1 : Hp} {es : List AV} {t : TypeId} {m : Nat} (h1 : H1 = halloc { l := H.l, d := none } (.arr 1 es t)) (hm : m = es.length) (hl : ∀ x ∈ es, ∃ v, x = .lit v) :
    settleZ true H (.ra 1 H.l.length 0 m) H1 = (.sl 1 es, none) := by
  subst h1; subst hm
  apply settleZ_frz
  · simp [keeps]
  · rw [frz_ra (es := es) (t := t) (by simp) (by simp) (by simp), List.drop_zero, List.take_length, frz_lits hl]
    rfl

/-! ### HasPrefix, CutPrefix, IndexByte -/
structure Strs (Γ : Sums) (A : Tab) (N : Nat → Nat) : Prop where
  has : Has Γ A (f_strings_HasPrefix N) (C_strings_HasPrefix N)
  has' : Has Γ A (f_internal_stringslite_HasPrefix N) (C_internal_stringslite_HasPrefix N)

theorem slite_HasPrefix_call (h : Has Γ A (f_internal_stringslite_HasPrefix N) (C_internal_stringslite_HasPrefix N)) (s t : List UInt8) (H : Hp) :
    (lim Γ A).call (f_internal_stringslite_HasPrefix N) [avStr s, avStr t] H = some (avBool (t.isPrefixOf s), none) := by
  apply h.call (by rfl)
  by_cases hl : t.length ≤ s.length
  · have hl' : (t.length : Int) ≤ s.length := by omega
    have e := aslstr_upto (k := .i64) (s := s) (j := (t.length : Int)) (by omega) (by simpa using hl)
    simp only [Int.toNat_natCast] at e
    by_cases he : s.take t.length = t
    · have hp : t.isPrefixOf s = true := by rw [List.isPrefixOf_iff_prefix, List.prefix_iff_eq_take]; exact he.symm
      simp [C_internal_stringslite_HasPrefix, hl', hl, e, he, hp]
    · have hp : t.isPrefixOf s = false := by
        rw [Bool.eq_false_iff]
        intro hp
        rw [List.isPrefixOf_iff_prefix, List.prefix_iff_eq_take] at hp
        exact he hp.symm
      simp [C_internal_stringslite_HasPrefix, hl', hl, e, he, hp]
  · have hl' : ¬ (t.length : Int) ≤ s.length := by omega
    have hp : t.isPrefixOf s = false := by
      rw [Bool.eq_false_iff]
      intro hp
      exact hl (List.isPrefixOf_iff_prefix.1 hp).length_le
    simp [C_internal_stringslite_HasPrefix, hl', hl, hp]
theorem HasPrefix_call (h : Strs Γ A N) (s t : List UInt8) (H : Hp) : (lim Γ A).call (f_strings_HasPrefix N) [avStr s, avStr t] H = some (avBool (t.isPrefixOf s), none) := by
  apply h.has.call (by rfl)
  simp [C_strings_HasPrefix, slite_HasPrefix_call h.has']
end
end Go.Proofs.Eng
/- Templates of functions, as the engine takes them; numbers of functions and types by names. Printed by tm.py. -/
set_option linter.unusedVariables false
set_option maxRecDepth 100000
namespace Go.Proofs.Eng
open Go

/-- azimuth/azimuthref01.Encode -/
def C_ref01_Encode (N : Nat → Nat) : AFunc := ⟨69, [.inl 2, .inl 3],
 .seq (
  .ops [⟨(some 2), .mov (.c (.lit (.slice none 0 0))), none⟩, ⟨(some 3), .mov (.c (.lit (.bool false))), none⟩]) (
 .seq (
  .seq (
   .ops [⟨(some 4), .mov (.t 0), none⟩, ⟨(some 5), .bin .lss (.t 4) (.c (.lit (.int .i64 0))), none⟩, ⟨(some 6), .mov (.t 5), none⟩, ⟨(some 7), .mov (.t 0), (some (6, false))⟩, ⟨(some 8), .bin .gtr (.t 7) (.c (.lit (.int .i64 1114111))), (some (6, false))⟩, ⟨(some 9), .pick (.t 6) (.c (.lit (.bool true))) (.t 8), none⟩, ⟨(some 10), .mov (.t 9), none⟩, ⟨(some 11), .mov (.t 0), (some (10, false))⟩, ⟨(some 12), .bin .geq (.t 11) (.c (.lit (.int .i64 55296))), (some (10, false))⟩, ⟨(some 13), .mov (.t 12), (some (10, false))⟩, ⟨(some 14), .mov (.t 0), (some (13, true))⟩, ⟨(some 15), .bin .leq (.t 14) (.c (.lit (.int .i64 57343))), (some (13, true))⟩, ⟨(some 16), .pick (.t 13) (.t 15) (.c (.lit (.bool false))), (some (10, false))⟩, ⟨(some 17), .pick (.t 10) (.c (.lit (.bool true))) (.t 16), none⟩]) (
  .cond (.t 17) (
   .seq (
    .ops [⟨(some 2), .mov (.c (.lit (.slice none 0 0))), none⟩, ⟨(some 3), .mov (.c (.lit (.bool false))), none⟩]) (
   .ret)) (
   .skip))) (
 .seq (
  .seq (
   .ops [⟨(some 18), .mov (.t 0), none⟩, ⟨(some 19), .bin .lss (.t 18) (.c (.lit (.int .i64 128))), none⟩]) (
  .cond (.t 19) (
   .seq (
    .ops [⟨(some 20), .mov (.t 0), none⟩, ⟨(some 21), .conv (.toInt .u8) (.t 20), none⟩, ⟨(some 22), .bslice (t_uint8 N) 1 none 1 [(.lit (.int .u8 0))] [(0, 1, (.t 21))], none⟩, ⟨(some 2), .mov (.t 22), none⟩, ⟨(some 3), .mov (.c (.lit (.bool true))), none⟩]) (
   .ret)) (
   .skip))) (
 .seq (
  .seq (
   .ops [⟨(some 23), .mov (.t 0), none⟩, ⟨(some 24), .bin .lss (.t 23) (.c (.lit (.int .i64 2048))), none⟩]) (
  .cond (.t 24) (
   .seq (
    .ops [⟨(some 25), .mov (.t 0), none⟩, ⟨(some 26), .bin .quo (.t 25) (.c (.lit (.int .i64 64))), none⟩, ⟨(some 27), .bin .add (.c (.lit (.int .i64 192))) (.t 26), none⟩, ⟨(some 28), .conv (.toInt .u8) (.t 27), none⟩, ⟨(some 29), .mov (.t 0), none⟩, ⟨(some 30), .bin .rem (.t 29) (.c (.lit (.int .i64 64))), none⟩, ⟨(some 31), .bin .add (.c (.lit (.int .i64 128))) (.t 30), none⟩, ⟨(some 32), .conv (.toInt .u8) (.t 31), none⟩, ⟨(some 33), .bslice (t_uint8 N) 1 none 2 [(.lit (.int .u8 0))] [(0, 1, (.t 28)), (1, 1, (.t 32))], none⟩, ⟨(some 2), .mov (.t 33), none⟩, ⟨(some 3), .mov (.c (.lit (.bool true))), none⟩]) (
   .ret)) (
   .skip))) (
 .seq (
  .seq (
   .ops [⟨(some 34), .mov (.t 0), none⟩, ⟨(some 35), .bin .lss (.t 34) (.c (.lit (.int .i64 65536))), none⟩]) (
  .cond (.t 35) (
   .seq (
    .ops [⟨(some 36), .mov (.t 0), none⟩, ⟨(some 37), .bin .quo (.t 36) (.c (.lit (.int .i64 4096))), none⟩, ⟨(some 38), .bin .add (.c (.lit (.int .i64 224))) (.t 37), none⟩, ⟨(some 39), .conv (.toInt .u8) (.t 38), none⟩, ⟨(some 40), .mov (.t 0), none⟩, ⟨(some 41), .bin .quo (.t 40) (.c (.lit (.int .i64 64))), none⟩, ⟨(some 42), .bin .rem (.t 41) (.c (.lit (.int .i64 64))), none⟩, ⟨(some 43), .bin .add (.c (.lit (.int .i64 128))) (.t 42), none⟩, ⟨(some 44), .conv (.toInt .u8) (.t 43), none⟩, ⟨(some 45), .mov (.t 0), none⟩, ⟨(some 46), .bin .rem (.t 45) (.c (.lit (.int .i64 64))), none⟩, ⟨(some 47), .bin .add (.c (.lit (.int .i64 128))) (.t 46), none⟩, ⟨(some 48), .conv (.toInt .u8) (.t 47), none⟩, ⟨(some 49), .bslice (t_uint8 N) 1 none 3 [(.lit (.int .u8 0))] [(0, 1, (.t 39)), (1, 1, (.t 44)), (2, 1, (.t 48))], none⟩, ⟨(some 2), .mov (.t 49), none⟩, ⟨(some 3), .mov (.c (.lit (.bool true))), none⟩]) (
   .ret)) (
   .skip))) (
 .seq (
  .ops [⟨(some 50), .mov (.t 0), none⟩, ⟨(some 51), .bin .quo (.t 50) (.c (.lit (.int .i64 262144))), none⟩, ⟨(some 52), .bin .add (.c (.lit (.int .i64 240))) (.t 51), none⟩, ⟨(some 53), .conv (.toInt .u8) (.t 52), none⟩, ⟨(some 54), .mov (.t 0), none⟩, ⟨(some 55), .bin .quo (.t 54) (.c (.lit (.int .i64 4096))), none⟩, ⟨(some 56), .bin .rem (.t 55) (.c (.lit (.int .i64 64))), none⟩, ⟨(some 57), .bin .add (.c (.lit (.int .i64 128))) (.t 56), none⟩, ⟨(some 58), .conv (.toInt .u8) (.t 57), none⟩, ⟨(some 59), .mov (.t 0), none⟩, ⟨(some 60), .bin .quo (.t 59) (.c (.lit (.int .i64 64))), none⟩, ⟨(some 61), .bin .rem (.t 60) (.c (.lit (.int .i64 64))), none⟩, ⟨(some 62), .bin .add (.c (.lit (.int .i64 128))) (.t 61), none⟩, ⟨(some 63), .conv (.toInt .u8) (.t 62), none⟩, ⟨(some 64), .mov (.t 0), none⟩, ⟨(some 65), .bin .rem (.t 64) (.c (.lit (.int .i64 64))), none⟩, ⟨(some 66), .bin .add (.c (.lit (.int .i64 128))) (.t 65), none⟩, ⟨(some 67), .conv (.toInt .u8) (.t 66), none⟩, ⟨(some 68), .bslice (t_uint8 N) 1 none 4 [(.lit (.int .u8 0))] [(0, 1, (.t 53)), (1, 1, (.t 58)), (2, 1, (.t 63)), (3, 1, (.t 67))], none⟩, ⟨(some 2), .mov (.t 68), none⟩, ⟨(some 3), .mov (.c (.lit (.bool true))), none⟩]) (
 .ret)))))), true⟩

def L_ref01_First_1 (N : Nat → Nat) : AC :=
    .seq (
     .seq (
      .ops [⟨(some 8), .mov (.t 4), none⟩, ⟨(some 9), .bin .leq (.t 8) (.c (.lit (.int .i64 4))), none⟩, ⟨(some 10), .mov (.t 9), none⟩, ⟨(some 11), .mov (.t 4), (some (10, true))⟩, ⟨(some 12), .mov (.t 0), (some (10, true))⟩, ⟨(some 13), .len (.t 12), (some (10, true))⟩, ⟨(some 14), .bin .leq (.t 11) (.t 13), (some (10, true))⟩, ⟨(some 15), .pick (.t 10) (.t 14) (.c (.lit (.bool false))), none⟩]) (
     .cond (.t 15) (
      .skip) (
      .exit 0))) (
    .seq (
     .block 1 (
      .seq (
       .ops [⟨(some 18), .mov (.t 0), none⟩, ⟨(some 19), .mov (.t 4), none⟩, ⟨(some 20), .slice 1 (.t 18) none (some (.t 19)), none⟩, ⟨(some 21), .call (.c (.fn (f_ref01_value N) [] [])) [(.t 20)], none⟩, ⟨(some 5), .mov (.t 21), none⟩]) (
      .seq (
       .ops [⟨(some 23), .mov (.t 5), none⟩, ⟨(some 24), .call (.c (.fn (f_ref01_Encode N) [] [])) [(.t 23)], none⟩, ⟨(some 22), .mov (.t 24), none⟩, ⟨(some 25), .extract (.t 22) 0, none⟩, ⟨(some 26), .extract (.t 22) 1, none⟩, ⟨(some 6), .mov (.t 25), none⟩, ⟨(some 7), .mov (.t 26), none⟩]) (
      .seq (
       .dops 6 [⟨(some 27), .mov (.t 7), none⟩, ⟨(some 28), .mov (.t 27), none⟩, ⟨(some 29), .mov (.t 6), (some (28, true))⟩, ⟨(some 30), .conv .str (.t 29), (some (28, true))⟩, ⟨(some 31), .mov (.t 0), (some (28, true))⟩, ⟨(some 32), .mov (.t 4), (some (28, true))⟩, ⟨(some 33), .slice 1 (.t 31) none (some (.t 32)), (some (28, true))⟩, ⟨(some 34), .conv .str (.t 33), (some (28, true))⟩, ⟨(some 35), .eq false .pstr (.t 30) (.t 34), (some (28, true))⟩, ⟨(some 36), .pick (.t 28) (.t 35) (.c (.lit (.bool false))), none⟩] [0, 0, 0, 2, 0, 0, 0, 2, 0, 0] []) (
      .cond (.t 36) (
       .seq (
        .ops [⟨(some 37), .mov (.t 5), none⟩, ⟨(some 38), .mov (.t 4), none⟩, ⟨(some 2), .mov (.t 37), none⟩, ⟨(some 3), .mov (.t 38), none⟩]) (
       .ret)) (
       .skip)))))) (
    .ops [⟨(some 16), .mov (.t 4), none⟩, ⟨(some 17), .bin .add (.t 16) (.c (.lit (.int .i64 1))), none⟩, ⟨(some 4), .mov (.t 17), none⟩]))
def K_ref01_First_1 (N : Nat → Nat) : AC :=
 .seq (
  .ops [⟨(some 2), .mov (.c (.lit (.int .i64 0))), none⟩, ⟨(some 3), .mov (.c (.lit (.int .i64 0))), none⟩]) (
 .ret)
/-- azimuth/azimuthref01.First -/
def C_ref01_First (N : Nat → Nat) : AFunc := ⟨39, [.inl 2, .inl 3],
 .seq (
  .ops [⟨(some 2), .mov (.c (.lit (.int .i64 0))), none⟩, ⟨(some 3), .mov (.c (.lit (.int .i64 0))), none⟩]) (
 .seq (
  .seq (
   .ops [⟨(some 4), .mov (.c (.lit (.int .i64 1))), none⟩]) (
  .block 0 (
   .loop (L_ref01_First_1 N)))) (K_ref01_First_1 N)), false⟩

def L_ref01_Signs_1 (N : Nat → Nat) : AC :=
    .seq (
     .seq (
      .ops [⟨(some 12), .mov (.t 7), none⟩, ⟨(some 13), .mov (.t 0), none⟩, ⟨(some 14), .len (.t 13), none⟩, ⟨(some 15), .bin .lss (.t 12) (.t 14), none⟩]) (
     .cond (.t 15) (
      .skip) (
      .exit 0))) (
    .block 1 (
     .seq (
      .ops [⟨(some 17), .mov (.t 0), none⟩, ⟨(some 18), .mov (.t 7), none⟩, ⟨(some 19), .slice 1 (.t 17) (some (.t 18)) none, none⟩, ⟨(some 20), .call (.c (.fn (f_ref01_First N) [] [])) [(.t 19)], none⟩, ⟨(some 16), .mov (.t 20), none⟩, ⟨(some 21), .extract (.t 16) 0, none⟩, ⟨(some 22), .extract (.t 16) 1, none⟩, ⟨(some 8), .mov (.t 21), none⟩, ⟨(some 9), .mov (.t 22), none⟩]) (
     .seq (
      .seq (
       .ops [⟨(some 23), .mov (.t 9), none⟩, ⟨(some 24), .eq false .pint (.t 23) (.c (.lit (.int .i64 0))), none⟩]) (
      .cond (.t 24) (
       .exit 0) (
       .skip))) (
     .seq (
      .ops [⟨(some 25), .mov (.t 5), none⟩, ⟨(some 26), .mov (.t 7), none⟩, ⟨(some 27), .bslice (t_int N) 1 none 1 [(.lit (.int .i64 0))] [(0, 1, (.t 26))], none⟩, ⟨(some 28), .append (t_int N) 1 8 (.t 25) (.t 27), none⟩, ⟨(some 5), .mov (.t 28), none⟩]) (
     .seq (
      .ops [⟨(some 29), .mov (.t 6), none⟩, ⟨(some 30), .mov (.t 8), none⟩, ⟨(some 31), .bslice (t_int N) 1 none 1 [(.lit (.int .i64 0))] [(0, 1, (.t 30))], none⟩, ⟨(some 32), .append (t_int N) 1 8 (.t 29) (.t 31), none⟩, ⟨(some 6), .mov (.t 32), none⟩]) (
     .ops [⟨(some 33), .mov (.t 7), none⟩, ⟨(some 34), .mov (.t 9), none⟩, ⟨(some 35), .bin .add (.t 33) (.t 34), none⟩, ⟨(some 7), .mov (.t 35), none⟩]))))))
def K_ref01_Signs_1 (N : Nat → Nat) : AC :=
 .seq (
  .ops [⟨(some 36), .mov (.t 5), none⟩, ⟨(some 37), .mov (.t 6), none⟩, ⟨(some 38), .mov (.t 7), none⟩, ⟨(some 2), .mov (.t 36), none⟩, ⟨(some 3), .mov (.t 37), none⟩, ⟨(some 4), .mov (.t 38), none⟩]) (
 .ret)
/-- azimuth/azimuthref01.Signs -/
def C_ref01_Signs (N : Nat → Nat) : AFunc := ⟨39, [.inl 2, .inl 3, .inl 4],
 .seq (
  .ops [⟨(some 2), .mov (.c (.lit (.slice none 0 0))), none⟩, ⟨(some 3), .mov (.c (.lit (.slice none 0 0))), none⟩, ⟨(some 4), .mov (.c (.lit (.int .i64 0))), none⟩]) (
 .seq (
  .ops [⟨(some 10), .bslice (t_int N) 1 none 0 [(.lit (.int .i64 0))] [], none⟩, ⟨(some 11), .bslice (t_int N) 1 none 0 [(.lit (.int .i64 0))] [], none⟩, ⟨(some 5), .mov (.t 10), none⟩, ⟨(some 6), .mov (.t 11), none⟩]) (
 .seq (
  .ops [⟨(some 7), .mov (.c (.lit (.int .i64 0))), none⟩]) (
 .seq (
  .block 0 (
   .loop (L_ref01_Signs_1 N))) (K_ref01_Signs_1 N)))), false⟩

def L_ref01_Where_1 (N : Nat → Nat) : AC :=
    .seq (
     .seq (
      .ops [⟨(some 21), .mov (.t 9), none⟩, ⟨(some 22), .mov (.t 0), none⟩, ⟨(some 23), .len (.t 22), none⟩, ⟨(some 24), .bin .lss (.t 21) (.t 23), none⟩]) (
     .cond (.t 24) (
      .skip) (
      .exit 0))) (
    .seq (
     .block 1 (
      .ops [⟨(some 27), .mov (.t 6), none⟩, ⟨(some 28), .mov (.t 9), none⟩, ⟨(some 29), .bslice (t_int N) 1 none 1 [(.lit (.int .i64 0))] [(0, 1, (.t 28))], none⟩, ⟨(some 30), .append (t_int N) 1 8 (.t 27) (.t 29), none⟩, ⟨(some 6), .mov (.t 30), none⟩])) (
    .ops [⟨(some 25), .mov (.t 9), none⟩, ⟨(some 26), .bin .add (.t 25) (.c (.lit (.int .i64 1))), none⟩, ⟨(some 9), .mov (.t 26), none⟩]))
def L_ref01_Where_2 (N : Nat → Nat) : AC :=
    .seq (
     .ops [⟨(some 34), .bin .lss (.t 33) (.t 32), none⟩]) (
    .seq (
     .cond (.t 34) (
      .skip) (
      .exit 2)) (
    .seq (
     .block 3 (
      .seq (
       .ops [⟨(some 35), .iaddr 1 (.t 31) (.t 33), none⟩, ⟨(some 36), .load none (.t 35), none⟩, ⟨(some 13), .mov (.t 36), none⟩]) (
      .seq (
       .seq (
        .ops [⟨(some 37), .mov (.t 13), none⟩, ⟨(some 38), .mov (.t 1), none⟩, ⟨(some 39), .bin .geq (.t 37) (.t 38), none⟩]) (
       .cond (.t 39) (
        .exit 2) (
        .skip))) (
      .seq (
       .ops [⟨(some 40), .mov (.t 11), none⟩, ⟨(some 41), .bin .add (.t 40) (.c (.lit (.int .i64 1))), none⟩, ⟨(some 11), .mov (.t 41), none⟩]) (
      .seq (
       .ops [⟨(some 42), .mov (.t 0), none⟩, ⟨(some 43), .mov (.t 13), none⟩, ⟨(some 44), .iaddr 1 (.t 42) (.t 43), none⟩, ⟨(some 45), .load none (.t 44), none⟩, ⟨(some 46), .eq false .pint (.t 45) (.c (.lit (.int .u8 10))), none⟩]) (
      .cond (.t 46) (
       .seq (
        .ops [⟨(some 47), .mov (.t 10), none⟩, ⟨(some 48), .bin .add (.t 47) (.c (.lit (.int .i64 1))), none⟩, ⟨(some 10), .mov (.t 48), none⟩]) (
       .ops [⟨(some 11), .mov (.c (.lit (.int .i64 1))), none⟩])) (
       .skip))))))) (
    .ops [⟨(some 49), .bin .add (.t 33) (.c (.lit (.int .i64 1))), none⟩, ⟨(some 33), .mov (.t 49), none⟩])))
def K_ref01_Where_2 (N : Nat → Nat) : AC :=
 .seq (
  .ops [⟨(some 50), .mov (.t 10), none⟩, ⟨(some 51), .mov (.t 11), none⟩, ⟨(some 4), .mov (.t 50), none⟩, ⟨(some 5), .mov (.t 51), none⟩]) (
 .ret)
def K_ref01_Where_1 (N : Nat → Nat) : AC :=
 .seq (
  .ops [⟨(some 10), .mov (.c (.lit (.int .i64 1))), none⟩, ⟨(some 11), .mov (.c (.lit (.int .i64 1))), none⟩]) (
 .seq (
  .seq (
   .ops [⟨(some 31), .mov (.t 6), none⟩, ⟨(some 32), .len (.t 31), none⟩, ⟨(some 33), .mov (.c (.lit (.int .i64 0))), none⟩]) (
  .block 2 (
   .loop (L_ref01_Where_2 N)))) (K_ref01_Where_2 N))
/-- azimuth/azimuthref01.Where -/
def C_ref01_Where (N : Nat → Nat) : AFunc := ⟨52, [.inl 4, .inl 5],
 .seq (
  .ops [⟨(some 4), .mov (.c (.lit (.int .i64 0))), none⟩, ⟨(some 5), .mov (.c (.lit (.int .i64 0))), none⟩]) (
 .seq (
  .ops [⟨(some 15), .mov (.t 0), none⟩, ⟨(some 16), .call (.c (.fn (f_ref01_Signs N) [] [])) [(.t 15)], none⟩, ⟨(some 14), .mov (.t 16), none⟩, ⟨(some 17), .extract (.t 14) 0, none⟩, ⟨(some 18), .extract (.t 14) 1, none⟩, ⟨(some 19), .extract (.t 14) 2, none⟩, ⟨(some 6), .mov (.t 17), none⟩, ⟨(some 7), .mov (.t 18), none⟩, ⟨(some 8), .mov (.t 19), none⟩]) (
 .seq (
  .seq (
   .ops [⟨(some 20), .mov (.t 8), none⟩, ⟨(some 9), .mov (.t 20), none⟩]) (
  .block 0 (
   .loop (L_ref01_Where_1 N)))) (K_ref01_Where_1 N))), false⟩

/-- azimuth/azimuthref01.value -/
def C_ref01_value (N : Nat → Nat) : AFunc := ⟨72, [.inl 2],
 .seq (
  .ops [⟨(some 2), .mov (.c (.lit (.int .i64 0))), none⟩]) (
 .seq (
  .seq (
   .ops [⟨(some 3), .mov (.t 0), none⟩, ⟨(some 4), .len (.t 3), none⟩]) (
  .block 0 (
   .seq (
    .ops [⟨(some 6), .eq false .pint (.t 4) (.c (.lit (.int .i64 1))), none⟩, ⟨(some 5), .mov (.t 6), none⟩]) (
   .cond (.t 5) (
    .seq (
     .ops [⟨(some 7), .mov (.t 0), none⟩, ⟨(some 8), .iaddr 1 (.t 7) (.c (.lit (.int .i64 0))), none⟩, ⟨(some 9), .load none (.t 8), none⟩, ⟨(some 10), .conv (.toInt .i64) (.t 9), none⟩, ⟨(some 2), .mov (.t 10), none⟩]) (
    .ret)) (
    .seq (
     .ops [⟨(some 12), .eq false .pint (.t 4) (.c (.lit (.int .i64 2))), none⟩, ⟨(some 11), .mov (.t 12), none⟩]) (
    .cond (.t 11) (
     .seq (
      .dops 5 [⟨(some 13), .mov (.t 0), none⟩, ⟨(some 14), .iaddr 1 (.t 13) (.c (.lit (.int .i64 0))), none⟩, ⟨(some 15), .load none (.t 14), none⟩, ⟨(some 16), .conv (.toInt .i64) (.t 15), none⟩, ⟨(some 17), .bin .rem (.t 16) (.c (.lit (.int .i64 32))), none⟩, ⟨(some 18), .bin .mul (.t 17) (.c (.lit (.int .i64 64))), none⟩, ⟨(some 19), .mov (.t 0), none⟩, ⟨(some 20), .iaddr 1 (.t 19) (.c (.lit (.int .i64 1))), none⟩, ⟨(some 21), .load none (.t 20), none⟩, ⟨(some 22), .conv (.toInt .i64) (.t 21), none⟩, ⟨(some 23), .bin .rem (.t 22) (.c (.lit (.int .i64 64))), none⟩, ⟨(some 24), .bin .add (.t 18) (.t 23), none⟩, ⟨(some 2), .mov (.t 24), none⟩] [0, 0, 2, 0, 0, 0, 0, 0, 2, 0, 0, 0, 0] []) (
     .ret)) (
     .seq (
      .ops [⟨(some 26), .eq false .pint (.t 4) (.c (.lit (.int .i64 3))), none⟩, ⟨(some 25), .mov (.t 26), none⟩]) (
     .cond (.t 25) (
      .seq (
       .dops 7 [⟨(some 27), .mov (.t 0), none⟩, ⟨(some 28), .iaddr 1 (.t 27) (.c (.lit (.int .i64 0))), none⟩, ⟨(some 29), .load none (.t 28), none⟩, ⟨(some 30), .conv (.toInt .i64) (.t 29), none⟩, ⟨(some 31), .bin .rem (.t 30) (.c (.lit (.int .i64 16))), none⟩, ⟨(some 32), .bin .mul (.t 31) (.c (.lit (.int .i64 4096))), none⟩, ⟨(some 33), .mov (.t 0), none⟩, ⟨(some 34), .iaddr 1 (.t 33) (.c (.lit (.int .i64 1))), none⟩, ⟨(some 35), .load none (.t 34), none⟩, ⟨(some 36), .conv (.toInt .i64) (.t 35), none⟩, ⟨(some 37), .bin .rem (.t 36) (.c (.lit (.int .i64 64))), none⟩, ⟨(some 38), .bin .mul (.t 37) (.c (.lit (.int .i64 64))), none⟩, ⟨(some 39), .bin .add (.t 32) (.t 38), none⟩, ⟨(some 40), .mov (.t 0), none⟩, ⟨(some 41), .iaddr 1 (.t 40) (.c (.lit (.int .i64 2))), none⟩, ⟨(some 42), .load none (.t 41), none⟩, ⟨(some 43), .conv (.toInt .i64) (.t 42), none⟩, ⟨(some 44), .bin .rem (.t 43) (.c (.lit (.int .i64 64))), none⟩, ⟨(some 45), .bin .add (.t 39) (.t 44), none⟩, ⟨(some 2), .mov (.t 45), none⟩] [0, 0, 2, 0, 0, 0, 0, 0, 2, 0, 0, 0, 0, 0, 0, 2, 0, 0, 0, 0] []) (
      .ret)) (
      .skip))))))))) (
 .seq (
  .dops 8 [⟨(some 46), .mov (.t 0), none⟩, ⟨(some 47), .iaddr 1 (.t 46) (.c (.lit (.int .i64 0))), none⟩, ⟨(some 48), .load none (.t 47), none⟩, ⟨(some 49), .conv (.toInt .i64) (.t 48), none⟩, ⟨(some 50), .bin .rem (.t 49) (.c (.lit (.int .i64 8))), none⟩, ⟨(some 51), .bin .mul (.t 50) (.c (.lit (.int .i64 262144))), none⟩, ⟨(some 52), .mov (.t 0), none⟩, ⟨(some 53), .iaddr 1 (.t 52) (.c (.lit (.int .i64 1))), none⟩, ⟨(some 54), .load none (.t 53), none⟩, ⟨(some 55), .conv (.toInt .i64) (.t 54), none⟩, ⟨(some 56), .bin .rem (.t 55) (.c (.lit (.int .i64 64))), none⟩, ⟨(some 57), .bin .mul (.t 56) (.c (.lit (.int .i64 4096))), none⟩, ⟨(some 58), .bin .add (.t 51) (.t 57), none⟩, ⟨(some 59), .mov (.t 0), none⟩, ⟨(some 60), .iaddr 1 (.t 59) (.c (.lit (.int .i64 2))), none⟩, ⟨(some 61), .load none (.t 60), none⟩, ⟨(some 62), .conv (.toInt .i64) (.t 61), none⟩, ⟨(some 63), .bin .rem (.t 62) (.c (.lit (.int .i64 64))), none⟩, ⟨(some 64), .bin .mul (.t 63) (.c (.lit (.int .i64 64))), none⟩, ⟨(some 65), .bin .add (.t 58) (.t 64), none⟩, ⟨(some 66), .mov (.t 0), none⟩, ⟨(some 67), .iaddr 1 (.t 66) (.c (.lit (.int .i64 3))), none⟩, ⟨(some 68), .load none (.t 67), none⟩, ⟨(some 69), .conv (.toInt .i64) (.t 68), none⟩, ⟨(some 70), .bin .rem (.t 69) (.c (.lit (.int .i64 64))), none⟩, ⟨(some 71), .bin .add (.t 65) (.t 70), none⟩, ⟨(some 2), .mov (.t 71), none⟩] [0, 0, 2, 0, 0, 0, 0, 0, 2, 0, 0, 0, 0, 0, 0, 2, 0, 0, 0, 0, 0, 0, 2, 0, 0, 0, 0] []) (
 .ret))), false⟩

/-- azimuth/runes.All -/
def C_runes_All (N : Nat → Nat) : AFunc := ⟨4, [.inl 2],
 .seq (
  .ops [⟨(some 1), .box (t_sl_uint8 N) (.t 0), none⟩, ⟨(some 2), .mov (.c (.lit .nilFunc)), none⟩]) (
 .seq (
  .ops [⟨(some 3), .mkfn (f_runes_All_1 N) [] [(.t 1)], none⟩, ⟨(some 2), .mov (.t 3), none⟩]) (
 .ret)), true⟩

def L_runes_All_1_1 (N : Nat → Nat) : AC :=
   .seq (
    .seq (
     .ops [⟨(some 6), .mov (.t 3), none⟩, ⟨(some 7), .load none (.t 1), none⟩, ⟨(some 8), .len (.t 7), none⟩, ⟨(some 9), .bin .lss (.t 6) (.t 8), none⟩]) (
    .cond (.t 9) (
     .skip) (
     .exit 0))) (
   .block 1 (
    .seq (
     .ops [⟨(some 11), .load none (.t 1), none⟩, ⟨(some 12), .mov (.t 3), none⟩, ⟨(some 13), .slice 1 (.t 11) (some (.t 12)) none, none⟩, ⟨(some 14), .call (.c (.fn (f_runes_first N) [] [])) [(.t 13)], none⟩, ⟨(some 10), .mov (.t 14), none⟩, ⟨(some 15), .extract (.t 10) 0, none⟩, ⟨(some 16), .extract (.t 10) 1, none⟩, ⟨(some 4), .mov (.t 15), none⟩, ⟨(some 5), .mov (.t 16), none⟩]) (
    .seq (
     .seq (
      .ops [⟨(some 17), .mov (.t 5), none⟩, ⟨(some 18), .eq false .pint (.t 17) (.c (.lit (.int .i64 0))), none⟩, ⟨(some 19), .mov (.t 18), none⟩, ⟨(some 20), .mov (.t 0), (some (19, false))⟩, ⟨(some 21), .mov (.t 3), (some (19, false))⟩, ⟨(some 22), .mov (.t 4), (some (19, false))⟩, ⟨(some 23), .call (.t 20) [(.t 21), (.t 22)], (some (19, false))⟩, ⟨(some 24), .un .not (.t 23), (some (19, false))⟩, ⟨(some 25), .pick (.t 19) (.c (.lit (.bool true))) (.t 24), none⟩]) (
     .cond (.t 25) (
      .ret) (
      .skip))) (
    .ops [⟨(some 26), .mov (.t 3), none⟩, ⟨(some 27), .mov (.t 5), none⟩, ⟨(some 28), .bin .add (.t 26) (.t 27), none⟩, ⟨(some 3), .mov (.t 28), none⟩]))))
/-- azimuth/runes.All$1 -/
def C_runes_All_1 (N : Nat → Nat) : AFunc := ⟨29, [],
 .seq (
  .ops [⟨(some 3), .mov (.c (.lit (.int .i64 0))), none⟩]) (
 .block 0 (
  .loop (L_runes_All_1_1 N))), false⟩

def L_runes_Bad_1 (N : Nat → Nat) : AC :=
    .seq (
     .ops [⟨(some 4), .mov (.t 8), none⟩]) (
    .ops [⟨(some 5), .mov (.t 9), none⟩])
def L_runes_Bad_2 (N : Nat → Nat) : AC :=
    .block 1 (
     .ops [⟨(some 10), .mov (.t 4), none⟩, ⟨(some 11), .mov (.t 5), none⟩, ⟨(some 12), .call (.c (.fn (f_runes_size N) [] [])) [(.t 11)], none⟩, ⟨(some 13), .bin .add (.t 10) (.t 12), none⟩, ⟨none, .store 1 (.t 3) (.t 13), none⟩])
def K_runes_Bad_1 (N : Nat → Nat) : AC :=
 .seq (
  .seq (
   .ops [⟨(some 14), .load none (.t 3), none⟩, ⟨(some 15), .mov (.t 0), none⟩, ⟨(some 16), .len (.t 15), none⟩, ⟨(some 17), .eq false .pint (.t 14) (.t 16), none⟩]) (
  .cond (.t 17) (
   .seq (
    .ops [⟨(some 2), .mov (.c (.lit (.int .i64 (-1)))), none⟩]) (
   .ret)) (
   .skip))) (
 .seq (
  .ops [⟨(some 18), .load none (.t 3), none⟩, ⟨(some 2), .mov (.t 18), none⟩]) (
 .ret))
/-- azimuth/runes.Bad -/
def C_runes_Bad (N : Nat → Nat) : AFunc := ⟨19, [.inl 2],
 .seq (
  .ops [⟨(some 2), .mov (.c (.lit (.int .i64 0))), none⟩]) (
 .seq (
  .ops [⟨(some 3), .new (t_int N) (.lit (.int .i64 0)), none⟩, ⟨none, .store 1 (.t 3) (.c (.lit (.int .i64 0))), none⟩]) (
 .seq (
  .seq (
   .ops [⟨(some 6), .mov (.t 0), none⟩, ⟨(some 7), .call (.c (.fn (f_runes_All N) [] [])) [(.t 6)], none⟩]) (
  .block 0 (
   .rangeFn (.t 7) [8, 9] (L_runes_Bad_1 N) (L_runes_Bad_2 N)))) (K_runes_Bad_1 N))), false⟩

def L_runes_Count_1 (N : Nat → Nat) : AC :=
    .skip
def L_runes_Count_2 (N : Nat → Nat) : AC :=
    .block 1 (
     .ops [⟨(some 8), .load none (.t 3), none⟩, ⟨(some 9), .bin .add (.t 8) (.c (.lit (.int .i64 1))), none⟩, ⟨none, .store 1 (.t 3) (.t 9), none⟩])
def K_runes_Count_1 (N : Nat → Nat) : AC :=
 .seq (
  .ops [⟨(some 10), .load none (.t 3), none⟩, ⟨(some 2), .mov (.t 10), none⟩]) (
 .ret)
/-- azimuth/runes.Count -/
def C_runes_Count (N : Nat → Nat) : AFunc := ⟨11, [.inl 2],
 .seq (
  .ops [⟨(some 2), .mov (.c (.lit (.int .i64 0))), none⟩]) (
 .seq (
  .ops [⟨(some 3), .new (t_int N) (.lit (.int .i64 0)), none⟩, ⟨none, .store 1 (.t 3) (.c (.lit (.int .i64 0))), none⟩]) (
 .seq (
  .seq (
   .ops [⟨(some 4), .mov (.t 0), none⟩, ⟨(some 5), .call (.c (.fn (f_runes_All N) [] [])) [(.t 4)], none⟩]) (
  .block 0 (
   .rangeFn (.t 5) [6, 7] (L_runes_Count_1 N) (L_runes_Count_2 N)))) (K_runes_Count_1 N))), false⟩

def L_runes_Encode_1 (N : Nat → Nat) : AC :=
    .seq (
     .seq (
      .ops [⟨(some 21), .mov (.t 6), none⟩, ⟨(some 22), .bin .gtr (.t 21) (.c (.lit (.int .i64 0))), none⟩]) (
     .cond (.t 22) (
      .skip) (
      .exit 0))) (
    .seq (
     .block 1 (
      .seq (
       .ops [⟨(some 25), .mov (.t 5), none⟩, ⟨(some 26), .mov (.t 6), none⟩, ⟨(some 27), .mov (.t 0), none⟩, ⟨(some 28), .bin .and (.t 27) (.c (.lit (.int .i32 63))), none⟩, ⟨(some 29), .conv (.toInt .u8) (.t 28), none⟩, ⟨(some 30), .bin .or (.c (.lit (.int .u8 128))) (.t 29), none⟩, ⟨(some 31), .iaddr 1 (.t 25) (.t 26), none⟩, ⟨none, .store 1 (.t 31) (.t 30), none⟩]) (
      .ops [⟨(some 32), .mov (.t 0), none⟩, ⟨(some 33), .bin .shr (.t 32) (.c (.lit (.int .u64 6))), none⟩, ⟨(some 0), .mov (.t 33), none⟩]))) (
    .ops [⟨(some 23), .mov (.t 6), none⟩, ⟨(some 24), .bin .sub (.t 23) (.c (.lit (.int .i64 1))), none⟩, ⟨(some 6), .mov (.t 24), none⟩]))
def K_runes_Encode_1 (N : Nat → Nat) : AC :=
 .seq (
  .ops [⟨(some 34), .mov (.t 5), none⟩, ⟨(some 35), .mov (.t 4), none⟩, ⟨(some 36), .bin .shr (.c (.lit (.int .i64 3840))) (.t 35), none⟩, ⟨(some 37), .conv (.toInt .u8) (.t 36), none⟩, ⟨(some 38), .mov (.t 0), none⟩, ⟨(some 39), .conv (.toInt .u8) (.t 38), none⟩, ⟨(some 40), .bin .or (.t 37) (.t 39), none⟩, ⟨(some 41), .iaddr 1 (.t 34) (.c (.lit (.int .i64 0))), none⟩, ⟨none, .store 1 (.t 41) (.t 40), none⟩]) (
 .seq (
  .ops [⟨(some 42), .mov (.t 5), none⟩, ⟨(some 2), .mov (.t 42), none⟩, ⟨(some 3), .mov (.c (.lit (.int .i64 0))), none⟩]) (
 .ret))
/-- azimuth/runes.Encode -/
def C_runes_Encode (N : Nat → Nat) : AFunc := ⟨43, [.inl 2, .inl 3],
 .seq (
  .ops [⟨(some 2), .mov (.c (.lit (.slice none 0 0))), none⟩, ⟨(some 3), .mov (.c (.lit (.int .i64 0))), none⟩]) (
 .seq (
  .seq (
   .ops [⟨(some 7), .mov (.t 0), none⟩, ⟨(some 8), .call (.c (.fn (f_runes_sign N) [] [])) [(.t 7)], none⟩, ⟨(some 9), .un .not (.t 8), none⟩]) (
  .cond (.t 9) (
   .seq (
    .ops [⟨(some 2), .mov (.c (.lit (.slice none 0 0))), none⟩, ⟨(some 3), .mov (.c (.lit (.int .i64 2))), none⟩]) (
   .ret)) (
   .skip))) (
 .seq (
  .ops [⟨(some 10), .mov (.t 0), none⟩, ⟨(some 11), .call (.c (.fn (f_runes_size N) [] [])) [(.t 10)], none⟩, ⟨(some 4), .mov (.t 11), none⟩]) (
 .seq (
  .seq (
   .ops [⟨(some 12), .mov (.t 4), none⟩, ⟨(some 13), .eq false .pint (.t 12) (.c (.lit (.int .i64 1))), none⟩]) (
  .cond (.t 13) (
   .seq (
    .ops [⟨(some 14), .mov (.t 0), none⟩, ⟨(some 15), .conv (.toInt .u8) (.t 14), none⟩, ⟨(some 16), .bslice (t_uint8 N) 1 none 1 [(.lit (.int .u8 0))] [(0, 1, (.t 15))], none⟩, ⟨(some 2), .mov (.t 16), none⟩, ⟨(some 3), .mov (.c (.lit (.int .i64 0))), none⟩]) (
   .ret)) (
   .skip))) (
 .seq (
  .ops [⟨(some 17), .mov (.t 4), none⟩, ⟨(some 18), .mkslice (t_uint8 N) 1 1 (.lit (.int .u8 0)) (.t 17) (.t 17), none⟩, ⟨(some 5), .mov (.t 18), none⟩]) (
 .seq (
  .seq (
   .ops [⟨(some 19), .mov (.t 4), none⟩, ⟨(some 20), .bin .sub (.t 19) (.c (.lit (.int .i64 1))), none⟩, ⟨(some 6), .mov (.t 20), none⟩]) (
  .block 0 (
   .loop (L_runes_Encode_1 N)))) (K_runes_Encode_1 N)))))), true⟩

def L_runes_Where_1 (N : Nat → Nat) : AC :=
    .seq (
     .ops [⟨(some 8), .mov (.t 17), none⟩]) (
    .ops [⟨(some 9), .mov (.t 18), none⟩])
def L_runes_Where_2 (N : Nat → Nat) : AC :=
    .block 1 (
     .seq (
      .seq (
       .ops [⟨(some 19), .mov (.t 8), none⟩, ⟨(some 20), .load none (.t 3), none⟩, ⟨(some 21), .bin .geq (.t 19) (.t 20), none⟩]) (
      .cond (.t 21) (
       .seq (
        .dops 9 [⟨(some 22), .load none (.t 4), none⟩, ⟨(some 23), .load none (.t 5), none⟩, ⟨none, .store 1 (.t 4) (.t 22), none⟩, ⟨none, .store 1 (.t 5) (.t 23), none⟩] [2, 2, 0, 0] [(5, 4)]) (
       .ret)) (
       .skip))) (
     .seq (
      .ops [⟨(some 24), .load none (.t 6), none⟩, ⟨(some 25), .mov (.t 9), none⟩, ⟨(some 26), .call (.t 24) [(.t 25)], none⟩]) (
     .ops [⟨(some 27), .mov (.t 8), none⟩, ⟨(some 28), .mov (.t 9), none⟩, ⟨(some 29), .call (.c (.fn (f_runes_size N) [] [])) [(.t 28)], none⟩, ⟨(some 30), .bin .add (.t 27) (.t 29), none⟩, ⟨none, .store 1 (.t 7) (.t 30), none⟩])))
def L_runes_Where_3 (N : Nat → Nat) : AC :=
    .seq (
     .seq (
      .ops [⟨(some 31), .load none (.t 7), none⟩, ⟨(some 32), .load none (.t 3), none⟩, ⟨(some 33), .bin .lss (.t 31) (.t 32), none⟩]) (
     .cond (.t 33) (
      .skip) (
      .exit 2))) (
    .seq (
     .block 3 (
      .dops 14 [⟨(some 36), .load none (.t 6), none⟩, ⟨(some 37), .mov (.t 0), none⟩, ⟨(some 38), .load none (.t 7), none⟩, ⟨(some 39), .iaddr 1 (.t 37) (.t 38), none⟩, ⟨(some 40), .load none (.t 39), none⟩, ⟨(some 41), .conv (.toInt .i32) (.t 40), none⟩, ⟨(some 42), .call (.t 36) [(.t 41)], none⟩] [2, 0, 2, 0, 2, 0, 0] [])) (
    .ops [⟨(some 34), .load none (.t 7), none⟩, ⟨(some 35), .bin .add (.t 34) (.c (.lit (.int .i64 1))), none⟩, ⟨none, .store 1 (.t 7) (.t 35), none⟩]))
def K_runes_Where_2 (N : Nat → Nat) : AC :=
 .seq (
  .dops 15 [⟨(some 43), .load none (.t 4), none⟩, ⟨(some 44), .load none (.t 5), none⟩, ⟨none, .store 1 (.t 4) (.t 43), none⟩, ⟨none, .store 1 (.t 5) (.t 44), none⟩] [2, 2, 0, 0] [(5, 4)]) (
 .ret)
def K_runes_Where_1 (N : Nat → Nat) : AC :=
 .seq (
  .block 2 (
   .loop (L_runes_Where_3 N))) (K_runes_Where_2 N)
/-- azimuth/runes.Where -/
def C_runes_Where (N : Nat → Nat) : AFunc := ⟨45, [.inr (4, none), .inr (5, none)],
 .seq (
  .ops [⟨(some 3), .box (t_int N) (.t 1), none⟩, ⟨(some 4), .new (t_int N) (.lit (.int .i64 0)), none⟩, ⟨(some 5), .new (t_int N) (.lit (.int .i64 0)), none⟩]) (
 .seq (
  .ops [⟨none, .store 1 (.t 4) (.c (.lit (.int .i64 1))), none⟩, ⟨none, .store 1 (.t 5) (.c (.lit (.int .i64 1))), none⟩]) (
 .seq (
  .ops [⟨(some 10), .load none (.t 3), none⟩, ⟨(some 11), .mov (.t 0), none⟩, ⟨(some 12), .len (.t 11), none⟩, ⟨(some 13), .mnmx false [(.t 10), (.t 12)], none⟩, ⟨none, .store 1 (.t 3) (.t 13), none⟩]) (
 .seq (
  .ops [⟨(some 14), .mkfn (f_runes_Where_1 N) [] [(.t 5), (.t 4)], none⟩, ⟨(some 6), .new (t_func_int32 N) (.lit .nilFunc), none⟩, ⟨none, .store 1 (.t 6) (.t 14), none⟩]) (
 .seq (
  .ops [⟨(some 7), .new (t_int N) (.lit (.int .i64 0)), none⟩, ⟨none, .store 1 (.t 7) (.c (.lit (.int .i64 0))), none⟩]) (
 .seq (
  .seq (
   .ops [⟨(some 15), .mov (.t 0), none⟩, ⟨(some 16), .call (.c (.fn (f_runes_All N) [] [])) [(.t 15)], none⟩]) (
  .block 0 (
   .rangeFn (.t 16) [17, 18] (L_runes_Where_1 N) (L_runes_Where_2 N)))) (K_runes_Where_1 N)))))), false⟩

/-- azimuth/runes.Where$1 -/
def C_runes_Where_1 (N : Nat → Nat) : AFunc := ⟨10, [],
 .seq (
  .ops [⟨(some 4), .load none (.t 1), none⟩, ⟨(some 5), .bin .add (.t 4) (.c (.lit (.int .i64 1))), none⟩, ⟨none, .store 1 (.t 1) (.t 5), none⟩]) (
 .seq (
  .ops [⟨(some 6), .mov (.t 0), none⟩, ⟨(some 7), .eq false .pint (.t 6) (.c (.lit (.int .i32 10))), none⟩]) (
 .cond (.t 7) (
  .seq (
   .ops [⟨(some 8), .load none (.t 2), none⟩, ⟨(some 9), .bin .add (.t 8) (.c (.lit (.int .i64 1))), none⟩, ⟨none, .store 1 (.t 2) (.t 9), none⟩]) (
  .ops [⟨none, .store 1 (.t 1) (.c (.lit (.int .i64 1))), none⟩])) (
  .skip))), false⟩

def L_runes_first_1 (N : Nat → Nat) : AC :=
    .seq (
     .seq (
      .ops [⟨(some 19), .mov (.t 4), none⟩, ⟨(some 20), .bin .lss (.t 19) (.c (.lit (.int .i64 4))), none⟩, ⟨(some 21), .mov (.t 20), none⟩, ⟨(some 22), .mov (.t 0), (some (21, true))⟩, ⟨(some 23), .iaddr 1 (.t 22) (.c (.lit (.int .i64 0))), (some (21, true))⟩, ⟨(some 24), .load none (.t 23), (some (21, true))⟩, ⟨(some 25), .mov (.t 4), (some (21, true))⟩, ⟨(some 26), .bin .shl (.t 24) (.t 25), (some (21, true))⟩, ⟨(some 27), .bin .and (.t 26) (.c (.lit (.int .u8 128))), (some (21, true))⟩, ⟨(some 28), .eq true .pint (.t 27) (.c (.lit (.int .u8 0))), (some (21, true))⟩, ⟨(some 29), .pick (.t 21) (.t 28) (.c (.lit (.bool false))), none⟩]) (
     .cond (.t 29) (
      .skip) (
      .exit 0))) (
    .block 1 (
     .ops [⟨(some 30), .mov (.t 4), none⟩, ⟨(some 31), .bin .add (.t 30) (.c (.lit (.int .i64 1))), none⟩, ⟨(some 4), .mov (.t 31), none⟩]))
def L_runes_first_2 (N : Nat → Nat) : AC :=
    .seq (
     .ops [⟨(some 58), .bin .lss (.t 57) (.t 56), none⟩]) (
    .seq (
     .cond (.t 58) (
      .skip) (
      .exit 2)) (
    .seq (
     .block 3 (
      .seq (
       .ops [⟨(some 59), .iaddr 1 (.t 55) (.t 57), none⟩, ⟨(some 60), .load none (.t 59), none⟩, ⟨(some 7), .mov (.t 60), none⟩]) (
      .seq (
       .seq (
        .ops [⟨(some 61), .mov (.t 7), none⟩, ⟨(some 62), .bin .and (.t 61) (.c (.lit (.int .u8 192))), none⟩, ⟨(some 63), .eq true .pint (.t 62) (.c (.lit (.int .u8 128))), none⟩]) (
       .cond (.t 63) (
        .seq (
         .ops [⟨(some 2), .mov (.c (.lit (.int .i32 0))), none⟩, ⟨(some 3), .mov (.c (.lit (.int .i64 0))), none⟩]) (
        .ret)) (
        .skip))) (
      .ops [⟨(some 64), .mov (.t 5), none⟩, ⟨(some 65), .bin .shl (.t 64) (.c (.lit (.int .u64 6))), none⟩, ⟨(some 66), .mov (.t 7), none⟩, ⟨(some 67), .bin .and (.t 66) (.c (.lit (.int .u8 63))), none⟩, ⟨(some 68), .conv (.toInt .i32) (.t 67), none⟩, ⟨(some 69), .bin .or (.t 65) (.t 68), none⟩, ⟨(some 5), .mov (.t 69), none⟩])))) (
    .ops [⟨(some 70), .bin .add (.t 57) (.c (.lit (.int .i64 1))), none⟩, ⟨(some 57), .mov (.t 70), none⟩])))
def K_runes_first_2 (N : Nat → Nat) : AC :=
 .seq (
  .seq (
   .ops [⟨(some 71), .mov (.t 5), none⟩, ⟨(some 72), .call (.c (.fn (f_runes_sign N) [] [])) [(.t 71)], none⟩, ⟨(some 73), .un .not (.t 72), none⟩, ⟨(some 74), .mov (.t 73), none⟩, ⟨(some 75), .mov (.t 5), (some (74, false))⟩, ⟨(some 76), .call (.c (.fn (f_runes_size N) [] [])) [(.t 75)], (some (74, false))⟩, ⟨(some 77), .mov (.t 4), (some (74, false))⟩, ⟨(some 78), .eq true .pint (.t 76) (.t 77), (some (74, false))⟩, ⟨(some 79), .pick (.t 74) (.c (.lit (.bool true))) (.t 78), none⟩]) (
  .cond (.t 79) (
   .seq (
    .ops [⟨(some 2), .mov (.c (.lit (.int .i32 0))), none⟩, ⟨(some 3), .mov (.c (.lit (.int .i64 0))), none⟩]) (
   .ret)) (
   .skip))) (
 .seq (
  .ops [⟨(some 80), .mov (.t 5), none⟩, ⟨(some 81), .mov (.t 4), none⟩, ⟨(some 2), .mov (.t 80), none⟩, ⟨(some 3), .mov (.t 81), none⟩]) (
 .ret))
def K_runes_first_1 (N : Nat → Nat) : AC :=
 .seq (
  .seq (
   .ops [⟨(some 32), .mov (.t 4), none⟩, ⟨(some 33), .bin .lss (.t 32) (.c (.lit (.int .i64 2))), none⟩, ⟨(some 34), .mov (.t 33), none⟩, ⟨(some 35), .mov (.t 0), (some (34, false))⟩, ⟨(some 36), .len (.t 35), (some (34, false))⟩, ⟨(some 37), .mov (.t 4), (some (34, false))⟩, ⟨(some 38), .bin .lss (.t 36) (.t 37), (some (34, false))⟩, ⟨(some 39), .pick (.t 34) (.c (.lit (.bool true))) (.t 38), none⟩, ⟨(some 40), .mov (.t 39), none⟩, ⟨(some 41), .mov (.t 0), (some (40, false))⟩, ⟨(some 42), .iaddr 1 (.t 41) (.c (.lit (.int .i64 0))), (some (40, false))⟩, ⟨(some 43), .load none (.t 42), (some (40, false))⟩, ⟨(some 44), .bin .geq (.t 43) (.c (.lit (.int .u8 248))), (some (40, false))⟩, ⟨(some 45), .pick (.t 40) (.c (.lit (.bool true))) (.t 44), none⟩]) (
  .cond (.t 45) (
   .seq (
    .ops [⟨(some 2), .mov (.c (.lit (.int .i32 0))), none⟩, ⟨(some 3), .mov (.c (.lit (.int .i64 0))), none⟩]) (
   .ret)) (
   .skip))) (
 .seq (
  .dops 10 [⟨(some 46), .mov (.t 0), none⟩, ⟨(some 47), .iaddr 1 (.t 46) (.c (.lit (.int .i64 0))), none⟩, ⟨(some 48), .load none (.t 47), none⟩, ⟨(some 49), .mov (.t 4), none⟩, ⟨(some 50), .bin .shr (.c (.lit (.int .u8 127))) (.t 49), none⟩, ⟨(some 51), .bin .and (.t 48) (.t 50), none⟩, ⟨(some 52), .conv (.toInt .i32) (.t 51), none⟩, ⟨(some 5), .mov (.t 52), none⟩] [0, 0, 0, 0, 0, 0, 0, 0] []) (
 .seq (
  .seq (
   .ops [⟨(some 53), .mov (.t 0), none⟩, ⟨(some 54), .mov (.t 4), none⟩, ⟨(some 55), .slice 1 (.t 53) (some (.c (.lit (.int .i64 1)))) (some (.t 54)), none⟩, ⟨(some 56), .len (.t 55), none⟩, ⟨(some 57), .mov (.c (.lit (.int .i64 0))), none⟩]) (
  .block 2 (
   .loop (L_runes_first_2 N)))) (K_runes_first_2 N)))
/-- azimuth/runes.first -/
def C_runes_first (N : Nat → Nat) : AFunc := ⟨82, [.inl 2, .inl 3],
 .seq (
  .ops [⟨(some 2), .mov (.c (.lit (.int .i32 0))), none⟩, ⟨(some 3), .mov (.c (.lit (.int .i64 0))), none⟩]) (
 .seq (
  .seq (
   .ops [⟨(some 8), .mov (.t 0), none⟩, ⟨(some 9), .len (.t 8), none⟩, ⟨(some 10), .eq false .pint (.t 9) (.c (.lit (.int .i64 0))), none⟩]) (
  .cond (.t 10) (
   .seq (
    .ops [⟨(some 2), .mov (.c (.lit (.int .i32 0))), none⟩, ⟨(some 3), .mov (.c (.lit (.int .i64 0))), none⟩]) (
   .ret)) (
   .skip))) (
 .seq (
  .seq (
   .ops [⟨(some 11), .mov (.t 0), none⟩, ⟨(some 12), .iaddr 1 (.t 11) (.c (.lit (.int .i64 0))), none⟩, ⟨(some 13), .load none (.t 12), none⟩, ⟨(some 14), .bin .lss (.t 13) (.c (.lit (.int .u8 128))), none⟩]) (
  .cond (.t 14) (
   .seq (
    .ops [⟨(some 15), .mov (.t 0), none⟩, ⟨(some 16), .iaddr 1 (.t 15) (.c (.lit (.int .i64 0))), none⟩, ⟨(some 17), .load none (.t 16), none⟩, ⟨(some 18), .conv (.toInt .i32) (.t 17), none⟩, ⟨(some 2), .mov (.t 18), none⟩, ⟨(some 3), .mov (.c (.lit (.int .i64 1))), none⟩]) (
   .ret)) (
   .skip))) (
 .seq (
  .ops [⟨(some 4), .mov (.c (.lit (.int .i64 0))), none⟩]) (
 .seq (
  .block 0 (
   .loop (L_runes_first_1 N))) (K_runes_first_1 N))))), false⟩

/-- azimuth/runes.sign -/
def C_runes_sign (N : Nat → Nat) : AFunc := ⟨17, [.inl 2],
 .seq (
  .ops [⟨(some 2), .mov (.c (.lit (.bool false))), none⟩]) (
 .seq (
  .ops [⟨(some 3), .mov (.t 0), none⟩, ⟨(some 4), .bin .geq (.t 3) (.c (.lit (.int .i32 0))), none⟩, ⟨(some 5), .mov (.t 4), none⟩, ⟨(some 6), .mov (.t 0), (some (5, true))⟩, ⟨(some 7), .bin .lss (.t 6) (.c (.lit (.int .i32 1114112))), (some (5, true))⟩, ⟨(some 8), .pick (.t 5) (.t 7) (.c (.lit (.bool false))), none⟩, ⟨(some 9), .mov (.t 8), none⟩, ⟨(some 10), .mov (.t 0), (some (9, true))⟩, ⟨(some 11), .bin .lss (.t 10) (.c (.lit (.int .i32 55296))), (some (9, true))⟩, ⟨(some 12), .mov (.t 11), (some (9, true))⟩, ⟨(some 13), .mov (.t 0), (some (12, false))⟩, ⟨(some 14), .bin .gtr (.t 13) (.c (.lit (.int .i32 57343))), (some (12, false))⟩, ⟨(some 15), .pick (.t 12) (.c (.lit (.bool true))) (.t 14), (some (9, true))⟩, ⟨(some 16), .pick (.t 9) (.t 15) (.c (.lit (.bool false))), none⟩, ⟨(some 2), .mov (.t 16), none⟩]) (
 .ret)), false⟩

/-- azimuth/runes.size -/
def C_runes_size (N : Nat → Nat) : AFunc := ⟨12, [.inl 2],
 .seq (
  .ops [⟨(some 2), .mov (.c (.lit (.int .i64 0))), none⟩]) (
 .seq (
  .block 0 (
   .seq (
    .ops [⟨(some 4), .mov (.t 0), none⟩, ⟨(some 5), .bin .lss (.t 4) (.c (.lit (.int .i32 128))), none⟩, ⟨(some 3), .mov (.t 5), none⟩]) (
   .cond (.t 3) (
    .seq (
     .ops [⟨(some 2), .mov (.c (.lit (.int .i64 1))), none⟩]) (
    .ret)) (
    .seq (
     .ops [⟨(some 7), .mov (.t 0), none⟩, ⟨(some 8), .bin .lss (.t 7) (.c (.lit (.int .i32 2048))), none⟩, ⟨(some 6), .mov (.t 8), none⟩]) (
    .cond (.t 6) (
     .seq (
      .ops [⟨(some 2), .mov (.c (.lit (.int .i64 2))), none⟩]) (
     .ret)) (
     .seq (
      .ops [⟨(some 10), .mov (.t 0), none⟩, ⟨(some 11), .bin .lss (.t 10) (.c (.lit (.int .i32 65536))), none⟩, ⟨(some 9), .mov (.t 11), none⟩]) (
     .cond (.t 9) (
      .seq (
       .ops [⟨(some 2), .mov (.c (.lit (.int .i64 3))), none⟩]) (
      .ret)) (
      .skip)))))))) (
 .seq (
  .ops [⟨(some 2), .mov (.c (.lit (.int .i64 4))), none⟩]) (
 .ret))), false⟩
end Go.Proofs.Eng
