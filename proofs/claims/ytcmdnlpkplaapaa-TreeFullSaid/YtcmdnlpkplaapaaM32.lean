import Derived.Test.YtcmdnlpkplaapaaEngAF
/- Names of functions and types: N gives their numbers. Printed by tm.py. -/
namespace Go.Proofs.Eng
def f_main_main (N : Nat → Nat) : Nat := N 0
def f_gosem_cut (N : Nat → Nat) : Nat := N 1
def f_gosem_cut_init (N : Nat → Nat) : Nat := N 2
def f_law01_RunesWhere (N : Nat → Nat) : Nat := N 3
def f_law01_RunesCuts (N : Nat → Nat) : Nat := N 4
def f_law01_RunesReads (N : Nat → Nat) : Nat := N 5
def f_law01_RunesJoin (N : Nat → Nat) : Nat := N 6
def f_law01_RunesEncodes (N : Nat → Nat) : Nat := N 7
def f_law01_lives (N : Nat → Nat) : Nat := N 8
def f_runes_Where (N : Nat → Nat) : Nat := N 9
def f_ref01_Where (N : Nat → Nat) : Nat := N 10
def f_runes_Bad (N : Nat → Nat) : Nat := N 11
def f_runes_All (N : Nat → Nat) : Nat := N 12
def f_ref01_Signs (N : Nat → Nat) : Nat := N 13
def f_runes_Count (N : Nat → Nat) : Nat := N 14
def f_runes_Encode (N : Nat → Nat) : Nat := N 15
def f_ref01_Encode (N : Nat → Nat) : Nat := N 16
def f_runes_Where_1 (N : Nat → Nat) : Nat := N 17
def f_runes_size (N : Nat → Nat) : Nat := N 18
def f_runes_All_1 (N : Nat → Nat) : Nat := N 19
def f_runes_first (N : Nat → Nat) : Nat := N 20
def f_ref01_First (N : Nat → Nat) : Nat := N 21
def f_runes_sign (N : Nat → Nat) : Nat := N 22
def f_ref01_value (N : Nat → Nat) : Nat := N 23
def f_runtime_boundsError_Error (N : Nat → Nat) : Nat := N 24
def f_runtime_boundsError_RuntimeError (N : Nat → Nat) : Nat := N 25
def f_runtime_errorString_Error (N : Nat → Nat) : Nat := N 26
def f_runtime_errorString_RuntimeError (N : Nat → Nat) : Nat := N 27
def f_runtime_plainError_Error (N : Nat → Nat) : Nat := N 28
def f_runtime_plainError_RuntimeError (N : Nat → Nat) : Nat := N 29
def f_runtime_errorAddressString_Error (N : Nat → Nat) : Nat := N 30
def f_runtime_errorAddressString_RuntimeError (N : Nat → Nat) : Nat := N 31
def f_p_runtime_TypeAssertionError_Error (N : Nat → Nat) : Nat := N 32
def f_p_runtime_TypeAssertionError_RuntimeError (N : Nat → Nat) : Nat := N 33
def f_p_runtime_PanicNilError_Error (N : Nat → Nat) : Nat := N 34
def f_p_runtime_PanicNilError_RuntimeError (N : Nat → Nat) : Nat := N 35
def f_p_internal_abi_Type_Align (N : Nat → Nat) : Nat := N 36
def f_internal_runtime_maps_unhashableTypeError_Error (N : Nat → Nat) : Nat := N 37
def f_internal_runtime_maps_unhashableTypeError_RuntimeError (N : Nat → Nat) : Nat := N 38
def f_api_Errno_Error (N : Nat → Nat) : Nat := N 39
def f_internal_abi_Kind_String (N : Nat → Nat) : Nat := N 40
def f_law23_StoreFull (N : Nat → Nat) : Nat := N 41
def f_law03_LexerBlanks (N : Nat → Nat) : Nat := N 42
def f_law03_LexerReads (N : Nat → Nat) : Nat := N 43
def f_law03_LexerLong (N : Nat → Nat) : Nat := N 44
def f_law03_LexerNames (N : Nat → Nat) : Nat := N 45
def f_law03_LexerWrites (N : Nat → Nat) : Nat := N 46
def f_law23_StoreRounds (N : Nat → Nat) : Nat := N 47
def f_law23_StorePlays (N : Nat → Nat) : Nat := N 48
def f_law23_StoreNone (N : Nat → Nat) : Nat := N 49
def f_law23_lives (N : Nat → Nat) : Nat := N 50
def f_store_New (N : Nat → Nat) : Nat := N 51
def f_p_store_Store_Set (N : Nat → Nat) : Nat := N 52
def f_p_store_Store_Delete (N : Nat → Nat) : Nat := N 53
def f_law03_lives (N : Nat → Nat) : Nat := N 54
def f_lexer_Lex (N : Nat → Nat) : Nat := N 55
def f_ref03_Lex (N : Nat → Nat) : Nat := N 56
def f_ref03_Same (N : Nat → Nat) : Nat := N 57
def f_lexer_IsWord (N : Nat → Nat) : Nat := N 58
def f_ref03_IsWord (N : Nat → Nat) : Nat := N 59
def f_lexer_IsName (N : Nat → Nat) : Nat := N 60
def f_law03_write (N : Nat → Nat) : Nat := N 61
def f_law23_do (N : Nat → Nat) : Nat := N 62
def f_p_store_Store_Rename (N : Nat → Nat) : Nat := N 63
def f_law23_is (N : Nat → Nat) : Nat := N 64
def f_p_store_Store_Turn (N : Nat → Nat) : Nat := N 65
def f_p_store_Store_Copy (N : Nat → Nat) : Nat := N 66
def f_p_store_Store_Text (N : Nat → Nat) : Nat := N 67
def f_p_store_Store_All (N : Nat → Nat) : Nat := N 68
def f_p_store_Store_Len (N : Nat → Nat) : Nat := N 69
def f_slices_Clone_sl_byte_byte (N : Nat → Nat) : Nat := N 70
def f_lexer_blank (N : Nat → Nat) : Nat := N 71
def f_lexer_one (N : Nat → Nat) : Nat := N 72
def f_ref03_one (N : Nat → Nat) : Nat := N 73
def f_slices_Contains_sl_string_string (N : Nat → Nat) : Nat := N 74
def f_lexer_words (N : Nat → Nat) : Nat := N 75
def f_lexer_low (N : Nat → Nat) : Nat := N 76
def f_lexer_run (N : Nat → Nat) : Nat := N 77
def f_lexer_inName (N : Nat → Nat) : Nat := N 78
def f_lexer_Quote (N : Nat → Nat) : Nat := N 79
def f_ref04_Name (N : Nat → Nat) : Nat := N 80
def f_p_store_Store_All_1 (N : Nat → Nat) : Nat := N 81
def f_slices_Sorted_string (N : Nat → Nat) : Nat := N 82
def f_maps_Keys_map_string_sl_byte_string_sl_byte (N : Nat → Nat) : Nat := N 83
def f_strings_IndexByte (N : Nat → Nat) : Nat := N 84
def f_strings_HasPrefix (N : Nat → Nat) : Nat := N 85
def f_lexer_blank_1 (N : Nat → Nat) : Nat := N 86
def f_lexer_float (N : Nat → Nat) : Nat := N 87
def f_lexer_high (N : Nat → Nat) : Nat := N 88
def f_lexer_inAlias (N : Nat → Nat) : Nat := N 89
def f_lexer_digit (N : Nat → Nat) : Nat := N 90
def f_lexer_number (N : Nat → Nat) : Nat := N 91
def f_lexer_text (N : Nat → Nat) : Nat := N 92
def f_lexer_signs (N : Nat → Nat) : Nat := N 93
def f_ref03_hex (N : Nat → Nat) : Nat := N 94
def f_ref03_low (N : Nat → Nat) : Nat := N 95
def f_ref03_name (N : Nat → Nat) : Nat := N 96
def f_ref03_high (N : Nat → Nat) : Nat := N 97
def f_ref03_digit (N : Nat → Nat) : Nat := N 98
def f_ref03_number (N : Nat → Nat) : Nat := N 99
def f_ref03_str (N : Nat → Nat) : Nat := N 100
def f_ref03_sign (N : Nat → Nat) : Nat := N 101
def f_slices_Index_sl_string_string (N : Nat → Nat) : Nat := N 102
def f_ref04_Tag (N : Nat → Nat) : Nat := N 103
def f_slices_Collect_string (N : Nat → Nat) : Nat := N 104
def f_slices_Sort_sl_string_string (N : Nat → Nat) : Nat := N 105
def f_maps_Keys_map_string_sl_byte_string_sl_byte_1 (N : Nat → Nat) : Nat := N 106
def f_internal_stringslite_IndexByte (N : Nat → Nat) : Nat := N 107
def f_internal_stringslite_HasPrefix (N : Nat → Nat) : Nat := N 108
def f_floats_Parse (N : Nat → Nat) : Nat := N 109
def f_slices_AppendSeq_sl_string_string (N : Nat → Nat) : Nat := N 110
def f_slices_pdqsortOrdered_string (N : Nat → Nat) : Nat := N 111
def f_math_bits_Len (N : Nat → Nat) : Nat := N 112
def f_internal_bytealg_IndexByteString (N : Nat → Nat) : Nat := N 113
def f_strings_CutPrefix (N : Nat → Nat) : Nat := N 114
def f_floats_Of (N : Nat → Nat) : Nat := N 115
def f_slices_insertionSortOrdered_string (N : Nat → Nat) : Nat := N 116
def f_slices_heapSortOrdered_string (N : Nat → Nat) : Nat := N 117
def f_slices_breakPatternsOrdered_string (N : Nat → Nat) : Nat := N 118
def f_slices_choosePivotOrdered_string (N : Nat → Nat) : Nat := N 119
def f_slices_reverseRangeOrdered_string (N : Nat → Nat) : Nat := N 120
def f_slices_partialInsertionSortOrdered_string (N : Nat → Nat) : Nat := N 121
def f_cmp_Less_string (N : Nat → Nat) : Nat := N 122
def f_slices_partitionEqualOrdered_string (N : Nat → Nat) : Nat := N 123
def f_slices_partitionOrdered_string (N : Nat → Nat) : Nat := N 124
def f_math_bits_Len32 (N : Nat → Nat) : Nat := N 125
def f_math_bits_Len64 (N : Nat → Nat) : Nat := N 126
def f_internal_stringslite_CutPrefix (N : Nat → Nat) : Nat := N 127
def f_math_Float64frombits (N : Nat → Nat) : Nat := N 128
def f_slices_siftDownOrdered_string (N : Nat → Nat) : Nat := N 129
def f_slices_nextPowerOfTwo (N : Nat → Nat) : Nat := N 130
def f_p_slices_xorshift_Next (N : Nat → Nat) : Nat := N 131
def f_slices_medianAdjacentOrdered_string (N : Nat → Nat) : Nat := N 132
def f_slices_medianOrdered_string (N : Nat → Nat) : Nat := N 133
def f_cmp_isNaN_string (N : Nat → Nat) : Nat := N 134
def f_slices_order2Ordered_string (N : Nat → Nat) : Nat := N 135
def f_floats_Float_Kind (N : Nat → Nat) : Nat := N 136
def f_law24_DepsNone (N : Nat → Nat) : Nat := N 137
def f_law24_DepsStores (N : Nat → Nat) : Nat := N 138
def f_law24_lives (N : Nat → Nat) : Nat := N 139
def f_p_deps_Net_On (N : Nat → Nat) : Nat := N 140
def f_p_deps_Net_Put (N : Nat → Nat) : Nat := N 141
def f_p_deps_Net_Names (N : Nat → Nat) : Nat := N 142
def f_p_deps_Net_Missing (N : Nat → Nat) : Nat := N 143
def f_p_deps_Net_Users (N : Nat → Nat) : Nat := N 144
def f_p_deps_Net_Cone (N : Nat → Nat) : Nat := N 145
def f_deps_Of (N : Nat → Nat) : Nat := N 146
def f_ref05_Text (N : Nat → Nat) : Nat := N 147
def f_ref07_Free (N : Nat → Nat) : Nat := N 148
def f_law24_is (N : Nat → Nat) : Nat := N 149
def f_deps_New (N : Nat → Nat) : Nat := N 150
def f_law07_Same (N : Nat → Nat) : Nat := N 151
def f_slices_Clone_sl_string_string (N : Nat → Nat) : Nat := N 152
def f_slices_ContainsFunc_sl_string_string (N : Nat → Nat) : Nat := N 153
def f_p_deps_Net_Put_1 (N : Nat → Nat) : Nat := N 154
def f_slices_Compact_sl_string_string (N : Nat → Nat) : Nat := N 155
def f_maps_Keys_map_string_sl_string_string_sl_string (N : Nat → Nat) : Nat := N 156
def f_maps_Keys_map_string_bool_string_bool (N : Nat → Nat) : Nat := N 157
def f_slices_DeleteFunc_sl_string_string (N : Nat → Nat) : Nat := N 158
def f_p_deps_Net_Users_1 (N : Nat → Nat) : Nat := N 159
def f_parse_Text (N : Nat → Nat) : Nat := N 160
def f_scope_Free (N : Nat → Nat) : Nat := N 161
def f_p_ref05_Parser_take (N : Nat → Nat) : Nat := N 162
def f_p_ref05_Parser_now (N : Nat → Nat) : Nat := N 163
def f_p_ref05_Parser_text (N : Nat → Nat) : Nat := N 164
def f_p_ref05_Parser_must (N : Nat → Nat) : Nat := N 165
def f_p_ref05_Parser_Type (N : Nat → Nat) : Nat := N 166
def f_p_ref05_Parser_Term (N : Nat → Nat) : Nat := N 167
def f_p_ref05_Parser_end (N : Nat → Nat) : Nat := N 168
def f_ref07_without (N : Nat → Nat) : Nat := N 169
def f_ref07_join (N : Nat → Nat) : Nat := N 170
def f_law24_insert (N : Nat → Nat) : Nat := N 171
def f_slices_IndexFunc_sl_string_string (N : Nat → Nat) : Nat := N 172
def f_maps_Keys_map_string_sl_string_string_sl_string_1 (N : Nat → Nat) : Nat := N 173
def f_maps_Keys_map_string_bool_string_bool_1 (N : Nat → Nat) : Nat := N 174
def f_parse_run (N : Nat → Nat) : Nat := N 175
def f_parse_Text_1 (N : Nat → Nat) : Nat := N 176
def f_p_parse_reader_skip (N : Nat → Nat) : Nat := N 177
def f_p_parse_reader_kind (N : Nat → Nat) : Nat := N 178
def f_p_parse_reader_need (N : Nat → Nat) : Nat := N 179
def f_p_tree_Builder_Alias (N : Nat → Nat) : Nat := N 180
def f_p_parse_reader_typ (N : Nat → Nat) : Nat := N 181
def f_p_parse_reader_term (N : Nat → Nat) : Nat := N 182
def f_tree_Check (N : Nat → Nat) : Nat := N 183
def f_scope_ups (N : Nat → Nat) : Nat := N 184
def f_scope_binder (N : Nat → Nat) : Nat := N 185
def f_p_ref05_Parser_see (N : Nat → Nat) : Nat := N 186
def f_p_ref05_Parser_on (N : Nat → Nat) : Nat := N 187
def f_p_ref05_Parser_bad (N : Nat → Nat) : Nat := N 188
def f_p_ref05_Parser_stop (N : Nat → Nat) : Nat := N 189
def f_p_ref05_Parser_simple (N : Nat → Nat) : Nat := N 190
def f_p_ref05_Parser_typ (N : Nat → Nat) : Nat := N 191
def f_p_ref05_Parser_inner (N : Nat → Nat) : Nat := N 192
def f_ref07_insert (N : Nat → Nat) : Nat := N 193
def f_parse_run_1 (N : Nat → Nat) : Nat := N 194
def f_tree_New (N : Nat → Nat) : Nat := N 195
def f_p_tree_Builder_Tree (N : Nat → Nat) : Nat := N 196
def f_p_parse_reader_is (N : Nat → Nat) : Nat := N 197
def f_p_parse_reader_next (N : Nat → Nat) : Nat := N 198
def f_p_parse_reader_now (N : Nat → Nat) : Nat := N 199
def f_parse_wrong (N : Nat → Nat) : Nat := N 200
def f_p_parse_reader_enter (N : Nat → Nat) : Nat := N 201
def f_p_parse_reader_leave (N : Nat → Nat) : Nat := N 202
def f_p_parse_reader_simple (N : Nat → Nat) : Nat := N 203
def f_p_parse_reader_putType (N : Nat → Nat) : Nat := N 204
def f_p_parse_reader_put (N : Nat → Nat) : Nat := N 205
def f_p_parse_reader_arms (N : Nat → Nat) : Nat := N 206
def f_p_parse_reader_compare (N : Nat → Nat) : Nat := N 207
def f_tree_term (N : Nat → Nat) : Nat := N 208
def f_tree_uses_note (N : Nat → Nat) : Nat := N 209
def f_tree_typ (N : Nat → Nat) : Nat := N 210
def f_tree_alias (N : Nat → Nat) : Nat := N 211
def f_tree_Check_1 (N : Nat → Nat) : Nat := N 212
def f_slices_ContainsFunc_tree_uses_int (N : Nat → Nat) : Nat := N 213
def f_scope_binds (N : Nat → Nat) : Nat := N 214
def f_p_ref05_Parser_fresh (N : Nat → Nat) : Nat := N 215
def f_p_ref05_Parser_term (N : Nat → Nat) : Nat := N 216
def f_p_ref05_Parser_level (N : Nat → Nat) : Nat := N 217
def f_tree_Clone (N : Nat → Nat) : Nat := N 218
def f_parse_basic (N : Nat → Nat) : Nat := N 219
def f_p_parse_reader_fields (N : Nat → Nat) : Nat := N 220
def f_p_parse_reader_simple_1 (N : Nat → Nat) : Nat := N 221
def f_p_parse_reader_items (N : Nat → Nat) : Nat := N 222
def f_p_tree_Builder_Type (N : Nat → Nat) : Nat := N 223
def f_p_tree_Builder_Term (N : Nat → Nat) : Nat := N 224
def f_parse_once (N : Nat → Nat) : Nat := N 225
def f_p_parse_reader_join (N : Nat → Nat) : Nat := N 226
def f_tree_shapes (N : Nat → Nat) : Nat := N 227
def f_tree_named (N : Nat → Nat) : Nat := N 228
def f_tree_text (N : Nat → Nat) : Nat := N 229
def f_tree_once (N : Nat → Nat) : Nat := N 230
def f_tree_all (N : Nat → Nat) : Nat := N 231
def f_tree_tag (N : Nat → Nat) : Nat := N 232
def f_slices_IndexFunc_tree_uses_int (N : Nat → Nat) : Nat := N 233
def f_p_ref05_Parser_apply (N : Nat → Nat) : Nat := N 234
def f_p_ref05_Parser_signs (N : Nat → Nat) : Nat := N 235
def f_slices_Clone_sl_api_Alias_api_Alias (N : Nat → Nat) : Nat := N 236
def f_tree_cloneTerm (N : Nat → Nat) : Nat := N 237
def f_tree_cloneType (N : Nat → Nat) : Nat := N 238
def f_p_parse_reader_row (N : Nat → Nat) : Nat := N 239
def f_p_parse_reader_sum (N : Nat → Nat) : Nat := N 240
def f_tree_halves (N : Nat → Nat) : Nat := N 241
def f_tree_ops (N : Nat → Nat) : Nat := N 242
def f_slices_ContainsFunc_sl_byte_byte (N : Nat → Nat) : Nat := N 243
def f_tree_text_1 (N : Nat → Nat) : Nat := N 244
def f_tree_all_1 (N : Nat → Nat) : Nat := N 245
def f_p_ref05_Parser_unit (N : Nat → Nat) : Nat := N 246
def f_slices_Clone_sl_int_int (N : Nat → Nat) : Nat := N 247
def f_p_parse_reader_product (N : Nat → Nat) : Nat := N 248
def f_slices_IndexFunc_sl_byte_byte (N : Nat → Nat) : Nat := N 249
def f_p_ref05_Parser_post (N : Nat → Nat) : Nat := N 250
def f_p_parse_reader_apply (N : Nat → Nat) : Nat := N 251
def f_p_ref05_Parser_atom (N : Nat → Nat) : Nat := N 252
def f_p_parse_reader_unit (N : Nat → Nat) : Nat := N 253
def f_p_parse_reader_begins (N : Nat → Nat) : Nat := N 254
def f_ref05_number (N : Nat → Nat) : Nat := N 255
def f_ref05_bits (N : Nat → Nat) : Nat := N 256
def f_p_parse_reader_post (N : Nat → Nat) : Nat := N 257
def f_p_parse_reader_atom (N : Nat → Nat) : Nat := N 258
def f_strconv_ParseInt (N : Nat → Nat) : Nat := N 259
def f_p_parse_reader_round (N : Nat → Nat) : Nat := N 260
def f_p_parse_reader_atom_1 (N : Nat → Nat) : Nat := N 261
def f_internal_strconv_ParseInt (N : Nat → Nat) : Nat := N 262
def f_strconv_toError (N : Nat → Nat) : Nat := N 263
def f_internal_strconv_ParseUint (N : Nat → Nat) : Nat := N 264
def f_strconv_syntaxError (N : Nat → Nat) : Nat := N 265
def f_strconv_rangeError (N : Nat → Nat) : Nat := N 266
def f_strconv_baseError (N : Nat → Nat) : Nat := N 267
def f_strconv_bitSizeError (N : Nat → Nat) : Nat := N 268
def f_internal_strconv_lower (N : Nat → Nat) : Nat := N 269
def f_internal_strconv_underscoreOK (N : Nat → Nat) : Nat := N 270
def f_internal_stringslite_Clone (N : Nat → Nat) : Nat := N 271
def f_errors_New (N : Nat → Nat) : Nat := N 272
def f_strconv_Itoa (N : Nat → Nat) : Nat := N 273
def f_internal_strconv_Itoa (N : Nat → Nat) : Nat := N 274
def f_internal_strconv_FormatInt (N : Nat → Nat) : Nat := N 275
def f_internal_strconv_small (N : Nat → Nat) : Nat := N 276
def f_internal_strconv_numDigits (N : Nat → Nat) : Nat := N 277
def f_internal_strconv_formatBase10 (N : Nat → Nat) : Nat := N 278
def f_internal_strconv_formatBits (N : Nat → Nat) : Nat := N 279
def f_internal_strconv_log10Pow2 (N : Nat → Nat) : Nat := N 280
def f_internal_strconv_bool2_int (N : Nat → Nat) : Nat := N 281
def f_internal_strconv_isPowerOfTwo (N : Nat → Nat) : Nat := N 282
def f_math_bits_TrailingZeros (N : Nat → Nat) : Nat := N 283
def f_math_bits_TrailingZeros32 (N : Nat → Nat) : Nat := N 284
def f_math_bits_TrailingZeros64 (N : Nat → Nat) : Nat := N 285
def f_internal_strconv_Error_Error (N : Nat → Nat) : Nat := N 286
def f_p_strconv_NumError_Error (N : Nat → Nat) : Nat := N 287
def f_p_errors_errorString_Error (N : Nat → Nat) : Nat := N 288
def f_var_s_door_gosem_cut_vars_holds_initialisers_alone_see_the_manifest_s_row_cutvarsword_look_11_test_files_too (N : Nat → Nat) : Nat := N 289
def f_var_s_door_internal_strconv_uint64pow10_is_laid_by_its_own_initialiser_plain_data_look_11 (N : Nat → Nat) : Nat := N 290
def f_var_s_door_math_bits_deBruijn32tab_is_laid_by_its_own_initialiser_plain_data_look_11 (N : Nat → Nat) : Nat := N 291
def f_var_s_door_math_bits_deBruijn64tab_is_laid_by_its_own_initialiser_plain_data_look_11 (N : Nat → Nat) : Nat := N 292
def f_var_s_door_strconv_ErrRange_is_laid_by_its_own_call_of_errors_New_on_one_literal_look_11 (N : Nat → Nat) : Nat := N 293
def f_var_s_door_strconv_ErrSyntax_is_laid_by_its_own_call_of_errors_New_on_one_literal_look_11 (N : Nat → Nat) : Nat := N 294
def f_var_s_door_the_look_of_gosem_cut_vars_went_over_the_folder_that_the_caller_named_as_the_repository_s_root_look_11 (N : Nat → Nat) : Nat := N 295
def f_gosem_cut_vars (N : Nat → Nat) : Nat := N 296
def f_law13_SolveAgain (N : Nat → Nat) : Nat := N 297
def f_law13_SolveOrder (N : Nat → Nat) : Nat := N 298
def f_law13_SolveLevels (N : Nat → Nat) : Nat := N 299
def f_law13_SolveRaises (N : Nat → Nat) : Nat := N 300
def f_law13_SolveTells (N : Nat → Nat) : Nat := N 301
def f_law14_LiftApart (N : Nat → Nat) : Nat := N 302
def f_law14_LiftRefuses (N : Nat → Nat) : Nat := N 303
def f_law14_LiftCounts (N : Nat → Nat) : Nat := N 304
def f_law14_LiftReach (N : Nat → Nat) : Nat := N 305
def f_law13_lives (N : Nat → Nat) : Nat := N 306
def f_law13_Made (N : Nat → Nat) : Nat := N 307
def f_solve_New (N : Nat → Nat) : Nat := N 308
def f_law13_claims (N : Nat → Nat) : Nat := N 309
def f_p_solve_Solver_Claim (N : Nat → Nat) : Nat := N 310
def f_p_arena_Arena_IsVar (N : Nat → Nat) : Nat := N 311
def f_p_arena_Arena_Len (N : Nat → Nat) : Nat := N 312
def f_p_arena_Arena_Low (N : Nat → Nat) : Nat := N 313
def f_p_arena_Arena_Level (N : Nat → Nat) : Nat := N 314
def f_p_arena_Arena_High (N : Nat → Nat) : Nat := N 315
def f_solve_Raise (N : Nat → Nat) : Nat := N 316
def f_ref13_Holds (N : Nat → Nat) : Nat := N 317
def f_p_solve_Solver_Clash (N : Nat → Nat) : Nat := N 318
def f_p_solve_Solver_Claims (N : Nat → Nat) : Nat := N 319
def f_law14_lives (N : Nat → Nat) : Nat := N 320
def f_law14_bounded (N : Nat → Nat) : Nat := N 321
def f_lift_Fresh (N : Nat → Nat) : Nat := N 322
def f_p_arena_Arena_Head (N : Nat → Nat) : Nat := N 323
def f_arena_New (N : Nat → Nat) : Nat := N 324
def f_p_arena_Arena_Var (N : Nat → Nat) : Nat := N 325
def f_lift_Reach (N : Nat → Nat) : Nat := N 326
def f_lift_Free (N : Nat → Nat) : Nat := N 327
def f_p_arena_Arena_At (N : Nat → Nat) : Nat := N 328
def f_law08_Few (N : Nat → Nat) : Nat := N 329
def f_ref08_Right (N : Nat → Nat) : Nat := N 330
def f_p_solve_Solver_ask (N : Nat → Nat) : Nat := N 331
def f_p_solve_Solver_step (N : Nat → Nat) : Nat := N 332
def f_p_arena_Arena_there (N : Nat → Nat) : Nat := N 333
def f_p_solve_raiser_part (N : Nat → Nat) : Nat := N 334
def f_ref13_asks (N : Nat → Nat) : Nat := N 335
def f_p_lift_maker_part (N : Nat → Nat) : Nat := N 336
def f_p_arena_Arena_right (N : Nat → Nat) : Nat := N 337
def f_p_arena_Arena_room (N : Nat → Nat) : Nat := N 338
def f_arena_clone (N : Nat → Nat) : Nat := N 339
def f_slices_Sort_sl_int_int (N : Nat → Nat) : Nat := N 340
def f_p_solve_Solver_bind (N : Nat → Nat) : Nat := N 341
def f_p_solve_Solver_heads (N : Nat → Nat) : Nat := N 342
def f_p_solve_raiser_variable (N : Nat → Nat) : Nat := N 343
def f_ref13_find (N : Nat → Nat) : Nat := N 344
def f_p_lift_maker_variable (N : Nat → Nat) : Nat := N 345
def f_p_lift_maker_row (N : Nat → Nat) : Nat := N 346
def f_graph_Check (N : Nat → Nat) : Nat := N 347
def f_slices_pdqsortOrdered_int (N : Nat → Nat) : Nat := N 348
def f_p_arena_Arena_Bound (N : Nat → Nat) : Nat := N 349
def f_p_solve_Solver_variants (N : Nat → Nat) : Nat := N 350
def f_solve_kid (N : Nat → Nat) : Nat := N 351
def f_solve_way (N : Nat → Nat) : Nat := N 352
def f_graph_head (N : Nat → Nat) : Nat := N 353
def f_slices_insertionSortOrdered_int (N : Nat → Nat) : Nat := N 354
def f_slices_heapSortOrdered_int (N : Nat → Nat) : Nat := N 355
def f_slices_breakPatternsOrdered_int (N : Nat → Nat) : Nat := N 356
def f_slices_choosePivotOrdered_int (N : Nat → Nat) : Nat := N 357
def f_slices_reverseRangeOrdered_int (N : Nat → Nat) : Nat := N 358
def f_slices_partialInsertionSortOrdered_int (N : Nat → Nat) : Nat := N 359
def f_cmp_Less_int (N : Nat → Nat) : Nat := N 360
def f_slices_partitionEqualOrdered_int (N : Nat → Nat) : Nat := N 361
def f_slices_partitionOrdered_int (N : Nat → Nat) : Nat := N 362
def f_p_solve_Solver_any (N : Nat → Nat) : Nat := N 363
def f_slices_BinarySearch_sl_string_string (N : Nat → Nat) : Nat := N 364
def f_graph_rising (N : Nat → Nat) : Nat := N 365
def f_graph_typed (N : Nat → Nat) : Nat := N 366
def f_slices_siftDownOrdered_int (N : Nat → Nat) : Nat := N 367
def f_slices_medianAdjacentOrdered_int (N : Nat → Nat) : Nat := N 368
def f_slices_medianOrdered_int (N : Nat → Nat) : Nat := N 369
def f_cmp_isNaN_int (N : Nat → Nat) : Nat := N 370
def f_slices_isNaN_string (N : Nat → Nat) : Nat := N 371
def f_slices_order2Ordered_int (N : Nat → Nat) : Nat := N 372
def f_law04_TreeChecks (N : Nat → Nat) : Nat := N 373
def f_law04_lives (N : Nat → Nat) : Nat := N 374
def f_law04_Few (N : Nat → Nat) : Nat := N 375
def f_ref04_Right (N : Nat → Nat) : Nat := N 376
def f_tree_Depth (N : Nat → Nat) : Nat := N 377
def f_law04_all (N : Nat → Nat) : Nat := N 378
def f_tree_Walk (N : Nat → Nat) : Nat := N 379
def f_tree_Same (N : Nat → Nat) : Nat := N 380
def f_ref04_Walk (N : Nat → Nat) : Nat := N 381
def f_ref04_Depth (N : Nat → Nat) : Nat := N 382
def f_law04_same (N : Nat → Nat) : Nat := N 383
def f_ref04_term (N : Nat → Nat) : Nat := N 384
def f_ref04_below (N : Nat → Nat) : Nat := N 385
def f_ref04_typ (N : Nat → Nat) : Nat := N 386
def f_ref04_Alias (N : Nat → Nat) : Nat := N 387
def f_ref04_uses (N : Nat → Nat) : Nat := N 388
def f_tree_Walk_1 (N : Nat → Nat) : Nat := N 389
def f_slices_Backward_sl_int_int (N : Nat → Nat) : Nat := N 390
def f_tree_two_types (N : Nat → Nat) : Nat := N 391
def f_tree_two_terms (N : Nat → Nat) : Nat := N 392
def f_ref04_depthTerm (N : Nat → Nat) : Nat := N 393
def f_ref04_depthType (N : Nat → Nat) : Nat := N 394
def f_ref04_text (N : Nat → Nat) : Nat := N 395
def f_ref02_Parts (N : Nat → Nat) : Nat := N 396
def f_ref04_op (N : Nat → Nat) : Nat := N 397
def f_ref04_names (N : Nat → Nat) : Nat := N 398
def f_ref04_once (N : Nat → Nat) : Nat := N 399
def f_slices_Backward_sl_int_int_1 (N : Nat → Nat) : Nat := N 400
def f_slices_Equal_sl_string_string (N : Nat → Nat) : Nat := N 401
def f_law06_PrintBack (N : Nat → Nat) : Nat := N 402
def f_law06_PrintParsed (N : Nat → Nat) : Nat := N 403
def f_law06_PrintFewest (N : Nat → Nat) : Nat := N 404
def f_law06_PrintTerms (N : Nat → Nat) : Nat := N 405
def f_law06_PrintAlone (N : Nat → Nat) : Nat := N 406
def f_law06_PrintTexts (N : Nat → Nat) : Nat := N 407
def f_law07_ScopeChecks (N : Nat → Nat) : Nat := N 408
def f_law07_ScopeFree (N : Nat → Nat) : Nat := N 409
def f_law07_ScopeThrough (N : Nat → Nat) : Nat := N 410
def f_law07_ScopeBinds (N : Nat → Nat) : Nat := N 411
def f_law06_lives (N : Nat → Nat) : Nat := N 412
def f_print_Text (N : Nat → Nat) : Nat := N 413
def f_ref04_Same (N : Nat → Nat) : Nat := N 414
def f_print_Term (N : Nat → Nat) : Nat := N 415
def f_ref04_SameTerm (N : Nat → Nat) : Nat := N 416
def f_parse_Type (N : Nat → Nat) : Nat := N 417
def f_print_Type (N : Nat → Nat) : Nat := N 418
def f_ref04_SameType (N : Nat → Nat) : Nat := N 419
def f_ref06_Text (N : Nat → Nat) : Nat := N 420
def f_ref06_Term (N : Nat → Nat) : Nat := N 421
def f_ref06_Type (N : Nat → Nat) : Nat := N 422
def f_law07_lives (N : Nat → Nat) : Nat := N 423
def f_scope_Check (N : Nat → Nat) : Nat := N 424
def f_ref07_Check (N : Nat → Nat) : Nat := N 425
def f_scope_Through (N : Nat → Nat) : Nat := N 426
def f_scope_Binder (N : Nat → Nat) : Nat := N 427
def f_ref07_Binder (N : Nat → Nat) : Nat := N 428
def f_ref07_Through (N : Nat → Nat) : Nat := N 429
def f_p_print_writer_put (N : Nat → Nat) : Nat := N 430
def f_p_print_writer_typ (N : Nat → Nat) : Nat := N 431
def f_p_print_writer_term (N : Nat → Nat) : Nat := N 432
def f_ref04_same (N : Nat → Nat) : Nat := N 433
def f_parse_Type_1 (N : Nat → Nat) : Nat := N 434
def f_print_alone (N : Nat → Nat) : Nat := N 435
def f_ref06_plain (N : Nat → Nat) : Nat := N 436
def f_ref06_rule (N : Nat → Nat) : Nat := N 437
def f_scope_named (N : Nat → Nat) : Nat := N 438
def f_scope_loops (N : Nat → Nat) : Nat := N 439
def f_slices_MinFunc_sl_api_Diag_api_Diag (N : Nat → Nat) : Nat := N 440
def f_scope_Check_1 (N : Nat → Nat) : Nat := N 441
def f_cmp_Or_int (N : Nat → Nat) : Nat := N 442
def f_cmp_Compare_int (N : Nat → Nat) : Nat := N 443
def f_cmp_Compare_api_Errno (N : Nat → Nat) : Nat := N 444
def f_cmp_Compare_string (N : Nat → Nat) : Nat := N 445
def f_ref07_Named (N : Nat → Nat) : Nat := N 446
def f_ref07_row (N : Nat → Nat) : Nat := N 447
def f_scope_through (N : Nat → Nat) : Nat := N 448
def f_ref07_in (N : Nat → Nat) : Nat := N 449
def f_print_level (N : Nat → Nat) : Nat := N 450
def f_strconv_AppendInt (N : Nat → Nat) : Nat := N 451
def f_strconv_FormatBool (N : Nat → Nat) : Nat := N 452
def f_floats_Float_Text (N : Nat → Nat) : Nat := N 453
def f_p_print_writer_arms (N : Nat → Nat) : Nat := N 454
def f_p_print_writer_fields (N : Nat → Nat) : Nat := N 455
def f_print_of (N : Nat → Nat) : Nat := N 456
def f_ref06_digits (N : Nat → Nat) : Nat := N 457
def f_ref06_quote (N : Nat → Nat) : Nat := N 458
def f_ref02_Text (N : Nat → Nat) : Nat := N 459
def f_slices_IndexFunc_sl_api_Alias_api_Alias (N : Nat → Nat) : Nat := N 460
def f_scope_named_1 (N : Nat → Nat) : Nat := N 461
def f_cmp_isNaN_api_Errno (N : Nat → Nat) : Nat := N 462
def f_internal_strconv_AppendInt (N : Nat → Nat) : Nat := N 463
def f_internal_strconv_FormatBool (N : Nat → Nat) : Nat := N 464
def f_internal_strconv_AppendUint (N : Nat → Nat) : Nat := N 465
def f_law15_PolarChecks (N : Nat → Nat) : Nat := N 466
def f_law15_PolarClosed (N : Nat → Nat) : Nat := N 467
def f_law15_PolarOf (N : Nat → Nat) : Nat := N 468
def f_law16_RefineNormal (N : Nat → Nat) : Nat := N 469
def f_law15_PolarMost (N : Nat → Nat) : Nat := N 470
def f_law16_RefineSame (N : Nat → Nat) : Nat := N 471
def f_law16_RefineNames (N : Nat → Nat) : Nat := N 472
def f_law16_RefineTwice (N : Nat → Nat) : Nat := N 473
def f_law15_lives (N : Nat → Nat) : Nat := N 474
def f_law15_Few (N : Nat → Nat) : Nat := N 475
def f_law15_Right (N : Nat → Nat) : Nat := N 476
def f_polar_Reach (N : Nat → Nat) : Nat := N 477
def f_polar_Check (N : Nat → Nat) : Nat := N 478
def f_law15_SameInts (N : Nat → Nat) : Nat := N 479
def f_polar_Closed (N : Nat → Nat) : Nat := N 480
def f_graph_Normal (N : Nat → Nat) : Nat := N 481
def f_law15_Bounded (N : Nat → Nat) : Nat := N 482
def f_polar_Of (N : Nat → Nat) : Nat := N 483
def f_ref15_Of (N : Nat → Nat) : Nat := N 484
def f_law15_parts (N : Nat → Nat) : Nat := N 485
def f_law15_SameHeads (N : Nat → Nat) : Nat := N 486
def f_law16_lives (N : Nat → Nat) : Nat := N 487
def f_refine_Normal (N : Nat → Nat) : Nat := N 488
def f_refine_Alike (N : Nat → Nat) : Nat := N 489
def f_refine_Idle (N : Nat → Nat) : Nat := N 490
def f_law16_States (N : Nat → Nat) : Nat := N 491
def f_ref16_Vars (N : Nat → Nat) : Nat := N 492
def f_ref16_Idle (N : Nat → Nat) : Nat := N 493
def f_ref16_Alike (N : Nat → Nat) : Nat := N 494
def f_ref16_Clean (N : Nat → Nat) : Nat := N 495
def f_law16_Is (N : Nat → Nat) : Nat := N 496
def f_ref16_Normal (N : Nat → Nat) : Nat := N 497
def f_refine_Same (N : Nat → Nat) : Nat := N 498
def f_law16_RefineNames_1 (N : Nat → Nat) : Nat := N 499
def f_polar_Auto_state (N : Nat → Nat) : Nat := N 500
def f_p_arena_Arena_Graph (N : Nat → Nat) : Nat := N 501
def f_graph_normal (N : Nat → Nat) : Nat := N 502
def f_p_polar_maker_number (N : Nat → Nat) : Nat := N 503
def f_p_polar_maker_state (N : Nat → Nat) : Nat := N 504
def f_p_ref15_maker_number (N : Nat → Nat) : Nat := N 505
def f_p_ref15_maker_merged (N : Nat → Nat) : Nat := N 506
def f_ref08_Equal (N : Nat → Nat) : Nat := N 507
def f_refine_idle (N : Nat → Nat) : Nat := N 508
def f_refine_classes (N : Nat → Nat) : Nat := N 509
def f_slices_SortFunc_sl_sl_int_sl_int (N : Nat → Nat) : Nat := N 510
def f_slices_Compare_sl_int_int (N : Nat → Nat) : Nat := N 511
def f_slices_CompactFunc_sl_sl_int_sl_int (N : Nat → Nat) : Nat := N 512
def f_slices_Equal_sl_int_int (N : Nat → Nat) : Nat := N 513
def f_ref16_Reach (N : Nat → Nat) : Nat := N 514
def f_ref16_has (N : Nat → Nat) : Nat := N 515
def f_ref16_plain (N : Nat → Nat) : Nat := N 516
def f_ref16_less (N : Nat → Nat) : Nat := N 517
def f_refine_same (N : Nat → Nat) : Nat := N 518
def f_polar_Auto_head (N : Nat → Nat) : Nat := N 519
def f_polar_rising_int (N : Nat → Nat) : Nat := N 520
def f_graph_classes (N : Nat → Nat) : Nat := N 521
def f_p_polar_maker_closed (N : Nat → Nat) : Nat := N 522
def f_polar_row_key (N : Nat → Nat) : Nat := N 523
def f_p_polar_maker_merged (N : Nat → Nat) : Nat := N 524
def f_ref15_Closed (N : Nat → Nat) : Nat := N 525
def f_ref15_same (N : Nat → Nat) : Nat := N 526
def f_ref15_insert (N : Nat → Nat) : Nat := N 527
def f_ref15_count (N : Nat → Nat) : Nat := N 528
def f_ref15_find (N : Nat → Nat) : Nat := N 529
def f_ref08_plain (N : Nat → Nat) : Nat := N 530
def f_refine_sign (N : Nat → Nat) : Nat := N 531
def f_slices_pdqsortCmpFunc_sl_int (N : Nat → Nat) : Nat := N 532
def f_slices_EqualFunc_sl_polar_State_sl_polar_State_polar_State_polar_State (N : Nat → Nat) : Nat := N 533
def f_refine_same_1 (N : Nat → Nat) : Nat := N 534
def f_slices_EqualFunc_sl_api_Head_sl_api_Head_api_Head_api_Head (N : Nat → Nat) : Nat := N 535
def f_refine_same_1_1 (N : Nat → Nat) : Nat := N 536
def f_graph_sign (N : Nat → Nat) : Nat := N 537
def f_polar_names (N : Nat → Nat) : Nat := N 538
def f_polar_kid (N : Nat → Nat) : Nat := N 539
def f_slices_insertionSortCmpFunc_sl_int (N : Nat → Nat) : Nat := N 540
def f_slices_heapSortCmpFunc_sl_int (N : Nat → Nat) : Nat := N 541
def f_slices_breakPatternsCmpFunc_sl_int (N : Nat → Nat) : Nat := N 542
def f_slices_choosePivotCmpFunc_sl_int (N : Nat → Nat) : Nat := N 543
def f_slices_reverseRangeCmpFunc_sl_int (N : Nat → Nat) : Nat := N 544
def f_slices_partialInsertionSortCmpFunc_sl_int (N : Nat → Nat) : Nat := N 545
def f_slices_partitionEqualCmpFunc_sl_int (N : Nat → Nat) : Nat := N 546
def f_slices_partitionCmpFunc_sl_int (N : Nat → Nat) : Nat := N 547
def f_polar_all (N : Nat → Nat) : Nat := N 548
def f_polar_some (N : Nat → Nat) : Nat := N 549
def f_polar_names_1 (N : Nat → Nat) : Nat := N 550
def f_polar_names_2 (N : Nat → Nat) : Nat := N 551
def f_slices_DeleteFunc_sl_api_Head_api_Head (N : Nat → Nat) : Nat := N 552
def f_slices_Clone_sl_api_Head_api_Head (N : Nat → Nat) : Nat := N 553
def f_slices_siftDownCmpFunc_sl_int (N : Nat → Nat) : Nat := N 554
def f_slices_medianAdjacentCmpFunc_sl_int (N : Nat → Nat) : Nat := N 555
def f_slices_medianCmpFunc_sl_int (N : Nat → Nat) : Nat := N 556
def f_polar_all_1 (N : Nat → Nat) : Nat := N 557
def f_slices_ContainsFunc_sl_api_Head_api_Head (N : Nat → Nat) : Nat := N 558
def f_polar_all_1_1 (N : Nat → Nat) : Nat := N 559
def f_slices_IndexFunc_sl_api_Head_api_Head (N : Nat → Nat) : Nat := N 560
def f_slices_order2CmpFunc_sl_int (N : Nat → Nat) : Nat := N 561
def f_law13_SolveNone (N : Nat → Nat) : Nat := N 562
def f_law04_TreeFull (N : Nat → Nat) : Nat := N 563
def f_law04_TreeAround (N : Nat → Nat) : Nat := N 564
def f_law04_TreeSame (N : Nat → Nat) : Nat := N 565
def f_law04_TreeBuilds (N : Nat → Nat) : Nat := N 566
def t_int (N : Nat → Nat) : Nat := N 100000
def t_bool (N : Nat → Nat) : Nat := N 100001
def t_uint8 (N : Nat → Nat) : Nat := N 100002
def t_int32 (N : Nat → Nat) : Nat := N 100003
def t_sl_uint8 (N : Nat → Nat) : Nat := N 100004
def t_sl_int (N : Nat → Nat) : Nat := N 100005
def t_func_int32 (N : Nat → Nat) : Nat := N 100006
def t_string (N : Nat → Nat) : Nat := N 100007
def t_p_store_Store (N : Nat → Nat) : Nat := N 100008
def t_api_Diag (N : Nat → Nat) : Nat := N 100009
def t_api_Token (N : Nat → Nat) : Nat := N 100010
def t_map_string_string (N : Nat → Nat) : Nat := N 100011
def t_law23_Act (N : Nat → Nat) : Nat := N 100012
def t_map_string_sl_uint8 (N : Nat → Nat) : Nat := N 100013
def t_store_Store (N : Nat → Nat) : Nat := N 100014
def t_sl_string (N : Nat → Nat) : Nat := N 100015
def t_slices_xorshift (N : Nat → Nat) : Nat := N 100016
def t_p_deps_Net (N : Nat → Nat) : Nat := N 100017
def t_func_string_bool (N : Nat → Nat) : Nat := N 100018
def t_map_string_sl_string (N : Nat → Nat) : Nat := N 100019
def t_api_Tree (N : Nat → Nat) : Nat := N 100020
def t_deps_Net (N : Nat → Nat) : Nat := N 100021
def t_map_string_bool (N : Nat → Nat) : Nat := N 100022
def t_ref05_Parser (N : Nat → Nat) : Nat := N 100023
def t_api_Alias (N : Nat → Nat) : Nat := N 100024
def t_api_Node (N : Nat → Nat) : Nat := N 100025
def t_p_parse_reader (N : Nat → Nat) : Nat := N 100026
def t_parse_reader (N : Nat → Nat) : Nat := N 100027
def t_api_TypeNode (N : Nat → Nat) : Nat := N 100028
def t_tree_Builder (N : Nat → Nat) : Nat := N 100029
def t_scope_up (N : Nat → Nat) : Nat := N 100030
def t_tree_shape (N : Nat → Nat) : Nat := N 100031
def t_strconv_NumError (N : Nat → Nat) : Nat := N 100032
def t_errors_errorString (N : Nat → Nat) : Nat := N 100033
def t_24_uint8 (N : Nat → Nat) : Nat := N 100034
def t_65_uint8 (N : Nat → Nat) : Nat := N 100035
def t_2_int (N : Nat → Nat) : Nat := N 100036
def t_api_Head (N : Nat → Nat) : Nat := N 100037
def t_law13_Part (N : Nat → Nat) : Nat := N 100038
def t_ref13_Part (N : Nat → Nat) : Nat := N 100039
def t_api_Graph (N : Nat → Nat) : Nat := N 100040
def t_solve_claim (N : Nat → Nat) : Nat := N 100041
def t_solve_Solver (N : Nat → Nat) : Nat := N 100042
def t_arena_part (N : Nat → Nat) : Nat := N 100043
def t_arena_Arena (N : Nat → Nat) : Nat := N 100044
def t_solve_raiser (N : Nat → Nat) : Nat := N 100045
def t_lift_maker (N : Nat → Nat) : Nat := N 100046
def t_tree_two (N : Nat → Nat) : Nat := N 100047
def t_print_writer (N : Nat → Nat) : Nat := N 100048
def t_polar_Auto (N : Nat → Nat) : Nat := N 100049
def t_sl_bool (N : Nat → Nat) : Nat := N 100050
def t_sl_api_Head (N : Nat → Nat) : Nat := N 100051
def t_polar_State (N : Nat → Nat) : Nat := N 100052
def t_law15_pair (N : Nat → Nat) : Nat := N 100053
def t_ref15_State (N : Nat → Nat) : Nat := N 100054
def t_polar_maker (N : Nat → Nat) : Nat := N 100055
def t_polar_row (N : Nat → Nat) : Nat := N 100056
def t_ref15_maker (N : Nat → Nat) : Nat := N 100057
def t_ref15_Part (N : Nat → Nat) : Nat := N 100058
def t_ref16_State (N : Nat → Nat) : Nat := N 100059
def t_refine_signs (N : Nat → Nat) : Nat := N 100060
end Go.Proofs.Eng
/- Templates of functions, as the engine takes them; numbers of functions and types by names. Printed by tm.py. -/
set_option linter.unusedVariables false
set_option maxRecDepth 100000
namespace Go.Proofs.Eng
open Go

def L_law04_Few_2 (N : Nat → Nat) : AC :=
        .seq (
         .ops [⟨(some 46), .bin .lss (.t 45) (.t 44), none⟩]) (
        .seq (
         .cond (.t 46) (
          .skip) (
          .exit 2)) (
        .seq (
         .block 3 (
          .seq (
           .ops [⟨(some 47), .iaddr 1 (.t 43) (.t 45), none⟩, ⟨(some 48), .load none (.t 47), none⟩, ⟨(some 6), .mov (.t 48), none⟩]) (
          .seq (
           .ops [⟨(some 49), .mov (.t 6), none⟩, ⟨(some 50), .lens (.t 49), none⟩, ⟨(some 51), .bin .gtr (.t 50) (.c (.lit (.int .i64 60))), none⟩]) (
          .cond (.t 51) (
           .seq (
            .ops [⟨(some 2), .mov (.c (.lit (.bool false))), none⟩]) (
           .ret)) (
           .skip))))) (
        .ops [⟨(some 52), .bin .add (.t 45) (.c (.lit (.int .i64 1))), none⟩, ⟨(some 45), .mov (.t 52), none⟩])))
def K_law04_Few_1 (N : Nat → Nat) : AC :=
 .ops [⟨(some 53), .bin .add (.t 16) (.c (.lit (.int .i64 1))), none⟩, ⟨(some 16), .mov (.t 53), none⟩]
def L_law04_Few_1 (N : Nat → Nat) : AC :=
    .seq (
     .ops [⟨(some 17), .bin .lss (.t 16) (.t 15), none⟩]) (
    .seq (
     .cond (.t 17) (
      .skip) (
      .exit 0)) (
    .seq (
     .block 1 (
      .seq (
       .ops [⟨(some 18), .iaddr 8 (.t 14) (.t 16), none⟩, ⟨(some 19), .load (some 8) (.t 18), none⟩, ⟨(some 4), .new (t_api_Node N) (.agg [(.lit (.int .i64 0)), (.lit (.int .i64 0)), (.lit (.string (mkS []))), (.lit (.int .i64 0)), (.lit (.int .u64 0)), (.lit (.slice none 0 0)), (.lit (.slice none 0 0)), (.lit (.slice none 0 0))]), none⟩, ⟨none, .store 8 (.t 4) (.t 19), none⟩]) (
      .seq (
       .seq (
        .ops [⟨(some 20), .faddr 5 (.t 4), none⟩, ⟨(some 21), .load none (.t 20), none⟩, ⟨(some 22), .len (.t 21), none⟩, ⟨(some 23), .bin .gtr (.t 22) (.c (.lit (.int .i64 20))), none⟩, ⟨(some 24), .mov (.t 23), none⟩, ⟨(some 25), .faddr 6 (.t 4), (some (24, false))⟩, ⟨(some 26), .load none (.t 25), (some (24, false))⟩, ⟨(some 27), .len (.t 26), (some (24, false))⟩, ⟨(some 28), .bin .gtr (.t 27) (.c (.lit (.int .i64 20))), (some (24, false))⟩, ⟨(some 29), .pick (.t 24) (.c (.lit (.bool true))) (.t 28), none⟩, ⟨(some 30), .mov (.t 29), none⟩, ⟨(some 31), .faddr 7 (.t 4), (some (30, false))⟩, ⟨(some 32), .load none (.t 31), (some (30, false))⟩, ⟨(some 33), .len (.t 32), (some (30, false))⟩, ⟨(some 34), .bin .gtr (.t 33) (.c (.lit (.int .i64 20))), (some (30, false))⟩, ⟨(some 35), .pick (.t 30) (.c (.lit (.bool true))) (.t 34), none⟩, ⟨(some 36), .mov (.t 35), none⟩, ⟨(some 37), .faddr 2 (.t 4), (some (36, false))⟩, ⟨(some 38), .load none (.t 37), (some (36, false))⟩, ⟨(some 39), .lens (.t 38), (some (36, false))⟩, ⟨(some 40), .bin .gtr (.t 39) (.c (.lit (.int .i64 60))), (some (36, false))⟩, ⟨(some 41), .pick (.t 36) (.c (.lit (.bool true))) (.t 40), none⟩]) (
       .cond (.t 41) (
        .seq (
         .ops [⟨(some 2), .mov (.c (.lit (.bool false))), none⟩]) (
        .ret)) (
        .skip))) (
      .seq (
       .ops [⟨(some 42), .faddr 5 (.t 4), none⟩, ⟨(some 43), .load none (.t 42), none⟩, ⟨(some 44), .len (.t 43), none⟩, ⟨(some 45), .mov (.c (.lit (.int .i64 0))), none⟩]) (
      .block 2 (
       .loop (L_law04_Few_2 N))))))) (K_law04_Few_1 N)))
def L_law04_Few_4 (N : Nat → Nat) : AC :=
        .seq (
         .ops [⟨(some 81), .bin .lss (.t 80) (.t 79), none⟩]) (
        .seq (
         .cond (.t 81) (
          .skip) (
          .exit 6)) (
        .seq (
         .block 7 (
          .seq (
           .ops [⟨(some 82), .iaddr 1 (.t 78) (.t 80), none⟩, ⟨(some 83), .load none (.t 82), none⟩, ⟨(some 10), .mov (.t 83), none⟩]) (
          .seq (
           .ops [⟨(some 84), .mov (.t 10), none⟩, ⟨(some 85), .lens (.t 84), none⟩, ⟨(some 86), .bin .gtr (.t 85) (.c (.lit (.int .i64 60))), none⟩]) (
          .cond (.t 86) (
           .seq (
            .ops [⟨(some 2), .mov (.c (.lit (.bool false))), none⟩]) (
           .ret)) (
           .skip))))) (
        .ops [⟨(some 87), .bin .add (.t 80) (.c (.lit (.int .i64 1))), none⟩, ⟨(some 80), .mov (.t 87), none⟩])))
def K_law04_Few_3 (N : Nat → Nat) : AC :=
 .ops [⟨(some 88), .bin .add (.t 57) (.c (.lit (.int .i64 1))), none⟩, ⟨(some 57), .mov (.t 88), none⟩]
def L_law04_Few_3 (N : Nat → Nat) : AC :=
    .seq (
     .ops [⟨(some 58), .bin .lss (.t 57) (.t 56), none⟩]) (
    .seq (
     .cond (.t 58) (
      .skip) (
      .exit 4)) (
    .seq (
     .block 5 (
      .seq (
       .ops [⟨(some 59), .iaddr 6 (.t 55) (.t 57), none⟩, ⟨(some 60), .load (some 6) (.t 59), none⟩, ⟨(some 8), .new (t_api_TypeNode N) (.agg [(.lit (.int .i64 0)), (.lit (.int .i64 0)), (.lit (.string (mkS []))), (.lit (.slice none 0 0)), (.lit (.slice none 0 0)), (.lit (.bool false))]), none⟩, ⟨none, .store 6 (.t 8) (.t 60), none⟩]) (
      .seq (
       .seq (
        .ops [⟨(some 61), .faddr 3 (.t 8), none⟩, ⟨(some 62), .load none (.t 61), none⟩, ⟨(some 63), .len (.t 62), none⟩, ⟨(some 64), .bin .gtr (.t 63) (.c (.lit (.int .i64 20))), none⟩, ⟨(some 65), .mov (.t 64), none⟩, ⟨(some 66), .faddr 4 (.t 8), (some (65, false))⟩, ⟨(some 67), .load none (.t 66), (some (65, false))⟩, ⟨(some 68), .len (.t 67), (some (65, false))⟩, ⟨(some 69), .bin .gtr (.t 68) (.c (.lit (.int .i64 20))), (some (65, false))⟩, ⟨(some 70), .pick (.t 65) (.c (.lit (.bool true))) (.t 69), none⟩, ⟨(some 71), .mov (.t 70), none⟩, ⟨(some 72), .faddr 2 (.t 8), (some (71, false))⟩, ⟨(some 73), .load none (.t 72), (some (71, false))⟩, ⟨(some 74), .lens (.t 73), (some (71, false))⟩, ⟨(some 75), .bin .gtr (.t 74) (.c (.lit (.int .i64 60))), (some (71, false))⟩, ⟨(some 76), .pick (.t 71) (.c (.lit (.bool true))) (.t 75), none⟩]) (
       .cond (.t 76) (
        .seq (
         .ops [⟨(some 2), .mov (.c (.lit (.bool false))), none⟩]) (
        .ret)) (
        .skip))) (
      .seq (
       .ops [⟨(some 77), .faddr 3 (.t 8), none⟩, ⟨(some 78), .load none (.t 77), none⟩, ⟨(some 79), .len (.t 78), none⟩, ⟨(some 80), .mov (.c (.lit (.int .i64 0))), none⟩]) (
      .block 6 (
       .loop (L_law04_Few_4 N))))))) (K_law04_Few_3 N)))
def L_law04_Few_5 (N : Nat → Nat) : AC :=
    .seq (
     .ops [⟨(some 93), .bin .lss (.t 92) (.t 91), none⟩]) (
    .seq (
     .cond (.t 93) (
      .skip) (
      .exit 8)) (
    .seq (
     .block 9 (
      .seq (
       .ops [⟨(some 94), .iaddr 3 (.t 90) (.t 92), none⟩, ⟨(some 95), .load (some 3) (.t 94), none⟩, ⟨(some 12), .new (t_api_Alias N) (.agg [(.lit (.string (mkS []))), (.lit (.int .i64 0)), (.lit (.int .i64 0))]), none⟩, ⟨none, .store 3 (.t 12) (.t 95), none⟩]) (
      .seq (
       .ops [⟨(some 96), .faddr 0 (.t 12), none⟩, ⟨(some 97), .load none (.t 96), none⟩, ⟨(some 98), .lens (.t 97), none⟩, ⟨(some 99), .bin .gtr (.t 98) (.c (.lit (.int .i64 60))), none⟩]) (
      .cond (.t 99) (
       .seq (
        .ops [⟨(some 2), .mov (.c (.lit (.bool false))), none⟩]) (
       .ret)) (
       .skip))))) (
    .ops [⟨(some 100), .bin .add (.t 92) (.c (.lit (.int .i64 1))), none⟩, ⟨(some 92), .mov (.t 100), none⟩])))
def K_law04_Few_5 (N : Nat → Nat) : AC :=
 .seq (
  .ops [⟨(some 101), .faddr 0 (.t 1), none⟩, ⟨(some 102), .load none (.t 101), none⟩, ⟨(some 103), .len (.t 102), none⟩, ⟨(some 104), .bin .leq (.t 103) (.c (.lit (.int .i64 60))), none⟩, ⟨(some 105), .mov (.t 104), none⟩, ⟨(some 106), .faddr 1 (.t 1), (some (105, true))⟩, ⟨(some 107), .load none (.t 106), (some (105, true))⟩, ⟨(some 108), .len (.t 107), (some (105, true))⟩, ⟨(some 109), .bin .leq (.t 108) (.c (.lit (.int .i64 60))), (some (105, true))⟩, ⟨(some 110), .pick (.t 105) (.t 109) (.c (.lit (.bool false))), none⟩, ⟨(some 111), .mov (.t 110), none⟩, ⟨(some 112), .faddr 2 (.t 1), (some (111, true))⟩, ⟨(some 113), .load none (.t 112), (some (111, true))⟩, ⟨(some 114), .len (.t 113), (some (111, true))⟩, ⟨(some 115), .bin .leq (.t 114) (.c (.lit (.int .i64 10))), (some (111, true))⟩, ⟨(some 116), .pick (.t 111) (.t 115) (.c (.lit (.bool false))), none⟩, ⟨(some 2), .mov (.t 116), none⟩]) (
 .ret)
def K_law04_Few_4 (N : Nat → Nat) : AC :=
 .seq (
  .seq (
   .ops [⟨(some 89), .faddr 2 (.t 1), none⟩, ⟨(some 90), .load none (.t 89), none⟩, ⟨(some 91), .len (.t 90), none⟩, ⟨(some 92), .mov (.c (.lit (.int .i64 0))), none⟩]) (
  .block 8 (
   .loop (L_law04_Few_5 N)))) (K_law04_Few_5 N)
def K_law04_Few_2 (N : Nat → Nat) : AC :=
 .seq (
  .seq (
   .ops [⟨(some 54), .faddr 1 (.t 1), none⟩, ⟨(some 55), .load none (.t 54), none⟩, ⟨(some 56), .len (.t 55), none⟩, ⟨(some 57), .mov (.c (.lit (.int .i64 0))), none⟩]) (
  .block 4 (
   .loop (L_law04_Few_3 N)))) (K_law04_Few_4 N)
/-- azimuth/azimuthlaw04.Few -/
def C_law04_Few (N : Nat → Nat) : AFunc := ⟨117, [.inl 2],
 .seq (
  .ops [⟨(some 1), .box (t_api_Tree N) (.t 0), none⟩, ⟨(some 2), .mov (.c (.lit (.bool false))), none⟩]) (
 .seq (
  .seq (
   .ops [⟨(some 13), .faddr 0 (.t 1), none⟩, ⟨(some 14), .load none (.t 13), none⟩, ⟨(some 15), .len (.t 14), none⟩, ⟨(some 16), .mov (.c (.lit (.int .i64 0))), none⟩]) (
  .block 0 (
   .loop (L_law04_Few_1 N)))) (K_law04_Few_2 N)), false⟩

/-- azimuth/azimuthlaw04.TreeAround -/
def C_law04_TreeAround (N : Nat → Nat) : AFunc := ⟨96, [.inl 4],
 .seq (
  .ops [⟨(some 2), .box (t_api_Tree N) (.t 0), none⟩, ⟨(some 4), .mov (.c (.lit (.bool false))), none⟩]) (
 .seq (
  .seq (
   .ops [⟨(some 10), .call (.c (.fn (f_law04_lives N) [] [])) [], none⟩, ⟨(some 11), .un .not (.t 10), none⟩, ⟨(some 12), .mov (.t 11), none⟩, ⟨(some 13), .load (some 3) (.t 2), (some (12, false))⟩, ⟨(some 14), .call (.c (.fn (f_law04_Few N) [] [])) [(.t 13)], (some (12, false))⟩, ⟨(some 15), .un .not (.t 14), (some (12, false))⟩, ⟨(some 16), .pick (.t 12) (.c (.lit (.bool true))) (.t 15), none⟩, ⟨(some 17), .mov (.t 16), none⟩, ⟨(some 18), .faddr 0 (.t 2), (some (17, false))⟩, ⟨(some 19), .load none (.t 18), (some (17, false))⟩, ⟨(some 20), .len (.t 19), (some (17, false))⟩, ⟨(some 21), .bin .gtr (.t 20) (.c (.lit (.int .i64 50))), (some (17, false))⟩, ⟨(some 22), .pick (.t 17) (.c (.lit (.bool true))) (.t 21), none⟩, ⟨(some 23), .mov (.t 22), none⟩, ⟨(some 24), .faddr 0 (.t 2), (some (23, false))⟩, ⟨(some 25), .load none (.t 24), (some (23, false))⟩, ⟨(some 26), .len (.t 25), (some (23, false))⟩, ⟨(some 27), .eq false .pint (.t 26) (.c (.lit (.int .i64 0))), (some (23, false))⟩, ⟨(some 28), .pick (.t 23) (.c (.lit (.bool true))) (.t 27), none⟩, ⟨(some 29), .mov (.t 28), none⟩, ⟨(some 30), .mov (.t 1), (some (29, false))⟩, ⟨(some 31), .lens (.t 30), (some (29, false))⟩, ⟨(some 32), .bin .gtr (.t 31) (.c (.lit (.int .i64 50))), (some (29, false))⟩, ⟨(some 33), .pick (.t 29) (.c (.lit (.bool true))) (.t 32), none⟩]) (
  .cond (.t 33) (
   .seq (
    .ops [⟨(some 34), .call (.c (.fn (f_law04_lives N) [] [])) [], none⟩, ⟨(some 4), .mov (.t 34), none⟩]) (
   .ret)) (
   .skip))) (
 .seq (
  .ops [⟨(some 35), .faddr 0 (.t 2), none⟩, ⟨(some 36), .load none (.t 35), none⟩, ⟨(some 37), .len (.t 36), none⟩, ⟨(some 5), .mov (.t 37), none⟩]) (
 .seq (
  .dops 4 [⟨(some 39), .faddr 0 (.t 2), none⟩, ⟨(some 40), .load none (.t 39), none⟩, ⟨(some 42), .mov (.t 1), none⟩, ⟨(some 43), .mov (.t 5), none⟩, ⟨(some 44), .bin .sub (.t 43) (.c (.lit (.int .i64 1))), none⟩, ⟨(some 49), .faddr 1 (.t 2), none⟩, ⟨(some 50), .load none (.t 49), none⟩, ⟨(some 51), .faddr 2 (.t 2), none⟩, ⟨(some 52), .load none (.t 51), none⟩, ⟨(some 38), .bslice (t_api_Node N) 8 (some 8) 0 [(.lit (.int .i64 0)), (.lit (.int .i64 0)), (.lit (.string (mkS []))), (.lit (.int .i64 0)), (.lit (.int .u64 0)), (.lit (.slice none 0 0)), (.lit (.slice none 0 0)), (.lit (.slice none 0 0))] [], none⟩, ⟨(some 41), .append (t_api_Node N) 8 120 (.t 38) (.t 40), none⟩, ⟨(some 45), .bslice (t_int N) 1 none 1 [(.lit (.int .i64 0))] [(0, 1, (.t 44))], none⟩, ⟨(some 46), .build [(.lit (.int .i64 0)), (.lit (.int .i64 0)), (.lit (.string (mkS []))), (.lit (.int .i64 0)), (.lit (.int .u64 0)), (.lit (.slice none 0 0)), (.lit (.slice none 0 0)), (.lit (.slice none 0 0))] [(0, 1, (.c (.lit (.int .i64 5)))), (2, 1, (.t 42)), (6, 1, (.t 45))], none⟩, ⟨(some 47), .bslice (t_api_Node N) 8 (some 8) 1 [(.lit (.int .i64 0)), (.lit (.int .i64 0)), (.lit (.string (mkS []))), (.lit (.int .i64 0)), (.lit (.int .u64 0)), (.lit (.slice none 0 0)), (.lit (.slice none 0 0)), (.lit (.slice none 0 0))] [(0, 8, (.t 46))], none⟩, ⟨(some 48), .append (t_api_Node N) 8 120 (.t 41) (.t 47), none⟩, ⟨(some 53), .build [(.lit (.slice none 0 0)), (.lit (.slice none 0 0)), (.lit (.slice none 0 0))] [(0, 1, (.t 48)), (1, 1, (.t 50)), (2, 1, (.t 52))], none⟩, ⟨(some 6), .new (t_api_Tree N) (.agg [(.lit (.slice none 0 0)), (.lit (.slice none 0 0)), (.lit (.slice none 0 0))]), none⟩, ⟨none, .store 3 (.t 6) (.t 53), none⟩] [0, 2, 0, 0, 0, 0, 2, 0, 2, 2, 2, 2, 0, 2, 3, 0, 1, 0] []) (
 .seq (
  .ops [⟨(some 54), .load (some 3) (.t 2), none⟩, ⟨(some 55), .call (.c (.fn (f_tree_Check N) [] [])) [(.t 54)], none⟩, ⟨(some 56), .eq false .pint (.t 55) (.c (.lit (.int .i64 0))), none⟩, ⟨(some 57), .mov (.t 56), none⟩, ⟨(some 58), .mov (.t 1), (some (57, true))⟩, ⟨(some 59), .call (.c (.fn (f_ref04_Name N) [] [])) [(.t 58)], (some (57, true))⟩, ⟨(some 60), .pick (.t 57) (.t 59) (.c (.lit (.bool false))), none⟩, ⟨(some 7), .mov (.t 60), none⟩]) (
 .seq (
  .seq (
   .ops [⟨(some 61), .load (some 3) (.t 6), none⟩, ⟨(some 62), .call (.c (.fn (f_tree_Check N) [] [])) [(.t 61)], none⟩, ⟨(some 63), .eq false .pint (.t 62) (.c (.lit (.int .i64 0))), none⟩, ⟨(some 64), .mov (.t 7), none⟩, ⟨(some 65), .eq true .pbool (.t 63) (.t 64), none⟩]) (
  .cond (.t 65) (
   .seq (
    .ops [⟨(some 4), .mov (.c (.lit (.bool false))), none⟩]) (
   .ret)) (
   .skip))) (
 .seq (
  .seq (
   .ops [⟨(some 66), .mov (.t 7), none⟩, ⟨(some 67), .un .not (.t 66), none⟩]) (
  .cond (.t 67) (
   .seq (
    .ops [⟨(some 4), .mov (.c (.lit (.bool true))), none⟩]) (
   .ret)) (
   .skip))) (
 .seq (
  .dops 10 [⟨(some 68), .load (some 3) (.t 2), none⟩, ⟨(some 70), .load (some 3) (.t 6), none⟩, ⟨(some 69), .call (.c (.fn (f_tree_Depth N) [] [])) [(.t 68)], none⟩, ⟨(some 71), .call (.c (.fn (f_tree_Depth N) [] [])) [(.t 70)], none⟩, ⟨(some 8), .mov (.t 69), none⟩, ⟨(some 9), .mov (.t 71), none⟩] [2, 2, 1, 0, 0, 0] []) (
 .seq (
  .dops 11 [⟨(some 72), .mov (.t 9), none⟩, ⟨(some 73), .mov (.t 8), none⟩, ⟨(some 74), .eq false .pint (.t 72) (.t 73), none⟩, ⟨(some 75), .mov (.t 74), none⟩, ⟨(some 76), .mov (.t 9), (some (75, false))⟩, ⟨(some 77), .mov (.t 8), (some (75, false))⟩, ⟨(some 78), .bin .add (.t 77) (.c (.lit (.int .i64 1))), (some (75, false))⟩, ⟨(some 79), .eq false .pint (.t 76) (.t 78), (some (75, false))⟩, ⟨(some 80), .pick (.t 75) (.c (.lit (.bool true))) (.t 79), none⟩, ⟨(some 81), .mov (.t 80), none⟩, ⟨(some 82), .load (some 3) (.t 6), (some (81, true))⟩, ⟨(some 83), .mov (.t 5), (some (81, true))⟩, ⟨(some 86), .mov (.t 5), (some (81, true))⟩, ⟨(some 88), .load (some 3) (.t 2), (some (81, true))⟩, ⟨(some 89), .mov (.t 5), (some (81, true))⟩, ⟨(some 90), .bin .sub (.t 89) (.c (.lit (.int .i64 1))), (some (81, true))⟩, ⟨(some 84), .call (.c (.fn (f_tree_Walk N) [] [])) [(.t 82), (.t 83)], (some (81, true))⟩, ⟨(some 85), .call (.c (.fn (f_law04_all N) [] [])) [(.t 84)], (some (81, true))⟩, ⟨(some 87), .bslice (t_int N) 1 none 1 [(.lit (.int .i64 0))] [(0, 1, (.t 86))], (some (81, true))⟩, ⟨(some 91), .call (.c (.fn (f_tree_Walk N) [] [])) [(.t 88), (.t 90)], (some (81, true))⟩, ⟨(some 92), .call (.c (.fn (f_law04_all N) [] [])) [(.t 91)], (some (81, true))⟩, ⟨(some 93), .append (t_int N) 1 8 (.t 87) (.t 92), (some (81, true))⟩, ⟨(some 94), .call (.c (.fn (f_law04_same N) [] [])) [(.t 85), (.t 93)], (some (81, true))⟩, ⟨(some 95), .pick (.t 81) (.t 94) (.c (.lit (.bool false))), none⟩, ⟨(some 4), .mov (.t 95), none⟩] [0, 0, 0, 0, 0, 0, 0, 0, 0, 0, 2, 0, 0, 2, 0, 0, 2, 2, 2, 2, 2, 0, 0, 0, 0] []) (
 .ret))))))))), false⟩

def L_law04_TreeBuilds_1 (N : Nat → Nat) : AC :=
    .seq (
     .ops [⟨(some 34), .bin .lss (.t 33) (.t 32), none⟩]) (
    .seq (
     .cond (.t 34) (
      .skip) (
      .exit 0)) (
    .seq (
     .block 1 (
      .seq (
       .ops [⟨(some 35), .mov (.t 33), none⟩, ⟨(some 36), .iaddr 6 (.t 31) (.t 33), none⟩, ⟨(some 37), .load (some 6) (.t 36), none⟩, ⟨(some 6), .new (t_api_TypeNode N) (.agg [(.lit (.int .i64 0)), (.lit (.int .i64 0)), (.lit (.string (mkS []))), (.lit (.slice none 0 0)), (.lit (.slice none 0 0)), (.lit (.bool false))]), none⟩, ⟨(some 5), .mov (.t 35), none⟩, ⟨none, .store 6 (.t 6) (.t 37), none⟩]) (
      .seq (
       .ops [⟨(some 39), .mov (.t 3), none⟩, ⟨(some 40), .load (some 6) (.t 6), none⟩, ⟨(some 41), .call (.c (.fn (f_p_tree_Builder_Type N) [] [])) [(.t 39), (.t 40)], none⟩, ⟨(some 38), .mov (.t 41), none⟩, ⟨(some 42), .extract (.t 38) 0, none⟩, ⟨(some 43), .extract (.t 38) 1, none⟩, ⟨(some 7), .mov (.t 42), none⟩, ⟨(some 8), .mov (.t 43), none⟩]) (
      .seq (
       .ops [⟨(some 45), .mov (.t 4), none⟩, ⟨(some 46), .load (some 6) (.t 6), none⟩, ⟨(some 47), .call (.c (.fn (f_p_tree_Builder_Type N) [] [])) [(.t 45), (.t 46)], none⟩, ⟨(some 44), .mov (.t 47), none⟩, ⟨(some 48), .extract (.t 44) 0, none⟩, ⟨(some 49), .extract (.t 44) 1, none⟩, ⟨(some 9), .mov (.t 48), none⟩, ⟨(some 10), .mov (.t 49), none⟩]) (
      .seq (
       .ops [⟨(some 50), .mov (.t 7), none⟩, ⟨(some 51), .mov (.t 5), none⟩, ⟨(some 52), .eq true .pint (.t 50) (.t 51), none⟩, ⟨(some 53), .mov (.t 52), none⟩, ⟨(some 54), .mov (.t 8), (some (53, false))⟩, ⟨(some 55), .eq true .pint (.t 54) (.c (.lit (.int .i64 0))), (some (53, false))⟩, ⟨(some 56), .pick (.t 53) (.c (.lit (.bool true))) (.t 55), none⟩, ⟨(some 57), .mov (.t 56), none⟩, ⟨(some 58), .mov (.t 10), (some (57, false))⟩, ⟨(some 59), .eq true .pint (.t 58) (.c (.lit (.int .i64 1))), (some (57, false))⟩, ⟨(some 60), .pick (.t 57) (.c (.lit (.bool true))) (.t 59), none⟩]) (
      .cond (.t 60) (
       .seq (
        .ops [⟨(some 2), .mov (.c (.lit (.bool false))), none⟩]) (
       .ret)) (
       .skip))))))) (
    .ops [⟨(some 61), .bin .add (.t 33) (.c (.lit (.int .i64 1))), none⟩, ⟨(some 33), .mov (.t 61), none⟩])))
def L_law04_TreeBuilds_2 (N : Nat → Nat) : AC :=
    .seq (
     .ops [⟨(some 66), .bin .lss (.t 65) (.t 64), none⟩]) (
    .seq (
     .cond (.t 66) (
      .skip) (
      .exit 2)) (
    .seq (
     .block 3 (
      .seq (
       .ops [⟨(some 67), .mov (.t 65), none⟩, ⟨(some 68), .iaddr 8 (.t 63) (.t 65), none⟩, ⟨(some 69), .load (some 8) (.t 68), none⟩, ⟨(some 12), .new (t_api_Node N) (.agg [(.lit (.int .i64 0)), (.lit (.int .i64 0)), (.lit (.string (mkS []))), (.lit (.int .i64 0)), (.lit (.int .u64 0)), (.lit (.slice none 0 0)), (.lit (.slice none 0 0)), (.lit (.slice none 0 0))]), none⟩, ⟨(some 11), .mov (.t 67), none⟩, ⟨none, .store 8 (.t 12) (.t 69), none⟩]) (
      .seq (
       .ops [⟨(some 71), .mov (.t 3), none⟩, ⟨(some 72), .load (some 8) (.t 12), none⟩, ⟨(some 73), .call (.c (.fn (f_p_tree_Builder_Term N) [] [])) [(.t 71), (.t 72)], none⟩, ⟨(some 70), .mov (.t 73), none⟩, ⟨(some 74), .extract (.t 70) 0, none⟩, ⟨(some 75), .extract (.t 70) 1, none⟩, ⟨(some 13), .mov (.t 74), none⟩, ⟨(some 14), .mov (.t 75), none⟩]) (
      .seq (
       .ops [⟨(some 77), .mov (.t 4), none⟩, ⟨(some 78), .load (some 8) (.t 12), none⟩, ⟨(some 79), .call (.c (.fn (f_p_tree_Builder_Term N) [] [])) [(.t 77), (.t 78)], none⟩, ⟨(some 76), .mov (.t 79), none⟩, ⟨(some 80), .extract (.t 76) 0, none⟩, ⟨(some 81), .extract (.t 76) 1, none⟩, ⟨(some 15), .mov (.t 80), none⟩, ⟨(some 16), .mov (.t 81), none⟩]) (
      .seq (
       .ops [⟨(some 82), .mov (.t 13), none⟩, ⟨(some 83), .mov (.t 11), none⟩, ⟨(some 84), .eq true .pint (.t 82) (.t 83), none⟩, ⟨(some 85), .mov (.t 84), none⟩, ⟨(some 86), .mov (.t 14), (some (85, false))⟩, ⟨(some 87), .eq true .pint (.t 86) (.c (.lit (.int .i64 0))), (some (85, false))⟩, ⟨(some 88), .pick (.t 85) (.c (.lit (.bool true))) (.t 87), none⟩, ⟨(some 89), .mov (.t 88), none⟩, ⟨(some 90), .mov (.t 16), (some (89, false))⟩, ⟨(some 91), .eq true .pint (.t 90) (.c (.lit (.int .i64 1))), (some (89, false))⟩, ⟨(some 92), .pick (.t 89) (.c (.lit (.bool true))) (.t 91), none⟩]) (
      .cond (.t 92) (
       .seq (
        .ops [⟨(some 2), .mov (.c (.lit (.bool false))), none⟩]) (
       .ret)) (
       .skip))))))) (
    .ops [⟨(some 93), .bin .add (.t 65) (.c (.lit (.int .i64 1))), none⟩, ⟨(some 65), .mov (.t 93), none⟩])))
def L_law04_TreeBuilds_3 (N : Nat → Nat) : AC :=
    .seq (
     .ops [⟨(some 98), .bin .lss (.t 97) (.t 96), none⟩]) (
    .seq (
     .cond (.t 98) (
      .skip) (
      .exit 4)) (
    .seq (
     .block 5 (
      .seq (
       .ops [⟨(some 99), .iaddr 3 (.t 95) (.t 97), none⟩, ⟨(some 100), .load (some 3) (.t 99), none⟩, ⟨(some 18), .new (t_api_Alias N) (.agg [(.lit (.string (mkS []))), (.lit (.int .i64 0)), (.lit (.int .i64 0))]), none⟩, ⟨none, .store 3 (.t 18) (.t 100), none⟩]) (
      .seq (
       .ops [⟨(some 101), .mov (.t 3), none⟩, ⟨(some 102), .load (some 3) (.t 18), none⟩, ⟨(some 103), .call (.c (.fn (f_p_tree_Builder_Alias N) [] [])) [(.t 101), (.t 102)], none⟩]) (
      .ops [⟨(some 104), .mov (.t 4), none⟩, ⟨(some 105), .load (some 3) (.t 18), none⟩, ⟨(some 106), .call (.c (.fn (f_p_tree_Builder_Alias N) [] [])) [(.t 104), (.t 105)], none⟩])))) (
    .ops [⟨(some 107), .bin .add (.t 97) (.c (.lit (.int .i64 1))), none⟩, ⟨(some 97), .mov (.t 107), none⟩])))
def L_law04_TreeBuilds_4 (N : Nat → Nat) : AC :=
    .seq (
     .ops [⟨(some 153), .bin .lss (.t 152) (.t 151), none⟩]) (
    .seq (
     .cond (.t 153) (
      .skip) (
      .exit 6)) (
    .seq (
     .block 7 (
      .seq (
       .ops [⟨(some 154), .mov (.t 152), none⟩, ⟨(some 20), .mov (.t 154), none⟩]) (
      .seq (
       .dops 33 [⟨(some 155), .faddr 0 (.t 19), none⟩, ⟨(some 156), .load none (.t 155), none⟩, ⟨(some 157), .mov (.t 20), none⟩, ⟨(some 158), .iaddr 8 (.t 156) (.t 157), none⟩, ⟨(some 159), .faddr 1 (.t 158), none⟩, ⟨(some 160), .load none (.t 159), none⟩, ⟨(some 161), .faddr 0 (.t 1), none⟩, ⟨(some 162), .load none (.t 161), none⟩, ⟨(some 163), .mov (.t 20), none⟩, ⟨(some 164), .iaddr 8 (.t 162) (.t 163), none⟩, ⟨(some 165), .faddr 1 (.t 164), none⟩, ⟨(some 166), .load none (.t 165), none⟩, ⟨(some 167), .eq true .pint (.t 160) (.t 166), none⟩, ⟨(some 168), .mov (.t 167), none⟩, ⟨(some 169), .faddr 0 (.t 19), (some (168, false))⟩, ⟨(some 170), .load none (.t 169), (some (168, false))⟩, ⟨(some 171), .mov (.t 20), (some (168, false))⟩, ⟨(some 172), .iaddr 8 (.t 170) (.t 171), (some (168, false))⟩, ⟨(some 173), .faddr 0 (.t 172), (some (168, false))⟩, ⟨(some 174), .load none (.t 173), (some (168, false))⟩, ⟨(some 175), .faddr 0 (.t 1), (some (168, false))⟩, ⟨(some 176), .load none (.t 175), (some (168, false))⟩, ⟨(some 177), .mov (.t 20), (some (168, false))⟩, ⟨(some 178), .iaddr 8 (.t 176) (.t 177), (some (168, false))⟩, ⟨(some 179), .faddr 0 (.t 178), (some (168, false))⟩, ⟨(some 180), .load none (.t 179), (some (168, false))⟩, ⟨(some 181), .eq true .pint (.t 174) (.t 180), (some (168, false))⟩, ⟨(some 182), .pick (.t 168) (.c (.lit (.bool true))) (.t 181), none⟩] [0, 2, 0, 0, 0, 2, 0, 2, 0, 0, 0, 2, 0, 0, 0, 2, 0, 0, 0, 2, 0, 2, 0, 0, 0, 2, 0, 0] []) (
      .cond (.t 182) (
       .seq (
        .ops [⟨(some 2), .mov (.c (.lit (.bool false))), none⟩]) (
       .ret)) (
       .skip))))) (
    .ops [⟨(some 183), .bin .add (.t 152) (.c (.lit (.int .i64 1))), none⟩, ⟨(some 152), .mov (.t 183), none⟩])))
def K_law04_TreeBuilds_4 (N : Nat → Nat) : AC :=
 .seq (
  .ops [⟨(some 184), .load (some 3) (.t 1), none⟩, ⟨(some 185), .call (.c (.fn (f_tree_Check N) [] [])) [(.t 184)], none⟩, ⟨(some 186), .eq true .pint (.t 185) (.c (.lit (.int .i64 0))), none⟩, ⟨(some 187), .mov (.t 186), none⟩, ⟨(some 188), .load (some 3) (.t 19), (some (187, false))⟩, ⟨(some 189), .load (some 3) (.t 1), (some (187, false))⟩, ⟨(some 190), .call (.c (.fn (f_tree_Same N) [] [])) [(.t 188), (.t 189)], (some (187, false))⟩, ⟨(some 191), .pick (.t 187) (.c (.lit (.bool true))) (.t 190), none⟩, ⟨(some 2), .mov (.t 191), none⟩]) (
 .ret)
def K_law04_TreeBuilds_3 (N : Nat → Nat) : AC :=
 .seq (
  .ops [⟨(some 108), .mov (.t 3), none⟩, ⟨(some 109), .call (.c (.fn (f_p_tree_Builder_Tree N) [] [])) [(.t 108)], none⟩, ⟨(some 19), .new (t_api_Tree N) (.agg [(.lit (.slice none 0 0)), (.lit (.slice none 0 0)), (.lit (.slice none 0 0))]), none⟩, ⟨none, .store 3 (.t 19) (.t 109), none⟩]) (
 .seq (
  .seq (
   .dops 28 [⟨(some 110), .load (some 3) (.t 19), none⟩, ⟨(some 112), .load (some 3) (.t 1), none⟩, ⟨(some 111), .call (.c (.fn (f_tree_Check N) [] [])) [(.t 110)], none⟩, ⟨(some 113), .call (.c (.fn (f_tree_Check N) [] [])) [(.t 112)], none⟩, ⟨(some 114), .eq true .pint (.t 111) (.t 113), none⟩, ⟨(some 115), .mov (.t 114), none⟩, ⟨(some 116), .faddr 0 (.t 19), (some (115, false))⟩, ⟨(some 117), .load none (.t 116), (some (115, false))⟩, ⟨(some 118), .len (.t 117), (some (115, false))⟩, ⟨(some 119), .faddr 0 (.t 1), (some (115, false))⟩, ⟨(some 120), .load none (.t 119), (some (115, false))⟩, ⟨(some 121), .len (.t 120), (some (115, false))⟩, ⟨(some 122), .eq true .pint (.t 118) (.t 121), (some (115, false))⟩, ⟨(some 123), .pick (.t 115) (.c (.lit (.bool true))) (.t 122), none⟩, ⟨(some 124), .mov (.t 123), none⟩, ⟨(some 125), .faddr 1 (.t 19), (some (124, false))⟩, ⟨(some 126), .load none (.t 125), (some (124, false))⟩, ⟨(some 127), .len (.t 126), (some (124, false))⟩, ⟨(some 128), .faddr 1 (.t 1), (some (124, false))⟩, ⟨(some 129), .load none (.t 128), (some (124, false))⟩, ⟨(some 130), .len (.t 129), (some (124, false))⟩, ⟨(some 131), .eq true .pint (.t 127) (.t 130), (some (124, false))⟩, ⟨(some 132), .pick (.t 124) (.c (.lit (.bool true))) (.t 131), none⟩, ⟨(some 133), .mov (.t 132), none⟩, ⟨(some 134), .faddr 2 (.t 19), (some (133, false))⟩, ⟨(some 135), .load none (.t 134), (some (133, false))⟩, ⟨(some 136), .len (.t 135), (some (133, false))⟩, ⟨(some 137), .faddr 2 (.t 1), (some (133, false))⟩, ⟨(some 138), .load none (.t 137), (some (133, false))⟩, ⟨(some 139), .len (.t 138), (some (133, false))⟩, ⟨(some 140), .eq true .pint (.t 136) (.t 139), (some (133, false))⟩, ⟨(some 141), .pick (.t 133) (.c (.lit (.bool true))) (.t 140), none⟩, ⟨(some 142), .mov (.t 141), none⟩, ⟨(some 143), .mov (.t 4), (some (142, false))⟩, ⟨(some 144), .call (.c (.fn (f_p_tree_Builder_Tree N) [] [])) [(.t 143)], (some (142, false))⟩, ⟨(some 145), .field 0 none (.t 144), (some (142, false))⟩, ⟨(some 146), .len (.t 145), (some (142, false))⟩, ⟨(some 147), .eq true .pint (.t 146) (.c (.lit (.int .i64 0))), (some (142, false))⟩, ⟨(some 148), .pick (.t 142) (.c (.lit (.bool true))) (.t 147), none⟩] [2, 2, 1, 0, 0, 0, 0, 2, 0, 0, 2, 0, 0, 0, 0, 0, 2, 0, 0, 2, 0, 0, 0, 0, 0, 2, 0, 0, 2, 0, 0, 0, 0, 0, 0, 0, 0, 0, 0] []) (
  .cond (.t 148) (
   .seq (
    .ops [⟨(some 2), .mov (.c (.lit (.bool false))), none⟩]) (
   .ret)) (
   .skip))) (
 .seq (
  .seq (
   .ops [⟨(some 149), .faddr 0 (.t 1), none⟩, ⟨(some 150), .load none (.t 149), none⟩, ⟨(some 151), .len (.t 150), none⟩, ⟨(some 152), .mov (.c (.lit (.int .i64 0))), none⟩]) (
  .block 6 (
   .loop (L_law04_TreeBuilds_4 N)))) (K_law04_TreeBuilds_4 N)))
def K_law04_TreeBuilds_2 (N : Nat → Nat) : AC :=
 .seq (
  .seq (
   .ops [⟨(some 94), .faddr 2 (.t 1), none⟩, ⟨(some 95), .load none (.t 94), none⟩, ⟨(some 96), .len (.t 95), none⟩, ⟨(some 97), .mov (.c (.lit (.int .i64 0))), none⟩]) (
  .block 4 (
   .loop (L_law04_TreeBuilds_3 N)))) (K_law04_TreeBuilds_3 N)
def K_law04_TreeBuilds_1 (N : Nat → Nat) : AC :=
 .seq (
  .seq (
   .ops [⟨(some 62), .faddr 0 (.t 1), none⟩, ⟨(some 63), .load none (.t 62), none⟩, ⟨(some 64), .len (.t 63), none⟩, ⟨(some 65), .mov (.c (.lit (.int .i64 0))), none⟩]) (
  .block 2 (
   .loop (L_law04_TreeBuilds_2 N)))) (K_law04_TreeBuilds_2 N)
/-- azimuth/azimuthlaw04.TreeBuilds -/
def C_law04_TreeBuilds (N : Nat → Nat) : AFunc := ⟨192, [.inl 2],
 .seq (
  .ops [⟨(some 1), .box (t_api_Tree N) (.t 0), none⟩, ⟨(some 2), .mov (.c (.lit (.bool false))), none⟩]) (
 .seq (
  .seq (
   .ops [⟨(some 21), .call (.c (.fn (f_law04_lives N) [] [])) [], none⟩, ⟨(some 22), .un .not (.t 21), none⟩, ⟨(some 23), .mov (.t 22), none⟩, ⟨(some 24), .load (some 3) (.t 1), (some (23, false))⟩, ⟨(some 25), .call (.c (.fn (f_law04_Few N) [] [])) [(.t 24)], (some (23, false))⟩, ⟨(some 26), .un .not (.t 25), (some (23, false))⟩, ⟨(some 27), .pick (.t 23) (.c (.lit (.bool true))) (.t 26), none⟩]) (
  .cond (.t 27) (
   .seq (
    .ops [⟨(some 28), .call (.c (.fn (f_law04_lives N) [] [])) [], none⟩, ⟨(some 2), .mov (.t 28), none⟩]) (
   .ret)) (
   .skip))) (
 .seq (
  .ops [⟨(some 29), .call (.c (.fn (f_tree_New N) [] [])) [], none⟩, ⟨(some 3), .mov (.t 29), none⟩]) (
 .seq (
  .ops [⟨(some 4), .mov (.c (.lit (.pointer none))), none⟩]) (
 .seq (
  .seq (
   .ops [⟨(some 30), .faddr 1 (.t 1), none⟩, ⟨(some 31), .load none (.t 30), none⟩, ⟨(some 32), .len (.t 31), none⟩, ⟨(some 33), .mov (.c (.lit (.int .i64 0))), none⟩]) (
  .block 0 (
   .loop (L_law04_TreeBuilds_1 N)))) (K_law04_TreeBuilds_1 N))))), false⟩

def L_law04_TreeFull_1 (N : Nat → Nat) : AC :=
    .seq (
     .ops [⟨(some 14), .bin .lss (.t 13) (.c (.lit (.int .i64 65536))), none⟩]) (
    .seq (
     .cond (.t 14) (
      .skip) (
      .exit 0)) (
    .seq (
     .block 1 (
      .seq (
       .ops [⟨(some 16), .mov (.t 3), none⟩, ⟨(some 17), .mov (.t 0), none⟩, ⟨(some 18), .build [(.lit (.int .i64 0)), (.lit (.int .i64 0)), (.lit (.string (mkS []))), (.lit (.int .i64 0)), (.lit (.int .u64 0)), (.lit (.slice none 0 0)), (.lit (.slice none 0 0)), (.lit (.slice none 0 0))] [(0, 1, (.t 17))], none⟩, ⟨(some 19), .call (.c (.fn (f_p_tree_Builder_Term N) [] [])) [(.t 16), (.t 18)], none⟩, ⟨(some 15), .mov (.t 19), none⟩, ⟨(some 20), .extract (.t 15) 0, none⟩, ⟨(some 21), .extract (.t 15) 1, none⟩, ⟨(some 4), .mov (.t 20), none⟩, ⟨(some 5), .mov (.t 21), none⟩]) (
      .seq (
       .ops [⟨(some 22), .mov (.t 5), none⟩, ⟨(some 23), .eq true .pint (.t 22) (.c (.lit (.int .i64 0))), none⟩]) (
      .cond (.t 23) (
       .seq (
        .ops [⟨(some 2), .mov (.c (.lit (.bool false))), none⟩]) (
       .ret)) (
       .skip))))) (
    .ops [⟨(some 24), .bin .add (.t 13) (.c (.lit (.int .i64 1))), none⟩, ⟨(some 13), .mov (.t 24), none⟩])))
def K_law04_TreeFull_1 (N : Nat → Nat) : AC :=
 .seq (
  .ops [⟨(some 26), .mov (.t 3), none⟩, ⟨(some 27), .build [(.lit (.int .i64 0)), (.lit (.int .i64 0)), (.lit (.string (mkS []))), (.lit (.int .i64 0)), (.lit (.int .u64 0)), (.lit (.slice none 0 0)), (.lit (.slice none 0 0)), (.lit (.slice none 0 0))] [], none⟩, ⟨(some 28), .call (.c (.fn (f_p_tree_Builder_Term N) [] [])) [(.t 26), (.t 27)], none⟩, ⟨(some 25), .mov (.t 28), none⟩, ⟨(some 29), .extract (.t 25) 0, none⟩, ⟨(some 30), .extract (.t 25) 1, none⟩, ⟨(some 6), .mov (.t 29), none⟩, ⟨(some 7), .mov (.t 30), none⟩]) (
 .seq (
  .ops [⟨(some 32), .mov (.t 3), none⟩, ⟨(some 33), .build [(.lit (.int .i64 0)), (.lit (.int .i64 0)), (.lit (.string (mkS []))), (.lit (.slice none 0 0)), (.lit (.slice none 0 0)), (.lit (.bool false))] [], none⟩, ⟨(some 34), .call (.c (.fn (f_p_tree_Builder_Type N) [] [])) [(.t 32), (.t 33)], none⟩, ⟨(some 31), .mov (.t 34), none⟩, ⟨(some 35), .extract (.t 31) 0, none⟩, ⟨(some 36), .extract (.t 31) 1, none⟩, ⟨(some 8), .mov (.t 35), none⟩, ⟨(some 9), .mov (.t 36), none⟩]) (
 .seq (
  .ops [⟨(some 37), .mov (.t 7), none⟩, ⟨(some 38), .eq false .pint (.t 37) (.c (.lit (.int .i64 6))), none⟩, ⟨(some 39), .mov (.t 38), none⟩, ⟨(some 40), .mov (.t 6), (some (39, true))⟩, ⟨(some 41), .eq false .pint (.t 40) (.c (.lit (.int .i64 0))), (some (39, true))⟩, ⟨(some 42), .pick (.t 39) (.t 41) (.c (.lit (.bool false))), none⟩, ⟨(some 43), .mov (.t 42), none⟩, ⟨(some 44), .mov (.t 9), (some (43, true))⟩, ⟨(some 45), .eq false .pint (.t 44) (.c (.lit (.int .i64 0))), (some (43, true))⟩, ⟨(some 46), .pick (.t 43) (.t 45) (.c (.lit (.bool false))), none⟩, ⟨(some 47), .mov (.t 46), none⟩, ⟨(some 48), .mov (.t 3), (some (47, true))⟩, ⟨(some 49), .call (.c (.fn (f_p_tree_Builder_Tree N) [] [])) [(.t 48)], (some (47, true))⟩, ⟨(some 50), .field 0 none (.t 49), (some (47, true))⟩, ⟨(some 51), .len (.t 50), (some (47, true))⟩, ⟨(some 52), .eq false .pint (.t 51) (.c (.lit (.int .i64 65536))), (some (47, true))⟩, ⟨(some 53), .pick (.t 47) (.t 52) (.c (.lit (.bool false))), none⟩, ⟨(some 2), .mov (.t 53), none⟩]) (
 .ret)))
/-- azimuth/azimuthlaw04.TreeFull -/
def C_law04_TreeFull (N : Nat → Nat) : AFunc := ⟨54, [.inl 2],
 .seq (
  .ops [⟨(some 2), .mov (.c (.lit (.bool false))), none⟩]) (
 .seq (
  .seq (
   .ops [⟨(some 10), .call (.c (.fn (f_law04_lives N) [] [])) [], none⟩, ⟨(some 11), .un .not (.t 10), none⟩]) (
  .cond (.t 11) (
   .seq (
    .ops [⟨(some 2), .mov (.c (.lit (.bool false))), none⟩]) (
   .ret)) (
   .skip))) (
 .seq (
  .ops [⟨(some 12), .call (.c (.fn (f_tree_New N) [] [])) [], none⟩, ⟨(some 3), .mov (.t 12), none⟩]) (
 .seq (
  .seq (
   .ops [⟨(some 13), .mov (.c (.lit (.int .i64 0))), none⟩]) (
  .block 0 (
   .loop (L_law04_TreeFull_1 N)))) (K_law04_TreeFull_1 N)))), false⟩

def L_law04_TreeSame_2 (N : Nat → Nat) : AC :=
         .seq (
          .ops [⟨(some 65), .bin .lss (.t 64) (.t 63), none⟩]) (
         .seq (
          .cond (.t 65) (
           .skip) (
           .exit 2)) (
         .seq (
          .block 3 (
           .seq (
            .ops [⟨(some 66), .mov (.t 64), none⟩, ⟨(some 9), .mov (.t 66), none⟩]) (
           .ops [⟨(some 67), .faddr 0 (.t 7), none⟩, ⟨(some 68), .load none (.t 67), none⟩, ⟨(some 69), .mov (.t 8), none⟩, ⟨(some 70), .iaddr 8 (.t 68) (.t 69), none⟩, ⟨(some 71), .faddr 6 (.t 70), none⟩, ⟨(some 72), .load none (.t 71), none⟩, ⟨(some 73), .mov (.t 9), none⟩, ⟨(some 74), .iaddr 1 (.t 72) (.t 73), none⟩, ⟨none, .store 1 (.t 74) (.c (.lit (.int .i64 (-1)))), none⟩]))) (
         .ops [⟨(some 75), .bin .add (.t 64) (.c (.lit (.int .i64 1))), none⟩, ⟨(some 64), .mov (.t 75), none⟩])))
def L_law04_TreeSame_3 (N : Nat → Nat) : AC :=
   .seq (
    .ops [⟨(some 84), .bin .lss (.t 83) (.t 82), none⟩]) (
   .seq (
    .cond (.t 84) (
     .skip) (
     .exit 4)) (
   .seq (
    .block 5 (
     .seq (
      .ops [⟨(some 85), .mov (.t 83), none⟩, ⟨(some 10), .mov (.t 85), none⟩]) (
     .ops [⟨(some 86), .faddr 0 (.t 7), none⟩, ⟨(some 87), .load none (.t 86), none⟩, ⟨(some 88), .mov (.t 8), none⟩, ⟨(some 89), .iaddr 8 (.t 87) (.t 88), none⟩, ⟨(some 90), .faddr 5 (.t 89), none⟩, ⟨(some 91), .load none (.t 90), none⟩, ⟨(some 92), .mov (.t 10), none⟩, ⟨(some 93), .iaddr 1 (.t 91) (.t 92), none⟩, ⟨none, .store 1 (.t 93) (.c (.lit (.string (mkS [63])))), none⟩]))) (
   .ops [⟨(some 94), .bin .add (.t 83) (.c (.lit (.int .i64 1))), none⟩, ⟨(some 83), .mov (.t 94), none⟩])))
def K_law04_TreeSame_1 (N : Nat → Nat) : AC :=
 .seq (
  .ops [⟨(some 76), .faddr 0 (.t 7), none⟩, ⟨(some 77), .load none (.t 76), none⟩, ⟨(some 78), .mov (.t 8), none⟩, ⟨(some 79), .iaddr 8 (.t 77) (.t 78), none⟩, ⟨(some 80), .faddr 5 (.t 79), none⟩, ⟨(some 81), .load none (.t 80), none⟩, ⟨(some 82), .len (.t 81), none⟩, ⟨(some 83), .mov (.c (.lit (.int .i64 0))), none⟩]) (
 .block 4 (
  .loop (L_law04_TreeSame_3 N)))
def K_law04_TreeSame_2 (N : Nat → Nat) : AC :=
 .ops [⟨(some 95), .bin .add (.t 54) (.c (.lit (.int .i64 1))), none⟩, ⟨(some 54), .mov (.t 95), none⟩]
def L_law04_TreeSame_1 (N : Nat → Nat) : AC :=
    .seq (
     .ops [⟨(some 55), .bin .lss (.t 54) (.t 53), none⟩]) (
    .seq (
     .cond (.t 55) (
      .skip) (
      .exit 0)) (
    .seq (
     .block 1 (
      .seq (
       .ops [⟨(some 56), .mov (.t 54), none⟩, ⟨(some 8), .mov (.t 56), none⟩]) (
      .seq (
       .seq (
        .ops [⟨(some 57), .faddr 0 (.t 7), none⟩, ⟨(some 58), .load none (.t 57), none⟩, ⟨(some 59), .mov (.t 8), none⟩, ⟨(some 60), .iaddr 8 (.t 58) (.t 59), none⟩, ⟨(some 61), .faddr 6 (.t 60), none⟩, ⟨(some 62), .load none (.t 61), none⟩, ⟨(some 63), .len (.t 62), none⟩, ⟨(some 64), .mov (.c (.lit (.int .i64 0))), none⟩]) (
       .block 2 (
        .loop (L_law04_TreeSame_2 N)))) (K_law04_TreeSame_1 N)))) (K_law04_TreeSame_2 N)))
def L_law04_TreeSame_5 (N : Nat → Nat) : AC :=
        .seq (
         .ops [⟨(some 110), .bin .lss (.t 109) (.t 108), none⟩]) (
        .seq (
         .cond (.t 110) (
          .skip) (
          .exit 8)) (
        .seq (
         .block 9 (
          .seq (
           .ops [⟨(some 111), .mov (.t 109), none⟩, ⟨(some 12), .mov (.t 111), none⟩]) (
          .ops [⟨(some 112), .faddr 1 (.t 7), none⟩, ⟨(some 113), .load none (.t 112), none⟩, ⟨(some 114), .mov (.t 11), none⟩, ⟨(some 115), .iaddr 6 (.t 113) (.t 114), none⟩, ⟨(some 116), .faddr 4 (.t 115), none⟩, ⟨(some 117), .load none (.t 116), none⟩, ⟨(some 118), .mov (.t 12), none⟩, ⟨(some 119), .iaddr 1 (.t 117) (.t 118), none⟩, ⟨none, .store 1 (.t 119) (.c (.lit (.int .i64 (-1)))), none⟩]))) (
        .ops [⟨(some 120), .bin .add (.t 109) (.c (.lit (.int .i64 1))), none⟩, ⟨(some 109), .mov (.t 120), none⟩])))
def K_law04_TreeSame_4 (N : Nat → Nat) : AC :=
 .ops [⟨(some 121), .bin .add (.t 99) (.c (.lit (.int .i64 1))), none⟩, ⟨(some 99), .mov (.t 121), none⟩]
def L_law04_TreeSame_4 (N : Nat → Nat) : AC :=
    .seq (
     .ops [⟨(some 100), .bin .lss (.t 99) (.t 98), none⟩]) (
    .seq (
     .cond (.t 100) (
      .skip) (
      .exit 6)) (
    .seq (
     .block 7 (
      .seq (
       .ops [⟨(some 101), .mov (.t 99), none⟩, ⟨(some 11), .mov (.t 101), none⟩]) (
      .seq (
       .ops [⟨(some 102), .faddr 1 (.t 7), none⟩, ⟨(some 103), .load none (.t 102), none⟩, ⟨(some 104), .mov (.t 11), none⟩, ⟨(some 105), .iaddr 6 (.t 103) (.t 104), none⟩, ⟨(some 106), .faddr 4 (.t 105), none⟩, ⟨(some 107), .load none (.t 106), none⟩, ⟨(some 108), .len (.t 107), none⟩, ⟨(some 109), .mov (.c (.lit (.int .i64 0))), none⟩]) (
      .block 8 (
       .loop (L_law04_TreeSame_5 N)))))) (K_law04_TreeSame_4 N)))
def K_law04_TreeSame_5 (N : Nat → Nat) : AC :=
 .seq (
  .ops [⟨(some 122), .load (some 3) (.t 3), none⟩, ⟨(some 123), .call (.c (.fn (f_ref04_Right N) [] [])) [(.t 122)], none⟩, ⟨(some 6), .mov (.t 123), none⟩]) (
 .ret)
def K_law04_TreeSame_3 (N : Nat → Nat) : AC :=
 .seq (
  .seq (
   .ops [⟨(some 96), .faddr 1 (.t 7), none⟩, ⟨(some 97), .load none (.t 96), none⟩, ⟨(some 98), .len (.t 97), none⟩, ⟨(some 99), .mov (.c (.lit (.int .i64 0))), none⟩]) (
  .block 6 (
   .loop (L_law04_TreeSame_4 N)))) (K_law04_TreeSame_5 N)
/-- azimuth/azimuthlaw04.TreeSame -/
def C_law04_TreeSame (N : Nat → Nat) : AFunc := ⟨124, [.inl 6],
 .seq (
  .ops [⟨(some 3), .box (t_api_Tree N) (.t 0), none⟩, ⟨(some 4), .box (t_api_Tree N) (.t 1), none⟩, ⟨(some 6), .mov (.c (.lit (.bool false))), none⟩]) (
 .seq (
  .seq (
   .ops [⟨(some 13), .call (.c (.fn (f_law04_lives N) [] [])) [], none⟩, ⟨(some 14), .un .not (.t 13), none⟩, ⟨(some 15), .mov (.t 14), none⟩, ⟨(some 16), .load (some 3) (.t 3), (some (15, false))⟩, ⟨(some 17), .call (.c (.fn (f_law04_Few N) [] [])) [(.t 16)], (some (15, false))⟩, ⟨(some 18), .un .not (.t 17), (some (15, false))⟩, ⟨(some 19), .pick (.t 15) (.c (.lit (.bool true))) (.t 18), none⟩, ⟨(some 20), .mov (.t 19), none⟩, ⟨(some 21), .load (some 3) (.t 4), (some (20, false))⟩, ⟨(some 22), .call (.c (.fn (f_law04_Few N) [] [])) [(.t 21)], (some (20, false))⟩, ⟨(some 23), .un .not (.t 22), (some (20, false))⟩, ⟨(some 24), .pick (.t 20) (.c (.lit (.bool true))) (.t 23), none⟩]) (
  .cond (.t 24) (
   .seq (
    .ops [⟨(some 25), .call (.c (.fn (f_law04_lives N) [] [])) [], none⟩, ⟨(some 6), .mov (.t 25), none⟩]) (
   .ret)) (
   .skip))) (
 .seq (
  .seq (
   .dops 3 [⟨(some 26), .load (some 3) (.t 3), none⟩, ⟨(some 27), .load (some 3) (.t 4), none⟩, ⟨(some 29), .load (some 3) (.t 3), none⟩, ⟨(some 30), .load (some 3) (.t 4), none⟩, ⟨(some 28), .call (.c (.fn (f_tree_Same N) [] [])) [(.t 26), (.t 27)], none⟩, ⟨(some 31), .call (.c (.fn (f_ref04_Same N) [] [])) [(.t 29), (.t 30)], none⟩, ⟨(some 32), .eq true .pbool (.t 28) (.t 31), none⟩, ⟨(some 33), .mov (.t 32), none⟩, ⟨(some 34), .load (some 3) (.t 3), (some (33, false))⟩, ⟨(some 35), .load (some 3) (.t 4), (some (33, false))⟩, ⟨(some 37), .load (some 3) (.t 4), (some (33, false))⟩, ⟨(some 38), .load (some 3) (.t 3), (some (33, false))⟩, ⟨(some 36), .call (.c (.fn (f_tree_Same N) [] [])) [(.t 34), (.t 35)], (some (33, false))⟩, ⟨(some 39), .call (.c (.fn (f_tree_Same N) [] [])) [(.t 37), (.t 38)], (some (33, false))⟩, ⟨(some 40), .eq true .pbool (.t 36) (.t 39), (some (33, false))⟩, ⟨(some 41), .pick (.t 33) (.c (.lit (.bool true))) (.t 40), none⟩] [2, 2, 2, 2, 1, 0, 0, 0, 2, 2, 2, 2, 1, 0, 0, 0] []) (
  .cond (.t 41) (
   .seq (
    .ops [⟨(some 6), .mov (.c (.lit (.bool false))), none⟩]) (
   .ret)) (
   .skip))) (
 .seq (
  .seq (
   .ops [⟨(some 42), .load (some 3) (.t 3), none⟩, ⟨(some 43), .call (.c (.fn (f_ref04_Right N) [] [])) [(.t 42)], none⟩, ⟨(some 44), .un .not (.t 43), none⟩]) (
  .cond (.t 44) (
   .seq (
    .ops [⟨(some 6), .mov (.c (.lit (.bool true))), none⟩]) (
   .ret)) (
   .skip))) (
 .seq (
  .ops [⟨(some 45), .load (some 3) (.t 3), none⟩, ⟨(some 46), .call (.c (.fn (f_tree_Clone N) [] [])) [(.t 45)], none⟩, ⟨(some 7), .new (t_api_Tree N) (.agg [(.lit (.slice none 0 0)), (.lit (.slice none 0 0)), (.lit (.slice none 0 0))]), none⟩, ⟨none, .store 3 (.t 7) (.t 46), none⟩]) (
 .seq (
  .seq (
   .ops [⟨(some 47), .load (some 3) (.t 3), none⟩, ⟨(some 48), .load (some 3) (.t 7), none⟩, ⟨(some 49), .call (.c (.fn (f_tree_Same N) [] [])) [(.t 47), (.t 48)], none⟩, ⟨(some 50), .un .not (.t 49), none⟩]) (
  .cond (.t 50) (
   .seq (
    .ops [⟨(some 6), .mov (.c (.lit (.bool false))), none⟩]) (
   .ret)) (
   .skip))) (
 .seq (
  .seq (
   .ops [⟨(some 51), .faddr 0 (.t 7), none⟩, ⟨(some 52), .load none (.t 51), none⟩, ⟨(some 53), .len (.t 52), none⟩, ⟨(some 54), .mov (.c (.lit (.int .i64 0))), none⟩]) (
  .block 0 (
   .loop (L_law04_TreeSame_1 N)))) (K_law04_TreeSame_3 N))))))), false⟩

def L_law04_all_1 (N : Nat → Nat) : AC :=
    .ops [⟨(some 4), .mov (.t 6), none⟩]
def L_law04_all_2 (N : Nat → Nat) : AC :=
    .block 1 (
     .ops [⟨(some 7), .load none (.t 3), none⟩, ⟨(some 8), .mov (.t 4), none⟩, ⟨(some 9), .bslice (t_int N) 1 none 1 [(.lit (.int .i64 0))] [(0, 1, (.t 8))], none⟩, ⟨(some 10), .append (t_int N) 1 8 (.t 7) (.t 9), none⟩, ⟨none, .store 1 (.t 3) (.t 10), none⟩])
def K_law04_all_1 (N : Nat → Nat) : AC :=
 .seq (
  .ops [⟨(some 11), .load none (.t 3), none⟩, ⟨(some 2), .mov (.t 11), none⟩]) (
 .ret)
/-- azimuth/azimuthlaw04.all -/
def C_law04_all (N : Nat → Nat) : AFunc := ⟨12, [.inl 2],
 .seq (
  .ops [⟨(some 2), .mov (.c (.lit (.slice none 0 0))), none⟩]) (
 .seq (
  .ops [⟨(some 3), .new (t_sl_int N) (.lit (.slice none 0 0)), none⟩]) (
 .seq (
  .seq (
   .ops [⟨(some 5), .mov (.t 0), none⟩]) (
  .block 0 (
   .rangeFn (.t 5) [6] (L_law04_all_1 N) (L_law04_all_2 N)))) (K_law04_all_1 N))), false⟩

/-- azimuth/azimuthlaw04.lives -/
def C_law04_lives (N : Nat → Nat) : AFunc := ⟨40, [.inl 0],
 .seq (
  .ops [⟨(some 0), .mov (.c (.lit (.bool false))), none⟩]) (
 .seq (
  .ops [⟨(some 7), .call (.c (.fn (f_tree_New N) [] [])) [], none⟩, ⟨(some 1), .mov (.t 7), none⟩]) (
 .seq (
  .ops [⟨(some 9), .mov (.t 1), none⟩, ⟨(some 10), .build [(.lit (.int .i64 0)), (.lit (.int .i64 0)), (.lit (.string (mkS []))), (.lit (.int .i64 0)), (.lit (.int .u64 0)), (.lit (.slice none 0 0)), (.lit (.slice none 0 0)), (.lit (.slice none 0 0))] [(0, 1, (.c (.lit (.int .i64 0)))), (2, 1, (.c (.lit (.string (mkS [120])))))], none⟩, ⟨(some 11), .call (.c (.fn (f_p_tree_Builder_Term N) [] [])) [(.t 9), (.t 10)], none⟩, ⟨(some 8), .mov (.t 11), none⟩, ⟨(some 12), .extract (.t 8) 0, none⟩, ⟨(some 13), .extract (.t 8) 1, none⟩, ⟨(some 2), .mov (.t 12), none⟩, ⟨(some 3), .mov (.t 13), none⟩]) (
 .seq (
  .ops [⟨(some 15), .mov (.t 1), none⟩, ⟨(some 16), .mov (.t 2), none⟩, ⟨(some 17), .bslice (t_int N) 1 none 1 [(.lit (.int .i64 0))] [(0, 1, (.t 16))], none⟩, ⟨(some 18), .build [(.lit (.int .i64 0)), (.lit (.int .i64 0)), (.lit (.string (mkS []))), (.lit (.int .i64 0)), (.lit (.int .u64 0)), (.lit (.slice none 0 0)), (.lit (.slice none 0 0)), (.lit (.slice none 0 0))] [(0, 1, (.c (.lit (.int .i64 5)))), (2, 1, (.c (.lit (.string (mkS [120]))))), (6, 1, (.t 17))], none⟩, ⟨(some 19), .call (.c (.fn (f_p_tree_Builder_Term N) [] [])) [(.t 15), (.t 18)], none⟩, ⟨(some 14), .mov (.t 19), none⟩, ⟨(some 20), .extract (.t 14) 0, none⟩, ⟨(some 21), .extract (.t 14) 1, none⟩, ⟨(some 4), .mov (.t 20), none⟩, ⟨(some 5), .mov (.t 21), none⟩]) (
 .seq (
  .ops [⟨(some 22), .mov (.t 1), none⟩, ⟨(some 23), .call (.c (.fn (f_p_tree_Builder_Tree N) [] [])) [(.t 22)], none⟩, ⟨(some 6), .new (t_api_Tree N) (.agg [(.lit (.slice none 0 0)), (.lit (.slice none 0 0)), (.lit (.slice none 0 0))]), none⟩, ⟨none, .store 3 (.t 6) (.t 23), none⟩]) (
 .seq (
  .ops [⟨(some 24), .mov (.t 3), none⟩, ⟨(some 25), .eq false .pint (.t 24) (.c (.lit (.int .i64 0))), none⟩, ⟨(some 26), .mov (.t 25), none⟩, ⟨(some 27), .mov (.t 5), (some (26, true))⟩, ⟨(some 28), .eq false .pint (.t 27) (.c (.lit (.int .i64 0))), (some (26, true))⟩, ⟨(some 29), .pick (.t 26) (.t 28) (.c (.lit (.bool false))), none⟩, ⟨(some 30), .mov (.t 29), none⟩, ⟨(some 31), .load (some 3) (.t 6), (some (30, true))⟩, ⟨(some 32), .call (.c (.fn (f_tree_Check N) [] [])) [(.t 31)], (some (30, true))⟩, ⟨(some 33), .eq false .pint (.t 32) (.c (.lit (.int .i64 0))), (some (30, true))⟩, ⟨(some 34), .pick (.t 30) (.t 33) (.c (.lit (.bool false))), none⟩, ⟨(some 35), .mov (.t 34), none⟩, ⟨(some 36), .load (some 3) (.t 6), (some (35, true))⟩, ⟨(some 37), .call (.c (.fn (f_tree_Depth N) [] [])) [(.t 36)], (some (35, true))⟩, ⟨(some 38), .eq false .pint (.t 37) (.c (.lit (.int .i64 2))), (some (35, true))⟩, ⟨(some 39), .pick (.t 35) (.t 38) (.c (.lit (.bool false))), none⟩, ⟨(some 0), .mov (.t 39), none⟩]) (
 .ret)))))), false⟩

def L_law04_same_1 (N : Nat → Nat) : AC :=
    .seq (
     .ops [⟨(some 14), .bin .lss (.t 13) (.t 12), none⟩]) (
    .seq (
     .cond (.t 14) (
      .skip) (
      .exit 0)) (
    .seq (
     .block 1 (
      .seq (
       .ops [⟨(some 15), .mov (.t 13), none⟩, ⟨(some 5), .mov (.t 15), none⟩]) (
      .seq (
       .dops 6 [⟨(some 16), .mov (.t 0), none⟩, ⟨(some 17), .mov (.t 5), none⟩, ⟨(some 18), .iaddr 1 (.t 16) (.t 17), none⟩, ⟨(some 19), .load none (.t 18), none⟩, ⟨(some 20), .mov (.t 1), none⟩, ⟨(some 21), .mov (.t 5), none⟩, ⟨(some 22), .iaddr 1 (.t 20) (.t 21), none⟩, ⟨(some 23), .load none (.t 22), none⟩, ⟨(some 24), .eq true .pint (.t 19) (.t 23), none⟩] [0, 0, 0, 2, 0, 0, 0, 2, 0] []) (
      .cond (.t 24) (
       .seq (
        .ops [⟨(some 4), .mov (.c (.lit (.bool false))), none⟩]) (
       .ret)) (
       .skip))))) (
    .ops [⟨(some 25), .bin .add (.t 13) (.c (.lit (.int .i64 1))), none⟩, ⟨(some 13), .mov (.t 25), none⟩])))
def K_law04_same_1 (N : Nat → Nat) : AC :=
 .seq (
  .ops [⟨(some 4), .mov (.c (.lit (.bool true))), none⟩]) (
 .ret)
/-- azimuth/azimuthlaw04.same -/
def C_law04_same (N : Nat → Nat) : AFunc := ⟨26, [.inl 4],
 .seq (
  .ops [⟨(some 4), .mov (.c (.lit (.bool false))), none⟩]) (
 .seq (
  .seq (
   .ops [⟨(some 6), .mov (.t 0), none⟩, ⟨(some 7), .len (.t 6), none⟩, ⟨(some 8), .mov (.t 1), none⟩, ⟨(some 9), .len (.t 8), none⟩, ⟨(some 10), .eq true .pint (.t 7) (.t 9), none⟩]) (
  .cond (.t 10) (
   .seq (
    .ops [⟨(some 4), .mov (.c (.lit (.bool false))), none⟩]) (
   .ret)) (
   .skip))) (
 .seq (
  .seq (
   .ops [⟨(some 11), .mov (.t 0), none⟩, ⟨(some 12), .len (.t 11), none⟩, ⟨(some 13), .mov (.c (.lit (.int .i64 0))), none⟩]) (
  .block 0 (
   .loop (L_law04_same_1 N)))) (K_law04_same_1 N))), false⟩
end Go.Proofs.Eng
/- Templates of functions, as the engine takes them; numbers of functions and types by names. Printed by tm.py. -/
set_option linter.unusedVariables false
set_option maxRecDepth 100000
namespace Go.Proofs.Eng
open Go

/-- (*slices.xorshift).Next -/
def C_p_slices_xorshift_Next (N : Nat → Nat) : AFunc := ⟨33, [.inl 2],
 .seq (
  .ops [⟨(some 2), .mov (.c (.lit (.int .u64 0))), none⟩]) (
 .seq (
  .dops 1 [⟨(some 3), .mov (.t 0), none⟩, ⟨(some 4), .nilchk (.t 3), none⟩, ⟨(some 5), .load none (.t 4), none⟩, ⟨(some 6), .mov (.t 0), none⟩, ⟨(some 7), .nilchk (.t 6), none⟩, ⟨(some 8), .load none (.t 7), none⟩, ⟨(some 9), .bin .shl (.t 8) (.c (.lit (.int .u64 13))), none⟩, ⟨(some 10), .bin .xor (.t 5) (.t 9), none⟩, ⟨(some 11), .nilchk (.t 3), none⟩, ⟨none, .store 1 (.t 11) (.t 10), none⟩] [0, 0, 2, 0, 0, 2, 0, 0, 0, 0] []) (
 .seq (
  .dops 2 [⟨(some 12), .mov (.t 0), none⟩, ⟨(some 13), .nilchk (.t 12), none⟩, ⟨(some 14), .load none (.t 13), none⟩, ⟨(some 15), .mov (.t 0), none⟩, ⟨(some 16), .nilchk (.t 15), none⟩, ⟨(some 17), .load none (.t 16), none⟩, ⟨(some 18), .bin .shr (.t 17) (.c (.lit (.int .u64 7))), none⟩, ⟨(some 19), .bin .xor (.t 14) (.t 18), none⟩, ⟨(some 20), .nilchk (.t 12), none⟩, ⟨none, .store 1 (.t 20) (.t 19), none⟩] [0, 0, 2, 0, 0, 2, 0, 0, 0, 0] []) (
 .seq (
  .dops 3 [⟨(some 21), .mov (.t 0), none⟩, ⟨(some 22), .nilchk (.t 21), none⟩, ⟨(some 23), .load none (.t 22), none⟩, ⟨(some 24), .mov (.t 0), none⟩, ⟨(some 25), .nilchk (.t 24), none⟩, ⟨(some 26), .load none (.t 25), none⟩, ⟨(some 27), .bin .shl (.t 26) (.c (.lit (.int .u64 17))), none⟩, ⟨(some 28), .bin .xor (.t 23) (.t 27), none⟩, ⟨(some 29), .nilchk (.t 21), none⟩, ⟨none, .store 1 (.t 29) (.t 28), none⟩] [0, 0, 2, 0, 0, 2, 0, 0, 0, 0] []) (
 .seq (
  .ops [⟨(some 30), .mov (.t 0), none⟩, ⟨(some 31), .nilchk (.t 30), none⟩, ⟨(some 32), .load none (.t 31), none⟩, ⟨(some 2), .mov (.t 32), none⟩]) (
 .ret))))), false⟩

/-- cmp.Less[int] -/
def C_cmp_Less_int (N : Nat → Nat) : AFunc := ⟨17, [.inl 4],
 .seq (
  .ops [⟨(some 4), .mov (.c (.lit (.bool false))), none⟩]) (
 .seq (
  .ops [⟨(some 5), .mov (.t 0), none⟩, ⟨(some 6), .call (.c (.fn (f_cmp_isNaN_int N) [] [])) [(.t 5)], none⟩, ⟨(some 7), .mov (.t 6), none⟩, ⟨(some 8), .mov (.t 1), (some (7, true))⟩, ⟨(some 9), .call (.c (.fn (f_cmp_isNaN_int N) [] [])) [(.t 8)], (some (7, true))⟩, ⟨(some 10), .un .not (.t 9), (some (7, true))⟩, ⟨(some 11), .pick (.t 7) (.t 10) (.c (.lit (.bool false))), none⟩, ⟨(some 12), .mov (.t 11), none⟩, ⟨(some 13), .mov (.t 0), (some (12, false))⟩, ⟨(some 14), .mov (.t 1), (some (12, false))⟩, ⟨(some 15), .bin .lss (.t 13) (.t 14), (some (12, false))⟩, ⟨(some 16), .pick (.t 12) (.c (.lit (.bool true))) (.t 15), none⟩, ⟨(some 4), .mov (.t 16), none⟩]) (
 .ret)), false⟩

/-- cmp.Less[string] -/
def C_cmp_Less_string (N : Nat → Nat) : AFunc := ⟨17, [.inl 4],
 .seq (
  .ops [⟨(some 4), .mov (.c (.lit (.bool false))), none⟩]) (
 .seq (
  .ops [⟨(some 5), .mov (.t 0), none⟩, ⟨(some 6), .call (.c (.fn (f_cmp_isNaN_string N) [] [])) [(.t 5)], none⟩, ⟨(some 7), .mov (.t 6), none⟩, ⟨(some 8), .mov (.t 1), (some (7, true))⟩, ⟨(some 9), .call (.c (.fn (f_cmp_isNaN_string N) [] [])) [(.t 8)], (some (7, true))⟩, ⟨(some 10), .un .not (.t 9), (some (7, true))⟩, ⟨(some 11), .pick (.t 7) (.t 10) (.c (.lit (.bool false))), none⟩, ⟨(some 12), .mov (.t 11), none⟩, ⟨(some 13), .mov (.t 0), (some (12, false))⟩, ⟨(some 14), .mov (.t 1), (some (12, false))⟩, ⟨(some 15), .bin .lss (.t 13) (.t 14), (some (12, false))⟩, ⟨(some 16), .pick (.t 12) (.c (.lit (.bool true))) (.t 15), none⟩, ⟨(some 4), .mov (.t 16), none⟩]) (
 .ret)), false⟩

/-- cmp.isNaN[int] -/
def C_cmp_isNaN_int (N : Nat → Nat) : AFunc := ⟨6, [.inl 2],
 .seq (
  .ops [⟨(some 2), .mov (.c (.lit (.bool false))), none⟩]) (
 .seq (
  .ops [⟨(some 3), .mov (.t 0), none⟩, ⟨(some 4), .mov (.t 0), none⟩, ⟨(some 5), .eq true .pint (.t 3) (.t 4), none⟩, ⟨(some 2), .mov (.t 5), none⟩]) (
 .ret)), false⟩

/-- cmp.isNaN[string] -/
def C_cmp_isNaN_string (N : Nat → Nat) : AFunc := ⟨6, [.inl 2],
 .seq (
  .ops [⟨(some 2), .mov (.c (.lit (.bool false))), none⟩]) (
 .seq (
  .ops [⟨(some 3), .mov (.t 0), none⟩, ⟨(some 4), .mov (.t 0), none⟩, ⟨(some 5), .eq true .pstr (.t 3) (.t 4), none⟩, ⟨(some 2), .mov (.t 5), none⟩]) (
 .ret)), false⟩

/-- math/bits.Len -/
def C_math_bits_Len (N : Nat → Nat) : AFunc := ⟨8, [.inl 2],
 .seq (
  .ops [⟨(some 2), .mov (.c (.lit (.int .i64 0))), none⟩]) (
 .seq (
  .cond (.c (.lit (.bool false))) (
   .seq (
    .ops [⟨(some 3), .mov (.t 0), none⟩, ⟨(some 4), .conv (.toInt .u32) (.t 3), none⟩, ⟨(some 5), .call (.c (.fn (f_math_bits_Len32 N) [] [])) [(.t 4)], none⟩, ⟨(some 2), .mov (.t 5), none⟩]) (
   .ret)) (
   .skip)) (
 .seq (
  .ops [⟨(some 6), .mov (.t 0), none⟩, ⟨(some 7), .call (.c (.fn (f_math_bits_Len64 N) [] [])) [(.t 6)], none⟩, ⟨(some 2), .mov (.t 7), none⟩]) (
 .ret))), false⟩

/-- math/bits.Len32 -/
def C_math_bits_Len32 (N : Nat → Nat) : AFunc := ⟨19, [.inl 2],
 .seq (
  .ops [⟨(some 2), .mov (.c (.lit (.int .i64 0))), none⟩]) (
 .seq (
  .seq (
   .ops [⟨(some 3), .mov (.t 0), none⟩, ⟨(some 4), .bin .geq (.t 3) (.c (.lit (.int .u32 65536))), none⟩]) (
  .cond (.t 4) (
   .seq (
    .ops [⟨(some 5), .mov (.t 0), none⟩, ⟨(some 6), .bin .shr (.t 5) (.c (.lit (.int .u64 16))), none⟩, ⟨(some 0), .mov (.t 6), none⟩]) (
   .ops [⟨(some 2), .mov (.c (.lit (.int .i64 16))), none⟩])) (
   .skip))) (
 .seq (
  .seq (
   .ops [⟨(some 7), .mov (.t 0), none⟩, ⟨(some 8), .bin .geq (.t 7) (.c (.lit (.int .u32 256))), none⟩]) (
  .cond (.t 8) (
   .seq (
    .ops [⟨(some 9), .mov (.t 0), none⟩, ⟨(some 10), .bin .shr (.t 9) (.c (.lit (.int .u64 8))), none⟩, ⟨(some 0), .mov (.t 10), none⟩]) (
   .ops [⟨(some 11), .mov (.t 2), none⟩, ⟨(some 12), .bin .add (.t 11) (.c (.lit (.int .i64 8))), none⟩, ⟨(some 2), .mov (.t 12), none⟩])) (
   .skip))) (
 .seq (
  .ops [⟨(some 13), .mov (.t 2), none⟩, ⟨(some 14), .mov (.t 0), none⟩, ⟨(some 15), .conv (.toInt .u8) (.t 14), none⟩, ⟨(some 16), .sidx (.c (.lit (.string (mkS [0, 1, 2, 2, 3, 3, 3, 3, 4, 4, 4, 4, 4, 4, 4, 4, 5, 5, 5, 5, 5, 5, 5, 5, 5, 5, 5, 5, 5, 5, 5, 5, 6, 6, 6, 6, 6, 6, 6, 6, 6, 6, 6, 6, 6, 6, 6, 6, 6, 6, 6, 6, 6, 6, 6, 6, 6, 6, 6, 6, 6, 6, 6, 6, 7, 7, 7, 7, 7, 7, 7, 7, 7, 7, 7, 7, 7, 7, 7, 7, 7, 7, 7, 7, 7, 7, 7, 7, 7, 7, 7, 7, 7, 7, 7, 7, 7, 7, 7, 7, 7, 7, 7, 7, 7, 7, 7, 7, 7, 7, 7, 7, 7, 7, 7, 7, 7, 7, 7, 7, 7, 7, 7, 7, 7, 7, 7, 7, 8, 8, 8, 8, 8, 8, 8, 8, 8, 8, 8, 8, 8, 8, 8, 8, 8, 8, 8, 8, 8, 8, 8, 8, 8, 8, 8, 8, 8, 8, 8, 8, 8, 8, 8, 8, 8, 8, 8, 8, 8, 8, 8, 8, 8, 8, 8, 8, 8, 8, 8, 8, 8, 8, 8, 8, 8, 8, 8, 8, 8, 8, 8, 8, 8, 8, 8, 8, 8, 8, 8, 8, 8, 8, 8, 8, 8, 8, 8, 8, 8, 8, 8, 8, 8, 8, 8, 8, 8, 8, 8, 8, 8, 8, 8, 8, 8, 8, 8, 8, 8, 8, 8, 8, 8, 8, 8, 8, 8, 8, 8, 8, 8, 8, 8, 8, 8, 8, 8, 8, 8, 8, 8, 8, 8, 8, 8, 8])))) (.t 15), none⟩, ⟨(some 17), .conv (.toInt .i64) (.t 16), none⟩, ⟨(some 18), .bin .add (.t 13) (.t 17), none⟩, ⟨(some 2), .mov (.t 18), none⟩]) (
 .ret)))), false⟩

/-- math/bits.Len64 -/
def C_math_bits_Len64 (N : Nat → Nat) : AFunc := ⟨25, [.inl 2],
 .seq (
  .ops [⟨(some 2), .mov (.c (.lit (.int .i64 0))), none⟩]) (
 .seq (
  .seq (
   .ops [⟨(some 3), .mov (.t 0), none⟩, ⟨(some 4), .bin .geq (.t 3) (.c (.lit (.int .u64 4294967296))), none⟩]) (
  .cond (.t 4) (
   .seq (
    .ops [⟨(some 5), .mov (.t 0), none⟩, ⟨(some 6), .bin .shr (.t 5) (.c (.lit (.int .u64 32))), none⟩, ⟨(some 0), .mov (.t 6), none⟩]) (
   .ops [⟨(some 2), .mov (.c (.lit (.int .i64 32))), none⟩])) (
   .skip))) (
 .seq (
  .seq (
   .ops [⟨(some 7), .mov (.t 0), none⟩, ⟨(some 8), .bin .geq (.t 7) (.c (.lit (.int .u64 65536))), none⟩]) (
  .cond (.t 8) (
   .seq (
    .ops [⟨(some 9), .mov (.t 0), none⟩, ⟨(some 10), .bin .shr (.t 9) (.c (.lit (.int .u64 16))), none⟩, ⟨(some 0), .mov (.t 10), none⟩]) (
   .ops [⟨(some 11), .mov (.t 2), none⟩, ⟨(some 12), .bin .add (.t 11) (.c (.lit (.int .i64 16))), none⟩, ⟨(some 2), .mov (.t 12), none⟩])) (
   .skip))) (
 .seq (
  .seq (
   .ops [⟨(some 13), .mov (.t 0), none⟩, ⟨(some 14), .bin .geq (.t 13) (.c (.lit (.int .u64 256))), none⟩]) (
  .cond (.t 14) (
   .seq (
    .ops [⟨(some 15), .mov (.t 0), none⟩, ⟨(some 16), .bin .shr (.t 15) (.c (.lit (.int .u64 8))), none⟩, ⟨(some 0), .mov (.t 16), none⟩]) (
   .ops [⟨(some 17), .mov (.t 2), none⟩, ⟨(some 18), .bin .add (.t 17) (.c (.lit (.int .i64 8))), none⟩, ⟨(some 2), .mov (.t 18), none⟩])) (
   .skip))) (
 .seq (
  .ops [⟨(some 19), .mov (.t 2), none⟩, ⟨(some 20), .mov (.t 0), none⟩, ⟨(some 21), .conv (.toInt .u8) (.t 20), none⟩, ⟨(some 22), .sidx (.c (.lit (.string (mkS [0, 1, 2, 2, 3, 3, 3, 3, 4, 4, 4, 4, 4, 4, 4, 4, 5, 5, 5, 5, 5, 5, 5, 5, 5, 5, 5, 5, 5, 5, 5, 5, 6, 6, 6, 6, 6, 6, 6, 6, 6, 6, 6, 6, 6, 6, 6, 6, 6, 6, 6, 6, 6, 6, 6, 6, 6, 6, 6, 6, 6, 6, 6, 6, 7, 7, 7, 7, 7, 7, 7, 7, 7, 7, 7, 7, 7, 7, 7, 7, 7, 7, 7, 7, 7, 7, 7, 7, 7, 7, 7, 7, 7, 7, 7, 7, 7, 7, 7, 7, 7, 7, 7, 7, 7, 7, 7, 7, 7, 7, 7, 7, 7, 7, 7, 7, 7, 7, 7, 7, 7, 7, 7, 7, 7, 7, 7, 7, 8, 8, 8, 8, 8, 8, 8, 8, 8, 8, 8, 8, 8, 8, 8, 8, 8, 8, 8, 8, 8, 8, 8, 8, 8, 8, 8, 8, 8, 8, 8, 8, 8, 8, 8, 8, 8, 8, 8, 8, 8, 8, 8, 8, 8, 8, 8, 8, 8, 8, 8, 8, 8, 8, 8, 8, 8, 8, 8, 8, 8, 8, 8, 8, 8, 8, 8, 8, 8, 8, 8, 8, 8, 8, 8, 8, 8, 8, 8, 8, 8, 8, 8, 8, 8, 8, 8, 8, 8, 8, 8, 8, 8, 8, 8, 8, 8, 8, 8, 8, 8, 8, 8, 8, 8, 8, 8, 8, 8, 8, 8, 8, 8, 8, 8, 8, 8, 8, 8, 8, 8, 8, 8, 8, 8, 8, 8, 8])))) (.t 21), none⟩, ⟨(some 23), .conv (.toInt .i64) (.t 22), none⟩, ⟨(some 24), .bin .add (.t 19) (.t 23), none⟩, ⟨(some 2), .mov (.t 24), none⟩]) (
 .ret))))), false⟩

def L_slices_BinarySearch_sl_string_string_1 (N : Nat → Nat) : AC :=
    .seq (
     .seq (
      .ops [⟨(some 13), .mov (.t 7), none⟩, ⟨(some 14), .mov (.t 8), none⟩, ⟨(some 15), .bin .lss (.t 13) (.t 14), none⟩]) (
     .cond (.t 15) (
      .skip) (
      .exit 0))) (
    .block 1 (
     .seq (
      .ops [⟨(some 16), .mov (.t 7), none⟩, ⟨(some 17), .mov (.t 8), none⟩, ⟨(some 18), .bin .add (.t 16) (.t 17), none⟩, ⟨(some 19), .conv (.toInt .u64) (.t 18), none⟩, ⟨(some 20), .bin .shr (.t 19) (.c (.lit (.int .u64 1))), none⟩, ⟨(some 21), .conv (.toInt .i64) (.t 20), none⟩, ⟨(some 9), .mov (.t 21), none⟩]) (
     .seq (
      .ops [⟨(some 22), .mov (.t 0), none⟩, ⟨(some 23), .mov (.t 9), none⟩, ⟨(some 24), .iaddr 1 (.t 22) (.t 23), none⟩, ⟨(some 25), .load none (.t 24), none⟩, ⟨(some 26), .mov (.t 1), none⟩, ⟨(some 27), .call (.c (.fn (f_cmp_Less_string N) [] [])) [(.t 25), (.t 26)], none⟩]) (
     .cond (.t 27) (
      .ops [⟨(some 28), .mov (.t 9), none⟩, ⟨(some 29), .bin .add (.t 28) (.c (.lit (.int .i64 1))), none⟩, ⟨(some 7), .mov (.t 29), none⟩]) (
      .ops [⟨(some 30), .mov (.t 9), none⟩, ⟨(some 8), .mov (.t 30), none⟩])))))
def K_slices_BinarySearch_sl_string_string_1 (N : Nat → Nat) : AC :=
 .seq (
  .ops [⟨(some 31), .mov (.t 7), none⟩, ⟨(some 32), .mov (.t 7), none⟩, ⟨(some 33), .mov (.t 6), none⟩, ⟨(some 34), .bin .lss (.t 32) (.t 33), none⟩, ⟨(some 35), .mov (.t 34), none⟩, ⟨(some 36), .mov (.t 0), (some (35, true))⟩, ⟨(some 37), .mov (.t 7), (some (35, true))⟩, ⟨(some 38), .iaddr 1 (.t 36) (.t 37), (some (35, true))⟩, ⟨(some 39), .load none (.t 38), (some (35, true))⟩, ⟨(some 40), .mov (.t 1), (some (35, true))⟩, ⟨(some 41), .eq false .pstr (.t 39) (.t 40), (some (35, true))⟩, ⟨(some 42), .mov (.t 41), (some (35, true))⟩, ⟨(some 43), .mov (.t 0), (some (42, false))⟩, ⟨(some 44), .mov (.t 7), (some (42, false))⟩, ⟨(some 45), .iaddr 1 (.t 43) (.t 44), (some (42, false))⟩, ⟨(some 46), .load none (.t 45), (some (42, false))⟩, ⟨(some 47), .call (.c (.fn (f_slices_isNaN_string N) [] [])) [(.t 46)], (some (42, false))⟩, ⟨(some 48), .mov (.t 47), (some (42, false))⟩, ⟨(some 49), .mov (.t 1), (some (48, true))⟩, ⟨(some 50), .call (.c (.fn (f_slices_isNaN_string N) [] [])) [(.t 49)], (some (48, true))⟩, ⟨(some 51), .pick (.t 48) (.t 50) (.c (.lit (.bool false))), (some (42, false))⟩, ⟨(some 52), .pick (.t 42) (.c (.lit (.bool true))) (.t 51), (some (35, true))⟩, ⟨(some 53), .pick (.t 35) (.t 52) (.c (.lit (.bool false))), none⟩, ⟨(some 4), .mov (.t 31), none⟩, ⟨(some 5), .mov (.t 53), none⟩]) (
 .ret)
/-- slices.BinarySearch[[]string,string] -/
def C_slices_BinarySearch_sl_string_string (N : Nat → Nat) : AFunc := ⟨54, [.inl 4, .inl 5],
 .seq (
  .ops [⟨(some 4), .mov (.c (.lit (.int .i64 0))), none⟩, ⟨(some 5), .mov (.c (.lit (.bool false))), none⟩]) (
 .seq (
  .ops [⟨(some 10), .mov (.t 0), none⟩, ⟨(some 11), .len (.t 10), none⟩, ⟨(some 6), .mov (.t 11), none⟩]) (
 .seq (
  .ops [⟨(some 12), .mov (.t 6), none⟩, ⟨(some 7), .mov (.c (.lit (.int .i64 0))), none⟩, ⟨(some 8), .mov (.t 12), none⟩]) (
 .seq (
  .block 0 (
   .loop (L_slices_BinarySearch_sl_string_string_1 N))) (K_slices_BinarySearch_sl_string_string_1 N)))), false⟩

/-- slices.Clone[[]int,int] -/
def C_slices_Clone_sl_int_int (N : Nat → Nat) : AFunc := ⟨8, [.inl 2],
 .seq (
  .ops [⟨(some 2), .mov (.c (.lit (.slice none 0 0))), none⟩]) (
 .seq (
  .seq (
   .ops [⟨(some 3), .mov (.t 0), none⟩, ⟨(some 4), .eq false .pslice (.t 3) (.c (.lit (.slice none 0 0))), none⟩]) (
  .cond (.t 4) (
   .seq (
    .ops [⟨(some 2), .mov (.c (.lit (.slice none 0 0))), none⟩]) (
   .ret)) (
   .skip))) (
 .seq (
  .ops [⟨(some 5), .bslice (t_int N) 1 none 0 [(.lit (.int .i64 0))] [], none⟩, ⟨(some 6), .mov (.t 0), none⟩, ⟨(some 7), .append (t_int N) 1 8 (.t 5) (.t 6), none⟩, ⟨(some 2), .mov (.t 7), none⟩]) (
 .ret))), false⟩

/-- slices.Clone[[]string,string] -/
def C_slices_Clone_sl_string_string (N : Nat → Nat) : AFunc := ⟨8, [.inl 2],
 .seq (
  .ops [⟨(some 2), .mov (.c (.lit (.slice none 0 0))), none⟩]) (
 .seq (
  .seq (
   .ops [⟨(some 3), .mov (.t 0), none⟩, ⟨(some 4), .eq false .pslice (.t 3) (.c (.lit (.slice none 0 0))), none⟩]) (
  .cond (.t 4) (
   .seq (
    .ops [⟨(some 2), .mov (.c (.lit (.slice none 0 0))), none⟩]) (
   .ret)) (
   .skip))) (
 .seq (
  .ops [⟨(some 5), .bslice (t_string N) 1 none 0 [(.lit (.string (mkS [])))] [], none⟩, ⟨(some 6), .mov (.t 0), none⟩, ⟨(some 7), .append (t_string N) 1 16 (.t 5) (.t 6), none⟩, ⟨(some 2), .mov (.t 7), none⟩]) (
 .ret))), false⟩

/-- slices.ContainsFunc[[]byte,byte] -/
def C_slices_ContainsFunc_sl_byte_byte (N : Nat → Nat) : AFunc := ⟨9, [.inl 4],
 .seq (
  .ops [⟨(some 4), .mov (.c (.lit (.bool false))), none⟩]) (
 .seq (
  .ops [⟨(some 5), .mov (.t 0), none⟩, ⟨(some 6), .mov (.t 1), none⟩, ⟨(some 7), .call (.c (.fn (f_slices_IndexFunc_sl_byte_byte N) [] [])) [(.t 5), (.t 6)], none⟩, ⟨(some 8), .bin .geq (.t 7) (.c (.lit (.int .i64 0))), none⟩, ⟨(some 4), .mov (.t 8), none⟩]) (
 .ret)), false⟩

/-- slices.ContainsFunc[[]string,string] -/
def C_slices_ContainsFunc_sl_string_string (N : Nat → Nat) : AFunc := ⟨9, [.inl 4],
 .seq (
  .ops [⟨(some 4), .mov (.c (.lit (.bool false))), none⟩]) (
 .seq (
  .ops [⟨(some 5), .mov (.t 0), none⟩, ⟨(some 6), .mov (.t 1), none⟩, ⟨(some 7), .call (.c (.fn (f_slices_IndexFunc_sl_string_string N) [] [])) [(.t 5), (.t 6)], none⟩, ⟨(some 8), .bin .geq (.t 7) (.c (.lit (.int .i64 0))), none⟩, ⟨(some 4), .mov (.t 8), none⟩]) (
 .ret)), false⟩

/-- slices.ContainsFunc[azimuth/tree.uses,int] -/
def C_slices_ContainsFunc_tree_uses_int (N : Nat → Nat) : AFunc := ⟨9, [.inl 4],
 .seq (
  .ops [⟨(some 4), .mov (.c (.lit (.bool false))), none⟩]) (
 .seq (
  .ops [⟨(some 5), .mov (.t 0), none⟩, ⟨(some 6), .mov (.t 1), none⟩, ⟨(some 7), .call (.c (.fn (f_slices_IndexFunc_tree_uses_int N) [] [])) [(.t 5), (.t 6)], none⟩, ⟨(some 8), .bin .geq (.t 7) (.c (.lit (.int .i64 0))), none⟩, ⟨(some 4), .mov (.t 8), none⟩]) (
 .ret)), false⟩

def L_slices_IndexFunc_sl_byte_byte_1 (N : Nat → Nat) : AC :=
    .seq (
     .ops [⟨(some 9), .bin .lss (.t 8) (.t 7), none⟩]) (
    .seq (
     .cond (.t 9) (
      .skip) (
      .exit 0)) (
    .seq (
     .block 1 (
      .seq (
       .ops [⟨(some 10), .mov (.t 8), none⟩, ⟨(some 5), .mov (.t 10), none⟩]) (
      .seq (
       .ops [⟨(some 11), .mov (.t 1), none⟩, ⟨(some 12), .mov (.t 0), none⟩, ⟨(some 13), .mov (.t 5), none⟩, ⟨(some 14), .iaddr 1 (.t 12) (.t 13), none⟩, ⟨(some 15), .load none (.t 14), none⟩, ⟨(some 16), .call (.t 11) [(.t 15)], none⟩]) (
      .cond (.t 16) (
       .seq (
        .ops [⟨(some 17), .mov (.t 5), none⟩, ⟨(some 4), .mov (.t 17), none⟩]) (
       .ret)) (
       .skip))))) (
    .ops [⟨(some 18), .bin .add (.t 8) (.c (.lit (.int .i64 1))), none⟩, ⟨(some 8), .mov (.t 18), none⟩])))
def K_slices_IndexFunc_sl_byte_byte_1 (N : Nat → Nat) : AC :=
 .seq (
  .ops [⟨(some 4), .mov (.c (.lit (.int .i64 (-1)))), none⟩]) (
 .ret)
/-- slices.IndexFunc[[]byte,byte] -/
def C_slices_IndexFunc_sl_byte_byte (N : Nat → Nat) : AFunc := ⟨19, [.inl 4],
 .seq (
  .ops [⟨(some 4), .mov (.c (.lit (.int .i64 0))), none⟩]) (
 .seq (
  .seq (
   .ops [⟨(some 6), .mov (.t 0), none⟩, ⟨(some 7), .len (.t 6), none⟩, ⟨(some 8), .mov (.c (.lit (.int .i64 0))), none⟩]) (
  .block 0 (
   .loop (L_slices_IndexFunc_sl_byte_byte_1 N)))) (K_slices_IndexFunc_sl_byte_byte_1 N)), false⟩

def L_slices_IndexFunc_sl_string_string_1 (N : Nat → Nat) : AC :=
    .seq (
     .ops [⟨(some 9), .bin .lss (.t 8) (.t 7), none⟩]) (
    .seq (
     .cond (.t 9) (
      .skip) (
      .exit 0)) (
    .seq (
     .block 1 (
      .seq (
       .ops [⟨(some 10), .mov (.t 8), none⟩, ⟨(some 5), .mov (.t 10), none⟩]) (
      .seq (
       .ops [⟨(some 11), .mov (.t 1), none⟩, ⟨(some 12), .mov (.t 0), none⟩, ⟨(some 13), .mov (.t 5), none⟩, ⟨(some 14), .iaddr 1 (.t 12) (.t 13), none⟩, ⟨(some 15), .load none (.t 14), none⟩, ⟨(some 16), .call (.t 11) [(.t 15)], none⟩]) (
      .cond (.t 16) (
       .seq (
        .ops [⟨(some 17), .mov (.t 5), none⟩, ⟨(some 4), .mov (.t 17), none⟩]) (
       .ret)) (
       .skip))))) (
    .ops [⟨(some 18), .bin .add (.t 8) (.c (.lit (.int .i64 1))), none⟩, ⟨(some 8), .mov (.t 18), none⟩])))
def K_slices_IndexFunc_sl_string_string_1 (N : Nat → Nat) : AC :=
 .seq (
  .ops [⟨(some 4), .mov (.c (.lit (.int .i64 (-1)))), none⟩]) (
 .ret)
/-- slices.IndexFunc[[]string,string] -/
def C_slices_IndexFunc_sl_string_string (N : Nat → Nat) : AFunc := ⟨19, [.inl 4],
 .seq (
  .ops [⟨(some 4), .mov (.c (.lit (.int .i64 0))), none⟩]) (
 .seq (
  .seq (
   .ops [⟨(some 6), .mov (.t 0), none⟩, ⟨(some 7), .len (.t 6), none⟩, ⟨(some 8), .mov (.c (.lit (.int .i64 0))), none⟩]) (
  .block 0 (
   .loop (L_slices_IndexFunc_sl_string_string_1 N)))) (K_slices_IndexFunc_sl_string_string_1 N)), false⟩

def L_slices_IndexFunc_tree_uses_int_1 (N : Nat → Nat) : AC :=
    .seq (
     .ops [⟨(some 9), .bin .lss (.t 8) (.t 7), none⟩]) (
    .seq (
     .cond (.t 9) (
      .skip) (
      .exit 0)) (
    .seq (
     .block 1 (
      .seq (
       .ops [⟨(some 10), .mov (.t 8), none⟩, ⟨(some 5), .mov (.t 10), none⟩]) (
      .seq (
       .ops [⟨(some 11), .mov (.t 1), none⟩, ⟨(some 12), .mov (.t 0), none⟩, ⟨(some 13), .mov (.t 5), none⟩, ⟨(some 14), .iaddr 1 (.t 12) (.t 13), none⟩, ⟨(some 15), .load none (.t 14), none⟩, ⟨(some 16), .call (.t 11) [(.t 15)], none⟩]) (
      .cond (.t 16) (
       .seq (
        .ops [⟨(some 17), .mov (.t 5), none⟩, ⟨(some 4), .mov (.t 17), none⟩]) (
       .ret)) (
       .skip))))) (
    .ops [⟨(some 18), .bin .add (.t 8) (.c (.lit (.int .i64 1))), none⟩, ⟨(some 8), .mov (.t 18), none⟩])))
def K_slices_IndexFunc_tree_uses_int_1 (N : Nat → Nat) : AC :=
 .seq (
  .ops [⟨(some 4), .mov (.c (.lit (.int .i64 (-1)))), none⟩]) (
 .ret)
/-- slices.IndexFunc[azimuth/tree.uses,int] -/
def C_slices_IndexFunc_tree_uses_int (N : Nat → Nat) : AFunc := ⟨19, [.inl 4],
 .seq (
  .ops [⟨(some 4), .mov (.c (.lit (.int .i64 0))), none⟩]) (
 .seq (
  .seq (
   .ops [⟨(some 6), .mov (.t 0), none⟩, ⟨(some 7), .len (.t 6), none⟩, ⟨(some 8), .mov (.c (.lit (.int .i64 0))), none⟩]) (
  .block 0 (
   .loop (L_slices_IndexFunc_tree_uses_int_1 N)))) (K_slices_IndexFunc_tree_uses_int_1 N)), false⟩

/-- slices.Sort[[]int,int] -/
def C_slices_Sort_sl_int_int (N : Nat → Nat) : AFunc := ⟨11, [],
 .seq (
  .ops [⟨(some 3), .mov (.t 0), none⟩, ⟨(some 4), .len (.t 3), none⟩, ⟨(some 2), .mov (.t 4), none⟩]) (
 .ops [⟨(some 5), .mov (.t 0), none⟩, ⟨(some 6), .mov (.t 2), none⟩, ⟨(some 7), .mov (.t 2), none⟩, ⟨(some 8), .conv (.toInt .u64) (.t 7), none⟩, ⟨(some 9), .call (.c (.fn (f_math_bits_Len N) [] [])) [(.t 8)], none⟩, ⟨(some 10), .call (.c (.fn (f_slices_pdqsortOrdered_int N) [] [])) [(.t 5), (.c (.lit (.int .i64 0))), (.t 6), (.t 9)], none⟩]), false⟩

def L_slices_breakPatternsOrdered_int_1 (N : Nat → Nat) : AC :=
    .seq (
     .seq (
      .ops [⟨(some 26), .mov (.t 9), none⟩, ⟨(some 27), .mov (.t 1), none⟩, ⟨(some 28), .mov (.t 6), none⟩, ⟨(some 29), .bin .quo (.t 28) (.c (.lit (.int .i64 4))), none⟩, ⟨(some 30), .bin .mul (.t 29) (.c (.lit (.int .i64 2))), none⟩, ⟨(some 31), .bin .add (.t 27) (.t 30), none⟩, ⟨(some 32), .bin .add (.t 31) (.c (.lit (.int .i64 1))), none⟩, ⟨(some 33), .bin .leq (.t 26) (.t 32), none⟩]) (
     .cond (.t 33) (
      .skip) (
      .exit 0))) (
    .seq (
     .block 1 (
      .seq (
       .ops [⟨(some 36), .call (.c (.fn (f_p_slices_xorshift_Next N) [] [])) [(.t 7)], none⟩, ⟨(some 37), .mov (.t 8), none⟩, ⟨(some 38), .bin .sub (.t 37) (.c (.lit (.int .u64 1))), none⟩, ⟨(some 39), .bin .and (.t 36) (.t 38), none⟩, ⟨(some 40), .conv (.toInt .i64) (.t 39), none⟩, ⟨(some 10), .mov (.t 40), none⟩]) (
      .seq (
       .seq (
        .ops [⟨(some 41), .mov (.t 10), none⟩, ⟨(some 42), .mov (.t 6), none⟩, ⟨(some 43), .bin .geq (.t 41) (.t 42), none⟩]) (
       .cond (.t 43) (
        .ops [⟨(some 44), .mov (.t 10), none⟩, ⟨(some 45), .mov (.t 6), none⟩, ⟨(some 46), .bin .sub (.t 44) (.t 45), none⟩, ⟨(some 10), .mov (.t 46), none⟩]) (
        .skip))) (
      .dops 10 [⟨(some 47), .mov (.t 0), none⟩, ⟨(some 48), .mov (.t 9), none⟩, ⟨(some 49), .mov (.t 0), none⟩, ⟨(some 50), .mov (.t 1), none⟩, ⟨(some 51), .mov (.t 10), none⟩, ⟨(some 52), .bin .add (.t 50) (.t 51), none⟩, ⟨(some 53), .mov (.t 0), none⟩, ⟨(some 54), .mov (.t 1), none⟩, ⟨(some 55), .mov (.t 10), none⟩, ⟨(some 56), .bin .add (.t 54) (.t 55), none⟩, ⟨(some 57), .iaddr 1 (.t 53) (.t 56), none⟩, ⟨(some 58), .load none (.t 57), none⟩, ⟨(some 59), .mov (.t 0), none⟩, ⟨(some 60), .mov (.t 9), none⟩, ⟨(some 61), .iaddr 1 (.t 59) (.t 60), none⟩, ⟨(some 62), .load none (.t 61), none⟩, ⟨(some 63), .iaddr 1 (.t 47) (.t 48), none⟩, ⟨none, .store 1 (.t 63) (.t 58), none⟩, ⟨(some 64), .iaddr 1 (.t 49) (.t 52), none⟩, ⟨none, .store 1 (.t 64) (.t 62), none⟩] [0, 0, 0, 0, 0, 0, 0, 0, 0, 0, 0, 2, 0, 0, 0, 2, 0, 0, 0, 0] [])))) (
    .ops [⟨(some 34), .mov (.t 9), none⟩, ⟨(some 35), .bin .add (.t 34) (.c (.lit (.int .i64 1))), none⟩, ⟨(some 9), .mov (.t 35), none⟩]))
/-- slices.breakPatternsOrdered[int] -/
def C_slices_breakPatternsOrdered_int (N : Nat → Nat) : AFunc := ⟨65, [],
 .seq (
  .ops [⟨(some 11), .mov (.t 2), none⟩, ⟨(some 12), .mov (.t 1), none⟩, ⟨(some 13), .bin .sub (.t 11) (.t 12), none⟩, ⟨(some 6), .mov (.t 13), none⟩]) (
 .seq (
  .ops [⟨(some 14), .mov (.t 6), none⟩, ⟨(some 15), .bin .geq (.t 14) (.c (.lit (.int .i64 8))), none⟩]) (
 .cond (.t 15) (
  .seq (
   .ops [⟨(some 16), .mov (.t 6), none⟩, ⟨(some 17), .conv (.toInt .u64) (.t 16), none⟩, ⟨(some 7), .new (t_slices_xorshift N) (.lit (.int .u64 0)), none⟩, ⟨none, .store 1 (.t 7) (.t 17), none⟩]) (
  .seq (
   .ops [⟨(some 18), .mov (.t 6), none⟩, ⟨(some 19), .call (.c (.fn (f_slices_nextPowerOfTwo N) [] [])) [(.t 18)], none⟩, ⟨(some 8), .mov (.t 19), none⟩]) (
  .seq (
   .ops [⟨(some 20), .mov (.t 1), none⟩, ⟨(some 21), .mov (.t 6), none⟩, ⟨(some 22), .bin .quo (.t 21) (.c (.lit (.int .i64 4))), none⟩, ⟨(some 23), .bin .mul (.t 22) (.c (.lit (.int .i64 2))), none⟩, ⟨(some 24), .bin .add (.t 20) (.t 23), none⟩, ⟨(some 25), .bin .sub (.t 24) (.c (.lit (.int .i64 1))), none⟩, ⟨(some 9), .mov (.t 25), none⟩]) (
  .block 0 (
   .loop (L_slices_breakPatternsOrdered_int_1 N)))))) (
  .skip))), false⟩

/-- slices.choosePivotOrdered[int] -/
def C_slices_choosePivotOrdered_int (N : Nat → Nat) : AFunc := ⟨57, [.inl 6, .inl 7],
 .seq (
  .ops [⟨(some 6), .mov (.c (.lit (.int .i64 0))), none⟩, ⟨(some 7), .mov (.c (.lit (.int .i64 0))), none⟩]) (
 .seq (
  .ops [⟨(some 13), .mov (.t 2), none⟩, ⟨(some 14), .mov (.t 1), none⟩, ⟨(some 15), .bin .sub (.t 13) (.t 14), none⟩, ⟨(some 8), .mov (.t 15), none⟩]) (
 .seq (
  .ops [⟨(some 9), .new (t_int N) (.lit (.int .i64 0)), none⟩]) (
 .seq (
  .ops [⟨(some 16), .mov (.t 1), none⟩, ⟨(some 17), .mov (.t 8), none⟩, ⟨(some 18), .bin .quo (.t 17) (.c (.lit (.int .i64 4))), none⟩, ⟨(some 19), .bin .mul (.t 18) (.c (.lit (.int .i64 1))), none⟩, ⟨(some 20), .bin .add (.t 16) (.t 19), none⟩, ⟨(some 10), .mov (.t 20), none⟩]) (
 .seq (
  .ops [⟨(some 21), .mov (.t 1), none⟩, ⟨(some 22), .mov (.t 8), none⟩, ⟨(some 23), .bin .quo (.t 22) (.c (.lit (.int .i64 4))), none⟩, ⟨(some 24), .bin .mul (.t 23) (.c (.lit (.int .i64 2))), none⟩, ⟨(some 25), .bin .add (.t 21) (.t 24), none⟩, ⟨(some 11), .mov (.t 25), none⟩]) (
 .seq (
  .ops [⟨(some 26), .mov (.t 1), none⟩, ⟨(some 27), .mov (.t 8), none⟩, ⟨(some 28), .bin .quo (.t 27) (.c (.lit (.int .i64 4))), none⟩, ⟨(some 29), .bin .mul (.t 28) (.c (.lit (.int .i64 3))), none⟩, ⟨(some 30), .bin .add (.t 26) (.t 29), none⟩, ⟨(some 12), .mov (.t 30), none⟩]) (
 .seq (
  .seq (
   .ops [⟨(some 31), .mov (.t 8), none⟩, ⟨(some 32), .bin .geq (.t 31) (.c (.lit (.int .i64 8))), none⟩]) (
  .cond (.t 32) (
   .seq (
    .seq (
     .ops [⟨(some 33), .mov (.t 8), none⟩, ⟨(some 34), .bin .geq (.t 33) (.c (.lit (.int .i64 50))), none⟩]) (
    .cond (.t 34) (
     .seq (
      .ops [⟨(some 35), .mov (.t 0), none⟩, ⟨(some 36), .mov (.t 10), none⟩, ⟨(some 37), .call (.c (.fn (f_slices_medianAdjacentOrdered_int N) [] [])) [(.t 35), (.t 36), (.t 9)], none⟩, ⟨(some 10), .mov (.t 37), none⟩]) (
     .seq (
      .ops [⟨(some 38), .mov (.t 0), none⟩, ⟨(some 39), .mov (.t 11), none⟩, ⟨(some 40), .call (.c (.fn (f_slices_medianAdjacentOrdered_int N) [] [])) [(.t 38), (.t 39), (.t 9)], none⟩, ⟨(some 11), .mov (.t 40), none⟩]) (
     .ops [⟨(some 41), .mov (.t 0), none⟩, ⟨(some 42), .mov (.t 12), none⟩, ⟨(some 43), .call (.c (.fn (f_slices_medianAdjacentOrdered_int N) [] [])) [(.t 41), (.t 42), (.t 9)], none⟩, ⟨(some 12), .mov (.t 43), none⟩]))) (
     .skip))) (
   .ops [⟨(some 44), .mov (.t 0), none⟩, ⟨(some 45), .mov (.t 10), none⟩, ⟨(some 46), .mov (.t 11), none⟩, ⟨(some 47), .mov (.t 12), none⟩, ⟨(some 48), .call (.c (.fn (f_slices_medianOrdered_int N) [] [])) [(.t 44), (.t 45), (.t 46), (.t 47), (.t 9)], none⟩, ⟨(some 11), .mov (.t 48), none⟩])) (
   .skip))) (
 .seq (
  .ops [⟨(some 49), .load none (.t 9), none⟩]) (
 .block 0 (
  .seq (
   .ops [⟨(some 52), .eq false .pint (.t 49) (.c (.lit (.int .i64 0))), none⟩, ⟨(some 51), .mov (.t 52), none⟩]) (
  .cond (.t 51) (
   .seq (
    .ops [⟨(some 53), .mov (.t 11), none⟩, ⟨(some 6), .mov (.t 53), none⟩, ⟨(some 7), .mov (.c (.lit (.int .i64 1))), none⟩]) (
   .ret)) (
   .seq (
    .ops [⟨(some 55), .eq false .pint (.t 49) (.c (.lit (.int .i64 12))), none⟩, ⟨(some 54), .mov (.t 55), none⟩]) (
   .cond (.t 54) (
    .seq (
     .ops [⟨(some 56), .mov (.t 11), none⟩, ⟨(some 6), .mov (.t 56), none⟩, ⟨(some 7), .mov (.c (.lit (.int .i64 2))), none⟩]) (
    .ret)) (
    .seq (
     .ops [⟨(some 50), .mov (.t 11), none⟩, ⟨(some 6), .mov (.t 50), none⟩, ⟨(some 7), .mov (.c (.lit (.int .i64 0))), none⟩]) (
    .ret)))))))))))))), false⟩

def L_slices_heapSortOrdered_int_1 (N : Nat → Nat) : AC :=
    .seq (
     .seq (
      .ops [⟨(some 18), .mov (.t 9), none⟩, ⟨(some 19), .bin .geq (.t 18) (.c (.lit (.int .i64 0))), none⟩]) (
     .cond (.t 19) (
      .skip) (
      .exit 0))) (
    .seq (
     .block 1 (
      .ops [⟨(some 22), .mov (.t 0), none⟩, ⟨(some 23), .mov (.t 9), none⟩, ⟨(some 24), .mov (.t 8), none⟩, ⟨(some 25), .mov (.t 6), none⟩, ⟨(some 26), .call (.c (.fn (f_slices_siftDownOrdered_int N) [] [])) [(.t 22), (.t 23), (.t 24), (.t 25)], none⟩])) (
    .ops [⟨(some 20), .mov (.t 9), none⟩, ⟨(some 21), .bin .sub (.t 20) (.c (.lit (.int .i64 1))), none⟩, ⟨(some 9), .mov (.t 21), none⟩]))
def L_slices_heapSortOrdered_int_2 (N : Nat → Nat) : AC :=
   .seq (
    .seq (
     .ops [⟨(some 29), .mov (.t 10), none⟩, ⟨(some 30), .bin .geq (.t 29) (.c (.lit (.int .i64 0))), none⟩]) (
    .cond (.t 30) (
     .skip) (
     .exit 2))) (
   .seq (
    .block 3 (
     .seq (
      .dops 10 [⟨(some 33), .mov (.t 0), none⟩, ⟨(some 34), .mov (.t 6), none⟩, ⟨(some 35), .mov (.t 0), none⟩, ⟨(some 36), .mov (.t 6), none⟩, ⟨(some 37), .mov (.t 10), none⟩, ⟨(some 38), .bin .add (.t 36) (.t 37), none⟩, ⟨(some 39), .mov (.t 0), none⟩, ⟨(some 40), .mov (.t 6), none⟩, ⟨(some 41), .mov (.t 10), none⟩, ⟨(some 42), .bin .add (.t 40) (.t 41), none⟩, ⟨(some 43), .iaddr 1 (.t 39) (.t 42), none⟩, ⟨(some 44), .load none (.t 43), none⟩, ⟨(some 45), .mov (.t 0), none⟩, ⟨(some 46), .mov (.t 6), none⟩, ⟨(some 47), .iaddr 1 (.t 45) (.t 46), none⟩, ⟨(some 48), .load none (.t 47), none⟩, ⟨(some 49), .iaddr 1 (.t 33) (.t 34), none⟩, ⟨none, .store 1 (.t 49) (.t 44), none⟩, ⟨(some 50), .iaddr 1 (.t 35) (.t 38), none⟩, ⟨none, .store 1 (.t 50) (.t 48), none⟩] [0, 0, 0, 0, 0, 0, 0, 0, 0, 0, 0, 2, 0, 0, 0, 2, 0, 0, 0, 0] []) (
     .ops [⟨(some 51), .mov (.t 0), none⟩, ⟨(some 52), .mov (.t 7), none⟩, ⟨(some 53), .mov (.t 10), none⟩, ⟨(some 54), .mov (.t 6), none⟩, ⟨(some 55), .call (.c (.fn (f_slices_siftDownOrdered_int N) [] [])) [(.t 51), (.t 52), (.t 53), (.t 54)], none⟩]))) (
   .ops [⟨(some 31), .mov (.t 10), none⟩, ⟨(some 32), .bin .sub (.t 31) (.c (.lit (.int .i64 1))), none⟩, ⟨(some 10), .mov (.t 32), none⟩]))
def K_slices_heapSortOrdered_int_1 (N : Nat → Nat) : AC :=
 .seq (
  .ops [⟨(some 27), .mov (.t 8), none⟩, ⟨(some 28), .bin .sub (.t 27) (.c (.lit (.int .i64 1))), none⟩, ⟨(some 10), .mov (.t 28), none⟩]) (
 .block 2 (
  .loop (L_slices_heapSortOrdered_int_2 N)))
/-- slices.heapSortOrdered[int] -/
def C_slices_heapSortOrdered_int (N : Nat → Nat) : AFunc := ⟨56, [],
 .seq (
  .ops [⟨(some 11), .mov (.t 1), none⟩, ⟨(some 6), .mov (.t 11), none⟩]) (
 .seq (
  .ops [⟨(some 7), .mov (.c (.lit (.int .i64 0))), none⟩]) (
 .seq (
  .ops [⟨(some 12), .mov (.t 2), none⟩, ⟨(some 13), .mov (.t 1), none⟩, ⟨(some 14), .bin .sub (.t 12) (.t 13), none⟩, ⟨(some 8), .mov (.t 14), none⟩]) (
 .seq (
  .seq (
   .ops [⟨(some 15), .mov (.t 8), none⟩, ⟨(some 16), .bin .sub (.t 15) (.c (.lit (.int .i64 1))), none⟩, ⟨(some 17), .bin .quo (.t 16) (.c (.lit (.int .i64 2))), none⟩, ⟨(some 9), .mov (.t 17), none⟩]) (
  .block 0 (
   .loop (L_slices_heapSortOrdered_int_1 N)))) (K_slices_heapSortOrdered_int_1 N)))), false⟩

def L_slices_insertionSortOrdered_int_2 (N : Nat → Nat) : AC :=
       .seq (
        .seq (
         .dops 4 [⟨(some 16), .mov (.t 7), none⟩, ⟨(some 17), .mov (.t 1), none⟩, ⟨(some 18), .bin .gtr (.t 16) (.t 17), none⟩, ⟨(some 19), .mov (.t 18), none⟩, ⟨(some 20), .mov (.t 0), (some (19, true))⟩, ⟨(some 21), .mov (.t 7), (some (19, true))⟩, ⟨(some 22), .iaddr 1 (.t 20) (.t 21), (some (19, true))⟩, ⟨(some 23), .load none (.t 22), (some (19, true))⟩, ⟨(some 24), .mov (.t 0), (some (19, true))⟩, ⟨(some 25), .mov (.t 7), (some (19, true))⟩, ⟨(some 26), .bin .sub (.t 25) (.c (.lit (.int .i64 1))), (some (19, true))⟩, ⟨(some 27), .iaddr 1 (.t 24) (.t 26), (some (19, true))⟩, ⟨(some 28), .load none (.t 27), (some (19, true))⟩, ⟨(some 29), .call (.c (.fn (f_cmp_Less_int N) [] [])) [(.t 23), (.t 28)], (some (19, true))⟩, ⟨(some 30), .pick (.t 19) (.t 29) (.c (.lit (.bool false))), none⟩] [0, 0, 0, 0, 0, 0, 0, 2, 0, 0, 0, 0, 2, 0, 0] []) (
        .cond (.t 30) (
         .skip) (
         .exit 2))) (
       .seq (
        .block 3 (
         .dops 6 [⟨(some 33), .mov (.t 0), none⟩, ⟨(some 34), .mov (.t 7), none⟩, ⟨(some 35), .mov (.t 0), none⟩, ⟨(some 36), .mov (.t 7), none⟩, ⟨(some 37), .bin .sub (.t 36) (.c (.lit (.int .i64 1))), none⟩, ⟨(some 38), .mov (.t 0), none⟩, ⟨(some 39), .mov (.t 7), none⟩, ⟨(some 40), .bin .sub (.t 39) (.c (.lit (.int .i64 1))), none⟩, ⟨(some 41), .iaddr 1 (.t 38) (.t 40), none⟩, ⟨(some 42), .load none (.t 41), none⟩, ⟨(some 43), .mov (.t 0), none⟩, ⟨(some 44), .mov (.t 7), none⟩, ⟨(some 45), .iaddr 1 (.t 43) (.t 44), none⟩, ⟨(some 46), .load none (.t 45), none⟩, ⟨(some 47), .iaddr 1 (.t 33) (.t 34), none⟩, ⟨none, .store 1 (.t 47) (.t 42), none⟩, ⟨(some 48), .iaddr 1 (.t 35) (.t 37), none⟩, ⟨none, .store 1 (.t 48) (.t 46), none⟩] [0, 0, 0, 0, 0, 0, 0, 0, 0, 2, 0, 0, 0, 2, 0, 0, 0, 0] [])) (
       .ops [⟨(some 31), .mov (.t 7), none⟩, ⟨(some 32), .bin .sub (.t 31) (.c (.lit (.int .i64 1))), none⟩, ⟨(some 7), .mov (.t 32), none⟩]))
def K_slices_insertionSortOrdered_int_1 (N : Nat → Nat) : AC :=
 .ops [⟨(some 13), .mov (.t 6), none⟩, ⟨(some 14), .bin .add (.t 13) (.c (.lit (.int .i64 1))), none⟩, ⟨(some 6), .mov (.t 14), none⟩]
def L_slices_insertionSortOrdered_int_1 (N : Nat → Nat) : AC :=
   .seq (
    .seq (
     .ops [⟨(some 10), .mov (.t 6), none⟩, ⟨(some 11), .mov (.t 2), none⟩, ⟨(some 12), .bin .lss (.t 10) (.t 11), none⟩]) (
    .cond (.t 12) (
     .skip) (
     .exit 0))) (
   .seq (
    .block 1 (
     .seq (
      .ops [⟨(some 15), .mov (.t 6), none⟩, ⟨(some 7), .mov (.t 15), none⟩]) (
     .block 2 (
      .loop (L_slices_insertionSortOrdered_int_2 N))))) (K_slices_insertionSortOrdered_int_1 N))
/-- slices.insertionSortOrdered[int] -/
def C_slices_insertionSortOrdered_int (N : Nat → Nat) : AFunc := ⟨49, [],
 .seq (
  .ops [⟨(some 8), .mov (.t 1), none⟩, ⟨(some 9), .bin .add (.t 8) (.c (.lit (.int .i64 1))), none⟩, ⟨(some 6), .mov (.t 9), none⟩]) (
 .block 0 (
  .loop (L_slices_insertionSortOrdered_int_1 N))), false⟩

/-- slices.isNaN[string] -/
def C_slices_isNaN_string (N : Nat → Nat) : AFunc := ⟨6, [.inl 2],
 .seq (
  .ops [⟨(some 2), .mov (.c (.lit (.bool false))), none⟩]) (
 .seq (
  .ops [⟨(some 3), .mov (.t 0), none⟩, ⟨(some 4), .mov (.t 0), none⟩, ⟨(some 5), .eq true .pstr (.t 3) (.t 4), none⟩, ⟨(some 2), .mov (.t 5), none⟩]) (
 .ret)), false⟩

/-- slices.medianAdjacentOrdered[int] -/
def C_slices_medianAdjacentOrdered_int (N : Nat → Nat) : AFunc := ⟨15, [.inl 6],
 .seq (
  .ops [⟨(some 6), .mov (.c (.lit (.int .i64 0))), none⟩]) (
 .seq (
  .ops [⟨(some 7), .mov (.t 0), none⟩, ⟨(some 8), .mov (.t 1), none⟩, ⟨(some 9), .bin .sub (.t 8) (.c (.lit (.int .i64 1))), none⟩, ⟨(some 10), .mov (.t 1), none⟩, ⟨(some 11), .mov (.t 1), none⟩, ⟨(some 12), .bin .add (.t 11) (.c (.lit (.int .i64 1))), none⟩, ⟨(some 13), .mov (.t 2), none⟩, ⟨(some 14), .call (.c (.fn (f_slices_medianOrdered_int N) [] [])) [(.t 7), (.t 9), (.t 10), (.t 12), (.t 13)], none⟩, ⟨(some 6), .mov (.t 14), none⟩]) (
 .ret)), false⟩

/-- slices.medianOrdered[int] -/
def C_slices_medianOrdered_int (N : Nat → Nat) : AFunc := ⟨36, [.inl 10],
 .seq (
  .ops [⟨(some 10), .mov (.c (.lit (.int .i64 0))), none⟩]) (
 .seq (
  .ops [⟨(some 12), .mov (.t 0), none⟩, ⟨(some 13), .mov (.t 1), none⟩, ⟨(some 14), .mov (.t 2), none⟩, ⟨(some 15), .mov (.t 4), none⟩, ⟨(some 16), .call (.c (.fn (f_slices_order2Ordered_int N) [] [])) [(.t 12), (.t 13), (.t 14), (.t 15)], none⟩, ⟨(some 11), .mov (.t 16), none⟩, ⟨(some 17), .extract (.t 11) 0, none⟩, ⟨(some 18), .extract (.t 11) 1, none⟩, ⟨(some 1), .mov (.t 17), none⟩, ⟨(some 2), .mov (.t 18), none⟩]) (
 .seq (
  .ops [⟨(some 20), .mov (.t 0), none⟩, ⟨(some 21), .mov (.t 2), none⟩, ⟨(some 22), .mov (.t 3), none⟩, ⟨(some 23), .mov (.t 4), none⟩, ⟨(some 24), .call (.c (.fn (f_slices_order2Ordered_int N) [] [])) [(.t 20), (.t 21), (.t 22), (.t 23)], none⟩, ⟨(some 19), .mov (.t 24), none⟩, ⟨(some 25), .extract (.t 19) 0, none⟩, ⟨(some 26), .extract (.t 19) 1, none⟩, ⟨(some 2), .mov (.t 25), none⟩, ⟨(some 3), .mov (.t 26), none⟩]) (
 .seq (
  .ops [⟨(some 28), .mov (.t 0), none⟩, ⟨(some 29), .mov (.t 1), none⟩, ⟨(some 30), .mov (.t 2), none⟩, ⟨(some 31), .mov (.t 4), none⟩, ⟨(some 32), .call (.c (.fn (f_slices_order2Ordered_int N) [] [])) [(.t 28), (.t 29), (.t 30), (.t 31)], none⟩, ⟨(some 27), .mov (.t 32), none⟩, ⟨(some 33), .extract (.t 27) 0, none⟩, ⟨(some 34), .extract (.t 27) 1, none⟩, ⟨(some 1), .mov (.t 33), none⟩, ⟨(some 2), .mov (.t 34), none⟩]) (
 .seq (
  .ops [⟨(some 35), .mov (.t 2), none⟩, ⟨(some 10), .mov (.t 35), none⟩]) (
 .ret))))), false⟩

/-- slices.nextPowerOfTwo -/
def C_slices_nextPowerOfTwo (N : Nat → Nat) : AFunc := ⟨7, [.inl 2],
 .seq (
  .ops [⟨(some 2), .mov (.c (.lit (.int .u64 0))), none⟩]) (
 .seq (
  .ops [⟨(some 3), .mov (.t 0), none⟩, ⟨(some 4), .conv (.toInt .u64) (.t 3), none⟩, ⟨(some 5), .call (.c (.fn (f_math_bits_Len N) [] [])) [(.t 4)], none⟩, ⟨(some 6), .bin .shl (.c (.lit (.int .u64 1))) (.t 5), none⟩, ⟨(some 2), .mov (.t 6), none⟩]) (
 .ret)), false⟩

/-- slices.order2Ordered[int] -/
def C_slices_order2Ordered_int (N : Nat → Nat) : AFunc := ⟨28, [.inl 8, .inl 9],
 .seq (
  .ops [⟨(some 8), .mov (.c (.lit (.int .i64 0))), none⟩, ⟨(some 9), .mov (.c (.lit (.int .i64 0))), none⟩]) (
 .seq (
  .seq (
   .dops 1 [⟨(some 10), .mov (.t 0), none⟩, ⟨(some 11), .mov (.t 2), none⟩, ⟨(some 12), .iaddr 1 (.t 10) (.t 11), none⟩, ⟨(some 13), .load none (.t 12), none⟩, ⟨(some 14), .mov (.t 0), none⟩, ⟨(some 15), .mov (.t 1), none⟩, ⟨(some 16), .iaddr 1 (.t 14) (.t 15), none⟩, ⟨(some 17), .load none (.t 16), none⟩, ⟨(some 18), .call (.c (.fn (f_cmp_Less_int N) [] [])) [(.t 13), (.t 17)], none⟩] [0, 0, 0, 2, 0, 0, 0, 2, 0] []) (
  .cond (.t 18) (
   .seq (
    .ops [⟨(some 19), .mov (.t 3), none⟩, ⟨(some 20), .nilchk (.t 19), none⟩, ⟨(some 21), .load none (.t 20), none⟩, ⟨(some 22), .bin .add (.t 21) (.c (.lit (.int .i64 1))), none⟩, ⟨(some 23), .nilchk (.t 19), none⟩, ⟨none, .store 1 (.t 23) (.t 22), none⟩]) (
   .seq (
    .ops [⟨(some 24), .mov (.t 2), none⟩, ⟨(some 25), .mov (.t 1), none⟩, ⟨(some 8), .mov (.t 24), none⟩, ⟨(some 9), .mov (.t 25), none⟩]) (
   .ret))) (
   .skip))) (
 .seq (
  .ops [⟨(some 26), .mov (.t 1), none⟩, ⟨(some 27), .mov (.t 2), none⟩, ⟨(some 8), .mov (.t 26), none⟩, ⟨(some 9), .mov (.t 27), none⟩]) (
 .ret))), false⟩

def L_slices_partialInsertionSortOrdered_int_2 (N : Nat → Nat) : AC :=
         .seq (
          .seq (
           .dops 5 [⟨(some 17), .mov (.t 7), none⟩, ⟨(some 18), .mov (.t 2), none⟩, ⟨(some 19), .bin .lss (.t 17) (.t 18), none⟩, ⟨(some 20), .mov (.t 19), none⟩, ⟨(some 21), .mov (.t 0), (some (20, true))⟩, ⟨(some 22), .mov (.t 7), (some (20, true))⟩, ⟨(some 23), .iaddr 1 (.t 21) (.t 22), (some (20, true))⟩, ⟨(some 24), .load none (.t 23), (some (20, true))⟩, ⟨(some 25), .mov (.t 0), (some (20, true))⟩, ⟨(some 26), .mov (.t 7), (some (20, true))⟩, ⟨(some 27), .bin .sub (.t 26) (.c (.lit (.int .i64 1))), (some (20, true))⟩, ⟨(some 28), .iaddr 1 (.t 25) (.t 27), (some (20, true))⟩, ⟨(some 29), .load none (.t 28), (some (20, true))⟩, ⟨(some 30), .call (.c (.fn (f_cmp_Less_int N) [] [])) [(.t 24), (.t 29)], (some (20, true))⟩, ⟨(some 31), .un .not (.t 30), (some (20, true))⟩, ⟨(some 32), .pick (.t 20) (.t 31) (.c (.lit (.bool false))), none⟩] [0, 0, 0, 0, 0, 0, 0, 2, 0, 0, 0, 0, 2, 0, 0, 0] []) (
          .cond (.t 32) (
           .skip) (
           .exit 2))) (
         .block 3 (
          .ops [⟨(some 33), .mov (.t 7), none⟩, ⟨(some 34), .bin .add (.t 33) (.c (.lit (.int .i64 1))), none⟩, ⟨(some 7), .mov (.t 34), none⟩]))
def L_slices_partialInsertionSortOrdered_int_3 (N : Nat → Nat) : AC :=
     .seq (
      .seq (
       .ops [⟨(some 64), .mov (.t 9), none⟩, ⟨(some 65), .bin .geq (.t 64) (.c (.lit (.int .i64 1))), none⟩]) (
      .cond (.t 65) (
       .skip) (
       .exit 4))) (
     .seq (
      .block 5 (
       .seq (
        .seq (
         .dops 16 [⟨(some 68), .mov (.t 0), none⟩, ⟨(some 69), .mov (.t 9), none⟩, ⟨(some 70), .iaddr 1 (.t 68) (.t 69), none⟩, ⟨(some 71), .load none (.t 70), none⟩, ⟨(some 72), .mov (.t 0), none⟩, ⟨(some 73), .mov (.t 9), none⟩, ⟨(some 74), .bin .sub (.t 73) (.c (.lit (.int .i64 1))), none⟩, ⟨(some 75), .iaddr 1 (.t 72) (.t 74), none⟩, ⟨(some 76), .load none (.t 75), none⟩, ⟨(some 77), .call (.c (.fn (f_cmp_Less_int N) [] [])) [(.t 71), (.t 76)], none⟩, ⟨(some 78), .un .not (.t 77), none⟩] [0, 0, 0, 2, 0, 0, 0, 0, 2, 0, 0] []) (
        .cond (.t 78) (
         .exit 4) (
         .skip))) (
       .dops 17 [⟨(some 79), .mov (.t 0), none⟩, ⟨(some 80), .mov (.t 9), none⟩, ⟨(some 81), .mov (.t 0), none⟩, ⟨(some 82), .mov (.t 9), none⟩, ⟨(some 83), .bin .sub (.t 82) (.c (.lit (.int .i64 1))), none⟩, ⟨(some 84), .mov (.t 0), none⟩, ⟨(some 85), .mov (.t 9), none⟩, ⟨(some 86), .bin .sub (.t 85) (.c (.lit (.int .i64 1))), none⟩, ⟨(some 87), .iaddr 1 (.t 84) (.t 86), none⟩, ⟨(some 88), .load none (.t 87), none⟩, ⟨(some 89), .mov (.t 0), none⟩, ⟨(some 90), .mov (.t 9), none⟩, ⟨(some 91), .iaddr 1 (.t 89) (.t 90), none⟩, ⟨(some 92), .load none (.t 91), none⟩, ⟨(some 93), .iaddr 1 (.t 79) (.t 80), none⟩, ⟨none, .store 1 (.t 93) (.t 88), none⟩, ⟨(some 94), .iaddr 1 (.t 81) (.t 83), none⟩, ⟨none, .store 1 (.t 94) (.t 92), none⟩] [0, 0, 0, 0, 0, 0, 0, 0, 0, 2, 0, 0, 0, 2, 0, 0, 0, 0] []))) (
     .ops [⟨(some 66), .mov (.t 9), none⟩, ⟨(some 67), .bin .sub (.t 66) (.c (.lit (.int .i64 1))), none⟩, ⟨(some 9), .mov (.t 67), none⟩]))
def L_slices_partialInsertionSortOrdered_int_4 (N : Nat → Nat) : AC :=
    .seq (
     .seq (
      .ops [⟨(some 101), .mov (.t 10), none⟩, ⟨(some 102), .mov (.t 2), none⟩, ⟨(some 103), .bin .lss (.t 101) (.t 102), none⟩]) (
     .cond (.t 103) (
      .skip) (
      .exit 6))) (
    .seq (
     .block 7 (
      .seq (
       .seq (
        .dops 22 [⟨(some 106), .mov (.t 0), none⟩, ⟨(some 107), .mov (.t 10), none⟩, ⟨(some 108), .iaddr 1 (.t 106) (.t 107), none⟩, ⟨(some 109), .load none (.t 108), none⟩, ⟨(some 110), .mov (.t 0), none⟩, ⟨(some 111), .mov (.t 10), none⟩, ⟨(some 112), .bin .sub (.t 111) (.c (.lit (.int .i64 1))), none⟩, ⟨(some 113), .iaddr 1 (.t 110) (.t 112), none⟩, ⟨(some 114), .load none (.t 113), none⟩, ⟨(some 115), .call (.c (.fn (f_cmp_Less_int N) [] [])) [(.t 109), (.t 114)], none⟩, ⟨(some 116), .un .not (.t 115), none⟩] [0, 0, 0, 2, 0, 0, 0, 0, 2, 0, 0] []) (
       .cond (.t 116) (
        .exit 6) (
        .skip))) (
      .dops 23 [⟨(some 117), .mov (.t 0), none⟩, ⟨(some 118), .mov (.t 10), none⟩, ⟨(some 119), .mov (.t 0), none⟩, ⟨(some 120), .mov (.t 10), none⟩, ⟨(some 121), .bin .sub (.t 120) (.c (.lit (.int .i64 1))), none⟩, ⟨(some 122), .mov (.t 0), none⟩, ⟨(some 123), .mov (.t 10), none⟩, ⟨(some 124), .bin .sub (.t 123) (.c (.lit (.int .i64 1))), none⟩, ⟨(some 125), .iaddr 1 (.t 122) (.t 124), none⟩, ⟨(some 126), .load none (.t 125), none⟩, ⟨(some 127), .mov (.t 0), none⟩, ⟨(some 128), .mov (.t 10), none⟩, ⟨(some 129), .iaddr 1 (.t 127) (.t 128), none⟩, ⟨(some 130), .load none (.t 129), none⟩, ⟨(some 131), .iaddr 1 (.t 117) (.t 118), none⟩, ⟨none, .store 1 (.t 131) (.t 126), none⟩, ⟨(some 132), .iaddr 1 (.t 119) (.t 121), none⟩, ⟨none, .store 1 (.t 132) (.t 130), none⟩] [0, 0, 0, 0, 0, 0, 0, 0, 0, 2, 0, 0, 0, 2, 0, 0, 0, 0] []))) (
    .ops [⟨(some 104), .mov (.t 10), none⟩, ⟨(some 105), .bin .add (.t 104) (.c (.lit (.int .i64 1))), none⟩, ⟨(some 10), .mov (.t 105), none⟩]))
def K_slices_partialInsertionSortOrdered_int_2 (N : Nat → Nat) : AC :=
 .seq (
  .ops [⟨(some 95), .mov (.t 2), none⟩, ⟨(some 96), .mov (.t 7), none⟩, ⟨(some 97), .bin .sub (.t 95) (.t 96), none⟩, ⟨(some 98), .bin .geq (.t 97) (.c (.lit (.int .i64 2))), none⟩]) (
 .cond (.t 98) (
  .seq (
   .ops [⟨(some 99), .mov (.t 7), none⟩, ⟨(some 100), .bin .add (.t 99) (.c (.lit (.int .i64 1))), none⟩, ⟨(some 10), .mov (.t 100), none⟩]) (
  .block 6 (
   .loop (L_slices_partialInsertionSortOrdered_int_4 N)))) (
  .skip))
def K_slices_partialInsertionSortOrdered_int_1 (N : Nat → Nat) : AC :=
 .seq (
  .seq (
   .ops [⟨(some 35), .mov (.t 7), none⟩, ⟨(some 36), .mov (.t 2), none⟩, ⟨(some 37), .eq false .pint (.t 35) (.t 36), none⟩]) (
  .cond (.t 37) (
   .seq (
    .ops [⟨(some 6), .mov (.c (.lit (.bool true))), none⟩]) (
   .ret)) (
   .skip))) (
 .seq (
  .seq (
   .ops [⟨(some 38), .mov (.t 2), none⟩, ⟨(some 39), .mov (.t 1), none⟩, ⟨(some 40), .bin .sub (.t 38) (.t 39), none⟩, ⟨(some 41), .bin .lss (.t 40) (.c (.lit (.int .i64 50))), none⟩]) (
  .cond (.t 41) (
   .seq (
    .ops [⟨(some 6), .mov (.c (.lit (.bool false))), none⟩]) (
   .ret)) (
   .skip))) (
 .seq (
  .dops 11 [⟨(some 42), .mov (.t 0), none⟩, ⟨(some 43), .mov (.t 7), none⟩, ⟨(some 44), .mov (.t 0), none⟩, ⟨(some 45), .mov (.t 7), none⟩, ⟨(some 46), .bin .sub (.t 45) (.c (.lit (.int .i64 1))), none⟩, ⟨(some 47), .mov (.t 0), none⟩, ⟨(some 48), .mov (.t 7), none⟩, ⟨(some 49), .bin .sub (.t 48) (.c (.lit (.int .i64 1))), none⟩, ⟨(some 50), .iaddr 1 (.t 47) (.t 49), none⟩, ⟨(some 51), .load none (.t 50), none⟩, ⟨(some 52), .mov (.t 0), none⟩, ⟨(some 53), .mov (.t 7), none⟩, ⟨(some 54), .iaddr 1 (.t 52) (.t 53), none⟩, ⟨(some 55), .load none (.t 54), none⟩, ⟨(some 56), .iaddr 1 (.t 42) (.t 43), none⟩, ⟨none, .store 1 (.t 56) (.t 51), none⟩, ⟨(some 57), .iaddr 1 (.t 44) (.t 46), none⟩, ⟨none, .store 1 (.t 57) (.t 55), none⟩] [0, 0, 0, 0, 0, 0, 0, 0, 0, 2, 0, 0, 0, 2, 0, 0, 0, 0] []) (
 .seq (
  .seq (
   .ops [⟨(some 58), .mov (.t 7), none⟩, ⟨(some 59), .mov (.t 1), none⟩, ⟨(some 60), .bin .sub (.t 58) (.t 59), none⟩, ⟨(some 61), .bin .geq (.t 60) (.c (.lit (.int .i64 2))), none⟩]) (
  .cond (.t 61) (
   .seq (
    .ops [⟨(some 62), .mov (.t 7), none⟩, ⟨(some 63), .bin .sub (.t 62) (.c (.lit (.int .i64 1))), none⟩, ⟨(some 9), .mov (.t 63), none⟩]) (
   .block 4 (
    .loop (L_slices_partialInsertionSortOrdered_int_3 N)))) (
   .skip))) (K_slices_partialInsertionSortOrdered_int_2 N))))
def K_slices_partialInsertionSortOrdered_int_3 (N : Nat → Nat) : AC :=
 .ops [⟨(some 15), .mov (.t 8), none⟩, ⟨(some 16), .bin .add (.t 15) (.c (.lit (.int .i64 1))), none⟩, ⟨(some 8), .mov (.t 16), none⟩]
def L_slices_partialInsertionSortOrdered_int_1 (N : Nat → Nat) : AC :=
    .seq (
     .seq (
      .ops [⟨(some 13), .mov (.t 8), none⟩, ⟨(some 14), .bin .lss (.t 13) (.c (.lit (.int .i64 5))), none⟩]) (
     .cond (.t 14) (
      .skip) (
      .exit 0))) (
    .seq (
     .block 1 (
      .seq (
       .block 2 (
        .loop (L_slices_partialInsertionSortOrdered_int_2 N))) (K_slices_partialInsertionSortOrdered_int_1 N))) (K_slices_partialInsertionSortOrdered_int_3 N))
def K_slices_partialInsertionSortOrdered_int_4 (N : Nat → Nat) : AC :=
 .seq (
  .ops [⟨(some 6), .mov (.c (.lit (.bool false))), none⟩]) (
 .ret)
/-- slices.partialInsertionSortOrdered[int] -/
def C_slices_partialInsertionSortOrdered_int (N : Nat → Nat) : AFunc := ⟨133, [.inl 6],
 .seq (
  .ops [⟨(some 6), .mov (.c (.lit (.bool false))), none⟩]) (
 .seq (
  .ops [⟨(some 11), .mov (.t 1), none⟩, ⟨(some 12), .bin .add (.t 11) (.c (.lit (.int .i64 1))), none⟩, ⟨(some 7), .mov (.t 12), none⟩]) (
 .seq (
  .seq (
   .ops [⟨(some 8), .mov (.c (.lit (.int .i64 0))), none⟩]) (
  .block 0 (
   .loop (L_slices_partialInsertionSortOrdered_int_1 N)))) (K_slices_partialInsertionSortOrdered_int_4 N))), false⟩

def L_slices_partitionEqualOrdered_int_2 (N : Nat → Nat) : AC :=
        .seq (
         .seq (
          .dops 3 [⟨(some 29), .mov (.t 9), none⟩, ⟨(some 30), .mov (.t 10), none⟩, ⟨(some 31), .bin .leq (.t 29) (.t 30), none⟩, ⟨(some 32), .mov (.t 31), none⟩, ⟨(some 33), .mov (.t 0), (some (32, true))⟩, ⟨(some 34), .mov (.t 1), (some (32, true))⟩, ⟨(some 35), .iaddr 1 (.t 33) (.t 34), (some (32, true))⟩, ⟨(some 36), .load none (.t 35), (some (32, true))⟩, ⟨(some 37), .mov (.t 0), (some (32, true))⟩, ⟨(some 38), .mov (.t 9), (some (32, true))⟩, ⟨(some 39), .iaddr 1 (.t 37) (.t 38), (some (32, true))⟩, ⟨(some 40), .load none (.t 39), (some (32, true))⟩, ⟨(some 41), .call (.c (.fn (f_cmp_Less_int N) [] [])) [(.t 36), (.t 40)], (some (32, true))⟩, ⟨(some 42), .un .not (.t 41), (some (32, true))⟩, ⟨(some 43), .pick (.t 32) (.t 42) (.c (.lit (.bool false))), none⟩] [0, 0, 0, 0, 0, 0, 0, 2, 0, 0, 0, 2, 0, 0, 0] []) (
         .cond (.t 43) (
          .skip) (
          .exit 2))) (
        .block 3 (
         .ops [⟨(some 44), .mov (.t 9), none⟩, ⟨(some 45), .bin .add (.t 44) (.c (.lit (.int .i64 1))), none⟩, ⟨(some 9), .mov (.t 45), none⟩]))
def L_slices_partitionEqualOrdered_int_3 (N : Nat → Nat) : AC :=
    .seq (
     .seq (
      .dops 5 [⟨(some 46), .mov (.t 9), none⟩, ⟨(some 47), .mov (.t 10), none⟩, ⟨(some 48), .bin .leq (.t 46) (.t 47), none⟩, ⟨(some 49), .mov (.t 48), none⟩, ⟨(some 50), .mov (.t 0), (some (49, true))⟩, ⟨(some 51), .mov (.t 1), (some (49, true))⟩, ⟨(some 52), .iaddr 1 (.t 50) (.t 51), (some (49, true))⟩, ⟨(some 53), .load none (.t 52), (some (49, true))⟩, ⟨(some 54), .mov (.t 0), (some (49, true))⟩, ⟨(some 55), .mov (.t 10), (some (49, true))⟩, ⟨(some 56), .iaddr 1 (.t 54) (.t 55), (some (49, true))⟩, ⟨(some 57), .load none (.t 56), (some (49, true))⟩, ⟨(some 58), .call (.c (.fn (f_cmp_Less_int N) [] [])) [(.t 53), (.t 57)], (some (49, true))⟩, ⟨(some 59), .pick (.t 49) (.t 58) (.c (.lit (.bool false))), none⟩] [0, 0, 0, 0, 0, 0, 0, 2, 0, 0, 0, 2, 0, 0] []) (
     .cond (.t 59) (
      .skip) (
      .exit 4))) (
    .block 5 (
     .ops [⟨(some 60), .mov (.t 10), none⟩, ⟨(some 61), .bin .sub (.t 60) (.c (.lit (.int .i64 1))), none⟩, ⟨(some 10), .mov (.t 61), none⟩]))
def K_slices_partitionEqualOrdered_int_2 (N : Nat → Nat) : AC :=
 .seq (
  .seq (
   .ops [⟨(some 62), .mov (.t 9), none⟩, ⟨(some 63), .mov (.t 10), none⟩, ⟨(some 64), .bin .gtr (.t 62) (.t 63), none⟩]) (
  .cond (.t 64) (
   .exit 0) (
   .skip))) (
 .seq (
  .dops 8 [⟨(some 65), .mov (.t 0), none⟩, ⟨(some 66), .mov (.t 9), none⟩, ⟨(some 67), .mov (.t 0), none⟩, ⟨(some 68), .mov (.t 10), none⟩, ⟨(some 69), .mov (.t 0), none⟩, ⟨(some 70), .mov (.t 10), none⟩, ⟨(some 71), .iaddr 1 (.t 69) (.t 70), none⟩, ⟨(some 72), .load none (.t 71), none⟩, ⟨(some 73), .mov (.t 0), none⟩, ⟨(some 74), .mov (.t 9), none⟩, ⟨(some 75), .iaddr 1 (.t 73) (.t 74), none⟩, ⟨(some 76), .load none (.t 75), none⟩, ⟨(some 77), .iaddr 1 (.t 65) (.t 66), none⟩, ⟨none, .store 1 (.t 77) (.t 72), none⟩, ⟨(some 78), .iaddr 1 (.t 67) (.t 68), none⟩, ⟨none, .store 1 (.t 78) (.t 76), none⟩] [0, 0, 0, 0, 0, 0, 0, 2, 0, 0, 0, 2, 0, 0, 0, 0] []) (
 .seq (
  .ops [⟨(some 79), .mov (.t 9), none⟩, ⟨(some 80), .bin .add (.t 79) (.c (.lit (.int .i64 1))), none⟩, ⟨(some 9), .mov (.t 80), none⟩]) (
 .ops [⟨(some 81), .mov (.t 10), none⟩, ⟨(some 82), .bin .sub (.t 81) (.c (.lit (.int .i64 1))), none⟩, ⟨(some 10), .mov (.t 82), none⟩])))
def K_slices_partitionEqualOrdered_int_1 (N : Nat → Nat) : AC :=
 .seq (
  .block 4 (
   .loop (L_slices_partitionEqualOrdered_int_3 N))) (K_slices_partitionEqualOrdered_int_2 N)
def L_slices_partitionEqualOrdered_int_1 (N : Nat → Nat) : AC :=
    .block 1 (
     .seq (
      .block 2 (
       .loop (L_slices_partitionEqualOrdered_int_2 N))) (K_slices_partitionEqualOrdered_int_1 N))
def K_slices_partitionEqualOrdered_int_3 (N : Nat → Nat) : AC :=
 .seq (
  .ops [⟨(some 83), .mov (.t 9), none⟩, ⟨(some 8), .mov (.t 83), none⟩]) (
 .ret)
/-- slices.partitionEqualOrdered[int] -/
def C_slices_partitionEqualOrdered_int (N : Nat → Nat) : AFunc := ⟨84, [.inl 8],
 .seq (
  .ops [⟨(some 8), .mov (.c (.lit (.int .i64 0))), none⟩]) (
 .seq (
  .dops 1 [⟨(some 11), .mov (.t 0), none⟩, ⟨(some 12), .mov (.t 1), none⟩, ⟨(some 13), .mov (.t 0), none⟩, ⟨(some 14), .mov (.t 3), none⟩, ⟨(some 15), .mov (.t 0), none⟩, ⟨(some 16), .mov (.t 3), none⟩, ⟨(some 17), .iaddr 1 (.t 15) (.t 16), none⟩, ⟨(some 18), .load none (.t 17), none⟩, ⟨(some 19), .mov (.t 0), none⟩, ⟨(some 20), .mov (.t 1), none⟩, ⟨(some 21), .iaddr 1 (.t 19) (.t 20), none⟩, ⟨(some 22), .load none (.t 21), none⟩, ⟨(some 23), .iaddr 1 (.t 11) (.t 12), none⟩, ⟨none, .store 1 (.t 23) (.t 18), none⟩, ⟨(some 24), .iaddr 1 (.t 13) (.t 14), none⟩, ⟨none, .store 1 (.t 24) (.t 22), none⟩] [0, 0, 0, 0, 0, 0, 0, 2, 0, 0, 0, 2, 0, 0, 0, 0] []) (
 .seq (
  .ops [⟨(some 25), .mov (.t 1), none⟩, ⟨(some 26), .bin .add (.t 25) (.c (.lit (.int .i64 1))), none⟩, ⟨(some 27), .mov (.t 2), none⟩, ⟨(some 28), .bin .sub (.t 27) (.c (.lit (.int .i64 1))), none⟩, ⟨(some 9), .mov (.t 26), none⟩, ⟨(some 10), .mov (.t 28), none⟩]) (
 .seq (
  .block 0 (
   .loop (L_slices_partitionEqualOrdered_int_1 N))) (K_slices_partitionEqualOrdered_int_3 N)))), false⟩

def L_slices_partitionOrdered_int_1 (N : Nat → Nat) : AC :=
    .seq (
     .seq (
      .dops 3 [⟨(some 30), .mov (.t 10), none⟩, ⟨(some 31), .mov (.t 11), none⟩, ⟨(some 32), .bin .leq (.t 30) (.t 31), none⟩, ⟨(some 33), .mov (.t 32), none⟩, ⟨(some 34), .mov (.t 0), (some (33, true))⟩, ⟨(some 35), .mov (.t 10), (some (33, true))⟩, ⟨(some 36), .iaddr 1 (.t 34) (.t 35), (some (33, true))⟩, ⟨(some 37), .load none (.t 36), (some (33, true))⟩, ⟨(some 38), .mov (.t 0), (some (33, true))⟩, ⟨(some 39), .mov (.t 1), (some (33, true))⟩, ⟨(some 40), .iaddr 1 (.t 38) (.t 39), (some (33, true))⟩, ⟨(some 41), .load none (.t 40), (some (33, true))⟩, ⟨(some 42), .call (.c (.fn (f_cmp_Less_int N) [] [])) [(.t 37), (.t 41)], (some (33, true))⟩, ⟨(some 43), .pick (.t 33) (.t 42) (.c (.lit (.bool false))), none⟩] [0, 0, 0, 0, 0, 0, 0, 2, 0, 0, 0, 2, 0, 0] []) (
     .cond (.t 43) (
      .skip) (
      .exit 0))) (
    .block 1 (
     .ops [⟨(some 44), .mov (.t 10), none⟩, ⟨(some 45), .bin .add (.t 44) (.c (.lit (.int .i64 1))), none⟩, ⟨(some 10), .mov (.t 45), none⟩]))
def L_slices_partitionOrdered_int_2 (N : Nat → Nat) : AC :=
    .seq (
     .seq (
      .dops 5 [⟨(some 46), .mov (.t 10), none⟩, ⟨(some 47), .mov (.t 11), none⟩, ⟨(some 48), .bin .leq (.t 46) (.t 47), none⟩, ⟨(some 49), .mov (.t 48), none⟩, ⟨(some 50), .mov (.t 0), (some (49, true))⟩, ⟨(some 51), .mov (.t 11), (some (49, true))⟩, ⟨(some 52), .iaddr 1 (.t 50) (.t 51), (some (49, true))⟩, ⟨(some 53), .load none (.t 52), (some (49, true))⟩, ⟨(some 54), .mov (.t 0), (some (49, true))⟩, ⟨(some 55), .mov (.t 1), (some (49, true))⟩, ⟨(some 56), .iaddr 1 (.t 54) (.t 55), (some (49, true))⟩, ⟨(some 57), .load none (.t 56), (some (49, true))⟩, ⟨(some 58), .call (.c (.fn (f_cmp_Less_int N) [] [])) [(.t 53), (.t 57)], (some (49, true))⟩, ⟨(some 59), .un .not (.t 58), (some (49, true))⟩, ⟨(some 60), .pick (.t 49) (.t 59) (.c (.lit (.bool false))), none⟩] [0, 0, 0, 0, 0, 0, 0, 2, 0, 0, 0, 2, 0, 0, 0] []) (
     .cond (.t 60) (
      .skip) (
      .exit 2))) (
    .block 3 (
     .ops [⟨(some 61), .mov (.t 11), none⟩, ⟨(some 62), .bin .sub (.t 61) (.c (.lit (.int .i64 1))), none⟩, ⟨(some 11), .mov (.t 62), none⟩]))
def L_slices_partitionOrdered_int_4 (N : Nat → Nat) : AC :=
        .seq (
         .seq (
          .dops 13 [⟨(some 99), .mov (.t 10), none⟩, ⟨(some 100), .mov (.t 11), none⟩, ⟨(some 101), .bin .leq (.t 99) (.t 100), none⟩, ⟨(some 102), .mov (.t 101), none⟩, ⟨(some 103), .mov (.t 0), (some (102, true))⟩, ⟨(some 104), .mov (.t 10), (some (102, true))⟩, ⟨(some 105), .iaddr 1 (.t 103) (.t 104), (some (102, true))⟩, ⟨(some 106), .load none (.t 105), (some (102, true))⟩, ⟨(some 107), .mov (.t 0), (some (102, true))⟩, ⟨(some 108), .mov (.t 1), (some (102, true))⟩, ⟨(some 109), .iaddr 1 (.t 107) (.t 108), (some (102, true))⟩, ⟨(some 110), .load none (.t 109), (some (102, true))⟩, ⟨(some 111), .call (.c (.fn (f_cmp_Less_int N) [] [])) [(.t 106), (.t 110)], (some (102, true))⟩, ⟨(some 112), .pick (.t 102) (.t 111) (.c (.lit (.bool false))), none⟩] [0, 0, 0, 0, 0, 0, 0, 2, 0, 0, 0, 2, 0, 0] []) (
         .cond (.t 112) (
          .skip) (
          .exit 6))) (
        .block 7 (
         .ops [⟨(some 113), .mov (.t 10), none⟩, ⟨(some 114), .bin .add (.t 113) (.c (.lit (.int .i64 1))), none⟩, ⟨(some 10), .mov (.t 114), none⟩]))
def L_slices_partitionOrdered_int_5 (N : Nat → Nat) : AC :=
    .seq (
     .seq (
      .dops 15 [⟨(some 115), .mov (.t 10), none⟩, ⟨(some 116), .mov (.t 11), none⟩, ⟨(some 117), .bin .leq (.t 115) (.t 116), none⟩, ⟨(some 118), .mov (.t 117), none⟩, ⟨(some 119), .mov (.t 0), (some (118, true))⟩, ⟨(some 120), .mov (.t 11), (some (118, true))⟩, ⟨(some 121), .iaddr 1 (.t 119) (.t 120), (some (118, true))⟩, ⟨(some 122), .load none (.t 121), (some (118, true))⟩, ⟨(some 123), .mov (.t 0), (some (118, true))⟩, ⟨(some 124), .mov (.t 1), (some (118, true))⟩, ⟨(some 125), .iaddr 1 (.t 123) (.t 124), (some (118, true))⟩, ⟨(some 126), .load none (.t 125), (some (118, true))⟩, ⟨(some 127), .call (.c (.fn (f_cmp_Less_int N) [] [])) [(.t 122), (.t 126)], (some (118, true))⟩, ⟨(some 128), .un .not (.t 127), (some (118, true))⟩, ⟨(some 129), .pick (.t 118) (.t 128) (.c (.lit (.bool false))), none⟩] [0, 0, 0, 0, 0, 0, 0, 2, 0, 0, 0, 2, 0, 0, 0] []) (
     .cond (.t 129) (
      .skip) (
      .exit 8))) (
    .block 9 (
     .ops [⟨(some 130), .mov (.t 11), none⟩, ⟨(some 131), .bin .sub (.t 130) (.c (.lit (.int .i64 1))), none⟩, ⟨(some 11), .mov (.t 131), none⟩]))
def K_slices_partitionOrdered_int_4 (N : Nat → Nat) : AC :=
 .seq (
  .seq (
   .ops [⟨(some 132), .mov (.t 10), none⟩, ⟨(some 133), .mov (.t 11), none⟩, ⟨(some 134), .bin .gtr (.t 132) (.t 133), none⟩]) (
  .cond (.t 134) (
   .exit 4) (
   .skip))) (
 .seq (
  .dops 18 [⟨(some 135), .mov (.t 0), none⟩, ⟨(some 136), .mov (.t 10), none⟩, ⟨(some 137), .mov (.t 0), none⟩, ⟨(some 138), .mov (.t 11), none⟩, ⟨(some 139), .mov (.t 0), none⟩, ⟨(some 140), .mov (.t 11), none⟩, ⟨(some 141), .iaddr 1 (.t 139) (.t 140), none⟩, ⟨(some 142), .load none (.t 141), none⟩, ⟨(some 143), .mov (.t 0), none⟩, ⟨(some 144), .mov (.t 10), none⟩, ⟨(some 145), .iaddr 1 (.t 143) (.t 144), none⟩, ⟨(some 146), .load none (.t 145), none⟩, ⟨(some 147), .iaddr 1 (.t 135) (.t 136), none⟩, ⟨none, .store 1 (.t 147) (.t 142), none⟩, ⟨(some 148), .iaddr 1 (.t 137) (.t 138), none⟩, ⟨none, .store 1 (.t 148) (.t 146), none⟩] [0, 0, 0, 0, 0, 0, 0, 2, 0, 0, 0, 2, 0, 0, 0, 0] []) (
 .seq (
  .ops [⟨(some 149), .mov (.t 10), none⟩, ⟨(some 150), .bin .add (.t 149) (.c (.lit (.int .i64 1))), none⟩, ⟨(some 10), .mov (.t 150), none⟩]) (
 .ops [⟨(some 151), .mov (.t 11), none⟩, ⟨(some 152), .bin .sub (.t 151) (.c (.lit (.int .i64 1))), none⟩, ⟨(some 11), .mov (.t 152), none⟩])))
def K_slices_partitionOrdered_int_3 (N : Nat → Nat) : AC :=
 .seq (
  .block 8 (
   .loop (L_slices_partitionOrdered_int_5 N))) (K_slices_partitionOrdered_int_4 N)
def L_slices_partitionOrdered_int_3 (N : Nat → Nat) : AC :=
    .block 5 (
     .seq (
      .block 6 (
       .loop (L_slices_partitionOrdered_int_4 N))) (K_slices_partitionOrdered_int_3 N))
def K_slices_partitionOrdered_int_5 (N : Nat → Nat) : AC :=
 .seq (
  .dops 21 [⟨(some 153), .mov (.t 0), none⟩, ⟨(some 154), .mov (.t 11), none⟩, ⟨(some 155), .mov (.t 0), none⟩, ⟨(some 156), .mov (.t 1), none⟩, ⟨(some 157), .mov (.t 0), none⟩, ⟨(some 158), .mov (.t 1), none⟩, ⟨(some 159), .iaddr 1 (.t 157) (.t 158), none⟩, ⟨(some 160), .load none (.t 159), none⟩, ⟨(some 161), .mov (.t 0), none⟩, ⟨(some 162), .mov (.t 11), none⟩, ⟨(some 163), .iaddr 1 (.t 161) (.t 162), none⟩, ⟨(some 164), .load none (.t 163), none⟩, ⟨(some 165), .iaddr 1 (.t 153) (.t 154), none⟩, ⟨none, .store 1 (.t 165) (.t 160), none⟩, ⟨(some 166), .iaddr 1 (.t 155) (.t 156), none⟩, ⟨none, .store 1 (.t 166) (.t 164), none⟩] [0, 0, 0, 0, 0, 0, 0, 2, 0, 0, 0, 2, 0, 0, 0, 0] []) (
 .seq (
  .ops [⟨(some 167), .mov (.t 11), none⟩, ⟨(some 8), .mov (.t 167), none⟩, ⟨(some 9), .mov (.c (.lit (.bool false))), none⟩]) (
 .ret))
def K_slices_partitionOrdered_int_2 (N : Nat → Nat) : AC :=
 .seq (
  .seq (
   .ops [⟨(some 63), .mov (.t 10), none⟩, ⟨(some 64), .mov (.t 11), none⟩, ⟨(some 65), .bin .gtr (.t 63) (.t 64), none⟩]) (
  .cond (.t 65) (
   .seq (
    .dops 8 [⟨(some 66), .mov (.t 0), none⟩, ⟨(some 67), .mov (.t 11), none⟩, ⟨(some 68), .mov (.t 0), none⟩, ⟨(some 69), .mov (.t 1), none⟩, ⟨(some 70), .mov (.t 0), none⟩, ⟨(some 71), .mov (.t 1), none⟩, ⟨(some 72), .iaddr 1 (.t 70) (.t 71), none⟩, ⟨(some 73), .load none (.t 72), none⟩, ⟨(some 74), .mov (.t 0), none⟩, ⟨(some 75), .mov (.t 11), none⟩, ⟨(some 76), .iaddr 1 (.t 74) (.t 75), none⟩, ⟨(some 77), .load none (.t 76), none⟩, ⟨(some 78), .iaddr 1 (.t 66) (.t 67), none⟩, ⟨none, .store 1 (.t 78) (.t 73), none⟩, ⟨(some 79), .iaddr 1 (.t 68) (.t 69), none⟩, ⟨none, .store 1 (.t 79) (.t 77), none⟩] [0, 0, 0, 0, 0, 0, 0, 2, 0, 0, 0, 2, 0, 0, 0, 0] []) (
   .seq (
    .ops [⟨(some 80), .mov (.t 11), none⟩, ⟨(some 8), .mov (.t 80), none⟩, ⟨(some 9), .mov (.c (.lit (.bool true))), none⟩]) (
   .ret))) (
   .skip))) (
 .seq (
  .dops 10 [⟨(some 81), .mov (.t 0), none⟩, ⟨(some 82), .mov (.t 10), none⟩, ⟨(some 83), .mov (.t 0), none⟩, ⟨(some 84), .mov (.t 11), none⟩, ⟨(some 85), .mov (.t 0), none⟩, ⟨(some 86), .mov (.t 11), none⟩, ⟨(some 87), .iaddr 1 (.t 85) (.t 86), none⟩, ⟨(some 88), .load none (.t 87), none⟩, ⟨(some 89), .mov (.t 0), none⟩, ⟨(some 90), .mov (.t 10), none⟩, ⟨(some 91), .iaddr 1 (.t 89) (.t 90), none⟩, ⟨(some 92), .load none (.t 91), none⟩, ⟨(some 93), .iaddr 1 (.t 81) (.t 82), none⟩, ⟨none, .store 1 (.t 93) (.t 88), none⟩, ⟨(some 94), .iaddr 1 (.t 83) (.t 84), none⟩, ⟨none, .store 1 (.t 94) (.t 92), none⟩] [0, 0, 0, 0, 0, 0, 0, 2, 0, 0, 0, 2, 0, 0, 0, 0] []) (
 .seq (
  .ops [⟨(some 95), .mov (.t 10), none⟩, ⟨(some 96), .bin .add (.t 95) (.c (.lit (.int .i64 1))), none⟩, ⟨(some 10), .mov (.t 96), none⟩]) (
 .seq (
  .ops [⟨(some 97), .mov (.t 11), none⟩, ⟨(some 98), .bin .sub (.t 97) (.c (.lit (.int .i64 1))), none⟩, ⟨(some 11), .mov (.t 98), none⟩]) (
 .seq (
  .block 4 (
   .loop (L_slices_partitionOrdered_int_3 N))) (K_slices_partitionOrdered_int_5 N)))))
def K_slices_partitionOrdered_int_1 (N : Nat → Nat) : AC :=
 .seq (
  .block 2 (
   .loop (L_slices_partitionOrdered_int_2 N))) (K_slices_partitionOrdered_int_2 N)
/-- slices.partitionOrdered[int] -/
def C_slices_partitionOrdered_int (N : Nat → Nat) : AFunc := ⟨168, [.inl 8, .inl 9],
 .seq (
  .ops [⟨(some 8), .mov (.c (.lit (.int .i64 0))), none⟩, ⟨(some 9), .mov (.c (.lit (.bool false))), none⟩]) (
 .seq (
  .dops 1 [⟨(some 12), .mov (.t 0), none⟩, ⟨(some 13), .mov (.t 1), none⟩, ⟨(some 14), .mov (.t 0), none⟩, ⟨(some 15), .mov (.t 3), none⟩, ⟨(some 16), .mov (.t 0), none⟩, ⟨(some 17), .mov (.t 3), none⟩, ⟨(some 18), .iaddr 1 (.t 16) (.t 17), none⟩, ⟨(some 19), .load none (.t 18), none⟩, ⟨(some 20), .mov (.t 0), none⟩, ⟨(some 21), .mov (.t 1), none⟩, ⟨(some 22), .iaddr 1 (.t 20) (.t 21), none⟩, ⟨(some 23), .load none (.t 22), none⟩, ⟨(some 24), .iaddr 1 (.t 12) (.t 13), none⟩, ⟨none, .store 1 (.t 24) (.t 19), none⟩, ⟨(some 25), .iaddr 1 (.t 14) (.t 15), none⟩, ⟨none, .store 1 (.t 25) (.t 23), none⟩] [0, 0, 0, 0, 0, 0, 0, 2, 0, 0, 0, 2, 0, 0, 0, 0] []) (
 .seq (
  .ops [⟨(some 26), .mov (.t 1), none⟩, ⟨(some 27), .bin .add (.t 26) (.c (.lit (.int .i64 1))), none⟩, ⟨(some 28), .mov (.t 2), none⟩, ⟨(some 29), .bin .sub (.t 28) (.c (.lit (.int .i64 1))), none⟩, ⟨(some 10), .mov (.t 27), none⟩, ⟨(some 11), .mov (.t 29), none⟩]) (
 .seq (
  .block 0 (
   .loop (L_slices_partitionOrdered_int_1 N))) (K_slices_partitionOrdered_int_1 N)))), false⟩

def L_slices_pdqsortOrdered_int_1 (N : Nat → Nat) : AC :=
   .block 1 (
    .seq (
     .ops [⟨(some 19), .mov (.t 2), none⟩, ⟨(some 20), .mov (.t 1), none⟩, ⟨(some 21), .bin .sub (.t 19) (.t 20), none⟩, ⟨(some 10), .mov (.t 21), none⟩]) (
    .seq (
     .seq (
      .ops [⟨(some 22), .mov (.t 10), none⟩, ⟨(some 23), .bin .leq (.t 22) (.c (.lit (.int .i64 12))), none⟩]) (
     .cond (.t 23) (
      .seq (
       .ops [⟨(some 24), .mov (.t 0), none⟩, ⟨(some 25), .mov (.t 1), none⟩, ⟨(some 26), .mov (.t 2), none⟩, ⟨(some 27), .call (.c (.fn (f_slices_insertionSortOrdered_int N) [] [])) [(.t 24), (.t 25), (.t 26)], none⟩]) (
      .ret)) (
      .skip))) (
    .seq (
     .seq (
      .ops [⟨(some 28), .mov (.t 3), none⟩, ⟨(some 29), .eq false .pint (.t 28) (.c (.lit (.int .i64 0))), none⟩]) (
     .cond (.t 29) (
      .seq (
       .ops [⟨(some 30), .mov (.t 0), none⟩, ⟨(some 31), .mov (.t 1), none⟩, ⟨(some 32), .mov (.t 2), none⟩, ⟨(some 33), .call (.c (.fn (f_slices_heapSortOrdered_int N) [] [])) [(.t 30), (.t 31), (.t 32)], none⟩]) (
      .ret)) (
      .skip))) (
    .seq (
     .seq (
      .ops [⟨(some 34), .mov (.t 8), none⟩, ⟨(some 35), .un .not (.t 34), none⟩]) (
     .cond (.t 35) (
      .seq (
       .ops [⟨(some 36), .mov (.t 0), none⟩, ⟨(some 37), .mov (.t 1), none⟩, ⟨(some 38), .mov (.t 2), none⟩, ⟨(some 39), .call (.c (.fn (f_slices_breakPatternsOrdered_int N) [] [])) [(.t 36), (.t 37), (.t 38)], none⟩]) (
      .ops [⟨(some 40), .mov (.t 3), none⟩, ⟨(some 41), .bin .sub (.t 40) (.c (.lit (.int .i64 1))), none⟩, ⟨(some 3), .mov (.t 41), none⟩])) (
      .skip))) (
    .seq (
     .ops [⟨(some 43), .mov (.t 0), none⟩, ⟨(some 44), .mov (.t 1), none⟩, ⟨(some 45), .mov (.t 2), none⟩, ⟨(some 46), .call (.c (.fn (f_slices_choosePivotOrdered_int N) [] [])) [(.t 43), (.t 44), (.t 45)], none⟩, ⟨(some 42), .mov (.t 46), none⟩, ⟨(some 47), .extract (.t 42) 0, none⟩, ⟨(some 48), .extract (.t 42) 1, none⟩, ⟨(some 11), .mov (.t 47), none⟩, ⟨(some 12), .mov (.t 48), none⟩]) (
    .seq (
     .seq (
      .ops [⟨(some 49), .mov (.t 12), none⟩, ⟨(some 50), .eq false .pint (.t 49) (.c (.lit (.int .i64 2))), none⟩]) (
     .cond (.t 50) (
      .seq (
       .ops [⟨(some 51), .mov (.t 0), none⟩, ⟨(some 52), .mov (.t 1), none⟩, ⟨(some 53), .mov (.t 2), none⟩, ⟨(some 54), .call (.c (.fn (f_slices_reverseRangeOrdered_int N) [] [])) [(.t 51), (.t 52), (.t 53)], none⟩]) (
      .seq (
       .ops [⟨(some 55), .mov (.t 2), none⟩, ⟨(some 56), .bin .sub (.t 55) (.c (.lit (.int .i64 1))), none⟩, ⟨(some 57), .mov (.t 11), none⟩, ⟨(some 58), .mov (.t 1), none⟩, ⟨(some 59), .bin .sub (.t 57) (.t 58), none⟩, ⟨(some 60), .bin .sub (.t 56) (.t 59), none⟩, ⟨(some 11), .mov (.t 60), none⟩]) (
      .ops [⟨(some 12), .mov (.c (.lit (.int .i64 1))), none⟩]))) (
      .skip))) (
    .seq (
     .seq (
      .ops [⟨(some 61), .mov (.t 8), none⟩, ⟨(some 62), .mov (.t 61), none⟩, ⟨(some 63), .mov (.t 9), (some (62, true))⟩, ⟨(some 64), .pick (.t 62) (.t 63) (.c (.lit (.bool false))), none⟩, ⟨(some 65), .mov (.t 64), none⟩, ⟨(some 66), .mov (.t 12), (some (65, true))⟩, ⟨(some 67), .eq false .pint (.t 66) (.c (.lit (.int .i64 1))), (some (65, true))⟩, ⟨(some 68), .pick (.t 65) (.t 67) (.c (.lit (.bool false))), none⟩]) (
     .cond (.t 68) (
      .seq (
       .ops [⟨(some 69), .mov (.t 0), none⟩, ⟨(some 70), .mov (.t 1), none⟩, ⟨(some 71), .mov (.t 2), none⟩, ⟨(some 72), .call (.c (.fn (f_slices_partialInsertionSortOrdered_int N) [] [])) [(.t 69), (.t 70), (.t 71)], none⟩]) (
      .cond (.t 72) (
       .ret) (
       .skip))) (
      .skip))) (
    .seq (
     .seq (
      .dops 17 [⟨(some 73), .mov (.t 1), none⟩, ⟨(some 74), .bin .gtr (.t 73) (.c (.lit (.int .i64 0))), none⟩, ⟨(some 75), .mov (.t 74), none⟩, ⟨(some 76), .mov (.t 0), (some (75, true))⟩, ⟨(some 77), .mov (.t 1), (some (75, true))⟩, ⟨(some 78), .bin .sub (.t 77) (.c (.lit (.int .i64 1))), (some (75, true))⟩, ⟨(some 79), .iaddr 1 (.t 76) (.t 78), (some (75, true))⟩, ⟨(some 80), .load none (.t 79), (some (75, true))⟩, ⟨(some 81), .mov (.t 0), (some (75, true))⟩, ⟨(some 82), .mov (.t 11), (some (75, true))⟩, ⟨(some 83), .iaddr 1 (.t 81) (.t 82), (some (75, true))⟩, ⟨(some 84), .load none (.t 83), (some (75, true))⟩, ⟨(some 85), .call (.c (.fn (f_cmp_Less_int N) [] [])) [(.t 80), (.t 84)], (some (75, true))⟩, ⟨(some 86), .un .not (.t 85), (some (75, true))⟩, ⟨(some 87), .pick (.t 75) (.t 86) (.c (.lit (.bool false))), none⟩] [0, 0, 0, 0, 0, 0, 0, 2, 0, 0, 0, 2, 0, 0, 0] []) (
     .cond (.t 87) (
      .seq (
       .ops [⟨(some 88), .mov (.t 0), none⟩, ⟨(some 89), .mov (.t 1), none⟩, ⟨(some 90), .mov (.t 2), none⟩, ⟨(some 91), .mov (.t 11), none⟩, ⟨(some 92), .call (.c (.fn (f_slices_partitionEqualOrdered_int N) [] [])) [(.t 88), (.t 89), (.t 90), (.t 91)], none⟩, ⟨(some 13), .mov (.t 92), none⟩]) (
      .seq (
       .ops [⟨(some 93), .mov (.t 13), none⟩, ⟨(some 1), .mov (.t 93), none⟩]) (
      .exit 1))) (
      .skip))) (
    .seq (
     .ops [⟨(some 95), .mov (.t 0), none⟩, ⟨(some 96), .mov (.t 1), none⟩, ⟨(some 97), .mov (.t 2), none⟩, ⟨(some 98), .mov (.t 11), none⟩, ⟨(some 99), .call (.c (.fn (f_slices_partitionOrdered_int N) [] [])) [(.t 95), (.t 96), (.t 97), (.t 98)], none⟩, ⟨(some 94), .mov (.t 99), none⟩, ⟨(some 100), .extract (.t 94) 0, none⟩, ⟨(some 101), .extract (.t 94) 1, none⟩, ⟨(some 14), .mov (.t 100), none⟩, ⟨(some 15), .mov (.t 101), none⟩]) (
    .seq (
     .ops [⟨(some 102), .mov (.t 15), none⟩, ⟨(some 9), .mov (.t 102), none⟩]) (
    .seq (
     .ops [⟨(some 103), .mov (.t 14), none⟩, ⟨(some 104), .mov (.t 1), none⟩, ⟨(some 105), .bin .sub (.t 103) (.t 104), none⟩, ⟨(some 106), .mov (.t 2), none⟩, ⟨(some 107), .mov (.t 14), none⟩, ⟨(some 108), .bin .sub (.t 106) (.t 107), none⟩, ⟨(some 16), .mov (.t 105), none⟩, ⟨(some 17), .mov (.t 108), none⟩]) (
    .seq (
     .ops [⟨(some 109), .mov (.t 10), none⟩, ⟨(some 110), .bin .quo (.t 109) (.c (.lit (.int .i64 8))), none⟩, ⟨(some 18), .mov (.t 110), none⟩]) (
    .seq (
     .ops [⟨(some 111), .mov (.t 16), none⟩, ⟨(some 112), .mov (.t 17), none⟩, ⟨(some 113), .bin .lss (.t 111) (.t 112), none⟩]) (
    .cond (.t 113) (
     .seq (
      .ops [⟨(some 114), .mov (.t 16), none⟩, ⟨(some 115), .mov (.t 18), none⟩, ⟨(some 116), .bin .geq (.t 114) (.t 115), none⟩, ⟨(some 8), .mov (.t 116), none⟩]) (
     .seq (
      .ops [⟨(some 117), .mov (.t 0), none⟩, ⟨(some 118), .mov (.t 1), none⟩, ⟨(some 119), .mov (.t 14), none⟩, ⟨(some 120), .mov (.t 3), none⟩, ⟨(some 121), .call (.c (.fn (f_slices_pdqsortOrdered_int N) [] [])) [(.t 117), (.t 118), (.t 119), (.t 120)], none⟩]) (
     .ops [⟨(some 122), .mov (.t 14), none⟩, ⟨(some 123), .bin .add (.t 122) (.c (.lit (.int .i64 1))), none⟩, ⟨(some 1), .mov (.t 123), none⟩]))) (
     .seq (
      .ops [⟨(some 124), .mov (.t 17), none⟩, ⟨(some 125), .mov (.t 18), none⟩, ⟨(some 126), .bin .geq (.t 124) (.t 125), none⟩, ⟨(some 8), .mov (.t 126), none⟩]) (
     .seq (
      .ops [⟨(some 127), .mov (.t 0), none⟩, ⟨(some 128), .mov (.t 14), none⟩, ⟨(some 129), .bin .add (.t 128) (.c (.lit (.int .i64 1))), none⟩, ⟨(some 130), .mov (.t 2), none⟩, ⟨(some 131), .mov (.t 3), none⟩, ⟨(some 132), .call (.c (.fn (f_slices_pdqsortOrdered_int N) [] [])) [(.t 127), (.t 129), (.t 130), (.t 131)], none⟩]) (
     .ops [⟨(some 133), .mov (.t 14), none⟩, ⟨(some 2), .mov (.t 133), none⟩])))))))))))))))))
/-- slices.pdqsortOrdered[int] -/
def C_slices_pdqsortOrdered_int (N : Nat → Nat) : AFunc := ⟨134, [],
 .seq (
  .ops [⟨(some 8), .mov (.c (.lit (.bool true))), none⟩]) (
 .seq (
  .ops [⟨(some 9), .mov (.c (.lit (.bool true))), none⟩]) (
 .block 0 (
  .loop (L_slices_pdqsortOrdered_int_1 N)))), false⟩

def L_slices_reverseRangeOrdered_int_1 (N : Nat → Nat) : AC :=
   .seq (
    .seq (
     .ops [⟨(some 11), .mov (.t 6), none⟩, ⟨(some 12), .mov (.t 7), none⟩, ⟨(some 13), .bin .lss (.t 11) (.t 12), none⟩]) (
    .cond (.t 13) (
     .skip) (
     .exit 0))) (
   .block 1 (
    .seq (
     .dops 3 [⟨(some 14), .mov (.t 0), none⟩, ⟨(some 15), .mov (.t 6), none⟩, ⟨(some 16), .mov (.t 0), none⟩, ⟨(some 17), .mov (.t 7), none⟩, ⟨(some 18), .mov (.t 0), none⟩, ⟨(some 19), .mov (.t 7), none⟩, ⟨(some 20), .iaddr 1 (.t 18) (.t 19), none⟩, ⟨(some 21), .load none (.t 20), none⟩, ⟨(some 22), .mov (.t 0), none⟩, ⟨(some 23), .mov (.t 6), none⟩, ⟨(some 24), .iaddr 1 (.t 22) (.t 23), none⟩, ⟨(some 25), .load none (.t 24), none⟩, ⟨(some 26), .iaddr 1 (.t 14) (.t 15), none⟩, ⟨none, .store 1 (.t 26) (.t 21), none⟩, ⟨(some 27), .iaddr 1 (.t 16) (.t 17), none⟩, ⟨none, .store 1 (.t 27) (.t 25), none⟩] [0, 0, 0, 0, 0, 0, 0, 2, 0, 0, 0, 2, 0, 0, 0, 0] []) (
    .seq (
     .ops [⟨(some 28), .mov (.t 6), none⟩, ⟨(some 29), .bin .add (.t 28) (.c (.lit (.int .i64 1))), none⟩, ⟨(some 6), .mov (.t 29), none⟩]) (
    .ops [⟨(some 30), .mov (.t 7), none⟩, ⟨(some 31), .bin .sub (.t 30) (.c (.lit (.int .i64 1))), none⟩, ⟨(some 7), .mov (.t 31), none⟩]))))
/-- slices.reverseRangeOrdered[int] -/
def C_slices_reverseRangeOrdered_int (N : Nat → Nat) : AFunc := ⟨32, [],
 .seq (
  .ops [⟨(some 8), .mov (.t 1), none⟩, ⟨(some 6), .mov (.t 8), none⟩]) (
 .seq (
  .ops [⟨(some 9), .mov (.t 2), none⟩, ⟨(some 10), .bin .sub (.t 9) (.c (.lit (.int .i64 1))), none⟩, ⟨(some 7), .mov (.t 10), none⟩]) (
 .block 0 (
  .loop (L_slices_reverseRangeOrdered_int_1 N)))), false⟩

def L_slices_siftDownOrdered_int_1 (N : Nat → Nat) : AC :=
   .block 1 (
    .seq (
     .ops [⟨(some 11), .mov (.t 8), none⟩, ⟨(some 12), .bin .mul (.c (.lit (.int .i64 2))) (.t 11), none⟩, ⟨(some 13), .bin .add (.t 12) (.c (.lit (.int .i64 1))), none⟩, ⟨(some 9), .mov (.t 13), none⟩]) (
    .seq (
     .seq (
      .ops [⟨(some 14), .mov (.t 9), none⟩, ⟨(some 15), .mov (.t 2), none⟩, ⟨(some 16), .bin .geq (.t 14) (.t 15), none⟩]) (
     .cond (.t 16) (
      .exit 0) (
      .skip))) (
    .seq (
     .seq (
      .dops 3 [⟨(some 17), .mov (.t 9), none⟩, ⟨(some 18), .bin .add (.t 17) (.c (.lit (.int .i64 1))), none⟩, ⟨(some 19), .mov (.t 2), none⟩, ⟨(some 20), .bin .lss (.t 18) (.t 19), none⟩, ⟨(some 21), .mov (.t 20), none⟩, ⟨(some 22), .mov (.t 0), (some (21, true))⟩, ⟨(some 23), .mov (.t 3), (some (21, true))⟩, ⟨(some 24), .mov (.t 9), (some (21, true))⟩, ⟨(some 25), .bin .add (.t 23) (.t 24), (some (21, true))⟩, ⟨(some 26), .iaddr 1 (.t 22) (.t 25), (some (21, true))⟩, ⟨(some 27), .load none (.t 26), (some (21, true))⟩, ⟨(some 28), .mov (.t 0), (some (21, true))⟩, ⟨(some 29), .mov (.t 3), (some (21, true))⟩, ⟨(some 30), .mov (.t 9), (some (21, true))⟩, ⟨(some 31), .bin .add (.t 29) (.t 30), (some (21, true))⟩, ⟨(some 32), .bin .add (.t 31) (.c (.lit (.int .i64 1))), (some (21, true))⟩, ⟨(some 33), .iaddr 1 (.t 28) (.t 32), (some (21, true))⟩, ⟨(some 34), .load none (.t 33), (some (21, true))⟩, ⟨(some 35), .call (.c (.fn (f_cmp_Less_int N) [] [])) [(.t 27), (.t 34)], (some (21, true))⟩, ⟨(some 36), .pick (.t 21) (.t 35) (.c (.lit (.bool false))), none⟩] [0, 0, 0, 0, 0, 0, 0, 0, 0, 0, 2, 0, 0, 0, 0, 0, 0, 2, 0, 0] []) (
     .cond (.t 36) (
      .ops [⟨(some 37), .mov (.t 9), none⟩, ⟨(some 38), .bin .add (.t 37) (.c (.lit (.int .i64 1))), none⟩, ⟨(some 9), .mov (.t 38), none⟩]) (
      .skip))) (
    .seq (
     .seq (
      .dops 5 [⟨(some 39), .mov (.t 0), none⟩, ⟨(some 40), .mov (.t 3), none⟩, ⟨(some 41), .mov (.t 8), none⟩, ⟨(some 42), .bin .add (.t 40) (.t 41), none⟩, ⟨(some 43), .iaddr 1 (.t 39) (.t 42), none⟩, ⟨(some 44), .load none (.t 43), none⟩, ⟨(some 45), .mov (.t 0), none⟩, ⟨(some 46), .mov (.t 3), none⟩, ⟨(some 47), .mov (.t 9), none⟩, ⟨(some 48), .bin .add (.t 46) (.t 47), none⟩, ⟨(some 49), .iaddr 1 (.t 45) (.t 48), none⟩, ⟨(some 50), .load none (.t 49), none⟩, ⟨(some 51), .call (.c (.fn (f_cmp_Less_int N) [] [])) [(.t 44), (.t 50)], none⟩, ⟨(some 52), .un .not (.t 51), none⟩] [0, 0, 0, 0, 0, 2, 0, 0, 0, 0, 0, 2, 0, 0] []) (
     .cond (.t 52) (
      .ret) (
      .skip))) (
    .seq (
     .dops 6 [⟨(some 53), .mov (.t 0), none⟩, ⟨(some 54), .mov (.t 3), none⟩, ⟨(some 55), .mov (.t 8), none⟩, ⟨(some 56), .bin .add (.t 54) (.t 55), none⟩, ⟨(some 57), .mov (.t 0), none⟩, ⟨(some 58), .mov (.t 3), none⟩, ⟨(some 59), .mov (.t 9), none⟩, ⟨(some 60), .bin .add (.t 58) (.t 59), none⟩, ⟨(some 61), .mov (.t 0), none⟩, ⟨(some 62), .mov (.t 3), none⟩, ⟨(some 63), .mov (.t 9), none⟩, ⟨(some 64), .bin .add (.t 62) (.t 63), none⟩, ⟨(some 65), .iaddr 1 (.t 61) (.t 64), none⟩, ⟨(some 66), .load none (.t 65), none⟩, ⟨(some 67), .mov (.t 0), none⟩, ⟨(some 68), .mov (.t 3), none⟩, ⟨(some 69), .mov (.t 8), none⟩, ⟨(some 70), .bin .add (.t 68) (.t 69), none⟩, ⟨(some 71), .iaddr 1 (.t 67) (.t 70), none⟩, ⟨(some 72), .load none (.t 71), none⟩, ⟨(some 73), .iaddr 1 (.t 53) (.t 56), none⟩, ⟨none, .store 1 (.t 73) (.t 66), none⟩, ⟨(some 74), .iaddr 1 (.t 57) (.t 60), none⟩, ⟨none, .store 1 (.t 74) (.t 72), none⟩] [0, 0, 0, 0, 0, 0, 0, 0, 0, 0, 0, 0, 0, 2, 0, 0, 0, 0, 0, 2, 0, 0, 0, 0] []) (
    .ops [⟨(some 75), .mov (.t 9), none⟩, ⟨(some 8), .mov (.t 75), none⟩]))))))
/-- slices.siftDownOrdered[int] -/
def C_slices_siftDownOrdered_int (N : Nat → Nat) : AFunc := ⟨76, [],
 .seq (
  .ops [⟨(some 10), .mov (.t 1), none⟩, ⟨(some 8), .mov (.t 10), none⟩]) (
 .block 0 (
  .loop (L_slices_siftDownOrdered_int_1 N))), false⟩
end Go.Proofs.Eng
