import Derived.Test.YtfokealcfobnnaaGreatEngAF
/- Names of functions and types: N gives their numbers. Printed by tm.py. -/
namespace Go.Proofs.Eng
def f_main_main (N : Nat → Nat) : Nat := N 0
def f_gosem_cut (N : Nat → Nat) : Nat := N 1
def f_gosem_cut_init (N : Nat → Nat) : Nat := N 2
def f_law01_RunesWhere (N : Nat → Nat) : Nat := N 3
def f_law01_RunesCuts (N : Nat → Nat) : Nat := N 4
def f_law01_RunesReads (N : Nat → Nat) : Nat := N 5
def f_law01_RunesJoin (N : Nat → Nat) : Nat := N 6
def f_law01_RunesEncodes (N : Nat → Nat) : Nat := N 7
def f_law01_lives (N : Nat → Nat) : Nat := N 8
def f_runes_Where (N : Nat → Nat) : Nat := N 9
def f_ref01_Where (N : Nat → Nat) : Nat := N 10
def f_runes_Bad (N : Nat → Nat) : Nat := N 11
def f_runes_All (N : Nat → Nat) : Nat := N 12
def f_ref01_Signs (N : Nat → Nat) : Nat := N 13
def f_runes_Count (N : Nat → Nat) : Nat := N 14
def f_runes_Encode (N : Nat → Nat) : Nat := N 15
def f_ref01_Encode (N : Nat → Nat) : Nat := N 16
def f_runes_Where_1 (N : Nat → Nat) : Nat := N 17
def f_runes_size (N : Nat → Nat) : Nat := N 18
def f_runes_All_1 (N : Nat → Nat) : Nat := N 19
def f_runes_first (N : Nat → Nat) : Nat := N 20
def f_ref01_First (N : Nat → Nat) : Nat := N 21
def f_runes_sign (N : Nat → Nat) : Nat := N 22
def f_ref01_value (N : Nat → Nat) : Nat := N 23
def f_runtime_boundsError_Error (N : Nat → Nat) : Nat := N 24
def f_runtime_boundsError_RuntimeError (N : Nat → Nat) : Nat := N 25
def f_runtime_errorString_Error (N : Nat → Nat) : Nat := N 26
def f_runtime_errorString_RuntimeError (N : Nat → Nat) : Nat := N 27
def f_runtime_plainError_Error (N : Nat → Nat) : Nat := N 28
def f_runtime_plainError_RuntimeError (N : Nat → Nat) : Nat := N 29
def f_runtime_errorAddressString_Error (N : Nat → Nat) : Nat := N 30
def f_runtime_errorAddressString_RuntimeError (N : Nat → Nat) : Nat := N 31
def f_p_runtime_TypeAssertionError_Error (N : Nat → Nat) : Nat := N 32
def f_p_runtime_TypeAssertionError_RuntimeError (N : Nat → Nat) : Nat := N 33
def f_p_runtime_PanicNilError_Error (N : Nat → Nat) : Nat := N 34
def f_p_runtime_PanicNilError_RuntimeError (N : Nat → Nat) : Nat := N 35
def f_p_internal_abi_Type_Align (N : Nat → Nat) : Nat := N 36
def f_internal_runtime_maps_unhashableTypeError_Error (N : Nat → Nat) : Nat := N 37
def f_internal_runtime_maps_unhashableTypeError_RuntimeError (N : Nat → Nat) : Nat := N 38
def f_api_Errno_Error (N : Nat → Nat) : Nat := N 39
def f_internal_abi_Kind_String (N : Nat → Nat) : Nat := N 40
def f_law23_StoreFull (N : Nat → Nat) : Nat := N 41
def f_law03_LexerBlanks (N : Nat → Nat) : Nat := N 42
def f_law03_LexerReads (N : Nat → Nat) : Nat := N 43
def f_law03_LexerLong (N : Nat → Nat) : Nat := N 44
def f_law03_LexerNames (N : Nat → Nat) : Nat := N 45
def f_law03_LexerWrites (N : Nat → Nat) : Nat := N 46
def f_law23_StoreRounds (N : Nat → Nat) : Nat := N 47
def f_law23_StorePlays (N : Nat → Nat) : Nat := N 48
def f_law23_StoreNone (N : Nat → Nat) : Nat := N 49
def f_law23_lives (N : Nat → Nat) : Nat := N 50
def f_store_New (N : Nat → Nat) : Nat := N 51
def f_p_store_Store_Set (N : Nat → Nat) : Nat := N 52
def f_p_store_Store_Delete (N : Nat → Nat) : Nat := N 53
def f_law03_lives (N : Nat → Nat) : Nat := N 54
def f_lexer_Lex (N : Nat → Nat) : Nat := N 55
def f_ref03_Lex (N : Nat → Nat) : Nat := N 56
def f_ref03_Same (N : Nat → Nat) : Nat := N 57
def f_lexer_IsWord (N : Nat → Nat) : Nat := N 58
def f_ref03_IsWord (N : Nat → Nat) : Nat := N 59
def f_lexer_IsName (N : Nat → Nat) : Nat := N 60
def f_law03_write (N : Nat → Nat) : Nat := N 61
def f_law23_do (N : Nat → Nat) : Nat := N 62
def f_p_store_Store_Rename (N : Nat → Nat) : Nat := N 63
def f_law23_is (N : Nat → Nat) : Nat := N 64
def f_p_store_Store_Turn (N : Nat → Nat) : Nat := N 65
def f_p_store_Store_Copy (N : Nat → Nat) : Nat := N 66
def f_p_store_Store_Text (N : Nat → Nat) : Nat := N 67
def f_p_store_Store_All (N : Nat → Nat) : Nat := N 68
def f_p_store_Store_Len (N : Nat → Nat) : Nat := N 69
def f_slices_Clone_sl_byte_byte (N : Nat → Nat) : Nat := N 70
def f_lexer_blank (N : Nat → Nat) : Nat := N 71
def f_lexer_one (N : Nat → Nat) : Nat := N 72
def f_ref03_one (N : Nat → Nat) : Nat := N 73
def f_slices_Contains_sl_string_string (N : Nat → Nat) : Nat := N 74
def f_lexer_words (N : Nat → Nat) : Nat := N 75
def f_lexer_low (N : Nat → Nat) : Nat := N 76
def f_lexer_run (N : Nat → Nat) : Nat := N 77
def f_lexer_inName (N : Nat → Nat) : Nat := N 78
def f_lexer_Quote (N : Nat → Nat) : Nat := N 79
def f_ref04_Name (N : Nat → Nat) : Nat := N 80
def f_p_store_Store_All_1 (N : Nat → Nat) : Nat := N 81
def f_slices_Sorted_string (N : Nat → Nat) : Nat := N 82
def f_maps_Keys_map_string_sl_byte_string_sl_byte (N : Nat → Nat) : Nat := N 83
def f_strings_IndexByte (N : Nat → Nat) : Nat := N 84
def f_strings_HasPrefix (N : Nat → Nat) : Nat := N 85
def f_lexer_blank_1 (N : Nat → Nat) : Nat := N 86
def f_lexer_float (N : Nat → Nat) : Nat := N 87
def f_lexer_high (N : Nat → Nat) : Nat := N 88
def f_lexer_inAlias (N : Nat → Nat) : Nat := N 89
def f_lexer_digit (N : Nat → Nat) : Nat := N 90
def f_lexer_number (N : Nat → Nat) : Nat := N 91
def f_lexer_text (N : Nat → Nat) : Nat := N 92
def f_lexer_signs (N : Nat → Nat) : Nat := N 93
def f_ref03_hex (N : Nat → Nat) : Nat := N 94
def f_ref03_low (N : Nat → Nat) : Nat := N 95
def f_ref03_name (N : Nat → Nat) : Nat := N 96
def f_ref03_high (N : Nat → Nat) : Nat := N 97
def f_ref03_digit (N : Nat → Nat) : Nat := N 98
def f_ref03_number (N : Nat → Nat) : Nat := N 99
def f_ref03_str (N : Nat → Nat) : Nat := N 100
def f_ref03_sign (N : Nat → Nat) : Nat := N 101
def f_slices_Index_sl_string_string (N : Nat → Nat) : Nat := N 102
def f_ref04_Tag (N : Nat → Nat) : Nat := N 103
def f_slices_Collect_string (N : Nat → Nat) : Nat := N 104
def f_slices_Sort_sl_string_string (N : Nat → Nat) : Nat := N 105
def f_maps_Keys_map_string_sl_byte_string_sl_byte_1 (N : Nat → Nat) : Nat := N 106
def f_internal_stringslite_IndexByte (N : Nat → Nat) : Nat := N 107
def f_internal_stringslite_HasPrefix (N : Nat → Nat) : Nat := N 108
def f_floats_Parse (N : Nat → Nat) : Nat := N 109
def f_slices_AppendSeq_sl_string_string (N : Nat → Nat) : Nat := N 110
def f_slices_pdqsortOrdered_string (N : Nat → Nat) : Nat := N 111
def f_math_bits_Len (N : Nat → Nat) : Nat := N 112
def f_internal_bytealg_IndexByteString (N : Nat → Nat) : Nat := N 113
def f_strings_CutPrefix (N : Nat → Nat) : Nat := N 114
def f_floats_Of (N : Nat → Nat) : Nat := N 115
def f_slices_insertionSortOrdered_string (N : Nat → Nat) : Nat := N 116
def f_slices_heapSortOrdered_string (N : Nat → Nat) : Nat := N 117
def f_slices_breakPatternsOrdered_string (N : Nat → Nat) : Nat := N 118
def f_slices_choosePivotOrdered_string (N : Nat → Nat) : Nat := N 119
def f_slices_reverseRangeOrdered_string (N : Nat → Nat) : Nat := N 120
def f_slices_partialInsertionSortOrdered_string (N : Nat → Nat) : Nat := N 121
def f_cmp_Less_string (N : Nat → Nat) : Nat := N 122
def f_slices_partitionEqualOrdered_string (N : Nat → Nat) : Nat := N 123
def f_slices_partitionOrdered_string (N : Nat → Nat) : Nat := N 124
def f_math_bits_Len32 (N : Nat → Nat) : Nat := N 125
def f_math_bits_Len64 (N : Nat → Nat) : Nat := N 126
def f_internal_stringslite_CutPrefix (N : Nat → Nat) : Nat := N 127
def f_math_Float64frombits (N : Nat → Nat) : Nat := N 128
def f_slices_siftDownOrdered_string (N : Nat → Nat) : Nat := N 129
def f_slices_nextPowerOfTwo (N : Nat → Nat) : Nat := N 130
def f_p_slices_xorshift_Next (N : Nat → Nat) : Nat := N 131
def f_slices_medianAdjacentOrdered_string (N : Nat → Nat) : Nat := N 132
def f_slices_medianOrdered_string (N : Nat → Nat) : Nat := N 133
def f_cmp_isNaN_string (N : Nat → Nat) : Nat := N 134
def f_slices_order2Ordered_string (N : Nat → Nat) : Nat := N 135
def f_floats_Float_Kind (N : Nat → Nat) : Nat := N 136
def f_law24_DepsNone (N : Nat → Nat) : Nat := N 137
def f_law24_DepsStores (N : Nat → Nat) : Nat := N 138
def f_law24_lives (N : Nat → Nat) : Nat := N 139
def f_p_deps_Net_On (N : Nat → Nat) : Nat := N 140
def f_p_deps_Net_Put (N : Nat → Nat) : Nat := N 141
def f_p_deps_Net_Names (N : Nat → Nat) : Nat := N 142
def f_p_deps_Net_Missing (N : Nat → Nat) : Nat := N 143
def f_p_deps_Net_Users (N : Nat → Nat) : Nat := N 144
def f_p_deps_Net_Cone (N : Nat → Nat) : Nat := N 145
def f_deps_Of (N : Nat → Nat) : Nat := N 146
def f_ref05_Text (N : Nat → Nat) : Nat := N 147
def f_ref07_Free (N : Nat → Nat) : Nat := N 148
def f_law24_is (N : Nat → Nat) : Nat := N 149
def f_deps_New (N : Nat → Nat) : Nat := N 150
def f_law07_Same (N : Nat → Nat) : Nat := N 151
def f_slices_Clone_sl_string_string (N : Nat → Nat) : Nat := N 152
def f_slices_ContainsFunc_sl_string_string (N : Nat → Nat) : Nat := N 153
def f_p_deps_Net_Put_1 (N : Nat → Nat) : Nat := N 154
def f_slices_Compact_sl_string_string (N : Nat → Nat) : Nat := N 155
def f_maps_Keys_map_string_sl_string_string_sl_string (N : Nat → Nat) : Nat := N 156
def f_maps_Keys_map_string_bool_string_bool (N : Nat → Nat) : Nat := N 157
def f_slices_DeleteFunc_sl_string_string (N : Nat → Nat) : Nat := N 158
def f_p_deps_Net_Users_1 (N : Nat → Nat) : Nat := N 159
def f_parse_Text (N : Nat → Nat) : Nat := N 160
def f_scope_Free (N : Nat → Nat) : Nat := N 161
def f_p_ref05_Parser_take (N : Nat → Nat) : Nat := N 162
def f_p_ref05_Parser_now (N : Nat → Nat) : Nat := N 163
def f_p_ref05_Parser_text (N : Nat → Nat) : Nat := N 164
def f_p_ref05_Parser_must (N : Nat → Nat) : Nat := N 165
def f_p_ref05_Parser_Type (N : Nat → Nat) : Nat := N 166
def f_p_ref05_Parser_Term (N : Nat → Nat) : Nat := N 167
def f_p_ref05_Parser_end (N : Nat → Nat) : Nat := N 168
def f_ref07_without (N : Nat → Nat) : Nat := N 169
def f_ref07_join (N : Nat → Nat) : Nat := N 170
def f_law24_insert (N : Nat → Nat) : Nat := N 171
def f_slices_IndexFunc_sl_string_string (N : Nat → Nat) : Nat := N 172
def f_maps_Keys_map_string_sl_string_string_sl_string_1 (N : Nat → Nat) : Nat := N 173
def f_maps_Keys_map_string_bool_string_bool_1 (N : Nat → Nat) : Nat := N 174
def f_parse_run (N : Nat → Nat) : Nat := N 175
def f_parse_Text_1 (N : Nat → Nat) : Nat := N 176
def f_p_parse_reader_skip (N : Nat → Nat) : Nat := N 177
def f_p_parse_reader_kind (N : Nat → Nat) : Nat := N 178
def f_p_parse_reader_need (N : Nat → Nat) : Nat := N 179
def f_p_tree_Builder_Alias (N : Nat → Nat) : Nat := N 180
def f_p_parse_reader_typ (N : Nat → Nat) : Nat := N 181
def f_p_parse_reader_term (N : Nat → Nat) : Nat := N 182
def f_tree_Check (N : Nat → Nat) : Nat := N 183
def f_scope_ups (N : Nat → Nat) : Nat := N 184
def f_scope_binder (N : Nat → Nat) : Nat := N 185
def f_p_ref05_Parser_see (N : Nat → Nat) : Nat := N 186
def f_p_ref05_Parser_on (N : Nat → Nat) : Nat := N 187
def f_p_ref05_Parser_bad (N : Nat → Nat) : Nat := N 188
def f_p_ref05_Parser_stop (N : Nat → Nat) : Nat := N 189
def f_p_ref05_Parser_simple (N : Nat → Nat) : Nat := N 190
def f_p_ref05_Parser_typ (N : Nat → Nat) : Nat := N 191
def f_p_ref05_Parser_inner (N : Nat → Nat) : Nat := N 192
def f_ref07_insert (N : Nat → Nat) : Nat := N 193
def f_parse_run_1 (N : Nat → Nat) : Nat := N 194
def f_tree_New (N : Nat → Nat) : Nat := N 195
def f_p_tree_Builder_Tree (N : Nat → Nat) : Nat := N 196
def f_p_parse_reader_is (N : Nat → Nat) : Nat := N 197
def f_p_parse_reader_next (N : Nat → Nat) : Nat := N 198
def f_p_parse_reader_now (N : Nat → Nat) : Nat := N 199
def f_parse_wrong (N : Nat → Nat) : Nat := N 200
def f_p_parse_reader_enter (N : Nat → Nat) : Nat := N 201
def f_p_parse_reader_leave (N : Nat → Nat) : Nat := N 202
def f_p_parse_reader_simple (N : Nat → Nat) : Nat := N 203
def f_p_parse_reader_putType (N : Nat → Nat) : Nat := N 204
def f_p_parse_reader_put (N : Nat → Nat) : Nat := N 205
def f_p_parse_reader_arms (N : Nat → Nat) : Nat := N 206
def f_p_parse_reader_compare (N : Nat → Nat) : Nat := N 207
def f_tree_term (N : Nat → Nat) : Nat := N 208
def f_tree_uses_note (N : Nat → Nat) : Nat := N 209
def f_tree_typ (N : Nat → Nat) : Nat := N 210
def f_tree_alias (N : Nat → Nat) : Nat := N 211
def f_tree_Check_1 (N : Nat → Nat) : Nat := N 212
def f_slices_ContainsFunc_tree_uses_int (N : Nat → Nat) : Nat := N 213
def f_scope_binds (N : Nat → Nat) : Nat := N 214
def f_p_ref05_Parser_fresh (N : Nat → Nat) : Nat := N 215
def f_p_ref05_Parser_term (N : Nat → Nat) : Nat := N 216
def f_p_ref05_Parser_level (N : Nat → Nat) : Nat := N 217
def f_tree_Clone (N : Nat → Nat) : Nat := N 218
def f_parse_basic (N : Nat → Nat) : Nat := N 219
def f_p_parse_reader_fields (N : Nat → Nat) : Nat := N 220
def f_p_parse_reader_simple_1 (N : Nat → Nat) : Nat := N 221
def f_p_parse_reader_items (N : Nat → Nat) : Nat := N 222
def f_p_tree_Builder_Type (N : Nat → Nat) : Nat := N 223
def f_p_tree_Builder_Term (N : Nat → Nat) : Nat := N 224
def f_parse_once (N : Nat → Nat) : Nat := N 225
def f_p_parse_reader_join (N : Nat → Nat) : Nat := N 226
def f_tree_shapes (N : Nat → Nat) : Nat := N 227
def f_tree_named (N : Nat → Nat) : Nat := N 228
def f_tree_text (N : Nat → Nat) : Nat := N 229
def f_tree_once (N : Nat → Nat) : Nat := N 230
def f_tree_all (N : Nat → Nat) : Nat := N 231
def f_tree_tag (N : Nat → Nat) : Nat := N 232
def f_slices_IndexFunc_tree_uses_int (N : Nat → Nat) : Nat := N 233
def f_p_ref05_Parser_apply (N : Nat → Nat) : Nat := N 234
def f_p_ref05_Parser_signs (N : Nat → Nat) : Nat := N 235
def f_slices_Clone_sl_api_Alias_api_Alias (N : Nat → Nat) : Nat := N 236
def f_tree_cloneTerm (N : Nat → Nat) : Nat := N 237
def f_tree_cloneType (N : Nat → Nat) : Nat := N 238
def f_p_parse_reader_row (N : Nat → Nat) : Nat := N 239
def f_p_parse_reader_sum (N : Nat → Nat) : Nat := N 240
def f_tree_halves (N : Nat → Nat) : Nat := N 241
def f_tree_ops (N : Nat → Nat) : Nat := N 242
def f_slices_ContainsFunc_sl_byte_byte (N : Nat → Nat) : Nat := N 243
def f_tree_text_1 (N : Nat → Nat) : Nat := N 244
def f_tree_all_1 (N : Nat → Nat) : Nat := N 245
def f_p_ref05_Parser_unit (N : Nat → Nat) : Nat := N 246
def f_slices_Clone_sl_int_int (N : Nat → Nat) : Nat := N 247
def f_p_parse_reader_product (N : Nat → Nat) : Nat := N 248
def f_slices_IndexFunc_sl_byte_byte (N : Nat → Nat) : Nat := N 249
def f_p_ref05_Parser_post (N : Nat → Nat) : Nat := N 250
def f_p_parse_reader_apply (N : Nat → Nat) : Nat := N 251
def f_p_ref05_Parser_atom (N : Nat → Nat) : Nat := N 252
def f_p_parse_reader_unit (N : Nat → Nat) : Nat := N 253
def f_p_parse_reader_begins (N : Nat → Nat) : Nat := N 254
def f_ref05_number (N : Nat → Nat) : Nat := N 255
def f_ref05_bits (N : Nat → Nat) : Nat := N 256
def f_p_parse_reader_post (N : Nat → Nat) : Nat := N 257
def f_p_parse_reader_atom (N : Nat → Nat) : Nat := N 258
def f_strconv_ParseInt (N : Nat → Nat) : Nat := N 259
def f_p_parse_reader_round (N : Nat → Nat) : Nat := N 260
def f_p_parse_reader_atom_1 (N : Nat → Nat) : Nat := N 261
def f_internal_strconv_ParseInt (N : Nat → Nat) : Nat := N 262
def f_strconv_toError (N : Nat → Nat) : Nat := N 263
def f_internal_strconv_ParseUint (N : Nat → Nat) : Nat := N 264
def f_strconv_syntaxError (N : Nat → Nat) : Nat := N 265
def f_strconv_rangeError (N : Nat → Nat) : Nat := N 266
def f_strconv_baseError (N : Nat → Nat) : Nat := N 267
def f_strconv_bitSizeError (N : Nat → Nat) : Nat := N 268
def f_internal_strconv_lower (N : Nat → Nat) : Nat := N 269
def f_internal_strconv_underscoreOK (N : Nat → Nat) : Nat := N 270
def f_internal_stringslite_Clone (N : Nat → Nat) : Nat := N 271
def f_errors_New (N : Nat → Nat) : Nat := N 272
def f_strconv_Itoa (N : Nat → Nat) : Nat := N 273
def f_internal_strconv_Itoa (N : Nat → Nat) : Nat := N 274
def f_internal_strconv_FormatInt (N : Nat → Nat) : Nat := N 275
def f_internal_strconv_small (N : Nat → Nat) : Nat := N 276
def f_internal_strconv_numDigits (N : Nat → Nat) : Nat := N 277
def f_internal_strconv_formatBase10 (N : Nat → Nat) : Nat := N 278
def f_internal_strconv_formatBits (N : Nat → Nat) : Nat := N 279
def f_internal_strconv_log10Pow2 (N : Nat → Nat) : Nat := N 280
def f_internal_strconv_bool2_int (N : Nat → Nat) : Nat := N 281
def f_internal_strconv_isPowerOfTwo (N : Nat → Nat) : Nat := N 282
def f_math_bits_TrailingZeros (N : Nat → Nat) : Nat := N 283
def f_math_bits_TrailingZeros32 (N : Nat → Nat) : Nat := N 284
def f_math_bits_TrailingZeros64 (N : Nat → Nat) : Nat := N 285
def f_internal_strconv_Error_Error (N : Nat → Nat) : Nat := N 286
def f_p_strconv_NumError_Error (N : Nat → Nat) : Nat := N 287
def f_p_errors_errorString_Error (N : Nat → Nat) : Nat := N 288
def f_var_s_door_gosem_cut_vars_holds_initialisers_alone_see_the_manifest_s_row_cutvarsword_look_11_test_files_too (N : Nat → Nat) : Nat := N 289
def f_var_s_door_internal_strconv_uint64pow10_is_laid_by_its_own_initialiser_plain_data_look_11 (N : Nat → Nat) : Nat := N 290
def f_var_s_door_math_bits_deBruijn32tab_is_laid_by_its_own_initialiser_plain_data_look_11 (N : Nat → Nat) : Nat := N 291
def f_var_s_door_math_bits_deBruijn64tab_is_laid_by_its_own_initialiser_plain_data_look_11 (N : Nat → Nat) : Nat := N 292
def f_var_s_door_strconv_ErrRange_is_laid_by_its_own_call_of_errors_New_on_one_literal_look_11 (N : Nat → Nat) : Nat := N 293
def f_var_s_door_strconv_ErrSyntax_is_laid_by_its_own_call_of_errors_New_on_one_literal_look_11 (N : Nat → Nat) : Nat := N 294
def f_var_s_door_the_look_of_gosem_cut_vars_went_over_the_folder_that_the_caller_named_as_the_repository_s_root_look_11 (N : Nat → Nat) : Nat := N 295
def f_gosem_cut_vars (N : Nat → Nat) : Nat := N 296
def f_law13_SolveAgain (N : Nat → Nat) : Nat := N 297
def f_law13_SolveOrder (N : Nat → Nat) : Nat := N 298
def f_law13_SolveLevels (N : Nat → Nat) : Nat := N 299
def f_law13_SolveRaises (N : Nat → Nat) : Nat := N 300
def f_law13_SolveTells (N : Nat → Nat) : Nat := N 301
def f_law14_LiftApart (N : Nat → Nat) : Nat := N 302
def f_law14_LiftRefuses (N : Nat → Nat) : Nat := N 303
def f_law14_LiftCounts (N : Nat → Nat) : Nat := N 304
def f_law14_LiftReach (N : Nat → Nat) : Nat := N 305
def f_law13_lives (N : Nat → Nat) : Nat := N 306
def f_law13_Made (N : Nat → Nat) : Nat := N 307
def f_solve_New (N : Nat → Nat) : Nat := N 308
def f_law13_claims (N : Nat → Nat) : Nat := N 309
def f_p_solve_Solver_Claim (N : Nat → Nat) : Nat := N 310
def f_p_arena_Arena_IsVar (N : Nat → Nat) : Nat := N 311
def f_p_arena_Arena_Len (N : Nat → Nat) : Nat := N 312
def f_p_arena_Arena_Low (N : Nat → Nat) : Nat := N 313
def f_p_arena_Arena_Level (N : Nat → Nat) : Nat := N 314
def f_p_arena_Arena_High (N : Nat → Nat) : Nat := N 315
def f_solve_Raise (N : Nat → Nat) : Nat := N 316
def f_ref13_Holds (N : Nat → Nat) : Nat := N 317
def f_p_solve_Solver_Clash (N : Nat → Nat) : Nat := N 318
def f_p_solve_Solver_Claims (N : Nat → Nat) : Nat := N 319
def f_law14_lives (N : Nat → Nat) : Nat := N 320
def f_law14_bounded (N : Nat → Nat) : Nat := N 321
def f_lift_Fresh (N : Nat → Nat) : Nat := N 322
def f_p_arena_Arena_Head (N : Nat → Nat) : Nat := N 323
def f_arena_New (N : Nat → Nat) : Nat := N 324
def f_p_arena_Arena_Var (N : Nat → Nat) : Nat := N 325
def f_lift_Reach (N : Nat → Nat) : Nat := N 326
def f_lift_Free (N : Nat → Nat) : Nat := N 327
def f_p_arena_Arena_At (N : Nat → Nat) : Nat := N 328
def f_law08_Few (N : Nat → Nat) : Nat := N 329
def f_ref08_Right (N : Nat → Nat) : Nat := N 330
def f_p_solve_Solver_ask (N : Nat → Nat) : Nat := N 331
def f_p_solve_Solver_step (N : Nat → Nat) : Nat := N 332
def f_p_arena_Arena_there (N : Nat → Nat) : Nat := N 333
def f_p_solve_raiser_part (N : Nat → Nat) : Nat := N 334
def f_ref13_asks (N : Nat → Nat) : Nat := N 335
def f_p_lift_maker_part (N : Nat → Nat) : Nat := N 336
def f_p_arena_Arena_right (N : Nat → Nat) : Nat := N 337
def f_p_arena_Arena_room (N : Nat → Nat) : Nat := N 338
def f_arena_clone (N : Nat → Nat) : Nat := N 339
def f_slices_Sort_sl_int_int (N : Nat → Nat) : Nat := N 340
def f_p_solve_Solver_bind (N : Nat → Nat) : Nat := N 341
def f_p_solve_Solver_heads (N : Nat → Nat) : Nat := N 342
def f_p_solve_raiser_variable (N : Nat → Nat) : Nat := N 343
def f_ref13_find (N : Nat → Nat) : Nat := N 344
def f_p_lift_maker_variable (N : Nat → Nat) : Nat := N 345
def f_p_lift_maker_row (N : Nat → Nat) : Nat := N 346
def f_graph_Check (N : Nat → Nat) : Nat := N 347
def f_slices_pdqsortOrdered_int (N : Nat → Nat) : Nat := N 348
def f_p_arena_Arena_Bound (N : Nat → Nat) : Nat := N 349
def f_p_solve_Solver_variants (N : Nat → Nat) : Nat := N 350
def f_solve_kid (N : Nat → Nat) : Nat := N 351
def f_solve_way (N : Nat → Nat) : Nat := N 352
def f_graph_head (N : Nat → Nat) : Nat := N 353
def f_slices_insertionSortOrdered_int (N : Nat → Nat) : Nat := N 354
def f_slices_heapSortOrdered_int (N : Nat → Nat) : Nat := N 355
def f_slices_breakPatternsOrdered_int (N : Nat → Nat) : Nat := N 356
def f_slices_choosePivotOrdered_int (N : Nat → Nat) : Nat := N 357
def f_slices_reverseRangeOrdered_int (N : Nat → Nat) : Nat := N 358
def f_slices_partialInsertionSortOrdered_int (N : Nat → Nat) : Nat := N 359
def f_cmp_Less_int (N : Nat → Nat) : Nat := N 360
def f_slices_partitionEqualOrdered_int (N : Nat → Nat) : Nat := N 361
def f_slices_partitionOrdered_int (N : Nat → Nat) : Nat := N 362
def f_p_solve_Solver_any (N : Nat → Nat) : Nat := N 363
def f_slices_BinarySearch_sl_string_string (N : Nat → Nat) : Nat := N 364
def f_graph_rising (N : Nat → Nat) : Nat := N 365
def f_graph_typed (N : Nat → Nat) : Nat := N 366
def f_slices_siftDownOrdered_int (N : Nat → Nat) : Nat := N 367
def f_slices_medianAdjacentOrdered_int (N : Nat → Nat) : Nat := N 368
def f_slices_medianOrdered_int (N : Nat → Nat) : Nat := N 369
def f_cmp_isNaN_int (N : Nat → Nat) : Nat := N 370
def f_slices_isNaN_string (N : Nat → Nat) : Nat := N 371
def f_slices_order2Ordered_int (N : Nat → Nat) : Nat := N 372
def f_law04_TreeChecks (N : Nat → Nat) : Nat := N 373
def f_law04_lives (N : Nat → Nat) : Nat := N 374
def f_law04_Few (N : Nat → Nat) : Nat := N 375
def f_ref04_Right (N : Nat → Nat) : Nat := N 376
def f_tree_Depth (N : Nat → Nat) : Nat := N 377
def f_law04_all (N : Nat → Nat) : Nat := N 378
def f_tree_Walk (N : Nat → Nat) : Nat := N 379
def f_tree_Same (N : Nat → Nat) : Nat := N 380
def f_ref04_Walk (N : Nat → Nat) : Nat := N 381
def f_ref04_Depth (N : Nat → Nat) : Nat := N 382
def f_law04_same (N : Nat → Nat) : Nat := N 383
def f_ref04_term (N : Nat → Nat) : Nat := N 384
def f_ref04_below (N : Nat → Nat) : Nat := N 385
def f_ref04_typ (N : Nat → Nat) : Nat := N 386
def f_ref04_Alias (N : Nat → Nat) : Nat := N 387
def f_ref04_uses (N : Nat → Nat) : Nat := N 388
def f_tree_Walk_1 (N : Nat → Nat) : Nat := N 389
def f_slices_Backward_sl_int_int (N : Nat → Nat) : Nat := N 390
def f_tree_two_types (N : Nat → Nat) : Nat := N 391
def f_tree_two_terms (N : Nat → Nat) : Nat := N 392
def f_ref04_depthTerm (N : Nat → Nat) : Nat := N 393
def f_ref04_depthType (N : Nat → Nat) : Nat := N 394
def f_ref04_text (N : Nat → Nat) : Nat := N 395
def f_ref02_Parts (N : Nat → Nat) : Nat := N 396
def f_ref04_op (N : Nat → Nat) : Nat := N 397
def f_ref04_names (N : Nat → Nat) : Nat := N 398
def f_ref04_once (N : Nat → Nat) : Nat := N 399
def f_slices_Backward_sl_int_int_1 (N : Nat → Nat) : Nat := N 400
def f_slices_Equal_sl_string_string (N : Nat → Nat) : Nat := N 401
def f_law06_PrintBack (N : Nat → Nat) : Nat := N 402
def f_law06_PrintParsed (N : Nat → Nat) : Nat := N 403
def f_law06_PrintFewest (N : Nat → Nat) : Nat := N 404
def f_law06_PrintTerms (N : Nat → Nat) : Nat := N 405
def f_law06_PrintAlone (N : Nat → Nat) : Nat := N 406
def f_law06_PrintTexts (N : Nat → Nat) : Nat := N 407
def f_law07_ScopeChecks (N : Nat → Nat) : Nat := N 408
def f_law07_ScopeFree (N : Nat → Nat) : Nat := N 409
def f_law07_ScopeThrough (N : Nat → Nat) : Nat := N 410
def f_law07_ScopeBinds (N : Nat → Nat) : Nat := N 411
def f_law06_lives (N : Nat → Nat) : Nat := N 412
def f_print_Text (N : Nat → Nat) : Nat := N 413
def f_ref04_Same (N : Nat → Nat) : Nat := N 414
def f_print_Term (N : Nat → Nat) : Nat := N 415
def f_ref04_SameTerm (N : Nat → Nat) : Nat := N 416
def f_parse_Type (N : Nat → Nat) : Nat := N 417
def f_print_Type (N : Nat → Nat) : Nat := N 418
def f_ref04_SameType (N : Nat → Nat) : Nat := N 419
def f_ref06_Text (N : Nat → Nat) : Nat := N 420
def f_ref06_Term (N : Nat → Nat) : Nat := N 421
def f_ref06_Type (N : Nat → Nat) : Nat := N 422
def f_law07_lives (N : Nat → Nat) : Nat := N 423
def f_scope_Check (N : Nat → Nat) : Nat := N 424
def f_ref07_Check (N : Nat → Nat) : Nat := N 425
def f_scope_Through (N : Nat → Nat) : Nat := N 426
def f_scope_Binder (N : Nat → Nat) : Nat := N 427
def f_ref07_Binder (N : Nat → Nat) : Nat := N 428
def f_ref07_Through (N : Nat → Nat) : Nat := N 429
def f_p_print_writer_put (N : Nat → Nat) : Nat := N 430
def f_p_print_writer_typ (N : Nat → Nat) : Nat := N 431
def f_p_print_writer_term (N : Nat → Nat) : Nat := N 432
def f_ref04_same (N : Nat → Nat) : Nat := N 433
def f_parse_Type_1 (N : Nat → Nat) : Nat := N 434
def f_print_alone (N : Nat → Nat) : Nat := N 435
def f_ref06_plain (N : Nat → Nat) : Nat := N 436
def f_ref06_rule (N : Nat → Nat) : Nat := N 437
def f_scope_named (N : Nat → Nat) : Nat := N 438
def f_scope_loops (N : Nat → Nat) : Nat := N 439
def f_slices_MinFunc_sl_api_Diag_api_Diag (N : Nat → Nat) : Nat := N 440
def f_scope_Check_1 (N : Nat → Nat) : Nat := N 441
def f_cmp_Or_int (N : Nat → Nat) : Nat := N 442
def f_cmp_Compare_int (N : Nat → Nat) : Nat := N 443
def f_cmp_Compare_api_Errno (N : Nat → Nat) : Nat := N 444
def f_cmp_Compare_string (N : Nat → Nat) : Nat := N 445
def f_ref07_Named (N : Nat → Nat) : Nat := N 446
def f_ref07_row (N : Nat → Nat) : Nat := N 447
def f_scope_through (N : Nat → Nat) : Nat := N 448
def f_ref07_in (N : Nat → Nat) : Nat := N 449
def f_print_level (N : Nat → Nat) : Nat := N 450
def f_strconv_AppendInt (N : Nat → Nat) : Nat := N 451
def f_strconv_FormatBool (N : Nat → Nat) : Nat := N 452
def f_floats_Float_Text (N : Nat → Nat) : Nat := N 453
def f_p_print_writer_arms (N : Nat → Nat) : Nat := N 454
def f_p_print_writer_fields (N : Nat → Nat) : Nat := N 455
def f_print_of (N : Nat → Nat) : Nat := N 456
def f_ref06_digits (N : Nat → Nat) : Nat := N 457
def f_ref06_quote (N : Nat → Nat) : Nat := N 458
def f_ref02_Text (N : Nat → Nat) : Nat := N 459
def f_slices_IndexFunc_sl_api_Alias_api_Alias (N : Nat → Nat) : Nat := N 460
def f_scope_named_1 (N : Nat → Nat) : Nat := N 461
def f_cmp_isNaN_api_Errno (N : Nat → Nat) : Nat := N 462
def f_internal_strconv_AppendInt (N : Nat → Nat) : Nat := N 463
def f_internal_strconv_FormatBool (N : Nat → Nat) : Nat := N 464
def f_internal_strconv_AppendUint (N : Nat → Nat) : Nat := N 465
def f_law15_PolarChecks (N : Nat → Nat) : Nat := N 466
def f_law15_PolarClosed (N : Nat → Nat) : Nat := N 467
def f_law15_PolarOf (N : Nat → Nat) : Nat := N 468
def f_law16_RefineNormal (N : Nat → Nat) : Nat := N 469
def f_law15_PolarMost (N : Nat → Nat) : Nat := N 470
def f_law16_RefineSame (N : Nat → Nat) : Nat := N 471
def f_law16_RefineNames (N : Nat → Nat) : Nat := N 472
def f_law16_RefineTwice (N : Nat → Nat) : Nat := N 473
def f_law15_lives (N : Nat → Nat) : Nat := N 474
def f_law15_Few (N : Nat → Nat) : Nat := N 475
def f_law15_Right (N : Nat → Nat) : Nat := N 476
def f_polar_Reach (N : Nat → Nat) : Nat := N 477
def f_polar_Check (N : Nat → Nat) : Nat := N 478
def f_law15_SameInts (N : Nat → Nat) : Nat := N 479
def f_polar_Closed (N : Nat → Nat) : Nat := N 480
def f_graph_Normal (N : Nat → Nat) : Nat := N 481
def f_law15_Bounded (N : Nat → Nat) : Nat := N 482
def f_polar_Of (N : Nat → Nat) : Nat := N 483
def f_ref15_Of (N : Nat → Nat) : Nat := N 484
def f_law15_parts (N : Nat → Nat) : Nat := N 485
def f_law15_SameHeads (N : Nat → Nat) : Nat := N 486
def f_law16_lives (N : Nat → Nat) : Nat := N 487
def f_refine_Normal (N : Nat → Nat) : Nat := N 488
def f_refine_Alike (N : Nat → Nat) : Nat := N 489
def f_refine_Idle (N : Nat → Nat) : Nat := N 490
def f_law16_States (N : Nat → Nat) : Nat := N 491
def f_ref16_Vars (N : Nat → Nat) : Nat := N 492
def f_ref16_Idle (N : Nat → Nat) : Nat := N 493
def f_ref16_Alike (N : Nat → Nat) : Nat := N 494
def f_ref16_Clean (N : Nat → Nat) : Nat := N 495
def f_law16_Is (N : Nat → Nat) : Nat := N 496
def f_ref16_Normal (N : Nat → Nat) : Nat := N 497
def f_refine_Same (N : Nat → Nat) : Nat := N 498
def f_law16_RefineNames_1 (N : Nat → Nat) : Nat := N 499
def f_polar_Auto_state (N : Nat → Nat) : Nat := N 500
def f_p_arena_Arena_Graph (N : Nat → Nat) : Nat := N 501
def f_graph_normal (N : Nat → Nat) : Nat := N 502
def f_p_polar_maker_number (N : Nat → Nat) : Nat := N 503
def f_p_polar_maker_state (N : Nat → Nat) : Nat := N 504
def f_p_ref15_maker_number (N : Nat → Nat) : Nat := N 505
def f_p_ref15_maker_merged (N : Nat → Nat) : Nat := N 506
def f_ref08_Equal (N : Nat → Nat) : Nat := N 507
def f_refine_idle (N : Nat → Nat) : Nat := N 508
def f_refine_classes (N : Nat → Nat) : Nat := N 509
def f_slices_SortFunc_sl_sl_int_sl_int (N : Nat → Nat) : Nat := N 510
def f_slices_Compare_sl_int_int (N : Nat → Nat) : Nat := N 511
def f_slices_CompactFunc_sl_sl_int_sl_int (N : Nat → Nat) : Nat := N 512
def f_slices_Equal_sl_int_int (N : Nat → Nat) : Nat := N 513
def f_ref16_Reach (N : Nat → Nat) : Nat := N 514
def f_ref16_has (N : Nat → Nat) : Nat := N 515
def f_ref16_plain (N : Nat → Nat) : Nat := N 516
def f_ref16_less (N : Nat → Nat) : Nat := N 517
def f_refine_same (N : Nat → Nat) : Nat := N 518
def f_polar_Auto_head (N : Nat → Nat) : Nat := N 519
def f_polar_rising_int (N : Nat → Nat) : Nat := N 520
def f_graph_classes (N : Nat → Nat) : Nat := N 521
def f_p_polar_maker_closed (N : Nat → Nat) : Nat := N 522
def f_polar_row_key (N : Nat → Nat) : Nat := N 523
def f_p_polar_maker_merged (N : Nat → Nat) : Nat := N 524
def f_ref15_Closed (N : Nat → Nat) : Nat := N 525
def f_ref15_same (N : Nat → Nat) : Nat := N 526
def f_ref15_insert (N : Nat → Nat) : Nat := N 527
def f_ref15_count (N : Nat → Nat) : Nat := N 528
def f_ref15_find (N : Nat → Nat) : Nat := N 529
def f_ref08_plain (N : Nat → Nat) : Nat := N 530
def f_refine_sign (N : Nat → Nat) : Nat := N 531
def f_slices_pdqsortCmpFunc_sl_int (N : Nat → Nat) : Nat := N 532
def f_slices_EqualFunc_sl_polar_State_sl_polar_State_polar_State_polar_State (N : Nat → Nat) : Nat := N 533
def f_refine_same_1 (N : Nat → Nat) : Nat := N 534
def f_slices_EqualFunc_sl_api_Head_sl_api_Head_api_Head_api_Head (N : Nat → Nat) : Nat := N 535
def f_refine_same_1_1 (N : Nat → Nat) : Nat := N 536
def f_graph_sign (N : Nat → Nat) : Nat := N 537
def f_polar_names (N : Nat → Nat) : Nat := N 538
def f_polar_kid (N : Nat → Nat) : Nat := N 539
def f_slices_insertionSortCmpFunc_sl_int (N : Nat → Nat) : Nat := N 540
def f_slices_heapSortCmpFunc_sl_int (N : Nat → Nat) : Nat := N 541
def f_slices_breakPatternsCmpFunc_sl_int (N : Nat → Nat) : Nat := N 542
def f_slices_choosePivotCmpFunc_sl_int (N : Nat → Nat) : Nat := N 543
def f_slices_reverseRangeCmpFunc_sl_int (N : Nat → Nat) : Nat := N 544
def f_slices_partialInsertionSortCmpFunc_sl_int (N : Nat → Nat) : Nat := N 545
def f_slices_partitionEqualCmpFunc_sl_int (N : Nat → Nat) : Nat := N 546
def f_slices_partitionCmpFunc_sl_int (N : Nat → Nat) : Nat := N 547
def f_polar_all (N : Nat → Nat) : Nat := N 548
def f_polar_some (N : Nat → Nat) : Nat := N 549
def f_polar_names_1 (N : Nat → Nat) : Nat := N 550
def f_polar_names_2 (N : Nat → Nat) : Nat := N 551
def f_slices_DeleteFunc_sl_api_Head_api_Head (N : Nat → Nat) : Nat := N 552
def f_slices_Clone_sl_api_Head_api_Head (N : Nat → Nat) : Nat := N 553
def f_slices_siftDownCmpFunc_sl_int (N : Nat → Nat) : Nat := N 554
def f_slices_medianAdjacentCmpFunc_sl_int (N : Nat → Nat) : Nat := N 555
def f_slices_medianCmpFunc_sl_int (N : Nat → Nat) : Nat := N 556
def f_polar_all_1 (N : Nat → Nat) : Nat := N 557
def f_slices_ContainsFunc_sl_api_Head_api_Head (N : Nat → Nat) : Nat := N 558
def f_polar_all_1_1 (N : Nat → Nat) : Nat := N 559
def f_slices_IndexFunc_sl_api_Head_api_Head (N : Nat → Nat) : Nat := N 560
def f_slices_order2CmpFunc_sl_int (N : Nat → Nat) : Nat := N 561
def f_law13_SolveNone (N : Nat → Nat) : Nat := N 562
def t_int (N : Nat → Nat) : Nat := N 100000
def t_bool (N : Nat → Nat) : Nat := N 100001
def t_uint8 (N : Nat → Nat) : Nat := N 100002
def t_int32 (N : Nat → Nat) : Nat := N 100003
def t_sl_uint8 (N : Nat → Nat) : Nat := N 100004
def t_sl_int (N : Nat → Nat) : Nat := N 100005
def t_func_int32 (N : Nat → Nat) : Nat := N 100006
def t_string (N : Nat → Nat) : Nat := N 100007
def t_p_store_Store (N : Nat → Nat) : Nat := N 100008
def t_api_Diag (N : Nat → Nat) : Nat := N 100009
def t_api_Token (N : Nat → Nat) : Nat := N 100010
def t_map_string_string (N : Nat → Nat) : Nat := N 100011
def t_law23_Act (N : Nat → Nat) : Nat := N 100012
def t_map_string_sl_uint8 (N : Nat → Nat) : Nat := N 100013
def t_store_Store (N : Nat → Nat) : Nat := N 100014
def t_sl_string (N : Nat → Nat) : Nat := N 100015
def t_slices_xorshift (N : Nat → Nat) : Nat := N 100016
def t_p_deps_Net (N : Nat → Nat) : Nat := N 100017
def t_func_string_bool (N : Nat → Nat) : Nat := N 100018
def t_map_string_sl_string (N : Nat → Nat) : Nat := N 100019
def t_api_Tree (N : Nat → Nat) : Nat := N 100020
def t_deps_Net (N : Nat → Nat) : Nat := N 100021
def t_map_string_bool (N : Nat → Nat) : Nat := N 100022
def t_ref05_Parser (N : Nat → Nat) : Nat := N 100023
def t_api_Alias (N : Nat → Nat) : Nat := N 100024
def t_api_Node (N : Nat → Nat) : Nat := N 100025
def t_p_parse_reader (N : Nat → Nat) : Nat := N 100026
def t_parse_reader (N : Nat → Nat) : Nat := N 100027
def t_api_TypeNode (N : Nat → Nat) : Nat := N 100028
def t_tree_Builder (N : Nat → Nat) : Nat := N 100029
def t_scope_up (N : Nat → Nat) : Nat := N 100030
def t_tree_shape (N : Nat → Nat) : Nat := N 100031
def t_strconv_NumError (N : Nat → Nat) : Nat := N 100032
def t_errors_errorString (N : Nat → Nat) : Nat := N 100033
def t_24_uint8 (N : Nat → Nat) : Nat := N 100034
def t_65_uint8 (N : Nat → Nat) : Nat := N 100035
def t_2_int (N : Nat → Nat) : Nat := N 100036
def t_api_Head (N : Nat → Nat) : Nat := N 100037
def t_law13_Part (N : Nat → Nat) : Nat := N 100038
def t_ref13_Part (N : Nat → Nat) : Nat := N 100039
def t_api_Graph (N : Nat → Nat) : Nat := N 100040
def t_solve_claim (N : Nat → Nat) : Nat := N 100041
def t_solve_Solver (N : Nat → Nat) : Nat := N 100042
def t_arena_part (N : Nat → Nat) : Nat := N 100043
def t_arena_Arena (N : Nat → Nat) : Nat := N 100044
def t_solve_raiser (N : Nat → Nat) : Nat := N 100045
def t_lift_maker (N : Nat → Nat) : Nat := N 100046
def t_tree_two (N : Nat → Nat) : Nat := N 100047
def t_print_writer (N : Nat → Nat) : Nat := N 100048
def t_polar_Auto (N : Nat → Nat) : Nat := N 100049
def t_sl_bool (N : Nat → Nat) : Nat := N 100050
def t_sl_api_Head (N : Nat → Nat) : Nat := N 100051
def t_polar_State (N : Nat → Nat) : Nat := N 100052
def t_law15_pair (N : Nat → Nat) : Nat := N 100053
def t_ref15_State (N : Nat → Nat) : Nat := N 100054
def t_polar_maker (N : Nat → Nat) : Nat := N 100055
def t_polar_row (N : Nat → Nat) : Nat := N 100056
def t_ref15_maker (N : Nat → Nat) : Nat := N 100057
def t_ref15_Part (N : Nat → Nat) : Nat := N 100058
def t_ref16_State (N : Nat → Nat) : Nat := N 100059
def t_refine_signs (N : Nat → Nat) : Nat := N 100060
end Go.Proofs.Eng
/- Templates of functions, as the engine takes them; numbers of functions and types by names. Printed by tm.py. -/
set_option linter.unusedVariables false
set_option maxRecDepth 100000
namespace Go.Proofs.Eng
open Go

/-- (*azimuth/store.Store).All -/
def C_p_store_Store_All (N : Nat → Nat) : AFunc := ⟨4, [.inl 2],
 .seq (
  .ops [⟨(some 1), .box (t_p_store_Store N) (.t 0), none⟩, ⟨(some 2), .mov (.c (.lit .nilFunc)), none⟩]) (
 .seq (
  .ops [⟨(some 3), .mkfn (f_p_store_Store_All_1 N) [] [(.t 1)], none⟩, ⟨(some 2), .mov (.t 3), none⟩]) (
 .ret)), false⟩

def L_p_store_Store_All_1_1 (N : Nat → Nat) : AC :=
   .seq (
    .ops [⟨(some 15), .bin .lss (.t 14) (.t 13), none⟩]) (
   .seq (
    .cond (.t 15) (
     .skip) (
     .exit 0)) (
   .seq (
    .block 1 (
     .seq (
      .ops [⟨(some 16), .iaddr 1 (.t 12) (.t 14), none⟩, ⟨(some 17), .load none (.t 16), none⟩, ⟨(some 4), .mov (.t 17), none⟩]) (
     .seq (
      .ops [⟨(some 18), .mov (.t 0), none⟩, ⟨(some 19), .mov (.t 4), none⟩, ⟨(some 20), .load none (.t 1), none⟩, ⟨(some 21), .nilchk (.t 20), none⟩, ⟨(some 22), .faddr 0 (.t 21), none⟩, ⟨(some 23), .load none (.t 22), none⟩, ⟨(some 24), .mov (.t 4), none⟩, ⟨(some 25), .lookup .string (.lit (.slice none 0 0)) (.t 23) (.t 24) false, none⟩, ⟨(some 26), .call (.c (.fn (f_slices_Clone_sl_byte_byte N) [] [])) [(.t 25)], none⟩, ⟨(some 27), .call (.t 18) [(.t 19), (.t 26)], none⟩, ⟨(some 28), .un .not (.t 27), none⟩]) (
     .cond (.t 28) (
      .ret) (
      .skip))))) (
   .ops [⟨(some 29), .bin .add (.t 14) (.c (.lit (.int .i64 1))), none⟩, ⟨(some 14), .mov (.t 29), none⟩])))
/-- (*azimuth/store.Store).All$1 -/
def C_p_store_Store_All_1 (N : Nat → Nat) : AFunc := ⟨30, [],
 .seq (
  .seq (
   .ops [⟨(some 5), .load none (.t 1), none⟩, ⟨(some 6), .eq false .pptr (.t 5) (.c (.lit (.pointer none))), none⟩]) (
  .cond (.t 6) (
   .ret) (
   .skip))) (
 .seq (
  .ops [⟨(some 7), .load none (.t 1), none⟩, ⟨(some 8), .nilchk (.t 7), none⟩, ⟨(some 9), .faddr 0 (.t 8), none⟩, ⟨(some 10), .load none (.t 9), none⟩, ⟨(some 11), .call (.c (.fn (f_maps_Keys_map_string_sl_byte_string_sl_byte N) [] [])) [(.t 10)], none⟩, ⟨(some 12), .call (.c (.fn (f_slices_Sorted_string N) [] [])) [(.t 11)], none⟩, ⟨(some 13), .len (.t 12), none⟩, ⟨(some 14), .mov (.c (.lit (.int .i64 0))), none⟩]) (
 .block 0 (
  .loop (L_p_store_Store_All_1_1 N)))), false⟩

def L_p_store_Store_Copy_1 (N : Nat → Nat) : AC :=
    .seq (
     .ops [⟨none, .mnmx false [], none⟩, ⟨(some 22), .extract (.t 21) 0, none⟩]) (
    .seq (
     .cond (.t 22) (
      .skip) (
      .exit 0)) (
    .block 1 (
     .seq (
      .ops [⟨none, .mnmx false [], none⟩, ⟨(some 24), .extract (.t 23) 0, none⟩, ⟨(some 25), .extract (.t 23) 1, none⟩, ⟨(some 4), .mov (.t 24), none⟩, ⟨(some 5), .mov (.t 25), none⟩]) (
     .dops 8 [⟨(some 26), .mov (.t 3), none⟩, ⟨(some 27), .nilchk (.t 26), none⟩, ⟨(some 28), .faddr 0 (.t 27), none⟩, ⟨(some 29), .load none (.t 28), none⟩, ⟨(some 30), .mov (.t 4), none⟩, ⟨(some 31), .mov (.t 5), none⟩, ⟨(some 32), .call (.c (.fn (f_slices_Clone_sl_byte_byte N) [] [])) [(.t 31)], none⟩, ⟨none, .mapupd .string (.t 29) (.t 30) (.t 32), none⟩] [0, 0, 0, 0, 0, 0, 1, 0] []))))
def K_p_store_Store_Copy_1 (N : Nat → Nat) : AC :=
 .seq (
  .ops [⟨(some 33), .mov (.t 3), none⟩, ⟨(some 2), .mov (.t 33), none⟩]) (
 .ret)
/-- (*azimuth/store.Store).Copy -/
def C_p_store_Store_Copy (N : Nat → Nat) : AFunc := ⟨34, [.inl 2],
 .seq (
  .ops [⟨(some 2), .mov (.c (.lit (.pointer none))), none⟩]) (
 .seq (
  .seq (
   .ops [⟨(some 6), .mov (.t 0), none⟩, ⟨(some 7), .eq false .pptr (.t 6) (.c (.lit (.pointer none))), none⟩]) (
  .cond (.t 7) (
   .seq (
    .ops [⟨(some 2), .mov (.c (.lit (.pointer none))), none⟩]) (
   .ret)) (
   .skip))) (
 .seq (
  .ops [⟨(some 8), .call (.c (.fn (f_store_New N) [] [])) [], none⟩, ⟨(some 3), .mov (.t 8), none⟩]) (
 .seq (
  .ops [⟨(some 9), .mov (.t 3), none⟩, ⟨(some 10), .mov (.t 0), none⟩, ⟨(some 11), .nilchk (.t 10), none⟩, ⟨(some 12), .faddr 1 (.t 11), none⟩, ⟨(some 13), .load none (.t 12), none⟩, ⟨(some 14), .nilchk (.t 9), none⟩, ⟨(some 15), .faddr 1 (.t 14), none⟩, ⟨none, .store 1 (.t 15) (.t 13), none⟩]) (
 .seq (
  .seq (
   .ops [⟨(some 16), .mov (.t 0), none⟩, ⟨(some 17), .nilchk (.t 16), none⟩, ⟨(some 18), .faddr 0 (.t 17), none⟩, ⟨(some 19), .load none (.t 18), none⟩, ⟨none, .mnmx false [], none⟩]) (
  .block 0 (
   .loop (L_p_store_Store_Copy_1 N)))) (K_p_store_Store_Copy_1 N))))), false⟩

/-- (*azimuth/store.Store).Delete -/
def C_p_store_Store_Delete (N : Nat → Nat) : AFunc := ⟨32, [.inl 4],
 .seq (
  .ops [⟨(some 4), .mov (.c (.lit (.int .i64 0))), none⟩]) (
 .seq (
  .seq (
   .ops [⟨(some 7), .mov (.t 0), none⟩, ⟨(some 8), .eq false .pptr (.t 7) (.c (.lit (.pointer none))), none⟩]) (
  .cond (.t 8) (
   .seq (
    .ops [⟨(some 4), .mov (.c (.lit (.int .i64 1))), none⟩]) (
   .ret)) (
   .skip))) (
 .seq (
  .seq (
   .ops [⟨(some 10), .mov (.t 0), none⟩, ⟨(some 11), .nilchk (.t 10), none⟩, ⟨(some 12), .faddr 0 (.t 11), none⟩, ⟨(some 13), .load none (.t 12), none⟩, ⟨(some 14), .mov (.t 1), none⟩, ⟨(some 15), .lookup .string (.lit (.slice none 0 0)) (.t 13) (.t 14) true, none⟩, ⟨(some 9), .mov (.t 15), none⟩, ⟨(some 16), .extract (.t 9) 0, none⟩, ⟨(some 17), .extract (.t 9) 1, none⟩, ⟨(some 5), .mov (.t 16), none⟩, ⟨(some 6), .mov (.t 17), none⟩]) (
  .seq (
   .ops [⟨(some 18), .mov (.t 6), none⟩, ⟨(some 19), .un .not (.t 18), none⟩]) (
  .cond (.t 19) (
   .seq (
    .ops [⟨(some 4), .mov (.c (.lit (.int .i64 13))), none⟩]) (
   .ret)) (
   .skip)))) (
 .seq (
  .ops [⟨(some 20), .mov (.t 0), none⟩, ⟨(some 21), .nilchk (.t 20), none⟩, ⟨(some 22), .faddr 0 (.t 21), none⟩, ⟨(some 23), .load none (.t 22), none⟩, ⟨(some 24), .mov (.t 1), none⟩, ⟨none, .delete .string (.t 23) (.t 24), none⟩]) (
 .seq (
  .ops [⟨(some 25), .mov (.t 0), none⟩, ⟨(some 26), .nilchk (.t 25), none⟩, ⟨(some 27), .faddr 1 (.t 26), none⟩, ⟨(some 28), .load none (.t 27), none⟩, ⟨(some 29), .bin .add (.t 28) (.c (.lit (.int .i64 1))), none⟩, ⟨(some 30), .nilchk (.t 25), none⟩, ⟨(some 31), .faddr 1 (.t 30), none⟩, ⟨none, .store 1 (.t 31) (.t 29), none⟩]) (
 .seq (
  .ops [⟨(some 4), .mov (.c (.lit (.int .i64 0))), none⟩]) (
 .ret)))))), false⟩

/-- (*azimuth/store.Store).Len -/
def C_p_store_Store_Len (N : Nat → Nat) : AFunc := ⟨10, [.inl 2],
 .seq (
  .ops [⟨(some 2), .mov (.c (.lit (.int .i64 0))), none⟩]) (
 .seq (
  .seq (
   .ops [⟨(some 3), .mov (.t 0), none⟩, ⟨(some 4), .eq false .pptr (.t 3) (.c (.lit (.pointer none))), none⟩]) (
  .cond (.t 4) (
   .seq (
    .ops [⟨(some 2), .mov (.c (.lit (.int .i64 0))), none⟩]) (
   .ret)) (
   .skip))) (
 .seq (
  .ops [⟨(some 5), .mov (.t 0), none⟩, ⟨(some 6), .nilchk (.t 5), none⟩, ⟨(some 7), .faddr 0 (.t 6), none⟩, ⟨(some 8), .load none (.t 7), none⟩, ⟨(some 9), .lenm (.t 8), none⟩, ⟨(some 2), .mov (.t 9), none⟩]) (
 .ret))), false⟩

/-- (*azimuth/store.Store).Rename -/
def C_p_store_Store_Rename (N : Nat → Nat) : AFunc := ⟨58, [.inl 6],
 .seq (
  .ops [⟨(some 6), .mov (.c (.lit (.int .i64 0))), none⟩]) (
 .seq (
  .seq (
   .ops [⟨(some 11), .mov (.t 0), none⟩, ⟨(some 12), .eq false .pptr (.t 11) (.c (.lit (.pointer none))), none⟩]) (
  .cond (.t 12) (
   .seq (
    .ops [⟨(some 6), .mov (.c (.lit (.int .i64 1))), none⟩]) (
   .ret)) (
   .skip))) (
 .seq (
  .ops [⟨(some 14), .mov (.t 0), none⟩, ⟨(some 15), .nilchk (.t 14), none⟩, ⟨(some 16), .faddr 0 (.t 15), none⟩, ⟨(some 17), .load none (.t 16), none⟩, ⟨(some 18), .mov (.t 1), none⟩, ⟨(some 19), .lookup .string (.lit (.slice none 0 0)) (.t 17) (.t 18) true, none⟩, ⟨(some 13), .mov (.t 19), none⟩, ⟨(some 20), .extract (.t 13) 0, none⟩, ⟨(some 21), .extract (.t 13) 1, none⟩, ⟨(some 7), .mov (.t 20), none⟩, ⟨(some 8), .mov (.t 21), none⟩]) (
 .seq (
  .ops [⟨(some 23), .mov (.t 0), none⟩, ⟨(some 24), .nilchk (.t 23), none⟩, ⟨(some 25), .faddr 0 (.t 24), none⟩, ⟨(some 26), .load none (.t 25), none⟩, ⟨(some 27), .mov (.t 2), none⟩, ⟨(some 28), .lookup .string (.lit (.slice none 0 0)) (.t 26) (.t 27) true, none⟩, ⟨(some 22), .mov (.t 28), none⟩, ⟨(some 29), .extract (.t 22) 0, none⟩, ⟨(some 30), .extract (.t 22) 1, none⟩, ⟨(some 9), .mov (.t 29), none⟩, ⟨(some 10), .mov (.t 30), none⟩]) (
 .seq (
  .block 0 (
   .seq (
    .ops [⟨(some 32), .mov (.t 8), none⟩, ⟨(some 33), .un .not (.t 32), none⟩, ⟨(some 31), .mov (.t 33), none⟩]) (
   .cond (.t 31) (
    .seq (
     .ops [⟨(some 6), .mov (.c (.lit (.int .i64 13))), none⟩]) (
    .ret)) (
    .seq (
     .ops [⟨(some 35), .mov (.t 2), none⟩, ⟨(some 36), .call (.c (.fn (f_lexer_IsName N) [] [])) [(.t 35)], none⟩, ⟨(some 37), .un .not (.t 36), none⟩, ⟨(some 34), .mov (.t 37), none⟩]) (
    .cond (.t 34) (
     .seq (
      .ops [⟨(some 6), .mov (.c (.lit (.int .i64 7))), none⟩]) (
     .ret)) (
     .seq (
      .ops [⟨(some 39), .mov (.t 10), none⟩, ⟨(some 38), .mov (.t 39), none⟩]) (
     .cond (.t 38) (
      .seq (
       .ops [⟨(some 6), .mov (.c (.lit (.int .i64 8))), none⟩]) (
      .ret)) (
      .skip)))))))) (
 .seq (
  .ops [⟨(some 40), .mov (.t 0), none⟩, ⟨(some 41), .nilchk (.t 40), none⟩, ⟨(some 42), .faddr 0 (.t 41), none⟩, ⟨(some 43), .load none (.t 42), none⟩, ⟨(some 44), .mov (.t 1), none⟩, ⟨none, .delete .string (.t 43) (.t 44), none⟩]) (
 .seq (
  .ops [⟨(some 45), .mov (.t 0), none⟩, ⟨(some 46), .nilchk (.t 45), none⟩, ⟨(some 47), .faddr 0 (.t 46), none⟩, ⟨(some 48), .load none (.t 47), none⟩, ⟨(some 49), .mov (.t 2), none⟩, ⟨(some 50), .mov (.t 7), none⟩, ⟨none, .mapupd .string (.t 48) (.t 49) (.t 50), none⟩]) (
 .seq (
  .ops [⟨(some 51), .mov (.t 0), none⟩, ⟨(some 52), .nilchk (.t 51), none⟩, ⟨(some 53), .faddr 1 (.t 52), none⟩, ⟨(some 54), .load none (.t 53), none⟩, ⟨(some 55), .bin .add (.t 54) (.c (.lit (.int .i64 1))), none⟩, ⟨(some 56), .nilchk (.t 51), none⟩, ⟨(some 57), .faddr 1 (.t 56), none⟩, ⟨none, .store 1 (.t 57) (.t 55), none⟩]) (
 .seq (
  .ops [⟨(some 6), .mov (.c (.lit (.int .i64 0))), none⟩]) (
 .ret))))))))), false⟩

/-- (*azimuth/store.Store).Set -/
def C_p_store_Store_Set (N : Nat → Nat) : AFunc := ⟨53, [.inl 6],
 .seq (
  .ops [⟨(some 6), .mov (.c (.lit (.int .i64 0))), none⟩]) (
 .seq (
  .seq (
   .ops [⟨(some 9), .mov (.t 0), none⟩, ⟨(some 10), .eq false .pptr (.t 9) (.c (.lit (.pointer none))), none⟩]) (
  .cond (.t 10) (
   .seq (
    .ops [⟨(some 6), .mov (.c (.lit (.int .i64 1))), none⟩]) (
   .ret)) (
   .skip))) (
 .seq (
  .ops [⟨(some 12), .mov (.t 0), none⟩, ⟨(some 13), .nilchk (.t 12), none⟩, ⟨(some 14), .faddr 0 (.t 13), none⟩, ⟨(some 15), .load none (.t 14), none⟩, ⟨(some 16), .mov (.t 1), none⟩, ⟨(some 17), .lookup .string (.lit (.slice none 0 0)) (.t 15) (.t 16) true, none⟩, ⟨(some 11), .mov (.t 17), none⟩, ⟨(some 18), .extract (.t 11) 0, none⟩, ⟨(some 19), .extract (.t 11) 1, none⟩, ⟨(some 7), .mov (.t 18), none⟩, ⟨(some 8), .mov (.t 19), none⟩]) (
 .seq (
  .block 0 (
   .seq (
    .ops [⟨(some 21), .mov (.t 1), none⟩, ⟨(some 22), .call (.c (.fn (f_lexer_IsName N) [] [])) [(.t 21)], none⟩, ⟨(some 23), .un .not (.t 22), none⟩, ⟨(some 20), .mov (.t 23), none⟩]) (
   .cond (.t 20) (
    .seq (
     .ops [⟨(some 6), .mov (.c (.lit (.int .i64 7))), none⟩]) (
    .ret)) (
    .seq (
     .ops [⟨(some 25), .mov (.t 2), none⟩, ⟨(some 26), .len (.t 25), none⟩, ⟨(some 27), .bin .gtr (.t 26) (.c (.lit (.int .i64 1048576))), none⟩, ⟨(some 24), .mov (.t 27), none⟩]) (
    .cond (.t 24) (
     .seq (
      .ops [⟨(some 6), .mov (.c (.lit (.int .i64 6))), none⟩]) (
     .ret)) (
     .seq (
      .ops [⟨(some 29), .mov (.t 8), none⟩, ⟨(some 30), .un .not (.t 29), none⟩, ⟨(some 31), .mov (.t 30), none⟩, ⟨(some 32), .mov (.t 0), (some (31, true))⟩, ⟨(some 33), .nilchk (.t 32), (some (31, true))⟩, ⟨(some 34), .faddr 0 (.t 33), (some (31, true))⟩, ⟨(some 35), .load none (.t 34), (some (31, true))⟩, ⟨(some 36), .lenm (.t 35), (some (31, true))⟩, ⟨(some 37), .bin .geq (.t 36) (.c (.lit (.int .i64 256))), (some (31, true))⟩, ⟨(some 38), .pick (.t 31) (.t 37) (.c (.lit (.bool false))), none⟩, ⟨(some 28), .mov (.t 38), none⟩]) (
     .cond (.t 28) (
      .seq (
       .ops [⟨(some 6), .mov (.c (.lit (.int .i64 20))), none⟩]) (
      .ret)) (
      .skip)))))))) (
 .seq (
  .dops 10 [⟨(some 39), .mov (.t 0), none⟩, ⟨(some 40), .nilchk (.t 39), none⟩, ⟨(some 41), .faddr 0 (.t 40), none⟩, ⟨(some 42), .load none (.t 41), none⟩, ⟨(some 43), .mov (.t 1), none⟩, ⟨(some 44), .mov (.t 2), none⟩, ⟨(some 45), .call (.c (.fn (f_slices_Clone_sl_byte_byte N) [] [])) [(.t 44)], none⟩, ⟨none, .mapupd .string (.t 42) (.t 43) (.t 45), none⟩] [0, 0, 0, 0, 0, 0, 1, 0] []) (
 .seq (
  .ops [⟨(some 46), .mov (.t 0), none⟩, ⟨(some 47), .nilchk (.t 46), none⟩, ⟨(some 48), .faddr 1 (.t 47), none⟩, ⟨(some 49), .load none (.t 48), none⟩, ⟨(some 50), .bin .add (.t 49) (.c (.lit (.int .i64 1))), none⟩, ⟨(some 51), .nilchk (.t 46), none⟩, ⟨(some 52), .faddr 1 (.t 51), none⟩, ⟨none, .store 1 (.t 52) (.t 50), none⟩]) (
 .seq (
  .ops [⟨(some 6), .mov (.c (.lit (.int .i64 0))), none⟩]) (
 .ret))))))), false⟩

/-- (*azimuth/store.Store).Text -/
def C_p_store_Store_Text (N : Nat → Nat) : AFunc := ⟨22, [.inl 4, .inl 5],
 .seq (
  .ops [⟨(some 4), .mov (.c (.lit (.slice none 0 0))), none⟩, ⟨(some 5), .mov (.c (.lit (.bool false))), none⟩]) (
 .seq (
  .seq (
   .ops [⟨(some 8), .mov (.t 0), none⟩, ⟨(some 9), .eq false .pptr (.t 8) (.c (.lit (.pointer none))), none⟩]) (
  .cond (.t 9) (
   .seq (
    .ops [⟨(some 4), .mov (.c (.lit (.slice none 0 0))), none⟩, ⟨(some 5), .mov (.c (.lit (.bool false))), none⟩]) (
   .ret)) (
   .skip))) (
 .seq (
  .ops [⟨(some 11), .mov (.t 0), none⟩, ⟨(some 12), .nilchk (.t 11), none⟩, ⟨(some 13), .faddr 0 (.t 12), none⟩, ⟨(some 14), .load none (.t 13), none⟩, ⟨(some 15), .mov (.t 1), none⟩, ⟨(some 16), .lookup .string (.lit (.slice none 0 0)) (.t 14) (.t 15) true, none⟩, ⟨(some 10), .mov (.t 16), none⟩, ⟨(some 17), .extract (.t 10) 0, none⟩, ⟨(some 18), .extract (.t 10) 1, none⟩, ⟨(some 6), .mov (.t 17), none⟩, ⟨(some 7), .mov (.t 18), none⟩]) (
 .seq (
  .ops [⟨(some 19), .mov (.t 6), none⟩, ⟨(some 20), .call (.c (.fn (f_slices_Clone_sl_byte_byte N) [] [])) [(.t 19)], none⟩, ⟨(some 21), .mov (.t 7), none⟩, ⟨(some 4), .mov (.t 20), none⟩, ⟨(some 5), .mov (.t 21), none⟩]) (
 .ret)))), false⟩

/-- (*azimuth/store.Store).Turn -/
def C_p_store_Store_Turn (N : Nat → Nat) : AFunc := ⟨9, [.inl 2],
 .seq (
  .ops [⟨(some 2), .mov (.c (.lit (.int .i64 0))), none⟩]) (
 .seq (
  .seq (
   .ops [⟨(some 3), .mov (.t 0), none⟩, ⟨(some 4), .eq false .pptr (.t 3) (.c (.lit (.pointer none))), none⟩]) (
  .cond (.t 4) (
   .seq (
    .ops [⟨(some 2), .mov (.c (.lit (.int .i64 0))), none⟩]) (
   .ret)) (
   .skip))) (
 .seq (
  .ops [⟨(some 5), .mov (.t 0), none⟩, ⟨(some 6), .nilchk (.t 5), none⟩, ⟨(some 7), .faddr 1 (.t 6), none⟩, ⟨(some 8), .load none (.t 7), none⟩, ⟨(some 2), .mov (.t 8), none⟩]) (
 .ret))), false⟩

/-- azimuth/store.New -/
def C_store_New (N : Nat → Nat) : AFunc := ⟨4, [.inl 0],
 .seq (
  .ops [⟨(some 0), .mov (.c (.lit (.pointer none))), none⟩]) (
 .seq (
  .ops [⟨(some 1), .mkmap, none⟩, ⟨(some 2), .build [(.lit (.map none)), (.lit (.int .i64 0))] [(0, 1, (.t 1))], none⟩, ⟨(some 3), .box (t_store_Store N) (.t 2), none⟩, ⟨(some 0), .mov (.t 3), none⟩]) (
 .ret)), false⟩

/-- slices.Clone[[]byte,byte] -/
def C_slices_Clone_sl_byte_byte (N : Nat → Nat) : AFunc := ⟨8, [.inl 2],
 .seq (
  .ops [⟨(some 2), .mov (.c (.lit (.slice none 0 0))), none⟩]) (
 .seq (
  .seq (
   .ops [⟨(some 3), .mov (.t 0), none⟩, ⟨(some 4), .eq false .pslice (.t 3) (.c (.lit (.slice none 0 0))), none⟩]) (
  .cond (.t 4) (
   .seq (
    .ops [⟨(some 2), .mov (.c (.lit (.slice none 0 0))), none⟩]) (
   .ret)) (
   .skip))) (
 .seq (
  .ops [⟨(some 5), .bslice (t_uint8 N) 1 none 0 [(.lit (.int .u8 0))] [], none⟩, ⟨(some 6), .mov (.t 0), none⟩, ⟨(some 7), .append (t_uint8 N) 1 1 (.t 5) (.t 6), none⟩, ⟨(some 2), .mov (.t 7), none⟩]) (
 .ret))), false⟩
end Go.Proofs.Eng
