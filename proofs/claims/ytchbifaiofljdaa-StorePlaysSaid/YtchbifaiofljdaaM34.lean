import Derived.Test.YtchbifaiofljdaaEngAF
import Derived.Test.YtchbifaiofljdaaEngZ
import Derived.Test.YtchbifaiofljdaaEngAI
/- Names of functions and types: N gives their numbers. Printed by tm.py. -/
namespace Go.Proofs.Eng
def f_runes_Bad (N : Nat → Nat) : Nat := N 11
def f_runes_All (N : Nat → Nat) : Nat := N 12
def f_ref01_Signs (N : Nat → Nat) : Nat := N 13
def f_ref01_Encode (N : Nat → Nat) : Nat := N 16
def f_runes_size (N : Nat → Nat) : Nat := N 18
def f_runes_All_1 (N : Nat → Nat) : Nat := N 19
def f_runes_first (N : Nat → Nat) : Nat := N 20
def f_ref01_First (N : Nat → Nat) : Nat := N 21
def f_runes_sign (N : Nat → Nat) : Nat := N 22
def f_ref01_value (N : Nat → Nat) : Nat := N 23
def f_law23_lives (N : Nat → Nat) : Nat := N 50
def f_store_New (N : Nat → Nat) : Nat := N 51
def f_p_store_Store_Set (N : Nat → Nat) : Nat := N 52
def f_p_store_Store_Delete (N : Nat → Nat) : Nat := N 53
def f_lexer_IsWord (N : Nat → Nat) : Nat := N 58
def f_ref03_IsWord (N : Nat → Nat) : Nat := N 59
def f_lexer_IsName (N : Nat → Nat) : Nat := N 60
def f_law23_do (N : Nat → Nat) : Nat := N 62
def f_p_store_Store_Rename (N : Nat → Nat) : Nat := N 63
def f_law23_is (N : Nat → Nat) : Nat := N 64
def f_p_store_Store_Turn (N : Nat → Nat) : Nat := N 65
def f_p_store_Store_Copy (N : Nat → Nat) : Nat := N 66
def f_p_store_Store_Text (N : Nat → Nat) : Nat := N 67
def f_p_store_Store_All (N : Nat → Nat) : Nat := N 68
def f_p_store_Store_Len (N : Nat → Nat) : Nat := N 69
def f_slices_Clone_sl_byte_byte (N : Nat → Nat) : Nat := N 70
def f_lexer_blank (N : Nat → Nat) : Nat := N 71
def f_lexer_one (N : Nat → Nat) : Nat := N 72
def f_ref03_one (N : Nat → Nat) : Nat := N 73
def f_slices_Contains_sl_string_string (N : Nat → Nat) : Nat := N 74
def f_lexer_words (N : Nat → Nat) : Nat := N 75
def f_lexer_low (N : Nat → Nat) : Nat := N 76
def f_lexer_run (N : Nat → Nat) : Nat := N 77
def f_lexer_inName (N : Nat → Nat) : Nat := N 78
def f_ref04_Name (N : Nat → Nat) : Nat := N 80
def f_p_store_Store_All_1 (N : Nat → Nat) : Nat := N 81
def f_slices_Sorted_string (N : Nat → Nat) : Nat := N 82
def f_maps_Keys_map_string_sl_byte_string_sl_byte (N : Nat → Nat) : Nat := N 83
def f_strings_IndexByte (N : Nat → Nat) : Nat := N 84
def f_strings_HasPrefix (N : Nat → Nat) : Nat := N 85
def f_lexer_blank_1 (N : Nat → Nat) : Nat := N 86
def f_lexer_float (N : Nat → Nat) : Nat := N 87
def f_lexer_high (N : Nat → Nat) : Nat := N 88
def f_lexer_inAlias (N : Nat → Nat) : Nat := N 89
def f_lexer_digit (N : Nat → Nat) : Nat := N 90
def f_lexer_number (N : Nat → Nat) : Nat := N 91
def f_lexer_text (N : Nat → Nat) : Nat := N 92
def f_lexer_signs (N : Nat → Nat) : Nat := N 93
def f_ref03_hex (N : Nat → Nat) : Nat := N 94
def f_ref03_low (N : Nat → Nat) : Nat := N 95
def f_ref03_name (N : Nat → Nat) : Nat := N 96
def f_ref03_high (N : Nat → Nat) : Nat := N 97
def f_ref03_digit (N : Nat → Nat) : Nat := N 98
def f_ref03_number (N : Nat → Nat) : Nat := N 99
def f_ref03_str (N : Nat → Nat) : Nat := N 100
def f_ref03_sign (N : Nat → Nat) : Nat := N 101
def f_slices_Index_sl_string_string (N : Nat → Nat) : Nat := N 102
def f_ref04_Tag (N : Nat → Nat) : Nat := N 103
def f_maps_Keys_map_string_sl_byte_string_sl_byte_1 (N : Nat → Nat) : Nat := N 106
def f_internal_stringslite_IndexByte (N : Nat → Nat) : Nat := N 107
def f_internal_stringslite_HasPrefix (N : Nat → Nat) : Nat := N 108
def f_floats_Parse (N : Nat → Nat) : Nat := N 109
def f_internal_bytealg_IndexByteString (N : Nat → Nat) : Nat := N 113
def f_strings_CutPrefix (N : Nat → Nat) : Nat := N 114
def f_floats_Of (N : Nat → Nat) : Nat := N 115
def f_internal_stringslite_CutPrefix (N : Nat → Nat) : Nat := N 127
def f_math_Float64frombits (N : Nat → Nat) : Nat := N 128
def t_int (N : Nat → Nat) : Nat := N 100000
def t_bool (N : Nat → Nat) : Nat := N 100001
def t_uint8 (N : Nat → Nat) : Nat := N 100002
def t_sl_uint8 (N : Nat → Nat) : Nat := N 100004
def t_string (N : Nat → Nat) : Nat := N 100007
def t_p_store_Store (N : Nat → Nat) : Nat := N 100008
def t_api_Diag (N : Nat → Nat) : Nat := N 100009
def t_api_Token (N : Nat → Nat) : Nat := N 100010
def t_map_string_string (N : Nat → Nat) : Nat := N 100011
def t_law23_Act (N : Nat → Nat) : Nat := N 100012
def t_map_string_sl_uint8 (N : Nat → Nat) : Nat := N 100013
def t_store_Store (N : Nat → Nat) : Nat := N 100014
end Go.Proofs.Eng
/- Templates of functions, as the engine takes them; numbers of functions and types by names. Printed by tm.py. -/
set_option linter.unusedVariables false
set_option maxRecDepth 100000
namespace Go.Proofs.Eng
open Go

def L_law23_StoreRounds_1 (N : Nat → Nat) : AC :=
    .seq (
     .ops [⟨(some 34), .bin .lss (.t 33) (.t 32), none⟩]) (
    .seq (
     .cond (.t 34) (
      .skip) (
      .exit 0)) (
    .seq (
     .block 1 (
      .seq (
       .ops [⟨(some 35), .iaddr 4 (.t 31) (.t 33), none⟩, ⟨(some 36), .load (some 4) (.t 35), none⟩, ⟨(some 10), .new (t_law23_Act N) (.agg [(.lit (.int .i64 0)), (.lit (.string (mkS []))), (.lit (.string (mkS []))), (.lit (.slice none 0 0))]), none⟩, ⟨none, .store 4 (.t 10) (.t 36), none⟩]) (
      .seq (
       .seq (
        .ops [⟨(some 37), .faddr 3 (.t 10), none⟩, ⟨(some 38), .load none (.t 37), none⟩, ⟨(some 39), .len (.t 38), none⟩, ⟨(some 40), .bin .gtr (.t 39) (.c (.lit (.int .i64 200))), none⟩, ⟨(some 41), .mov (.t 40), none⟩, ⟨(some 42), .faddr 1 (.t 10), (some (41, false))⟩, ⟨(some 43), .load none (.t 42), (some (41, false))⟩, ⟨(some 44), .lens (.t 43), (some (41, false))⟩, ⟨(some 45), .bin .gtr (.t 44) (.c (.lit (.int .i64 50))), (some (41, false))⟩, ⟨(some 46), .pick (.t 41) (.c (.lit (.bool true))) (.t 45), none⟩, ⟨(some 47), .mov (.t 46), none⟩, ⟨(some 48), .faddr 2 (.t 10), (some (47, false))⟩, ⟨(some 49), .load none (.t 48), (some (47, false))⟩, ⟨(some 50), .lens (.t 49), (some (47, false))⟩, ⟨(some 51), .bin .gtr (.t 50) (.c (.lit (.int .i64 50))), (some (47, false))⟩, ⟨(some 52), .pick (.t 47) (.c (.lit (.bool true))) (.t 51), none⟩]) (
       .cond (.t 52) (
        .seq (
         .ops [⟨(some 6), .mov (.c (.lit (.bool true))), none⟩]) (
        .ret)) (
        .skip))) (
      .seq (
       .ops [⟨(some 53), .mov (.t 7), none⟩, ⟨(some 54), .mov (.t 8), none⟩, ⟨(some 55), .load (some 4) (.t 10), none⟩, ⟨(some 56), .call (.c (.fn (f_law23_do N) [] [])) [(.t 53), (.t 54), (.t 55)], none⟩, ⟨(some 57), .un .not (.t 56), none⟩]) (
      .cond (.t 57) (
       .seq (
        .ops [⟨(some 6), .mov (.c (.lit (.bool false))), none⟩]) (
       .ret)) (
       .skip)))))) (
    .ops [⟨(some 58), .bin .add (.t 33) (.c (.lit (.int .i64 1))), none⟩, ⟨(some 33), .mov (.t 58), none⟩])))
def K_law23_StoreRounds_1 (N : Nat → Nat) : AC :=
 .seq (
  .seq (
   .ops [⟨(some 59), .mov (.t 7), none⟩, ⟨(some 60), .mov (.t 1), none⟩, ⟨(some 61), .mov (.t 2), none⟩, ⟨(some 62), .call (.c (.fn (f_p_store_Store_Rename N) [] [])) [(.t 59), (.t 60), (.t 61)], none⟩, ⟨(some 63), .eq true .pint (.t 62) (.c (.lit (.int .i64 0))), none⟩]) (
  .cond (.t 63) (
   .seq (
    .ops [⟨(some 64), .mov (.t 7), none⟩, ⟨(some 65), .mov (.t 8), none⟩, ⟨(some 66), .call (.c (.fn (f_law23_is N) [] [])) [(.t 64), (.t 65)], none⟩, ⟨(some 6), .mov (.t 66), none⟩]) (
   .ret)) (
   .skip))) (
 .seq (
  .ops [⟨(some 67), .mov (.t 7), none⟩, ⟨(some 68), .mov (.t 2), none⟩, ⟨(some 69), .mov (.t 1), none⟩, ⟨(some 70), .call (.c (.fn (f_p_store_Store_Rename N) [] [])) [(.t 67), (.t 68), (.t 69)], none⟩, ⟨(some 71), .eq false .pint (.t 70) (.c (.lit (.int .i64 0))), none⟩, ⟨(some 72), .mov (.t 71), none⟩, ⟨(some 73), .mov (.t 7), (some (72, true))⟩, ⟨(some 74), .mov (.t 8), (some (72, true))⟩, ⟨(some 75), .call (.c (.fn (f_law23_is N) [] [])) [(.t 73), (.t 74)], (some (72, true))⟩, ⟨(some 76), .pick (.t 72) (.t 75) (.c (.lit (.bool false))), none⟩, ⟨(some 6), .mov (.t 76), none⟩]) (
 .ret))
/-- azimuth/azimuthlaw23.StoreRounds -/
def C_law23_StoreRounds (N : Nat → Nat) : AFunc := ⟨77, [.inl 6],
 .seq (
  .ops [⟨(some 6), .mov (.c (.lit (.bool false))), none⟩]) (
 .seq (
  .seq (
   .ops [⟨(some 11), .call (.c (.fn (f_law23_lives N) [] [])) [], none⟩, ⟨(some 12), .un .not (.t 11), none⟩, ⟨(some 13), .mov (.t 12), none⟩, ⟨(some 14), .mov (.t 0), (some (13, false))⟩, ⟨(some 15), .len (.t 14), (some (13, false))⟩, ⟨(some 16), .bin .gtr (.t 15) (.c (.lit (.int .i64 40))), (some (13, false))⟩, ⟨(some 17), .pick (.t 13) (.c (.lit (.bool true))) (.t 16), none⟩, ⟨(some 18), .mov (.t 17), none⟩, ⟨(some 19), .mov (.t 1), (some (18, false))⟩, ⟨(some 20), .lens (.t 19), (some (18, false))⟩, ⟨(some 21), .bin .gtr (.t 20) (.c (.lit (.int .i64 50))), (some (18, false))⟩, ⟨(some 22), .pick (.t 18) (.c (.lit (.bool true))) (.t 21), none⟩, ⟨(some 23), .mov (.t 22), none⟩, ⟨(some 24), .mov (.t 2), (some (23, false))⟩, ⟨(some 25), .lens (.t 24), (some (23, false))⟩, ⟨(some 26), .bin .gtr (.t 25) (.c (.lit (.int .i64 50))), (some (23, false))⟩, ⟨(some 27), .pick (.t 23) (.c (.lit (.bool true))) (.t 26), none⟩]) (
  .cond (.t 27) (
   .seq (
    .ops [⟨(some 28), .call (.c (.fn (f_law23_lives N) [] [])) [], none⟩, ⟨(some 6), .mov (.t 28), none⟩]) (
   .ret)) (
   .skip))) (
 .seq (
  .ops [⟨(some 29), .call (.c (.fn (f_store_New N) [] [])) [], none⟩, ⟨(some 30), .mkmap, none⟩, ⟨(some 7), .mov (.t 29), none⟩, ⟨(some 8), .mov (.t 30), none⟩]) (
 .seq (
  .seq (
   .ops [⟨(some 31), .mov (.t 0), none⟩, ⟨(some 32), .len (.t 31), none⟩, ⟨(some 33), .mov (.c (.lit (.int .i64 0))), none⟩]) (
  .block 0 (
   .loop (L_law23_StoreRounds_1 N)))) (K_law23_StoreRounds_1 N)))), false⟩

/-- azimuth/azimuthlaw23.do -/
def C_law23_do (N : Nat → Nat) : AFunc := ⟨95, [.inl 6],
 .seq (
  .ops [⟨(some 5), .box (t_law23_Act N) (.t 2), none⟩, ⟨(some 6), .mov (.c (.lit (.bool false))), none⟩]) (
 .seq (
  .ops [⟨(some 13), .mov (.t 1), none⟩, ⟨(some 14), .faddr 1 (.t 5), none⟩, ⟨(some 15), .load none (.t 14), none⟩, ⟨(some 16), .lookup .string (.lit (.string (mkS []))) (.t 13) (.t 15) true, none⟩, ⟨(some 12), .mov (.t 16), none⟩, ⟨(some 17), .extract (.t 12) 0, none⟩, ⟨(some 18), .extract (.t 12) 1, none⟩, ⟨(some 7), .mov (.t 17), none⟩, ⟨(some 8), .mov (.t 18), none⟩]) (
 .seq (
  .ops [⟨(some 20), .mov (.t 1), none⟩, ⟨(some 21), .faddr 2 (.t 5), none⟩, ⟨(some 22), .load none (.t 21), none⟩, ⟨(some 23), .lookup .string (.lit (.string (mkS []))) (.t 20) (.t 22) true, none⟩, ⟨(some 19), .mov (.t 23), none⟩, ⟨(some 24), .extract (.t 19) 0, none⟩, ⟨(some 25), .extract (.t 19) 1, none⟩, ⟨(some 9), .mov (.t 24), none⟩, ⟨(some 10), .mov (.t 25), none⟩]) (
 .seq (
  .ops [⟨(some 11), .mov (.c (.lit (.int .i64 0))), none⟩]) (
 .seq (
  .seq (
   .ops [⟨(some 26), .faddr 0 (.t 5), none⟩, ⟨(some 27), .load none (.t 26), none⟩]) (
  .block 0 (
   .seq (
    .ops [⟨(some 29), .eq false .pint (.t 27) (.c (.lit (.int .i64 0))), none⟩, ⟨(some 28), .mov (.t 29), none⟩]) (
   .cond (.t 28) (
    .seq (
     .block 1 (
      .seq (
       .ops [⟨(some 37), .faddr 1 (.t 5), none⟩, ⟨(some 38), .load none (.t 37), none⟩, ⟨(some 39), .call (.c (.fn (f_ref04_Name N) [] [])) [(.t 38)], none⟩, ⟨(some 40), .un .not (.t 39), none⟩, ⟨(some 36), .mov (.t 40), none⟩]) (
      .cond (.t 36) (
       .ops [⟨(some 11), .mov (.c (.lit (.int .i64 7))), none⟩]) (
       .seq (
        .ops [⟨(some 42), .mov (.t 8), none⟩, ⟨(some 43), .un .not (.t 42), none⟩, ⟨(some 44), .mov (.t 43), none⟩, ⟨(some 45), .mov (.t 1), (some (44, true))⟩, ⟨(some 46), .lenm (.t 45), (some (44, true))⟩, ⟨(some 47), .bin .geq (.t 46) (.c (.lit (.int .i64 256))), (some (44, true))⟩, ⟨(some 48), .pick (.t 44) (.t 47) (.c (.lit (.bool false))), none⟩, ⟨(some 41), .mov (.t 48), none⟩]) (
       .cond (.t 41) (
        .ops [⟨(some 11), .mov (.c (.lit (.int .i64 20))), none⟩]) (
        .ops [⟨(some 30), .mov (.t 1), none⟩, ⟨(some 31), .faddr 1 (.t 5), none⟩, ⟨(some 32), .load none (.t 31), none⟩, ⟨(some 33), .faddr 3 (.t 5), none⟩, ⟨(some 34), .load none (.t 33), none⟩, ⟨(some 35), .conv .str (.t 34), none⟩, ⟨none, .mapupd .string (.t 30) (.t 32) (.t 35), none⟩])))))) (
    .seq (
     .ops [⟨(some 49), .mov (.t 0), none⟩, ⟨(some 50), .faddr 1 (.t 5), none⟩, ⟨(some 51), .load none (.t 50), none⟩, ⟨(some 52), .faddr 3 (.t 5), none⟩, ⟨(some 53), .load none (.t 52), none⟩, ⟨(some 54), .call (.c (.fn (f_p_store_Store_Set N) [] [])) [(.t 49), (.t 51), (.t 53)], none⟩, ⟨(some 55), .mov (.t 11), none⟩, ⟨(some 56), .eq false .pint (.t 54) (.t 55), none⟩, ⟨(some 6), .mov (.t 56), none⟩]) (
    .ret))) (
    .seq (
     .ops [⟨(some 58), .eq false .pint (.t 27) (.c (.lit (.int .i64 1))), none⟩, ⟨(some 57), .mov (.t 58), none⟩]) (
    .cond (.t 57) (
     .seq (
      .seq (
       .ops [⟨(some 59), .mov (.t 8), none⟩, ⟨(some 60), .un .not (.t 59), none⟩]) (
      .cond (.t 60) (
       .ops [⟨(some 11), .mov (.c (.lit (.int .i64 13))), none⟩]) (
       .skip))) (
     .seq (
      .ops [⟨(some 61), .mov (.t 1), none⟩, ⟨(some 62), .faddr 1 (.t 5), none⟩, ⟨(some 63), .load none (.t 62), none⟩, ⟨none, .delete .string (.t 61) (.t 63), none⟩]) (
     .seq (
      .ops [⟨(some 64), .mov (.t 0), none⟩, ⟨(some 65), .faddr 1 (.t 5), none⟩, ⟨(some 66), .load none (.t 65), none⟩, ⟨(some 67), .call (.c (.fn (f_p_store_Store_Delete N) [] [])) [(.t 64), (.t 66)], none⟩, ⟨(some 68), .mov (.t 11), none⟩, ⟨(some 69), .eq false .pint (.t 67) (.t 68), none⟩, ⟨(some 6), .mov (.t 69), none⟩]) (
     .ret)))) (
     .skip))))))) (
 .seq (
  .block 2 (
   .seq (
    .ops [⟨(some 78), .mov (.t 8), none⟩, ⟨(some 79), .un .not (.t 78), none⟩, ⟨(some 77), .mov (.t 79), none⟩]) (
   .cond (.t 77) (
    .ops [⟨(some 11), .mov (.c (.lit (.int .i64 13))), none⟩]) (
    .seq (
     .ops [⟨(some 81), .faddr 2 (.t 5), none⟩, ⟨(some 82), .load none (.t 81), none⟩, ⟨(some 83), .call (.c (.fn (f_ref04_Name N) [] [])) [(.t 82)], none⟩, ⟨(some 84), .un .not (.t 83), none⟩, ⟨(some 80), .mov (.t 84), none⟩]) (
    .cond (.t 80) (
     .ops [⟨(some 11), .mov (.c (.lit (.int .i64 7))), none⟩]) (
     .seq (
      .ops [⟨(some 86), .mov (.t 10), none⟩, ⟨(some 85), .mov (.t 86), none⟩]) (
     .cond (.t 85) (
      .ops [⟨(some 11), .mov (.c (.lit (.int .i64 8))), none⟩]) (
      .seq (
       .ops [⟨(some 70), .mov (.t 1), none⟩, ⟨(some 71), .faddr 1 (.t 5), none⟩, ⟨(some 72), .load none (.t 71), none⟩, ⟨none, .delete .string (.t 70) (.t 72), none⟩]) (
      .ops [⟨(some 73), .mov (.t 1), none⟩, ⟨(some 74), .faddr 2 (.t 5), none⟩, ⟨(some 75), .load none (.t 74), none⟩, ⟨(some 76), .mov (.t 7), none⟩, ⟨none, .mapupd .string (.t 73) (.t 75) (.t 76), none⟩]))))))))) (
 .seq (
  .ops [⟨(some 87), .mov (.t 0), none⟩, ⟨(some 88), .faddr 1 (.t 5), none⟩, ⟨(some 89), .load none (.t 88), none⟩, ⟨(some 90), .faddr 2 (.t 5), none⟩, ⟨(some 91), .load none (.t 90), none⟩, ⟨(some 92), .call (.c (.fn (f_p_store_Store_Rename N) [] [])) [(.t 87), (.t 89), (.t 91)], none⟩, ⟨(some 93), .mov (.t 11), none⟩, ⟨(some 94), .eq false .pint (.t 92) (.t 93), none⟩, ⟨(some 6), .mov (.t 94), none⟩]) (
 .ret))))))), false⟩

def L_law23_is_1 (N : Nat → Nat) : AC :=
    .seq (
     .ops [⟨(some 7), .mov (.t 15), none⟩]) (
    .ops [⟨(some 8), .mov (.t 16), none⟩])
def L_law23_is_2 (N : Nat → Nat) : AC :=
    .block 1 (
     .seq (
      .ops [⟨(some 18), .load none (.t 3), none⟩, ⟨(some 19), .mov (.t 7), none⟩, ⟨(some 20), .lookup .string (.lit (.string (mkS []))) (.t 18) (.t 19) true, none⟩, ⟨(some 17), .mov (.t 20), none⟩, ⟨(some 21), .extract (.t 17) 0, none⟩, ⟨(some 22), .extract (.t 17) 1, none⟩, ⟨(some 9), .mov (.t 21), none⟩, ⟨(some 10), .mov (.t 22), none⟩]) (
     .seq (
      .ops [⟨(some 24), .load none (.t 2), none⟩, ⟨(some 25), .mov (.t 7), none⟩, ⟨(some 26), .call (.c (.fn (f_p_store_Store_Text N) [] [])) [(.t 24), (.t 25)], none⟩, ⟨(some 23), .mov (.t 26), none⟩, ⟨(some 27), .extract (.t 23) 0, none⟩, ⟨(some 28), .extract (.t 23) 1, none⟩, ⟨(some 11), .mov (.t 27), none⟩, ⟨(some 12), .mov (.t 28), none⟩]) (
     .seq (
      .seq (
       .ops [⟨(some 29), .load none (.t 6), none⟩, ⟨(some 30), .bin .gtr (.t 29) (.c (.lit (.int .i64 0))), none⟩, ⟨(some 31), .mov (.t 30), none⟩, ⟨(some 32), .mov (.t 7), (some (31, true))⟩, ⟨(some 33), .load none (.t 5), (some (31, true))⟩, ⟨(some 34), .bin .leq (.t 32) (.t 33), (some (31, true))⟩, ⟨(some 35), .pick (.t 31) (.t 34) (.c (.lit (.bool false))), none⟩, ⟨(some 36), .mov (.t 35), none⟩, ⟨(some 37), .mov (.t 10), (some (36, false))⟩, ⟨(some 38), .un .not (.t 37), (some (36, false))⟩, ⟨(some 39), .pick (.t 36) (.c (.lit (.bool true))) (.t 38), none⟩, ⟨(some 40), .mov (.t 39), none⟩, ⟨(some 41), .mov (.t 8), (some (40, false))⟩, ⟨(some 42), .conv .str (.t 41), (some (40, false))⟩, ⟨(some 43), .mov (.t 9), (some (40, false))⟩, ⟨(some 44), .eq true .pstr (.t 42) (.t 43), (some (40, false))⟩, ⟨(some 45), .pick (.t 40) (.c (.lit (.bool true))) (.t 44), none⟩, ⟨(some 46), .mov (.t 45), none⟩, ⟨(some 47), .mov (.t 12), (some (46, false))⟩, ⟨(some 48), .un .not (.t 47), (some (46, false))⟩, ⟨(some 49), .pick (.t 46) (.c (.lit (.bool true))) (.t 48), none⟩, ⟨(some 50), .mov (.t 49), none⟩, ⟨(some 51), .mov (.t 11), (some (50, false))⟩, ⟨(some 52), .conv .str (.t 51), (some (50, false))⟩, ⟨(some 53), .mov (.t 9), (some (50, false))⟩, ⟨(some 54), .eq true .pstr (.t 52) (.t 53), (some (50, false))⟩, ⟨(some 55), .pick (.t 50) (.c (.lit (.bool true))) (.t 54), none⟩]) (
      .cond (.t 55) (
       .seq (
        .ops [⟨none, .store 1 (.t 4) (.c (.lit (.bool false))), none⟩]) (
       .ret)) (
       .skip))) (
     .seq (
      .ops [⟨(some 56), .mov (.t 7), none⟩, ⟨none, .store 1 (.t 5) (.t 56), none⟩]) (
     .ops [⟨(some 57), .load none (.t 6), none⟩, ⟨(some 58), .bin .add (.t 57) (.c (.lit (.int .i64 1))), none⟩, ⟨none, .store 1 (.t 6) (.t 58), none⟩])))))
def K_law23_is_1 (N : Nat → Nat) : AC :=
 .seq (
  .dops 12 [⟨(some 59), .load none (.t 6), none⟩, ⟨(some 60), .load none (.t 3), none⟩, ⟨(some 61), .lenm (.t 60), none⟩, ⟨(some 62), .eq false .pint (.t 59) (.t 61), none⟩, ⟨(some 63), .mov (.t 62), none⟩, ⟨(some 64), .load none (.t 2), (some (63, true))⟩, ⟨(some 66), .load none (.t 6), (some (63, true))⟩, ⟨(some 65), .call (.c (.fn (f_p_store_Store_Len N) [] [])) [(.t 64)], (some (63, true))⟩, ⟨(some 67), .eq false .pint (.t 65) (.t 66), (some (63, true))⟩, ⟨(some 68), .pick (.t 63) (.t 67) (.c (.lit (.bool false))), none⟩, ⟨none, .store 1 (.t 4) (.t 68), none⟩] [2, 2, 2, 0, 0, 2, 2, 1, 0, 0, 0] []) (
 .ret)
/-- azimuth/azimuthlaw23.is -/
def C_law23_is (N : Nat → Nat) : AFunc := ⟨69, [.inr (4, none)],
 .seq (
  .ops [⟨(some 2), .box (t_p_store_Store N) (.t 0), none⟩, ⟨(some 3), .box (t_map_string_string N) (.t 1), none⟩, ⟨(some 4), .new (t_bool N) (.lit (.bool false)), none⟩]) (
 .seq (
  .ops [⟨(some 5), .new (t_string N) (.lit (.string (mkS []))), none⟩, ⟨none, .store 1 (.t 5) (.c (.lit (.string (mkS [])))), none⟩]) (
 .seq (
  .ops [⟨(some 6), .new (t_int N) (.lit (.int .i64 0)), none⟩, ⟨none, .store 1 (.t 6) (.c (.lit (.int .i64 0))), none⟩]) (
 .seq (
  .seq (
   .ops [⟨(some 13), .load none (.t 2), none⟩, ⟨(some 14), .call (.c (.fn (f_p_store_Store_All N) [] [])) [(.t 13)], none⟩]) (
  .block 0 (
   .rangeFn (.t 14) [15, 16] (L_law23_is_1 N) (L_law23_is_2 N)))) (K_law23_is_1 N)))), false⟩

/-- azimuth/azimuthlaw23.lives -/
def C_law23_lives (N : Nat → Nat) : AFunc := ⟨37, [.inl 0],
 .seq (
  .ops [⟨(some 0), .mov (.c (.lit (.bool false))), none⟩]) (
 .seq (
  .ops [⟨(some 6), .call (.c (.fn (f_store_New N) [] [])) [], none⟩, ⟨(some 1), .mov (.t 6), none⟩]) (
 .seq (
  .ops [⟨(some 7), .mov (.t 1), none⟩, ⟨(some 8), .bslice (t_uint8 N) 1 none 1 [(.lit (.int .u8 0))] [(0, 1, (.c (.lit (.int .u8 49))))], none⟩, ⟨(some 9), .conv .mark (.t 8), none⟩, ⟨(some 10), .call (.c (.fn (f_p_store_Store_Set N) [] [])) [(.t 7), (.c (.lit (.string (mkS [97])))), (.t 9)], none⟩, ⟨(some 2), .mov (.t 10), none⟩]) (
 .seq (
  .ops [⟨(some 11), .mov (.t 1), none⟩, ⟨(some 12), .call (.c (.fn (f_p_store_Store_Rename N) [] [])) [(.t 11), (.c (.lit (.string (mkS [97])))), (.c (.lit (.string (mkS [98]))))], none⟩, ⟨(some 3), .mov (.t 12), none⟩]) (
 .seq (
  .ops [⟨(some 14), .mov (.t 1), none⟩, ⟨(some 15), .call (.c (.fn (f_p_store_Store_Text N) [] [])) [(.t 14), (.c (.lit (.string (mkS [98]))))], none⟩, ⟨(some 13), .mov (.t 15), none⟩, ⟨(some 16), .extract (.t 13) 0, none⟩, ⟨(some 17), .extract (.t 13) 1, none⟩, ⟨(some 4), .mov (.t 16), none⟩, ⟨(some 5), .mov (.t 17), none⟩]) (
 .seq (
  .ops [⟨(some 18), .mov (.t 2), none⟩, ⟨(some 19), .eq false .pint (.t 18) (.c (.lit (.int .i64 0))), none⟩, ⟨(some 20), .mov (.t 19), none⟩, ⟨(some 21), .mov (.t 3), (some (20, true))⟩, ⟨(some 22), .eq false .pint (.t 21) (.c (.lit (.int .i64 0))), (some (20, true))⟩, ⟨(some 23), .pick (.t 20) (.t 22) (.c (.lit (.bool false))), none⟩, ⟨(some 24), .mov (.t 23), none⟩, ⟨(some 25), .mov (.t 5), (some (24, true))⟩, ⟨(some 26), .pick (.t 24) (.t 25) (.c (.lit (.bool false))), none⟩, ⟨(some 27), .mov (.t 26), none⟩, ⟨(some 28), .mov (.t 4), (some (27, true))⟩, ⟨(some 29), .conv .str (.t 28), (some (27, true))⟩, ⟨(some 30), .eq false .pstr (.t 29) (.c (.lit (.string (mkS [49])))), (some (27, true))⟩, ⟨(some 31), .pick (.t 27) (.t 30) (.c (.lit (.bool false))), none⟩, ⟨(some 32), .mov (.t 31), none⟩, ⟨(some 33), .mov (.t 1), (some (32, true))⟩, ⟨(some 34), .call (.c (.fn (f_p_store_Store_Turn N) [] [])) [(.t 33)], (some (32, true))⟩, ⟨(some 35), .eq false .pint (.t 34) (.c (.lit (.int .i64 2))), (some (32, true))⟩, ⟨(some 36), .pick (.t 32) (.t 35) (.c (.lit (.bool false))), none⟩, ⟨(some 0), .mov (.t 36), none⟩]) (
 .ret)))))), false⟩
end Go.Proofs.Eng
/- Templates of functions, as the engine takes them; numbers of functions and types by names. Printed by tm.py. -/
set_option linter.unusedVariables false
set_option maxRecDepth 100000
namespace Go.Proofs.Eng
open Go

/-- (*azimuth/store.Store).All -/
def C_p_store_Store_All (N : Nat → Nat) : AFunc := ⟨4, [.inl 2],
 .seq (
  .ops [⟨(some 1), .box (t_p_store_Store N) (.t 0), none⟩, ⟨(some 2), .mov (.c (.lit .nilFunc)), none⟩]) (
 .seq (
  .ops [⟨(some 3), .mkfn (f_p_store_Store_All_1 N) [] [(.t 1)], none⟩, ⟨(some 2), .mov (.t 3), none⟩]) (
 .ret)), false⟩

def L_p_store_Store_All_1_1 (N : Nat → Nat) : AC :=
   .seq (
    .ops [⟨(some 15), .bin .lss (.t 14) (.t 13), none⟩]) (
   .seq (
    .cond (.t 15) (
     .skip) (
     .exit 0)) (
   .seq (
    .block 1 (
     .seq (
      .ops [⟨(some 16), .iaddr 1 (.t 12) (.t 14), none⟩, ⟨(some 17), .load none (.t 16), none⟩, ⟨(some 4), .mov (.t 17), none⟩]) (
     .seq (
      .ops [⟨(some 18), .mov (.t 0), none⟩, ⟨(some 19), .mov (.t 4), none⟩, ⟨(some 20), .load none (.t 1), none⟩, ⟨(some 21), .nilchk (.t 20), none⟩, ⟨(some 22), .faddr 0 (.t 21), none⟩, ⟨(some 23), .load none (.t 22), none⟩, ⟨(some 24), .mov (.t 4), none⟩, ⟨(some 25), .lookup .string (.lit (.slice none 0 0)) (.t 23) (.t 24) false, none⟩, ⟨(some 26), .call (.c (.fn (f_slices_Clone_sl_byte_byte N) [] [])) [(.t 25)], none⟩, ⟨(some 27), .call (.t 18) [(.t 19), (.t 26)], none⟩, ⟨(some 28), .un .not (.t 27), none⟩]) (
     .cond (.t 28) (
      .ret) (
      .skip))))) (
   .ops [⟨(some 29), .bin .add (.t 14) (.c (.lit (.int .i64 1))), none⟩, ⟨(some 14), .mov (.t 29), none⟩])))
/-- (*azimuth/store.Store).All$1 -/
def C_p_store_Store_All_1 (N : Nat → Nat) : AFunc := ⟨30, [],
 .seq (
  .seq (
   .ops [⟨(some 5), .load none (.t 1), none⟩, ⟨(some 6), .eq false .pptr (.t 5) (.c (.lit (.pointer none))), none⟩]) (
  .cond (.t 6) (
   .ret) (
   .skip))) (
 .seq (
  .ops [⟨(some 7), .load none (.t 1), none⟩, ⟨(some 8), .nilchk (.t 7), none⟩, ⟨(some 9), .faddr 0 (.t 8), none⟩, ⟨(some 10), .load none (.t 9), none⟩, ⟨(some 11), .call (.c (.fn (f_maps_Keys_map_string_sl_byte_string_sl_byte N) [] [])) [(.t 10)], none⟩, ⟨(some 12), .call (.c (.fn (f_slices_Sorted_string N) [] [])) [(.t 11)], none⟩, ⟨(some 13), .len (.t 12), none⟩, ⟨(some 14), .mov (.c (.lit (.int .i64 0))), none⟩]) (
 .block 0 (
  .loop (L_p_store_Store_All_1_1 N)))), false⟩

/-- (*azimuth/store.Store).Delete -/
def C_p_store_Store_Delete (N : Nat → Nat) : AFunc := ⟨32, [.inl 4],
 .seq (
  .ops [⟨(some 4), .mov (.c (.lit (.int .i64 0))), none⟩]) (
 .seq (
  .seq (
   .ops [⟨(some 7), .mov (.t 0), none⟩, ⟨(some 8), .eq false .pptr (.t 7) (.c (.lit (.pointer none))), none⟩]) (
  .cond (.t 8) (
   .seq (
    .ops [⟨(some 4), .mov (.c (.lit (.int .i64 1))), none⟩]) (
   .ret)) (
   .skip))) (
 .seq (
  .seq (
   .ops [⟨(some 10), .mov (.t 0), none⟩, ⟨(some 11), .nilchk (.t 10), none⟩, ⟨(some 12), .faddr 0 (.t 11), none⟩, ⟨(some 13), .load none (.t 12), none⟩, ⟨(some 14), .mov (.t 1), none⟩, ⟨(some 15), .lookup .string (.lit (.slice none 0 0)) (.t 13) (.t 14) true, none⟩, ⟨(some 9), .mov (.t 15), none⟩, ⟨(some 16), .extract (.t 9) 0, none⟩, ⟨(some 17), .extract (.t 9) 1, none⟩, ⟨(some 5), .mov (.t 16), none⟩, ⟨(some 6), .mov (.t 17), none⟩]) (
  .seq (
   .ops [⟨(some 18), .mov (.t 6), none⟩, ⟨(some 19), .un .not (.t 18), none⟩]) (
  .cond (.t 19) (
   .seq (
    .ops [⟨(some 4), .mov (.c (.lit (.int .i64 13))), none⟩]) (
   .ret)) (
   .skip)))) (
 .seq (
  .ops [⟨(some 20), .mov (.t 0), none⟩, ⟨(some 21), .nilchk (.t 20), none⟩, ⟨(some 22), .faddr 0 (.t 21), none⟩, ⟨(some 23), .load none (.t 22), none⟩, ⟨(some 24), .mov (.t 1), none⟩, ⟨none, .delete .string (.t 23) (.t 24), none⟩]) (
 .seq (
  .ops [⟨(some 25), .mov (.t 0), none⟩, ⟨(some 26), .nilchk (.t 25), none⟩, ⟨(some 27), .faddr 1 (.t 26), none⟩, ⟨(some 28), .load none (.t 27), none⟩, ⟨(some 29), .bin .add (.t 28) (.c (.lit (.int .i64 1))), none⟩, ⟨(some 30), .nilchk (.t 25), none⟩, ⟨(some 31), .faddr 1 (.t 30), none⟩, ⟨none, .store 1 (.t 31) (.t 29), none⟩]) (
 .seq (
  .ops [⟨(some 4), .mov (.c (.lit (.int .i64 0))), none⟩]) (
 .ret)))))), false⟩

/-- (*azimuth/store.Store).Len -/
def C_p_store_Store_Len (N : Nat → Nat) : AFunc := ⟨10, [.inl 2],
 .seq (
  .ops [⟨(some 2), .mov (.c (.lit (.int .i64 0))), none⟩]) (
 .seq (
  .seq (
   .ops [⟨(some 3), .mov (.t 0), none⟩, ⟨(some 4), .eq false .pptr (.t 3) (.c (.lit (.pointer none))), none⟩]) (
  .cond (.t 4) (
   .seq (
    .ops [⟨(some 2), .mov (.c (.lit (.int .i64 0))), none⟩]) (
   .ret)) (
   .skip))) (
 .seq (
  .ops [⟨(some 5), .mov (.t 0), none⟩, ⟨(some 6), .nilchk (.t 5), none⟩, ⟨(some 7), .faddr 0 (.t 6), none⟩, ⟨(some 8), .load none (.t 7), none⟩, ⟨(some 9), .lenm (.t 8), none⟩, ⟨(some 2), .mov (.t 9), none⟩]) (
 .ret))), false⟩

/-- (*azimuth/store.Store).Rename -/
def C_p_store_Store_Rename (N : Nat → Nat) : AFunc := ⟨58, [.inl 6],
 .seq (
  .ops [⟨(some 6), .mov (.c (.lit (.int .i64 0))), none⟩]) (
 .seq (
  .seq (
   .ops [⟨(some 11), .mov (.t 0), none⟩, ⟨(some 12), .eq false .pptr (.t 11) (.c (.lit (.pointer none))), none⟩]) (
  .cond (.t 12) (
   .seq (
    .ops [⟨(some 6), .mov (.c (.lit (.int .i64 1))), none⟩]) (
   .ret)) (
   .skip))) (
 .seq (
  .ops [⟨(some 14), .mov (.t 0), none⟩, ⟨(some 15), .nilchk (.t 14), none⟩, ⟨(some 16), .faddr 0 (.t 15), none⟩, ⟨(some 17), .load none (.t 16), none⟩, ⟨(some 18), .mov (.t 1), none⟩, ⟨(some 19), .lookup .string (.lit (.slice none 0 0)) (.t 17) (.t 18) true, none⟩, ⟨(some 13), .mov (.t 19), none⟩, ⟨(some 20), .extract (.t 13) 0, none⟩, ⟨(some 21), .extract (.t 13) 1, none⟩, ⟨(some 7), .mov (.t 20), none⟩, ⟨(some 8), .mov (.t 21), none⟩]) (
 .seq (
  .ops [⟨(some 23), .mov (.t 0), none⟩, ⟨(some 24), .nilchk (.t 23), none⟩, ⟨(some 25), .faddr 0 (.t 24), none⟩, ⟨(some 26), .load none (.t 25), none⟩, ⟨(some 27), .mov (.t 2), none⟩, ⟨(some 28), .lookup .string (.lit (.slice none 0 0)) (.t 26) (.t 27) true, none⟩, ⟨(some 22), .mov (.t 28), none⟩, ⟨(some 29), .extract (.t 22) 0, none⟩, ⟨(some 30), .extract (.t 22) 1, none⟩, ⟨(some 9), .mov (.t 29), none⟩, ⟨(some 10), .mov (.t 30), none⟩]) (
 .seq (
  .block 0 (
   .seq (
    .ops [⟨(some 32), .mov (.t 8), none⟩, ⟨(some 33), .un .not (.t 32), none⟩, ⟨(some 31), .mov (.t 33), none⟩]) (
   .cond (.t 31) (
    .seq (
     .ops [⟨(some 6), .mov (.c (.lit (.int .i64 13))), none⟩]) (
    .ret)) (
    .seq (
     .ops [⟨(some 35), .mov (.t 2), none⟩, ⟨(some 36), .call (.c (.fn (f_lexer_IsName N) [] [])) [(.t 35)], none⟩, ⟨(some 37), .un .not (.t 36), none⟩, ⟨(some 34), .mov (.t 37), none⟩]) (
    .cond (.t 34) (
     .seq (
      .ops [⟨(some 6), .mov (.c (.lit (.int .i64 7))), none⟩]) (
     .ret)) (
     .seq (
      .ops [⟨(some 39), .mov (.t 10), none⟩, ⟨(some 38), .mov (.t 39), none⟩]) (
     .cond (.t 38) (
      .seq (
       .ops [⟨(some 6), .mov (.c (.lit (.int .i64 8))), none⟩]) (
      .ret)) (
      .skip)))))))) (
 .seq (
  .ops [⟨(some 40), .mov (.t 0), none⟩, ⟨(some 41), .nilchk (.t 40), none⟩, ⟨(some 42), .faddr 0 (.t 41), none⟩, ⟨(some 43), .load none (.t 42), none⟩, ⟨(some 44), .mov (.t 1), none⟩, ⟨none, .delete .string (.t 43) (.t 44), none⟩]) (
 .seq (
  .ops [⟨(some 45), .mov (.t 0), none⟩, ⟨(some 46), .nilchk (.t 45), none⟩, ⟨(some 47), .faddr 0 (.t 46), none⟩, ⟨(some 48), .load none (.t 47), none⟩, ⟨(some 49), .mov (.t 2), none⟩, ⟨(some 50), .mov (.t 7), none⟩, ⟨none, .mapupd .string (.t 48) (.t 49) (.t 50), none⟩]) (
 .seq (
  .ops [⟨(some 51), .mov (.t 0), none⟩, ⟨(some 52), .nilchk (.t 51), none⟩, ⟨(some 53), .faddr 1 (.t 52), none⟩, ⟨(some 54), .load none (.t 53), none⟩, ⟨(some 55), .bin .add (.t 54) (.c (.lit (.int .i64 1))), none⟩, ⟨(some 56), .nilchk (.t 51), none⟩, ⟨(some 57), .faddr 1 (.t 56), none⟩, ⟨none, .store 1 (.t 57) (.t 55), none⟩]) (
 .seq (
  .ops [⟨(some 6), .mov (.c (.lit (.int .i64 0))), none⟩]) (
 .ret))))))))), false⟩

/-- (*azimuth/store.Store).Set -/
def C_p_store_Store_Set (N : Nat → Nat) : AFunc := ⟨53, [.inl 6],
 .seq (
  .ops [⟨(some 6), .mov (.c (.lit (.int .i64 0))), none⟩]) (
 .seq (
  .seq (
   .ops [⟨(some 9), .mov (.t 0), none⟩, ⟨(some 10), .eq false .pptr (.t 9) (.c (.lit (.pointer none))), none⟩]) (
  .cond (.t 10) (
   .seq (
    .ops [⟨(some 6), .mov (.c (.lit (.int .i64 1))), none⟩]) (
   .ret)) (
   .skip))) (
 .seq (
  .ops [⟨(some 12), .mov (.t 0), none⟩, ⟨(some 13), .nilchk (.t 12), none⟩, ⟨(some 14), .faddr 0 (.t 13), none⟩, ⟨(some 15), .load none (.t 14), none⟩, ⟨(some 16), .mov (.t 1), none⟩, ⟨(some 17), .lookup .string (.lit (.slice none 0 0)) (.t 15) (.t 16) true, none⟩, ⟨(some 11), .mov (.t 17), none⟩, ⟨(some 18), .extract (.t 11) 0, none⟩, ⟨(some 19), .extract (.t 11) 1, none⟩, ⟨(some 7), .mov (.t 18), none⟩, ⟨(some 8), .mov (.t 19), none⟩]) (
 .seq (
  .block 0 (
   .seq (
    .ops [⟨(some 21), .mov (.t 1), none⟩, ⟨(some 22), .call (.c (.fn (f_lexer_IsName N) [] [])) [(.t 21)], none⟩, ⟨(some 23), .un .not (.t 22), none⟩, ⟨(some 20), .mov (.t 23), none⟩]) (
   .cond (.t 20) (
    .seq (
     .ops [⟨(some 6), .mov (.c (.lit (.int .i64 7))), none⟩]) (
    .ret)) (
    .seq (
     .ops [⟨(some 25), .mov (.t 2), none⟩, ⟨(some 26), .len (.t 25), none⟩, ⟨(some 27), .bin .gtr (.t 26) (.c (.lit (.int .i64 1048576))), none⟩, ⟨(some 24), .mov (.t 27), none⟩]) (
    .cond (.t 24) (
     .seq (
      .ops [⟨(some 6), .mov (.c (.lit (.int .i64 6))), none⟩]) (
     .ret)) (
     .seq (
      .ops [⟨(some 29), .mov (.t 8), none⟩, ⟨(some 30), .un .not (.t 29), none⟩, ⟨(some 31), .mov (.t 30), none⟩, ⟨(some 32), .mov (.t 0), (some (31, true))⟩, ⟨(some 33), .nilchk (.t 32), (some (31, true))⟩, ⟨(some 34), .faddr 0 (.t 33), (some (31, true))⟩, ⟨(some 35), .load none (.t 34), (some (31, true))⟩, ⟨(some 36), .lenm (.t 35), (some (31, true))⟩, ⟨(some 37), .bin .geq (.t 36) (.c (.lit (.int .i64 256))), (some (31, true))⟩, ⟨(some 38), .pick (.t 31) (.t 37) (.c (.lit (.bool false))), none⟩, ⟨(some 28), .mov (.t 38), none⟩]) (
     .cond (.t 28) (
      .seq (
       .ops [⟨(some 6), .mov (.c (.lit (.int .i64 20))), none⟩]) (
      .ret)) (
      .skip)))))))) (
 .seq (
  .dops 10 [⟨(some 39), .mov (.t 0), none⟩, ⟨(some 40), .nilchk (.t 39), none⟩, ⟨(some 41), .faddr 0 (.t 40), none⟩, ⟨(some 42), .load none (.t 41), none⟩, ⟨(some 43), .mov (.t 1), none⟩, ⟨(some 44), .mov (.t 2), none⟩, ⟨(some 45), .call (.c (.fn (f_slices_Clone_sl_byte_byte N) [] [])) [(.t 44)], none⟩, ⟨none, .mapupd .string (.t 42) (.t 43) (.t 45), none⟩] [0, 0, 0, 0, 0, 0, 1, 0] []) (
 .seq (
  .ops [⟨(some 46), .mov (.t 0), none⟩, ⟨(some 47), .nilchk (.t 46), none⟩, ⟨(some 48), .faddr 1 (.t 47), none⟩, ⟨(some 49), .load none (.t 48), none⟩, ⟨(some 50), .bin .add (.t 49) (.c (.lit (.int .i64 1))), none⟩, ⟨(some 51), .nilchk (.t 46), none⟩, ⟨(some 52), .faddr 1 (.t 51), none⟩, ⟨none, .store 1 (.t 52) (.t 50), none⟩]) (
 .seq (
  .ops [⟨(some 6), .mov (.c (.lit (.int .i64 0))), none⟩]) (
 .ret))))))), false⟩

/-- (*azimuth/store.Store).Text -/
def C_p_store_Store_Text (N : Nat → Nat) : AFunc := ⟨22, [.inl 4, .inl 5],
 .seq (
  .ops [⟨(some 4), .mov (.c (.lit (.slice none 0 0))), none⟩, ⟨(some 5), .mov (.c (.lit (.bool false))), none⟩]) (
 .seq (
  .seq (
   .ops [⟨(some 8), .mov (.t 0), none⟩, ⟨(some 9), .eq false .pptr (.t 8) (.c (.lit (.pointer none))), none⟩]) (
  .cond (.t 9) (
   .seq (
    .ops [⟨(some 4), .mov (.c (.lit (.slice none 0 0))), none⟩, ⟨(some 5), .mov (.c (.lit (.bool false))), none⟩]) (
   .ret)) (
   .skip))) (
 .seq (
  .ops [⟨(some 11), .mov (.t 0), none⟩, ⟨(some 12), .nilchk (.t 11), none⟩, ⟨(some 13), .faddr 0 (.t 12), none⟩, ⟨(some 14), .load none (.t 13), none⟩, ⟨(some 15), .mov (.t 1), none⟩, ⟨(some 16), .lookup .string (.lit (.slice none 0 0)) (.t 14) (.t 15) true, none⟩, ⟨(some 10), .mov (.t 16), none⟩, ⟨(some 17), .extract (.t 10) 0, none⟩, ⟨(some 18), .extract (.t 10) 1, none⟩, ⟨(some 6), .mov (.t 17), none⟩, ⟨(some 7), .mov (.t 18), none⟩]) (
 .seq (
  .ops [⟨(some 19), .mov (.t 6), none⟩, ⟨(some 20), .call (.c (.fn (f_slices_Clone_sl_byte_byte N) [] [])) [(.t 19)], none⟩, ⟨(some 21), .mov (.t 7), none⟩, ⟨(some 4), .mov (.t 20), none⟩, ⟨(some 5), .mov (.t 21), none⟩]) (
 .ret)))), false⟩

/-- (*azimuth/store.Store).Turn -/
def C_p_store_Store_Turn (N : Nat → Nat) : AFunc := ⟨9, [.inl 2],
 .seq (
  .ops [⟨(some 2), .mov (.c (.lit (.int .i64 0))), none⟩]) (
 .seq (
  .seq (
   .ops [⟨(some 3), .mov (.t 0), none⟩, ⟨(some 4), .eq false .pptr (.t 3) (.c (.lit (.pointer none))), none⟩]) (
  .cond (.t 4) (
   .seq (
    .ops [⟨(some 2), .mov (.c (.lit (.int .i64 0))), none⟩]) (
   .ret)) (
   .skip))) (
 .seq (
  .ops [⟨(some 5), .mov (.t 0), none⟩, ⟨(some 6), .nilchk (.t 5), none⟩, ⟨(some 7), .faddr 1 (.t 6), none⟩, ⟨(some 8), .load none (.t 7), none⟩, ⟨(some 2), .mov (.t 8), none⟩]) (
 .ret))), false⟩

/-- azimuth/store.New -/
def C_store_New (N : Nat → Nat) : AFunc := ⟨4, [.inl 0],
 .seq (
  .ops [⟨(some 0), .mov (.c (.lit (.pointer none))), none⟩]) (
 .seq (
  .ops [⟨(some 1), .mkmap, none⟩, ⟨(some 2), .build [(.lit (.map none)), (.lit (.int .i64 0))] [(0, 1, (.t 1))], none⟩, ⟨(some 3), .box (t_store_Store N) (.t 2), none⟩, ⟨(some 0), .mov (.t 3), none⟩]) (
 .ret)), false⟩

/-- slices.Clone[[]byte,byte] -/
def C_slices_Clone_sl_byte_byte (N : Nat → Nat) : AFunc := ⟨8, [.inl 2],
 .seq (
  .ops [⟨(some 2), .mov (.c (.lit (.slice none 0 0))), none⟩]) (
 .seq (
  .seq (
   .ops [⟨(some 3), .mov (.t 0), none⟩, ⟨(some 4), .eq false .pslice (.t 3) (.c (.lit (.slice none 0 0))), none⟩]) (
  .cond (.t 4) (
   .seq (
    .ops [⟨(some 2), .mov (.c (.lit (.slice none 0 0))), none⟩]) (
   .ret)) (
   .skip))) (
 .seq (
  .ops [⟨(some 5), .bslice (t_uint8 N) 1 none 0 [(.lit (.int .u8 0))] [], none⟩, ⟨(some 6), .mov (.t 0), none⟩, ⟨(some 7), .append (t_uint8 N) 1 1 (.t 5) (.t 6), none⟩, ⟨(some 2), .mov (.t 7), none⟩]) (
 .ret))), false⟩
end Go.Proofs.Eng
/- Templates of functions, as the engine takes them; numbers of functions and types by names. Printed by tm.py. -/
set_option linter.unusedVariables false
set_option maxRecDepth 100000
namespace Go.Proofs.Eng
open Go

/-- azimuth/floats.Of -/
def C_floats_Of (N : Nat → Nat) : AFunc := ⟨10, [.inl 2],
 .seq (
  .ops [⟨(some 2), .mov (.c (.lit (.int .u64 0))), none⟩]) (
 .seq (
  .seq (
   .ops [⟨(some 4), .mov (.t 0), none⟩, ⟨(some 5), .call (.c (.fn (f_math_Float64frombits N) [] [])) [(.t 4)], none⟩, ⟨(some 3), .mov (.t 5), none⟩]) (
  .seq (
   .ops [⟨(some 6), .mov (.t 3), none⟩, ⟨(some 7), .mov (.t 3), none⟩, ⟨(some 8), .eq true .pfloat (.t 6) (.t 7), none⟩]) (
  .cond (.t 8) (
   .seq (
    .ops [⟨(some 2), .mov (.c (.lit (.int .u64 9221120237041090561))), none⟩]) (
   .ret)) (
   .skip)))) (
 .seq (
  .ops [⟨(some 9), .mov (.t 0), none⟩, ⟨(some 2), .mov (.t 9), none⟩]) (
 .ret))), false⟩

def L_floats_Parse_1 (N : Nat → Nat) : AC :=
    .seq (
     .ops [⟨(some 23), .bin .lss (.t 22) (.t 21), none⟩]) (
    .seq (
     .cond (.t 23) (
      .skip) (
      .exit 0)) (
    .seq (
     .block 1 (
      .seq (
       .ops [⟨(some 24), .mov (.t 22), none⟩, ⟨(some 6), .mov (.t 24), none⟩]) (
      .seq (
       .ops [⟨(some 25), .mov (.t 0), none⟩, ⟨(some 26), .mov (.t 6), none⟩, ⟨(some 27), .sidx (.t 25) (.t 26), none⟩, ⟨(some 28), .call (.c (.fn (f_strings_IndexByte N) [] [])) [(.c (.lit (.string (mkS [48, 49, 50, 51, 52, 53, 54, 55, 56, 57, 97, 98, 99, 100, 101, 102])))), (.t 27)], none⟩, ⟨(some 7), .mov (.t 28), none⟩]) (
      .seq (
       .seq (
        .ops [⟨(some 29), .mov (.t 7), none⟩, ⟨(some 30), .bin .lss (.t 29) (.c (.lit (.int .i64 0))), none⟩]) (
       .cond (.t 30) (
        .seq (
         .ops [⟨(some 2), .mov (.c (.lit (.int .u64 0))), none⟩, ⟨(some 3), .mov (.c (.lit (.int .i64 14))), none⟩]) (
        .ret)) (
        .skip))) (
      .ops [⟨(some 31), .mov (.t 5), none⟩, ⟨(some 32), .bin .shl (.t 31) (.c (.lit (.int .u64 4))), none⟩, ⟨(some 33), .mov (.t 7), none⟩, ⟨(some 34), .conv (.toInt .u64) (.t 33), none⟩, ⟨(some 35), .bin .or (.t 32) (.t 34), none⟩, ⟨(some 5), .mov (.t 35), none⟩]))))) (
    .ops [⟨(some 36), .bin .add (.t 22) (.c (.lit (.int .i64 1))), none⟩, ⟨(some 22), .mov (.t 36), none⟩])))
def K_floats_Parse_1 (N : Nat → Nat) : AC :=
 .seq (
  .ops [⟨(some 37), .mov (.t 5), none⟩, ⟨(some 38), .call (.c (.fn (f_floats_Of N) [] [])) [(.t 37)], none⟩, ⟨(some 2), .mov (.t 38), none⟩, ⟨(some 3), .mov (.c (.lit (.int .i64 0))), none⟩]) (
 .ret)
/-- azimuth/floats.Parse -/
def C_floats_Parse (N : Nat → Nat) : AFunc := ⟨39, [.inl 2, .inl 3],
 .seq (
  .ops [⟨(some 2), .mov (.c (.lit (.int .u64 0))), none⟩, ⟨(some 3), .mov (.c (.lit (.int .i64 0))), none⟩]) (
 .seq (
  .ops [⟨(some 9), .mov (.t 0), none⟩, ⟨(some 10), .call (.c (.fn (f_strings_CutPrefix N) [] [])) [(.t 9), (.c (.lit (.string (mkS [102, 39]))))], none⟩, ⟨(some 8), .mov (.t 10), none⟩, ⟨(some 11), .extract (.t 8) 0, none⟩, ⟨(some 12), .extract (.t 8) 1, none⟩, ⟨(some 0), .mov (.t 11), none⟩, ⟨(some 4), .mov (.t 12), none⟩]) (
 .seq (
  .seq (
   .ops [⟨(some 13), .mov (.t 4), none⟩, ⟨(some 14), .un .not (.t 13), none⟩, ⟨(some 15), .mov (.t 14), none⟩, ⟨(some 16), .mov (.t 0), (some (15, false))⟩, ⟨(some 17), .lens (.t 16), (some (15, false))⟩, ⟨(some 18), .eq true .pint (.t 17) (.c (.lit (.int .i64 16))), (some (15, false))⟩, ⟨(some 19), .pick (.t 15) (.c (.lit (.bool true))) (.t 18), none⟩]) (
  .cond (.t 19) (
   .seq (
    .ops [⟨(some 2), .mov (.c (.lit (.int .u64 0))), none⟩, ⟨(some 3), .mov (.c (.lit (.int .i64 14))), none⟩]) (
   .ret)) (
   .skip))) (
 .seq (
  .ops [⟨(some 5), .mov (.c (.lit (.int .u64 0))), none⟩]) (
 .seq (
  .seq (
   .ops [⟨(some 20), .mov (.t 0), none⟩, ⟨(some 21), .lens (.t 20), none⟩, ⟨(some 22), .mov (.c (.lit (.int .i64 0))), none⟩]) (
  .block 0 (
   .loop (L_floats_Parse_1 N)))) (K_floats_Parse_1 N))))), false⟩

/-- azimuth/lexer.IsName -/
def C_lexer_IsName (N : Nat → Nat) : AFunc := ⟨22, [.inl 2],
 .seq (
  .ops [⟨(some 2), .mov (.c (.lit (.bool false))), none⟩]) (
 .seq (
  .ops [⟨(some 3), .mov (.t 0), none⟩, ⟨(some 4), .eq true .pstr (.t 3) (.c (.lit (.string (mkS [])))), none⟩, ⟨(some 5), .mov (.t 4), none⟩, ⟨(some 6), .mov (.t 0), (some (5, true))⟩, ⟨(some 7), .sidx (.t 6) (.c (.lit (.int .i64 0))), (some (5, true))⟩, ⟨(some 8), .call (.c (.fn (f_lexer_low N) [] [])) [(.t 7)], (some (5, true))⟩, ⟨(some 9), .pick (.t 5) (.t 8) (.c (.lit (.bool false))), none⟩, ⟨(some 10), .mov (.t 9), none⟩, ⟨(some 11), .mov (.t 0), (some (10, true))⟩, ⟨(some 12), .call (.c (.fn (f_lexer_run N) [] [])) [(.t 11), (.c (.fn (f_lexer_inName N) [] []))], (some (10, true))⟩, ⟨(some 13), .mov (.t 0), (some (10, true))⟩, ⟨(some 14), .lens (.t 13), (some (10, true))⟩, ⟨(some 15), .eq false .pint (.t 12) (.t 14), (some (10, true))⟩, ⟨(some 16), .pick (.t 10) (.t 15) (.c (.lit (.bool false))), none⟩, ⟨(some 17), .mov (.t 16), none⟩, ⟨(some 18), .mov (.t 0), (some (17, true))⟩, ⟨(some 19), .call (.c (.fn (f_lexer_IsWord N) [] [])) [(.t 18)], (some (17, true))⟩, ⟨(some 20), .un .not (.t 19), (some (17, true))⟩, ⟨(some 21), .pick (.t 17) (.t 20) (.c (.lit (.bool false))), none⟩, ⟨(some 2), .mov (.t 21), none⟩]) (
 .ret)), false⟩

/-- azimuth/lexer.IsWord -/
def C_lexer_IsWord (N : Nat → Nat) : AFunc := ⟨6, [.inl 2],
 .seq (
  .ops [⟨(some 2), .mov (.c (.lit (.bool false))), none⟩]) (
 .seq (
  .ops [⟨(some 3), .call (.c (.fn (f_lexer_words N) [] [])) [], none⟩, ⟨(some 4), .mov (.t 0), none⟩, ⟨(some 5), .call (.c (.fn (f_slices_Contains_sl_string_string N) [] [])) [(.t 3), (.t 4)], none⟩, ⟨(some 2), .mov (.t 5), none⟩]) (
 .ret)), false⟩

def L_lexer_Lex_1 (N : Nat → Nat) : AC :=
    .seq (
     .seq (
      .ops [⟨(some 24), .mov (.t 7), none⟩, ⟨(some 25), .mov (.t 6), none⟩, ⟨(some 26), .lens (.t 25), none⟩, ⟨(some 27), .bin .lss (.t 24) (.t 26), none⟩]) (
     .cond (.t 27) (
      .skip) (
      .exit 0))) (
    .block 1 (
     .seq (
      .ops [⟨(some 29), .mov (.t 6), none⟩, ⟨(some 30), .mov (.t 7), none⟩, ⟨(some 31), .slstr (.t 29) (some (.t 30)) none, none⟩, ⟨(some 32), .call (.c (.fn (f_lexer_one N) [] [])) [(.t 31)], none⟩, ⟨(some 28), .mov (.t 32), none⟩, ⟨(some 33), .extract (.t 28) 0, none⟩, ⟨(some 34), .extract (.t 28) 1, none⟩, ⟨(some 8), .new (t_api_Token N) (.agg [(.lit (.int .i64 0)), (.lit (.string (mkS []))), (.lit (.int .i64 0))]), none⟩, ⟨none, .store 3 (.t 8) (.t 33), none⟩, ⟨(some 9), .mov (.t 34), none⟩]) (
     .seq (
      .seq (
       .ops [⟨(some 35), .mov (.t 9), none⟩, ⟨(some 36), .eq false .pint (.t 35) (.c (.lit (.int .i64 0))), none⟩]) (
      .cond (.t 36) (
       .seq (
        .ops [⟨(some 37), .mov (.t 7), none⟩, ⟨(some 38), .build [(.lit (.int .i64 0)), (.lit (.int .i64 0)), (.lit (.string (mkS [])))] [(0, 1, (.c (.lit (.int .i64 3)))), (1, 1, (.t 37))], none⟩, ⟨(some 2), .mov (.c (.lit (.slice none 0 0))), none⟩, ⟨none, .store 3 (.t 3) (.t 38), none⟩]) (
       .ret)) (
       .skip))) (
     .seq (
      .ops [⟨(some 39), .mov (.t 7), none⟩, ⟨(some 40), .faddr 2 (.t 8), none⟩, ⟨none, .store 1 (.t 40) (.t 39), none⟩]) (
     .seq (
      .ops [⟨(some 41), .mov (.t 5), none⟩, ⟨(some 42), .load (some 3) (.t 8), none⟩, ⟨(some 43), .bslice (t_api_Token N) 3 (some 3) 1 [(.lit (.int .i64 0)), (.lit (.string (mkS []))), (.lit (.int .i64 0))] [(0, 3, (.t 42))], none⟩, ⟨(some 44), .append (t_api_Token N) 3 32 (.t 41) (.t 43), none⟩, ⟨(some 5), .mov (.t 44), none⟩]) (
     .seq (
      .ops [⟨(some 45), .mov (.t 7), none⟩, ⟨(some 46), .mov (.t 9), none⟩, ⟨(some 47), .bin .add (.t 45) (.t 46), none⟩, ⟨(some 7), .mov (.t 47), none⟩]) (
     .ops [⟨(some 48), .mov (.t 7), none⟩, ⟨(some 49), .mov (.t 6), none⟩, ⟨(some 50), .mov (.t 7), none⟩, ⟨(some 51), .slstr (.t 49) (some (.t 50)) none, none⟩, ⟨(some 52), .call (.c (.fn (f_lexer_blank N) [] [])) [(.t 51)], none⟩, ⟨(some 53), .bin .add (.t 48) (.t 52), none⟩, ⟨(some 7), .mov (.t 53), none⟩])))))))
def K_lexer_Lex_1 (N : Nat → Nat) : AC :=
 .seq (
  .ops [⟨(some 54), .mov (.t 5), none⟩, ⟨(some 55), .mov (.t 6), none⟩, ⟨(some 56), .lens (.t 55), none⟩, ⟨(some 57), .build [(.lit (.int .i64 0)), (.lit (.string (mkS []))), (.lit (.int .i64 0))] [(0, 1, (.c (.lit (.int .i64 0)))), (2, 1, (.t 56))], none⟩, ⟨(some 58), .bslice (t_api_Token N) 3 (some 3) 1 [(.lit (.int .i64 0)), (.lit (.string (mkS []))), (.lit (.int .i64 0))] [(0, 3, (.t 57))], none⟩, ⟨(some 59), .append (t_api_Token N) 3 32 (.t 54) (.t 58), none⟩, ⟨(some 60), .build [(.lit (.int .i64 0)), (.lit (.int .i64 0)), (.lit (.string (mkS [])))] [], none⟩, ⟨(some 2), .mov (.t 59), none⟩, ⟨none, .store 3 (.t 3) (.t 60), none⟩]) (
 .ret)
/-- azimuth/lexer.Lex -/
def C_lexer_Lex (N : Nat → Nat) : AFunc := ⟨61, [.inl 2, .inr (3, (some 3))],
 .seq (
  .ops [⟨(some 2), .mov (.c (.lit (.slice none 0 0))), none⟩, ⟨(some 3), .new (t_api_Diag N) (.agg [(.lit (.int .i64 0)), (.lit (.int .i64 0)), (.lit (.string (mkS [])))]), none⟩]) (
 .seq (
  .seq (
   .ops [⟨(some 10), .mov (.t 0), none⟩, ⟨(some 11), .len (.t 10), none⟩, ⟨(some 12), .bin .gtr (.t 11) (.c (.lit (.int .i64 1048576))), none⟩]) (
  .cond (.t 12) (
   .seq (
    .ops [⟨(some 13), .build [(.lit (.int .i64 0)), (.lit (.int .i64 0)), (.lit (.string (mkS [])))] [(0, 1, (.c (.lit (.int .i64 6))))], none⟩, ⟨(some 2), .mov (.c (.lit (.slice none 0 0))), none⟩, ⟨none, .store 3 (.t 3) (.t 13), none⟩]) (
   .ret)) (
   .skip))) (
 .seq (
  .seq (
   .ops [⟨(some 14), .mov (.t 0), none⟩, ⟨(some 15), .call (.c (.fn (f_runes_Bad N) [] [])) [(.t 14)], none⟩, ⟨(some 4), .mov (.t 15), none⟩]) (
  .seq (
   .ops [⟨(some 16), .mov (.t 4), none⟩, ⟨(some 17), .bin .geq (.t 16) (.c (.lit (.int .i64 0))), none⟩]) (
  .cond (.t 17) (
   .seq (
    .ops [⟨(some 18), .mov (.t 4), none⟩, ⟨(some 19), .build [(.lit (.int .i64 0)), (.lit (.int .i64 0)), (.lit (.string (mkS [])))] [(0, 1, (.c (.lit (.int .i64 2)))), (1, 1, (.t 18))], none⟩, ⟨(some 2), .mov (.c (.lit (.slice none 0 0))), none⟩, ⟨none, .store 3 (.t 3) (.t 19), none⟩]) (
   .ret)) (
   .skip)))) (
 .seq (
  .ops [⟨(some 5), .mov (.c (.lit (.slice none 0 0))), none⟩]) (
 .seq (
  .ops [⟨(some 20), .mov (.t 0), none⟩, ⟨(some 21), .conv .str (.t 20), none⟩, ⟨(some 6), .mov (.t 21), none⟩]) (
 .seq (
  .ops [⟨(some 22), .mov (.t 6), none⟩, ⟨(some 23), .call (.c (.fn (f_lexer_blank N) [] [])) [(.t 22)], none⟩, ⟨(some 7), .mov (.t 23), none⟩]) (
 .seq (
  .block 0 (
   .loop (L_lexer_Lex_1 N))) (K_lexer_Lex_1 N))))))), true⟩

def L_lexer_blank_1 (N : Nat → Nat) : AC :=
    .seq (
     .seq (
      .ops [⟨(some 4), .mov (.t 3), none⟩, ⟨(some 5), .mov (.t 0), none⟩, ⟨(some 6), .lens (.t 5), none⟩, ⟨(some 7), .bin .lss (.t 4) (.t 6), none⟩]) (
     .cond (.t 7) (
      .skip) (
      .exit 0))) (
    .block 1 (
     .block 2 (
      .seq (
       .ops [⟨(some 10), .mov (.t 0), none⟩, ⟨(some 11), .mov (.t 3), none⟩, ⟨(some 12), .sidx (.t 10) (.t 11), none⟩, ⟨(some 13), .call (.c (.fn (f_strings_IndexByte N) [] [])) [(.c (.lit (.string (mkS [32, 9, 10, 13])))), (.t 12)], none⟩, ⟨(some 14), .bin .geq (.t 13) (.c (.lit (.int .i64 0))), none⟩, ⟨(some 9), .mov (.t 14), none⟩]) (
      .cond (.t 9) (
       .ops [⟨(some 15), .mov (.t 3), none⟩, ⟨(some 16), .bin .add (.t 15) (.c (.lit (.int .i64 1))), none⟩, ⟨(some 3), .mov (.t 16), none⟩]) (
       .seq (
        .ops [⟨(some 18), .mov (.t 0), none⟩, ⟨(some 19), .mov (.t 3), none⟩, ⟨(some 20), .slstr (.t 18) (some (.t 19)) none, none⟩, ⟨(some 21), .call (.c (.fn (f_strings_HasPrefix N) [] [])) [(.t 20), (.c (.lit (.string (mkS [47, 47]))))], none⟩, ⟨(some 17), .mov (.t 21), none⟩]) (
       .cond (.t 17) (
        .ops [⟨(some 22), .mov (.t 3), none⟩, ⟨(some 23), .mov (.t 0), none⟩, ⟨(some 24), .mov (.t 3), none⟩, ⟨(some 25), .slstr (.t 23) (some (.t 24)) none, none⟩, ⟨(some 26), .call (.c (.fn (f_lexer_run N) [] [])) [(.t 25), (.c (.fn (f_lexer_blank_1 N) [] []))], none⟩, ⟨(some 27), .bin .add (.t 22) (.t 26), none⟩, ⟨(some 3), .mov (.t 27), none⟩]) (
        .seq (
         .ops [⟨(some 8), .mov (.t 3), none⟩, ⟨(some 2), .mov (.t 8), none⟩]) (
        .ret))))))))
def K_lexer_blank_1 (N : Nat → Nat) : AC :=
 .seq (
  .ops [⟨(some 28), .mov (.t 3), none⟩, ⟨(some 2), .mov (.t 28), none⟩]) (
 .ret)
/-- azimuth/lexer.blank -/
def C_lexer_blank (N : Nat → Nat) : AFunc := ⟨29, [.inl 2],
 .seq (
  .ops [⟨(some 2), .mov (.c (.lit (.int .i64 0))), none⟩]) (
 .seq (
  .ops [⟨(some 3), .mov (.c (.lit (.int .i64 0))), none⟩]) (
 .seq (
  .block 0 (
   .loop (L_lexer_blank_1 N))) (K_lexer_blank_1 N))), false⟩

/-- azimuth/lexer.blank$1 -/
def C_lexer_blank_1 (N : Nat → Nat) : AFunc := ⟨5, [.inl 2],
 .seq (
  .ops [⟨(some 2), .mov (.c (.lit (.bool false))), none⟩]) (
 .seq (
  .ops [⟨(some 3), .mov (.t 0), none⟩, ⟨(some 4), .eq true .pint (.t 3) (.c (.lit (.int .u8 10))), none⟩, ⟨(some 2), .mov (.t 4), none⟩]) (
 .ret)), false⟩

/-- azimuth/lexer.digit -/
def C_lexer_digit (N : Nat → Nat) : AFunc := ⟨9, [.inl 2],
 .seq (
  .ops [⟨(some 2), .mov (.c (.lit (.bool false))), none⟩]) (
 .seq (
  .ops [⟨(some 3), .mov (.t 0), none⟩, ⟨(some 4), .bin .geq (.t 3) (.c (.lit (.int .u8 48))), none⟩, ⟨(some 5), .mov (.t 4), none⟩, ⟨(some 6), .mov (.t 0), (some (5, true))⟩, ⟨(some 7), .bin .leq (.t 6) (.c (.lit (.int .u8 57))), (some (5, true))⟩, ⟨(some 8), .pick (.t 5) (.t 7) (.c (.lit (.bool false))), none⟩, ⟨(some 2), .mov (.t 8), none⟩]) (
 .ret)), false⟩

/-- azimuth/lexer.float -/
def C_lexer_float (N : Nat → Nat) : AFunc := ⟨19, [.inl 2, .inl 3],
 .seq (
  .ops [⟨(some 2), .mov (.c (.lit (.string (mkS [])))), none⟩, ⟨(some 3), .mov (.c (.lit (.bool false))), none⟩]) (
 .seq (
  .seq (
   .ops [⟨(some 6), .mov (.t 0), none⟩, ⟨(some 7), .lens (.t 6), none⟩, ⟨(some 8), .bin .lss (.t 7) (.c (.lit (.int .i64 18))), none⟩]) (
  .cond (.t 8) (
   .seq (
    .ops [⟨(some 2), .mov (.c (.lit (.string (mkS [])))), none⟩, ⟨(some 3), .mov (.c (.lit (.bool false))), none⟩]) (
   .ret)) (
   .skip))) (
 .seq (
  .ops [⟨(some 10), .mov (.t 0), none⟩, ⟨(some 11), .slstr (.t 10) none (some (.c (.lit (.int .i64 18)))), none⟩, ⟨(some 12), .call (.c (.fn (f_floats_Parse N) [] [])) [(.t 11)], none⟩, ⟨(some 9), .mov (.t 12), none⟩, ⟨(some 13), .extract (.t 9) 0, none⟩, ⟨(some 14), .extract (.t 9) 1, none⟩, ⟨(some 4), .mov (.t 13), none⟩, ⟨(some 5), .mov (.t 14), none⟩]) (
 .seq (
  .ops [⟨(some 15), .mov (.t 0), none⟩, ⟨(some 16), .slstr (.t 15) none (some (.c (.lit (.int .i64 18)))), none⟩, ⟨(some 17), .mov (.t 5), none⟩, ⟨(some 18), .eq false .pint (.t 17) (.c (.lit (.int .i64 0))), none⟩, ⟨(some 2), .mov (.t 16), none⟩, ⟨(some 3), .mov (.t 18), none⟩]) (
 .ret)))), false⟩

/-- azimuth/lexer.high -/
def C_lexer_high (N : Nat → Nat) : AFunc := ⟨9, [.inl 2],
 .seq (
  .ops [⟨(some 2), .mov (.c (.lit (.bool false))), none⟩]) (
 .seq (
  .ops [⟨(some 3), .mov (.t 0), none⟩, ⟨(some 4), .bin .geq (.t 3) (.c (.lit (.int .u8 65))), none⟩, ⟨(some 5), .mov (.t 4), none⟩, ⟨(some 6), .mov (.t 0), (some (5, true))⟩, ⟨(some 7), .bin .leq (.t 6) (.c (.lit (.int .u8 90))), (some (5, true))⟩, ⟨(some 8), .pick (.t 5) (.t 7) (.c (.lit (.bool false))), none⟩, ⟨(some 2), .mov (.t 8), none⟩]) (
 .ret)), false⟩

/-- azimuth/lexer.inAlias -/
def C_lexer_inAlias (N : Nat → Nat) : AFunc := ⟨17, [.inl 2],
 .seq (
  .ops [⟨(some 2), .mov (.c (.lit (.bool false))), none⟩]) (
 .seq (
  .ops [⟨(some 3), .mov (.t 0), none⟩, ⟨(some 4), .call (.c (.fn (f_lexer_high N) [] [])) [(.t 3)], none⟩, ⟨(some 5), .mov (.t 4), none⟩, ⟨(some 6), .mov (.t 0), (some (5, false))⟩, ⟨(some 7), .call (.c (.fn (f_lexer_digit N) [] [])) [(.t 6)], (some (5, false))⟩, ⟨(some 8), .pick (.t 5) (.c (.lit (.bool true))) (.t 7), none⟩, ⟨(some 9), .mov (.t 8), none⟩, ⟨(some 10), .mov (.t 0), (some (9, false))⟩, ⟨(some 11), .bin .geq (.t 10) (.c (.lit (.int .u8 97))), (some (9, false))⟩, ⟨(some 12), .mov (.t 11), (some (9, false))⟩, ⟨(some 13), .mov (.t 0), (some (12, true))⟩, ⟨(some 14), .bin .leq (.t 13) (.c (.lit (.int .u8 122))), (some (12, true))⟩, ⟨(some 15), .pick (.t 12) (.t 14) (.c (.lit (.bool false))), (some (9, false))⟩, ⟨(some 16), .pick (.t 9) (.c (.lit (.bool true))) (.t 15), none⟩, ⟨(some 2), .mov (.t 16), none⟩]) (
 .ret)), false⟩

/-- azimuth/lexer.inName -/
def C_lexer_inName (N : Nat → Nat) : AFunc := ⟨9, [.inl 2],
 .seq (
  .ops [⟨(some 2), .mov (.c (.lit (.bool false))), none⟩]) (
 .seq (
  .ops [⟨(some 3), .mov (.t 0), none⟩, ⟨(some 4), .call (.c (.fn (f_lexer_low N) [] [])) [(.t 3)], none⟩, ⟨(some 5), .mov (.t 4), none⟩, ⟨(some 6), .mov (.t 0), (some (5, false))⟩, ⟨(some 7), .call (.c (.fn (f_lexer_digit N) [] [])) [(.t 6)], (some (5, false))⟩, ⟨(some 8), .pick (.t 5) (.c (.lit (.bool true))) (.t 7), none⟩, ⟨(some 2), .mov (.t 8), none⟩]) (
 .ret)), false⟩

/-- azimuth/lexer.low -/
def C_lexer_low (N : Nat → Nat) : AFunc := ⟨13, [.inl 2],
 .seq (
  .ops [⟨(some 2), .mov (.c (.lit (.bool false))), none⟩]) (
 .seq (
  .ops [⟨(some 3), .mov (.t 0), none⟩, ⟨(some 4), .bin .geq (.t 3) (.c (.lit (.int .u8 97))), none⟩, ⟨(some 5), .mov (.t 4), none⟩, ⟨(some 6), .mov (.t 0), (some (5, true))⟩, ⟨(some 7), .bin .leq (.t 6) (.c (.lit (.int .u8 122))), (some (5, true))⟩, ⟨(some 8), .pick (.t 5) (.t 7) (.c (.lit (.bool false))), none⟩, ⟨(some 9), .mov (.t 8), none⟩, ⟨(some 10), .mov (.t 0), (some (9, false))⟩, ⟨(some 11), .eq false .pint (.t 10) (.c (.lit (.int .u8 95))), (some (9, false))⟩, ⟨(some 12), .pick (.t 9) (.c (.lit (.bool true))) (.t 11), none⟩, ⟨(some 2), .mov (.t 12), none⟩]) (
 .ret)), false⟩

/-- azimuth/lexer.number -/
def C_lexer_number (N : Nat → Nat) : AFunc := ⟨23, [.inl 2],
 .seq (
  .ops [⟨(some 2), .mov (.c (.lit (.bool false))), none⟩]) (
 .seq (
  .seq (
   .ops [⟨(some 3), .mov (.t 0), none⟩, ⟨(some 4), .lens (.t 3), none⟩, ⟨(some 5), .bin .gtr (.t 4) (.c (.lit (.int .i64 1))), none⟩, ⟨(some 6), .mov (.t 5), none⟩, ⟨(some 7), .mov (.t 0), (some (6, true))⟩, ⟨(some 8), .sidx (.t 7) (.c (.lit (.int .i64 0))), (some (6, true))⟩, ⟨(some 9), .eq false .pint (.t 8) (.c (.lit (.int .u8 48))), (some (6, true))⟩, ⟨(some 10), .pick (.t 6) (.t 9) (.c (.lit (.bool false))), none⟩]) (
  .cond (.t 10) (
   .seq (
    .ops [⟨(some 2), .mov (.c (.lit (.bool false))), none⟩]) (
   .ret)) (
   .skip))) (
 .seq (
  .ops [⟨(some 11), .mov (.t 0), none⟩, ⟨(some 12), .lens (.t 11), none⟩, ⟨(some 13), .bin .lss (.t 12) (.c (.lit (.int .i64 19))), none⟩, ⟨(some 14), .mov (.t 13), none⟩, ⟨(some 15), .mov (.t 0), (some (14, false))⟩, ⟨(some 16), .lens (.t 15), (some (14, false))⟩, ⟨(some 17), .eq false .pint (.t 16) (.c (.lit (.int .i64 19))), (some (14, false))⟩, ⟨(some 18), .mov (.t 17), (some (14, false))⟩, ⟨(some 19), .mov (.t 0), (some (18, true))⟩, ⟨(some 20), .bin .leq (.t 19) (.c (.lit (.string (mkS [57, 50, 50, 51, 51, 55, 50, 48, 51, 54, 56, 53, 52, 55, 55, 53, 56, 48, 55])))), (some (18, true))⟩, ⟨(some 21), .pick (.t 18) (.t 20) (.c (.lit (.bool false))), (some (14, false))⟩, ⟨(some 22), .pick (.t 14) (.c (.lit (.bool true))) (.t 21), none⟩, ⟨(some 2), .mov (.t 22), none⟩]) (
 .ret))), false⟩

def L_lexer_one_1 (N : Nat → Nat) : AC :=
    .seq (
     .ops [⟨(some 118), .bin .lss (.t 117) (.t 116), none⟩]) (
    .seq (
     .cond (.t 118) (
      .skip) (
      .exit 1)) (
    .seq (
     .block 2 (
      .seq (
       .ops [⟨(some 119), .iaddr 1 (.t 115) (.t 117), none⟩, ⟨(some 120), .load none (.t 119), none⟩, ⟨(some 14), .mov (.t 120), none⟩]) (
      .seq (
       .ops [⟨(some 121), .mov (.t 0), none⟩, ⟨(some 122), .mov (.t 14), none⟩, ⟨(some 123), .call (.c (.fn (f_strings_HasPrefix N) [] [])) [(.t 121), (.t 122)], none⟩]) (
      .cond (.t 123) (
       .seq (
        .ops [⟨(some 124), .mov (.t 14), none⟩, ⟨(some 125), .build [(.lit (.int .i64 0)), (.lit (.string (mkS []))), (.lit (.int .i64 0))] [(0, 1, (.c (.lit (.int .i64 8)))), (1, 1, (.t 124))], none⟩, ⟨(some 126), .mov (.t 14), none⟩, ⟨(some 127), .lens (.t 126), none⟩, ⟨none, .store 3 (.t 2) (.t 125), none⟩, ⟨(some 3), .mov (.t 127), none⟩]) (
       .ret)) (
       .skip))))) (
    .ops [⟨(some 128), .bin .add (.t 117) (.c (.lit (.int .i64 1))), none⟩, ⟨(some 117), .mov (.t 128), none⟩])))
def K_lexer_one_1 (N : Nat → Nat) : AC :=
 .seq (
  .ops [⟨(some 129), .build [(.lit (.int .i64 0)), (.lit (.string (mkS []))), (.lit (.int .i64 0))] [], none⟩, ⟨none, .store 3 (.t 2) (.t 129), none⟩, ⟨(some 3), .mov (.c (.lit (.int .i64 0))), none⟩]) (
 .ret)
/-- azimuth/lexer.one -/
def C_lexer_one (N : Nat → Nat) : AFunc := ⟨130, [.inr (2, (some 3)), .inl 3],
 .seq (
  .ops [⟨(some 2), .new (t_api_Token N) (.agg [(.lit (.int .i64 0)), (.lit (.string (mkS []))), (.lit (.int .i64 0))]), none⟩, ⟨(some 3), .mov (.c (.lit (.int .i64 0))), none⟩]) (
 .seq (
  .ops [⟨(some 15), .mov (.t 0), none⟩, ⟨(some 16), .sidx (.t 15) (.c (.lit (.int .i64 0))), none⟩, ⟨(some 4), .mov (.t 16), none⟩]) (
 .seq (
  .block 0 (
   .seq (
    .ops [⟨(some 18), .mov (.t 0), none⟩, ⟨(some 19), .call (.c (.fn (f_strings_HasPrefix N) [] [])) [(.t 18), (.c (.lit (.string (mkS [102, 39]))))], none⟩, ⟨(some 17), .mov (.t 19), none⟩]) (
   .cond (.t 17) (
    .seq (
     .ops [⟨(some 21), .mov (.t 0), none⟩, ⟨(some 22), .call (.c (.fn (f_lexer_float N) [] [])) [(.t 21)], none⟩, ⟨(some 20), .mov (.t 22), none⟩, ⟨(some 23), .extract (.t 20) 0, none⟩, ⟨(some 24), .extract (.t 20) 1, none⟩, ⟨(some 5), .mov (.t 23), none⟩, ⟨(some 6), .mov (.t 24), none⟩]) (
    .seq (
     .seq (
      .ops [⟨(some 25), .mov (.t 6), none⟩, ⟨(some 26), .un .not (.t 25), none⟩]) (
     .cond (.t 26) (
      .seq (
       .ops [⟨(some 27), .build [(.lit (.int .i64 0)), (.lit (.string (mkS []))), (.lit (.int .i64 0))] [], none⟩, ⟨none, .store 3 (.t 2) (.t 27), none⟩, ⟨(some 3), .mov (.c (.lit (.int .i64 0))), none⟩]) (
      .ret)) (
      .skip))) (
    .seq (
     .ops [⟨(some 28), .mov (.t 5), none⟩, ⟨(some 29), .build [(.lit (.int .i64 0)), (.lit (.string (mkS []))), (.lit (.int .i64 0))] [(0, 1, (.c (.lit (.int .i64 5)))), (1, 1, (.t 28))], none⟩, ⟨(some 30), .mov (.t 5), none⟩, ⟨(some 31), .lens (.t 30), none⟩, ⟨none, .store 3 (.t 2) (.t 29), none⟩, ⟨(some 3), .mov (.t 31), none⟩]) (
    .ret)))) (
    .seq (
     .ops [⟨(some 33), .mov (.t 4), none⟩, ⟨(some 34), .call (.c (.fn (f_lexer_low N) [] [])) [(.t 33)], none⟩, ⟨(some 32), .mov (.t 34), none⟩]) (
    .cond (.t 32) (
     .seq (
      .ops [⟨(some 35), .mov (.t 0), none⟩, ⟨(some 36), .call (.c (.fn (f_lexer_run N) [] [])) [(.t 35), (.c (.fn (f_lexer_inName N) [] []))], none⟩, ⟨(some 7), .mov (.t 36), none⟩]) (
     .seq (
      .seq (
       .ops [⟨(some 37), .mov (.t 0), none⟩, ⟨(some 38), .mov (.t 7), none⟩, ⟨(some 39), .slstr (.t 37) none (some (.t 38)), none⟩, ⟨(some 40), .call (.c (.fn (f_lexer_IsWord N) [] [])) [(.t 39)], none⟩]) (
      .cond (.t 40) (
       .seq (
        .ops [⟨(some 41), .mov (.t 0), none⟩, ⟨(some 42), .mov (.t 7), none⟩, ⟨(some 43), .slstr (.t 41) none (some (.t 42)), none⟩, ⟨(some 44), .build [(.lit (.int .i64 0)), (.lit (.string (mkS []))), (.lit (.int .i64 0))] [(0, 1, (.c (.lit (.int .i64 7)))), (1, 1, (.t 43))], none⟩, ⟨(some 45), .mov (.t 7), none⟩, ⟨none, .store 3 (.t 2) (.t 44), none⟩, ⟨(some 3), .mov (.t 45), none⟩]) (
       .ret)) (
       .skip))) (
     .seq (
      .ops [⟨(some 46), .mov (.t 0), none⟩, ⟨(some 47), .mov (.t 7), none⟩, ⟨(some 48), .slstr (.t 46) none (some (.t 47)), none⟩, ⟨(some 49), .build [(.lit (.int .i64 0)), (.lit (.string (mkS []))), (.lit (.int .i64 0))] [(0, 1, (.c (.lit (.int .i64 1)))), (1, 1, (.t 48))], none⟩, ⟨(some 50), .mov (.t 7), none⟩, ⟨none, .store 3 (.t 2) (.t 49), none⟩, ⟨(some 3), .mov (.t 50), none⟩]) (
     .ret)))) (
     .seq (
      .ops [⟨(some 52), .mov (.t 4), none⟩, ⟨(some 53), .call (.c (.fn (f_lexer_high N) [] [])) [(.t 52)], none⟩, ⟨(some 51), .mov (.t 53), none⟩]) (
     .cond (.t 51) (
      .seq (
       .ops [⟨(some 54), .mov (.t 0), none⟩, ⟨(some 55), .call (.c (.fn (f_lexer_run N) [] [])) [(.t 54), (.c (.fn (f_lexer_inAlias N) [] []))], none⟩, ⟨(some 8), .mov (.t 55), none⟩]) (
      .seq (
       .ops [⟨(some 56), .mov (.t 0), none⟩, ⟨(some 57), .mov (.t 8), none⟩, ⟨(some 58), .slstr (.t 56) none (some (.t 57)), none⟩, ⟨(some 59), .build [(.lit (.int .i64 0)), (.lit (.string (mkS []))), (.lit (.int .i64 0))] [(0, 1, (.c (.lit (.int .i64 2)))), (1, 1, (.t 58))], none⟩, ⟨(some 60), .mov (.t 8), none⟩, ⟨none, .store 3 (.t 2) (.t 59), none⟩, ⟨(some 3), .mov (.t 60), none⟩]) (
      .ret))) (
      .seq (
       .ops [⟨(some 62), .mov (.t 4), none⟩, ⟨(some 63), .call (.c (.fn (f_lexer_digit N) [] [])) [(.t 62)], none⟩, ⟨(some 61), .mov (.t 63), none⟩]) (
      .cond (.t 61) (
       .seq (
        .ops [⟨(some 64), .mov (.t 0), none⟩, ⟨(some 65), .call (.c (.fn (f_lexer_run N) [] [])) [(.t 64), (.c (.fn (f_lexer_digit N) [] []))], none⟩, ⟨(some 9), .mov (.t 65), none⟩]) (
       .seq (
        .seq (
         .ops [⟨(some 66), .mov (.t 0), none⟩, ⟨(some 67), .mov (.t 9), none⟩, ⟨(some 68), .slstr (.t 66) none (some (.t 67)), none⟩, ⟨(some 69), .call (.c (.fn (f_lexer_number N) [] [])) [(.t 68)], none⟩, ⟨(some 70), .un .not (.t 69), none⟩]) (
        .cond (.t 70) (
         .seq (
          .ops [⟨(some 71), .build [(.lit (.int .i64 0)), (.lit (.string (mkS []))), (.lit (.int .i64 0))] [], none⟩, ⟨none, .store 3 (.t 2) (.t 71), none⟩, ⟨(some 3), .mov (.c (.lit (.int .i64 0))), none⟩]) (
         .ret)) (
         .skip))) (
       .seq (
        .ops [⟨(some 72), .mov (.t 0), none⟩, ⟨(some 73), .mov (.t 9), none⟩, ⟨(some 74), .slstr (.t 72) none (some (.t 73)), none⟩, ⟨(some 75), .build [(.lit (.int .i64 0)), (.lit (.string (mkS []))), (.lit (.int .i64 0))] [(0, 1, (.c (.lit (.int .i64 4)))), (1, 1, (.t 74))], none⟩, ⟨(some 76), .mov (.t 9), none⟩, ⟨none, .store 3 (.t 2) (.t 75), none⟩, ⟨(some 3), .mov (.t 76), none⟩]) (
       .ret)))) (
       .seq (
        .ops [⟨(some 78), .mov (.t 4), none⟩, ⟨(some 79), .eq false .pint (.t 78) (.c (.lit (.int .u8 35))), none⟩, ⟨(some 80), .mov (.t 79), none⟩, ⟨(some 81), .mov (.t 0), (some (80, true))⟩, ⟨(some 82), .lens (.t 81), (some (80, true))⟩, ⟨(some 83), .bin .gtr (.t 82) (.c (.lit (.int .i64 1))), (some (80, true))⟩, ⟨(some 84), .pick (.t 80) (.t 83) (.c (.lit (.bool false))), none⟩, ⟨(some 85), .mov (.t 84), none⟩, ⟨(some 86), .mov (.t 0), (some (85, true))⟩, ⟨(some 87), .sidx (.t 86) (.c (.lit (.int .i64 1))), (some (85, true))⟩, ⟨(some 88), .call (.c (.fn (f_lexer_low N) [] [])) [(.t 87)], (some (85, true))⟩, ⟨(some 89), .pick (.t 85) (.t 88) (.c (.lit (.bool false))), none⟩, ⟨(some 77), .mov (.t 89), none⟩]) (
       .cond (.t 77) (
        .seq (
         .ops [⟨(some 90), .mov (.t 0), none⟩, ⟨(some 91), .slstr (.t 90) (some (.c (.lit (.int .i64 1)))) none, none⟩, ⟨(some 92), .call (.c (.fn (f_lexer_run N) [] [])) [(.t 91), (.c (.fn (f_lexer_inName N) [] []))], none⟩, ⟨(some 93), .bin .add (.c (.lit (.int .i64 1))) (.t 92), none⟩, ⟨(some 10), .mov (.t 93), none⟩]) (
        .seq (
         .ops [⟨(some 94), .mov (.t 0), none⟩, ⟨(some 95), .mov (.t 10), none⟩, ⟨(some 96), .slstr (.t 94) (some (.c (.lit (.int .i64 1)))) (some (.t 95)), none⟩, ⟨(some 97), .build [(.lit (.int .i64 0)), (.lit (.string (mkS []))), (.lit (.int .i64 0))] [(0, 1, (.c (.lit (.int .i64 3)))), (1, 1, (.t 96))], none⟩, ⟨(some 98), .mov (.t 10), none⟩, ⟨none, .store 3 (.t 2) (.t 97), none⟩, ⟨(some 3), .mov (.t 98), none⟩]) (
        .ret))) (
        .seq (
         .ops [⟨(some 100), .mov (.t 4), none⟩, ⟨(some 101), .eq false .pint (.t 100) (.c (.lit (.int .u8 34))), none⟩, ⟨(some 99), .mov (.t 101), none⟩]) (
        .cond (.t 99) (
         .seq (
          .ops [⟨(some 103), .mov (.t 0), none⟩, ⟨(some 104), .slstr (.t 103) (some (.c (.lit (.int .i64 1)))) none, none⟩, ⟨(some 105), .call (.c (.fn (f_lexer_text N) [] [])) [(.t 104)], none⟩, ⟨(some 102), .mov (.t 105), none⟩, ⟨(some 106), .extract (.t 102) 0, none⟩, ⟨(some 107), .extract (.t 102) 1, none⟩, ⟨(some 11), .mov (.t 106), none⟩, ⟨(some 12), .mov (.t 107), none⟩]) (
         .seq (
          .seq (
           .ops [⟨(some 108), .mov (.t 12), none⟩, ⟨(some 109), .bin .lss (.t 108) (.c (.lit (.int .i64 0))), none⟩]) (
          .cond (.t 109) (
           .seq (
            .ops [⟨(some 110), .build [(.lit (.int .i64 0)), (.lit (.string (mkS []))), (.lit (.int .i64 0))] [], none⟩, ⟨none, .store 3 (.t 2) (.t 110), none⟩, ⟨(some 3), .mov (.c (.lit (.int .i64 0))), none⟩]) (
           .ret)) (
           .skip))) (
         .seq (
          .ops [⟨(some 111), .mov (.t 11), none⟩, ⟨(some 112), .build [(.lit (.int .i64 0)), (.lit (.string (mkS []))), (.lit (.int .i64 0))] [(0, 1, (.c (.lit (.int .i64 6)))), (1, 1, (.t 111))], none⟩, ⟨(some 113), .mov (.t 12), none⟩, ⟨(some 114), .bin .add (.t 113) (.c (.lit (.int .i64 1))), none⟩, ⟨none, .store 3 (.t 2) (.t 112), none⟩, ⟨(some 3), .mov (.t 114), none⟩]) (
         .ret)))) (
         .skip)))))))))))))) (
 .seq (
  .seq (
   .ops [⟨(some 115), .call (.c (.fn (f_lexer_signs N) [] [])) [], none⟩, ⟨(some 116), .len (.t 115), none⟩, ⟨(some 117), .mov (.c (.lit (.int .i64 0))), none⟩]) (
  .block 1 (
   .loop (L_lexer_one_1 N)))) (K_lexer_one_1 N)))), false⟩

def L_lexer_run_1 (N : Nat → Nat) : AC :=
    .seq (
     .seq (
      .ops [⟨(some 6), .mov (.t 5), none⟩, ⟨(some 7), .mov (.t 0), none⟩, ⟨(some 8), .lens (.t 7), none⟩, ⟨(some 9), .bin .lss (.t 6) (.t 8), none⟩, ⟨(some 10), .mov (.t 9), none⟩, ⟨(some 11), .mov (.t 1), (some (10, true))⟩, ⟨(some 12), .mov (.t 0), (some (10, true))⟩, ⟨(some 13), .mov (.t 5), (some (10, true))⟩, ⟨(some 14), .sidx (.t 12) (.t 13), (some (10, true))⟩, ⟨(some 15), .call (.t 11) [(.t 14)], (some (10, true))⟩, ⟨(some 16), .pick (.t 10) (.t 15) (.c (.lit (.bool false))), none⟩]) (
     .cond (.t 16) (
      .skip) (
      .exit 0))) (
    .block 1 (
     .ops [⟨(some 17), .mov (.t 5), none⟩, ⟨(some 18), .bin .add (.t 17) (.c (.lit (.int .i64 1))), none⟩, ⟨(some 5), .mov (.t 18), none⟩]))
def K_lexer_run_1 (N : Nat → Nat) : AC :=
 .seq (
  .ops [⟨(some 19), .mov (.t 5), none⟩, ⟨(some 4), .mov (.t 19), none⟩]) (
 .ret)
/-- azimuth/lexer.run -/
def C_lexer_run (N : Nat → Nat) : AFunc := ⟨20, [.inl 4],
 .seq (
  .ops [⟨(some 4), .mov (.c (.lit (.int .i64 0))), none⟩]) (
 .seq (
  .ops [⟨(some 5), .mov (.c (.lit (.int .i64 0))), none⟩]) (
 .seq (
  .block 0 (
   .loop (L_lexer_run_1 N))) (K_lexer_run_1 N))), false⟩

/-- azimuth/lexer.signs -/
def C_lexer_signs (N : Nat → Nat) : AFunc := ⟨2, [.inl 0],
 .seq (
  .ops [⟨(some 0), .mov (.c (.lit (.slice none 0 0))), none⟩]) (
 .seq (
  .ops [⟨(some 1), .bslice (t_string N) 1 none 27 [(.lit (.string (mkS [])))] [(0, 1, (.c (.lit (.string (mkS [61, 62]))))), (1, 1, (.c (.lit (.string (mkS [45, 62]))))), (2, 1, (.c (.lit (.string (mkS [61, 61]))))), (3, 1, (.c (.lit (.string (mkS [46, 46]))))), (4, 1, (.c (.lit (.string (mkS [43, 46]))))), (5, 1, (.c (.lit (.string (mkS [45, 46]))))), (6, 1, (.c (.lit (.string (mkS [42, 46]))))), (7, 1, (.c (.lit (.string (mkS [47, 46]))))), (8, 1, (.c (.lit (.string (mkS [60, 46]))))), (9, 1, (.c (.lit (.string (mkS [40]))))), (10, 1, (.c (.lit (.string (mkS [41]))))), (11, 1, (.c (.lit (.string (mkS [123]))))), (12, 1, (.c (.lit (.string (mkS [125]))))), (13, 1, (.c (.lit (.string (mkS [91]))))), (14, 1, (.c (.lit (.string (mkS [93]))))), (15, 1, (.c (.lit (.string (mkS [44]))))), (16, 1, (.c (.lit (.string (mkS [59]))))), (17, 1, (.c (.lit (.string (mkS [58]))))), (18, 1, (.c (.lit (.string (mkS [46]))))), (19, 1, (.c (.lit (.string (mkS [61]))))), (20, 1, (.c (.lit (.string (mkS [124]))))), (21, 1, (.c (.lit (.string (mkS [43]))))), (22, 1, (.c (.lit (.string (mkS [45]))))), (23, 1, (.c (.lit (.string (mkS [42]))))), (24, 1, (.c (.lit (.string (mkS [47]))))), (25, 1, (.c (.lit (.string (mkS [60]))))), (26, 1, (.c (.lit (.string (mkS [94])))))], none⟩, ⟨(some 0), .mov (.t 1), none⟩]) (
 .ret)), true⟩

def L_lexer_text_1 (N : Nat → Nat) : AC :=
    .seq (
     .seq (
      .ops [⟨(some 8), .mov (.t 5), none⟩, ⟨(some 9), .mov (.t 0), none⟩, ⟨(some 10), .lens (.t 9), none⟩, ⟨(some 11), .bin .lss (.t 8) (.t 10), none⟩]) (
     .cond (.t 11) (
      .skip) (
      .exit 0))) (
    .seq (
     .block 1 (
      .seq (
       .ops [⟨(some 14), .mov (.t 0), none⟩, ⟨(some 15), .mov (.t 5), none⟩, ⟨(some 16), .sidx (.t 14) (.t 15), none⟩, ⟨(some 6), .mov (.t 16), none⟩]) (
      .block 2 (
       .seq (
        .ops [⟨(some 35), .mov (.t 6), none⟩, ⟨(some 36), .eq false .pint (.t 35) (.c (.lit (.int .u8 34))), none⟩, ⟨(some 34), .mov (.t 36), none⟩]) (
       .cond (.t 34) (
        .seq (
         .ops [⟨(some 37), .mov (.t 4), none⟩, ⟨(some 38), .conv .str (.t 37), none⟩, ⟨(some 39), .mov (.t 5), none⟩, ⟨(some 40), .bin .add (.t 39) (.c (.lit (.int .i64 1))), none⟩, ⟨(some 2), .mov (.t 38), none⟩, ⟨(some 3), .mov (.t 40), none⟩]) (
        .ret)) (
        .seq (
         .ops [⟨(some 42), .mov (.t 6), none⟩, ⟨(some 43), .bin .lss (.t 42) (.c (.lit (.int .u8 32))), none⟩, ⟨(some 41), .mov (.t 43), none⟩]) (
        .cond (.t 41) (
         .seq (
          .ops [⟨(some 2), .mov (.c (.lit (.string (mkS [])))), none⟩, ⟨(some 3), .mov (.c (.lit (.int .i64 (-1)))), none⟩]) (
         .ret)) (
         .seq (
          .ops [⟨(some 45), .mov (.t 6), none⟩, ⟨(some 46), .eq true .pint (.t 45) (.c (.lit (.int .u8 92))), none⟩, ⟨(some 44), .mov (.t 46), none⟩]) (
         .cond (.t 44) (
          .ops [⟨(some 47), .mov (.t 4), none⟩, ⟨(some 48), .mov (.t 6), none⟩, ⟨(some 49), .bslice (t_uint8 N) 1 none 1 [(.lit (.int .u8 0))] [(0, 1, (.t 48))], none⟩, ⟨(some 50), .append (t_uint8 N) 1 1 (.t 47) (.t 49), none⟩, ⟨(some 4), .mov (.t 50), none⟩]) (
          .seq (
           .ops [⟨(some 17), .mov (.t 5), none⟩, ⟨(some 18), .bin .add (.t 17) (.c (.lit (.int .i64 1))), none⟩, ⟨(some 5), .mov (.t 18), none⟩]) (
          .seq (
           .ops [⟨(some 7), .mov (.c (.lit (.int .i64 (-1)))), none⟩]) (
          .seq (
           .seq (
            .ops [⟨(some 19), .mov (.t 5), none⟩, ⟨(some 20), .mov (.t 0), none⟩, ⟨(some 21), .lens (.t 20), none⟩, ⟨(some 22), .bin .lss (.t 19) (.t 21), none⟩]) (
           .cond (.t 22) (
            .ops [⟨(some 23), .mov (.t 0), none⟩, ⟨(some 24), .mov (.t 5), none⟩, ⟨(some 25), .sidx (.t 23) (.t 24), none⟩, ⟨(some 26), .call (.c (.fn (f_strings_IndexByte N) [] [])) [(.c (.lit (.string (mkS [34, 92, 110])))), (.t 25)], none⟩, ⟨(some 7), .mov (.t 26), none⟩]) (
            .skip))) (
          .seq (
           .seq (
            .ops [⟨(some 27), .mov (.t 7), none⟩, ⟨(some 28), .bin .lss (.t 27) (.c (.lit (.int .i64 0))), none⟩]) (
           .cond (.t 28) (
            .seq (
             .ops [⟨(some 2), .mov (.c (.lit (.string (mkS [])))), none⟩, ⟨(some 3), .mov (.c (.lit (.int .i64 (-1)))), none⟩]) (
            .ret)) (
            .skip))) (
          .ops [⟨(some 29), .mov (.t 4), none⟩, ⟨(some 30), .mov (.t 7), none⟩, ⟨(some 31), .sidx (.c (.lit (.string (mkS [34, 92, 10])))) (.t 30), none⟩, ⟨(some 32), .bslice (t_uint8 N) 1 none 1 [(.lit (.int .u8 0))] [(0, 1, (.t 31))], none⟩, ⟨(some 33), .append (t_uint8 N) 1 1 (.t 29) (.t 32), none⟩, ⟨(some 4), .mov (.t 33), none⟩])))))))))))))) (
    .ops [⟨(some 12), .mov (.t 5), none⟩, ⟨(some 13), .bin .add (.t 12) (.c (.lit (.int .i64 1))), none⟩, ⟨(some 5), .mov (.t 13), none⟩]))
def K_lexer_text_1 (N : Nat → Nat) : AC :=
 .seq (
  .ops [⟨(some 2), .mov (.c (.lit (.string (mkS [])))), none⟩, ⟨(some 3), .mov (.c (.lit (.int .i64 (-1)))), none⟩]) (
 .ret)
/-- azimuth/lexer.text -/
def C_lexer_text (N : Nat → Nat) : AFunc := ⟨51, [.inl 2, .inl 3],
 .seq (
  .ops [⟨(some 2), .mov (.c (.lit (.string (mkS [])))), none⟩, ⟨(some 3), .mov (.c (.lit (.int .i64 0))), none⟩]) (
 .seq (
  .ops [⟨(some 4), .mov (.c (.lit (.slice none 0 0))), none⟩]) (
 .seq (
  .seq (
   .ops [⟨(some 5), .mov (.c (.lit (.int .i64 0))), none⟩]) (
  .block 0 (
   .loop (L_lexer_text_1 N)))) (K_lexer_text_1 N))), false⟩

/-- azimuth/lexer.words -/
def C_lexer_words (N : Nat → Nat) : AFunc := ⟨2, [.inl 0],
 .seq (
  .ops [⟨(some 0), .mov (.c (.lit (.slice none 0 0))), none⟩]) (
 .seq (
  .ops [⟨(some 1), .bslice (t_string N) 1 none 20 [(.lit (.string (mkS [])))] [(0, 1, (.c (.lit (.string (mkS [102, 117, 110]))))), (1, 1, (.c (.lit (.string (mkS [108, 101, 116]))))), (2, 1, (.c (.lit (.string (mkS [114, 101, 99]))))), (3, 1, (.c (.lit (.string (mkS [105, 110]))))), (4, 1, (.c (.lit (.string (mkS [105, 102]))))), (5, 1, (.c (.lit (.string (mkS [116, 104, 101, 110]))))), (6, 1, (.c (.lit (.string (mkS [101, 108, 115, 101]))))), (7, 1, (.c (.lit (.string (mkS [99, 97, 115, 101]))))), (8, 1, (.c (.lit (.string (mkS [111, 102]))))), (9, 1, (.c (.lit (.string (mkS [101, 110, 100]))))), (10, 1, (.c (.lit (.string (mkS [116, 114, 117, 101]))))), (11, 1, (.c (.lit (.string (mkS [102, 97, 108, 115, 101]))))), (12, 1, (.c (.lit (.string (mkS [105, 110, 116]))))), (13, 1, (.c (.lit (.string (mkS [98, 111, 111, 108]))))), (14, 1, (.c (.lit (.string (mkS [115, 116, 114]))))), (15, 1, (.c (.lit (.string (mkS [102, 108, 111, 97, 116]))))), (16, 1, (.c (.lit (.string (mkS [100, 121, 110]))))), (17, 1, (.c (.lit (.string (mkS [97, 110, 121]))))), (18, 1, (.c (.lit (.string (mkS [110, 111, 110, 101]))))), (19, 1, (.c (.lit (.string (mkS [116, 121, 112, 101])))))], none⟩, ⟨(some 0), .mov (.t 1), none⟩]) (
 .ret)), true⟩

/-- internal/stringslite.CutPrefix -/
def C_internal_stringslite_CutPrefix (N : Nat → Nat) : AFunc := ⟨15, [.inl 4, .inl 5],
 .seq (
  .ops [⟨(some 4), .mov (.c (.lit (.string (mkS [])))), none⟩, ⟨(some 5), .mov (.c (.lit (.bool false))), none⟩]) (
 .seq (
  .seq (
   .ops [⟨(some 6), .mov (.t 0), none⟩, ⟨(some 7), .mov (.t 1), none⟩, ⟨(some 8), .call (.c (.fn (f_internal_stringslite_HasPrefix N) [] [])) [(.t 6), (.t 7)], none⟩, ⟨(some 9), .un .not (.t 8), none⟩]) (
  .cond (.t 9) (
   .seq (
    .ops [⟨(some 10), .mov (.t 0), none⟩, ⟨(some 4), .mov (.t 10), none⟩, ⟨(some 5), .mov (.c (.lit (.bool false))), none⟩]) (
   .ret)) (
   .skip))) (
 .seq (
  .ops [⟨(some 11), .mov (.t 0), none⟩, ⟨(some 12), .mov (.t 1), none⟩, ⟨(some 13), .lens (.t 12), none⟩, ⟨(some 14), .slstr (.t 11) (some (.t 13)) none, none⟩, ⟨(some 4), .mov (.t 14), none⟩, ⟨(some 5), .mov (.c (.lit (.bool true))), none⟩]) (
 .ret))), false⟩

/-- internal/stringslite.HasPrefix -/
def C_internal_stringslite_HasPrefix (N : Nat → Nat) : AFunc := ⟨18, [.inl 4],
 .seq (
  .ops [⟨(some 4), .mov (.c (.lit (.bool false))), none⟩]) (
 .seq (
  .ops [⟨(some 5), .mov (.t 0), none⟩, ⟨(some 6), .lens (.t 5), none⟩, ⟨(some 7), .mov (.t 1), none⟩, ⟨(some 8), .lens (.t 7), none⟩, ⟨(some 9), .bin .geq (.t 6) (.t 8), none⟩, ⟨(some 10), .mov (.t 9), none⟩, ⟨(some 11), .mov (.t 0), (some (10, true))⟩, ⟨(some 12), .mov (.t 1), (some (10, true))⟩, ⟨(some 13), .lens (.t 12), (some (10, true))⟩, ⟨(some 14), .slstr (.t 11) none (some (.t 13)), (some (10, true))⟩, ⟨(some 15), .mov (.t 1), (some (10, true))⟩, ⟨(some 16), .eq false .pstr (.t 14) (.t 15), (some (10, true))⟩, ⟨(some 17), .pick (.t 10) (.t 16) (.c (.lit (.bool false))), none⟩, ⟨(some 4), .mov (.t 17), none⟩]) (
 .ret)), false⟩

/-- internal/stringslite.IndexByte -/
def C_internal_stringslite_IndexByte (N : Nat → Nat) : AFunc := ⟨8, [.inl 4],
 .seq (
  .ops [⟨(some 4), .mov (.c (.lit (.int .i64 0))), none⟩]) (
 .seq (
  .ops [⟨(some 5), .mov (.t 0), none⟩, ⟨(some 6), .mov (.t 1), none⟩, ⟨(some 7), .call (.c (.fn (f_internal_bytealg_IndexByteString N) [] [])) [(.t 5), (.t 6)], none⟩, ⟨(some 4), .mov (.t 7), none⟩]) (
 .ret)), false⟩

/-- slices.Contains[[]string,string] -/
def C_slices_Contains_sl_string_string (N : Nat → Nat) : AFunc := ⟨9, [.inl 4],
 .seq (
  .ops [⟨(some 4), .mov (.c (.lit (.bool false))), none⟩]) (
 .seq (
  .ops [⟨(some 5), .mov (.t 0), none⟩, ⟨(some 6), .mov (.t 1), none⟩, ⟨(some 7), .call (.c (.fn (f_slices_Index_sl_string_string N) [] [])) [(.t 5), (.t 6)], none⟩, ⟨(some 8), .bin .geq (.t 7) (.c (.lit (.int .i64 0))), none⟩, ⟨(some 4), .mov (.t 8), none⟩]) (
 .ret)), false⟩

def L_slices_Index_sl_string_string_1 (N : Nat → Nat) : AC :=
    .seq (
     .ops [⟨(some 9), .bin .lss (.t 8) (.t 7), none⟩]) (
    .seq (
     .cond (.t 9) (
      .skip) (
      .exit 0)) (
    .seq (
     .block 1 (
      .seq (
       .ops [⟨(some 10), .mov (.t 8), none⟩, ⟨(some 5), .mov (.t 10), none⟩]) (
      .seq (
       .ops [⟨(some 11), .mov (.t 1), none⟩, ⟨(some 12), .mov (.t 0), none⟩, ⟨(some 13), .mov (.t 5), none⟩, ⟨(some 14), .iaddr 1 (.t 12) (.t 13), none⟩, ⟨(some 15), .load none (.t 14), none⟩, ⟨(some 16), .eq false .pstr (.t 11) (.t 15), none⟩]) (
      .cond (.t 16) (
       .seq (
        .ops [⟨(some 17), .mov (.t 5), none⟩, ⟨(some 4), .mov (.t 17), none⟩]) (
       .ret)) (
       .skip))))) (
    .ops [⟨(some 18), .bin .add (.t 8) (.c (.lit (.int .i64 1))), none⟩, ⟨(some 8), .mov (.t 18), none⟩])))
def K_slices_Index_sl_string_string_1 (N : Nat → Nat) : AC :=
 .seq (
  .ops [⟨(some 4), .mov (.c (.lit (.int .i64 (-1)))), none⟩]) (
 .ret)
/-- slices.Index[[]string,string] -/
def C_slices_Index_sl_string_string (N : Nat → Nat) : AFunc := ⟨19, [.inl 4],
 .seq (
  .ops [⟨(some 4), .mov (.c (.lit (.int .i64 0))), none⟩]) (
 .seq (
  .seq (
   .ops [⟨(some 6), .mov (.t 0), none⟩, ⟨(some 7), .len (.t 6), none⟩, ⟨(some 8), .mov (.c (.lit (.int .i64 0))), none⟩]) (
  .block 0 (
   .loop (L_slices_Index_sl_string_string_1 N)))) (K_slices_Index_sl_string_string_1 N)), false⟩

/-- strings.CutPrefix -/
def C_strings_CutPrefix (N : Nat → Nat) : AFunc := ⟨11, [.inl 4, .inl 5],
 .seq (
  .ops [⟨(some 4), .mov (.c (.lit (.string (mkS [])))), none⟩, ⟨(some 5), .mov (.c (.lit (.bool false))), none⟩]) (
 .seq (
  .ops [⟨(some 6), .mov (.t 0), none⟩, ⟨(some 7), .mov (.t 1), none⟩, ⟨(some 8), .call (.c (.fn (f_internal_stringslite_CutPrefix N) [] [])) [(.t 6), (.t 7)], none⟩, ⟨(some 9), .extract (.t 8) 0, none⟩, ⟨(some 10), .extract (.t 8) 1, none⟩, ⟨(some 4), .mov (.t 9), none⟩, ⟨(some 5), .mov (.t 10), none⟩]) (
 .ret)), false⟩

/-- strings.HasPrefix -/
def C_strings_HasPrefix (N : Nat → Nat) : AFunc := ⟨8, [.inl 4],
 .seq (
  .ops [⟨(some 4), .mov (.c (.lit (.bool false))), none⟩]) (
 .seq (
  .ops [⟨(some 5), .mov (.t 0), none⟩, ⟨(some 6), .mov (.t 1), none⟩, ⟨(some 7), .call (.c (.fn (f_internal_stringslite_HasPrefix N) [] [])) [(.t 5), (.t 6)], none⟩, ⟨(some 4), .mov (.t 7), none⟩]) (
 .ret)), false⟩

/-- strings.IndexByte -/
def C_strings_IndexByte (N : Nat → Nat) : AFunc := ⟨8, [.inl 4],
 .seq (
  .ops [⟨(some 4), .mov (.c (.lit (.int .i64 0))), none⟩]) (
 .seq (
  .ops [⟨(some 5), .mov (.t 0), none⟩, ⟨(some 6), .mov (.t 1), none⟩, ⟨(some 7), .call (.c (.fn (f_internal_stringslite_IndexByte N) [] [])) [(.t 5), (.t 6)], none⟩, ⟨(some 4), .mov (.t 7), none⟩]) (
 .ret)), false⟩
end Go.Proofs.Eng
/- Texts: places, cuts; what the library's functions of texts tell, run by the engine. -/
set_option linter.unusedVariables false
set_option linter.unusedSimpArgs false
set_option maxRecDepth 100000
namespace Go.Proofs.Eng
open Go
section
variable {Γ : Sums} {A : Tab} {N : Nat → Nat}

@[simp] theorem resR_inr_inl {t u : Nat} {l : Option Nat} {ρ : Rho} {H : Hp} : resR [.inr (t, l), .inl u] ρ H = (aload H l (ρ t)).map fun a => .tup [a, ρ u] := by
  simp [resR, resOneR, List.mapM_cons]
  cases aload H l (ρ t) <;> rfl
@[simp] theorem resR_inl_inr {t u : Nat} {m : Option Nat} {ρ : Rho} {H : Hp} : resR [.inl t, .inr (u, m)] ρ H = (aload H m (ρ u)).map fun b => .tup [ρ t, b] := by
  simp [resR, resOneR, List.mapM_cons]
  cases aload H m (ρ u) <;> rfl
@[simp] theorem loadC3 {a b c : AV} : loadC (some 3) [a, b, c] = some (.agg [a, b, c]) := by simp [loadC]
@[simp] theorem loadC_one {a : AV} : loadC none [a] = some a := by simp [loadC]
@[simp] theorem abin_geqB {c : UInt8} {n : Int} : abin .geq (avByte c) (.lit (.int .u8 n)) = some (avBool (decide (n ≤ c.toNat))) := by simp [avByte]
@[simp] theorem abin_leqB {c : UInt8} {n : Int} : abin .leq (avByte c) (.lit (.int .u8 n)) = some (avBool (decide ((c.toNat : Int) ≤ n))) := by simp [avByte]
@[simp] theorem abin_lssB {c : UInt8} {n : Int} : abin .lss (avByte c) (.lit (.int .u8 n)) = some (avBool (decide ((c.toNat : Int) < n))) := by simp [avByte]
@[simp] theorem abin_gtrB {c : UInt8} {n : Int} : abin .gtr (avByte c) (.lit (.int .u8 n)) = some (avBool (decide (n < (c.toNat : Int)))) := by simp [avByte]
@[simp] theorem aeq_byte {c : UInt8} {n : Int} : aeq .pint (avByte c) (.lit (.int .u8 n)) = some (decide ((c.toNat : Int) = n)) := by simp [avByte]
theorem asidx_str {k : IntKind} {s : List UInt8} {i : Int} (h0 : 0 ≤ i) (h : i.toNat < s.length) : asidx (avStr s) (.lit (.int k i)) = some (avByte s[i.toNat]) := by
  simp [asidx, h0, List.getElem?_eq_getElem h, avByte]
theorem asidx_nat {k : IntKind} {s : List UInt8} {i : Nat} (h : i < s.length) : asidx (avStr s) (.lit (.int k i)) = some (avByte s[i]) := by
  have := asidx_str (k := k) (s := s) (i := (i : Int)) (by omega) (by simpa using h)
  simpa using this
theorem aslstr_cut {k k' : IntKind} {s : List UInt8} {i j : Int} (h0 : 0 ≤ i) (h1 : i ≤ j) (h : j.toNat ≤ s.length) : aslstr (avStr s) (some (.lit (.int k i))) (some (.lit (.int k' j))) = some (avStr ((s.drop i.toNat).take (j.toNat - i.toNat))) := by
  have h2 : i ≤ max j 0 := by omega
  have h3 : 0 ≤ j := by omega
  have h4 : j ≤ (s.length : Int) := by omega
  simp [aslstr, aBound, h0, h2, h3, h4]

theorem settleZ_ra {H H1 : Hp} {es : List AV} {t : TypeId} {m : Nat} (h1 : H1 = halloc { l := H.l, d := none } (.arr 1 es t)) (hm : m = es.length) (hl : ∀ x ∈ es, ∃ v, x = .lit v) :
    settleZ true H (.ra 1 H.l.length 0 m) H1 = (.sl 1 es, none) := by
  subst h1; subst hm
  apply settleZ_frz
  · simp [keeps]
  · rw [frz_ra (es := es) (t := t) (by simp) (by simp) (by simp), List.drop_zero, List.take_length, frz_lits hl]
    rfl

/-! ### HasPrefix, CutPrefix, IndexByte -/
end
end Go.Proofs.Eng
/- Templates of functions, as the engine takes them; numbers of functions and types by names. Printed by tm.py. -/
set_option linter.unusedVariables false
set_option maxRecDepth 100000
namespace Go.Proofs.Eng
open Go

/-- azimuth/azimuthref01.Encode -/
def C_ref01_Encode (N : Nat → Nat) : AFunc := ⟨69, [.inl 2, .inl 3],
 .seq (
  .ops [⟨(some 2), .mov (.c (.lit (.slice none 0 0))), none⟩, ⟨(some 3), .mov (.c (.lit (.bool false))), none⟩]) (
 .seq (
  .seq (
   .ops [⟨(some 4), .mov (.t 0), none⟩, ⟨(some 5), .bin .lss (.t 4) (.c (.lit (.int .i64 0))), none⟩, ⟨(some 6), .mov (.t 5), none⟩, ⟨(some 7), .mov (.t 0), (some (6, false))⟩, ⟨(some 8), .bin .gtr (.t 7) (.c (.lit (.int .i64 1114111))), (some (6, false))⟩, ⟨(some 9), .pick (.t 6) (.c (.lit (.bool true))) (.t 8), none⟩, ⟨(some 10), .mov (.t 9), none⟩, ⟨(some 11), .mov (.t 0), (some (10, false))⟩, ⟨(some 12), .bin .geq (.t 11) (.c (.lit (.int .i64 55296))), (some (10, false))⟩, ⟨(some 13), .mov (.t 12), (some (10, false))⟩, ⟨(some 14), .mov (.t 0), (some (13, true))⟩, ⟨(some 15), .bin .leq (.t 14) (.c (.lit (.int .i64 57343))), (some (13, true))⟩, ⟨(some 16), .pick (.t 13) (.t 15) (.c (.lit (.bool false))), (some (10, false))⟩, ⟨(some 17), .pick (.t 10) (.c (.lit (.bool true))) (.t 16), none⟩]) (
  .cond (.t 17) (
   .seq (
    .ops [⟨(some 2), .mov (.c (.lit (.slice none 0 0))), none⟩, ⟨(some 3), .mov (.c (.lit (.bool false))), none⟩]) (
   .ret)) (
   .skip))) (
 .seq (
  .seq (
   .ops [⟨(some 18), .mov (.t 0), none⟩, ⟨(some 19), .bin .lss (.t 18) (.c (.lit (.int .i64 128))), none⟩]) (
  .cond (.t 19) (
   .seq (
    .ops [⟨(some 20), .mov (.t 0), none⟩, ⟨(some 21), .conv (.toInt .u8) (.t 20), none⟩, ⟨(some 22), .bslice (t_uint8 N) 1 none 1 [(.lit (.int .u8 0))] [(0, 1, (.t 21))], none⟩, ⟨(some 2), .mov (.t 22), none⟩, ⟨(some 3), .mov (.c (.lit (.bool true))), none⟩]) (
   .ret)) (
   .skip))) (
 .seq (
  .seq (
   .ops [⟨(some 23), .mov (.t 0), none⟩, ⟨(some 24), .bin .lss (.t 23) (.c (.lit (.int .i64 2048))), none⟩]) (
  .cond (.t 24) (
   .seq (
    .ops [⟨(some 25), .mov (.t 0), none⟩, ⟨(some 26), .bin .quo (.t 25) (.c (.lit (.int .i64 64))), none⟩, ⟨(some 27), .bin .add (.c (.lit (.int .i64 192))) (.t 26), none⟩, ⟨(some 28), .conv (.toInt .u8) (.t 27), none⟩, ⟨(some 29), .mov (.t 0), none⟩, ⟨(some 30), .bin .rem (.t 29) (.c (.lit (.int .i64 64))), none⟩, ⟨(some 31), .bin .add (.c (.lit (.int .i64 128))) (.t 30), none⟩, ⟨(some 32), .conv (.toInt .u8) (.t 31), none⟩, ⟨(some 33), .bslice (t_uint8 N) 1 none 2 [(.lit (.int .u8 0))] [(0, 1, (.t 28)), (1, 1, (.t 32))], none⟩, ⟨(some 2), .mov (.t 33), none⟩, ⟨(some 3), .mov (.c (.lit (.bool true))), none⟩]) (
   .ret)) (
   .skip))) (
 .seq (
  .seq (
   .ops [⟨(some 34), .mov (.t 0), none⟩, ⟨(some 35), .bin .lss (.t 34) (.c (.lit (.int .i64 65536))), none⟩]) (
  .cond (.t 35) (
   .seq (
    .ops [⟨(some 36), .mov (.t 0), none⟩, ⟨(some 37), .bin .quo (.t 36) (.c (.lit (.int .i64 4096))), none⟩, ⟨(some 38), .bin .add (.c (.lit (.int .i64 224))) (.t 37), none⟩, ⟨(some 39), .conv (.toInt .u8) (.t 38), none⟩, ⟨(some 40), .mov (.t 0), none⟩, ⟨(some 41), .bin .quo (.t 40) (.c (.lit (.int .i64 64))), none⟩, ⟨(some 42), .bin .rem (.t 41) (.c (.lit (.int .i64 64))), none⟩, ⟨(some 43), .bin .add (.c (.lit (.int .i64 128))) (.t 42), none⟩, ⟨(some 44), .conv (.toInt .u8) (.t 43), none⟩, ⟨(some 45), .mov (.t 0), none⟩, ⟨(some 46), .bin .rem (.t 45) (.c (.lit (.int .i64 64))), none⟩, ⟨(some 47), .bin .add (.c (.lit (.int .i64 128))) (.t 46), none⟩, ⟨(some 48), .conv (.toInt .u8) (.t 47), none⟩, ⟨(some 49), .bslice (t_uint8 N) 1 none 3 [(.lit (.int .u8 0))] [(0, 1, (.t 39)), (1, 1, (.t 44)), (2, 1, (.t 48))], none⟩, ⟨(some 2), .mov (.t 49), none⟩, ⟨(some 3), .mov (.c (.lit (.bool true))), none⟩]) (
   .ret)) (
   .skip))) (
 .seq (
  .ops [⟨(some 50), .mov (.t 0), none⟩, ⟨(some 51), .bin .quo (.t 50) (.c (.lit (.int .i64 262144))), none⟩, ⟨(some 52), .bin .add (.c (.lit (.int .i64 240))) (.t 51), none⟩, ⟨(some 53), .conv (.toInt .u8) (.t 52), none⟩, ⟨(some 54), .mov (.t 0), none⟩, ⟨(some 55), .bin .quo (.t 54) (.c (.lit (.int .i64 4096))), none⟩, ⟨(some 56), .bin .rem (.t 55) (.c (.lit (.int .i64 64))), none⟩, ⟨(some 57), .bin .add (.c (.lit (.int .i64 128))) (.t 56), none⟩, ⟨(some 58), .conv (.toInt .u8) (.t 57), none⟩, ⟨(some 59), .mov (.t 0), none⟩, ⟨(some 60), .bin .quo (.t 59) (.c (.lit (.int .i64 64))), none⟩, ⟨(some 61), .bin .rem (.t 60) (.c (.lit (.int .i64 64))), none⟩, ⟨(some 62), .bin .add (.c (.lit (.int .i64 128))) (.t 61), none⟩, ⟨(some 63), .conv (.toInt .u8) (.t 62), none⟩, ⟨(some 64), .mov (.t 0), none⟩, ⟨(some 65), .bin .rem (.t 64) (.c (.lit (.int .i64 64))), none⟩, ⟨(some 66), .bin .add (.c (.lit (.int .i64 128))) (.t 65), none⟩, ⟨(some 67), .conv (.toInt .u8) (.t 66), none⟩, ⟨(some 68), .bslice (t_uint8 N) 1 none 4 [(.lit (.int .u8 0))] [(0, 1, (.t 53)), (1, 1, (.t 58)), (2, 1, (.t 63)), (3, 1, (.t 67))], none⟩, ⟨(some 2), .mov (.t 68), none⟩, ⟨(some 3), .mov (.c (.lit (.bool true))), none⟩]) (
 .ret)))))), true⟩

def L_ref01_First_1 (N : Nat → Nat) : AC :=
    .seq (
     .seq (
      .ops [⟨(some 8), .mov (.t 4), none⟩, ⟨(some 9), .bin .leq (.t 8) (.c (.lit (.int .i64 4))), none⟩, ⟨(some 10), .mov (.t 9), none⟩, ⟨(some 11), .mov (.t 4), (some (10, true))⟩, ⟨(some 12), .mov (.t 0), (some (10, true))⟩, ⟨(some 13), .len (.t 12), (some (10, true))⟩, ⟨(some 14), .bin .leq (.t 11) (.t 13), (some (10, true))⟩, ⟨(some 15), .pick (.t 10) (.t 14) (.c (.lit (.bool false))), none⟩]) (
     .cond (.t 15) (
      .skip) (
      .exit 0))) (
    .seq (
     .block 1 (
      .seq (
       .ops [⟨(some 18), .mov (.t 0), none⟩, ⟨(some 19), .mov (.t 4), none⟩, ⟨(some 20), .slice 1 (.t 18) none (some (.t 19)), none⟩, ⟨(some 21), .call (.c (.fn (f_ref01_value N) [] [])) [(.t 20)], none⟩, ⟨(some 5), .mov (.t 21), none⟩]) (
      .seq (
       .ops [⟨(some 23), .mov (.t 5), none⟩, ⟨(some 24), .call (.c (.fn (f_ref01_Encode N) [] [])) [(.t 23)], none⟩, ⟨(some 22), .mov (.t 24), none⟩, ⟨(some 25), .extract (.t 22) 0, none⟩, ⟨(some 26), .extract (.t 22) 1, none⟩, ⟨(some 6), .mov (.t 25), none⟩, ⟨(some 7), .mov (.t 26), none⟩]) (
      .seq (
       .dops 6 [⟨(some 27), .mov (.t 7), none⟩, ⟨(some 28), .mov (.t 27), none⟩, ⟨(some 29), .mov (.t 6), (some (28, true))⟩, ⟨(some 30), .conv .str (.t 29), (some (28, true))⟩, ⟨(some 31), .mov (.t 0), (some (28, true))⟩, ⟨(some 32), .mov (.t 4), (some (28, true))⟩, ⟨(some 33), .slice 1 (.t 31) none (some (.t 32)), (some (28, true))⟩, ⟨(some 34), .conv .str (.t 33), (some (28, true))⟩, ⟨(some 35), .eq false .pstr (.t 30) (.t 34), (some (28, true))⟩, ⟨(some 36), .pick (.t 28) (.t 35) (.c (.lit (.bool false))), none⟩] [0, 0, 0, 2, 0, 0, 0, 2, 0, 0] []) (
      .cond (.t 36) (
       .seq (
        .ops [⟨(some 37), .mov (.t 5), none⟩, ⟨(some 38), .mov (.t 4), none⟩, ⟨(some 2), .mov (.t 37), none⟩, ⟨(some 3), .mov (.t 38), none⟩]) (
       .ret)) (
       .skip)))))) (
    .ops [⟨(some 16), .mov (.t 4), none⟩, ⟨(some 17), .bin .add (.t 16) (.c (.lit (.int .i64 1))), none⟩, ⟨(some 4), .mov (.t 17), none⟩]))
def K_ref01_First_1 (N : Nat → Nat) : AC :=
 .seq (
  .ops [⟨(some 2), .mov (.c (.lit (.int .i64 0))), none⟩, ⟨(some 3), .mov (.c (.lit (.int .i64 0))), none⟩]) (
 .ret)
/-- azimuth/azimuthref01.First -/
def C_ref01_First (N : Nat → Nat) : AFunc := ⟨39, [.inl 2, .inl 3],
 .seq (
  .ops [⟨(some 2), .mov (.c (.lit (.int .i64 0))), none⟩, ⟨(some 3), .mov (.c (.lit (.int .i64 0))), none⟩]) (
 .seq (
  .seq (
   .ops [⟨(some 4), .mov (.c (.lit (.int .i64 1))), none⟩]) (
  .block 0 (
   .loop (L_ref01_First_1 N)))) (K_ref01_First_1 N)), false⟩

def L_ref01_Signs_1 (N : Nat → Nat) : AC :=
    .seq (
     .seq (
      .ops [⟨(some 12), .mov (.t 7), none⟩, ⟨(some 13), .mov (.t 0), none⟩, ⟨(some 14), .len (.t 13), none⟩, ⟨(some 15), .bin .lss (.t 12) (.t 14), none⟩]) (
     .cond (.t 15) (
      .skip) (
      .exit 0))) (
    .block 1 (
     .seq (
      .ops [⟨(some 17), .mov (.t 0), none⟩, ⟨(some 18), .mov (.t 7), none⟩, ⟨(some 19), .slice 1 (.t 17) (some (.t 18)) none, none⟩, ⟨(some 20), .call (.c (.fn (f_ref01_First N) [] [])) [(.t 19)], none⟩, ⟨(some 16), .mov (.t 20), none⟩, ⟨(some 21), .extract (.t 16) 0, none⟩, ⟨(some 22), .extract (.t 16) 1, none⟩, ⟨(some 8), .mov (.t 21), none⟩, ⟨(some 9), .mov (.t 22), none⟩]) (
     .seq (
      .seq (
       .ops [⟨(some 23), .mov (.t 9), none⟩, ⟨(some 24), .eq false .pint (.t 23) (.c (.lit (.int .i64 0))), none⟩]) (
      .cond (.t 24) (
       .exit 0) (
       .skip))) (
     .seq (
      .ops [⟨(some 25), .mov (.t 5), none⟩, ⟨(some 26), .mov (.t 7), none⟩, ⟨(some 27), .bslice (t_int N) 1 none 1 [(.lit (.int .i64 0))] [(0, 1, (.t 26))], none⟩, ⟨(some 28), .append (t_int N) 1 8 (.t 25) (.t 27), none⟩, ⟨(some 5), .mov (.t 28), none⟩]) (
     .seq (
      .ops [⟨(some 29), .mov (.t 6), none⟩, ⟨(some 30), .mov (.t 8), none⟩, ⟨(some 31), .bslice (t_int N) 1 none 1 [(.lit (.int .i64 0))] [(0, 1, (.t 30))], none⟩, ⟨(some 32), .append (t_int N) 1 8 (.t 29) (.t 31), none⟩, ⟨(some 6), .mov (.t 32), none⟩]) (
     .ops [⟨(some 33), .mov (.t 7), none⟩, ⟨(some 34), .mov (.t 9), none⟩, ⟨(some 35), .bin .add (.t 33) (.t 34), none⟩, ⟨(some 7), .mov (.t 35), none⟩]))))))
def K_ref01_Signs_1 (N : Nat → Nat) : AC :=
 .seq (
  .ops [⟨(some 36), .mov (.t 5), none⟩, ⟨(some 37), .mov (.t 6), none⟩, ⟨(some 38), .mov (.t 7), none⟩, ⟨(some 2), .mov (.t 36), none⟩, ⟨(some 3), .mov (.t 37), none⟩, ⟨(some 4), .mov (.t 38), none⟩]) (
 .ret)
/-- azimuth/azimuthref01.Signs -/
def C_ref01_Signs (N : Nat → Nat) : AFunc := ⟨39, [.inl 2, .inl 3, .inl 4],
 .seq (
  .ops [⟨(some 2), .mov (.c (.lit (.slice none 0 0))), none⟩, ⟨(some 3), .mov (.c (.lit (.slice none 0 0))), none⟩, ⟨(some 4), .mov (.c (.lit (.int .i64 0))), none⟩]) (
 .seq (
  .ops [⟨(some 10), .bslice (t_int N) 1 none 0 [(.lit (.int .i64 0))] [], none⟩, ⟨(some 11), .bslice (t_int N) 1 none 0 [(.lit (.int .i64 0))] [], none⟩, ⟨(some 5), .mov (.t 10), none⟩, ⟨(some 6), .mov (.t 11), none⟩]) (
 .seq (
  .ops [⟨(some 7), .mov (.c (.lit (.int .i64 0))), none⟩]) (
 .seq (
  .block 0 (
   .loop (L_ref01_Signs_1 N))) (K_ref01_Signs_1 N)))), false⟩

/-- azimuth/azimuthref01.value -/
def C_ref01_value (N : Nat → Nat) : AFunc := ⟨72, [.inl 2],
 .seq (
  .ops [⟨(some 2), .mov (.c (.lit (.int .i64 0))), none⟩]) (
 .seq (
  .seq (
   .ops [⟨(some 3), .mov (.t 0), none⟩, ⟨(some 4), .len (.t 3), none⟩]) (
  .block 0 (
   .seq (
    .ops [⟨(some 6), .eq false .pint (.t 4) (.c (.lit (.int .i64 1))), none⟩, ⟨(some 5), .mov (.t 6), none⟩]) (
   .cond (.t 5) (
    .seq (
     .ops [⟨(some 7), .mov (.t 0), none⟩, ⟨(some 8), .iaddr 1 (.t 7) (.c (.lit (.int .i64 0))), none⟩, ⟨(some 9), .load none (.t 8), none⟩, ⟨(some 10), .conv (.toInt .i64) (.t 9), none⟩, ⟨(some 2), .mov (.t 10), none⟩]) (
    .ret)) (
    .seq (
     .ops [⟨(some 12), .eq false .pint (.t 4) (.c (.lit (.int .i64 2))), none⟩, ⟨(some 11), .mov (.t 12), none⟩]) (
    .cond (.t 11) (
     .seq (
      .dops 5 [⟨(some 13), .mov (.t 0), none⟩, ⟨(some 14), .iaddr 1 (.t 13) (.c (.lit (.int .i64 0))), none⟩, ⟨(some 15), .load none (.t 14), none⟩, ⟨(some 16), .conv (.toInt .i64) (.t 15), none⟩, ⟨(some 17), .bin .rem (.t 16) (.c (.lit (.int .i64 32))), none⟩, ⟨(some 18), .bin .mul (.t 17) (.c (.lit (.int .i64 64))), none⟩, ⟨(some 19), .mov (.t 0), none⟩, ⟨(some 20), .iaddr 1 (.t 19) (.c (.lit (.int .i64 1))), none⟩, ⟨(some 21), .load none (.t 20), none⟩, ⟨(some 22), .conv (.toInt .i64) (.t 21), none⟩, ⟨(some 23), .bin .rem (.t 22) (.c (.lit (.int .i64 64))), none⟩, ⟨(some 24), .bin .add (.t 18) (.t 23), none⟩, ⟨(some 2), .mov (.t 24), none⟩] [0, 0, 2, 0, 0, 0, 0, 0, 2, 0, 0, 0, 0] []) (
     .ret)) (
     .seq (
      .ops [⟨(some 26), .eq false .pint (.t 4) (.c (.lit (.int .i64 3))), none⟩, ⟨(some 25), .mov (.t 26), none⟩]) (
     .cond (.t 25) (
      .seq (
       .dops 7 [⟨(some 27), .mov (.t 0), none⟩, ⟨(some 28), .iaddr 1 (.t 27) (.c (.lit (.int .i64 0))), none⟩, ⟨(some 29), .load none (.t 28), none⟩, ⟨(some 30), .conv (.toInt .i64) (.t 29), none⟩, ⟨(some 31), .bin .rem (.t 30) (.c (.lit (.int .i64 16))), none⟩, ⟨(some 32), .bin .mul (.t 31) (.c (.lit (.int .i64 4096))), none⟩, ⟨(some 33), .mov (.t 0), none⟩, ⟨(some 34), .iaddr 1 (.t 33) (.c (.lit (.int .i64 1))), none⟩, ⟨(some 35), .load none (.t 34), none⟩, ⟨(some 36), .conv (.toInt .i64) (.t 35), none⟩, ⟨(some 37), .bin .rem (.t 36) (.c (.lit (.int .i64 64))), none⟩, ⟨(some 38), .bin .mul (.t 37) (.c (.lit (.int .i64 64))), none⟩, ⟨(some 39), .bin .add (.t 32) (.t 38), none⟩, ⟨(some 40), .mov (.t 0), none⟩, ⟨(some 41), .iaddr 1 (.t 40) (.c (.lit (.int .i64 2))), none⟩, ⟨(some 42), .load none (.t 41), none⟩, ⟨(some 43), .conv (.toInt .i64) (.t 42), none⟩, ⟨(some 44), .bin .rem (.t 43) (.c (.lit (.int .i64 64))), none⟩, ⟨(some 45), .bin .add (.t 39) (.t 44), none⟩, ⟨(some 2), .mov (.t 45), none⟩] [0, 0, 2, 0, 0, 0, 0, 0, 2, 0, 0, 0, 0, 0, 0, 2, 0, 0, 0, 0] []) (
      .ret)) (
      .skip))))))))) (
 .seq (
  .dops 8 [⟨(some 46), .mov (.t 0), none⟩, ⟨(some 47), .iaddr 1 (.t 46) (.c (.lit (.int .i64 0))), none⟩, ⟨(some 48), .load none (.t 47), none⟩, ⟨(some 49), .conv (.toInt .i64) (.t 48), none⟩, ⟨(some 50), .bin .rem (.t 49) (.c (.lit (.int .i64 8))), none⟩, ⟨(some 51), .bin .mul (.t 50) (.c (.lit (.int .i64 262144))), none⟩, ⟨(some 52), .mov (.t 0), none⟩, ⟨(some 53), .iaddr 1 (.t 52) (.c (.lit (.int .i64 1))), none⟩, ⟨(some 54), .load none (.t 53), none⟩, ⟨(some 55), .conv (.toInt .i64) (.t 54), none⟩, ⟨(some 56), .bin .rem (.t 55) (.c (.lit (.int .i64 64))), none⟩, ⟨(some 57), .bin .mul (.t 56) (.c (.lit (.int .i64 4096))), none⟩, ⟨(some 58), .bin .add (.t 51) (.t 57), none⟩, ⟨(some 59), .mov (.t 0), none⟩, ⟨(some 60), .iaddr 1 (.t 59) (.c (.lit (.int .i64 2))), none⟩, ⟨(some 61), .load none (.t 60), none⟩, ⟨(some 62), .conv (.toInt .i64) (.t 61), none⟩, ⟨(some 63), .bin .rem (.t 62) (.c (.lit (.int .i64 64))), none⟩, ⟨(some 64), .bin .mul (.t 63) (.c (.lit (.int .i64 64))), none⟩, ⟨(some 65), .bin .add (.t 58) (.t 64), none⟩, ⟨(some 66), .mov (.t 0), none⟩, ⟨(some 67), .iaddr 1 (.t 66) (.c (.lit (.int .i64 3))), none⟩, ⟨(some 68), .load none (.t 67), none⟩, ⟨(some 69), .conv (.toInt .i64) (.t 68), none⟩, ⟨(some 70), .bin .rem (.t 69) (.c (.lit (.int .i64 64))), none⟩, ⟨(some 71), .bin .add (.t 65) (.t 70), none⟩, ⟨(some 2), .mov (.t 71), none⟩] [0, 0, 2, 0, 0, 0, 0, 0, 2, 0, 0, 0, 0, 0, 0, 2, 0, 0, 0, 0, 0, 0, 2, 0, 0, 0, 0] []) (
 .ret))), false⟩

/-- azimuth/runes.All -/
def C_runes_All (N : Nat → Nat) : AFunc := ⟨4, [.inl 2],
 .seq (
  .ops [⟨(some 1), .box (t_sl_uint8 N) (.t 0), none⟩, ⟨(some 2), .mov (.c (.lit .nilFunc)), none⟩]) (
 .seq (
  .ops [⟨(some 3), .mkfn (f_runes_All_1 N) [] [(.t 1)], none⟩, ⟨(some 2), .mov (.t 3), none⟩]) (
 .ret)), true⟩

def L_runes_All_1_1 (N : Nat → Nat) : AC :=
   .seq (
    .seq (
     .ops [⟨(some 6), .mov (.t 3), none⟩, ⟨(some 7), .load none (.t 1), none⟩, ⟨(some 8), .len (.t 7), none⟩, ⟨(some 9), .bin .lss (.t 6) (.t 8), none⟩]) (
    .cond (.t 9) (
     .skip) (
     .exit 0))) (
   .block 1 (
    .seq (
     .ops [⟨(some 11), .load none (.t 1), none⟩, ⟨(some 12), .mov (.t 3), none⟩, ⟨(some 13), .slice 1 (.t 11) (some (.t 12)) none, none⟩, ⟨(some 14), .call (.c (.fn (f_runes_first N) [] [])) [(.t 13)], none⟩, ⟨(some 10), .mov (.t 14), none⟩, ⟨(some 15), .extract (.t 10) 0, none⟩, ⟨(some 16), .extract (.t 10) 1, none⟩, ⟨(some 4), .mov (.t 15), none⟩, ⟨(some 5), .mov (.t 16), none⟩]) (
    .seq (
     .seq (
      .ops [⟨(some 17), .mov (.t 5), none⟩, ⟨(some 18), .eq false .pint (.t 17) (.c (.lit (.int .i64 0))), none⟩, ⟨(some 19), .mov (.t 18), none⟩, ⟨(some 20), .mov (.t 0), (some (19, false))⟩, ⟨(some 21), .mov (.t 3), (some (19, false))⟩, ⟨(some 22), .mov (.t 4), (some (19, false))⟩, ⟨(some 23), .call (.t 20) [(.t 21), (.t 22)], (some (19, false))⟩, ⟨(some 24), .un .not (.t 23), (some (19, false))⟩, ⟨(some 25), .pick (.t 19) (.c (.lit (.bool true))) (.t 24), none⟩]) (
     .cond (.t 25) (
      .ret) (
      .skip))) (
    .ops [⟨(some 26), .mov (.t 3), none⟩, ⟨(some 27), .mov (.t 5), none⟩, ⟨(some 28), .bin .add (.t 26) (.t 27), none⟩, ⟨(some 3), .mov (.t 28), none⟩]))))
/-- azimuth/runes.All$1 -/
def C_runes_All_1 (N : Nat → Nat) : AFunc := ⟨29, [],
 .seq (
  .ops [⟨(some 3), .mov (.c (.lit (.int .i64 0))), none⟩]) (
 .block 0 (
  .loop (L_runes_All_1_1 N))), false⟩

def L_runes_Bad_1 (N : Nat → Nat) : AC :=
    .seq (
     .ops [⟨(some 4), .mov (.t 8), none⟩]) (
    .ops [⟨(some 5), .mov (.t 9), none⟩])
def L_runes_Bad_2 (N : Nat → Nat) : AC :=
    .block 1 (
     .ops [⟨(some 10), .mov (.t 4), none⟩, ⟨(some 11), .mov (.t 5), none⟩, ⟨(some 12), .call (.c (.fn (f_runes_size N) [] [])) [(.t 11)], none⟩, ⟨(some 13), .bin .add (.t 10) (.t 12), none⟩, ⟨none, .store 1 (.t 3) (.t 13), none⟩])
def K_runes_Bad_1 (N : Nat → Nat) : AC :=
 .seq (
  .seq (
   .ops [⟨(some 14), .load none (.t 3), none⟩, ⟨(some 15), .mov (.t 0), none⟩, ⟨(some 16), .len (.t 15), none⟩, ⟨(some 17), .eq false .pint (.t 14) (.t 16), none⟩]) (
  .cond (.t 17) (
   .seq (
    .ops [⟨(some 2), .mov (.c (.lit (.int .i64 (-1)))), none⟩]) (
   .ret)) (
   .skip))) (
 .seq (
  .ops [⟨(some 18), .load none (.t 3), none⟩, ⟨(some 2), .mov (.t 18), none⟩]) (
 .ret))
/-- azimuth/runes.Bad -/
def C_runes_Bad (N : Nat → Nat) : AFunc := ⟨19, [.inl 2],
 .seq (
  .ops [⟨(some 2), .mov (.c (.lit (.int .i64 0))), none⟩]) (
 .seq (
  .ops [⟨(some 3), .new (t_int N) (.lit (.int .i64 0)), none⟩, ⟨none, .store 1 (.t 3) (.c (.lit (.int .i64 0))), none⟩]) (
 .seq (
  .seq (
   .ops [⟨(some 6), .mov (.t 0), none⟩, ⟨(some 7), .call (.c (.fn (f_runes_All N) [] [])) [(.t 6)], none⟩]) (
  .block 0 (
   .rangeFn (.t 7) [8, 9] (L_runes_Bad_1 N) (L_runes_Bad_2 N)))) (K_runes_Bad_1 N))), false⟩

def L_runes_first_1 (N : Nat → Nat) : AC :=
    .seq (
     .seq (
      .ops [⟨(some 19), .mov (.t 4), none⟩, ⟨(some 20), .bin .lss (.t 19) (.c (.lit (.int .i64 4))), none⟩, ⟨(some 21), .mov (.t 20), none⟩, ⟨(some 22), .mov (.t 0), (some (21, true))⟩, ⟨(some 23), .iaddr 1 (.t 22) (.c (.lit (.int .i64 0))), (some (21, true))⟩, ⟨(some 24), .load none (.t 23), (some (21, true))⟩, ⟨(some 25), .mov (.t 4), (some (21, true))⟩, ⟨(some 26), .bin .shl (.t 24) (.t 25), (some (21, true))⟩, ⟨(some 27), .bin .and (.t 26) (.c (.lit (.int .u8 128))), (some (21, true))⟩, ⟨(some 28), .eq true .pint (.t 27) (.c (.lit (.int .u8 0))), (some (21, true))⟩, ⟨(some 29), .pick (.t 21) (.t 28) (.c (.lit (.bool false))), none⟩]) (
     .cond (.t 29) (
      .skip) (
      .exit 0))) (
    .block 1 (
     .ops [⟨(some 30), .mov (.t 4), none⟩, ⟨(some 31), .bin .add (.t 30) (.c (.lit (.int .i64 1))), none⟩, ⟨(some 4), .mov (.t 31), none⟩]))
def L_runes_first_2 (N : Nat → Nat) : AC :=
    .seq (
     .ops [⟨(some 58), .bin .lss (.t 57) (.t 56), none⟩]) (
    .seq (
     .cond (.t 58) (
      .skip) (
      .exit 2)) (
    .seq (
     .block 3 (
      .seq (
       .ops [⟨(some 59), .iaddr 1 (.t 55) (.t 57), none⟩, ⟨(some 60), .load none (.t 59), none⟩, ⟨(some 7), .mov (.t 60), none⟩]) (
      .seq (
       .seq (
        .ops [⟨(some 61), .mov (.t 7), none⟩, ⟨(some 62), .bin .and (.t 61) (.c (.lit (.int .u8 192))), none⟩, ⟨(some 63), .eq true .pint (.t 62) (.c (.lit (.int .u8 128))), none⟩]) (
       .cond (.t 63) (
        .seq (
         .ops [⟨(some 2), .mov (.c (.lit (.int .i32 0))), none⟩, ⟨(some 3), .mov (.c (.lit (.int .i64 0))), none⟩]) (
        .ret)) (
        .skip))) (
      .ops [⟨(some 64), .mov (.t 5), none⟩, ⟨(some 65), .bin .shl (.t 64) (.c (.lit (.int .u64 6))), none⟩, ⟨(some 66), .mov (.t 7), none⟩, ⟨(some 67), .bin .and (.t 66) (.c (.lit (.int .u8 63))), none⟩, ⟨(some 68), .conv (.toInt .i32) (.t 67), none⟩, ⟨(some 69), .bin .or (.t 65) (.t 68), none⟩, ⟨(some 5), .mov (.t 69), none⟩])))) (
    .ops [⟨(some 70), .bin .add (.t 57) (.c (.lit (.int .i64 1))), none⟩, ⟨(some 57), .mov (.t 70), none⟩])))
def K_runes_first_2 (N : Nat → Nat) : AC :=
 .seq (
  .seq (
   .ops [⟨(some 71), .mov (.t 5), none⟩, ⟨(some 72), .call (.c (.fn (f_runes_sign N) [] [])) [(.t 71)], none⟩, ⟨(some 73), .un .not (.t 72), none⟩, ⟨(some 74), .mov (.t 73), none⟩, ⟨(some 75), .mov (.t 5), (some (74, false))⟩, ⟨(some 76), .call (.c (.fn (f_runes_size N) [] [])) [(.t 75)], (some (74, false))⟩, ⟨(some 77), .mov (.t 4), (some (74, false))⟩, ⟨(some 78), .eq true .pint (.t 76) (.t 77), (some (74, false))⟩, ⟨(some 79), .pick (.t 74) (.c (.lit (.bool true))) (.t 78), none⟩]) (
  .cond (.t 79) (
   .seq (
    .ops [⟨(some 2), .mov (.c (.lit (.int .i32 0))), none⟩, ⟨(some 3), .mov (.c (.lit (.int .i64 0))), none⟩]) (
   .ret)) (
   .skip))) (
 .seq (
  .ops [⟨(some 80), .mov (.t 5), none⟩, ⟨(some 81), .mov (.t 4), none⟩, ⟨(some 2), .mov (.t 80), none⟩, ⟨(some 3), .mov (.t 81), none⟩]) (
 .ret))
def K_runes_first_1 (N : Nat → Nat) : AC :=
 .seq (
  .seq (
   .ops [⟨(some 32), .mov (.t 4), none⟩, ⟨(some 33), .bin .lss (.t 32) (.c (.lit (.int .i64 2))), none⟩, ⟨(some 34), .mov (.t 33), none⟩, ⟨(some 35), .mov (.t 0), (some (34, false))⟩, ⟨(some 36), .len (.t 35), (some (34, false))⟩, ⟨(some 37), .mov (.t 4), (some (34, false))⟩, ⟨(some 38), .bin .lss (.t 36) (.t 37), (some (34, false))⟩, ⟨(some 39), .pick (.t 34) (.c (.lit (.bool true))) (.t 38), none⟩, ⟨(some 40), .mov (.t 39), none⟩, ⟨(some 41), .mov (.t 0), (some (40, false))⟩, ⟨(some 42), .iaddr 1 (.t 41) (.c (.lit (.int .i64 0))), (some (40, false))⟩, ⟨(some 43), .load none (.t 42), (some (40, false))⟩, ⟨(some 44), .bin .geq (.t 43) (.c (.lit (.int .u8 248))), (some (40, false))⟩, ⟨(some 45), .pick (.t 40) (.c (.lit (.bool true))) (.t 44), none⟩]) (
  .cond (.t 45) (
   .seq (
    .ops [⟨(some 2), .mov (.c (.lit (.int .i32 0))), none⟩, ⟨(some 3), .mov (.c (.lit (.int .i64 0))), none⟩]) (
   .ret)) (
   .skip))) (
 .seq (
  .dops 10 [⟨(some 46), .mov (.t 0), none⟩, ⟨(some 47), .iaddr 1 (.t 46) (.c (.lit (.int .i64 0))), none⟩, ⟨(some 48), .load none (.t 47), none⟩, ⟨(some 49), .mov (.t 4), none⟩, ⟨(some 50), .bin .shr (.c (.lit (.int .u8 127))) (.t 49), none⟩, ⟨(some 51), .bin .and (.t 48) (.t 50), none⟩, ⟨(some 52), .conv (.toInt .i32) (.t 51), none⟩, ⟨(some 5), .mov (.t 52), none⟩] [0, 0, 0, 0, 0, 0, 0, 0] []) (
 .seq (
  .seq (
   .ops [⟨(some 53), .mov (.t 0), none⟩, ⟨(some 54), .mov (.t 4), none⟩, ⟨(some 55), .slice 1 (.t 53) (some (.c (.lit (.int .i64 1)))) (some (.t 54)), none⟩, ⟨(some 56), .len (.t 55), none⟩, ⟨(some 57), .mov (.c (.lit (.int .i64 0))), none⟩]) (
  .block 2 (
   .loop (L_runes_first_2 N)))) (K_runes_first_2 N)))
/-- azimuth/runes.first -/
def C_runes_first (N : Nat → Nat) : AFunc := ⟨82, [.inl 2, .inl 3],
 .seq (
  .ops [⟨(some 2), .mov (.c (.lit (.int .i32 0))), none⟩, ⟨(some 3), .mov (.c (.lit (.int .i64 0))), none⟩]) (
 .seq (
  .seq (
   .ops [⟨(some 8), .mov (.t 0), none⟩, ⟨(some 9), .len (.t 8), none⟩, ⟨(some 10), .eq false .pint (.t 9) (.c (.lit (.int .i64 0))), none⟩]) (
  .cond (.t 10) (
   .seq (
    .ops [⟨(some 2), .mov (.c (.lit (.int .i32 0))), none⟩, ⟨(some 3), .mov (.c (.lit (.int .i64 0))), none⟩]) (
   .ret)) (
   .skip))) (
 .seq (
  .seq (
   .ops [⟨(some 11), .mov (.t 0), none⟩, ⟨(some 12), .iaddr 1 (.t 11) (.c (.lit (.int .i64 0))), none⟩, ⟨(some 13), .load none (.t 12), none⟩, ⟨(some 14), .bin .lss (.t 13) (.c (.lit (.int .u8 128))), none⟩]) (
  .cond (.t 14) (
   .seq (
    .ops [⟨(some 15), .mov (.t 0), none⟩, ⟨(some 16), .iaddr 1 (.t 15) (.c (.lit (.int .i64 0))), none⟩, ⟨(some 17), .load none (.t 16), none⟩, ⟨(some 18), .conv (.toInt .i32) (.t 17), none⟩, ⟨(some 2), .mov (.t 18), none⟩, ⟨(some 3), .mov (.c (.lit (.int .i64 1))), none⟩]) (
   .ret)) (
   .skip))) (
 .seq (
  .ops [⟨(some 4), .mov (.c (.lit (.int .i64 0))), none⟩]) (
 .seq (
  .block 0 (
   .loop (L_runes_first_1 N))) (K_runes_first_1 N))))), false⟩

/-- azimuth/runes.sign -/
def C_runes_sign (N : Nat → Nat) : AFunc := ⟨17, [.inl 2],
 .seq (
  .ops [⟨(some 2), .mov (.c (.lit (.bool false))), none⟩]) (
 .seq (
  .ops [⟨(some 3), .mov (.t 0), none⟩, ⟨(some 4), .bin .geq (.t 3) (.c (.lit (.int .i32 0))), none⟩, ⟨(some 5), .mov (.t 4), none⟩, ⟨(some 6), .mov (.t 0), (some (5, true))⟩, ⟨(some 7), .bin .lss (.t 6) (.c (.lit (.int .i32 1114112))), (some (5, true))⟩, ⟨(some 8), .pick (.t 5) (.t 7) (.c (.lit (.bool false))), none⟩, ⟨(some 9), .mov (.t 8), none⟩, ⟨(some 10), .mov (.t 0), (some (9, true))⟩, ⟨(some 11), .bin .lss (.t 10) (.c (.lit (.int .i32 55296))), (some (9, true))⟩, ⟨(some 12), .mov (.t 11), (some (9, true))⟩, ⟨(some 13), .mov (.t 0), (some (12, false))⟩, ⟨(some 14), .bin .gtr (.t 13) (.c (.lit (.int .i32 57343))), (some (12, false))⟩, ⟨(some 15), .pick (.t 12) (.c (.lit (.bool true))) (.t 14), (some (9, true))⟩, ⟨(some 16), .pick (.t 9) (.t 15) (.c (.lit (.bool false))), none⟩, ⟨(some 2), .mov (.t 16), none⟩]) (
 .ret)), false⟩

/-- azimuth/runes.size -/
def C_runes_size (N : Nat → Nat) : AFunc := ⟨12, [.inl 2],
 .seq (
  .ops [⟨(some 2), .mov (.c (.lit (.int .i64 0))), none⟩]) (
 .seq (
  .block 0 (
   .seq (
    .ops [⟨(some 4), .mov (.t 0), none⟩, ⟨(some 5), .bin .lss (.t 4) (.c (.lit (.int .i32 128))), none⟩, ⟨(some 3), .mov (.t 5), none⟩]) (
   .cond (.t 3) (
    .seq (
     .ops [⟨(some 2), .mov (.c (.lit (.int .i64 1))), none⟩]) (
    .ret)) (
    .seq (
     .ops [⟨(some 7), .mov (.t 0), none⟩, ⟨(some 8), .bin .lss (.t 7) (.c (.lit (.int .i32 2048))), none⟩, ⟨(some 6), .mov (.t 8), none⟩]) (
    .cond (.t 6) (
     .seq (
      .ops [⟨(some 2), .mov (.c (.lit (.int .i64 2))), none⟩]) (
     .ret)) (
     .seq (
      .ops [⟨(some 10), .mov (.t 0), none⟩, ⟨(some 11), .bin .lss (.t 10) (.c (.lit (.int .i32 65536))), none⟩, ⟨(some 9), .mov (.t 11), none⟩]) (
     .cond (.t 9) (
      .seq (
       .ops [⟨(some 2), .mov (.c (.lit (.int .i64 3))), none⟩]) (
      .ret)) (
      .skip)))))))) (
 .seq (
  .ops [⟨(some 2), .mov (.c (.lit (.int .i64 4))), none⟩]) (
 .ret))), false⟩
end Go.Proofs.Eng
/- The small functions of package lexer, run by the engine. -/
set_option linter.unusedVariables false
set_option linter.unusedSimpArgs false
set_option maxRecDepth 100000
namespace Go.Proofs.Eng
open Go
section
variable {Γ : Sums} {A : Tab} {N : Nat → Nat}

def isLow (c : UInt8) : Bool := decide (97 ≤ c.toNat) && decide (c.toNat ≤ 122) || decide (c.toNat = 95)
def isDigit (c : UInt8) : Bool := decide (48 ≤ c.toNat) && decide (c.toNat ≤ 57)
def isInName (c : UInt8) : Bool := isLow c || isDigit c
def wordsL : List (List UInt8) := [[102, 117, 110], [108, 101, 116], [114, 101, 99], [105, 110], [105, 102], [116, 104, 101, 110], [101, 108, 115, 101], [99, 97, 115, 101], [111, 102], [101, 110, 100], [116, 114, 117, 101], [102, 97, 108, 115, 101], [105, 110, 116], [98, 111, 111, 108], [115, 116, 114], [102, 108, 111, 97, 116], [100, 121, 110], [97, 110, 121], [110, 111, 110, 101], [116, 121, 112, 101]]
structure LexS (Γ : Sums) (A : Tab) (N : Nat → Nat) : Prop where
  low : Has Γ A (f_lexer_low N) (C_lexer_low N)
  high : Has Γ A (f_lexer_high N) (C_lexer_high N)
  digit : Has Γ A (f_lexer_digit N) (C_lexer_digit N)
  inName : Has Γ A (f_lexer_inName N) (C_lexer_inName N)
  inAlias : Has Γ A (f_lexer_inAlias N) (C_lexer_inAlias N)
  blank1 : Has Γ A (f_lexer_blank_1 N) (C_lexer_blank_1 N)
  run : Has Γ A (f_lexer_run N) (C_lexer_run N)
  words : Has Γ A (f_lexer_words N) (C_lexer_words N)
  signs : Has Γ A (f_lexer_signs N) (C_lexer_signs N)
  contains : Has Γ A (f_slices_Contains_sl_string_string N) (C_slices_Contains_sl_string_string N)
  index : Has Γ A (f_slices_Index_sl_string_string N) (C_slices_Index_sl_string_string N)
  isWord : Has Γ A (f_lexer_IsWord N) (C_lexer_IsWord N)
  isName : Has Γ A (f_lexer_IsName N) (C_lexer_IsName N)
  number : Has Γ A (f_lexer_number N) (C_lexer_number N)

theorem lexer_low_call (h : LexS Γ A N) (c : UInt8) (H : Hp) : (lim Γ A).call (f_lexer_low N) [avByte c] H = some (avBool (isLow c), none) := by
  apply h.low.call (by rfl)
  unfold isLow
  by_cases h1 : 97 ≤ c.toNat
  · have h1' : (97 : Int) ≤ c.toNat := by omega
    by_cases h2 : c.toNat ≤ 122
    · have h2' : (c.toNat : Int) ≤ 122 := by omega
      simp [C_lexer_low, avByte, h1, h1', h2, h2']
    · have h2' : ¬ (c.toNat : Int) ≤ 122 := by omega
      have h3 : ¬ c.toNat = 95 := by omega
      have h3' : ¬ (c.toNat : Int) = 95 := by omega
      simp [C_lexer_low, avByte, h1, h1', h2, h2', h3, h3']
  · have h1' : ¬ (97 : Int) ≤ c.toNat := by omega
    by_cases h3 : c.toNat = 95
    · have h3' : (c.toNat : Int) = 95 := by omega
      simp [C_lexer_low, avByte, h3, h3']
    · have h3' : ¬ (c.toNat : Int) = 95 := by omega
      simp [C_lexer_low, avByte, h1, h1', h3, h3']
theorem lexer_digit_call (h : LexS Γ A N) (c : UInt8) (H : Hp) : (lim Γ A).call (f_lexer_digit N) [avByte c] H = some (avBool (isDigit c), none) := by
  apply h.digit.call (by rfl)
  unfold isDigit
  by_cases h1 : 48 ≤ c.toNat
  · have h1' : (48 : Int) ≤ c.toNat := by omega
    by_cases h2 : c.toNat ≤ 57
    · have h2' : (c.toNat : Int) ≤ 57 := by omega
      simp [C_lexer_digit, avByte, h1, h1', h2, h2']
    · have h2' : ¬ (c.toNat : Int) ≤ 57 := by omega
      simp [C_lexer_digit, avByte, h1, h1', h2, h2']
  · have h1' : ¬ (48 : Int) ≤ c.toNat := by omega
    simp [C_lexer_digit, avByte, h1, h1']
theorem lexer_inName_call (h : LexS Γ A N) (c : UInt8) (H : Hp) : (lim Γ A).call (f_lexer_inName N) [avByte c] H = some (avBool (isInName c), none) := by
  apply h.inName.call (by rfl)
  unfold isInName
  have e1 := lexer_low_call h c
  have e2 := lexer_digit_call h c
  cases h1 : isLow c <;> rw [h1] at e1 <;> simp [C_lexer_inName, e1, e2]
/-- How many of the first bytes may be. -/
def runB (p : UInt8 → Bool) (s : List UInt8) : Nat := (s.takeWhile p).length
theorem runB_drop (p : UInt8 → Bool) (s : List UInt8) (i : Nat) (h : (s.take i).all p = true) (hi : i ≤ s.length) : runB p s = i + runB p (s.drop i) := by
  induction i generalizing s with
  | zero => simp
  | succ i ih =>
    cases s with
    | nil => simp at hi
    | cons a s =>
      simp only [List.take_succ_cons, List.all_cons, Bool.and_eq_true] at h
      simp only [List.length_cons] at hi
      have := ih s h.2 (by omega)
      simp only [runB, List.takeWhile_cons, h.1, if_true, List.length_cons, List.drop_succ_cons] at this ⊢
      omega
theorem runB_stop {p : UInt8 → Bool} {a : UInt8} {s : List UInt8} (h : p a = false) : runB p (a :: s) = 0 := by simp [runB, h]

theorem lexer_run_call (h : LexS Γ A N) {g : FuncId} {p : UInt8 → Bool} (hp : ∀ c H, (lim Γ A).call g [avByte c] H = some (avBool (p c), none)) (s : List UInt8) (hs : s.length < 2 ^ 40) (H : Hp) :
    (lim Γ A).call (f_lexer_run N) [avStr s, .fn g [] []] H = some (avInt .i64 (runB p s : Nat), none) := by
  apply h.run.call (by rfl)
  simp [C_lexer_run, -Int.natCast_add]
  refine wp_round (fun k ρ H' => H' = { l := H.l, d := none } ∧ ∃ i : Nat, ρ 0 = avStr s ∧ ρ 1 = .fn g [] [] ∧ ρ 5 = avInt .i64 i ∧ i ≤ s.length ∧ (s.take i).all p = true ∧ k = s.length - i) (n := s.length) ⟨rfl, 0, rfl, rfl, rfl, by omega, by simp, rfl⟩ ?_
  rintro k ρ H' ⟨rfl, i, h0, h1, h5, hi, ha, rfl⟩
  have hrd := runB_drop p s i ha hi
  by_cases hl : i < s.length
  · have hl' : (i : Int) < s.length := by omega
    have hx := asidx_nat (k := .i64) hl
    have hd : s.drop i = s[i] :: s.drop (i + 1) := List.drop_eq_getElem_cons hl
    cases hc : p s[i]
    · have e := hp s[i]
      rw [hc] at e
      have : runB p s = i := by rw [hrd, hd, runB_stop hc]; omega
      simp [L_lexer_run_1, K_lexer_run_1, h0, h1, h5, hl', hx, e, this]
    · have e := hp s[i]
      rw [hc] at e
      have hw : IntKind.wrap .i64 ((i : Int) + 1) = ((i + 1 : Nat) : Int) := by rw [wrap64 (by omega) (by omega)]; omega
      simp [L_lexer_run_1, h0, h1, h5, hl', hx, e, hw, -Int.natCast_add]
      refine ⟨_, ?_, i + 1, rfl, by omega, ?_, rfl⟩
      · omega
      · have ha2 : (s.take (i + 1)).all p = true := by rw [List.take_succ_eq_append_getElem hl, List.all_append, ha]; simp [hc]
        exact List.all_eq_true.1 ha2
  · have hl' : ¬ (i : Int) < s.length := by omega
    have hi' : i = s.length := by omega
    have : runB p s = i := by rw [hrd, List.drop_of_length_le (by omega)]; simp [runB]
    simp [L_lexer_run_1, K_lexer_run_1, h0, h1, h5, hl', this]

theorem lexer_words_call (h : LexS Γ A N) (H : Hp) : (lim Γ A).call (f_lexer_words N) [] H = some (.sl 1 (wordsL.map avStr), none) := by
  apply h.words.call (by rfl)
  simp [C_lexer_words, wordsL]
  exact settleZ_ra rfl rfl (by simp)
/-! ### Words -/
theorem aiaddr_sln {sz : Nat} {xs : List AV} {k : IntKind} {i : Nat} {x : AV} (h : xs[i]? = some x) (hg : x.good = true) : aiaddr sz (.sl sz xs) (.lit (.int k i)) = some (.vp x.cells) := by
  simp [aiaddr, h, hg]
theorem index_call (h : LexS Γ A N) (l : List (List UInt8)) (s : List UInt8) (hl : l.length < 1000) (H : Hp) :
    ∃ i : Int, (lim Γ A).call (f_slices_Index_sl_string_string N) [.sl 1 (l.map avStr), avStr s] H = some (avInt .i64 i, none) ∧ (0 ≤ i ↔ s ∈ l) := by
  obtain ⟨R, hR⟩ : ∃ R : AV × Option Hp → Prop, R = fun r => ∃ i : Int, r = (avInt .i64 i, none) ∧ (0 ≤ i ↔ s ∈ l) := ⟨_, rfl⟩
  have key : ∃ r, (lim Γ A).call (f_slices_Index_sl_string_string N) [.sl 1 (l.map avStr), avStr s] H = some r ∧ R r := by
    apply h.index.callP (by rfl)
    simp [C_slices_Index_sl_string_string, asLen, -Int.natCast_add]
    refine wp_round (fun k ρ H' => H' = { l := H.l, d := none } ∧ ∃ i : Nat, ρ 0 = .sl 1 (l.map avStr) ∧ ρ 1 = avStr s ∧ ρ 7 = avInt .i64 l.length ∧ ρ 8 = avInt .i64 i ∧ i ≤ l.length ∧ (s ∉ l.take i) ∧ k = l.length - i) (n := l.length)
      ⟨rfl, 0, rfl, rfl, by simp, rfl, by omega, by simp, rfl⟩ ?_
    rintro k ρ H' ⟨rfl, i, h0, h1, h7, h8, hi, hn, rfl⟩
    by_cases hlt : i < l.length
    · have hlt' : (i : Int) < l.length := by omega
      have ha := aiaddr_sln (sz := 1) (xs := l.map avStr) (k := .i64) (i := i) (x := avStr l[i]) (by simp [hlt]) rfl
      by_cases he : s = l[i]
      · have hm : s ∈ l := by rw [he]; exact List.getElem_mem hlt
        simp [L_slices_Index_sl_string_string_1, h0, h1, h7, h8, hlt', ha, aload, he]
        rw [hR]
        refine ⟨i, rfl, ?_⟩
        simp [hm]
      · have hw : IntKind.wrap .i64 ((i : Int) + 1) = ((i + 1 : Nat) : Int) := by rw [wrap64 (by omega) (by omega)]; omega
        simp [L_slices_Index_sl_string_string_1, h0, h1, h7, h8, hlt', ha, aload, he, hw, -Int.natCast_add]
        refine ⟨_, ?_, i + 1, rfl, by omega, ?_, rfl⟩
        · omega
        · intro hm
          rw [List.take_succ_eq_append_getElem hlt] at hm
          rcases List.mem_append.1 hm with hm | hm
          · exact hn hm
          · exact he (List.mem_singleton.1 hm)
    · have hlt' : ¬ (i : Int) < l.length := by omega
      have hi' : i = l.length := by omega
      subst hi'
      simp only [List.take_length] at hn
      simp [L_slices_Index_sl_string_string_1, K_slices_Index_sl_string_string_1, h0, h1, h7, h8]
      rw [hR]
      refine ⟨-1, rfl, ?_⟩
      simp [hn]
  obtain ⟨r, e, hr⟩ := key
  rw [hR] at hr
  obtain ⟨i, rfl, hi⟩ := hr
  exact ⟨i, e, hi⟩

def isWordB (s : List UInt8) : Bool := decide (s ∈ wordsL)
theorem lexer_IsWord_call (h : LexS Γ A N) (s : List UInt8) (H : Hp) : (lim Γ A).call (f_lexer_IsWord N) [avStr s] H = some (avBool (isWordB s), none) := by
  apply h.isWord.call (by rfl)
  obtain ⟨i, e1, e2⟩ := index_call h wordsL s (by decide) { l := H.l, d := none }
  have e3 : (lim Γ A).call (f_slices_Contains_sl_string_string N) [.sl 1 (wordsL.map avStr), avStr s] { l := H.l, d := none } = some (avBool (isWordB s), none) := by
    apply h.contains.call (by rfl)
    simp [C_slices_Contains_sl_string_string, e1, isWordB, e2]
  simp only [C_lexer_IsWord]
  simp [lexer_words_call h, e3]

/-- Is it a name? -/
def isNameB (s : List UInt8) : Bool := !s.isEmpty && (s.head?.map isLow).getD false && decide (runB isInName s = s.length) && !isWordB s
theorem lexer_IsName_call (h : LexS Γ A N) (s : List UInt8) (hs : s.length < 2 ^ 40) (H : Hp) : (lim Γ A).call (f_lexer_IsName N) [avStr s] H = some (avBool (isNameB s), none) := by
  apply h.isName.call (by rfl)
  unfold isNameB
  cases s with
  | nil => simp [C_lexer_IsName]
  | cons c t =>
    have hx := asidx_nat (k := .i64) (s := c :: t) (i := 0) (by simp)
    simp only [List.getElem_cons_zero, Int.natCast_zero] at hx
    have e1 := lexer_low_call h c
    have e2 := lexer_run_call h (lexer_inName_call h) (c :: t) hs
    have e3 := lexer_IsWord_call h (c :: t)
    cases h1 : isLow c <;> rw [h1] at e1
    · simp [C_lexer_IsName, hx, e1, h1]
    · by_cases h2 : runB isInName (c :: t) = t.length + 1
      · have h2' : (runB isInName (c :: t) : Int) = (t.length : Int) + 1 := by omega
        simp [C_lexer_IsName, hx, e1, h1, e2, e3, h2, h2']
      · have h2' : ¬ (runB isInName (c :: t) : Int) = (t.length : Int) + 1 := by omega
        simp [C_lexer_IsName, hx, e1, h1, e2, e3, h2, h2']

/-! ### Numbers -/
end
end Go.Proofs.Eng
/- The store's functions: what they answer, and what they write. -/
set_option linter.unusedVariables false
set_option linter.unusedSimpArgs false
set_option maxRecDepth 100000
namespace Go.Proofs.Eng
open Go
section
variable {Γ : Sums} {A : Tab} {N : Nat → Nat}

theorem aeq_sl {sz : Nat} {xs : List AV} : aeq .pslice (.sl sz xs) (.lit (.slice none 0 0)) = some false := _root_.id rfl
theorem aeq_ra {a b c d : Nat} : aeq .pslice (.ra a b c d) (.lit (.slice none 0 0)) = some false := _root_.id rfl
theorem aeq_nilS : aeq .pslice (.lit (.slice none 0 0)) (.lit (.slice none 0 0)) = some true := _root_.id rfl

theorem appendOn_ra {H : Hp} {e : TypeId} {sz bytes id : Nat} {es ys : List AV} (h : hget H id = some (.arr sz es e)) (hb : (es.length + ys.length) * bytes ≤ roomMax) (hg : ys.all (fun y => y.good && y.cells.length == sz) = true) :
    appendOn H e sz bytes (.ra sz id 0 es.length) ys = some (.ra sz H.l.length 0 (es.length + ys.length), some (halloc (hset H id none) (.arr sz (es ++ ys) e))) := by
  simp only [appendOn, h]
  rw [if_pos ⟨trivial, trivial, by omega, hb, hg⟩]
  simp

/-- What a call lays: a row of bytes of its own. -/
structure Fresh (H : Hp) (g : Option Hp) (c : AV) (es : List AV) (e : TypeId) (os : List (Nat × AObj)) : Prop where
  row : Row e 1 c es os
  wr : Mut H (g.getD H) []
  has : ∀ q ∈ os, hget (g.getD H) q.1 = some q.2 ∧ H.l.length ≤ q.1

/-- A row of bytes apart. -/
theorem clone_call (h : Has Γ A (f_slices_Clone_sl_byte_byte N) (C_slices_Clone_sl_byte_byte N)) {x : AV} {b : List UInt8} {H : Hp} (hx : VBytes H x b) (hl : b.length < 2 ^ 36) :
    ∃ c g os, (lim Γ A).call (f_slices_Clone_sl_byte_byte N) [x] H = some (c, g) ∧ Fresh H g c (b.map avByte) (t_uint8 N) os ∧ (x = avNilS → c = avNilS) := by
  have key : ∃ r, (lim Γ A).call (f_slices_Clone_sl_byte_byte N) [x] H = some r ∧ ∃ os, Fresh H r.2 r.1 (b.map avByte) (t_uint8 N) os ∧ (x = avNilS → r.1 = avNilS) := by
    obtain ⟨R, hR⟩ : ∃ R : AV × Option Hp → Prop, R = fun r => ∃ os, Fresh H r.2 r.1 (b.map avByte) (t_uint8 N) os ∧ (x = avNilS → r.1 = avNilS) := ⟨_, rfl⟩
    suffices ∃ r, (lim Γ A).call (f_slices_Clone_sl_byte_byte N) [x] H = some r ∧ R r by simpa [hR] using this
    have live : aeq .pslice x (.lit (.slice none 0 0)) = some false → x ≠ avNilS → ∃ r, (lim Γ A).call (f_slices_Clone_sl_byte_byte N) [x] H = some r ∧ R r := by
      intro he hne
      apply h.callP (by rfl)
      have hE := (hx.dd none).keep (H' := halloc { l := H.l, d := none } (.arr 1 [] (t_uint8 N))) (fun id hid => by simp [hget_halloc, Nat.ne_of_lt hid])
      have hE' := hE.elems
      have ha : appendOn (halloc { l := H.l, d := none } (.arr 1 [] (t_uint8 N))) (t_uint8 N) 1 1 (.ra 1 H.l.length 0 0) (b.map avByte) = some (.ra 1 (H.l.length + 1) 0 b.length, some (halloc (hset (halloc { l := H.l, d := none } (.arr 1 [] (t_uint8 N))) H.l.length none) (.arr 1 (b.map avByte) (t_uint8 N)))) := by
        have hr : b.length ≤ roomMax := by unfold roomMax; omega
        have hq := appendOn_ra (H := halloc { l := H.l, d := none } (.arr 1 [] (t_uint8 N))) (e := t_uint8 N) (sz := 1) (bytes := 1) (id := H.l.length) (es := []) (ys := b.map avByte) (by simp) (by simpa using hr) (by simp)
        simpa using hq
      have hm : Mut { l := H.l, d := none } (halloc (hset (halloc { l := H.l, d := none } (.arr 1 [] (t_uint8 N))) H.l.length none) (.arr 1 (b.map avByte) (t_uint8 N))) [] := (((Mut.refl _ []).alloc _).set (.inr (Nat.le_refl _))).alloc _
      have hs := settle_some (H := H) (H' := halloc (hset (halloc { l := H.l, d := none } (.arr 1 [] (t_uint8 N))) H.l.length none) (.arr 1 (b.map avByte) (t_uint8 N))) (v := .ra 1 (H.l.length + 1) 0 b.length) (by simp [AV.under])
      simp [C_slices_Clone_sl_byte_byte, fillA, repl, setFrom, chunk, he, hE', ha, -halloc_d, -hset_d]
      rw [hs, hR]
      refine ⟨[(H.l.length + 1, .arr 1 (b.map avByte) (t_uint8 N))], ⟨.inr ⟨_, by simp, rfl⟩, hm.settled, ?_⟩, fun e => absurd e hne⟩
      simp only [List.mem_singleton, forall_eq, Option.getD_some]
      refine ⟨?_, by omega⟩
      rw [hget_l]
      simp
    rcases hx with (⟨rfl, hb⟩ | rfl) | ⟨id, off, e, all, rfl, h1⟩
    · apply h.callP (by rfl)
      simp [C_slices_Clone_sl_byte_byte, aeq_nilS]
      rw [hR]
      refine ⟨[], ⟨?_, Mut.refl _ _, by simp⟩, fun _ => rfl⟩
      exact .inl ⟨rfl, hb, rfl⟩
    · exact live aeq_sl (by simp)
    · exact live aeq_ra (by simp)
  obtain ⟨⟨c, g⟩, e, os, h1, h2⟩ := key
  exact ⟨c, g, os, e, h1, h2⟩

/-- A store, laid in a heap. -/
structure St (H : Hp) (t : TypeId) (p m turn : Nat) (l : List (List UInt8 × AV)) : Prop where
  cell : hget H p = some (.cells [.map m, avInt .i64 turn] t)
  mp : ∃ es clk, hget H m = some (.map es clk) ∧ SKeys es ∧ KV es = l
theorem St.dd {H : Hp} {t : TypeId} {p m turn : Nat} {l : List (List UInt8 × AV)} (h : St H t p m turn l) (d : Option Nat) : St { l := H.l, d := d } t p m turn l := ⟨h.cell, h.mp⟩
theorem St.ne {H : Hp} {t : TypeId} {p m turn : Nat} {l : List (List UInt8 × AV)} (h : St H t p m turn l) : p ≠ m := by
  rintro rfl
  obtain ⟨es, clk, h1, _⟩ := h.mp
  rw [h.cell] at h1
  cases h1

structure StoreS (Γ : Sums) (A : Tab) (N : Nat → Nat) : Prop where
  lex : LexS Γ A N
  clone : Has Γ A (f_slices_Clone_sl_byte_byte N) (C_slices_Clone_sl_byte_byte N)
  new : Has Γ A (f_store_New N) (C_store_New N)
  set : Has Γ A (f_p_store_Store_Set N) (C_p_store_Store_Set N)
  del : Has Γ A (f_p_store_Store_Delete N) (C_p_store_Store_Delete N)

def setE (s : List UInt8) (n : Nat) (l : List (List UInt8 × AV)) : Nat :=
  if !isNameB s then 7 else if 1048576 < n then 6 else if (vFind s l).isSome = false ∧ 256 ≤ l.length then 20 else 0

@[simp] theorem isRef_ptr {a b : Nat} : (AV.ptr a b).isRef = true := rfl
@[simp] theorem aeq_ptr {a b : Nat} : aeq .pptr (.ptr a b) (.lit (.pointer none)) = some false := _root_.id rfl
theorem Set_err (h : StoreS Γ A N) {H : Hp} {t : TypeId} {p m turn : Nat} {l : List (List UInt8 × AV)} (hs : St H t p m turn l) {s b : List UInt8} {x : AV} (hx : VBytes H x b) (hl : s.length < 2 ^ 40) (he : setE s b.length l ≠ 0) :
    (lim Γ A).call (f_p_store_Store_Set N) [.ptr p 0, avStr s, x] H = some (avInt .i64 (setE s b.length l), none) := by
  have e1 := fun H => lexer_IsName_call h.lex s hl H
  obtain ⟨es, clk, m1, m2, m3⟩ := hs.mp
  have hm : hget { l := H.l, d := none } m = some (.map es clk) := m1
  have q1 : hget { l := H.l, d := none } p = some (.cells [.map m, avInt .i64 turn] t) := hs.cell
  have q2 := aLookup_str (s := mkS s) (z := .lit (.slice none 0 0)) hm m2
  have q3 := aLenm_map hm
  have hn := hx.len
  rw [List.length_map] at hn
  rw [m3] at q2 q3
  apply h.set.call (by rfl)
  unfold setE at he ⊢
  cases c1 : isNameB s
  · simp [C_p_store_Store_Set, q1, q2, e1, c1]
  · by_cases c2 : 1048576 < b.length
    · have c2' : (1048576 : Int) < b.length := by omega
      simp [C_p_store_Store_Set, q1, q2, e1, c1, c2, c2', hn]
    · have c2' : ¬ (1048576 : Int) < b.length := by omega
      simp [c1, c2] at he
      have c3' : (256 : Int) ≤ l.length := by omega
      simp [C_p_store_Store_Set, q1, q2, q3, e1, c1, c2, c2', hn, he, c3']

theorem _root_.Go.Proofs.Eng.Mut.keeps {H H' : Hp} (h : Mut H H' []) (hd : H.d = none) : Eng.keeps H H' = true := by
  unfold Eng.keeps
  cases hm : H'.d with
  | none => rfl
  | some m =>
    rcases h.d m hm with ⟨k, hk, _⟩ | hk | ⟨i, hi, _⟩
    · rw [hd] at hk; cases hk
    · simpa using hk
    · simp at hi
theorem bindH1_fresh {c : AV} {g : Option Hp} {H : Hp} {Q : AV → Hp → Prop} {ma : Mk Q} {mb : Mk H} (hd : H.d = none) (h : Mut H (g.getD H) []) : bindH1 (some (c, g)) H Q ma mb = Q c (g.getD H) := by
  cases g with
  | none => simp
  | some G =>
    have hk := h.keeps hd
    unfold bindH1
    apply propext
    have hD : ({ l := G.l, d := dminO H.d G.d } : Hp) = G := by
      rw [hd]
      cases G with
      | mk gl gd => cases gd <;> rfl
    constructor
    · rintro ⟨v, h1, e, e2⟩
      simp only [Option.some.injEq, Prod.mk.injEq] at e
      obtain ⟨rfl, rfl⟩ := e
      simp only [hD] at e2
      exact e2.2
    · intro hq
      refine ⟨c, _, rfl, hk, ?_⟩
      simp only [hD]
      exact hq
theorem hset_wrote {H H' : Hp} {i : Nat} {o : Option AObj} (h : i < H.l.length) : ∃ m, (hset H' i o).d = some m ∧ m < H.l.length := by
  rw [hset_d]
  cases H'.d with
  | none => exact ⟨i, rfl, h⟩
  | some k => exact ⟨min k i, rfl, by omega⟩
theorem Set_ok (h : StoreS Γ A N) {H : Hp} {t : TypeId} {p m turn : Nat} {l : List (List UInt8 × AV)} (hs : St H t p m turn l) {s b : List UInt8} {x : AV} (hx : VBytes H x b) (hl : s.length < 2 ^ 40) (he : setE s b.length l = 0) (ht : turn < 2 ^ 60) :
    ∃ c g os, (lim Γ A).call (f_p_store_Store_Set N) [.ptr p 0, avStr s, x] H = some (avInt .i64 0, some g) ∧ St g t p m (turn + 1) (vPut s c l) ∧ Mut H g [p, m] ∧ Row (t_uint8 N) 1 c (b.map avByte) os ∧ (∀ q ∈ os, hget g q.1 = some q.2 ∧ H.l.length ≤ q.1) ∧ (x = avNilS → c = avNilS) := by
  have hpm := hs.ne
  have e1 := fun H => lexer_IsName_call h.lex s hl H
  obtain ⟨es, clk, m1, m2, m3⟩ := hs.mp
  have hm : hget { l := H.l, d := none } m = some (.map es clk) := m1
  have q1 : hget { l := H.l, d := none } p = some (.cells [.map m, avInt .i64 turn] t) := hs.cell
  have q2 := aLookup_str (s := mkS s) (z := .lit (.slice none 0 0)) hm m2
  have q3 := aLenm_map hm
  have hn := hx.len
  rw [List.length_map] at hn
  rw [m3] at q2 q3
  unfold setE at he
  have c1 : isNameB s = true := by
    cases c1 : isNameB s
    · simp [c1] at he
    · rfl
  have c2 : ¬ 1048576 < b.length := by intro c2; simp [c1, c2] at he
  have c2' : ¬ (1048576 : Int) < b.length := by omega
  simp only [c1, Bool.not_true, Bool.false_eq_true, if_false, c2] at he
  obtain ⟨c, g, os, k1, k2, k3⟩ := clone_call h.clone (H := { l := H.l, d := none }) (hx.dd none) (by omega)
  obtain ⟨R, hR⟩ : ∃ R : AV × Option Hp → Prop, R = fun r => ∃ g, r = (avInt .i64 0, some g) ∧ St g t p m (turn + 1) (vPut s c l) ∧ Mut H g [p, m] ∧ ∀ q ∈ os, hget g q.1 = some q.2 ∧ H.l.length ≤ q.1 := ⟨_, rfl⟩
  suffices ∃ r, (lim Γ A).call (f_p_store_Store_Set N) [.ptr p 0, avStr s, x] H = some r ∧ R r by
    obtain ⟨r, e, hr⟩ := this
    rw [hR] at hr
    obtain ⟨g, rfl, r1, r2, r3⟩ := hr
    exact ⟨c, g, os, e, r1, r2, k2.row, r3, k3⟩
  apply h.set.callP (by rfl)
  have hlt := hget_lt hs.cell
  have hltm := hget_lt m1
  have kb := fun {Q : AV → Hp → Prop} {ma : Mk Q} {mb : Mk ({ l := H.l, d := none } : Hp)} => bindH1_fresh (c := c) (Q := Q) (ma := ma) (mb := mb) rfl k2.wr
  have g1 := k2.wr.get' q1 (by simp)
  have g2 := k2.wr.get' hm (by simp)
  have kw := k2.wr
  generalize hG : g.getD { l := H.l, d := none } = G at kb g1 g2 kw
  obtain ⟨es', clk', u1, u2, u3⟩ := aMapupd_str (s := mkS s) (v := c) g2 m2
  have hgm : hget (hset G m (some (.map es' clk'))) p = some (.cells [.map m, avInt .i64 turn] t) := by
    rw [hget_hset, if_neg hpm]; exact g1
  have hw : IntKind.wrap .i64 ((turn : Int) + 1) = ((turn + 1 : Nat) : Int) := by rw [wrap64 (by omega) (by omega)]; omega
  have hG2 : G.l.length = G.l.length := rfl
  have hp2 : p < G.l.length := hget_lt g1
  have hm2 : m < G.l.length := hget_lt g2
  have hmu : Mut { l := H.l, d := none } (hset (hset G m (some (.map es' clk'))) p (some (.cells [.map m, avInt .i64 ((turn + 1 : Nat) : Int)] t))) [p, m] :=
    ((Mut.trans (Mut.refl _ [p, m]) kw (by simp)).set (i := m) (.inl (by simp))).set (i := p) (.inl (by simp))
  have fin : R (avInt .i64 0, some { l := (hset (hset G m (some (.map es' clk'))) p (some (.cells [.map m, avInt .i64 ((turn + 1 : Nat) : Int)] t))).l, d := dminO H.d (hset (hset G m (some (.map es' clk'))) p (some (.cells [.map m, avInt .i64 ((turn + 1 : Nat) : Int)] t))).d }) := by
    rw [hR]
    refine ⟨_, rfl, ⟨?_, es', clk', ?_, u2, by rw [u3, m3]; rfl⟩, hmu.settled, fun q hq => ?_⟩
    · rw [hget_l, hget_hset, if_pos rfl, if_pos (by simpa using hp2)]
    · rw [hget_l, hget_hset, if_neg (Ne.symm hpm), hget_hset, if_pos rfl, if_pos hm2]
    · obtain ⟨r1, r2⟩ := k2.has q hq
      rw [hG] at r1
      refine ⟨?_, r2⟩
      have r2' : H.l.length ≤ q.1 := r2
      rw [hget_l, hget_hset, if_neg (by omega), hget_hset, if_neg (by omega), r1]
  have hsw := settle_wrote (H := H) (H' := hset (hset G m (some (.map es' clk'))) p (some (.cells [.map m, avInt .i64 ((turn + 1 : Nat) : Int)] t))) (v := avInt .i64 0) (hset_wrote hlt)
  by_cases c3 : (vFind s l).isSome = true
  · simp [C_p_store_Store_Set, q1, q2, q3, e1, c1, c2, c2', hn, c3, k1, kb, u1, hgm, hw, -hset_d, -Int.natCast_add]
    rw [hsw]
    exact fin
  · have c3' : (vFind s l).isSome = false := by simpa using c3
    have c4 : ¬ (256 : Int) ≤ l.length := by
      simp [c3'] at he
      omega
    simp [C_p_store_Store_Set, q1, q2, q3, e1, c1, c2, c2', hn, c3', c4, k1, kb, u1, hgm, hw, -hset_d, -Int.natCast_add]
    rw [hsw]
    exact fin

theorem Delete_err (h : StoreS Γ A N) {H : Hp} {t : TypeId} {p m turn : Nat} {l : List (List UInt8 × AV)} (hs : St H t p m turn l) {s : List UInt8} (he : (vFind s l).isSome = false) :
    (lim Γ A).call (f_p_store_Store_Delete N) [.ptr p 0, avStr s] H = some (avInt .i64 13, none) := by
  obtain ⟨es, clk, m1, m2, m3⟩ := hs.mp
  have hm : hget { l := H.l, d := none } m = some (.map es clk) := m1
  have q1 : hget { l := H.l, d := none } p = some (.cells [.map m, avInt .i64 turn] t) := hs.cell
  have q2 := aLookup_str (s := mkS s) (z := .lit (.slice none 0 0)) hm m2
  rw [m3] at q2
  apply h.del.call (by rfl)
  simp [C_p_store_Store_Delete, q1, q2, he]

theorem Delete_ok (h : StoreS Γ A N) {H : Hp} {t : TypeId} {p m turn : Nat} {l : List (List UInt8 × AV)} (hs : St H t p m turn l) {s : List UInt8} (he : (vFind s l).isSome = true) (ht : turn < 2 ^ 60) :
    ∃ g, (lim Γ A).call (f_p_store_Store_Delete N) [.ptr p 0, avStr s] H = some (avInt .i64 0, some g) ∧ St g t p m (turn + 1) (vDel s l) ∧ Mut H g [p, m] := by
  have hpm := hs.ne
  obtain ⟨es, clk, m1, m2, m3⟩ := hs.mp
  have hm : hget { l := H.l, d := none } m = some (.map es clk) := m1
  have q1 : hget { l := H.l, d := none } p = some (.cells [.map m, avInt .i64 turn] t) := hs.cell
  have q2 := aLookup_str (s := mkS s) (z := .lit (.slice none 0 0)) hm m2
  rw [m3] at q2
  obtain ⟨es', u1, u2, u3⟩ := aDelete_str (s := mkS s) hm m2
  obtain ⟨R, hR⟩ : ∃ R : AV × Option Hp → Prop, R = fun r => ∃ g, r = (avInt .i64 0, some g) ∧ St g t p m (turn + 1) (vDel s l) ∧ Mut H g [p, m] := ⟨_, rfl⟩
  suffices ∃ r, (lim Γ A).call (f_p_store_Store_Delete N) [.ptr p 0, avStr s] H = some r ∧ R r by
    obtain ⟨r, e, hr⟩ := this
    rw [hR] at hr
    obtain ⟨g, rfl, r1, r2⟩ := hr
    exact ⟨g, e, r1, r2⟩
  have hlt := hget_lt hs.cell
  have hltm := hget_lt m1
  have hgm : hget (hset { l := H.l, d := none } m (some (.map es' clk))) p = some (.cells [.map m, avInt .i64 turn] t) := by
    rw [hget_hset, if_neg hpm]; exact q1
  have hw : IntKind.wrap .i64 ((turn : Int) + 1) = ((turn + 1 : Nat) : Int) := by rw [wrap64 (by omega) (by omega)]; omega
  have hmu : Mut { l := H.l, d := none } (hset (hset { l := H.l, d := none } m (some (.map es' clk))) p (some (.cells [.map m, avInt .i64 ((turn + 1 : Nat) : Int)] t))) [p, m] :=
    ((Mut.refl _ [p, m]).set (i := m) (.inl (by simp))).set (i := p) (.inl (by simp))
  have fin : R (avInt .i64 0, some { l := (hset (hset { l := H.l, d := none } m (some (.map es' clk))) p (some (.cells [.map m, avInt .i64 ((turn + 1 : Nat) : Int)] t))).l, d := dminO H.d (hset (hset { l := H.l, d := none } m (some (.map es' clk))) p (some (.cells [.map m, avInt .i64 ((turn + 1 : Nat) : Int)] t))).d }) := by
    rw [hR]
    refine ⟨_, rfl, ⟨?_, es', clk, ?_, u2, by rw [u3, m3]; rfl⟩, hmu.settled⟩
    · rw [hget_l, hget_hset, if_pos rfl, if_pos (by simpa using hlt)]
    · rw [hget_l, hget_hset, if_neg (Ne.symm hpm), hget_hset, if_pos rfl, if_pos (by simpa using hltm)]
  have hsw := settle_wrote (H := H) (H' := hset (hset { l := H.l, d := none } m (some (.map es' clk))) p (some (.cells [.map m, avInt .i64 ((turn + 1 : Nat) : Int)] t))) (v := avInt .i64 0) (hset_wrote hlt)
  apply h.del.callP (by rfl)
  simp [C_p_store_Store_Delete, q1, q2, he, u1, hgm, hw, -hset_d, -Int.natCast_add]
  rw [hsw]
  exact fin

theorem New_call (h : StoreS Γ A N) (H : Hp) : ∃ g p m, (lim Γ A).call (f_store_New N) [] H = some (.ptr p 0, some g) ∧ St g (t_store_Store N) p m 0 [] ∧ Mut H g [] ∧ H.l.length ≤ p ∧ H.l.length ≤ m := by
  obtain ⟨R, hR⟩ : ∃ R : AV × Option Hp → Prop, R = fun r => ∃ g p m, r = (.ptr p 0, some g) ∧ St g (t_store_Store N) p m 0 [] ∧ Mut H g [] ∧ H.l.length ≤ p ∧ H.l.length ≤ m := ⟨_, rfl⟩
  suffices ∃ r, (lim Γ A).call (f_store_New N) [] H = some r ∧ R r by
    obtain ⟨r, e, hr⟩ := this
    rw [hR] at hr
    obtain ⟨g, p, m, rfl, h1, h2⟩ := hr
    exact ⟨g, p, m, e, h1, h2⟩
  have hmu : Mut { l := H.l, d := none } (halloc (halloc { l := H.l, d := none } (.map [] 0)) (.cells [.map H.l.length, avInt .i64 0] (t_store_Store N))) [] := ((Mut.refl _ _).alloc _).alloc _
  apply h.new.callP (by rfl)
  simp [C_store_New, setFrom, -halloc_d]
  rw [settle_some (by simp [AV.under]), hR]
  refine ⟨_, _, _, rfl, ⟨?_, [], 0, ?_, by simp [SKeys], rfl⟩, hmu.settled, by omega, Nat.le_refl _⟩
  · rw [hget_l]; simp
  · rw [hget_l]; simp
end
end Go.Proofs.Eng
/- The law SolveNone, run by the engine. -/
set_option linter.unusedVariables false
set_option linter.unusedSimpArgs false
set_option maxRecDepth 100000
namespace Go.Proofs.Eng
open Go
section
variable {Γ : Sums} {A : Tab} {N : Nat → Nat}
@[simp] theorem aeq_nilp : aeq .pptr (.lit (.pointer none)) (.lit (.pointer none)) = some true := _root_.id rfl
end
end Go.Proofs.Eng
/- The law StoreFull: plain facts of its names. -/
set_option linter.unusedVariables false
set_option linter.unusedSimpArgs false
set_option maxRecDepth 100000
namespace Go.Proofs.Eng
open Go
section
variable {Γ : Sums} {A : Tab} {N : Nat → Nat}
theorem St.alloc {H : Hp} {t : TypeId} {p m turn : Nat} {l : List (List UInt8 × AV)} (h : St H t p m turn l) (o : AObj) : St (halloc H o) t p m turn l := by
  obtain ⟨c1, es, clk, c2, c3⟩ := h
  refine ⟨?_, es, clk, ?_, c3⟩
  · rw [hget_halloc, if_neg (Nat.ne_of_lt (hget_lt c1))]; exact c1
  · rw [hget_halloc, if_neg (Nat.ne_of_lt (hget_lt c2))]; exact c2
end
end Go.Proofs.Eng
