import Derived.Test.YtchbifaiofljdaaM32
/- Templates of functions, as the engine takes them; numbers of functions and types by names. Printed by tm.py. -/
set_option linter.unusedVariables false
set_option maxRecDepth 100000
namespace Go.Proofs.Eng
open Go

def L_law23_StoreFull_1 (N : Nat → Nat) : AC :=
    .seq (
     .ops [⟨(some 10), .bin .lss (.t 9) (.c (.lit (.int .i64 256))), none⟩]) (
    .seq (
     .cond (.t 10) (
      .skip) (
      .exit 0)) (
    .seq (
     .block 1 (
      .seq (
       .ops [⟨(some 11), .mov (.t 9), none⟩, ⟨(some 4), .mov (.t 11), none⟩]) (
      .seq (
       .ops [⟨(some 12), .mov (.t 3), none⟩, ⟨(some 13), .mov (.t 4), none⟩, ⟨(some 14), .bin .quo (.t 13) (.c (.lit (.int .i64 16))), none⟩, ⟨(some 15), .conv (.toInt .u8) (.t 14), none⟩, ⟨(some 16), .bin .add (.c (.lit (.int .u8 97))) (.t 15), none⟩, ⟨(some 17), .mov (.t 4), none⟩, ⟨(some 18), .bin .rem (.t 17) (.c (.lit (.int .i64 16))), none⟩, ⟨(some 19), .conv (.toInt .u8) (.t 18), none⟩, ⟨(some 20), .bin .add (.c (.lit (.int .u8 97))) (.t 19), none⟩, ⟨(some 21), .bslice (t_uint8 N) 1 none 2 [(.lit (.int .u8 0))] [(0, 1, (.t 16)), (1, 1, (.t 20))], none⟩, ⟨(some 22), .conv .str (.t 21), none⟩, ⟨(some 23), .bin .add (.c (.lit (.string (mkS [110])))) (.t 22), none⟩, ⟨(some 24), .call (.c (.fn (f_p_store_Store_Set N) [] [])) [(.t 12), (.t 23), (.c (.lit (.slice none 0 0)))], none⟩, ⟨(some 25), .eq true .pint (.t 24) (.c (.lit (.int .i64 0))), none⟩]) (
      .cond (.t 25) (
       .seq (
        .ops [⟨(some 2), .mov (.c (.lit (.bool false))), none⟩]) (
       .ret)) (
       .skip))))) (
    .ops [⟨(some 26), .bin .add (.t 9) (.c (.lit (.int .i64 1))), none⟩, ⟨(some 9), .mov (.t 26), none⟩])))
def K_law23_StoreFull_1 (N : Nat → Nat) : AC :=
 .seq (
  .ops [⟨(some 27), .mov (.t 0), none⟩, ⟨(some 28), .bin .quo (.t 27) (.c (.lit (.int .u8 16))), none⟩, ⟨(some 29), .bin .add (.c (.lit (.int .u8 97))) (.t 28), none⟩, ⟨(some 30), .mov (.t 0), none⟩, ⟨(some 31), .bin .rem (.t 30) (.c (.lit (.int .u8 16))), none⟩, ⟨(some 32), .bin .add (.c (.lit (.int .u8 97))) (.t 31), none⟩, ⟨(some 33), .bslice (t_uint8 N) 1 none 2 [(.lit (.int .u8 0))] [(0, 1, (.t 29)), (1, 1, (.t 32))], none⟩, ⟨(some 34), .conv .str (.t 33), none⟩, ⟨(some 35), .bin .add (.c (.lit (.string (mkS [110])))) (.t 34), none⟩, ⟨(some 5), .mov (.t 35), none⟩]) (
 .seq (
  .ops [⟨(some 36), .mov (.t 3), none⟩, ⟨(some 37), .call (.c (.fn (f_p_store_Store_Set N) [] [])) [(.t 36), (.c (.lit (.string (mkS [111, 116, 104, 101, 114])))), (.c (.lit (.slice none 0 0)))], none⟩, ⟨(some 38), .eq false .pint (.t 37) (.c (.lit (.int .i64 20))), none⟩, ⟨(some 39), .mov (.t 38), none⟩, ⟨(some 40), .mov (.t 3), (some (39, true))⟩, ⟨(some 41), .mov (.t 5), (some (39, true))⟩, ⟨(some 42), .mkslice (t_uint8 N) 1 1 (.lit (.int .u8 0)) (.c (.lit (.int .i64 1048577))) (.c (.lit (.int .i64 1048577))), (some (39, true))⟩, ⟨(some 43), .call (.c (.fn (f_p_store_Store_Set N) [] [])) [(.t 40), (.t 41), (.t 42)], (some (39, true))⟩, ⟨(some 44), .eq false .pint (.t 43) (.c (.lit (.int .i64 6))), (some (39, true))⟩, ⟨(some 45), .pick (.t 39) (.t 44) (.c (.lit (.bool false))), none⟩, ⟨(some 46), .mov (.t 45), none⟩, ⟨(some 47), .mov (.t 3), (some (46, true))⟩, ⟨(some 48), .mov (.t 5), (some (46, true))⟩, ⟨(some 49), .mkslice (t_uint8 N) 1 1 (.lit (.int .u8 0)) (.c (.lit (.int .i64 1048576))) (.c (.lit (.int .i64 1048576))), (some (46, true))⟩, ⟨(some 50), .call (.c (.fn (f_p_store_Store_Set N) [] [])) [(.t 47), (.t 48), (.t 49)], (some (46, true))⟩, ⟨(some 51), .eq false .pint (.t 50) (.c (.lit (.int .i64 0))), (some (46, true))⟩, ⟨(some 52), .pick (.t 46) (.t 51) (.c (.lit (.bool false))), none⟩, ⟨(some 53), .mov (.t 52), none⟩, ⟨(some 54), .mov (.t 3), (some (53, true))⟩, ⟨(some 55), .mov (.t 5), (some (53, true))⟩, ⟨(some 56), .call (.c (.fn (f_p_store_Store_Delete N) [] [])) [(.t 54), (.t 55)], (some (53, true))⟩, ⟨(some 57), .eq false .pint (.t 56) (.c (.lit (.int .i64 0))), (some (53, true))⟩, ⟨(some 58), .pick (.t 53) (.t 57) (.c (.lit (.bool false))), none⟩, ⟨(some 59), .mov (.t 58), none⟩, ⟨(some 60), .mov (.t 3), (some (59, true))⟩, ⟨(some 61), .call (.c (.fn (f_p_store_Store_Set N) [] [])) [(.t 60), (.c (.lit (.string (mkS [111, 116, 104, 101, 114])))), (.c (.lit (.slice none 0 0)))], (some (59, true))⟩, ⟨(some 62), .eq false .pint (.t 61) (.c (.lit (.int .i64 0))), (some (59, true))⟩, ⟨(some 63), .pick (.t 59) (.t 62) (.c (.lit (.bool false))), none⟩, ⟨(some 2), .mov (.t 63), none⟩]) (
 .ret))
/-- azimuth/azimuthlaw23.StoreFull -/
def C_law23_StoreFull (N : Nat → Nat) : AFunc := ⟨64, [.inl 2],
 .seq (
  .ops [⟨(some 2), .mov (.c (.lit (.bool false))), none⟩]) (
 .seq (
  .seq (
   .ops [⟨(some 6), .call (.c (.fn (f_law23_lives N) [] [])) [], none⟩, ⟨(some 7), .un .not (.t 6), none⟩]) (
  .cond (.t 7) (
   .seq (
    .ops [⟨(some 2), .mov (.c (.lit (.bool false))), none⟩]) (
   .ret)) (
   .skip))) (
 .seq (
  .ops [⟨(some 8), .call (.c (.fn (f_store_New N) [] [])) [], none⟩, ⟨(some 3), .mov (.t 8), none⟩]) (
 .seq (
  .seq (
   .ops [⟨(some 9), .mov (.c (.lit (.int .i64 0))), none⟩]) (
  .block 0 (
   .loop (L_law23_StoreFull_1 N)))) (K_law23_StoreFull_1 N)))), false⟩

def L_law23_StoreNone_1 (N : Nat → Nat) : AC :=
    .skip
def L_law23_StoreNone_2 (N : Nat → Nat) : AC :=
    .block 1 (
     .ops [⟨(some 25), .load none (.t 6), none⟩, ⟨(some 26), .bin .add (.t 25) (.c (.lit (.int .i64 1))), none⟩, ⟨none, .store 1 (.t 6) (.t 26), none⟩])
def K_law23_StoreNone_1 (N : Nat → Nat) : AC :=
 .seq (
  .dops 8 [⟨(some 27), .mov (.t 3), none⟩, ⟨(some 28), .mov (.t 0), none⟩, ⟨(some 29), .call (.c (.fn (f_p_store_Store_Set N) [] [])) [(.t 27), (.t 28), (.c (.lit (.slice none 0 0)))], none⟩, ⟨(some 30), .eq false .pint (.t 29) (.c (.lit (.int .i64 1))), none⟩, ⟨(some 31), .mov (.t 30), none⟩, ⟨(some 32), .mov (.t 3), (some (31, true))⟩, ⟨(some 33), .mov (.t 0), (some (31, true))⟩, ⟨(some 34), .call (.c (.fn (f_p_store_Store_Delete N) [] [])) [(.t 32), (.t 33)], (some (31, true))⟩, ⟨(some 35), .eq false .pint (.t 34) (.c (.lit (.int .i64 1))), (some (31, true))⟩, ⟨(some 36), .pick (.t 31) (.t 35) (.c (.lit (.bool false))), none⟩, ⟨(some 37), .mov (.t 36), none⟩, ⟨(some 38), .mov (.t 3), (some (37, true))⟩, ⟨(some 39), .mov (.t 0), (some (37, true))⟩, ⟨(some 40), .mov (.t 0), (some (37, true))⟩, ⟨(some 41), .call (.c (.fn (f_p_store_Store_Rename N) [] [])) [(.t 38), (.t 39), (.t 40)], (some (37, true))⟩, ⟨(some 42), .eq false .pint (.t 41) (.c (.lit (.int .i64 1))), (some (37, true))⟩, ⟨(some 43), .pick (.t 37) (.t 42) (.c (.lit (.bool false))), none⟩, ⟨(some 44), .mov (.t 43), none⟩, ⟨(some 45), .mov (.t 5), (some (44, true))⟩, ⟨(some 46), .un .not (.t 45), (some (44, true))⟩, ⟨(some 47), .pick (.t 44) (.t 46) (.c (.lit (.bool false))), none⟩, ⟨(some 48), .mov (.t 47), none⟩, ⟨(some 49), .load none (.t 6), (some (48, true))⟩, ⟨(some 50), .mov (.t 3), (some (48, true))⟩, ⟨(some 51), .call (.c (.fn (f_p_store_Store_Len N) [] [])) [(.t 50)], (some (48, true))⟩, ⟨(some 52), .bin .add (.t 49) (.t 51), (some (48, true))⟩, ⟨(some 53), .mov (.t 3), (some (48, true))⟩, ⟨(some 54), .call (.c (.fn (f_p_store_Store_Turn N) [] [])) [(.t 53)], (some (48, true))⟩, ⟨(some 55), .bin .add (.t 52) (.t 54), (some (48, true))⟩, ⟨(some 56), .eq false .pint (.t 55) (.c (.lit (.int .i64 0))), (some (48, true))⟩, ⟨(some 57), .pick (.t 48) (.t 56) (.c (.lit (.bool false))), none⟩, ⟨(some 58), .mov (.t 57), none⟩, ⟨(some 59), .mov (.t 3), (some (58, true))⟩, ⟨(some 60), .call (.c (.fn (f_p_store_Store_Copy N) [] [])) [(.t 59)], (some (58, true))⟩, ⟨(some 61), .eq false .pptr (.t 60) (.c (.lit (.pointer none))), (some (58, true))⟩, ⟨(some 62), .pick (.t 58) (.t 61) (.c (.lit (.bool false))), none⟩, ⟨(some 2), .mov (.t 62), none⟩] [0, 0, 0, 0, 0, 0, 0, 0, 0, 0, 0, 0, 0, 0, 0, 0, 0, 0, 0, 0, 0, 0, 0, 0, 1, 0, 0, 1, 0, 0, 0, 0, 0, 0, 0, 0, 0] []) (
 .ret)
/-- azimuth/azimuthlaw23.StoreNone -/
def C_law23_StoreNone (N : Nat → Nat) : AFunc := ⟨63, [.inl 2],
 .seq (
  .ops [⟨(some 2), .mov (.c (.lit (.bool false))), none⟩]) (
 .seq (
  .seq (
   .ops [⟨(some 7), .call (.c (.fn (f_law23_lives N) [] [])) [], none⟩, ⟨(some 8), .un .not (.t 7), none⟩, ⟨(some 9), .mov (.t 8), none⟩, ⟨(some 10), .mov (.t 0), (some (9, false))⟩, ⟨(some 11), .lens (.t 10), (some (9, false))⟩, ⟨(some 12), .bin .gtr (.t 11) (.c (.lit (.int .i64 100))), (some (9, false))⟩, ⟨(some 13), .pick (.t 9) (.c (.lit (.bool true))) (.t 12), none⟩]) (
  .cond (.t 13) (
   .seq (
    .ops [⟨(some 14), .call (.c (.fn (f_law23_lives N) [] [])) [], none⟩, ⟨(some 2), .mov (.t 14), none⟩]) (
   .ret)) (
   .skip))) (
 .seq (
  .ops [⟨(some 3), .mov (.c (.lit (.pointer none))), none⟩]) (
 .seq (
  .ops [⟨(some 16), .mov (.t 3), none⟩, ⟨(some 17), .mov (.t 0), none⟩, ⟨(some 18), .call (.c (.fn (f_p_store_Store_Text N) [] [])) [(.t 16), (.t 17)], none⟩, ⟨(some 15), .mov (.t 18), none⟩, ⟨(some 19), .extract (.t 15) 0, none⟩, ⟨(some 20), .extract (.t 15) 1, none⟩, ⟨(some 4), .mov (.t 19), none⟩, ⟨(some 5), .mov (.t 20), none⟩]) (
 .seq (
  .ops [⟨(some 6), .new (t_int N) (.lit (.int .i64 0)), none⟩, ⟨none, .store 1 (.t 6) (.c (.lit (.int .i64 0))), none⟩]) (
 .seq (
  .seq (
   .ops [⟨(some 21), .mov (.t 3), none⟩, ⟨(some 22), .call (.c (.fn (f_p_store_Store_All N) [] [])) [(.t 21)], none⟩]) (
  .block 0 (
   .rangeFn (.t 22) [23, 24] (L_law23_StoreNone_1 N) (L_law23_StoreNone_2 N)))) (K_law23_StoreNone_1 N)))))), false⟩

def L_law23_StorePlays_2 (N : Nat → Nat) : AC :=
         .seq (
          .ops [⟨(some 71), .bin .lss (.t 70) (.t 69), none⟩]) (
         .seq (
          .cond (.t 71) (
           .skip) (
           .exit 2)) (
         .seq (
          .block 3 (
           .seq (
            .ops [⟨(some 72), .mov (.t 70), none⟩, ⟨(some 11), .mov (.t 72), none⟩]) (
           .ops [⟨(some 73), .faddr 3 (.t 9), none⟩, ⟨(some 74), .load none (.t 73), none⟩, ⟨(some 75), .mov (.t 11), none⟩, ⟨(some 76), .iaddr 1 (.t 74) (.t 75), none⟩, ⟨(some 77), .load none (.t 76), none⟩, ⟨(some 78), .bin .xor (.t 77) (.c (.lit (.int .u8 255))), none⟩, ⟨(some 79), .iaddr 1 (.t 74) (.t 75), none⟩, ⟨none, .store 1 (.t 79) (.t 78), none⟩]))) (
         .ops [⟨(some 80), .bin .add (.t 70) (.c (.lit (.int .i64 1))), none⟩, ⟨(some 70), .mov (.t 80), none⟩])))
def K_law23_StorePlays_1 (N : Nat → Nat) : AC :=
 .seq (
  .ops [⟨(some 81), .mov (.t 7), none⟩, ⟨(some 82), .mov (.t 5), none⟩, ⟨(some 83), .call (.c (.fn (f_p_store_Store_Turn N) [] [])) [(.t 82)], none⟩, ⟨(some 84), .mov (.t 10), none⟩, ⟨(some 85), .bin .sub (.t 83) (.t 84), none⟩, ⟨(some 86), .bin .add (.t 81) (.t 85), none⟩, ⟨(some 7), .mov (.t 86), none⟩]) (
 .seq (
  .ops [⟨(some 87), .mov (.t 5), none⟩, ⟨(some 88), .call (.c (.fn (f_p_store_Store_Turn N) [] [])) [(.t 87)], none⟩, ⟨(some 89), .mov (.t 10), none⟩, ⟨(some 90), .bin .sub (.t 88) (.t 89), none⟩, ⟨(some 91), .bin .gtr (.t 90) (.c (.lit (.int .i64 1))), none⟩, ⟨(some 92), .mov (.t 91), none⟩, ⟨(some 93), .mov (.t 5), (some (92, false))⟩, ⟨(some 94), .call (.c (.fn (f_p_store_Store_Turn N) [] [])) [(.t 93)], (some (92, false))⟩, ⟨(some 95), .mov (.t 10), (some (92, false))⟩, ⟨(some 96), .bin .lss (.t 94) (.t 95), (some (92, false))⟩, ⟨(some 97), .pick (.t 92) (.c (.lit (.bool true))) (.t 96), none⟩]) (
 .cond (.t 97) (
  .seq (
   .ops [⟨(some 4), .mov (.c (.lit (.bool false))), none⟩]) (
  .ret)) (
  .skip)))
def K_law23_StorePlays_2 (N : Nat → Nat) : AC :=
 .ops [⟨(some 98), .bin .add (.t 35) (.c (.lit (.int .i64 1))), none⟩, ⟨(some 35), .mov (.t 98), none⟩]
def L_law23_StorePlays_1 (N : Nat → Nat) : AC :=
    .seq (
     .ops [⟨(some 36), .bin .lss (.t 35) (.t 34), none⟩]) (
    .seq (
     .cond (.t 36) (
      .skip) (
      .exit 0)) (
    .seq (
     .block 1 (
      .seq (
       .ops [⟨(some 37), .iaddr 4 (.t 33) (.t 35), none⟩, ⟨(some 38), .load (some 4) (.t 37), none⟩, ⟨(some 9), .new (t_law23_Act N) (.agg [(.lit (.int .i64 0)), (.lit (.string (mkS []))), (.lit (.string (mkS []))), (.lit (.slice none 0 0))]), none⟩, ⟨none, .store 4 (.t 9) (.t 38), none⟩]) (
      .seq (
       .seq (
        .ops [⟨(some 39), .faddr 3 (.t 9), none⟩, ⟨(some 40), .load none (.t 39), none⟩, ⟨(some 41), .len (.t 40), none⟩, ⟨(some 42), .bin .gtr (.t 41) (.c (.lit (.int .i64 200))), none⟩, ⟨(some 43), .mov (.t 42), none⟩, ⟨(some 44), .faddr 1 (.t 9), (some (43, false))⟩, ⟨(some 45), .load none (.t 44), (some (43, false))⟩, ⟨(some 46), .lens (.t 45), (some (43, false))⟩, ⟨(some 47), .bin .gtr (.t 46) (.c (.lit (.int .i64 50))), (some (43, false))⟩, ⟨(some 48), .pick (.t 43) (.c (.lit (.bool true))) (.t 47), none⟩, ⟨(some 49), .mov (.t 48), none⟩, ⟨(some 50), .faddr 2 (.t 9), (some (49, false))⟩, ⟨(some 51), .load none (.t 50), (some (49, false))⟩, ⟨(some 52), .lens (.t 51), (some (49, false))⟩, ⟨(some 53), .bin .gtr (.t 52) (.c (.lit (.int .i64 50))), (some (49, false))⟩, ⟨(some 54), .pick (.t 49) (.c (.lit (.bool true))) (.t 53), none⟩]) (
       .cond (.t 54) (
        .seq (
         .ops [⟨(some 4), .mov (.c (.lit (.bool true))), none⟩]) (
        .ret)) (
        .skip))) (
      .seq (
       .ops [⟨(some 55), .bslice (t_uint8 N) 1 none 0 [(.lit (.int .u8 0))] [], none⟩, ⟨(some 56), .faddr 3 (.t 9), none⟩, ⟨(some 57), .load none (.t 56), none⟩, ⟨(some 58), .append (t_uint8 N) 1 1 (.t 55) (.t 57), none⟩, ⟨(some 59), .faddr 3 (.t 9), none⟩, ⟨none, .store 1 (.t 59) (.t 58), none⟩]) (
      .seq (
       .ops [⟨(some 60), .mov (.t 5), none⟩, ⟨(some 61), .call (.c (.fn (f_p_store_Store_Turn N) [] [])) [(.t 60)], none⟩, ⟨(some 10), .mov (.t 61), none⟩]) (
      .seq (
       .seq (
        .ops [⟨(some 62), .mov (.t 5), none⟩, ⟨(some 63), .mov (.t 6), none⟩, ⟨(some 64), .load (some 4) (.t 9), none⟩, ⟨(some 65), .call (.c (.fn (f_law23_do N) [] [])) [(.t 62), (.t 63), (.t 64)], none⟩, ⟨(some 66), .un .not (.t 65), none⟩]) (
       .cond (.t 66) (
        .seq (
         .ops [⟨(some 4), .mov (.c (.lit (.bool false))), none⟩]) (
        .ret)) (
        .skip))) (
      .seq (
       .seq (
        .ops [⟨(some 67), .faddr 3 (.t 9), none⟩, ⟨(some 68), .load none (.t 67), none⟩, ⟨(some 69), .len (.t 68), none⟩, ⟨(some 70), .mov (.c (.lit (.int .i64 0))), none⟩]) (
       .block 2 (
        .loop (L_law23_StorePlays_2 N)))) (K_law23_StorePlays_1 N)))))))) (K_law23_StorePlays_2 N)))
def L_law23_StorePlays_3 (N : Nat → Nat) : AC :=
    .seq (
     .ops [⟨none, .mnmx false [], none⟩, ⟨(some 105), .extract (.t 104) 0, none⟩]) (
    .seq (
     .cond (.t 105) (
      .skip) (
      .exit 4)) (
    .block 5 (
     .seq (
      .ops [⟨none, .mnmx false [], none⟩, ⟨(some 107), .extract (.t 106) 0, none⟩, ⟨(some 108), .extract (.t 106) 1, none⟩, ⟨(some 14), .mov (.t 107), none⟩, ⟨(some 15), .mov (.t 108), none⟩]) (
     .ops [⟨(some 109), .mov (.t 13), none⟩, ⟨(some 110), .mov (.t 14), none⟩, ⟨(some 111), .mov (.t 15), none⟩, ⟨none, .mapupd .string (.t 109) (.t 110) (.t 111), none⟩]))))
def L_law23_StorePlays_4 (N : Nat → Nat) : AC :=
    .seq (
     .ops [⟨(some 115), .bin .lss (.t 114) (.t 113), none⟩]) (
    .seq (
     .cond (.t 115) (
      .skip) (
      .exit 6)) (
    .seq (
     .block 7 (
      .seq (
       .ops [⟨(some 116), .iaddr 4 (.t 112) (.t 114), none⟩, ⟨(some 117), .load (some 4) (.t 116), none⟩, ⟨(some 17), .new (t_law23_Act N) (.agg [(.lit (.int .i64 0)), (.lit (.string (mkS []))), (.lit (.string (mkS []))), (.lit (.slice none 0 0))]), none⟩, ⟨none, .store 4 (.t 17) (.t 117), none⟩]) (
      .seq (
       .seq (
        .ops [⟨(some 118), .faddr 3 (.t 17), none⟩, ⟨(some 119), .load none (.t 118), none⟩, ⟨(some 120), .len (.t 119), none⟩, ⟨(some 121), .bin .gtr (.t 120) (.c (.lit (.int .i64 200))), none⟩, ⟨(some 122), .mov (.t 121), none⟩, ⟨(some 123), .faddr 1 (.t 17), (some (122, false))⟩, ⟨(some 124), .load none (.t 123), (some (122, false))⟩, ⟨(some 125), .lens (.t 124), (some (122, false))⟩, ⟨(some 126), .bin .gtr (.t 125) (.c (.lit (.int .i64 50))), (some (122, false))⟩, ⟨(some 127), .pick (.t 122) (.c (.lit (.bool true))) (.t 126), none⟩, ⟨(some 128), .mov (.t 127), none⟩, ⟨(some 129), .faddr 2 (.t 17), (some (128, false))⟩, ⟨(some 130), .load none (.t 129), (some (128, false))⟩, ⟨(some 131), .lens (.t 130), (some (128, false))⟩, ⟨(some 132), .bin .gtr (.t 131) (.c (.lit (.int .i64 50))), (some (128, false))⟩, ⟨(some 133), .pick (.t 128) (.c (.lit (.bool true))) (.t 132), none⟩]) (
       .cond (.t 133) (
        .seq (
         .ops [⟨(some 4), .mov (.c (.lit (.bool true))), none⟩]) (
        .ret)) (
        .skip))) (
      .seq (
       .ops [⟨(some 134), .mov (.t 12), none⟩, ⟨(some 135), .mov (.t 13), none⟩, ⟨(some 136), .load (some 4) (.t 17), none⟩, ⟨(some 137), .call (.c (.fn (f_law23_do N) [] [])) [(.t 134), (.t 135), (.t 136)], none⟩, ⟨(some 138), .un .not (.t 137), none⟩]) (
      .cond (.t 138) (
       .seq (
        .ops [⟨(some 4), .mov (.c (.lit (.bool false))), none⟩]) (
       .ret)) (
       .skip)))))) (
    .ops [⟨(some 139), .bin .add (.t 114) (.c (.lit (.int .i64 1))), none⟩, ⟨(some 114), .mov (.t 139), none⟩])))
def K_law23_StorePlays_5 (N : Nat → Nat) : AC :=
 .seq (
  .ops [⟨(some 140), .mov (.t 5), none⟩, ⟨(some 141), .mov (.t 6), none⟩, ⟨(some 142), .call (.c (.fn (f_law23_is N) [] [])) [(.t 140), (.t 141)], none⟩, ⟨(some 143), .mov (.t 142), none⟩, ⟨(some 144), .mov (.t 12), (some (143, true))⟩, ⟨(some 145), .mov (.t 13), (some (143, true))⟩, ⟨(some 146), .call (.c (.fn (f_law23_is N) [] [])) [(.t 144), (.t 145)], (some (143, true))⟩, ⟨(some 147), .pick (.t 143) (.t 146) (.c (.lit (.bool false))), none⟩, ⟨(some 148), .mov (.t 147), none⟩, ⟨(some 149), .mov (.t 7), (some (148, true))⟩, ⟨(some 150), .mov (.t 5), (some (148, true))⟩, ⟨(some 151), .call (.c (.fn (f_p_store_Store_Turn N) [] [])) [(.t 150)], (some (148, true))⟩, ⟨(some 152), .eq false .pint (.t 149) (.t 151), (some (148, true))⟩, ⟨(some 153), .pick (.t 148) (.t 152) (.c (.lit (.bool false))), none⟩, ⟨(some 4), .mov (.t 153), none⟩]) (
 .ret)
def K_law23_StorePlays_4 (N : Nat → Nat) : AC :=
 .seq (
  .seq (
   .ops [⟨(some 112), .mov (.t 1), none⟩, ⟨(some 113), .len (.t 112), none⟩, ⟨(some 114), .mov (.c (.lit (.int .i64 0))), none⟩]) (
  .block 6 (
   .loop (L_law23_StorePlays_4 N)))) (K_law23_StorePlays_5 N)
def K_law23_StorePlays_3 (N : Nat → Nat) : AC :=
 .seq (
  .ops [⟨(some 99), .mov (.t 5), none⟩, ⟨(some 100), .call (.c (.fn (f_p_store_Store_Copy N) [] [])) [(.t 99)], none⟩, ⟨(some 12), .mov (.t 100), none⟩]) (
 .seq (
  .ops [⟨(some 101), .mkmap, none⟩, ⟨(some 13), .mov (.t 101), none⟩]) (
 .seq (
  .seq (
   .ops [⟨(some 102), .mov (.t 6), none⟩, ⟨none, .mnmx false [], none⟩]) (
  .block 4 (
   .loop (L_law23_StorePlays_3 N)))) (K_law23_StorePlays_4 N)))
/-- azimuth/azimuthlaw23.StorePlays -/
def C_law23_StorePlays (N : Nat → Nat) : AFunc := ⟨154, [.inl 4],
 .seq (
  .ops [⟨(some 4), .mov (.c (.lit (.bool false))), none⟩]) (
 .seq (
  .seq (
   .ops [⟨(some 18), .call (.c (.fn (f_law23_lives N) [] [])) [], none⟩, ⟨(some 19), .un .not (.t 18), none⟩, ⟨(some 20), .mov (.t 19), none⟩, ⟨(some 21), .mov (.t 0), (some (20, false))⟩, ⟨(some 22), .len (.t 21), (some (20, false))⟩, ⟨(some 23), .bin .gtr (.t 22) (.c (.lit (.int .i64 60))), (some (20, false))⟩, ⟨(some 24), .pick (.t 20) (.c (.lit (.bool true))) (.t 23), none⟩, ⟨(some 25), .mov (.t 24), none⟩, ⟨(some 26), .mov (.t 1), (some (25, false))⟩, ⟨(some 27), .len (.t 26), (some (25, false))⟩, ⟨(some 28), .bin .gtr (.t 27) (.c (.lit (.int .i64 60))), (some (25, false))⟩, ⟨(some 29), .pick (.t 25) (.c (.lit (.bool true))) (.t 28), none⟩]) (
  .cond (.t 29) (
   .seq (
    .ops [⟨(some 30), .call (.c (.fn (f_law23_lives N) [] [])) [], none⟩, ⟨(some 4), .mov (.t 30), none⟩]) (
   .ret)) (
   .skip))) (
 .seq (
  .ops [⟨(some 31), .call (.c (.fn (f_store_New N) [] [])) [], none⟩, ⟨(some 32), .mkmap, none⟩, ⟨(some 5), .mov (.t 31), none⟩, ⟨(some 6), .mov (.t 32), none⟩]) (
 .seq (
  .ops [⟨(some 7), .mov (.c (.lit (.int .i64 0))), none⟩]) (
 .seq (
  .seq (
   .ops [⟨(some 33), .mov (.t 0), none⟩, ⟨(some 34), .len (.t 33), none⟩, ⟨(some 35), .mov (.c (.lit (.int .i64 0))), none⟩]) (
  .block 0 (
   .loop (L_law23_StorePlays_1 N)))) (K_law23_StorePlays_3 N))))), false⟩

def L_law23_StoreRounds_1 (N : Nat → Nat) : AC :=
    .seq (
     .ops [⟨(some 34), .bin .lss (.t 33) (.t 32), none⟩]) (
    .seq (
     .cond (.t 34) (
      .skip) (
      .exit 0)) (
    .seq (
     .block 1 (
      .seq (
       .ops [⟨(some 35), .iaddr 4 (.t 31) (.t 33), none⟩, ⟨(some 36), .load (some 4) (.t 35), none⟩, ⟨(some 10), .new (t_law23_Act N) (.agg [(.lit (.int .i64 0)), (.lit (.string (mkS []))), (.lit (.string (mkS []))), (.lit (.slice none 0 0))]), none⟩, ⟨none, .store 4 (.t 10) (.t 36), none⟩]) (
      .seq (
       .seq (
        .ops [⟨(some 37), .faddr 3 (.t 10), none⟩, ⟨(some 38), .load none (.t 37), none⟩, ⟨(some 39), .len (.t 38), none⟩, ⟨(some 40), .bin .gtr (.t 39) (.c (.lit (.int .i64 200))), none⟩, ⟨(some 41), .mov (.t 40), none⟩, ⟨(some 42), .faddr 1 (.t 10), (some (41, false))⟩, ⟨(some 43), .load none (.t 42), (some (41, false))⟩, ⟨(some 44), .lens (.t 43), (some (41, false))⟩, ⟨(some 45), .bin .gtr (.t 44) (.c (.lit (.int .i64 50))), (some (41, false))⟩, ⟨(some 46), .pick (.t 41) (.c (.lit (.bool true))) (.t 45), none⟩, ⟨(some 47), .mov (.t 46), none⟩, ⟨(some 48), .faddr 2 (.t 10), (some (47, false))⟩, ⟨(some 49), .load none (.t 48), (some (47, false))⟩, ⟨(some 50), .lens (.t 49), (some (47, false))⟩, ⟨(some 51), .bin .gtr (.t 50) (.c (.lit (.int .i64 50))), (some (47, false))⟩, ⟨(some 52), .pick (.t 47) (.c (.lit (.bool true))) (.t 51), none⟩]) (
       .cond (.t 52) (
        .seq (
         .ops [⟨(some 6), .mov (.c (.lit (.bool true))), none⟩]) (
        .ret)) (
        .skip))) (
      .seq (
       .ops [⟨(some 53), .mov (.t 7), none⟩, ⟨(some 54), .mov (.t 8), none⟩, ⟨(some 55), .load (some 4) (.t 10), none⟩, ⟨(some 56), .call (.c (.fn (f_law23_do N) [] [])) [(.t 53), (.t 54), (.t 55)], none⟩, ⟨(some 57), .un .not (.t 56), none⟩]) (
      .cond (.t 57) (
       .seq (
        .ops [⟨(some 6), .mov (.c (.lit (.bool false))), none⟩]) (
       .ret)) (
       .skip)))))) (
    .ops [⟨(some 58), .bin .add (.t 33) (.c (.lit (.int .i64 1))), none⟩, ⟨(some 33), .mov (.t 58), none⟩])))
def K_law23_StoreRounds_1 (N : Nat → Nat) : AC :=
 .seq (
  .seq (
   .ops [⟨(some 59), .mov (.t 7), none⟩, ⟨(some 60), .mov (.t 1), none⟩, ⟨(some 61), .mov (.t 2), none⟩, ⟨(some 62), .call (.c (.fn (f_p_store_Store_Rename N) [] [])) [(.t 59), (.t 60), (.t 61)], none⟩, ⟨(some 63), .eq true .pint (.t 62) (.c (.lit (.int .i64 0))), none⟩]) (
  .cond (.t 63) (
   .seq (
    .ops [⟨(some 64), .mov (.t 7), none⟩, ⟨(some 65), .mov (.t 8), none⟩, ⟨(some 66), .call (.c (.fn (f_law23_is N) [] [])) [(.t 64), (.t 65)], none⟩, ⟨(some 6), .mov (.t 66), none⟩]) (
   .ret)) (
   .skip))) (
 .seq (
  .ops [⟨(some 67), .mov (.t 7), none⟩, ⟨(some 68), .mov (.t 2), none⟩, ⟨(some 69), .mov (.t 1), none⟩, ⟨(some 70), .call (.c (.fn (f_p_store_Store_Rename N) [] [])) [(.t 67), (.t 68), (.t 69)], none⟩, ⟨(some 71), .eq false .pint (.t 70) (.c (.lit (.int .i64 0))), none⟩, ⟨(some 72), .mov (.t 71), none⟩, ⟨(some 73), .mov (.t 7), (some (72, true))⟩, ⟨(some 74), .mov (.t 8), (some (72, true))⟩, ⟨(some 75), .call (.c (.fn (f_law23_is N) [] [])) [(.t 73), (.t 74)], (some (72, true))⟩, ⟨(some 76), .pick (.t 72) (.t 75) (.c (.lit (.bool false))), none⟩, ⟨(some 6), .mov (.t 76), none⟩]) (
 .ret))
/-- azimuth/azimuthlaw23.StoreRounds -/
def C_law23_StoreRounds (N : Nat → Nat) : AFunc := ⟨77, [.inl 6],
 .seq (
  .ops [⟨(some 6), .mov (.c (.lit (.bool false))), none⟩]) (
 .seq (
  .seq (
   .ops [⟨(some 11), .call (.c (.fn (f_law23_lives N) [] [])) [], none⟩, ⟨(some 12), .un .not (.t 11), none⟩, ⟨(some 13), .mov (.t 12), none⟩, ⟨(some 14), .mov (.t 0), (some (13, false))⟩, ⟨(some 15), .len (.t 14), (some (13, false))⟩, ⟨(some 16), .bin .gtr (.t 15) (.c (.lit (.int .i64 40))), (some (13, false))⟩, ⟨(some 17), .pick (.t 13) (.c (.lit (.bool true))) (.t 16), none⟩, ⟨(some 18), .mov (.t 17), none⟩, ⟨(some 19), .mov (.t 1), (some (18, false))⟩, ⟨(some 20), .lens (.t 19), (some (18, false))⟩, ⟨(some 21), .bin .gtr (.t 20) (.c (.lit (.int .i64 50))), (some (18, false))⟩, ⟨(some 22), .pick (.t 18) (.c (.lit (.bool true))) (.t 21), none⟩, ⟨(some 23), .mov (.t 22), none⟩, ⟨(some 24), .mov (.t 2), (some (23, false))⟩, ⟨(some 25), .lens (.t 24), (some (23, false))⟩, ⟨(some 26), .bin .gtr (.t 25) (.c (.lit (.int .i64 50))), (some (23, false))⟩, ⟨(some 27), .pick (.t 23) (.c (.lit (.bool true))) (.t 26), none⟩]) (
  .cond (.t 27) (
   .seq (
    .ops [⟨(some 28), .call (.c (.fn (f_law23_lives N) [] [])) [], none⟩, ⟨(some 6), .mov (.t 28), none⟩]) (
   .ret)) (
   .skip))) (
 .seq (
  .ops [⟨(some 29), .call (.c (.fn (f_store_New N) [] [])) [], none⟩, ⟨(some 30), .mkmap, none⟩, ⟨(some 7), .mov (.t 29), none⟩, ⟨(some 8), .mov (.t 30), none⟩]) (
 .seq (
  .seq (
   .ops [⟨(some 31), .mov (.t 0), none⟩, ⟨(some 32), .len (.t 31), none⟩, ⟨(some 33), .mov (.c (.lit (.int .i64 0))), none⟩]) (
  .block 0 (
   .loop (L_law23_StoreRounds_1 N)))) (K_law23_StoreRounds_1 N)))), false⟩

/-- azimuth/azimuthlaw23.do -/
def C_law23_do (N : Nat → Nat) : AFunc := ⟨95, [.inl 6],
 .seq (
  .ops [⟨(some 5), .box (t_law23_Act N) (.t 2), none⟩, ⟨(some 6), .mov (.c (.lit (.bool false))), none⟩]) (
 .seq (
  .ops [⟨(some 13), .mov (.t 1), none⟩, ⟨(some 14), .faddr 1 (.t 5), none⟩, ⟨(some 15), .load none (.t 14), none⟩, ⟨(some 16), .lookup .string (.lit (.string (mkS []))) (.t 13) (.t 15) true, none⟩, ⟨(some 12), .mov (.t 16), none⟩, ⟨(some 17), .extract (.t 12) 0, none⟩, ⟨(some 18), .extract (.t 12) 1, none⟩, ⟨(some 7), .mov (.t 17), none⟩, ⟨(some 8), .mov (.t 18), none⟩]) (
 .seq (
  .ops [⟨(some 20), .mov (.t 1), none⟩, ⟨(some 21), .faddr 2 (.t 5), none⟩, ⟨(some 22), .load none (.t 21), none⟩, ⟨(some 23), .lookup .string (.lit (.string (mkS []))) (.t 20) (.t 22) true, none⟩, ⟨(some 19), .mov (.t 23), none⟩, ⟨(some 24), .extract (.t 19) 0, none⟩, ⟨(some 25), .extract (.t 19) 1, none⟩, ⟨(some 9), .mov (.t 24), none⟩, ⟨(some 10), .mov (.t 25), none⟩]) (
 .seq (
  .ops [⟨(some 11), .mov (.c (.lit (.int .i64 0))), none⟩]) (
 .seq (
  .seq (
   .ops [⟨(some 26), .faddr 0 (.t 5), none⟩, ⟨(some 27), .load none (.t 26), none⟩]) (
  .block 0 (
   .seq (
    .ops [⟨(some 29), .eq false .pint (.t 27) (.c (.lit (.int .i64 0))), none⟩, ⟨(some 28), .mov (.t 29), none⟩]) (
   .cond (.t 28) (
    .seq (
     .block 1 (
      .seq (
       .ops [⟨(some 37), .faddr 1 (.t 5), none⟩, ⟨(some 38), .load none (.t 37), none⟩, ⟨(some 39), .call (.c (.fn (f_ref04_Name N) [] [])) [(.t 38)], none⟩, ⟨(some 40), .un .not (.t 39), none⟩, ⟨(some 36), .mov (.t 40), none⟩]) (
      .cond (.t 36) (
       .ops [⟨(some 11), .mov (.c (.lit (.int .i64 7))), none⟩]) (
       .seq (
        .ops [⟨(some 42), .mov (.t 8), none⟩, ⟨(some 43), .un .not (.t 42), none⟩, ⟨(some 44), .mov (.t 43), none⟩, ⟨(some 45), .mov (.t 1), (some (44, true))⟩, ⟨(some 46), .lenm (.t 45), (some (44, true))⟩, ⟨(some 47), .bin .geq (.t 46) (.c (.lit (.int .i64 256))), (some (44, true))⟩, ⟨(some 48), .pick (.t 44) (.t 47) (.c (.lit (.bool false))), none⟩, ⟨(some 41), .mov (.t 48), none⟩]) (
       .cond (.t 41) (
        .ops [⟨(some 11), .mov (.c (.lit (.int .i64 20))), none⟩]) (
        .ops [⟨(some 30), .mov (.t 1), none⟩, ⟨(some 31), .faddr 1 (.t 5), none⟩, ⟨(some 32), .load none (.t 31), none⟩, ⟨(some 33), .faddr 3 (.t 5), none⟩, ⟨(some 34), .load none (.t 33), none⟩, ⟨(some 35), .conv .str (.t 34), none⟩, ⟨none, .mapupd .string (.t 30) (.t 32) (.t 35), none⟩])))))) (
    .seq (
     .ops [⟨(some 49), .mov (.t 0), none⟩, ⟨(some 50), .faddr 1 (.t 5), none⟩, ⟨(some 51), .load none (.t 50), none⟩, ⟨(some 52), .faddr 3 (.t 5), none⟩, ⟨(some 53), .load none (.t 52), none⟩, ⟨(some 54), .call (.c (.fn (f_p_store_Store_Set N) [] [])) [(.t 49), (.t 51), (.t 53)], none⟩, ⟨(some 55), .mov (.t 11), none⟩, ⟨(some 56), .eq false .pint (.t 54) (.t 55), none⟩, ⟨(some 6), .mov (.t 56), none⟩]) (
    .ret))) (
    .seq (
     .ops [⟨(some 58), .eq false .pint (.t 27) (.c (.lit (.int .i64 1))), none⟩, ⟨(some 57), .mov (.t 58), none⟩]) (
    .cond (.t 57) (
     .seq (
      .seq (
       .ops [⟨(some 59), .mov (.t 8), none⟩, ⟨(some 60), .un .not (.t 59), none⟩]) (
      .cond (.t 60) (
       .ops [⟨(some 11), .mov (.c (.lit (.int .i64 13))), none⟩]) (
       .skip))) (
     .seq (
      .ops [⟨(some 61), .mov (.t 1), none⟩, ⟨(some 62), .faddr 1 (.t 5), none⟩, ⟨(some 63), .load none (.t 62), none⟩, ⟨none, .delete .string (.t 61) (.t 63), none⟩]) (
     .seq (
      .ops [⟨(some 64), .mov (.t 0), none⟩, ⟨(some 65), .faddr 1 (.t 5), none⟩, ⟨(some 66), .load none (.t 65), none⟩, ⟨(some 67), .call (.c (.fn (f_p_store_Store_Delete N) [] [])) [(.t 64), (.t 66)], none⟩, ⟨(some 68), .mov (.t 11), none⟩, ⟨(some 69), .eq false .pint (.t 67) (.t 68), none⟩, ⟨(some 6), .mov (.t 69), none⟩]) (
     .ret)))) (
     .skip))))))) (
 .seq (
  .block 2 (
   .seq (
    .ops [⟨(some 78), .mov (.t 8), none⟩, ⟨(some 79), .un .not (.t 78), none⟩, ⟨(some 77), .mov (.t 79), none⟩]) (
   .cond (.t 77) (
    .ops [⟨(some 11), .mov (.c (.lit (.int .i64 13))), none⟩]) (
    .seq (
     .ops [⟨(some 81), .faddr 2 (.t 5), none⟩, ⟨(some 82), .load none (.t 81), none⟩, ⟨(some 83), .call (.c (.fn (f_ref04_Name N) [] [])) [(.t 82)], none⟩, ⟨(some 84), .un .not (.t 83), none⟩, ⟨(some 80), .mov (.t 84), none⟩]) (
    .cond (.t 80) (
     .ops [⟨(some 11), .mov (.c (.lit (.int .i64 7))), none⟩]) (
     .seq (
      .ops [⟨(some 86), .mov (.t 10), none⟩, ⟨(some 85), .mov (.t 86), none⟩]) (
     .cond (.t 85) (
      .ops [⟨(some 11), .mov (.c (.lit (.int .i64 8))), none⟩]) (
      .seq (
       .ops [⟨(some 70), .mov (.t 1), none⟩, ⟨(some 71), .faddr 1 (.t 5), none⟩, ⟨(some 72), .load none (.t 71), none⟩, ⟨none, .delete .string (.t 70) (.t 72), none⟩]) (
      .ops [⟨(some 73), .mov (.t 1), none⟩, ⟨(some 74), .faddr 2 (.t 5), none⟩, ⟨(some 75), .load none (.t 74), none⟩, ⟨(some 76), .mov (.t 7), none⟩, ⟨none, .mapupd .string (.t 73) (.t 75) (.t 76), none⟩]))))))))) (
 .seq (
  .ops [⟨(some 87), .mov (.t 0), none⟩, ⟨(some 88), .faddr 1 (.t 5), none⟩, ⟨(some 89), .load none (.t 88), none⟩, ⟨(some 90), .faddr 2 (.t 5), none⟩, ⟨(some 91), .load none (.t 90), none⟩, ⟨(some 92), .call (.c (.fn (f_p_store_Store_Rename N) [] [])) [(.t 87), (.t 89), (.t 91)], none⟩, ⟨(some 93), .mov (.t 11), none⟩, ⟨(some 94), .eq false .pint (.t 92) (.t 93), none⟩, ⟨(some 6), .mov (.t 94), none⟩]) (
 .ret))))))), false⟩

def L_law23_is_1 (N : Nat → Nat) : AC :=
    .seq (
     .ops [⟨(some 7), .mov (.t 15), none⟩]) (
    .ops [⟨(some 8), .mov (.t 16), none⟩])
def L_law23_is_2 (N : Nat → Nat) : AC :=
    .block 1 (
     .seq (
      .ops [⟨(some 18), .load none (.t 3), none⟩, ⟨(some 19), .mov (.t 7), none⟩, ⟨(some 20), .lookup .string (.lit (.string (mkS []))) (.t 18) (.t 19) true, none⟩, ⟨(some 17), .mov (.t 20), none⟩, ⟨(some 21), .extract (.t 17) 0, none⟩, ⟨(some 22), .extract (.t 17) 1, none⟩, ⟨(some 9), .mov (.t 21), none⟩, ⟨(some 10), .mov (.t 22), none⟩]) (
     .seq (
      .ops [⟨(some 24), .load none (.t 2), none⟩, ⟨(some 25), .mov (.t 7), none⟩, ⟨(some 26), .call (.c (.fn (f_p_store_Store_Text N) [] [])) [(.t 24), (.t 25)], none⟩, ⟨(some 23), .mov (.t 26), none⟩, ⟨(some 27), .extract (.t 23) 0, none⟩, ⟨(some 28), .extract (.t 23) 1, none⟩, ⟨(some 11), .mov (.t 27), none⟩, ⟨(some 12), .mov (.t 28), none⟩]) (
     .seq (
      .seq (
       .ops [⟨(some 29), .load none (.t 6), none⟩, ⟨(some 30), .bin .gtr (.t 29) (.c (.lit (.int .i64 0))), none⟩, ⟨(some 31), .mov (.t 30), none⟩, ⟨(some 32), .mov (.t 7), (some (31, true))⟩, ⟨(some 33), .load none (.t 5), (some (31, true))⟩, ⟨(some 34), .bin .leq (.t 32) (.t 33), (some (31, true))⟩, ⟨(some 35), .pick (.t 31) (.t 34) (.c (.lit (.bool false))), none⟩, ⟨(some 36), .mov (.t 35), none⟩, ⟨(some 37), .mov (.t 10), (some (36, false))⟩, ⟨(some 38), .un .not (.t 37), (some (36, false))⟩, ⟨(some 39), .pick (.t 36) (.c (.lit (.bool true))) (.t 38), none⟩, ⟨(some 40), .mov (.t 39), none⟩, ⟨(some 41), .mov (.t 8), (some (40, false))⟩, ⟨(some 42), .conv .str (.t 41), (some (40, false))⟩, ⟨(some 43), .mov (.t 9), (some (40, false))⟩, ⟨(some 44), .eq true .pstr (.t 42) (.t 43), (some (40, false))⟩, ⟨(some 45), .pick (.t 40) (.c (.lit (.bool true))) (.t 44), none⟩, ⟨(some 46), .mov (.t 45), none⟩, ⟨(some 47), .mov (.t 12), (some (46, false))⟩, ⟨(some 48), .un .not (.t 47), (some (46, false))⟩, ⟨(some 49), .pick (.t 46) (.c (.lit (.bool true))) (.t 48), none⟩, ⟨(some 50), .mov (.t 49), none⟩, ⟨(some 51), .mov (.t 11), (some (50, false))⟩, ⟨(some 52), .conv .str (.t 51), (some (50, false))⟩, ⟨(some 53), .mov (.t 9), (some (50, false))⟩, ⟨(some 54), .eq true .pstr (.t 52) (.t 53), (some (50, false))⟩, ⟨(some 55), .pick (.t 50) (.c (.lit (.bool true))) (.t 54), none⟩]) (
      .cond (.t 55) (
       .seq (
        .ops [⟨none, .store 1 (.t 4) (.c (.lit (.bool false))), none⟩]) (
       .ret)) (
       .skip))) (
     .seq (
      .ops [⟨(some 56), .mov (.t 7), none⟩, ⟨none, .store 1 (.t 5) (.t 56), none⟩]) (
     .ops [⟨(some 57), .load none (.t 6), none⟩, ⟨(some 58), .bin .add (.t 57) (.c (.lit (.int .i64 1))), none⟩, ⟨none, .store 1 (.t 6) (.t 58), none⟩])))))
def K_law23_is_1 (N : Nat → Nat) : AC :=
 .seq (
  .dops 12 [⟨(some 59), .load none (.t 6), none⟩, ⟨(some 60), .load none (.t 3), none⟩, ⟨(some 61), .lenm (.t 60), none⟩, ⟨(some 62), .eq false .pint (.t 59) (.t 61), none⟩, ⟨(some 63), .mov (.t 62), none⟩, ⟨(some 64), .load none (.t 2), (some (63, true))⟩, ⟨(some 66), .load none (.t 6), (some (63, true))⟩, ⟨(some 65), .call (.c (.fn (f_p_store_Store_Len N) [] [])) [(.t 64)], (some (63, true))⟩, ⟨(some 67), .eq false .pint (.t 65) (.t 66), (some (63, true))⟩, ⟨(some 68), .pick (.t 63) (.t 67) (.c (.lit (.bool false))), none⟩, ⟨none, .store 1 (.t 4) (.t 68), none⟩] [2, 2, 2, 0, 0, 2, 2, 1, 0, 0, 0] []) (
 .ret)
/-- azimuth/azimuthlaw23.is -/
def C_law23_is (N : Nat → Nat) : AFunc := ⟨69, [.inr (4, none)],
 .seq (
  .ops [⟨(some 2), .box (t_p_store_Store N) (.t 0), none⟩, ⟨(some 3), .box (t_map_string_string N) (.t 1), none⟩, ⟨(some 4), .new (t_bool N) (.lit (.bool false)), none⟩]) (
 .seq (
  .ops [⟨(some 5), .new (t_string N) (.lit (.string (mkS []))), none⟩, ⟨none, .store 1 (.t 5) (.c (.lit (.string (mkS [])))), none⟩]) (
 .seq (
  .ops [⟨(some 6), .new (t_int N) (.lit (.int .i64 0)), none⟩, ⟨none, .store 1 (.t 6) (.c (.lit (.int .i64 0))), none⟩]) (
 .seq (
  .seq (
   .ops [⟨(some 13), .load none (.t 2), none⟩, ⟨(some 14), .call (.c (.fn (f_p_store_Store_All N) [] [])) [(.t 13)], none⟩]) (
  .block 0 (
   .rangeFn (.t 14) [15, 16] (L_law23_is_1 N) (L_law23_is_2 N)))) (K_law23_is_1 N)))), false⟩

/-- azimuth/azimuthlaw23.lives -/
def C_law23_lives (N : Nat → Nat) : AFunc := ⟨37, [.inl 0],
 .seq (
  .ops [⟨(some 0), .mov (.c (.lit (.bool false))), none⟩]) (
 .seq (
  .ops [⟨(some 6), .call (.c (.fn (f_store_New N) [] [])) [], none⟩, ⟨(some 1), .mov (.t 6), none⟩]) (
 .seq (
  .ops [⟨(some 7), .mov (.t 1), none⟩, ⟨(some 8), .bslice (t_uint8 N) 1 none 1 [(.lit (.int .u8 0))] [(0, 1, (.c (.lit (.int .u8 49))))], none⟩, ⟨(some 9), .conv .mark (.t 8), none⟩, ⟨(some 10), .call (.c (.fn (f_p_store_Store_Set N) [] [])) [(.t 7), (.c (.lit (.string (mkS [97])))), (.t 9)], none⟩, ⟨(some 2), .mov (.t 10), none⟩]) (
 .seq (
  .ops [⟨(some 11), .mov (.t 1), none⟩, ⟨(some 12), .call (.c (.fn (f_p_store_Store_Rename N) [] [])) [(.t 11), (.c (.lit (.string (mkS [97])))), (.c (.lit (.string (mkS [98]))))], none⟩, ⟨(some 3), .mov (.t 12), none⟩]) (
 .seq (
  .ops [⟨(some 14), .mov (.t 1), none⟩, ⟨(some 15), .call (.c (.fn (f_p_store_Store_Text N) [] [])) [(.t 14), (.c (.lit (.string (mkS [98]))))], none⟩, ⟨(some 13), .mov (.t 15), none⟩, ⟨(some 16), .extract (.t 13) 0, none⟩, ⟨(some 17), .extract (.t 13) 1, none⟩, ⟨(some 4), .mov (.t 16), none⟩, ⟨(some 5), .mov (.t 17), none⟩]) (
 .seq (
  .ops [⟨(some 18), .mov (.t 2), none⟩, ⟨(some 19), .eq false .pint (.t 18) (.c (.lit (.int .i64 0))), none⟩, ⟨(some 20), .mov (.t 19), none⟩, ⟨(some 21), .mov (.t 3), (some (20, true))⟩, ⟨(some 22), .eq false .pint (.t 21) (.c (.lit (.int .i64 0))), (some (20, true))⟩, ⟨(some 23), .pick (.t 20) (.t 22) (.c (.lit (.bool false))), none⟩, ⟨(some 24), .mov (.t 23), none⟩, ⟨(some 25), .mov (.t 5), (some (24, true))⟩, ⟨(some 26), .pick (.t 24) (.t 25) (.c (.lit (.bool false))), none⟩, ⟨(some 27), .mov (.t 26), none⟩, ⟨(some 28), .mov (.t 4), (some (27, true))⟩, ⟨(some 29), .conv .str (.t 28), (some (27, true))⟩, ⟨(some 30), .eq false .pstr (.t 29) (.c (.lit (.string (mkS [49])))), (some (27, true))⟩, ⟨(some 31), .pick (.t 27) (.t 30) (.c (.lit (.bool false))), none⟩, ⟨(some 32), .mov (.t 31), none⟩, ⟨(some 33), .mov (.t 1), (some (32, true))⟩, ⟨(some 34), .call (.c (.fn (f_p_store_Store_Turn N) [] [])) [(.t 33)], (some (32, true))⟩, ⟨(some 35), .eq false .pint (.t 34) (.c (.lit (.int .i64 2))), (some (32, true))⟩, ⟨(some 36), .pick (.t 32) (.t 35) (.c (.lit (.bool false))), none⟩, ⟨(some 0), .mov (.t 36), none⟩]) (
 .ret)))))), false⟩
end Go.Proofs.Eng
/- Templates of functions, as the engine takes them; numbers of functions and types by names. Printed by tm.py. -/
set_option linter.unusedVariables false
set_option maxRecDepth 100000
namespace Go.Proofs.Eng
open Go

/-- (*azimuth/store.Store).All -/
def C_p_store_Store_All (N : Nat → Nat) : AFunc := ⟨4, [.inl 2],
 .seq (
  .ops [⟨(some 1), .box (t_p_store_Store N) (.t 0), none⟩, ⟨(some 2), .mov (.c (.lit .nilFunc)), none⟩]) (
 .seq (
  .ops [⟨(some 3), .mkfn (f_p_store_Store_All_1 N) [] [(.t 1)], none⟩, ⟨(some 2), .mov (.t 3), none⟩]) (
 .ret)), false⟩

def L_p_store_Store_All_1_1 (N : Nat → Nat) : AC :=
   .seq (
    .ops [⟨(some 15), .bin .lss (.t 14) (.t 13), none⟩]) (
   .seq (
    .cond (.t 15) (
     .skip) (
     .exit 0)) (
   .seq (
    .block 1 (
     .seq (
      .ops [⟨(some 16), .iaddr 1 (.t 12) (.t 14), none⟩, ⟨(some 17), .load none (.t 16), none⟩, ⟨(some 4), .mov (.t 17), none⟩]) (
     .seq (
      .ops [⟨(some 18), .mov (.t 0), none⟩, ⟨(some 19), .mov (.t 4), none⟩, ⟨(some 20), .load none (.t 1), none⟩, ⟨(some 21), .nilchk (.t 20), none⟩, ⟨(some 22), .faddr 0 (.t 21), none⟩, ⟨(some 23), .load none (.t 22), none⟩, ⟨(some 24), .mov (.t 4), none⟩, ⟨(some 25), .lookup .string (.lit (.slice none 0 0)) (.t 23) (.t 24) false, none⟩, ⟨(some 26), .call (.c (.fn (f_slices_Clone_sl_byte_byte N) [] [])) [(.t 25)], none⟩, ⟨(some 27), .call (.t 18) [(.t 19), (.t 26)], none⟩, ⟨(some 28), .un .not (.t 27), none⟩]) (
     .cond (.t 28) (
      .ret) (
      .skip))))) (
   .ops [⟨(some 29), .bin .add (.t 14) (.c (.lit (.int .i64 1))), none⟩, ⟨(some 14), .mov (.t 29), none⟩])))
/-- (*azimuth/store.Store).All$1 -/
def C_p_store_Store_All_1 (N : Nat → Nat) : AFunc := ⟨30, [],
 .seq (
  .seq (
   .ops [⟨(some 5), .load none (.t 1), none⟩, ⟨(some 6), .eq false .pptr (.t 5) (.c (.lit (.pointer none))), none⟩]) (
  .cond (.t 6) (
   .ret) (
   .skip))) (
 .seq (
  .ops [⟨(some 7), .load none (.t 1), none⟩, ⟨(some 8), .nilchk (.t 7), none⟩, ⟨(some 9), .faddr 0 (.t 8), none⟩, ⟨(some 10), .load none (.t 9), none⟩, ⟨(some 11), .call (.c (.fn (f_maps_Keys_map_string_sl_byte_string_sl_byte N) [] [])) [(.t 10)], none⟩, ⟨(some 12), .call (.c (.fn (f_slices_Sorted_string N) [] [])) [(.t 11)], none⟩, ⟨(some 13), .len (.t 12), none⟩, ⟨(some 14), .mov (.c (.lit (.int .i64 0))), none⟩]) (
 .block 0 (
  .loop (L_p_store_Store_All_1_1 N)))), false⟩

def L_p_store_Store_Copy_1 (N : Nat → Nat) : AC :=
    .seq (
     .ops [⟨none, .mnmx false [], none⟩, ⟨(some 22), .extract (.t 21) 0, none⟩]) (
    .seq (
     .cond (.t 22) (
      .skip) (
      .exit 0)) (
    .block 1 (
     .seq (
      .ops [⟨none, .mnmx false [], none⟩, ⟨(some 24), .extract (.t 23) 0, none⟩, ⟨(some 25), .extract (.t 23) 1, none⟩, ⟨(some 4), .mov (.t 24), none⟩, ⟨(some 5), .mov (.t 25), none⟩]) (
     .dops 8 [⟨(some 26), .mov (.t 3), none⟩, ⟨(some 27), .nilchk (.t 26), none⟩, ⟨(some 28), .faddr 0 (.t 27), none⟩, ⟨(some 29), .load none (.t 28), none⟩, ⟨(some 30), .mov (.t 4), none⟩, ⟨(some 31), .mov (.t 5), none⟩, ⟨(some 32), .call (.c (.fn (f_slices_Clone_sl_byte_byte N) [] [])) [(.t 31)], none⟩, ⟨none, .mapupd .string (.t 29) (.t 30) (.t 32), none⟩] [0, 0, 0, 0, 0, 0, 1, 0] []))))
def K_p_store_Store_Copy_1 (N : Nat → Nat) : AC :=
 .seq (
  .ops [⟨(some 33), .mov (.t 3), none⟩, ⟨(some 2), .mov (.t 33), none⟩]) (
 .ret)
/-- (*azimuth/store.Store).Copy -/
def C_p_store_Store_Copy (N : Nat → Nat) : AFunc := ⟨34, [.inl 2],
 .seq (
  .ops [⟨(some 2), .mov (.c (.lit (.pointer none))), none⟩]) (
 .seq (
  .seq (
   .ops [⟨(some 6), .mov (.t 0), none⟩, ⟨(some 7), .eq false .pptr (.t 6) (.c (.lit (.pointer none))), none⟩]) (
  .cond (.t 7) (
   .seq (
    .ops [⟨(some 2), .mov (.c (.lit (.pointer none))), none⟩]) (
   .ret)) (
   .skip))) (
 .seq (
  .ops [⟨(some 8), .call (.c (.fn (f_store_New N) [] [])) [], none⟩, ⟨(some 3), .mov (.t 8), none⟩]) (
 .seq (
  .ops [⟨(some 9), .mov (.t 3), none⟩, ⟨(some 10), .mov (.t 0), none⟩, ⟨(some 11), .nilchk (.t 10), none⟩, ⟨(some 12), .faddr 1 (.t 11), none⟩, ⟨(some 13), .load none (.t 12), none⟩, ⟨(some 14), .nilchk (.t 9), none⟩, ⟨(some 15), .faddr 1 (.t 14), none⟩, ⟨none, .store 1 (.t 15) (.t 13), none⟩]) (
 .seq (
  .seq (
   .ops [⟨(some 16), .mov (.t 0), none⟩, ⟨(some 17), .nilchk (.t 16), none⟩, ⟨(some 18), .faddr 0 (.t 17), none⟩, ⟨(some 19), .load none (.t 18), none⟩, ⟨none, .mnmx false [], none⟩]) (
  .block 0 (
   .loop (L_p_store_Store_Copy_1 N)))) (K_p_store_Store_Copy_1 N))))), false⟩

/-- (*azimuth/store.Store).Delete -/
def C_p_store_Store_Delete (N : Nat → Nat) : AFunc := ⟨32, [.inl 4],
 .seq (
  .ops [⟨(some 4), .mov (.c (.lit (.int .i64 0))), none⟩]) (
 .seq (
  .seq (
   .ops [⟨(some 7), .mov (.t 0), none⟩, ⟨(some 8), .eq false .pptr (.t 7) (.c (.lit (.pointer none))), none⟩]) (
  .cond (.t 8) (
   .seq (
    .ops [⟨(some 4), .mov (.c (.lit (.int .i64 1))), none⟩]) (
   .ret)) (
   .skip))) (
 .seq (
  .seq (
   .ops [⟨(some 10), .mov (.t 0), none⟩, ⟨(some 11), .nilchk (.t 10), none⟩, ⟨(some 12), .faddr 0 (.t 11), none⟩, ⟨(some 13), .load none (.t 12), none⟩, ⟨(some 14), .mov (.t 1), none⟩, ⟨(some 15), .lookup .string (.lit (.slice none 0 0)) (.t 13) (.t 14) true, none⟩, ⟨(some 9), .mov (.t 15), none⟩, ⟨(some 16), .extract (.t 9) 0, none⟩, ⟨(some 17), .extract (.t 9) 1, none⟩, ⟨(some 5), .mov (.t 16), none⟩, ⟨(some 6), .mov (.t 17), none⟩]) (
  .seq (
   .ops [⟨(some 18), .mov (.t 6), none⟩, ⟨(some 19), .un .not (.t 18), none⟩]) (
  .cond (.t 19) (
   .seq (
    .ops [⟨(some 4), .mov (.c (.lit (.int .i64 13))), none⟩]) (
   .ret)) (
   .skip)))) (
 .seq (
  .ops [⟨(some 20), .mov (.t 0), none⟩, ⟨(some 21), .nilchk (.t 20), none⟩, ⟨(some 22), .faddr 0 (.t 21), none⟩, ⟨(some 23), .load none (.t 22), none⟩, ⟨(some 24), .mov (.t 1), none⟩, ⟨none, .delete .string (.t 23) (.t 24), none⟩]) (
 .seq (
  .ops [⟨(some 25), .mov (.t 0), none⟩, ⟨(some 26), .nilchk (.t 25), none⟩, ⟨(some 27), .faddr 1 (.t 26), none⟩, ⟨(some 28), .load none (.t 27), none⟩, ⟨(some 29), .bin .add (.t 28) (.c (.lit (.int .i64 1))), none⟩, ⟨(some 30), .nilchk (.t 25), none⟩, ⟨(some 31), .faddr 1 (.t 30), none⟩, ⟨none, .store 1 (.t 31) (.t 29), none⟩]) (
 .seq (
  .ops [⟨(some 4), .mov (.c (.lit (.int .i64 0))), none⟩]) (
 .ret)))))), false⟩

/-- (*azimuth/store.Store).Len -/
def C_p_store_Store_Len (N : Nat → Nat) : AFunc := ⟨10, [.inl 2],
 .seq (
  .ops [⟨(some 2), .mov (.c (.lit (.int .i64 0))), none⟩]) (
 .seq (
  .seq (
   .ops [⟨(some 3), .mov (.t 0), none⟩, ⟨(some 4), .eq false .pptr (.t 3) (.c (.lit (.pointer none))), none⟩]) (
  .cond (.t 4) (
   .seq (
    .ops [⟨(some 2), .mov (.c (.lit (.int .i64 0))), none⟩]) (
   .ret)) (
   .skip))) (
 .seq (
  .ops [⟨(some 5), .mov (.t 0), none⟩, ⟨(some 6), .nilchk (.t 5), none⟩, ⟨(some 7), .faddr 0 (.t 6), none⟩, ⟨(some 8), .load none (.t 7), none⟩, ⟨(some 9), .lenm (.t 8), none⟩, ⟨(some 2), .mov (.t 9), none⟩]) (
 .ret))), false⟩

/-- (*azimuth/store.Store).Rename -/
def C_p_store_Store_Rename (N : Nat → Nat) : AFunc := ⟨58, [.inl 6],
 .seq (
  .ops [⟨(some 6), .mov (.c (.lit (.int .i64 0))), none⟩]) (
 .seq (
  .seq (
   .ops [⟨(some 11), .mov (.t 0), none⟩, ⟨(some 12), .eq false .pptr (.t 11) (.c (.lit (.pointer none))), none⟩]) (
  .cond (.t 12) (
   .seq (
    .ops [⟨(some 6), .mov (.c (.lit (.int .i64 1))), none⟩]) (
   .ret)) (
   .skip))) (
 .seq (
  .ops [⟨(some 14), .mov (.t 0), none⟩, ⟨(some 15), .nilchk (.t 14), none⟩, ⟨(some 16), .faddr 0 (.t 15), none⟩, ⟨(some 17), .load none (.t 16), none⟩, ⟨(some 18), .mov (.t 1), none⟩, ⟨(some 19), .lookup .string (.lit (.slice none 0 0)) (.t 17) (.t 18) true, none⟩, ⟨(some 13), .mov (.t 19), none⟩, ⟨(some 20), .extract (.t 13) 0, none⟩, ⟨(some 21), .extract (.t 13) 1, none⟩, ⟨(some 7), .mov (.t 20), none⟩, ⟨(some 8), .mov (.t 21), none⟩]) (
 .seq (
  .ops [⟨(some 23), .mov (.t 0), none⟩, ⟨(some 24), .nilchk (.t 23), none⟩, ⟨(some 25), .faddr 0 (.t 24), none⟩, ⟨(some 26), .load none (.t 25), none⟩, ⟨(some 27), .mov (.t 2), none⟩, ⟨(some 28), .lookup .string (.lit (.slice none 0 0)) (.t 26) (.t 27) true, none⟩, ⟨(some 22), .mov (.t 28), none⟩, ⟨(some 29), .extract (.t 22) 0, none⟩, ⟨(some 30), .extract (.t 22) 1, none⟩, ⟨(some 9), .mov (.t 29), none⟩, ⟨(some 10), .mov (.t 30), none⟩]) (
 .seq (
  .block 0 (
   .seq (
    .ops [⟨(some 32), .mov (.t 8), none⟩, ⟨(some 33), .un .not (.t 32), none⟩, ⟨(some 31), .mov (.t 33), none⟩]) (
   .cond (.t 31) (
    .seq (
     .ops [⟨(some 6), .mov (.c (.lit (.int .i64 13))), none⟩]) (
    .ret)) (
    .seq (
     .ops [⟨(some 35), .mov (.t 2), none⟩, ⟨(some 36), .call (.c (.fn (f_lexer_IsName N) [] [])) [(.t 35)], none⟩, ⟨(some 37), .un .not (.t 36), none⟩, ⟨(some 34), .mov (.t 37), none⟩]) (
    .cond (.t 34) (
     .seq (
      .ops [⟨(some 6), .mov (.c (.lit (.int .i64 7))), none⟩]) (
     .ret)) (
     .seq (
      .ops [⟨(some 39), .mov (.t 10), none⟩, ⟨(some 38), .mov (.t 39), none⟩]) (
     .cond (.t 38) (
      .seq (
       .ops [⟨(some 6), .mov (.c (.lit (.int .i64 8))), none⟩]) (
      .ret)) (
      .skip)))))))) (
 .seq (
  .ops [⟨(some 40), .mov (.t 0), none⟩, ⟨(some 41), .nilchk (.t 40), none⟩, ⟨(some 42), .faddr 0 (.t 41), none⟩, ⟨(some 43), .load none (.t 42), none⟩, ⟨(some 44), .mov (.t 1), none⟩, ⟨none, .delete .string (.t 43) (.t 44), none⟩]) (
 .seq (
  .ops [⟨(some 45), .mov (.t 0), none⟩, ⟨(some 46), .nilchk (.t 45), none⟩, ⟨(some 47), .faddr 0 (.t 46), none⟩, ⟨(some 48), .load none (.t 47), none⟩, ⟨(some 49), .mov (.t 2), none⟩, ⟨(some 50), .mov (.t 7), none⟩, ⟨none, .mapupd .string (.t 48) (.t 49) (.t 50), none⟩]) (
 .seq (
  .ops [⟨(some 51), .mov (.t 0), none⟩, ⟨(some 52), .nilchk (.t 51), none⟩, ⟨(some 53), .faddr 1 (.t 52), none⟩, ⟨(some 54), .load none (.t 53), none⟩, ⟨(some 55), .bin .add (.t 54) (.c (.lit (.int .i64 1))), none⟩, ⟨(some 56), .nilchk (.t 51), none⟩, ⟨(some 57), .faddr 1 (.t 56), none⟩, ⟨none, .store 1 (.t 57) (.t 55), none⟩]) (
 .seq (
  .ops [⟨(some 6), .mov (.c (.lit (.int .i64 0))), none⟩]) (
 .ret))))))))), false⟩

/-- (*azimuth/store.Store).Set -/
def C_p_store_Store_Set (N : Nat → Nat) : AFunc := ⟨53, [.inl 6],
 .seq (
  .ops [⟨(some 6), .mov (.c (.lit (.int .i64 0))), none⟩]) (
 .seq (
  .seq (
   .ops [⟨(some 9), .mov (.t 0), none⟩, ⟨(some 10), .eq false .pptr (.t 9) (.c (.lit (.pointer none))), none⟩]) (
  .cond (.t 10) (
   .seq (
    .ops [⟨(some 6), .mov (.c (.lit (.int .i64 1))), none⟩]) (
   .ret)) (
   .skip))) (
 .seq (
  .ops [⟨(some 12), .mov (.t 0), none⟩, ⟨(some 13), .nilchk (.t 12), none⟩, ⟨(some 14), .faddr 0 (.t 13), none⟩, ⟨(some 15), .load none (.t 14), none⟩, ⟨(some 16), .mov (.t 1), none⟩, ⟨(some 17), .lookup .string (.lit (.slice none 0 0)) (.t 15) (.t 16) true, none⟩, ⟨(some 11), .mov (.t 17), none⟩, ⟨(some 18), .extract (.t 11) 0, none⟩, ⟨(some 19), .extract (.t 11) 1, none⟩, ⟨(some 7), .mov (.t 18), none⟩, ⟨(some 8), .mov (.t 19), none⟩]) (
 .seq (
  .block 0 (
   .seq (
    .ops [⟨(some 21), .mov (.t 1), none⟩, ⟨(some 22), .call (.c (.fn (f_lexer_IsName N) [] [])) [(.t 21)], none⟩, ⟨(some 23), .un .not (.t 22), none⟩, ⟨(some 20), .mov (.t 23), none⟩]) (
   .cond (.t 20) (
    .seq (
     .ops [⟨(some 6), .mov (.c (.lit (.int .i64 7))), none⟩]) (
    .ret)) (
    .seq (
     .ops [⟨(some 25), .mov (.t 2), none⟩, ⟨(some 26), .len (.t 25), none⟩, ⟨(some 27), .bin .gtr (.t 26) (.c (.lit (.int .i64 1048576))), none⟩, ⟨(some 24), .mov (.t 27), none⟩]) (
    .cond (.t 24) (
     .seq (
      .ops [⟨(some 6), .mov (.c (.lit (.int .i64 6))), none⟩]) (
     .ret)) (
     .seq (
      .ops [⟨(some 29), .mov (.t 8), none⟩, ⟨(some 30), .un .not (.t 29), none⟩, ⟨(some 31), .mov (.t 30), none⟩, ⟨(some 32), .mov (.t 0), (some (31, true))⟩, ⟨(some 33), .nilchk (.t 32), (some (31, true))⟩, ⟨(some 34), .faddr 0 (.t 33), (some (31, true))⟩, ⟨(some 35), .load none (.t 34), (some (31, true))⟩, ⟨(some 36), .lenm (.t 35), (some (31, true))⟩, ⟨(some 37), .bin .geq (.t 36) (.c (.lit (.int .i64 256))), (some (31, true))⟩, ⟨(some 38), .pick (.t 31) (.t 37) (.c (.lit (.bool false))), none⟩, ⟨(some 28), .mov (.t 38), none⟩]) (
     .cond (.t 28) (
      .seq (
       .ops [⟨(some 6), .mov (.c (.lit (.int .i64 20))), none⟩]) (
      .ret)) (
      .skip)))))))) (
 .seq (
  .dops 10 [⟨(some 39), .mov (.t 0), none⟩, ⟨(some 40), .nilchk (.t 39), none⟩, ⟨(some 41), .faddr 0 (.t 40), none⟩, ⟨(some 42), .load none (.t 41), none⟩, ⟨(some 43), .mov (.t 1), none⟩, ⟨(some 44), .mov (.t 2), none⟩, ⟨(some 45), .call (.c (.fn (f_slices_Clone_sl_byte_byte N) [] [])) [(.t 44)], none⟩, ⟨none, .mapupd .string (.t 42) (.t 43) (.t 45), none⟩] [0, 0, 0, 0, 0, 0, 1, 0] []) (
 .seq (
  .ops [⟨(some 46), .mov (.t 0), none⟩, ⟨(some 47), .nilchk (.t 46), none⟩, ⟨(some 48), .faddr 1 (.t 47), none⟩, ⟨(some 49), .load none (.t 48), none⟩, ⟨(some 50), .bin .add (.t 49) (.c (.lit (.int .i64 1))), none⟩, ⟨(some 51), .nilchk (.t 46), none⟩, ⟨(some 52), .faddr 1 (.t 51), none⟩, ⟨none, .store 1 (.t 52) (.t 50), none⟩]) (
 .seq (
  .ops [⟨(some 6), .mov (.c (.lit (.int .i64 0))), none⟩]) (
 .ret))))))), false⟩

/-- (*azimuth/store.Store).Text -/
def C_p_store_Store_Text (N : Nat → Nat) : AFunc := ⟨22, [.inl 4, .inl 5],
 .seq (
  .ops [⟨(some 4), .mov (.c (.lit (.slice none 0 0))), none⟩, ⟨(some 5), .mov (.c (.lit (.bool false))), none⟩]) (
 .seq (
  .seq (
   .ops [⟨(some 8), .mov (.t 0), none⟩, ⟨(some 9), .eq false .pptr (.t 8) (.c (.lit (.pointer none))), none⟩]) (
  .cond (.t 9) (
   .seq (
    .ops [⟨(some 4), .mov (.c (.lit (.slice none 0 0))), none⟩, ⟨(some 5), .mov (.c (.lit (.bool false))), none⟩]) (
   .ret)) (
   .skip))) (
 .seq (
  .ops [⟨(some 11), .mov (.t 0), none⟩, ⟨(some 12), .nilchk (.t 11), none⟩, ⟨(some 13), .faddr 0 (.t 12), none⟩, ⟨(some 14), .load none (.t 13), none⟩, ⟨(some 15), .mov (.t 1), none⟩, ⟨(some 16), .lookup .string (.lit (.slice none 0 0)) (.t 14) (.t 15) true, none⟩, ⟨(some 10), .mov (.t 16), none⟩, ⟨(some 17), .extract (.t 10) 0, none⟩, ⟨(some 18), .extract (.t 10) 1, none⟩, ⟨(some 6), .mov (.t 17), none⟩, ⟨(some 7), .mov (.t 18), none⟩]) (
 .seq (
  .ops [⟨(some 19), .mov (.t 6), none⟩, ⟨(some 20), .call (.c (.fn (f_slices_Clone_sl_byte_byte N) [] [])) [(.t 19)], none⟩, ⟨(some 21), .mov (.t 7), none⟩, ⟨(some 4), .mov (.t 20), none⟩, ⟨(some 5), .mov (.t 21), none⟩]) (
 .ret)))), false⟩

/-- (*azimuth/store.Store).Turn -/
def C_p_store_Store_Turn (N : Nat → Nat) : AFunc := ⟨9, [.inl 2],
 .seq (
  .ops [⟨(some 2), .mov (.c (.lit (.int .i64 0))), none⟩]) (
 .seq (
  .seq (
   .ops [⟨(some 3), .mov (.t 0), none⟩, ⟨(some 4), .eq false .pptr (.t 3) (.c (.lit (.pointer none))), none⟩]) (
  .cond (.t 4) (
   .seq (
    .ops [⟨(some 2), .mov (.c (.lit (.int .i64 0))), none⟩]) (
   .ret)) (
   .skip))) (
 .seq (
  .ops [⟨(some 5), .mov (.t 0), none⟩, ⟨(some 6), .nilchk (.t 5), none⟩, ⟨(some 7), .faddr 1 (.t 6), none⟩, ⟨(some 8), .load none (.t 7), none⟩, ⟨(some 2), .mov (.t 8), none⟩]) (
 .ret))), false⟩

/-- azimuth/store.New -/
def C_store_New (N : Nat → Nat) : AFunc := ⟨4, [.inl 0],
 .seq (
  .ops [⟨(some 0), .mov (.c (.lit (.pointer none))), none⟩]) (
 .seq (
  .ops [⟨(some 1), .mkmap, none⟩, ⟨(some 2), .build [(.lit (.map none)), (.lit (.int .i64 0))] [(0, 1, (.t 1))], none⟩, ⟨(some 3), .box (t_store_Store N) (.t 2), none⟩, ⟨(some 0), .mov (.t 3), none⟩]) (
 .ret)), false⟩

/-- slices.Clone[[]byte,byte] -/
def C_slices_Clone_sl_byte_byte (N : Nat → Nat) : AFunc := ⟨8, [.inl 2],
 .seq (
  .ops [⟨(some 2), .mov (.c (.lit (.slice none 0 0))), none⟩]) (
 .seq (
  .seq (
   .ops [⟨(some 3), .mov (.t 0), none⟩, ⟨(some 4), .eq false .pslice (.t 3) (.c (.lit (.slice none 0 0))), none⟩]) (
  .cond (.t 4) (
   .seq (
    .ops [⟨(some 2), .mov (.c (.lit (.slice none 0 0))), none⟩]) (
   .ret)) (
   .skip))) (
 .seq (
  .ops [⟨(some 5), .bslice (t_uint8 N) 1 none 0 [(.lit (.int .u8 0))] [], none⟩, ⟨(some 6), .mov (.t 0), none⟩, ⟨(some 7), .append (t_uint8 N) 1 1 (.t 5) (.t 6), none⟩, ⟨(some 2), .mov (.t 7), none⟩]) (
 .ret))), false⟩
end Go.Proofs.Eng
