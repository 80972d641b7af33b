import Derived.Test.YtchbifaiofljdaaM32
/- Templates of functions, as the engine takes them; numbers of functions and types by names. Printed by tm.py. -/
set_option linter.unusedVariables false
set_option maxRecDepth 100000
namespace Go.Proofs.Eng
open Go

def L_law03_LexerBlanks_1 (N : Nat → Nat) : AC :=
    .seq (
     .ops [⟨(some 72), .bin .lss (.t 71) (.t 70), none⟩]) (
    .seq (
     .cond (.t 72) (
      .skip) (
      .exit 0)) (
    .seq (
     .block 1 (
      .seq (
       .ops [⟨(some 73), .mov (.t 71), none⟩, ⟨(some 8), .mov (.t 73), none⟩]) (
      .seq (
       .dops 13 [⟨(some 74), .mov (.t 6), none⟩, ⟨(some 75), .mov (.t 8), none⟩, ⟨(some 76), .iaddr 3 (.t 74) (.t 75), none⟩, ⟨(some 77), .faddr 0 (.t 76), none⟩, ⟨(some 78), .load none (.t 77), none⟩, ⟨(some 79), .mov (.t 3), none⟩, ⟨(some 80), .mov (.t 8), none⟩, ⟨(some 81), .iaddr 3 (.t 79) (.t 80), none⟩, ⟨(some 82), .faddr 0 (.t 81), none⟩, ⟨(some 83), .load none (.t 82), none⟩, ⟨(some 84), .eq true .pint (.t 78) (.t 83), none⟩, ⟨(some 85), .mov (.t 84), none⟩, ⟨(some 86), .mov (.t 6), (some (85, false))⟩, ⟨(some 87), .mov (.t 8), (some (85, false))⟩, ⟨(some 88), .iaddr 3 (.t 86) (.t 87), (some (85, false))⟩, ⟨(some 89), .faddr 1 (.t 88), (some (85, false))⟩, ⟨(some 90), .load none (.t 89), (some (85, false))⟩, ⟨(some 91), .mov (.t 3), (some (85, false))⟩, ⟨(some 92), .mov (.t 8), (some (85, false))⟩, ⟨(some 93), .iaddr 3 (.t 91) (.t 92), (some (85, false))⟩, ⟨(some 94), .faddr 1 (.t 93), (some (85, false))⟩, ⟨(some 95), .load none (.t 94), (some (85, false))⟩, ⟨(some 96), .eq true .pstr (.t 90) (.t 95), (some (85, false))⟩, ⟨(some 97), .pick (.t 85) (.c (.lit (.bool true))) (.t 96), none⟩, ⟨(some 98), .mov (.t 97), none⟩, ⟨(some 99), .mov (.t 6), (some (98, false))⟩, ⟨(some 100), .mov (.t 8), (some (98, false))⟩, ⟨(some 101), .iaddr 3 (.t 99) (.t 100), (some (98, false))⟩, ⟨(some 102), .faddr 2 (.t 101), (some (98, false))⟩, ⟨(some 103), .load none (.t 102), (some (98, false))⟩, ⟨(some 104), .mov (.t 3), (some (98, false))⟩, ⟨(some 105), .mov (.t 8), (some (98, false))⟩, ⟨(some 106), .iaddr 3 (.t 104) (.t 105), (some (98, false))⟩, ⟨(some 107), .faddr 2 (.t 106), (some (98, false))⟩, ⟨(some 108), .load none (.t 107), (some (98, false))⟩, ⟨(some 109), .mov (.t 5), (some (98, false))⟩, ⟨(some 110), .lens (.t 109), (some (98, false))⟩, ⟨(some 111), .bin .add (.t 108) (.t 110), (some (98, false))⟩, ⟨(some 112), .eq true .pint (.t 103) (.t 111), (some (98, false))⟩, ⟨(some 113), .pick (.t 98) (.c (.lit (.bool true))) (.t 112), none⟩] [0, 0, 0, 0, 2, 0, 0, 0, 0, 2, 0, 0, 0, 0, 0, 0, 2, 0, 0, 0, 0, 2, 0, 0, 0, 0, 0, 0, 0, 2, 0, 0, 0, 0, 2, 0, 0, 0, 0, 0] []) (
      .cond (.t 113) (
       .seq (
        .ops [⟨(some 2), .mov (.c (.lit (.bool false))), none⟩]) (
       .ret)) (
       .skip))))) (
    .ops [⟨(some 114), .bin .add (.t 71) (.c (.lit (.int .i64 1))), none⟩, ⟨(some 71), .mov (.t 114), none⟩])))
def K_law03_LexerBlanks_1 (N : Nat → Nat) : AC :=
 .seq (
  .ops [⟨(some 2), .mov (.c (.lit (.bool true))), none⟩]) (
 .ret)
/-- azimuth/azimuthlaw03.LexerBlanks -/
def C_law03_LexerBlanks (N : Nat → Nat) : AFunc := ⟨115, [.inl 2],
 .seq (
  .ops [⟨(some 2), .mov (.c (.lit (.bool false))), none⟩]) (
 .seq (
  .seq (
   .ops [⟨(some 9), .call (.c (.fn (f_law03_lives N) [] [])) [], none⟩, ⟨(some 10), .un .not (.t 9), none⟩, ⟨(some 11), .mov (.t 10), none⟩, ⟨(some 12), .mov (.t 0), (some (11, false))⟩, ⟨(some 13), .len (.t 12), (some (11, false))⟩, ⟨(some 14), .bin .gtr (.t 13) (.c (.lit (.int .i64 400))), (some (11, false))⟩, ⟨(some 15), .pick (.t 11) (.c (.lit (.bool true))) (.t 14), none⟩]) (
  .cond (.t 15) (
   .seq (
    .ops [⟨(some 16), .call (.c (.fn (f_law03_lives N) [] [])) [], none⟩, ⟨(some 2), .mov (.t 16), none⟩]) (
   .ret)) (
   .skip))) (
 .seq (
  .ops [⟨(some 18), .mov (.t 0), none⟩, ⟨(some 19), .call (.c (.fn (f_lexer_Lex N) [] [])) [(.t 18)], none⟩, ⟨(some 17), .mov (.t 19), none⟩, ⟨(some 20), .extract (.t 17) 0, none⟩, ⟨(some 21), .extract (.t 17) 1, none⟩, ⟨(some 4), .new (t_api_Diag N) (.agg [(.lit (.int .i64 0)), (.lit (.int .i64 0)), (.lit (.string (mkS [])))]), none⟩, ⟨(some 3), .mov (.t 20), none⟩, ⟨none, .store 3 (.t 4) (.t 21), none⟩]) (
 .seq (
  .ops [⟨(some 5), .mov (.c (.lit (.string (mkS [9, 32, 47, 47, 32, 110, 111, 116, 101, 10])))), none⟩]) (
 .seq (
  .ops [⟨(some 23), .mov (.t 5), none⟩, ⟨(some 24), .mov (.t 0), none⟩, ⟨(some 25), .conv .str (.t 24), none⟩, ⟨(some 26), .bin .add (.t 23) (.t 25), none⟩, ⟨(some 27), .bin .add (.t 26) (.c (.lit (.string (mkS [10, 32, 13, 47, 47, 32, 34, 63])))), none⟩, ⟨(some 28), .conv (.bytes (t_uint8 N)) (.t 27), none⟩, ⟨(some 29), .call (.c (.fn (f_lexer_Lex N) [] [])) [(.t 28)], none⟩, ⟨(some 22), .mov (.t 29), none⟩, ⟨(some 30), .extract (.t 22) 0, none⟩, ⟨(some 31), .extract (.t 22) 1, none⟩, ⟨(some 7), .new (t_api_Diag N) (.agg [(.lit (.int .i64 0)), (.lit (.int .i64 0)), (.lit (.string (mkS [])))]), none⟩, ⟨(some 6), .mov (.t 30), none⟩, ⟨none, .store 3 (.t 7) (.t 31), none⟩]) (
 .seq (
  .seq (
   .ops [⟨(some 32), .faddr 0 (.t 4), none⟩, ⟨(some 33), .load none (.t 32), none⟩, ⟨(some 34), .eq true .pint (.t 33) (.c (.lit (.int .i64 0))), none⟩]) (
  .cond (.t 34) (
   .seq (
    .ops [⟨(some 35), .faddr 0 (.t 7), none⟩, ⟨(some 36), .load none (.t 35), none⟩, ⟨(some 37), .faddr 0 (.t 4), none⟩, ⟨(some 38), .load none (.t 37), none⟩, ⟨(some 39), .eq false .pint (.t 36) (.t 38), none⟩, ⟨(some 40), .mov (.t 39), none⟩, ⟨(some 41), .faddr 1 (.t 7), (some (40, true))⟩, ⟨(some 42), .load none (.t 41), (some (40, true))⟩, ⟨(some 43), .faddr 1 (.t 4), (some (40, true))⟩, ⟨(some 44), .load none (.t 43), (some (40, true))⟩, ⟨(some 45), .mov (.t 5), (some (40, true))⟩, ⟨(some 46), .lens (.t 45), (some (40, true))⟩, ⟨(some 47), .bin .add (.t 44) (.t 46), (some (40, true))⟩, ⟨(some 48), .eq false .pint (.t 42) (.t 47), (some (40, true))⟩, ⟨(some 49), .pick (.t 40) (.t 48) (.c (.lit (.bool false))), none⟩, ⟨(some 50), .mov (.t 49), none⟩, ⟨(some 51), .faddr 0 (.t 7), (some (50, false))⟩, ⟨(some 52), .load none (.t 51), (some (50, false))⟩, ⟨(some 53), .eq true .pint (.t 52) (.c (.lit (.int .i64 0))), (some (50, false))⟩, ⟨(some 54), .pick (.t 50) (.c (.lit (.bool true))) (.t 53), none⟩, ⟨(some 2), .mov (.t 54), none⟩]) (
   .ret)) (
   .skip))) (
 .seq (
  .seq (
   .ops [⟨(some 55), .faddr 0 (.t 7), none⟩, ⟨(some 56), .load none (.t 55), none⟩, ⟨(some 57), .eq true .pint (.t 56) (.c (.lit (.int .i64 0))), none⟩, ⟨(some 58), .mov (.t 57), none⟩, ⟨(some 59), .mov (.t 3), (some (58, false))⟩, ⟨(some 60), .len (.t 59), (some (58, false))⟩, ⟨(some 61), .mov (.t 6), (some (58, false))⟩, ⟨(some 62), .len (.t 61), (some (58, false))⟩, ⟨(some 63), .eq true .pint (.t 60) (.t 62), (some (58, false))⟩, ⟨(some 64), .pick (.t 58) (.c (.lit (.bool true))) (.t 63), none⟩]) (
  .cond (.t 64) (
   .seq (
    .ops [⟨(some 2), .mov (.c (.lit (.bool false))), none⟩]) (
   .ret)) (
   .skip))) (
 .seq (
  .seq (
   .ops [⟨(some 65), .mov (.t 3), none⟩, ⟨(some 66), .mov (.t 3), none⟩, ⟨(some 67), .len (.t 66), none⟩, ⟨(some 68), .bin .sub (.t 67) (.c (.lit (.int .i64 1))), none⟩, ⟨(some 69), .slice 3 (.t 65) none (some (.t 68)), none⟩, ⟨(some 70), .len (.t 69), none⟩, ⟨(some 71), .mov (.c (.lit (.int .i64 0))), none⟩]) (
  .block 0 (
   .loop (L_law03_LexerBlanks_1 N)))) (K_law03_LexerBlanks_1 N)))))))), false⟩

/-- azimuth/azimuthlaw03.LexerLong -/
def C_law03_LexerLong (N : Nat → Nat) : AFunc := ⟨25, [.inl 2],
 .seq (
  .ops [⟨(some 2), .mov (.c (.lit (.bool false))), none⟩]) (
 .seq (
  .seq (
   .ops [⟨(some 6), .call (.c (.fn (f_law03_lives N) [] [])) [], none⟩, ⟨(some 7), .un .not (.t 6), none⟩]) (
  .cond (.t 7) (
   .seq (
    .ops [⟨(some 2), .mov (.c (.lit (.bool false))), none⟩]) (
   .ret)) (
   .skip))) (
 .seq (
  .ops [⟨(some 8), .mkslice (t_uint8 N) 1 1 (.lit (.int .u8 0)) (.c (.lit (.int .i64 1048577))) (.c (.lit (.int .i64 1048577))), none⟩, ⟨(some 3), .mov (.t 8), none⟩]) (
 .seq (
  .ops [⟨(some 9), .mov (.t 3), none⟩, ⟨(some 10), .mov (.t 0), none⟩, ⟨(some 11), .iaddr 1 (.t 9) (.c (.lit (.int .i64 0))), none⟩, ⟨none, .store 1 (.t 11) (.t 10), none⟩]) (
 .seq (
  .ops [⟨(some 13), .mov (.t 3), none⟩, ⟨(some 14), .call (.c (.fn (f_lexer_Lex N) [] [])) [(.t 13)], none⟩, ⟨(some 12), .mov (.t 14), none⟩, ⟨(some 15), .extract (.t 12) 0, none⟩, ⟨(some 16), .extract (.t 12) 1, none⟩, ⟨(some 5), .new (t_api_Diag N) (.agg [(.lit (.int .i64 0)), (.lit (.int .i64 0)), (.lit (.string (mkS [])))]), none⟩, ⟨(some 4), .mov (.t 15), none⟩, ⟨none, .store 3 (.t 5) (.t 16), none⟩]) (
 .seq (
  .ops [⟨(some 17), .mov (.t 4), none⟩, ⟨(some 18), .len (.t 17), none⟩, ⟨(some 19), .eq false .pint (.t 18) (.c (.lit (.int .i64 0))), none⟩, ⟨(some 20), .mov (.t 19), none⟩, ⟨(some 21), .load (some 3) (.t 5), (some (20, true))⟩, ⟨(some 22), .build [(.lit (.int .i64 0)), (.lit (.int .i64 0)), (.lit (.string (mkS [])))] [(0, 1, (.c (.lit (.int .i64 6))))], (some (20, true))⟩, ⟨(some 23), .eq false (.struct [(0, none, .pint), (1, none, .pint), (2, none, .pstr)]) (.t 21) (.t 22), (some (20, true))⟩, ⟨(some 24), .pick (.t 20) (.t 23) (.c (.lit (.bool false))), none⟩, ⟨(some 2), .mov (.t 24), none⟩]) (
 .ret)))))), false⟩

/-- azimuth/azimuthlaw03.LexerNames -/
def C_law03_LexerNames (N : Nat → Nat) : AFunc := ⟨54, [.inl 2],
 .seq (
  .ops [⟨(some 2), .mov (.c (.lit (.bool false))), none⟩]) (
 .seq (
  .seq (
   .ops [⟨(some 6), .call (.c (.fn (f_law03_lives N) [] [])) [], none⟩, ⟨(some 7), .un .not (.t 6), none⟩, ⟨(some 8), .mov (.t 7), none⟩, ⟨(some 9), .mov (.t 0), (some (8, false))⟩, ⟨(some 10), .lens (.t 9), (some (8, false))⟩, ⟨(some 11), .bin .gtr (.t 10) (.c (.lit (.int .i64 100))), (some (8, false))⟩, ⟨(some 12), .pick (.t 8) (.c (.lit (.bool true))) (.t 11), none⟩]) (
  .cond (.t 12) (
   .seq (
    .ops [⟨(some 13), .call (.c (.fn (f_law03_lives N) [] [])) [], none⟩, ⟨(some 2), .mov (.t 13), none⟩]) (
   .ret)) (
   .skip))) (
 .seq (
  .ops [⟨(some 15), .mov (.t 0), none⟩, ⟨(some 16), .conv (.bytes (t_uint8 N)) (.t 15), none⟩, ⟨(some 17), .call (.c (.fn (f_ref03_Lex N) [] [])) [(.t 16)], none⟩, ⟨(some 14), .mov (.t 17), none⟩, ⟨(some 18), .extract (.t 14) 0, none⟩, ⟨(some 19), .extract (.t 14) 1, none⟩, ⟨(some 4), .new (t_api_Diag N) (.agg [(.lit (.int .i64 0)), (.lit (.int .i64 0)), (.lit (.string (mkS [])))]), none⟩, ⟨(some 3), .mov (.t 18), none⟩, ⟨none, .store 3 (.t 4) (.t 19), none⟩]) (
 .seq (
  .ops [⟨(some 20), .faddr 0 (.t 4), none⟩, ⟨(some 21), .load none (.t 20), none⟩, ⟨(some 22), .eq false .pint (.t 21) (.c (.lit (.int .i64 0))), none⟩, ⟨(some 23), .mov (.t 22), none⟩, ⟨(some 24), .mov (.t 3), (some (23, true))⟩, ⟨(some 25), .len (.t 24), (some (23, true))⟩, ⟨(some 26), .eq false .pint (.t 25) (.c (.lit (.int .i64 2))), (some (23, true))⟩, ⟨(some 27), .pick (.t 23) (.t 26) (.c (.lit (.bool false))), none⟩, ⟨(some 28), .mov (.t 27), none⟩, ⟨(some 29), .mov (.t 3), (some (28, true))⟩, ⟨(some 30), .iaddr 3 (.t 29) (.c (.lit (.int .i64 0))), (some (28, true))⟩, ⟨(some 31), .faddr 0 (.t 30), (some (28, true))⟩, ⟨(some 32), .load none (.t 31), (some (28, true))⟩, ⟨(some 33), .eq false .pint (.t 32) (.c (.lit (.int .i64 1))), (some (28, true))⟩, ⟨(some 34), .pick (.t 28) (.t 33) (.c (.lit (.bool false))), none⟩, ⟨(some 35), .mov (.t 34), none⟩, ⟨(some 36), .mov (.t 3), (some (35, true))⟩, ⟨(some 37), .iaddr 3 (.t 36) (.c (.lit (.int .i64 0))), (some (35, true))⟩, ⟨(some 38), .faddr 1 (.t 37), (some (35, true))⟩, ⟨(some 39), .load none (.t 38), (some (35, true))⟩, ⟨(some 40), .mov (.t 0), (some (35, true))⟩, ⟨(some 41), .eq false .pstr (.t 39) (.t 40), (some (35, true))⟩, ⟨(some 42), .pick (.t 35) (.t 41) (.c (.lit (.bool false))), none⟩, ⟨(some 5), .mov (.t 42), none⟩]) (
 .seq (
  .ops [⟨(some 43), .mov (.t 0), none⟩, ⟨(some 44), .call (.c (.fn (f_lexer_IsWord N) [] [])) [(.t 43)], none⟩, ⟨(some 45), .mov (.t 0), none⟩, ⟨(some 46), .call (.c (.fn (f_ref03_IsWord N) [] [])) [(.t 45)], none⟩, ⟨(some 47), .eq false .pbool (.t 44) (.t 46), none⟩, ⟨(some 48), .mov (.t 47), none⟩, ⟨(some 49), .mov (.t 0), (some (48, true))⟩, ⟨(some 50), .call (.c (.fn (f_lexer_IsName N) [] [])) [(.t 49)], (some (48, true))⟩, ⟨(some 51), .mov (.t 5), (some (48, true))⟩, ⟨(some 52), .eq false .pbool (.t 50) (.t 51), (some (48, true))⟩, ⟨(some 53), .pick (.t 48) (.t 52) (.c (.lit (.bool false))), none⟩, ⟨(some 2), .mov (.t 53), none⟩]) (
 .ret))))), false⟩

/-- azimuth/azimuthlaw03.LexerReads -/
def C_law03_LexerReads (N : Nat → Nat) : AFunc := ⟨44, [.inl 2],
 .seq (
  .ops [⟨(some 2), .mov (.c (.lit (.bool false))), none⟩]) (
 .seq (
  .seq (
   .ops [⟨(some 8), .call (.c (.fn (f_law03_lives N) [] [])) [], none⟩, ⟨(some 9), .un .not (.t 8), none⟩, ⟨(some 10), .mov (.t 9), none⟩, ⟨(some 11), .mov (.t 0), (some (10, false))⟩, ⟨(some 12), .len (.t 11), (some (10, false))⟩, ⟨(some 13), .bin .gtr (.t 12) (.c (.lit (.int .i64 500))), (some (10, false))⟩, ⟨(some 14), .pick (.t 10) (.c (.lit (.bool true))) (.t 13), none⟩]) (
  .cond (.t 14) (
   .seq (
    .ops [⟨(some 15), .call (.c (.fn (f_law03_lives N) [] [])) [], none⟩, ⟨(some 2), .mov (.t 15), none⟩]) (
   .ret)) (
   .skip))) (
 .seq (
  .ops [⟨(some 16), .bslice (t_uint8 N) 1 none 0 [(.lit (.int .u8 0))] [], none⟩, ⟨(some 17), .mov (.t 0), none⟩, ⟨(some 18), .append (t_uint8 N) 1 1 (.t 16) (.t 17), none⟩, ⟨(some 3), .mov (.t 18), none⟩]) (
 .seq (
  .ops [⟨(some 20), .mov (.t 3), none⟩, ⟨(some 21), .call (.c (.fn (f_lexer_Lex N) [] [])) [(.t 20)], none⟩, ⟨(some 19), .mov (.t 21), none⟩, ⟨(some 22), .extract (.t 19) 0, none⟩, ⟨(some 23), .extract (.t 19) 1, none⟩, ⟨(some 5), .new (t_api_Diag N) (.agg [(.lit (.int .i64 0)), (.lit (.int .i64 0)), (.lit (.string (mkS [])))]), none⟩, ⟨(some 4), .mov (.t 22), none⟩, ⟨none, .store 3 (.t 5) (.t 23), none⟩]) (
 .seq (
  .ops [⟨(some 25), .mov (.t 0), none⟩, ⟨(some 26), .call (.c (.fn (f_ref03_Lex N) [] [])) [(.t 25)], none⟩, ⟨(some 24), .mov (.t 26), none⟩, ⟨(some 27), .extract (.t 24) 0, none⟩, ⟨(some 28), .extract (.t 24) 1, none⟩, ⟨(some 7), .new (t_api_Diag N) (.agg [(.lit (.int .i64 0)), (.lit (.int .i64 0)), (.lit (.string (mkS [])))]), none⟩, ⟨(some 6), .mov (.t 27), none⟩, ⟨none, .store 3 (.t 7) (.t 28), none⟩]) (
 .seq (
  .ops [⟨(some 29), .load (some 3) (.t 5), none⟩, ⟨(some 30), .load (some 3) (.t 7), none⟩, ⟨(some 31), .eq false (.struct [(0, none, .pint), (1, none, .pint), (2, none, .pstr)]) (.t 29) (.t 30), none⟩, ⟨(some 32), .mov (.t 31), none⟩, ⟨(some 33), .mov (.t 4), (some (32, true))⟩, ⟨(some 34), .mov (.t 6), (some (32, true))⟩, ⟨(some 35), .call (.c (.fn (f_ref03_Same N) [] [])) [(.t 33), (.t 34)], (some (32, true))⟩, ⟨(some 36), .pick (.t 32) (.t 35) (.c (.lit (.bool false))), none⟩, ⟨(some 37), .mov (.t 36), none⟩, ⟨(some 38), .mov (.t 3), (some (37, true))⟩, ⟨(some 39), .conv .str (.t 38), (some (37, true))⟩, ⟨(some 40), .mov (.t 0), (some (37, true))⟩, ⟨(some 41), .conv .str (.t 40), (some (37, true))⟩, ⟨(some 42), .eq false .pstr (.t 39) (.t 41), (some (37, true))⟩, ⟨(some 43), .pick (.t 37) (.t 42) (.c (.lit (.bool false))), none⟩, ⟨(some 2), .mov (.t 43), none⟩]) (
 .ret)))))), false⟩

def L_law03_LexerWrites_1 (N : Nat → Nat) : AC :=
    .seq (
     .ops [⟨(some 33), .bin .lss (.t 32) (.t 31), none⟩]) (
    .seq (
     .cond (.t 33) (
      .skip) (
      .exit 0)) (
    .seq (
     .block 1 (
      .seq (
       .ops [⟨(some 34), .iaddr 3 (.t 30) (.t 32), none⟩, ⟨(some 35), .load (some 3) (.t 34), none⟩, ⟨(some 7), .new (t_api_Token N) (.agg [(.lit (.int .i64 0)), (.lit (.string (mkS []))), (.lit (.int .i64 0))]), none⟩, ⟨none, .store 3 (.t 7) (.t 35), none⟩]) (
      .ops [⟨(some 36), .mov (.t 5), none⟩, ⟨(some 37), .load (some 3) (.t 7), none⟩, ⟨(some 38), .call (.c (.fn (f_law03_write N) [] [])) [(.t 37)], none⟩, ⟨(some 39), .bin .add (.t 38) (.c (.lit (.string (mkS [32])))), none⟩, ⟨(some 40), .bin .add (.t 36) (.t 39), none⟩, ⟨(some 5), .mov (.t 40), none⟩]))) (
    .ops [⟨(some 41), .bin .add (.t 32) (.c (.lit (.int .i64 1))), none⟩, ⟨(some 32), .mov (.t 41), none⟩])))
def L_law03_LexerWrites_2 (N : Nat → Nat) : AC :=
    .seq (
     .ops [⟨(some 61), .bin .lss (.t 60) (.t 59), none⟩]) (
    .seq (
     .cond (.t 61) (
      .skip) (
      .exit 2)) (
    .seq (
     .block 3 (
      .seq (
       .ops [⟨(some 62), .mov (.t 60), none⟩, ⟨(some 10), .mov (.t 62), none⟩]) (
      .seq (
       .dops 18 [⟨(some 63), .mov (.t 3), none⟩, ⟨(some 64), .mov (.t 10), none⟩, ⟨(some 65), .iaddr 3 (.t 63) (.t 64), none⟩, ⟨(some 66), .faddr 0 (.t 65), none⟩, ⟨(some 67), .load none (.t 66), none⟩, ⟨(some 68), .mov (.t 8), none⟩, ⟨(some 69), .mov (.t 10), none⟩, ⟨(some 70), .iaddr 3 (.t 68) (.t 69), none⟩, ⟨(some 71), .faddr 0 (.t 70), none⟩, ⟨(some 72), .load none (.t 71), none⟩, ⟨(some 73), .eq true .pint (.t 67) (.t 72), none⟩, ⟨(some 74), .mov (.t 73), none⟩, ⟨(some 75), .mov (.t 3), (some (74, false))⟩, ⟨(some 76), .mov (.t 10), (some (74, false))⟩, ⟨(some 77), .iaddr 3 (.t 75) (.t 76), (some (74, false))⟩, ⟨(some 78), .faddr 1 (.t 77), (some (74, false))⟩, ⟨(some 79), .load none (.t 78), (some (74, false))⟩, ⟨(some 80), .mov (.t 8), (some (74, false))⟩, ⟨(some 81), .mov (.t 10), (some (74, false))⟩, ⟨(some 82), .iaddr 3 (.t 80) (.t 81), (some (74, false))⟩, ⟨(some 83), .faddr 1 (.t 82), (some (74, false))⟩, ⟨(some 84), .load none (.t 83), (some (74, false))⟩, ⟨(some 85), .eq true .pstr (.t 79) (.t 84), (some (74, false))⟩, ⟨(some 86), .pick (.t 74) (.c (.lit (.bool true))) (.t 85), none⟩] [0, 0, 0, 0, 2, 0, 0, 0, 0, 2, 0, 0, 0, 0, 0, 0, 2, 0, 0, 0, 0, 2, 0, 0] []) (
      .cond (.t 86) (
       .seq (
        .ops [⟨(some 2), .mov (.c (.lit (.bool false))), none⟩]) (
       .ret)) (
       .skip))))) (
    .ops [⟨(some 87), .bin .add (.t 60) (.c (.lit (.int .i64 1))), none⟩, ⟨(some 60), .mov (.t 87), none⟩])))
def K_law03_LexerWrites_2 (N : Nat → Nat) : AC :=
 .seq (
  .ops [⟨(some 2), .mov (.c (.lit (.bool true))), none⟩]) (
 .ret)
def K_law03_LexerWrites_1 (N : Nat → Nat) : AC :=
 .seq (
  .ops [⟨(some 43), .mov (.t 5), none⟩, ⟨(some 44), .conv (.bytes (t_uint8 N)) (.t 43), none⟩, ⟨(some 45), .call (.c (.fn (f_lexer_Lex N) [] [])) [(.t 44)], none⟩, ⟨(some 42), .mov (.t 45), none⟩, ⟨(some 46), .extract (.t 42) 0, none⟩, ⟨(some 47), .extract (.t 42) 1, none⟩, ⟨(some 9), .new (t_api_Diag N) (.agg [(.lit (.int .i64 0)), (.lit (.int .i64 0)), (.lit (.string (mkS [])))]), none⟩, ⟨(some 8), .mov (.t 46), none⟩, ⟨none, .store 3 (.t 9) (.t 47), none⟩]) (
 .seq (
  .seq (
   .ops [⟨(some 48), .faddr 0 (.t 9), none⟩, ⟨(some 49), .load none (.t 48), none⟩, ⟨(some 50), .eq true .pint (.t 49) (.c (.lit (.int .i64 0))), none⟩, ⟨(some 51), .mov (.t 50), none⟩, ⟨(some 52), .mov (.t 8), (some (51, false))⟩, ⟨(some 53), .len (.t 52), (some (51, false))⟩, ⟨(some 54), .mov (.t 3), (some (51, false))⟩, ⟨(some 55), .len (.t 54), (some (51, false))⟩, ⟨(some 56), .eq true .pint (.t 53) (.t 55), (some (51, false))⟩, ⟨(some 57), .pick (.t 51) (.c (.lit (.bool true))) (.t 56), none⟩]) (
  .cond (.t 57) (
   .seq (
    .ops [⟨(some 2), .mov (.c (.lit (.bool false))), none⟩]) (
   .ret)) (
   .skip))) (
 .seq (
  .seq (
   .ops [⟨(some 58), .mov (.t 3), none⟩, ⟨(some 59), .len (.t 58), none⟩, ⟨(some 60), .mov (.c (.lit (.int .i64 0))), none⟩]) (
  .block 2 (
   .loop (L_law03_LexerWrites_2 N)))) (K_law03_LexerWrites_2 N)))
/-- azimuth/azimuthlaw03.LexerWrites -/
def C_law03_LexerWrites (N : Nat → Nat) : AFunc := ⟨88, [.inl 2],
 .seq (
  .ops [⟨(some 2), .mov (.c (.lit (.bool false))), none⟩]) (
 .seq (
  .seq (
   .ops [⟨(some 11), .call (.c (.fn (f_law03_lives N) [] [])) [], none⟩, ⟨(some 12), .un .not (.t 11), none⟩, ⟨(some 13), .mov (.t 12), none⟩, ⟨(some 14), .mov (.t 0), (some (13, false))⟩, ⟨(some 15), .len (.t 14), (some (13, false))⟩, ⟨(some 16), .bin .gtr (.t 15) (.c (.lit (.int .i64 500))), (some (13, false))⟩, ⟨(some 17), .pick (.t 13) (.c (.lit (.bool true))) (.t 16), none⟩]) (
  .cond (.t 17) (
   .seq (
    .ops [⟨(some 18), .call (.c (.fn (f_law03_lives N) [] [])) [], none⟩, ⟨(some 2), .mov (.t 18), none⟩]) (
   .ret)) (
   .skip))) (
 .seq (
  .ops [⟨(some 20), .mov (.t 0), none⟩, ⟨(some 21), .call (.c (.fn (f_lexer_Lex N) [] [])) [(.t 20)], none⟩, ⟨(some 19), .mov (.t 21), none⟩, ⟨(some 22), .extract (.t 19) 0, none⟩, ⟨(some 23), .extract (.t 19) 1, none⟩, ⟨(some 4), .new (t_api_Diag N) (.agg [(.lit (.int .i64 0)), (.lit (.int .i64 0)), (.lit (.string (mkS [])))]), none⟩, ⟨(some 3), .mov (.t 22), none⟩, ⟨none, .store 3 (.t 4) (.t 23), none⟩]) (
 .seq (
  .seq (
   .ops [⟨(some 24), .faddr 0 (.t 4), none⟩, ⟨(some 25), .load none (.t 24), none⟩, ⟨(some 26), .eq true .pint (.t 25) (.c (.lit (.int .i64 0))), none⟩]) (
  .cond (.t 26) (
   .seq (
    .ops [⟨(some 27), .mov (.t 3), none⟩, ⟨(some 28), .len (.t 27), none⟩, ⟨(some 29), .eq false .pint (.t 28) (.c (.lit (.int .i64 0))), none⟩, ⟨(some 2), .mov (.t 29), none⟩]) (
   .ret)) (
   .skip))) (
 .seq (
  .ops [⟨(some 5), .mov (.c (.lit (.string (mkS [])))), none⟩]) (
 .seq (
  .seq (
   .ops [⟨(some 30), .mov (.t 3), none⟩, ⟨(some 31), .len (.t 30), none⟩, ⟨(some 32), .mov (.c (.lit (.int .i64 0))), none⟩]) (
  .block 0 (
   .loop (L_law03_LexerWrites_1 N)))) (K_law03_LexerWrites_1 N)))))), false⟩

/-- azimuth/azimuthlaw03.lives -/
def C_law03_lives (N : Nat → Nat) : AFunc := ⟨52, [.inl 0],
 .seq (
  .ops [⟨(some 0), .mov (.c (.lit (.bool false))), none⟩]) (
 .seq (
  .ops [⟨(some 4), .bslice (t_uint8 N) 1 none 6 [(.lit (.int .u8 0))] [(0, 1, (.c (.lit (.int .u8 120)))), (1, 1, (.c (.lit (.int .u8 49)))), (2, 1, (.c (.lit (.int .u8 61)))), (3, 1, (.c (.lit (.int .u8 62)))), (4, 1, (.c (.lit (.int .u8 35)))), (5, 1, (.c (.lit (.int .u8 97))))], none⟩, ⟨(some 5), .conv .mark (.t 4), none⟩, ⟨(some 6), .call (.c (.fn (f_lexer_Lex N) [] [])) [(.t 5)], none⟩, ⟨(some 3), .mov (.t 6), none⟩, ⟨(some 7), .extract (.t 3) 0, none⟩, ⟨(some 8), .extract (.t 3) 1, none⟩, ⟨(some 2), .new (t_api_Diag N) (.agg [(.lit (.int .i64 0)), (.lit (.int .i64 0)), (.lit (.string (mkS [])))]), none⟩, ⟨(some 1), .mov (.t 7), none⟩, ⟨none, .store 3 (.t 2) (.t 8), none⟩]) (
 .seq (
  .ops [⟨(some 9), .load (some 3) (.t 2), none⟩, ⟨(some 10), .build [(.lit (.int .i64 0)), (.lit (.int .i64 0)), (.lit (.string (mkS [])))] [], none⟩, ⟨(some 11), .eq false (.struct [(0, none, .pint), (1, none, .pint), (2, none, .pstr)]) (.t 9) (.t 10), none⟩, ⟨(some 12), .mov (.t 11), none⟩, ⟨(some 13), .mov (.t 1), (some (12, true))⟩, ⟨(some 14), .len (.t 13), (some (12, true))⟩, ⟨(some 15), .eq false .pint (.t 14) (.c (.lit (.int .i64 4))), (some (12, true))⟩, ⟨(some 16), .pick (.t 12) (.t 15) (.c (.lit (.bool false))), none⟩, ⟨(some 17), .mov (.t 16), none⟩, ⟨(some 18), .mov (.t 1), (some (17, true))⟩, ⟨(some 19), .iaddr 3 (.t 18) (.c (.lit (.int .i64 0))), (some (17, true))⟩, ⟨(some 20), .faddr 1 (.t 19), (some (17, true))⟩, ⟨(some 21), .load none (.t 20), (some (17, true))⟩, ⟨(some 22), .eq false .pstr (.t 21) (.c (.lit (.string (mkS [120, 49])))), (some (17, true))⟩, ⟨(some 23), .pick (.t 17) (.t 22) (.c (.lit (.bool false))), none⟩, ⟨(some 24), .mov (.t 23), none⟩, ⟨(some 25), .mov (.t 1), (some (24, true))⟩, ⟨(some 26), .iaddr 3 (.t 25) (.c (.lit (.int .i64 1))), (some (24, true))⟩, ⟨(some 27), .faddr 1 (.t 26), (some (24, true))⟩, ⟨(some 28), .load none (.t 27), (some (24, true))⟩, ⟨(some 29), .eq false .pstr (.t 28) (.c (.lit (.string (mkS [61, 62])))), (some (24, true))⟩, ⟨(some 30), .pick (.t 24) (.t 29) (.c (.lit (.bool false))), none⟩, ⟨(some 31), .mov (.t 30), none⟩, ⟨(some 32), .mov (.t 1), (some (31, true))⟩, ⟨(some 33), .iaddr 3 (.t 32) (.c (.lit (.int .i64 2))), (some (31, true))⟩, ⟨(some 34), .faddr 0 (.t 33), (some (31, true))⟩, ⟨(some 35), .load none (.t 34), (some (31, true))⟩, ⟨(some 36), .eq false .pint (.t 35) (.c (.lit (.int .i64 3))), (some (31, true))⟩, ⟨(some 37), .pick (.t 31) (.t 36) (.c (.lit (.bool false))), none⟩, ⟨(some 38), .mov (.t 37), none⟩, ⟨(some 39), .mov (.t 1), (some (38, true))⟩, ⟨(some 40), .iaddr 3 (.t 39) (.c (.lit (.int .i64 2))), (some (38, true))⟩, ⟨(some 41), .faddr 1 (.t 40), (some (38, true))⟩, ⟨(some 42), .load none (.t 41), (some (38, true))⟩, ⟨(some 43), .eq false .pstr (.t 42) (.c (.lit (.string (mkS [97])))), (some (38, true))⟩, ⟨(some 44), .pick (.t 38) (.t 43) (.c (.lit (.bool false))), none⟩, ⟨(some 45), .mov (.t 44), none⟩, ⟨(some 46), .mov (.t 1), (some (45, true))⟩, ⟨(some 47), .iaddr 3 (.t 46) (.c (.lit (.int .i64 3))), (some (45, true))⟩, ⟨(some 48), .faddr 2 (.t 47), (some (45, true))⟩, ⟨(some 49), .load none (.t 48), (some (45, true))⟩, ⟨(some 50), .eq false .pint (.t 49) (.c (.lit (.int .i64 6))), (some (45, true))⟩, ⟨(some 51), .pick (.t 45) (.t 50) (.c (.lit (.bool false))), none⟩, ⟨(some 0), .mov (.t 51), none⟩]) (
 .ret))), false⟩

/-- azimuth/azimuthlaw03.write -/
def C_law03_write (N : Nat → Nat) : AFunc := ⟨17, [.inl 2],
 .seq (
  .ops [⟨(some 1), .box (t_api_Token N) (.t 0), none⟩, ⟨(some 2), .mov (.c (.lit (.string (mkS [])))), none⟩]) (
 .seq (
  .seq (
   .ops [⟨(some 3), .faddr 0 (.t 1), none⟩, ⟨(some 4), .load none (.t 3), none⟩]) (
  .block 0 (
   .seq (
    .ops [⟨(some 6), .eq false .pint (.t 4) (.c (.lit (.int .i64 3))), none⟩, ⟨(some 5), .mov (.t 6), none⟩]) (
   .cond (.t 5) (
    .seq (
     .ops [⟨(some 7), .faddr 1 (.t 1), none⟩, ⟨(some 8), .load none (.t 7), none⟩, ⟨(some 9), .bin .add (.c (.lit (.string (mkS [35])))) (.t 8), none⟩, ⟨(some 2), .mov (.t 9), none⟩]) (
    .ret)) (
    .seq (
     .ops [⟨(some 11), .eq false .pint (.t 4) (.c (.lit (.int .i64 6))), none⟩, ⟨(some 10), .mov (.t 11), none⟩]) (
    .cond (.t 10) (
     .seq (
      .ops [⟨(some 12), .faddr 1 (.t 1), none⟩, ⟨(some 13), .load none (.t 12), none⟩, ⟨(some 14), .call (.c (.fn (f_lexer_Quote N) [] [])) [(.t 13)], none⟩, ⟨(some 2), .mov (.t 14), none⟩]) (
     .ret)) (
     .skip))))))) (
 .seq (
  .ops [⟨(some 15), .faddr 1 (.t 1), none⟩, ⟨(some 16), .load none (.t 15), none⟩, ⟨(some 2), .mov (.t 16), none⟩]) (
 .ret))), false⟩
end Go.Proofs.Eng
/- Templates of functions, as the engine takes them; numbers of functions and types by names. Printed by tm.py. -/
set_option linter.unusedVariables false
set_option maxRecDepth 100000
namespace Go.Proofs.Eng
open Go

def L_law01_RunesCuts_1 (N : Nat → Nat) : AC :=
    .ops [⟨(some 6), .mov (.t 34), none⟩]
def L_law01_RunesCuts_2 (N : Nat → Nat) : AC :=
    .block 1 (
     .ops [⟨(some 36), .load none (.t 5), none⟩, ⟨(some 37), .mov (.t 36), none⟩, ⟨(some 38), .mov (.t 6), (some (37, false))⟩, ⟨(some 39), .load none (.t 3), (some (37, false))⟩, ⟨(some 40), .eq false .pint (.t 38) (.t 39), (some (37, false))⟩, ⟨(some 41), .pick (.t 37) (.c (.lit (.bool true))) (.t 40), none⟩, ⟨none, .store 1 (.t 5) (.t 41), none⟩])
def K_law01_RunesCuts_1 (N : Nat → Nat) : AC :=
 .seq (
  .seq (
   .ops [⟨(some 42), .load none (.t 5), none⟩, ⟨(some 43), .un .not (.t 42), none⟩]) (
  .cond (.t 43) (
   .seq (
    .ops [⟨(some 44), .mov (.t 0), none⟩, ⟨(some 45), .load none (.t 3), none⟩, ⟨(some 46), .slice 1 (.t 44) none (some (.t 45)), none⟩, ⟨(some 47), .call (.c (.fn (f_runes_Bad N) [] [])) [(.t 46)], none⟩, ⟨(some 48), .bin .geq (.t 47) (.c (.lit (.int .i64 0))), none⟩, ⟨(some 49), .mov (.t 48), none⟩, ⟨(some 50), .mov (.t 0), (some (49, true))⟩, ⟨(some 51), .load none (.t 3), (some (49, true))⟩, ⟨(some 52), .slice 1 (.t 50) (some (.t 51)) none, (some (49, true))⟩, ⟨(some 53), .call (.c (.fn (f_runes_Bad N) [] [])) [(.t 52)], (some (49, true))⟩, ⟨(some 54), .eq false .pint (.t 53) (.c (.lit (.int .i64 0))), (some (49, true))⟩, ⟨(some 55), .pick (.t 49) (.t 54) (.c (.lit (.bool false))), none⟩, ⟨(some 4), .mov (.t 55), none⟩]) (
   .ret)) (
   .skip))) (
 .seq (
  .ops [⟨(some 56), .mov (.t 0), none⟩, ⟨(some 57), .load none (.t 3), none⟩, ⟨(some 58), .slice 1 (.t 56) none (some (.t 57)), none⟩, ⟨(some 59), .call (.c (.fn (f_runes_Bad N) [] [])) [(.t 58)], none⟩, ⟨(some 60), .eq false .pint (.t 59) (.c (.lit (.int .i64 (-1)))), none⟩, ⟨(some 61), .mov (.t 60), none⟩, ⟨(some 62), .mov (.t 0), (some (61, true))⟩, ⟨(some 63), .load none (.t 3), (some (61, true))⟩, ⟨(some 64), .slice 1 (.t 62) (some (.t 63)) none, (some (61, true))⟩, ⟨(some 65), .call (.c (.fn (f_runes_Bad N) [] [])) [(.t 64)], (some (61, true))⟩, ⟨(some 66), .eq false .pint (.t 65) (.c (.lit (.int .i64 (-1)))), (some (61, true))⟩, ⟨(some 67), .pick (.t 61) (.t 66) (.c (.lit (.bool false))), none⟩, ⟨(some 4), .mov (.t 67), none⟩]) (
 .ret))
/-- azimuth/azimuthlaw01.RunesCuts -/
def C_law01_RunesCuts (N : Nat → Nat) : AFunc := ⟨68, [.inl 4],
 .seq (
  .ops [⟨(some 3), .box (t_int N) (.t 1), none⟩, ⟨(some 4), .mov (.c (.lit (.bool false))), none⟩]) (
 .seq (
  .seq (
   .ops [⟨(some 7), .call (.c (.fn (f_law01_lives N) [] [])) [], none⟩, ⟨(some 8), .un .not (.t 7), none⟩, ⟨(some 9), .mov (.t 8), none⟩, ⟨(some 10), .mov (.t 0), (some (9, false))⟩, ⟨(some 11), .len (.t 10), (some (9, false))⟩, ⟨(some 12), .bin .gtr (.t 11) (.c (.lit (.int .i64 400))), (some (9, false))⟩, ⟨(some 13), .pick (.t 9) (.c (.lit (.bool true))) (.t 12), none⟩, ⟨(some 14), .mov (.t 13), none⟩, ⟨(some 15), .mov (.t 0), (some (14, false))⟩, ⟨(some 16), .call (.c (.fn (f_runes_Bad N) [] [])) [(.t 15)], (some (14, false))⟩, ⟨(some 17), .bin .geq (.t 16) (.c (.lit (.int .i64 0))), (some (14, false))⟩, ⟨(some 18), .pick (.t 14) (.c (.lit (.bool true))) (.t 17), none⟩]) (
  .cond (.t 18) (
   .seq (
    .ops [⟨(some 19), .call (.c (.fn (f_law01_lives N) [] [])) [], none⟩, ⟨(some 4), .mov (.t 19), none⟩]) (
   .ret)) (
   .skip))) (
 .seq (
  .ops [⟨(some 20), .load none (.t 3), none⟩, ⟨(some 21), .conv (.toInt .u64) (.t 20), none⟩, ⟨(some 22), .mov (.t 0), none⟩, ⟨(some 23), .len (.t 22), none⟩, ⟨(some 24), .bin .add (.t 23) (.c (.lit (.int .i64 1))), none⟩, ⟨(some 25), .conv (.toInt .u64) (.t 24), none⟩, ⟨(some 26), .bin .rem (.t 21) (.t 25), none⟩, ⟨(some 27), .conv (.toInt .i64) (.t 26), none⟩, ⟨none, .store 1 (.t 3) (.t 27), none⟩]) (
 .seq (
  .ops [⟨(some 28), .load none (.t 3), none⟩, ⟨(some 29), .mov (.t 0), none⟩, ⟨(some 30), .len (.t 29), none⟩, ⟨(some 31), .eq false .pint (.t 28) (.t 30), none⟩, ⟨(some 5), .new (t_bool N) (.lit (.bool false)), none⟩, ⟨none, .store 1 (.t 5) (.t 31), none⟩]) (
 .seq (
  .seq (
   .ops [⟨(some 32), .mov (.t 0), none⟩, ⟨(some 33), .call (.c (.fn (f_runes_All N) [] [])) [(.t 32)], none⟩]) (
  .block 0 (
   .rangeFn (.t 33) [34, 35] (L_law01_RunesCuts_1 N) (L_law01_RunesCuts_2 N)))) (K_law01_RunesCuts_1 N))))), false⟩

def L_law01_RunesEncodes_1 (N : Nat → Nat) : AC :=
    .seq (
     .ops [⟨(some 8), .mov (.t 34), none⟩]) (
    .ops [⟨(some 9), .mov (.t 35), none⟩])
def L_law01_RunesEncodes_2 (N : Nat → Nat) : AC :=
    .block 1 (
     .seq (
      .seq (
       .ops [⟨(some 36), .mov (.t 8), none⟩, ⟨(some 37), .eq true .pint (.t 36) (.c (.lit (.int .i64 0))), none⟩, ⟨(some 38), .mov (.t 37), none⟩, ⟨(some 39), .mov (.t 9), (some (38, false))⟩, ⟨(some 40), .load none (.t 1), (some (38, false))⟩, ⟨(some 41), .eq true .pint (.t 39) (.t 40), (some (38, false))⟩, ⟨(some 42), .pick (.t 38) (.c (.lit (.bool true))) (.t 41), none⟩]) (
      .cond (.t 42) (
       .seq (
        .ops [⟨none, .store 1 (.t 2) (.c (.lit (.bool false))), none⟩]) (
       .ret)) (
       .skip))) (
     .ops [⟨(some 43), .load none (.t 7), none⟩, ⟨(some 44), .bin .add (.t 43) (.c (.lit (.int .i64 1))), none⟩, ⟨none, .store 1 (.t 7) (.t 44), none⟩]))
def K_law01_RunesEncodes_1 (N : Nat → Nat) : AC :=
 .seq (
  .ops [⟨(some 45), .mov (.t 4), none⟩, ⟨(some 46), .eq false .pint (.t 45) (.c (.lit (.int .i64 0))), none⟩, ⟨(some 47), .mov (.t 46), none⟩, ⟨(some 48), .mov (.t 3), (some (47, true))⟩, ⟨(some 49), .conv .str (.t 48), (some (47, true))⟩, ⟨(some 50), .mov (.t 5), (some (47, true))⟩, ⟨(some 51), .conv .str (.t 50), (some (47, true))⟩, ⟨(some 52), .eq false .pstr (.t 49) (.t 51), (some (47, true))⟩, ⟨(some 53), .pick (.t 47) (.t 52) (.c (.lit (.bool false))), none⟩, ⟨(some 54), .mov (.t 53), none⟩, ⟨(some 55), .load none (.t 7), (some (54, true))⟩, ⟨(some 56), .eq false .pint (.t 55) (.c (.lit (.int .i64 1))), (some (54, true))⟩, ⟨(some 57), .pick (.t 54) (.t 56) (.c (.lit (.bool false))), none⟩, ⟨(some 58), .mov (.t 57), none⟩, ⟨(some 59), .mov (.t 3), (some (58, true))⟩, ⟨(some 60), .call (.c (.fn (f_runes_Bad N) [] [])) [(.t 59)], (some (58, true))⟩, ⟨(some 61), .eq false .pint (.t 60) (.c (.lit (.int .i64 (-1)))), (some (58, true))⟩, ⟨(some 62), .pick (.t 58) (.t 61) (.c (.lit (.bool false))), none⟩, ⟨none, .store 1 (.t 2) (.t 62), none⟩]) (
 .ret)
/-- azimuth/azimuthlaw01.RunesEncodes -/
def C_law01_RunesEncodes (N : Nat → Nat) : AFunc := ⟨63, [.inr (2, none)],
 .seq (
  .ops [⟨(some 1), .box (t_int32 N) (.t 0), none⟩, ⟨(some 2), .new (t_bool N) (.lit (.bool false)), none⟩]) (
 .seq (
  .seq (
   .ops [⟨(some 10), .call (.c (.fn (f_law01_lives N) [] [])) [], none⟩, ⟨(some 11), .un .not (.t 10), none⟩]) (
  .cond (.t 11) (
   .seq (
    .ops [⟨none, .store 1 (.t 2) (.c (.lit (.bool false))), none⟩]) (
   .ret)) (
   .skip))) (
 .seq (
  .ops [⟨(some 13), .load none (.t 1), none⟩, ⟨(some 14), .call (.c (.fn (f_runes_Encode N) [] [])) [(.t 13)], none⟩, ⟨(some 12), .mov (.t 14), none⟩, ⟨(some 15), .extract (.t 12) 0, none⟩, ⟨(some 16), .extract (.t 12) 1, none⟩, ⟨(some 3), .mov (.t 15), none⟩, ⟨(some 4), .mov (.t 16), none⟩]) (
 .seq (
  .ops [⟨(some 18), .load none (.t 1), none⟩, ⟨(some 19), .conv (.toInt .i64) (.t 18), none⟩, ⟨(some 20), .call (.c (.fn (f_ref01_Encode N) [] [])) [(.t 19)], none⟩, ⟨(some 17), .mov (.t 20), none⟩, ⟨(some 21), .extract (.t 17) 0, none⟩, ⟨(some 22), .extract (.t 17) 1, none⟩, ⟨(some 5), .mov (.t 21), none⟩, ⟨(some 6), .mov (.t 22), none⟩]) (
 .seq (
  .seq (
   .ops [⟨(some 23), .mov (.t 6), none⟩, ⟨(some 24), .un .not (.t 23), none⟩]) (
  .cond (.t 24) (
   .seq (
    .ops [⟨(some 25), .mov (.t 4), none⟩, ⟨(some 26), .eq false .pint (.t 25) (.c (.lit (.int .i64 2))), none⟩, ⟨(some 27), .mov (.t 26), none⟩, ⟨(some 28), .mov (.t 3), (some (27, true))⟩, ⟨(some 29), .len (.t 28), (some (27, true))⟩, ⟨(some 30), .eq false .pint (.t 29) (.c (.lit (.int .i64 0))), (some (27, true))⟩, ⟨(some 31), .pick (.t 27) (.t 30) (.c (.lit (.bool false))), none⟩, ⟨none, .store 1 (.t 2) (.t 31), none⟩]) (
   .ret)) (
   .skip))) (
 .seq (
  .ops [⟨(some 7), .new (t_int N) (.lit (.int .i64 0)), none⟩, ⟨none, .store 1 (.t 7) (.c (.lit (.int .i64 0))), none⟩]) (
 .seq (
  .seq (
   .ops [⟨(some 32), .mov (.t 3), none⟩, ⟨(some 33), .call (.c (.fn (f_runes_All N) [] [])) [(.t 32)], none⟩]) (
  .block 0 (
   .rangeFn (.t 33) [34, 35] (L_law01_RunesEncodes_1 N) (L_law01_RunesEncodes_2 N)))) (K_law01_RunesEncodes_1 N))))))), false⟩

/-- azimuth/azimuthlaw01.RunesJoin -/
def C_law01_RunesJoin (N : Nat → Nat) : AFunc := ⟨47, [.inl 4],
 .seq (
  .ops [⟨(some 4), .mov (.c (.lit (.bool false))), none⟩]) (
 .seq (
  .seq (
   .ops [⟨(some 6), .call (.c (.fn (f_law01_lives N) [] [])) [], none⟩, ⟨(some 7), .un .not (.t 6), none⟩, ⟨(some 8), .mov (.t 7), none⟩, ⟨(some 9), .mov (.t 0), (some (8, false))⟩, ⟨(some 10), .len (.t 9), (some (8, false))⟩, ⟨(some 11), .bin .gtr (.t 10) (.c (.lit (.int .i64 400))), (some (8, false))⟩, ⟨(some 12), .pick (.t 8) (.c (.lit (.bool true))) (.t 11), none⟩, ⟨(some 13), .mov (.t 12), none⟩, ⟨(some 14), .mov (.t 1), (some (13, false))⟩, ⟨(some 15), .len (.t 14), (some (13, false))⟩, ⟨(some 16), .bin .gtr (.t 15) (.c (.lit (.int .i64 400))), (some (13, false))⟩, ⟨(some 17), .pick (.t 13) (.c (.lit (.bool true))) (.t 16), none⟩, ⟨(some 18), .mov (.t 17), none⟩, ⟨(some 19), .mov (.t 0), (some (18, false))⟩, ⟨(some 20), .call (.c (.fn (f_runes_Bad N) [] [])) [(.t 19)], (some (18, false))⟩, ⟨(some 21), .bin .geq (.t 20) (.c (.lit (.int .i64 0))), (some (18, false))⟩, ⟨(some 22), .pick (.t 18) (.c (.lit (.bool true))) (.t 21), none⟩, ⟨(some 23), .mov (.t 22), none⟩, ⟨(some 24), .mov (.t 1), (some (23, false))⟩, ⟨(some 25), .call (.c (.fn (f_runes_Bad N) [] [])) [(.t 24)], (some (23, false))⟩, ⟨(some 26), .bin .geq (.t 25) (.c (.lit (.int .i64 0))), (some (23, false))⟩, ⟨(some 27), .pick (.t 23) (.c (.lit (.bool true))) (.t 26), none⟩]) (
  .cond (.t 27) (
   .seq (
    .ops [⟨(some 28), .call (.c (.fn (f_law01_lives N) [] [])) [], none⟩, ⟨(some 4), .mov (.t 28), none⟩]) (
   .ret)) (
   .skip))) (
 .seq (
  .ops [⟨(some 29), .bslice (t_uint8 N) 1 none 0 [(.lit (.int .u8 0))] [], none⟩, ⟨(some 30), .mov (.t 0), none⟩, ⟨(some 31), .append (t_uint8 N) 1 1 (.t 29) (.t 30), none⟩, ⟨(some 32), .mov (.t 1), none⟩, ⟨(some 33), .append (t_uint8 N) 1 1 (.t 31) (.t 32), none⟩, ⟨(some 5), .mov (.t 33), none⟩]) (
 .seq (
  .ops [⟨(some 34), .mov (.t 5), none⟩, ⟨(some 35), .call (.c (.fn (f_runes_Bad N) [] [])) [(.t 34)], none⟩, ⟨(some 36), .eq false .pint (.t 35) (.c (.lit (.int .i64 (-1)))), none⟩, ⟨(some 37), .mov (.t 36), none⟩, ⟨(some 38), .mov (.t 5), (some (37, true))⟩, ⟨(some 39), .call (.c (.fn (f_runes_Count N) [] [])) [(.t 38)], (some (37, true))⟩, ⟨(some 40), .mov (.t 0), (some (37, true))⟩, ⟨(some 41), .call (.c (.fn (f_runes_Count N) [] [])) [(.t 40)], (some (37, true))⟩, ⟨(some 42), .mov (.t 1), (some (37, true))⟩, ⟨(some 43), .call (.c (.fn (f_runes_Count N) [] [])) [(.t 42)], (some (37, true))⟩, ⟨(some 44), .bin .add (.t 41) (.t 43), (some (37, true))⟩, ⟨(some 45), .eq false .pint (.t 39) (.t 44), (some (37, true))⟩, ⟨(some 46), .pick (.t 37) (.t 45) (.c (.lit (.bool false))), none⟩, ⟨(some 4), .mov (.t 46), none⟩]) (
 .ret)))), false⟩

def L_law01_RunesReads_1 (N : Nat → Nat) : AC :=
    .seq (
     .ops [⟨(some 7), .mov (.t 26), none⟩]) (
    .ops [⟨(some 8), .mov (.t 27), none⟩])
def L_law01_RunesReads_2 (N : Nat → Nat) : AC :=
    .block 1 (
     .seq (
      .seq (
       .ops [⟨(some 28), .load none (.t 6), none⟩, ⟨(some 29), .load none (.t 3), none⟩, ⟨(some 30), .len (.t 29), none⟩, ⟨(some 31), .bin .geq (.t 28) (.t 30), none⟩, ⟨(some 32), .mov (.t 31), none⟩, ⟨(some 33), .mov (.t 7), (some (32, false))⟩, ⟨(some 34), .load none (.t 3), (some (32, false))⟩, ⟨(some 35), .load none (.t 6), (some (32, false))⟩, ⟨(some 36), .iaddr 1 (.t 34) (.t 35), (some (32, false))⟩, ⟨(some 37), .load none (.t 36), (some (32, false))⟩, ⟨(some 38), .eq true .pint (.t 33) (.t 37), (some (32, false))⟩, ⟨(some 39), .pick (.t 32) (.c (.lit (.bool true))) (.t 38), none⟩, ⟨(some 40), .mov (.t 39), none⟩, ⟨(some 41), .mov (.t 8), (some (40, false))⟩, ⟨(some 42), .conv (.toInt .i64) (.t 41), (some (40, false))⟩, ⟨(some 43), .load none (.t 4), (some (40, false))⟩, ⟨(some 44), .load none (.t 6), (some (40, false))⟩, ⟨(some 45), .iaddr 1 (.t 43) (.t 44), (some (40, false))⟩, ⟨(some 46), .load none (.t 45), (some (40, false))⟩, ⟨(some 47), .eq true .pint (.t 42) (.t 46), (some (40, false))⟩, ⟨(some 48), .pick (.t 40) (.c (.lit (.bool true))) (.t 47), none⟩]) (
      .cond (.t 48) (
       .seq (
        .ops [⟨none, .store 1 (.t 2) (.c (.lit (.bool false))), none⟩]) (
       .ret)) (
       .skip))) (
     .ops [⟨(some 49), .load none (.t 6), none⟩, ⟨(some 50), .bin .add (.t 49) (.c (.lit (.int .i64 1))), none⟩, ⟨none, .store 1 (.t 6) (.t 50), none⟩]))
def K_law01_RunesReads_1 (N : Nat → Nat) : AC :=
 .seq (
  .ops [⟨(some 9), .mov (.c (.lit (.int .i64 (-1)))), none⟩]) (
 .seq (
  .seq (
   .ops [⟨(some 51), .mov (.t 5), none⟩, ⟨(some 52), .mov (.t 0), none⟩, ⟨(some 53), .len (.t 52), none⟩, ⟨(some 54), .bin .lss (.t 51) (.t 53), none⟩]) (
  .cond (.t 54) (
   .ops [⟨(some 55), .mov (.t 5), none⟩, ⟨(some 9), .mov (.t 55), none⟩]) (
   .skip))) (
 .seq (
  .dops 14 [⟨(some 56), .load none (.t 6), none⟩, ⟨(some 57), .load none (.t 3), none⟩, ⟨(some 58), .len (.t 57), none⟩, ⟨(some 59), .eq false .pint (.t 56) (.t 58), none⟩, ⟨(some 60), .mov (.t 59), none⟩, ⟨(some 61), .mov (.t 0), (some (60, true))⟩, ⟨(some 62), .call (.c (.fn (f_runes_Count N) [] [])) [(.t 61)], (some (60, true))⟩, ⟨(some 63), .load none (.t 6), (some (60, true))⟩, ⟨(some 64), .eq false .pint (.t 62) (.t 63), (some (60, true))⟩, ⟨(some 65), .pick (.t 60) (.t 64) (.c (.lit (.bool false))), none⟩, ⟨(some 66), .mov (.t 65), none⟩, ⟨(some 67), .mov (.t 0), (some (66, true))⟩, ⟨(some 68), .call (.c (.fn (f_runes_Bad N) [] [])) [(.t 67)], (some (66, true))⟩, ⟨(some 69), .mov (.t 9), (some (66, true))⟩, ⟨(some 70), .eq false .pint (.t 68) (.t 69), (some (66, true))⟩, ⟨(some 71), .pick (.t 66) (.t 70) (.c (.lit (.bool false))), none⟩, ⟨none, .store 1 (.t 2) (.t 71), none⟩] [2, 2, 0, 0, 0, 0, 2, 2, 0, 0, 0, 0, 0, 0, 0, 0, 0] []) (
 .ret)))
/-- azimuth/azimuthlaw01.RunesReads -/
def C_law01_RunesReads (N : Nat → Nat) : AFunc := ⟨72, [.inr (2, none)],
 .seq (
  .ops [⟨(some 2), .new (t_bool N) (.lit (.bool false)), none⟩]) (
 .seq (
  .seq (
   .ops [⟨(some 10), .call (.c (.fn (f_law01_lives N) [] [])) [], none⟩, ⟨(some 11), .un .not (.t 10), none⟩, ⟨(some 12), .mov (.t 11), none⟩, ⟨(some 13), .mov (.t 0), (some (12, false))⟩, ⟨(some 14), .len (.t 13), (some (12, false))⟩, ⟨(some 15), .bin .gtr (.t 14) (.c (.lit (.int .i64 400))), (some (12, false))⟩, ⟨(some 16), .pick (.t 12) (.c (.lit (.bool true))) (.t 15), none⟩]) (
  .cond (.t 16) (
   .seq (
    .ops [⟨(some 17), .call (.c (.fn (f_law01_lives N) [] [])) [], none⟩, ⟨none, .store 1 (.t 2) (.t 17), none⟩]) (
   .ret)) (
   .skip))) (
 .seq (
  .ops [⟨(some 19), .mov (.t 0), none⟩, ⟨(some 20), .call (.c (.fn (f_ref01_Signs N) [] [])) [(.t 19)], none⟩, ⟨(some 18), .mov (.t 20), none⟩, ⟨(some 21), .extract (.t 18) 0, none⟩, ⟨(some 22), .extract (.t 18) 1, none⟩, ⟨(some 23), .extract (.t 18) 2, none⟩, ⟨(some 3), .new (t_sl_int N) (.lit (.slice none 0 0)), none⟩, ⟨(some 4), .new (t_sl_int N) (.lit (.slice none 0 0)), none⟩, ⟨none, .store 1 (.t 3) (.t 21), none⟩, ⟨none, .store 1 (.t 4) (.t 22), none⟩, ⟨(some 5), .mov (.t 23), none⟩]) (
 .seq (
  .ops [⟨(some 6), .new (t_int N) (.lit (.int .i64 0)), none⟩, ⟨none, .store 1 (.t 6) (.c (.lit (.int .i64 0))), none⟩]) (
 .seq (
  .seq (
   .ops [⟨(some 24), .mov (.t 0), none⟩, ⟨(some 25), .call (.c (.fn (f_runes_All N) [] [])) [(.t 24)], none⟩]) (
  .block 0 (
   .rangeFn (.t 25) [26, 27] (L_law01_RunesReads_1 N) (L_law01_RunesReads_2 N)))) (K_law01_RunesReads_1 N))))), false⟩

/-- azimuth/azimuthlaw01.RunesWhere -/
def C_law01_RunesWhere (N : Nat → Nat) : AFunc := ⟨37, [.inl 4],
 .seq (
  .ops [⟨(some 4), .mov (.c (.lit (.bool false))), none⟩]) (
 .seq (
  .seq (
   .ops [⟨(some 9), .call (.c (.fn (f_law01_lives N) [] [])) [], none⟩, ⟨(some 10), .un .not (.t 9), none⟩, ⟨(some 11), .mov (.t 10), none⟩, ⟨(some 12), .mov (.t 0), (some (11, false))⟩, ⟨(some 13), .len (.t 12), (some (11, false))⟩, ⟨(some 14), .bin .gtr (.t 13) (.c (.lit (.int .i64 400))), (some (11, false))⟩, ⟨(some 15), .pick (.t 11) (.c (.lit (.bool true))) (.t 14), none⟩]) (
  .cond (.t 15) (
   .seq (
    .ops [⟨(some 16), .call (.c (.fn (f_law01_lives N) [] [])) [], none⟩, ⟨(some 4), .mov (.t 16), none⟩]) (
   .ret)) (
   .skip))) (
 .seq (
  .ops [⟨(some 18), .mov (.t 0), none⟩, ⟨(some 19), .mov (.t 1), none⟩, ⟨(some 20), .call (.c (.fn (f_runes_Where N) [] [])) [(.t 18), (.t 19)], none⟩, ⟨(some 17), .mov (.t 20), none⟩, ⟨(some 21), .extract (.t 17) 0, none⟩, ⟨(some 22), .extract (.t 17) 1, none⟩, ⟨(some 5), .mov (.t 21), none⟩, ⟨(some 6), .mov (.t 22), none⟩]) (
 .seq (
  .ops [⟨(some 24), .mov (.t 0), none⟩, ⟨(some 25), .mov (.t 1), none⟩, ⟨(some 26), .call (.c (.fn (f_ref01_Where N) [] [])) [(.t 24), (.t 25)], none⟩, ⟨(some 23), .mov (.t 26), none⟩, ⟨(some 27), .extract (.t 23) 0, none⟩, ⟨(some 28), .extract (.t 23) 1, none⟩, ⟨(some 7), .mov (.t 27), none⟩, ⟨(some 8), .mov (.t 28), none⟩]) (
 .seq (
  .ops [⟨(some 29), .mov (.t 5), none⟩, ⟨(some 30), .mov (.t 7), none⟩, ⟨(some 31), .eq false .pint (.t 29) (.t 30), none⟩, ⟨(some 32), .mov (.t 31), none⟩, ⟨(some 33), .mov (.t 6), (some (32, true))⟩, ⟨(some 34), .mov (.t 8), (some (32, true))⟩, ⟨(some 35), .eq false .pint (.t 33) (.t 34), (some (32, true))⟩, ⟨(some 36), .pick (.t 32) (.t 35) (.c (.lit (.bool false))), none⟩, ⟨(some 4), .mov (.t 36), none⟩]) (
 .ret))))), false⟩

/-- azimuth/azimuthlaw01.lives -/
def C_law01_lives (N : Nat → Nat) : AFunc := ⟨21, [.inl 0],
 .seq (
  .ops [⟨(some 0), .mov (.c (.lit (.bool false))), none⟩]) (
 .seq (
  .ops [⟨(some 4), .bslice (t_uint8 N) 1 none 3 [(.lit (.int .u8 0))] [(0, 1, (.c (.lit (.int .u8 97)))), (1, 1, (.c (.lit (.int .u8 10)))), (2, 1, (.c (.lit (.int .u8 98))))], none⟩, ⟨(some 5), .conv .mark (.t 4), none⟩, ⟨(some 6), .call (.c (.fn (f_runes_Where N) [] [])) [(.t 5), (.c (.lit (.int .i64 2)))], none⟩, ⟨(some 3), .mov (.t 6), none⟩, ⟨(some 7), .extract (.t 3) 0, none⟩, ⟨(some 8), .extract (.t 3) 1, none⟩, ⟨(some 1), .mov (.t 7), none⟩, ⟨(some 2), .mov (.t 8), none⟩]) (
 .seq (
  .ops [⟨(some 9), .mov (.t 1), none⟩, ⟨(some 10), .eq false .pint (.t 9) (.c (.lit (.int .i64 2))), none⟩, ⟨(some 11), .mov (.t 10), none⟩, ⟨(some 12), .mov (.t 2), (some (11, true))⟩, ⟨(some 13), .eq false .pint (.t 12) (.c (.lit (.int .i64 1))), (some (11, true))⟩, ⟨(some 14), .pick (.t 11) (.t 13) (.c (.lit (.bool false))), none⟩, ⟨(some 15), .mov (.t 14), none⟩, ⟨(some 16), .bslice (t_uint8 N) 1 none 3 [(.lit (.int .u8 0))] [(0, 1, (.c (.lit (.int .u8 97)))), (1, 1, (.c (.lit (.int .u8 10)))), (2, 1, (.c (.lit (.int .u8 98))))], (some (15, true))⟩, ⟨(some 17), .conv .mark (.t 16), (some (15, true))⟩, ⟨(some 18), .call (.c (.fn (f_runes_Count N) [] [])) [(.t 17)], (some (15, true))⟩, ⟨(some 19), .eq false .pint (.t 18) (.c (.lit (.int .i64 3))), (some (15, true))⟩, ⟨(some 20), .pick (.t 15) (.t 19) (.c (.lit (.bool false))), none⟩, ⟨(some 0), .mov (.t 20), none⟩]) (
 .ret))), false⟩
end Go.Proofs.Eng
