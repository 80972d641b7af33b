/- Templates of functions, as the engine takes them; numbers of functions and types by names. Printed by tm.py. -/
import Derived.Test.YtchbifaiofljdaaM32
set_option linter.unusedVariables false
set_option maxRecDepth 100000
namespace Go.Proofs.Eng
open Go

def L_law01_RunesCuts_1 (N : Nat → Nat) : AC :=
    .ops [⟨(some 6), .mov (.t 34), none⟩]
def L_law01_RunesCuts_2 (N : Nat → Nat) : AC :=
    .block 1 (
     .ops [⟨(some 36), .load none (.t 5), none⟩, ⟨(some 37), .mov (.t 36), none⟩, ⟨(some 38), .mov (.t 6), (some (37, false))⟩, ⟨(some 39), .load none (.t 3), (some (37, false))⟩, ⟨(some 40), .eq false .pint (.t 38) (.t 39), (some (37, false))⟩, ⟨(some 41), .pick (.t 37) (.c (.lit (.bool true))) (.t 40), none⟩, ⟨none, .store 1 (.t 5) (.t 41), none⟩])
def K_law01_RunesCuts_1 (N : Nat → Nat) : AC :=
 .seq (
  .seq (
   .ops [⟨(some 42), .load none (.t 5), none⟩, ⟨(some 43), .un .not (.t 42), none⟩]) (
  .cond (.t 43) (
   .seq (
    .ops [⟨(some 44), .mov (.t 0), none⟩, ⟨(some 45), .load none (.t 3), none⟩, ⟨(some 46), .slice 1 (.t 44) none (some (.t 45)), none⟩, ⟨(some 47), .call (.c (.fn (f_runes_Bad N) [] [])) [(.t 46)], none⟩, ⟨(some 48), .bin .geq (.t 47) (.c (.lit (.int .i64 0))), none⟩, ⟨(some 49), .mov (.t 48), none⟩, ⟨(some 50), .mov (.t 0), (some (49, true))⟩, ⟨(some 51), .load none (.t 3), (some (49, true))⟩, ⟨(some 52), .slice 1 (.t 50) (some (.t 51)) none, (some (49, true))⟩, ⟨(some 53), .call (.c (.fn (f_runes_Bad N) [] [])) [(.t 52)], (some (49, true))⟩, ⟨(some 54), .eq false .pint (.t 53) (.c (.lit (.int .i64 0))), (some (49, true))⟩, ⟨(some 55), .pick (.t 49) (.t 54) (.c (.lit (.bool false))), none⟩, ⟨(some 4), .mov (.t 55), none⟩]) (
   .ret)) (
   .skip))) (
 .seq (
  .ops [⟨(some 56), .mov (.t 0), none⟩, ⟨(some 57), .load none (.t 3), none⟩, ⟨(some 58), .slice 1 (.t 56) none (some (.t 57)), none⟩, ⟨(some 59), .call (.c (.fn (f_runes_Bad N) [] [])) [(.t 58)], none⟩, ⟨(some 60), .eq false .pint (.t 59) (.c (.lit (.int .i64 (-1)))), none⟩, ⟨(some 61), .mov (.t 60), none⟩, ⟨(some 62), .mov (.t 0), (some (61, true))⟩, ⟨(some 63), .load none (.t 3), (some (61, true))⟩, ⟨(some 64), .slice 1 (.t 62) (some (.t 63)) none, (some (61, true))⟩, ⟨(some 65), .call (.c (.fn (f_runes_Bad N) [] [])) [(.t 64)], (some (61, true))⟩, ⟨(some 66), .eq false .pint (.t 65) (.c (.lit (.int .i64 (-1)))), (some (61, true))⟩, ⟨(some 67), .pick (.t 61) (.t 66) (.c (.lit (.bool false))), none⟩, ⟨(some 4), .mov (.t 67), none⟩]) (
 .ret))
/-- azimuth/azimuthlaw01.RunesCuts -/
def C_law01_RunesCuts (N : Nat → Nat) : AFunc := ⟨68, [.inl 4],
 .seq (
  .ops [⟨(some 3), .box (t_int N) (.t 1), none⟩, ⟨(some 4), .mov (.c (.lit (.bool false))), none⟩]) (
 .seq (
  .seq (
   .ops [⟨(some 7), .call (.c (.fn (f_law01_lives N) [] [])) [], none⟩, ⟨(some 8), .un .not (.t 7), none⟩, ⟨(some 9), .mov (.t 8), none⟩, ⟨(some 10), .mov (.t 0), (some (9, false))⟩, ⟨(some 11), .len (.t 10), (some (9, false))⟩, ⟨(some 12), .bin .gtr (.t 11) (.c (.lit (.int .i64 400))), (some (9, false))⟩, ⟨(some 13), .pick (.t 9) (.c (.lit (.bool true))) (.t 12), none⟩, ⟨(some 14), .mov (.t 13), none⟩, ⟨(some 15), .mov (.t 0), (some (14, false))⟩, ⟨(some 16), .call (.c (.fn (f_runes_Bad N) [] [])) [(.t 15)], (some (14, false))⟩, ⟨(some 17), .bin .geq (.t 16) (.c (.lit (.int .i64 0))), (some (14, false))⟩, ⟨(some 18), .pick (.t 14) (.c (.lit (.bool true))) (.t 17), none⟩]) (
  .cond (.t 18) (
   .seq (
    .ops [⟨(some 19), .call (.c (.fn (f_law01_lives N) [] [])) [], none⟩, ⟨(some 4), .mov (.t 19), none⟩]) (
   .ret)) (
   .skip))) (
 .seq (
  .ops [⟨(some 20), .load none (.t 3), none⟩, ⟨(some 21), .conv (.toInt .u64) (.t 20), none⟩, ⟨(some 22), .mov (.t 0), none⟩, ⟨(some 23), .len (.t 22), none⟩, ⟨(some 24), .bin .add (.t 23) (.c (.lit (.int .i64 1))), none⟩, ⟨(some 25), .conv (.toInt .u64) (.t 24), none⟩, ⟨(some 26), .bin .rem (.t 21) (.t 25), none⟩, ⟨(some 27), .conv (.toInt .i64) (.t 26), none⟩, ⟨none, .store 1 (.t 3) (.t 27), none⟩]) (
 .seq (
  .ops [⟨(some 28), .load none (.t 3), none⟩, ⟨(some 29), .mov (.t 0), none⟩, ⟨(some 30), .len (.t 29), none⟩, ⟨(some 31), .eq false .pint (.t 28) (.t 30), none⟩, ⟨(some 5), .new (t_bool N) (.lit (.bool false)), none⟩, ⟨none, .store 1 (.t 5) (.t 31), none⟩]) (
 .seq (
  .seq (
   .ops [⟨(some 32), .mov (.t 0), none⟩, ⟨(some 33), .call (.c (.fn (f_runes_All N) [] [])) [(.t 32)], none⟩]) (
  .block 0 (
   .rangeFn (.t 33) [34, 35] (L_law01_RunesCuts_1 N) (L_law01_RunesCuts_2 N)))) (K_law01_RunesCuts_1 N))))), false⟩

def L_law01_RunesEncodes_1 (N : Nat → Nat) : AC :=
    .seq (
     .ops [⟨(some 8), .mov (.t 34), none⟩]) (
    .ops [⟨(some 9), .mov (.t 35), none⟩])
def L_law01_RunesEncodes_2 (N : Nat → Nat) : AC :=
    .block 1 (
     .seq (
      .seq (
       .ops [⟨(some 36), .mov (.t 8), none⟩, ⟨(some 37), .eq true .pint (.t 36) (.c (.lit (.int .i64 0))), none⟩, ⟨(some 38), .mov (.t 37), none⟩, ⟨(some 39), .mov (.t 9), (some (38, false))⟩, ⟨(some 40), .load none (.t 1), (some (38, false))⟩, ⟨(some 41), .eq true .pint (.t 39) (.t 40), (some (38, false))⟩, ⟨(some 42), .pick (.t 38) (.c (.lit (.bool true))) (.t 41), none⟩]) (
      .cond (.t 42) (
       .seq (
        .ops [⟨none, .store 1 (.t 2) (.c (.lit (.bool false))), none⟩]) (
       .ret)) (
       .skip))) (
     .ops [⟨(some 43), .load none (.t 7), none⟩, ⟨(some 44), .bin .add (.t 43) (.c (.lit (.int .i64 1))), none⟩, ⟨none, .store 1 (.t 7) (.t 44), none⟩]))
def K_law01_RunesEncodes_1 (N : Nat → Nat) : AC :=
 .seq (
  .ops [⟨(some 45), .mov (.t 4), none⟩, ⟨(some 46), .eq false .pint (.t 45) (.c (.lit (.int .i64 0))), none⟩, ⟨(some 47), .mov (.t 46), none⟩, ⟨(some 48), .mov (.t 3), (some (47, true))⟩, ⟨(some 49), .conv .str (.t 48), (some (47, true))⟩, ⟨(some 50), .mov (.t 5), (some (47, true))⟩, ⟨(some 51), .conv .str (.t 50), (some (47, true))⟩, ⟨(some 52), .eq false .pstr (.t 49) (.t 51), (some (47, true))⟩, ⟨(some 53), .pick (.t 47) (.t 52) (.c (.lit (.bool false))), none⟩, ⟨(some 54), .mov (.t 53), none⟩, ⟨(some 55), .load none (.t 7), (some (54, true))⟩, ⟨(some 56), .eq false .pint (.t 55) (.c (.lit (.int .i64 1))), (some (54, true))⟩, ⟨(some 57), .pick (.t 54) (.t 56) (.c (.lit (.bool false))), none⟩, ⟨(some 58), .mov (.t 57), none⟩, ⟨(some 59), .mov (.t 3), (some (58, true))⟩, ⟨(some 60), .call (.c (.fn (f_runes_Bad N) [] [])) [(.t 59)], (some (58, true))⟩, ⟨(some 61), .eq false .pint (.t 60) (.c (.lit (.int .i64 (-1)))), (some (58, true))⟩, ⟨(some 62), .pick (.t 58) (.t 61) (.c (.lit (.bool false))), none⟩, ⟨none, .store 1 (.t 2) (.t 62), none⟩]) (
 .ret)
/-- azimuth/azimuthlaw01.RunesEncodes -/
def C_law01_RunesEncodes (N : Nat → Nat) : AFunc := ⟨63, [.inr (2, none)],
 .seq (
  .ops [⟨(some 1), .box (t_int32 N) (.t 0), none⟩, ⟨(some 2), .new (t_bool N) (.lit (.bool false)), none⟩]) (
 .seq (
  .seq (
   .ops [⟨(some 10), .call (.c (.fn (f_law01_lives N) [] [])) [], none⟩, ⟨(some 11), .un .not (.t 10), none⟩]) (
  .cond (.t 11) (
   .seq (
    .ops [⟨none, .store 1 (.t 2) (.c (.lit (.bool false))), none⟩]) (
   .ret)) (
   .skip))) (
 .seq (
  .ops [⟨(some 13), .load none (.t 1), none⟩, ⟨(some 14), .call (.c (.fn (f_runes_Encode N) [] [])) [(.t 13)], none⟩, ⟨(some 12), .mov (.t 14), none⟩, ⟨(some 15), .extract (.t 12) 0, none⟩, ⟨(some 16), .extract (.t 12) 1, none⟩, ⟨(some 3), .mov (.t 15), none⟩, ⟨(some 4), .mov (.t 16), none⟩]) (
 .seq (
  .ops [⟨(some 18), .load none (.t 1), none⟩, ⟨(some 19), .conv (.toInt .i64) (.t 18), none⟩, ⟨(some 20), .call (.c (.fn (f_ref01_Encode N) [] [])) [(.t 19)], none⟩, ⟨(some 17), .mov (.t 20), none⟩, ⟨(some 21), .extract (.t 17) 0, none⟩, ⟨(some 22), .extract (.t 17) 1, none⟩, ⟨(some 5), .mov (.t 21), none⟩, ⟨(some 6), .mov (.t 22), none⟩]) (
 .seq (
  .seq (
   .ops [⟨(some 23), .mov (.t 6), none⟩, ⟨(some 24), .un .not (.t 23), none⟩]) (
  .cond (.t 24) (
   .seq (
    .ops [⟨(some 25), .mov (.t 4), none⟩, ⟨(some 26), .eq false .pint (.t 25) (.c (.lit (.int .i64 2))), none⟩, ⟨(some 27), .mov (.t 26), none⟩, ⟨(some 28), .mov (.t 3), (some (27, true))⟩, ⟨(some 29), .len (.t 28), (some (27, true))⟩, ⟨(some 30), .eq false .pint (.t 29) (.c (.lit (.int .i64 0))), (some (27, true))⟩, ⟨(some 31), .pick (.t 27) (.t 30) (.c (.lit (.bool false))), none⟩, ⟨none, .store 1 (.t 2) (.t 31), none⟩]) (
   .ret)) (
   .skip))) (
 .seq (
  .ops [⟨(some 7), .new (t_int N) (.lit (.int .i64 0)), none⟩, ⟨none, .store 1 (.t 7) (.c (.lit (.int .i64 0))), none⟩]) (
 .seq (
  .seq (
   .ops [⟨(some 32), .mov (.t 3), none⟩, ⟨(some 33), .call (.c (.fn (f_runes_All N) [] [])) [(.t 32)], none⟩]) (
  .block 0 (
   .rangeFn (.t 33) [34, 35] (L_law01_RunesEncodes_1 N) (L_law01_RunesEncodes_2 N)))) (K_law01_RunesEncodes_1 N))))))), false⟩

/-- azimuth/azimuthlaw01.RunesJoin -/
def C_law01_RunesJoin (N : Nat → Nat) : AFunc := ⟨47, [.inl 4],
 .seq (
  .ops [⟨(some 4), .mov (.c (.lit (.bool false))), none⟩]) (
 .seq (
  .seq (
   .ops [⟨(some 6), .call (.c (.fn (f_law01_lives N) [] [])) [], none⟩, ⟨(some 7), .un .not (.t 6), none⟩, ⟨(some 8), .mov (.t 7), none⟩, ⟨(some 9), .mov (.t 0), (some (8, false))⟩, ⟨(some 10), .len (.t 9), (some (8, false))⟩, ⟨(some 11), .bin .gtr (.t 10) (.c (.lit (.int .i64 400))), (some (8, false))⟩, ⟨(some 12), .pick (.t 8) (.c (.lit (.bool true))) (.t 11), none⟩, ⟨(some 13), .mov (.t 12), none⟩, ⟨(some 14), .mov (.t 1), (some (13, false))⟩, ⟨(some 15), .len (.t 14), (some (13, false))⟩, ⟨(some 16), .bin .gtr (.t 15) (.c (.lit (.int .i64 400))), (some (13, false))⟩, ⟨(some 17), .pick (.t 13) (.c (.lit (.bool true))) (.t 16), none⟩, ⟨(some 18), .mov (.t 17), none⟩, ⟨(some 19), .mov (.t 0), (some (18, false))⟩, ⟨(some 20), .call (.c (.fn (f_runes_Bad N) [] [])) [(.t 19)], (some (18, false))⟩, ⟨(some 21), .bin .geq (.t 20) (.c (.lit (.int .i64 0))), (some (18, false))⟩, ⟨(some 22), .pick (.t 18) (.c (.lit (.bool true))) (.t 21), none⟩, ⟨(some 23), .mov (.t 22), none⟩, ⟨(some 24), .mov (.t 1), (some (23, false))⟩, ⟨(some 25), .call (.c (.fn (f_runes_Bad N) [] [])) [(.t 24)], (some (23, false))⟩, ⟨(some 26), .bin .geq (.t 25) (.c (.lit (.int .i64 0))), (some (23, false))⟩, ⟨(some 27), .pick (.t 23) (.c (.lit (.bool true))) (.t 26), none⟩]) (
  .cond (.t 27) (
   .seq (
    .ops [⟨(some 28), .call (.c (.fn (f_law01_lives N) [] [])) [], none⟩, ⟨(some 4), .mov (.t 28), none⟩]) (
   .ret)) (
   .skip))) (
 .seq (
  .ops [⟨(some 29), .bslice (t_uint8 N) 1 none 0 [(.lit (.int .u8 0))] [], none⟩, ⟨(some 30), .mov (.t 0), none⟩, ⟨(some 31), .append (t_uint8 N) 1 1 (.t 29) (.t 30), none⟩, ⟨(some 32), .mov (.t 1), none⟩, ⟨(some 33), .append (t_uint8 N) 1 1 (.t 31) (.t 32), none⟩, ⟨(some 5), .mov (.t 33), none⟩]) (
 .seq (
  .ops [⟨(some 34), .mov (.t 5), none⟩, ⟨(some 35), .call (.c (.fn (f_runes_Bad N) [] [])) [(.t 34)], none⟩, ⟨(some 36), .eq false .pint (.t 35) (.c (.lit (.int .i64 (-1)))), none⟩, ⟨(some 37), .mov (.t 36), none⟩, ⟨(some 38), .mov (.t 5), (some (37, true))⟩, ⟨(some 39), .call (.c (.fn (f_runes_Count N) [] [])) [(.t 38)], (some (37, true))⟩, ⟨(some 40), .mov (.t 0), (some (37, true))⟩, ⟨(some 41), .call (.c (.fn (f_runes_Count N) [] [])) [(.t 40)], (some (37, true))⟩, ⟨(some 42), .mov (.t 1), (some (37, true))⟩, ⟨(some 43), .call (.c (.fn (f_runes_Count N) [] [])) [(.t 42)], (some (37, true))⟩, ⟨(some 44), .bin .add (.t 41) (.t 43), (some (37, true))⟩, ⟨(some 45), .eq false .pint (.t 39) (.t 44), (some (37, true))⟩, ⟨(some 46), .pick (.t 37) (.t 45) (.c (.lit (.bool false))), none⟩, ⟨(some 4), .mov (.t 46), none⟩]) (
 .ret)))), false⟩

def L_law01_RunesReads_1 (N : Nat → Nat) : AC :=
    .seq (
     .ops [⟨(some 7), .mov (.t 26), none⟩]) (
    .ops [⟨(some 8), .mov (.t 27), none⟩])
def L_law01_RunesReads_2 (N : Nat → Nat) : AC :=
    .block 1 (
     .seq (
      .seq (
       .ops [⟨(some 28), .load none (.t 6), none⟩, ⟨(some 29), .load none (.t 3), none⟩, ⟨(some 30), .len (.t 29), none⟩, ⟨(some 31), .bin .geq (.t 28) (.t 30), none⟩, ⟨(some 32), .mov (.t 31), none⟩, ⟨(some 33), .mov (.t 7), (some (32, false))⟩, ⟨(some 34), .load none (.t 3), (some (32, false))⟩, ⟨(some 35), .load none (.t 6), (some (32, false))⟩, ⟨(some 36), .iaddr 1 (.t 34) (.t 35), (some (32, false))⟩, ⟨(some 37), .load none (.t 36), (some (32, false))⟩, ⟨(some 38), .eq true .pint (.t 33) (.t 37), (some (32, false))⟩, ⟨(some 39), .pick (.t 32) (.c (.lit (.bool true))) (.t 38), none⟩, ⟨(some 40), .mov (.t 39), none⟩, ⟨(some 41), .mov (.t 8), (some (40, false))⟩, ⟨(some 42), .conv (.toInt .i64) (.t 41), (some (40, false))⟩, ⟨(some 43), .load none (.t 4), (some (40, false))⟩, ⟨(some 44), .load none (.t 6), (some (40, false))⟩, ⟨(some 45), .iaddr 1 (.t 43) (.t 44), (some (40, false))⟩, ⟨(some 46), .load none (.t 45), (some (40, false))⟩, ⟨(some 47), .eq true .pint (.t 42) (.t 46), (some (40, false))⟩, ⟨(some 48), .pick (.t 40) (.c (.lit (.bool true))) (.t 47), none⟩]) (
      .cond (.t 48) (
       .seq (
        .ops [⟨none, .store 1 (.t 2) (.c (.lit (.bool false))), none⟩]) (
       .ret)) (
       .skip))) (
     .ops [⟨(some 49), .load none (.t 6), none⟩, ⟨(some 50), .bin .add (.t 49) (.c (.lit (.int .i64 1))), none⟩, ⟨none, .store 1 (.t 6) (.t 50), none⟩]))
def K_law01_RunesReads_1 (N : Nat → Nat) : AC :=
 .seq (
  .ops [⟨(some 9), .mov (.c (.lit (.int .i64 (-1)))), none⟩]) (
 .seq (
  .seq (
   .ops [⟨(some 51), .mov (.t 5), none⟩, ⟨(some 52), .mov (.t 0), none⟩, ⟨(some 53), .len (.t 52), none⟩, ⟨(some 54), .bin .lss (.t 51) (.t 53), none⟩]) (
  .cond (.t 54) (
   .ops [⟨(some 55), .mov (.t 5), none⟩, ⟨(some 9), .mov (.t 55), none⟩]) (
   .skip))) (
 .seq (
  .dops 14 [⟨(some 56), .load none (.t 6), none⟩, ⟨(some 57), .load none (.t 3), none⟩, ⟨(some 58), .len (.t 57), none⟩, ⟨(some 59), .eq false .pint (.t 56) (.t 58), none⟩, ⟨(some 60), .mov (.t 59), none⟩, ⟨(some 61), .mov (.t 0), (some (60, true))⟩, ⟨(some 62), .call (.c (.fn (f_runes_Count N) [] [])) [(.t 61)], (some (60, true))⟩, ⟨(some 63), .load none (.t 6), (some (60, true))⟩, ⟨(some 64), .eq false .pint (.t 62) (.t 63), (some (60, true))⟩, ⟨(some 65), .pick (.t 60) (.t 64) (.c (.lit (.bool false))), none⟩, ⟨(some 66), .mov (.t 65), none⟩, ⟨(some 67), .mov (.t 0), (some (66, true))⟩, ⟨(some 68), .call (.c (.fn (f_runes_Bad N) [] [])) [(.t 67)], (some (66, true))⟩, ⟨(some 69), .mov (.t 9), (some (66, true))⟩, ⟨(some 70), .eq false .pint (.t 68) (.t 69), (some (66, true))⟩, ⟨(some 71), .pick (.t 66) (.t 70) (.c (.lit (.bool false))), none⟩, ⟨none, .store 1 (.t 2) (.t 71), none⟩] [2, 2, 0, 0, 0, 0, 2, 2, 0, 0, 0, 0, 0, 0, 0, 0, 0] []) (
 .ret)))
/-- azimuth/azimuthlaw01.RunesReads -/
def C_law01_RunesReads (N : Nat → Nat) : AFunc := ⟨72, [.inr (2, none)],
 .seq (
  .ops [⟨(some 2), .new (t_bool N) (.lit (.bool false)), none⟩]) (
 .seq (
  .seq (
   .ops [⟨(some 10), .call (.c (.fn (f_law01_lives N) [] [])) [], none⟩, ⟨(some 11), .un .not (.t 10), none⟩, ⟨(some 12), .mov (.t 11), none⟩, ⟨(some 13), .mov (.t 0), (some (12, false))⟩, ⟨(some 14), .len (.t 13), (some (12, false))⟩, ⟨(some 15), .bin .gtr (.t 14) (.c (.lit (.int .i64 400))), (some (12, false))⟩, ⟨(some 16), .pick (.t 12) (.c (.lit (.bool true))) (.t 15), none⟩]) (
  .cond (.t 16) (
   .seq (
    .ops [⟨(some 17), .call (.c (.fn (f_law01_lives N) [] [])) [], none⟩, ⟨none, .store 1 (.t 2) (.t 17), none⟩]) (
   .ret)) (
   .skip))) (
 .seq (
  .ops [⟨(some 19), .mov (.t 0), none⟩, ⟨(some 20), .call (.c (.fn (f_ref01_Signs N) [] [])) [(.t 19)], none⟩, ⟨(some 18), .mov (.t 20), none⟩, ⟨(some 21), .extract (.t 18) 0, none⟩, ⟨(some 22), .extract (.t 18) 1, none⟩, ⟨(some 23), .extract (.t 18) 2, none⟩, ⟨(some 3), .new (t_sl_int N) (.lit (.slice none 0 0)), none⟩, ⟨(some 4), .new (t_sl_int N) (.lit (.slice none 0 0)), none⟩, ⟨none, .store 1 (.t 3) (.t 21), none⟩, ⟨none, .store 1 (.t 4) (.t 22), none⟩, ⟨(some 5), .mov (.t 23), none⟩]) (
 .seq (
  .ops [⟨(some 6), .new (t_int N) (.lit (.int .i64 0)), none⟩, ⟨none, .store 1 (.t 6) (.c (.lit (.int .i64 0))), none⟩]) (
 .seq (
  .seq (
   .ops [⟨(some 24), .mov (.t 0), none⟩, ⟨(some 25), .call (.c (.fn (f_runes_All N) [] [])) [(.t 24)], none⟩]) (
  .block 0 (
   .rangeFn (.t 25) [26, 27] (L_law01_RunesReads_1 N) (L_law01_RunesReads_2 N)))) (K_law01_RunesReads_1 N))))), false⟩

/-- azimuth/azimuthlaw01.RunesWhere -/
def C_law01_RunesWhere (N : Nat → Nat) : AFunc := ⟨37, [.inl 4],
 .seq (
  .ops [⟨(some 4), .mov (.c (.lit (.bool false))), none⟩]) (
 .seq (
  .seq (
   .ops [⟨(some 9), .call (.c (.fn (f_law01_lives N) [] [])) [], none⟩, ⟨(some 10), .un .not (.t 9), none⟩, ⟨(some 11), .mov (.t 10), none⟩, ⟨(some 12), .mov (.t 0), (some (11, false))⟩, ⟨(some 13), .len (.t 12), (some (11, false))⟩, ⟨(some 14), .bin .gtr (.t 13) (.c (.lit (.int .i64 400))), (some (11, false))⟩, ⟨(some 15), .pick (.t 11) (.c (.lit (.bool true))) (.t 14), none⟩]) (
  .cond (.t 15) (
   .seq (
    .ops [⟨(some 16), .call (.c (.fn (f_law01_lives N) [] [])) [], none⟩, ⟨(some 4), .mov (.t 16), none⟩]) (
   .ret)) (
   .skip))) (
 .seq (
  .ops [⟨(some 18), .mov (.t 0), none⟩, ⟨(some 19), .mov (.t 1), none⟩, ⟨(some 20), .call (.c (.fn (f_runes_Where N) [] [])) [(.t 18), (.t 19)], none⟩, ⟨(some 17), .mov (.t 20), none⟩, ⟨(some 21), .extract (.t 17) 0, none⟩, ⟨(some 22), .extract (.t 17) 1, none⟩, ⟨(some 5), .mov (.t 21), none⟩, ⟨(some 6), .mov (.t 22), none⟩]) (
 .seq (
  .ops [⟨(some 24), .mov (.t 0), none⟩, ⟨(some 25), .mov (.t 1), none⟩, ⟨(some 26), .call (.c (.fn (f_ref01_Where N) [] [])) [(.t 24), (.t 25)], none⟩, ⟨(some 23), .mov (.t 26), none⟩, ⟨(some 27), .extract (.t 23) 0, none⟩, ⟨(some 28), .extract (.t 23) 1, none⟩, ⟨(some 7), .mov (.t 27), none⟩, ⟨(some 8), .mov (.t 28), none⟩]) (
 .seq (
  .ops [⟨(some 29), .mov (.t 5), none⟩, ⟨(some 30), .mov (.t 7), none⟩, ⟨(some 31), .eq false .pint (.t 29) (.t 30), none⟩, ⟨(some 32), .mov (.t 31), none⟩, ⟨(some 33), .mov (.t 6), (some (32, true))⟩, ⟨(some 34), .mov (.t 8), (some (32, true))⟩, ⟨(some 35), .eq false .pint (.t 33) (.t 34), (some (32, true))⟩, ⟨(some 36), .pick (.t 32) (.t 35) (.c (.lit (.bool false))), none⟩, ⟨(some 4), .mov (.t 36), none⟩]) (
 .ret))))), false⟩

/-- azimuth/azimuthlaw01.lives -/
def C_law01_lives (N : Nat → Nat) : AFunc := ⟨21, [.inl 0],
 .seq (
  .ops [⟨(some 0), .mov (.c (.lit (.bool false))), none⟩]) (
 .seq (
  .ops [⟨(some 4), .bslice (t_uint8 N) 1 none 3 [(.lit (.int .u8 0))] [(0, 1, (.c (.lit (.int .u8 97)))), (1, 1, (.c (.lit (.int .u8 10)))), (2, 1, (.c (.lit (.int .u8 98))))], none⟩, ⟨(some 5), .conv .mark (.t 4), none⟩, ⟨(some 6), .call (.c (.fn (f_runes_Where N) [] [])) [(.t 5), (.c (.lit (.int .i64 2)))], none⟩, ⟨(some 3), .mov (.t 6), none⟩, ⟨(some 7), .extract (.t 3) 0, none⟩, ⟨(some 8), .extract (.t 3) 1, none⟩, ⟨(some 1), .mov (.t 7), none⟩, ⟨(some 2), .mov (.t 8), none⟩]) (
 .seq (
  .ops [⟨(some 9), .mov (.t 1), none⟩, ⟨(some 10), .eq false .pint (.t 9) (.c (.lit (.int .i64 2))), none⟩, ⟨(some 11), .mov (.t 10), none⟩, ⟨(some 12), .mov (.t 2), (some (11, true))⟩, ⟨(some 13), .eq false .pint (.t 12) (.c (.lit (.int .i64 1))), (some (11, true))⟩, ⟨(some 14), .pick (.t 11) (.t 13) (.c (.lit (.bool false))), none⟩, ⟨(some 15), .mov (.t 14), none⟩, ⟨(some 16), .bslice (t_uint8 N) 1 none 3 [(.lit (.int .u8 0))] [(0, 1, (.c (.lit (.int .u8 97)))), (1, 1, (.c (.lit (.int .u8 10)))), (2, 1, (.c (.lit (.int .u8 98))))], (some (15, true))⟩, ⟨(some 17), .conv .mark (.t 16), (some (15, true))⟩, ⟨(some 18), .call (.c (.fn (f_runes_Count N) [] [])) [(.t 17)], (some (15, true))⟩, ⟨(some 19), .eq false .pint (.t 18) (.c (.lit (.int .i64 3))), (some (15, true))⟩, ⟨(some 20), .pick (.t 15) (.t 19) (.c (.lit (.bool false))), none⟩, ⟨(some 0), .mov (.t 20), none⟩]) (
 .ret))), false⟩
end Go.Proofs.Eng
