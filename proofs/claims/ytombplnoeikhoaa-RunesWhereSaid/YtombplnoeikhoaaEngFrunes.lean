/- Templates of functions, as the engine takes them; numbers of functions and types by names. Printed by tm.py. -/
import Derived.Test.YtombplnoeikhoaaEngNm
set_option linter.unusedVariables false
set_option maxRecDepth 100000
namespace Go.Proofs.Eng
open Go

/-- azimuth/azimuthref01.Encode -/
def C_ref01_Encode (N : Nat → Nat) : AFunc := ⟨69, [.inl 2, .inl 3],
 .seq (
  .ops [⟨(some 2), .mov (.c (.lit (.slice none 0 0))), none⟩, ⟨(some 3), .mov (.c (.lit (.bool false))), none⟩]) (
 .seq (
  .seq (
   .ops [⟨(some 4), .mov (.t 0), none⟩, ⟨(some 5), .bin .lss (.t 4) (.c (.lit (.int .i64 0))), none⟩, ⟨(some 6), .mov (.t 5), none⟩, ⟨(some 7), .mov (.t 0), (some (6, false))⟩, ⟨(some 8), .bin .gtr (.t 7) (.c (.lit (.int .i64 1114111))), (some (6, false))⟩, ⟨(some 9), .pick (.t 6) (.c (.lit (.bool true))) (.t 8), none⟩, ⟨(some 10), .mov (.t 9), none⟩, ⟨(some 11), .mov (.t 0), (some (10, false))⟩, ⟨(some 12), .bin .geq (.t 11) (.c (.lit (.int .i64 55296))), (some (10, false))⟩, ⟨(some 13), .mov (.t 12), (some (10, false))⟩, ⟨(some 14), .mov (.t 0), (some (13, true))⟩, ⟨(some 15), .bin .leq (.t 14) (.c (.lit (.int .i64 57343))), (some (13, true))⟩, ⟨(some 16), .pick (.t 13) (.t 15) (.c (.lit (.bool false))), (some (10, false))⟩, ⟨(some 17), .pick (.t 10) (.c (.lit (.bool true))) (.t 16), none⟩]) (
  .cond (.t 17) (
   .seq (
    .ops [⟨(some 2), .mov (.c (.lit (.slice none 0 0))), none⟩, ⟨(some 3), .mov (.c (.lit (.bool false))), none⟩]) (
   .ret)) (
   .skip))) (
 .seq (
  .seq (
   .ops [⟨(some 18), .mov (.t 0), none⟩, ⟨(some 19), .bin .lss (.t 18) (.c (.lit (.int .i64 128))), none⟩]) (
  .cond (.t 19) (
   .seq (
    .ops [⟨(some 20), .mov (.t 0), none⟩, ⟨(some 21), .conv (.toInt .u8) (.t 20), none⟩, ⟨(some 22), .bslice (t_uint8 N) 1 none 1 [(.lit (.int .u8 0))] [(0, 1, (.t 21))], none⟩, ⟨(some 2), .mov (.t 22), none⟩, ⟨(some 3), .mov (.c (.lit (.bool true))), none⟩]) (
   .ret)) (
   .skip))) (
 .seq (
  .seq (
   .ops [⟨(some 23), .mov (.t 0), none⟩, ⟨(some 24), .bin .lss (.t 23) (.c (.lit (.int .i64 2048))), none⟩]) (
  .cond (.t 24) (
   .seq (
    .ops [⟨(some 25), .mov (.t 0), none⟩, ⟨(some 26), .bin .quo (.t 25) (.c (.lit (.int .i64 64))), none⟩, ⟨(some 27), .bin .add (.c (.lit (.int .i64 192))) (.t 26), none⟩, ⟨(some 28), .conv (.toInt .u8) (.t 27), none⟩, ⟨(some 29), .mov (.t 0), none⟩, ⟨(some 30), .bin .rem (.t 29) (.c (.lit (.int .i64 64))), none⟩, ⟨(some 31), .bin .add (.c (.lit (.int .i64 128))) (.t 30), none⟩, ⟨(some 32), .conv (.toInt .u8) (.t 31), none⟩, ⟨(some 33), .bslice (t_uint8 N) 1 none 2 [(.lit (.int .u8 0))] [(0, 1, (.t 28)), (1, 1, (.t 32))], none⟩, ⟨(some 2), .mov (.t 33), none⟩, ⟨(some 3), .mov (.c (.lit (.bool true))), none⟩]) (
   .ret)) (
   .skip))) (
 .seq (
  .seq (
   .ops [⟨(some 34), .mov (.t 0), none⟩, ⟨(some 35), .bin .lss (.t 34) (.c (.lit (.int .i64 65536))), none⟩]) (
  .cond (.t 35) (
   .seq (
    .ops [⟨(some 36), .mov (.t 0), none⟩, ⟨(some 37), .bin .quo (.t 36) (.c (.lit (.int .i64 4096))), none⟩, ⟨(some 38), .bin .add (.c (.lit (.int .i64 224))) (.t 37), none⟩, ⟨(some 39), .conv (.toInt .u8) (.t 38), none⟩, ⟨(some 40), .mov (.t 0), none⟩, ⟨(some 41), .bin .quo (.t 40) (.c (.lit (.int .i64 64))), none⟩, ⟨(some 42), .bin .rem (.t 41) (.c (.lit (.int .i64 64))), none⟩, ⟨(some 43), .bin .add (.c (.lit (.int .i64 128))) (.t 42), none⟩, ⟨(some 44), .conv (.toInt .u8) (.t 43), none⟩, ⟨(some 45), .mov (.t 0), none⟩, ⟨(some 46), .bin .rem (.t 45) (.c (.lit (.int .i64 64))), none⟩, ⟨(some 47), .bin .add (.c (.lit (.int .i64 128))) (.t 46), none⟩, ⟨(some 48), .conv (.toInt .u8) (.t 47), none⟩, ⟨(some 49), .bslice (t_uint8 N) 1 none 3 [(.lit (.int .u8 0))] [(0, 1, (.t 39)), (1, 1, (.t 44)), (2, 1, (.t 48))], none⟩, ⟨(some 2), .mov (.t 49), none⟩, ⟨(some 3), .mov (.c (.lit (.bool true))), none⟩]) (
   .ret)) (
   .skip))) (
 .seq (
  .ops [⟨(some 50), .mov (.t 0), none⟩, ⟨(some 51), .bin .quo (.t 50) (.c (.lit (.int .i64 262144))), none⟩, ⟨(some 52), .bin .add (.c (.lit (.int .i64 240))) (.t 51), none⟩, ⟨(some 53), .conv (.toInt .u8) (.t 52), none⟩, ⟨(some 54), .mov (.t 0), none⟩, ⟨(some 55), .bin .quo (.t 54) (.c (.lit (.int .i64 4096))), none⟩, ⟨(some 56), .bin .rem (.t 55) (.c (.lit (.int .i64 64))), none⟩, ⟨(some 57), .bin .add (.c (.lit (.int .i64 128))) (.t 56), none⟩, ⟨(some 58), .conv (.toInt .u8) (.t 57), none⟩, ⟨(some 59), .mov (.t 0), none⟩, ⟨(some 60), .bin .quo (.t 59) (.c (.lit (.int .i64 64))), none⟩, ⟨(some 61), .bin .rem (.t 60) (.c (.lit (.int .i64 64))), none⟩, ⟨(some 62), .bin .add (.c (.lit (.int .i64 128))) (.t 61), none⟩, ⟨(some 63), .conv (.toInt .u8) (.t 62), none⟩, ⟨(some 64), .mov (.t 0), none⟩, ⟨(some 65), .bin .rem (.t 64) (.c (.lit (.int .i64 64))), none⟩, ⟨(some 66), .bin .add (.c (.lit (.int .i64 128))) (.t 65), none⟩, ⟨(some 67), .conv (.toInt .u8) (.t 66), none⟩, ⟨(some 68), .bslice (t_uint8 N) 1 none 4 [(.lit (.int .u8 0))] [(0, 1, (.t 53)), (1, 1, (.t 58)), (2, 1, (.t 63)), (3, 1, (.t 67))], none⟩, ⟨(some 2), .mov (.t 68), none⟩, ⟨(some 3), .mov (.c (.lit (.bool true))), none⟩]) (
 .ret)))))), true⟩

def L_ref01_First_1 (N : Nat → Nat) : AC :=
    .seq (
     .seq (
      .ops [⟨(some 8), .mov (.t 4), none⟩, ⟨(some 9), .bin .leq (.t 8) (.c (.lit (.int .i64 4))), none⟩, ⟨(some 10), .mov (.t 9), none⟩, ⟨(some 11), .mov (.t 4), (some (10, true))⟩, ⟨(some 12), .mov (.t 0), (some (10, true))⟩, ⟨(some 13), .len (.t 12), (some (10, true))⟩, ⟨(some 14), .bin .leq (.t 11) (.t 13), (some (10, true))⟩, ⟨(some 15), .pick (.t 10) (.t 14) (.c (.lit (.bool false))), none⟩]) (
     .cond (.t 15) (
      .skip) (
      .exit 0))) (
    .seq (
     .block 1 (
      .seq (
       .ops [⟨(some 18), .mov (.t 0), none⟩, ⟨(some 19), .mov (.t 4), none⟩, ⟨(some 20), .slice 1 (.t 18) none (some (.t 19)), none⟩, ⟨(some 21), .call (.c (.fn (f_ref01_value N) [] [])) [(.t 20)], none⟩, ⟨(some 5), .mov (.t 21), none⟩]) (
      .seq (
       .ops [⟨(some 23), .mov (.t 5), none⟩, ⟨(some 24), .call (.c (.fn (f_ref01_Encode N) [] [])) [(.t 23)], none⟩, ⟨(some 22), .mov (.t 24), none⟩, ⟨(some 25), .extract (.t 22) 0, none⟩, ⟨(some 26), .extract (.t 22) 1, none⟩, ⟨(some 6), .mov (.t 25), none⟩, ⟨(some 7), .mov (.t 26), none⟩]) (
      .seq (
       .dops 6 [⟨(some 27), .mov (.t 7), none⟩, ⟨(some 28), .mov (.t 27), none⟩, ⟨(some 29), .mov (.t 6), (some (28, true))⟩, ⟨(some 30), .conv .str (.t 29), (some (28, true))⟩, ⟨(some 31), .mov (.t 0), (some (28, true))⟩, ⟨(some 32), .mov (.t 4), (some (28, true))⟩, ⟨(some 33), .slice 1 (.t 31) none (some (.t 32)), (some (28, true))⟩, ⟨(some 34), .conv .str (.t 33), (some (28, true))⟩, ⟨(some 35), .eq false .pstr (.t 30) (.t 34), (some (28, true))⟩, ⟨(some 36), .pick (.t 28) (.t 35) (.c (.lit (.bool false))), none⟩] [0, 0, 0, 2, 0, 0, 0, 2, 0, 0] []) (
      .cond (.t 36) (
       .seq (
        .ops [⟨(some 37), .mov (.t 5), none⟩, ⟨(some 38), .mov (.t 4), none⟩, ⟨(some 2), .mov (.t 37), none⟩, ⟨(some 3), .mov (.t 38), none⟩]) (
       .ret)) (
       .skip)))))) (
    .ops [⟨(some 16), .mov (.t 4), none⟩, ⟨(some 17), .bin .add (.t 16) (.c (.lit (.int .i64 1))), none⟩, ⟨(some 4), .mov (.t 17), none⟩]))
def K_ref01_First_1 (N : Nat → Nat) : AC :=
 .seq (
  .ops [⟨(some 2), .mov (.c (.lit (.int .i64 0))), none⟩, ⟨(some 3), .mov (.c (.lit (.int .i64 0))), none⟩]) (
 .ret)
/-- azimuth/azimuthref01.First -/
def C_ref01_First (N : Nat → Nat) : AFunc := ⟨39, [.inl 2, .inl 3],
 .seq (
  .ops [⟨(some 2), .mov (.c (.lit (.int .i64 0))), none⟩, ⟨(some 3), .mov (.c (.lit (.int .i64 0))), none⟩]) (
 .seq (
  .seq (
   .ops [⟨(some 4), .mov (.c (.lit (.int .i64 1))), none⟩]) (
  .block 0 (
   .loop (L_ref01_First_1 N)))) (K_ref01_First_1 N)), false⟩

def L_ref01_Signs_1 (N : Nat → Nat) : AC :=
    .seq (
     .seq (
      .ops [⟨(some 12), .mov (.t 7), none⟩, ⟨(some 13), .mov (.t 0), none⟩, ⟨(some 14), .len (.t 13), none⟩, ⟨(some 15), .bin .lss (.t 12) (.t 14), none⟩]) (
     .cond (.t 15) (
      .skip) (
      .exit 0))) (
    .block 1 (
     .seq (
      .ops [⟨(some 17), .mov (.t 0), none⟩, ⟨(some 18), .mov (.t 7), none⟩, ⟨(some 19), .slice 1 (.t 17) (some (.t 18)) none, none⟩, ⟨(some 20), .call (.c (.fn (f_ref01_First N) [] [])) [(.t 19)], none⟩, ⟨(some 16), .mov (.t 20), none⟩, ⟨(some 21), .extract (.t 16) 0, none⟩, ⟨(some 22), .extract (.t 16) 1, none⟩, ⟨(some 8), .mov (.t 21), none⟩, ⟨(some 9), .mov (.t 22), none⟩]) (
     .seq (
      .seq (
       .ops [⟨(some 23), .mov (.t 9), none⟩, ⟨(some 24), .eq false .pint (.t 23) (.c (.lit (.int .i64 0))), none⟩]) (
      .cond (.t 24) (
       .exit 0) (
       .skip))) (
     .seq (
      .ops [⟨(some 25), .mov (.t 5), none⟩, ⟨(some 26), .mov (.t 7), none⟩, ⟨(some 27), .bslice (t_int N) 1 none 1 [(.lit (.int .i64 0))] [(0, 1, (.t 26))], none⟩, ⟨(some 28), .append (t_int N) 1 8 (.t 25) (.t 27), none⟩, ⟨(some 5), .mov (.t 28), none⟩]) (
     .seq (
      .ops [⟨(some 29), .mov (.t 6), none⟩, ⟨(some 30), .mov (.t 8), none⟩, ⟨(some 31), .bslice (t_int N) 1 none 1 [(.lit (.int .i64 0))] [(0, 1, (.t 30))], none⟩, ⟨(some 32), .append (t_int N) 1 8 (.t 29) (.t 31), none⟩, ⟨(some 6), .mov (.t 32), none⟩]) (
     .ops [⟨(some 33), .mov (.t 7), none⟩, ⟨(some 34), .mov (.t 9), none⟩, ⟨(some 35), .bin .add (.t 33) (.t 34), none⟩, ⟨(some 7), .mov (.t 35), none⟩]))))))
def K_ref01_Signs_1 (N : Nat → Nat) : AC :=
 .seq (
  .ops [⟨(some 36), .mov (.t 5), none⟩, ⟨(some 37), .mov (.t 6), none⟩, ⟨(some 38), .mov (.t 7), none⟩, ⟨(some 2), .mov (.t 36), none⟩, ⟨(some 3), .mov (.t 37), none⟩, ⟨(some 4), .mov (.t 38), none⟩]) (
 .ret)
/-- azimuth/azimuthref01.Signs -/
def C_ref01_Signs (N : Nat → Nat) : AFunc := ⟨39, [.inl 2, .inl 3, .inl 4],
 .seq (
  .ops [⟨(some 2), .mov (.c (.lit (.slice none 0 0))), none⟩, ⟨(some 3), .mov (.c (.lit (.slice none 0 0))), none⟩, ⟨(some 4), .mov (.c (.lit (.int .i64 0))), none⟩]) (
 .seq (
  .ops [⟨(some 10), .bslice (t_int N) 1 none 0 [(.lit (.int .i64 0))] [], none⟩, ⟨(some 11), .bslice (t_int N) 1 none 0 [(.lit (.int .i64 0))] [], none⟩, ⟨(some 5), .mov (.t 10), none⟩, ⟨(some 6), .mov (.t 11), none⟩]) (
 .seq (
  .ops [⟨(some 7), .mov (.c (.lit (.int .i64 0))), none⟩]) (
 .seq (
  .block 0 (
   .loop (L_ref01_Signs_1 N))) (K_ref01_Signs_1 N)))), false⟩

def L_ref01_Where_1 (N : Nat → Nat) : AC :=
    .seq (
     .seq (
      .ops [⟨(some 21), .mov (.t 9), none⟩, ⟨(some 22), .mov (.t 0), none⟩, ⟨(some 23), .len (.t 22), none⟩, ⟨(some 24), .bin .lss (.t 21) (.t 23), none⟩]) (
     .cond (.t 24) (
      .skip) (
      .exit 0))) (
    .seq (
     .block 1 (
      .ops [⟨(some 27), .mov (.t 6), none⟩, ⟨(some 28), .mov (.t 9), none⟩, ⟨(some 29), .bslice (t_int N) 1 none 1 [(.lit (.int .i64 0))] [(0, 1, (.t 28))], none⟩, ⟨(some 30), .append (t_int N) 1 8 (.t 27) (.t 29), none⟩, ⟨(some 6), .mov (.t 30), none⟩])) (
    .ops [⟨(some 25), .mov (.t 9), none⟩, ⟨(some 26), .bin .add (.t 25) (.c (.lit (.int .i64 1))), none⟩, ⟨(some 9), .mov (.t 26), none⟩]))
def L_ref01_Where_2 (N : Nat → Nat) : AC :=
    .seq (
     .ops [⟨(some 34), .bin .lss (.t 33) (.t 32), none⟩]) (
    .seq (
     .cond (.t 34) (
      .skip) (
      .exit 2)) (
    .seq (
     .block 3 (
      .seq (
       .ops [⟨(some 35), .iaddr 1 (.t 31) (.t 33), none⟩, ⟨(some 36), .load none (.t 35), none⟩, ⟨(some 13), .mov (.t 36), none⟩]) (
      .seq (
       .seq (
        .ops [⟨(some 37), .mov (.t 13), none⟩, ⟨(some 38), .mov (.t 1), none⟩, ⟨(some 39), .bin .geq (.t 37) (.t 38), none⟩]) (
       .cond (.t 39) (
        .exit 2) (
        .skip))) (
      .seq (
       .ops [⟨(some 40), .mov (.t 11), none⟩, ⟨(some 41), .bin .add (.t 40) (.c (.lit (.int .i64 1))), none⟩, ⟨(some 11), .mov (.t 41), none⟩]) (
      .seq (
       .ops [⟨(some 42), .mov (.t 0), none⟩, ⟨(some 43), .mov (.t 13), none⟩, ⟨(some 44), .iaddr 1 (.t 42) (.t 43), none⟩, ⟨(some 45), .load none (.t 44), none⟩, ⟨(some 46), .eq false .pint (.t 45) (.c (.lit (.int .u8 10))), none⟩]) (
      .cond (.t 46) (
       .seq (
        .ops [⟨(some 47), .mov (.t 10), none⟩, ⟨(some 48), .bin .add (.t 47) (.c (.lit (.int .i64 1))), none⟩, ⟨(some 10), .mov (.t 48), none⟩]) (
       .ops [⟨(some 11), .mov (.c (.lit (.int .i64 1))), none⟩])) (
       .skip))))))) (
    .ops [⟨(some 49), .bin .add (.t 33) (.c (.lit (.int .i64 1))), none⟩, ⟨(some 33), .mov (.t 49), none⟩])))
def K_ref01_Where_2 (N : Nat → Nat) : AC :=
 .seq (
  .ops [⟨(some 50), .mov (.t 10), none⟩, ⟨(some 51), .mov (.t 11), none⟩, ⟨(some 4), .mov (.t 50), none⟩, ⟨(some 5), .mov (.t 51), none⟩]) (
 .ret)
def K_ref01_Where_1 (N : Nat → Nat) : AC :=
 .seq (
  .ops [⟨(some 10), .mov (.c (.lit (.int .i64 1))), none⟩, ⟨(some 11), .mov (.c (.lit (.int .i64 1))), none⟩]) (
 .seq (
  .seq (
   .ops [⟨(some 31), .mov (.t 6), none⟩, ⟨(some 32), .len (.t 31), none⟩, ⟨(some 33), .mov (.c (.lit (.int .i64 0))), none⟩]) (
  .block 2 (
   .loop (L_ref01_Where_2 N)))) (K_ref01_Where_2 N))
/-- azimuth/azimuthref01.Where -/
def C_ref01_Where (N : Nat → Nat) : AFunc := ⟨52, [.inl 4, .inl 5],
 .seq (
  .ops [⟨(some 4), .mov (.c (.lit (.int .i64 0))), none⟩, ⟨(some 5), .mov (.c (.lit (.int .i64 0))), none⟩]) (
 .seq (
  .ops [⟨(some 15), .mov (.t 0), none⟩, ⟨(some 16), .call (.c (.fn (f_ref01_Signs N) [] [])) [(.t 15)], none⟩, ⟨(some 14), .mov (.t 16), none⟩, ⟨(some 17), .extract (.t 14) 0, none⟩, ⟨(some 18), .extract (.t 14) 1, none⟩, ⟨(some 19), .extract (.t 14) 2, none⟩, ⟨(some 6), .mov (.t 17), none⟩, ⟨(some 7), .mov (.t 18), none⟩, ⟨(some 8), .mov (.t 19), none⟩]) (
 .seq (
  .seq (
   .ops [⟨(some 20), .mov (.t 8), none⟩, ⟨(some 9), .mov (.t 20), none⟩]) (
  .block 0 (
   .loop (L_ref01_Where_1 N)))) (K_ref01_Where_1 N))), false⟩

/-- azimuth/azimuthref01.value -/
def C_ref01_value (N : Nat → Nat) : AFunc := ⟨72, [.inl 2],
 .seq (
  .ops [⟨(some 2), .mov (.c (.lit (.int .i64 0))), none⟩]) (
 .seq (
  .seq (
   .ops [⟨(some 3), .mov (.t 0), none⟩, ⟨(some 4), .len (.t 3), none⟩]) (
  .block 0 (
   .seq (
    .ops [⟨(some 6), .eq false .pint (.t 4) (.c (.lit (.int .i64 1))), none⟩, ⟨(some 5), .mov (.t 6), none⟩]) (
   .cond (.t 5) (
    .seq (
     .ops [⟨(some 7), .mov (.t 0), none⟩, ⟨(some 8), .iaddr 1 (.t 7) (.c (.lit (.int .i64 0))), none⟩, ⟨(some 9), .load none (.t 8), none⟩, ⟨(some 10), .conv (.toInt .i64) (.t 9), none⟩, ⟨(some 2), .mov (.t 10), none⟩]) (
    .ret)) (
    .seq (
     .ops [⟨(some 12), .eq false .pint (.t 4) (.c (.lit (.int .i64 2))), none⟩, ⟨(some 11), .mov (.t 12), none⟩]) (
    .cond (.t 11) (
     .seq (
      .dops 5 [⟨(some 13), .mov (.t 0), none⟩, ⟨(some 14), .iaddr 1 (.t 13) (.c (.lit (.int .i64 0))), none⟩, ⟨(some 15), .load none (.t 14), none⟩, ⟨(some 16), .conv (.toInt .i64) (.t 15), none⟩, ⟨(some 17), .bin .rem (.t 16) (.c (.lit (.int .i64 32))), none⟩, ⟨(some 18), .bin .mul (.t 17) (.c (.lit (.int .i64 64))), none⟩, ⟨(some 19), .mov (.t 0), none⟩, ⟨(some 20), .iaddr 1 (.t 19) (.c (.lit (.int .i64 1))), none⟩, ⟨(some 21), .load none (.t 20), none⟩, ⟨(some 22), .conv (.toInt .i64) (.t 21), none⟩, ⟨(some 23), .bin .rem (.t 22) (.c (.lit (.int .i64 64))), none⟩, ⟨(some 24), .bin .add (.t 18) (.t 23), none⟩, ⟨(some 2), .mov (.t 24), none⟩] [0, 0, 2, 0, 0, 0, 0, 0, 2, 0, 0, 0, 0] []) (
     .ret)) (
     .seq (
      .ops [⟨(some 26), .eq false .pint (.t 4) (.c (.lit (.int .i64 3))), none⟩, ⟨(some 25), .mov (.t 26), none⟩]) (
     .cond (.t 25) (
      .seq (
       .dops 7 [⟨(some 27), .mov (.t 0), none⟩, ⟨(some 28), .iaddr 1 (.t 27) (.c (.lit (.int .i64 0))), none⟩, ⟨(some 29), .load none (.t 28), none⟩, ⟨(some 30), .conv (.toInt .i64) (.t 29), none⟩, ⟨(some 31), .bin .rem (.t 30) (.c (.lit (.int .i64 16))), none⟩, ⟨(some 32), .bin .mul (.t 31) (.c (.lit (.int .i64 4096))), none⟩, ⟨(some 33), .mov (.t 0), none⟩, ⟨(some 34), .iaddr 1 (.t 33) (.c (.lit (.int .i64 1))), none⟩, ⟨(some 35), .load none (.t 34), none⟩, ⟨(some 36), .conv (.toInt .i64) (.t 35), none⟩, ⟨(some 37), .bin .rem (.t 36) (.c (.lit (.int .i64 64))), none⟩, ⟨(some 38), .bin .mul (.t 37) (.c (.lit (.int .i64 64))), none⟩, ⟨(some 39), .bin .add (.t 32) (.t 38), none⟩, ⟨(some 40), .mov (.t 0), none⟩, ⟨(some 41), .iaddr 1 (.t 40) (.c (.lit (.int .i64 2))), none⟩, ⟨(some 42), .load none (.t 41), none⟩, ⟨(some 43), .conv (.toInt .i64) (.t 42), none⟩, ⟨(some 44), .bin .rem (.t 43) (.c (.lit (.int .i64 64))), none⟩, ⟨(some 45), .bin .add (.t 39) (.t 44), none⟩, ⟨(some 2), .mov (.t 45), none⟩] [0, 0, 2, 0, 0, 0, 0, 0, 2, 0, 0, 0, 0, 0, 0, 2, 0, 0, 0, 0] []) (
      .ret)) (
      .skip))))))))) (
 .seq (
  .dops 8 [⟨(some 46), .mov (.t 0), none⟩, ⟨(some 47), .iaddr 1 (.t 46) (.c (.lit (.int .i64 0))), none⟩, ⟨(some 48), .load none (.t 47), none⟩, ⟨(some 49), .conv (.toInt .i64) (.t 48), none⟩, ⟨(some 50), .bin .rem (.t 49) (.c (.lit (.int .i64 8))), none⟩, ⟨(some 51), .bin .mul (.t 50) (.c (.lit (.int .i64 262144))), none⟩, ⟨(some 52), .mov (.t 0), none⟩, ⟨(some 53), .iaddr 1 (.t 52) (.c (.lit (.int .i64 1))), none⟩, ⟨(some 54), .load none (.t 53), none⟩, ⟨(some 55), .conv (.toInt .i64) (.t 54), none⟩, ⟨(some 56), .bin .rem (.t 55) (.c (.lit (.int .i64 64))), none⟩, ⟨(some 57), .bin .mul (.t 56) (.c (.lit (.int .i64 4096))), none⟩, ⟨(some 58), .bin .add (.t 51) (.t 57), none⟩, ⟨(some 59), .mov (.t 0), none⟩, ⟨(some 60), .iaddr 1 (.t 59) (.c (.lit (.int .i64 2))), none⟩, ⟨(some 61), .load none (.t 60), none⟩, ⟨(some 62), .conv (.toInt .i64) (.t 61), none⟩, ⟨(some 63), .bin .rem (.t 62) (.c (.lit (.int .i64 64))), none⟩, ⟨(some 64), .bin .mul (.t 63) (.c (.lit (.int .i64 64))), none⟩, ⟨(some 65), .bin .add (.t 58) (.t 64), none⟩, ⟨(some 66), .mov (.t 0), none⟩, ⟨(some 67), .iaddr 1 (.t 66) (.c (.lit (.int .i64 3))), none⟩, ⟨(some 68), .load none (.t 67), none⟩, ⟨(some 69), .conv (.toInt .i64) (.t 68), none⟩, ⟨(some 70), .bin .rem (.t 69) (.c (.lit (.int .i64 64))), none⟩, ⟨(some 71), .bin .add (.t 65) (.t 70), none⟩, ⟨(some 2), .mov (.t 71), none⟩] [0, 0, 2, 0, 0, 0, 0, 0, 2, 0, 0, 0, 0, 0, 0, 2, 0, 0, 0, 0, 0, 0, 2, 0, 0, 0, 0] []) (
 .ret))), false⟩

/-- azimuth/runes.All -/
def C_runes_All (N : Nat → Nat) : AFunc := ⟨4, [.inl 2],
 .seq (
  .ops [⟨(some 1), .box (t_sl_uint8 N) (.t 0), none⟩, ⟨(some 2), .mov (.c (.lit .nilFunc)), none⟩]) (
 .seq (
  .ops [⟨(some 3), .mkfn (f_runes_All_1 N) [] [(.t 1)], none⟩, ⟨(some 2), .mov (.t 3), none⟩]) (
 .ret)), true⟩

def L_runes_All_1_1 (N : Nat → Nat) : AC :=
   .seq (
    .seq (
     .ops [⟨(some 6), .mov (.t 3), none⟩, ⟨(some 7), .load none (.t 1), none⟩, ⟨(some 8), .len (.t 7), none⟩, ⟨(some 9), .bin .lss (.t 6) (.t 8), none⟩]) (
    .cond (.t 9) (
     .skip) (
     .exit 0))) (
   .block 1 (
    .seq (
     .ops [⟨(some 11), .load none (.t 1), none⟩, ⟨(some 12), .mov (.t 3), none⟩, ⟨(some 13), .slice 1 (.t 11) (some (.t 12)) none, none⟩, ⟨(some 14), .call (.c (.fn (f_runes_first N) [] [])) [(.t 13)], none⟩, ⟨(some 10), .mov (.t 14), none⟩, ⟨(some 15), .extract (.t 10) 0, none⟩, ⟨(some 16), .extract (.t 10) 1, none⟩, ⟨(some 4), .mov (.t 15), none⟩, ⟨(some 5), .mov (.t 16), none⟩]) (
    .seq (
     .seq (
      .ops [⟨(some 17), .mov (.t 5), none⟩, ⟨(some 18), .eq false .pint (.t 17) (.c (.lit (.int .i64 0))), none⟩, ⟨(some 19), .mov (.t 18), none⟩, ⟨(some 20), .mov (.t 0), (some (19, false))⟩, ⟨(some 21), .mov (.t 3), (some (19, false))⟩, ⟨(some 22), .mov (.t 4), (some (19, false))⟩, ⟨(some 23), .call (.t 20) [(.t 21), (.t 22)], (some (19, false))⟩, ⟨(some 24), .un .not (.t 23), (some (19, false))⟩, ⟨(some 25), .pick (.t 19) (.c (.lit (.bool true))) (.t 24), none⟩]) (
     .cond (.t 25) (
      .ret) (
      .skip))) (
    .ops [⟨(some 26), .mov (.t 3), none⟩, ⟨(some 27), .mov (.t 5), none⟩, ⟨(some 28), .bin .add (.t 26) (.t 27), none⟩, ⟨(some 3), .mov (.t 28), none⟩]))))
/-- azimuth/runes.All$1 -/
def C_runes_All_1 (N : Nat → Nat) : AFunc := ⟨29, [],
 .seq (
  .ops [⟨(some 3), .mov (.c (.lit (.int .i64 0))), none⟩]) (
 .block 0 (
  .loop (L_runes_All_1_1 N))), false⟩

def L_runes_Bad_1 (N : Nat → Nat) : AC :=
    .seq (
     .ops [⟨(some 4), .mov (.t 8), none⟩]) (
    .ops [⟨(some 5), .mov (.t 9), none⟩])
def L_runes_Bad_2 (N : Nat → Nat) : AC :=
    .block 1 (
     .ops [⟨(some 10), .mov (.t 4), none⟩, ⟨(some 11), .mov (.t 5), none⟩, ⟨(some 12), .call (.c (.fn (f_runes_size N) [] [])) [(.t 11)], none⟩, ⟨(some 13), .bin .add (.t 10) (.t 12), none⟩, ⟨none, .store 1 (.t 3) (.t 13), none⟩])
def K_runes_Bad_1 (N : Nat → Nat) : AC :=
 .seq (
  .seq (
   .ops [⟨(some 14), .load none (.t 3), none⟩, ⟨(some 15), .mov (.t 0), none⟩, ⟨(some 16), .len (.t 15), none⟩, ⟨(some 17), .eq false .pint (.t 14) (.t 16), none⟩]) (
  .cond (.t 17) (
   .seq (
    .ops [⟨(some 2), .mov (.c (.lit (.int .i64 (-1)))), none⟩]) (
   .ret)) (
   .skip))) (
 .seq (
  .ops [⟨(some 18), .load none (.t 3), none⟩, ⟨(some 2), .mov (.t 18), none⟩]) (
 .ret))
/-- azimuth/runes.Bad -/
def C_runes_Bad (N : Nat → Nat) : AFunc := ⟨19, [.inl 2],
 .seq (
  .ops [⟨(some 2), .mov (.c (.lit (.int .i64 0))), none⟩]) (
 .seq (
  .ops [⟨(some 3), .new (t_int N) (.lit (.int .i64 0)), none⟩, ⟨none, .store 1 (.t 3) (.c (.lit (.int .i64 0))), none⟩]) (
 .seq (
  .seq (
   .ops [⟨(some 6), .mov (.t 0), none⟩, ⟨(some 7), .call (.c (.fn (f_runes_All N) [] [])) [(.t 6)], none⟩]) (
  .block 0 (
   .rangeFn (.t 7) [8, 9] (L_runes_Bad_1 N) (L_runes_Bad_2 N)))) (K_runes_Bad_1 N))), false⟩

def L_runes_Count_1 (N : Nat → Nat) : AC :=
    .skip
def L_runes_Count_2 (N : Nat → Nat) : AC :=
    .block 1 (
     .ops [⟨(some 8), .load none (.t 3), none⟩, ⟨(some 9), .bin .add (.t 8) (.c (.lit (.int .i64 1))), none⟩, ⟨none, .store 1 (.t 3) (.t 9), none⟩])
def K_runes_Count_1 (N : Nat → Nat) : AC :=
 .seq (
  .ops [⟨(some 10), .load none (.t 3), none⟩, ⟨(some 2), .mov (.t 10), none⟩]) (
 .ret)
/-- azimuth/runes.Count -/
def C_runes_Count (N : Nat → Nat) : AFunc := ⟨11, [.inl 2],
 .seq (
  .ops [⟨(some 2), .mov (.c (.lit (.int .i64 0))), none⟩]) (
 .seq (
  .ops [⟨(some 3), .new (t_int N) (.lit (.int .i64 0)), none⟩, ⟨none, .store 1 (.t 3) (.c (.lit (.int .i64 0))), none⟩]) (
 .seq (
  .seq (
   .ops [⟨(some 4), .mov (.t 0), none⟩, ⟨(some 5), .call (.c (.fn (f_runes_All N) [] [])) [(.t 4)], none⟩]) (
  .block 0 (
   .rangeFn (.t 5) [6, 7] (L_runes_Count_1 N) (L_runes_Count_2 N)))) (K_runes_Count_1 N))), false⟩

def L_runes_Encode_1 (N : Nat → Nat) : AC :=
    .seq (
     .seq (
      .ops [⟨(some 21), .mov (.t 6), none⟩, ⟨(some 22), .bin .gtr (.t 21) (.c (.lit (.int .i64 0))), none⟩]) (
     .cond (.t 22) (
      .skip) (
      .exit 0))) (
    .seq (
     .block 1 (
      .seq (
       .ops [⟨(some 25), .mov (.t 5), none⟩, ⟨(some 26), .mov (.t 6), none⟩, ⟨(some 27), .mov (.t 0), none⟩, ⟨(some 28), .bin .and (.t 27) (.c (.lit (.int .i32 63))), none⟩, ⟨(some 29), .conv (.toInt .u8) (.t 28), none⟩, ⟨(some 30), .bin .or (.c (.lit (.int .u8 128))) (.t 29), none⟩, ⟨(some 31), .iaddr 1 (.t 25) (.t 26), none⟩, ⟨none, .store 1 (.t 31) (.t 30), none⟩]) (
      .ops [⟨(some 32), .mov (.t 0), none⟩, ⟨(some 33), .bin .shr (.t 32) (.c (.lit (.int .u64 6))), none⟩, ⟨(some 0), .mov (.t 33), none⟩]))) (
    .ops [⟨(some 23), .mov (.t 6), none⟩, ⟨(some 24), .bin .sub (.t 23) (.c (.lit (.int .i64 1))), none⟩, ⟨(some 6), .mov (.t 24), none⟩]))
def K_runes_Encode_1 (N : Nat → Nat) : AC :=
 .seq (
  .ops [⟨(some 34), .mov (.t 5), none⟩, ⟨(some 35), .mov (.t 4), none⟩, ⟨(some 36), .bin .shr (.c (.lit (.int .i64 3840))) (.t 35), none⟩, ⟨(some 37), .conv (.toInt .u8) (.t 36), none⟩, ⟨(some 38), .mov (.t 0), none⟩, ⟨(some 39), .conv (.toInt .u8) (.t 38), none⟩, ⟨(some 40), .bin .or (.t 37) (.t 39), none⟩, ⟨(some 41), .iaddr 1 (.t 34) (.c (.lit (.int .i64 0))), none⟩, ⟨none, .store 1 (.t 41) (.t 40), none⟩]) (
 .seq (
  .ops [⟨(some 42), .mov (.t 5), none⟩, ⟨(some 2), .mov (.t 42), none⟩, ⟨(some 3), .mov (.c (.lit (.int .i64 0))), none⟩]) (
 .ret))
/-- azimuth/runes.Encode -/
def C_runes_Encode (N : Nat → Nat) : AFunc := ⟨43, [.inl 2, .inl 3],
 .seq (
  .ops [⟨(some 2), .mov (.c (.lit (.slice none 0 0))), none⟩, ⟨(some 3), .mov (.c (.lit (.int .i64 0))), none⟩]) (
 .seq (
  .seq (
   .ops [⟨(some 7), .mov (.t 0), none⟩, ⟨(some 8), .call (.c (.fn (f_runes_sign N) [] [])) [(.t 7)], none⟩, ⟨(some 9), .un .not (.t 8), none⟩]) (
  .cond (.t 9) (
   .seq (
    .ops [⟨(some 2), .mov (.c (.lit (.slice none 0 0))), none⟩, ⟨(some 3), .mov (.c (.lit (.int .i64 2))), none⟩]) (
   .ret)) (
   .skip))) (
 .seq (
  .ops [⟨(some 10), .mov (.t 0), none⟩, ⟨(some 11), .call (.c (.fn (f_runes_size N) [] [])) [(.t 10)], none⟩, ⟨(some 4), .mov (.t 11), none⟩]) (
 .seq (
  .seq (
   .ops [⟨(some 12), .mov (.t 4), none⟩, ⟨(some 13), .eq false .pint (.t 12) (.c (.lit (.int .i64 1))), none⟩]) (
  .cond (.t 13) (
   .seq (
    .ops [⟨(some 14), .mov (.t 0), none⟩, ⟨(some 15), .conv (.toInt .u8) (.t 14), none⟩, ⟨(some 16), .bslice (t_uint8 N) 1 none 1 [(.lit (.int .u8 0))] [(0, 1, (.t 15))], none⟩, ⟨(some 2), .mov (.t 16), none⟩, ⟨(some 3), .mov (.c (.lit (.int .i64 0))), none⟩]) (
   .ret)) (
   .skip))) (
 .seq (
  .ops [⟨(some 17), .mov (.t 4), none⟩, ⟨(some 18), .mkslice (t_uint8 N) 1 1 (.lit (.int .u8 0)) (.t 17) (.t 17), none⟩, ⟨(some 5), .mov (.t 18), none⟩]) (
 .seq (
  .seq (
   .ops [⟨(some 19), .mov (.t 4), none⟩, ⟨(some 20), .bin .sub (.t 19) (.c (.lit (.int .i64 1))), none⟩, ⟨(some 6), .mov (.t 20), none⟩]) (
  .block 0 (
   .loop (L_runes_Encode_1 N)))) (K_runes_Encode_1 N)))))), true⟩

def L_runes_Where_1 (N : Nat → Nat) : AC :=
    .seq (
     .ops [⟨(some 8), .mov (.t 17), none⟩]) (
    .ops [⟨(some 9), .mov (.t 18), none⟩])
def L_runes_Where_2 (N : Nat → Nat) : AC :=
    .block 1 (
     .seq (
      .seq (
       .ops [⟨(some 19), .mov (.t 8), none⟩, ⟨(some 20), .load none (.t 3), none⟩, ⟨(some 21), .bin .geq (.t 19) (.t 20), none⟩]) (
      .cond (.t 21) (
       .seq (
        .dops 9 [⟨(some 22), .load none (.t 4), none⟩, ⟨(some 23), .load none (.t 5), none⟩, ⟨none, .store 1 (.t 4) (.t 22), none⟩, ⟨none, .store 1 (.t 5) (.t 23), none⟩] [2, 2, 0, 0] [(5, 4)]) (
       .ret)) (
       .skip))) (
     .seq (
      .ops [⟨(some 24), .load none (.t 6), none⟩, ⟨(some 25), .mov (.t 9), none⟩, ⟨(some 26), .call (.t 24) [(.t 25)], none⟩]) (
     .ops [⟨(some 27), .mov (.t 8), none⟩, ⟨(some 28), .mov (.t 9), none⟩, ⟨(some 29), .call (.c (.fn (f_runes_size N) [] [])) [(.t 28)], none⟩, ⟨(some 30), .bin .add (.t 27) (.t 29), none⟩, ⟨none, .store 1 (.t 7) (.t 30), none⟩])))
def L_runes_Where_3 (N : Nat → Nat) : AC :=
    .seq (
     .seq (
      .ops [⟨(some 31), .load none (.t 7), none⟩, ⟨(some 32), .load none (.t 3), none⟩, ⟨(some 33), .bin .lss (.t 31) (.t 32), none⟩]) (
     .cond (.t 33) (
      .skip) (
      .exit 2))) (
    .seq (
     .block 3 (
      .dops 14 [⟨(some 36), .load none (.t 6), none⟩, ⟨(some 37), .mov (.t 0), none⟩, ⟨(some 38), .load none (.t 7), none⟩, ⟨(some 39), .iaddr 1 (.t 37) (.t 38), none⟩, ⟨(some 40), .load none (.t 39), none⟩, ⟨(some 41), .conv (.toInt .i32) (.t 40), none⟩, ⟨(some 42), .call (.t 36) [(.t 41)], none⟩] [2, 0, 2, 0, 2, 0, 0] [])) (
    .ops [⟨(some 34), .load none (.t 7), none⟩, ⟨(some 35), .bin .add (.t 34) (.c (.lit (.int .i64 1))), none⟩, ⟨none, .store 1 (.t 7) (.t 35), none⟩]))
def K_runes_Where_2 (N : Nat → Nat) : AC :=
 .seq (
  .dops 15 [⟨(some 43), .load none (.t 4), none⟩, ⟨(some 44), .load none (.t 5), none⟩, ⟨none, .store 1 (.t 4) (.t 43), none⟩, ⟨none, .store 1 (.t 5) (.t 44), none⟩] [2, 2, 0, 0] [(5, 4)]) (
 .ret)
def K_runes_Where_1 (N : Nat → Nat) : AC :=
 .seq (
  .block 2 (
   .loop (L_runes_Where_3 N))) (K_runes_Where_2 N)
/-- azimuth/runes.Where -/
def C_runes_Where (N : Nat → Nat) : AFunc := ⟨45, [.inr (4, none), .inr (5, none)],
 .seq (
  .ops [⟨(some 3), .box (t_int N) (.t 1), none⟩, ⟨(some 4), .new (t_int N) (.lit (.int .i64 0)), none⟩, ⟨(some 5), .new (t_int N) (.lit (.int .i64 0)), none⟩]) (
 .seq (
  .ops [⟨none, .store 1 (.t 4) (.c (.lit (.int .i64 1))), none⟩, ⟨none, .store 1 (.t 5) (.c (.lit (.int .i64 1))), none⟩]) (
 .seq (
  .ops [⟨(some 10), .load none (.t 3), none⟩, ⟨(some 11), .mov (.t 0), none⟩, ⟨(some 12), .len (.t 11), none⟩, ⟨(some 13), .mnmx false [(.t 10), (.t 12)], none⟩, ⟨none, .store 1 (.t 3) (.t 13), none⟩]) (
 .seq (
  .ops [⟨(some 14), .mkfn (f_runes_Where_1 N) [] [(.t 5), (.t 4)], none⟩, ⟨(some 6), .new (t_func_int32 N) (.lit .nilFunc), none⟩, ⟨none, .store 1 (.t 6) (.t 14), none⟩]) (
 .seq (
  .ops [⟨(some 7), .new (t_int N) (.lit (.int .i64 0)), none⟩, ⟨none, .store 1 (.t 7) (.c (.lit (.int .i64 0))), none⟩]) (
 .seq (
  .seq (
   .ops [⟨(some 15), .mov (.t 0), none⟩, ⟨(some 16), .call (.c (.fn (f_runes_All N) [] [])) [(.t 15)], none⟩]) (
  .block 0 (
   .rangeFn (.t 16) [17, 18] (L_runes_Where_1 N) (L_runes_Where_2 N)))) (K_runes_Where_1 N)))))), false⟩

/-- azimuth/runes.Where$1 -/
def C_runes_Where_1 (N : Nat → Nat) : AFunc := ⟨10, [],
 .seq (
  .ops [⟨(some 4), .load none (.t 1), none⟩, ⟨(some 5), .bin .add (.t 4) (.c (.lit (.int .i64 1))), none⟩, ⟨none, .store 1 (.t 1) (.t 5), none⟩]) (
 .seq (
  .ops [⟨(some 6), .mov (.t 0), none⟩, ⟨(some 7), .eq false .pint (.t 6) (.c (.lit (.int .i32 10))), none⟩]) (
 .cond (.t 7) (
  .seq (
   .ops [⟨(some 8), .load none (.t 2), none⟩, ⟨(some 9), .bin .add (.t 8) (.c (.lit (.int .i64 1))), none⟩, ⟨none, .store 1 (.t 2) (.t 9), none⟩]) (
  .ops [⟨none, .store 1 (.t 1) (.c (.lit (.int .i64 1))), none⟩])) (
  .skip))), false⟩

def L_runes_first_1 (N : Nat → Nat) : AC :=
    .seq (
     .seq (
      .ops [⟨(some 19), .mov (.t 4), none⟩, ⟨(some 20), .bin .lss (.t 19) (.c (.lit (.int .i64 4))), none⟩, ⟨(some 21), .mov (.t 20), none⟩, ⟨(some 22), .mov (.t 0), (some (21, true))⟩, ⟨(some 23), .iaddr 1 (.t 22) (.c (.lit (.int .i64 0))), (some (21, true))⟩, ⟨(some 24), .load none (.t 23), (some (21, true))⟩, ⟨(some 25), .mov (.t 4), (some (21, true))⟩, ⟨(some 26), .bin .shl (.t 24) (.t 25), (some (21, true))⟩, ⟨(some 27), .bin .and (.t 26) (.c (.lit (.int .u8 128))), (some (21, true))⟩, ⟨(some 28), .eq true .pint (.t 27) (.c (.lit (.int .u8 0))), (some (21, true))⟩, ⟨(some 29), .pick (.t 21) (.t 28) (.c (.lit (.bool false))), none⟩]) (
     .cond (.t 29) (
      .skip) (
      .exit 0))) (
    .block 1 (
     .ops [⟨(some 30), .mov (.t 4), none⟩, ⟨(some 31), .bin .add (.t 30) (.c (.lit (.int .i64 1))), none⟩, ⟨(some 4), .mov (.t 31), none⟩]))
def L_runes_first_2 (N : Nat → Nat) : AC :=
    .seq (
     .ops [⟨(some 58), .bin .lss (.t 57) (.t 56), none⟩]) (
    .seq (
     .cond (.t 58) (
      .skip) (
      .exit 2)) (
    .seq (
     .block 3 (
      .seq (
       .ops [⟨(some 59), .iaddr 1 (.t 55) (.t 57), none⟩, ⟨(some 60), .load none (.t 59), none⟩, ⟨(some 7), .mov (.t 60), none⟩]) (
      .seq (
       .seq (
        .ops [⟨(some 61), .mov (.t 7), none⟩, ⟨(some 62), .bin .and (.t 61) (.c (.lit (.int .u8 192))), none⟩, ⟨(some 63), .eq true .pint (.t 62) (.c (.lit (.int .u8 128))), none⟩]) (
       .cond (.t 63) (
        .seq (
         .ops [⟨(some 2), .mov (.c (.lit (.int .i32 0))), none⟩, ⟨(some 3), .mov (.c (.lit (.int .i64 0))), none⟩]) (
        .ret)) (
        .skip))) (
      .ops [⟨(some 64), .mov (.t 5), none⟩, ⟨(some 65), .bin .shl (.t 64) (.c (.lit (.int .u64 6))), none⟩, ⟨(some 66), .mov (.t 7), none⟩, ⟨(some 67), .bin .and (.t 66) (.c (.lit (.int .u8 63))), none⟩, ⟨(some 68), .conv (.toInt .i32) (.t 67), none⟩, ⟨(some 69), .bin .or (.t 65) (.t 68), none⟩, ⟨(some 5), .mov (.t 69), none⟩])))) (
    .ops [⟨(some 70), .bin .add (.t 57) (.c (.lit (.int .i64 1))), none⟩, ⟨(some 57), .mov (.t 70), none⟩])))
def K_runes_first_2 (N : Nat → Nat) : AC :=
 .seq (
  .seq (
   .ops [⟨(some 71), .mov (.t 5), none⟩, ⟨(some 72), .call (.c (.fn (f_runes_sign N) [] [])) [(.t 71)], none⟩, ⟨(some 73), .un .not (.t 72), none⟩, ⟨(some 74), .mov (.t 73), none⟩, ⟨(some 75), .mov (.t 5), (some (74, false))⟩, ⟨(some 76), .call (.c (.fn (f_runes_size N) [] [])) [(.t 75)], (some (74, false))⟩, ⟨(some 77), .mov (.t 4), (some (74, false))⟩, ⟨(some 78), .eq true .pint (.t 76) (.t 77), (some (74, false))⟩, ⟨(some 79), .pick (.t 74) (.c (.lit (.bool true))) (.t 78), none⟩]) (
  .cond (.t 79) (
   .seq (
    .ops [⟨(some 2), .mov (.c (.lit (.int .i32 0))), none⟩, ⟨(some 3), .mov (.c (.lit (.int .i64 0))), none⟩]) (
   .ret)) (
   .skip))) (
 .seq (
  .ops [⟨(some 80), .mov (.t 5), none⟩, ⟨(some 81), .mov (.t 4), none⟩, ⟨(some 2), .mov (.t 80), none⟩, ⟨(some 3), .mov (.t 81), none⟩]) (
 .ret))
def K_runes_first_1 (N : Nat → Nat) : AC :=
 .seq (
  .seq (
   .ops [⟨(some 32), .mov (.t 4), none⟩, ⟨(some 33), .bin .lss (.t 32) (.c (.lit (.int .i64 2))), none⟩, ⟨(some 34), .mov (.t 33), none⟩, ⟨(some 35), .mov (.t 0), (some (34, false))⟩, ⟨(some 36), .len (.t 35), (some (34, false))⟩, ⟨(some 37), .mov (.t 4), (some (34, false))⟩, ⟨(some 38), .bin .lss (.t 36) (.t 37), (some (34, false))⟩, ⟨(some 39), .pick (.t 34) (.c (.lit (.bool true))) (.t 38), none⟩, ⟨(some 40), .mov (.t 39), none⟩, ⟨(some 41), .mov (.t 0), (some (40, false))⟩, ⟨(some 42), .iaddr 1 (.t 41) (.c (.lit (.int .i64 0))), (some (40, false))⟩, ⟨(some 43), .load none (.t 42), (some (40, false))⟩, ⟨(some 44), .bin .geq (.t 43) (.c (.lit (.int .u8 248))), (some (40, false))⟩, ⟨(some 45), .pick (.t 40) (.c (.lit (.bool true))) (.t 44), none⟩]) (
  .cond (.t 45) (
   .seq (
    .ops [⟨(some 2), .mov (.c (.lit (.int .i32 0))), none⟩, ⟨(some 3), .mov (.c (.lit (.int .i64 0))), none⟩]) (
   .ret)) (
   .skip))) (
 .seq (
  .dops 10 [⟨(some 46), .mov (.t 0), none⟩, ⟨(some 47), .iaddr 1 (.t 46) (.c (.lit (.int .i64 0))), none⟩, ⟨(some 48), .load none (.t 47), none⟩, ⟨(some 49), .mov (.t 4), none⟩, ⟨(some 50), .bin .shr (.c (.lit (.int .u8 127))) (.t 49), none⟩, ⟨(some 51), .bin .and (.t 48) (.t 50), none⟩, ⟨(some 52), .conv (.toInt .i32) (.t 51), none⟩, ⟨(some 5), .mov (.t 52), none⟩] [0, 0, 0, 0, 0, 0, 0, 0] []) (
 .seq (
  .seq (
   .ops [⟨(some 53), .mov (.t 0), none⟩, ⟨(some 54), .mov (.t 4), none⟩, ⟨(some 55), .slice 1 (.t 53) (some (.c (.lit (.int .i64 1)))) (some (.t 54)), none⟩, ⟨(some 56), .len (.t 55), none⟩, ⟨(some 57), .mov (.c (.lit (.int .i64 0))), none⟩]) (
  .block 2 (
   .loop (L_runes_first_2 N)))) (K_runes_first_2 N)))
/-- azimuth/runes.first -/
def C_runes_first (N : Nat → Nat) : AFunc := ⟨82, [.inl 2, .inl 3],
 .seq (
  .ops [⟨(some 2), .mov (.c (.lit (.int .i32 0))), none⟩, ⟨(some 3), .mov (.c (.lit (.int .i64 0))), none⟩]) (
 .seq (
  .seq (
   .ops [⟨(some 8), .mov (.t 0), none⟩, ⟨(some 9), .len (.t 8), none⟩, ⟨(some 10), .eq false .pint (.t 9) (.c (.lit (.int .i64 0))), none⟩]) (
  .cond (.t 10) (
   .seq (
    .ops [⟨(some 2), .mov (.c (.lit (.int .i32 0))), none⟩, ⟨(some 3), .mov (.c (.lit (.int .i64 0))), none⟩]) (
   .ret)) (
   .skip))) (
 .seq (
  .seq (
   .ops [⟨(some 11), .mov (.t 0), none⟩, ⟨(some 12), .iaddr 1 (.t 11) (.c (.lit (.int .i64 0))), none⟩, ⟨(some 13), .load none (.t 12), none⟩, ⟨(some 14), .bin .lss (.t 13) (.c (.lit (.int .u8 128))), none⟩]) (
  .cond (.t 14) (
   .seq (
    .ops [⟨(some 15), .mov (.t 0), none⟩, ⟨(some 16), .iaddr 1 (.t 15) (.c (.lit (.int .i64 0))), none⟩, ⟨(some 17), .load none (.t 16), none⟩, ⟨(some 18), .conv (.toInt .i32) (.t 17), none⟩, ⟨(some 2), .mov (.t 18), none⟩, ⟨(some 3), .mov (.c (.lit (.int .i64 1))), none⟩]) (
   .ret)) (
   .skip))) (
 .seq (
  .ops [⟨(some 4), .mov (.c (.lit (.int .i64 0))), none⟩]) (
 .seq (
  .block 0 (
   .loop (L_runes_first_1 N))) (K_runes_first_1 N))))), false⟩

/-- azimuth/runes.sign -/
def C_runes_sign (N : Nat → Nat) : AFunc := ⟨17, [.inl 2],
 .seq (
  .ops [⟨(some 2), .mov (.c (.lit (.bool false))), none⟩]) (
 .seq (
  .ops [⟨(some 3), .mov (.t 0), none⟩, ⟨(some 4), .bin .geq (.t 3) (.c (.lit (.int .i32 0))), none⟩, ⟨(some 5), .mov (.t 4), none⟩, ⟨(some 6), .mov (.t 0), (some (5, true))⟩, ⟨(some 7), .bin .lss (.t 6) (.c (.lit (.int .i32 1114112))), (some (5, true))⟩, ⟨(some 8), .pick (.t 5) (.t 7) (.c (.lit (.bool false))), none⟩, ⟨(some 9), .mov (.t 8), none⟩, ⟨(some 10), .mov (.t 0), (some (9, true))⟩, ⟨(some 11), .bin .lss (.t 10) (.c (.lit (.int .i32 55296))), (some (9, true))⟩, ⟨(some 12), .mov (.t 11), (some (9, true))⟩, ⟨(some 13), .mov (.t 0), (some (12, false))⟩, ⟨(some 14), .bin .gtr (.t 13) (.c (.lit (.int .i32 57343))), (some (12, false))⟩, ⟨(some 15), .pick (.t 12) (.c (.lit (.bool true))) (.t 14), (some (9, true))⟩, ⟨(some 16), .pick (.t 9) (.t 15) (.c (.lit (.bool false))), none⟩, ⟨(some 2), .mov (.t 16), none⟩]) (
 .ret)), false⟩

/-- azimuth/runes.size -/
def C_runes_size (N : Nat → Nat) : AFunc := ⟨12, [.inl 2],
 .seq (
  .ops [⟨(some 2), .mov (.c (.lit (.int .i64 0))), none⟩]) (
 .seq (
  .block 0 (
   .seq (
    .ops [⟨(some 4), .mov (.t 0), none⟩, ⟨(some 5), .bin .lss (.t 4) (.c (.lit (.int .i32 128))), none⟩, ⟨(some 3), .mov (.t 5), none⟩]) (
   .cond (.t 3) (
    .seq (
     .ops [⟨(some 2), .mov (.c (.lit (.int .i64 1))), none⟩]) (
    .ret)) (
    .seq (
     .ops [⟨(some 7), .mov (.t 0), none⟩, ⟨(some 8), .bin .lss (.t 7) (.c (.lit (.int .i32 2048))), none⟩, ⟨(some 6), .mov (.t 8), none⟩]) (
    .cond (.t 6) (
     .seq (
      .ops [⟨(some 2), .mov (.c (.lit (.int .i64 2))), none⟩]) (
     .ret)) (
     .seq (
      .ops [⟨(some 10), .mov (.t 0), none⟩, ⟨(some 11), .bin .lss (.t 10) (.c (.lit (.int .i32 65536))), none⟩, ⟨(some 9), .mov (.t 11), none⟩]) (
     .cond (.t 9) (
      .seq (
       .ops [⟨(some 2), .mov (.c (.lit (.int .i64 3))), none⟩]) (
      .ret)) (
      .skip)))))))) (
 .seq (
  .ops [⟨(some 2), .mov (.c (.lit (.int .i64 4))), none⟩]) (
 .ret))), false⟩
end Go.Proofs.Eng
