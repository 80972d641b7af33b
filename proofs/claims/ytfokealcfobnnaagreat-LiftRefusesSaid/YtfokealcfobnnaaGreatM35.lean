import Derived.Test.YtfokealcfobnnaaGreatM32
import Derived.Test.YtfokealcfobnnaaGreatM34
/- Templates of functions, as the engine takes them; numbers of functions and types by names. Printed by tm.py. -/
set_option linter.unusedVariables false
set_option maxRecDepth 100000
namespace Go.Proofs.Eng
open Go

def L_p_solve_Solver_Claim_1 (N : Nat → Nat) : AC :=
    .seq (
     .seq (
      .ops [⟨(some 51), .mov (.t 0), none⟩, ⟨(some 52), .nilchk (.t 51), none⟩, ⟨(some 53), .faddr 2 (.t 52), none⟩, ⟨(some 54), .load none (.t 53), none⟩, ⟨(some 55), .len (.t 54), none⟩, ⟨(some 56), .bin .gtr (.t 55) (.c (.lit (.int .i64 0))), none⟩]) (
     .cond (.t 56) (
      .skip) (
      .exit 1))) (
    .block 2 (
     .seq (
      .ops [⟨(some 57), .mov (.t 0), none⟩, ⟨(some 58), .nilchk (.t 57), none⟩, ⟨(some 59), .faddr 2 (.t 58), none⟩, ⟨(some 60), .load none (.t 59), none⟩, ⟨(some 61), .iaddr 2 (.t 60) (.c (.lit (.int .i64 0))), none⟩, ⟨(some 62), .load (some 2) (.t 61), none⟩, ⟨(some 7), .new (t_solve_claim N) (.agg [(.lit (.int .i64 0)), (.lit (.int .i64 0))]), none⟩, ⟨none, .store 2 (.t 7) (.t 62), none⟩]) (
     .seq (
      .ops [⟨(some 63), .mov (.t 0), none⟩, ⟨(some 64), .mov (.t 0), none⟩, ⟨(some 65), .nilchk (.t 64), none⟩, ⟨(some 66), .faddr 2 (.t 65), none⟩, ⟨(some 67), .load none (.t 66), none⟩, ⟨(some 68), .slice 2 (.t 67) (some (.c (.lit (.int .i64 1)))) none, none⟩, ⟨(some 69), .nilchk (.t 63), none⟩, ⟨(some 70), .faddr 2 (.t 69), none⟩, ⟨none, .store 1 (.t 70) (.t 68), none⟩]) (
     .seq (
      .ops [⟨(some 71), .mov (.t 0), none⟩, ⟨(some 72), .mov (.t 0), none⟩, ⟨(some 73), .load (some 2) (.t 7), none⟩, ⟨(some 74), .call (.c (.fn (f_p_solve_Solver_step N) [] [])) [(.t 72), (.t 73)], none⟩, ⟨(some 75), .nilchk (.t 71), none⟩, ⟨(some 76), .faddr 5 (.t 75), none⟩, ⟨none, .store 1 (.t 76) (.t 74), none⟩]) (
     .seq (
      .ops [⟨(some 77), .mov (.t 0), none⟩, ⟨(some 78), .nilchk (.t 77), none⟩, ⟨(some 79), .faddr 5 (.t 78), none⟩, ⟨(some 80), .load none (.t 79), none⟩, ⟨(some 81), .eq true .pint (.t 80) (.c (.lit (.int .i64 0))), none⟩]) (
     .cond (.t 81) (
      .seq (
       .ops [⟨(some 82), .mov (.t 0), none⟩, ⟨(some 83), .nilchk (.t 82), none⟩, ⟨(some 84), .faddr 5 (.t 83), none⟩, ⟨(some 85), .load none (.t 84), none⟩, ⟨(some 6), .mov (.t 85), none⟩]) (
      .ret)) (
      .skip)))))))
def K_p_solve_Solver_Claim_1 (N : Nat → Nat) : AC :=
 .seq (
  .ops [⟨(some 86), .mov (.t 0), none⟩, ⟨(some 87), .nilchk (.t 86), none⟩, ⟨(some 88), .faddr 4 (.t 87), none⟩, ⟨(some 89), .load none (.t 88), none⟩, ⟨(some 90), .bin .add (.t 89) (.c (.lit (.int .i64 1))), none⟩, ⟨(some 91), .nilchk (.t 86), none⟩, ⟨(some 92), .faddr 4 (.t 91), none⟩, ⟨none, .store 1 (.t 92) (.t 90), none⟩]) (
 .seq (
  .ops [⟨(some 6), .mov (.c (.lit (.int .i64 0))), none⟩]) (
 .ret))
/-- (*azimuth/solve.Solver).Claim -/
def C_p_solve_Solver_Claim (N : Nat → Nat) : AFunc := ⟨93, [.inl 6],
 .seq (
  .ops [⟨(some 6), .mov (.c (.lit (.int .i64 0))), none⟩]) (
 .seq (
  .block 0 (
   .seq (
    .ops [⟨(some 9), .mov (.t 0), none⟩, ⟨(some 10), .eq false .pptr (.t 9) (.c (.lit (.pointer none))), none⟩, ⟨(some 11), .mov (.t 10), none⟩, ⟨(some 12), .mov (.t 1), (some (11, false))⟩, ⟨(some 13), .bin .lss (.t 12) (.c (.lit (.int .i64 0))), (some (11, false))⟩, ⟨(some 14), .pick (.t 11) (.c (.lit (.bool true))) (.t 13), none⟩, ⟨(some 15), .mov (.t 14), none⟩, ⟨(some 16), .mov (.t 2), (some (15, false))⟩, ⟨(some 17), .bin .lss (.t 16) (.c (.lit (.int .i64 0))), (some (15, false))⟩, ⟨(some 18), .pick (.t 15) (.c (.lit (.bool true))) (.t 17), none⟩, ⟨(some 19), .mov (.t 18), none⟩, ⟨(some 20), .mov (.t 1), (some (19, false))⟩, ⟨(some 21), .mov (.t 0), (some (19, false))⟩, ⟨(some 22), .nilchk (.t 21), (some (19, false))⟩, ⟨(some 23), .faddr 0 (.t 22), (some (19, false))⟩, ⟨(some 24), .load none (.t 23), (some (19, false))⟩, ⟨(some 25), .call (.c (.fn (f_p_arena_Arena_Len N) [] [])) [(.t 24)], (some (19, false))⟩, ⟨(some 26), .bin .geq (.t 20) (.t 25), (some (19, false))⟩, ⟨(some 27), .pick (.t 19) (.c (.lit (.bool true))) (.t 26), none⟩, ⟨(some 28), .mov (.t 27), none⟩, ⟨(some 29), .mov (.t 2), (some (28, false))⟩, ⟨(some 30), .mov (.t 0), (some (28, false))⟩, ⟨(some 31), .nilchk (.t 30), (some (28, false))⟩, ⟨(some 32), .faddr 0 (.t 31), (some (28, false))⟩, ⟨(some 33), .load none (.t 32), (some (28, false))⟩, ⟨(some 34), .call (.c (.fn (f_p_arena_Arena_Len N) [] [])) [(.t 33)], (some (28, false))⟩, ⟨(some 35), .bin .geq (.t 29) (.t 34), (some (28, false))⟩, ⟨(some 36), .pick (.t 28) (.c (.lit (.bool true))) (.t 35), none⟩, ⟨(some 8), .mov (.t 36), none⟩]) (
   .cond (.t 8) (
    .seq (
     .ops [⟨(some 6), .mov (.c (.lit (.int .i64 1))), none⟩]) (
    .ret)) (
    .seq (
     .ops [⟨(some 38), .mov (.t 0), none⟩, ⟨(some 39), .nilchk (.t 38), none⟩, ⟨(some 40), .faddr 5 (.t 39), none⟩, ⟨(some 41), .load none (.t 40), none⟩, ⟨(some 42), .eq true .pint (.t 41) (.c (.lit (.int .i64 0))), none⟩, ⟨(some 37), .mov (.t 42), none⟩]) (
    .cond (.t 37) (
     .seq (
      .ops [⟨(some 43), .mov (.t 0), none⟩, ⟨(some 44), .nilchk (.t 43), none⟩, ⟨(some 45), .faddr 5 (.t 44), none⟩, ⟨(some 46), .load none (.t 45), none⟩, ⟨(some 6), .mov (.t 46), none⟩]) (
     .ret)) (
     .skip)))))) (
 .seq (
  .ops [⟨(some 47), .mov (.t 0), none⟩, ⟨(some 48), .mov (.t 1), none⟩, ⟨(some 49), .mov (.t 2), none⟩, ⟨(some 50), .call (.c (.fn (f_p_solve_Solver_ask N) [] [])) [(.t 47), (.t 48), (.t 49)], none⟩]) (
 .seq (
  .block 1 (
   .loop (L_p_solve_Solver_Claim_1 N))) (K_p_solve_Solver_Claim_1 N)))), false⟩

/-- (*azimuth/solve.Solver).Claims -/
def C_p_solve_Solver_Claims (N : Nat → Nat) : AFunc := ⟨9, [.inl 2],
 .seq (
  .ops [⟨(some 2), .mov (.c (.lit (.int .i64 0))), none⟩]) (
 .seq (
  .seq (
   .ops [⟨(some 3), .mov (.t 0), none⟩, ⟨(some 4), .eq false .pptr (.t 3) (.c (.lit (.pointer none))), none⟩]) (
  .cond (.t 4) (
   .seq (
    .ops [⟨(some 2), .mov (.c (.lit (.int .i64 0))), none⟩]) (
   .ret)) (
   .skip))) (
 .seq (
  .ops [⟨(some 5), .mov (.t 0), none⟩, ⟨(some 6), .nilchk (.t 5), none⟩, ⟨(some 7), .faddr 4 (.t 6), none⟩, ⟨(some 8), .load none (.t 7), none⟩, ⟨(some 2), .mov (.t 8), none⟩]) (
 .ret))), false⟩

/-- (*azimuth/solve.Solver).Clash -/
def C_p_solve_Solver_Clash (N : Nat → Nat) : AFunc := ⟨24, [.inl 2, .inl 3, .inl 4],
 .seq (
  .ops [⟨(some 2), .mov (.c (.lit (.int .i64 0))), none⟩, ⟨(some 3), .mov (.c (.lit (.int .i64 0))), none⟩, ⟨(some 4), .mov (.c (.lit (.bool false))), none⟩]) (
 .seq (
  .seq (
   .ops [⟨(some 5), .mov (.t 0), none⟩, ⟨(some 6), .eq false .pptr (.t 5) (.c (.lit (.pointer none))), none⟩, ⟨(some 7), .mov (.t 6), none⟩, ⟨(some 8), .mov (.t 0), (some (7, false))⟩, ⟨(some 9), .nilchk (.t 8), (some (7, false))⟩, ⟨(some 10), .faddr 5 (.t 9), (some (7, false))⟩, ⟨(some 11), .load none (.t 10), (some (7, false))⟩, ⟨(some 12), .eq true .pint (.t 11) (.c (.lit (.int .i64 10))), (some (7, false))⟩, ⟨(some 13), .pick (.t 7) (.c (.lit (.bool true))) (.t 12), none⟩]) (
  .cond (.t 13) (
   .seq (
    .ops [⟨(some 2), .mov (.c (.lit (.int .i64 0))), none⟩, ⟨(some 3), .mov (.c (.lit (.int .i64 0))), none⟩, ⟨(some 4), .mov (.c (.lit (.bool false))), none⟩]) (
   .ret)) (
   .skip))) (
 .seq (
  .dops 3 [⟨(some 14), .mov (.t 0), none⟩, ⟨(some 15), .nilchk (.t 14), none⟩, ⟨(some 16), .faddr 6 (.t 15), none⟩, ⟨(some 17), .faddr 0 (.t 16), none⟩, ⟨(some 18), .load none (.t 17), none⟩, ⟨(some 19), .mov (.t 0), none⟩, ⟨(some 20), .nilchk (.t 19), none⟩, ⟨(some 21), .faddr 6 (.t 20), none⟩, ⟨(some 22), .faddr 1 (.t 21), none⟩, ⟨(some 23), .load none (.t 22), none⟩, ⟨(some 2), .mov (.t 18), none⟩, ⟨(some 3), .mov (.t 23), none⟩, ⟨(some 4), .mov (.c (.lit (.bool true))), none⟩] [0, 0, 0, 0, 2, 0, 0, 0, 0, 2, 0, 0, 0] []) (
 .ret))), false⟩

/-- (*azimuth/solve.Solver).any -/
def C_p_solve_Solver_any (N : Nat → Nat) : AFunc := ⟨31, [.inl 2, .inl 3],
 .seq (
  .ops [⟨(some 2), .mov (.c (.lit (.int .i64 0))), none⟩, ⟨(some 3), .mov (.c (.lit (.int .i64 0))), none⟩]) (
 .seq (
  .seq (
   .ops [⟨(some 6), .mov (.t 0), none⟩, ⟨(some 7), .nilchk (.t 6), none⟩, ⟨(some 8), .faddr 3 (.t 7), none⟩, ⟨(some 9), .load none (.t 8), none⟩, ⟨(some 10), .bin .lss (.t 9) (.c (.lit (.int .i64 0))), none⟩]) (
  .cond (.t 10) (
   .seq (
    .ops [⟨(some 12), .mov (.t 0), none⟩, ⟨(some 13), .nilchk (.t 12), none⟩, ⟨(some 14), .faddr 0 (.t 13), none⟩, ⟨(some 15), .load none (.t 14), none⟩, ⟨(some 16), .build [(.lit (.int .i64 0)), (.lit (.slice none 0 0)), (.lit (.slice none 0 0)), (.lit (.bool false))] [(0, 1, (.c (.lit (.int .i64 5))))], none⟩, ⟨(some 17), .call (.c (.fn (f_p_arena_Arena_Head N) [] [])) [(.t 15), (.t 16)], none⟩, ⟨(some 11), .mov (.t 17), none⟩, ⟨(some 18), .extract (.t 11) 0, none⟩, ⟨(some 19), .extract (.t 11) 1, none⟩, ⟨(some 4), .mov (.t 18), none⟩, ⟨(some 5), .mov (.t 19), none⟩]) (
   .seq (
    .seq (
     .ops [⟨(some 20), .mov (.t 5), none⟩, ⟨(some 21), .eq true .pint (.t 20) (.c (.lit (.int .i64 0))), none⟩]) (
    .cond (.t 21) (
     .seq (
      .ops [⟨(some 22), .mov (.t 5), none⟩, ⟨(some 2), .mov (.c (.lit (.int .i64 0))), none⟩, ⟨(some 3), .mov (.t 22), none⟩]) (
     .ret)) (
     .skip))) (
   .ops [⟨(some 23), .mov (.t 0), none⟩, ⟨(some 24), .mov (.t 4), none⟩, ⟨(some 25), .nilchk (.t 23), none⟩, ⟨(some 26), .faddr 3 (.t 25), none⟩, ⟨none, .store 1 (.t 26) (.t 24), none⟩]))) (
   .skip))) (
 .seq (
  .ops [⟨(some 27), .mov (.t 0), none⟩, ⟨(some 28), .nilchk (.t 27), none⟩, ⟨(some 29), .faddr 3 (.t 28), none⟩, ⟨(some 30), .load none (.t 29), none⟩, ⟨(some 2), .mov (.t 30), none⟩, ⟨(some 3), .mov (.c (.lit (.int .i64 0))), none⟩]) (
 .ret))), false⟩

/-- (*azimuth/solve.Solver).ask -/
def C_p_solve_Solver_ask (N : Nat → Nat) : AFunc := ⟨37, [],
 .seq (
  .ops [⟨(some 7), .mov (.t 1), none⟩, ⟨(some 8), .mov (.t 2), none⟩, ⟨(some 9), .build [(.lit (.int .i64 0)), (.lit (.int .i64 0))] [(0, 1, (.t 7)), (1, 1, (.t 8))], none⟩, ⟨(some 6), .new (t_solve_claim N) (.agg [(.lit (.int .i64 0)), (.lit (.int .i64 0))]), none⟩, ⟨none, .store 2 (.t 6) (.t 9), none⟩]) (
 .seq (
  .dops 1 [⟨(some 10), .mov (.t 1), none⟩, ⟨(some 11), .mov (.t 2), none⟩, ⟨(some 12), .eq true .pint (.t 10) (.t 11), none⟩, ⟨(some 13), .mov (.t 12), none⟩, ⟨(some 14), .mov (.t 0), (some (13, true))⟩, ⟨(some 15), .nilchk (.t 14), (some (13, true))⟩, ⟨(some 16), .faddr 1 (.t 15), (some (13, true))⟩, ⟨(some 17), .load none (.t 16), (some (13, true))⟩, ⟨(some 18), .load (some 2) (.t 6), (some (13, true))⟩, ⟨(some 19), .lookup (.agg (.struct [(0, none, .pint), (1, none, .pint)])) (.lit (.bool false)) (.t 17) (.t 18) false, (some (13, true))⟩, ⟨(some 20), .un .not (.t 19), (some (13, true))⟩, ⟨(some 21), .pick (.t 13) (.t 20) (.c (.lit (.bool false))), none⟩] [0, 0, 0, 0, 0, 0, 0, 2, 2, 0, 0, 0] []) (
 .cond (.t 21) (
  .seq (
   .dops 2 [⟨(some 22), .mov (.t 0), none⟩, ⟨(some 23), .nilchk (.t 22), none⟩, ⟨(some 24), .faddr 1 (.t 23), none⟩, ⟨(some 25), .load none (.t 24), none⟩, ⟨(some 26), .load (some 2) (.t 6), none⟩, ⟨none, .mapupd (.agg (.struct [(0, none, .pint), (1, none, .pint)])) (.t 25) (.t 26) (.c (.lit (.bool true))), none⟩] [0, 0, 0, 2, 2, 0] []) (
  .dops 3 [⟨(some 27), .mov (.t 0), none⟩, ⟨(some 28), .mov (.t 0), none⟩, ⟨(some 29), .nilchk (.t 28), none⟩, ⟨(some 30), .faddr 2 (.t 29), none⟩, ⟨(some 31), .load none (.t 30), none⟩, ⟨(some 32), .load (some 2) (.t 6), none⟩, ⟨(some 33), .bslice (t_solve_claim N) 2 (some 2) 1 [(.lit (.int .i64 0)), (.lit (.int .i64 0))] [(0, 2, (.t 32))], none⟩, ⟨(some 34), .append (t_solve_claim N) 2 16 (.t 31) (.t 33), none⟩, ⟨(some 35), .nilchk (.t 27), none⟩, ⟨(some 36), .faddr 2 (.t 35), none⟩, ⟨none, .store 1 (.t 36) (.t 34), none⟩] [0, 0, 0, 0, 2, 2, 1, 0, 0, 0, 0] [])) (
  .skip))), false⟩

def L_p_solve_Solver_bind_1 (N : Nat → Nat) : AC :=
    .seq (
     .ops [⟨(some 72), .bin .lss (.t 71) (.t 70), none⟩]) (
    .seq (
     .cond (.t 72) (
      .skip) (
      .exit 0)) (
    .seq (
     .block 1 (
      .seq (
       .ops [⟨(some 73), .iaddr 1 (.t 69) (.t 71), none⟩, ⟨(some 74), .load none (.t 73), none⟩, ⟨(some 13), .mov (.t 74), none⟩]) (
      .seq (
       .ops [⟨(some 75), .mov (.t 3), none⟩]) (
      .cond (.t 75) (
       .ops [⟨(some 76), .mov (.t 0), none⟩, ⟨(some 77), .mov (.t 13), none⟩, ⟨(some 78), .mov (.t 2), none⟩, ⟨(some 79), .call (.c (.fn (f_p_solve_Solver_ask N) [] [])) [(.t 76), (.t 77), (.t 78)], none⟩]) (
       .ops [⟨(some 80), .mov (.t 0), none⟩, ⟨(some 81), .mov (.t 2), none⟩, ⟨(some 82), .mov (.t 13), none⟩, ⟨(some 83), .call (.c (.fn (f_p_solve_Solver_ask N) [] [])) [(.t 80), (.t 81), (.t 82)], none⟩]))))) (
    .ops [⟨(some 84), .bin .add (.t 71) (.c (.lit (.int .i64 1))), none⟩, ⟨(some 71), .mov (.t 84), none⟩])))
def K_p_solve_Solver_bind_1 (N : Nat → Nat) : AC :=
 .seq (
  .ops [⟨(some 8), .mov (.c (.lit (.int .i64 0))), none⟩]) (
 .ret)
/-- (*azimuth/solve.Solver).bind -/
def C_p_solve_Solver_bind (N : Nat → Nat) : AFunc := ⟨85, [.inl 8],
 .seq (
  .ops [⟨(some 8), .mov (.c (.lit (.int .i64 0))), none⟩]) (
 .seq (
  .seq (
   .dops 1 [⟨(some 14), .mov (.t 0), none⟩, ⟨(some 15), .nilchk (.t 14), none⟩, ⟨(some 16), .faddr 0 (.t 15), none⟩, ⟨(some 17), .load none (.t 16), none⟩, ⟨(some 18), .mov (.t 2), none⟩, ⟨(some 20), .mov (.t 0), none⟩, ⟨(some 21), .nilchk (.t 20), none⟩, ⟨(some 22), .faddr 0 (.t 21), none⟩, ⟨(some 23), .load none (.t 22), none⟩, ⟨(some 24), .mov (.t 1), none⟩, ⟨(some 19), .call (.c (.fn (f_p_arena_Arena_Level N) [] [])) [(.t 17), (.t 18)], none⟩, ⟨(some 25), .call (.c (.fn (f_p_arena_Arena_Level N) [] [])) [(.t 23), (.t 24)], none⟩, ⟨(some 26), .bin .gtr (.t 19) (.t 25), none⟩] [0, 0, 0, 2, 0, 0, 0, 0, 2, 0, 1, 0, 0] []) (
  .cond (.t 26) (
   .seq (
    .dops 2 [⟨(some 28), .mov (.t 0), none⟩, ⟨(some 29), .nilchk (.t 28), none⟩, ⟨(some 30), .faddr 0 (.t 29), none⟩, ⟨(some 31), .load none (.t 30), none⟩, ⟨(some 32), .mov (.t 2), none⟩, ⟨(some 33), .mov (.t 0), none⟩, ⟨(some 34), .nilchk (.t 33), none⟩, ⟨(some 35), .faddr 0 (.t 34), none⟩, ⟨(some 36), .load none (.t 35), none⟩, ⟨(some 37), .mov (.t 1), none⟩, ⟨(some 38), .call (.c (.fn (f_p_arena_Arena_Level N) [] [])) [(.t 36), (.t 37)], none⟩, ⟨(some 39), .mov (.t 3), none⟩, ⟨(some 40), .un .not (.t 39), none⟩, ⟨(some 41), .call (.c (.fn (f_solve_Raise N) [] [])) [(.t 31), (.t 32), (.t 38), (.t 40)], none⟩, ⟨(some 27), .mov (.t 41), none⟩, ⟨(some 42), .extract (.t 27) 0, none⟩, ⟨(some 43), .extract (.t 27) 1, none⟩, ⟨(some 9), .mov (.t 42), none⟩, ⟨(some 10), .mov (.t 43), none⟩] [0, 0, 0, 2, 0, 0, 0, 0, 2, 0, 1, 0, 0, 0, 0, 0, 0, 0, 0] []) (
   .seq (
    .seq (
     .ops [⟨(some 44), .mov (.t 10), none⟩, ⟨(some 45), .eq true .pint (.t 44) (.c (.lit (.int .i64 0))), none⟩]) (
    .cond (.t 45) (
     .seq (
      .ops [⟨(some 46), .mov (.t 10), none⟩, ⟨(some 8), .mov (.t 46), none⟩]) (
     .ret)) (
     .skip))) (
   .ops [⟨(some 47), .mov (.t 9), none⟩, ⟨(some 2), .mov (.t 47), none⟩]))) (
   .skip))) (
 .seq (
  .ops [⟨(some 48), .mov (.t 0), none⟩, ⟨(some 49), .nilchk (.t 48), none⟩, ⟨(some 50), .faddr 0 (.t 49), none⟩, ⟨(some 51), .load none (.t 50), none⟩, ⟨(some 52), .mov (.t 1), none⟩, ⟨(some 53), .mov (.t 2), none⟩, ⟨(some 54), .mov (.t 3), none⟩, ⟨(some 55), .call (.c (.fn (f_p_arena_Arena_Bound N) [] [])) [(.t 51), (.t 52), (.t 53), (.t 54)], none⟩]) (
 .seq (
  .ops [⟨(some 56), .mov (.t 0), none⟩, ⟨(some 57), .nilchk (.t 56), none⟩, ⟨(some 58), .faddr 0 (.t 57), none⟩, ⟨(some 59), .load none (.t 58), none⟩, ⟨(some 60), .mov (.t 1), none⟩, ⟨(some 61), .call (.c (.fn (f_p_arena_Arena_High N) [] [])) [(.t 59), (.t 60)], none⟩, ⟨(some 11), .mov (.t 61), none⟩]) (
 .seq (
  .seq (
   .ops [⟨(some 62), .mov (.t 3), none⟩]) (
  .cond (.t 62) (
   .ops [⟨(some 63), .mov (.t 0), none⟩, ⟨(some 64), .nilchk (.t 63), none⟩, ⟨(some 65), .faddr 0 (.t 64), none⟩, ⟨(some 66), .load none (.t 65), none⟩, ⟨(some 67), .mov (.t 1), none⟩, ⟨(some 68), .call (.c (.fn (f_p_arena_Arena_Low N) [] [])) [(.t 66), (.t 67)], none⟩, ⟨(some 11), .mov (.t 68), none⟩]) (
   .skip))) (
 .seq (
  .seq (
   .ops [⟨(some 69), .mov (.t 11), none⟩, ⟨(some 70), .len (.t 69), none⟩, ⟨(some 71), .mov (.c (.lit (.int .i64 0))), none⟩]) (
  .block 0 (
   .loop (L_p_solve_Solver_bind_1 N)))) (K_p_solve_Solver_bind_1 N)))))), false⟩

def L_p_solve_Solver_heads_1 (N : Nat → Nat) : AC :=
          .seq (
           .ops [⟨(some 65), .bin .lss (.t 64) (.t 63), none⟩]) (
          .seq (
           .cond (.t 65) (
            .skip) (
            .exit 1)) (
          .seq (
           .block 2 (
            .seq (
             .ops [⟨(some 66), .mov (.t 64), none⟩, ⟨(some 67), .iaddr 1 (.t 62) (.t 64), none⟩, ⟨(some 68), .load none (.t 67), none⟩, ⟨(some 7), .mov (.t 66), none⟩, ⟨(some 8), .mov (.t 68), none⟩]) (
            .seq (
             .ops [⟨(some 69), .load (some 4) (.t 4), none⟩, ⟨(some 70), .mov (.t 8), none⟩, ⟨(some 71), .call (.c (.fn (f_solve_kid N) [] [])) [(.t 69), (.t 70)], none⟩, ⟨(some 9), .mov (.t 71), none⟩]) (
            .seq (
             .seq (
              .ops [⟨(some 72), .mov (.t 9), none⟩, ⟨(some 73), .bin .lss (.t 72) (.c (.lit (.int .i64 0))), none⟩]) (
             .cond (.t 73) (
              .seq (
               .ops [⟨(some 6), .mov (.c (.lit (.int .i64 10))), none⟩]) (
              .ret)) (
              .skip))) (
            .ops [⟨(some 74), .mov (.t 0), none⟩, ⟨(some 75), .mov (.t 9), none⟩, ⟨(some 76), .faddr 2 (.t 5), none⟩, ⟨(some 77), .load none (.t 76), none⟩, ⟨(some 78), .mov (.t 7), none⟩, ⟨(some 79), .iaddr 1 (.t 77) (.t 78), none⟩, ⟨(some 80), .load none (.t 79), none⟩, ⟨(some 81), .call (.c (.fn (f_p_solve_Solver_ask N) [] [])) [(.t 74), (.t 75), (.t 80)], none⟩]))))) (
          .ops [⟨(some 82), .bin .add (.t 64) (.c (.lit (.int .i64 1))), none⟩, ⟨(some 64), .mov (.t 82), none⟩])))
def K_p_solve_Solver_heads_1 (N : Nat → Nat) : AC :=
 .seq (
  .ops [⟨(some 6), .mov (.c (.lit (.int .i64 0))), none⟩]) (
 .ret)
/-- (*azimuth/solve.Solver).heads -/
def C_p_solve_Solver_heads (N : Nat → Nat) : AFunc := ⟨83, [.inl 6],
 .seq (
  .ops [⟨(some 4), .box (t_api_Head N) (.t 1), none⟩, ⟨(some 5), .box (t_api_Head N) (.t 2), none⟩, ⟨(some 6), .mov (.c (.lit (.int .i64 0))), none⟩]) (
 .seq (
  .block 0 (
   .seq (
    .ops [⟨(some 11), .faddr 0 (.t 4), none⟩, ⟨(some 12), .load none (.t 11), none⟩, ⟨(some 13), .eq false .pint (.t 12) (.c (.lit (.int .i64 6))), none⟩, ⟨(some 14), .mov (.t 13), none⟩, ⟨(some 15), .faddr 0 (.t 5), (some (14, false))⟩, ⟨(some 16), .load none (.t 15), (some (14, false))⟩, ⟨(some 17), .eq false .pint (.t 16) (.c (.lit (.int .i64 5))), (some (14, false))⟩, ⟨(some 18), .pick (.t 14) (.c (.lit (.bool true))) (.t 17), none⟩, ⟨(some 10), .mov (.t 18), none⟩]) (
   .cond (.t 10) (
    .seq (
     .ops [⟨(some 6), .mov (.c (.lit (.int .i64 0))), none⟩]) (
    .ret)) (
    .seq (
     .ops [⟨(some 20), .faddr 0 (.t 4), none⟩, ⟨(some 21), .load none (.t 20), none⟩, ⟨(some 22), .faddr 0 (.t 5), none⟩, ⟨(some 23), .load none (.t 22), none⟩, ⟨(some 24), .eq true .pint (.t 21) (.t 23), none⟩, ⟨(some 19), .mov (.t 24), none⟩]) (
    .cond (.t 19) (
     .seq (
      .ops [⟨(some 6), .mov (.c (.lit (.int .i64 10))), none⟩]) (
     .ret)) (
     .seq (
      .ops [⟨(some 26), .faddr 0 (.t 4), none⟩, ⟨(some 27), .load none (.t 26), none⟩, ⟨(some 28), .eq false .pint (.t 27) (.c (.lit (.int .i64 7))), none⟩, ⟨(some 25), .mov (.t 28), none⟩]) (
     .cond (.t 25) (
      .seq (
       .dops 6 [⟨(some 29), .mov (.t 0), none⟩, ⟨(some 30), .faddr 2 (.t 5), none⟩, ⟨(some 31), .load none (.t 30), none⟩, ⟨(some 32), .iaddr 1 (.t 31) (.c (.lit (.int .i64 0))), none⟩, ⟨(some 33), .load none (.t 32), none⟩, ⟨(some 34), .faddr 2 (.t 4), none⟩, ⟨(some 35), .load none (.t 34), none⟩, ⟨(some 36), .iaddr 1 (.t 35) (.c (.lit (.int .i64 0))), none⟩, ⟨(some 37), .load none (.t 36), none⟩, ⟨(some 38), .call (.c (.fn (f_p_solve_Solver_ask N) [] [])) [(.t 29), (.t 33), (.t 37)], none⟩] [0, 0, 2, 0, 2, 0, 2, 0, 2, 0] []) (
      .dops 7 [⟨(some 39), .mov (.t 0), none⟩, ⟨(some 40), .faddr 2 (.t 4), none⟩, ⟨(some 41), .load none (.t 40), none⟩, ⟨(some 42), .iaddr 1 (.t 41) (.c (.lit (.int .i64 1))), none⟩, ⟨(some 43), .load none (.t 42), none⟩, ⟨(some 44), .faddr 2 (.t 5), none⟩, ⟨(some 45), .load none (.t 44), none⟩, ⟨(some 46), .iaddr 1 (.t 45) (.c (.lit (.int .i64 1))), none⟩, ⟨(some 47), .load none (.t 46), none⟩, ⟨(some 48), .call (.c (.fn (f_p_solve_Solver_ask N) [] [])) [(.t 39), (.t 43), (.t 47)], none⟩] [0, 0, 2, 0, 2, 0, 2, 0, 2, 0] [])) (
      .seq (
       .ops [⟨(some 50), .faddr 0 (.t 4), none⟩, ⟨(some 51), .load none (.t 50), none⟩, ⟨(some 52), .eq false .pint (.t 51) (.c (.lit (.int .i64 9))), none⟩, ⟨(some 49), .mov (.t 52), none⟩]) (
      .cond (.t 49) (
       .seq (
        .ops [⟨(some 53), .mov (.t 0), none⟩, ⟨(some 54), .load (some 4) (.t 4), none⟩, ⟨(some 55), .load (some 4) (.t 5), none⟩, ⟨(some 56), .call (.c (.fn (f_p_solve_Solver_variants N) [] [])) [(.t 53), (.t 54), (.t 55)], none⟩, ⟨(some 6), .mov (.t 56), none⟩]) (
       .ret)) (
       .seq (
        .ops [⟨(some 58), .faddr 0 (.t 4), none⟩, ⟨(some 59), .load none (.t 58), none⟩, ⟨(some 60), .eq false .pint (.t 59) (.c (.lit (.int .i64 8))), none⟩, ⟨(some 57), .mov (.t 60), none⟩]) (
       .cond (.t 57) (
        .seq (
         .ops [⟨(some 61), .faddr 1 (.t 5), none⟩, ⟨(some 62), .load none (.t 61), none⟩, ⟨(some 63), .len (.t 62), none⟩, ⟨(some 64), .mov (.c (.lit (.int .i64 0))), none⟩]) (
        .block 1 (
         .loop (L_p_solve_Solver_heads_1 N)))) (
        .skip)))))))))))) (K_p_solve_Solver_heads_1 N)), false⟩

/-- (*azimuth/solve.Solver).step -/
def C_p_solve_Solver_step (N : Nat → Nat) : AFunc := ⟨94, [.inl 4],
 .seq (
  .ops [⟨(some 3), .box (t_solve_claim N) (.t 1), none⟩, ⟨(some 4), .mov (.c (.lit (.int .i64 0))), none⟩]) (
 .seq (
  .dops 1 [⟨(some 12), .mov (.t 0), none⟩, ⟨(some 13), .nilchk (.t 12), none⟩, ⟨(some 14), .faddr 0 (.t 13), none⟩, ⟨(some 15), .load none (.t 14), none⟩, ⟨(some 16), .faddr 0 (.t 3), none⟩, ⟨(some 17), .load none (.t 16), none⟩, ⟨(some 19), .mov (.t 0), none⟩, ⟨(some 20), .nilchk (.t 19), none⟩, ⟨(some 21), .faddr 0 (.t 20), none⟩, ⟨(some 22), .load none (.t 21), none⟩, ⟨(some 23), .faddr 1 (.t 3), none⟩, ⟨(some 24), .load none (.t 23), none⟩, ⟨(some 18), .call (.c (.fn (f_p_arena_Arena_IsVar N) [] [])) [(.t 15), (.t 17)], none⟩, ⟨(some 25), .call (.c (.fn (f_p_arena_Arena_IsVar N) [] [])) [(.t 22), (.t 24)], none⟩, ⟨(some 5), .mov (.t 18), none⟩, ⟨(some 6), .mov (.t 25), none⟩] [0, 0, 0, 2, 0, 2, 0, 0, 0, 2, 0, 2, 1, 0, 0, 0] []) (
 .seq (
  .block 0 (
   .seq (
    .dops 2 [⟨(some 27), .mov (.t 5), none⟩, ⟨(some 28), .mov (.t 27), none⟩, ⟨(some 29), .mov (.t 6), (some (28, true))⟩, ⟨(some 30), .un .not (.t 29), (some (28, true))⟩, ⟨(some 31), .mov (.t 30), (some (28, true))⟩, ⟨(some 32), .mov (.t 0), (some (31, false))⟩, ⟨(some 33), .nilchk (.t 32), (some (31, false))⟩, ⟨(some 34), .faddr 0 (.t 33), (some (31, false))⟩, ⟨(some 35), .load none (.t 34), (some (31, false))⟩, ⟨(some 36), .faddr 1 (.t 3), (some (31, false))⟩, ⟨(some 37), .load none (.t 36), (some (31, false))⟩, ⟨(some 39), .mov (.t 0), (some (31, false))⟩, ⟨(some 40), .nilchk (.t 39), (some (31, false))⟩, ⟨(some 41), .faddr 0 (.t 40), (some (31, false))⟩, ⟨(some 42), .load none (.t 41), (some (31, false))⟩, ⟨(some 43), .faddr 0 (.t 3), (some (31, false))⟩, ⟨(some 44), .load none (.t 43), (some (31, false))⟩, ⟨(some 38), .call (.c (.fn (f_p_arena_Arena_Level N) [] [])) [(.t 35), (.t 37)], (some (31, false))⟩, ⟨(some 45), .call (.c (.fn (f_p_arena_Arena_Level N) [] [])) [(.t 42), (.t 44)], (some (31, false))⟩, ⟨(some 46), .bin .leq (.t 38) (.t 45), (some (31, false))⟩, ⟨(some 47), .pick (.t 31) (.c (.lit (.bool true))) (.t 46), (some (28, true))⟩, ⟨(some 48), .pick (.t 28) (.t 47) (.c (.lit (.bool false))), none⟩, ⟨(some 26), .mov (.t 48), none⟩] [0, 0, 0, 0, 0, 0, 0, 0, 2, 0, 2, 0, 0, 0, 2, 0, 2, 1, 0, 0, 0, 0, 0] []) (
   .cond (.t 26) (
    .seq (
     .ops [⟨(some 49), .mov (.t 0), none⟩, ⟨(some 50), .faddr 0 (.t 3), none⟩, ⟨(some 51), .load none (.t 50), none⟩, ⟨(some 52), .faddr 1 (.t 3), none⟩, ⟨(some 53), .load none (.t 52), none⟩, ⟨(some 54), .call (.c (.fn (f_p_solve_Solver_bind N) [] [])) [(.t 49), (.t 51), (.t 53), (.c (.lit (.bool true)))], none⟩, ⟨(some 4), .mov (.t 54), none⟩]) (
    .ret)) (
    .seq (
     .ops [⟨(some 56), .mov (.t 6), none⟩, ⟨(some 55), .mov (.t 56), none⟩]) (
    .cond (.t 55) (
     .seq (
      .ops [⟨(some 57), .mov (.t 0), none⟩, ⟨(some 58), .faddr 1 (.t 3), none⟩, ⟨(some 59), .load none (.t 58), none⟩, ⟨(some 60), .faddr 0 (.t 3), none⟩, ⟨(some 61), .load none (.t 60), none⟩, ⟨(some 62), .call (.c (.fn (f_p_solve_Solver_bind N) [] [])) [(.t 57), (.t 59), (.t 61), (.c (.lit (.bool false)))], none⟩, ⟨(some 4), .mov (.t 62), none⟩]) (
     .ret)) (
     .skip)))))) (
 .seq (
  .dops 6 [⟨(some 64), .mov (.t 0), none⟩, ⟨(some 65), .nilchk (.t 64), none⟩, ⟨(some 66), .faddr 0 (.t 65), none⟩, ⟨(some 67), .load none (.t 66), none⟩, ⟨(some 68), .faddr 0 (.t 3), none⟩, ⟨(some 69), .load none (.t 68), none⟩, ⟨(some 70), .call (.c (.fn (f_p_arena_Arena_At N) [] [])) [(.t 67), (.t 69)], none⟩, ⟨(some 63), .mov (.t 70), none⟩, ⟨(some 71), .extract (.t 63) 0, none⟩, ⟨(some 72), .extract (.t 63) 1, none⟩, ⟨(some 7), .new (t_api_Head N) (.agg [(.lit (.int .i64 0)), (.lit (.slice none 0 0)), (.lit (.slice none 0 0)), (.lit (.bool false))]), none⟩, ⟨none, .store 4 (.t 7) (.t 71), none⟩, ⟨(some 8), .mov (.t 72), none⟩] [0, 0, 0, 2, 0, 2, 0, 0, 0, 0, 1, 0, 0] []) (
 .seq (
  .dops 7 [⟨(some 74), .mov (.t 0), none⟩, ⟨(some 75), .nilchk (.t 74), none⟩, ⟨(some 76), .faddr 0 (.t 75), none⟩, ⟨(some 77), .load none (.t 76), none⟩, ⟨(some 78), .faddr 1 (.t 3), none⟩, ⟨(some 79), .load none (.t 78), none⟩, ⟨(some 80), .call (.c (.fn (f_p_arena_Arena_At N) [] [])) [(.t 77), (.t 79)], none⟩, ⟨(some 73), .mov (.t 80), none⟩, ⟨(some 81), .extract (.t 73) 0, none⟩, ⟨(some 82), .extract (.t 73) 1, none⟩, ⟨(some 9), .new (t_api_Head N) (.agg [(.lit (.int .i64 0)), (.lit (.slice none 0 0)), (.lit (.slice none 0 0)), (.lit (.bool false))]), none⟩, ⟨none, .store 4 (.t 9) (.t 81), none⟩, ⟨(some 10), .mov (.t 82), none⟩] [0, 0, 0, 2, 0, 2, 0, 0, 0, 0, 1, 0, 0] []) (
 .seq (
  .ops [⟨(some 83), .mov (.t 0), none⟩, ⟨(some 84), .load (some 4) (.t 7), none⟩, ⟨(some 85), .load (some 4) (.t 9), none⟩, ⟨(some 86), .call (.c (.fn (f_p_solve_Solver_heads N) [] [])) [(.t 83), (.t 84), (.t 85)], none⟩, ⟨(some 11), .mov (.t 86), none⟩]) (
 .seq (
  .seq (
   .ops [⟨(some 87), .mov (.t 11), none⟩, ⟨(some 88), .eq false .pint (.t 87) (.c (.lit (.int .i64 10))), none⟩]) (
  .cond (.t 88) (
   .ops [⟨(some 89), .mov (.t 0), none⟩, ⟨(some 90), .load (some 2) (.t 3), none⟩, ⟨(some 91), .nilchk (.t 89), none⟩, ⟨(some 92), .faddr 6 (.t 91), none⟩, ⟨none, .store 2 (.t 92) (.t 90), none⟩]) (
   .skip))) (
 .seq (
  .ops [⟨(some 93), .mov (.t 11), none⟩, ⟨(some 4), .mov (.t 93), none⟩]) (
 .ret)))))))), false⟩

def L_p_solve_Solver_variants_1 (N : Nat → Nat) : AC :=
    .seq (
     .ops [⟨(some 25), .bin .lss (.t 24) (.t 23), none⟩]) (
    .seq (
     .cond (.t 25) (
      .skip) (
      .exit 0)) (
    .seq (
     .block 1 (
      .seq (
       .ops [⟨(some 26), .mov (.t 24), none⟩, ⟨(some 27), .iaddr 1 (.t 22) (.t 24), none⟩, ⟨(some 28), .load none (.t 27), none⟩, ⟨(some 7), .mov (.t 26), none⟩, ⟨(some 8), .mov (.t 28), none⟩]) (
      .seq (
       .ops [⟨(some 29), .load (some 4) (.t 5), none⟩, ⟨(some 30), .mov (.t 8), none⟩, ⟨(some 31), .call (.c (.fn (f_solve_kid N) [] [])) [(.t 29), (.t 30)], none⟩, ⟨(some 9), .mov (.t 31), none⟩]) (
      .seq (
       .seq (
        .ops [⟨(some 32), .mov (.t 9), none⟩, ⟨(some 33), .bin .lss (.t 32) (.c (.lit (.int .i64 0))), none⟩, ⟨(some 34), .mov (.t 33), none⟩, ⟨(some 35), .faddr 3 (.t 5), (some (34, true))⟩, ⟨(some 36), .load none (.t 35), (some (34, true))⟩, ⟨(some 37), .un .not (.t 36), (some (34, true))⟩, ⟨(some 38), .pick (.t 34) (.t 37) (.c (.lit (.bool false))), none⟩]) (
       .cond (.t 38) (
        .seq (
         .ops [⟨(some 6), .mov (.c (.lit (.int .i64 10))), none⟩]) (
        .ret)) (
        .skip))) (
      .seq (
       .ops [⟨(some 39), .mov (.t 9), none⟩, ⟨(some 40), .bin .geq (.t 39) (.c (.lit (.int .i64 0))), none⟩]) (
      .cond (.t 40) (
       .ops [⟨(some 41), .mov (.t 0), none⟩, ⟨(some 42), .faddr 2 (.t 4), none⟩, ⟨(some 43), .load none (.t 42), none⟩, ⟨(some 44), .mov (.t 7), none⟩, ⟨(some 45), .iaddr 1 (.t 43) (.t 44), none⟩, ⟨(some 46), .load none (.t 45), none⟩, ⟨(some 47), .mov (.t 9), none⟩, ⟨(some 48), .call (.c (.fn (f_p_solve_Solver_ask N) [] [])) [(.t 41), (.t 46), (.t 47)], none⟩]) (
       .skip))))))) (
    .ops [⟨(some 49), .bin .add (.t 24) (.c (.lit (.int .i64 1))), none⟩, ⟨(some 24), .mov (.t 49), none⟩])))
def L_p_solve_Solver_variants_2 (N : Nat → Nat) : AC :=
    .seq (
     .ops [⟨(some 54), .bin .lss (.t 53) (.t 52), none⟩]) (
    .seq (
     .cond (.t 54) (
      .skip) (
      .exit 2)) (
    .seq (
     .block 3 (
      .seq (
       .ops [⟨(some 55), .mov (.t 53), none⟩, ⟨(some 56), .iaddr 1 (.t 51) (.t 53), none⟩, ⟨(some 57), .load none (.t 56), none⟩, ⟨(some 10), .mov (.t 55), none⟩, ⟨(some 11), .mov (.t 57), none⟩]) (
      .seq (
       .seq (
        .ops [⟨(some 58), .faddr 3 (.t 4), none⟩, ⟨(some 59), .load none (.t 58), none⟩, ⟨(some 60), .un .not (.t 59), none⟩, ⟨(some 61), .mov (.t 60), none⟩, ⟨(some 62), .load (some 4) (.t 4), (some (61, false))⟩, ⟨(some 63), .mov (.t 11), (some (61, false))⟩, ⟨(some 64), .call (.c (.fn (f_solve_kid N) [] [])) [(.t 62), (.t 63)], (some (61, false))⟩, ⟨(some 65), .bin .geq (.t 64) (.c (.lit (.int .i64 0))), (some (61, false))⟩, ⟨(some 66), .pick (.t 61) (.c (.lit (.bool true))) (.t 65), none⟩]) (
       .cond (.t 66) (
        .exit 3) (
        .skip))) (
      .seq (
       .ops [⟨(some 68), .mov (.t 0), none⟩, ⟨(some 69), .call (.c (.fn (f_p_solve_Solver_any N) [] [])) [(.t 68)], none⟩, ⟨(some 67), .mov (.t 69), none⟩, ⟨(some 70), .extract (.t 67) 0, none⟩, ⟨(some 71), .extract (.t 67) 1, none⟩, ⟨(some 12), .mov (.t 70), none⟩, ⟨(some 13), .mov (.t 71), none⟩]) (
      .seq (
       .seq (
        .ops [⟨(some 72), .mov (.t 13), none⟩, ⟨(some 73), .eq true .pint (.t 72) (.c (.lit (.int .i64 0))), none⟩]) (
       .cond (.t 73) (
        .seq (
         .ops [⟨(some 74), .mov (.t 13), none⟩, ⟨(some 6), .mov (.t 74), none⟩]) (
        .ret)) (
        .skip))) (
      .ops [⟨(some 75), .mov (.t 0), none⟩, ⟨(some 76), .mov (.t 12), none⟩, ⟨(some 77), .faddr 2 (.t 5), none⟩, ⟨(some 78), .load none (.t 77), none⟩, ⟨(some 79), .mov (.t 10), none⟩, ⟨(some 80), .iaddr 1 (.t 78) (.t 79), none⟩, ⟨(some 81), .load none (.t 80), none⟩, ⟨(some 82), .call (.c (.fn (f_p_solve_Solver_ask N) [] [])) [(.t 75), (.t 76), (.t 81)], none⟩])))))) (
    .ops [⟨(some 83), .bin .add (.t 53) (.c (.lit (.int .i64 1))), none⟩, ⟨(some 53), .mov (.t 83), none⟩])))
def K_p_solve_Solver_variants_2 (N : Nat → Nat) : AC :=
 .seq (
  .ops [⟨(some 6), .mov (.c (.lit (.int .i64 0))), none⟩]) (
 .ret)
def K_p_solve_Solver_variants_1 (N : Nat → Nat) : AC :=
 .seq (
  .seq (
   .ops [⟨(some 50), .faddr 1 (.t 5), none⟩, ⟨(some 51), .load none (.t 50), none⟩, ⟨(some 52), .len (.t 51), none⟩, ⟨(some 53), .mov (.c (.lit (.int .i64 0))), none⟩]) (
  .block 2 (
   .loop (L_p_solve_Solver_variants_2 N)))) (K_p_solve_Solver_variants_2 N)
/-- (*azimuth/solve.Solver).variants -/
def C_p_solve_Solver_variants (N : Nat → Nat) : AFunc := ⟨84, [.inl 6],
 .seq (
  .ops [⟨(some 4), .box (t_api_Head N) (.t 1), none⟩, ⟨(some 5), .box (t_api_Head N) (.t 2), none⟩, ⟨(some 6), .mov (.c (.lit (.int .i64 0))), none⟩]) (
 .seq (
  .seq (
   .ops [⟨(some 14), .faddr 3 (.t 4), none⟩, ⟨(some 15), .load none (.t 14), none⟩, ⟨(some 16), .mov (.t 15), none⟩, ⟨(some 17), .faddr 3 (.t 5), (some (16, true))⟩, ⟨(some 18), .load none (.t 17), (some (16, true))⟩, ⟨(some 19), .un .not (.t 18), (some (16, true))⟩, ⟨(some 20), .pick (.t 16) (.t 19) (.c (.lit (.bool false))), none⟩]) (
  .cond (.t 20) (
   .seq (
    .ops [⟨(some 6), .mov (.c (.lit (.int .i64 10))), none⟩]) (
   .ret)) (
   .skip))) (
 .seq (
  .seq (
   .ops [⟨(some 21), .faddr 1 (.t 4), none⟩, ⟨(some 22), .load none (.t 21), none⟩, ⟨(some 23), .len (.t 22), none⟩, ⟨(some 24), .mov (.c (.lit (.int .i64 0))), none⟩]) (
  .block 0 (
   .loop (L_p_solve_Solver_variants_1 N)))) (K_p_solve_Solver_variants_1 N))), false⟩

def L_p_solve_raiser_part_1 (N : Nat → Nat) : AC :=
    .seq (
     .ops [⟨(some 51), .bin .lss (.t 50) (.t 49), none⟩]) (
    .seq (
     .cond (.t 51) (
      .skip) (
      .exit 0)) (
    .seq (
     .block 1 (
      .seq (
       .ops [⟨(some 52), .mov (.t 50), none⟩, ⟨(some 53), .iaddr 1 (.t 48) (.t 50), none⟩, ⟨(some 54), .load none (.t 53), none⟩, ⟨(some 10), .mov (.t 52), none⟩, ⟨(some 11), .mov (.t 54), none⟩]) (
      .seq (
       .ops [⟨(some 56), .mov (.t 0), none⟩, ⟨(some 57), .mov (.t 11), none⟩, ⟨(some 58), .mov (.t 2), none⟩, ⟨(some 59), .faddr 0 (.t 8), none⟩, ⟨(some 60), .load none (.t 59), none⟩, ⟨(some 61), .eq false .pint (.t 60) (.c (.lit (.int .i64 7))), none⟩, ⟨(some 62), .mov (.t 61), none⟩, ⟨(some 63), .mov (.t 10), (some (62, true))⟩, ⟨(some 64), .eq false .pint (.t 63) (.c (.lit (.int .i64 0))), (some (62, true))⟩, ⟨(some 65), .pick (.t 62) (.t 64) (.c (.lit (.bool false))), none⟩, ⟨(some 66), .eq true .pbool (.t 58) (.t 65), none⟩, ⟨(some 67), .call (.c (.fn (f_p_solve_raiser_part N) [] [])) [(.t 56), (.t 57), (.t 66)], none⟩, ⟨(some 55), .mov (.t 67), none⟩, ⟨(some 68), .extract (.t 55) 0, none⟩, ⟨(some 69), .extract (.t 55) 1, none⟩, ⟨(some 12), .mov (.t 68), none⟩, ⟨(some 13), .mov (.t 69), none⟩]) (
      .seq (
       .seq (
        .ops [⟨(some 70), .mov (.t 13), none⟩, ⟨(some 71), .eq true .pint (.t 70) (.c (.lit (.int .i64 0))), none⟩]) (
       .cond (.t 71) (
        .seq (
         .ops [⟨(some 72), .mov (.t 13), none⟩, ⟨(some 6), .mov (.c (.lit (.int .i64 0))), none⟩, ⟨(some 7), .mov (.t 72), none⟩]) (
        .ret)) (
        .skip))) (
      .ops [⟨(some 73), .faddr 2 (.t 8), none⟩, ⟨(some 74), .load none (.t 73), none⟩, ⟨(some 75), .mov (.t 10), none⟩, ⟨(some 76), .mov (.t 12), none⟩, ⟨(some 77), .iaddr 1 (.t 74) (.t 75), none⟩, ⟨none, .store 1 (.t 77) (.t 76), none⟩]))))) (
    .ops [⟨(some 78), .bin .add (.t 50) (.c (.lit (.int .i64 1))), none⟩, ⟨(some 50), .mov (.t 78), none⟩])))
def K_p_solve_raiser_part_1 (N : Nat → Nat) : AC :=
 .seq (
  .dops 14 [⟨(some 79), .mov (.t 0), none⟩, ⟨(some 80), .nilchk (.t 79), none⟩, ⟨(some 81), .faddr 0 (.t 80), none⟩, ⟨(some 82), .load none (.t 81), none⟩, ⟨(some 83), .load (some 4) (.t 8), none⟩, ⟨(some 84), .call (.c (.fn (f_p_arena_Arena_Head N) [] [])) [(.t 82), (.t 83)], none⟩, ⟨(some 85), .extract (.t 84) 0, none⟩, ⟨(some 86), .extract (.t 84) 1, none⟩, ⟨(some 6), .mov (.t 85), none⟩, ⟨(some 7), .mov (.t 86), none⟩] [0, 0, 0, 2, 2, 0, 0, 0, 0, 0] []) (
 .ret)
/-- (*azimuth/solve.raiser).part -/
def C_p_solve_raiser_part (N : Nat → Nat) : AFunc := ⟨87, [.inl 6, .inl 7],
 .seq (
  .ops [⟨(some 6), .mov (.c (.lit (.int .i64 0))), none⟩, ⟨(some 7), .mov (.c (.lit (.int .i64 0))), none⟩]) (
 .seq (
  .seq (
   .dops 1 [⟨(some 14), .mov (.t 0), none⟩, ⟨(some 15), .nilchk (.t 14), none⟩, ⟨(some 16), .faddr 0 (.t 15), none⟩, ⟨(some 17), .load none (.t 16), none⟩, ⟨(some 18), .mov (.t 1), none⟩, ⟨(some 20), .mov (.t 0), none⟩, ⟨(some 21), .nilchk (.t 20), none⟩, ⟨(some 22), .faddr 1 (.t 21), none⟩, ⟨(some 23), .load none (.t 22), none⟩, ⟨(some 19), .call (.c (.fn (f_p_arena_Arena_Level N) [] [])) [(.t 17), (.t 18)], none⟩, ⟨(some 24), .bin .leq (.t 19) (.t 23), none⟩] [0, 0, 0, 2, 0, 0, 0, 0, 2, 1, 0] []) (
  .cond (.t 24) (
   .seq (
    .ops [⟨(some 25), .mov (.t 1), none⟩, ⟨(some 6), .mov (.t 25), none⟩, ⟨(some 7), .mov (.c (.lit (.int .i64 0))), none⟩]) (
   .ret)) (
   .skip))) (
 .seq (
  .seq (
   .ops [⟨(some 26), .mov (.t 0), none⟩, ⟨(some 27), .nilchk (.t 26), none⟩, ⟨(some 28), .faddr 0 (.t 27), none⟩, ⟨(some 29), .load none (.t 28), none⟩, ⟨(some 30), .mov (.t 1), none⟩, ⟨(some 31), .call (.c (.fn (f_p_arena_Arena_IsVar N) [] [])) [(.t 29), (.t 30)], none⟩]) (
  .cond (.t 31) (
   .seq (
    .ops [⟨(some 32), .mov (.t 0), none⟩, ⟨(some 33), .mov (.t 1), none⟩, ⟨(some 34), .mov (.t 2), none⟩, ⟨(some 35), .call (.c (.fn (f_p_solve_raiser_variable N) [] [])) [(.t 32), (.t 33), (.t 34)], none⟩, ⟨(some 36), .extract (.t 35) 0, none⟩, ⟨(some 37), .extract (.t 35) 1, none⟩, ⟨(some 6), .mov (.t 36), none⟩, ⟨(some 7), .mov (.t 37), none⟩]) (
   .ret)) (
   .skip))) (
 .seq (
  .ops [⟨(some 39), .mov (.t 0), none⟩, ⟨(some 40), .nilchk (.t 39), none⟩, ⟨(some 41), .faddr 0 (.t 40), none⟩, ⟨(some 42), .load none (.t 41), none⟩, ⟨(some 43), .mov (.t 1), none⟩, ⟨(some 44), .call (.c (.fn (f_p_arena_Arena_At N) [] [])) [(.t 42), (.t 43)], none⟩, ⟨(some 38), .mov (.t 44), none⟩, ⟨(some 45), .extract (.t 38) 0, none⟩, ⟨(some 46), .extract (.t 38) 1, none⟩, ⟨(some 8), .new (t_api_Head N) (.agg [(.lit (.int .i64 0)), (.lit (.slice none 0 0)), (.lit (.slice none 0 0)), (.lit (.bool false))]), none⟩, ⟨none, .store 4 (.t 8) (.t 45), none⟩, ⟨(some 9), .mov (.t 46), none⟩]) (
 .seq (
  .seq (
   .ops [⟨(some 47), .faddr 2 (.t 8), none⟩, ⟨(some 48), .load none (.t 47), none⟩, ⟨(some 49), .len (.t 48), none⟩, ⟨(some 50), .mov (.c (.lit (.int .i64 0))), none⟩]) (
  .block 0 (
   .loop (L_p_solve_raiser_part_1 N)))) (K_p_solve_raiser_part_1 N))))), false⟩

def L_p_solve_raiser_variable_1 (N : Nat → Nat) : AC :=
    .seq (
     .ops [⟨(some 78), .bin .lss (.t 77) (.t 76), none⟩]) (
    .seq (
     .cond (.t 78) (
      .skip) (
      .exit 0)) (
    .seq (
     .block 1 (
      .seq (
       .ops [⟨(some 79), .iaddr 1 (.t 75) (.t 77), none⟩, ⟨(some 80), .load none (.t 79), none⟩, ⟨(some 15), .mov (.t 80), none⟩]) (
      .seq (
       .ops [⟨(some 82), .mov (.t 0), none⟩, ⟨(some 83), .mov (.t 15), none⟩, ⟨(some 84), .mov (.t 2), none⟩, ⟨(some 85), .call (.c (.fn (f_p_solve_raiser_part N) [] [])) [(.t 82), (.t 83), (.t 84)], none⟩, ⟨(some 81), .mov (.t 85), none⟩, ⟨(some 86), .extract (.t 81) 0, none⟩, ⟨(some 87), .extract (.t 81) 1, none⟩, ⟨(some 16), .mov (.t 86), none⟩, ⟨(some 17), .mov (.t 87), none⟩]) (
      .seq (
       .seq (
        .ops [⟨(some 88), .mov (.t 17), none⟩, ⟨(some 89), .eq true .pint (.t 88) (.c (.lit (.int .i64 0))), none⟩]) (
       .cond (.t 89) (
        .seq (
         .ops [⟨(some 90), .mov (.t 17), none⟩, ⟨(some 6), .mov (.c (.lit (.int .i64 0))), none⟩, ⟨(some 7), .mov (.t 90), none⟩]) (
        .ret)) (
        .skip))) (
      .ops [⟨(some 91), .mov (.t 0), none⟩, ⟨(some 92), .nilchk (.t 91), none⟩, ⟨(some 93), .faddr 0 (.t 92), none⟩, ⟨(some 94), .load none (.t 93), none⟩, ⟨(some 95), .mov (.t 11), none⟩, ⟨(some 96), .mov (.t 16), none⟩, ⟨(some 97), .mov (.t 2), none⟩, ⟨(some 98), .un .not (.t 97), none⟩, ⟨(some 99), .call (.c (.fn (f_p_arena_Arena_Bound N) [] [])) [(.t 94), (.t 95), (.t 96), (.t 98)], none⟩]))))) (
    .ops [⟨(some 100), .bin .add (.t 77) (.c (.lit (.int .i64 1))), none⟩, ⟨(some 77), .mov (.t 100), none⟩])))
def K_p_solve_raiser_variable_1 (N : Nat → Nat) : AC :=
 .seq (
  .ops [⟨(some 101), .mov (.t 11), none⟩, ⟨(some 6), .mov (.t 101), none⟩, ⟨(some 7), .mov (.c (.lit (.int .i64 0))), none⟩]) (
 .ret)
/-- (*azimuth/solve.raiser).variable -/
def C_p_solve_raiser_variable (N : Nat → Nat) : AFunc := ⟨102, [.inl 6, .inl 7],
 .seq (
  .ops [⟨(some 6), .mov (.c (.lit (.int .i64 0))), none⟩, ⟨(some 7), .mov (.c (.lit (.int .i64 0))), none⟩]) (
 .seq (
  .ops [⟨(some 18), .mov (.t 1), none⟩, ⟨(some 19), .mov (.t 2), none⟩, ⟨(some 20), .call (.c (.fn (f_solve_way N) [] [])) [(.t 19)], none⟩, ⟨(some 21), .build [(.lit (.int .i64 0)), (.lit (.int .i64 0))] [(0, 1, (.t 18)), (1, 1, (.t 20))], none⟩, ⟨(some 8), .new (t_solve_claim N) (.agg [(.lit (.int .i64 0)), (.lit (.int .i64 0))]), none⟩, ⟨none, .store 2 (.t 8) (.t 21), none⟩]) (
 .seq (
  .seq (
   .dops 2 [⟨(some 23), .mov (.t 0), none⟩, ⟨(some 24), .nilchk (.t 23), none⟩, ⟨(some 25), .faddr 2 (.t 24), none⟩, ⟨(some 26), .load none (.t 25), none⟩, ⟨(some 27), .load (some 2) (.t 8), none⟩, ⟨(some 28), .lookup (.agg (.struct [(0, none, .pint), (1, none, .pint)])) (.lit (.int .i64 0)) (.t 26) (.t 27) true, none⟩, ⟨(some 22), .mov (.t 28), none⟩, ⟨(some 29), .extract (.t 22) 0, none⟩, ⟨(some 30), .extract (.t 22) 1, none⟩, ⟨(some 9), .mov (.t 29), none⟩, ⟨(some 10), .mov (.t 30), none⟩] [0, 0, 0, 2, 2, 0, 0, 0, 0, 0, 0] []) (
  .seq (
   .ops [⟨(some 31), .mov (.t 10), none⟩]) (
  .cond (.t 31) (
   .seq (
    .ops [⟨(some 32), .mov (.t 9), none⟩, ⟨(some 6), .mov (.t 32), none⟩, ⟨(some 7), .mov (.c (.lit (.int .i64 0))), none⟩]) (
   .ret)) (
   .skip)))) (
 .seq (
  .dops 5 [⟨(some 34), .mov (.t 0), none⟩, ⟨(some 35), .nilchk (.t 34), none⟩, ⟨(some 36), .faddr 0 (.t 35), none⟩, ⟨(some 37), .load none (.t 36), none⟩, ⟨(some 38), .mov (.t 0), none⟩, ⟨(some 39), .nilchk (.t 38), none⟩, ⟨(some 40), .faddr 1 (.t 39), none⟩, ⟨(some 41), .load none (.t 40), none⟩, ⟨(some 42), .call (.c (.fn (f_p_arena_Arena_Var N) [] [])) [(.t 37), (.t 41)], none⟩, ⟨(some 33), .mov (.t 42), none⟩, ⟨(some 43), .extract (.t 33) 0, none⟩, ⟨(some 44), .extract (.t 33) 1, none⟩, ⟨(some 11), .mov (.t 43), none⟩, ⟨(some 12), .mov (.t 44), none⟩] [0, 0, 0, 2, 0, 0, 0, 2, 0, 0, 0, 0, 0, 0] []) (
 .seq (
  .seq (
   .ops [⟨(some 45), .mov (.t 12), none⟩, ⟨(some 46), .eq true .pint (.t 45) (.c (.lit (.int .i64 0))), none⟩]) (
  .cond (.t 46) (
   .seq (
    .ops [⟨(some 47), .mov (.t 12), none⟩, ⟨(some 6), .mov (.c (.lit (.int .i64 0))), none⟩, ⟨(some 7), .mov (.t 47), none⟩]) (
   .ret)) (
   .skip))) (
 .seq (
  .dops 8 [⟨(some 48), .mov (.t 0), none⟩, ⟨(some 49), .nilchk (.t 48), none⟩, ⟨(some 50), .faddr 2 (.t 49), none⟩, ⟨(some 51), .load none (.t 50), none⟩, ⟨(some 52), .load (some 2) (.t 8), none⟩, ⟨(some 53), .mov (.t 11), none⟩, ⟨none, .mapupd (.agg (.struct [(0, none, .pint), (1, none, .pint)])) (.t 51) (.t 52) (.t 53), none⟩] [0, 0, 0, 2, 2, 0, 0] []) (
 .seq (
  .ops [⟨(some 54), .mov (.t 0), none⟩, ⟨(some 55), .nilchk (.t 54), none⟩, ⟨(some 56), .faddr 0 (.t 55), none⟩, ⟨(some 57), .load none (.t 56), none⟩, ⟨(some 58), .mov (.t 1), none⟩, ⟨(some 59), .call (.c (.fn (f_p_arena_Arena_High N) [] [])) [(.t 57), (.t 58)], none⟩, ⟨(some 13), .mov (.t 59), none⟩]) (
 .seq (
  .seq (
   .ops [⟨(some 60), .mov (.t 2), none⟩]) (
  .cond (.t 60) (
   .ops [⟨(some 61), .mov (.t 0), none⟩, ⟨(some 62), .nilchk (.t 61), none⟩, ⟨(some 63), .faddr 0 (.t 62), none⟩, ⟨(some 64), .load none (.t 63), none⟩, ⟨(some 65), .mov (.t 1), none⟩, ⟨(some 66), .call (.c (.fn (f_p_arena_Arena_Low N) [] [])) [(.t 64), (.t 65)], none⟩, ⟨(some 13), .mov (.t 66), none⟩]) (
   .skip))) (
 .seq (
  .ops [⟨(some 67), .mov (.t 0), none⟩, ⟨(some 68), .nilchk (.t 67), none⟩, ⟨(some 69), .faddr 0 (.t 68), none⟩, ⟨(some 70), .load none (.t 69), none⟩, ⟨(some 71), .mov (.t 1), none⟩, ⟨(some 72), .mov (.t 11), none⟩, ⟨(some 73), .mov (.t 2), none⟩, ⟨(some 74), .call (.c (.fn (f_p_arena_Arena_Bound N) [] [])) [(.t 70), (.t 71), (.t 72), (.t 73)], none⟩]) (
 .seq (
  .seq (
   .ops [⟨(some 75), .mov (.t 13), none⟩, ⟨(some 76), .len (.t 75), none⟩, ⟨(some 77), .mov (.c (.lit (.int .i64 0))), none⟩]) (
  .block 0 (
   .loop (L_p_solve_raiser_variable_1 N)))) (K_p_solve_raiser_variable_1 N)))))))))), false⟩

/-- azimuth/solve.New -/
def C_solve_New (N : Nat → Nat) : AFunc := ⟨9, [.inl 2],
 .seq (
  .ops [⟨(some 2), .mov (.c (.lit (.pointer none))), none⟩]) (
 .seq (
  .seq (
   .ops [⟨(some 3), .mov (.t 0), none⟩, ⟨(some 4), .eq false .pptr (.t 3) (.c (.lit (.pointer none))), none⟩]) (
  .cond (.t 4) (
   .seq (
    .ops [⟨(some 2), .mov (.c (.lit (.pointer none))), none⟩]) (
   .ret)) (
   .skip))) (
 .seq (
  .ops [⟨(some 5), .mov (.t 0), none⟩, ⟨(some 6), .mkmap, none⟩, ⟨(some 7), .build [(.lit (.pointer none)), (.lit (.map none)), (.lit (.slice none 0 0)), (.lit (.int .i64 0)), (.lit (.int .i64 0)), (.lit (.int .i64 0)), (.lit (.int .i64 0)), (.lit (.int .i64 0))] [(0, 1, (.t 5)), (1, 1, (.t 6)), (3, 1, (.c (.lit (.int .i64 (-1)))))], none⟩, ⟨(some 8), .box (t_solve_Solver N) (.t 7), none⟩, ⟨(some 2), .mov (.t 8), none⟩]) (
 .ret))), false⟩

/-- azimuth/solve.Raise -/
def C_solve_Raise (N : Nat → Nat) : AFunc := ⟨36, [.inl 8, .inl 9],
 .seq (
  .ops [⟨(some 8), .mov (.c (.lit (.int .i64 0))), none⟩, ⟨(some 9), .mov (.c (.lit (.int .i64 0))), none⟩]) (
 .seq (
  .seq (
   .ops [⟨(some 10), .mov (.t 0), none⟩, ⟨(some 11), .eq false .pptr (.t 10) (.c (.lit (.pointer none))), none⟩, ⟨(some 12), .mov (.t 11), none⟩, ⟨(some 13), .mov (.t 1), (some (12, false))⟩, ⟨(some 14), .bin .lss (.t 13) (.c (.lit (.int .i64 0))), (some (12, false))⟩, ⟨(some 15), .pick (.t 12) (.c (.lit (.bool true))) (.t 14), none⟩, ⟨(some 16), .mov (.t 15), none⟩, ⟨(some 17), .mov (.t 1), (some (16, false))⟩, ⟨(some 18), .mov (.t 0), (some (16, false))⟩, ⟨(some 19), .call (.c (.fn (f_p_arena_Arena_Len N) [] [])) [(.t 18)], (some (16, false))⟩, ⟨(some 20), .bin .geq (.t 17) (.t 19), (some (16, false))⟩, ⟨(some 21), .pick (.t 16) (.c (.lit (.bool true))) (.t 20), none⟩, ⟨(some 22), .mov (.t 21), none⟩, ⟨(some 23), .mov (.t 2), (some (22, false))⟩, ⟨(some 24), .bin .lss (.t 23) (.c (.lit (.int .i64 0))), (some (22, false))⟩, ⟨(some 25), .pick (.t 22) (.c (.lit (.bool true))) (.t 24), none⟩]) (
  .cond (.t 25) (
   .seq (
    .ops [⟨(some 8), .mov (.c (.lit (.int .i64 0))), none⟩, ⟨(some 9), .mov (.c (.lit (.int .i64 1))), none⟩]) (
   .ret)) (
   .skip))) (
 .seq (
  .ops [⟨(some 26), .mov (.t 0), none⟩, ⟨(some 27), .mov (.t 2), none⟩, ⟨(some 28), .mkmap, none⟩, ⟨(some 29), .build [(.lit (.pointer none)), (.lit (.int .i64 0)), (.lit (.map none))] [(0, 1, (.t 26)), (1, 1, (.t 27)), (2, 1, (.t 28))], none⟩, ⟨(some 30), .box (t_solve_raiser N) (.t 29), none⟩, ⟨(some 31), .mov (.t 1), none⟩, ⟨(some 32), .mov (.t 3), none⟩, ⟨(some 33), .call (.c (.fn (f_p_solve_raiser_part N) [] [])) [(.t 30), (.t 31), (.t 32)], none⟩, ⟨(some 34), .extract (.t 33) 0, none⟩, ⟨(some 35), .extract (.t 33) 1, none⟩, ⟨(some 8), .mov (.t 34), none⟩, ⟨(some 9), .mov (.t 35), none⟩]) (
 .ret))), false⟩

/-- azimuth/solve.kid -/
def C_solve_kid (N : Nat → Nat) : AFunc := ⟨21, [.inl 4],
 .seq (
  .ops [⟨(some 2), .box (t_api_Head N) (.t 0), none⟩, ⟨(some 4), .mov (.c (.lit (.int .i64 0))), none⟩]) (
 .seq (
  .ops [⟨(some 8), .faddr 1 (.t 2), none⟩, ⟨(some 9), .load none (.t 8), none⟩, ⟨(some 10), .mov (.t 1), none⟩, ⟨(some 11), .call (.c (.fn (f_slices_BinarySearch_sl_string_string N) [] [])) [(.t 9), (.t 10)], none⟩, ⟨(some 7), .mov (.t 11), none⟩, ⟨(some 12), .extract (.t 7) 0, none⟩, ⟨(some 13), .extract (.t 7) 1, none⟩, ⟨(some 5), .mov (.t 12), none⟩, ⟨(some 6), .mov (.t 13), none⟩]) (
 .seq (
  .seq (
   .ops [⟨(some 14), .mov (.t 6), none⟩, ⟨(some 15), .un .not (.t 14), none⟩]) (
  .cond (.t 15) (
   .seq (
    .ops [⟨(some 4), .mov (.c (.lit (.int .i64 (-1)))), none⟩]) (
   .ret)) (
   .skip))) (
 .seq (
  .ops [⟨(some 16), .faddr 2 (.t 2), none⟩, ⟨(some 17), .load none (.t 16), none⟩, ⟨(some 18), .mov (.t 5), none⟩, ⟨(some 19), .iaddr 1 (.t 17) (.t 18), none⟩, ⟨(some 20), .load none (.t 19), none⟩, ⟨(some 4), .mov (.t 20), none⟩]) (
 .ret)))), false⟩

/-- azimuth/solve.way -/
def C_solve_way (N : Nat → Nat) : AFunc := ⟨4, [.inl 2],
 .seq (
  .ops [⟨(some 2), .mov (.c (.lit (.int .i64 0))), none⟩]) (
 .seq (
  .seq (
   .ops [⟨(some 3), .mov (.t 0), none⟩]) (
  .cond (.t 3) (
   .seq (
    .ops [⟨(some 2), .mov (.c (.lit (.int .i64 1))), none⟩]) (
   .ret)) (
   .skip))) (
 .seq (
  .ops [⟨(some 2), .mov (.c (.lit (.int .i64 0))), none⟩]) (
 .ret))), false⟩
end Go.Proofs.Eng
/- Templates of functions, as the engine takes them; numbers of functions and types by names. Printed by tm.py. -/
set_option linter.unusedVariables false
set_option maxRecDepth 100000
namespace Go.Proofs.Eng
open Go

/-- azimuth/azimuthlaw13.SolveNone -/
def C_law13_SolveNone (N : Nat → Nat) : AFunc := ⟨35, [.inl 4],
 .seq (
  .ops [⟨(some 4), .mov (.c (.lit (.bool false))), none⟩]) (
 .seq (
  .seq (
   .ops [⟨(some 9), .call (.c (.fn (f_law13_lives N) [] [])) [], none⟩, ⟨(some 10), .un .not (.t 9), none⟩]) (
  .cond (.t 10) (
   .seq (
    .ops [⟨(some 4), .mov (.c (.lit (.bool false))), none⟩]) (
   .ret)) (
   .skip))) (
 .seq (
  .ops [⟨(some 5), .mov (.c (.lit (.pointer none))), none⟩]) (
 .seq (
  .ops [⟨(some 12), .mov (.t 5), none⟩, ⟨(some 13), .call (.c (.fn (f_p_solve_Solver_Clash N) [] [])) [(.t 12)], none⟩, ⟨(some 11), .mov (.t 13), none⟩, ⟨(some 14), .extract (.t 11) 0, none⟩, ⟨(some 15), .extract (.t 11) 1, none⟩, ⟨(some 16), .extract (.t 11) 2, none⟩, ⟨(some 6), .mov (.t 14), none⟩, ⟨(some 7), .mov (.t 15), none⟩, ⟨(some 8), .mov (.t 16), none⟩]) (
 .seq (
  .ops [⟨(some 17), .call (.c (.fn (f_solve_New N) [] [])) [(.c (.lit (.pointer none)))], none⟩, ⟨(some 18), .eq false .pptr (.t 17) (.c (.lit (.pointer none))), none⟩, ⟨(some 19), .mov (.t 18), none⟩, ⟨(some 20), .mov (.t 5), (some (19, true))⟩, ⟨(some 21), .mov (.t 0), (some (19, true))⟩, ⟨(some 22), .mov (.t 1), (some (19, true))⟩, ⟨(some 23), .call (.c (.fn (f_p_solve_Solver_Claim N) [] [])) [(.t 20), (.t 21), (.t 22)], (some (19, true))⟩, ⟨(some 24), .eq false .pint (.t 23) (.c (.lit (.int .i64 1))), (some (19, true))⟩, ⟨(some 25), .pick (.t 19) (.t 24) (.c (.lit (.bool false))), none⟩, ⟨(some 26), .mov (.t 25), none⟩, ⟨(some 27), .mov (.t 5), (some (26, true))⟩, ⟨(some 28), .call (.c (.fn (f_p_solve_Solver_Claims N) [] [])) [(.t 27)], (some (26, true))⟩, ⟨(some 29), .eq false .pint (.t 28) (.c (.lit (.int .i64 0))), (some (26, true))⟩, ⟨(some 30), .pick (.t 26) (.t 29) (.c (.lit (.bool false))), none⟩, ⟨(some 31), .mov (.t 30), none⟩, ⟨(some 32), .mov (.t 8), (some (31, true))⟩, ⟨(some 33), .un .not (.t 32), (some (31, true))⟩, ⟨(some 34), .pick (.t 31) (.t 33) (.c (.lit (.bool false))), none⟩, ⟨(some 4), .mov (.t 34), none⟩]) (
 .ret))))), false⟩

/-- azimuth/azimuthlaw13.lives -/
def C_law13_lives (N : Nat → Nat) : AFunc := ⟨54, [.inl 0],
 .seq (
  .ops [⟨(some 0), .mov (.c (.lit (.bool false))), none⟩]) (
 .seq (
  .ops [⟨(some 11), .call (.c (.fn (f_arena_New N) [] [])) [(.c (.lit (.int .i64 20)))], none⟩, ⟨(some 10), .mov (.t 11), none⟩, ⟨(some 12), .extract (.t 10) 0, none⟩, ⟨(some 13), .extract (.t 10) 1, none⟩, ⟨(some 1), .mov (.t 12), none⟩, ⟨(some 2), .mov (.t 13), none⟩]) (
 .seq (
  .ops [⟨(some 15), .mov (.t 1), none⟩, ⟨(some 16), .build [(.lit (.int .i64 0)), (.lit (.slice none 0 0)), (.lit (.slice none 0 0)), (.lit (.bool false))] [(0, 1, (.c (.lit (.int .i64 0))))], none⟩, ⟨(some 17), .call (.c (.fn (f_p_arena_Arena_Head N) [] [])) [(.t 15), (.t 16)], none⟩, ⟨(some 14), .mov (.t 17), none⟩, ⟨(some 18), .extract (.t 14) 0, none⟩, ⟨(some 19), .extract (.t 14) 1, none⟩, ⟨(some 3), .mov (.t 18), none⟩, ⟨(some 4), .mov (.t 19), none⟩]) (
 .seq (
  .ops [⟨(some 21), .mov (.t 1), none⟩, ⟨(some 22), .call (.c (.fn (f_p_arena_Arena_Var N) [] [])) [(.t 21), (.c (.lit (.int .i64 0)))], none⟩, ⟨(some 20), .mov (.t 22), none⟩, ⟨(some 23), .extract (.t 20) 0, none⟩, ⟨(some 24), .extract (.t 20) 1, none⟩, ⟨(some 5), .mov (.t 23), none⟩, ⟨(some 6), .mov (.t 24), none⟩]) (
 .seq (
  .ops [⟨(some 26), .mov (.t 1), none⟩, ⟨(some 27), .build [(.lit (.int .i64 0)), (.lit (.slice none 0 0)), (.lit (.slice none 0 0)), (.lit (.bool false))] [(0, 1, (.c (.lit (.int .i64 2))))], none⟩, ⟨(some 28), .call (.c (.fn (f_p_arena_Arena_Head N) [] [])) [(.t 26), (.t 27)], none⟩, ⟨(some 25), .mov (.t 28), none⟩, ⟨(some 29), .extract (.t 25) 0, none⟩, ⟨(some 30), .extract (.t 25) 1, none⟩, ⟨(some 7), .mov (.t 29), none⟩, ⟨(some 8), .mov (.t 30), none⟩]) (
 .seq (
  .ops [⟨(some 31), .mov (.t 1), none⟩, ⟨(some 32), .call (.c (.fn (f_solve_New N) [] [])) [(.t 31)], none⟩, ⟨(some 9), .mov (.t 32), none⟩]) (
 .seq (
  .ops [⟨(some 33), .mov (.t 2), none⟩, ⟨(some 34), .eq false .pint (.t 33) (.c (.lit (.int .i64 0))), none⟩, ⟨(some 35), .mov (.t 34), none⟩, ⟨(some 36), .mov (.t 9), (some (35, true))⟩, ⟨(some 37), .mov (.t 3), (some (35, true))⟩, ⟨(some 38), .mov (.t 5), (some (35, true))⟩, ⟨(some 39), .call (.c (.fn (f_p_solve_Solver_Claim N) [] [])) [(.t 36), (.t 37), (.t 38)], (some (35, true))⟩, ⟨(some 40), .eq false .pint (.t 39) (.c (.lit (.int .i64 0))), (some (35, true))⟩, ⟨(some 41), .pick (.t 35) (.t 40) (.c (.lit (.bool false))), none⟩, ⟨(some 42), .mov (.t 41), none⟩, ⟨(some 43), .mov (.t 9), (some (42, true))⟩, ⟨(some 44), .mov (.t 5), (some (42, true))⟩, ⟨(some 45), .mov (.t 7), (some (42, true))⟩, ⟨(some 46), .call (.c (.fn (f_p_solve_Solver_Claim N) [] [])) [(.t 43), (.t 44), (.t 45)], (some (42, true))⟩, ⟨(some 47), .eq false .pint (.t 46) (.c (.lit (.int .i64 10))), (some (42, true))⟩, ⟨(some 48), .pick (.t 42) (.t 47) (.c (.lit (.bool false))), none⟩, ⟨(some 49), .mov (.t 48), none⟩, ⟨(some 50), .mov (.t 9), (some (49, true))⟩, ⟨(some 51), .call (.c (.fn (f_p_solve_Solver_Claims N) [] [])) [(.t 50)], (some (49, true))⟩, ⟨(some 52), .eq false .pint (.t 51) (.c (.lit (.int .i64 1))), (some (49, true))⟩, ⟨(some 53), .pick (.t 49) (.t 52) (.c (.lit (.bool false))), none⟩, ⟨(some 0), .mov (.t 53), none⟩]) (
 .ret))))))), false⟩
end Go.Proofs.Eng
/- The law SolveNone, run by the engine. -/
set_option linter.unusedVariables false
set_option linter.unusedSimpArgs false
set_option maxRecDepth 100000
namespace Go.Proofs.Eng
open Go
section
variable {Γ : Sums} {A : Tab} {N : Nat → Nat}
@[simp] theorem aeq_nilp : aeq .pptr (.lit (.pointer none)) (.lit (.pointer none)) = some true := _root_.id rfl
theorem solve_New_nil (h : Has Γ A (f_solve_New N) (C_solve_New N)) (H : Hp) : (lim Γ A).call (f_solve_New N) [.lit (.pointer none)] H = some (.lit (.pointer none), none) := by
  apply h.call (by rfl)
  simp [C_solve_New]
theorem solve_Claim_nil (h : Has Γ A (f_p_solve_Solver_Claim N) (C_p_solve_Solver_Claim N)) (i j : Int) (H : Hp) : (lim Γ A).call (f_p_solve_Solver_Claim N) [.lit (.pointer none), avInt .i64 i, avInt .i64 j] H = some (avInt .i64 1, none) := by
  apply h.call (by rfl)
  simp [C_p_solve_Solver_Claim]
theorem solve_Claims_nil (h : Has Γ A (f_p_solve_Solver_Claims N) (C_p_solve_Solver_Claims N)) (H : Hp) : (lim Γ A).call (f_p_solve_Solver_Claims N) [.lit (.pointer none)] H = some (avInt .i64 0, none) := by
  apply h.call (by rfl)
  simp [C_p_solve_Solver_Claims]
theorem solve_Clash_nil (h : Has Γ A (f_p_solve_Solver_Clash N) (C_p_solve_Solver_Clash N)) (H : Hp) : (lim Γ A).call (f_p_solve_Solver_Clash N) [.lit (.pointer none)] H = some (.tup [avInt .i64 0, avInt .i64 0, avBool false], none) := by
  apply h.call (by rfl)
  simp [C_p_solve_Solver_Clash]
theorem law_SolveNone (h1 : Has Γ A (f_solve_New N) (C_solve_New N)) (h2 : Has Γ A (f_p_solve_Solver_Claim N) (C_p_solve_Solver_Claim N)) (h3 : Has Γ A (f_p_solve_Solver_Claims N) (C_p_solve_Solver_Claims N)) (h4 : Has Γ A (f_p_solve_Solver_Clash N) (C_p_solve_Solver_Clash N))
    (h : Has Γ A (f_law13_SolveNone N) (C_law13_SolveNone N)) (hlives : (lim Γ A).call (f_law13_lives N) [] { l := [], d := none } = some (avBool true, none)) (i j : Int) : ∃ r, (lim Γ A).ent (f_law13_SolveNone N) [avInt .i64 i, avInt .i64 j] { l := [], d := none } = some r ∧ r.1 = avBool true := by
  apply h.entP (by rfl)
  simp [C_law13_SolveNone, hlives, solve_New_nil h1, solve_Claim_nil h2, solve_Claims_nil h3, solve_Clash_nil h4]
end
end Go.Proofs.Eng
/- Templates of functions, as the engine takes them; numbers of functions and types by names. Printed by tm.py. -/
set_option linter.unusedVariables false
set_option maxRecDepth 100000
namespace Go.Proofs.Eng
open Go

/-- (*slices.xorshift).Next -/
def C_p_slices_xorshift_Next (N : Nat → Nat) : AFunc := ⟨33, [.inl 2],
 .seq (
  .ops [⟨(some 2), .mov (.c (.lit (.int .u64 0))), none⟩]) (
 .seq (
  .dops 1 [⟨(some 3), .mov (.t 0), none⟩, ⟨(some 4), .nilchk (.t 3), none⟩, ⟨(some 5), .load none (.t 4), none⟩, ⟨(some 6), .mov (.t 0), none⟩, ⟨(some 7), .nilchk (.t 6), none⟩, ⟨(some 8), .load none (.t 7), none⟩, ⟨(some 9), .bin .shl (.t 8) (.c (.lit (.int .u64 13))), none⟩, ⟨(some 10), .bin .xor (.t 5) (.t 9), none⟩, ⟨(some 11), .nilchk (.t 3), none⟩, ⟨none, .store 1 (.t 11) (.t 10), none⟩] [0, 0, 2, 0, 0, 2, 0, 0, 0, 0] []) (
 .seq (
  .dops 2 [⟨(some 12), .mov (.t 0), none⟩, ⟨(some 13), .nilchk (.t 12), none⟩, ⟨(some 14), .load none (.t 13), none⟩, ⟨(some 15), .mov (.t 0), none⟩, ⟨(some 16), .nilchk (.t 15), none⟩, ⟨(some 17), .load none (.t 16), none⟩, ⟨(some 18), .bin .shr (.t 17) (.c (.lit (.int .u64 7))), none⟩, ⟨(some 19), .bin .xor (.t 14) (.t 18), none⟩, ⟨(some 20), .nilchk (.t 12), none⟩, ⟨none, .store 1 (.t 20) (.t 19), none⟩] [0, 0, 2, 0, 0, 2, 0, 0, 0, 0] []) (
 .seq (
  .dops 3 [⟨(some 21), .mov (.t 0), none⟩, ⟨(some 22), .nilchk (.t 21), none⟩, ⟨(some 23), .load none (.t 22), none⟩, ⟨(some 24), .mov (.t 0), none⟩, ⟨(some 25), .nilchk (.t 24), none⟩, ⟨(some 26), .load none (.t 25), none⟩, ⟨(some 27), .bin .shl (.t 26) (.c (.lit (.int .u64 17))), none⟩, ⟨(some 28), .bin .xor (.t 23) (.t 27), none⟩, ⟨(some 29), .nilchk (.t 21), none⟩, ⟨none, .store 1 (.t 29) (.t 28), none⟩] [0, 0, 2, 0, 0, 2, 0, 0, 0, 0] []) (
 .seq (
  .ops [⟨(some 30), .mov (.t 0), none⟩, ⟨(some 31), .nilchk (.t 30), none⟩, ⟨(some 32), .load none (.t 31), none⟩, ⟨(some 2), .mov (.t 32), none⟩]) (
 .ret))))), false⟩

/-- cmp.Less[int] -/
def C_cmp_Less_int (N : Nat → Nat) : AFunc := ⟨17, [.inl 4],
 .seq (
  .ops [⟨(some 4), .mov (.c (.lit (.bool false))), none⟩]) (
 .seq (
  .ops [⟨(some 5), .mov (.t 0), none⟩, ⟨(some 6), .call (.c (.fn (f_cmp_isNaN_int N) [] [])) [(.t 5)], none⟩, ⟨(some 7), .mov (.t 6), none⟩, ⟨(some 8), .mov (.t 1), (some (7, true))⟩, ⟨(some 9), .call (.c (.fn (f_cmp_isNaN_int N) [] [])) [(.t 8)], (some (7, true))⟩, ⟨(some 10), .un .not (.t 9), (some (7, true))⟩, ⟨(some 11), .pick (.t 7) (.t 10) (.c (.lit (.bool false))), none⟩, ⟨(some 12), .mov (.t 11), none⟩, ⟨(some 13), .mov (.t 0), (some (12, false))⟩, ⟨(some 14), .mov (.t 1), (some (12, false))⟩, ⟨(some 15), .bin .lss (.t 13) (.t 14), (some (12, false))⟩, ⟨(some 16), .pick (.t 12) (.c (.lit (.bool true))) (.t 15), none⟩, ⟨(some 4), .mov (.t 16), none⟩]) (
 .ret)), false⟩

/-- cmp.Less[string] -/
def C_cmp_Less_string (N : Nat → Nat) : AFunc := ⟨17, [.inl 4],
 .seq (
  .ops [⟨(some 4), .mov (.c (.lit (.bool false))), none⟩]) (
 .seq (
  .ops [⟨(some 5), .mov (.t 0), none⟩, ⟨(some 6), .call (.c (.fn (f_cmp_isNaN_string N) [] [])) [(.t 5)], none⟩, ⟨(some 7), .mov (.t 6), none⟩, ⟨(some 8), .mov (.t 1), (some (7, true))⟩, ⟨(some 9), .call (.c (.fn (f_cmp_isNaN_string N) [] [])) [(.t 8)], (some (7, true))⟩, ⟨(some 10), .un .not (.t 9), (some (7, true))⟩, ⟨(some 11), .pick (.t 7) (.t 10) (.c (.lit (.bool false))), none⟩, ⟨(some 12), .mov (.t 11), none⟩, ⟨(some 13), .mov (.t 0), (some (12, false))⟩, ⟨(some 14), .mov (.t 1), (some (12, false))⟩, ⟨(some 15), .bin .lss (.t 13) (.t 14), (some (12, false))⟩, ⟨(some 16), .pick (.t 12) (.c (.lit (.bool true))) (.t 15), none⟩, ⟨(some 4), .mov (.t 16), none⟩]) (
 .ret)), false⟩

/-- cmp.isNaN[int] -/
def C_cmp_isNaN_int (N : Nat → Nat) : AFunc := ⟨6, [.inl 2],
 .seq (
  .ops [⟨(some 2), .mov (.c (.lit (.bool false))), none⟩]) (
 .seq (
  .ops [⟨(some 3), .mov (.t 0), none⟩, ⟨(some 4), .mov (.t 0), none⟩, ⟨(some 5), .eq true .pint (.t 3) (.t 4), none⟩, ⟨(some 2), .mov (.t 5), none⟩]) (
 .ret)), false⟩

/-- cmp.isNaN[string] -/
def C_cmp_isNaN_string (N : Nat → Nat) : AFunc := ⟨6, [.inl 2],
 .seq (
  .ops [⟨(some 2), .mov (.c (.lit (.bool false))), none⟩]) (
 .seq (
  .ops [⟨(some 3), .mov (.t 0), none⟩, ⟨(some 4), .mov (.t 0), none⟩, ⟨(some 5), .eq true .pstr (.t 3) (.t 4), none⟩, ⟨(some 2), .mov (.t 5), none⟩]) (
 .ret)), false⟩

/-- math/bits.Len -/
def C_math_bits_Len (N : Nat → Nat) : AFunc := ⟨8, [.inl 2],
 .seq (
  .ops [⟨(some 2), .mov (.c (.lit (.int .i64 0))), none⟩]) (
 .seq (
  .cond (.c (.lit (.bool false))) (
   .seq (
    .ops [⟨(some 3), .mov (.t 0), none⟩, ⟨(some 4), .conv (.toInt .u32) (.t 3), none⟩, ⟨(some 5), .call (.c (.fn (f_math_bits_Len32 N) [] [])) [(.t 4)], none⟩, ⟨(some 2), .mov (.t 5), none⟩]) (
   .ret)) (
   .skip)) (
 .seq (
  .ops [⟨(some 6), .mov (.t 0), none⟩, ⟨(some 7), .call (.c (.fn (f_math_bits_Len64 N) [] [])) [(.t 6)], none⟩, ⟨(some 2), .mov (.t 7), none⟩]) (
 .ret))), false⟩

/-- math/bits.Len32 -/
def C_math_bits_Len32 (N : Nat → Nat) : AFunc := ⟨19, [.inl 2],
 .seq (
  .ops [⟨(some 2), .mov (.c (.lit (.int .i64 0))), none⟩]) (
 .seq (
  .seq (
   .ops [⟨(some 3), .mov (.t 0), none⟩, ⟨(some 4), .bin .geq (.t 3) (.c (.lit (.int .u32 65536))), none⟩]) (
  .cond (.t 4) (
   .seq (
    .ops [⟨(some 5), .mov (.t 0), none⟩, ⟨(some 6), .bin .shr (.t 5) (.c (.lit (.int .u64 16))), none⟩, ⟨(some 0), .mov (.t 6), none⟩]) (
   .ops [⟨(some 2), .mov (.c (.lit (.int .i64 16))), none⟩])) (
   .skip))) (
 .seq (
  .seq (
   .ops [⟨(some 7), .mov (.t 0), none⟩, ⟨(some 8), .bin .geq (.t 7) (.c (.lit (.int .u32 256))), none⟩]) (
  .cond (.t 8) (
   .seq (
    .ops [⟨(some 9), .mov (.t 0), none⟩, ⟨(some 10), .bin .shr (.t 9) (.c (.lit (.int .u64 8))), none⟩, ⟨(some 0), .mov (.t 10), none⟩]) (
   .ops [⟨(some 11), .mov (.t 2), none⟩, ⟨(some 12), .bin .add (.t 11) (.c (.lit (.int .i64 8))), none⟩, ⟨(some 2), .mov (.t 12), none⟩])) (
   .skip))) (
 .seq (
  .ops [⟨(some 13), .mov (.t 2), none⟩, ⟨(some 14), .mov (.t 0), none⟩, ⟨(some 15), .conv (.toInt .u8) (.t 14), none⟩, ⟨(some 16), .sidx (.c (.lit (.string (mkS [0, 1, 2, 2, 3, 3, 3, 3, 4, 4, 4, 4, 4, 4, 4, 4, 5, 5, 5, 5, 5, 5, 5, 5, 5, 5, 5, 5, 5, 5, 5, 5, 6, 6, 6, 6, 6, 6, 6, 6, 6, 6, 6, 6, 6, 6, 6, 6, 6, 6, 6, 6, 6, 6, 6, 6, 6, 6, 6, 6, 6, 6, 6, 6, 7, 7, 7, 7, 7, 7, 7, 7, 7, 7, 7, 7, 7, 7, 7, 7, 7, 7, 7, 7, 7, 7, 7, 7, 7, 7, 7, 7, 7, 7, 7, 7, 7, 7, 7, 7, 7, 7, 7, 7, 7, 7, 7, 7, 7, 7, 7, 7, 7, 7, 7, 7, 7, 7, 7, 7, 7, 7, 7, 7, 7, 7, 7, 7, 8, 8, 8, 8, 8, 8, 8, 8, 8, 8, 8, 8, 8, 8, 8, 8, 8, 8, 8, 8, 8, 8, 8, 8, 8, 8, 8, 8, 8, 8, 8, 8, 8, 8, 8, 8, 8, 8, 8, 8, 8, 8, 8, 8, 8, 8, 8, 8, 8, 8, 8, 8, 8, 8, 8, 8, 8, 8, 8, 8, 8, 8, 8, 8, 8, 8, 8, 8, 8, 8, 8, 8, 8, 8, 8, 8, 8, 8, 8, 8, 8, 8, 8, 8, 8, 8, 8, 8, 8, 8, 8, 8, 8, 8, 8, 8, 8, 8, 8, 8, 8, 8, 8, 8, 8, 8, 8, 8, 8, 8, 8, 8, 8, 8, 8, 8, 8, 8, 8, 8, 8, 8, 8, 8, 8, 8, 8, 8])))) (.t 15), none⟩, ⟨(some 17), .conv (.toInt .i64) (.t 16), none⟩, ⟨(some 18), .bin .add (.t 13) (.t 17), none⟩, ⟨(some 2), .mov (.t 18), none⟩]) (
 .ret)))), false⟩

/-- math/bits.Len64 -/
def C_math_bits_Len64 (N : Nat → Nat) : AFunc := ⟨25, [.inl 2],
 .seq (
  .ops [⟨(some 2), .mov (.c (.lit (.int .i64 0))), none⟩]) (
 .seq (
  .seq (
   .ops [⟨(some 3), .mov (.t 0), none⟩, ⟨(some 4), .bin .geq (.t 3) (.c (.lit (.int .u64 4294967296))), none⟩]) (
  .cond (.t 4) (
   .seq (
    .ops [⟨(some 5), .mov (.t 0), none⟩, ⟨(some 6), .bin .shr (.t 5) (.c (.lit (.int .u64 32))), none⟩, ⟨(some 0), .mov (.t 6), none⟩]) (
   .ops [⟨(some 2), .mov (.c (.lit (.int .i64 32))), none⟩])) (
   .skip))) (
 .seq (
  .seq (
   .ops [⟨(some 7), .mov (.t 0), none⟩, ⟨(some 8), .bin .geq (.t 7) (.c (.lit (.int .u64 65536))), none⟩]) (
  .cond (.t 8) (
   .seq (
    .ops [⟨(some 9), .mov (.t 0), none⟩, ⟨(some 10), .bin .shr (.t 9) (.c (.lit (.int .u64 16))), none⟩, ⟨(some 0), .mov (.t 10), none⟩]) (
   .ops [⟨(some 11), .mov (.t 2), none⟩, ⟨(some 12), .bin .add (.t 11) (.c (.lit (.int .i64 16))), none⟩, ⟨(some 2), .mov (.t 12), none⟩])) (
   .skip))) (
 .seq (
  .seq (
   .ops [⟨(some 13), .mov (.t 0), none⟩, ⟨(some 14), .bin .geq (.t 13) (.c (.lit (.int .u64 256))), none⟩]) (
  .cond (.t 14) (
   .seq (
    .ops [⟨(some 15), .mov (.t 0), none⟩, ⟨(some 16), .bin .shr (.t 15) (.c (.lit (.int .u64 8))), none⟩, ⟨(some 0), .mov (.t 16), none⟩]) (
   .ops [⟨(some 17), .mov (.t 2), none⟩, ⟨(some 18), .bin .add (.t 17) (.c (.lit (.int .i64 8))), none⟩, ⟨(some 2), .mov (.t 18), none⟩])) (
   .skip))) (
 .seq (
  .ops [⟨(some 19), .mov (.t 2), none⟩, ⟨(some 20), .mov (.t 0), none⟩, ⟨(some 21), .conv (.toInt .u8) (.t 20), none⟩, ⟨(some 22), .sidx (.c (.lit (.string (mkS [0, 1, 2, 2, 3, 3, 3, 3, 4, 4, 4, 4, 4, 4, 4, 4, 5, 5, 5, 5, 5, 5, 5, 5, 5, 5, 5, 5, 5, 5, 5, 5, 6, 6, 6, 6, 6, 6, 6, 6, 6, 6, 6, 6, 6, 6, 6, 6, 6, 6, 6, 6, 6, 6, 6, 6, 6, 6, 6, 6, 6, 6, 6, 6, 7, 7, 7, 7, 7, 7, 7, 7, 7, 7, 7, 7, 7, 7, 7, 7, 7, 7, 7, 7, 7, 7, 7, 7, 7, 7, 7, 7, 7, 7, 7, 7, 7, 7, 7, 7, 7, 7, 7, 7, 7, 7, 7, 7, 7, 7, 7, 7, 7, 7, 7, 7, 7, 7, 7, 7, 7, 7, 7, 7, 7, 7, 7, 7, 8, 8, 8, 8, 8, 8, 8, 8, 8, 8, 8, 8, 8, 8, 8, 8, 8, 8, 8, 8, 8, 8, 8, 8, 8, 8, 8, 8, 8, 8, 8, 8, 8, 8, 8, 8, 8, 8, 8, 8, 8, 8, 8, 8, 8, 8, 8, 8, 8, 8, 8, 8, 8, 8, 8, 8, 8, 8, 8, 8, 8, 8, 8, 8, 8, 8, 8, 8, 8, 8, 8, 8, 8, 8, 8, 8, 8, 8, 8, 8, 8, 8, 8, 8, 8, 8, 8, 8, 8, 8, 8, 8, 8, 8, 8, 8, 8, 8, 8, 8, 8, 8, 8, 8, 8, 8, 8, 8, 8, 8, 8, 8, 8, 8, 8, 8, 8, 8, 8, 8, 8, 8, 8, 8, 8, 8, 8, 8])))) (.t 21), none⟩, ⟨(some 23), .conv (.toInt .i64) (.t 22), none⟩, ⟨(some 24), .bin .add (.t 19) (.t 23), none⟩, ⟨(some 2), .mov (.t 24), none⟩]) (
 .ret))))), false⟩

def L_slices_BinarySearch_sl_string_string_1 (N : Nat → Nat) : AC :=
    .seq (
     .seq (
      .ops [⟨(some 13), .mov (.t 7), none⟩, ⟨(some 14), .mov (.t 8), none⟩, ⟨(some 15), .bin .lss (.t 13) (.t 14), none⟩]) (
     .cond (.t 15) (
      .skip) (
      .exit 0))) (
    .block 1 (
     .seq (
      .ops [⟨(some 16), .mov (.t 7), none⟩, ⟨(some 17), .mov (.t 8), none⟩, ⟨(some 18), .bin .add (.t 16) (.t 17), none⟩, ⟨(some 19), .conv (.toInt .u64) (.t 18), none⟩, ⟨(some 20), .bin .shr (.t 19) (.c (.lit (.int .u64 1))), none⟩, ⟨(some 21), .conv (.toInt .i64) (.t 20), none⟩, ⟨(some 9), .mov (.t 21), none⟩]) (
     .seq (
      .ops [⟨(some 22), .mov (.t 0), none⟩, ⟨(some 23), .mov (.t 9), none⟩, ⟨(some 24), .iaddr 1 (.t 22) (.t 23), none⟩, ⟨(some 25), .load none (.t 24), none⟩, ⟨(some 26), .mov (.t 1), none⟩, ⟨(some 27), .call (.c (.fn (f_cmp_Less_string N) [] [])) [(.t 25), (.t 26)], none⟩]) (
     .cond (.t 27) (
      .ops [⟨(some 28), .mov (.t 9), none⟩, ⟨(some 29), .bin .add (.t 28) (.c (.lit (.int .i64 1))), none⟩, ⟨(some 7), .mov (.t 29), none⟩]) (
      .ops [⟨(some 30), .mov (.t 9), none⟩, ⟨(some 8), .mov (.t 30), none⟩])))))
def K_slices_BinarySearch_sl_string_string_1 (N : Nat → Nat) : AC :=
 .seq (
  .ops [⟨(some 31), .mov (.t 7), none⟩, ⟨(some 32), .mov (.t 7), none⟩, ⟨(some 33), .mov (.t 6), none⟩, ⟨(some 34), .bin .lss (.t 32) (.t 33), none⟩, ⟨(some 35), .mov (.t 34), none⟩, ⟨(some 36), .mov (.t 0), (some (35, true))⟩, ⟨(some 37), .mov (.t 7), (some (35, true))⟩, ⟨(some 38), .iaddr 1 (.t 36) (.t 37), (some (35, true))⟩, ⟨(some 39), .load none (.t 38), (some (35, true))⟩, ⟨(some 40), .mov (.t 1), (some (35, true))⟩, ⟨(some 41), .eq false .pstr (.t 39) (.t 40), (some (35, true))⟩, ⟨(some 42), .mov (.t 41), (some (35, true))⟩, ⟨(some 43), .mov (.t 0), (some (42, false))⟩, ⟨(some 44), .mov (.t 7), (some (42, false))⟩, ⟨(some 45), .iaddr 1 (.t 43) (.t 44), (some (42, false))⟩, ⟨(some 46), .load none (.t 45), (some (42, false))⟩, ⟨(some 47), .call (.c (.fn (f_slices_isNaN_string N) [] [])) [(.t 46)], (some (42, false))⟩, ⟨(some 48), .mov (.t 47), (some (42, false))⟩, ⟨(some 49), .mov (.t 1), (some (48, true))⟩, ⟨(some 50), .call (.c (.fn (f_slices_isNaN_string N) [] [])) [(.t 49)], (some (48, true))⟩, ⟨(some 51), .pick (.t 48) (.t 50) (.c (.lit (.bool false))), (some (42, false))⟩, ⟨(some 52), .pick (.t 42) (.c (.lit (.bool true))) (.t 51), (some (35, true))⟩, ⟨(some 53), .pick (.t 35) (.t 52) (.c (.lit (.bool false))), none⟩, ⟨(some 4), .mov (.t 31), none⟩, ⟨(some 5), .mov (.t 53), none⟩]) (
 .ret)
/-- slices.BinarySearch[[]string,string] -/
def C_slices_BinarySearch_sl_string_string (N : Nat → Nat) : AFunc := ⟨54, [.inl 4, .inl 5],
 .seq (
  .ops [⟨(some 4), .mov (.c (.lit (.int .i64 0))), none⟩, ⟨(some 5), .mov (.c (.lit (.bool false))), none⟩]) (
 .seq (
  .ops [⟨(some 10), .mov (.t 0), none⟩, ⟨(some 11), .len (.t 10), none⟩, ⟨(some 6), .mov (.t 11), none⟩]) (
 .seq (
  .ops [⟨(some 12), .mov (.t 6), none⟩, ⟨(some 7), .mov (.c (.lit (.int .i64 0))), none⟩, ⟨(some 8), .mov (.t 12), none⟩]) (
 .seq (
  .block 0 (
   .loop (L_slices_BinarySearch_sl_string_string_1 N))) (K_slices_BinarySearch_sl_string_string_1 N)))), false⟩

/-- slices.Clone[[]int,int] -/
def C_slices_Clone_sl_int_int (N : Nat → Nat) : AFunc := ⟨8, [.inl 2],
 .seq (
  .ops [⟨(some 2), .mov (.c (.lit (.slice none 0 0))), none⟩]) (
 .seq (
  .seq (
   .ops [⟨(some 3), .mov (.t 0), none⟩, ⟨(some 4), .eq false .pslice (.t 3) (.c (.lit (.slice none 0 0))), none⟩]) (
  .cond (.t 4) (
   .seq (
    .ops [⟨(some 2), .mov (.c (.lit (.slice none 0 0))), none⟩]) (
   .ret)) (
   .skip))) (
 .seq (
  .ops [⟨(some 5), .bslice (t_int N) 1 none 0 [(.lit (.int .i64 0))] [], none⟩, ⟨(some 6), .mov (.t 0), none⟩, ⟨(some 7), .append (t_int N) 1 8 (.t 5) (.t 6), none⟩, ⟨(some 2), .mov (.t 7), none⟩]) (
 .ret))), false⟩

/-- slices.Clone[[]string,string] -/
def C_slices_Clone_sl_string_string (N : Nat → Nat) : AFunc := ⟨8, [.inl 2],
 .seq (
  .ops [⟨(some 2), .mov (.c (.lit (.slice none 0 0))), none⟩]) (
 .seq (
  .seq (
   .ops [⟨(some 3), .mov (.t 0), none⟩, ⟨(some 4), .eq false .pslice (.t 3) (.c (.lit (.slice none 0 0))), none⟩]) (
  .cond (.t 4) (
   .seq (
    .ops [⟨(some 2), .mov (.c (.lit (.slice none 0 0))), none⟩]) (
   .ret)) (
   .skip))) (
 .seq (
  .ops [⟨(some 5), .bslice (t_string N) 1 none 0 [(.lit (.string (mkS [])))] [], none⟩, ⟨(some 6), .mov (.t 0), none⟩, ⟨(some 7), .append (t_string N) 1 16 (.t 5) (.t 6), none⟩, ⟨(some 2), .mov (.t 7), none⟩]) (
 .ret))), false⟩

/-- slices.ContainsFunc[[]byte,byte] -/
def C_slices_ContainsFunc_sl_byte_byte (N : Nat → Nat) : AFunc := ⟨9, [.inl 4],
 .seq (
  .ops [⟨(some 4), .mov (.c (.lit (.bool false))), none⟩]) (
 .seq (
  .ops [⟨(some 5), .mov (.t 0), none⟩, ⟨(some 6), .mov (.t 1), none⟩, ⟨(some 7), .call (.c (.fn (f_slices_IndexFunc_sl_byte_byte N) [] [])) [(.t 5), (.t 6)], none⟩, ⟨(some 8), .bin .geq (.t 7) (.c (.lit (.int .i64 0))), none⟩, ⟨(some 4), .mov (.t 8), none⟩]) (
 .ret)), false⟩

/-- slices.ContainsFunc[[]string,string] -/
def C_slices_ContainsFunc_sl_string_string (N : Nat → Nat) : AFunc := ⟨9, [.inl 4],
 .seq (
  .ops [⟨(some 4), .mov (.c (.lit (.bool false))), none⟩]) (
 .seq (
  .ops [⟨(some 5), .mov (.t 0), none⟩, ⟨(some 6), .mov (.t 1), none⟩, ⟨(some 7), .call (.c (.fn (f_slices_IndexFunc_sl_string_string N) [] [])) [(.t 5), (.t 6)], none⟩, ⟨(some 8), .bin .geq (.t 7) (.c (.lit (.int .i64 0))), none⟩, ⟨(some 4), .mov (.t 8), none⟩]) (
 .ret)), false⟩

/-- slices.ContainsFunc[azimuth/tree.uses,int] -/
def C_slices_ContainsFunc_tree_uses_int (N : Nat → Nat) : AFunc := ⟨9, [.inl 4],
 .seq (
  .ops [⟨(some 4), .mov (.c (.lit (.bool false))), none⟩]) (
 .seq (
  .ops [⟨(some 5), .mov (.t 0), none⟩, ⟨(some 6), .mov (.t 1), none⟩, ⟨(some 7), .call (.c (.fn (f_slices_IndexFunc_tree_uses_int N) [] [])) [(.t 5), (.t 6)], none⟩, ⟨(some 8), .bin .geq (.t 7) (.c (.lit (.int .i64 0))), none⟩, ⟨(some 4), .mov (.t 8), none⟩]) (
 .ret)), false⟩

def L_slices_IndexFunc_sl_byte_byte_1 (N : Nat → Nat) : AC :=
    .seq (
     .ops [⟨(some 9), .bin .lss (.t 8) (.t 7), none⟩]) (
    .seq (
     .cond (.t 9) (
      .skip) (
      .exit 0)) (
    .seq (
     .block 1 (
      .seq (
       .ops [⟨(some 10), .mov (.t 8), none⟩, ⟨(some 5), .mov (.t 10), none⟩]) (
      .seq (
       .ops [⟨(some 11), .mov (.t 1), none⟩, ⟨(some 12), .mov (.t 0), none⟩, ⟨(some 13), .mov (.t 5), none⟩, ⟨(some 14), .iaddr 1 (.t 12) (.t 13), none⟩, ⟨(some 15), .load none (.t 14), none⟩, ⟨(some 16), .call (.t 11) [(.t 15)], none⟩]) (
      .cond (.t 16) (
       .seq (
        .ops [⟨(some 17), .mov (.t 5), none⟩, ⟨(some 4), .mov (.t 17), none⟩]) (
       .ret)) (
       .skip))))) (
    .ops [⟨(some 18), .bin .add (.t 8) (.c (.lit (.int .i64 1))), none⟩, ⟨(some 8), .mov (.t 18), none⟩])))
def K_slices_IndexFunc_sl_byte_byte_1 (N : Nat → Nat) : AC :=
 .seq (
  .ops [⟨(some 4), .mov (.c (.lit (.int .i64 (-1)))), none⟩]) (
 .ret)
/-- slices.IndexFunc[[]byte,byte] -/
def C_slices_IndexFunc_sl_byte_byte (N : Nat → Nat) : AFunc := ⟨19, [.inl 4],
 .seq (
  .ops [⟨(some 4), .mov (.c (.lit (.int .i64 0))), none⟩]) (
 .seq (
  .seq (
   .ops [⟨(some 6), .mov (.t 0), none⟩, ⟨(some 7), .len (.t 6), none⟩, ⟨(some 8), .mov (.c (.lit (.int .i64 0))), none⟩]) (
  .block 0 (
   .loop (L_slices_IndexFunc_sl_byte_byte_1 N)))) (K_slices_IndexFunc_sl_byte_byte_1 N)), false⟩

def L_slices_IndexFunc_sl_string_string_1 (N : Nat → Nat) : AC :=
    .seq (
     .ops [⟨(some 9), .bin .lss (.t 8) (.t 7), none⟩]) (
    .seq (
     .cond (.t 9) (
      .skip) (
      .exit 0)) (
    .seq (
     .block 1 (
      .seq (
       .ops [⟨(some 10), .mov (.t 8), none⟩, ⟨(some 5), .mov (.t 10), none⟩]) (
      .seq (
       .ops [⟨(some 11), .mov (.t 1), none⟩, ⟨(some 12), .mov (.t 0), none⟩, ⟨(some 13), .mov (.t 5), none⟩, ⟨(some 14), .iaddr 1 (.t 12) (.t 13), none⟩, ⟨(some 15), .load none (.t 14), none⟩, ⟨(some 16), .call (.t 11) [(.t 15)], none⟩]) (
      .cond (.t 16) (
       .seq (
        .ops [⟨(some 17), .mov (.t 5), none⟩, ⟨(some 4), .mov (.t 17), none⟩]) (
       .ret)) (
       .skip))))) (
    .ops [⟨(some 18), .bin .add (.t 8) (.c (.lit (.int .i64 1))), none⟩, ⟨(some 8), .mov (.t 18), none⟩])))
def K_slices_IndexFunc_sl_string_string_1 (N : Nat → Nat) : AC :=
 .seq (
  .ops [⟨(some 4), .mov (.c (.lit (.int .i64 (-1)))), none⟩]) (
 .ret)
/-- slices.IndexFunc[[]string,string] -/
def C_slices_IndexFunc_sl_string_string (N : Nat → Nat) : AFunc := ⟨19, [.inl 4],
 .seq (
  .ops [⟨(some 4), .mov (.c (.lit (.int .i64 0))), none⟩]) (
 .seq (
  .seq (
   .ops [⟨(some 6), .mov (.t 0), none⟩, ⟨(some 7), .len (.t 6), none⟩, ⟨(some 8), .mov (.c (.lit (.int .i64 0))), none⟩]) (
  .block 0 (
   .loop (L_slices_IndexFunc_sl_string_string_1 N)))) (K_slices_IndexFunc_sl_string_string_1 N)), false⟩

def L_slices_IndexFunc_tree_uses_int_1 (N : Nat → Nat) : AC :=
    .seq (
     .ops [⟨(some 9), .bin .lss (.t 8) (.t 7), none⟩]) (
    .seq (
     .cond (.t 9) (
      .skip) (
      .exit 0)) (
    .seq (
     .block 1 (
      .seq (
       .ops [⟨(some 10), .mov (.t 8), none⟩, ⟨(some 5), .mov (.t 10), none⟩]) (
      .seq (
       .ops [⟨(some 11), .mov (.t 1), none⟩, ⟨(some 12), .mov (.t 0), none⟩, ⟨(some 13), .mov (.t 5), none⟩, ⟨(some 14), .iaddr 1 (.t 12) (.t 13), none⟩, ⟨(some 15), .load none (.t 14), none⟩, ⟨(some 16), .call (.t 11) [(.t 15)], none⟩]) (
      .cond (.t 16) (
       .seq (
        .ops [⟨(some 17), .mov (.t 5), none⟩, ⟨(some 4), .mov (.t 17), none⟩]) (
       .ret)) (
       .skip))))) (
    .ops [⟨(some 18), .bin .add (.t 8) (.c (.lit (.int .i64 1))), none⟩, ⟨(some 8), .mov (.t 18), none⟩])))
def K_slices_IndexFunc_tree_uses_int_1 (N : Nat → Nat) : AC :=
 .seq (
  .ops [⟨(some 4), .mov (.c (.lit (.int .i64 (-1)))), none⟩]) (
 .ret)
/-- slices.IndexFunc[azimuth/tree.uses,int] -/
def C_slices_IndexFunc_tree_uses_int (N : Nat → Nat) : AFunc := ⟨19, [.inl 4],
 .seq (
  .ops [⟨(some 4), .mov (.c (.lit (.int .i64 0))), none⟩]) (
 .seq (
  .seq (
   .ops [⟨(some 6), .mov (.t 0), none⟩, ⟨(some 7), .len (.t 6), none⟩, ⟨(some 8), .mov (.c (.lit (.int .i64 0))), none⟩]) (
  .block 0 (
   .loop (L_slices_IndexFunc_tree_uses_int_1 N)))) (K_slices_IndexFunc_tree_uses_int_1 N)), false⟩

/-- slices.Sort[[]int,int] -/
def C_slices_Sort_sl_int_int (N : Nat → Nat) : AFunc := ⟨11, [],
 .seq (
  .ops [⟨(some 3), .mov (.t 0), none⟩, ⟨(some 4), .len (.t 3), none⟩, ⟨(some 2), .mov (.t 4), none⟩]) (
 .ops [⟨(some 5), .mov (.t 0), none⟩, ⟨(some 6), .mov (.t 2), none⟩, ⟨(some 7), .mov (.t 2), none⟩, ⟨(some 8), .conv (.toInt .u64) (.t 7), none⟩, ⟨(some 9), .call (.c (.fn (f_math_bits_Len N) [] [])) [(.t 8)], none⟩, ⟨(some 10), .call (.c (.fn (f_slices_pdqsortOrdered_int N) [] [])) [(.t 5), (.c (.lit (.int .i64 0))), (.t 6), (.t 9)], none⟩]), false⟩

def L_slices_breakPatternsOrdered_int_1 (N : Nat → Nat) : AC :=
    .seq (
     .seq (
      .ops [⟨(some 26), .mov (.t 9), none⟩, ⟨(some 27), .mov (.t 1), none⟩, ⟨(some 28), .mov (.t 6), none⟩, ⟨(some 29), .bin .quo (.t 28) (.c (.lit (.int .i64 4))), none⟩, ⟨(some 30), .bin .mul (.t 29) (.c (.lit (.int .i64 2))), none⟩, ⟨(some 31), .bin .add (.t 27) (.t 30), none⟩, ⟨(some 32), .bin .add (.t 31) (.c (.lit (.int .i64 1))), none⟩, ⟨(some 33), .bin .leq (.t 26) (.t 32), none⟩]) (
     .cond (.t 33) (
      .skip) (
      .exit 0))) (
    .seq (
     .block 1 (
      .seq (
       .ops [⟨(some 36), .call (.c (.fn (f_p_slices_xorshift_Next N) [] [])) [(.t 7)], none⟩, ⟨(some 37), .mov (.t 8), none⟩, ⟨(some 38), .bin .sub (.t 37) (.c (.lit (.int .u64 1))), none⟩, ⟨(some 39), .bin .and (.t 36) (.t 38), none⟩, ⟨(some 40), .conv (.toInt .i64) (.t 39), none⟩, ⟨(some 10), .mov (.t 40), none⟩]) (
      .seq (
       .seq (
        .ops [⟨(some 41), .mov (.t 10), none⟩, ⟨(some 42), .mov (.t 6), none⟩, ⟨(some 43), .bin .geq (.t 41) (.t 42), none⟩]) (
       .cond (.t 43) (
        .ops [⟨(some 44), .mov (.t 10), none⟩, ⟨(some 45), .mov (.t 6), none⟩, ⟨(some 46), .bin .sub (.t 44) (.t 45), none⟩, ⟨(some 10), .mov (.t 46), none⟩]) (
        .skip))) (
      .dops 10 [⟨(some 47), .mov (.t 0), none⟩, ⟨(some 48), .mov (.t 9), none⟩, ⟨(some 49), .mov (.t 0), none⟩, ⟨(some 50), .mov (.t 1), none⟩, ⟨(some 51), .mov (.t 10), none⟩, ⟨(some 52), .bin .add (.t 50) (.t 51), none⟩, ⟨(some 53), .mov (.t 0), none⟩, ⟨(some 54), .mov (.t 1), none⟩, ⟨(some 55), .mov (.t 10), none⟩, ⟨(some 56), .bin .add (.t 54) (.t 55), none⟩, ⟨(some 57), .iaddr 1 (.t 53) (.t 56), none⟩, ⟨(some 58), .load none (.t 57), none⟩, ⟨(some 59), .mov (.t 0), none⟩, ⟨(some 60), .mov (.t 9), none⟩, ⟨(some 61), .iaddr 1 (.t 59) (.t 60), none⟩, ⟨(some 62), .load none (.t 61), none⟩, ⟨(some 63), .iaddr 1 (.t 47) (.t 48), none⟩, ⟨none, .store 1 (.t 63) (.t 58), none⟩, ⟨(some 64), .iaddr 1 (.t 49) (.t 52), none⟩, ⟨none, .store 1 (.t 64) (.t 62), none⟩] [0, 0, 0, 0, 0, 0, 0, 0, 0, 0, 0, 2, 0, 0, 0, 2, 0, 0, 0, 0] [])))) (
    .ops [⟨(some 34), .mov (.t 9), none⟩, ⟨(some 35), .bin .add (.t 34) (.c (.lit (.int .i64 1))), none⟩, ⟨(some 9), .mov (.t 35), none⟩]))
/-- slices.breakPatternsOrdered[int] -/
def C_slices_breakPatternsOrdered_int (N : Nat → Nat) : AFunc := ⟨65, [],
 .seq (
  .ops [⟨(some 11), .mov (.t 2), none⟩, ⟨(some 12), .mov (.t 1), none⟩, ⟨(some 13), .bin .sub (.t 11) (.t 12), none⟩, ⟨(some 6), .mov (.t 13), none⟩]) (
 .seq (
  .ops [⟨(some 14), .mov (.t 6), none⟩, ⟨(some 15), .bin .geq (.t 14) (.c (.lit (.int .i64 8))), none⟩]) (
 .cond (.t 15) (
  .seq (
   .ops [⟨(some 16), .mov (.t 6), none⟩, ⟨(some 17), .conv (.toInt .u64) (.t 16), none⟩, ⟨(some 7), .new (t_slices_xorshift N) (.lit (.int .u64 0)), none⟩, ⟨none, .store 1 (.t 7) (.t 17), none⟩]) (
  .seq (
   .ops [⟨(some 18), .mov (.t 6), none⟩, ⟨(some 19), .call (.c (.fn (f_slices_nextPowerOfTwo N) [] [])) [(.t 18)], none⟩, ⟨(some 8), .mov (.t 19), none⟩]) (
  .seq (
   .ops [⟨(some 20), .mov (.t 1), none⟩, ⟨(some 21), .mov (.t 6), none⟩, ⟨(some 22), .bin .quo (.t 21) (.c (.lit (.int .i64 4))), none⟩, ⟨(some 23), .bin .mul (.t 22) (.c (.lit (.int .i64 2))), none⟩, ⟨(some 24), .bin .add (.t 20) (.t 23), none⟩, ⟨(some 25), .bin .sub (.t 24) (.c (.lit (.int .i64 1))), none⟩, ⟨(some 9), .mov (.t 25), none⟩]) (
  .block 0 (
   .loop (L_slices_breakPatternsOrdered_int_1 N)))))) (
  .skip))), false⟩

/-- slices.choosePivotOrdered[int] -/
def C_slices_choosePivotOrdered_int (N : Nat → Nat) : AFunc := ⟨57, [.inl 6, .inl 7],
 .seq (
  .ops [⟨(some 6), .mov (.c (.lit (.int .i64 0))), none⟩, ⟨(some 7), .mov (.c (.lit (.int .i64 0))), none⟩]) (
 .seq (
  .ops [⟨(some 13), .mov (.t 2), none⟩, ⟨(some 14), .mov (.t 1), none⟩, ⟨(some 15), .bin .sub (.t 13) (.t 14), none⟩, ⟨(some 8), .mov (.t 15), none⟩]) (
 .seq (
  .ops [⟨(some 9), .new (t_int N) (.lit (.int .i64 0)), none⟩]) (
 .seq (
  .ops [⟨(some 16), .mov (.t 1), none⟩, ⟨(some 17), .mov (.t 8), none⟩, ⟨(some 18), .bin .quo (.t 17) (.c (.lit (.int .i64 4))), none⟩, ⟨(some 19), .bin .mul (.t 18) (.c (.lit (.int .i64 1))), none⟩, ⟨(some 20), .bin .add (.t 16) (.t 19), none⟩, ⟨(some 10), .mov (.t 20), none⟩]) (
 .seq (
  .ops [⟨(some 21), .mov (.t 1), none⟩, ⟨(some 22), .mov (.t 8), none⟩, ⟨(some 23), .bin .quo (.t 22) (.c (.lit (.int .i64 4))), none⟩, ⟨(some 24), .bin .mul (.t 23) (.c (.lit (.int .i64 2))), none⟩, ⟨(some 25), .bin .add (.t 21) (.t 24), none⟩, ⟨(some 11), .mov (.t 25), none⟩]) (
 .seq (
  .ops [⟨(some 26), .mov (.t 1), none⟩, ⟨(some 27), .mov (.t 8), none⟩, ⟨(some 28), .bin .quo (.t 27) (.c (.lit (.int .i64 4))), none⟩, ⟨(some 29), .bin .mul (.t 28) (.c (.lit (.int .i64 3))), none⟩, ⟨(some 30), .bin .add (.t 26) (.t 29), none⟩, ⟨(some 12), .mov (.t 30), none⟩]) (
 .seq (
  .seq (
   .ops [⟨(some 31), .mov (.t 8), none⟩, ⟨(some 32), .bin .geq (.t 31) (.c (.lit (.int .i64 8))), none⟩]) (
  .cond (.t 32) (
   .seq (
    .seq (
     .ops [⟨(some 33), .mov (.t 8), none⟩, ⟨(some 34), .bin .geq (.t 33) (.c (.lit (.int .i64 50))), none⟩]) (
    .cond (.t 34) (
     .seq (
      .ops [⟨(some 35), .mov (.t 0), none⟩, ⟨(some 36), .mov (.t 10), none⟩, ⟨(some 37), .call (.c (.fn (f_slices_medianAdjacentOrdered_int N) [] [])) [(.t 35), (.t 36), (.t 9)], none⟩, ⟨(some 10), .mov (.t 37), none⟩]) (
     .seq (
      .ops [⟨(some 38), .mov (.t 0), none⟩, ⟨(some 39), .mov (.t 11), none⟩, ⟨(some 40), .call (.c (.fn (f_slices_medianAdjacentOrdered_int N) [] [])) [(.t 38), (.t 39), (.t 9)], none⟩, ⟨(some 11), .mov (.t 40), none⟩]) (
     .ops [⟨(some 41), .mov (.t 0), none⟩, ⟨(some 42), .mov (.t 12), none⟩, ⟨(some 43), .call (.c (.fn (f_slices_medianAdjacentOrdered_int N) [] [])) [(.t 41), (.t 42), (.t 9)], none⟩, ⟨(some 12), .mov (.t 43), none⟩]))) (
     .skip))) (
   .ops [⟨(some 44), .mov (.t 0), none⟩, ⟨(some 45), .mov (.t 10), none⟩, ⟨(some 46), .mov (.t 11), none⟩, ⟨(some 47), .mov (.t 12), none⟩, ⟨(some 48), .call (.c (.fn (f_slices_medianOrdered_int N) [] [])) [(.t 44), (.t 45), (.t 46), (.t 47), (.t 9)], none⟩, ⟨(some 11), .mov (.t 48), none⟩])) (
   .skip))) (
 .seq (
  .ops [⟨(some 49), .load none (.t 9), none⟩]) (
 .block 0 (
  .seq (
   .ops [⟨(some 52), .eq false .pint (.t 49) (.c (.lit (.int .i64 0))), none⟩, ⟨(some 51), .mov (.t 52), none⟩]) (
  .cond (.t 51) (
   .seq (
    .ops [⟨(some 53), .mov (.t 11), none⟩, ⟨(some 6), .mov (.t 53), none⟩, ⟨(some 7), .mov (.c (.lit (.int .i64 1))), none⟩]) (
   .ret)) (
   .seq (
    .ops [⟨(some 55), .eq false .pint (.t 49) (.c (.lit (.int .i64 12))), none⟩, ⟨(some 54), .mov (.t 55), none⟩]) (
   .cond (.t 54) (
    .seq (
     .ops [⟨(some 56), .mov (.t 11), none⟩, ⟨(some 6), .mov (.t 56), none⟩, ⟨(some 7), .mov (.c (.lit (.int .i64 2))), none⟩]) (
    .ret)) (
    .seq (
     .ops [⟨(some 50), .mov (.t 11), none⟩, ⟨(some 6), .mov (.t 50), none⟩, ⟨(some 7), .mov (.c (.lit (.int .i64 0))), none⟩]) (
    .ret)))))))))))))), false⟩

def L_slices_heapSortOrdered_int_1 (N : Nat → Nat) : AC :=
    .seq (
     .seq (
      .ops [⟨(some 18), .mov (.t 9), none⟩, ⟨(some 19), .bin .geq (.t 18) (.c (.lit (.int .i64 0))), none⟩]) (
     .cond (.t 19) (
      .skip) (
      .exit 0))) (
    .seq (
     .block 1 (
      .ops [⟨(some 22), .mov (.t 0), none⟩, ⟨(some 23), .mov (.t 9), none⟩, ⟨(some 24), .mov (.t 8), none⟩, ⟨(some 25), .mov (.t 6), none⟩, ⟨(some 26), .call (.c (.fn (f_slices_siftDownOrdered_int N) [] [])) [(.t 22), (.t 23), (.t 24), (.t 25)], none⟩])) (
    .ops [⟨(some 20), .mov (.t 9), none⟩, ⟨(some 21), .bin .sub (.t 20) (.c (.lit (.int .i64 1))), none⟩, ⟨(some 9), .mov (.t 21), none⟩]))
def L_slices_heapSortOrdered_int_2 (N : Nat → Nat) : AC :=
   .seq (
    .seq (
     .ops [⟨(some 29), .mov (.t 10), none⟩, ⟨(some 30), .bin .geq (.t 29) (.c (.lit (.int .i64 0))), none⟩]) (
    .cond (.t 30) (
     .skip) (
     .exit 2))) (
   .seq (
    .block 3 (
     .seq (
      .dops 10 [⟨(some 33), .mov (.t 0), none⟩, ⟨(some 34), .mov (.t 6), none⟩, ⟨(some 35), .mov (.t 0), none⟩, ⟨(some 36), .mov (.t 6), none⟩, ⟨(some 37), .mov (.t 10), none⟩, ⟨(some 38), .bin .add (.t 36) (.t 37), none⟩, ⟨(some 39), .mov (.t 0), none⟩, ⟨(some 40), .mov (.t 6), none⟩, ⟨(some 41), .mov (.t 10), none⟩, ⟨(some 42), .bin .add (.t 40) (.t 41), none⟩, ⟨(some 43), .iaddr 1 (.t 39) (.t 42), none⟩, ⟨(some 44), .load none (.t 43), none⟩, ⟨(some 45), .mov (.t 0), none⟩, ⟨(some 46), .mov (.t 6), none⟩, ⟨(some 47), .iaddr 1 (.t 45) (.t 46), none⟩, ⟨(some 48), .load none (.t 47), none⟩, ⟨(some 49), .iaddr 1 (.t 33) (.t 34), none⟩, ⟨none, .store 1 (.t 49) (.t 44), none⟩, ⟨(some 50), .iaddr 1 (.t 35) (.t 38), none⟩, ⟨none, .store 1 (.t 50) (.t 48), none⟩] [0, 0, 0, 0, 0, 0, 0, 0, 0, 0, 0, 2, 0, 0, 0, 2, 0, 0, 0, 0] []) (
     .ops [⟨(some 51), .mov (.t 0), none⟩, ⟨(some 52), .mov (.t 7), none⟩, ⟨(some 53), .mov (.t 10), none⟩, ⟨(some 54), .mov (.t 6), none⟩, ⟨(some 55), .call (.c (.fn (f_slices_siftDownOrdered_int N) [] [])) [(.t 51), (.t 52), (.t 53), (.t 54)], none⟩]))) (
   .ops [⟨(some 31), .mov (.t 10), none⟩, ⟨(some 32), .bin .sub (.t 31) (.c (.lit (.int .i64 1))), none⟩, ⟨(some 10), .mov (.t 32), none⟩]))
def K_slices_heapSortOrdered_int_1 (N : Nat → Nat) : AC :=
 .seq (
  .ops [⟨(some 27), .mov (.t 8), none⟩, ⟨(some 28), .bin .sub (.t 27) (.c (.lit (.int .i64 1))), none⟩, ⟨(some 10), .mov (.t 28), none⟩]) (
 .block 2 (
  .loop (L_slices_heapSortOrdered_int_2 N)))
/-- slices.heapSortOrdered[int] -/
def C_slices_heapSortOrdered_int (N : Nat → Nat) : AFunc := ⟨56, [],
 .seq (
  .ops [⟨(some 11), .mov (.t 1), none⟩, ⟨(some 6), .mov (.t 11), none⟩]) (
 .seq (
  .ops [⟨(some 7), .mov (.c (.lit (.int .i64 0))), none⟩]) (
 .seq (
  .ops [⟨(some 12), .mov (.t 2), none⟩, ⟨(some 13), .mov (.t 1), none⟩, ⟨(some 14), .bin .sub (.t 12) (.t 13), none⟩, ⟨(some 8), .mov (.t 14), none⟩]) (
 .seq (
  .seq (
   .ops [⟨(some 15), .mov (.t 8), none⟩, ⟨(some 16), .bin .sub (.t 15) (.c (.lit (.int .i64 1))), none⟩, ⟨(some 17), .bin .quo (.t 16) (.c (.lit (.int .i64 2))), none⟩, ⟨(some 9), .mov (.t 17), none⟩]) (
  .block 0 (
   .loop (L_slices_heapSortOrdered_int_1 N)))) (K_slices_heapSortOrdered_int_1 N)))), false⟩

def L_slices_insertionSortOrdered_int_2 (N : Nat → Nat) : AC :=
       .seq (
        .seq (
         .dops 4 [⟨(some 16), .mov (.t 7), none⟩, ⟨(some 17), .mov (.t 1), none⟩, ⟨(some 18), .bin .gtr (.t 16) (.t 17), none⟩, ⟨(some 19), .mov (.t 18), none⟩, ⟨(some 20), .mov (.t 0), (some (19, true))⟩, ⟨(some 21), .mov (.t 7), (some (19, true))⟩, ⟨(some 22), .iaddr 1 (.t 20) (.t 21), (some (19, true))⟩, ⟨(some 23), .load none (.t 22), (some (19, true))⟩, ⟨(some 24), .mov (.t 0), (some (19, true))⟩, ⟨(some 25), .mov (.t 7), (some (19, true))⟩, ⟨(some 26), .bin .sub (.t 25) (.c (.lit (.int .i64 1))), (some (19, true))⟩, ⟨(some 27), .iaddr 1 (.t 24) (.t 26), (some (19, true))⟩, ⟨(some 28), .load none (.t 27), (some (19, true))⟩, ⟨(some 29), .call (.c (.fn (f_cmp_Less_int N) [] [])) [(.t 23), (.t 28)], (some (19, true))⟩, ⟨(some 30), .pick (.t 19) (.t 29) (.c (.lit (.bool false))), none⟩] [0, 0, 0, 0, 0, 0, 0, 2, 0, 0, 0, 0, 2, 0, 0] []) (
        .cond (.t 30) (
         .skip) (
         .exit 2))) (
       .seq (
        .block 3 (
         .dops 6 [⟨(some 33), .mov (.t 0), none⟩, ⟨(some 34), .mov (.t 7), none⟩, ⟨(some 35), .mov (.t 0), none⟩, ⟨(some 36), .mov (.t 7), none⟩, ⟨(some 37), .bin .sub (.t 36) (.c (.lit (.int .i64 1))), none⟩, ⟨(some 38), .mov (.t 0), none⟩, ⟨(some 39), .mov (.t 7), none⟩, ⟨(some 40), .bin .sub (.t 39) (.c (.lit (.int .i64 1))), none⟩, ⟨(some 41), .iaddr 1 (.t 38) (.t 40), none⟩, ⟨(some 42), .load none (.t 41), none⟩, ⟨(some 43), .mov (.t 0), none⟩, ⟨(some 44), .mov (.t 7), none⟩, ⟨(some 45), .iaddr 1 (.t 43) (.t 44), none⟩, ⟨(some 46), .load none (.t 45), none⟩, ⟨(some 47), .iaddr 1 (.t 33) (.t 34), none⟩, ⟨none, .store 1 (.t 47) (.t 42), none⟩, ⟨(some 48), .iaddr 1 (.t 35) (.t 37), none⟩, ⟨none, .store 1 (.t 48) (.t 46), none⟩] [0, 0, 0, 0, 0, 0, 0, 0, 0, 2, 0, 0, 0, 2, 0, 0, 0, 0] [])) (
       .ops [⟨(some 31), .mov (.t 7), none⟩, ⟨(some 32), .bin .sub (.t 31) (.c (.lit (.int .i64 1))), none⟩, ⟨(some 7), .mov (.t 32), none⟩]))
def K_slices_insertionSortOrdered_int_1 (N : Nat → Nat) : AC :=
 .ops [⟨(some 13), .mov (.t 6), none⟩, ⟨(some 14), .bin .add (.t 13) (.c (.lit (.int .i64 1))), none⟩, ⟨(some 6), .mov (.t 14), none⟩]
def L_slices_insertionSortOrdered_int_1 (N : Nat → Nat) : AC :=
   .seq (
    .seq (
     .ops [⟨(some 10), .mov (.t 6), none⟩, ⟨(some 11), .mov (.t 2), none⟩, ⟨(some 12), .bin .lss (.t 10) (.t 11), none⟩]) (
    .cond (.t 12) (
     .skip) (
     .exit 0))) (
   .seq (
    .block 1 (
     .seq (
      .ops [⟨(some 15), .mov (.t 6), none⟩, ⟨(some 7), .mov (.t 15), none⟩]) (
     .block 2 (
      .loop (L_slices_insertionSortOrdered_int_2 N))))) (K_slices_insertionSortOrdered_int_1 N))
/-- slices.insertionSortOrdered[int] -/
def C_slices_insertionSortOrdered_int (N : Nat → Nat) : AFunc := ⟨49, [],
 .seq (
  .ops [⟨(some 8), .mov (.t 1), none⟩, ⟨(some 9), .bin .add (.t 8) (.c (.lit (.int .i64 1))), none⟩, ⟨(some 6), .mov (.t 9), none⟩]) (
 .block 0 (
  .loop (L_slices_insertionSortOrdered_int_1 N))), false⟩

/-- slices.isNaN[string] -/
def C_slices_isNaN_string (N : Nat → Nat) : AFunc := ⟨6, [.inl 2],
 .seq (
  .ops [⟨(some 2), .mov (.c (.lit (.bool false))), none⟩]) (
 .seq (
  .ops [⟨(some 3), .mov (.t 0), none⟩, ⟨(some 4), .mov (.t 0), none⟩, ⟨(some 5), .eq true .pstr (.t 3) (.t 4), none⟩, ⟨(some 2), .mov (.t 5), none⟩]) (
 .ret)), false⟩

/-- slices.medianAdjacentOrdered[int] -/
def C_slices_medianAdjacentOrdered_int (N : Nat → Nat) : AFunc := ⟨15, [.inl 6],
 .seq (
  .ops [⟨(some 6), .mov (.c (.lit (.int .i64 0))), none⟩]) (
 .seq (
  .ops [⟨(some 7), .mov (.t 0), none⟩, ⟨(some 8), .mov (.t 1), none⟩, ⟨(some 9), .bin .sub (.t 8) (.c (.lit (.int .i64 1))), none⟩, ⟨(some 10), .mov (.t 1), none⟩, ⟨(some 11), .mov (.t 1), none⟩, ⟨(some 12), .bin .add (.t 11) (.c (.lit (.int .i64 1))), none⟩, ⟨(some 13), .mov (.t 2), none⟩, ⟨(some 14), .call (.c (.fn (f_slices_medianOrdered_int N) [] [])) [(.t 7), (.t 9), (.t 10), (.t 12), (.t 13)], none⟩, ⟨(some 6), .mov (.t 14), none⟩]) (
 .ret)), false⟩

/-- slices.medianOrdered[int] -/
def C_slices_medianOrdered_int (N : Nat → Nat) : AFunc := ⟨36, [.inl 10],
 .seq (
  .ops [⟨(some 10), .mov (.c (.lit (.int .i64 0))), none⟩]) (
 .seq (
  .ops [⟨(some 12), .mov (.t 0), none⟩, ⟨(some 13), .mov (.t 1), none⟩, ⟨(some 14), .mov (.t 2), none⟩, ⟨(some 15), .mov (.t 4), none⟩, ⟨(some 16), .call (.c (.fn (f_slices_order2Ordered_int N) [] [])) [(.t 12), (.t 13), (.t 14), (.t 15)], none⟩, ⟨(some 11), .mov (.t 16), none⟩, ⟨(some 17), .extract (.t 11) 0, none⟩, ⟨(some 18), .extract (.t 11) 1, none⟩, ⟨(some 1), .mov (.t 17), none⟩, ⟨(some 2), .mov (.t 18), none⟩]) (
 .seq (
  .ops [⟨(some 20), .mov (.t 0), none⟩, ⟨(some 21), .mov (.t 2), none⟩, ⟨(some 22), .mov (.t 3), none⟩, ⟨(some 23), .mov (.t 4), none⟩, ⟨(some 24), .call (.c (.fn (f_slices_order2Ordered_int N) [] [])) [(.t 20), (.t 21), (.t 22), (.t 23)], none⟩, ⟨(some 19), .mov (.t 24), none⟩, ⟨(some 25), .extract (.t 19) 0, none⟩, ⟨(some 26), .extract (.t 19) 1, none⟩, ⟨(some 2), .mov (.t 25), none⟩, ⟨(some 3), .mov (.t 26), none⟩]) (
 .seq (
  .ops [⟨(some 28), .mov (.t 0), none⟩, ⟨(some 29), .mov (.t 1), none⟩, ⟨(some 30), .mov (.t 2), none⟩, ⟨(some 31), .mov (.t 4), none⟩, ⟨(some 32), .call (.c (.fn (f_slices_order2Ordered_int N) [] [])) [(.t 28), (.t 29), (.t 30), (.t 31)], none⟩, ⟨(some 27), .mov (.t 32), none⟩, ⟨(some 33), .extract (.t 27) 0, none⟩, ⟨(some 34), .extract (.t 27) 1, none⟩, ⟨(some 1), .mov (.t 33), none⟩, ⟨(some 2), .mov (.t 34), none⟩]) (
 .seq (
  .ops [⟨(some 35), .mov (.t 2), none⟩, ⟨(some 10), .mov (.t 35), none⟩]) (
 .ret))))), false⟩

/-- slices.nextPowerOfTwo -/
def C_slices_nextPowerOfTwo (N : Nat → Nat) : AFunc := ⟨7, [.inl 2],
 .seq (
  .ops [⟨(some 2), .mov (.c (.lit (.int .u64 0))), none⟩]) (
 .seq (
  .ops [⟨(some 3), .mov (.t 0), none⟩, ⟨(some 4), .conv (.toInt .u64) (.t 3), none⟩, ⟨(some 5), .call (.c (.fn (f_math_bits_Len N) [] [])) [(.t 4)], none⟩, ⟨(some 6), .bin .shl (.c (.lit (.int .u64 1))) (.t 5), none⟩, ⟨(some 2), .mov (.t 6), none⟩]) (
 .ret)), false⟩

/-- slices.order2Ordered[int] -/
def C_slices_order2Ordered_int (N : Nat → Nat) : AFunc := ⟨28, [.inl 8, .inl 9],
 .seq (
  .ops [⟨(some 8), .mov (.c (.lit (.int .i64 0))), none⟩, ⟨(some 9), .mov (.c (.lit (.int .i64 0))), none⟩]) (
 .seq (
  .seq (
   .dops 1 [⟨(some 10), .mov (.t 0), none⟩, ⟨(some 11), .mov (.t 2), none⟩, ⟨(some 12), .iaddr 1 (.t 10) (.t 11), none⟩, ⟨(some 13), .load none (.t 12), none⟩, ⟨(some 14), .mov (.t 0), none⟩, ⟨(some 15), .mov (.t 1), none⟩, ⟨(some 16), .iaddr 1 (.t 14) (.t 15), none⟩, ⟨(some 17), .load none (.t 16), none⟩, ⟨(some 18), .call (.c (.fn (f_cmp_Less_int N) [] [])) [(.t 13), (.t 17)], none⟩] [0, 0, 0, 2, 0, 0, 0, 2, 0] []) (
  .cond (.t 18) (
   .seq (
    .ops [⟨(some 19), .mov (.t 3), none⟩, ⟨(some 20), .nilchk (.t 19), none⟩, ⟨(some 21), .load none (.t 20), none⟩, ⟨(some 22), .bin .add (.t 21) (.c (.lit (.int .i64 1))), none⟩, ⟨(some 23), .nilchk (.t 19), none⟩, ⟨none, .store 1 (.t 23) (.t 22), none⟩]) (
   .seq (
    .ops [⟨(some 24), .mov (.t 2), none⟩, ⟨(some 25), .mov (.t 1), none⟩, ⟨(some 8), .mov (.t 24), none⟩, ⟨(some 9), .mov (.t 25), none⟩]) (
   .ret))) (
   .skip))) (
 .seq (
  .ops [⟨(some 26), .mov (.t 1), none⟩, ⟨(some 27), .mov (.t 2), none⟩, ⟨(some 8), .mov (.t 26), none⟩, ⟨(some 9), .mov (.t 27), none⟩]) (
 .ret))), false⟩

def L_slices_partialInsertionSortOrdered_int_2 (N : Nat → Nat) : AC :=
         .seq (
          .seq (
           .dops 5 [⟨(some 17), .mov (.t 7), none⟩, ⟨(some 18), .mov (.t 2), none⟩, ⟨(some 19), .bin .lss (.t 17) (.t 18), none⟩, ⟨(some 20), .mov (.t 19), none⟩, ⟨(some 21), .mov (.t 0), (some (20, true))⟩, ⟨(some 22), .mov (.t 7), (some (20, true))⟩, ⟨(some 23), .iaddr 1 (.t 21) (.t 22), (some (20, true))⟩, ⟨(some 24), .load none (.t 23), (some (20, true))⟩, ⟨(some 25), .mov (.t 0), (some (20, true))⟩, ⟨(some 26), .mov (.t 7), (some (20, true))⟩, ⟨(some 27), .bin .sub (.t 26) (.c (.lit (.int .i64 1))), (some (20, true))⟩, ⟨(some 28), .iaddr 1 (.t 25) (.t 27), (some (20, true))⟩, ⟨(some 29), .load none (.t 28), (some (20, true))⟩, ⟨(some 30), .call (.c (.fn (f_cmp_Less_int N) [] [])) [(.t 24), (.t 29)], (some (20, true))⟩, ⟨(some 31), .un .not (.t 30), (some (20, true))⟩, ⟨(some 32), .pick (.t 20) (.t 31) (.c (.lit (.bool false))), none⟩] [0, 0, 0, 0, 0, 0, 0, 2, 0, 0, 0, 0, 2, 0, 0, 0] []) (
          .cond (.t 32) (
           .skip) (
           .exit 2))) (
         .block 3 (
          .ops [⟨(some 33), .mov (.t 7), none⟩, ⟨(some 34), .bin .add (.t 33) (.c (.lit (.int .i64 1))), none⟩, ⟨(some 7), .mov (.t 34), none⟩]))
def L_slices_partialInsertionSortOrdered_int_3 (N : Nat → Nat) : AC :=
     .seq (
      .seq (
       .ops [⟨(some 64), .mov (.t 9), none⟩, ⟨(some 65), .bin .geq (.t 64) (.c (.lit (.int .i64 1))), none⟩]) (
      .cond (.t 65) (
       .skip) (
       .exit 4))) (
     .seq (
      .block 5 (
       .seq (
        .seq (
         .dops 16 [⟨(some 68), .mov (.t 0), none⟩, ⟨(some 69), .mov (.t 9), none⟩, ⟨(some 70), .iaddr 1 (.t 68) (.t 69), none⟩, ⟨(some 71), .load none (.t 70), none⟩, ⟨(some 72), .mov (.t 0), none⟩, ⟨(some 73), .mov (.t 9), none⟩, ⟨(some 74), .bin .sub (.t 73) (.c (.lit (.int .i64 1))), none⟩, ⟨(some 75), .iaddr 1 (.t 72) (.t 74), none⟩, ⟨(some 76), .load none (.t 75), none⟩, ⟨(some 77), .call (.c (.fn (f_cmp_Less_int N) [] [])) [(.t 71), (.t 76)], none⟩, ⟨(some 78), .un .not (.t 77), none⟩] [0, 0, 0, 2, 0, 0, 0, 0, 2, 0, 0] []) (
        .cond (.t 78) (
         .exit 4) (
         .skip))) (
       .dops 17 [⟨(some 79), .mov (.t 0), none⟩, ⟨(some 80), .mov (.t 9), none⟩, ⟨(some 81), .mov (.t 0), none⟩, ⟨(some 82), .mov (.t 9), none⟩, ⟨(some 83), .bin .sub (.t 82) (.c (.lit (.int .i64 1))), none⟩, ⟨(some 84), .mov (.t 0), none⟩, ⟨(some 85), .mov (.t 9), none⟩, ⟨(some 86), .bin .sub (.t 85) (.c (.lit (.int .i64 1))), none⟩, ⟨(some 87), .iaddr 1 (.t 84) (.t 86), none⟩, ⟨(some 88), .load none (.t 87), none⟩, ⟨(some 89), .mov (.t 0), none⟩, ⟨(some 90), .mov (.t 9), none⟩, ⟨(some 91), .iaddr 1 (.t 89) (.t 90), none⟩, ⟨(some 92), .load none (.t 91), none⟩, ⟨(some 93), .iaddr 1 (.t 79) (.t 80), none⟩, ⟨none, .store 1 (.t 93) (.t 88), none⟩, ⟨(some 94), .iaddr 1 (.t 81) (.t 83), none⟩, ⟨none, .store 1 (.t 94) (.t 92), none⟩] [0, 0, 0, 0, 0, 0, 0, 0, 0, 2, 0, 0, 0, 2, 0, 0, 0, 0] []))) (
     .ops [⟨(some 66), .mov (.t 9), none⟩, ⟨(some 67), .bin .sub (.t 66) (.c (.lit (.int .i64 1))), none⟩, ⟨(some 9), .mov (.t 67), none⟩]))
def L_slices_partialInsertionSortOrdered_int_4 (N : Nat → Nat) : AC :=
    .seq (
     .seq (
      .ops [⟨(some 101), .mov (.t 10), none⟩, ⟨(some 102), .mov (.t 2), none⟩, ⟨(some 103), .bin .lss (.t 101) (.t 102), none⟩]) (
     .cond (.t 103) (
      .skip) (
      .exit 6))) (
    .seq (
     .block 7 (
      .seq (
       .seq (
        .dops 22 [⟨(some 106), .mov (.t 0), none⟩, ⟨(some 107), .mov (.t 10), none⟩, ⟨(some 108), .iaddr 1 (.t 106) (.t 107), none⟩, ⟨(some 109), .load none (.t 108), none⟩, ⟨(some 110), .mov (.t 0), none⟩, ⟨(some 111), .mov (.t 10), none⟩, ⟨(some 112), .bin .sub (.t 111) (.c (.lit (.int .i64 1))), none⟩, ⟨(some 113), .iaddr 1 (.t 110) (.t 112), none⟩, ⟨(some 114), .load none (.t 113), none⟩, ⟨(some 115), .call (.c (.fn (f_cmp_Less_int N) [] [])) [(.t 109), (.t 114)], none⟩, ⟨(some 116), .un .not (.t 115), none⟩] [0, 0, 0, 2, 0, 0, 0, 0, 2, 0, 0] []) (
       .cond (.t 116) (
        .exit 6) (
        .skip))) (
      .dops 23 [⟨(some 117), .mov (.t 0), none⟩, ⟨(some 118), .mov (.t 10), none⟩, ⟨(some 119), .mov (.t 0), none⟩, ⟨(some 120), .mov (.t 10), none⟩, ⟨(some 121), .bin .sub (.t 120) (.c (.lit (.int .i64 1))), none⟩, ⟨(some 122), .mov (.t 0), none⟩, ⟨(some 123), .mov (.t 10), none⟩, ⟨(some 124), .bin .sub (.t 123) (.c (.lit (.int .i64 1))), none⟩, ⟨(some 125), .iaddr 1 (.t 122) (.t 124), none⟩, ⟨(some 126), .load none (.t 125), none⟩, ⟨(some 127), .mov (.t 0), none⟩, ⟨(some 128), .mov (.t 10), none⟩, ⟨(some 129), .iaddr 1 (.t 127) (.t 128), none⟩, ⟨(some 130), .load none (.t 129), none⟩, ⟨(some 131), .iaddr 1 (.t 117) (.t 118), none⟩, ⟨none, .store 1 (.t 131) (.t 126), none⟩, ⟨(some 132), .iaddr 1 (.t 119) (.t 121), none⟩, ⟨none, .store 1 (.t 132) (.t 130), none⟩] [0, 0, 0, 0, 0, 0, 0, 0, 0, 2, 0, 0, 0, 2, 0, 0, 0, 0] []))) (
    .ops [⟨(some 104), .mov (.t 10), none⟩, ⟨(some 105), .bin .add (.t 104) (.c (.lit (.int .i64 1))), none⟩, ⟨(some 10), .mov (.t 105), none⟩]))
def K_slices_partialInsertionSortOrdered_int_2 (N : Nat → Nat) : AC :=
 .seq (
  .ops [⟨(some 95), .mov (.t 2), none⟩, ⟨(some 96), .mov (.t 7), none⟩, ⟨(some 97), .bin .sub (.t 95) (.t 96), none⟩, ⟨(some 98), .bin .geq (.t 97) (.c (.lit (.int .i64 2))), none⟩]) (
 .cond (.t 98) (
  .seq (
   .ops [⟨(some 99), .mov (.t 7), none⟩, ⟨(some 100), .bin .add (.t 99) (.c (.lit (.int .i64 1))), none⟩, ⟨(some 10), .mov (.t 100), none⟩]) (
  .block 6 (
   .loop (L_slices_partialInsertionSortOrdered_int_4 N)))) (
  .skip))
def K_slices_partialInsertionSortOrdered_int_1 (N : Nat → Nat) : AC :=
 .seq (
  .seq (
   .ops [⟨(some 35), .mov (.t 7), none⟩, ⟨(some 36), .mov (.t 2), none⟩, ⟨(some 37), .eq false .pint (.t 35) (.t 36), none⟩]) (
  .cond (.t 37) (
   .seq (
    .ops [⟨(some 6), .mov (.c (.lit (.bool true))), none⟩]) (
   .ret)) (
   .skip))) (
 .seq (
  .seq (
   .ops [⟨(some 38), .mov (.t 2), none⟩, ⟨(some 39), .mov (.t 1), none⟩, ⟨(some 40), .bin .sub (.t 38) (.t 39), none⟩, ⟨(some 41), .bin .lss (.t 40) (.c (.lit (.int .i64 50))), none⟩]) (
  .cond (.t 41) (
   .seq (
    .ops [⟨(some 6), .mov (.c (.lit (.bool false))), none⟩]) (
   .ret)) (
   .skip))) (
 .seq (
  .dops 11 [⟨(some 42), .mov (.t 0), none⟩, ⟨(some 43), .mov (.t 7), none⟩, ⟨(some 44), .mov (.t 0), none⟩, ⟨(some 45), .mov (.t 7), none⟩, ⟨(some 46), .bin .sub (.t 45) (.c (.lit (.int .i64 1))), none⟩, ⟨(some 47), .mov (.t 0), none⟩, ⟨(some 48), .mov (.t 7), none⟩, ⟨(some 49), .bin .sub (.t 48) (.c (.lit (.int .i64 1))), none⟩, ⟨(some 50), .iaddr 1 (.t 47) (.t 49), none⟩, ⟨(some 51), .load none (.t 50), none⟩, ⟨(some 52), .mov (.t 0), none⟩, ⟨(some 53), .mov (.t 7), none⟩, ⟨(some 54), .iaddr 1 (.t 52) (.t 53), none⟩, ⟨(some 55), .load none (.t 54), none⟩, ⟨(some 56), .iaddr 1 (.t 42) (.t 43), none⟩, ⟨none, .store 1 (.t 56) (.t 51), none⟩, ⟨(some 57), .iaddr 1 (.t 44) (.t 46), none⟩, ⟨none, .store 1 (.t 57) (.t 55), none⟩] [0, 0, 0, 0, 0, 0, 0, 0, 0, 2, 0, 0, 0, 2, 0, 0, 0, 0] []) (
 .seq (
  .seq (
   .ops [⟨(some 58), .mov (.t 7), none⟩, ⟨(some 59), .mov (.t 1), none⟩, ⟨(some 60), .bin .sub (.t 58) (.t 59), none⟩, ⟨(some 61), .bin .geq (.t 60) (.c (.lit (.int .i64 2))), none⟩]) (
  .cond (.t 61) (
   .seq (
    .ops [⟨(some 62), .mov (.t 7), none⟩, ⟨(some 63), .bin .sub (.t 62) (.c (.lit (.int .i64 1))), none⟩, ⟨(some 9), .mov (.t 63), none⟩]) (
   .block 4 (
    .loop (L_slices_partialInsertionSortOrdered_int_3 N)))) (
   .skip))) (K_slices_partialInsertionSortOrdered_int_2 N))))
def K_slices_partialInsertionSortOrdered_int_3 (N : Nat → Nat) : AC :=
 .ops [⟨(some 15), .mov (.t 8), none⟩, ⟨(some 16), .bin .add (.t 15) (.c (.lit (.int .i64 1))), none⟩, ⟨(some 8), .mov (.t 16), none⟩]
def L_slices_partialInsertionSortOrdered_int_1 (N : Nat → Nat) : AC :=
    .seq (
     .seq (
      .ops [⟨(some 13), .mov (.t 8), none⟩, ⟨(some 14), .bin .lss (.t 13) (.c (.lit (.int .i64 5))), none⟩]) (
     .cond (.t 14) (
      .skip) (
      .exit 0))) (
    .seq (
     .block 1 (
      .seq (
       .block 2 (
        .loop (L_slices_partialInsertionSortOrdered_int_2 N))) (K_slices_partialInsertionSortOrdered_int_1 N))) (K_slices_partialInsertionSortOrdered_int_3 N))
def K_slices_partialInsertionSortOrdered_int_4 (N : Nat → Nat) : AC :=
 .seq (
  .ops [⟨(some 6), .mov (.c (.lit (.bool false))), none⟩]) (
 .ret)
/-- slices.partialInsertionSortOrdered[int] -/
def C_slices_partialInsertionSortOrdered_int (N : Nat → Nat) : AFunc := ⟨133, [.inl 6],
 .seq (
  .ops [⟨(some 6), .mov (.c (.lit (.bool false))), none⟩]) (
 .seq (
  .ops [⟨(some 11), .mov (.t 1), none⟩, ⟨(some 12), .bin .add (.t 11) (.c (.lit (.int .i64 1))), none⟩, ⟨(some 7), .mov (.t 12), none⟩]) (
 .seq (
  .seq (
   .ops [⟨(some 8), .mov (.c (.lit (.int .i64 0))), none⟩]) (
  .block 0 (
   .loop (L_slices_partialInsertionSortOrdered_int_1 N)))) (K_slices_partialInsertionSortOrdered_int_4 N))), false⟩

def L_slices_partitionEqualOrdered_int_2 (N : Nat → Nat) : AC :=
        .seq (
         .seq (
          .dops 3 [⟨(some 29), .mov (.t 9), none⟩, ⟨(some 30), .mov (.t 10), none⟩, ⟨(some 31), .bin .leq (.t 29) (.t 30), none⟩, ⟨(some 32), .mov (.t 31), none⟩, ⟨(some 33), .mov (.t 0), (some (32, true))⟩, ⟨(some 34), .mov (.t 1), (some (32, true))⟩, ⟨(some 35), .iaddr 1 (.t 33) (.t 34), (some (32, true))⟩, ⟨(some 36), .load none (.t 35), (some (32, true))⟩, ⟨(some 37), .mov (.t 0), (some (32, true))⟩, ⟨(some 38), .mov (.t 9), (some (32, true))⟩, ⟨(some 39), .iaddr 1 (.t 37) (.t 38), (some (32, true))⟩, ⟨(some 40), .load none (.t 39), (some (32, true))⟩, ⟨(some 41), .call (.c (.fn (f_cmp_Less_int N) [] [])) [(.t 36), (.t 40)], (some (32, true))⟩, ⟨(some 42), .un .not (.t 41), (some (32, true))⟩, ⟨(some 43), .pick (.t 32) (.t 42) (.c (.lit (.bool false))), none⟩] [0, 0, 0, 0, 0, 0, 0, 2, 0, 0, 0, 2, 0, 0, 0] []) (
         .cond (.t 43) (
          .skip) (
          .exit 2))) (
        .block 3 (
         .ops [⟨(some 44), .mov (.t 9), none⟩, ⟨(some 45), .bin .add (.t 44) (.c (.lit (.int .i64 1))), none⟩, ⟨(some 9), .mov (.t 45), none⟩]))
def L_slices_partitionEqualOrdered_int_3 (N : Nat → Nat) : AC :=
    .seq (
     .seq (
      .dops 5 [⟨(some 46), .mov (.t 9), none⟩, ⟨(some 47), .mov (.t 10), none⟩, ⟨(some 48), .bin .leq (.t 46) (.t 47), none⟩, ⟨(some 49), .mov (.t 48), none⟩, ⟨(some 50), .mov (.t 0), (some (49, true))⟩, ⟨(some 51), .mov (.t 1), (some (49, true))⟩, ⟨(some 52), .iaddr 1 (.t 50) (.t 51), (some (49, true))⟩, ⟨(some 53), .load none (.t 52), (some (49, true))⟩, ⟨(some 54), .mov (.t 0), (some (49, true))⟩, ⟨(some 55), .mov (.t 10), (some (49, true))⟩, ⟨(some 56), .iaddr 1 (.t 54) (.t 55), (some (49, true))⟩, ⟨(some 57), .load none (.t 56), (some (49, true))⟩, ⟨(some 58), .call (.c (.fn (f_cmp_Less_int N) [] [])) [(.t 53), (.t 57)], (some (49, true))⟩, ⟨(some 59), .pick (.t 49) (.t 58) (.c (.lit (.bool false))), none⟩] [0, 0, 0, 0, 0, 0, 0, 2, 0, 0, 0, 2, 0, 0] []) (
     .cond (.t 59) (
      .skip) (
      .exit 4))) (
    .block 5 (
     .ops [⟨(some 60), .mov (.t 10), none⟩, ⟨(some 61), .bin .sub (.t 60) (.c (.lit (.int .i64 1))), none⟩, ⟨(some 10), .mov (.t 61), none⟩]))
def K_slices_partitionEqualOrdered_int_2 (N : Nat → Nat) : AC :=
 .seq (
  .seq (
   .ops [⟨(some 62), .mov (.t 9), none⟩, ⟨(some 63), .mov (.t 10), none⟩, ⟨(some 64), .bin .gtr (.t 62) (.t 63), none⟩]) (
  .cond (.t 64) (
   .exit 0) (
   .skip))) (
 .seq (
  .dops 8 [⟨(some 65), .mov (.t 0), none⟩, ⟨(some 66), .mov (.t 9), none⟩, ⟨(some 67), .mov (.t 0), none⟩, ⟨(some 68), .mov (.t 10), none⟩, ⟨(some 69), .mov (.t 0), none⟩, ⟨(some 70), .mov (.t 10), none⟩, ⟨(some 71), .iaddr 1 (.t 69) (.t 70), none⟩, ⟨(some 72), .load none (.t 71), none⟩, ⟨(some 73), .mov (.t 0), none⟩, ⟨(some 74), .mov (.t 9), none⟩, ⟨(some 75), .iaddr 1 (.t 73) (.t 74), none⟩, ⟨(some 76), .load none (.t 75), none⟩, ⟨(some 77), .iaddr 1 (.t 65) (.t 66), none⟩, ⟨none, .store 1 (.t 77) (.t 72), none⟩, ⟨(some 78), .iaddr 1 (.t 67) (.t 68), none⟩, ⟨none, .store 1 (.t 78) (.t 76), none⟩] [0, 0, 0, 0, 0, 0, 0, 2, 0, 0, 0, 2, 0, 0, 0, 0] []) (
 .seq (
  .ops [⟨(some 79), .mov (.t 9), none⟩, ⟨(some 80), .bin .add (.t 79) (.c (.lit (.int .i64 1))), none⟩, ⟨(some 9), .mov (.t 80), none⟩]) (
 .ops [⟨(some 81), .mov (.t 10), none⟩, ⟨(some 82), .bin .sub (.t 81) (.c (.lit (.int .i64 1))), none⟩, ⟨(some 10), .mov (.t 82), none⟩])))
def K_slices_partitionEqualOrdered_int_1 (N : Nat → Nat) : AC :=
 .seq (
  .block 4 (
   .loop (L_slices_partitionEqualOrdered_int_3 N))) (K_slices_partitionEqualOrdered_int_2 N)
def L_slices_partitionEqualOrdered_int_1 (N : Nat → Nat) : AC :=
    .block 1 (
     .seq (
      .block 2 (
       .loop (L_slices_partitionEqualOrdered_int_2 N))) (K_slices_partitionEqualOrdered_int_1 N))
def K_slices_partitionEqualOrdered_int_3 (N : Nat → Nat) : AC :=
 .seq (
  .ops [⟨(some 83), .mov (.t 9), none⟩, ⟨(some 8), .mov (.t 83), none⟩]) (
 .ret)
/-- slices.partitionEqualOrdered[int] -/
def C_slices_partitionEqualOrdered_int (N : Nat → Nat) : AFunc := ⟨84, [.inl 8],
 .seq (
  .ops [⟨(some 8), .mov (.c (.lit (.int .i64 0))), none⟩]) (
 .seq (
  .dops 1 [⟨(some 11), .mov (.t 0), none⟩, ⟨(some 12), .mov (.t 1), none⟩, ⟨(some 13), .mov (.t 0), none⟩, ⟨(some 14), .mov (.t 3), none⟩, ⟨(some 15), .mov (.t 0), none⟩, ⟨(some 16), .mov (.t 3), none⟩, ⟨(some 17), .iaddr 1 (.t 15) (.t 16), none⟩, ⟨(some 18), .load none (.t 17), none⟩, ⟨(some 19), .mov (.t 0), none⟩, ⟨(some 20), .mov (.t 1), none⟩, ⟨(some 21), .iaddr 1 (.t 19) (.t 20), none⟩, ⟨(some 22), .load none (.t 21), none⟩, ⟨(some 23), .iaddr 1 (.t 11) (.t 12), none⟩, ⟨none, .store 1 (.t 23) (.t 18), none⟩, ⟨(some 24), .iaddr 1 (.t 13) (.t 14), none⟩, ⟨none, .store 1 (.t 24) (.t 22), none⟩] [0, 0, 0, 0, 0, 0, 0, 2, 0, 0, 0, 2, 0, 0, 0, 0] []) (
 .seq (
  .ops [⟨(some 25), .mov (.t 1), none⟩, ⟨(some 26), .bin .add (.t 25) (.c (.lit (.int .i64 1))), none⟩, ⟨(some 27), .mov (.t 2), none⟩, ⟨(some 28), .bin .sub (.t 27) (.c (.lit (.int .i64 1))), none⟩, ⟨(some 9), .mov (.t 26), none⟩, ⟨(some 10), .mov (.t 28), none⟩]) (
 .seq (
  .block 0 (
   .loop (L_slices_partitionEqualOrdered_int_1 N))) (K_slices_partitionEqualOrdered_int_3 N)))), false⟩

def L_slices_partitionOrdered_int_1 (N : Nat → Nat) : AC :=
    .seq (
     .seq (
      .dops 3 [⟨(some 30), .mov (.t 10), none⟩, ⟨(some 31), .mov (.t 11), none⟩, ⟨(some 32), .bin .leq (.t 30) (.t 31), none⟩, ⟨(some 33), .mov (.t 32), none⟩, ⟨(some 34), .mov (.t 0), (some (33, true))⟩, ⟨(some 35), .mov (.t 10), (some (33, true))⟩, ⟨(some 36), .iaddr 1 (.t 34) (.t 35), (some (33, true))⟩, ⟨(some 37), .load none (.t 36), (some (33, true))⟩, ⟨(some 38), .mov (.t 0), (some (33, true))⟩, ⟨(some 39), .mov (.t 1), (some (33, true))⟩, ⟨(some 40), .iaddr 1 (.t 38) (.t 39), (some (33, true))⟩, ⟨(some 41), .load none (.t 40), (some (33, true))⟩, ⟨(some 42), .call (.c (.fn (f_cmp_Less_int N) [] [])) [(.t 37), (.t 41)], (some (33, true))⟩, ⟨(some 43), .pick (.t 33) (.t 42) (.c (.lit (.bool false))), none⟩] [0, 0, 0, 0, 0, 0, 0, 2, 0, 0, 0, 2, 0, 0] []) (
     .cond (.t 43) (
      .skip) (
      .exit 0))) (
    .block 1 (
     .ops [⟨(some 44), .mov (.t 10), none⟩, ⟨(some 45), .bin .add (.t 44) (.c (.lit (.int .i64 1))), none⟩, ⟨(some 10), .mov (.t 45), none⟩]))
def L_slices_partitionOrdered_int_2 (N : Nat → Nat) : AC :=
    .seq (
     .seq (
      .dops 5 [⟨(some 46), .mov (.t 10), none⟩, ⟨(some 47), .mov (.t 11), none⟩, ⟨(some 48), .bin .leq (.t 46) (.t 47), none⟩, ⟨(some 49), .mov (.t 48), none⟩, ⟨(some 50), .mov (.t 0), (some (49, true))⟩, ⟨(some 51), .mov (.t 11), (some (49, true))⟩, ⟨(some 52), .iaddr 1 (.t 50) (.t 51), (some (49, true))⟩, ⟨(some 53), .load none (.t 52), (some (49, true))⟩, ⟨(some 54), .mov (.t 0), (some (49, true))⟩, ⟨(some 55), .mov (.t 1), (some (49, true))⟩, ⟨(some 56), .iaddr 1 (.t 54) (.t 55), (some (49, true))⟩, ⟨(some 57), .load none (.t 56), (some (49, true))⟩, ⟨(some 58), .call (.c (.fn (f_cmp_Less_int N) [] [])) [(.t 53), (.t 57)], (some (49, true))⟩, ⟨(some 59), .un .not (.t 58), (some (49, true))⟩, ⟨(some 60), .pick (.t 49) (.t 59) (.c (.lit (.bool false))), none⟩] [0, 0, 0, 0, 0, 0, 0, 2, 0, 0, 0, 2, 0, 0, 0] []) (
     .cond (.t 60) (
      .skip) (
      .exit 2))) (
    .block 3 (
     .ops [⟨(some 61), .mov (.t 11), none⟩, ⟨(some 62), .bin .sub (.t 61) (.c (.lit (.int .i64 1))), none⟩, ⟨(some 11), .mov (.t 62), none⟩]))
def L_slices_partitionOrdered_int_4 (N : Nat → Nat) : AC :=
        .seq (
         .seq (
          .dops 13 [⟨(some 99), .mov (.t 10), none⟩, ⟨(some 100), .mov (.t 11), none⟩, ⟨(some 101), .bin .leq (.t 99) (.t 100), none⟩, ⟨(some 102), .mov (.t 101), none⟩, ⟨(some 103), .mov (.t 0), (some (102, true))⟩, ⟨(some 104), .mov (.t 10), (some (102, true))⟩, ⟨(some 105), .iaddr 1 (.t 103) (.t 104), (some (102, true))⟩, ⟨(some 106), .load none (.t 105), (some (102, true))⟩, ⟨(some 107), .mov (.t 0), (some (102, true))⟩, ⟨(some 108), .mov (.t 1), (some (102, true))⟩, ⟨(some 109), .iaddr 1 (.t 107) (.t 108), (some (102, true))⟩, ⟨(some 110), .load none (.t 109), (some (102, true))⟩, ⟨(some 111), .call (.c (.fn (f_cmp_Less_int N) [] [])) [(.t 106), (.t 110)], (some (102, true))⟩, ⟨(some 112), .pick (.t 102) (.t 111) (.c (.lit (.bool false))), none⟩] [0, 0, 0, 0, 0, 0, 0, 2, 0, 0, 0, 2, 0, 0] []) (
         .cond (.t 112) (
          .skip) (
          .exit 6))) (
        .block 7 (
         .ops [⟨(some 113), .mov (.t 10), none⟩, ⟨(some 114), .bin .add (.t 113) (.c (.lit (.int .i64 1))), none⟩, ⟨(some 10), .mov (.t 114), none⟩]))
def L_slices_partitionOrdered_int_5 (N : Nat → Nat) : AC :=
    .seq (
     .seq (
      .dops 15 [⟨(some 115), .mov (.t 10), none⟩, ⟨(some 116), .mov (.t 11), none⟩, ⟨(some 117), .bin .leq (.t 115) (.t 116), none⟩, ⟨(some 118), .mov (.t 117), none⟩, ⟨(some 119), .mov (.t 0), (some (118, true))⟩, ⟨(some 120), .mov (.t 11), (some (118, true))⟩, ⟨(some 121), .iaddr 1 (.t 119) (.t 120), (some (118, true))⟩, ⟨(some 122), .load none (.t 121), (some (118, true))⟩, ⟨(some 123), .mov (.t 0), (some (118, true))⟩, ⟨(some 124), .mov (.t 1), (some (118, true))⟩, ⟨(some 125), .iaddr 1 (.t 123) (.t 124), (some (118, true))⟩, ⟨(some 126), .load none (.t 125), (some (118, true))⟩, ⟨(some 127), .call (.c (.fn (f_cmp_Less_int N) [] [])) [(.t 122), (.t 126)], (some (118, true))⟩, ⟨(some 128), .un .not (.t 127), (some (118, true))⟩, ⟨(some 129), .pick (.t 118) (.t 128) (.c (.lit (.bool false))), none⟩] [0, 0, 0, 0, 0, 0, 0, 2, 0, 0, 0, 2, 0, 0, 0] []) (
     .cond (.t 129) (
      .skip) (
      .exit 8))) (
    .block 9 (
     .ops [⟨(some 130), .mov (.t 11), none⟩, ⟨(some 131), .bin .sub (.t 130) (.c (.lit (.int .i64 1))), none⟩, ⟨(some 11), .mov (.t 131), none⟩]))
def K_slices_partitionOrdered_int_4 (N : Nat → Nat) : AC :=
 .seq (
  .seq (
   .ops [⟨(some 132), .mov (.t 10), none⟩, ⟨(some 133), .mov (.t 11), none⟩, ⟨(some 134), .bin .gtr (.t 132) (.t 133), none⟩]) (
  .cond (.t 134) (
   .exit 4) (
   .skip))) (
 .seq (
  .dops 18 [⟨(some 135), .mov (.t 0), none⟩, ⟨(some 136), .mov (.t 10), none⟩, ⟨(some 137), .mov (.t 0), none⟩, ⟨(some 138), .mov (.t 11), none⟩, ⟨(some 139), .mov (.t 0), none⟩, ⟨(some 140), .mov (.t 11), none⟩, ⟨(some 141), .iaddr 1 (.t 139) (.t 140), none⟩, ⟨(some 142), .load none (.t 141), none⟩, ⟨(some 143), .mov (.t 0), none⟩, ⟨(some 144), .mov (.t 10), none⟩, ⟨(some 145), .iaddr 1 (.t 143) (.t 144), none⟩, ⟨(some 146), .load none (.t 145), none⟩, ⟨(some 147), .iaddr 1 (.t 135) (.t 136), none⟩, ⟨none, .store 1 (.t 147) (.t 142), none⟩, ⟨(some 148), .iaddr 1 (.t 137) (.t 138), none⟩, ⟨none, .store 1 (.t 148) (.t 146), none⟩] [0, 0, 0, 0, 0, 0, 0, 2, 0, 0, 0, 2, 0, 0, 0, 0] []) (
 .seq (
  .ops [⟨(some 149), .mov (.t 10), none⟩, ⟨(some 150), .bin .add (.t 149) (.c (.lit (.int .i64 1))), none⟩, ⟨(some 10), .mov (.t 150), none⟩]) (
 .ops [⟨(some 151), .mov (.t 11), none⟩, ⟨(some 152), .bin .sub (.t 151) (.c (.lit (.int .i64 1))), none⟩, ⟨(some 11), .mov (.t 152), none⟩])))
def K_slices_partitionOrdered_int_3 (N : Nat → Nat) : AC :=
 .seq (
  .block 8 (
   .loop (L_slices_partitionOrdered_int_5 N))) (K_slices_partitionOrdered_int_4 N)
def L_slices_partitionOrdered_int_3 (N : Nat → Nat) : AC :=
    .block 5 (
     .seq (
      .block 6 (
       .loop (L_slices_partitionOrdered_int_4 N))) (K_slices_partitionOrdered_int_3 N))
def K_slices_partitionOrdered_int_5 (N : Nat → Nat) : AC :=
 .seq (
  .dops 21 [⟨(some 153), .mov (.t 0), none⟩, ⟨(some 154), .mov (.t 11), none⟩, ⟨(some 155), .mov (.t 0), none⟩, ⟨(some 156), .mov (.t 1), none⟩, ⟨(some 157), .mov (.t 0), none⟩, ⟨(some 158), .mov (.t 1), none⟩, ⟨(some 159), .iaddr 1 (.t 157) (.t 158), none⟩, ⟨(some 160), .load none (.t 159), none⟩, ⟨(some 161), .mov (.t 0), none⟩, ⟨(some 162), .mov (.t 11), none⟩, ⟨(some 163), .iaddr 1 (.t 161) (.t 162), none⟩, ⟨(some 164), .load none (.t 163), none⟩, ⟨(some 165), .iaddr 1 (.t 153) (.t 154), none⟩, ⟨none, .store 1 (.t 165) (.t 160), none⟩, ⟨(some 166), .iaddr 1 (.t 155) (.t 156), none⟩, ⟨none, .store 1 (.t 166) (.t 164), none⟩] [0, 0, 0, 0, 0, 0, 0, 2, 0, 0, 0, 2, 0, 0, 0, 0] []) (
 .seq (
  .ops [⟨(some 167), .mov (.t 11), none⟩, ⟨(some 8), .mov (.t 167), none⟩, ⟨(some 9), .mov (.c (.lit (.bool false))), none⟩]) (
 .ret))
def K_slices_partitionOrdered_int_2 (N : Nat → Nat) : AC :=
 .seq (
  .seq (
   .ops [⟨(some 63), .mov (.t 10), none⟩, ⟨(some 64), .mov (.t 11), none⟩, ⟨(some 65), .bin .gtr (.t 63) (.t 64), none⟩]) (
  .cond (.t 65) (
   .seq (
    .dops 8 [⟨(some 66), .mov (.t 0), none⟩, ⟨(some 67), .mov (.t 11), none⟩, ⟨(some 68), .mov (.t 0), none⟩, ⟨(some 69), .mov (.t 1), none⟩, ⟨(some 70), .mov (.t 0), none⟩, ⟨(some 71), .mov (.t 1), none⟩, ⟨(some 72), .iaddr 1 (.t 70) (.t 71), none⟩, ⟨(some 73), .load none (.t 72), none⟩, ⟨(some 74), .mov (.t 0), none⟩, ⟨(some 75), .mov (.t 11), none⟩, ⟨(some 76), .iaddr 1 (.t 74) (.t 75), none⟩, ⟨(some 77), .load none (.t 76), none⟩, ⟨(some 78), .iaddr 1 (.t 66) (.t 67), none⟩, ⟨none, .store 1 (.t 78) (.t 73), none⟩, ⟨(some 79), .iaddr 1 (.t 68) (.t 69), none⟩, ⟨none, .store 1 (.t 79) (.t 77), none⟩] [0, 0, 0, 0, 0, 0, 0, 2, 0, 0, 0, 2, 0, 0, 0, 0] []) (
   .seq (
    .ops [⟨(some 80), .mov (.t 11), none⟩, ⟨(some 8), .mov (.t 80), none⟩, ⟨(some 9), .mov (.c (.lit (.bool true))), none⟩]) (
   .ret))) (
   .skip))) (
 .seq (
  .dops 10 [⟨(some 81), .mov (.t 0), none⟩, ⟨(some 82), .mov (.t 10), none⟩, ⟨(some 83), .mov (.t 0), none⟩, ⟨(some 84), .mov (.t 11), none⟩, ⟨(some 85), .mov (.t 0), none⟩, ⟨(some 86), .mov (.t 11), none⟩, ⟨(some 87), .iaddr 1 (.t 85) (.t 86), none⟩, ⟨(some 88), .load none (.t 87), none⟩, ⟨(some 89), .mov (.t 0), none⟩, ⟨(some 90), .mov (.t 10), none⟩, ⟨(some 91), .iaddr 1 (.t 89) (.t 90), none⟩, ⟨(some 92), .load none (.t 91), none⟩, ⟨(some 93), .iaddr 1 (.t 81) (.t 82), none⟩, ⟨none, .store 1 (.t 93) (.t 88), none⟩, ⟨(some 94), .iaddr 1 (.t 83) (.t 84), none⟩, ⟨none, .store 1 (.t 94) (.t 92), none⟩] [0, 0, 0, 0, 0, 0, 0, 2, 0, 0, 0, 2, 0, 0, 0, 0] []) (
 .seq (
  .ops [⟨(some 95), .mov (.t 10), none⟩, ⟨(some 96), .bin .add (.t 95) (.c (.lit (.int .i64 1))), none⟩, ⟨(some 10), .mov (.t 96), none⟩]) (
 .seq (
  .ops [⟨(some 97), .mov (.t 11), none⟩, ⟨(some 98), .bin .sub (.t 97) (.c (.lit (.int .i64 1))), none⟩, ⟨(some 11), .mov (.t 98), none⟩]) (
 .seq (
  .block 4 (
   .loop (L_slices_partitionOrdered_int_3 N))) (K_slices_partitionOrdered_int_5 N)))))
def K_slices_partitionOrdered_int_1 (N : Nat → Nat) : AC :=
 .seq (
  .block 2 (
   .loop (L_slices_partitionOrdered_int_2 N))) (K_slices_partitionOrdered_int_2 N)
/-- slices.partitionOrdered[int] -/
def C_slices_partitionOrdered_int (N : Nat → Nat) : AFunc := ⟨168, [.inl 8, .inl 9],
 .seq (
  .ops [⟨(some 8), .mov (.c (.lit (.int .i64 0))), none⟩, ⟨(some 9), .mov (.c (.lit (.bool false))), none⟩]) (
 .seq (
  .dops 1 [⟨(some 12), .mov (.t 0), none⟩, ⟨(some 13), .mov (.t 1), none⟩, ⟨(some 14), .mov (.t 0), none⟩, ⟨(some 15), .mov (.t 3), none⟩, ⟨(some 16), .mov (.t 0), none⟩, ⟨(some 17), .mov (.t 3), none⟩, ⟨(some 18), .iaddr 1 (.t 16) (.t 17), none⟩, ⟨(some 19), .load none (.t 18), none⟩, ⟨(some 20), .mov (.t 0), none⟩, ⟨(some 21), .mov (.t 1), none⟩, ⟨(some 22), .iaddr 1 (.t 20) (.t 21), none⟩, ⟨(some 23), .load none (.t 22), none⟩, ⟨(some 24), .iaddr 1 (.t 12) (.t 13), none⟩, ⟨none, .store 1 (.t 24) (.t 19), none⟩, ⟨(some 25), .iaddr 1 (.t 14) (.t 15), none⟩, ⟨none, .store 1 (.t 25) (.t 23), none⟩] [0, 0, 0, 0, 0, 0, 0, 2, 0, 0, 0, 2, 0, 0, 0, 0] []) (
 .seq (
  .ops [⟨(some 26), .mov (.t 1), none⟩, ⟨(some 27), .bin .add (.t 26) (.c (.lit (.int .i64 1))), none⟩, ⟨(some 28), .mov (.t 2), none⟩, ⟨(some 29), .bin .sub (.t 28) (.c (.lit (.int .i64 1))), none⟩, ⟨(some 10), .mov (.t 27), none⟩, ⟨(some 11), .mov (.t 29), none⟩]) (
 .seq (
  .block 0 (
   .loop (L_slices_partitionOrdered_int_1 N))) (K_slices_partitionOrdered_int_1 N)))), false⟩

def L_slices_pdqsortOrdered_int_1 (N : Nat → Nat) : AC :=
   .block 1 (
    .seq (
     .ops [⟨(some 19), .mov (.t 2), none⟩, ⟨(some 20), .mov (.t 1), none⟩, ⟨(some 21), .bin .sub (.t 19) (.t 20), none⟩, ⟨(some 10), .mov (.t 21), none⟩]) (
    .seq (
     .seq (
      .ops [⟨(some 22), .mov (.t 10), none⟩, ⟨(some 23), .bin .leq (.t 22) (.c (.lit (.int .i64 12))), none⟩]) (
     .cond (.t 23) (
      .seq (
       .ops [⟨(some 24), .mov (.t 0), none⟩, ⟨(some 25), .mov (.t 1), none⟩, ⟨(some 26), .mov (.t 2), none⟩, ⟨(some 27), .call (.c (.fn (f_slices_insertionSortOrdered_int N) [] [])) [(.t 24), (.t 25), (.t 26)], none⟩]) (
      .ret)) (
      .skip))) (
    .seq (
     .seq (
      .ops [⟨(some 28), .mov (.t 3), none⟩, ⟨(some 29), .eq false .pint (.t 28) (.c (.lit (.int .i64 0))), none⟩]) (
     .cond (.t 29) (
      .seq (
       .ops [⟨(some 30), .mov (.t 0), none⟩, ⟨(some 31), .mov (.t 1), none⟩, ⟨(some 32), .mov (.t 2), none⟩, ⟨(some 33), .call (.c (.fn (f_slices_heapSortOrdered_int N) [] [])) [(.t 30), (.t 31), (.t 32)], none⟩]) (
      .ret)) (
      .skip))) (
    .seq (
     .seq (
      .ops [⟨(some 34), .mov (.t 8), none⟩, ⟨(some 35), .un .not (.t 34), none⟩]) (
     .cond (.t 35) (
      .seq (
       .ops [⟨(some 36), .mov (.t 0), none⟩, ⟨(some 37), .mov (.t 1), none⟩, ⟨(some 38), .mov (.t 2), none⟩, ⟨(some 39), .call (.c (.fn (f_slices_breakPatternsOrdered_int N) [] [])) [(.t 36), (.t 37), (.t 38)], none⟩]) (
      .ops [⟨(some 40), .mov (.t 3), none⟩, ⟨(some 41), .bin .sub (.t 40) (.c (.lit (.int .i64 1))), none⟩, ⟨(some 3), .mov (.t 41), none⟩])) (
      .skip))) (
    .seq (
     .ops [⟨(some 43), .mov (.t 0), none⟩, ⟨(some 44), .mov (.t 1), none⟩, ⟨(some 45), .mov (.t 2), none⟩, ⟨(some 46), .call (.c (.fn (f_slices_choosePivotOrdered_int N) [] [])) [(.t 43), (.t 44), (.t 45)], none⟩, ⟨(some 42), .mov (.t 46), none⟩, ⟨(some 47), .extract (.t 42) 0, none⟩, ⟨(some 48), .extract (.t 42) 1, none⟩, ⟨(some 11), .mov (.t 47), none⟩, ⟨(some 12), .mov (.t 48), none⟩]) (
    .seq (
     .seq (
      .ops [⟨(some 49), .mov (.t 12), none⟩, ⟨(some 50), .eq false .pint (.t 49) (.c (.lit (.int .i64 2))), none⟩]) (
     .cond (.t 50) (
      .seq (
       .ops [⟨(some 51), .mov (.t 0), none⟩, ⟨(some 52), .mov (.t 1), none⟩, ⟨(some 53), .mov (.t 2), none⟩, ⟨(some 54), .call (.c (.fn (f_slices_reverseRangeOrdered_int N) [] [])) [(.t 51), (.t 52), (.t 53)], none⟩]) (
      .seq (
       .ops [⟨(some 55), .mov (.t 2), none⟩, ⟨(some 56), .bin .sub (.t 55) (.c (.lit (.int .i64 1))), none⟩, ⟨(some 57), .mov (.t 11), none⟩, ⟨(some 58), .mov (.t 1), none⟩, ⟨(some 59), .bin .sub (.t 57) (.t 58), none⟩, ⟨(some 60), .bin .sub (.t 56) (.t 59), none⟩, ⟨(some 11), .mov (.t 60), none⟩]) (
      .ops [⟨(some 12), .mov (.c (.lit (.int .i64 1))), none⟩]))) (
      .skip))) (
    .seq (
     .seq (
      .ops [⟨(some 61), .mov (.t 8), none⟩, ⟨(some 62), .mov (.t 61), none⟩, ⟨(some 63), .mov (.t 9), (some (62, true))⟩, ⟨(some 64), .pick (.t 62) (.t 63) (.c (.lit (.bool false))), none⟩, ⟨(some 65), .mov (.t 64), none⟩, ⟨(some 66), .mov (.t 12), (some (65, true))⟩, ⟨(some 67), .eq false .pint (.t 66) (.c (.lit (.int .i64 1))), (some (65, true))⟩, ⟨(some 68), .pick (.t 65) (.t 67) (.c (.lit (.bool false))), none⟩]) (
     .cond (.t 68) (
      .seq (
       .ops [⟨(some 69), .mov (.t 0), none⟩, ⟨(some 70), .mov (.t 1), none⟩, ⟨(some 71), .mov (.t 2), none⟩, ⟨(some 72), .call (.c (.fn (f_slices_partialInsertionSortOrdered_int N) [] [])) [(.t 69), (.t 70), (.t 71)], none⟩]) (
      .cond (.t 72) (
       .ret) (
       .skip))) (
      .skip))) (
    .seq (
     .seq (
      .dops 17 [⟨(some 73), .mov (.t 1), none⟩, ⟨(some 74), .bin .gtr (.t 73) (.c (.lit (.int .i64 0))), none⟩, ⟨(some 75), .mov (.t 74), none⟩, ⟨(some 76), .mov (.t 0), (some (75, true))⟩, ⟨(some 77), .mov (.t 1), (some (75, true))⟩, ⟨(some 78), .bin .sub (.t 77) (.c (.lit (.int .i64 1))), (some (75, true))⟩, ⟨(some 79), .iaddr 1 (.t 76) (.t 78), (some (75, true))⟩, ⟨(some 80), .load none (.t 79), (some (75, true))⟩, ⟨(some 81), .mov (.t 0), (some (75, true))⟩, ⟨(some 82), .mov (.t 11), (some (75, true))⟩, ⟨(some 83), .iaddr 1 (.t 81) (.t 82), (some (75, true))⟩, ⟨(some 84), .load none (.t 83), (some (75, true))⟩, ⟨(some 85), .call (.c (.fn (f_cmp_Less_int N) [] [])) [(.t 80), (.t 84)], (some (75, true))⟩, ⟨(some 86), .un .not (.t 85), (some (75, true))⟩, ⟨(some 87), .pick (.t 75) (.t 86) (.c (.lit (.bool false))), none⟩] [0, 0, 0, 0, 0, 0, 0, 2, 0, 0, 0, 2, 0, 0, 0] []) (
     .cond (.t 87) (
      .seq (
       .ops [⟨(some 88), .mov (.t 0), none⟩, ⟨(some 89), .mov (.t 1), none⟩, ⟨(some 90), .mov (.t 2), none⟩, ⟨(some 91), .mov (.t 11), none⟩, ⟨(some 92), .call (.c (.fn (f_slices_partitionEqualOrdered_int N) [] [])) [(.t 88), (.t 89), (.t 90), (.t 91)], none⟩, ⟨(some 13), .mov (.t 92), none⟩]) (
      .seq (
       .ops [⟨(some 93), .mov (.t 13), none⟩, ⟨(some 1), .mov (.t 93), none⟩]) (
      .exit 1))) (
      .skip))) (
    .seq (
     .ops [⟨(some 95), .mov (.t 0), none⟩, ⟨(some 96), .mov (.t 1), none⟩, ⟨(some 97), .mov (.t 2), none⟩, ⟨(some 98), .mov (.t 11), none⟩, ⟨(some 99), .call (.c (.fn (f_slices_partitionOrdered_int N) [] [])) [(.t 95), (.t 96), (.t 97), (.t 98)], none⟩, ⟨(some 94), .mov (.t 99), none⟩, ⟨(some 100), .extract (.t 94) 0, none⟩, ⟨(some 101), .extract (.t 94) 1, none⟩, ⟨(some 14), .mov (.t 100), none⟩, ⟨(some 15), .mov (.t 101), none⟩]) (
    .seq (
     .ops [⟨(some 102), .mov (.t 15), none⟩, ⟨(some 9), .mov (.t 102), none⟩]) (
    .seq (
     .ops [⟨(some 103), .mov (.t 14), none⟩, ⟨(some 104), .mov (.t 1), none⟩, ⟨(some 105), .bin .sub (.t 103) (.t 104), none⟩, ⟨(some 106), .mov (.t 2), none⟩, ⟨(some 107), .mov (.t 14), none⟩, ⟨(some 108), .bin .sub (.t 106) (.t 107), none⟩, ⟨(some 16), .mov (.t 105), none⟩, ⟨(some 17), .mov (.t 108), none⟩]) (
    .seq (
     .ops [⟨(some 109), .mov (.t 10), none⟩, ⟨(some 110), .bin .quo (.t 109) (.c (.lit (.int .i64 8))), none⟩, ⟨(some 18), .mov (.t 110), none⟩]) (
    .seq (
     .ops [⟨(some 111), .mov (.t 16), none⟩, ⟨(some 112), .mov (.t 17), none⟩, ⟨(some 113), .bin .lss (.t 111) (.t 112), none⟩]) (
    .cond (.t 113) (
     .seq (
      .ops [⟨(some 114), .mov (.t 16), none⟩, ⟨(some 115), .mov (.t 18), none⟩, ⟨(some 116), .bin .geq (.t 114) (.t 115), none⟩, ⟨(some 8), .mov (.t 116), none⟩]) (
     .seq (
      .ops [⟨(some 117), .mov (.t 0), none⟩, ⟨(some 118), .mov (.t 1), none⟩, ⟨(some 119), .mov (.t 14), none⟩, ⟨(some 120), .mov (.t 3), none⟩, ⟨(some 121), .call (.c (.fn (f_slices_pdqsortOrdered_int N) [] [])) [(.t 117), (.t 118), (.t 119), (.t 120)], none⟩]) (
     .ops [⟨(some 122), .mov (.t 14), none⟩, ⟨(some 123), .bin .add (.t 122) (.c (.lit (.int .i64 1))), none⟩, ⟨(some 1), .mov (.t 123), none⟩]))) (
     .seq (
      .ops [⟨(some 124), .mov (.t 17), none⟩, ⟨(some 125), .mov (.t 18), none⟩, ⟨(some 126), .bin .geq (.t 124) (.t 125), none⟩, ⟨(some 8), .mov (.t 126), none⟩]) (
     .seq (
      .ops [⟨(some 127), .mov (.t 0), none⟩, ⟨(some 128), .mov (.t 14), none⟩, ⟨(some 129), .bin .add (.t 128) (.c (.lit (.int .i64 1))), none⟩, ⟨(some 130), .mov (.t 2), none⟩, ⟨(some 131), .mov (.t 3), none⟩, ⟨(some 132), .call (.c (.fn (f_slices_pdqsortOrdered_int N) [] [])) [(.t 127), (.t 129), (.t 130), (.t 131)], none⟩]) (
     .ops [⟨(some 133), .mov (.t 14), none⟩, ⟨(some 2), .mov (.t 133), none⟩])))))))))))))))))
/-- slices.pdqsortOrdered[int] -/
def C_slices_pdqsortOrdered_int (N : Nat → Nat) : AFunc := ⟨134, [],
 .seq (
  .ops [⟨(some 8), .mov (.c (.lit (.bool true))), none⟩]) (
 .seq (
  .ops [⟨(some 9), .mov (.c (.lit (.bool true))), none⟩]) (
 .block 0 (
  .loop (L_slices_pdqsortOrdered_int_1 N)))), false⟩

def L_slices_reverseRangeOrdered_int_1 (N : Nat → Nat) : AC :=
   .seq (
    .seq (
     .ops [⟨(some 11), .mov (.t 6), none⟩, ⟨(some 12), .mov (.t 7), none⟩, ⟨(some 13), .bin .lss (.t 11) (.t 12), none⟩]) (
    .cond (.t 13) (
     .skip) (
     .exit 0))) (
   .block 1 (
    .seq (
     .dops 3 [⟨(some 14), .mov (.t 0), none⟩, ⟨(some 15), .mov (.t 6), none⟩, ⟨(some 16), .mov (.t 0), none⟩, ⟨(some 17), .mov (.t 7), none⟩, ⟨(some 18), .mov (.t 0), none⟩, ⟨(some 19), .mov (.t 7), none⟩, ⟨(some 20), .iaddr 1 (.t 18) (.t 19), none⟩, ⟨(some 21), .load none (.t 20), none⟩, ⟨(some 22), .mov (.t 0), none⟩, ⟨(some 23), .mov (.t 6), none⟩, ⟨(some 24), .iaddr 1 (.t 22) (.t 23), none⟩, ⟨(some 25), .load none (.t 24), none⟩, ⟨(some 26), .iaddr 1 (.t 14) (.t 15), none⟩, ⟨none, .store 1 (.t 26) (.t 21), none⟩, ⟨(some 27), .iaddr 1 (.t 16) (.t 17), none⟩, ⟨none, .store 1 (.t 27) (.t 25), none⟩] [0, 0, 0, 0, 0, 0, 0, 2, 0, 0, 0, 2, 0, 0, 0, 0] []) (
    .seq (
     .ops [⟨(some 28), .mov (.t 6), none⟩, ⟨(some 29), .bin .add (.t 28) (.c (.lit (.int .i64 1))), none⟩, ⟨(some 6), .mov (.t 29), none⟩]) (
    .ops [⟨(some 30), .mov (.t 7), none⟩, ⟨(some 31), .bin .sub (.t 30) (.c (.lit (.int .i64 1))), none⟩, ⟨(some 7), .mov (.t 31), none⟩]))))
/-- slices.reverseRangeOrdered[int] -/
def C_slices_reverseRangeOrdered_int (N : Nat → Nat) : AFunc := ⟨32, [],
 .seq (
  .ops [⟨(some 8), .mov (.t 1), none⟩, ⟨(some 6), .mov (.t 8), none⟩]) (
 .seq (
  .ops [⟨(some 9), .mov (.t 2), none⟩, ⟨(some 10), .bin .sub (.t 9) (.c (.lit (.int .i64 1))), none⟩, ⟨(some 7), .mov (.t 10), none⟩]) (
 .block 0 (
  .loop (L_slices_reverseRangeOrdered_int_1 N)))), false⟩

def L_slices_siftDownOrdered_int_1 (N : Nat → Nat) : AC :=
   .block 1 (
    .seq (
     .ops [⟨(some 11), .mov (.t 8), none⟩, ⟨(some 12), .bin .mul (.c (.lit (.int .i64 2))) (.t 11), none⟩, ⟨(some 13), .bin .add (.t 12) (.c (.lit (.int .i64 1))), none⟩, ⟨(some 9), .mov (.t 13), none⟩]) (
    .seq (
     .seq (
      .ops [⟨(some 14), .mov (.t 9), none⟩, ⟨(some 15), .mov (.t 2), none⟩, ⟨(some 16), .bin .geq (.t 14) (.t 15), none⟩]) (
     .cond (.t 16) (
      .exit 0) (
      .skip))) (
    .seq (
     .seq (
      .dops 3 [⟨(some 17), .mov (.t 9), none⟩, ⟨(some 18), .bin .add (.t 17) (.c (.lit (.int .i64 1))), none⟩, ⟨(some 19), .mov (.t 2), none⟩, ⟨(some 20), .bin .lss (.t 18) (.t 19), none⟩, ⟨(some 21), .mov (.t 20), none⟩, ⟨(some 22), .mov (.t 0), (some (21, true))⟩, ⟨(some 23), .mov (.t 3), (some (21, true))⟩, ⟨(some 24), .mov (.t 9), (some (21, true))⟩, ⟨(some 25), .bin .add (.t 23) (.t 24), (some (21, true))⟩, ⟨(some 26), .iaddr 1 (.t 22) (.t 25), (some (21, true))⟩, ⟨(some 27), .load none (.t 26), (some (21, true))⟩, ⟨(some 28), .mov (.t 0), (some (21, true))⟩, ⟨(some 29), .mov (.t 3), (some (21, true))⟩, ⟨(some 30), .mov (.t 9), (some (21, true))⟩, ⟨(some 31), .bin .add (.t 29) (.t 30), (some (21, true))⟩, ⟨(some 32), .bin .add (.t 31) (.c (.lit (.int .i64 1))), (some (21, true))⟩, ⟨(some 33), .iaddr 1 (.t 28) (.t 32), (some (21, true))⟩, ⟨(some 34), .load none (.t 33), (some (21, true))⟩, ⟨(some 35), .call (.c (.fn (f_cmp_Less_int N) [] [])) [(.t 27), (.t 34)], (some (21, true))⟩, ⟨(some 36), .pick (.t 21) (.t 35) (.c (.lit (.bool false))), none⟩] [0, 0, 0, 0, 0, 0, 0, 0, 0, 0, 2, 0, 0, 0, 0, 0, 0, 2, 0, 0] []) (
     .cond (.t 36) (
      .ops [⟨(some 37), .mov (.t 9), none⟩, ⟨(some 38), .bin .add (.t 37) (.c (.lit (.int .i64 1))), none⟩, ⟨(some 9), .mov (.t 38), none⟩]) (
      .skip))) (
    .seq (
     .seq (
      .dops 5 [⟨(some 39), .mov (.t 0), none⟩, ⟨(some 40), .mov (.t 3), none⟩, ⟨(some 41), .mov (.t 8), none⟩, ⟨(some 42), .bin .add (.t 40) (.t 41), none⟩, ⟨(some 43), .iaddr 1 (.t 39) (.t 42), none⟩, ⟨(some 44), .load none (.t 43), none⟩, ⟨(some 45), .mov (.t 0), none⟩, ⟨(some 46), .mov (.t 3), none⟩, ⟨(some 47), .mov (.t 9), none⟩, ⟨(some 48), .bin .add (.t 46) (.t 47), none⟩, ⟨(some 49), .iaddr 1 (.t 45) (.t 48), none⟩, ⟨(some 50), .load none (.t 49), none⟩, ⟨(some 51), .call (.c (.fn (f_cmp_Less_int N) [] [])) [(.t 44), (.t 50)], none⟩, ⟨(some 52), .un .not (.t 51), none⟩] [0, 0, 0, 0, 0, 2, 0, 0, 0, 0, 0, 2, 0, 0] []) (
     .cond (.t 52) (
      .ret) (
      .skip))) (
    .seq (
     .dops 6 [⟨(some 53), .mov (.t 0), none⟩, ⟨(some 54), .mov (.t 3), none⟩, ⟨(some 55), .mov (.t 8), none⟩, ⟨(some 56), .bin .add (.t 54) (.t 55), none⟩, ⟨(some 57), .mov (.t 0), none⟩, ⟨(some 58), .mov (.t 3), none⟩, ⟨(some 59), .mov (.t 9), none⟩, ⟨(some 60), .bin .add (.t 58) (.t 59), none⟩, ⟨(some 61), .mov (.t 0), none⟩, ⟨(some 62), .mov (.t 3), none⟩, ⟨(some 63), .mov (.t 9), none⟩, ⟨(some 64), .bin .add (.t 62) (.t 63), none⟩, ⟨(some 65), .iaddr 1 (.t 61) (.t 64), none⟩, ⟨(some 66), .load none (.t 65), none⟩, ⟨(some 67), .mov (.t 0), none⟩, ⟨(some 68), .mov (.t 3), none⟩, ⟨(some 69), .mov (.t 8), none⟩, ⟨(some 70), .bin .add (.t 68) (.t 69), none⟩, ⟨(some 71), .iaddr 1 (.t 67) (.t 70), none⟩, ⟨(some 72), .load none (.t 71), none⟩, ⟨(some 73), .iaddr 1 (.t 53) (.t 56), none⟩, ⟨none, .store 1 (.t 73) (.t 66), none⟩, ⟨(some 74), .iaddr 1 (.t 57) (.t 60), none⟩, ⟨none, .store 1 (.t 74) (.t 72), none⟩] [0, 0, 0, 0, 0, 0, 0, 0, 0, 0, 0, 0, 0, 2, 0, 0, 0, 0, 0, 2, 0, 0, 0, 0] []) (
    .ops [⟨(some 75), .mov (.t 9), none⟩, ⟨(some 8), .mov (.t 75), none⟩]))))))
/-- slices.siftDownOrdered[int] -/
def C_slices_siftDownOrdered_int (N : Nat → Nat) : AFunc := ⟨76, [],
 .seq (
  .ops [⟨(some 10), .mov (.t 1), none⟩, ⟨(some 8), .mov (.t 10), none⟩]) (
 .block 0 (
  .loop (L_slices_siftDownOrdered_int_1 N))), false⟩
end Go.Proofs.Eng
/- Templates of functions, as the engine takes them; numbers of functions and types by names. Printed by tm.py. -/
set_option linter.unusedVariables false
set_option maxRecDepth 100000
namespace Go.Proofs.Eng
open Go

def L_tree_uses_note_1 (N : Nat → Nat) : AC :=
    .seq (
     .ops [⟨(some 12), .bin .lss (.t 11) (.t 10), none⟩]) (
    .seq (
     .cond (.t 12) (
      .skip) (
      .exit 0)) (
    .seq (
     .block 1 (
      .seq (
       .ops [⟨(some 13), .iaddr 1 (.t 9) (.t 11), none⟩, ⟨(some 14), .load none (.t 13), none⟩, ⟨(some 8), .mov (.t 14), none⟩]) (
      .seq (
       .seq (
        .ops [⟨(some 15), .mov (.t 8), none⟩, ⟨(some 16), .bin .lss (.t 15) (.c (.lit (.int .i64 0))), none⟩, ⟨(some 17), .mov (.t 16), none⟩, ⟨(some 18), .mov (.t 8), (some (17, false))⟩, ⟨(some 19), .mov (.t 2), (some (17, false))⟩, ⟨(some 20), .bin .geq (.t 18) (.t 19), (some (17, false))⟩, ⟨(some 21), .pick (.t 17) (.c (.lit (.bool true))) (.t 20), none⟩]) (
       .cond (.t 21) (
        .seq (
         .ops [⟨(some 6), .mov (.c (.lit (.bool false))), none⟩]) (
        .ret)) (
        .skip))) (
      .ops [⟨(some 22), .mov (.t 0), none⟩, ⟨(some 23), .mov (.t 8), none⟩, ⟨(some 24), .iaddr 1 (.t 22) (.t 23), none⟩, ⟨(some 25), .load none (.t 24), none⟩, ⟨(some 26), .bin .add (.t 25) (.c (.lit (.int .i64 1))), none⟩, ⟨(some 27), .iaddr 1 (.t 22) (.t 23), none⟩, ⟨none, .store 1 (.t 27) (.t 26), none⟩])))) (
    .ops [⟨(some 28), .bin .add (.t 11) (.c (.lit (.int .i64 1))), none⟩, ⟨(some 11), .mov (.t 28), none⟩])))
def K_tree_uses_note_1 (N : Nat → Nat) : AC :=
 .seq (
  .ops [⟨(some 6), .mov (.c (.lit (.bool true))), none⟩]) (
 .ret)
/-- (azimuth/tree.uses).note -/
def C_tree_uses_note (N : Nat → Nat) : AFunc := ⟨29, [.inl 6],
 .seq (
  .ops [⟨(some 6), .mov (.c (.lit (.bool false))), none⟩]) (
 .seq (
  .seq (
   .ops [⟨(some 9), .mov (.t 1), none⟩, ⟨(some 10), .len (.t 9), none⟩, ⟨(some 11), .mov (.c (.lit (.int .i64 0))), none⟩]) (
  .block 0 (
   .loop (L_tree_uses_note_1 N)))) (K_tree_uses_note_1 N)), false⟩

def L_tree_Check_1 (N : Nat → Nat) : AC :=
    .seq (
     .ops [⟨(some 40), .bin .lss (.t 39) (.t 38), none⟩]) (
    .seq (
     .cond (.t 40) (
      .skip) (
      .exit 0)) (
    .seq (
     .block 1 (
      .seq (
       .ops [⟨(some 41), .mov (.t 39), none⟩, ⟨(some 42), .iaddr 8 (.t 37) (.t 39), none⟩, ⟨(some 43), .load (some 8) (.t 42), none⟩, ⟨(some 6), .new (t_api_Node N) (.agg [(.lit (.int .i64 0)), (.lit (.int .i64 0)), (.lit (.string (mkS []))), (.lit (.int .i64 0)), (.lit (.int .u64 0)), (.lit (.slice none 0 0)), (.lit (.slice none 0 0)), (.lit (.slice none 0 0))]), none⟩, ⟨(some 5), .mov (.t 41), none⟩, ⟨none, .store 8 (.t 6) (.t 43), none⟩]) (
      .seq (
       .ops [⟨(some 44), .load (some 8) (.t 6), none⟩, ⟨(some 45), .call (.c (.fn (f_tree_term N) [] [])) [(.t 44)], none⟩, ⟨(some 46), .un .not (.t 45), none⟩, ⟨(some 47), .mov (.t 46), none⟩, ⟨(some 48), .mov (.t 3), (some (47, false))⟩, ⟨(some 49), .faddr 6 (.t 6), (some (47, false))⟩, ⟨(some 50), .load none (.t 49), (some (47, false))⟩, ⟨(some 51), .mov (.t 5), (some (47, false))⟩, ⟨(some 52), .call (.c (.fn (f_tree_uses_note N) [] [])) [(.t 48), (.t 50), (.t 51)], (some (47, false))⟩, ⟨(some 53), .un .not (.t 52), (some (47, false))⟩, ⟨(some 54), .pick (.t 47) (.c (.lit (.bool true))) (.t 53), none⟩, ⟨(some 55), .mov (.t 54), none⟩, ⟨(some 56), .mov (.t 4), (some (55, false))⟩, ⟨(some 57), .faddr 7 (.t 6), (some (55, false))⟩, ⟨(some 58), .load none (.t 57), (some (55, false))⟩, ⟨(some 59), .faddr 1 (.t 1), (some (55, false))⟩, ⟨(some 60), .load none (.t 59), (some (55, false))⟩, ⟨(some 61), .len (.t 60), (some (55, false))⟩, ⟨(some 62), .call (.c (.fn (f_tree_uses_note N) [] [])) [(.t 56), (.t 58), (.t 61)], (some (55, false))⟩, ⟨(some 63), .un .not (.t 62), (some (55, false))⟩, ⟨(some 64), .pick (.t 55) (.c (.lit (.bool true))) (.t 63), none⟩]) (
      .cond (.t 64) (
       .seq (
        .ops [⟨(some 2), .mov (.c (.lit (.int .i64 14))), none⟩]) (
       .ret)) (
       .skip))))) (
    .ops [⟨(some 65), .bin .add (.t 39) (.c (.lit (.int .i64 1))), none⟩, ⟨(some 39), .mov (.t 65), none⟩])))
def L_tree_Check_2 (N : Nat → Nat) : AC :=
    .seq (
     .ops [⟨(some 70), .bin .lss (.t 69) (.t 68), none⟩]) (
    .seq (
     .cond (.t 70) (
      .skip) (
      .exit 2)) (
    .seq (
     .block 3 (
      .seq (
       .ops [⟨(some 71), .mov (.t 69), none⟩, ⟨(some 72), .iaddr 6 (.t 67) (.t 69), none⟩, ⟨(some 73), .load (some 6) (.t 72), none⟩, ⟨(some 8), .new (t_api_TypeNode N) (.agg [(.lit (.int .i64 0)), (.lit (.int .i64 0)), (.lit (.string (mkS []))), (.lit (.slice none 0 0)), (.lit (.slice none 0 0)), (.lit (.bool false))]), none⟩, ⟨(some 7), .mov (.t 71), none⟩, ⟨none, .store 6 (.t 8) (.t 73), none⟩]) (
      .seq (
       .ops [⟨(some 74), .load (some 6) (.t 8), none⟩, ⟨(some 75), .call (.c (.fn (f_tree_typ N) [] [])) [(.t 74)], none⟩, ⟨(some 76), .un .not (.t 75), none⟩, ⟨(some 77), .mov (.t 76), none⟩, ⟨(some 78), .mov (.t 4), (some (77, false))⟩, ⟨(some 79), .faddr 4 (.t 8), (some (77, false))⟩, ⟨(some 80), .load none (.t 79), (some (77, false))⟩, ⟨(some 81), .mov (.t 7), (some (77, false))⟩, ⟨(some 82), .call (.c (.fn (f_tree_uses_note N) [] [])) [(.t 78), (.t 80), (.t 81)], (some (77, false))⟩, ⟨(some 83), .un .not (.t 82), (some (77, false))⟩, ⟨(some 84), .pick (.t 77) (.c (.lit (.bool true))) (.t 83), none⟩]) (
      .cond (.t 84) (
       .seq (
        .ops [⟨(some 2), .mov (.c (.lit (.int .i64 14))), none⟩]) (
       .ret)) (
       .skip))))) (
    .ops [⟨(some 85), .bin .add (.t 69) (.c (.lit (.int .i64 1))), none⟩, ⟨(some 69), .mov (.t 85), none⟩])))
def L_tree_Check_3 (N : Nat → Nat) : AC :=
    .seq (
     .ops [⟨(some 90), .bin .lss (.t 89) (.t 88), none⟩]) (
    .seq (
     .cond (.t 90) (
      .skip) (
      .exit 4)) (
    .seq (
     .block 5 (
      .seq (
       .ops [⟨(some 91), .iaddr 3 (.t 87) (.t 89), none⟩, ⟨(some 92), .load (some 3) (.t 91), none⟩, ⟨(some 10), .new (t_api_Alias N) (.agg [(.lit (.string (mkS []))), (.lit (.int .i64 0)), (.lit (.int .i64 0))]), none⟩, ⟨none, .store 3 (.t 10) (.t 92), none⟩]) (
      .seq (
       .ops [⟨(some 93), .faddr 0 (.t 10), none⟩, ⟨(some 94), .load none (.t 93), none⟩, ⟨(some 95), .call (.c (.fn (f_tree_alias N) [] [])) [(.t 94)], none⟩, ⟨(some 96), .un .not (.t 95), none⟩, ⟨(some 97), .mov (.t 96), none⟩, ⟨(some 98), .mov (.t 4), (some (97, false))⟩, ⟨(some 99), .faddr 1 (.t 10), (some (97, false))⟩, ⟨(some 100), .load none (.t 99), (some (97, false))⟩, ⟨(some 101), .bslice (t_int N) 1 none 1 [(.lit (.int .i64 0))] [(0, 1, (.t 100))], (some (97, false))⟩, ⟨(some 102), .faddr 1 (.t 1), (some (97, false))⟩, ⟨(some 103), .load none (.t 102), (some (97, false))⟩, ⟨(some 104), .len (.t 103), (some (97, false))⟩, ⟨(some 105), .call (.c (.fn (f_tree_uses_note N) [] [])) [(.t 98), (.t 101), (.t 104)], (some (97, false))⟩, ⟨(some 106), .un .not (.t 105), (some (97, false))⟩, ⟨(some 107), .pick (.t 97) (.c (.lit (.bool true))) (.t 106), none⟩]) (
      .cond (.t 107) (
       .seq (
        .ops [⟨(some 2), .mov (.c (.lit (.int .i64 14))), none⟩]) (
       .ret)) (
       .skip))))) (
    .ops [⟨(some 108), .bin .add (.t 89) (.c (.lit (.int .i64 1))), none⟩, ⟨(some 89), .mov (.t 108), none⟩])))
def K_tree_Check_3 (N : Nat → Nat) : AC :=
 .seq (
  .ops [⟨(some 109), .mov (.t 3), none⟩, ⟨(some 110), .mov (.t 3), none⟩, ⟨(some 111), .len (.t 110), none⟩, ⟨(some 112), .bin .sub (.t 111) (.c (.lit (.int .i64 1))), none⟩, ⟨(some 113), .iaddr 1 (.t 109) (.t 112), none⟩, ⟨(some 114), .load none (.t 113), none⟩, ⟨(some 115), .bin .add (.t 114) (.c (.lit (.int .i64 1))), none⟩, ⟨(some 116), .iaddr 1 (.t 109) (.t 112), none⟩, ⟨none, .store 1 (.t 116) (.t 115), none⟩]) (
 .seq (
  .ops [⟨(some 11), .mov (.c (.fn (f_tree_Check_1 N) [] [])), none⟩]) (
 .seq (
  .seq (
   .ops [⟨(some 117), .mov (.t 3), none⟩, ⟨(some 118), .mov (.t 11), none⟩, ⟨(some 119), .call (.c (.fn (f_slices_ContainsFunc_tree_uses_int N) [] [])) [(.t 117), (.t 118)], none⟩, ⟨(some 120), .mov (.t 119), none⟩, ⟨(some 121), .mov (.t 4), (some (120, false))⟩, ⟨(some 122), .mov (.t 11), (some (120, false))⟩, ⟨(some 123), .call (.c (.fn (f_slices_ContainsFunc_tree_uses_int N) [] [])) [(.t 121), (.t 122)], (some (120, false))⟩, ⟨(some 124), .pick (.t 120) (.c (.lit (.bool true))) (.t 123), none⟩]) (
  .cond (.t 124) (
   .seq (
    .ops [⟨(some 2), .mov (.c (.lit (.int .i64 14))), none⟩]) (
   .ret)) (
   .skip))) (
 .seq (
  .ops [⟨(some 2), .mov (.c (.lit (.int .i64 0))), none⟩]) (
 .ret))))
def K_tree_Check_2 (N : Nat → Nat) : AC :=
 .seq (
  .seq (
   .ops [⟨(some 86), .faddr 2 (.t 1), none⟩, ⟨(some 87), .load none (.t 86), none⟩, ⟨(some 88), .len (.t 87), none⟩, ⟨(some 89), .mov (.c (.lit (.int .i64 0))), none⟩]) (
  .block 4 (
   .loop (L_tree_Check_3 N)))) (K_tree_Check_3 N)
def K_tree_Check_1 (N : Nat → Nat) : AC :=
 .seq (
  .seq (
   .ops [⟨(some 66), .faddr 1 (.t 1), none⟩, ⟨(some 67), .load none (.t 66), none⟩, ⟨(some 68), .len (.t 67), none⟩, ⟨(some 69), .mov (.c (.lit (.int .i64 0))), none⟩]) (
  .block 2 (
   .loop (L_tree_Check_2 N)))) (K_tree_Check_2 N)
/-- azimuth/tree.Check -/
def C_tree_Check (N : Nat → Nat) : AFunc := ⟨125, [.inl 2],
 .seq (
  .ops [⟨(some 1), .box (t_api_Tree N) (.t 0), none⟩, ⟨(some 2), .mov (.c (.lit (.int .i64 0))), none⟩]) (
 .seq (
  .seq (
   .ops [⟨(some 12), .faddr 0 (.t 1), none⟩, ⟨(some 13), .load none (.t 12), none⟩, ⟨(some 14), .len (.t 13), none⟩, ⟨(some 15), .eq false .pint (.t 14) (.c (.lit (.int .i64 0))), none⟩, ⟨(some 16), .mov (.t 15), none⟩, ⟨(some 17), .faddr 0 (.t 1), (some (16, false))⟩, ⟨(some 18), .load none (.t 17), (some (16, false))⟩, ⟨(some 19), .len (.t 18), (some (16, false))⟩, ⟨(some 20), .bin .gtr (.t 19) (.c (.lit (.int .i64 65536))), (some (16, false))⟩, ⟨(some 21), .pick (.t 16) (.c (.lit (.bool true))) (.t 20), none⟩, ⟨(some 22), .mov (.t 21), none⟩, ⟨(some 23), .faddr 1 (.t 1), (some (22, false))⟩, ⟨(some 24), .load none (.t 23), (some (22, false))⟩, ⟨(some 25), .len (.t 24), (some (22, false))⟩, ⟨(some 26), .bin .gtr (.t 25) (.c (.lit (.int .i64 65536))), (some (22, false))⟩, ⟨(some 27), .pick (.t 22) (.c (.lit (.bool true))) (.t 26), none⟩]) (
  .cond (.t 27) (
   .seq (
    .ops [⟨(some 2), .mov (.c (.lit (.int .i64 14))), none⟩]) (
   .ret)) (
   .skip))) (
 .seq (
  .dops 3 [⟨(some 28), .faddr 0 (.t 1), none⟩, ⟨(some 29), .load none (.t 28), none⟩, ⟨(some 30), .len (.t 29), none⟩, ⟨(some 32), .faddr 1 (.t 1), none⟩, ⟨(some 33), .load none (.t 32), none⟩, ⟨(some 34), .len (.t 33), none⟩, ⟨(some 31), .mkslice (t_int N) 1 8 (.lit (.int .i64 0)) (.t 30) (.t 30), none⟩, ⟨(some 3), .mov (.t 31), none⟩, ⟨(some 35), .mkslice (t_int N) 1 8 (.lit (.int .i64 0)) (.t 34) (.t 34), none⟩, ⟨(some 4), .mov (.t 35), none⟩] [0, 2, 0, 0, 2, 0, 1, 0, 1, 0] []) (
 .seq (
  .seq (
   .ops [⟨(some 36), .faddr 0 (.t 1), none⟩, ⟨(some 37), .load none (.t 36), none⟩, ⟨(some 38), .len (.t 37), none⟩, ⟨(some 39), .mov (.c (.lit (.int .i64 0))), none⟩]) (
  .block 0 (
   .loop (L_tree_Check_1 N)))) (K_tree_Check_1 N)))), false⟩

/-- azimuth/tree.Check$1 -/
def C_tree_Check_1 (N : Nat → Nat) : AFunc := ⟨5, [.inl 2],
 .seq (
  .ops [⟨(some 2), .mov (.c (.lit (.bool false))), none⟩]) (
 .seq (
  .ops [⟨(some 3), .mov (.t 0), none⟩, ⟨(some 4), .eq true .pint (.t 3) (.c (.lit (.int .i64 1))), none⟩, ⟨(some 2), .mov (.t 4), none⟩]) (
 .ret)), false⟩

/-- azimuth/tree.alias -/
def C_tree_alias (N : Nat → Nat) : AFunc := ⟨34, [.inl 2],
 .seq (
  .ops [⟨(some 2), .mov (.c (.lit (.bool false))), none⟩]) (
 .seq (
  .ops [⟨(some 6), .mov (.t 0), none⟩, ⟨(some 7), .conv (.bytes (t_uint8 N)) (.t 6), none⟩, ⟨(some 8), .call (.c (.fn (f_lexer_Lex N) [] [])) [(.t 7)], none⟩, ⟨(some 5), .mov (.t 8), none⟩, ⟨(some 9), .extract (.t 5) 0, none⟩, ⟨(some 10), .extract (.t 5) 1, none⟩, ⟨(some 4), .new (t_api_Diag N) (.agg [(.lit (.int .i64 0)), (.lit (.int .i64 0)), (.lit (.string (mkS [])))]), none⟩, ⟨(some 3), .mov (.t 9), none⟩, ⟨none, .store 3 (.t 4) (.t 10), none⟩]) (
 .seq (
  .ops [⟨(some 11), .faddr 0 (.t 4), none⟩, ⟨(some 12), .load none (.t 11), none⟩, ⟨(some 13), .eq false .pint (.t 12) (.c (.lit (.int .i64 0))), none⟩, ⟨(some 14), .mov (.t 13), none⟩, ⟨(some 15), .mov (.t 3), (some (14, true))⟩, ⟨(some 16), .len (.t 15), (some (14, true))⟩, ⟨(some 17), .eq false .pint (.t 16) (.c (.lit (.int .i64 2))), (some (14, true))⟩, ⟨(some 18), .pick (.t 14) (.t 17) (.c (.lit (.bool false))), none⟩, ⟨(some 19), .mov (.t 18), none⟩, ⟨(some 20), .mov (.t 3), (some (19, true))⟩, ⟨(some 21), .iaddr 3 (.t 20) (.c (.lit (.int .i64 0))), (some (19, true))⟩, ⟨(some 22), .faddr 0 (.t 21), (some (19, true))⟩, ⟨(some 23), .load none (.t 22), (some (19, true))⟩, ⟨(some 24), .eq false .pint (.t 23) (.c (.lit (.int .i64 2))), (some (19, true))⟩, ⟨(some 25), .pick (.t 19) (.t 24) (.c (.lit (.bool false))), none⟩, ⟨(some 26), .mov (.t 25), none⟩, ⟨(some 27), .mov (.t 3), (some (26, true))⟩, ⟨(some 28), .iaddr 3 (.t 27) (.c (.lit (.int .i64 0))), (some (26, true))⟩, ⟨(some 29), .faddr 1 (.t 28), (some (26, true))⟩, ⟨(some 30), .load none (.t 29), (some (26, true))⟩, ⟨(some 31), .mov (.t 0), (some (26, true))⟩, ⟨(some 32), .eq false .pstr (.t 30) (.t 31), (some (26, true))⟩, ⟨(some 33), .pick (.t 26) (.t 32) (.c (.lit (.bool false))), none⟩, ⟨(some 2), .mov (.t 33), none⟩]) (
 .ret))), false⟩

/-- azimuth/tree.all -/
def C_tree_all (N : Nat → Nat) : AFunc := ⟨9, [.inl 4],
 .seq (
  .ops [⟨(some 3), .box (t_func_string_bool N) (.t 1), none⟩, ⟨(some 4), .mov (.c (.lit (.bool false))), none⟩]) (
 .seq (
  .ops [⟨(some 5), .mov (.t 0), none⟩, ⟨(some 6), .mkfn (f_tree_all_1 N) [] [(.t 3)], none⟩, ⟨(some 7), .call (.c (.fn (f_slices_ContainsFunc_sl_string_string N) [] [])) [(.t 5), (.t 6)], none⟩, ⟨(some 8), .un .not (.t 7), none⟩, ⟨(some 4), .mov (.t 8), none⟩]) (
 .ret)), false⟩

/-- azimuth/tree.all$1 -/
def C_tree_all_1 (N : Nat → Nat) : AFunc := ⟨8, [.inl 3],
 .seq (
  .ops [⟨(some 3), .mov (.c (.lit (.bool false))), none⟩]) (
 .seq (
  .ops [⟨(some 4), .load none (.t 1), none⟩, ⟨(some 5), .mov (.t 0), none⟩, ⟨(some 6), .call (.t 4) [(.t 5)], none⟩, ⟨(some 7), .un .not (.t 6), none⟩, ⟨(some 3), .mov (.t 7), none⟩]) (
 .ret)), false⟩

def L_tree_halves_1 (N : Nat → Nat) : AC :=
    .seq (
     .ops [⟨(some 9), .bin .lss (.t 8) (.t 7), none⟩]) (
    .seq (
     .cond (.t 9) (
      .skip) (
      .exit 0)) (
    .seq (
     .block 1 (
      .seq (
       .ops [⟨(some 10), .mov (.t 8), none⟩, ⟨(some 11), .iaddr 1 (.t 6) (.t 8), none⟩, ⟨(some 12), .load none (.t 11), none⟩, ⟨(some 4), .mov (.t 10), none⟩, ⟨(some 5), .mov (.t 12), none⟩]) (
      .seq (
       .ops [⟨(some 13), .mov (.t 4), none⟩, ⟨(some 14), .bin .rem (.t 13) (.c (.lit (.int .i64 2))), none⟩, ⟨(some 15), .eq false .pint (.t 14) (.c (.lit (.int .i64 0))), none⟩]) (
      .cond (.t 15) (
       .ops [⟨(some 16), .mov (.t 2), none⟩, ⟨(some 17), .mov (.t 5), none⟩, ⟨(some 18), .bslice (t_string N) 1 none 1 [(.lit (.string (mkS [])))] [(0, 1, (.t 17))], none⟩, ⟨(some 19), .append (t_string N) 1 16 (.t 16) (.t 18), none⟩, ⟨(some 2), .mov (.t 19), none⟩]) (
       .ops [⟨(some 20), .mov (.t 3), none⟩, ⟨(some 21), .mov (.t 5), none⟩, ⟨(some 22), .bslice (t_string N) 1 none 1 [(.lit (.string (mkS [])))] [(0, 1, (.t 21))], none⟩, ⟨(some 23), .append (t_string N) 1 16 (.t 20) (.t 22), none⟩, ⟨(some 3), .mov (.t 23), none⟩]))))) (
    .ops [⟨(some 24), .bin .add (.t 8) (.c (.lit (.int .i64 1))), none⟩, ⟨(some 8), .mov (.t 24), none⟩])))
def K_tree_halves_1 (N : Nat → Nat) : AC :=
 .seq (
  .ops [⟨(some 25), .mov (.t 2), none⟩, ⟨(some 26), .mov (.t 3), none⟩, ⟨(some 2), .mov (.t 25), none⟩, ⟨(some 3), .mov (.t 26), none⟩]) (
 .ret)
/-- azimuth/tree.halves -/
def C_tree_halves (N : Nat → Nat) : AFunc := ⟨27, [.inl 2, .inl 3],
 .seq (
  .ops [⟨(some 2), .mov (.c (.lit (.slice none 0 0))), none⟩, ⟨(some 3), .mov (.c (.lit (.slice none 0 0))), none⟩]) (
 .seq (
  .seq (
   .ops [⟨(some 6), .mov (.t 0), none⟩, ⟨(some 7), .len (.t 6), none⟩, ⟨(some 8), .mov (.c (.lit (.int .i64 0))), none⟩]) (
  .block 0 (
   .loop (L_tree_halves_1 N)))) (K_tree_halves_1 N)), false⟩

/-- azimuth/tree.named -/
def C_tree_named (N : Nat → Nat) : AFunc := ⟨93, [.inl 2],
 .seq (
  .ops [⟨(some 1), .box (t_api_Node N) (.t 0), none⟩, ⟨(some 2), .mov (.c (.lit (.bool false))), none⟩]) (
 .seq (
  .seq (
   .ops [⟨(some 6), .faddr 0 (.t 1), none⟩, ⟨(some 7), .load none (.t 6), none⟩]) (
  .block 0 (
   .seq (
    .ops [⟨(some 9), .eq false .pint (.t 7) (.c (.lit (.int .i64 10))), none⟩, ⟨(some 8), .mov (.t 9), none⟩]) (
   .cond (.t 8) (
    .seq (
     .ops [⟨(some 11), .faddr 5 (.t 1), none⟩, ⟨(some 12), .load none (.t 11), none⟩, ⟨(some 13), .call (.c (.fn (f_tree_halves N) [] [])) [(.t 12)], none⟩, ⟨(some 10), .mov (.t 13), none⟩, ⟨(some 14), .extract (.t 10) 0, none⟩, ⟨(some 15), .extract (.t 10) 1, none⟩, ⟨(some 3), .mov (.t 14), none⟩, ⟨(some 4), .mov (.t 15), none⟩]) (
    .seq (
     .ops [⟨(some 16), .faddr 6 (.t 1), none⟩, ⟨(some 17), .load none (.t 16), none⟩, ⟨(some 18), .len (.t 17), none⟩, ⟨(some 19), .mov (.t 4), none⟩, ⟨(some 20), .len (.t 19), none⟩, ⟨(some 21), .bin .sub (.t 18) (.t 20), none⟩, ⟨(some 5), .mov (.t 21), none⟩]) (
    .seq (
     .ops [⟨(some 22), .faddr 5 (.t 1), none⟩, ⟨(some 23), .load none (.t 22), none⟩, ⟨(some 24), .len (.t 23), none⟩, ⟨(some 25), .bin .rem (.t 24) (.c (.lit (.int .i64 2))), none⟩, ⟨(some 26), .eq false .pint (.t 25) (.c (.lit (.int .i64 0))), none⟩, ⟨(some 27), .mov (.t 26), none⟩, ⟨(some 28), .mov (.t 5), (some (27, true))⟩, ⟨(some 29), .eq false .pint (.t 28) (.c (.lit (.int .i64 1))), (some (27, true))⟩, ⟨(some 30), .mov (.t 29), (some (27, true))⟩, ⟨(some 31), .mov (.t 5), (some (30, false))⟩, ⟨(some 32), .eq false .pint (.t 31) (.c (.lit (.int .i64 2))), (some (30, false))⟩, ⟨(some 33), .pick (.t 30) (.c (.lit (.bool true))) (.t 32), (some (27, true))⟩, ⟨(some 34), .pick (.t 27) (.t 33) (.c (.lit (.bool false))), none⟩, ⟨(some 35), .mov (.t 34), none⟩, ⟨(some 36), .mov (.t 3), (some (35, true))⟩, ⟨(some 37), .call (.c (.fn (f_tree_all N) [] [])) [(.t 36), (.c (.fn (f_tree_tag N) [] []))], (some (35, true))⟩, ⟨(some 38), .pick (.t 35) (.t 37) (.c (.lit (.bool false))), none⟩, ⟨(some 39), .mov (.t 38), none⟩, ⟨(some 40), .mov (.t 4), (some (39, true))⟩, ⟨(some 41), .call (.c (.fn (f_tree_all N) [] [])) [(.t 40), (.c (.fn (f_lexer_IsName N) [] []))], (some (39, true))⟩, ⟨(some 42), .pick (.t 39) (.t 41) (.c (.lit (.bool false))), none⟩, ⟨(some 43), .mov (.t 42), none⟩, ⟨(some 44), .mov (.t 3), (some (43, true))⟩, ⟨(some 45), .call (.c (.fn (f_tree_once N) [] [])) [(.t 44)], (some (43, true))⟩, ⟨(some 46), .pick (.t 43) (.t 45) (.c (.lit (.bool false))), none⟩, ⟨(some 2), .mov (.t 46), none⟩]) (
    .ret)))) (
    .seq (
     .ops [⟨(some 48), .eq false .pint (.t 7) (.c (.lit (.int .i64 12))), none⟩, ⟨(some 47), .mov (.t 48), none⟩]) (
    .cond (.t 47) (
     .seq (
      .ops [⟨(some 49), .faddr 6 (.t 1), none⟩, ⟨(some 50), .load none (.t 49), none⟩, ⟨(some 51), .len (.t 50), none⟩, ⟨(some 52), .faddr 5 (.t 1), none⟩, ⟨(some 53), .load none (.t 52), none⟩, ⟨(some 54), .len (.t 53), none⟩, ⟨(some 55), .eq false .pint (.t 51) (.t 54), none⟩, ⟨(some 56), .mov (.t 55), none⟩, ⟨(some 57), .faddr 5 (.t 1), (some (56, true))⟩, ⟨(some 58), .load none (.t 57), (some (56, true))⟩, ⟨(some 59), .call (.c (.fn (f_tree_all N) [] [])) [(.t 58), (.c (.fn (f_lexer_IsName N) [] []))], (some (56, true))⟩, ⟨(some 60), .pick (.t 56) (.t 59) (.c (.lit (.bool false))), none⟩, ⟨(some 61), .mov (.t 60), none⟩, ⟨(some 62), .faddr 5 (.t 1), (some (61, true))⟩, ⟨(some 63), .load none (.t 62), (some (61, true))⟩, ⟨(some 64), .call (.c (.fn (f_tree_once N) [] [])) [(.t 63)], (some (61, true))⟩, ⟨(some 65), .pick (.t 61) (.t 64) (.c (.lit (.bool false))), none⟩, ⟨(some 2), .mov (.t 65), none⟩]) (
     .ret)) (
     .seq (
      .ops [⟨(some 67), .eq false .pint (.t 7) (.c (.lit (.int .i64 11))), none⟩, ⟨(some 66), .mov (.t 67), none⟩]) (
     .cond (.t 66) (
      .seq (
       .ops [⟨(some 68), .faddr 2 (.t 1), none⟩, ⟨(some 69), .load none (.t 68), none⟩, ⟨(some 70), .call (.c (.fn (f_tree_tag N) [] [])) [(.t 69)], none⟩, ⟨(some 71), .mov (.t 70), none⟩, ⟨(some 72), .faddr 5 (.t 1), (some (71, true))⟩, ⟨(some 73), .load none (.t 72), (some (71, true))⟩, ⟨(some 74), .len (.t 73), (some (71, true))⟩, ⟨(some 75), .eq false .pint (.t 74) (.c (.lit (.int .i64 0))), (some (71, true))⟩, ⟨(some 76), .pick (.t 71) (.t 75) (.c (.lit (.bool false))), none⟩, ⟨(some 2), .mov (.t 76), none⟩]) (
      .ret)) (
      .seq (
       .ops [⟨(some 78), .eq false .pint (.t 7) (.c (.lit (.int .i64 14))), none⟩, ⟨(some 77), .mov (.t 78), none⟩]) (
      .cond (.t 77) (
       .seq (
        .dops 11 [⟨(some 80), .faddr 2 (.t 1), none⟩, ⟨(some 81), .load none (.t 80), none⟩, ⟨(some 79), .call (.c (.fn (f_tree_ops N) [] [])) [], none⟩, ⟨(some 82), .call (.c (.fn (f_slices_Contains_sl_string_string N) [] [])) [(.t 79), (.t 81)], none⟩, ⟨(some 83), .mov (.t 82), none⟩, ⟨(some 84), .faddr 5 (.t 1), (some (83, true))⟩, ⟨(some 85), .load none (.t 84), (some (83, true))⟩, ⟨(some 86), .len (.t 85), (some (83, true))⟩, ⟨(some 87), .eq false .pint (.t 86) (.c (.lit (.int .i64 0))), (some (83, true))⟩, ⟨(some 88), .pick (.t 83) (.t 87) (.c (.lit (.bool false))), none⟩, ⟨(some 2), .mov (.t 88), none⟩] [0, 0, 1, 0, 0, 0, 0, 0, 0, 0, 0] []) (
       .ret)) (
       .skip))))))))))) (
 .seq (
  .ops [⟨(some 89), .faddr 5 (.t 1), none⟩, ⟨(some 90), .load none (.t 89), none⟩, ⟨(some 91), .len (.t 90), none⟩, ⟨(some 92), .eq false .pint (.t 91) (.c (.lit (.int .i64 0))), none⟩, ⟨(some 2), .mov (.t 92), none⟩]) (
 .ret))), false⟩

def L_tree_once_1 (N : Nat → Nat) : AC :=
    .seq (
     .ops [⟨(some 10), .bin .lss (.t 9) (.t 8), none⟩]) (
    .seq (
     .cond (.t 10) (
      .skip) (
      .exit 0)) (
    .seq (
     .block 1 (
      .seq (
       .ops [⟨(some 11), .iaddr 1 (.t 7) (.t 9), none⟩, ⟨(some 12), .load none (.t 11), none⟩, ⟨(some 5), .mov (.t 12), none⟩]) (
      .seq (
       .seq (
        .ops [⟨(some 13), .mov (.t 3), none⟩, ⟨(some 14), .mov (.t 5), none⟩, ⟨(some 15), .lookup .string (.lit (.bool false)) (.t 13) (.t 14) false, none⟩]) (
       .cond (.t 15) (
        .seq (
         .ops [⟨(some 2), .mov (.c (.lit (.bool false))), none⟩]) (
        .ret)) (
        .skip))) (
      .ops [⟨(some 16), .mov (.t 3), none⟩, ⟨(some 17), .mov (.t 5), none⟩, ⟨none, .mapupd .string (.t 16) (.t 17) (.c (.lit (.bool true))), none⟩])))) (
    .ops [⟨(some 18), .bin .add (.t 9) (.c (.lit (.int .i64 1))), none⟩, ⟨(some 9), .mov (.t 18), none⟩])))
def K_tree_once_1 (N : Nat → Nat) : AC :=
 .seq (
  .ops [⟨(some 2), .mov (.c (.lit (.bool true))), none⟩]) (
 .ret)
/-- azimuth/tree.once -/
def C_tree_once (N : Nat → Nat) : AFunc := ⟨19, [.inl 2],
 .seq (
  .ops [⟨(some 2), .mov (.c (.lit (.bool false))), none⟩]) (
 .seq (
  .ops [⟨(some 6), .mkmap, none⟩, ⟨(some 3), .mov (.t 6), none⟩]) (
 .seq (
  .seq (
   .ops [⟨(some 7), .mov (.t 0), none⟩, ⟨(some 8), .len (.t 7), none⟩, ⟨(some 9), .mov (.c (.lit (.int .i64 0))), none⟩]) (
  .block 0 (
   .loop (L_tree_once_1 N)))) (K_tree_once_1 N))), false⟩

/-- azimuth/tree.ops -/
def C_tree_ops (N : Nat → Nat) : AFunc := ⟨2, [.inl 0],
 .seq (
  .ops [⟨(some 0), .mov (.c (.lit (.slice none 0 0))), none⟩]) (
 .seq (
  .ops [⟨(some 1), .bslice (t_string N) 1 none 12 [(.lit (.string (mkS [])))] [(0, 1, (.c (.lit (.string (mkS [43]))))), (1, 1, (.c (.lit (.string (mkS [45]))))), (2, 1, (.c (.lit (.string (mkS [42]))))), (3, 1, (.c (.lit (.string (mkS [47]))))), (4, 1, (.c (.lit (.string (mkS [43, 46]))))), (5, 1, (.c (.lit (.string (mkS [45, 46]))))), (6, 1, (.c (.lit (.string (mkS [42, 46]))))), (7, 1, (.c (.lit (.string (mkS [47, 46]))))), (8, 1, (.c (.lit (.string (mkS [60]))))), (9, 1, (.c (.lit (.string (mkS [60, 46]))))), (10, 1, (.c (.lit (.string (mkS [61, 61]))))), (11, 1, (.c (.lit (.string (mkS [94])))))], none⟩, ⟨(some 0), .mov (.t 1), none⟩]) (
 .ret)), false⟩

/-- azimuth/tree.shapes -/
def C_tree_shapes (N : Nat → Nat) : AFunc := ⟨45, [.inr (2, (some 6)), .inl 3],
 .seq (
  .ops [⟨(some 2), .new (t_tree_shape N) (.agg [(.lit (.bool false)), (.lit (.bool false)), (.lit (.bool false)), (.lit (.bool false)), (.lit (.int .i64 0)), (.lit (.int .i64 0))]), none⟩, ⟨(some 3), .mov (.c (.lit (.bool false))), none⟩]) (
 .seq (
  .seq (
   .ops [⟨(some 4), .mov (.t 0), none⟩]) (
  .block 0 (
   .seq (
    .ops [⟨(some 6), .eq false .pint (.t 4) (.c (.lit (.int .i64 0))), none⟩, ⟨(some 5), .mov (.t 6), none⟩]) (
   .cond (.t 5) (
    .seq (
     .ops [⟨(some 7), .build [(.lit (.bool false)), (.lit (.bool false)), (.lit (.bool false)), (.lit (.bool false)), (.lit (.int .i64 0)), (.lit (.int .i64 0))] [(0, 1, (.c (.lit (.bool true))))], none⟩, ⟨none, .store 6 (.t 2) (.t 7), none⟩, ⟨(some 3), .mov (.c (.lit (.bool true))), none⟩]) (
    .ret)) (
    .seq (
     .seq (
      .ops [⟨(some 9), .eq false .pint (.t 4) (.c (.lit (.int .i64 1))), none⟩, ⟨(some 8), .mov (.t 9), none⟩]) (
     .cond (.t 8) (
      .skip) (
      .ops [⟨(some 10), .eq false .pint (.t 4) (.c (.lit (.int .i64 2))), none⟩, ⟨(some 8), .mov (.t 10), none⟩]))) (
    .cond (.t 8) (
     .seq (
      .ops [⟨(some 11), .build [(.lit (.bool false)), (.lit (.bool false)), (.lit (.bool false)), (.lit (.bool false)), (.lit (.int .i64 0)), (.lit (.int .i64 0))] [(1, 1, (.c (.lit (.bool true))))], none⟩, ⟨none, .store 6 (.t 2) (.t 11), none⟩, ⟨(some 3), .mov (.c (.lit (.bool true))), none⟩]) (
     .ret)) (
     .seq (
      .ops [⟨(some 13), .eq false .pint (.t 4) (.c (.lit (.int .i64 3))), none⟩, ⟨(some 12), .mov (.t 13), none⟩]) (
     .cond (.t 12) (
      .seq (
       .ops [⟨(some 14), .build [(.lit (.bool false)), (.lit (.bool false)), (.lit (.bool false)), (.lit (.bool false)), (.lit (.int .i64 0)), (.lit (.int .i64 0))] [(3, 1, (.c (.lit (.bool true))))], none⟩, ⟨none, .store 6 (.t 2) (.t 14), none⟩, ⟨(some 3), .mov (.c (.lit (.bool true))), none⟩]) (
      .ret)) (
      .seq (
       .ops [⟨(some 16), .eq false .pint (.t 4) (.c (.lit (.int .i64 4))), none⟩, ⟨(some 15), .mov (.t 16), none⟩]) (
      .cond (.t 15) (
       .seq (
        .ops [⟨(some 17), .build [(.lit (.bool false)), (.lit (.bool false)), (.lit (.bool false)), (.lit (.bool false)), (.lit (.int .i64 0)), (.lit (.int .i64 0))] [(2, 1, (.c (.lit (.bool true))))], none⟩, ⟨none, .store 6 (.t 2) (.t 17), none⟩, ⟨(some 3), .mov (.c (.lit (.bool true))), none⟩]) (
       .ret)) (
       .seq (
        .seq (
         .ops [⟨(some 19), .eq false .pint (.t 4) (.c (.lit (.int .i64 5))), none⟩, ⟨(some 18), .mov (.t 19), none⟩]) (
        .cond (.t 18) (
         .skip) (
         .seq (
          .ops [⟨(some 20), .eq false .pint (.t 4) (.c (.lit (.int .i64 11))), none⟩, ⟨(some 18), .mov (.t 20), none⟩]) (
         .cond (.t 18) (
          .skip) (
          .ops [⟨(some 21), .eq false .pint (.t 4) (.c (.lit (.int .i64 13))), none⟩, ⟨(some 18), .mov (.t 21), none⟩]))))) (
       .cond (.t 18) (
        .seq (
         .ops [⟨(some 22), .build [(.lit (.bool false)), (.lit (.bool false)), (.lit (.bool false)), (.lit (.bool false)), (.lit (.int .i64 0)), (.lit (.int .i64 0))] [(0, 1, (.c (.lit (.bool true)))), (4, 1, (.c (.lit (.int .i64 1))))], none⟩, ⟨none, .store 6 (.t 2) (.t 22), none⟩, ⟨(some 3), .mov (.c (.lit (.bool true))), none⟩]) (
        .ret)) (
        .seq (
         .ops [⟨(some 24), .eq false .pint (.t 4) (.c (.lit (.int .i64 6))), none⟩, ⟨(some 23), .mov (.t 24), none⟩]) (
        .cond (.t 23) (
         .seq (
          .ops [⟨(some 25), .build [(.lit (.bool false)), (.lit (.bool false)), (.lit (.bool false)), (.lit (.bool false)), (.lit (.int .i64 0)), (.lit (.int .i64 0))] [(4, 1, (.c (.lit (.int .i64 2))))], none⟩, ⟨none, .store 6 (.t 2) (.t 25), none⟩, ⟨(some 3), .mov (.c (.lit (.bool true))), none⟩]) (
         .ret)) (
         .seq (
          .seq (
           .ops [⟨(some 27), .eq false .pint (.t 4) (.c (.lit (.int .i64 7))), none⟩, ⟨(some 26), .mov (.t 27), none⟩]) (
          .cond (.t 26) (
           .skip) (
           .seq (
            .ops [⟨(some 28), .eq false .pint (.t 4) (.c (.lit (.int .i64 8))), none⟩, ⟨(some 26), .mov (.t 28), none⟩]) (
           .cond (.t 26) (
            .skip) (
            .ops [⟨(some 29), .eq false .pint (.t 4) (.c (.lit (.int .i64 14))), none⟩, ⟨(some 26), .mov (.t 29), none⟩]))))) (
         .cond (.t 26) (
          .seq (
           .ops [⟨(some 30), .build [(.lit (.bool false)), (.lit (.bool false)), (.lit (.bool false)), (.lit (.bool false)), (.lit (.int .i64 0)), (.lit (.int .i64 0))] [(0, 1, (.c (.lit (.bool true)))), (4, 1, (.c (.lit (.int .i64 2))))], none⟩, ⟨none, .store 6 (.t 2) (.t 30), none⟩, ⟨(some 3), .mov (.c (.lit (.bool true))), none⟩]) (
          .ret)) (
          .seq (
           .ops [⟨(some 32), .eq false .pint (.t 4) (.c (.lit (.int .i64 9))), none⟩, ⟨(some 31), .mov (.t 32), none⟩]) (
          .cond (.t 31) (
           .seq (
            .ops [⟨(some 33), .build [(.lit (.bool false)), (.lit (.bool false)), (.lit (.bool false)), (.lit (.bool false)), (.lit (.int .i64 0)), (.lit (.int .i64 0))] [(4, 1, (.c (.lit (.int .i64 3))))], none⟩, ⟨none, .store 6 (.t 2) (.t 33), none⟩, ⟨(some 3), .mov (.c (.lit (.bool true))), none⟩]) (
           .ret)) (
           .seq (
            .seq (
             .ops [⟨(some 35), .eq false .pint (.t 4) (.c (.lit (.int .i64 10))), none⟩, ⟨(some 34), .mov (.t 35), none⟩]) (
            .cond (.t 34) (
             .skip) (
             .ops [⟨(some 36), .eq false .pint (.t 4) (.c (.lit (.int .i64 12))), none⟩, ⟨(some 34), .mov (.t 36), none⟩]))) (
           .cond (.t 34) (
            .seq (
             .ops [⟨(some 37), .build [(.lit (.bool false)), (.lit (.bool false)), (.lit (.bool false)), (.lit (.bool false)), (.lit (.int .i64 0)), (.lit (.int .i64 0))] [(4, 1, (.c (.lit (.int .i64 (-1)))))], none⟩, ⟨none, .store 6 (.t 2) (.t 37), none⟩, ⟨(some 3), .mov (.c (.lit (.bool true))), none⟩]) (
            .ret)) (
            .seq (
             .ops [⟨(some 39), .eq false .pint (.t 4) (.c (.lit (.int .i64 15))), none⟩, ⟨(some 38), .mov (.t 39), none⟩]) (
            .cond (.t 38) (
             .seq (
              .ops [⟨(some 40), .build [(.lit (.bool false)), (.lit (.bool false)), (.lit (.bool false)), (.lit (.bool false)), (.lit (.int .i64 0)), (.lit (.int .i64 0))] [(4, 1, (.c (.lit (.int .i64 1)))), (5, 1, (.c (.lit (.int .i64 1))))], none⟩, ⟨none, .store 6 (.t 2) (.t 40), none⟩, ⟨(some 3), .mov (.c (.lit (.bool true))), none⟩]) (
             .ret)) (
             .seq (
              .ops [⟨(some 42), .eq false .pint (.t 4) (.c (.lit (.int .i64 16))), none⟩, ⟨(some 41), .mov (.t 42), none⟩]) (
             .cond (.t 41) (
              .seq (
               .ops [⟨(some 43), .build [(.lit (.bool false)), (.lit (.bool false)), (.lit (.bool false)), (.lit (.bool false)), (.lit (.int .i64 0)), (.lit (.int .i64 0))] [(4, 1, (.c (.lit (.int .i64 1)))), (5, 1, (.c (.lit (.int .i64 2))))], none⟩, ⟨none, .store 6 (.t 2) (.t 43), none⟩, ⟨(some 3), .mov (.c (.lit (.bool true))), none⟩]) (
              .ret)) (
              .skip))))))))))))))))))))))))) (
 .seq (
  .ops [⟨(some 44), .build [(.lit (.bool false)), (.lit (.bool false)), (.lit (.bool false)), (.lit (.bool false)), (.lit (.int .i64 0)), (.lit (.int .i64 0))] [], none⟩, ⟨none, .store 6 (.t 2) (.t 44), none⟩, ⟨(some 3), .mov (.c (.lit (.bool false))), none⟩]) (
 .ret))), false⟩

/-- azimuth/tree.tag -/
def C_tree_tag (N : Nat → Nat) : AFunc := ⟨9, [.inl 2],
 .seq (
  .ops [⟨(some 2), .mov (.c (.lit (.bool false))), none⟩]) (
 .seq (
  .ops [⟨(some 3), .mov (.t 0), none⟩, ⟨(some 4), .call (.c (.fn (f_lexer_IsName N) [] [])) [(.t 3)], none⟩, ⟨(some 5), .mov (.t 4), none⟩, ⟨(some 6), .mov (.t 0), (some (5, false))⟩, ⟨(some 7), .call (.c (.fn (f_lexer_IsWord N) [] [])) [(.t 6)], (some (5, false))⟩, ⟨(some 8), .pick (.t 5) (.c (.lit (.bool true))) (.t 7), none⟩, ⟨(some 2), .mov (.t 8), none⟩]) (
 .ret)), false⟩

/-- azimuth/tree.term -/
def C_tree_term (N : Nat → Nat) : AFunc := ⟨117, [.inl 2],
 .seq (
  .ops [⟨(some 1), .box (t_api_Node N) (.t 0), none⟩, ⟨(some 2), .mov (.c (.lit (.bool false))), none⟩]) (
 .seq (
  .ops [⟨(some 7), .faddr 0 (.t 1), none⟩, ⟨(some 8), .load none (.t 7), none⟩, ⟨(some 9), .call (.c (.fn (f_tree_shapes N) [] [])) [(.t 8)], none⟩, ⟨(some 6), .mov (.t 9), none⟩, ⟨(some 10), .extract (.t 6) 0, none⟩, ⟨(some 11), .extract (.t 6) 1, none⟩, ⟨(some 3), .new (t_tree_shape N) (.agg [(.lit (.bool false)), (.lit (.bool false)), (.lit (.bool false)), (.lit (.bool false)), (.lit (.int .i64 0)), (.lit (.int .i64 0))]), none⟩, ⟨none, .store 6 (.t 3) (.t 10), none⟩, ⟨(some 4), .mov (.t 11), none⟩]) (
 .seq (
  .seq (
   .ops [⟨(some 12), .mov (.t 4), none⟩, ⟨(some 13), .un .not (.t 12), none⟩, ⟨(some 14), .mov (.t 13), none⟩, ⟨(some 15), .faddr 4 (.t 3), (some (14, false))⟩, ⟨(some 16), .load none (.t 15), (some (14, false))⟩, ⟨(some 17), .bin .geq (.t 16) (.c (.lit (.int .i64 0))), (some (14, false))⟩, ⟨(some 18), .mov (.t 17), (some (14, false))⟩, ⟨(some 19), .faddr 6 (.t 1), (some (18, true))⟩, ⟨(some 20), .load none (.t 19), (some (18, true))⟩, ⟨(some 21), .len (.t 20), (some (18, true))⟩, ⟨(some 22), .faddr 4 (.t 3), (some (18, true))⟩, ⟨(some 23), .load none (.t 22), (some (18, true))⟩, ⟨(some 24), .eq true .pint (.t 21) (.t 23), (some (18, true))⟩, ⟨(some 25), .pick (.t 18) (.t 24) (.c (.lit (.bool false))), (some (14, false))⟩, ⟨(some 26), .pick (.t 14) (.c (.lit (.bool true))) (.t 25), none⟩, ⟨(some 27), .mov (.t 26), none⟩, ⟨(some 28), .faddr 7 (.t 1), (some (27, false))⟩, ⟨(some 29), .load none (.t 28), (some (27, false))⟩, ⟨(some 30), .len (.t 29), (some (27, false))⟩, ⟨(some 31), .faddr 5 (.t 3), (some (27, false))⟩, ⟨(some 32), .load none (.t 31), (some (27, false))⟩, ⟨(some 33), .eq true .pint (.t 30) (.t 32), (some (27, false))⟩, ⟨(some 34), .pick (.t 27) (.c (.lit (.bool true))) (.t 33), none⟩, ⟨(some 35), .mov (.t 34), none⟩, ⟨(some 36), .load (some 8) (.t 1), (some (35, false))⟩, ⟨(some 37), .call (.c (.fn (f_tree_named N) [] [])) [(.t 36)], (some (35, false))⟩, ⟨(some 38), .un .not (.t 37), (some (35, false))⟩, ⟨(some 39), .pick (.t 35) (.c (.lit (.bool true))) (.t 38), none⟩]) (
  .cond (.t 39) (
   .seq (
    .ops [⟨(some 2), .mov (.c (.lit (.bool false))), none⟩]) (
   .ret)) (
   .skip))) (
 .seq (
  .ops [⟨(some 40), .faddr 0 (.t 1), none⟩, ⟨(some 41), .load none (.t 40), none⟩, ⟨(some 42), .eq true .pint (.t 41) (.c (.lit (.int .i64 11))), none⟩, ⟨(some 43), .mov (.t 42), none⟩, ⟨(some 44), .faddr 0 (.t 1), (some (43, true))⟩, ⟨(some 45), .load none (.t 44), (some (43, true))⟩, ⟨(some 46), .eq true .pint (.t 45) (.c (.lit (.int .i64 14))), (some (43, true))⟩, ⟨(some 47), .pick (.t 43) (.t 46) (.c (.lit (.bool false))), none⟩, ⟨(some 5), .mov (.t 47), none⟩]) (
 .seq (
  .block 0 (
   .seq (
    .ops [⟨(some 49), .faddr 3 (.t 3), none⟩, ⟨(some 50), .load none (.t 49), none⟩, ⟨(some 48), .mov (.t 50), none⟩]) (
   .cond (.t 48) (
    .seq (
     .ops [⟨(some 51), .faddr 2 (.t 1), none⟩, ⟨(some 52), .load none (.t 51), none⟩, ⟨(some 53), .call (.c (.fn (f_tree_text N) [] [])) [(.t 52)], none⟩, ⟨(some 54), .un .not (.t 53), none⟩]) (
    .cond (.t 54) (
     .seq (
      .ops [⟨(some 2), .mov (.c (.lit (.bool false))), none⟩]) (
     .ret)) (
     .skip))) (
    .seq (
     .ops [⟨(some 56), .faddr 0 (.t 3), none⟩, ⟨(some 57), .load none (.t 56), none⟩, ⟨(some 58), .un .not (.t 57), none⟩, ⟨(some 55), .mov (.t 58), none⟩]) (
    .cond (.t 55) (
     .seq (
      .ops [⟨(some 59), .faddr 2 (.t 1), none⟩, ⟨(some 60), .load none (.t 59), none⟩, ⟨(some 61), .eq true .pstr (.t 60) (.c (.lit (.string (mkS [])))), none⟩]) (
     .cond (.t 61) (
      .seq (
       .ops [⟨(some 2), .mov (.c (.lit (.bool false))), none⟩]) (
      .ret)) (
      .skip))) (
     .seq (
      .ops [⟨(some 63), .mov (.t 5), none⟩, ⟨(some 64), .mov (.t 63), none⟩, ⟨(some 65), .faddr 2 (.t 1), (some (64, true))⟩, ⟨(some 66), .load none (.t 65), (some (64, true))⟩, ⟨(some 67), .call (.c (.fn (f_lexer_IsName N) [] [])) [(.t 66)], (some (64, true))⟩, ⟨(some 68), .un .not (.t 67), (some (64, true))⟩, ⟨(some 69), .pick (.t 64) (.t 68) (.c (.lit (.bool false))), none⟩, ⟨(some 62), .mov (.t 69), none⟩]) (
     .cond (.t 62) (
      .seq (
       .ops [⟨(some 2), .mov (.c (.lit (.bool false))), none⟩]) (
      .ret)) (
      .skip)))))))) (
 .seq (
  .seq (
   .ops [⟨(some 70), .faddr 1 (.t 3), none⟩, ⟨(some 71), .load none (.t 70), none⟩, ⟨(some 72), .mov (.t 71), none⟩, ⟨(some 73), .faddr 3 (.t 1), (some (72, true))⟩, ⟨(some 74), .load none (.t 73), (some (72, true))⟩, ⟨(some 75), .bin .lss (.t 74) (.c (.lit (.int .i64 0))), (some (72, true))⟩, ⟨(some 76), .mov (.t 75), (some (72, true))⟩, ⟨(some 77), .faddr 0 (.t 1), (some (76, false))⟩, ⟨(some 78), .load none (.t 77), (some (76, false))⟩, ⟨(some 79), .eq false .pint (.t 78) (.c (.lit (.int .i64 2))), (some (76, false))⟩, ⟨(some 80), .mov (.t 79), (some (76, false))⟩, ⟨(some 81), .faddr 3 (.t 1), (some (80, true))⟩, ⟨(some 82), .load none (.t 81), (some (80, true))⟩, ⟨(some 83), .bin .gtr (.t 82) (.c (.lit (.int .i64 1))), (some (80, true))⟩, ⟨(some 84), .pick (.t 80) (.t 83) (.c (.lit (.bool false))), (some (76, false))⟩, ⟨(some 85), .pick (.t 76) (.c (.lit (.bool true))) (.t 84), (some (72, true))⟩, ⟨(some 86), .pick (.t 72) (.t 85) (.c (.lit (.bool false))), none⟩, ⟨(some 87), .mov (.t 86), none⟩, ⟨(some 88), .faddr 1 (.t 3), (some (87, false))⟩, ⟨(some 89), .load none (.t 88), (some (87, false))⟩, ⟨(some 90), .un .not (.t 89), (some (87, false))⟩, ⟨(some 91), .mov (.t 90), (some (87, false))⟩, ⟨(some 92), .faddr 3 (.t 1), (some (91, true))⟩, ⟨(some 93), .load none (.t 92), (some (91, true))⟩, ⟨(some 94), .eq true .pint (.t 93) (.c (.lit (.int .i64 0))), (some (91, true))⟩, ⟨(some 95), .pick (.t 91) (.t 94) (.c (.lit (.bool false))), (some (87, false))⟩, ⟨(some 96), .pick (.t 87) (.c (.lit (.bool true))) (.t 95), none⟩]) (
  .cond (.t 96) (
   .seq (
    .ops [⟨(some 2), .mov (.c (.lit (.bool false))), none⟩]) (
   .ret)) (
   .skip))) (
 .seq (
  .dops 15 [⟨(some 97), .faddr 2 (.t 3), none⟩, ⟨(some 98), .load none (.t 97), none⟩, ⟨(some 99), .mov (.t 98), none⟩, ⟨(some 100), .faddr 4 (.t 1), (some (99, true))⟩, ⟨(some 101), .load none (.t 100), (some (99, true))⟩, ⟨(some 103), .faddr 4 (.t 1), (some (99, true))⟩, ⟨(some 104), .load none (.t 103), (some (99, true))⟩, ⟨(some 102), .call (.c (.fn (f_floats_Of N) [] [])) [(.t 101)], (some (99, true))⟩, ⟨(some 105), .eq false .pint (.t 102) (.t 104), (some (99, true))⟩, ⟨(some 106), .pick (.t 99) (.t 105) (.c (.lit (.bool false))), none⟩, ⟨(some 107), .mov (.t 106), none⟩, ⟨(some 108), .faddr 2 (.t 3), (some (107, false))⟩, ⟨(some 109), .load none (.t 108), (some (107, false))⟩, ⟨(some 110), .un .not (.t 109), (some (107, false))⟩, ⟨(some 111), .mov (.t 110), (some (107, false))⟩, ⟨(some 112), .faddr 4 (.t 1), (some (111, true))⟩, ⟨(some 113), .load none (.t 112), (some (111, true))⟩, ⟨(some 114), .eq false .pint (.t 113) (.c (.lit (.int .u64 0))), (some (111, true))⟩, ⟨(some 115), .pick (.t 111) (.t 114) (.c (.lit (.bool false))), (some (107, false))⟩, ⟨(some 116), .pick (.t 107) (.c (.lit (.bool true))) (.t 115), none⟩, ⟨(some 2), .mov (.t 116), none⟩] [0, 0, 0, 0, 2, 0, 2, 1, 0, 0, 0, 0, 0, 0, 0, 0, 0, 0, 0, 0, 0] []) (
 .ret))))))), false⟩

/-- azimuth/tree.text -/
def C_tree_text (N : Nat → Nat) : AFunc := ⟨13, [.inl 2],
 .seq (
  .ops [⟨(some 2), .mov (.c (.lit (.bool false))), none⟩]) (
 .seq (
  .ops [⟨(some 3), .mov (.t 0), none⟩, ⟨(some 4), .conv (.bytes (t_uint8 N)) (.t 3), none⟩, ⟨(some 5), .call (.c (.fn (f_runes_Bad N) [] [])) [(.t 4)], none⟩, ⟨(some 6), .bin .lss (.t 5) (.c (.lit (.int .i64 0))), none⟩, ⟨(some 7), .mov (.t 6), none⟩, ⟨(some 8), .mov (.t 0), (some (7, true))⟩, ⟨(some 9), .conv (.bytes (t_uint8 N)) (.t 8), (some (7, true))⟩, ⟨(some 10), .call (.c (.fn (f_slices_ContainsFunc_sl_byte_byte N) [] [])) [(.t 9), (.c (.fn (f_tree_text_1 N) [] []))], (some (7, true))⟩, ⟨(some 11), .un .not (.t 10), (some (7, true))⟩, ⟨(some 12), .pick (.t 7) (.t 11) (.c (.lit (.bool false))), none⟩, ⟨(some 2), .mov (.t 12), none⟩]) (
 .ret)), false⟩

/-- azimuth/tree.text$1 -/
def C_tree_text_1 (N : Nat → Nat) : AFunc := ⟨9, [.inl 2],
 .seq (
  .ops [⟨(some 2), .mov (.c (.lit (.bool false))), none⟩]) (
 .seq (
  .ops [⟨(some 3), .mov (.t 0), none⟩, ⟨(some 4), .bin .lss (.t 3) (.c (.lit (.int .u8 32))), none⟩, ⟨(some 5), .mov (.t 4), none⟩, ⟨(some 6), .mov (.t 0), (some (5, true))⟩, ⟨(some 7), .eq true .pint (.t 6) (.c (.lit (.int .u8 10))), (some (5, true))⟩, ⟨(some 8), .pick (.t 5) (.t 7) (.c (.lit (.bool false))), none⟩, ⟨(some 2), .mov (.t 8), none⟩]) (
 .ret)), false⟩

/-- azimuth/tree.typ -/
def C_tree_typ (N : Nat → Nat) : AFunc := ⟨115, [.inl 2],
 .seq (
  .ops [⟨(some 1), .box (t_api_TypeNode N) (.t 0), none⟩, ⟨(some 2), .mov (.c (.lit (.bool false))), none⟩]) (
 .seq (
  .seq (
   .ops [⟨(some 3), .faddr 5 (.t 1), none⟩, ⟨(some 4), .load none (.t 3), none⟩, ⟨(some 5), .mov (.t 4), none⟩, ⟨(some 6), .faddr 0 (.t 1), (some (5, true))⟩, ⟨(some 7), .load none (.t 6), (some (5, true))⟩, ⟨(some 8), .eq true .pint (.t 7) (.c (.lit (.int .i64 9))), (some (5, true))⟩, ⟨(some 9), .pick (.t 5) (.t 8) (.c (.lit (.bool false))), none⟩]) (
  .cond (.t 9) (
   .seq (
    .ops [⟨(some 2), .mov (.c (.lit (.bool false))), none⟩]) (
   .ret)) (
   .skip))) (
 .seq (
  .seq (
   .ops [⟨(some 10), .faddr 0 (.t 1), none⟩, ⟨(some 11), .load none (.t 10), none⟩]) (
  .block 0 (
   .seq (
    .ops [⟨(some 13), .eq false .pint (.t 11) (.c (.lit (.int .i64 7))), none⟩, ⟨(some 12), .mov (.t 13), none⟩]) (
   .cond (.t 12) (
    .seq (
     .ops [⟨(some 14), .faddr 2 (.t 1), none⟩, ⟨(some 15), .load none (.t 14), none⟩, ⟨(some 16), .eq false .pstr (.t 15) (.c (.lit (.string (mkS [])))), none⟩, ⟨(some 17), .mov (.t 16), none⟩, ⟨(some 18), .faddr 3 (.t 1), (some (17, true))⟩, ⟨(some 19), .load none (.t 18), (some (17, true))⟩, ⟨(some 20), .len (.t 19), (some (17, true))⟩, ⟨(some 21), .eq false .pint (.t 20) (.c (.lit (.int .i64 0))), (some (17, true))⟩, ⟨(some 22), .pick (.t 17) (.t 21) (.c (.lit (.bool false))), none⟩, ⟨(some 23), .mov (.t 22), none⟩, ⟨(some 24), .faddr 4 (.t 1), (some (23, true))⟩, ⟨(some 25), .load none (.t 24), (some (23, true))⟩, ⟨(some 26), .len (.t 25), (some (23, true))⟩, ⟨(some 27), .eq false .pint (.t 26) (.c (.lit (.int .i64 2))), (some (23, true))⟩, ⟨(some 28), .pick (.t 23) (.t 27) (.c (.lit (.bool false))), none⟩, ⟨(some 2), .mov (.t 28), none⟩]) (
    .ret)) (
    .seq (
     .ops [⟨(some 30), .eq false .pint (.t 11) (.c (.lit (.int .i64 8))), none⟩, ⟨(some 29), .mov (.t 30), none⟩]) (
    .cond (.t 29) (
     .seq (
      .ops [⟨(some 31), .faddr 2 (.t 1), none⟩, ⟨(some 32), .load none (.t 31), none⟩, ⟨(some 33), .eq false .pstr (.t 32) (.c (.lit (.string (mkS [])))), none⟩, ⟨(some 34), .mov (.t 33), none⟩, ⟨(some 35), .faddr 3 (.t 1), (some (34, true))⟩, ⟨(some 36), .load none (.t 35), (some (34, true))⟩, ⟨(some 37), .len (.t 36), (some (34, true))⟩, ⟨(some 38), .faddr 4 (.t 1), (some (34, true))⟩, ⟨(some 39), .load none (.t 38), (some (34, true))⟩, ⟨(some 40), .len (.t 39), (some (34, true))⟩, ⟨(some 41), .eq false .pint (.t 37) (.t 40), (some (34, true))⟩, ⟨(some 42), .pick (.t 34) (.t 41) (.c (.lit (.bool false))), none⟩, ⟨(some 43), .mov (.t 42), none⟩, ⟨(some 44), .faddr 3 (.t 1), (some (43, true))⟩, ⟨(some 45), .load none (.t 44), (some (43, true))⟩, ⟨(some 46), .call (.c (.fn (f_tree_once N) [] [])) [(.t 45)], (some (43, true))⟩, ⟨(some 47), .pick (.t 43) (.t 46) (.c (.lit (.bool false))), none⟩, ⟨(some 48), .mov (.t 47), none⟩, ⟨(some 49), .faddr 3 (.t 1), (some (48, true))⟩, ⟨(some 50), .load none (.t 49), (some (48, true))⟩, ⟨(some 51), .call (.c (.fn (f_tree_all N) [] [])) [(.t 50), (.c (.fn (f_lexer_IsName N) [] []))], (some (48, true))⟩, ⟨(some 52), .pick (.t 48) (.t 51) (.c (.lit (.bool false))), none⟩, ⟨(some 2), .mov (.t 52), none⟩]) (
     .ret)) (
     .seq (
      .ops [⟨(some 54), .eq false .pint (.t 11) (.c (.lit (.int .i64 9))), none⟩, ⟨(some 53), .mov (.t 54), none⟩]) (
     .cond (.t 53) (
      .seq (
       .ops [⟨(some 55), .faddr 2 (.t 1), none⟩, ⟨(some 56), .load none (.t 55), none⟩, ⟨(some 57), .eq false .pstr (.t 56) (.c (.lit (.string (mkS [])))), none⟩, ⟨(some 58), .mov (.t 57), none⟩, ⟨(some 59), .faddr 3 (.t 1), (some (58, true))⟩, ⟨(some 60), .load none (.t 59), (some (58, true))⟩, ⟨(some 61), .len (.t 60), (some (58, true))⟩, ⟨(some 62), .faddr 4 (.t 1), (some (58, true))⟩, ⟨(some 63), .load none (.t 62), (some (58, true))⟩, ⟨(some 64), .len (.t 63), (some (58, true))⟩, ⟨(some 65), .eq false .pint (.t 61) (.t 64), (some (58, true))⟩, ⟨(some 66), .pick (.t 58) (.t 65) (.c (.lit (.bool false))), none⟩, ⟨(some 67), .mov (.t 66), none⟩, ⟨(some 68), .faddr 3 (.t 1), (some (67, true))⟩, ⟨(some 69), .load none (.t 68), (some (67, true))⟩, ⟨(some 70), .call (.c (.fn (f_tree_once N) [] [])) [(.t 69)], (some (67, true))⟩, ⟨(some 71), .pick (.t 67) (.t 70) (.c (.lit (.bool false))), none⟩, ⟨(some 72), .mov (.t 71), none⟩, ⟨(some 73), .faddr 3 (.t 1), (some (72, true))⟩, ⟨(some 74), .load none (.t 73), (some (72, true))⟩, ⟨(some 75), .call (.c (.fn (f_tree_all N) [] [])) [(.t 74), (.c (.fn (f_tree_tag N) [] []))], (some (72, true))⟩, ⟨(some 76), .pick (.t 72) (.t 75) (.c (.lit (.bool false))), none⟩, ⟨(some 2), .mov (.t 76), none⟩]) (
      .ret)) (
      .seq (
       .ops [⟨(some 78), .eq false .pint (.t 11) (.c (.lit (.int .i64 10))), none⟩, ⟨(some 77), .mov (.t 78), none⟩]) (
      .cond (.t 77) (
       .seq (
        .ops [⟨(some 79), .faddr 2 (.t 1), none⟩, ⟨(some 80), .load none (.t 79), none⟩, ⟨(some 81), .call (.c (.fn (f_tree_alias N) [] [])) [(.t 80)], none⟩, ⟨(some 82), .mov (.t 81), none⟩, ⟨(some 83), .faddr 3 (.t 1), (some (82, true))⟩, ⟨(some 84), .load none (.t 83), (some (82, true))⟩, ⟨(some 85), .len (.t 84), (some (82, true))⟩, ⟨(some 86), .faddr 4 (.t 1), (some (82, true))⟩, ⟨(some 87), .load none (.t 86), (some (82, true))⟩, ⟨(some 88), .len (.t 87), (some (82, true))⟩, ⟨(some 89), .bin .add (.t 85) (.t 88), (some (82, true))⟩, ⟨(some 90), .eq false .pint (.t 89) (.c (.lit (.int .i64 0))), (some (82, true))⟩, ⟨(some 91), .pick (.t 82) (.t 90) (.c (.lit (.bool false))), none⟩, ⟨(some 2), .mov (.t 91), none⟩]) (
       .ret)) (
       .skip))))))))))) (
 .seq (
  .ops [⟨(some 92), .faddr 0 (.t 1), none⟩, ⟨(some 93), .load none (.t 92), none⟩, ⟨(some 94), .bin .geq (.t 93) (.c (.lit (.int .i64 0))), none⟩, ⟨(some 95), .mov (.t 94), none⟩, ⟨(some 96), .faddr 0 (.t 1), (some (95, true))⟩, ⟨(some 97), .load none (.t 96), (some (95, true))⟩, ⟨(some 98), .bin .leq (.t 97) (.c (.lit (.int .i64 6))), (some (95, true))⟩, ⟨(some 99), .pick (.t 95) (.t 98) (.c (.lit (.bool false))), none⟩, ⟨(some 100), .mov (.t 99), none⟩, ⟨(some 101), .faddr 2 (.t 1), (some (100, true))⟩, ⟨(some 102), .load none (.t 101), (some (100, true))⟩, ⟨(some 103), .eq false .pstr (.t 102) (.c (.lit (.string (mkS [])))), (some (100, true))⟩, ⟨(some 104), .pick (.t 100) (.t 103) (.c (.lit (.bool false))), none⟩, ⟨(some 105), .mov (.t 104), none⟩, ⟨(some 106), .faddr 3 (.t 1), (some (105, true))⟩, ⟨(some 107), .load none (.t 106), (some (105, true))⟩, ⟨(some 108), .len (.t 107), (some (105, true))⟩, ⟨(some 109), .faddr 4 (.t 1), (some (105, true))⟩, ⟨(some 110), .load none (.t 109), (some (105, true))⟩, ⟨(some 111), .len (.t 110), (some (105, true))⟩, ⟨(some 112), .bin .add (.t 108) (.t 111), (some (105, true))⟩, ⟨(some 113), .eq false .pint (.t 112) (.c (.lit (.int .i64 0))), (some (105, true))⟩, ⟨(some 114), .pick (.t 105) (.t 113) (.c (.lit (.bool false))), none⟩, ⟨(some 2), .mov (.t 114), none⟩]) (
 .ret)))), false⟩
end Go.Proofs.Eng
