import Derived.Test.YtfokealcfobnnaaM32
/- Templates of functions, as the engine takes them; numbers of functions and types by names. Printed by tm.py. -/
set_option linter.unusedVariables false
set_option maxRecDepth 100000
namespace Go.Proofs.Eng
open Go

def L_p_solve_Solver_Claim_1 (N : Nat → Nat) : AC :=
    .seq (
     .seq (
      .ops [⟨(some 51), .mov (.t 0), none⟩, ⟨(some 52), .nilchk (.t 51), none⟩, ⟨(some 53), .faddr 2 (.t 52), none⟩, ⟨(some 54), .load none (.t 53), none⟩, ⟨(some 55), .len (.t 54), none⟩, ⟨(some 56), .bin .gtr (.t 55) (.c (.lit (.int .i64 0))), none⟩]) (
     .cond (.t 56) (
      .skip) (
      .exit 1))) (
    .block 2 (
     .seq (
      .ops [⟨(some 57), .mov (.t 0), none⟩, ⟨(some 58), .nilchk (.t 57), none⟩, ⟨(some 59), .faddr 2 (.t 58), none⟩, ⟨(some 60), .load none (.t 59), none⟩, ⟨(some 61), .iaddr 2 (.t 60) (.c (.lit (.int .i64 0))), none⟩, ⟨(some 62), .load (some 2) (.t 61), none⟩, ⟨(some 7), .new (t_solve_claim N) (.agg [(.lit (.int .i64 0)), (.lit (.int .i64 0))]), none⟩, ⟨none, .store 2 (.t 7) (.t 62), none⟩]) (
     .seq (
      .ops [⟨(some 63), .mov (.t 0), none⟩, ⟨(some 64), .mov (.t 0), none⟩, ⟨(some 65), .nilchk (.t 64), none⟩, ⟨(some 66), .faddr 2 (.t 65), none⟩, ⟨(some 67), .load none (.t 66), none⟩, ⟨(some 68), .slice 2 (.t 67) (some (.c (.lit (.int .i64 1)))) none, none⟩, ⟨(some 69), .nilchk (.t 63), none⟩, ⟨(some 70), .faddr 2 (.t 69), none⟩, ⟨none, .store 1 (.t 70) (.t 68), none⟩]) (
     .seq (
      .ops [⟨(some 71), .mov (.t 0), none⟩, ⟨(some 72), .mov (.t 0), none⟩, ⟨(some 73), .load (some 2) (.t 7), none⟩, ⟨(some 74), .call (.c (.fn (f_p_solve_Solver_step N) [] [])) [(.t 72), (.t 73)], none⟩, ⟨(some 75), .nilchk (.t 71), none⟩, ⟨(some 76), .faddr 5 (.t 75), none⟩, ⟨none, .store 1 (.t 76) (.t 74), none⟩]) (
     .seq (
      .ops [⟨(some 77), .mov (.t 0), none⟩, ⟨(some 78), .nilchk (.t 77), none⟩, ⟨(some 79), .faddr 5 (.t 78), none⟩, ⟨(some 80), .load none (.t 79), none⟩, ⟨(some 81), .eq true .pint (.t 80) (.c (.lit (.int .i64 0))), none⟩]) (
     .cond (.t 81) (
      .seq (
       .ops [⟨(some 82), .mov (.t 0), none⟩, ⟨(some 83), .nilchk (.t 82), none⟩, ⟨(some 84), .faddr 5 (.t 83), none⟩, ⟨(some 85), .load none (.t 84), none⟩, ⟨(some 6), .mov (.t 85), none⟩]) (
      .ret)) (
      .skip)))))))
def K_p_solve_Solver_Claim_1 (N : Nat → Nat) : AC :=
 .seq (
  .ops [⟨(some 86), .mov (.t 0), none⟩, ⟨(some 87), .nilchk (.t 86), none⟩, ⟨(some 88), .faddr 4 (.t 87), none⟩, ⟨(some 89), .load none (.t 88), none⟩, ⟨(some 90), .bin .add (.t 89) (.c (.lit (.int .i64 1))), none⟩, ⟨(some 91), .nilchk (.t 86), none⟩, ⟨(some 92), .faddr 4 (.t 91), none⟩, ⟨none, .store 1 (.t 92) (.t 90), none⟩]) (
 .seq (
  .ops [⟨(some 6), .mov (.c (.lit (.int .i64 0))), none⟩]) (
 .ret))
/-- (*azimuth/solve.Solver).Claim -/
def C_p_solve_Solver_Claim (N : Nat → Nat) : AFunc := ⟨93, [.inl 6],
 .seq (
  .ops [⟨(some 6), .mov (.c (.lit (.int .i64 0))), none⟩]) (
 .seq (
  .block 0 (
   .seq (
    .ops [⟨(some 9), .mov (.t 0), none⟩, ⟨(some 10), .eq false .pptr (.t 9) (.c (.lit (.pointer none))), none⟩, ⟨(some 11), .mov (.t 10), none⟩, ⟨(some 12), .mov (.t 1), (some (11, false))⟩, ⟨(some 13), .bin .lss (.t 12) (.c (.lit (.int .i64 0))), (some (11, false))⟩, ⟨(some 14), .pick (.t 11) (.c (.lit (.bool true))) (.t 13), none⟩, ⟨(some 15), .mov (.t 14), none⟩, ⟨(some 16), .mov (.t 2), (some (15, false))⟩, ⟨(some 17), .bin .lss (.t 16) (.c (.lit (.int .i64 0))), (some (15, false))⟩, ⟨(some 18), .pick (.t 15) (.c (.lit (.bool true))) (.t 17), none⟩, ⟨(some 19), .mov (.t 18), none⟩, ⟨(some 20), .mov (.t 1), (some (19, false))⟩, ⟨(some 21), .mov (.t 0), (some (19, false))⟩, ⟨(some 22), .nilchk (.t 21), (some (19, false))⟩, ⟨(some 23), .faddr 0 (.t 22), (some (19, false))⟩, ⟨(some 24), .load none (.t 23), (some (19, false))⟩, ⟨(some 25), .call (.c (.fn (f_p_arena_Arena_Len N) [] [])) [(.t 24)], (some (19, false))⟩, ⟨(some 26), .bin .geq (.t 20) (.t 25), (some (19, false))⟩, ⟨(some 27), .pick (.t 19) (.c (.lit (.bool true))) (.t 26), none⟩, ⟨(some 28), .mov (.t 27), none⟩, ⟨(some 29), .mov (.t 2), (some (28, false))⟩, ⟨(some 30), .mov (.t 0), (some (28, false))⟩, ⟨(some 31), .nilchk (.t 30), (some (28, false))⟩, ⟨(some 32), .faddr 0 (.t 31), (some (28, false))⟩, ⟨(some 33), .load none (.t 32), (some (28, false))⟩, ⟨(some 34), .call (.c (.fn (f_p_arena_Arena_Len N) [] [])) [(.t 33)], (some (28, false))⟩, ⟨(some 35), .bin .geq (.t 29) (.t 34), (some (28, false))⟩, ⟨(some 36), .pick (.t 28) (.c (.lit (.bool true))) (.t 35), none⟩, ⟨(some 8), .mov (.t 36), none⟩]) (
   .cond (.t 8) (
    .seq (
     .ops [⟨(some 6), .mov (.c (.lit (.int .i64 1))), none⟩]) (
    .ret)) (
    .seq (
     .ops [⟨(some 38), .mov (.t 0), none⟩, ⟨(some 39), .nilchk (.t 38), none⟩, ⟨(some 40), .faddr 5 (.t 39), none⟩, ⟨(some 41), .load none (.t 40), none⟩, ⟨(some 42), .eq true .pint (.t 41) (.c (.lit (.int .i64 0))), none⟩, ⟨(some 37), .mov (.t 42), none⟩]) (
    .cond (.t 37) (
     .seq (
      .ops [⟨(some 43), .mov (.t 0), none⟩, ⟨(some 44), .nilchk (.t 43), none⟩, ⟨(some 45), .faddr 5 (.t 44), none⟩, ⟨(some 46), .load none (.t 45), none⟩, ⟨(some 6), .mov (.t 46), none⟩]) (
     .ret)) (
     .skip)))))) (
 .seq (
  .ops [⟨(some 47), .mov (.t 0), none⟩, ⟨(some 48), .mov (.t 1), none⟩, ⟨(some 49), .mov (.t 2), none⟩, ⟨(some 50), .call (.c (.fn (f_p_solve_Solver_ask N) [] [])) [(.t 47), (.t 48), (.t 49)], none⟩]) (
 .seq (
  .block 1 (
   .loop (L_p_solve_Solver_Claim_1 N))) (K_p_solve_Solver_Claim_1 N)))), false⟩

/-- (*azimuth/solve.Solver).Claims -/
def C_p_solve_Solver_Claims (N : Nat → Nat) : AFunc := ⟨9, [.inl 2],
 .seq (
  .ops [⟨(some 2), .mov (.c (.lit (.int .i64 0))), none⟩]) (
 .seq (
  .seq (
   .ops [⟨(some 3), .mov (.t 0), none⟩, ⟨(some 4), .eq false .pptr (.t 3) (.c (.lit (.pointer none))), none⟩]) (
  .cond (.t 4) (
   .seq (
    .ops [⟨(some 2), .mov (.c (.lit (.int .i64 0))), none⟩]) (
   .ret)) (
   .skip))) (
 .seq (
  .ops [⟨(some 5), .mov (.t 0), none⟩, ⟨(some 6), .nilchk (.t 5), none⟩, ⟨(some 7), .faddr 4 (.t 6), none⟩, ⟨(some 8), .load none (.t 7), none⟩, ⟨(some 2), .mov (.t 8), none⟩]) (
 .ret))), false⟩

/-- (*azimuth/solve.Solver).Clash -/
def C_p_solve_Solver_Clash (N : Nat → Nat) : AFunc := ⟨24, [.inl 2, .inl 3, .inl 4],
 .seq (
  .ops [⟨(some 2), .mov (.c (.lit (.int .i64 0))), none⟩, ⟨(some 3), .mov (.c (.lit (.int .i64 0))), none⟩, ⟨(some 4), .mov (.c (.lit (.bool false))), none⟩]) (
 .seq (
  .seq (
   .ops [⟨(some 5), .mov (.t 0), none⟩, ⟨(some 6), .eq false .pptr (.t 5) (.c (.lit (.pointer none))), none⟩, ⟨(some 7), .mov (.t 6), none⟩, ⟨(some 8), .mov (.t 0), (some (7, false))⟩, ⟨(some 9), .nilchk (.t 8), (some (7, false))⟩, ⟨(some 10), .faddr 5 (.t 9), (some (7, false))⟩, ⟨(some 11), .load none (.t 10), (some (7, false))⟩, ⟨(some 12), .eq true .pint (.t 11) (.c (.lit (.int .i64 10))), (some (7, false))⟩, ⟨(some 13), .pick (.t 7) (.c (.lit (.bool true))) (.t 12), none⟩]) (
  .cond (.t 13) (
   .seq (
    .ops [⟨(some 2), .mov (.c (.lit (.int .i64 0))), none⟩, ⟨(some 3), .mov (.c (.lit (.int .i64 0))), none⟩, ⟨(some 4), .mov (.c (.lit (.bool false))), none⟩]) (
   .ret)) (
   .skip))) (
 .seq (
  .dops 3 [⟨(some 14), .mov (.t 0), none⟩, ⟨(some 15), .nilchk (.t 14), none⟩, ⟨(some 16), .faddr 6 (.t 15), none⟩, ⟨(some 17), .faddr 0 (.t 16), none⟩, ⟨(some 18), .load none (.t 17), none⟩, ⟨(some 19), .mov (.t 0), none⟩, ⟨(some 20), .nilchk (.t 19), none⟩, ⟨(some 21), .faddr 6 (.t 20), none⟩, ⟨(some 22), .faddr 1 (.t 21), none⟩, ⟨(some 23), .load none (.t 22), none⟩, ⟨(some 2), .mov (.t 18), none⟩, ⟨(some 3), .mov (.t 23), none⟩, ⟨(some 4), .mov (.c (.lit (.bool true))), none⟩] [0, 0, 0, 0, 2, 0, 0, 0, 0, 2, 0, 0, 0] []) (
 .ret))), false⟩

/-- (*azimuth/solve.Solver).any -/
def C_p_solve_Solver_any (N : Nat → Nat) : AFunc := ⟨31, [.inl 2, .inl 3],
 .seq (
  .ops [⟨(some 2), .mov (.c (.lit (.int .i64 0))), none⟩, ⟨(some 3), .mov (.c (.lit (.int .i64 0))), none⟩]) (
 .seq (
  .seq (
   .ops [⟨(some 6), .mov (.t 0), none⟩, ⟨(some 7), .nilchk (.t 6), none⟩, ⟨(some 8), .faddr 3 (.t 7), none⟩, ⟨(some 9), .load none (.t 8), none⟩, ⟨(some 10), .bin .lss (.t 9) (.c (.lit (.int .i64 0))), none⟩]) (
  .cond (.t 10) (
   .seq (
    .ops [⟨(some 12), .mov (.t 0), none⟩, ⟨(some 13), .nilchk (.t 12), none⟩, ⟨(some 14), .faddr 0 (.t 13), none⟩, ⟨(some 15), .load none (.t 14), none⟩, ⟨(some 16), .build [(.lit (.int .i64 0)), (.lit (.slice none 0 0)), (.lit (.slice none 0 0)), (.lit (.bool false))] [(0, 1, (.c (.lit (.int .i64 5))))], none⟩, ⟨(some 17), .call (.c (.fn (f_p_arena_Arena_Head N) [] [])) [(.t 15), (.t 16)], none⟩, ⟨(some 11), .mov (.t 17), none⟩, ⟨(some 18), .extract (.t 11) 0, none⟩, ⟨(some 19), .extract (.t 11) 1, none⟩, ⟨(some 4), .mov (.t 18), none⟩, ⟨(some 5), .mov (.t 19), none⟩]) (
   .seq (
    .seq (
     .ops [⟨(some 20), .mov (.t 5), none⟩, ⟨(some 21), .eq true .pint (.t 20) (.c (.lit (.int .i64 0))), none⟩]) (
    .cond (.t 21) (
     .seq (
      .ops [⟨(some 22), .mov (.t 5), none⟩, ⟨(some 2), .mov (.c (.lit (.int .i64 0))), none⟩, ⟨(some 3), .mov (.t 22), none⟩]) (
     .ret)) (
     .skip))) (
   .ops [⟨(some 23), .mov (.t 0), none⟩, ⟨(some 24), .mov (.t 4), none⟩, ⟨(some 25), .nilchk (.t 23), none⟩, ⟨(some 26), .faddr 3 (.t 25), none⟩, ⟨none, .store 1 (.t 26) (.t 24), none⟩]))) (
   .skip))) (
 .seq (
  .ops [⟨(some 27), .mov (.t 0), none⟩, ⟨(some 28), .nilchk (.t 27), none⟩, ⟨(some 29), .faddr 3 (.t 28), none⟩, ⟨(some 30), .load none (.t 29), none⟩, ⟨(some 2), .mov (.t 30), none⟩, ⟨(some 3), .mov (.c (.lit (.int .i64 0))), none⟩]) (
 .ret))), false⟩

/-- (*azimuth/solve.Solver).ask -/
def C_p_solve_Solver_ask (N : Nat → Nat) : AFunc := ⟨37, [],
 .seq (
  .ops [⟨(some 7), .mov (.t 1), none⟩, ⟨(some 8), .mov (.t 2), none⟩, ⟨(some 9), .build [(.lit (.int .i64 0)), (.lit (.int .i64 0))] [(0, 1, (.t 7)), (1, 1, (.t 8))], none⟩, ⟨(some 6), .new (t_solve_claim N) (.agg [(.lit (.int .i64 0)), (.lit (.int .i64 0))]), none⟩, ⟨none, .store 2 (.t 6) (.t 9), none⟩]) (
 .seq (
  .dops 1 [⟨(some 10), .mov (.t 1), none⟩, ⟨(some 11), .mov (.t 2), none⟩, ⟨(some 12), .eq true .pint (.t 10) (.t 11), none⟩, ⟨(some 13), .mov (.t 12), none⟩, ⟨(some 14), .mov (.t 0), (some (13, true))⟩, ⟨(some 15), .nilchk (.t 14), (some (13, true))⟩, ⟨(some 16), .faddr 1 (.t 15), (some (13, true))⟩, ⟨(some 17), .load none (.t 16), (some (13, true))⟩, ⟨(some 18), .load (some 2) (.t 6), (some (13, true))⟩, ⟨(some 19), .lookup (.agg (.struct [(0, none, .pint), (1, none, .pint)])) (.lit (.bool false)) (.t 17) (.t 18) false, (some (13, true))⟩, ⟨(some 20), .un .not (.t 19), (some (13, true))⟩, ⟨(some 21), .pick (.t 13) (.t 20) (.c (.lit (.bool false))), none⟩] [0, 0, 0, 0, 0, 0, 0, 2, 2, 0, 0, 0] []) (
 .cond (.t 21) (
  .seq (
   .dops 2 [⟨(some 22), .mov (.t 0), none⟩, ⟨(some 23), .nilchk (.t 22), none⟩, ⟨(some 24), .faddr 1 (.t 23), none⟩, ⟨(some 25), .load none (.t 24), none⟩, ⟨(some 26), .load (some 2) (.t 6), none⟩, ⟨none, .mapupd (.agg (.struct [(0, none, .pint), (1, none, .pint)])) (.t 25) (.t 26) (.c (.lit (.bool true))), none⟩] [0, 0, 0, 2, 2, 0] []) (
  .dops 3 [⟨(some 27), .mov (.t 0), none⟩, ⟨(some 28), .mov (.t 0), none⟩, ⟨(some 29), .nilchk (.t 28), none⟩, ⟨(some 30), .faddr 2 (.t 29), none⟩, ⟨(some 31), .load none (.t 30), none⟩, ⟨(some 32), .load (some 2) (.t 6), none⟩, ⟨(some 33), .bslice (t_solve_claim N) 2 (some 2) 1 [(.lit (.int .i64 0)), (.lit (.int .i64 0))] [(0, 2, (.t 32))], none⟩, ⟨(some 34), .append (t_solve_claim N) 2 16 (.t 31) (.t 33), none⟩, ⟨(some 35), .nilchk (.t 27), none⟩, ⟨(some 36), .faddr 2 (.t 35), none⟩, ⟨none, .store 1 (.t 36) (.t 34), none⟩] [0, 0, 0, 0, 2, 2, 1, 0, 0, 0, 0] [])) (
  .skip))), false⟩

def L_p_solve_Solver_bind_1 (N : Nat → Nat) : AC :=
    .seq (
     .ops [⟨(some 72), .bin .lss (.t 71) (.t 70), none⟩]) (
    .seq (
     .cond (.t 72) (
      .skip) (
      .exit 0)) (
    .seq (
     .block 1 (
      .seq (
       .ops [⟨(some 73), .iaddr 1 (.t 69) (.t 71), none⟩, ⟨(some 74), .load none (.t 73), none⟩, ⟨(some 13), .mov (.t 74), none⟩]) (
      .seq (
       .ops [⟨(some 75), .mov (.t 3), none⟩]) (
      .cond (.t 75) (
       .ops [⟨(some 76), .mov (.t 0), none⟩, ⟨(some 77), .mov (.t 13), none⟩, ⟨(some 78), .mov (.t 2), none⟩, ⟨(some 79), .call (.c (.fn (f_p_solve_Solver_ask N) [] [])) [(.t 76), (.t 77), (.t 78)], none⟩]) (
       .ops [⟨(some 80), .mov (.t 0), none⟩, ⟨(some 81), .mov (.t 2), none⟩, ⟨(some 82), .mov (.t 13), none⟩, ⟨(some 83), .call (.c (.fn (f_p_solve_Solver_ask N) [] [])) [(.t 80), (.t 81), (.t 82)], none⟩]))))) (
    .ops [⟨(some 84), .bin .add (.t 71) (.c (.lit (.int .i64 1))), none⟩, ⟨(some 71), .mov (.t 84), none⟩])))
def K_p_solve_Solver_bind_1 (N : Nat → Nat) : AC :=
 .seq (
  .ops [⟨(some 8), .mov (.c (.lit (.int .i64 0))), none⟩]) (
 .ret)
/-- (*azimuth/solve.Solver).bind -/
def C_p_solve_Solver_bind (N : Nat → Nat) : AFunc := ⟨85, [.inl 8],
 .seq (
  .ops [⟨(some 8), .mov (.c (.lit (.int .i64 0))), none⟩]) (
 .seq (
  .seq (
   .dops 1 [⟨(some 14), .mov (.t 0), none⟩, ⟨(some 15), .nilchk (.t 14), none⟩, ⟨(some 16), .faddr 0 (.t 15), none⟩, ⟨(some 17), .load none (.t 16), none⟩, ⟨(some 18), .mov (.t 2), none⟩, ⟨(some 20), .mov (.t 0), none⟩, ⟨(some 21), .nilchk (.t 20), none⟩, ⟨(some 22), .faddr 0 (.t 21), none⟩, ⟨(some 23), .load none (.t 22), none⟩, ⟨(some 24), .mov (.t 1), none⟩, ⟨(some 19), .call (.c (.fn (f_p_arena_Arena_Level N) [] [])) [(.t 17), (.t 18)], none⟩, ⟨(some 25), .call (.c (.fn (f_p_arena_Arena_Level N) [] [])) [(.t 23), (.t 24)], none⟩, ⟨(some 26), .bin .gtr (.t 19) (.t 25), none⟩] [0, 0, 0, 2, 0, 0, 0, 0, 2, 0, 1, 0, 0] []) (
  .cond (.t 26) (
   .seq (
    .dops 2 [⟨(some 28), .mov (.t 0), none⟩, ⟨(some 29), .nilchk (.t 28), none⟩, ⟨(some 30), .faddr 0 (.t 29), none⟩, ⟨(some 31), .load none (.t 30), none⟩, ⟨(some 32), .mov (.t 2), none⟩, ⟨(some 33), .mov (.t 0), none⟩, ⟨(some 34), .nilchk (.t 33), none⟩, ⟨(some 35), .faddr 0 (.t 34), none⟩, ⟨(some 36), .load none (.t 35), none⟩, ⟨(some 37), .mov (.t 1), none⟩, ⟨(some 38), .call (.c (.fn (f_p_arena_Arena_Level N) [] [])) [(.t 36), (.t 37)], none⟩, ⟨(some 39), .mov (.t 3), none⟩, ⟨(some 40), .un .not (.t 39), none⟩, ⟨(some 41), .call (.c (.fn (f_solve_Raise N) [] [])) [(.t 31), (.t 32), (.t 38), (.t 40)], none⟩, ⟨(some 27), .mov (.t 41), none⟩, ⟨(some 42), .extract (.t 27) 0, none⟩, ⟨(some 43), .extract (.t 27) 1, none⟩, ⟨(some 9), .mov (.t 42), none⟩, ⟨(some 10), .mov (.t 43), none⟩] [0, 0, 0, 2, 0, 0, 0, 0, 2, 0, 1, 0, 0, 0, 0, 0, 0, 0, 0] []) (
   .seq (
    .seq (
     .ops [⟨(some 44), .mov (.t 10), none⟩, ⟨(some 45), .eq true .pint (.t 44) (.c (.lit (.int .i64 0))), none⟩]) (
    .cond (.t 45) (
     .seq (
      .ops [⟨(some 46), .mov (.t 10), none⟩, ⟨(some 8), .mov (.t 46), none⟩]) (
     .ret)) (
     .skip))) (
   .ops [⟨(some 47), .mov (.t 9), none⟩, ⟨(some 2), .mov (.t 47), none⟩]))) (
   .skip))) (
 .seq (
  .ops [⟨(some 48), .mov (.t 0), none⟩, ⟨(some 49), .nilchk (.t 48), none⟩, ⟨(some 50), .faddr 0 (.t 49), none⟩, ⟨(some 51), .load none (.t 50), none⟩, ⟨(some 52), .mov (.t 1), none⟩, ⟨(some 53), .mov (.t 2), none⟩, ⟨(some 54), .mov (.t 3), none⟩, ⟨(some 55), .call (.c (.fn (f_p_arena_Arena_Bound N) [] [])) [(.t 51), (.t 52), (.t 53), (.t 54)], none⟩]) (
 .seq (
  .ops [⟨(some 56), .mov (.t 0), none⟩, ⟨(some 57), .nilchk (.t 56), none⟩, ⟨(some 58), .faddr 0 (.t 57), none⟩, ⟨(some 59), .load none (.t 58), none⟩, ⟨(some 60), .mov (.t 1), none⟩, ⟨(some 61), .call (.c (.fn (f_p_arena_Arena_High N) [] [])) [(.t 59), (.t 60)], none⟩, ⟨(some 11), .mov (.t 61), none⟩]) (
 .seq (
  .seq (
   .ops [⟨(some 62), .mov (.t 3), none⟩]) (
  .cond (.t 62) (
   .ops [⟨(some 63), .mov (.t 0), none⟩, ⟨(some 64), .nilchk (.t 63), none⟩, ⟨(some 65), .faddr 0 (.t 64), none⟩, ⟨(some 66), .load none (.t 65), none⟩, ⟨(some 67), .mov (.t 1), none⟩, ⟨(some 68), .call (.c (.fn (f_p_arena_Arena_Low N) [] [])) [(.t 66), (.t 67)], none⟩, ⟨(some 11), .mov (.t 68), none⟩]) (
   .skip))) (
 .seq (
  .seq (
   .ops [⟨(some 69), .mov (.t 11), none⟩, ⟨(some 70), .len (.t 69), none⟩, ⟨(some 71), .mov (.c (.lit (.int .i64 0))), none⟩]) (
  .block 0 (
   .loop (L_p_solve_Solver_bind_1 N)))) (K_p_solve_Solver_bind_1 N)))))), false⟩

def L_p_solve_Solver_heads_1 (N : Nat → Nat) : AC :=
          .seq (
           .ops [⟨(some 65), .bin .lss (.t 64) (.t 63), none⟩]) (
          .seq (
           .cond (.t 65) (
            .skip) (
            .exit 1)) (
          .seq (
           .block 2 (
            .seq (
             .ops [⟨(some 66), .mov (.t 64), none⟩, ⟨(some 67), .iaddr 1 (.t 62) (.t 64), none⟩, ⟨(some 68), .load none (.t 67), none⟩, ⟨(some 7), .mov (.t 66), none⟩, ⟨(some 8), .mov (.t 68), none⟩]) (
            .seq (
             .ops [⟨(some 69), .load (some 4) (.t 4), none⟩, ⟨(some 70), .mov (.t 8), none⟩, ⟨(some 71), .call (.c (.fn (f_solve_kid N) [] [])) [(.t 69), (.t 70)], none⟩, ⟨(some 9), .mov (.t 71), none⟩]) (
            .seq (
             .seq (
              .ops [⟨(some 72), .mov (.t 9), none⟩, ⟨(some 73), .bin .lss (.t 72) (.c (.lit (.int .i64 0))), none⟩]) (
             .cond (.t 73) (
              .seq (
               .ops [⟨(some 6), .mov (.c (.lit (.int .i64 10))), none⟩]) (
              .ret)) (
              .skip))) (
            .ops [⟨(some 74), .mov (.t 0), none⟩, ⟨(some 75), .mov (.t 9), none⟩, ⟨(some 76), .faddr 2 (.t 5), none⟩, ⟨(some 77), .load none (.t 76), none⟩, ⟨(some 78), .mov (.t 7), none⟩, ⟨(some 79), .iaddr 1 (.t 77) (.t 78), none⟩, ⟨(some 80), .load none (.t 79), none⟩, ⟨(some 81), .call (.c (.fn (f_p_solve_Solver_ask N) [] [])) [(.t 74), (.t 75), (.t 80)], none⟩]))))) (
          .ops [⟨(some 82), .bin .add (.t 64) (.c (.lit (.int .i64 1))), none⟩, ⟨(some 64), .mov (.t 82), none⟩])))
def K_p_solve_Solver_heads_1 (N : Nat → Nat) : AC :=
 .seq (
  .ops [⟨(some 6), .mov (.c (.lit (.int .i64 0))), none⟩]) (
 .ret)
/-- (*azimuth/solve.Solver).heads -/
def C_p_solve_Solver_heads (N : Nat → Nat) : AFunc := ⟨83, [.inl 6],
 .seq (
  .ops [⟨(some 4), .box (t_api_Head N) (.t 1), none⟩, ⟨(some 5), .box (t_api_Head N) (.t 2), none⟩, ⟨(some 6), .mov (.c (.lit (.int .i64 0))), none⟩]) (
 .seq (
  .block 0 (
   .seq (
    .ops [⟨(some 11), .faddr 0 (.t 4), none⟩, ⟨(some 12), .load none (.t 11), none⟩, ⟨(some 13), .eq false .pint (.t 12) (.c (.lit (.int .i64 6))), none⟩, ⟨(some 14), .mov (.t 13), none⟩, ⟨(some 15), .faddr 0 (.t 5), (some (14, false))⟩, ⟨(some 16), .load none (.t 15), (some (14, false))⟩, ⟨(some 17), .eq false .pint (.t 16) (.c (.lit (.int .i64 5))), (some (14, false))⟩, ⟨(some 18), .pick (.t 14) (.c (.lit (.bool true))) (.t 17), none⟩, ⟨(some 10), .mov (.t 18), none⟩]) (
   .cond (.t 10) (
    .seq (
     .ops [⟨(some 6), .mov (.c (.lit (.int .i64 0))), none⟩]) (
    .ret)) (
    .seq (
     .ops [⟨(some 20), .faddr 0 (.t 4), none⟩, ⟨(some 21), .load none (.t 20), none⟩, ⟨(some 22), .faddr 0 (.t 5), none⟩, ⟨(some 23), .load none (.t 22), none⟩, ⟨(some 24), .eq true .pint (.t 21) (.t 23), none⟩, ⟨(some 19), .mov (.t 24), none⟩]) (
    .cond (.t 19) (
     .seq (
      .ops [⟨(some 6), .mov (.c (.lit (.int .i64 10))), none⟩]) (
     .ret)) (
     .seq (
      .ops [⟨(some 26), .faddr 0 (.t 4), none⟩, ⟨(some 27), .load none (.t 26), none⟩, ⟨(some 28), .eq false .pint (.t 27) (.c (.lit (.int .i64 7))), none⟩, ⟨(some 25), .mov (.t 28), none⟩]) (
     .cond (.t 25) (
      .seq (
       .dops 6 [⟨(some 29), .mov (.t 0), none⟩, ⟨(some 30), .faddr 2 (.t 5), none⟩, ⟨(some 31), .load none (.t 30), none⟩, ⟨(some 32), .iaddr 1 (.t 31) (.c (.lit (.int .i64 0))), none⟩, ⟨(some 33), .load none (.t 32), none⟩, ⟨(some 34), .faddr 2 (.t 4), none⟩, ⟨(some 35), .load none (.t 34), none⟩, ⟨(some 36), .iaddr 1 (.t 35) (.c (.lit (.int .i64 0))), none⟩, ⟨(some 37), .load none (.t 36), none⟩, ⟨(some 38), .call (.c (.fn (f_p_solve_Solver_ask N) [] [])) [(.t 29), (.t 33), (.t 37)], none⟩] [0, 0, 2, 0, 2, 0, 2, 0, 2, 0] []) (
      .dops 7 [⟨(some 39), .mov (.t 0), none⟩, ⟨(some 40), .faddr 2 (.t 4), none⟩, ⟨(some 41), .load none (.t 40), none⟩, ⟨(some 42), .iaddr 1 (.t 41) (.c (.lit (.int .i64 1))), none⟩, ⟨(some 43), .load none (.t 42), none⟩, ⟨(some 44), .faddr 2 (.t 5), none⟩, ⟨(some 45), .load none (.t 44), none⟩, ⟨(some 46), .iaddr 1 (.t 45) (.c (.lit (.int .i64 1))), none⟩, ⟨(some 47), .load none (.t 46), none⟩, ⟨(some 48), .call (.c (.fn (f_p_solve_Solver_ask N) [] [])) [(.t 39), (.t 43), (.t 47)], none⟩] [0, 0, 2, 0, 2, 0, 2, 0, 2, 0] [])) (
      .seq (
       .ops [⟨(some 50), .faddr 0 (.t 4), none⟩, ⟨(some 51), .load none (.t 50), none⟩, ⟨(some 52), .eq false .pint (.t 51) (.c (.lit (.int .i64 9))), none⟩, ⟨(some 49), .mov (.t 52), none⟩]) (
      .cond (.t 49) (
       .seq (
        .ops [⟨(some 53), .mov (.t 0), none⟩, ⟨(some 54), .load (some 4) (.t 4), none⟩, ⟨(some 55), .load (some 4) (.t 5), none⟩, ⟨(some 56), .call (.c (.fn (f_p_solve_Solver_variants N) [] [])) [(.t 53), (.t 54), (.t 55)], none⟩, ⟨(some 6), .mov (.t 56), none⟩]) (
       .ret)) (
       .seq (
        .ops [⟨(some 58), .faddr 0 (.t 4), none⟩, ⟨(some 59), .load none (.t 58), none⟩, ⟨(some 60), .eq false .pint (.t 59) (.c (.lit (.int .i64 8))), none⟩, ⟨(some 57), .mov (.t 60), none⟩]) (
       .cond (.t 57) (
        .seq (
         .ops [⟨(some 61), .faddr 1 (.t 5), none⟩, ⟨(some 62), .load none (.t 61), none⟩, ⟨(some 63), .len (.t 62), none⟩, ⟨(some 64), .mov (.c (.lit (.int .i64 0))), none⟩]) (
        .block 1 (
         .loop (L_p_solve_Solver_heads_1 N)))) (
        .skip)))))))))))) (K_p_solve_Solver_heads_1 N)), false⟩

/-- (*azimuth/solve.Solver).step -/
def C_p_solve_Solver_step (N : Nat → Nat) : AFunc := ⟨94, [.inl 4],
 .seq (
  .ops [⟨(some 3), .box (t_solve_claim N) (.t 1), none⟩, ⟨(some 4), .mov (.c (.lit (.int .i64 0))), none⟩]) (
 .seq (
  .dops 1 [⟨(some 12), .mov (.t 0), none⟩, ⟨(some 13), .nilchk (.t 12), none⟩, ⟨(some 14), .faddr 0 (.t 13), none⟩, ⟨(some 15), .load none (.t 14), none⟩, ⟨(some 16), .faddr 0 (.t 3), none⟩, ⟨(some 17), .load none (.t 16), none⟩, ⟨(some 19), .mov (.t 0), none⟩, ⟨(some 20), .nilchk (.t 19), none⟩, ⟨(some 21), .faddr 0 (.t 20), none⟩, ⟨(some 22), .load none (.t 21), none⟩, ⟨(some 23), .faddr 1 (.t 3), none⟩, ⟨(some 24), .load none (.t 23), none⟩, ⟨(some 18), .call (.c (.fn (f_p_arena_Arena_IsVar N) [] [])) [(.t 15), (.t 17)], none⟩, ⟨(some 25), .call (.c (.fn (f_p_arena_Arena_IsVar N) [] [])) [(.t 22), (.t 24)], none⟩, ⟨(some 5), .mov (.t 18), none⟩, ⟨(some 6), .mov (.t 25), none⟩] [0, 0, 0, 2, 0, 2, 0, 0, 0, 2, 0, 2, 1, 0, 0, 0] []) (
 .seq (
  .block 0 (
   .seq (
    .dops 2 [⟨(some 27), .mov (.t 5), none⟩, ⟨(some 28), .mov (.t 27), none⟩, ⟨(some 29), .mov (.t 6), (some (28, true))⟩, ⟨(some 30), .un .not (.t 29), (some (28, true))⟩, ⟨(some 31), .mov (.t 30), (some (28, true))⟩, ⟨(some 32), .mov (.t 0), (some (31, false))⟩, ⟨(some 33), .nilchk (.t 32), (some (31, false))⟩, ⟨(some 34), .faddr 0 (.t 33), (some (31, false))⟩, ⟨(some 35), .load none (.t 34), (some (31, false))⟩, ⟨(some 36), .faddr 1 (.t 3), (some (31, false))⟩, ⟨(some 37), .load none (.t 36), (some (31, false))⟩, ⟨(some 39), .mov (.t 0), (some (31, false))⟩, ⟨(some 40), .nilchk (.t 39), (some (31, false))⟩, ⟨(some 41), .faddr 0 (.t 40), (some (31, false))⟩, ⟨(some 42), .load none (.t 41), (some (31, false))⟩, ⟨(some 43), .faddr 0 (.t 3), (some (31, false))⟩, ⟨(some 44), .load none (.t 43), (some (31, false))⟩, ⟨(some 38), .call (.c (.fn (f_p_arena_Arena_Level N) [] [])) [(.t 35), (.t 37)], (some (31, false))⟩, ⟨(some 45), .call (.c (.fn (f_p_arena_Arena_Level N) [] [])) [(.t 42), (.t 44)], (some (31, false))⟩, ⟨(some 46), .bin .leq (.t 38) (.t 45), (some (31, false))⟩, ⟨(some 47), .pick (.t 31) (.c (.lit (.bool true))) (.t 46), (some (28, true))⟩, ⟨(some 48), .pick (.t 28) (.t 47) (.c (.lit (.bool false))), none⟩, ⟨(some 26), .mov (.t 48), none⟩] [0, 0, 0, 0, 0, 0, 0, 0, 2, 0, 2, 0, 0, 0, 2, 0, 2, 1, 0, 0, 0, 0, 0] []) (
   .cond (.t 26) (
    .seq (
     .ops [⟨(some 49), .mov (.t 0), none⟩, ⟨(some 50), .faddr 0 (.t 3), none⟩, ⟨(some 51), .load none (.t 50), none⟩, ⟨(some 52), .faddr 1 (.t 3), none⟩, ⟨(some 53), .load none (.t 52), none⟩, ⟨(some 54), .call (.c (.fn (f_p_solve_Solver_bind N) [] [])) [(.t 49), (.t 51), (.t 53), (.c (.lit (.bool true)))], none⟩, ⟨(some 4), .mov (.t 54), none⟩]) (
    .ret)) (
    .seq (
     .ops [⟨(some 56), .mov (.t 6), none⟩, ⟨(some 55), .mov (.t 56), none⟩]) (
    .cond (.t 55) (
     .seq (
      .ops [⟨(some 57), .mov (.t 0), none⟩, ⟨(some 58), .faddr 1 (.t 3), none⟩, ⟨(some 59), .load none (.t 58), none⟩, ⟨(some 60), .faddr 0 (.t 3), none⟩, ⟨(some 61), .load none (.t 60), none⟩, ⟨(some 62), .call (.c (.fn (f_p_solve_Solver_bind N) [] [])) [(.t 57), (.t 59), (.t 61), (.c (.lit (.bool false)))], none⟩, ⟨(some 4), .mov (.t 62), none⟩]) (
     .ret)) (
     .skip)))))) (
 .seq (
  .dops 6 [⟨(some 64), .mov (.t 0), none⟩, ⟨(some 65), .nilchk (.t 64), none⟩, ⟨(some 66), .faddr 0 (.t 65), none⟩, ⟨(some 67), .load none (.t 66), none⟩, ⟨(some 68), .faddr 0 (.t 3), none⟩, ⟨(some 69), .load none (.t 68), none⟩, ⟨(some 70), .call (.c (.fn (f_p_arena_Arena_At N) [] [])) [(.t 67), (.t 69)], none⟩, ⟨(some 63), .mov (.t 70), none⟩, ⟨(some 71), .extract (.t 63) 0, none⟩, ⟨(some 72), .extract (.t 63) 1, none⟩, ⟨(some 7), .new (t_api_Head N) (.agg [(.lit (.int .i64 0)), (.lit (.slice none 0 0)), (.lit (.slice none 0 0)), (.lit (.bool false))]), none⟩, ⟨none, .store 4 (.t 7) (.t 71), none⟩, ⟨(some 8), .mov (.t 72), none⟩] [0, 0, 0, 2, 0, 2, 0, 0, 0, 0, 1, 0, 0] []) (
 .seq (
  .dops 7 [⟨(some 74), .mov (.t 0), none⟩, ⟨(some 75), .nilchk (.t 74), none⟩, ⟨(some 76), .faddr 0 (.t 75), none⟩, ⟨(some 77), .load none (.t 76), none⟩, ⟨(some 78), .faddr 1 (.t 3), none⟩, ⟨(some 79), .load none (.t 78), none⟩, ⟨(some 80), .call (.c (.fn (f_p_arena_Arena_At N) [] [])) [(.t 77), (.t 79)], none⟩, ⟨(some 73), .mov (.t 80), none⟩, ⟨(some 81), .extract (.t 73) 0, none⟩, ⟨(some 82), .extract (.t 73) 1, none⟩, ⟨(some 9), .new (t_api_Head N) (.agg [(.lit (.int .i64 0)), (.lit (.slice none 0 0)), (.lit (.slice none 0 0)), (.lit (.bool false))]), none⟩, ⟨none, .store 4 (.t 9) (.t 81), none⟩, ⟨(some 10), .mov (.t 82), none⟩] [0, 0, 0, 2, 0, 2, 0, 0, 0, 0, 1, 0, 0] []) (
 .seq (
  .ops [⟨(some 83), .mov (.t 0), none⟩, ⟨(some 84), .load (some 4) (.t 7), none⟩, ⟨(some 85), .load (some 4) (.t 9), none⟩, ⟨(some 86), .call (.c (.fn (f_p_solve_Solver_heads N) [] [])) [(.t 83), (.t 84), (.t 85)], none⟩, ⟨(some 11), .mov (.t 86), none⟩]) (
 .seq (
  .seq (
   .ops [⟨(some 87), .mov (.t 11), none⟩, ⟨(some 88), .eq false .pint (.t 87) (.c (.lit (.int .i64 10))), none⟩]) (
  .cond (.t 88) (
   .ops [⟨(some 89), .mov (.t 0), none⟩, ⟨(some 90), .load (some 2) (.t 3), none⟩, ⟨(some 91), .nilchk (.t 89), none⟩, ⟨(some 92), .faddr 6 (.t 91), none⟩, ⟨none, .store 2 (.t 92) (.t 90), none⟩]) (
   .skip))) (
 .seq (
  .ops [⟨(some 93), .mov (.t 11), none⟩, ⟨(some 4), .mov (.t 93), none⟩]) (
 .ret)))))))), false⟩

def L_p_solve_Solver_variants_1 (N : Nat → Nat) : AC :=
    .seq (
     .ops [⟨(some 25), .bin .lss (.t 24) (.t 23), none⟩]) (
    .seq (
     .cond (.t 25) (
      .skip) (
      .exit 0)) (
    .seq (
     .block 1 (
      .seq (
       .ops [⟨(some 26), .mov (.t 24), none⟩, ⟨(some 27), .iaddr 1 (.t 22) (.t 24), none⟩, ⟨(some 28), .load none (.t 27), none⟩, ⟨(some 7), .mov (.t 26), none⟩, ⟨(some 8), .mov (.t 28), none⟩]) (
      .seq (
       .ops [⟨(some 29), .load (some 4) (.t 5), none⟩, ⟨(some 30), .mov (.t 8), none⟩, ⟨(some 31), .call (.c (.fn (f_solve_kid N) [] [])) [(.t 29), (.t 30)], none⟩, ⟨(some 9), .mov (.t 31), none⟩]) (
      .seq (
       .seq (
        .ops [⟨(some 32), .mov (.t 9), none⟩, ⟨(some 33), .bin .lss (.t 32) (.c (.lit (.int .i64 0))), none⟩, ⟨(some 34), .mov (.t 33), none⟩, ⟨(some 35), .faddr 3 (.t 5), (some (34, true))⟩, ⟨(some 36), .load none (.t 35), (some (34, true))⟩, ⟨(some 37), .un .not (.t 36), (some (34, true))⟩, ⟨(some 38), .pick (.t 34) (.t 37) (.c (.lit (.bool false))), none⟩]) (
       .cond (.t 38) (
        .seq (
         .ops [⟨(some 6), .mov (.c (.lit (.int .i64 10))), none⟩]) (
        .ret)) (
        .skip))) (
      .seq (
       .ops [⟨(some 39), .mov (.t 9), none⟩, ⟨(some 40), .bin .geq (.t 39) (.c (.lit (.int .i64 0))), none⟩]) (
      .cond (.t 40) (
       .ops [⟨(some 41), .mov (.t 0), none⟩, ⟨(some 42), .faddr 2 (.t 4), none⟩, ⟨(some 43), .load none (.t 42), none⟩, ⟨(some 44), .mov (.t 7), none⟩, ⟨(some 45), .iaddr 1 (.t 43) (.t 44), none⟩, ⟨(some 46), .load none (.t 45), none⟩, ⟨(some 47), .mov (.t 9), none⟩, ⟨(some 48), .call (.c (.fn (f_p_solve_Solver_ask N) [] [])) [(.t 41), (.t 46), (.t 47)], none⟩]) (
       .skip))))))) (
    .ops [⟨(some 49), .bin .add (.t 24) (.c (.lit (.int .i64 1))), none⟩, ⟨(some 24), .mov (.t 49), none⟩])))
def L_p_solve_Solver_variants_2 (N : Nat → Nat) : AC :=
    .seq (
     .ops [⟨(some 54), .bin .lss (.t 53) (.t 52), none⟩]) (
    .seq (
     .cond (.t 54) (
      .skip) (
      .exit 2)) (
    .seq (
     .block 3 (
      .seq (
       .ops [⟨(some 55), .mov (.t 53), none⟩, ⟨(some 56), .iaddr 1 (.t 51) (.t 53), none⟩, ⟨(some 57), .load none (.t 56), none⟩, ⟨(some 10), .mov (.t 55), none⟩, ⟨(some 11), .mov (.t 57), none⟩]) (
      .seq (
       .seq (
        .ops [⟨(some 58), .faddr 3 (.t 4), none⟩, ⟨(some 59), .load none (.t 58), none⟩, ⟨(some 60), .un .not (.t 59), none⟩, ⟨(some 61), .mov (.t 60), none⟩, ⟨(some 62), .load (some 4) (.t 4), (some (61, false))⟩, ⟨(some 63), .mov (.t 11), (some (61, false))⟩, ⟨(some 64), .call (.c (.fn (f_solve_kid N) [] [])) [(.t 62), (.t 63)], (some (61, false))⟩, ⟨(some 65), .bin .geq (.t 64) (.c (.lit (.int .i64 0))), (some (61, false))⟩, ⟨(some 66), .pick (.t 61) (.c (.lit (.bool true))) (.t 65), none⟩]) (
       .cond (.t 66) (
        .exit 3) (
        .skip))) (
      .seq (
       .ops [⟨(some 68), .mov (.t 0), none⟩, ⟨(some 69), .call (.c (.fn (f_p_solve_Solver_any N) [] [])) [(.t 68)], none⟩, ⟨(some 67), .mov (.t 69), none⟩, ⟨(some 70), .extract (.t 67) 0, none⟩, ⟨(some 71), .extract (.t 67) 1, none⟩, ⟨(some 12), .mov (.t 70), none⟩, ⟨(some 13), .mov (.t 71), none⟩]) (
      .seq (
       .seq (
        .ops [⟨(some 72), .mov (.t 13), none⟩, ⟨(some 73), .eq true .pint (.t 72) (.c (.lit (.int .i64 0))), none⟩]) (
       .cond (.t 73) (
        .seq (
         .ops [⟨(some 74), .mov (.t 13), none⟩, ⟨(some 6), .mov (.t 74), none⟩]) (
        .ret)) (
        .skip))) (
      .ops [⟨(some 75), .mov (.t 0), none⟩, ⟨(some 76), .mov (.t 12), none⟩, ⟨(some 77), .faddr 2 (.t 5), none⟩, ⟨(some 78), .load none (.t 77), none⟩, ⟨(some 79), .mov (.t 10), none⟩, ⟨(some 80), .iaddr 1 (.t 78) (.t 79), none⟩, ⟨(some 81), .load none (.t 80), none⟩, ⟨(some 82), .call (.c (.fn (f_p_solve_Solver_ask N) [] [])) [(.t 75), (.t 76), (.t 81)], none⟩])))))) (
    .ops [⟨(some 83), .bin .add (.t 53) (.c (.lit (.int .i64 1))), none⟩, ⟨(some 53), .mov (.t 83), none⟩])))
def K_p_solve_Solver_variants_2 (N : Nat → Nat) : AC :=
 .seq (
  .ops [⟨(some 6), .mov (.c (.lit (.int .i64 0))), none⟩]) (
 .ret)
def K_p_solve_Solver_variants_1 (N : Nat → Nat) : AC :=
 .seq (
  .seq (
   .ops [⟨(some 50), .faddr 1 (.t 5), none⟩, ⟨(some 51), .load none (.t 50), none⟩, ⟨(some 52), .len (.t 51), none⟩, ⟨(some 53), .mov (.c (.lit (.int .i64 0))), none⟩]) (
  .block 2 (
   .loop (L_p_solve_Solver_variants_2 N)))) (K_p_solve_Solver_variants_2 N)
/-- (*azimuth/solve.Solver).variants -/
def C_p_solve_Solver_variants (N : Nat → Nat) : AFunc := ⟨84, [.inl 6],
 .seq (
  .ops [⟨(some 4), .box (t_api_Head N) (.t 1), none⟩, ⟨(some 5), .box (t_api_Head N) (.t 2), none⟩, ⟨(some 6), .mov (.c (.lit (.int .i64 0))), none⟩]) (
 .seq (
  .seq (
   .ops [⟨(some 14), .faddr 3 (.t 4), none⟩, ⟨(some 15), .load none (.t 14), none⟩, ⟨(some 16), .mov (.t 15), none⟩, ⟨(some 17), .faddr 3 (.t 5), (some (16, true))⟩, ⟨(some 18), .load none (.t 17), (some (16, true))⟩, ⟨(some 19), .un .not (.t 18), (some (16, true))⟩, ⟨(some 20), .pick (.t 16) (.t 19) (.c (.lit (.bool false))), none⟩]) (
  .cond (.t 20) (
   .seq (
    .ops [⟨(some 6), .mov (.c (.lit (.int .i64 10))), none⟩]) (
   .ret)) (
   .skip))) (
 .seq (
  .seq (
   .ops [⟨(some 21), .faddr 1 (.t 4), none⟩, ⟨(some 22), .load none (.t 21), none⟩, ⟨(some 23), .len (.t 22), none⟩, ⟨(some 24), .mov (.c (.lit (.int .i64 0))), none⟩]) (
  .block 0 (
   .loop (L_p_solve_Solver_variants_1 N)))) (K_p_solve_Solver_variants_1 N))), false⟩

def L_p_solve_raiser_part_1 (N : Nat → Nat) : AC :=
    .seq (
     .ops [⟨(some 51), .bin .lss (.t 50) (.t 49), none⟩]) (
    .seq (
     .cond (.t 51) (
      .skip) (
      .exit 0)) (
    .seq (
     .block 1 (
      .seq (
       .ops [⟨(some 52), .mov (.t 50), none⟩, ⟨(some 53), .iaddr 1 (.t 48) (.t 50), none⟩, ⟨(some 54), .load none (.t 53), none⟩, ⟨(some 10), .mov (.t 52), none⟩, ⟨(some 11), .mov (.t 54), none⟩]) (
      .seq (
       .ops [⟨(some 56), .mov (.t 0), none⟩, ⟨(some 57), .mov (.t 11), none⟩, ⟨(some 58), .mov (.t 2), none⟩, ⟨(some 59), .faddr 0 (.t 8), none⟩, ⟨(some 60), .load none (.t 59), none⟩, ⟨(some 61), .eq false .pint (.t 60) (.c (.lit (.int .i64 7))), none⟩, ⟨(some 62), .mov (.t 61), none⟩, ⟨(some 63), .mov (.t 10), (some (62, true))⟩, ⟨(some 64), .eq false .pint (.t 63) (.c (.lit (.int .i64 0))), (some (62, true))⟩, ⟨(some 65), .pick (.t 62) (.t 64) (.c (.lit (.bool false))), none⟩, ⟨(some 66), .eq true .pbool (.t 58) (.t 65), none⟩, ⟨(some 67), .call (.c (.fn (f_p_solve_raiser_part N) [] [])) [(.t 56), (.t 57), (.t 66)], none⟩, ⟨(some 55), .mov (.t 67), none⟩, ⟨(some 68), .extract (.t 55) 0, none⟩, ⟨(some 69), .extract (.t 55) 1, none⟩, ⟨(some 12), .mov (.t 68), none⟩, ⟨(some 13), .mov (.t 69), none⟩]) (
      .seq (
       .seq (
        .ops [⟨(some 70), .mov (.t 13), none⟩, ⟨(some 71), .eq true .pint (.t 70) (.c (.lit (.int .i64 0))), none⟩]) (
       .cond (.t 71) (
        .seq (
         .ops [⟨(some 72), .mov (.t 13), none⟩, ⟨(some 6), .mov (.c (.lit (.int .i64 0))), none⟩, ⟨(some 7), .mov (.t 72), none⟩]) (
        .ret)) (
        .skip))) (
      .ops [⟨(some 73), .faddr 2 (.t 8), none⟩, ⟨(some 74), .load none (.t 73), none⟩, ⟨(some 75), .mov (.t 10), none⟩, ⟨(some 76), .mov (.t 12), none⟩, ⟨(some 77), .iaddr 1 (.t 74) (.t 75), none⟩, ⟨none, .store 1 (.t 77) (.t 76), none⟩]))))) (
    .ops [⟨(some 78), .bin .add (.t 50) (.c (.lit (.int .i64 1))), none⟩, ⟨(some 50), .mov (.t 78), none⟩])))
def K_p_solve_raiser_part_1 (N : Nat → Nat) : AC :=
 .seq (
  .dops 14 [⟨(some 79), .mov (.t 0), none⟩, ⟨(some 80), .nilchk (.t 79), none⟩, ⟨(some 81), .faddr 0 (.t 80), none⟩, ⟨(some 82), .load none (.t 81), none⟩, ⟨(some 83), .load (some 4) (.t 8), none⟩, ⟨(some 84), .call (.c (.fn (f_p_arena_Arena_Head N) [] [])) [(.t 82), (.t 83)], none⟩, ⟨(some 85), .extract (.t 84) 0, none⟩, ⟨(some 86), .extract (.t 84) 1, none⟩, ⟨(some 6), .mov (.t 85), none⟩, ⟨(some 7), .mov (.t 86), none⟩] [0, 0, 0, 2, 2, 0, 0, 0, 0, 0] []) (
 .ret)
/-- (*azimuth/solve.raiser).part -/
def C_p_solve_raiser_part (N : Nat → Nat) : AFunc := ⟨87, [.inl 6, .inl 7],
 .seq (
  .ops [⟨(some 6), .mov (.c (.lit (.int .i64 0))), none⟩, ⟨(some 7), .mov (.c (.lit (.int .i64 0))), none⟩]) (
 .seq (
  .seq (
   .dops 1 [⟨(some 14), .mov (.t 0), none⟩, ⟨(some 15), .nilchk (.t 14), none⟩, ⟨(some 16), .faddr 0 (.t 15), none⟩, ⟨(some 17), .load none (.t 16), none⟩, ⟨(some 18), .mov (.t 1), none⟩, ⟨(some 20), .mov (.t 0), none⟩, ⟨(some 21), .nilchk (.t 20), none⟩, ⟨(some 22), .faddr 1 (.t 21), none⟩, ⟨(some 23), .load none (.t 22), none⟩, ⟨(some 19), .call (.c (.fn (f_p_arena_Arena_Level N) [] [])) [(.t 17), (.t 18)], none⟩, ⟨(some 24), .bin .leq (.t 19) (.t 23), none⟩] [0, 0, 0, 2, 0, 0, 0, 0, 2, 1, 0] []) (
  .cond (.t 24) (
   .seq (
    .ops [⟨(some 25), .mov (.t 1), none⟩, ⟨(some 6), .mov (.t 25), none⟩, ⟨(some 7), .mov (.c (.lit (.int .i64 0))), none⟩]) (
   .ret)) (
   .skip))) (
 .seq (
  .seq (
   .ops [⟨(some 26), .mov (.t 0), none⟩, ⟨(some 27), .nilchk (.t 26), none⟩, ⟨(some 28), .faddr 0 (.t 27), none⟩, ⟨(some 29), .load none (.t 28), none⟩, ⟨(some 30), .mov (.t 1), none⟩, ⟨(some 31), .call (.c (.fn (f_p_arena_Arena_IsVar N) [] [])) [(.t 29), (.t 30)], none⟩]) (
  .cond (.t 31) (
   .seq (
    .ops [⟨(some 32), .mov (.t 0), none⟩, ⟨(some 33), .mov (.t 1), none⟩, ⟨(some 34), .mov (.t 2), none⟩, ⟨(some 35), .call (.c (.fn (f_p_solve_raiser_variable N) [] [])) [(.t 32), (.t 33), (.t 34)], none⟩, ⟨(some 36), .extract (.t 35) 0, none⟩, ⟨(some 37), .extract (.t 35) 1, none⟩, ⟨(some 6), .mov (.t 36), none⟩, ⟨(some 7), .mov (.t 37), none⟩]) (
   .ret)) (
   .skip))) (
 .seq (
  .ops [⟨(some 39), .mov (.t 0), none⟩, ⟨(some 40), .nilchk (.t 39), none⟩, ⟨(some 41), .faddr 0 (.t 40), none⟩, ⟨(some 42), .load none (.t 41), none⟩, ⟨(some 43), .mov (.t 1), none⟩, ⟨(some 44), .call (.c (.fn (f_p_arena_Arena_At N) [] [])) [(.t 42), (.t 43)], none⟩, ⟨(some 38), .mov (.t 44), none⟩, ⟨(some 45), .extract (.t 38) 0, none⟩, ⟨(some 46), .extract (.t 38) 1, none⟩, ⟨(some 8), .new (t_api_Head N) (.agg [(.lit (.int .i64 0)), (.lit (.slice none 0 0)), (.lit (.slice none 0 0)), (.lit (.bool false))]), none⟩, ⟨none, .store 4 (.t 8) (.t 45), none⟩, ⟨(some 9), .mov (.t 46), none⟩]) (
 .seq (
  .seq (
   .ops [⟨(some 47), .faddr 2 (.t 8), none⟩, ⟨(some 48), .load none (.t 47), none⟩, ⟨(some 49), .len (.t 48), none⟩, ⟨(some 50), .mov (.c (.lit (.int .i64 0))), none⟩]) (
  .block 0 (
   .loop (L_p_solve_raiser_part_1 N)))) (K_p_solve_raiser_part_1 N))))), false⟩

def L_p_solve_raiser_variable_1 (N : Nat → Nat) : AC :=
    .seq (
     .ops [⟨(some 78), .bin .lss (.t 77) (.t 76), none⟩]) (
    .seq (
     .cond (.t 78) (
      .skip) (
      .exit 0)) (
    .seq (
     .block 1 (
      .seq (
       .ops [⟨(some 79), .iaddr 1 (.t 75) (.t 77), none⟩, ⟨(some 80), .load none (.t 79), none⟩, ⟨(some 15), .mov (.t 80), none⟩]) (
      .seq (
       .ops [⟨(some 82), .mov (.t 0), none⟩, ⟨(some 83), .mov (.t 15), none⟩, ⟨(some 84), .mov (.t 2), none⟩, ⟨(some 85), .call (.c (.fn (f_p_solve_raiser_part N) [] [])) [(.t 82), (.t 83), (.t 84)], none⟩, ⟨(some 81), .mov (.t 85), none⟩, ⟨(some 86), .extract (.t 81) 0, none⟩, ⟨(some 87), .extract (.t 81) 1, none⟩, ⟨(some 16), .mov (.t 86), none⟩, ⟨(some 17), .mov (.t 87), none⟩]) (
      .seq (
       .seq (
        .ops [⟨(some 88), .mov (.t 17), none⟩, ⟨(some 89), .eq true .pint (.t 88) (.c (.lit (.int .i64 0))), none⟩]) (
       .cond (.t 89) (
        .seq (
         .ops [⟨(some 90), .mov (.t 17), none⟩, ⟨(some 6), .mov (.c (.lit (.int .i64 0))), none⟩, ⟨(some 7), .mov (.t 90), none⟩]) (
        .ret)) (
        .skip))) (
      .ops [⟨(some 91), .mov (.t 0), none⟩, ⟨(some 92), .nilchk (.t 91), none⟩, ⟨(some 93), .faddr 0 (.t 92), none⟩, ⟨(some 94), .load none (.t 93), none⟩, ⟨(some 95), .mov (.t 11), none⟩, ⟨(some 96), .mov (.t 16), none⟩, ⟨(some 97), .mov (.t 2), none⟩, ⟨(some 98), .un .not (.t 97), none⟩, ⟨(some 99), .call (.c (.fn (f_p_arena_Arena_Bound N) [] [])) [(.t 94), (.t 95), (.t 96), (.t 98)], none⟩]))))) (
    .ops [⟨(some 100), .bin .add (.t 77) (.c (.lit (.int .i64 1))), none⟩, ⟨(some 77), .mov (.t 100), none⟩])))
def K_p_solve_raiser_variable_1 (N : Nat → Nat) : AC :=
 .seq (
  .ops [⟨(some 101), .mov (.t 11), none⟩, ⟨(some 6), .mov (.t 101), none⟩, ⟨(some 7), .mov (.c (.lit (.int .i64 0))), none⟩]) (
 .ret)
/-- (*azimuth/solve.raiser).variable -/
def C_p_solve_raiser_variable (N : Nat → Nat) : AFunc := ⟨102, [.inl 6, .inl 7],
 .seq (
  .ops [⟨(some 6), .mov (.c (.lit (.int .i64 0))), none⟩, ⟨(some 7), .mov (.c (.lit (.int .i64 0))), none⟩]) (
 .seq (
  .ops [⟨(some 18), .mov (.t 1), none⟩, ⟨(some 19), .mov (.t 2), none⟩, ⟨(some 20), .call (.c (.fn (f_solve_way N) [] [])) [(.t 19)], none⟩, ⟨(some 21), .build [(.lit (.int .i64 0)), (.lit (.int .i64 0))] [(0, 1, (.t 18)), (1, 1, (.t 20))], none⟩, ⟨(some 8), .new (t_solve_claim N) (.agg [(.lit (.int .i64 0)), (.lit (.int .i64 0))]), none⟩, ⟨none, .store 2 (.t 8) (.t 21), none⟩]) (
 .seq (
  .seq (
   .dops 2 [⟨(some 23), .mov (.t 0), none⟩, ⟨(some 24), .nilchk (.t 23), none⟩, ⟨(some 25), .faddr 2 (.t 24), none⟩, ⟨(some 26), .load none (.t 25), none⟩, ⟨(some 27), .load (some 2) (.t 8), none⟩, ⟨(some 28), .lookup (.agg (.struct [(0, none, .pint), (1, none, .pint)])) (.lit (.int .i64 0)) (.t 26) (.t 27) true, none⟩, ⟨(some 22), .mov (.t 28), none⟩, ⟨(some 29), .extract (.t 22) 0, none⟩, ⟨(some 30), .extract (.t 22) 1, none⟩, ⟨(some 9), .mov (.t 29), none⟩, ⟨(some 10), .mov (.t 30), none⟩] [0, 0, 0, 2, 2, 0, 0, 0, 0, 0, 0] []) (
  .seq (
   .ops [⟨(some 31), .mov (.t 10), none⟩]) (
  .cond (.t 31) (
   .seq (
    .ops [⟨(some 32), .mov (.t 9), none⟩, ⟨(some 6), .mov (.t 32), none⟩, ⟨(some 7), .mov (.c (.lit (.int .i64 0))), none⟩]) (
   .ret)) (
   .skip)))) (
 .seq (
  .dops 5 [⟨(some 34), .mov (.t 0), none⟩, ⟨(some 35), .nilchk (.t 34), none⟩, ⟨(some 36), .faddr 0 (.t 35), none⟩, ⟨(some 37), .load none (.t 36), none⟩, ⟨(some 38), .mov (.t 0), none⟩, ⟨(some 39), .nilchk (.t 38), none⟩, ⟨(some 40), .faddr 1 (.t 39), none⟩, ⟨(some 41), .load none (.t 40), none⟩, ⟨(some 42), .call (.c (.fn (f_p_arena_Arena_Var N) [] [])) [(.t 37), (.t 41)], none⟩, ⟨(some 33), .mov (.t 42), none⟩, ⟨(some 43), .extract (.t 33) 0, none⟩, ⟨(some 44), .extract (.t 33) 1, none⟩, ⟨(some 11), .mov (.t 43), none⟩, ⟨(some 12), .mov (.t 44), none⟩] [0, 0, 0, 2, 0, 0, 0, 2, 0, 0, 0, 0, 0, 0] []) (
 .seq (
  .seq (
   .ops [⟨(some 45), .mov (.t 12), none⟩, ⟨(some 46), .eq true .pint (.t 45) (.c (.lit (.int .i64 0))), none⟩]) (
  .cond (.t 46) (
   .seq (
    .ops [⟨(some 47), .mov (.t 12), none⟩, ⟨(some 6), .mov (.c (.lit (.int .i64 0))), none⟩, ⟨(some 7), .mov (.t 47), none⟩]) (
   .ret)) (
   .skip))) (
 .seq (
  .dops 8 [⟨(some 48), .mov (.t 0), none⟩, ⟨(some 49), .nilchk (.t 48), none⟩, ⟨(some 50), .faddr 2 (.t 49), none⟩, ⟨(some 51), .load none (.t 50), none⟩, ⟨(some 52), .load (some 2) (.t 8), none⟩, ⟨(some 53), .mov (.t 11), none⟩, ⟨none, .mapupd (.agg (.struct [(0, none, .pint), (1, none, .pint)])) (.t 51) (.t 52) (.t 53), none⟩] [0, 0, 0, 2, 2, 0, 0] []) (
 .seq (
  .ops [⟨(some 54), .mov (.t 0), none⟩, ⟨(some 55), .nilchk (.t 54), none⟩, ⟨(some 56), .faddr 0 (.t 55), none⟩, ⟨(some 57), .load none (.t 56), none⟩, ⟨(some 58), .mov (.t 1), none⟩, ⟨(some 59), .call (.c (.fn (f_p_arena_Arena_High N) [] [])) [(.t 57), (.t 58)], none⟩, ⟨(some 13), .mov (.t 59), none⟩]) (
 .seq (
  .seq (
   .ops [⟨(some 60), .mov (.t 2), none⟩]) (
  .cond (.t 60) (
   .ops [⟨(some 61), .mov (.t 0), none⟩, ⟨(some 62), .nilchk (.t 61), none⟩, ⟨(some 63), .faddr 0 (.t 62), none⟩, ⟨(some 64), .load none (.t 63), none⟩, ⟨(some 65), .mov (.t 1), none⟩, ⟨(some 66), .call (.c (.fn (f_p_arena_Arena_Low N) [] [])) [(.t 64), (.t 65)], none⟩, ⟨(some 13), .mov (.t 66), none⟩]) (
   .skip))) (
 .seq (
  .ops [⟨(some 67), .mov (.t 0), none⟩, ⟨(some 68), .nilchk (.t 67), none⟩, ⟨(some 69), .faddr 0 (.t 68), none⟩, ⟨(some 70), .load none (.t 69), none⟩, ⟨(some 71), .mov (.t 1), none⟩, ⟨(some 72), .mov (.t 11), none⟩, ⟨(some 73), .mov (.t 2), none⟩, ⟨(some 74), .call (.c (.fn (f_p_arena_Arena_Bound N) [] [])) [(.t 70), (.t 71), (.t 72), (.t 73)], none⟩]) (
 .seq (
  .seq (
   .ops [⟨(some 75), .mov (.t 13), none⟩, ⟨(some 76), .len (.t 75), none⟩, ⟨(some 77), .mov (.c (.lit (.int .i64 0))), none⟩]) (
  .block 0 (
   .loop (L_p_solve_raiser_variable_1 N)))) (K_p_solve_raiser_variable_1 N)))))))))), false⟩

/-- azimuth/solve.New -/
def C_solve_New (N : Nat → Nat) : AFunc := ⟨9, [.inl 2],
 .seq (
  .ops [⟨(some 2), .mov (.c (.lit (.pointer none))), none⟩]) (
 .seq (
  .seq (
   .ops [⟨(some 3), .mov (.t 0), none⟩, ⟨(some 4), .eq false .pptr (.t 3) (.c (.lit (.pointer none))), none⟩]) (
  .cond (.t 4) (
   .seq (
    .ops [⟨(some 2), .mov (.c (.lit (.pointer none))), none⟩]) (
   .ret)) (
   .skip))) (
 .seq (
  .ops [⟨(some 5), .mov (.t 0), none⟩, ⟨(some 6), .mkmap, none⟩, ⟨(some 7), .build [(.lit (.pointer none)), (.lit (.map none)), (.lit (.slice none 0 0)), (.lit (.int .i64 0)), (.lit (.int .i64 0)), (.lit (.int .i64 0)), (.lit (.int .i64 0)), (.lit (.int .i64 0))] [(0, 1, (.t 5)), (1, 1, (.t 6)), (3, 1, (.c (.lit (.int .i64 (-1)))))], none⟩, ⟨(some 8), .box (t_solve_Solver N) (.t 7), none⟩, ⟨(some 2), .mov (.t 8), none⟩]) (
 .ret))), false⟩

/-- azimuth/solve.Raise -/
def C_solve_Raise (N : Nat → Nat) : AFunc := ⟨36, [.inl 8, .inl 9],
 .seq (
  .ops [⟨(some 8), .mov (.c (.lit (.int .i64 0))), none⟩, ⟨(some 9), .mov (.c (.lit (.int .i64 0))), none⟩]) (
 .seq (
  .seq (
   .ops [⟨(some 10), .mov (.t 0), none⟩, ⟨(some 11), .eq false .pptr (.t 10) (.c (.lit (.pointer none))), none⟩, ⟨(some 12), .mov (.t 11), none⟩, ⟨(some 13), .mov (.t 1), (some (12, false))⟩, ⟨(some 14), .bin .lss (.t 13) (.c (.lit (.int .i64 0))), (some (12, false))⟩, ⟨(some 15), .pick (.t 12) (.c (.lit (.bool true))) (.t 14), none⟩, ⟨(some 16), .mov (.t 15), none⟩, ⟨(some 17), .mov (.t 1), (some (16, false))⟩, ⟨(some 18), .mov (.t 0), (some (16, false))⟩, ⟨(some 19), .call (.c (.fn (f_p_arena_Arena_Len N) [] [])) [(.t 18)], (some (16, false))⟩, ⟨(some 20), .bin .geq (.t 17) (.t 19), (some (16, false))⟩, ⟨(some 21), .pick (.t 16) (.c (.lit (.bool true))) (.t 20), none⟩, ⟨(some 22), .mov (.t 21), none⟩, ⟨(some 23), .mov (.t 2), (some (22, false))⟩, ⟨(some 24), .bin .lss (.t 23) (.c (.lit (.int .i64 0))), (some (22, false))⟩, ⟨(some 25), .pick (.t 22) (.c (.lit (.bool true))) (.t 24), none⟩]) (
  .cond (.t 25) (
   .seq (
    .ops [⟨(some 8), .mov (.c (.lit (.int .i64 0))), none⟩, ⟨(some 9), .mov (.c (.lit (.int .i64 1))), none⟩]) (
   .ret)) (
   .skip))) (
 .seq (
  .ops [⟨(some 26), .mov (.t 0), none⟩, ⟨(some 27), .mov (.t 2), none⟩, ⟨(some 28), .mkmap, none⟩, ⟨(some 29), .build [(.lit (.pointer none)), (.lit (.int .i64 0)), (.lit (.map none))] [(0, 1, (.t 26)), (1, 1, (.t 27)), (2, 1, (.t 28))], none⟩, ⟨(some 30), .box (t_solve_raiser N) (.t 29), none⟩, ⟨(some 31), .mov (.t 1), none⟩, ⟨(some 32), .mov (.t 3), none⟩, ⟨(some 33), .call (.c (.fn (f_p_solve_raiser_part N) [] [])) [(.t 30), (.t 31), (.t 32)], none⟩, ⟨(some 34), .extract (.t 33) 0, none⟩, ⟨(some 35), .extract (.t 33) 1, none⟩, ⟨(some 8), .mov (.t 34), none⟩, ⟨(some 9), .mov (.t 35), none⟩]) (
 .ret))), false⟩

/-- azimuth/solve.kid -/
def C_solve_kid (N : Nat → Nat) : AFunc := ⟨21, [.inl 4],
 .seq (
  .ops [⟨(some 2), .box (t_api_Head N) (.t 0), none⟩, ⟨(some 4), .mov (.c (.lit (.int .i64 0))), none⟩]) (
 .seq (
  .ops [⟨(some 8), .faddr 1 (.t 2), none⟩, ⟨(some 9), .load none (.t 8), none⟩, ⟨(some 10), .mov (.t 1), none⟩, ⟨(some 11), .call (.c (.fn (f_slices_BinarySearch_sl_string_string N) [] [])) [(.t 9), (.t 10)], none⟩, ⟨(some 7), .mov (.t 11), none⟩, ⟨(some 12), .extract (.t 7) 0, none⟩, ⟨(some 13), .extract (.t 7) 1, none⟩, ⟨(some 5), .mov (.t 12), none⟩, ⟨(some 6), .mov (.t 13), none⟩]) (
 .seq (
  .seq (
   .ops [⟨(some 14), .mov (.t 6), none⟩, ⟨(some 15), .un .not (.t 14), none⟩]) (
  .cond (.t 15) (
   .seq (
    .ops [⟨(some 4), .mov (.c (.lit (.int .i64 (-1)))), none⟩]) (
   .ret)) (
   .skip))) (
 .seq (
  .ops [⟨(some 16), .faddr 2 (.t 2), none⟩, ⟨(some 17), .load none (.t 16), none⟩, ⟨(some 18), .mov (.t 5), none⟩, ⟨(some 19), .iaddr 1 (.t 17) (.t 18), none⟩, ⟨(some 20), .load none (.t 19), none⟩, ⟨(some 4), .mov (.t 20), none⟩]) (
 .ret)))), false⟩

/-- azimuth/solve.way -/
def C_solve_way (N : Nat → Nat) : AFunc := ⟨4, [.inl 2],
 .seq (
  .ops [⟨(some 2), .mov (.c (.lit (.int .i64 0))), none⟩]) (
 .seq (
  .seq (
   .ops [⟨(some 3), .mov (.t 0), none⟩]) (
  .cond (.t 3) (
   .seq (
    .ops [⟨(some 2), .mov (.c (.lit (.int .i64 1))), none⟩]) (
   .ret)) (
   .skip))) (
 .seq (
  .ops [⟨(some 2), .mov (.c (.lit (.int .i64 0))), none⟩]) (
 .ret))), false⟩
end Go.Proofs.Eng
/- Templates of functions, as the engine takes them; numbers of functions and types by names. Printed by tm.py. -/
set_option linter.unusedVariables false
set_option maxRecDepth 100000
namespace Go.Proofs.Eng
open Go

/-- azimuth/azimuthlaw13.SolveNone -/
def C_law13_SolveNone (N : Nat → Nat) : AFunc := ⟨35, [.inl 4],
 .seq (
  .ops [⟨(some 4), .mov (.c (.lit (.bool false))), none⟩]) (
 .seq (
  .seq (
   .ops [⟨(some 9), .call (.c (.fn (f_law13_lives N) [] [])) [], none⟩, ⟨(some 10), .un .not (.t 9), none⟩]) (
  .cond (.t 10) (
   .seq (
    .ops [⟨(some 4), .mov (.c (.lit (.bool false))), none⟩]) (
   .ret)) (
   .skip))) (
 .seq (
  .ops [⟨(some 5), .mov (.c (.lit (.pointer none))), none⟩]) (
 .seq (
  .ops [⟨(some 12), .mov (.t 5), none⟩, ⟨(some 13), .call (.c (.fn (f_p_solve_Solver_Clash N) [] [])) [(.t 12)], none⟩, ⟨(some 11), .mov (.t 13), none⟩, ⟨(some 14), .extract (.t 11) 0, none⟩, ⟨(some 15), .extract (.t 11) 1, none⟩, ⟨(some 16), .extract (.t 11) 2, none⟩, ⟨(some 6), .mov (.t 14), none⟩, ⟨(some 7), .mov (.t 15), none⟩, ⟨(some 8), .mov (.t 16), none⟩]) (
 .seq (
  .ops [⟨(some 17), .call (.c (.fn (f_solve_New N) [] [])) [(.c (.lit (.pointer none)))], none⟩, ⟨(some 18), .eq false .pptr (.t 17) (.c (.lit (.pointer none))), none⟩, ⟨(some 19), .mov (.t 18), none⟩, ⟨(some 20), .mov (.t 5), (some (19, true))⟩, ⟨(some 21), .mov (.t 0), (some (19, true))⟩, ⟨(some 22), .mov (.t 1), (some (19, true))⟩, ⟨(some 23), .call (.c (.fn (f_p_solve_Solver_Claim N) [] [])) [(.t 20), (.t 21), (.t 22)], (some (19, true))⟩, ⟨(some 24), .eq false .pint (.t 23) (.c (.lit (.int .i64 1))), (some (19, true))⟩, ⟨(some 25), .pick (.t 19) (.t 24) (.c (.lit (.bool false))), none⟩, ⟨(some 26), .mov (.t 25), none⟩, ⟨(some 27), .mov (.t 5), (some (26, true))⟩, ⟨(some 28), .call (.c (.fn (f_p_solve_Solver_Claims N) [] [])) [(.t 27)], (some (26, true))⟩, ⟨(some 29), .eq false .pint (.t 28) (.c (.lit (.int .i64 0))), (some (26, true))⟩, ⟨(some 30), .pick (.t 26) (.t 29) (.c (.lit (.bool false))), none⟩, ⟨(some 31), .mov (.t 30), none⟩, ⟨(some 32), .mov (.t 8), (some (31, true))⟩, ⟨(some 33), .un .not (.t 32), (some (31, true))⟩, ⟨(some 34), .pick (.t 31) (.t 33) (.c (.lit (.bool false))), none⟩, ⟨(some 4), .mov (.t 34), none⟩]) (
 .ret))))), false⟩

/-- azimuth/azimuthlaw13.lives -/
def C_law13_lives (N : Nat → Nat) : AFunc := ⟨54, [.inl 0],
 .seq (
  .ops [⟨(some 0), .mov (.c (.lit (.bool false))), none⟩]) (
 .seq (
  .ops [⟨(some 11), .call (.c (.fn (f_arena_New N) [] [])) [(.c (.lit (.int .i64 20)))], none⟩, ⟨(some 10), .mov (.t 11), none⟩, ⟨(some 12), .extract (.t 10) 0, none⟩, ⟨(some 13), .extract (.t 10) 1, none⟩, ⟨(some 1), .mov (.t 12), none⟩, ⟨(some 2), .mov (.t 13), none⟩]) (
 .seq (
  .ops [⟨(some 15), .mov (.t 1), none⟩, ⟨(some 16), .build [(.lit (.int .i64 0)), (.lit (.slice none 0 0)), (.lit (.slice none 0 0)), (.lit (.bool false))] [(0, 1, (.c (.lit (.int .i64 0))))], none⟩, ⟨(some 17), .call (.c (.fn (f_p_arena_Arena_Head N) [] [])) [(.t 15), (.t 16)], none⟩, ⟨(some 14), .mov (.t 17), none⟩, ⟨(some 18), .extract (.t 14) 0, none⟩, ⟨(some 19), .extract (.t 14) 1, none⟩, ⟨(some 3), .mov (.t 18), none⟩, ⟨(some 4), .mov (.t 19), none⟩]) (
 .seq (
  .ops [⟨(some 21), .mov (.t 1), none⟩, ⟨(some 22), .call (.c (.fn (f_p_arena_Arena_Var N) [] [])) [(.t 21), (.c (.lit (.int .i64 0)))], none⟩, ⟨(some 20), .mov (.t 22), none⟩, ⟨(some 23), .extract (.t 20) 0, none⟩, ⟨(some 24), .extract (.t 20) 1, none⟩, ⟨(some 5), .mov (.t 23), none⟩, ⟨(some 6), .mov (.t 24), none⟩]) (
 .seq (
  .ops [⟨(some 26), .mov (.t 1), none⟩, ⟨(some 27), .build [(.lit (.int .i64 0)), (.lit (.slice none 0 0)), (.lit (.slice none 0 0)), (.lit (.bool false))] [(0, 1, (.c (.lit (.int .i64 2))))], none⟩, ⟨(some 28), .call (.c (.fn (f_p_arena_Arena_Head N) [] [])) [(.t 26), (.t 27)], none⟩, ⟨(some 25), .mov (.t 28), none⟩, ⟨(some 29), .extract (.t 25) 0, none⟩, ⟨(some 30), .extract (.t 25) 1, none⟩, ⟨(some 7), .mov (.t 29), none⟩, ⟨(some 8), .mov (.t 30), none⟩]) (
 .seq (
  .ops [⟨(some 31), .mov (.t 1), none⟩, ⟨(some 32), .call (.c (.fn (f_solve_New N) [] [])) [(.t 31)], none⟩, ⟨(some 9), .mov (.t 32), none⟩]) (
 .seq (
  .ops [⟨(some 33), .mov (.t 2), none⟩, ⟨(some 34), .eq false .pint (.t 33) (.c (.lit (.int .i64 0))), none⟩, ⟨(some 35), .mov (.t 34), none⟩, ⟨(some 36), .mov (.t 9), (some (35, true))⟩, ⟨(some 37), .mov (.t 3), (some (35, true))⟩, ⟨(some 38), .mov (.t 5), (some (35, true))⟩, ⟨(some 39), .call (.c (.fn (f_p_solve_Solver_Claim N) [] [])) [(.t 36), (.t 37), (.t 38)], (some (35, true))⟩, ⟨(some 40), .eq false .pint (.t 39) (.c (.lit (.int .i64 0))), (some (35, true))⟩, ⟨(some 41), .pick (.t 35) (.t 40) (.c (.lit (.bool false))), none⟩, ⟨(some 42), .mov (.t 41), none⟩, ⟨(some 43), .mov (.t 9), (some (42, true))⟩, ⟨(some 44), .mov (.t 5), (some (42, true))⟩, ⟨(some 45), .mov (.t 7), (some (42, true))⟩, ⟨(some 46), .call (.c (.fn (f_p_solve_Solver_Claim N) [] [])) [(.t 43), (.t 44), (.t 45)], (some (42, true))⟩, ⟨(some 47), .eq false .pint (.t 46) (.c (.lit (.int .i64 10))), (some (42, true))⟩, ⟨(some 48), .pick (.t 42) (.t 47) (.c (.lit (.bool false))), none⟩, ⟨(some 49), .mov (.t 48), none⟩, ⟨(some 50), .mov (.t 9), (some (49, true))⟩, ⟨(some 51), .call (.c (.fn (f_p_solve_Solver_Claims N) [] [])) [(.t 50)], (some (49, true))⟩, ⟨(some 52), .eq false .pint (.t 51) (.c (.lit (.int .i64 1))), (some (49, true))⟩, ⟨(some 53), .pick (.t 49) (.t 52) (.c (.lit (.bool false))), none⟩, ⟨(some 0), .mov (.t 53), none⟩]) (
 .ret))))))), false⟩
end Go.Proofs.Eng
