import Derived.Test.YtcmdnlpkplaapaaM32
import Derived.Test.YtcmdnlpkplaapaaM35
import Derived.Test.YtcmdnlpkplaapaaM33
/- Templates of functions, as the engine takes them; numbers of functions and types by names. Printed by tm.py. -/
set_option linter.unusedVariables false
set_option maxRecDepth 100000
namespace Go.Proofs.Eng
open Go

def L_p_solve_Solver_Claim_1 (N : Nat → Nat) : AC :=
    .seq (
     .seq (
      .ops [⟨(some 51), .mov (.t 0), none⟩, ⟨(some 52), .nilchk (.t 51), none⟩, ⟨(some 53), .faddr 2 (.t 52), none⟩, ⟨(some 54), .load none (.t 53), none⟩, ⟨(some 55), .len (.t 54), none⟩, ⟨(some 56), .bin .gtr (.t 55) (.c (.lit (.int .i64 0))), none⟩]) (
     .cond (.t 56) (
      .skip) (
      .exit 1))) (
    .block 2 (
     .seq (
      .ops [⟨(some 57), .mov (.t 0), none⟩, ⟨(some 58), .nilchk (.t 57), none⟩, ⟨(some 59), .faddr 2 (.t 58), none⟩, ⟨(some 60), .load none (.t 59), none⟩, ⟨(some 61), .iaddr 2 (.t 60) (.c (.lit (.int .i64 0))), none⟩, ⟨(some 62), .load (some 2) (.t 61), none⟩, ⟨(some 7), .new (t_solve_claim N) (.agg [(.lit (.int .i64 0)), (.lit (.int .i64 0))]), none⟩, ⟨none, .store 2 (.t 7) (.t 62), none⟩]) (
     .seq (
      .ops [⟨(some 63), .mov (.t 0), none⟩, ⟨(some 64), .mov (.t 0), none⟩, ⟨(some 65), .nilchk (.t 64), none⟩, ⟨(some 66), .faddr 2 (.t 65), none⟩, ⟨(some 67), .load none (.t 66), none⟩, ⟨(some 68), .slice 2 (.t 67) (some (.c (.lit (.int .i64 1)))) none, none⟩, ⟨(some 69), .nilchk (.t 63), none⟩, ⟨(some 70), .faddr 2 (.t 69), none⟩, ⟨none, .store 1 (.t 70) (.t 68), none⟩]) (
     .seq (
      .ops [⟨(some 71), .mov (.t 0), none⟩, ⟨(some 72), .mov (.t 0), none⟩, ⟨(some 73), .load (some 2) (.t 7), none⟩, ⟨(some 74), .call (.c (.fn (f_p_solve_Solver_step N) [] [])) [(.t 72), (.t 73)], none⟩, ⟨(some 75), .nilchk (.t 71), none⟩, ⟨(some 76), .faddr 5 (.t 75), none⟩, ⟨none, .store 1 (.t 76) (.t 74), none⟩]) (
     .seq (
      .ops [⟨(some 77), .mov (.t 0), none⟩, ⟨(some 78), .nilchk (.t 77), none⟩, ⟨(some 79), .faddr 5 (.t 78), none⟩, ⟨(some 80), .load none (.t 79), none⟩, ⟨(some 81), .eq true .pint (.t 80) (.c (.lit (.int .i64 0))), none⟩]) (
     .cond (.t 81) (
      .seq (
       .ops [⟨(some 82), .mov (.t 0), none⟩, ⟨(some 83), .nilchk (.t 82), none⟩, ⟨(some 84), .faddr 5 (.t 83), none⟩, ⟨(some 85), .load none (.t 84), none⟩, ⟨(some 6), .mov (.t 85), none⟩]) (
      .ret)) (
      .skip)))))))
def K_p_solve_Solver_Claim_1 (N : Nat → Nat) : AC :=
 .seq (
  .ops [⟨(some 86), .mov (.t 0), none⟩, ⟨(some 87), .nilchk (.t 86), none⟩, ⟨(some 88), .faddr 4 (.t 87), none⟩, ⟨(some 89), .load none (.t 88), none⟩, ⟨(some 90), .bin .add (.t 89) (.c (.lit (.int .i64 1))), none⟩, ⟨(some 91), .nilchk (.t 86), none⟩, ⟨(some 92), .faddr 4 (.t 91), none⟩, ⟨none, .store 1 (.t 92) (.t 90), none⟩]) (
 .seq (
  .ops [⟨(some 6), .mov (.c (.lit (.int .i64 0))), none⟩]) (
 .ret))
/-- (*azimuth/solve.Solver).Claim -/
def C_p_solve_Solver_Claim (N : Nat → Nat) : AFunc := ⟨93, [.inl 6],
 .seq (
  .ops [⟨(some 6), .mov (.c (.lit (.int .i64 0))), none⟩]) (
 .seq (
  .block 0 (
   .seq (
    .ops [⟨(some 9), .mov (.t 0), none⟩, ⟨(some 10), .eq false .pptr (.t 9) (.c (.lit (.pointer none))), none⟩, ⟨(some 11), .mov (.t 10), none⟩, ⟨(some 12), .mov (.t 1), (some (11, false))⟩, ⟨(some 13), .bin .lss (.t 12) (.c (.lit (.int .i64 0))), (some (11, false))⟩, ⟨(some 14), .pick (.t 11) (.c (.lit (.bool true))) (.t 13), none⟩, ⟨(some 15), .mov (.t 14), none⟩, ⟨(some 16), .mov (.t 2), (some (15, false))⟩, ⟨(some 17), .bin .lss (.t 16) (.c (.lit (.int .i64 0))), (some (15, false))⟩, ⟨(some 18), .pick (.t 15) (.c (.lit (.bool true))) (.t 17), none⟩, ⟨(some 19), .mov (.t 18), none⟩, ⟨(some 20), .mov (.t 1), (some (19, false))⟩, ⟨(some 21), .mov (.t 0), (some (19, false))⟩, ⟨(some 22), .nilchk (.t 21), (some (19, false))⟩, ⟨(some 23), .faddr 0 (.t 22), (some (19, false))⟩, ⟨(some 24), .load none (.t 23), (some (19, false))⟩, ⟨(some 25), .call (.c (.fn (f_p_arena_Arena_Len N) [] [])) [(.t 24)], (some (19, false))⟩, ⟨(some 26), .bin .geq (.t 20) (.t 25), (some (19, false))⟩, ⟨(some 27), .pick (.t 19) (.c (.lit (.bool true))) (.t 26), none⟩, ⟨(some 28), .mov (.t 27), none⟩, ⟨(some 29), .mov (.t 2), (some (28, false))⟩, ⟨(some 30), .mov (.t 0), (some (28, false))⟩, ⟨(some 31), .nilchk (.t 30), (some (28, false))⟩, ⟨(some 32), .faddr 0 (.t 31), (some (28, false))⟩, ⟨(some 33), .load none (.t 32), (some (28, false))⟩, ⟨(some 34), .call (.c (.fn (f_p_arena_Arena_Len N) [] [])) [(.t 33)], (some (28, false))⟩, ⟨(some 35), .bin .geq (.t 29) (.t 34), (some (28, false))⟩, ⟨(some 36), .pick (.t 28) (.c (.lit (.bool true))) (.t 35), none⟩, ⟨(some 8), .mov (.t 36), none⟩]) (
   .cond (.t 8) (
    .seq (
     .ops [⟨(some 6), .mov (.c (.lit (.int .i64 1))), none⟩]) (
    .ret)) (
    .seq (
     .ops [⟨(some 38), .mov (.t 0), none⟩, ⟨(some 39), .nilchk (.t 38), none⟩, ⟨(some 40), .faddr 5 (.t 39), none⟩, ⟨(some 41), .load none (.t 40), none⟩, ⟨(some 42), .eq true .pint (.t 41) (.c (.lit (.int .i64 0))), none⟩, ⟨(some 37), .mov (.t 42), none⟩]) (
    .cond (.t 37) (
     .seq (
      .ops [⟨(some 43), .mov (.t 0), none⟩, ⟨(some 44), .nilchk (.t 43), none⟩, ⟨(some 45), .faddr 5 (.t 44), none⟩, ⟨(some 46), .load none (.t 45), none⟩, ⟨(some 6), .mov (.t 46), none⟩]) (
     .ret)) (
     .skip)))))) (
 .seq (
  .ops [⟨(some 47), .mov (.t 0), none⟩, ⟨(some 48), .mov (.t 1), none⟩, ⟨(some 49), .mov (.t 2), none⟩, ⟨(some 50), .call (.c (.fn (f_p_solve_Solver_ask N) [] [])) [(.t 47), (.t 48), (.t 49)], none⟩]) (
 .seq (
  .block 1 (
   .loop (L_p_solve_Solver_Claim_1 N))) (K_p_solve_Solver_Claim_1 N)))), false⟩

/-- (*azimuth/solve.Solver).Claims -/
def C_p_solve_Solver_Claims (N : Nat → Nat) : AFunc := ⟨9, [.inl 2],
 .seq (
  .ops [⟨(some 2), .mov (.c (.lit (.int .i64 0))), none⟩]) (
 .seq (
  .seq (
   .ops [⟨(some 3), .mov (.t 0), none⟩, ⟨(some 4), .eq false .pptr (.t 3) (.c (.lit (.pointer none))), none⟩]) (
  .cond (.t 4) (
   .seq (
    .ops [⟨(some 2), .mov (.c (.lit (.int .i64 0))), none⟩]) (
   .ret)) (
   .skip))) (
 .seq (
  .ops [⟨(some 5), .mov (.t 0), none⟩, ⟨(some 6), .nilchk (.t 5), none⟩, ⟨(some 7), .faddr 4 (.t 6), none⟩, ⟨(some 8), .load none (.t 7), none⟩, ⟨(some 2), .mov (.t 8), none⟩]) (
 .ret))), false⟩

/-- (*azimuth/solve.Solver).Clash -/
def C_p_solve_Solver_Clash (N : Nat → Nat) : AFunc := ⟨24, [.inl 2, .inl 3, .inl 4],
 .seq (
  .ops [⟨(some 2), .mov (.c (.lit (.int .i64 0))), none⟩, ⟨(some 3), .mov (.c (.lit (.int .i64 0))), none⟩, ⟨(some 4), .mov (.c (.lit (.bool false))), none⟩]) (
 .seq (
  .seq (
   .ops [⟨(some 5), .mov (.t 0), none⟩, ⟨(some 6), .eq false .pptr (.t 5) (.c (.lit (.pointer none))), none⟩, ⟨(some 7), .mov (.t 6), none⟩, ⟨(some 8), .mov (.t 0), (some (7, false))⟩, ⟨(some 9), .nilchk (.t 8), (some (7, false))⟩, ⟨(some 10), .faddr 5 (.t 9), (some (7, false))⟩, ⟨(some 11), .load none (.t 10), (some (7, false))⟩, ⟨(some 12), .eq true .pint (.t 11) (.c (.lit (.int .i64 10))), (some (7, false))⟩, ⟨(some 13), .pick (.t 7) (.c (.lit (.bool true))) (.t 12), none⟩]) (
  .cond (.t 13) (
   .seq (
    .ops [⟨(some 2), .mov (.c (.lit (.int .i64 0))), none⟩, ⟨(some 3), .mov (.c (.lit (.int .i64 0))), none⟩, ⟨(some 4), .mov (.c (.lit (.bool false))), none⟩]) (
   .ret)) (
   .skip))) (
 .seq (
  .dops 3 [⟨(some 14), .mov (.t 0), none⟩, ⟨(some 15), .nilchk (.t 14), none⟩, ⟨(some 16), .faddr 6 (.t 15), none⟩, ⟨(some 17), .faddr 0 (.t 16), none⟩, ⟨(some 18), .load none (.t 17), none⟩, ⟨(some 19), .mov (.t 0), none⟩, ⟨(some 20), .nilchk (.t 19), none⟩, ⟨(some 21), .faddr 6 (.t 20), none⟩, ⟨(some 22), .faddr 1 (.t 21), none⟩, ⟨(some 23), .load none (.t 22), none⟩, ⟨(some 2), .mov (.t 18), none⟩, ⟨(some 3), .mov (.t 23), none⟩, ⟨(some 4), .mov (.c (.lit (.bool true))), none⟩] [0, 0, 0, 0, 2, 0, 0, 0, 0, 2, 0, 0, 0] []) (
 .ret))), false⟩

/-- (*azimuth/solve.Solver).any -/
def C_p_solve_Solver_any (N : Nat → Nat) : AFunc := ⟨31, [.inl 2, .inl 3],
 .seq (
  .ops [⟨(some 2), .mov (.c (.lit (.int .i64 0))), none⟩, ⟨(some 3), .mov (.c (.lit (.int .i64 0))), none⟩]) (
 .seq (
  .seq (
   .ops [⟨(some 6), .mov (.t 0), none⟩, ⟨(some 7), .nilchk (.t 6), none⟩, ⟨(some 8), .faddr 3 (.t 7), none⟩, ⟨(some 9), .load none (.t 8), none⟩, ⟨(some 10), .bin .lss (.t 9) (.c (.lit (.int .i64 0))), none⟩]) (
  .cond (.t 10) (
   .seq (
    .ops [⟨(some 12), .mov (.t 0), none⟩, ⟨(some 13), .nilchk (.t 12), none⟩, ⟨(some 14), .faddr 0 (.t 13), none⟩, ⟨(some 15), .load none (.t 14), none⟩, ⟨(some 16), .build [(.lit (.int .i64 0)), (.lit (.slice none 0 0)), (.lit (.slice none 0 0)), (.lit (.bool false))] [(0, 1, (.c (.lit (.int .i64 5))))], none⟩, ⟨(some 17), .call (.c (.fn (f_p_arena_Arena_Head N) [] [])) [(.t 15), (.t 16)], none⟩, ⟨(some 11), .mov (.t 17), none⟩, ⟨(some 18), .extract (.t 11) 0, none⟩, ⟨(some 19), .extract (.t 11) 1, none⟩, ⟨(some 4), .mov (.t 18), none⟩, ⟨(some 5), .mov (.t 19), none⟩]) (
   .seq (
    .seq (
     .ops [⟨(some 20), .mov (.t 5), none⟩, ⟨(some 21), .eq true .pint (.t 20) (.c (.lit (.int .i64 0))), none⟩]) (
    .cond (.t 21) (
     .seq (
      .ops [⟨(some 22), .mov (.t 5), none⟩, ⟨(some 2), .mov (.c (.lit (.int .i64 0))), none⟩, ⟨(some 3), .mov (.t 22), none⟩]) (
     .ret)) (
     .skip))) (
   .ops [⟨(some 23), .mov (.t 0), none⟩, ⟨(some 24), .mov (.t 4), none⟩, ⟨(some 25), .nilchk (.t 23), none⟩, ⟨(some 26), .faddr 3 (.t 25), none⟩, ⟨none, .store 1 (.t 26) (.t 24), none⟩]))) (
   .skip))) (
 .seq (
  .ops [⟨(some 27), .mov (.t 0), none⟩, ⟨(some 28), .nilchk (.t 27), none⟩, ⟨(some 29), .faddr 3 (.t 28), none⟩, ⟨(some 30), .load none (.t 29), none⟩, ⟨(some 2), .mov (.t 30), none⟩, ⟨(some 3), .mov (.c (.lit (.int .i64 0))), none⟩]) (
 .ret))), false⟩

/-- (*azimuth/solve.Solver).ask -/
def C_p_solve_Solver_ask (N : Nat → Nat) : AFunc := ⟨37, [],
 .seq (
  .ops [⟨(some 7), .mov (.t 1), none⟩, ⟨(some 8), .mov (.t 2), none⟩, ⟨(some 9), .build [(.lit (.int .i64 0)), (.lit (.int .i64 0))] [(0, 1, (.t 7)), (1, 1, (.t 8))], none⟩, ⟨(some 6), .new (t_solve_claim N) (.agg [(.lit (.int .i64 0)), (.lit (.int .i64 0))]), none⟩, ⟨none, .store 2 (.t 6) (.t 9), none⟩]) (
 .seq (
  .dops 1 [⟨(some 10), .mov (.t 1), none⟩, ⟨(some 11), .mov (.t 2), none⟩, ⟨(some 12), .eq true .pint (.t 10) (.t 11), none⟩, ⟨(some 13), .mov (.t 12), none⟩, ⟨(some 14), .mov (.t 0), (some (13, true))⟩, ⟨(some 15), .nilchk (.t 14), (some (13, true))⟩, ⟨(some 16), .faddr 1 (.t 15), (some (13, true))⟩, ⟨(some 17), .load none (.t 16), (some (13, true))⟩, ⟨(some 18), .load (some 2) (.t 6), (some (13, true))⟩, ⟨(some 19), .lookup (.agg (.struct [(0, none, .pint), (1, none, .pint)])) (.lit (.bool false)) (.t 17) (.t 18) false, (some (13, true))⟩, ⟨(some 20), .un .not (.t 19), (some (13, true))⟩, ⟨(some 21), .pick (.t 13) (.t 20) (.c (.lit (.bool false))), none⟩] [0, 0, 0, 0, 0, 0, 0, 2, 2, 0, 0, 0] []) (
 .cond (.t 21) (
  .seq (
   .dops 2 [⟨(some 22), .mov (.t 0), none⟩, ⟨(some 23), .nilchk (.t 22), none⟩, ⟨(some 24), .faddr 1 (.t 23), none⟩, ⟨(some 25), .load none (.t 24), none⟩, ⟨(some 26), .load (some 2) (.t 6), none⟩, ⟨none, .mapupd (.agg (.struct [(0, none, .pint), (1, none, .pint)])) (.t 25) (.t 26) (.c (.lit (.bool true))), none⟩] [0, 0, 0, 2, 2, 0] []) (
  .dops 3 [⟨(some 27), .mov (.t 0), none⟩, ⟨(some 28), .mov (.t 0), none⟩, ⟨(some 29), .nilchk (.t 28), none⟩, ⟨(some 30), .faddr 2 (.t 29), none⟩, ⟨(some 31), .load none (.t 30), none⟩, ⟨(some 32), .load (some 2) (.t 6), none⟩, ⟨(some 33), .bslice (t_solve_claim N) 2 (some 2) 1 [(.lit (.int .i64 0)), (.lit (.int .i64 0))] [(0, 2, (.t 32))], none⟩, ⟨(some 34), .append (t_solve_claim N) 2 16 (.t 31) (.t 33), none⟩, ⟨(some 35), .nilchk (.t 27), none⟩, ⟨(some 36), .faddr 2 (.t 35), none⟩, ⟨none, .store 1 (.t 36) (.t 34), none⟩] [0, 0, 0, 0, 2, 2, 1, 0, 0, 0, 0] [])) (
  .skip))), false⟩

def L_p_solve_Solver_bind_1 (N : Nat → Nat) : AC :=
    .seq (
     .ops [⟨(some 72), .bin .lss (.t 71) (.t 70), none⟩]) (
    .seq (
     .cond (.t 72) (
      .skip) (
      .exit 0)) (
    .seq (
     .block 1 (
      .seq (
       .ops [⟨(some 73), .iaddr 1 (.t 69) (.t 71), none⟩, ⟨(some 74), .load none (.t 73), none⟩, ⟨(some 13), .mov (.t 74), none⟩]) (
      .seq (
       .ops [⟨(some 75), .mov (.t 3), none⟩]) (
      .cond (.t 75) (
       .ops [⟨(some 76), .mov (.t 0), none⟩, ⟨(some 77), .mov (.t 13), none⟩, ⟨(some 78), .mov (.t 2), none⟩, ⟨(some 79), .call (.c (.fn (f_p_solve_Solver_ask N) [] [])) [(.t 76), (.t 77), (.t 78)], none⟩]) (
       .ops [⟨(some 80), .mov (.t 0), none⟩, ⟨(some 81), .mov (.t 2), none⟩, ⟨(some 82), .mov (.t 13), none⟩, ⟨(some 83), .call (.c (.fn (f_p_solve_Solver_ask N) [] [])) [(.t 80), (.t 81), (.t 82)], none⟩]))))) (
    .ops [⟨(some 84), .bin .add (.t 71) (.c (.lit (.int .i64 1))), none⟩, ⟨(some 71), .mov (.t 84), none⟩])))
def K_p_solve_Solver_bind_1 (N : Nat → Nat) : AC :=
 .seq (
  .ops [⟨(some 8), .mov (.c (.lit (.int .i64 0))), none⟩]) (
 .ret)
/-- (*azimuth/solve.Solver).bind -/
def C_p_solve_Solver_bind (N : Nat → Nat) : AFunc := ⟨85, [.inl 8],
 .seq (
  .ops [⟨(some 8), .mov (.c (.lit (.int .i64 0))), none⟩]) (
 .seq (
  .seq (
   .dops 1 [⟨(some 14), .mov (.t 0), none⟩, ⟨(some 15), .nilchk (.t 14), none⟩, ⟨(some 16), .faddr 0 (.t 15), none⟩, ⟨(some 17), .load none (.t 16), none⟩, ⟨(some 18), .mov (.t 2), none⟩, ⟨(some 20), .mov (.t 0), none⟩, ⟨(some 21), .nilchk (.t 20), none⟩, ⟨(some 22), .faddr 0 (.t 21), none⟩, ⟨(some 23), .load none (.t 22), none⟩, ⟨(some 24), .mov (.t 1), none⟩, ⟨(some 19), .call (.c (.fn (f_p_arena_Arena_Level N) [] [])) [(.t 17), (.t 18)], none⟩, ⟨(some 25), .call (.c (.fn (f_p_arena_Arena_Level N) [] [])) [(.t 23), (.t 24)], none⟩, ⟨(some 26), .bin .gtr (.t 19) (.t 25), none⟩] [0, 0, 0, 2, 0, 0, 0, 0, 2, 0, 1, 0, 0] []) (
  .cond (.t 26) (
   .seq (
    .dops 2 [⟨(some 28), .mov (.t 0), none⟩, ⟨(some 29), .nilchk (.t 28), none⟩, ⟨(some 30), .faddr 0 (.t 29), none⟩, ⟨(some 31), .load none (.t 30), none⟩, ⟨(some 32), .mov (.t 2), none⟩, ⟨(some 33), .mov (.t 0), none⟩, ⟨(some 34), .nilchk (.t 33), none⟩, ⟨(some 35), .faddr 0 (.t 34), none⟩, ⟨(some 36), .load none (.t 35), none⟩, ⟨(some 37), .mov (.t 1), none⟩, ⟨(some 38), .call (.c (.fn (f_p_arena_Arena_Level N) [] [])) [(.t 36), (.t 37)], none⟩, ⟨(some 39), .mov (.t 3), none⟩, ⟨(some 40), .un .not (.t 39), none⟩, ⟨(some 41), .call (.c (.fn (f_solve_Raise N) [] [])) [(.t 31), (.t 32), (.t 38), (.t 40)], none⟩, ⟨(some 27), .mov (.t 41), none⟩, ⟨(some 42), .extract (.t 27) 0, none⟩, ⟨(some 43), .extract (.t 27) 1, none⟩, ⟨(some 9), .mov (.t 42), none⟩, ⟨(some 10), .mov (.t 43), none⟩] [0, 0, 0, 2, 0, 0, 0, 0, 2, 0, 1, 0, 0, 0, 0, 0, 0, 0, 0] []) (
   .seq (
    .seq (
     .ops [⟨(some 44), .mov (.t 10), none⟩, ⟨(some 45), .eq true .pint (.t 44) (.c (.lit (.int .i64 0))), none⟩]) (
    .cond (.t 45) (
     .seq (
      .ops [⟨(some 46), .mov (.t 10), none⟩, ⟨(some 8), .mov (.t 46), none⟩]) (
     .ret)) (
     .skip))) (
   .ops [⟨(some 47), .mov (.t 9), none⟩, ⟨(some 2), .mov (.t 47), none⟩]))) (
   .skip))) (
 .seq (
  .ops [⟨(some 48), .mov (.t 0), none⟩, ⟨(some 49), .nilchk (.t 48), none⟩, ⟨(some 50), .faddr 0 (.t 49), none⟩, ⟨(some 51), .load none (.t 50), none⟩, ⟨(some 52), .mov (.t 1), none⟩, ⟨(some 53), .mov (.t 2), none⟩, ⟨(some 54), .mov (.t 3), none⟩, ⟨(some 55), .call (.c (.fn (f_p_arena_Arena_Bound N) [] [])) [(.t 51), (.t 52), (.t 53), (.t 54)], none⟩]) (
 .seq (
  .ops [⟨(some 56), .mov (.t 0), none⟩, ⟨(some 57), .nilchk (.t 56), none⟩, ⟨(some 58), .faddr 0 (.t 57), none⟩, ⟨(some 59), .load none (.t 58), none⟩, ⟨(some 60), .mov (.t 1), none⟩, ⟨(some 61), .call (.c (.fn (f_p_arena_Arena_High N) [] [])) [(.t 59), (.t 60)], none⟩, ⟨(some 11), .mov (.t 61), none⟩]) (
 .seq (
  .seq (
   .ops [⟨(some 62), .mov (.t 3), none⟩]) (
  .cond (.t 62) (
   .ops [⟨(some 63), .mov (.t 0), none⟩, ⟨(some 64), .nilchk (.t 63), none⟩, ⟨(some 65), .faddr 0 (.t 64), none⟩, ⟨(some 66), .load none (.t 65), none⟩, ⟨(some 67), .mov (.t 1), none⟩, ⟨(some 68), .call (.c (.fn (f_p_arena_Arena_Low N) [] [])) [(.t 66), (.t 67)], none⟩, ⟨(some 11), .mov (.t 68), none⟩]) (
   .skip))) (
 .seq (
  .seq (
   .ops [⟨(some 69), .mov (.t 11), none⟩, ⟨(some 70), .len (.t 69), none⟩, ⟨(some 71), .mov (.c (.lit (.int .i64 0))), none⟩]) (
  .block 0 (
   .loop (L_p_solve_Solver_bind_1 N)))) (K_p_solve_Solver_bind_1 N)))))), false⟩

def L_p_solve_Solver_heads_1 (N : Nat → Nat) : AC :=
          .seq (
           .ops [⟨(some 65), .bin .lss (.t 64) (.t 63), none⟩]) (
          .seq (
           .cond (.t 65) (
            .skip) (
            .exit 1)) (
          .seq (
           .block 2 (
            .seq (
             .ops [⟨(some 66), .mov (.t 64), none⟩, ⟨(some 67), .iaddr 1 (.t 62) (.t 64), none⟩, ⟨(some 68), .load none (.t 67), none⟩, ⟨(some 7), .mov (.t 66), none⟩, ⟨(some 8), .mov (.t 68), none⟩]) (
            .seq (
             .ops [⟨(some 69), .load (some 4) (.t 4), none⟩, ⟨(some 70), .mov (.t 8), none⟩, ⟨(some 71), .call (.c (.fn (f_solve_kid N) [] [])) [(.t 69), (.t 70)], none⟩, ⟨(some 9), .mov (.t 71), none⟩]) (
            .seq (
             .seq (
              .ops [⟨(some 72), .mov (.t 9), none⟩, ⟨(some 73), .bin .lss (.t 72) (.c (.lit (.int .i64 0))), none⟩]) (
             .cond (.t 73) (
              .seq (
               .ops [⟨(some 6), .mov (.c (.lit (.int .i64 10))), none⟩]) (
              .ret)) (
              .skip))) (
            .ops [⟨(some 74), .mov (.t 0), none⟩, ⟨(some 75), .mov (.t 9), none⟩, ⟨(some 76), .faddr 2 (.t 5), none⟩, ⟨(some 77), .load none (.t 76), none⟩, ⟨(some 78), .mov (.t 7), none⟩, ⟨(some 79), .iaddr 1 (.t 77) (.t 78), none⟩, ⟨(some 80), .load none (.t 79), none⟩, ⟨(some 81), .call (.c (.fn (f_p_solve_Solver_ask N) [] [])) [(.t 74), (.t 75), (.t 80)], none⟩]))))) (
          .ops [⟨(some 82), .bin .add (.t 64) (.c (.lit (.int .i64 1))), none⟩, ⟨(some 64), .mov (.t 82), none⟩])))
def K_p_solve_Solver_heads_1 (N : Nat → Nat) : AC :=
 .seq (
  .ops [⟨(some 6), .mov (.c (.lit (.int .i64 0))), none⟩]) (
 .ret)
/-- (*azimuth/solve.Solver).heads -/
def C_p_solve_Solver_heads (N : Nat → Nat) : AFunc := ⟨83, [.inl 6],
 .seq (
  .ops [⟨(some 4), .box (t_api_Head N) (.t 1), none⟩, ⟨(some 5), .box (t_api_Head N) (.t 2), none⟩, ⟨(some 6), .mov (.c (.lit (.int .i64 0))), none⟩]) (
 .seq (
  .block 0 (
   .seq (
    .ops [⟨(some 11), .faddr 0 (.t 4), none⟩, ⟨(some 12), .load none (.t 11), none⟩, ⟨(some 13), .eq false .pint (.t 12) (.c (.lit (.int .i64 6))), none⟩, ⟨(some 14), .mov (.t 13), none⟩, ⟨(some 15), .faddr 0 (.t 5), (some (14, false))⟩, ⟨(some 16), .load none (.t 15), (some (14, false))⟩, ⟨(some 17), .eq false .pint (.t 16) (.c (.lit (.int .i64 5))), (some (14, false))⟩, ⟨(some 18), .pick (.t 14) (.c (.lit (.bool true))) (.t 17), none⟩, ⟨(some 10), .mov (.t 18), none⟩]) (
   .cond (.t 10) (
    .seq (
     .ops [⟨(some 6), .mov (.c (.lit (.int .i64 0))), none⟩]) (
    .ret)) (
    .seq (
     .ops [⟨(some 20), .faddr 0 (.t 4), none⟩, ⟨(some 21), .load none (.t 20), none⟩, ⟨(some 22), .faddr 0 (.t 5), none⟩, ⟨(some 23), .load none (.t 22), none⟩, ⟨(some 24), .eq true .pint (.t 21) (.t 23), none⟩, ⟨(some 19), .mov (.t 24), none⟩]) (
    .cond (.t 19) (
     .seq (
      .ops [⟨(some 6), .mov (.c (.lit (.int .i64 10))), none⟩]) (
     .ret)) (
     .seq (
      .ops [⟨(some 26), .faddr 0 (.t 4), none⟩, ⟨(some 27), .load none (.t 26), none⟩, ⟨(some 28), .eq false .pint (.t 27) (.c (.lit (.int .i64 7))), none⟩, ⟨(some 25), .mov (.t 28), none⟩]) (
     .cond (.t 25) (
      .seq (
       .dops 6 [⟨(some 29), .mov (.t 0), none⟩, ⟨(some 30), .faddr 2 (.t 5), none⟩, ⟨(some 31), .load none (.t 30), none⟩, ⟨(some 32), .iaddr 1 (.t 31) (.c (.lit (.int .i64 0))), none⟩, ⟨(some 33), .load none (.t 32), none⟩, ⟨(some 34), .faddr 2 (.t 4), none⟩, ⟨(some 35), .load none (.t 34), none⟩, ⟨(some 36), .iaddr 1 (.t 35) (.c (.lit (.int .i64 0))), none⟩, ⟨(some 37), .load none (.t 36), none⟩, ⟨(some 38), .call (.c (.fn (f_p_solve_Solver_ask N) [] [])) [(.t 29), (.t 33), (.t 37)], none⟩] [0, 0, 2, 0, 2, 0, 2, 0, 2, 0] []) (
      .dops 7 [⟨(some 39), .mov (.t 0), none⟩, ⟨(some 40), .faddr 2 (.t 4), none⟩, ⟨(some 41), .load none (.t 40), none⟩, ⟨(some 42), .iaddr 1 (.t 41) (.c (.lit (.int .i64 1))), none⟩, ⟨(some 43), .load none (.t 42), none⟩, ⟨(some 44), .faddr 2 (.t 5), none⟩, ⟨(some 45), .load none (.t 44), none⟩, ⟨(some 46), .iaddr 1 (.t 45) (.c (.lit (.int .i64 1))), none⟩, ⟨(some 47), .load none (.t 46), none⟩, ⟨(some 48), .call (.c (.fn (f_p_solve_Solver_ask N) [] [])) [(.t 39), (.t 43), (.t 47)], none⟩] [0, 0, 2, 0, 2, 0, 2, 0, 2, 0] [])) (
      .seq (
       .ops [⟨(some 50), .faddr 0 (.t 4), none⟩, ⟨(some 51), .load none (.t 50), none⟩, ⟨(some 52), .eq false .pint (.t 51) (.c (.lit (.int .i64 9))), none⟩, ⟨(some 49), .mov (.t 52), none⟩]) (
      .cond (.t 49) (
       .seq (
        .ops [⟨(some 53), .mov (.t 0), none⟩, ⟨(some 54), .load (some 4) (.t 4), none⟩, ⟨(some 55), .load (some 4) (.t 5), none⟩, ⟨(some 56), .call (.c (.fn (f_p_solve_Solver_variants N) [] [])) [(.t 53), (.t 54), (.t 55)], none⟩, ⟨(some 6), .mov (.t 56), none⟩]) (
       .ret)) (
       .seq (
        .ops [⟨(some 58), .faddr 0 (.t 4), none⟩, ⟨(some 59), .load none (.t 58), none⟩, ⟨(some 60), .eq false .pint (.t 59) (.c (.lit (.int .i64 8))), none⟩, ⟨(some 57), .mov (.t 60), none⟩]) (
       .cond (.t 57) (
        .seq (
         .ops [⟨(some 61), .faddr 1 (.t 5), none⟩, ⟨(some 62), .load none (.t 61), none⟩, ⟨(some 63), .len (.t 62), none⟩, ⟨(some 64), .mov (.c (.lit (.int .i64 0))), none⟩]) (
        .block 1 (
         .loop (L_p_solve_Solver_heads_1 N)))) (
        .skip)))))))))))) (K_p_solve_Solver_heads_1 N)), false⟩

/-- (*azimuth/solve.Solver).step -/
def C_p_solve_Solver_step (N : Nat → Nat) : AFunc := ⟨94, [.inl 4],
 .seq (
  .ops [⟨(some 3), .box (t_solve_claim N) (.t 1), none⟩, ⟨(some 4), .mov (.c (.lit (.int .i64 0))), none⟩]) (
 .seq (
  .dops 1 [⟨(some 12), .mov (.t 0), none⟩, ⟨(some 13), .nilchk (.t 12), none⟩, ⟨(some 14), .faddr 0 (.t 13), none⟩, ⟨(some 15), .load none (.t 14), none⟩, ⟨(some 16), .faddr 0 (.t 3), none⟩, ⟨(some 17), .load none (.t 16), none⟩, ⟨(some 19), .mov (.t 0), none⟩, ⟨(some 20), .nilchk (.t 19), none⟩, ⟨(some 21), .faddr 0 (.t 20), none⟩, ⟨(some 22), .load none (.t 21), none⟩, ⟨(some 23), .faddr 1 (.t 3), none⟩, ⟨(some 24), .load none (.t 23), none⟩, ⟨(some 18), .call (.c (.fn (f_p_arena_Arena_IsVar N) [] [])) [(.t 15), (.t 17)], none⟩, ⟨(some 25), .call (.c (.fn (f_p_arena_Arena_IsVar N) [] [])) [(.t 22), (.t 24)], none⟩, ⟨(some 5), .mov (.t 18), none⟩, ⟨(some 6), .mov (.t 25), none⟩] [0, 0, 0, 2, 0, 2, 0, 0, 0, 2, 0, 2, 1, 0, 0, 0] []) (
 .seq (
  .block 0 (
   .seq (
    .dops 2 [⟨(some 27), .mov (.t 5), none⟩, ⟨(some 28), .mov (.t 27), none⟩, ⟨(some 29), .mov (.t 6), (some (28, true))⟩, ⟨(some 30), .un .not (.t 29), (some (28, true))⟩, ⟨(some 31), .mov (.t 30), (some (28, true))⟩, ⟨(some 32), .mov (.t 0), (some (31, false))⟩, ⟨(some 33), .nilchk (.t 32), (some (31, false))⟩, ⟨(some 34), .faddr 0 (.t 33), (some (31, false))⟩, ⟨(some 35), .load none (.t 34), (some (31, false))⟩, ⟨(some 36), .faddr 1 (.t 3), (some (31, false))⟩, ⟨(some 37), .load none (.t 36), (some (31, false))⟩, ⟨(some 39), .mov (.t 0), (some (31, false))⟩, ⟨(some 40), .nilchk (.t 39), (some (31, false))⟩, ⟨(some 41), .faddr 0 (.t 40), (some (31, false))⟩, ⟨(some 42), .load none (.t 41), (some (31, false))⟩, ⟨(some 43), .faddr 0 (.t 3), (some (31, false))⟩, ⟨(some 44), .load none (.t 43), (some (31, false))⟩, ⟨(some 38), .call (.c (.fn (f_p_arena_Arena_Level N) [] [])) [(.t 35), (.t 37)], (some (31, false))⟩, ⟨(some 45), .call (.c (.fn (f_p_arena_Arena_Level N) [] [])) [(.t 42), (.t 44)], (some (31, false))⟩, ⟨(some 46), .bin .leq (.t 38) (.t 45), (some (31, false))⟩, ⟨(some 47), .pick (.t 31) (.c (.lit (.bool true))) (.t 46), (some (28, true))⟩, ⟨(some 48), .pick (.t 28) (.t 47) (.c (.lit (.bool false))), none⟩, ⟨(some 26), .mov (.t 48), none⟩] [0, 0, 0, 0, 0, 0, 0, 0, 2, 0, 2, 0, 0, 0, 2, 0, 2, 1, 0, 0, 0, 0, 0] []) (
   .cond (.t 26) (
    .seq (
     .ops [⟨(some 49), .mov (.t 0), none⟩, ⟨(some 50), .faddr 0 (.t 3), none⟩, ⟨(some 51), .load none (.t 50), none⟩, ⟨(some 52), .faddr 1 (.t 3), none⟩, ⟨(some 53), .load none (.t 52), none⟩, ⟨(some 54), .call (.c (.fn (f_p_solve_Solver_bind N) [] [])) [(.t 49), (.t 51), (.t 53), (.c (.lit (.bool true)))], none⟩, ⟨(some 4), .mov (.t 54), none⟩]) (
    .ret)) (
    .seq (
     .ops [⟨(some 56), .mov (.t 6), none⟩, ⟨(some 55), .mov (.t 56), none⟩]) (
    .cond (.t 55) (
     .seq (
      .ops [⟨(some 57), .mov (.t 0), none⟩, ⟨(some 58), .faddr 1 (.t 3), none⟩, ⟨(some 59), .load none (.t 58), none⟩, ⟨(some 60), .faddr 0 (.t 3), none⟩, ⟨(some 61), .load none (.t 60), none⟩, ⟨(some 62), .call (.c (.fn (f_p_solve_Solver_bind N) [] [])) [(.t 57), (.t 59), (.t 61), (.c (.lit (.bool false)))], none⟩, ⟨(some 4), .mov (.t 62), none⟩]) (
     .ret)) (
     .skip)))))) (
 .seq (
  .dops 6 [⟨(some 64), .mov (.t 0), none⟩, ⟨(some 65), .nilchk (.t 64), none⟩, ⟨(some 66), .faddr 0 (.t 65), none⟩, ⟨(some 67), .load none (.t 66), none⟩, ⟨(some 68), .faddr 0 (.t 3), none⟩, ⟨(some 69), .load none (.t 68), none⟩, ⟨(some 70), .call (.c (.fn (f_p_arena_Arena_At N) [] [])) [(.t 67), (.t 69)], none⟩, ⟨(some 63), .mov (.t 70), none⟩, ⟨(some 71), .extract (.t 63) 0, none⟩, ⟨(some 72), .extract (.t 63) 1, none⟩, ⟨(some 7), .new (t_api_Head N) (.agg [(.lit (.int .i64 0)), (.lit (.slice none 0 0)), (.lit (.slice none 0 0)), (.lit (.bool false))]), none⟩, ⟨none, .store 4 (.t 7) (.t 71), none⟩, ⟨(some 8), .mov (.t 72), none⟩] [0, 0, 0, 2, 0, 2, 0, 0, 0, 0, 1, 0, 0] []) (
 .seq (
  .dops 7 [⟨(some 74), .mov (.t 0), none⟩, ⟨(some 75), .nilchk (.t 74), none⟩, ⟨(some 76), .faddr 0 (.t 75), none⟩, ⟨(some 77), .load none (.t 76), none⟩, ⟨(some 78), .faddr 1 (.t 3), none⟩, ⟨(some 79), .load none (.t 78), none⟩, ⟨(some 80), .call (.c (.fn (f_p_arena_Arena_At N) [] [])) [(.t 77), (.t 79)], none⟩, ⟨(some 73), .mov (.t 80), none⟩, ⟨(some 81), .extract (.t 73) 0, none⟩, ⟨(some 82), .extract (.t 73) 1, none⟩, ⟨(some 9), .new (t_api_Head N) (.agg [(.lit (.int .i64 0)), (.lit (.slice none 0 0)), (.lit (.slice none 0 0)), (.lit (.bool false))]), none⟩, ⟨none, .store 4 (.t 9) (.t 81), none⟩, ⟨(some 10), .mov (.t 82), none⟩] [0, 0, 0, 2, 0, 2, 0, 0, 0, 0, 1, 0, 0] []) (
 .seq (
  .ops [⟨(some 83), .mov (.t 0), none⟩, ⟨(some 84), .load (some 4) (.t 7), none⟩, ⟨(some 85), .load (some 4) (.t 9), none⟩, ⟨(some 86), .call (.c (.fn (f_p_solve_Solver_heads N) [] [])) [(.t 83), (.t 84), (.t 85)], none⟩, ⟨(some 11), .mov (.t 86), none⟩]) (
 .seq (
  .seq (
   .ops [⟨(some 87), .mov (.t 11), none⟩, ⟨(some 88), .eq false .pint (.t 87) (.c (.lit (.int .i64 10))), none⟩]) (
  .cond (.t 88) (
   .ops [⟨(some 89), .mov (.t 0), none⟩, ⟨(some 90), .load (some 2) (.t 3), none⟩, ⟨(some 91), .nilchk (.t 89), none⟩, ⟨(some 92), .faddr 6 (.t 91), none⟩, ⟨none, .store 2 (.t 92) (.t 90), none⟩]) (
   .skip))) (
 .seq (
  .ops [⟨(some 93), .mov (.t 11), none⟩, ⟨(some 4), .mov (.t 93), none⟩]) (
 .ret)))))))), false⟩

def L_p_solve_Solver_variants_1 (N : Nat → Nat) : AC :=
    .seq (
     .ops [⟨(some 25), .bin .lss (.t 24) (.t 23), none⟩]) (
    .seq (
     .cond (.t 25) (
      .skip) (
      .exit 0)) (
    .seq (
     .block 1 (
      .seq (
       .ops [⟨(some 26), .mov (.t 24), none⟩, ⟨(some 27), .iaddr 1 (.t 22) (.t 24), none⟩, ⟨(some 28), .load none (.t 27), none⟩, ⟨(some 7), .mov (.t 26), none⟩, ⟨(some 8), .mov (.t 28), none⟩]) (
      .seq (
       .ops [⟨(some 29), .load (some 4) (.t 5), none⟩, ⟨(some 30), .mov (.t 8), none⟩, ⟨(some 31), .call (.c (.fn (f_solve_kid N) [] [])) [(.t 29), (.t 30)], none⟩, ⟨(some 9), .mov (.t 31), none⟩]) (
      .seq (
       .seq (
        .ops [⟨(some 32), .mov (.t 9), none⟩, ⟨(some 33), .bin .lss (.t 32) (.c (.lit (.int .i64 0))), none⟩, ⟨(some 34), .mov (.t 33), none⟩, ⟨(some 35), .faddr 3 (.t 5), (some (34, true))⟩, ⟨(some 36), .load none (.t 35), (some (34, true))⟩, ⟨(some 37), .un .not (.t 36), (some (34, true))⟩, ⟨(some 38), .pick (.t 34) (.t 37) (.c (.lit (.bool false))), none⟩]) (
       .cond (.t 38) (
        .seq (
         .ops [⟨(some 6), .mov (.c (.lit (.int .i64 10))), none⟩]) (
        .ret)) (
        .skip))) (
      .seq (
       .ops [⟨(some 39), .mov (.t 9), none⟩, ⟨(some 40), .bin .geq (.t 39) (.c (.lit (.int .i64 0))), none⟩]) (
      .cond (.t 40) (
       .ops [⟨(some 41), .mov (.t 0), none⟩, ⟨(some 42), .faddr 2 (.t 4), none⟩, ⟨(some 43), .load none (.t 42), none⟩, ⟨(some 44), .mov (.t 7), none⟩, ⟨(some 45), .iaddr 1 (.t 43) (.t 44), none⟩, ⟨(some 46), .load none (.t 45), none⟩, ⟨(some 47), .mov (.t 9), none⟩, ⟨(some 48), .call (.c (.fn (f_p_solve_Solver_ask N) [] [])) [(.t 41), (.t 46), (.t 47)], none⟩]) (
       .skip))))))) (
    .ops [⟨(some 49), .bin .add (.t 24) (.c (.lit (.int .i64 1))), none⟩, ⟨(some 24), .mov (.t 49), none⟩])))
def L_p_solve_Solver_variants_2 (N : Nat → Nat) : AC :=
    .seq (
     .ops [⟨(some 54), .bin .lss (.t 53) (.t 52), none⟩]) (
    .seq (
     .cond (.t 54) (
      .skip) (
      .exit 2)) (
    .seq (
     .block 3 (
      .seq (
       .ops [⟨(some 55), .mov (.t 53), none⟩, ⟨(some 56), .iaddr 1 (.t 51) (.t 53), none⟩, ⟨(some 57), .load none (.t 56), none⟩, ⟨(some 10), .mov (.t 55), none⟩, ⟨(some 11), .mov (.t 57), none⟩]) (
      .seq (
       .seq (
        .ops [⟨(some 58), .faddr 3 (.t 4), none⟩, ⟨(some 59), .load none (.t 58), none⟩, ⟨(some 60), .un .not (.t 59), none⟩, ⟨(some 61), .mov (.t 60), none⟩, ⟨(some 62), .load (some 4) (.t 4), (some (61, false))⟩, ⟨(some 63), .mov (.t 11), (some (61, false))⟩, ⟨(some 64), .call (.c (.fn (f_solve_kid N) [] [])) [(.t 62), (.t 63)], (some (61, false))⟩, ⟨(some 65), .bin .geq (.t 64) (.c (.lit (.int .i64 0))), (some (61, false))⟩, ⟨(some 66), .pick (.t 61) (.c (.lit (.bool true))) (.t 65), none⟩]) (
       .cond (.t 66) (
        .exit 3) (
        .skip))) (
      .seq (
       .ops [⟨(some 68), .mov (.t 0), none⟩, ⟨(some 69), .call (.c (.fn (f_p_solve_Solver_any N) [] [])) [(.t 68)], none⟩, ⟨(some 67), .mov (.t 69), none⟩, ⟨(some 70), .extract (.t 67) 0, none⟩, ⟨(some 71), .extract (.t 67) 1, none⟩, ⟨(some 12), .mov (.t 70), none⟩, ⟨(some 13), .mov (.t 71), none⟩]) (
      .seq (
       .seq (
        .ops [⟨(some 72), .mov (.t 13), none⟩, ⟨(some 73), .eq true .pint (.t 72) (.c (.lit (.int .i64 0))), none⟩]) (
       .cond (.t 73) (
        .seq (
         .ops [⟨(some 74), .mov (.t 13), none⟩, ⟨(some 6), .mov (.t 74), none⟩]) (
        .ret)) (
        .skip))) (
      .ops [⟨(some 75), .mov (.t 0), none⟩, ⟨(some 76), .mov (.t 12), none⟩, ⟨(some 77), .faddr 2 (.t 5), none⟩, ⟨(some 78), .load none (.t 77), none⟩, ⟨(some 79), .mov (.t 10), none⟩, ⟨(some 80), .iaddr 1 (.t 78) (.t 79), none⟩, ⟨(some 81), .load none (.t 80), none⟩, ⟨(some 82), .call (.c (.fn (f_p_solve_Solver_ask N) [] [])) [(.t 75), (.t 76), (.t 81)], none⟩])))))) (
    .ops [⟨(some 83), .bin .add (.t 53) (.c (.lit (.int .i64 1))), none⟩, ⟨(some 53), .mov (.t 83), none⟩])))
def K_p_solve_Solver_variants_2 (N : Nat → Nat) : AC :=
 .seq (
  .ops [⟨(some 6), .mov (.c (.lit (.int .i64 0))), none⟩]) (
 .ret)
def K_p_solve_Solver_variants_1 (N : Nat → Nat) : AC :=
 .seq (
  .seq (
   .ops [⟨(some 50), .faddr 1 (.t 5), none⟩, ⟨(some 51), .load none (.t 50), none⟩, ⟨(some 52), .len (.t 51), none⟩, ⟨(some 53), .mov (.c (.lit (.int .i64 0))), none⟩]) (
  .block 2 (
   .loop (L_p_solve_Solver_variants_2 N)))) (K_p_solve_Solver_variants_2 N)
/-- (*azimuth/solve.Solver).variants -/
def C_p_solve_Solver_variants (N : Nat → Nat) : AFunc := ⟨84, [.inl 6],
 .seq (
  .ops [⟨(some 4), .box (t_api_Head N) (.t 1), none⟩, ⟨(some 5), .box (t_api_Head N) (.t 2), none⟩, ⟨(some 6), .mov (.c (.lit (.int .i64 0))), none⟩]) (
 .seq (
  .seq (
   .ops [⟨(some 14), .faddr 3 (.t 4), none⟩, ⟨(some 15), .load none (.t 14), none⟩, ⟨(some 16), .mov (.t 15), none⟩, ⟨(some 17), .faddr 3 (.t 5), (some (16, true))⟩, ⟨(some 18), .load none (.t 17), (some (16, true))⟩, ⟨(some 19), .un .not (.t 18), (some (16, true))⟩, ⟨(some 20), .pick (.t 16) (.t 19) (.c (.lit (.bool false))), none⟩]) (
  .cond (.t 20) (
   .seq (
    .ops [⟨(some 6), .mov (.c (.lit (.int .i64 10))), none⟩]) (
   .ret)) (
   .skip))) (
 .seq (
  .seq (
   .ops [⟨(some 21), .faddr 1 (.t 4), none⟩, ⟨(some 22), .load none (.t 21), none⟩, ⟨(some 23), .len (.t 22), none⟩, ⟨(some 24), .mov (.c (.lit (.int .i64 0))), none⟩]) (
  .block 0 (
   .loop (L_p_solve_Solver_variants_1 N)))) (K_p_solve_Solver_variants_1 N))), false⟩

def L_p_solve_raiser_part_1 (N : Nat → Nat) : AC :=
    .seq (
     .ops [⟨(some 51), .bin .lss (.t 50) (.t 49), none⟩]) (
    .seq (
     .cond (.t 51) (
      .skip) (
      .exit 0)) (
    .seq (
     .block 1 (
      .seq (
       .ops [⟨(some 52), .mov (.t 50), none⟩, ⟨(some 53), .iaddr 1 (.t 48) (.t 50), none⟩, ⟨(some 54), .load none (.t 53), none⟩, ⟨(some 10), .mov (.t 52), none⟩, ⟨(some 11), .mov (.t 54), none⟩]) (
      .seq (
       .ops [⟨(some 56), .mov (.t 0), none⟩, ⟨(some 57), .mov (.t 11), none⟩, ⟨(some 58), .mov (.t 2), none⟩, ⟨(some 59), .faddr 0 (.t 8), none⟩, ⟨(some 60), .load none (.t 59), none⟩, ⟨(some 61), .eq false .pint (.t 60) (.c (.lit (.int .i64 7))), none⟩, ⟨(some 62), .mov (.t 61), none⟩, ⟨(some 63), .mov (.t 10), (some (62, true))⟩, ⟨(some 64), .eq false .pint (.t 63) (.c (.lit (.int .i64 0))), (some (62, true))⟩, ⟨(some 65), .pick (.t 62) (.t 64) (.c (.lit (.bool false))), none⟩, ⟨(some 66), .eq true .pbool (.t 58) (.t 65), none⟩, ⟨(some 67), .call (.c (.fn (f_p_solve_raiser_part N) [] [])) [(.t 56), (.t 57), (.t 66)], none⟩, ⟨(some 55), .mov (.t 67), none⟩, ⟨(some 68), .extract (.t 55) 0, none⟩, ⟨(some 69), .extract (.t 55) 1, none⟩, ⟨(some 12), .mov (.t 68), none⟩, ⟨(some 13), .mov (.t 69), none⟩]) (
      .seq (
       .seq (
        .ops [⟨(some 70), .mov (.t 13), none⟩, ⟨(some 71), .eq true .pint (.t 70) (.c (.lit (.int .i64 0))), none⟩]) (
       .cond (.t 71) (
        .seq (
         .ops [⟨(some 72), .mov (.t 13), none⟩, ⟨(some 6), .mov (.c (.lit (.int .i64 0))), none⟩, ⟨(some 7), .mov (.t 72), none⟩]) (
        .ret)) (
        .skip))) (
      .ops [⟨(some 73), .faddr 2 (.t 8), none⟩, ⟨(some 74), .load none (.t 73), none⟩, ⟨(some 75), .mov (.t 10), none⟩, ⟨(some 76), .mov (.t 12), none⟩, ⟨(some 77), .iaddr 1 (.t 74) (.t 75), none⟩, ⟨none, .store 1 (.t 77) (.t 76), none⟩]))))) (
    .ops [⟨(some 78), .bin .add (.t 50) (.c (.lit (.int .i64 1))), none⟩, ⟨(some 50), .mov (.t 78), none⟩])))
def K_p_solve_raiser_part_1 (N : Nat → Nat) : AC :=
 .seq (
  .dops 14 [⟨(some 79), .mov (.t 0), none⟩, ⟨(some 80), .nilchk (.t 79), none⟩, ⟨(some 81), .faddr 0 (.t 80), none⟩, ⟨(some 82), .load none (.t 81), none⟩, ⟨(some 83), .load (some 4) (.t 8), none⟩, ⟨(some 84), .call (.c (.fn (f_p_arena_Arena_Head N) [] [])) [(.t 82), (.t 83)], none⟩, ⟨(some 85), .extract (.t 84) 0, none⟩, ⟨(some 86), .extract (.t 84) 1, none⟩, ⟨(some 6), .mov (.t 85), none⟩, ⟨(some 7), .mov (.t 86), none⟩] [0, 0, 0, 2, 2, 0, 0, 0, 0, 0] []) (
 .ret)
/-- (*azimuth/solve.raiser).part -/
def C_p_solve_raiser_part (N : Nat → Nat) : AFunc := ⟨87, [.inl 6, .inl 7],
 .seq (
  .ops [⟨(some 6), .mov (.c (.lit (.int .i64 0))), none⟩, ⟨(some 7), .mov (.c (.lit (.int .i64 0))), none⟩]) (
 .seq (
  .seq (
   .dops 1 [⟨(some 14), .mov (.t 0), none⟩, ⟨(some 15), .nilchk (.t 14), none⟩, ⟨(some 16), .faddr 0 (.t 15), none⟩, ⟨(some 17), .load none (.t 16), none⟩, ⟨(some 18), .mov (.t 1), none⟩, ⟨(some 20), .mov (.t 0), none⟩, ⟨(some 21), .nilchk (.t 20), none⟩, ⟨(some 22), .faddr 1 (.t 21), none⟩, ⟨(some 23), .load none (.t 22), none⟩, ⟨(some 19), .call (.c (.fn (f_p_arena_Arena_Level N) [] [])) [(.t 17), (.t 18)], none⟩, ⟨(some 24), .bin .leq (.t 19) (.t 23), none⟩] [0, 0, 0, 2, 0, 0, 0, 0, 2, 1, 0] []) (
  .cond (.t 24) (
   .seq (
    .ops [⟨(some 25), .mov (.t 1), none⟩, ⟨(some 6), .mov (.t 25), none⟩, ⟨(some 7), .mov (.c (.lit (.int .i64 0))), none⟩]) (
   .ret)) (
   .skip))) (
 .seq (
  .seq (
   .ops [⟨(some 26), .mov (.t 0), none⟩, ⟨(some 27), .nilchk (.t 26), none⟩, ⟨(some 28), .faddr 0 (.t 27), none⟩, ⟨(some 29), .load none (.t 28), none⟩, ⟨(some 30), .mov (.t 1), none⟩, ⟨(some 31), .call (.c (.fn (f_p_arena_Arena_IsVar N) [] [])) [(.t 29), (.t 30)], none⟩]) (
  .cond (.t 31) (
   .seq (
    .ops [⟨(some 32), .mov (.t 0), none⟩, ⟨(some 33), .mov (.t 1), none⟩, ⟨(some 34), .mov (.t 2), none⟩, ⟨(some 35), .call (.c (.fn (f_p_solve_raiser_variable N) [] [])) [(.t 32), (.t 33), (.t 34)], none⟩, ⟨(some 36), .extract (.t 35) 0, none⟩, ⟨(some 37), .extract (.t 35) 1, none⟩, ⟨(some 6), .mov (.t 36), none⟩, ⟨(some 7), .mov (.t 37), none⟩]) (
   .ret)) (
   .skip))) (
 .seq (
  .ops [⟨(some 39), .mov (.t 0), none⟩, ⟨(some 40), .nilchk (.t 39), none⟩, ⟨(some 41), .faddr 0 (.t 40), none⟩, ⟨(some 42), .load none (.t 41), none⟩, ⟨(some 43), .mov (.t 1), none⟩, ⟨(some 44), .call (.c (.fn (f_p_arena_Arena_At N) [] [])) [(.t 42), (.t 43)], none⟩, ⟨(some 38), .mov (.t 44), none⟩, ⟨(some 45), .extract (.t 38) 0, none⟩, ⟨(some 46), .extract (.t 38) 1, none⟩, ⟨(some 8), .new (t_api_Head N) (.agg [(.lit (.int .i64 0)), (.lit (.slice none 0 0)), (.lit (.slice none 0 0)), (.lit (.bool false))]), none⟩, ⟨none, .store 4 (.t 8) (.t 45), none⟩, ⟨(some 9), .mov (.t 46), none⟩]) (
 .seq (
  .seq (
   .ops [⟨(some 47), .faddr 2 (.t 8), none⟩, ⟨(some 48), .load none (.t 47), none⟩, ⟨(some 49), .len (.t 48), none⟩, ⟨(some 50), .mov (.c (.lit (.int .i64 0))), none⟩]) (
  .block 0 (
   .loop (L_p_solve_raiser_part_1 N)))) (K_p_solve_raiser_part_1 N))))), false⟩

def L_p_solve_raiser_variable_1 (N : Nat → Nat) : AC :=
    .seq (
     .ops [⟨(some 78), .bin .lss (.t 77) (.t 76), none⟩]) (
    .seq (
     .cond (.t 78) (
      .skip) (
      .exit 0)) (
    .seq (
     .block 1 (
      .seq (
       .ops [⟨(some 79), .iaddr 1 (.t 75) (.t 77), none⟩, ⟨(some 80), .load none (.t 79), none⟩, ⟨(some 15), .mov (.t 80), none⟩]) (
      .seq (
       .ops [⟨(some 82), .mov (.t 0), none⟩, ⟨(some 83), .mov (.t 15), none⟩, ⟨(some 84), .mov (.t 2), none⟩, ⟨(some 85), .call (.c (.fn (f_p_solve_raiser_part N) [] [])) [(.t 82), (.t 83), (.t 84)], none⟩, ⟨(some 81), .mov (.t 85), none⟩, ⟨(some 86), .extract (.t 81) 0, none⟩, ⟨(some 87), .extract (.t 81) 1, none⟩, ⟨(some 16), .mov (.t 86), none⟩, ⟨(some 17), .mov (.t 87), none⟩]) (
      .seq (
       .seq (
        .ops [⟨(some 88), .mov (.t 17), none⟩, ⟨(some 89), .eq true .pint (.t 88) (.c (.lit (.int .i64 0))), none⟩]) (
       .cond (.t 89) (
        .seq (
         .ops [⟨(some 90), .mov (.t 17), none⟩, ⟨(some 6), .mov (.c (.lit (.int .i64 0))), none⟩, ⟨(some 7), .mov (.t 90), none⟩]) (
        .ret)) (
        .skip))) (
      .ops [⟨(some 91), .mov (.t 0), none⟩, ⟨(some 92), .nilchk (.t 91), none⟩, ⟨(some 93), .faddr 0 (.t 92), none⟩, ⟨(some 94), .load none (.t 93), none⟩, ⟨(some 95), .mov (.t 11), none⟩, ⟨(some 96), .mov (.t 16), none⟩, ⟨(some 97), .mov (.t 2), none⟩, ⟨(some 98), .un .not (.t 97), none⟩, ⟨(some 99), .call (.c (.fn (f_p_arena_Arena_Bound N) [] [])) [(.t 94), (.t 95), (.t 96), (.t 98)], none⟩]))))) (
    .ops [⟨(some 100), .bin .add (.t 77) (.c (.lit (.int .i64 1))), none⟩, ⟨(some 77), .mov (.t 100), none⟩])))
def K_p_solve_raiser_variable_1 (N : Nat → Nat) : AC :=
 .seq (
  .ops [⟨(some 101), .mov (.t 11), none⟩, ⟨(some 6), .mov (.t 101), none⟩, ⟨(some 7), .mov (.c (.lit (.int .i64 0))), none⟩]) (
 .ret)
/-- (*azimuth/solve.raiser).variable -/
def C_p_solve_raiser_variable (N : Nat → Nat) : AFunc := ⟨102, [.inl 6, .inl 7],
 .seq (
  .ops [⟨(some 6), .mov (.c (.lit (.int .i64 0))), none⟩, ⟨(some 7), .mov (.c (.lit (.int .i64 0))), none⟩]) (
 .seq (
  .ops [⟨(some 18), .mov (.t 1), none⟩, ⟨(some 19), .mov (.t 2), none⟩, ⟨(some 20), .call (.c (.fn (f_solve_way N) [] [])) [(.t 19)], none⟩, ⟨(some 21), .build [(.lit (.int .i64 0)), (.lit (.int .i64 0))] [(0, 1, (.t 18)), (1, 1, (.t 20))], none⟩, ⟨(some 8), .new (t_solve_claim N) (.agg [(.lit (.int .i64 0)), (.lit (.int .i64 0))]), none⟩, ⟨none, .store 2 (.t 8) (.t 21), none⟩]) (
 .seq (
  .seq (
   .dops 2 [⟨(some 23), .mov (.t 0), none⟩, ⟨(some 24), .nilchk (.t 23), none⟩, ⟨(some 25), .faddr 2 (.t 24), none⟩, ⟨(some 26), .load none (.t 25), none⟩, ⟨(some 27), .load (some 2) (.t 8), none⟩, ⟨(some 28), .lookup (.agg (.struct [(0, none, .pint), (1, none, .pint)])) (.lit (.int .i64 0)) (.t 26) (.t 27) true, none⟩, ⟨(some 22), .mov (.t 28), none⟩, ⟨(some 29), .extract (.t 22) 0, none⟩, ⟨(some 30), .extract (.t 22) 1, none⟩, ⟨(some 9), .mov (.t 29), none⟩, ⟨(some 10), .mov (.t 30), none⟩] [0, 0, 0, 2, 2, 0, 0, 0, 0, 0, 0] []) (
  .seq (
   .ops [⟨(some 31), .mov (.t 10), none⟩]) (
  .cond (.t 31) (
   .seq (
    .ops [⟨(some 32), .mov (.t 9), none⟩, ⟨(some 6), .mov (.t 32), none⟩, ⟨(some 7), .mov (.c (.lit (.int .i64 0))), none⟩]) (
   .ret)) (
   .skip)))) (
 .seq (
  .dops 5 [⟨(some 34), .mov (.t 0), none⟩, ⟨(some 35), .nilchk (.t 34), none⟩, ⟨(some 36), .faddr 0 (.t 35), none⟩, ⟨(some 37), .load none (.t 36), none⟩, ⟨(some 38), .mov (.t 0), none⟩, ⟨(some 39), .nilchk (.t 38), none⟩, ⟨(some 40), .faddr 1 (.t 39), none⟩, ⟨(some 41), .load none (.t 40), none⟩, ⟨(some 42), .call (.c (.fn (f_p_arena_Arena_Var N) [] [])) [(.t 37), (.t 41)], none⟩, ⟨(some 33), .mov (.t 42), none⟩, ⟨(some 43), .extract (.t 33) 0, none⟩, ⟨(some 44), .extract (.t 33) 1, none⟩, ⟨(some 11), .mov (.t 43), none⟩, ⟨(some 12), .mov (.t 44), none⟩] [0, 0, 0, 2, 0, 0, 0, 2, 0, 0, 0, 0, 0, 0] []) (
 .seq (
  .seq (
   .ops [⟨(some 45), .mov (.t 12), none⟩, ⟨(some 46), .eq true .pint (.t 45) (.c (.lit (.int .i64 0))), none⟩]) (
  .cond (.t 46) (
   .seq (
    .ops [⟨(some 47), .mov (.t 12), none⟩, ⟨(some 6), .mov (.c (.lit (.int .i64 0))), none⟩, ⟨(some 7), .mov (.t 47), none⟩]) (
   .ret)) (
   .skip))) (
 .seq (
  .dops 8 [⟨(some 48), .mov (.t 0), none⟩, ⟨(some 49), .nilchk (.t 48), none⟩, ⟨(some 50), .faddr 2 (.t 49), none⟩, ⟨(some 51), .load none (.t 50), none⟩, ⟨(some 52), .load (some 2) (.t 8), none⟩, ⟨(some 53), .mov (.t 11), none⟩, ⟨none, .mapupd (.agg (.struct [(0, none, .pint), (1, none, .pint)])) (.t 51) (.t 52) (.t 53), none⟩] [0, 0, 0, 2, 2, 0, 0] []) (
 .seq (
  .ops [⟨(some 54), .mov (.t 0), none⟩, ⟨(some 55), .nilchk (.t 54), none⟩, ⟨(some 56), .faddr 0 (.t 55), none⟩, ⟨(some 57), .load none (.t 56), none⟩, ⟨(some 58), .mov (.t 1), none⟩, ⟨(some 59), .call (.c (.fn (f_p_arena_Arena_High N) [] [])) [(.t 57), (.t 58)], none⟩, ⟨(some 13), .mov (.t 59), none⟩]) (
 .seq (
  .seq (
   .ops [⟨(some 60), .mov (.t 2), none⟩]) (
  .cond (.t 60) (
   .ops [⟨(some 61), .mov (.t 0), none⟩, ⟨(some 62), .nilchk (.t 61), none⟩, ⟨(some 63), .faddr 0 (.t 62), none⟩, ⟨(some 64), .load none (.t 63), none⟩, ⟨(some 65), .mov (.t 1), none⟩, ⟨(some 66), .call (.c (.fn (f_p_arena_Arena_Low N) [] [])) [(.t 64), (.t 65)], none⟩, ⟨(some 13), .mov (.t 66), none⟩]) (
   .skip))) (
 .seq (
  .ops [⟨(some 67), .mov (.t 0), none⟩, ⟨(some 68), .nilchk (.t 67), none⟩, ⟨(some 69), .faddr 0 (.t 68), none⟩, ⟨(some 70), .load none (.t 69), none⟩, ⟨(some 71), .mov (.t 1), none⟩, ⟨(some 72), .mov (.t 11), none⟩, ⟨(some 73), .mov (.t 2), none⟩, ⟨(some 74), .call (.c (.fn (f_p_arena_Arena_Bound N) [] [])) [(.t 70), (.t 71), (.t 72), (.t 73)], none⟩]) (
 .seq (
  .seq (
   .ops [⟨(some 75), .mov (.t 13), none⟩, ⟨(some 76), .len (.t 75), none⟩, ⟨(some 77), .mov (.c (.lit (.int .i64 0))), none⟩]) (
  .block 0 (
   .loop (L_p_solve_raiser_variable_1 N)))) (K_p_solve_raiser_variable_1 N)))))))))), false⟩

/-- azimuth/solve.New -/
def C_solve_New (N : Nat → Nat) : AFunc := ⟨9, [.inl 2],
 .seq (
  .ops [⟨(some 2), .mov (.c (.lit (.pointer none))), none⟩]) (
 .seq (
  .seq (
   .ops [⟨(some 3), .mov (.t 0), none⟩, ⟨(some 4), .eq false .pptr (.t 3) (.c (.lit (.pointer none))), none⟩]) (
  .cond (.t 4) (
   .seq (
    .ops [⟨(some 2), .mov (.c (.lit (.pointer none))), none⟩]) (
   .ret)) (
   .skip))) (
 .seq (
  .ops [⟨(some 5), .mov (.t 0), none⟩, ⟨(some 6), .mkmap, none⟩, ⟨(some 7), .build [(.lit (.pointer none)), (.lit (.map none)), (.lit (.slice none 0 0)), (.lit (.int .i64 0)), (.lit (.int .i64 0)), (.lit (.int .i64 0)), (.lit (.int .i64 0)), (.lit (.int .i64 0))] [(0, 1, (.t 5)), (1, 1, (.t 6)), (3, 1, (.c (.lit (.int .i64 (-1)))))], none⟩, ⟨(some 8), .box (t_solve_Solver N) (.t 7), none⟩, ⟨(some 2), .mov (.t 8), none⟩]) (
 .ret))), false⟩

/-- azimuth/solve.Raise -/
def C_solve_Raise (N : Nat → Nat) : AFunc := ⟨36, [.inl 8, .inl 9],
 .seq (
  .ops [⟨(some 8), .mov (.c (.lit (.int .i64 0))), none⟩, ⟨(some 9), .mov (.c (.lit (.int .i64 0))), none⟩]) (
 .seq (
  .seq (
   .ops [⟨(some 10), .mov (.t 0), none⟩, ⟨(some 11), .eq false .pptr (.t 10) (.c (.lit (.pointer none))), none⟩, ⟨(some 12), .mov (.t 11), none⟩, ⟨(some 13), .mov (.t 1), (some (12, false))⟩, ⟨(some 14), .bin .lss (.t 13) (.c (.lit (.int .i64 0))), (some (12, false))⟩, ⟨(some 15), .pick (.t 12) (.c (.lit (.bool true))) (.t 14), none⟩, ⟨(some 16), .mov (.t 15), none⟩, ⟨(some 17), .mov (.t 1), (some (16, false))⟩, ⟨(some 18), .mov (.t 0), (some (16, false))⟩, ⟨(some 19), .call (.c (.fn (f_p_arena_Arena_Len N) [] [])) [(.t 18)], (some (16, false))⟩, ⟨(some 20), .bin .geq (.t 17) (.t 19), (some (16, false))⟩, ⟨(some 21), .pick (.t 16) (.c (.lit (.bool true))) (.t 20), none⟩, ⟨(some 22), .mov (.t 21), none⟩, ⟨(some 23), .mov (.t 2), (some (22, false))⟩, ⟨(some 24), .bin .lss (.t 23) (.c (.lit (.int .i64 0))), (some (22, false))⟩, ⟨(some 25), .pick (.t 22) (.c (.lit (.bool true))) (.t 24), none⟩]) (
  .cond (.t 25) (
   .seq (
    .ops [⟨(some 8), .mov (.c (.lit (.int .i64 0))), none⟩, ⟨(some 9), .mov (.c (.lit (.int .i64 1))), none⟩]) (
   .ret)) (
   .skip))) (
 .seq (
  .ops [⟨(some 26), .mov (.t 0), none⟩, ⟨(some 27), .mov (.t 2), none⟩, ⟨(some 28), .mkmap, none⟩, ⟨(some 29), .build [(.lit (.pointer none)), (.lit (.int .i64 0)), (.lit (.map none))] [(0, 1, (.t 26)), (1, 1, (.t 27)), (2, 1, (.t 28))], none⟩, ⟨(some 30), .box (t_solve_raiser N) (.t 29), none⟩, ⟨(some 31), .mov (.t 1), none⟩, ⟨(some 32), .mov (.t 3), none⟩, ⟨(some 33), .call (.c (.fn (f_p_solve_raiser_part N) [] [])) [(.t 30), (.t 31), (.t 32)], none⟩, ⟨(some 34), .extract (.t 33) 0, none⟩, ⟨(some 35), .extract (.t 33) 1, none⟩, ⟨(some 8), .mov (.t 34), none⟩, ⟨(some 9), .mov (.t 35), none⟩]) (
 .ret))), false⟩

/-- azimuth/solve.kid -/
def C_solve_kid (N : Nat → Nat) : AFunc := ⟨21, [.inl 4],
 .seq (
  .ops [⟨(some 2), .box (t_api_Head N) (.t 0), none⟩, ⟨(some 4), .mov (.c (.lit (.int .i64 0))), none⟩]) (
 .seq (
  .ops [⟨(some 8), .faddr 1 (.t 2), none⟩, ⟨(some 9), .load none (.t 8), none⟩, ⟨(some 10), .mov (.t 1), none⟩, ⟨(some 11), .call (.c (.fn (f_slices_BinarySearch_sl_string_string N) [] [])) [(.t 9), (.t 10)], none⟩, ⟨(some 7), .mov (.t 11), none⟩, ⟨(some 12), .extract (.t 7) 0, none⟩, ⟨(some 13), .extract (.t 7) 1, none⟩, ⟨(some 5), .mov (.t 12), none⟩, ⟨(some 6), .mov (.t 13), none⟩]) (
 .seq (
  .seq (
   .ops [⟨(some 14), .mov (.t 6), none⟩, ⟨(some 15), .un .not (.t 14), none⟩]) (
  .cond (.t 15) (
   .seq (
    .ops [⟨(some 4), .mov (.c (.lit (.int .i64 (-1)))), none⟩]) (
   .ret)) (
   .skip))) (
 .seq (
  .ops [⟨(some 16), .faddr 2 (.t 2), none⟩, ⟨(some 17), .load none (.t 16), none⟩, ⟨(some 18), .mov (.t 5), none⟩, ⟨(some 19), .iaddr 1 (.t 17) (.t 18), none⟩, ⟨(some 20), .load none (.t 19), none⟩, ⟨(some 4), .mov (.t 20), none⟩]) (
 .ret)))), false⟩

/-- azimuth/solve.way -/
def C_solve_way (N : Nat → Nat) : AFunc := ⟨4, [.inl 2],
 .seq (
  .ops [⟨(some 2), .mov (.c (.lit (.int .i64 0))), none⟩]) (
 .seq (
  .seq (
   .ops [⟨(some 3), .mov (.t 0), none⟩]) (
  .cond (.t 3) (
   .seq (
    .ops [⟨(some 2), .mov (.c (.lit (.int .i64 1))), none⟩]) (
   .ret)) (
   .skip))) (
 .seq (
  .ops [⟨(some 2), .mov (.c (.lit (.int .i64 0))), none⟩]) (
 .ret))), false⟩
end Go.Proofs.Eng
/- Templates of functions, as the engine takes them; numbers of functions and types by names. Printed by tm.py. -/
set_option linter.unusedVariables false
set_option maxRecDepth 100000
namespace Go.Proofs.Eng
open Go

/-- azimuth/azimuthlaw13.SolveNone -/
def C_law13_SolveNone (N : Nat → Nat) : AFunc := ⟨35, [.inl 4],
 .seq (
  .ops [⟨(some 4), .mov (.c (.lit (.bool false))), none⟩]) (
 .seq (
  .seq (
   .ops [⟨(some 9), .call (.c (.fn (f_law13_lives N) [] [])) [], none⟩, ⟨(some 10), .un .not (.t 9), none⟩]) (
  .cond (.t 10) (
   .seq (
    .ops [⟨(some 4), .mov (.c (.lit (.bool false))), none⟩]) (
   .ret)) (
   .skip))) (
 .seq (
  .ops [⟨(some 5), .mov (.c (.lit (.pointer none))), none⟩]) (
 .seq (
  .ops [⟨(some 12), .mov (.t 5), none⟩, ⟨(some 13), .call (.c (.fn (f_p_solve_Solver_Clash N) [] [])) [(.t 12)], none⟩, ⟨(some 11), .mov (.t 13), none⟩, ⟨(some 14), .extract (.t 11) 0, none⟩, ⟨(some 15), .extract (.t 11) 1, none⟩, ⟨(some 16), .extract (.t 11) 2, none⟩, ⟨(some 6), .mov (.t 14), none⟩, ⟨(some 7), .mov (.t 15), none⟩, ⟨(some 8), .mov (.t 16), none⟩]) (
 .seq (
  .ops [⟨(some 17), .call (.c (.fn (f_solve_New N) [] [])) [(.c (.lit (.pointer none)))], none⟩, ⟨(some 18), .eq false .pptr (.t 17) (.c (.lit (.pointer none))), none⟩, ⟨(some 19), .mov (.t 18), none⟩, ⟨(some 20), .mov (.t 5), (some (19, true))⟩, ⟨(some 21), .mov (.t 0), (some (19, true))⟩, ⟨(some 22), .mov (.t 1), (some (19, true))⟩, ⟨(some 23), .call (.c (.fn (f_p_solve_Solver_Claim N) [] [])) [(.t 20), (.t 21), (.t 22)], (some (19, true))⟩, ⟨(some 24), .eq false .pint (.t 23) (.c (.lit (.int .i64 1))), (some (19, true))⟩, ⟨(some 25), .pick (.t 19) (.t 24) (.c (.lit (.bool false))), none⟩, ⟨(some 26), .mov (.t 25), none⟩, ⟨(some 27), .mov (.t 5), (some (26, true))⟩, ⟨(some 28), .call (.c (.fn (f_p_solve_Solver_Claims N) [] [])) [(.t 27)], (some (26, true))⟩, ⟨(some 29), .eq false .pint (.t 28) (.c (.lit (.int .i64 0))), (some (26, true))⟩, ⟨(some 30), .pick (.t 26) (.t 29) (.c (.lit (.bool false))), none⟩, ⟨(some 31), .mov (.t 30), none⟩, ⟨(some 32), .mov (.t 8), (some (31, true))⟩, ⟨(some 33), .un .not (.t 32), (some (31, true))⟩, ⟨(some 34), .pick (.t 31) (.t 33) (.c (.lit (.bool false))), none⟩, ⟨(some 4), .mov (.t 34), none⟩]) (
 .ret))))), false⟩

/-- azimuth/azimuthlaw13.lives -/
def C_law13_lives (N : Nat → Nat) : AFunc := ⟨54, [.inl 0],
 .seq (
  .ops [⟨(some 0), .mov (.c (.lit (.bool false))), none⟩]) (
 .seq (
  .ops [⟨(some 11), .call (.c (.fn (f_arena_New N) [] [])) [(.c (.lit (.int .i64 20)))], none⟩, ⟨(some 10), .mov (.t 11), none⟩, ⟨(some 12), .extract (.t 10) 0, none⟩, ⟨(some 13), .extract (.t 10) 1, none⟩, ⟨(some 1), .mov (.t 12), none⟩, ⟨(some 2), .mov (.t 13), none⟩]) (
 .seq (
  .ops [⟨(some 15), .mov (.t 1), none⟩, ⟨(some 16), .build [(.lit (.int .i64 0)), (.lit (.slice none 0 0)), (.lit (.slice none 0 0)), (.lit (.bool false))] [(0, 1, (.c (.lit (.int .i64 0))))], none⟩, ⟨(some 17), .call (.c (.fn (f_p_arena_Arena_Head N) [] [])) [(.t 15), (.t 16)], none⟩, ⟨(some 14), .mov (.t 17), none⟩, ⟨(some 18), .extract (.t 14) 0, none⟩, ⟨(some 19), .extract (.t 14) 1, none⟩, ⟨(some 3), .mov (.t 18), none⟩, ⟨(some 4), .mov (.t 19), none⟩]) (
 .seq (
  .ops [⟨(some 21), .mov (.t 1), none⟩, ⟨(some 22), .call (.c (.fn (f_p_arena_Arena_Var N) [] [])) [(.t 21), (.c (.lit (.int .i64 0)))], none⟩, ⟨(some 20), .mov (.t 22), none⟩, ⟨(some 23), .extract (.t 20) 0, none⟩, ⟨(some 24), .extract (.t 20) 1, none⟩, ⟨(some 5), .mov (.t 23), none⟩, ⟨(some 6), .mov (.t 24), none⟩]) (
 .seq (
  .ops [⟨(some 26), .mov (.t 1), none⟩, ⟨(some 27), .build [(.lit (.int .i64 0)), (.lit (.slice none 0 0)), (.lit (.slice none 0 0)), (.lit (.bool false))] [(0, 1, (.c (.lit (.int .i64 2))))], none⟩, ⟨(some 28), .call (.c (.fn (f_p_arena_Arena_Head N) [] [])) [(.t 26), (.t 27)], none⟩, ⟨(some 25), .mov (.t 28), none⟩, ⟨(some 29), .extract (.t 25) 0, none⟩, ⟨(some 30), .extract (.t 25) 1, none⟩, ⟨(some 7), .mov (.t 29), none⟩, ⟨(some 8), .mov (.t 30), none⟩]) (
 .seq (
  .ops [⟨(some 31), .mov (.t 1), none⟩, ⟨(some 32), .call (.c (.fn (f_solve_New N) [] [])) [(.t 31)], none⟩, ⟨(some 9), .mov (.t 32), none⟩]) (
 .seq (
  .ops [⟨(some 33), .mov (.t 2), none⟩, ⟨(some 34), .eq false .pint (.t 33) (.c (.lit (.int .i64 0))), none⟩, ⟨(some 35), .mov (.t 34), none⟩, ⟨(some 36), .mov (.t 9), (some (35, true))⟩, ⟨(some 37), .mov (.t 3), (some (35, true))⟩, ⟨(some 38), .mov (.t 5), (some (35, true))⟩, ⟨(some 39), .call (.c (.fn (f_p_solve_Solver_Claim N) [] [])) [(.t 36), (.t 37), (.t 38)], (some (35, true))⟩, ⟨(some 40), .eq false .pint (.t 39) (.c (.lit (.int .i64 0))), (some (35, true))⟩, ⟨(some 41), .pick (.t 35) (.t 40) (.c (.lit (.bool false))), none⟩, ⟨(some 42), .mov (.t 41), none⟩, ⟨(some 43), .mov (.t 9), (some (42, true))⟩, ⟨(some 44), .mov (.t 5), (some (42, true))⟩, ⟨(some 45), .mov (.t 7), (some (42, true))⟩, ⟨(some 46), .call (.c (.fn (f_p_solve_Solver_Claim N) [] [])) [(.t 43), (.t 44), (.t 45)], (some (42, true))⟩, ⟨(some 47), .eq false .pint (.t 46) (.c (.lit (.int .i64 10))), (some (42, true))⟩, ⟨(some 48), .pick (.t 42) (.t 47) (.c (.lit (.bool false))), none⟩, ⟨(some 49), .mov (.t 48), none⟩, ⟨(some 50), .mov (.t 9), (some (49, true))⟩, ⟨(some 51), .call (.c (.fn (f_p_solve_Solver_Claims N) [] [])) [(.t 50)], (some (49, true))⟩, ⟨(some 52), .eq false .pint (.t 51) (.c (.lit (.int .i64 1))), (some (49, true))⟩, ⟨(some 53), .pick (.t 49) (.t 52) (.c (.lit (.bool false))), none⟩, ⟨(some 0), .mov (.t 53), none⟩]) (
 .ret))))))), false⟩
end Go.Proofs.Eng
/- The law SolveNone, run by the engine. -/
set_option linter.unusedVariables false
set_option linter.unusedSimpArgs false
set_option maxRecDepth 100000
namespace Go.Proofs.Eng
open Go
section
variable {Γ : Sums} {A : Tab} {N : Nat → Nat}
@[simp] theorem aeq_nilp : aeq .pptr (.lit (.pointer none)) (.lit (.pointer none)) = some true := _root_.id rfl
theorem solve_New_nil (h : Has Γ A (f_solve_New N) (C_solve_New N)) (H : Hp) : (lim Γ A).call (f_solve_New N) [.lit (.pointer none)] H = some (.lit (.pointer none), none) := by
  apply h.call (by rfl)
  simp [C_solve_New]
theorem solve_Claim_nil (h : Has Γ A (f_p_solve_Solver_Claim N) (C_p_solve_Solver_Claim N)) (i j : Int) (H : Hp) : (lim Γ A).call (f_p_solve_Solver_Claim N) [.lit (.pointer none), avInt .i64 i, avInt .i64 j] H = some (avInt .i64 1, none) := by
  apply h.call (by rfl)
  simp [C_p_solve_Solver_Claim]
theorem solve_Claims_nil (h : Has Γ A (f_p_solve_Solver_Claims N) (C_p_solve_Solver_Claims N)) (H : Hp) : (lim Γ A).call (f_p_solve_Solver_Claims N) [.lit (.pointer none)] H = some (avInt .i64 0, none) := by
  apply h.call (by rfl)
  simp [C_p_solve_Solver_Claims]
theorem solve_Clash_nil (h : Has Γ A (f_p_solve_Solver_Clash N) (C_p_solve_Solver_Clash N)) (H : Hp) : (lim Γ A).call (f_p_solve_Solver_Clash N) [.lit (.pointer none)] H = some (.tup [avInt .i64 0, avInt .i64 0, avBool false], none) := by
  apply h.call (by rfl)
  simp [C_p_solve_Solver_Clash]
theorem law_SolveNone (h1 : Has Γ A (f_solve_New N) (C_solve_New N)) (h2 : Has Γ A (f_p_solve_Solver_Claim N) (C_p_solve_Solver_Claim N)) (h3 : Has Γ A (f_p_solve_Solver_Claims N) (C_p_solve_Solver_Claims N)) (h4 : Has Γ A (f_p_solve_Solver_Clash N) (C_p_solve_Solver_Clash N))
    (h : Has Γ A (f_law13_SolveNone N) (C_law13_SolveNone N)) (hlives : (lim Γ A).call (f_law13_lives N) [] { l := [], d := none } = some (avBool true, none)) (i j : Int) : ∃ r, (lim Γ A).ent (f_law13_SolveNone N) [avInt .i64 i, avInt .i64 j] { l := [], d := none } = some r ∧ r.1 = avBool true := by
  apply h.entP (by rfl)
  simp [C_law13_SolveNone, hlives, solve_New_nil h1, solve_Claim_nil h2, solve_Claims_nil h3, solve_Clash_nil h4]
end
end Go.Proofs.Eng
/- The tree's builder: what is built. -/
set_option linter.unusedVariables false
set_option linter.unusedSimpArgs false
set_option maxRecDepth 100000
namespace Go.Proofs.Eng
open Go
@[simp ↓] theorem wpA_bslice1 {E : Env} {ρ : Rho} {H : Hp} {Q : AV → Hp → Prop} {e : TypeId} {sz len : Nat} {lay : Option Nat} {z : List AV} {ps : List (Nat × Nat × Opd)} : wpA E 1 (.bslice e sz lay len z ps) ρ H Q =
    bindO (fillA (repl len z) (ps.map fun (o, s, x) => (o, s, evR ρ x))) fun cs => andQ ((chunk sz lay len cs).all (fun y => y.good && y.cells.length == sz && (lay.isSome || y.one)) = true) (Q (.ra sz H.l.length 0 len) (halloc H (.arr sz (chunk sz lay len cs) e))) := by
  rw [wpA_one_zero, wpA_bslice]
  have hd : ∀ d, aopER E ρ { l := H.l, d := d } (.bslice e sz lay len z ps) = ((fillA (repl len z) (ps.map fun (o, s, x) => (o, s, evR ρ x))).bind fun cs =>
      if (chunk sz lay len cs).all (fun y => y.good && y.cells.length == sz && (lay.isSome || y.one)) then some (AV.ra sz H.l.length 0 len, some (halloc { l := H.l, d := d } (.arr sz (chunk sz lay len cs) e))) else none) := fun d => _root_.id rfl
  simp only [hd]
  cases fillA (repl len z) (ps.map fun (o, s, x) => (o, s, evR ρ x)) with
  | none => exact .inl fun d => _root_.id rfl
  | some cs =>
    by_cases hc : ((chunk sz lay len cs).all (fun y => y.good && y.cells.length == sz && (lay.isSome || y.one))) = true
    · exact .inr ⟨_, _, fun d => if_pos hc⟩
    · exact .inl fun d => if_neg hc

section
variable {Γ : Sums} {A : Tab} {N : Nat → Nat}

/-- A row, laid in a heap, nil or all of an object. -/
def RowAt (H : Hp) (e : TypeId) (sz : Nat) (x : AV) (es : List AV) : Prop := (x = avNilS ∧ es = []) ∨ ∃ id, x = .ra sz id 0 es.length ∧ hget H id = some (.arr sz es e)
theorem RowAt.len {H : Hp} {e : TypeId} {sz : Nat} {x : AV} {es : List AV} (h : RowAt H e sz x es) : asLen x = some es.length := by
  rcases h with ⟨rfl, rfl⟩ | ⟨id, rfl, _⟩ <;> rfl
theorem RowAt.keep {H H' : Hp} {e : TypeId} {sz : Nat} {x : AV} {es : List AV} (h : RowAt H e sz x es) (k : ∀ id o, hget H id = some o → (kid x = some id) → hget H' id = some o) : RowAt H' e sz x es := by
  rcases h with h | ⟨id, rfl, h⟩
  · exact .inl h
  · exact .inr ⟨id, rfl, k id _ h rfl⟩
theorem RowAt.alloc {H : Hp} {e : TypeId} {sz : Nat} {x : AV} {es : List AV} (h : RowAt H e sz x es) (o : AObj) : RowAt (halloc H o) e sz x es :=
  h.keep fun id o' h' _ => by rw [hget_halloc, if_neg (Nat.ne_of_lt (hget_lt h'))]; exact h'
/-- A row more. -/
theorem RowAt.app {H : Hp} {e : TypeId} {sz bytes : Nat} {x : AV} {es ys : List AV} (h : RowAt H e sz x es) (hy : ys ≠ []) (hb : (es.length + ys.length) * bytes ≤ roomMax) (hg : ys.all (fun y => y.good && y.cells.length == sz) = true) :
    ∃ v H', appendOn H e sz bytes x ys = some (v, some H') ∧ v = .ra sz H.l.length 0 (es ++ ys).length ∧ hget H' H.l.length = some (.arr sz (es ++ ys) e) ∧ H'.l.length = H.l.length + 1 ∧ (∀ id o, hget H id = some o → kid x ≠ some id → hget H' id = some o) ∧ (∀ (H0 : Hp) (W : List Nat), Mut H0 H W → (∀ j, kid x = some j → H0.l.length ≤ j) → Mut H0 H' W) := by
  rcases h with ⟨rfl, rfl⟩ | ⟨id, rfl, h⟩
  · have : ys.isEmpty = false := by cases ys with | nil => exact absurd rfl hy | cons => rfl
    refine ⟨_, _, by simp only [appendOn]; rw [if_pos ⟨by simpa using hb, hg⟩, this]; rfl, by simp, by simp, by simp, fun id o ho _ => ?_, fun H0 W hm _ => hm.alloc _⟩
    rw [hget_halloc, if_neg (Nat.ne_of_lt (hget_lt ho))]; exact ho
  · refine ⟨_, _, appendOn_ra h hb hg, by simp, by simp, by simp, fun id' o ho hne => ?_, fun H0 W hm hj => (hm.set (.inr (hj id rfl))).alloc _⟩
    have hne' : id' ≠ id := fun e => hne (by rw [e]; rfl)
    rw [hget_halloc, if_neg (by simpa using Nat.ne_of_lt (hget_lt ho)), hget_hset, if_neg hne']; exact ho

theorem cloneS_nil (h : Has Γ A (f_slices_Clone_sl_string_string N) (C_slices_Clone_sl_string_string N)) (H : Hp) : (lim Γ A).call (f_slices_Clone_sl_string_string N) [.lit (.slice none 0 0)] H = some (.lit (.slice none 0 0), none) := by
  apply h.call (by rfl)
  simp [C_slices_Clone_sl_string_string, aeq_nilS]
theorem cloneI_nil (h : Has Γ A (f_slices_Clone_sl_int_int N) (C_slices_Clone_sl_int_int N)) (H : Hp) : (lim Γ A).call (f_slices_Clone_sl_int_int N) [.lit (.slice none 0 0)] H = some (.lit (.slice none 0 0), none) := by
  apply h.call (by rfl)
  simp [C_slices_Clone_sl_int_int, aeq_nilS]
theorem cloneA_nil (h : Has Γ A (f_slices_Clone_sl_api_Alias_api_Alias N) (C_slices_Clone_sl_api_Alias_api_Alias N)) (H : Hp) : (lim Γ A).call (f_slices_Clone_sl_api_Alias_api_Alias N) [.lit (.slice none 0 0)] H = some (.lit (.slice none 0 0), none) := by
  apply h.call (by rfl)
  simp [C_slices_Clone_sl_api_Alias_api_Alias, aeq_nilS]

structure TreeB (Γ : Sums) (A : Tab) (N : Nat → Nat) : Prop where
  cs : Has Γ A (f_slices_Clone_sl_string_string N) (C_slices_Clone_sl_string_string N)
  ci : Has Γ A (f_slices_Clone_sl_int_int N) (C_slices_Clone_sl_int_int N)
  ca : Has Γ A (f_slices_Clone_sl_api_Alias_api_Alias N) (C_slices_Clone_sl_api_Alias_api_Alias N)
  ct : Has Γ A (f_tree_cloneTerm N) (C_tree_cloneTerm N)
  cy : Has Γ A (f_tree_cloneType N) (C_tree_cloneType N)
  term : Has Γ A (f_p_tree_Builder_Term N) (C_p_tree_Builder_Term N)
  type : Has Γ A (f_p_tree_Builder_Type N) (C_p_tree_Builder_Type N)
  new : Has Γ A (f_tree_New N) (C_tree_New N)
  clone : Has Γ A (f_tree_Clone N) (C_tree_Clone N)
  tree : Has Γ A (f_p_tree_Builder_Tree N) (C_p_tree_Builder_Tree N)

def nodeK (k : Int) : AV := .agg [.lit (.int .i64 k), .lit (.int .i64 0), .lit (.string (mkS [])), .lit (.int .i64 0), .lit (.int .u64 0), .lit (.slice none 0 0), .lit (.slice none 0 0), .lit (.slice none 0 0)]
def typeK : AV := .agg [.lit (.int .i64 0), .lit (.int .i64 0), .lit (.string (mkS [])), .lit (.slice none 0 0), .lit (.slice none 0 0), .lit (.bool false)]

theorem cloneTerm_nil (h : TreeB Γ A N) (k : Int) (H : Hp) : (lim Γ A).call (f_tree_cloneTerm N) [nodeK k] H = some (nodeK k, none) := by
  have e1 := fun H => cloneS_nil h.cs H
  have e2 := fun H => cloneI_nil h.ci H
  apply h.ct.call (by rfl)
  simp [C_tree_cloneTerm, nodeK, e1, e2, loadC, settle, keeps]
theorem cloneType_nil (h : TreeB Γ A N) (H : Hp) : (lim Γ A).call (f_tree_cloneType N) [typeK] H = some (typeK, none) := by
  have e1 := fun H => cloneS_nil h.cs H
  have e2 := fun H => cloneI_nil h.ci H
  apply h.cy.call (by rfl)
  simp [C_tree_cloneType, typeK, e1, e2, loadC, settle, keeps]

theorem Term_ok (h : TreeB Γ A N) {H : Hp} {t : TypeId} {p : Nat} {sn st sa : AV} {es : List AV} (hp : hget H p = some (.cells [sn, st, sa] t)) (hr : RowAt H (t_api_Node N) 8 sn es) (hl : es.length < 65536) (k : Int) :
    ∃ g sn', (lim Γ A).call (f_p_tree_Builder_Term N) [.ptr p 0, nodeK k] H = some (.tup [avInt .i64 es.length, avInt .i64 0], some g) ∧ hget g p = some (.cells [sn', st, sa] t) ∧ RowAt g (t_api_Node N) 8 sn' (es ++ [nodeK k]) := by
  obtain ⟨R, hR⟩ : ∃ R : AV × Option Hp → Prop, R = fun r => ∃ g sn', r = (.tup [avInt .i64 es.length, avInt .i64 0], some g) ∧ hget g p = some (.cells [sn', st, sa] t) ∧ RowAt g (t_api_Node N) 8 sn' (es ++ [nodeK k]) := ⟨_, rfl⟩
  suffices ∃ r, (lim Γ A).call (f_p_tree_Builder_Term N) [.ptr p 0, nodeK k] H = some r ∧ R r by
    obtain ⟨r, e, hr⟩ := this
    rw [hR] at hr
    obtain ⟨g, sn', rfl, h1, h2⟩ := hr
    exact ⟨g, sn', e, h1, h2⟩
  have hlt := hget_lt hp
  have e1 := fun H => cloneTerm_nil h k H
  have hlen := hr.len
  have hl' : ¬ (65536 : Int) ≤ es.length := by omega
  have hp1 : ∀ o, hget (halloc { l := H.l, d := none } o) p = some (.cells [sn, st, sa] t) := fun o => by
    rw [hget_halloc, if_neg (Nat.ne_of_lt hlt)]; exact hp
  have hr2 : RowAt (halloc (halloc { l := H.l, d := none } (.cells (nodeK k).cells (t_api_Node N))) (.arr 8 [nodeK k] (t_api_Node N))) (t_api_Node N) 8 sn es := by
    have : RowAt { l := H.l, d := none } (t_api_Node N) 8 sn es := hr
    exact (this.alloc _).alloc _
  have hkp : kid sn ≠ some p := by
    rcases hr with ⟨rfl, _⟩ | ⟨id, rfl, hid⟩
    · simp [kid]
    · simp only [kid, ne_eq, Option.some.injEq]
      rintro rfl
      rw [hp] at hid; cases hid
  obtain ⟨v, G, a1, a2, a3, a4, a5, _⟩ := hr2.app (bytes := 120) (ys := [nodeK k]) (by simp) (by simp [roomMax]; omega) (by simp [nodeK])
  have hg := a5 p _ (by rw [hget_halloc, if_neg (by simp; omega), hget_halloc, if_neg (Nat.ne_of_lt hlt)]; exact hp) hkp
  have hltG : p < G.l.length := by rw [a4]; simp; omega
  have hlv : asLen v = some (es.length + 1) := by rw [a2]; simp [asLen]
  have hgv : v.good = true ∧ v.cells = [v] := by rw [a2]; simp
  have hw : IntKind.wrap .i64 (((es.length + 1 : Nat) : Int) - 1) = (es.length : Int) := by rw [wrap64 (by omega) (by omega)]; omega
  have fin : R (.tup [avInt .i64 es.length, avInt .i64 0], some { l := (hset G p (some (.cells [v, st, sa] t))).l, d := dminO H.d (hset G p (some (.cells [v, st, sa] t))).d }) := by
    rw [hR]
    refine ⟨_, v, rfl, ?_, ?_⟩
    · rw [hget_l, hget_hset, if_pos rfl, if_pos hltG]
    · refine .inr ⟨_, a2, ?_⟩
      rw [hget_l, hget_hset, if_neg (by simp; omega)]
      exact a3
  have hsw := settle_wrote (H := H) (H' := hset G p (some (.cells [v, st, sa] t))) (v := .tup [avInt .i64 es.length, avInt .i64 0]) (hset_wrote hlt)
  apply h.term.callP (by rfl)
  unfold nodeK at e1 a1 ⊢
  simp only [cells_agg] at a1
  simp [C_p_tree_Builder_Term, hp1, hlen, hl', loadC, e1, Nat.ne_of_lt hlt, fillA, repl, setFrom, chunk, asElems, a1, hg, hgv, hltG, hlv, hw, -hset_d, -Int.natCast_add]
  rw [hsw]
  exact fin

theorem Term_full (h : TreeB Γ A N) {H : Hp} {t : TypeId} {p : Nat} {sn st sa : AV} {es : List AV} (hp : hget H p = some (.cells [sn, st, sa] t)) (hr : RowAt H (t_api_Node N) 8 sn es) (hl : es.length = 65536) (k : Int) :
    (lim Γ A).call (f_p_tree_Builder_Term N) [.ptr p 0, nodeK k] H = some (.tup [avInt .i64 0, avInt .i64 6], none) := by
  have hlt := hget_lt hp
  have hlen := hr.len
  have hl' : (65536 : Int) ≤ es.length := by omega
  have hp1 : ∀ o, hget (halloc { l := H.l, d := none } o) p = some (.cells [sn, st, sa] t) := fun o => by
    rw [hget_halloc, if_neg (Nat.ne_of_lt hlt)]; exact hp
  apply h.term.call (by rfl)
  unfold nodeK
  simp [C_p_tree_Builder_Term, hp1, hlen, hl', Nat.ne_of_lt hlt, settle, keeps]

theorem New_tree (h : TreeB Γ A N) (H : Hp) : ∃ g p, (lim Γ A).call (f_tree_New N) [] H = some (.ptr p 0, some g) ∧ hget g p = some (.cells [avNilS, avNilS, avNilS] (t_tree_Builder N)) := by
  obtain ⟨R, hR⟩ : ∃ R : AV × Option Hp → Prop, R = fun r => ∃ g p, r = (.ptr p 0, some g) ∧ hget g p = some (.cells [avNilS, avNilS, avNilS] (t_tree_Builder N)) := ⟨_, rfl⟩
  suffices ∃ r, (lim Γ A).call (f_tree_New N) [] H = some r ∧ R r by
    obtain ⟨r, e, hr⟩ := this
    rw [hR] at hr
    obtain ⟨g, p, rfl, h1⟩ := hr
    exact ⟨g, p, e, h1⟩
  apply h.new.callP (by rfl)
  simp [C_tree_New, setFrom]
  rw [settle_some (by simp [AV.under]), hR]
  exact ⟨_, _, rfl, by rw [hget_l]; simp⟩

theorem Type_ok (h : TreeB Γ A N) {H : Hp} {t : TypeId} {p : Nat} {sn sa : AV} {es : List AV} (hp : hget H p = some (.cells [sn, avNilS, sa] t)) (hr : RowAt H (t_api_Node N) 8 sn es) :
    ∃ g st, (lim Γ A).call (f_p_tree_Builder_Type N) [.ptr p 0, typeK] H = some (.tup [avInt .i64 0, avInt .i64 0], some g) ∧ hget g p = some (.cells [sn, st, sa] t) ∧ RowAt g (t_api_TypeNode N) 6 st [typeK] ∧ RowAt g (t_api_Node N) 8 sn es ∧ kid sn ≠ kid st := by
  obtain ⟨R, hR⟩ : ∃ R : AV × Option Hp → Prop, R = fun r => ∃ g st, r = (.tup [avInt .i64 0, avInt .i64 0], some g) ∧ hget g p = some (.cells [sn, st, sa] t) ∧ RowAt g (t_api_TypeNode N) 6 st [typeK] ∧ RowAt g (t_api_Node N) 8 sn es ∧ kid sn ≠ kid st := ⟨_, rfl⟩
  suffices ∃ r, (lim Γ A).call (f_p_tree_Builder_Type N) [.ptr p 0, typeK] H = some r ∧ R r by
    obtain ⟨r, e, hr⟩ := this
    rw [hR] at hr
    obtain ⟨g, st, rfl, h1⟩ := hr
    exact ⟨g, st, e, h1⟩
  have hlt := hget_lt hp
  have e1 := fun H => cloneType_nil h H
  have hp1 : ∀ o, hget (halloc { l := H.l, d := none } o) p = some (.cells [sn, avNilS, sa] t) := fun o => by
    rw [hget_halloc, if_neg (Nat.ne_of_lt hlt)]; exact hp
  have hr2 : RowAt (halloc (halloc { l := H.l, d := none } (.cells typeK.cells (t_api_TypeNode N))) (.arr 6 [typeK] (t_api_TypeNode N))) (t_api_TypeNode N) 6 avNilS [] := .inl ⟨rfl, rfl⟩
  obtain ⟨v, G, a1, a2, a3, a4, a5, _⟩ := hr2.app (bytes := 88) (ys := [typeK]) (by simp) (by simp [roomMax]) (by simp [typeK])
  have hg := a5 p _ (by rw [hget_halloc, if_neg (by simp; omega), hget_halloc, if_neg (Nat.ne_of_lt hlt)]; exact hp) (by simp [kid])
  have hrn : RowAt G (t_api_Node N) 8 sn es := by
    have : RowAt { l := H.l, d := none } (t_api_Node N) 8 sn es := hr
    exact ((this.alloc _).alloc _).keep fun id o ho _ => a5 id o ho (by simp [kid])
  have hkp : kid sn ≠ some p := by
    rcases hr with ⟨rfl, _⟩ | ⟨id, rfl, hid⟩
    · simp [kid]
    · simp only [kid, ne_eq, Option.some.injEq]
      rintro rfl
      rw [hp] at hid; cases hid
  have hks : kid sn ≠ kid v := by
    rw [a2]
    rcases hr with ⟨rfl, _⟩ | ⟨id, rfl, hid⟩
    · simp [kid]
    · have := hget_lt hid
      simp [kid]; omega
  have hltG : p < G.l.length := by rw [a4]; simp; omega
  have hlv : asLen v = some 1 := by rw [a2]; simp [asLen]
  have hgv : v.good = true ∧ v.cells = [v] := by rw [a2]; simp
  have w0 : IntKind.wrap .i64 0 = 0 := by decide
  have fin : R (.tup [avInt .i64 0, avInt .i64 0], some { l := (hset G p (some (.cells [sn, v, sa] t))).l, d := dminO H.d (hset G p (some (.cells [sn, v, sa] t))).d }) := by
    rw [hR]
    refine ⟨_, v, rfl, ?_, .inr ⟨_, a2, ?_⟩, hrn.keep fun id o ho hk => ?_, hks⟩
    · rw [hget_l, hget_hset, if_pos rfl, if_pos hltG]
    · rw [hget_l, hget_hset, if_neg (by simp; omega)]
      exact a3
    · rw [hget_l, hget_hset, if_neg (by rintro rfl; exact hkp hk)]
      exact ho
  have hsw := settle_wrote (H := H) (H' := hset G p (some (.cells [sn, v, sa] t))) (v := .tup [avInt .i64 0, avInt .i64 0]) (hset_wrote hlt)
  apply h.type.callP (by rfl)
  unfold typeK at e1 a1 ⊢
  simp only [cells_agg] at a1
  simp [C_p_tree_Builder_Type, hp1, loadC, e1, Nat.ne_of_lt hlt, fillA, repl, setFrom, chunk, asElems, a1, hg, hgv, hltG, hlv, w0, -hset_d]
  rw [hsw]
  exact fin

theorem settle_mut {H H' : Hp} {v : AV} {W : List Nat} (h : Mut { l := H.l, d := none } H' W) : Mut H ((settle H v H').2.getD H) W := by
  unfold settle
  split
  · exact Mut.refl _ _
  · exact h.settled
theorem aiaddr_ra {sz id n : Nat} {i : Nat} (h : i < n) : aiaddr sz (.ra sz id 0 n) (.lit (.int .i64 (i : Int))) = some (.ep id i 0) := by
  simp [aiaddr, h]
structure CloneI (H H' : Hp) (N : Nat → Nat) (sn st x y : AV) (n i j : Nat) (k : Int) : Prop where
  wr : Mut { l := H.l, d := none } H' []
  b : hget H' H.l.length = some (.cells [sn, st, .lit (.slice none 0 0)] (t_api_Tree N))
  r : hget H' (H.l.length + 1) = some (.cells [.lit (.slice none 0 0), .lit (.slice none 0 0), .lit (.slice none 0 0)] (t_api_Tree N))
  o : hget H' (H.l.length + 2) = some (.cells [x, y, .lit (.slice none 0 0)] (t_api_Tree N))
  rx : RowAt H' (t_api_Node N) 8 x (List.replicate i (nodeK k))
  ry : RowAt H' (t_api_TypeNode N) 6 y (List.replicate j typeK)
  kx : ∀ q, kid x = some q → H.l.length ≤ q
  ky : ∀ q, kid y = some q → H.l.length ≤ q
  kxy : ∀ q, kid x = some q → kid y ≠ some q
theorem Clone_step1 {H H' : Hp} {sn st x y : AV} {n i j : Nat} {k : Int} (c : CloneI H H' N sn st x y n i j k) (hi : i < 65536) (z : List AV) (tz : TypeId) :
    ∃ v G, appendOn (halloc (hset (halloc H' (.cells z tz)) H'.l.length (some (.cells (nodeK k).cells tz))) (.arr 8 [nodeK k] (t_api_Node N))) (t_api_Node N) 8 120 x [nodeK k] = some (v, some G) ∧ hget G (H.l.length + 2) = some (.cells [x, y, .lit (.slice none 0 0)] (t_api_Tree N)) ∧ v.good = true ∧ v.cells = [v] ∧
      CloneI H (hset G (H.l.length + 2) (some (.cells [v, y, .lit (.slice none 0 0)] (t_api_Tree N)))) N sn st v y n (i + 1) j k := by
  have pres : ∀ (id : Nat) (ob : AObj), hget H' id = some ob → hget (halloc (hset (halloc H' (.cells z tz)) H'.l.length (some (.cells (nodeK k).cells tz))) (.arr 8 [nodeK k] (t_api_Node N))) id = some ob := by
    intro id ob ho
    have := hget_lt ho
    rw [hget_halloc, if_neg (by simp; omega), hget_hset, if_neg (by omega), hget_halloc, if_neg (by omega)]; exact ho
  obtain ⟨v, G, a1, a2, a3, a4, a5, a6⟩ := (c.rx.keep fun id ob ho _ => pres id ob ho).app (bytes := 120) (ys := [nodeK k]) (by simp) (by simp [roomMax]; omega) (by simp [nodeK])
  rw [← List.replicate_succ'] at a2 a3
  have b2 : v = .ra 8 (H'.l.length + 2) 0 (List.replicate (i + 1) (nodeK k)).length := by rw [a2]; simp
  have b3 : hget G (H'.l.length + 2) = some (.arr 8 (List.replicate (i + 1) (nodeK k)) (t_api_Node N)) := by
    have : (halloc (hset (halloc H' (.cells z tz)) H'.l.length (some (.cells (nodeK k).cells tz))) (.arr 8 [nodeK k] (t_api_Node N))).l.length = H'.l.length + 2 := by simp
    rw [this] at a3; exact a3
  have cell : ∀ (id : Nat) (cs : List AV) (t : TypeId), hget H' id = some (.cells cs t) → hget G id = some (.cells cs t) := by
    intro id cs t ho
    refine a5 id _ (pres id _ ho) fun hk => ?_
    rcases c.rx with ⟨rfl, _⟩ | ⟨q, hq, hq2⟩
    · simp [kid] at hk
    · rw [hq] at hk
      simp only [kid, Option.some.injEq] at hk
      subst hk
      rw [ho] at hq2; cases hq2
  have hlo := hget_lt c.o
  have hlG : G.l.length = H'.l.length + 3 := by rw [a4]; simp
  have hge : H.l.length ≤ H'.l.length := c.wr.len
  have hs : ∀ (id : Nat) (ob : AObj), id ≠ H.l.length + 2 → hget G id = some ob → hget (hset G (H.l.length + 2) (some (.cells [v, y, .lit (.slice none 0 0)] (t_api_Tree N)))) id = some ob := by
    intro id ob hne ho
    rw [hget_hset, if_neg hne]; exact ho
  refine ⟨v, G, a1, cell _ _ _ c.o, by rw [a2]; rfl, by rw [a2]; rfl, ⟨?_, hs _ _ (by omega) (cell _ _ _ c.b), hs _ _ (by omega) (cell _ _ _ c.r), ?_, .inr ⟨H'.l.length + 2, b2, hs _ _ (by omega) b3⟩, ?_, ?_, c.ky, ?_⟩⟩
  · refine (a6 _ _ (((c.wr.alloc _).set (.inr hge)).alloc _) c.kx).set (.inr ?_)
    show H.l.length ≤ H.l.length + 2
    omega
  · rw [hget_hset, if_pos rfl, if_pos (by omega)]
  · refine (c.ry.keep fun id ob ho _ => pres id ob ho).keep fun id ob ho hk => ?_
    refine hs _ _ ?_ (a5 id ob ho fun hx => c.kxy id hx hk)
    rintro rfl
    have := pres _ _ c.o
    rw [ho] at this
    cases this
    rcases c.ry with ⟨rfl, _⟩ | ⟨q, hq, hq2⟩
    · simp [kid] at hk
    · rw [hq] at hk; simp only [kid, Option.some.injEq] at hk; subst hk; rw [c.o] at hq2; cases hq2
  · intro q hq
    rw [b2] at hq
    simp only [kid, Option.some.injEq] at hq
    omega
  · intro q hq hy
    rw [b2] at hq
    simp only [kid, Option.some.injEq] at hq
    rcases c.ry with ⟨rfl, _⟩ | ⟨q', hq', hq2⟩
    · simp [kid] at hy
    · rw [hq'] at hy; simp only [kid, Option.some.injEq] at hy
      have := hget_lt hq2
      omega
theorem Clone_step2 {H H' : Hp} {sn st x y : AV} {n i j : Nat} {k : Int} (c : CloneI H H' N sn st x y n i j k) (hi : j < 65536) (z : List AV) (tz : TypeId) :
    ∃ v G, appendOn (halloc (hset (halloc H' (.cells z tz)) H'.l.length (some (.cells typeK.cells tz))) (.arr 6 [typeK] (t_api_TypeNode N))) (t_api_TypeNode N) 6 88 y [typeK] = some (v, some G) ∧ hget G (H.l.length + 2) = some (.cells [x, y, .lit (.slice none 0 0)] (t_api_Tree N)) ∧ v.good = true ∧ v.cells = [v] ∧
      CloneI H (hset G (H.l.length + 2) (some (.cells [x, v, .lit (.slice none 0 0)] (t_api_Tree N)))) N sn st x v n i (j + 1) k := by
  have pres : ∀ (id : Nat) (ob : AObj), hget H' id = some ob → hget (halloc (hset (halloc H' (.cells z tz)) H'.l.length (some (.cells typeK.cells tz))) (.arr 6 [typeK] (t_api_TypeNode N))) id = some ob := by
    intro id ob ho
    have := hget_lt ho
    rw [hget_halloc, if_neg (by simp; omega), hget_hset, if_neg (by omega), hget_halloc, if_neg (by omega)]; exact ho
  obtain ⟨v, G, a1, a2, a3, a4, a5, a6⟩ := (c.ry.keep fun id ob ho _ => pres id ob ho).app (bytes := 88) (ys := [typeK]) (by simp) (by simp [roomMax]; omega) (by simp [typeK])
  rw [← List.replicate_succ'] at a2 a3
  have b2 : v = .ra 6 (H'.l.length + 2) 0 (List.replicate (j + 1) typeK).length := by rw [a2]; simp
  have b3 : hget G (H'.l.length + 2) = some (.arr 6 (List.replicate (j + 1) typeK) (t_api_TypeNode N)) := by
    have : (halloc (hset (halloc H' (.cells z tz)) H'.l.length (some (.cells typeK.cells tz))) (.arr 6 [typeK] (t_api_TypeNode N))).l.length = H'.l.length + 2 := by simp
    rw [this] at a3; exact a3
  have cell : ∀ (id : Nat) (cs : List AV) (t : TypeId), hget H' id = some (.cells cs t) → hget G id = some (.cells cs t) := by
    intro id cs t ho
    refine a5 id _ (pres id _ ho) fun hk => ?_
    rcases c.ry with ⟨rfl, _⟩ | ⟨q, hq, hq2⟩
    · simp [kid] at hk
    · rw [hq] at hk
      simp only [kid, Option.some.injEq] at hk
      subst hk
      rw [ho] at hq2; cases hq2
  have hlo := hget_lt c.o
  have hlG : G.l.length = H'.l.length + 3 := by rw [a4]; simp
  have hge : H.l.length ≤ H'.l.length := c.wr.len
  have hs : ∀ (id : Nat) (ob : AObj), id ≠ H.l.length + 2 → hget G id = some ob → hget (hset G (H.l.length + 2) (some (.cells [x, v, .lit (.slice none 0 0)] (t_api_Tree N)))) id = some ob := by
    intro id ob hne ho
    rw [hget_hset, if_neg hne]; exact ho
  refine ⟨v, G, a1, cell _ _ _ c.o, by rw [a2]; rfl, by rw [a2]; rfl, ⟨?_, hs _ _ (by omega) (cell _ _ _ c.b), hs _ _ (by omega) (cell _ _ _ c.r), ?_, ?_, .inr ⟨H'.l.length + 2, b2, hs _ _ (by omega) b3⟩, c.kx, ?_, ?_⟩⟩
  · refine (a6 _ _ (((c.wr.alloc _).set (.inr hge)).alloc _) c.ky).set (.inr ?_)
    show H.l.length ≤ H.l.length + 2
    omega
  · rw [hget_hset, if_pos rfl, if_pos (by omega)]
  · refine (c.rx.keep fun id ob ho _ => pres id ob ho).keep fun id ob ho hk => ?_
    refine hs _ _ ?_ (a5 id ob ho fun hx => c.kxy id hk hx)
    rintro rfl
    have := pres _ _ c.o
    rw [ho] at this
    cases this
    rcases c.rx with ⟨rfl, _⟩ | ⟨q, hq, hq2⟩
    · simp [kid] at hk
    · rw [hq] at hk; simp only [kid, Option.some.injEq] at hk; subst hk; rw [c.o] at hq2; cases hq2
  · intro q hq
    rw [b2] at hq
    simp only [kid, Option.some.injEq] at hq
    omega
  · intro q hq hy
    rw [b2] at hy
    simp only [kid, Option.some.injEq] at hy
    rcases c.rx with ⟨rfl, _⟩ | ⟨q', hq', hq2⟩
    · simp [kid] at hq
    · rw [hq'] at hq; simp only [kid, Option.some.injEq] at hq
      have := hget_lt hq2
      omega

theorem Clone_call (h : TreeB Γ A N) {H : Hp} {sn st : AV} {n : Nat} {k : Int} (hn : n ≤ 65536) (hr : RowAt H (t_api_Node N) 8 sn (List.replicate n (nodeK k))) (hy : RowAt H (t_api_TypeNode N) 6 st [typeK]) :
    ∃ g x y, (lim Γ A).call (f_tree_Clone N) [.agg [sn, st, .lit (.slice none 0 0)]] H = some (.agg [x, y, .lit (.slice none 0 0)], g) ∧ asLen x = some n ∧ x.good = true ∧ y.good = true ∧ x.cells = [x] ∧ y.cells = [y] ∧ Mut H (g.getD H) [] ∧ x.one = true ∧ y.one = true := by
  obtain ⟨R, hR⟩ : ∃ R : AV × Option Hp → Prop, R = fun r => ∃ x y, r.1 = .agg [x, y, .lit (.slice none 0 0)] ∧ asLen x = some n ∧ x.good = true ∧ y.good = true ∧ x.cells = [x] ∧ y.cells = [y] ∧ Mut H (r.2.getD H) [] ∧ x.one = true ∧ y.one = true := ⟨_, rfl⟩
  suffices ∃ r, (lim Γ A).call (f_tree_Clone N) [.agg [sn, st, .lit (.slice none 0 0)]] H = some r ∧ R r by
    obtain ⟨⟨v, g⟩, e, hr⟩ := this
    rw [hR] at hr
    obtain ⟨x, y, hv, h1⟩ := hr
    simp only at hv
    subst hv
    exact ⟨g, x, y, e, h1⟩
  have e0 := fun H => cloneA_nil h.ca H
  have e1 := fun H => cloneTerm_nil h k H
  have e2 := fun H => cloneType_nil h H
  have hln := hr.len
  have hly := hy.len
  rw [List.length_replicate] at hln
  have ho1 : sn.one = true := by rcases hr with ⟨rfl, _⟩ | ⟨_, rfl, _⟩ <;> rfl
  have ho2 : st.one = true := by rcases hy with ⟨rfl, _⟩ | ⟨_, rfl, _⟩ <;> rfl
  apply h.clone.callP (by rfl)
  simp [C_tree_Clone, loadC, e0, hln, setFrom, ho1, ho2]
  refine wp_round (n := n - 0) (fun q ρ H' => ∃ (i : Nat) (x : AV), ρ 1 = .ptr H.l.length 0 ∧ ρ 2 = .ptr (H.l.length + 1) 0 ∧ ρ 3 = .ptr (H.l.length + 2) 0 ∧ ρ 13 = sn ∧ ρ 14 = avInt .i64 n ∧ ρ 15 = avInt .i64 (i : Nat) ∧ i ≤ n ∧ CloneI H H' N sn st x (.lit (.slice none 0 0)) n i 0 k ∧ q = n - i) ?_ ?_
  · refine ⟨0, .lit (.slice none 0 0), rfl, rfl, rfl, rfl, rfl, rfl, by omega, ⟨?_, ?_, ?_, ?_, .inl ⟨rfl, rfl⟩, .inl ⟨rfl, rfl⟩, by simp [kid], by simp [kid], by simp [kid]⟩, rfl⟩
    · exact ((((Mut.refl _ _).alloc _).alloc _).alloc _).set (.inr (by show H.l.length ≤ H.l.length + 1 + 1; omega))
    · simp
    · simp
    · simp
  · rintro q ρ H' ⟨i, x, h1, h2, h3, h13, h14, h15, hin, hc, rfl⟩
    have hlo := hget_lt hc.o
    by_cases hlt : i < n
    · have hlt' : (i : Int) < n := by omega
      obtain ⟨v, G, a1, a2, a3, a4, a5⟩ := Clone_step1 hc (by omega) (AV.cells (.agg [.lit (.int .i64 0), .lit (.int .i64 0), .lit (.string (mkS [])), .lit (.int .i64 0), .lit (.int .u64 0), .lit (.slice none 0 0), .lit (.slice none 0 0), .lit (.slice none 0 0)])) (t_api_Node N)
      obtain ⟨id, rfl, hid⟩ : ∃ id, sn = .ra 8 id 0 n ∧ hget H id = some (.arr 8 (List.replicate n (nodeK k)) (t_api_Node N)) := by
        rcases hr with ⟨_, he⟩ | ⟨id, e, hid⟩
        · have := congrArg List.length he; simp at this; omega
        · exact ⟨id, by rw [e]; simp, hid⟩
      have hid' : hget H' id = some (.arr 8 (List.replicate n (nodeK k)) (t_api_Node N)) := hc.wr.get' hid (by simp)
      have ld : aload H' (some 8) (.ep id i 0) = some (nodeK k) := by
        simp only [aload, hid']
        rw [List.getElem?_replicate, if_pos hlt]
        simp [nodeK]
      have hia := aiaddr_ra (sz := 8) (id := id) hlt
      have hw : IntKind.wrap .i64 ((i : Int) + 1) = ((i + 1 : Nat) : Int) := by rw [wrap64 (by omega) (by omega)]; omega
      have hno : H.l.length + 2 ≠ H'.l.length := by omega
      have hgo := hc.o
      unfold nodeK at ld e1 a1
      simp only [cells_agg] at a1
      simp [L_tree_Clone_1, h1, h2, h3, h13, h14, h15, hlt', hia, ld, hgo, hno, loadC, e1, fillA, repl, setFrom, chunk, asElems, a1, a2, a3, a4, hw, hlo, -hset_d, -Int.natCast_add]
      exact ⟨n - (i + 1), by omega, i + 1, rfl, by omega, ⟨v, a5⟩, rfl⟩
    · have hi : i = n := by omega
      subst hi
      have hlt' : ¬ ((i : Nat) : Int) < i := by omega
      have hb := hc.b
      simp [L_tree_Clone_1, K_tree_Clone_1, h1, h2, h3, h13, h14, h15, hlt', hb, hly]
      refine wp_round (n := 1 - 0) (fun q ρ H' => ∃ (j : Nat) (y : AV), ρ 2 = .ptr (H.l.length + 1) 0 ∧ ρ 3 = .ptr (H.l.length + 2) 0 ∧ ρ 28 = st ∧ ρ 29 = avInt .i64 1 ∧ ρ 30 = avInt .i64 (j : Nat) ∧ j ≤ 1 ∧ CloneI H H' N sn st x y i i j k ∧ q = 1 - j) ?_ ?_
      · exact ⟨0, _, h2, h3, rfl, rfl, rfl, by omega, hc, rfl⟩
      · rintro q ρ H' ⟨j, y, g2, g3, g28, g29, g30, hj, hd, rfl⟩
        have hlo := hget_lt hd.o
        by_cases hlt : j < 1
        · have hj0 : j = 0 := by omega
          subst hj0
          obtain ⟨v, G, a1, a2, a3, a4, a5⟩ := Clone_step2 hd (by omega) (AV.cells (.agg [.lit (.int .i64 0), .lit (.int .i64 0), .lit (.string (mkS [])), .lit (.slice none 0 0), .lit (.slice none 0 0), .lit (.bool false)])) (t_api_TypeNode N)
          obtain ⟨id, rfl, hid⟩ : ∃ id, st = .ra 6 id 0 1 ∧ hget H id = some (.arr 6 [typeK] (t_api_TypeNode N)) := by
            rcases hy with ⟨_, he⟩ | ⟨id, e, hid⟩
            · simp at he
            · exact ⟨id, by rw [e]; rfl, hid⟩
          have hid' : hget H' id = some (.arr 6 [typeK] (t_api_TypeNode N)) := hd.wr.get' hid (by simp)
          have ld : aload H' (some 6) (.ep id 0 0) = some typeK := by
            simp only [aload, hid']
            simp [typeK]
          have hia : aiaddr 6 (.ra 6 id 0 1) (.lit (.int .i64 0)) = some (.ep id 0 0) := aiaddr_ra (i := 0) (by omega)
          have hw : IntKind.wrap .i64 1 = 1 := by decide
          have hno : H.l.length + 2 ≠ H'.l.length := by omega
          have hgo := hd.o
          unfold typeK at ld e2 a1
          simp only [cells_agg] at a1
          simp [L_tree_Clone_2, g2, g3, g28, g29, g30, hia, ld, hgo, hno, loadC, e2, fillA, repl, setFrom, chunk, asElems, a1, a2, a3, a4, hw, hlo, -hset_d]
          exact ⟨1, rfl, by omega, ⟨v, a5⟩, rfl⟩
        · have hj1 : j = 1 := by omega
          subst hj1
          have hx1 : x.one = true ∧ x.good = true ∧ x.cells = [x] := by rcases hd.rx with ⟨rfl, _⟩ | ⟨_, rfl, _⟩ <;> exact ⟨rfl, rfl, rfl⟩
          have hy1 : y.one = true ∧ y.good = true ∧ y.cells = [y] := by rcases hd.ry with ⟨rfl, _⟩ | ⟨_, rfl, _⟩ <;> exact ⟨rfl, rfl, rfl⟩
          have hgo := hd.o
          have hgr := hd.r
          have hlr := hget_lt hd.r
          have hxl := hd.rx.len
          rw [List.length_replicate] at hxl
          have hmu : Mut { l := H.l, d := none } (hset H' (H.l.length + 1) (some (.cells [x, y, .lit (.slice none 0 0)] (t_api_Tree N)))) [] := hd.wr.set (.inr (by show H.l.length ≤ H.l.length + 1; omega))
          have hsm := settle_mut (v := .agg [x, y, .lit (.slice none 0 0)]) hmu
          have hsf := settle_fst (H := H) (H' := hset H' (H.l.length + 1) (some (.cells [x, y, .lit (.slice none 0 0)] (t_api_Tree N)))) (v := .agg [x, y, .lit (.slice none 0 0)])
          simp [L_tree_Clone_2, K_tree_Clone_2, g2, g3, g28, g29, g30, hgo, hgr, hlr, loadC, hx1, hy1, setFrom, -hset_d]
          rw [hR]
          exact ⟨x, y, hsf, hxl, hx1.2.1, hy1.2.1, hx1.2.2, hy1.2.2, hsm, hx1.1, hy1.1⟩

theorem Tree_call (h : TreeB Γ A N) {H : Hp} {t : TypeId} {p : Nat} {sn st : AV} {n : Nat} {k : Int} (hn : n ≤ 65536) (hp : hget H p = some (.cells [sn, st, .lit (.slice none 0 0)] t)) (hr : RowAt H (t_api_Node N) 8 sn (List.replicate n (nodeK k))) (hy : RowAt H (t_api_TypeNode N) 6 st [typeK]) :
    ∃ g x y, (lim Γ A).call (f_p_tree_Builder_Tree N) [.ptr p 0] H = some (.agg [x, y, .lit (.slice none 0 0)], g) ∧ asLen x = some n := by
  obtain ⟨R, hR⟩ : ∃ R : AV × Option Hp → Prop, R = fun r => ∃ x y, r.1 = .agg [x, y, .lit (.slice none 0 0)] ∧ asLen x = some n := ⟨_, rfl⟩
  suffices ∃ r, (lim Γ A).call (f_p_tree_Builder_Tree N) [.ptr p 0] H = some r ∧ R r by
    obtain ⟨⟨v, g⟩, e, hr⟩ := this
    rw [hR] at hr
    obtain ⟨x, y, hv, h1⟩ := hr
    simp only at hv
    subst hv
    exact ⟨g, x, y, e, h1⟩
  have hlt := hget_lt hp
  have ho1 : sn.one = true := by rcases hr with ⟨rfl, _⟩ | ⟨_, rfl, _⟩ <;> rfl
  have ho2 : st.one = true := by rcases hy with ⟨rfl, _⟩ | ⟨_, rfl, _⟩ <;> rfl
  have hp1 : ∀ o, hget (halloc { l := H.l, d := none } o) p = some (.cells [sn, st, .lit (.slice none 0 0)] t) := fun o => by
    rw [hget_halloc, if_neg (Nat.ne_of_lt hlt)]; exact hp
  have hr1 : RowAt { l := H.l, d := none } (t_api_Node N) 8 sn (List.replicate n (nodeK k)) := hr
  have hy1 : RowAt { l := H.l, d := none } (t_api_TypeNode N) 6 st [typeK] := hy
  have hcl := Clone_call h hn (hr1.alloc (.cells [.lit (.slice none 0 0), .lit (.slice none 0 0), .lit (.slice none 0 0)] (t_api_Tree N))) (hy1.alloc (.cells [.lit (.slice none 0 0), .lit (.slice none 0 0), .lit (.slice none 0 0)] (t_api_Tree N)))
  obtain ⟨g, x, y, c1, c2, c3, c4, c5, c6, c7, hx1, hy2⟩ := hcl
  have hg := c7.get' (i := H.l.length) (o := .cells [.lit (.slice none 0 0), .lit (.slice none 0 0), .lit (.slice none 0 0)] (t_api_Tree N)) (by simp) (by simp)
  have hgl := hget_lt hg
  generalize hG : g.getD (halloc { l := H.l, d := none } (.cells [.lit (.slice none 0 0), .lit (.slice none 0 0), .lit (.slice none 0 0)] (t_api_Tree N))) = G at *
  apply h.tree.callP (by rfl)
  simp [C_p_tree_Builder_Tree, hp1, hlt, loadC, c1, bindH_opt, hG, hg, hgl, hx1, hy2, c5, c6, setFrom, ho1, ho2, -hset_d]
  rw [hR]
  exact ⟨x, y, settle_fst, c2⟩
end
end Go.Proofs.Eng
/- The law TreeFull, run by the engine. -/
set_option linter.unusedVariables false
set_option linter.unusedSimpArgs false
set_option maxRecDepth 100000
namespace Go.Proofs.Eng
open Go
section
variable {Γ : Sums} {A : Tab} {N : Nat → Nat}
theorem law_TreeFull (hb : TreeB Γ A N) (h : Has Γ A (f_law04_TreeFull N) (C_law04_TreeFull N)) (hlives : (lim Γ A).call (f_law04_lives N) [] { l := [], d := none } = some (avBool true, none)) (k : Int) :
    ∃ r, (lim Γ A).ent (f_law04_TreeFull N) [avInt .i64 k] { l := [], d := none } = some r ∧ r.1 = avBool true := by
  obtain ⟨g, p, e1, s0⟩ := New_tree hb { l := [], d := none }
  apply h.entP (by rfl)
  simp [C_law04_TreeFull, hlives, e1, bindH_opt]
  refine wp_round (n := 65536 - 0) (fun q ρ H' => ∃ (i : Nat) (sn : AV), ρ 0 = avInt .i64 k ∧ ρ 3 = .ptr p 0 ∧ ρ 13 = avInt .i64 (i : Nat) ∧ i ≤ 65536 ∧ hget H' p = some (.cells [sn, avNilS, avNilS] (t_tree_Builder N)) ∧ RowAt H' (t_api_Node N) 8 sn (List.replicate i (nodeK k)) ∧ q = 65536 - i) ?_ ?_
  · exact ⟨0, _, rfl, rfl, rfl, by omega, s0, .inl ⟨rfl, rfl⟩, rfl⟩
  · rintro q ρ H' ⟨i, sn, h0, h3, h13, hi, hp, hr, rfl⟩
    by_cases hlt : i < 65536
    · have hlt' : (i : Int) < 65536 := by omega
      obtain ⟨g2, sn2, r1, r2, r3⟩ := Term_ok hb hp hr (by simpa using hlt) k
      rw [← List.replicate_succ'] at r3
      rw [List.length_replicate] at r1
      have hw : IntKind.wrap .i64 ((i : Int) + 1) = ((i + 1 : Nat) : Int) := by rw [wrap64 (by omega) (by omega)]; omega
      unfold nodeK at r1
      simp [L_law04_TreeFull_1, h0, h3, h13, hlt', setFrom, r1, hw, -Int.natCast_add]
      exact ⟨65536 - (i + 1), by omega, i + 1, rfl, by omega, sn2, r2, r3, rfl⟩
    · have hi6 : i = 65536 := by omega
      subst hi6
      have hlt' : ¬ ((65536 : Nat) : Int) < 65536 := by omega
      have r1 := Term_full hb hp hr List.length_replicate 0
      obtain ⟨g2, st, r2, r3, r4, r5, _⟩ := Type_ok hb hp hr
      obtain ⟨g3, x, y, r6, r7⟩ := Tree_call hb (by omega) r3 r5 r4
      unfold nodeK at r1
      unfold typeK at r2
      simp [L_law04_TreeFull_1, K_law04_TreeFull_1, h0, h3, h13, setFrom, r1, r2, r6, r7, bindH_opt, afield, apart, loadC, -List.reduceReplicate]
end
end Go.Proofs.Eng
/- Templates of functions, as the engine takes them; numbers of functions and types by names. Printed by tm.py. -/
set_option linter.unusedVariables false
set_option maxRecDepth 100000
namespace Go.Proofs.Eng
open Go

def L_tree_uses_note_1 (N : Nat → Nat) : AC :=
    .seq (
     .ops [⟨(some 12), .bin .lss (.t 11) (.t 10), none⟩]) (
    .seq (
     .cond (.t 12) (
      .skip) (
      .exit 0)) (
    .seq (
     .block 1 (
      .seq (
       .ops [⟨(some 13), .iaddr 1 (.t 9) (.t 11), none⟩, ⟨(some 14), .load none (.t 13), none⟩, ⟨(some 8), .mov (.t 14), none⟩]) (
      .seq (
       .seq (
        .ops [⟨(some 15), .mov (.t 8), none⟩, ⟨(some 16), .bin .lss (.t 15) (.c (.lit (.int .i64 0))), none⟩, ⟨(some 17), .mov (.t 16), none⟩, ⟨(some 18), .mov (.t 8), (some (17, false))⟩, ⟨(some 19), .mov (.t 2), (some (17, false))⟩, ⟨(some 20), .bin .geq (.t 18) (.t 19), (some (17, false))⟩, ⟨(some 21), .pick (.t 17) (.c (.lit (.bool true))) (.t 20), none⟩]) (
       .cond (.t 21) (
        .seq (
         .ops [⟨(some 6), .mov (.c (.lit (.bool false))), none⟩]) (
        .ret)) (
        .skip))) (
      .ops [⟨(some 22), .mov (.t 0), none⟩, ⟨(some 23), .mov (.t 8), none⟩, ⟨(some 24), .iaddr 1 (.t 22) (.t 23), none⟩, ⟨(some 25), .load none (.t 24), none⟩, ⟨(some 26), .bin .add (.t 25) (.c (.lit (.int .i64 1))), none⟩, ⟨(some 27), .iaddr 1 (.t 22) (.t 23), none⟩, ⟨none, .store 1 (.t 27) (.t 26), none⟩])))) (
    .ops [⟨(some 28), .bin .add (.t 11) (.c (.lit (.int .i64 1))), none⟩, ⟨(some 11), .mov (.t 28), none⟩])))
def K_tree_uses_note_1 (N : Nat → Nat) : AC :=
 .seq (
  .ops [⟨(some 6), .mov (.c (.lit (.bool true))), none⟩]) (
 .ret)
/-- (azimuth/tree.uses).note -/
def C_tree_uses_note (N : Nat → Nat) : AFunc := ⟨29, [.inl 6],
 .seq (
  .ops [⟨(some 6), .mov (.c (.lit (.bool false))), none⟩]) (
 .seq (
  .seq (
   .ops [⟨(some 9), .mov (.t 1), none⟩, ⟨(some 10), .len (.t 9), none⟩, ⟨(some 11), .mov (.c (.lit (.int .i64 0))), none⟩]) (
  .block 0 (
   .loop (L_tree_uses_note_1 N)))) (K_tree_uses_note_1 N)), false⟩

def L_tree_Check_1 (N : Nat → Nat) : AC :=
    .seq (
     .ops [⟨(some 40), .bin .lss (.t 39) (.t 38), none⟩]) (
    .seq (
     .cond (.t 40) (
      .skip) (
      .exit 0)) (
    .seq (
     .block 1 (
      .seq (
       .ops [⟨(some 41), .mov (.t 39), none⟩, ⟨(some 42), .iaddr 8 (.t 37) (.t 39), none⟩, ⟨(some 43), .load (some 8) (.t 42), none⟩, ⟨(some 6), .new (t_api_Node N) (.agg [(.lit (.int .i64 0)), (.lit (.int .i64 0)), (.lit (.string (mkS []))), (.lit (.int .i64 0)), (.lit (.int .u64 0)), (.lit (.slice none 0 0)), (.lit (.slice none 0 0)), (.lit (.slice none 0 0))]), none⟩, ⟨(some 5), .mov (.t 41), none⟩, ⟨none, .store 8 (.t 6) (.t 43), none⟩]) (
      .seq (
       .ops [⟨(some 44), .load (some 8) (.t 6), none⟩, ⟨(some 45), .call (.c (.fn (f_tree_term N) [] [])) [(.t 44)], none⟩, ⟨(some 46), .un .not (.t 45), none⟩, ⟨(some 47), .mov (.t 46), none⟩, ⟨(some 48), .mov (.t 3), (some (47, false))⟩, ⟨(some 49), .faddr 6 (.t 6), (some (47, false))⟩, ⟨(some 50), .load none (.t 49), (some (47, false))⟩, ⟨(some 51), .mov (.t 5), (some (47, false))⟩, ⟨(some 52), .call (.c (.fn (f_tree_uses_note N) [] [])) [(.t 48), (.t 50), (.t 51)], (some (47, false))⟩, ⟨(some 53), .un .not (.t 52), (some (47, false))⟩, ⟨(some 54), .pick (.t 47) (.c (.lit (.bool true))) (.t 53), none⟩, ⟨(some 55), .mov (.t 54), none⟩, ⟨(some 56), .mov (.t 4), (some (55, false))⟩, ⟨(some 57), .faddr 7 (.t 6), (some (55, false))⟩, ⟨(some 58), .load none (.t 57), (some (55, false))⟩, ⟨(some 59), .faddr 1 (.t 1), (some (55, false))⟩, ⟨(some 60), .load none (.t 59), (some (55, false))⟩, ⟨(some 61), .len (.t 60), (some (55, false))⟩, ⟨(some 62), .call (.c (.fn (f_tree_uses_note N) [] [])) [(.t 56), (.t 58), (.t 61)], (some (55, false))⟩, ⟨(some 63), .un .not (.t 62), (some (55, false))⟩, ⟨(some 64), .pick (.t 55) (.c (.lit (.bool true))) (.t 63), none⟩]) (
      .cond (.t 64) (
       .seq (
        .ops [⟨(some 2), .mov (.c (.lit (.int .i64 14))), none⟩]) (
       .ret)) (
       .skip))))) (
    .ops [⟨(some 65), .bin .add (.t 39) (.c (.lit (.int .i64 1))), none⟩, ⟨(some 39), .mov (.t 65), none⟩])))
def L_tree_Check_2 (N : Nat → Nat) : AC :=
    .seq (
     .ops [⟨(some 70), .bin .lss (.t 69) (.t 68), none⟩]) (
    .seq (
     .cond (.t 70) (
      .skip) (
      .exit 2)) (
    .seq (
     .block 3 (
      .seq (
       .ops [⟨(some 71), .mov (.t 69), none⟩, ⟨(some 72), .iaddr 6 (.t 67) (.t 69), none⟩, ⟨(some 73), .load (some 6) (.t 72), none⟩, ⟨(some 8), .new (t_api_TypeNode N) (.agg [(.lit (.int .i64 0)), (.lit (.int .i64 0)), (.lit (.string (mkS []))), (.lit (.slice none 0 0)), (.lit (.slice none 0 0)), (.lit (.bool false))]), none⟩, ⟨(some 7), .mov (.t 71), none⟩, ⟨none, .store 6 (.t 8) (.t 73), none⟩]) (
      .seq (
       .ops [⟨(some 74), .load (some 6) (.t 8), none⟩, ⟨(some 75), .call (.c (.fn (f_tree_typ N) [] [])) [(.t 74)], none⟩, ⟨(some 76), .un .not (.t 75), none⟩, ⟨(some 77), .mov (.t 76), none⟩, ⟨(some 78), .mov (.t 4), (some (77, false))⟩, ⟨(some 79), .faddr 4 (.t 8), (some (77, false))⟩, ⟨(some 80), .load none (.t 79), (some (77, false))⟩, ⟨(some 81), .mov (.t 7), (some (77, false))⟩, ⟨(some 82), .call (.c (.fn (f_tree_uses_note N) [] [])) [(.t 78), (.t 80), (.t 81)], (some (77, false))⟩, ⟨(some 83), .un .not (.t 82), (some (77, false))⟩, ⟨(some 84), .pick (.t 77) (.c (.lit (.bool true))) (.t 83), none⟩]) (
      .cond (.t 84) (
       .seq (
        .ops [⟨(some 2), .mov (.c (.lit (.int .i64 14))), none⟩]) (
       .ret)) (
       .skip))))) (
    .ops [⟨(some 85), .bin .add (.t 69) (.c (.lit (.int .i64 1))), none⟩, ⟨(some 69), .mov (.t 85), none⟩])))
def L_tree_Check_3 (N : Nat → Nat) : AC :=
    .seq (
     .ops [⟨(some 90), .bin .lss (.t 89) (.t 88), none⟩]) (
    .seq (
     .cond (.t 90) (
      .skip) (
      .exit 4)) (
    .seq (
     .block 5 (
      .seq (
       .ops [⟨(some 91), .iaddr 3 (.t 87) (.t 89), none⟩, ⟨(some 92), .load (some 3) (.t 91), none⟩, ⟨(some 10), .new (t_api_Alias N) (.agg [(.lit (.string (mkS []))), (.lit (.int .i64 0)), (.lit (.int .i64 0))]), none⟩, ⟨none, .store 3 (.t 10) (.t 92), none⟩]) (
      .seq (
       .ops [⟨(some 93), .faddr 0 (.t 10), none⟩, ⟨(some 94), .load none (.t 93), none⟩, ⟨(some 95), .call (.c (.fn (f_tree_alias N) [] [])) [(.t 94)], none⟩, ⟨(some 96), .un .not (.t 95), none⟩, ⟨(some 97), .mov (.t 96), none⟩, ⟨(some 98), .mov (.t 4), (some (97, false))⟩, ⟨(some 99), .faddr 1 (.t 10), (some (97, false))⟩, ⟨(some 100), .load none (.t 99), (some (97, false))⟩, ⟨(some 101), .bslice (t_int N) 1 none 1 [(.lit (.int .i64 0))] [(0, 1, (.t 100))], (some (97, false))⟩, ⟨(some 102), .faddr 1 (.t 1), (some (97, false))⟩, ⟨(some 103), .load none (.t 102), (some (97, false))⟩, ⟨(some 104), .len (.t 103), (some (97, false))⟩, ⟨(some 105), .call (.c (.fn (f_tree_uses_note N) [] [])) [(.t 98), (.t 101), (.t 104)], (some (97, false))⟩, ⟨(some 106), .un .not (.t 105), (some (97, false))⟩, ⟨(some 107), .pick (.t 97) (.c (.lit (.bool true))) (.t 106), none⟩]) (
      .cond (.t 107) (
       .seq (
        .ops [⟨(some 2), .mov (.c (.lit (.int .i64 14))), none⟩]) (
       .ret)) (
       .skip))))) (
    .ops [⟨(some 108), .bin .add (.t 89) (.c (.lit (.int .i64 1))), none⟩, ⟨(some 89), .mov (.t 108), none⟩])))
def K_tree_Check_3 (N : Nat → Nat) : AC :=
 .seq (
  .ops [⟨(some 109), .mov (.t 3), none⟩, ⟨(some 110), .mov (.t 3), none⟩, ⟨(some 111), .len (.t 110), none⟩, ⟨(some 112), .bin .sub (.t 111) (.c (.lit (.int .i64 1))), none⟩, ⟨(some 113), .iaddr 1 (.t 109) (.t 112), none⟩, ⟨(some 114), .load none (.t 113), none⟩, ⟨(some 115), .bin .add (.t 114) (.c (.lit (.int .i64 1))), none⟩, ⟨(some 116), .iaddr 1 (.t 109) (.t 112), none⟩, ⟨none, .store 1 (.t 116) (.t 115), none⟩]) (
 .seq (
  .ops [⟨(some 11), .mov (.c (.fn (f_tree_Check_1 N) [] [])), none⟩]) (
 .seq (
  .seq (
   .ops [⟨(some 117), .mov (.t 3), none⟩, ⟨(some 118), .mov (.t 11), none⟩, ⟨(some 119), .call (.c (.fn (f_slices_ContainsFunc_tree_uses_int N) [] [])) [(.t 117), (.t 118)], none⟩, ⟨(some 120), .mov (.t 119), none⟩, ⟨(some 121), .mov (.t 4), (some (120, false))⟩, ⟨(some 122), .mov (.t 11), (some (120, false))⟩, ⟨(some 123), .call (.c (.fn (f_slices_ContainsFunc_tree_uses_int N) [] [])) [(.t 121), (.t 122)], (some (120, false))⟩, ⟨(some 124), .pick (.t 120) (.c (.lit (.bool true))) (.t 123), none⟩]) (
  .cond (.t 124) (
   .seq (
    .ops [⟨(some 2), .mov (.c (.lit (.int .i64 14))), none⟩]) (
   .ret)) (
   .skip))) (
 .seq (
  .ops [⟨(some 2), .mov (.c (.lit (.int .i64 0))), none⟩]) (
 .ret))))
def K_tree_Check_2 (N : Nat → Nat) : AC :=
 .seq (
  .seq (
   .ops [⟨(some 86), .faddr 2 (.t 1), none⟩, ⟨(some 87), .load none (.t 86), none⟩, ⟨(some 88), .len (.t 87), none⟩, ⟨(some 89), .mov (.c (.lit (.int .i64 0))), none⟩]) (
  .block 4 (
   .loop (L_tree_Check_3 N)))) (K_tree_Check_3 N)
def K_tree_Check_1 (N : Nat → Nat) : AC :=
 .seq (
  .seq (
   .ops [⟨(some 66), .faddr 1 (.t 1), none⟩, ⟨(some 67), .load none (.t 66), none⟩, ⟨(some 68), .len (.t 67), none⟩, ⟨(some 69), .mov (.c (.lit (.int .i64 0))), none⟩]) (
  .block 2 (
   .loop (L_tree_Check_2 N)))) (K_tree_Check_2 N)
/-- azimuth/tree.Check -/
def C_tree_Check (N : Nat → Nat) : AFunc := ⟨125, [.inl 2],
 .seq (
  .ops [⟨(some 1), .box (t_api_Tree N) (.t 0), none⟩, ⟨(some 2), .mov (.c (.lit (.int .i64 0))), none⟩]) (
 .seq (
  .seq (
   .ops [⟨(some 12), .faddr 0 (.t 1), none⟩, ⟨(some 13), .load none (.t 12), none⟩, ⟨(some 14), .len (.t 13), none⟩, ⟨(some 15), .eq false .pint (.t 14) (.c (.lit (.int .i64 0))), none⟩, ⟨(some 16), .mov (.t 15), none⟩, ⟨(some 17), .faddr 0 (.t 1), (some (16, false))⟩, ⟨(some 18), .load none (.t 17), (some (16, false))⟩, ⟨(some 19), .len (.t 18), (some (16, false))⟩, ⟨(some 20), .bin .gtr (.t 19) (.c (.lit (.int .i64 65536))), (some (16, false))⟩, ⟨(some 21), .pick (.t 16) (.c (.lit (.bool true))) (.t 20), none⟩, ⟨(some 22), .mov (.t 21), none⟩, ⟨(some 23), .faddr 1 (.t 1), (some (22, false))⟩, ⟨(some 24), .load none (.t 23), (some (22, false))⟩, ⟨(some 25), .len (.t 24), (some (22, false))⟩, ⟨(some 26), .bin .gtr (.t 25) (.c (.lit (.int .i64 65536))), (some (22, false))⟩, ⟨(some 27), .pick (.t 22) (.c (.lit (.bool true))) (.t 26), none⟩]) (
  .cond (.t 27) (
   .seq (
    .ops [⟨(some 2), .mov (.c (.lit (.int .i64 14))), none⟩]) (
   .ret)) (
   .skip))) (
 .seq (
  .dops 3 [⟨(some 28), .faddr 0 (.t 1), none⟩, ⟨(some 29), .load none (.t 28), none⟩, ⟨(some 30), .len (.t 29), none⟩, ⟨(some 32), .faddr 1 (.t 1), none⟩, ⟨(some 33), .load none (.t 32), none⟩, ⟨(some 34), .len (.t 33), none⟩, ⟨(some 31), .mkslice (t_int N) 1 8 (.lit (.int .i64 0)) (.t 30) (.t 30), none⟩, ⟨(some 3), .mov (.t 31), none⟩, ⟨(some 35), .mkslice (t_int N) 1 8 (.lit (.int .i64 0)) (.t 34) (.t 34), none⟩, ⟨(some 4), .mov (.t 35), none⟩] [0, 2, 0, 0, 2, 0, 1, 0, 1, 0] []) (
 .seq (
  .seq (
   .ops [⟨(some 36), .faddr 0 (.t 1), none⟩, ⟨(some 37), .load none (.t 36), none⟩, ⟨(some 38), .len (.t 37), none⟩, ⟨(some 39), .mov (.c (.lit (.int .i64 0))), none⟩]) (
  .block 0 (
   .loop (L_tree_Check_1 N)))) (K_tree_Check_1 N)))), false⟩

/-- azimuth/tree.Check$1 -/
def C_tree_Check_1 (N : Nat → Nat) : AFunc := ⟨5, [.inl 2],
 .seq (
  .ops [⟨(some 2), .mov (.c (.lit (.bool false))), none⟩]) (
 .seq (
  .ops [⟨(some 3), .mov (.t 0), none⟩, ⟨(some 4), .eq true .pint (.t 3) (.c (.lit (.int .i64 1))), none⟩, ⟨(some 2), .mov (.t 4), none⟩]) (
 .ret)), false⟩

/-- azimuth/tree.alias -/
def C_tree_alias (N : Nat → Nat) : AFunc := ⟨34, [.inl 2],
 .seq (
  .ops [⟨(some 2), .mov (.c (.lit (.bool false))), none⟩]) (
 .seq (
  .ops [⟨(some 6), .mov (.t 0), none⟩, ⟨(some 7), .conv (.bytes (t_uint8 N)) (.t 6), none⟩, ⟨(some 8), .call (.c (.fn (f_lexer_Lex N) [] [])) [(.t 7)], none⟩, ⟨(some 5), .mov (.t 8), none⟩, ⟨(some 9), .extract (.t 5) 0, none⟩, ⟨(some 10), .extract (.t 5) 1, none⟩, ⟨(some 4), .new (t_api_Diag N) (.agg [(.lit (.int .i64 0)), (.lit (.int .i64 0)), (.lit (.string (mkS [])))]), none⟩, ⟨(some 3), .mov (.t 9), none⟩, ⟨none, .store 3 (.t 4) (.t 10), none⟩]) (
 .seq (
  .ops [⟨(some 11), .faddr 0 (.t 4), none⟩, ⟨(some 12), .load none (.t 11), none⟩, ⟨(some 13), .eq false .pint (.t 12) (.c (.lit (.int .i64 0))), none⟩, ⟨(some 14), .mov (.t 13), none⟩, ⟨(some 15), .mov (.t 3), (some (14, true))⟩, ⟨(some 16), .len (.t 15), (some (14, true))⟩, ⟨(some 17), .eq false .pint (.t 16) (.c (.lit (.int .i64 2))), (some (14, true))⟩, ⟨(some 18), .pick (.t 14) (.t 17) (.c (.lit (.bool false))), none⟩, ⟨(some 19), .mov (.t 18), none⟩, ⟨(some 20), .mov (.t 3), (some (19, true))⟩, ⟨(some 21), .iaddr 3 (.t 20) (.c (.lit (.int .i64 0))), (some (19, true))⟩, ⟨(some 22), .faddr 0 (.t 21), (some (19, true))⟩, ⟨(some 23), .load none (.t 22), (some (19, true))⟩, ⟨(some 24), .eq false .pint (.t 23) (.c (.lit (.int .i64 2))), (some (19, true))⟩, ⟨(some 25), .pick (.t 19) (.t 24) (.c (.lit (.bool false))), none⟩, ⟨(some 26), .mov (.t 25), none⟩, ⟨(some 27), .mov (.t 3), (some (26, true))⟩, ⟨(some 28), .iaddr 3 (.t 27) (.c (.lit (.int .i64 0))), (some (26, true))⟩, ⟨(some 29), .faddr 1 (.t 28), (some (26, true))⟩, ⟨(some 30), .load none (.t 29), (some (26, true))⟩, ⟨(some 31), .mov (.t 0), (some (26, true))⟩, ⟨(some 32), .eq false .pstr (.t 30) (.t 31), (some (26, true))⟩, ⟨(some 33), .pick (.t 26) (.t 32) (.c (.lit (.bool false))), none⟩, ⟨(some 2), .mov (.t 33), none⟩]) (
 .ret))), false⟩

/-- azimuth/tree.all -/
def C_tree_all (N : Nat → Nat) : AFunc := ⟨9, [.inl 4],
 .seq (
  .ops [⟨(some 3), .box (t_func_string_bool N) (.t 1), none⟩, ⟨(some 4), .mov (.c (.lit (.bool false))), none⟩]) (
 .seq (
  .ops [⟨(some 5), .mov (.t 0), none⟩, ⟨(some 6), .mkfn (f_tree_all_1 N) [] [(.t 3)], none⟩, ⟨(some 7), .call (.c (.fn (f_slices_ContainsFunc_sl_string_string N) [] [])) [(.t 5), (.t 6)], none⟩, ⟨(some 8), .un .not (.t 7), none⟩, ⟨(some 4), .mov (.t 8), none⟩]) (
 .ret)), false⟩

/-- azimuth/tree.all$1 -/
def C_tree_all_1 (N : Nat → Nat) : AFunc := ⟨8, [.inl 3],
 .seq (
  .ops [⟨(some 3), .mov (.c (.lit (.bool false))), none⟩]) (
 .seq (
  .ops [⟨(some 4), .load none (.t 1), none⟩, ⟨(some 5), .mov (.t 0), none⟩, ⟨(some 6), .call (.t 4) [(.t 5)], none⟩, ⟨(some 7), .un .not (.t 6), none⟩, ⟨(some 3), .mov (.t 7), none⟩]) (
 .ret)), false⟩

def L_tree_halves_1 (N : Nat → Nat) : AC :=
    .seq (
     .ops [⟨(some 9), .bin .lss (.t 8) (.t 7), none⟩]) (
    .seq (
     .cond (.t 9) (
      .skip) (
      .exit 0)) (
    .seq (
     .block 1 (
      .seq (
       .ops [⟨(some 10), .mov (.t 8), none⟩, ⟨(some 11), .iaddr 1 (.t 6) (.t 8), none⟩, ⟨(some 12), .load none (.t 11), none⟩, ⟨(some 4), .mov (.t 10), none⟩, ⟨(some 5), .mov (.t 12), none⟩]) (
      .seq (
       .ops [⟨(some 13), .mov (.t 4), none⟩, ⟨(some 14), .bin .rem (.t 13) (.c (.lit (.int .i64 2))), none⟩, ⟨(some 15), .eq false .pint (.t 14) (.c (.lit (.int .i64 0))), none⟩]) (
      .cond (.t 15) (
       .ops [⟨(some 16), .mov (.t 2), none⟩, ⟨(some 17), .mov (.t 5), none⟩, ⟨(some 18), .bslice (t_string N) 1 none 1 [(.lit (.string (mkS [])))] [(0, 1, (.t 17))], none⟩, ⟨(some 19), .append (t_string N) 1 16 (.t 16) (.t 18), none⟩, ⟨(some 2), .mov (.t 19), none⟩]) (
       .ops [⟨(some 20), .mov (.t 3), none⟩, ⟨(some 21), .mov (.t 5), none⟩, ⟨(some 22), .bslice (t_string N) 1 none 1 [(.lit (.string (mkS [])))] [(0, 1, (.t 21))], none⟩, ⟨(some 23), .append (t_string N) 1 16 (.t 20) (.t 22), none⟩, ⟨(some 3), .mov (.t 23), none⟩]))))) (
    .ops [⟨(some 24), .bin .add (.t 8) (.c (.lit (.int .i64 1))), none⟩, ⟨(some 8), .mov (.t 24), none⟩])))
def K_tree_halves_1 (N : Nat → Nat) : AC :=
 .seq (
  .ops [⟨(some 25), .mov (.t 2), none⟩, ⟨(some 26), .mov (.t 3), none⟩, ⟨(some 2), .mov (.t 25), none⟩, ⟨(some 3), .mov (.t 26), none⟩]) (
 .ret)
/-- azimuth/tree.halves -/
def C_tree_halves (N : Nat → Nat) : AFunc := ⟨27, [.inl 2, .inl 3],
 .seq (
  .ops [⟨(some 2), .mov (.c (.lit (.slice none 0 0))), none⟩, ⟨(some 3), .mov (.c (.lit (.slice none 0 0))), none⟩]) (
 .seq (
  .seq (
   .ops [⟨(some 6), .mov (.t 0), none⟩, ⟨(some 7), .len (.t 6), none⟩, ⟨(some 8), .mov (.c (.lit (.int .i64 0))), none⟩]) (
  .block 0 (
   .loop (L_tree_halves_1 N)))) (K_tree_halves_1 N)), false⟩

/-- azimuth/tree.named -/
def C_tree_named (N : Nat → Nat) : AFunc := ⟨93, [.inl 2],
 .seq (
  .ops [⟨(some 1), .box (t_api_Node N) (.t 0), none⟩, ⟨(some 2), .mov (.c (.lit (.bool false))), none⟩]) (
 .seq (
  .seq (
   .ops [⟨(some 6), .faddr 0 (.t 1), none⟩, ⟨(some 7), .load none (.t 6), none⟩]) (
  .block 0 (
   .seq (
    .ops [⟨(some 9), .eq false .pint (.t 7) (.c (.lit (.int .i64 10))), none⟩, ⟨(some 8), .mov (.t 9), none⟩]) (
   .cond (.t 8) (
    .seq (
     .ops [⟨(some 11), .faddr 5 (.t 1), none⟩, ⟨(some 12), .load none (.t 11), none⟩, ⟨(some 13), .call (.c (.fn (f_tree_halves N) [] [])) [(.t 12)], none⟩, ⟨(some 10), .mov (.t 13), none⟩, ⟨(some 14), .extract (.t 10) 0, none⟩, ⟨(some 15), .extract (.t 10) 1, none⟩, ⟨(some 3), .mov (.t 14), none⟩, ⟨(some 4), .mov (.t 15), none⟩]) (
    .seq (
     .ops [⟨(some 16), .faddr 6 (.t 1), none⟩, ⟨(some 17), .load none (.t 16), none⟩, ⟨(some 18), .len (.t 17), none⟩, ⟨(some 19), .mov (.t 4), none⟩, ⟨(some 20), .len (.t 19), none⟩, ⟨(some 21), .bin .sub (.t 18) (.t 20), none⟩, ⟨(some 5), .mov (.t 21), none⟩]) (
    .seq (
     .ops [⟨(some 22), .faddr 5 (.t 1), none⟩, ⟨(some 23), .load none (.t 22), none⟩, ⟨(some 24), .len (.t 23), none⟩, ⟨(some 25), .bin .rem (.t 24) (.c (.lit (.int .i64 2))), none⟩, ⟨(some 26), .eq false .pint (.t 25) (.c (.lit (.int .i64 0))), none⟩, ⟨(some 27), .mov (.t 26), none⟩, ⟨(some 28), .mov (.t 5), (some (27, true))⟩, ⟨(some 29), .eq false .pint (.t 28) (.c (.lit (.int .i64 1))), (some (27, true))⟩, ⟨(some 30), .mov (.t 29), (some (27, true))⟩, ⟨(some 31), .mov (.t 5), (some (30, false))⟩, ⟨(some 32), .eq false .pint (.t 31) (.c (.lit (.int .i64 2))), (some (30, false))⟩, ⟨(some 33), .pick (.t 30) (.c (.lit (.bool true))) (.t 32), (some (27, true))⟩, ⟨(some 34), .pick (.t 27) (.t 33) (.c (.lit (.bool false))), none⟩, ⟨(some 35), .mov (.t 34), none⟩, ⟨(some 36), .mov (.t 3), (some (35, true))⟩, ⟨(some 37), .call (.c (.fn (f_tree_all N) [] [])) [(.t 36), (.c (.fn (f_tree_tag N) [] []))], (some (35, true))⟩, ⟨(some 38), .pick (.t 35) (.t 37) (.c (.lit (.bool false))), none⟩, ⟨(some 39), .mov (.t 38), none⟩, ⟨(some 40), .mov (.t 4), (some (39, true))⟩, ⟨(some 41), .call (.c (.fn (f_tree_all N) [] [])) [(.t 40), (.c (.fn (f_lexer_IsName N) [] []))], (some (39, true))⟩, ⟨(some 42), .pick (.t 39) (.t 41) (.c (.lit (.bool false))), none⟩, ⟨(some 43), .mov (.t 42), none⟩, ⟨(some 44), .mov (.t 3), (some (43, true))⟩, ⟨(some 45), .call (.c (.fn (f_tree_once N) [] [])) [(.t 44)], (some (43, true))⟩, ⟨(some 46), .pick (.t 43) (.t 45) (.c (.lit (.bool false))), none⟩, ⟨(some 2), .mov (.t 46), none⟩]) (
    .ret)))) (
    .seq (
     .ops [⟨(some 48), .eq false .pint (.t 7) (.c (.lit (.int .i64 12))), none⟩, ⟨(some 47), .mov (.t 48), none⟩]) (
    .cond (.t 47) (
     .seq (
      .ops [⟨(some 49), .faddr 6 (.t 1), none⟩, ⟨(some 50), .load none (.t 49), none⟩, ⟨(some 51), .len (.t 50), none⟩, ⟨(some 52), .faddr 5 (.t 1), none⟩, ⟨(some 53), .load none (.t 52), none⟩, ⟨(some 54), .len (.t 53), none⟩, ⟨(some 55), .eq false .pint (.t 51) (.t 54), none⟩, ⟨(some 56), .mov (.t 55), none⟩, ⟨(some 57), .faddr 5 (.t 1), (some (56, true))⟩, ⟨(some 58), .load none (.t 57), (some (56, true))⟩, ⟨(some 59), .call (.c (.fn (f_tree_all N) [] [])) [(.t 58), (.c (.fn (f_lexer_IsName N) [] []))], (some (56, true))⟩, ⟨(some 60), .pick (.t 56) (.t 59) (.c (.lit (.bool false))), none⟩, ⟨(some 61), .mov (.t 60), none⟩, ⟨(some 62), .faddr 5 (.t 1), (some (61, true))⟩, ⟨(some 63), .load none (.t 62), (some (61, true))⟩, ⟨(some 64), .call (.c (.fn (f_tree_once N) [] [])) [(.t 63)], (some (61, true))⟩, ⟨(some 65), .pick (.t 61) (.t 64) (.c (.lit (.bool false))), none⟩, ⟨(some 2), .mov (.t 65), none⟩]) (
     .ret)) (
     .seq (
      .ops [⟨(some 67), .eq false .pint (.t 7) (.c (.lit (.int .i64 11))), none⟩, ⟨(some 66), .mov (.t 67), none⟩]) (
     .cond (.t 66) (
      .seq (
       .ops [⟨(some 68), .faddr 2 (.t 1), none⟩, ⟨(some 69), .load none (.t 68), none⟩, ⟨(some 70), .call (.c (.fn (f_tree_tag N) [] [])) [(.t 69)], none⟩, ⟨(some 71), .mov (.t 70), none⟩, ⟨(some 72), .faddr 5 (.t 1), (some (71, true))⟩, ⟨(some 73), .load none (.t 72), (some (71, true))⟩, ⟨(some 74), .len (.t 73), (some (71, true))⟩, ⟨(some 75), .eq false .pint (.t 74) (.c (.lit (.int .i64 0))), (some (71, true))⟩, ⟨(some 76), .pick (.t 71) (.t 75) (.c (.lit (.bool false))), none⟩, ⟨(some 2), .mov (.t 76), none⟩]) (
      .ret)) (
      .seq (
       .ops [⟨(some 78), .eq false .pint (.t 7) (.c (.lit (.int .i64 14))), none⟩, ⟨(some 77), .mov (.t 78), none⟩]) (
      .cond (.t 77) (
       .seq (
        .dops 11 [⟨(some 80), .faddr 2 (.t 1), none⟩, ⟨(some 81), .load none (.t 80), none⟩, ⟨(some 79), .call (.c (.fn (f_tree_ops N) [] [])) [], none⟩, ⟨(some 82), .call (.c (.fn (f_slices_Contains_sl_string_string N) [] [])) [(.t 79), (.t 81)], none⟩, ⟨(some 83), .mov (.t 82), none⟩, ⟨(some 84), .faddr 5 (.t 1), (some (83, true))⟩, ⟨(some 85), .load none (.t 84), (some (83, true))⟩, ⟨(some 86), .len (.t 85), (some (83, true))⟩, ⟨(some 87), .eq false .pint (.t 86) (.c (.lit (.int .i64 0))), (some (83, true))⟩, ⟨(some 88), .pick (.t 83) (.t 87) (.c (.lit (.bool false))), none⟩, ⟨(some 2), .mov (.t 88), none⟩] [0, 0, 1, 0, 0, 0, 0, 0, 0, 0, 0] []) (
       .ret)) (
       .skip))))))))))) (
 .seq (
  .ops [⟨(some 89), .faddr 5 (.t 1), none⟩, ⟨(some 90), .load none (.t 89), none⟩, ⟨(some 91), .len (.t 90), none⟩, ⟨(some 92), .eq false .pint (.t 91) (.c (.lit (.int .i64 0))), none⟩, ⟨(some 2), .mov (.t 92), none⟩]) (
 .ret))), false⟩

def L_tree_once_1 (N : Nat → Nat) : AC :=
    .seq (
     .ops [⟨(some 10), .bin .lss (.t 9) (.t 8), none⟩]) (
    .seq (
     .cond (.t 10) (
      .skip) (
      .exit 0)) (
    .seq (
     .block 1 (
      .seq (
       .ops [⟨(some 11), .iaddr 1 (.t 7) (.t 9), none⟩, ⟨(some 12), .load none (.t 11), none⟩, ⟨(some 5), .mov (.t 12), none⟩]) (
      .seq (
       .seq (
        .ops [⟨(some 13), .mov (.t 3), none⟩, ⟨(some 14), .mov (.t 5), none⟩, ⟨(some 15), .lookup .string (.lit (.bool false)) (.t 13) (.t 14) false, none⟩]) (
       .cond (.t 15) (
        .seq (
         .ops [⟨(some 2), .mov (.c (.lit (.bool false))), none⟩]) (
        .ret)) (
        .skip))) (
      .ops [⟨(some 16), .mov (.t 3), none⟩, ⟨(some 17), .mov (.t 5), none⟩, ⟨none, .mapupd .string (.t 16) (.t 17) (.c (.lit (.bool true))), none⟩])))) (
    .ops [⟨(some 18), .bin .add (.t 9) (.c (.lit (.int .i64 1))), none⟩, ⟨(some 9), .mov (.t 18), none⟩])))
def K_tree_once_1 (N : Nat → Nat) : AC :=
 .seq (
  .ops [⟨(some 2), .mov (.c (.lit (.bool true))), none⟩]) (
 .ret)
/-- azimuth/tree.once -/
def C_tree_once (N : Nat → Nat) : AFunc := ⟨19, [.inl 2],
 .seq (
  .ops [⟨(some 2), .mov (.c (.lit (.bool false))), none⟩]) (
 .seq (
  .ops [⟨(some 6), .mkmap, none⟩, ⟨(some 3), .mov (.t 6), none⟩]) (
 .seq (
  .seq (
   .ops [⟨(some 7), .mov (.t 0), none⟩, ⟨(some 8), .len (.t 7), none⟩, ⟨(some 9), .mov (.c (.lit (.int .i64 0))), none⟩]) (
  .block 0 (
   .loop (L_tree_once_1 N)))) (K_tree_once_1 N))), false⟩

/-- azimuth/tree.ops -/
def C_tree_ops (N : Nat → Nat) : AFunc := ⟨2, [.inl 0],
 .seq (
  .ops [⟨(some 0), .mov (.c (.lit (.slice none 0 0))), none⟩]) (
 .seq (
  .ops [⟨(some 1), .bslice (t_string N) 1 none 12 [(.lit (.string (mkS [])))] [(0, 1, (.c (.lit (.string (mkS [43]))))), (1, 1, (.c (.lit (.string (mkS [45]))))), (2, 1, (.c (.lit (.string (mkS [42]))))), (3, 1, (.c (.lit (.string (mkS [47]))))), (4, 1, (.c (.lit (.string (mkS [43, 46]))))), (5, 1, (.c (.lit (.string (mkS [45, 46]))))), (6, 1, (.c (.lit (.string (mkS [42, 46]))))), (7, 1, (.c (.lit (.string (mkS [47, 46]))))), (8, 1, (.c (.lit (.string (mkS [60]))))), (9, 1, (.c (.lit (.string (mkS [60, 46]))))), (10, 1, (.c (.lit (.string (mkS [61, 61]))))), (11, 1, (.c (.lit (.string (mkS [94])))))], none⟩, ⟨(some 0), .mov (.t 1), none⟩]) (
 .ret)), false⟩

/-- azimuth/tree.shapes -/
def C_tree_shapes (N : Nat → Nat) : AFunc := ⟨45, [.inr (2, (some 6)), .inl 3],
 .seq (
  .ops [⟨(some 2), .new (t_tree_shape N) (.agg [(.lit (.bool false)), (.lit (.bool false)), (.lit (.bool false)), (.lit (.bool false)), (.lit (.int .i64 0)), (.lit (.int .i64 0))]), none⟩, ⟨(some 3), .mov (.c (.lit (.bool false))), none⟩]) (
 .seq (
  .seq (
   .ops [⟨(some 4), .mov (.t 0), none⟩]) (
  .block 0 (
   .seq (
    .ops [⟨(some 6), .eq false .pint (.t 4) (.c (.lit (.int .i64 0))), none⟩, ⟨(some 5), .mov (.t 6), none⟩]) (
   .cond (.t 5) (
    .seq (
     .ops [⟨(some 7), .build [(.lit (.bool false)), (.lit (.bool false)), (.lit (.bool false)), (.lit (.bool false)), (.lit (.int .i64 0)), (.lit (.int .i64 0))] [(0, 1, (.c (.lit (.bool true))))], none⟩, ⟨none, .store 6 (.t 2) (.t 7), none⟩, ⟨(some 3), .mov (.c (.lit (.bool true))), none⟩]) (
    .ret)) (
    .seq (
     .seq (
      .ops [⟨(some 9), .eq false .pint (.t 4) (.c (.lit (.int .i64 1))), none⟩, ⟨(some 8), .mov (.t 9), none⟩]) (
     .cond (.t 8) (
      .skip) (
      .ops [⟨(some 10), .eq false .pint (.t 4) (.c (.lit (.int .i64 2))), none⟩, ⟨(some 8), .mov (.t 10), none⟩]))) (
    .cond (.t 8) (
     .seq (
      .ops [⟨(some 11), .build [(.lit (.bool false)), (.lit (.bool false)), (.lit (.bool false)), (.lit (.bool false)), (.lit (.int .i64 0)), (.lit (.int .i64 0))] [(1, 1, (.c (.lit (.bool true))))], none⟩, ⟨none, .store 6 (.t 2) (.t 11), none⟩, ⟨(some 3), .mov (.c (.lit (.bool true))), none⟩]) (
     .ret)) (
     .seq (
      .ops [⟨(some 13), .eq false .pint (.t 4) (.c (.lit (.int .i64 3))), none⟩, ⟨(some 12), .mov (.t 13), none⟩]) (
     .cond (.t 12) (
      .seq (
       .ops [⟨(some 14), .build [(.lit (.bool false)), (.lit (.bool false)), (.lit (.bool false)), (.lit (.bool false)), (.lit (.int .i64 0)), (.lit (.int .i64 0))] [(3, 1, (.c (.lit (.bool true))))], none⟩, ⟨none, .store 6 (.t 2) (.t 14), none⟩, ⟨(some 3), .mov (.c (.lit (.bool true))), none⟩]) (
      .ret)) (
      .seq (
       .ops [⟨(some 16), .eq false .pint (.t 4) (.c (.lit (.int .i64 4))), none⟩, ⟨(some 15), .mov (.t 16), none⟩]) (
      .cond (.t 15) (
       .seq (
        .ops [⟨(some 17), .build [(.lit (.bool false)), (.lit (.bool false)), (.lit (.bool false)), (.lit (.bool false)), (.lit (.int .i64 0)), (.lit (.int .i64 0))] [(2, 1, (.c (.lit (.bool true))))], none⟩, ⟨none, .store 6 (.t 2) (.t 17), none⟩, ⟨(some 3), .mov (.c (.lit (.bool true))), none⟩]) (
       .ret)) (
       .seq (
        .seq (
         .ops [⟨(some 19), .eq false .pint (.t 4) (.c (.lit (.int .i64 5))), none⟩, ⟨(some 18), .mov (.t 19), none⟩]) (
        .cond (.t 18) (
         .skip) (
         .seq (
          .ops [⟨(some 20), .eq false .pint (.t 4) (.c (.lit (.int .i64 11))), none⟩, ⟨(some 18), .mov (.t 20), none⟩]) (
         .cond (.t 18) (
          .skip) (
          .ops [⟨(some 21), .eq false .pint (.t 4) (.c (.lit (.int .i64 13))), none⟩, ⟨(some 18), .mov (.t 21), none⟩]))))) (
       .cond (.t 18) (
        .seq (
         .ops [⟨(some 22), .build [(.lit (.bool false)), (.lit (.bool false)), (.lit (.bool false)), (.lit (.bool false)), (.lit (.int .i64 0)), (.lit (.int .i64 0))] [(0, 1, (.c (.lit (.bool true)))), (4, 1, (.c (.lit (.int .i64 1))))], none⟩, ⟨none, .store 6 (.t 2) (.t 22), none⟩, ⟨(some 3), .mov (.c (.lit (.bool true))), none⟩]) (
        .ret)) (
        .seq (
         .ops [⟨(some 24), .eq false .pint (.t 4) (.c (.lit (.int .i64 6))), none⟩, ⟨(some 23), .mov (.t 24), none⟩]) (
        .cond (.t 23) (
         .seq (
          .ops [⟨(some 25), .build [(.lit (.bool false)), (.lit (.bool false)), (.lit (.bool false)), (.lit (.bool false)), (.lit (.int .i64 0)), (.lit (.int .i64 0))] [(4, 1, (.c (.lit (.int .i64 2))))], none⟩, ⟨none, .store 6 (.t 2) (.t 25), none⟩, ⟨(some 3), .mov (.c (.lit (.bool true))), none⟩]) (
         .ret)) (
         .seq (
          .seq (
           .ops [⟨(some 27), .eq false .pint (.t 4) (.c (.lit (.int .i64 7))), none⟩, ⟨(some 26), .mov (.t 27), none⟩]) (
          .cond (.t 26) (
           .skip) (
           .seq (
            .ops [⟨(some 28), .eq false .pint (.t 4) (.c (.lit (.int .i64 8))), none⟩, ⟨(some 26), .mov (.t 28), none⟩]) (
           .cond (.t 26) (
            .skip) (
            .ops [⟨(some 29), .eq false .pint (.t 4) (.c (.lit (.int .i64 14))), none⟩, ⟨(some 26), .mov (.t 29), none⟩]))))) (
         .cond (.t 26) (
          .seq (
           .ops [⟨(some 30), .build [(.lit (.bool false)), (.lit (.bool false)), (.lit (.bool false)), (.lit (.bool false)), (.lit (.int .i64 0)), (.lit (.int .i64 0))] [(0, 1, (.c (.lit (.bool true)))), (4, 1, (.c (.lit (.int .i64 2))))], none⟩, ⟨none, .store 6 (.t 2) (.t 30), none⟩, ⟨(some 3), .mov (.c (.lit (.bool true))), none⟩]) (
          .ret)) (
          .seq (
           .ops [⟨(some 32), .eq false .pint (.t 4) (.c (.lit (.int .i64 9))), none⟩, ⟨(some 31), .mov (.t 32), none⟩]) (
          .cond (.t 31) (
           .seq (
            .ops [⟨(some 33), .build [(.lit (.bool false)), (.lit (.bool false)), (.lit (.bool false)), (.lit (.bool false)), (.lit (.int .i64 0)), (.lit (.int .i64 0))] [(4, 1, (.c (.lit (.int .i64 3))))], none⟩, ⟨none, .store 6 (.t 2) (.t 33), none⟩, ⟨(some 3), .mov (.c (.lit (.bool true))), none⟩]) (
           .ret)) (
           .seq (
            .seq (
             .ops [⟨(some 35), .eq false .pint (.t 4) (.c (.lit (.int .i64 10))), none⟩, ⟨(some 34), .mov (.t 35), none⟩]) (
            .cond (.t 34) (
             .skip) (
             .ops [⟨(some 36), .eq false .pint (.t 4) (.c (.lit (.int .i64 12))), none⟩, ⟨(some 34), .mov (.t 36), none⟩]))) (
           .cond (.t 34) (
            .seq (
             .ops [⟨(some 37), .build [(.lit (.bool false)), (.lit (.bool false)), (.lit (.bool false)), (.lit (.bool false)), (.lit (.int .i64 0)), (.lit (.int .i64 0))] [(4, 1, (.c (.lit (.int .i64 (-1)))))], none⟩, ⟨none, .store 6 (.t 2) (.t 37), none⟩, ⟨(some 3), .mov (.c (.lit (.bool true))), none⟩]) (
            .ret)) (
            .seq (
             .ops [⟨(some 39), .eq false .pint (.t 4) (.c (.lit (.int .i64 15))), none⟩, ⟨(some 38), .mov (.t 39), none⟩]) (
            .cond (.t 38) (
             .seq (
              .ops [⟨(some 40), .build [(.lit (.bool false)), (.lit (.bool false)), (.lit (.bool false)), (.lit (.bool false)), (.lit (.int .i64 0)), (.lit (.int .i64 0))] [(4, 1, (.c (.lit (.int .i64 1)))), (5, 1, (.c (.lit (.int .i64 1))))], none⟩, ⟨none, .store 6 (.t 2) (.t 40), none⟩, ⟨(some 3), .mov (.c (.lit (.bool true))), none⟩]) (
             .ret)) (
             .seq (
              .ops [⟨(some 42), .eq false .pint (.t 4) (.c (.lit (.int .i64 16))), none⟩, ⟨(some 41), .mov (.t 42), none⟩]) (
             .cond (.t 41) (
              .seq (
               .ops [⟨(some 43), .build [(.lit (.bool false)), (.lit (.bool false)), (.lit (.bool false)), (.lit (.bool false)), (.lit (.int .i64 0)), (.lit (.int .i64 0))] [(4, 1, (.c (.lit (.int .i64 1)))), (5, 1, (.c (.lit (.int .i64 2))))], none⟩, ⟨none, .store 6 (.t 2) (.t 43), none⟩, ⟨(some 3), .mov (.c (.lit (.bool true))), none⟩]) (
              .ret)) (
              .skip))))))))))))))))))))))))) (
 .seq (
  .ops [⟨(some 44), .build [(.lit (.bool false)), (.lit (.bool false)), (.lit (.bool false)), (.lit (.bool false)), (.lit (.int .i64 0)), (.lit (.int .i64 0))] [], none⟩, ⟨none, .store 6 (.t 2) (.t 44), none⟩, ⟨(some 3), .mov (.c (.lit (.bool false))), none⟩]) (
 .ret))), false⟩

/-- azimuth/tree.tag -/
def C_tree_tag (N : Nat → Nat) : AFunc := ⟨9, [.inl 2],
 .seq (
  .ops [⟨(some 2), .mov (.c (.lit (.bool false))), none⟩]) (
 .seq (
  .ops [⟨(some 3), .mov (.t 0), none⟩, ⟨(some 4), .call (.c (.fn (f_lexer_IsName N) [] [])) [(.t 3)], none⟩, ⟨(some 5), .mov (.t 4), none⟩, ⟨(some 6), .mov (.t 0), (some (5, false))⟩, ⟨(some 7), .call (.c (.fn (f_lexer_IsWord N) [] [])) [(.t 6)], (some (5, false))⟩, ⟨(some 8), .pick (.t 5) (.c (.lit (.bool true))) (.t 7), none⟩, ⟨(some 2), .mov (.t 8), none⟩]) (
 .ret)), false⟩

/-- azimuth/tree.term -/
def C_tree_term (N : Nat → Nat) : AFunc := ⟨117, [.inl 2],
 .seq (
  .ops [⟨(some 1), .box (t_api_Node N) (.t 0), none⟩, ⟨(some 2), .mov (.c (.lit (.bool false))), none⟩]) (
 .seq (
  .ops [⟨(some 7), .faddr 0 (.t 1), none⟩, ⟨(some 8), .load none (.t 7), none⟩, ⟨(some 9), .call (.c (.fn (f_tree_shapes N) [] [])) [(.t 8)], none⟩, ⟨(some 6), .mov (.t 9), none⟩, ⟨(some 10), .extract (.t 6) 0, none⟩, ⟨(some 11), .extract (.t 6) 1, none⟩, ⟨(some 3), .new (t_tree_shape N) (.agg [(.lit (.bool false)), (.lit (.bool false)), (.lit (.bool false)), (.lit (.bool false)), (.lit (.int .i64 0)), (.lit (.int .i64 0))]), none⟩, ⟨none, .store 6 (.t 3) (.t 10), none⟩, ⟨(some 4), .mov (.t 11), none⟩]) (
 .seq (
  .seq (
   .ops [⟨(some 12), .mov (.t 4), none⟩, ⟨(some 13), .un .not (.t 12), none⟩, ⟨(some 14), .mov (.t 13), none⟩, ⟨(some 15), .faddr 4 (.t 3), (some (14, false))⟩, ⟨(some 16), .load none (.t 15), (some (14, false))⟩, ⟨(some 17), .bin .geq (.t 16) (.c (.lit (.int .i64 0))), (some (14, false))⟩, ⟨(some 18), .mov (.t 17), (some (14, false))⟩, ⟨(some 19), .faddr 6 (.t 1), (some (18, true))⟩, ⟨(some 20), .load none (.t 19), (some (18, true))⟩, ⟨(some 21), .len (.t 20), (some (18, true))⟩, ⟨(some 22), .faddr 4 (.t 3), (some (18, true))⟩, ⟨(some 23), .load none (.t 22), (some (18, true))⟩, ⟨(some 24), .eq true .pint (.t 21) (.t 23), (some (18, true))⟩, ⟨(some 25), .pick (.t 18) (.t 24) (.c (.lit (.bool false))), (some (14, false))⟩, ⟨(some 26), .pick (.t 14) (.c (.lit (.bool true))) (.t 25), none⟩, ⟨(some 27), .mov (.t 26), none⟩, ⟨(some 28), .faddr 7 (.t 1), (some (27, false))⟩, ⟨(some 29), .load none (.t 28), (some (27, false))⟩, ⟨(some 30), .len (.t 29), (some (27, false))⟩, ⟨(some 31), .faddr 5 (.t 3), (some (27, false))⟩, ⟨(some 32), .load none (.t 31), (some (27, false))⟩, ⟨(some 33), .eq true .pint (.t 30) (.t 32), (some (27, false))⟩, ⟨(some 34), .pick (.t 27) (.c (.lit (.bool true))) (.t 33), none⟩, ⟨(some 35), .mov (.t 34), none⟩, ⟨(some 36), .load (some 8) (.t 1), (some (35, false))⟩, ⟨(some 37), .call (.c (.fn (f_tree_named N) [] [])) [(.t 36)], (some (35, false))⟩, ⟨(some 38), .un .not (.t 37), (some (35, false))⟩, ⟨(some 39), .pick (.t 35) (.c (.lit (.bool true))) (.t 38), none⟩]) (
  .cond (.t 39) (
   .seq (
    .ops [⟨(some 2), .mov (.c (.lit (.bool false))), none⟩]) (
   .ret)) (
   .skip))) (
 .seq (
  .ops [⟨(some 40), .faddr 0 (.t 1), none⟩, ⟨(some 41), .load none (.t 40), none⟩, ⟨(some 42), .eq true .pint (.t 41) (.c (.lit (.int .i64 11))), none⟩, ⟨(some 43), .mov (.t 42), none⟩, ⟨(some 44), .faddr 0 (.t 1), (some (43, true))⟩, ⟨(some 45), .load none (.t 44), (some (43, true))⟩, ⟨(some 46), .eq true .pint (.t 45) (.c (.lit (.int .i64 14))), (some (43, true))⟩, ⟨(some 47), .pick (.t 43) (.t 46) (.c (.lit (.bool false))), none⟩, ⟨(some 5), .mov (.t 47), none⟩]) (
 .seq (
  .block 0 (
   .seq (
    .ops [⟨(some 49), .faddr 3 (.t 3), none⟩, ⟨(some 50), .load none (.t 49), none⟩, ⟨(some 48), .mov (.t 50), none⟩]) (
   .cond (.t 48) (
    .seq (
     .ops [⟨(some 51), .faddr 2 (.t 1), none⟩, ⟨(some 52), .load none (.t 51), none⟩, ⟨(some 53), .call (.c (.fn (f_tree_text N) [] [])) [(.t 52)], none⟩, ⟨(some 54), .un .not (.t 53), none⟩]) (
    .cond (.t 54) (
     .seq (
      .ops [⟨(some 2), .mov (.c (.lit (.bool false))), none⟩]) (
     .ret)) (
     .skip))) (
    .seq (
     .ops [⟨(some 56), .faddr 0 (.t 3), none⟩, ⟨(some 57), .load none (.t 56), none⟩, ⟨(some 58), .un .not (.t 57), none⟩, ⟨(some 55), .mov (.t 58), none⟩]) (
    .cond (.t 55) (
     .seq (
      .ops [⟨(some 59), .faddr 2 (.t 1), none⟩, ⟨(some 60), .load none (.t 59), none⟩, ⟨(some 61), .eq true .pstr (.t 60) (.c (.lit (.string (mkS [])))), none⟩]) (
     .cond (.t 61) (
      .seq (
       .ops [⟨(some 2), .mov (.c (.lit (.bool false))), none⟩]) (
      .ret)) (
      .skip))) (
     .seq (
      .ops [⟨(some 63), .mov (.t 5), none⟩, ⟨(some 64), .mov (.t 63), none⟩, ⟨(some 65), .faddr 2 (.t 1), (some (64, true))⟩, ⟨(some 66), .load none (.t 65), (some (64, true))⟩, ⟨(some 67), .call (.c (.fn (f_lexer_IsName N) [] [])) [(.t 66)], (some (64, true))⟩, ⟨(some 68), .un .not (.t 67), (some (64, true))⟩, ⟨(some 69), .pick (.t 64) (.t 68) (.c (.lit (.bool false))), none⟩, ⟨(some 62), .mov (.t 69), none⟩]) (
     .cond (.t 62) (
      .seq (
       .ops [⟨(some 2), .mov (.c (.lit (.bool false))), none⟩]) (
      .ret)) (
      .skip)))))))) (
 .seq (
  .seq (
   .ops [⟨(some 70), .faddr 1 (.t 3), none⟩, ⟨(some 71), .load none (.t 70), none⟩, ⟨(some 72), .mov (.t 71), none⟩, ⟨(some 73), .faddr 3 (.t 1), (some (72, true))⟩, ⟨(some 74), .load none (.t 73), (some (72, true))⟩, ⟨(some 75), .bin .lss (.t 74) (.c (.lit (.int .i64 0))), (some (72, true))⟩, ⟨(some 76), .mov (.t 75), (some (72, true))⟩, ⟨(some 77), .faddr 0 (.t 1), (some (76, false))⟩, ⟨(some 78), .load none (.t 77), (some (76, false))⟩, ⟨(some 79), .eq false .pint (.t 78) (.c (.lit (.int .i64 2))), (some (76, false))⟩, ⟨(some 80), .mov (.t 79), (some (76, false))⟩, ⟨(some 81), .faddr 3 (.t 1), (some (80, true))⟩, ⟨(some 82), .load none (.t 81), (some (80, true))⟩, ⟨(some 83), .bin .gtr (.t 82) (.c (.lit (.int .i64 1))), (some (80, true))⟩, ⟨(some 84), .pick (.t 80) (.t 83) (.c (.lit (.bool false))), (some (76, false))⟩, ⟨(some 85), .pick (.t 76) (.c (.lit (.bool true))) (.t 84), (some (72, true))⟩, ⟨(some 86), .pick (.t 72) (.t 85) (.c (.lit (.bool false))), none⟩, ⟨(some 87), .mov (.t 86), none⟩, ⟨(some 88), .faddr 1 (.t 3), (some (87, false))⟩, ⟨(some 89), .load none (.t 88), (some (87, false))⟩, ⟨(some 90), .un .not (.t 89), (some (87, false))⟩, ⟨(some 91), .mov (.t 90), (some (87, false))⟩, ⟨(some 92), .faddr 3 (.t 1), (some (91, true))⟩, ⟨(some 93), .load none (.t 92), (some (91, true))⟩, ⟨(some 94), .eq true .pint (.t 93) (.c (.lit (.int .i64 0))), (some (91, true))⟩, ⟨(some 95), .pick (.t 91) (.t 94) (.c (.lit (.bool false))), (some (87, false))⟩, ⟨(some 96), .pick (.t 87) (.c (.lit (.bool true))) (.t 95), none⟩]) (
  .cond (.t 96) (
   .seq (
    .ops [⟨(some 2), .mov (.c (.lit (.bool false))), none⟩]) (
   .ret)) (
   .skip))) (
 .seq (
  .dops 15 [⟨(some 97), .faddr 2 (.t 3), none⟩, ⟨(some 98), .load none (.t 97), none⟩, ⟨(some 99), .mov (.t 98), none⟩, ⟨(some 100), .faddr 4 (.t 1), (some (99, true))⟩, ⟨(some 101), .load none (.t 100), (some (99, true))⟩, ⟨(some 103), .faddr 4 (.t 1), (some (99, true))⟩, ⟨(some 104), .load none (.t 103), (some (99, true))⟩, ⟨(some 102), .call (.c (.fn (f_floats_Of N) [] [])) [(.t 101)], (some (99, true))⟩, ⟨(some 105), .eq false .pint (.t 102) (.t 104), (some (99, true))⟩, ⟨(some 106), .pick (.t 99) (.t 105) (.c (.lit (.bool false))), none⟩, ⟨(some 107), .mov (.t 106), none⟩, ⟨(some 108), .faddr 2 (.t 3), (some (107, false))⟩, ⟨(some 109), .load none (.t 108), (some (107, false))⟩, ⟨(some 110), .un .not (.t 109), (some (107, false))⟩, ⟨(some 111), .mov (.t 110), (some (107, false))⟩, ⟨(some 112), .faddr 4 (.t 1), (some (111, true))⟩, ⟨(some 113), .load none (.t 112), (some (111, true))⟩, ⟨(some 114), .eq false .pint (.t 113) (.c (.lit (.int .u64 0))), (some (111, true))⟩, ⟨(some 115), .pick (.t 111) (.t 114) (.c (.lit (.bool false))), (some (107, false))⟩, ⟨(some 116), .pick (.t 107) (.c (.lit (.bool true))) (.t 115), none⟩, ⟨(some 2), .mov (.t 116), none⟩] [0, 0, 0, 0, 2, 0, 2, 1, 0, 0, 0, 0, 0, 0, 0, 0, 0, 0, 0, 0, 0] []) (
 .ret))))))), false⟩

/-- azimuth/tree.text -/
def C_tree_text (N : Nat → Nat) : AFunc := ⟨13, [.inl 2],
 .seq (
  .ops [⟨(some 2), .mov (.c (.lit (.bool false))), none⟩]) (
 .seq (
  .ops [⟨(some 3), .mov (.t 0), none⟩, ⟨(some 4), .conv (.bytes (t_uint8 N)) (.t 3), none⟩, ⟨(some 5), .call (.c (.fn (f_runes_Bad N) [] [])) [(.t 4)], none⟩, ⟨(some 6), .bin .lss (.t 5) (.c (.lit (.int .i64 0))), none⟩, ⟨(some 7), .mov (.t 6), none⟩, ⟨(some 8), .mov (.t 0), (some (7, true))⟩, ⟨(some 9), .conv (.bytes (t_uint8 N)) (.t 8), (some (7, true))⟩, ⟨(some 10), .call (.c (.fn (f_slices_ContainsFunc_sl_byte_byte N) [] [])) [(.t 9), (.c (.fn (f_tree_text_1 N) [] []))], (some (7, true))⟩, ⟨(some 11), .un .not (.t 10), (some (7, true))⟩, ⟨(some 12), .pick (.t 7) (.t 11) (.c (.lit (.bool false))), none⟩, ⟨(some 2), .mov (.t 12), none⟩]) (
 .ret)), false⟩

/-- azimuth/tree.text$1 -/
def C_tree_text_1 (N : Nat → Nat) : AFunc := ⟨9, [.inl 2],
 .seq (
  .ops [⟨(some 2), .mov (.c (.lit (.bool false))), none⟩]) (
 .seq (
  .ops [⟨(some 3), .mov (.t 0), none⟩, ⟨(some 4), .bin .lss (.t 3) (.c (.lit (.int .u8 32))), none⟩, ⟨(some 5), .mov (.t 4), none⟩, ⟨(some 6), .mov (.t 0), (some (5, true))⟩, ⟨(some 7), .eq true .pint (.t 6) (.c (.lit (.int .u8 10))), (some (5, true))⟩, ⟨(some 8), .pick (.t 5) (.t 7) (.c (.lit (.bool false))), none⟩, ⟨(some 2), .mov (.t 8), none⟩]) (
 .ret)), false⟩

/-- azimuth/tree.typ -/
def C_tree_typ (N : Nat → Nat) : AFunc := ⟨115, [.inl 2],
 .seq (
  .ops [⟨(some 1), .box (t_api_TypeNode N) (.t 0), none⟩, ⟨(some 2), .mov (.c (.lit (.bool false))), none⟩]) (
 .seq (
  .seq (
   .ops [⟨(some 3), .faddr 5 (.t 1), none⟩, ⟨(some 4), .load none (.t 3), none⟩, ⟨(some 5), .mov (.t 4), none⟩, ⟨(some 6), .faddr 0 (.t 1), (some (5, true))⟩, ⟨(some 7), .load none (.t 6), (some (5, true))⟩, ⟨(some 8), .eq true .pint (.t 7) (.c (.lit (.int .i64 9))), (some (5, true))⟩, ⟨(some 9), .pick (.t 5) (.t 8) (.c (.lit (.bool false))), none⟩]) (
  .cond (.t 9) (
   .seq (
    .ops [⟨(some 2), .mov (.c (.lit (.bool false))), none⟩]) (
   .ret)) (
   .skip))) (
 .seq (
  .seq (
   .ops [⟨(some 10), .faddr 0 (.t 1), none⟩, ⟨(some 11), .load none (.t 10), none⟩]) (
  .block 0 (
   .seq (
    .ops [⟨(some 13), .eq false .pint (.t 11) (.c (.lit (.int .i64 7))), none⟩, ⟨(some 12), .mov (.t 13), none⟩]) (
   .cond (.t 12) (
    .seq (
     .ops [⟨(some 14), .faddr 2 (.t 1), none⟩, ⟨(some 15), .load none (.t 14), none⟩, ⟨(some 16), .eq false .pstr (.t 15) (.c (.lit (.string (mkS [])))), none⟩, ⟨(some 17), .mov (.t 16), none⟩, ⟨(some 18), .faddr 3 (.t 1), (some (17, true))⟩, ⟨(some 19), .load none (.t 18), (some (17, true))⟩, ⟨(some 20), .len (.t 19), (some (17, true))⟩, ⟨(some 21), .eq false .pint (.t 20) (.c (.lit (.int .i64 0))), (some (17, true))⟩, ⟨(some 22), .pick (.t 17) (.t 21) (.c (.lit (.bool false))), none⟩, ⟨(some 23), .mov (.t 22), none⟩, ⟨(some 24), .faddr 4 (.t 1), (some (23, true))⟩, ⟨(some 25), .load none (.t 24), (some (23, true))⟩, ⟨(some 26), .len (.t 25), (some (23, true))⟩, ⟨(some 27), .eq false .pint (.t 26) (.c (.lit (.int .i64 2))), (some (23, true))⟩, ⟨(some 28), .pick (.t 23) (.t 27) (.c (.lit (.bool false))), none⟩, ⟨(some 2), .mov (.t 28), none⟩]) (
    .ret)) (
    .seq (
     .ops [⟨(some 30), .eq false .pint (.t 11) (.c (.lit (.int .i64 8))), none⟩, ⟨(some 29), .mov (.t 30), none⟩]) (
    .cond (.t 29) (
     .seq (
      .ops [⟨(some 31), .faddr 2 (.t 1), none⟩, ⟨(some 32), .load none (.t 31), none⟩, ⟨(some 33), .eq false .pstr (.t 32) (.c (.lit (.string (mkS [])))), none⟩, ⟨(some 34), .mov (.t 33), none⟩, ⟨(some 35), .faddr 3 (.t 1), (some (34, true))⟩, ⟨(some 36), .load none (.t 35), (some (34, true))⟩, ⟨(some 37), .len (.t 36), (some (34, true))⟩, ⟨(some 38), .faddr 4 (.t 1), (some (34, true))⟩, ⟨(some 39), .load none (.t 38), (some (34, true))⟩, ⟨(some 40), .len (.t 39), (some (34, true))⟩, ⟨(some 41), .eq false .pint (.t 37) (.t 40), (some (34, true))⟩, ⟨(some 42), .pick (.t 34) (.t 41) (.c (.lit (.bool false))), none⟩, ⟨(some 43), .mov (.t 42), none⟩, ⟨(some 44), .faddr 3 (.t 1), (some (43, true))⟩, ⟨(some 45), .load none (.t 44), (some (43, true))⟩, ⟨(some 46), .call (.c (.fn (f_tree_once N) [] [])) [(.t 45)], (some (43, true))⟩, ⟨(some 47), .pick (.t 43) (.t 46) (.c (.lit (.bool false))), none⟩, ⟨(some 48), .mov (.t 47), none⟩, ⟨(some 49), .faddr 3 (.t 1), (some (48, true))⟩, ⟨(some 50), .load none (.t 49), (some (48, true))⟩, ⟨(some 51), .call (.c (.fn (f_tree_all N) [] [])) [(.t 50), (.c (.fn (f_lexer_IsName N) [] []))], (some (48, true))⟩, ⟨(some 52), .pick (.t 48) (.t 51) (.c (.lit (.bool false))), none⟩, ⟨(some 2), .mov (.t 52), none⟩]) (
     .ret)) (
     .seq (
      .ops [⟨(some 54), .eq false .pint (.t 11) (.c (.lit (.int .i64 9))), none⟩, ⟨(some 53), .mov (.t 54), none⟩]) (
     .cond (.t 53) (
      .seq (
       .ops [⟨(some 55), .faddr 2 (.t 1), none⟩, ⟨(some 56), .load none (.t 55), none⟩, ⟨(some 57), .eq false .pstr (.t 56) (.c (.lit (.string (mkS [])))), none⟩, ⟨(some 58), .mov (.t 57), none⟩, ⟨(some 59), .faddr 3 (.t 1), (some (58, true))⟩, ⟨(some 60), .load none (.t 59), (some (58, true))⟩, ⟨(some 61), .len (.t 60), (some (58, true))⟩, ⟨(some 62), .faddr 4 (.t 1), (some (58, true))⟩, ⟨(some 63), .load none (.t 62), (some (58, true))⟩, ⟨(some 64), .len (.t 63), (some (58, true))⟩, ⟨(some 65), .eq false .pint (.t 61) (.t 64), (some (58, true))⟩, ⟨(some 66), .pick (.t 58) (.t 65) (.c (.lit (.bool false))), none⟩, ⟨(some 67), .mov (.t 66), none⟩, ⟨(some 68), .faddr 3 (.t 1), (some (67, true))⟩, ⟨(some 69), .load none (.t 68), (some (67, true))⟩, ⟨(some 70), .call (.c (.fn (f_tree_once N) [] [])) [(.t 69)], (some (67, true))⟩, ⟨(some 71), .pick (.t 67) (.t 70) (.c (.lit (.bool false))), none⟩, ⟨(some 72), .mov (.t 71), none⟩, ⟨(some 73), .faddr 3 (.t 1), (some (72, true))⟩, ⟨(some 74), .load none (.t 73), (some (72, true))⟩, ⟨(some 75), .call (.c (.fn (f_tree_all N) [] [])) [(.t 74), (.c (.fn (f_tree_tag N) [] []))], (some (72, true))⟩, ⟨(some 76), .pick (.t 72) (.t 75) (.c (.lit (.bool false))), none⟩, ⟨(some 2), .mov (.t 76), none⟩]) (
      .ret)) (
      .seq (
       .ops [⟨(some 78), .eq false .pint (.t 11) (.c (.lit (.int .i64 10))), none⟩, ⟨(some 77), .mov (.t 78), none⟩]) (
      .cond (.t 77) (
       .seq (
        .ops [⟨(some 79), .faddr 2 (.t 1), none⟩, ⟨(some 80), .load none (.t 79), none⟩, ⟨(some 81), .call (.c (.fn (f_tree_alias N) [] [])) [(.t 80)], none⟩, ⟨(some 82), .mov (.t 81), none⟩, ⟨(some 83), .faddr 3 (.t 1), (some (82, true))⟩, ⟨(some 84), .load none (.t 83), (some (82, true))⟩, ⟨(some 85), .len (.t 84), (some (82, true))⟩, ⟨(some 86), .faddr 4 (.t 1), (some (82, true))⟩, ⟨(some 87), .load none (.t 86), (some (82, true))⟩, ⟨(some 88), .len (.t 87), (some (82, true))⟩, ⟨(some 89), .bin .add (.t 85) (.t 88), (some (82, true))⟩, ⟨(some 90), .eq false .pint (.t 89) (.c (.lit (.int .i64 0))), (some (82, true))⟩, ⟨(some 91), .pick (.t 82) (.t 90) (.c (.lit (.bool false))), none⟩, ⟨(some 2), .mov (.t 91), none⟩]) (
       .ret)) (
       .skip))))))))))) (
 .seq (
  .ops [⟨(some 92), .faddr 0 (.t 1), none⟩, ⟨(some 93), .load none (.t 92), none⟩, ⟨(some 94), .bin .geq (.t 93) (.c (.lit (.int .i64 0))), none⟩, ⟨(some 95), .mov (.t 94), none⟩, ⟨(some 96), .faddr 0 (.t 1), (some (95, true))⟩, ⟨(some 97), .load none (.t 96), (some (95, true))⟩, ⟨(some 98), .bin .leq (.t 97) (.c (.lit (.int .i64 6))), (some (95, true))⟩, ⟨(some 99), .pick (.t 95) (.t 98) (.c (.lit (.bool false))), none⟩, ⟨(some 100), .mov (.t 99), none⟩, ⟨(some 101), .faddr 2 (.t 1), (some (100, true))⟩, ⟨(some 102), .load none (.t 101), (some (100, true))⟩, ⟨(some 103), .eq false .pstr (.t 102) (.c (.lit (.string (mkS [])))), (some (100, true))⟩, ⟨(some 104), .pick (.t 100) (.t 103) (.c (.lit (.bool false))), none⟩, ⟨(some 105), .mov (.t 104), none⟩, ⟨(some 106), .faddr 3 (.t 1), (some (105, true))⟩, ⟨(some 107), .load none (.t 106), (some (105, true))⟩, ⟨(some 108), .len (.t 107), (some (105, true))⟩, ⟨(some 109), .faddr 4 (.t 1), (some (105, true))⟩, ⟨(some 110), .load none (.t 109), (some (105, true))⟩, ⟨(some 111), .len (.t 110), (some (105, true))⟩, ⟨(some 112), .bin .add (.t 108) (.t 111), (some (105, true))⟩, ⟨(some 113), .eq false .pint (.t 112) (.c (.lit (.int .i64 0))), (some (105, true))⟩, ⟨(some 114), .pick (.t 105) (.t 113) (.c (.lit (.bool false))), none⟩, ⟨(some 2), .mov (.t 114), none⟩]) (
 .ret)))), false⟩
end Go.Proofs.Eng
/- Templates of functions, as the engine takes them; numbers of functions and types by names. Printed by tm.py. -/
set_option linter.unusedVariables false
set_option maxRecDepth 100000
namespace Go.Proofs.Eng
open Go

def L_ref03_IsWord_1 (N : Nat → Nat) : AC :=
    .seq (
     .seq (
      .ops [⟨(some 7), .mov (.t 3), none⟩, ⟨(some 8), .mov (.t 0), none⟩, ⟨(some 9), .lens (.t 8), none⟩, ⟨(some 10), .bin .lss (.t 7) (.t 9), none⟩]) (
     .cond (.t 10) (
      .skip) (
      .exit 0))) (
    .seq (
     .block 1 (
      .seq (
       .ops [⟨(some 13), .mov (.t 0), none⟩, ⟨(some 14), .mov (.t 3), none⟩, ⟨(some 15), .sidx (.t 13) (.t 14), none⟩, ⟨(some 16), .bin .lss (.t 15) (.c (.lit (.int .u8 97))), none⟩, ⟨(some 17), .mov (.t 16), none⟩, ⟨(some 18), .mov (.t 0), (some (17, false))⟩, ⟨(some 19), .mov (.t 3), (some (17, false))⟩, ⟨(some 20), .sidx (.t 18) (.t 19), (some (17, false))⟩, ⟨(some 21), .bin .gtr (.t 20) (.c (.lit (.int .u8 122))), (some (17, false))⟩, ⟨(some 22), .pick (.t 17) (.c (.lit (.bool true))) (.t 21), none⟩]) (
      .cond (.t 22) (
       .seq (
        .ops [⟨(some 2), .mov (.c (.lit (.bool false))), none⟩]) (
       .ret)) (
       .skip)))) (
    .ops [⟨(some 11), .mov (.t 3), none⟩, ⟨(some 12), .bin .add (.t 11) (.c (.lit (.int .i64 1))), none⟩, ⟨(some 3), .mov (.t 12), none⟩]))
def L_ref03_IsWord_2 (N : Nat → Nat) : AC :=
    .seq (
     .seq (
      .ops [⟨(some 23), .mov (.t 4), none⟩, ⟨(some 24), .mov (.t 0), none⟩, ⟨(some 25), .lens (.t 24), none⟩, ⟨(some 26), .bin .add (.t 23) (.t 25), none⟩, ⟨(some 27), .bin .add (.t 26) (.c (.lit (.int .i64 2))), none⟩, ⟨(some 28), .bin .leq (.t 27) (.c (.lit (.int .i64 89))), none⟩]) (
     .cond (.t 28) (
      .skip) (
      .exit 2))) (
    .seq (
     .block 3 (
      .seq (
       .ops [⟨(some 31), .mov (.t 4), none⟩, ⟨(some 32), .mov (.t 4), none⟩, ⟨(some 33), .mov (.t 0), none⟩, ⟨(some 34), .lens (.t 33), none⟩, ⟨(some 35), .bin .add (.t 32) (.t 34), none⟩, ⟨(some 36), .bin .add (.t 35) (.c (.lit (.int .i64 2))), none⟩, ⟨(some 37), .slstr (.c (.lit (.string (mkS [32, 102, 117, 110, 32, 108, 101, 116, 32, 114, 101, 99, 32, 105, 110, 32, 105, 102, 32, 116, 104, 101, 110, 32, 101, 108, 115, 101, 32, 99, 97, 115, 101, 32, 111, 102, 32, 101, 110, 100, 32, 116, 114, 117, 101, 32, 102, 97, 108, 115, 101, 32, 105, 110, 116, 32, 98, 111, 111, 108, 32, 115, 116, 114, 32, 102, 108, 111, 97, 116, 32, 100, 121, 110, 32, 97, 110, 121, 32, 110, 111, 110, 101, 32, 116, 121, 112, 101, 32])))) (some (.t 31)) (some (.t 36)), none⟩, ⟨(some 38), .mov (.t 0), none⟩, ⟨(some 39), .bin .add (.c (.lit (.string (mkS [32])))) (.t 38), none⟩, ⟨(some 40), .bin .add (.t 39) (.c (.lit (.string (mkS [32])))), none⟩, ⟨(some 41), .eq false .pstr (.t 37) (.t 40), none⟩]) (
      .cond (.t 41) (
       .seq (
        .ops [⟨(some 2), .mov (.c (.lit (.bool true))), none⟩]) (
       .ret)) (
       .skip)))) (
    .ops [⟨(some 29), .mov (.t 4), none⟩, ⟨(some 30), .bin .add (.t 29) (.c (.lit (.int .i64 1))), none⟩, ⟨(some 4), .mov (.t 30), none⟩]))
def K_ref03_IsWord_2 (N : Nat → Nat) : AC :=
 .seq (
  .ops [⟨(some 2), .mov (.c (.lit (.bool false))), none⟩]) (
 .ret)
def K_ref03_IsWord_1 (N : Nat → Nat) : AC :=
 .seq (
  .seq (
   .ops [⟨(some 4), .mov (.c (.lit (.int .i64 0))), none⟩]) (
  .block 2 (
   .loop (L_ref03_IsWord_2 N)))) (K_ref03_IsWord_2 N)
/-- azimuth/azimuthref03.IsWord -/
def C_ref03_IsWord (N : Nat → Nat) : AFunc := ⟨42, [.inl 2],
 .seq (
  .ops [⟨(some 2), .mov (.c (.lit (.bool false))), none⟩]) (
 .seq (
  .seq (
   .ops [⟨(some 5), .mov (.t 0), none⟩, ⟨(some 6), .eq false .pstr (.t 5) (.c (.lit (.string (mkS [])))), none⟩]) (
  .cond (.t 6) (
   .seq (
    .ops [⟨(some 2), .mov (.c (.lit (.bool false))), none⟩]) (
   .ret)) (
   .skip))) (
 .seq (
  .seq (
   .ops [⟨(some 3), .mov (.c (.lit (.int .i64 0))), none⟩]) (
  .block 0 (
   .loop (L_ref03_IsWord_1 N)))) (K_ref03_IsWord_1 N))), false⟩

def L_ref03_Lex_2 (N : Nat → Nat) : AC :=
          .seq (
           .seq (
            .ops [⟨(some 80), .mov (.t 8), none⟩, ⟨(some 81), .mov (.t 0), none⟩, ⟨(some 82), .len (.t 81), none⟩, ⟨(some 83), .bin .lss (.t 80) (.t 82), none⟩, ⟨(some 84), .mov (.t 83), none⟩, ⟨(some 85), .mov (.t 0), (some (84, true))⟩, ⟨(some 86), .mov (.t 8), (some (84, true))⟩, ⟨(some 87), .iaddr 1 (.t 85) (.t 86), (some (84, true))⟩, ⟨(some 88), .load none (.t 87), (some (84, true))⟩, ⟨(some 89), .eq true .pint (.t 88) (.c (.lit (.int .u8 10))), (some (84, true))⟩, ⟨(some 90), .pick (.t 84) (.t 89) (.c (.lit (.bool false))), none⟩]) (
           .cond (.t 90) (
            .skip) (
            .exit 2))) (
          .block 3 (
           .ops [⟨(some 91), .mov (.t 8), none⟩, ⟨(some 92), .bin .add (.t 91) (.c (.lit (.int .i64 1))), none⟩, ⟨(some 8), .mov (.t 92), none⟩]))
def K_ref03_Lex_1 (N : Nat → Nat) : AC :=
 .exit 1
def K_ref03_Lex_2 (N : Nat → Nat) : AC :=
 .seq (
  .ops [⟨(some 94), .mov (.t 0), none⟩, ⟨(some 95), .mov (.t 8), none⟩, ⟨(some 96), .call (.c (.fn (f_ref03_one N) [] [])) [(.t 94), (.t 95)], none⟩, ⟨(some 93), .mov (.t 96), none⟩, ⟨(some 97), .extract (.t 93) 0, none⟩, ⟨(some 98), .extract (.t 93) 1, none⟩, ⟨(some 9), .new (t_api_Token N) (.agg [(.lit (.int .i64 0)), (.lit (.string (mkS []))), (.lit (.int .i64 0))]), none⟩, ⟨none, .store 3 (.t 9) (.t 97), none⟩, ⟨(some 10), .mov (.t 98), none⟩]) (
 .seq (
  .seq (
   .ops [⟨(some 99), .mov (.t 10), none⟩, ⟨(some 100), .eq false .pint (.t 99) (.c (.lit (.int .i64 0))), none⟩]) (
  .cond (.t 100) (
   .seq (
    .ops [⟨(some 101), .mov (.t 8), none⟩, ⟨(some 102), .build [(.lit (.int .i64 0)), (.lit (.int .i64 0)), (.lit (.string (mkS [])))] [(0, 1, (.c (.lit (.int .i64 3)))), (1, 1, (.t 101))], none⟩, ⟨(some 2), .mov (.c (.lit (.slice none 0 0))), none⟩, ⟨none, .store 3 (.t 3) (.t 102), none⟩]) (
   .ret)) (
   .skip))) (
 .seq (
  .ops [⟨(some 103), .mov (.t 8), none⟩, ⟨(some 104), .faddr 2 (.t 9), none⟩, ⟨none, .store 1 (.t 104) (.t 103), none⟩]) (
 .seq (
  .ops [⟨(some 105), .mov (.t 7), none⟩, ⟨(some 106), .load (some 3) (.t 9), none⟩, ⟨(some 107), .bslice (t_api_Token N) 3 (some 3) 1 [(.lit (.int .i64 0)), (.lit (.string (mkS []))), (.lit (.int .i64 0))] [(0, 3, (.t 106))], none⟩, ⟨(some 108), .append (t_api_Token N) 3 32 (.t 105) (.t 107), none⟩, ⟨(some 7), .mov (.t 108), none⟩]) (
 .ops [⟨(some 109), .mov (.t 8), none⟩, ⟨(some 110), .mov (.t 10), none⟩, ⟨(some 111), .bin .add (.t 109) (.t 110), none⟩, ⟨(some 8), .mov (.t 111), none⟩]))))
def L_ref03_Lex_1 (N : Nat → Nat) : AC :=
    .seq (
     .seq (
      .ops [⟨(some 28), .mov (.t 8), none⟩, ⟨(some 29), .mov (.t 0), none⟩, ⟨(some 30), .len (.t 29), none⟩, ⟨(some 31), .bin .lss (.t 28) (.t 30), none⟩]) (
     .cond (.t 31) (
      .skip) (
      .exit 0))) (
    .block 1 (
     .seq (
      .seq (
       .ops [⟨(some 32), .mov (.t 0), none⟩, ⟨(some 33), .mov (.t 8), none⟩, ⟨(some 34), .iaddr 1 (.t 32) (.t 33), none⟩, ⟨(some 35), .load none (.t 34), none⟩, ⟨(some 36), .eq false .pint (.t 35) (.c (.lit (.int .u8 32))), none⟩, ⟨(some 37), .mov (.t 36), none⟩, ⟨(some 38), .mov (.t 0), (some (37, false))⟩, ⟨(some 39), .mov (.t 8), (some (37, false))⟩, ⟨(some 40), .iaddr 1 (.t 38) (.t 39), (some (37, false))⟩, ⟨(some 41), .load none (.t 40), (some (37, false))⟩, ⟨(some 42), .eq false .pint (.t 41) (.c (.lit (.int .u8 9))), (some (37, false))⟩, ⟨(some 43), .pick (.t 37) (.c (.lit (.bool true))) (.t 42), none⟩, ⟨(some 44), .mov (.t 43), none⟩, ⟨(some 45), .mov (.t 0), (some (44, false))⟩, ⟨(some 46), .mov (.t 8), (some (44, false))⟩, ⟨(some 47), .iaddr 1 (.t 45) (.t 46), (some (44, false))⟩, ⟨(some 48), .load none (.t 47), (some (44, false))⟩, ⟨(some 49), .eq false .pint (.t 48) (.c (.lit (.int .u8 10))), (some (44, false))⟩, ⟨(some 50), .pick (.t 44) (.c (.lit (.bool true))) (.t 49), none⟩, ⟨(some 51), .mov (.t 50), none⟩, ⟨(some 52), .mov (.t 0), (some (51, false))⟩, ⟨(some 53), .mov (.t 8), (some (51, false))⟩, ⟨(some 54), .iaddr 1 (.t 52) (.t 53), (some (51, false))⟩, ⟨(some 55), .load none (.t 54), (some (51, false))⟩, ⟨(some 56), .eq false .pint (.t 55) (.c (.lit (.int .u8 13))), (some (51, false))⟩, ⟨(some 57), .pick (.t 51) (.c (.lit (.bool true))) (.t 56), none⟩]) (
      .cond (.t 57) (
       .seq (
        .ops [⟨(some 58), .mov (.t 8), none⟩, ⟨(some 59), .bin .add (.t 58) (.c (.lit (.int .i64 1))), none⟩, ⟨(some 8), .mov (.t 59), none⟩]) (
       .exit 1)) (
       .skip))) (
     .seq (
      .seq (
       .ops [⟨(some 60), .mov (.t 0), none⟩, ⟨(some 61), .mov (.t 8), none⟩, ⟨(some 62), .iaddr 1 (.t 60) (.t 61), none⟩, ⟨(some 63), .load none (.t 62), none⟩, ⟨(some 64), .eq false .pint (.t 63) (.c (.lit (.int .u8 47))), none⟩, ⟨(some 65), .mov (.t 64), none⟩, ⟨(some 66), .mov (.t 8), (some (65, true))⟩, ⟨(some 67), .bin .add (.t 66) (.c (.lit (.int .i64 1))), (some (65, true))⟩, ⟨(some 68), .mov (.t 0), (some (65, true))⟩, ⟨(some 69), .len (.t 68), (some (65, true))⟩, ⟨(some 70), .bin .lss (.t 67) (.t 69), (some (65, true))⟩, ⟨(some 71), .pick (.t 65) (.t 70) (.c (.lit (.bool false))), none⟩, ⟨(some 72), .mov (.t 71), none⟩, ⟨(some 73), .mov (.t 0), (some (72, true))⟩, ⟨(some 74), .mov (.t 8), (some (72, true))⟩, ⟨(some 75), .bin .add (.t 74) (.c (.lit (.int .i64 1))), (some (72, true))⟩, ⟨(some 76), .iaddr 1 (.t 73) (.t 75), (some (72, true))⟩, ⟨(some 77), .load none (.t 76), (some (72, true))⟩, ⟨(some 78), .eq false .pint (.t 77) (.c (.lit (.int .u8 47))), (some (72, true))⟩, ⟨(some 79), .pick (.t 72) (.t 78) (.c (.lit (.bool false))), none⟩]) (
      .cond (.t 79) (
       .seq (
        .block 2 (
         .loop (L_ref03_Lex_2 N))) (K_ref03_Lex_1 N)) (
       .skip))) (K_ref03_Lex_2 N))))
def K_ref03_Lex_3 (N : Nat → Nat) : AC :=
 .seq (
  .ops [⟨(some 112), .mov (.t 7), none⟩, ⟨(some 113), .mov (.t 8), none⟩, ⟨(some 114), .build [(.lit (.int .i64 0)), (.lit (.string (mkS []))), (.lit (.int .i64 0))] [(0, 1, (.c (.lit (.int .i64 0)))), (2, 1, (.t 113))], none⟩, ⟨(some 115), .bslice (t_api_Token N) 3 (some 3) 1 [(.lit (.int .i64 0)), (.lit (.string (mkS []))), (.lit (.int .i64 0))] [(0, 3, (.t 114))], none⟩, ⟨(some 116), .append (t_api_Token N) 3 32 (.t 112) (.t 115), none⟩, ⟨(some 117), .build [(.lit (.int .i64 0)), (.lit (.int .i64 0)), (.lit (.string (mkS [])))] [], none⟩, ⟨(some 2), .mov (.t 116), none⟩, ⟨none, .store 3 (.t 3) (.t 117), none⟩]) (
 .ret)
/-- azimuth/azimuthref03.Lex -/
def C_ref03_Lex (N : Nat → Nat) : AFunc := ⟨118, [.inl 2, .inr (3, (some 3))],
 .seq (
  .ops [⟨(some 2), .mov (.c (.lit (.slice none 0 0))), none⟩, ⟨(some 3), .new (t_api_Diag N) (.agg [(.lit (.int .i64 0)), (.lit (.int .i64 0)), (.lit (.string (mkS [])))]), none⟩]) (
 .seq (
  .seq (
   .ops [⟨(some 11), .mov (.t 0), none⟩, ⟨(some 12), .len (.t 11), none⟩, ⟨(some 13), .bin .gtr (.t 12) (.c (.lit (.int .i64 1048576))), none⟩]) (
  .cond (.t 13) (
   .seq (
    .ops [⟨(some 14), .build [(.lit (.int .i64 0)), (.lit (.int .i64 0)), (.lit (.string (mkS [])))] [(0, 1, (.c (.lit (.int .i64 6))))], none⟩, ⟨(some 2), .mov (.c (.lit (.slice none 0 0))), none⟩, ⟨none, .store 3 (.t 3) (.t 14), none⟩]) (
   .ret)) (
   .skip))) (
 .seq (
  .ops [⟨(some 16), .mov (.t 0), none⟩, ⟨(some 17), .call (.c (.fn (f_ref01_Signs N) [] [])) [(.t 16)], none⟩, ⟨(some 15), .mov (.t 17), none⟩, ⟨(some 18), .extract (.t 15) 0, none⟩, ⟨(some 19), .extract (.t 15) 1, none⟩, ⟨(some 20), .extract (.t 15) 2, none⟩, ⟨(some 4), .mov (.t 18), none⟩, ⟨(some 5), .mov (.t 19), none⟩, ⟨(some 6), .mov (.t 20), none⟩]) (
 .seq (
  .seq (
   .ops [⟨(some 21), .mov (.t 6), none⟩, ⟨(some 22), .mov (.t 0), none⟩, ⟨(some 23), .len (.t 22), none⟩, ⟨(some 24), .bin .lss (.t 21) (.t 23), none⟩]) (
  .cond (.t 24) (
   .seq (
    .ops [⟨(some 25), .mov (.t 6), none⟩, ⟨(some 26), .build [(.lit (.int .i64 0)), (.lit (.int .i64 0)), (.lit (.string (mkS [])))] [(0, 1, (.c (.lit (.int .i64 2)))), (1, 1, (.t 25))], none⟩, ⟨(some 2), .mov (.c (.lit (.slice none 0 0))), none⟩, ⟨none, .store 3 (.t 3) (.t 26), none⟩]) (
   .ret)) (
   .skip))) (
 .seq (
  .ops [⟨(some 27), .bslice (t_api_Token N) 3 (some 3) 0 [(.lit (.int .i64 0)), (.lit (.string (mkS []))), (.lit (.int .i64 0))] [], none⟩, ⟨(some 7), .mov (.t 27), none⟩]) (
 .seq (
  .ops [⟨(some 8), .mov (.c (.lit (.int .i64 0))), none⟩]) (
 .seq (
  .block 0 (
   .loop (L_ref03_Lex_1 N))) (K_ref03_Lex_3 N))))))), true⟩

def L_ref03_Same_1 (N : Nat → Nat) : AC :=
    .seq (
     .ops [⟨(some 14), .bin .lss (.t 13) (.t 12), none⟩]) (
    .seq (
     .cond (.t 14) (
      .skip) (
      .exit 0)) (
    .seq (
     .block 1 (
      .seq (
       .ops [⟨(some 15), .mov (.t 13), none⟩, ⟨(some 5), .mov (.t 15), none⟩]) (
      .seq (
       .dops 6 [⟨(some 16), .mov (.t 0), none⟩, ⟨(some 17), .mov (.t 5), none⟩, ⟨(some 18), .iaddr 3 (.t 16) (.t 17), none⟩, ⟨(some 19), .load (some 3) (.t 18), none⟩, ⟨(some 20), .mov (.t 1), none⟩, ⟨(some 21), .mov (.t 5), none⟩, ⟨(some 22), .iaddr 3 (.t 20) (.t 21), none⟩, ⟨(some 23), .load (some 3) (.t 22), none⟩, ⟨(some 24), .eq true (.struct [(0, none, .pint), (1, none, .pstr), (2, none, .pint)]) (.t 19) (.t 23), none⟩] [0, 0, 0, 2, 0, 0, 0, 2, 0] []) (
      .cond (.t 24) (
       .seq (
        .ops [⟨(some 4), .mov (.c (.lit (.bool false))), none⟩]) (
       .ret)) (
       .skip))))) (
    .ops [⟨(some 25), .bin .add (.t 13) (.c (.lit (.int .i64 1))), none⟩, ⟨(some 13), .mov (.t 25), none⟩])))
def K_ref03_Same_1 (N : Nat → Nat) : AC :=
 .seq (
  .ops [⟨(some 4), .mov (.c (.lit (.bool true))), none⟩]) (
 .ret)
/-- azimuth/azimuthref03.Same -/
def C_ref03_Same (N : Nat → Nat) : AFunc := ⟨26, [.inl 4],
 .seq (
  .ops [⟨(some 4), .mov (.c (.lit (.bool false))), none⟩]) (
 .seq (
  .seq (
   .ops [⟨(some 6), .mov (.t 0), none⟩, ⟨(some 7), .len (.t 6), none⟩, ⟨(some 8), .mov (.t 1), none⟩, ⟨(some 9), .len (.t 8), none⟩, ⟨(some 10), .eq true .pint (.t 7) (.t 9), none⟩]) (
  .cond (.t 10) (
   .seq (
    .ops [⟨(some 4), .mov (.c (.lit (.bool false))), none⟩]) (
   .ret)) (
   .skip))) (
 .seq (
  .seq (
   .ops [⟨(some 11), .mov (.t 0), none⟩, ⟨(some 12), .len (.t 11), none⟩, ⟨(some 13), .mov (.c (.lit (.int .i64 0))), none⟩]) (
  .block 0 (
   .loop (L_ref03_Same_1 N)))) (K_ref03_Same_1 N))), false⟩

/-- azimuth/azimuthref03.digit -/
def C_ref03_digit (N : Nat → Nat) : AFunc := ⟨9, [.inl 2],
 .seq (
  .ops [⟨(some 2), .mov (.c (.lit (.bool false))), none⟩]) (
 .seq (
  .ops [⟨(some 3), .mov (.t 0), none⟩, ⟨(some 4), .bin .geq (.t 3) (.c (.lit (.int .u8 48))), none⟩, ⟨(some 5), .mov (.t 4), none⟩, ⟨(some 6), .mov (.t 0), (some (5, true))⟩, ⟨(some 7), .bin .leq (.t 6) (.c (.lit (.int .u8 57))), (some (5, true))⟩, ⟨(some 8), .pick (.t 5) (.t 7) (.c (.lit (.bool false))), none⟩, ⟨(some 2), .mov (.t 8), none⟩]) (
 .ret)), false⟩

/-- azimuth/azimuthref03.hex -/
def C_ref03_hex (N : Nat → Nat) : AFunc := ⟨13, [.inl 2],
 .seq (
  .ops [⟨(some 2), .mov (.c (.lit (.bool false))), none⟩]) (
 .seq (
  .ops [⟨(some 3), .mov (.t 0), none⟩, ⟨(some 4), .call (.c (.fn (f_ref03_digit N) [] [])) [(.t 3)], none⟩, ⟨(some 5), .mov (.t 4), none⟩, ⟨(some 6), .mov (.t 0), (some (5, false))⟩, ⟨(some 7), .bin .geq (.t 6) (.c (.lit (.int .u8 97))), (some (5, false))⟩, ⟨(some 8), .mov (.t 7), (some (5, false))⟩, ⟨(some 9), .mov (.t 0), (some (8, true))⟩, ⟨(some 10), .bin .leq (.t 9) (.c (.lit (.int .u8 102))), (some (8, true))⟩, ⟨(some 11), .pick (.t 8) (.t 10) (.c (.lit (.bool false))), (some (5, false))⟩, ⟨(some 12), .pick (.t 5) (.c (.lit (.bool true))) (.t 11), none⟩, ⟨(some 2), .mov (.t 12), none⟩]) (
 .ret)), false⟩

/-- azimuth/azimuthref03.high -/
def C_ref03_high (N : Nat → Nat) : AFunc := ⟨9, [.inl 2],
 .seq (
  .ops [⟨(some 2), .mov (.c (.lit (.bool false))), none⟩]) (
 .seq (
  .ops [⟨(some 3), .mov (.t 0), none⟩, ⟨(some 4), .bin .geq (.t 3) (.c (.lit (.int .u8 65))), none⟩, ⟨(some 5), .mov (.t 4), none⟩, ⟨(some 6), .mov (.t 0), (some (5, true))⟩, ⟨(some 7), .bin .leq (.t 6) (.c (.lit (.int .u8 90))), (some (5, true))⟩, ⟨(some 8), .pick (.t 5) (.t 7) (.c (.lit (.bool false))), none⟩, ⟨(some 2), .mov (.t 8), none⟩]) (
 .ret)), false⟩

/-- azimuth/azimuthref03.low -/
def C_ref03_low (N : Nat → Nat) : AFunc := ⟨13, [.inl 2],
 .seq (
  .ops [⟨(some 2), .mov (.c (.lit (.bool false))), none⟩]) (
 .seq (
  .ops [⟨(some 3), .mov (.t 0), none⟩, ⟨(some 4), .bin .geq (.t 3) (.c (.lit (.int .u8 97))), none⟩, ⟨(some 5), .mov (.t 4), none⟩, ⟨(some 6), .mov (.t 0), (some (5, true))⟩, ⟨(some 7), .bin .leq (.t 6) (.c (.lit (.int .u8 122))), (some (5, true))⟩, ⟨(some 8), .pick (.t 5) (.t 7) (.c (.lit (.bool false))), none⟩, ⟨(some 9), .mov (.t 8), none⟩, ⟨(some 10), .mov (.t 0), (some (9, false))⟩, ⟨(some 11), .eq false .pint (.t 10) (.c (.lit (.int .u8 95))), (some (9, false))⟩, ⟨(some 12), .pick (.t 9) (.c (.lit (.bool true))) (.t 11), none⟩, ⟨(some 2), .mov (.t 12), none⟩]) (
 .ret)), false⟩

def L_ref03_name_1 (N : Nat → Nat) : AC :=
    .seq (
     .seq (
      .ops [⟨(some 18), .mov (.t 1), none⟩, ⟨(some 19), .mov (.t 5), none⟩, ⟨(some 20), .bin .add (.t 18) (.t 19), none⟩, ⟨(some 21), .mov (.t 0), none⟩, ⟨(some 22), .len (.t 21), none⟩, ⟨(some 23), .bin .lss (.t 20) (.t 22), none⟩, ⟨(some 24), .mov (.t 23), none⟩, ⟨(some 25), .mov (.t 0), (some (24, true))⟩, ⟨(some 26), .mov (.t 1), (some (24, true))⟩, ⟨(some 27), .mov (.t 5), (some (24, true))⟩, ⟨(some 28), .bin .add (.t 26) (.t 27), (some (24, true))⟩, ⟨(some 29), .iaddr 1 (.t 25) (.t 28), (some (24, true))⟩, ⟨(some 30), .load none (.t 29), (some (24, true))⟩, ⟨(some 31), .call (.c (.fn (f_ref03_low N) [] [])) [(.t 30)], (some (24, true))⟩, ⟨(some 32), .mov (.t 31), (some (24, true))⟩, ⟨(some 33), .mov (.t 0), (some (32, false))⟩, ⟨(some 34), .mov (.t 1), (some (32, false))⟩, ⟨(some 35), .mov (.t 5), (some (32, false))⟩, ⟨(some 36), .bin .add (.t 34) (.t 35), (some (32, false))⟩, ⟨(some 37), .iaddr 1 (.t 33) (.t 36), (some (32, false))⟩, ⟨(some 38), .load none (.t 37), (some (32, false))⟩, ⟨(some 39), .call (.c (.fn (f_ref03_digit N) [] [])) [(.t 38)], (some (32, false))⟩, ⟨(some 40), .pick (.t 32) (.c (.lit (.bool true))) (.t 39), (some (24, true))⟩, ⟨(some 41), .pick (.t 24) (.t 40) (.c (.lit (.bool false))), none⟩]) (
     .cond (.t 41) (
      .skip) (
      .exit 0))) (
    .block 1 (
     .ops [⟨(some 42), .mov (.t 5), none⟩, ⟨(some 43), .bin .add (.t 42) (.c (.lit (.int .i64 1))), none⟩, ⟨(some 5), .mov (.t 43), none⟩]))
def K_ref03_name_1 (N : Nat → Nat) : AC :=
 .seq (
  .ops [⟨(some 44), .mov (.t 5), none⟩, ⟨(some 4), .mov (.t 44), none⟩]) (
 .ret)
/-- azimuth/azimuthref03.name -/
def C_ref03_name (N : Nat → Nat) : AFunc := ⟨45, [.inl 4],
 .seq (
  .ops [⟨(some 4), .mov (.c (.lit (.int .i64 0))), none⟩]) (
 .seq (
  .seq (
   .ops [⟨(some 6), .mov (.t 1), none⟩, ⟨(some 7), .mov (.t 0), none⟩, ⟨(some 8), .len (.t 7), none⟩, ⟨(some 9), .bin .geq (.t 6) (.t 8), none⟩, ⟨(some 10), .mov (.t 9), none⟩, ⟨(some 11), .mov (.t 0), (some (10, false))⟩, ⟨(some 12), .mov (.t 1), (some (10, false))⟩, ⟨(some 13), .iaddr 1 (.t 11) (.t 12), (some (10, false))⟩, ⟨(some 14), .load none (.t 13), (some (10, false))⟩, ⟨(some 15), .call (.c (.fn (f_ref03_low N) [] [])) [(.t 14)], (some (10, false))⟩, ⟨(some 16), .un .not (.t 15), (some (10, false))⟩, ⟨(some 17), .pick (.t 10) (.c (.lit (.bool true))) (.t 16), none⟩]) (
  .cond (.t 17) (
   .seq (
    .ops [⟨(some 4), .mov (.c (.lit (.int .i64 0))), none⟩]) (
   .ret)) (
   .skip))) (
 .seq (
  .ops [⟨(some 5), .mov (.c (.lit (.int .i64 1))), none⟩]) (
 .seq (
  .block 0 (
   .loop (L_ref03_name_1 N))) (K_ref03_name_1 N)))), false⟩

def L_ref03_number_1 (N : Nat → Nat) : AC :=
    .seq (
     .seq (
      .ops [⟨(some 10), .mov (.t 1), none⟩, ⟨(some 11), .mov (.t 6), none⟩, ⟨(some 12), .bin .add (.t 10) (.t 11), none⟩, ⟨(some 13), .mov (.t 0), none⟩, ⟨(some 14), .len (.t 13), none⟩, ⟨(some 15), .bin .lss (.t 12) (.t 14), none⟩, ⟨(some 16), .mov (.t 15), none⟩, ⟨(some 17), .mov (.t 0), (some (16, true))⟩, ⟨(some 18), .mov (.t 1), (some (16, true))⟩, ⟨(some 19), .mov (.t 6), (some (16, true))⟩, ⟨(some 20), .bin .add (.t 18) (.t 19), (some (16, true))⟩, ⟨(some 21), .iaddr 1 (.t 17) (.t 20), (some (16, true))⟩, ⟨(some 22), .load none (.t 21), (some (16, true))⟩, ⟨(some 23), .call (.c (.fn (f_ref03_digit N) [] [])) [(.t 22)], (some (16, true))⟩, ⟨(some 24), .pick (.t 16) (.t 23) (.c (.lit (.bool false))), none⟩]) (
     .cond (.t 24) (
      .skip) (
      .exit 0))) (
    .block 1 (
     .seq (
      .ops [⟨(some 25), .mov (.t 0), none⟩, ⟨(some 26), .mov (.t 1), none⟩, ⟨(some 27), .mov (.t 6), none⟩, ⟨(some 28), .bin .add (.t 26) (.t 27), none⟩, ⟨(some 29), .iaddr 1 (.t 25) (.t 28), none⟩, ⟨(some 30), .load none (.t 29), none⟩, ⟨(some 31), .bin .sub (.t 30) (.c (.lit (.int .u8 48))), none⟩, ⟨(some 32), .conv (.toInt .u64) (.t 31), none⟩, ⟨(some 9), .mov (.t 32), none⟩]) (
     .seq (
      .seq (
       .ops [⟨(some 33), .mov (.t 7), none⟩, ⟨(some 34), .bin .gtr (.t 33) (.c (.lit (.int .u64 922337203685477580))), none⟩, ⟨(some 35), .mov (.t 34), none⟩, ⟨(some 36), .mov (.t 7), (some (35, false))⟩, ⟨(some 37), .eq false .pint (.t 36) (.c (.lit (.int .u64 922337203685477580))), (some (35, false))⟩, ⟨(some 38), .mov (.t 37), (some (35, false))⟩, ⟨(some 39), .mov (.t 9), (some (38, true))⟩, ⟨(some 40), .bin .gtr (.t 39) (.c (.lit (.int .u64 7))), (some (38, true))⟩, ⟨(some 41), .pick (.t 38) (.t 40) (.c (.lit (.bool false))), (some (35, false))⟩, ⟨(some 42), .pick (.t 35) (.c (.lit (.bool true))) (.t 41), none⟩]) (
      .cond (.t 42) (
       .ops [⟨(some 8), .mov (.c (.lit (.bool false))), none⟩]) (
       .skip))) (
     .seq (
      .seq (
       .ops [⟨(some 43), .mov (.t 8), none⟩]) (
      .cond (.t 43) (
       .ops [⟨(some 44), .mov (.t 7), none⟩, ⟨(some 45), .bin .mul (.t 44) (.c (.lit (.int .u64 10))), none⟩, ⟨(some 46), .mov (.t 9), none⟩, ⟨(some 47), .bin .add (.t 45) (.t 46), none⟩, ⟨(some 7), .mov (.t 47), none⟩]) (
       .skip))) (
     .ops [⟨(some 48), .mov (.t 6), none⟩, ⟨(some 49), .bin .add (.t 48) (.c (.lit (.int .i64 1))), none⟩, ⟨(some 6), .mov (.t 49), none⟩])))))
def K_ref03_number_1 (N : Nat → Nat) : AC :=
 .seq (
  .dops 11 [⟨(some 50), .mov (.t 6), none⟩, ⟨(some 51), .mov (.t 8), none⟩, ⟨(some 52), .mov (.t 51), none⟩, ⟨(some 53), .mov (.t 6), (some (52, true))⟩, ⟨(some 54), .eq false .pint (.t 53) (.c (.lit (.int .i64 1))), (some (52, true))⟩, ⟨(some 55), .mov (.t 54), (some (52, true))⟩, ⟨(some 56), .mov (.t 0), (some (55, false))⟩, ⟨(some 57), .mov (.t 1), (some (55, false))⟩, ⟨(some 58), .iaddr 1 (.t 56) (.t 57), (some (55, false))⟩, ⟨(some 59), .load none (.t 58), (some (55, false))⟩, ⟨(some 60), .eq true .pint (.t 59) (.c (.lit (.int .u8 48))), (some (55, false))⟩, ⟨(some 61), .pick (.t 55) (.c (.lit (.bool true))) (.t 60), (some (52, true))⟩, ⟨(some 62), .pick (.t 52) (.t 61) (.c (.lit (.bool false))), none⟩, ⟨(some 4), .mov (.t 50), none⟩, ⟨(some 5), .mov (.t 62), none⟩] [0, 0, 0, 0, 0, 0, 0, 0, 0, 0, 0, 0, 0, 0, 0] []) (
 .ret)
/-- azimuth/azimuthref03.number -/
def C_ref03_number (N : Nat → Nat) : AFunc := ⟨63, [.inl 4, .inl 5],
 .seq (
  .ops [⟨(some 4), .mov (.c (.lit (.int .i64 0))), none⟩, ⟨(some 5), .mov (.c (.lit (.bool false))), none⟩]) (
 .seq (
  .ops [⟨(some 6), .mov (.c (.lit (.int .i64 0))), none⟩]) (
 .seq (
  .ops [⟨(some 7), .mov (.c (.lit (.int .u64 0))), none⟩]) (
 .seq (
  .ops [⟨(some 8), .mov (.c (.lit (.bool true))), none⟩]) (
 .seq (
  .block 0 (
   .loop (L_ref03_number_1 N))) (K_ref03_number_1 N))))), false⟩

def L_ref03_one_1 (N : Nat → Nat) : AC :=
       .seq (
        .seq (
         .ops [⟨(some 45), .mov (.t 7), none⟩, ⟨(some 46), .bin .lss (.t 45) (.c (.lit (.int .i64 18))), none⟩]) (
        .cond (.t 46) (
         .skip) (
         .exit 1))) (
       .seq (
        .block 2 (
         .seq (
          .ops [⟨(some 49), .mov (.t 0), none⟩, ⟨(some 50), .mov (.t 1), none⟩, ⟨(some 51), .mov (.t 7), none⟩, ⟨(some 52), .bin .add (.t 50) (.t 51), none⟩, ⟨(some 53), .iaddr 1 (.t 49) (.t 52), none⟩, ⟨(some 54), .load none (.t 53), none⟩, ⟨(some 55), .call (.c (.fn (f_ref03_hex N) [] [])) [(.t 54)], none⟩, ⟨(some 56), .un .not (.t 55), none⟩]) (
         .cond (.t 56) (
          .seq (
           .ops [⟨(some 57), .build [(.lit (.int .i64 0)), (.lit (.string (mkS []))), (.lit (.int .i64 0))] [], none⟩, ⟨none, .store 3 (.t 4) (.t 57), none⟩, ⟨(some 5), .mov (.c (.lit (.int .i64 0))), none⟩]) (
          .ret)) (
          .skip)))) (
       .ops [⟨(some 47), .mov (.t 7), none⟩, ⟨(some 48), .bin .add (.t 47) (.c (.lit (.int .i64 1))), none⟩, ⟨(some 7), .mov (.t 48), none⟩]))
def K_ref03_one_1 (N : Nat → Nat) : AC :=
 .seq (
  .ops [⟨(some 58), .mov (.t 0), none⟩, ⟨(some 59), .mov (.t 1), none⟩, ⟨(some 60), .mov (.t 1), none⟩, ⟨(some 61), .bin .add (.t 60) (.c (.lit (.int .i64 18))), none⟩, ⟨(some 62), .slice 1 (.t 58) (some (.t 59)) (some (.t 61)), none⟩, ⟨(some 63), .conv .str (.t 62), none⟩, ⟨(some 64), .build [(.lit (.int .i64 0)), (.lit (.string (mkS []))), (.lit (.int .i64 0))] [(0, 1, (.c (.lit (.int .i64 5)))), (1, 1, (.t 63))], none⟩, ⟨none, .store 3 (.t 4) (.t 64), none⟩, ⟨(some 5), .mov (.c (.lit (.int .i64 18))), none⟩]) (
 .ret)
def L_ref03_one_2 (N : Nat → Nat) : AC :=
         .seq (
          .seq (
           .ops [⟨(some 89), .mov (.t 1), none⟩, ⟨(some 90), .mov (.t 10), none⟩, ⟨(some 91), .bin .add (.t 89) (.t 90), none⟩, ⟨(some 92), .mov (.t 0), none⟩, ⟨(some 93), .len (.t 92), none⟩, ⟨(some 94), .bin .lss (.t 91) (.t 93), none⟩, ⟨(some 95), .mov (.t 94), none⟩, ⟨(some 96), .mov (.t 0), (some (95, true))⟩, ⟨(some 97), .mov (.t 1), (some (95, true))⟩, ⟨(some 98), .mov (.t 10), (some (95, true))⟩, ⟨(some 99), .bin .add (.t 97) (.t 98), (some (95, true))⟩, ⟨(some 100), .iaddr 1 (.t 96) (.t 99), (some (95, true))⟩, ⟨(some 101), .load none (.t 100), (some (95, true))⟩, ⟨(some 102), .call (.c (.fn (f_ref03_high N) [] [])) [(.t 101)], (some (95, true))⟩, ⟨(some 103), .mov (.t 102), (some (95, true))⟩, ⟨(some 104), .mov (.t 0), (some (103, false))⟩, ⟨(some 105), .mov (.t 1), (some (103, false))⟩, ⟨(some 106), .mov (.t 10), (some (103, false))⟩, ⟨(some 107), .bin .add (.t 105) (.t 106), (some (103, false))⟩, ⟨(some 108), .iaddr 1 (.t 104) (.t 107), (some (103, false))⟩, ⟨(some 109), .load none (.t 108), (some (103, false))⟩, ⟨(some 110), .call (.c (.fn (f_ref03_digit N) [] [])) [(.t 109)], (some (103, false))⟩, ⟨(some 111), .pick (.t 103) (.c (.lit (.bool true))) (.t 110), (some (95, true))⟩, ⟨(some 112), .mov (.t 111), (some (95, true))⟩, ⟨(some 113), .mov (.t 0), (some (112, false))⟩, ⟨(some 114), .mov (.t 1), (some (112, false))⟩, ⟨(some 115), .mov (.t 10), (some (112, false))⟩, ⟨(some 116), .bin .add (.t 114) (.t 115), (some (112, false))⟩, ⟨(some 117), .iaddr 1 (.t 113) (.t 116), (some (112, false))⟩, ⟨(some 118), .load none (.t 117), (some (112, false))⟩, ⟨(some 119), .bin .geq (.t 118) (.c (.lit (.int .u8 97))), (some (112, false))⟩, ⟨(some 120), .mov (.t 119), (some (112, false))⟩, ⟨(some 121), .mov (.t 0), (some (120, true))⟩, ⟨(some 122), .mov (.t 1), (some (120, true))⟩, ⟨(some 123), .mov (.t 10), (some (120, true))⟩, ⟨(some 124), .bin .add (.t 122) (.t 123), (some (120, true))⟩, ⟨(some 125), .iaddr 1 (.t 121) (.t 124), (some (120, true))⟩, ⟨(some 126), .load none (.t 125), (some (120, true))⟩, ⟨(some 127), .bin .leq (.t 126) (.c (.lit (.int .u8 122))), (some (120, true))⟩, ⟨(some 128), .pick (.t 120) (.t 127) (.c (.lit (.bool false))), (some (112, false))⟩, ⟨(some 129), .pick (.t 112) (.c (.lit (.bool true))) (.t 128), (some (95, true))⟩, ⟨(some 130), .pick (.t 95) (.t 129) (.c (.lit (.bool false))), none⟩]) (
          .cond (.t 130) (
           .skip) (
           .exit 3))) (
         .block 4 (
          .ops [⟨(some 131), .mov (.t 10), none⟩, ⟨(some 132), .bin .add (.t 131) (.c (.lit (.int .i64 1))), none⟩, ⟨(some 10), .mov (.t 132), none⟩]))
def K_ref03_one_2 (N : Nat → Nat) : AC :=
 .seq (
  .ops [⟨(some 133), .mov (.t 0), none⟩, ⟨(some 134), .mov (.t 1), none⟩, ⟨(some 135), .mov (.t 1), none⟩, ⟨(some 136), .mov (.t 10), none⟩, ⟨(some 137), .bin .add (.t 135) (.t 136), none⟩, ⟨(some 138), .slice 1 (.t 133) (some (.t 134)) (some (.t 137)), none⟩, ⟨(some 139), .conv .str (.t 138), none⟩, ⟨(some 140), .build [(.lit (.int .i64 0)), (.lit (.string (mkS []))), (.lit (.int .i64 0))] [(0, 1, (.c (.lit (.int .i64 2)))), (1, 1, (.t 139))], none⟩, ⟨(some 141), .mov (.t 10), none⟩, ⟨none, .store 3 (.t 4) (.t 140), none⟩, ⟨(some 5), .mov (.t 141), none⟩]) (
 .ret)
def E_ref03_one_5 (N : Nat → Nat) : AC :=
        .seq (
         .ops [⟨(some 186), .mov (.t 6), none⟩, ⟨(some 187), .eq false .pint (.t 186) (.c (.lit (.int .u8 34))), none⟩, ⟨(some 185), .mov (.t 187), none⟩]) (
        .cond (.t 185) (
         .seq (
          .ops [⟨(some 189), .mov (.t 0), none⟩, ⟨(some 190), .mov (.t 1), none⟩, ⟨(some 191), .call (.c (.fn (f_ref03_str N) [] [])) [(.t 189), (.t 190)], none⟩, ⟨(some 188), .mov (.t 191), none⟩, ⟨(some 192), .extract (.t 188) 0, none⟩, ⟨(some 193), .extract (.t 188) 1, none⟩, ⟨(some 14), .mov (.t 192), none⟩, ⟨(some 15), .mov (.t 193), none⟩]) (
         .seq (
          .seq (
           .ops [⟨(some 194), .mov (.t 15), none⟩, ⟨(some 195), .eq false .pint (.t 194) (.c (.lit (.int .i64 0))), none⟩]) (
          .cond (.t 195) (
           .seq (
            .ops [⟨(some 196), .build [(.lit (.int .i64 0)), (.lit (.string (mkS []))), (.lit (.int .i64 0))] [], none⟩, ⟨none, .store 3 (.t 4) (.t 196), none⟩, ⟨(some 5), .mov (.c (.lit (.int .i64 0))), none⟩]) (
           .ret)) (
           .skip))) (
         .seq (
          .ops [⟨(some 197), .mov (.t 14), none⟩, ⟨(some 198), .build [(.lit (.int .i64 0)), (.lit (.string (mkS []))), (.lit (.int .i64 0))] [(0, 1, (.c (.lit (.int .i64 6)))), (1, 1, (.t 197))], none⟩, ⟨(some 199), .mov (.t 15), none⟩, ⟨none, .store 3 (.t 4) (.t 198), none⟩, ⟨(some 5), .mov (.t 199), none⟩]) (
         .ret)))) (
         .skip))
def E_ref03_one_4 (N : Nat → Nat) : AC :=
       .seq (
        .ops [⟨(some 164), .mov (.t 6), none⟩, ⟨(some 165), .eq false .pint (.t 164) (.c (.lit (.int .u8 35))), none⟩, ⟨(some 163), .mov (.t 165), none⟩]) (
       .cond (.t 163) (
        .seq (
         .ops [⟨(some 166), .mov (.t 0), none⟩, ⟨(some 167), .mov (.t 1), none⟩, ⟨(some 168), .bin .add (.t 167) (.c (.lit (.int .i64 1))), none⟩, ⟨(some 169), .call (.c (.fn (f_ref03_name N) [] [])) [(.t 166), (.t 168)], none⟩, ⟨(some 13), .mov (.t 169), none⟩]) (
        .seq (
         .seq (
          .ops [⟨(some 170), .mov (.t 13), none⟩, ⟨(some 171), .eq false .pint (.t 170) (.c (.lit (.int .i64 0))), none⟩]) (
         .cond (.t 171) (
          .seq (
           .ops [⟨(some 172), .build [(.lit (.int .i64 0)), (.lit (.string (mkS []))), (.lit (.int .i64 0))] [], none⟩, ⟨none, .store 3 (.t 4) (.t 172), none⟩, ⟨(some 5), .mov (.c (.lit (.int .i64 0))), none⟩]) (
          .ret)) (
          .skip))) (
        .seq (
         .ops [⟨(some 173), .mov (.t 0), none⟩, ⟨(some 174), .mov (.t 1), none⟩, ⟨(some 175), .bin .add (.t 174) (.c (.lit (.int .i64 1))), none⟩, ⟨(some 176), .mov (.t 1), none⟩, ⟨(some 177), .bin .add (.t 176) (.c (.lit (.int .i64 1))), none⟩, ⟨(some 178), .mov (.t 13), none⟩, ⟨(some 179), .bin .add (.t 177) (.t 178), none⟩, ⟨(some 180), .slice 1 (.t 173) (some (.t 175)) (some (.t 179)), none⟩, ⟨(some 181), .conv .str (.t 180), none⟩, ⟨(some 182), .build [(.lit (.int .i64 0)), (.lit (.string (mkS []))), (.lit (.int .i64 0))] [(0, 1, (.c (.lit (.int .i64 3)))), (1, 1, (.t 181))], none⟩, ⟨(some 183), .mov (.t 13), none⟩, ⟨(some 184), .bin .add (.t 183) (.c (.lit (.int .i64 1))), none⟩, ⟨none, .store 3 (.t 4) (.t 182), none⟩, ⟨(some 5), .mov (.t 184), none⟩]) (
        .ret)))) (E_ref03_one_5 N))
def E_ref03_one_3 (N : Nat → Nat) : AC :=
      .seq (
       .ops [⟨(some 143), .mov (.t 6), none⟩, ⟨(some 144), .call (.c (.fn (f_ref03_digit N) [] [])) [(.t 143)], none⟩, ⟨(some 142), .mov (.t 144), none⟩]) (
      .cond (.t 142) (
       .seq (
        .ops [⟨(some 146), .mov (.t 0), none⟩, ⟨(some 147), .mov (.t 1), none⟩, ⟨(some 148), .call (.c (.fn (f_ref03_number N) [] [])) [(.t 146), (.t 147)], none⟩, ⟨(some 145), .mov (.t 148), none⟩, ⟨(some 149), .extract (.t 145) 0, none⟩, ⟨(some 150), .extract (.t 145) 1, none⟩, ⟨(some 11), .mov (.t 149), none⟩, ⟨(some 12), .mov (.t 150), none⟩]) (
       .seq (
        .seq (
         .ops [⟨(some 151), .mov (.t 12), none⟩, ⟨(some 152), .un .not (.t 151), none⟩]) (
        .cond (.t 152) (
         .seq (
          .ops [⟨(some 153), .build [(.lit (.int .i64 0)), (.lit (.string (mkS []))), (.lit (.int .i64 0))] [], none⟩, ⟨none, .store 3 (.t 4) (.t 153), none⟩, ⟨(some 5), .mov (.c (.lit (.int .i64 0))), none⟩]) (
         .ret)) (
         .skip))) (
       .seq (
        .ops [⟨(some 154), .mov (.t 0), none⟩, ⟨(some 155), .mov (.t 1), none⟩, ⟨(some 156), .mov (.t 1), none⟩, ⟨(some 157), .mov (.t 11), none⟩, ⟨(some 158), .bin .add (.t 156) (.t 157), none⟩, ⟨(some 159), .slice 1 (.t 154) (some (.t 155)) (some (.t 158)), none⟩, ⟨(some 160), .conv .str (.t 159), none⟩, ⟨(some 161), .build [(.lit (.int .i64 0)), (.lit (.string (mkS []))), (.lit (.int .i64 0))] [(0, 1, (.c (.lit (.int .i64 4)))), (1, 1, (.t 160))], none⟩, ⟨(some 162), .mov (.t 11), none⟩, ⟨none, .store 3 (.t 4) (.t 161), none⟩, ⟨(some 5), .mov (.t 162), none⟩]) (
       .ret)))) (E_ref03_one_4 N))
def E_ref03_one_2 (N : Nat → Nat) : AC :=
     .seq (
      .ops [⟨(some 87), .mov (.t 6), none⟩, ⟨(some 88), .call (.c (.fn (f_ref03_high N) [] [])) [(.t 87)], none⟩, ⟨(some 86), .mov (.t 88), none⟩]) (
     .cond (.t 86) (
      .seq (
       .ops [⟨(some 10), .mov (.c (.lit (.int .i64 1))), none⟩]) (
      .seq (
       .block 3 (
        .loop (L_ref03_one_2 N))) (K_ref03_one_2 N))) (E_ref03_one_3 N))
def E_ref03_one_1 (N : Nat → Nat) : AC :=
    .seq (
     .ops [⟨(some 66), .mov (.t 6), none⟩, ⟨(some 67), .call (.c (.fn (f_ref03_low N) [] [])) [(.t 66)], none⟩, ⟨(some 65), .mov (.t 67), none⟩]) (
    .cond (.t 65) (
     .seq (
      .ops [⟨(some 68), .mov (.t 0), none⟩, ⟨(some 69), .mov (.t 1), none⟩, ⟨(some 70), .call (.c (.fn (f_ref03_name N) [] [])) [(.t 68), (.t 69)], none⟩, ⟨(some 8), .mov (.t 70), none⟩]) (
     .seq (
      .ops [⟨(some 71), .mov (.t 0), none⟩, ⟨(some 72), .mov (.t 1), none⟩, ⟨(some 73), .mov (.t 1), none⟩, ⟨(some 74), .mov (.t 8), none⟩, ⟨(some 75), .bin .add (.t 73) (.t 74), none⟩, ⟨(some 76), .slice 1 (.t 71) (some (.t 72)) (some (.t 75)), none⟩, ⟨(some 77), .conv .str (.t 76), none⟩, ⟨(some 9), .mov (.t 77), none⟩]) (
     .seq (
      .seq (
       .ops [⟨(some 78), .mov (.t 9), none⟩, ⟨(some 79), .call (.c (.fn (f_ref03_IsWord N) [] [])) [(.t 78)], none⟩]) (
      .cond (.t 79) (
       .seq (
        .ops [⟨(some 80), .mov (.t 9), none⟩, ⟨(some 81), .build [(.lit (.int .i64 0)), (.lit (.string (mkS []))), (.lit (.int .i64 0))] [(0, 1, (.c (.lit (.int .i64 7)))), (1, 1, (.t 80))], none⟩, ⟨(some 82), .mov (.t 8), none⟩, ⟨none, .store 3 (.t 4) (.t 81), none⟩, ⟨(some 5), .mov (.t 82), none⟩]) (
       .ret)) (
       .skip))) (
     .seq (
      .ops [⟨(some 83), .mov (.t 9), none⟩, ⟨(some 84), .build [(.lit (.int .i64 0)), (.lit (.string (mkS []))), (.lit (.int .i64 0))] [(0, 1, (.c (.lit (.int .i64 1)))), (1, 1, (.t 83))], none⟩, ⟨(some 85), .mov (.t 8), none⟩, ⟨none, .store 3 (.t 4) (.t 84), none⟩, ⟨(some 5), .mov (.t 85), none⟩]) (
     .ret))))) (E_ref03_one_2 N))
def K_ref03_one_3 (N : Nat → Nat) : AC :=
 .seq (
  .ops [⟨(some 200), .mov (.t 0), none⟩, ⟨(some 201), .mov (.t 1), none⟩, ⟨(some 202), .call (.c (.fn (f_ref03_sign N) [] [])) [(.t 200), (.t 201)], none⟩, ⟨(some 16), .mov (.t 202), none⟩]) (
 .seq (
  .seq (
   .ops [⟨(some 203), .mov (.t 16), none⟩, ⟨(some 204), .eq false .pint (.t 203) (.c (.lit (.int .i64 0))), none⟩]) (
  .cond (.t 204) (
   .seq (
    .ops [⟨(some 205), .build [(.lit (.int .i64 0)), (.lit (.string (mkS []))), (.lit (.int .i64 0))] [], none⟩, ⟨none, .store 3 (.t 4) (.t 205), none⟩, ⟨(some 5), .mov (.c (.lit (.int .i64 0))), none⟩]) (
   .ret)) (
   .skip))) (
 .seq (
  .ops [⟨(some 206), .mov (.t 0), none⟩, ⟨(some 207), .mov (.t 1), none⟩, ⟨(some 208), .mov (.t 1), none⟩, ⟨(some 209), .mov (.t 16), none⟩, ⟨(some 210), .bin .add (.t 208) (.t 209), none⟩, ⟨(some 211), .slice 1 (.t 206) (some (.t 207)) (some (.t 210)), none⟩, ⟨(some 212), .conv .str (.t 211), none⟩, ⟨(some 213), .build [(.lit (.int .i64 0)), (.lit (.string (mkS []))), (.lit (.int .i64 0))] [(0, 1, (.c (.lit (.int .i64 8)))), (1, 1, (.t 212))], none⟩, ⟨(some 214), .mov (.t 16), none⟩, ⟨none, .store 3 (.t 4) (.t 213), none⟩, ⟨(some 5), .mov (.t 214), none⟩]) (
 .ret)))
/-- azimuth/azimuthref03.one -/
def C_ref03_one (N : Nat → Nat) : AFunc := ⟨215, [.inr (4, (some 3)), .inl 5],
 .seq (
  .ops [⟨(some 4), .new (t_api_Token N) (.agg [(.lit (.int .i64 0)), (.lit (.string (mkS []))), (.lit (.int .i64 0))]), none⟩, ⟨(some 5), .mov (.c (.lit (.int .i64 0))), none⟩]) (
 .seq (
  .ops [⟨(some 17), .mov (.t 0), none⟩, ⟨(some 18), .mov (.t 1), none⟩, ⟨(some 19), .iaddr 1 (.t 17) (.t 18), none⟩, ⟨(some 20), .load none (.t 19), none⟩, ⟨(some 6), .mov (.t 20), none⟩]) (
 .seq (
  .block 0 (
   .seq (
    .ops [⟨(some 22), .mov (.t 6), none⟩, ⟨(some 23), .eq false .pint (.t 22) (.c (.lit (.int .u8 102))), none⟩, ⟨(some 24), .mov (.t 23), none⟩, ⟨(some 25), .mov (.t 1), (some (24, true))⟩, ⟨(some 26), .bin .add (.t 25) (.c (.lit (.int .i64 1))), (some (24, true))⟩, ⟨(some 27), .mov (.t 0), (some (24, true))⟩, ⟨(some 28), .len (.t 27), (some (24, true))⟩, ⟨(some 29), .bin .lss (.t 26) (.t 28), (some (24, true))⟩, ⟨(some 30), .pick (.t 24) (.t 29) (.c (.lit (.bool false))), none⟩, ⟨(some 31), .mov (.t 30), none⟩, ⟨(some 32), .mov (.t 0), (some (31, true))⟩, ⟨(some 33), .mov (.t 1), (some (31, true))⟩, ⟨(some 34), .bin .add (.t 33) (.c (.lit (.int .i64 1))), (some (31, true))⟩, ⟨(some 35), .iaddr 1 (.t 32) (.t 34), (some (31, true))⟩, ⟨(some 36), .load none (.t 35), (some (31, true))⟩, ⟨(some 37), .eq false .pint (.t 36) (.c (.lit (.int .u8 39))), (some (31, true))⟩, ⟨(some 38), .pick (.t 31) (.t 37) (.c (.lit (.bool false))), none⟩, ⟨(some 21), .mov (.t 38), none⟩]) (
   .cond (.t 21) (
    .seq (
     .seq (
      .ops [⟨(some 39), .mov (.t 1), none⟩, ⟨(some 40), .bin .add (.t 39) (.c (.lit (.int .i64 18))), none⟩, ⟨(some 41), .mov (.t 0), none⟩, ⟨(some 42), .len (.t 41), none⟩, ⟨(some 43), .bin .gtr (.t 40) (.t 42), none⟩]) (
     .cond (.t 43) (
      .seq (
       .ops [⟨(some 44), .build [(.lit (.int .i64 0)), (.lit (.string (mkS []))), (.lit (.int .i64 0))] [], none⟩, ⟨none, .store 3 (.t 4) (.t 44), none⟩, ⟨(some 5), .mov (.c (.lit (.int .i64 0))), none⟩]) (
      .ret)) (
      .skip))) (
    .seq (
     .seq (
      .ops [⟨(some 7), .mov (.c (.lit (.int .i64 2))), none⟩]) (
     .block 1 (
      .loop (L_ref03_one_1 N)))) (K_ref03_one_1 N))) (E_ref03_one_1 N)))) (K_ref03_one_3 N))), false⟩

/-- azimuth/azimuthref03.sign -/
def C_ref03_sign (N : Nat → Nat) : AFunc := ⟨49, [.inl 4],
 .seq (
  .ops [⟨(some 4), .mov (.c (.lit (.int .i64 0))), none⟩]) (
 .seq (
  .seq (
   .ops [⟨(some 5), .mov (.t 1), none⟩, ⟨(some 6), .bin .add (.t 5) (.c (.lit (.int .i64 2))), none⟩, ⟨(some 7), .mov (.t 0), none⟩, ⟨(some 8), .len (.t 7), none⟩, ⟨(some 9), .bin .leq (.t 6) (.t 8), none⟩]) (
  .cond (.t 9) (
   .seq (
    .ops [⟨(some 10), .mov (.t 0), none⟩, ⟨(some 11), .mov (.t 1), none⟩, ⟨(some 12), .mov (.t 1), none⟩, ⟨(some 13), .bin .add (.t 12) (.c (.lit (.int .i64 2))), none⟩, ⟨(some 14), .slice 1 (.t 10) (some (.t 11)) (some (.t 13)), none⟩, ⟨(some 15), .conv .str (.t 14), none⟩]) (
   .block 0 (
    .seq (
     .seq (
      .ops [⟨(some 17), .eq false .pstr (.t 15) (.c (.lit (.string (mkS [61, 62])))), none⟩, ⟨(some 16), .mov (.t 17), none⟩]) (
     .cond (.t 16) (
      .skip) (
      .seq (
       .ops [⟨(some 18), .eq false .pstr (.t 15) (.c (.lit (.string (mkS [45, 62])))), none⟩, ⟨(some 16), .mov (.t 18), none⟩]) (
      .cond (.t 16) (
       .skip) (
       .seq (
        .ops [⟨(some 19), .eq false .pstr (.t 15) (.c (.lit (.string (mkS [61, 61])))), none⟩, ⟨(some 16), .mov (.t 19), none⟩]) (
       .cond (.t 16) (
        .skip) (
        .seq (
         .ops [⟨(some 20), .eq false .pstr (.t 15) (.c (.lit (.string (mkS [46, 46])))), none⟩, ⟨(some 16), .mov (.t 20), none⟩]) (
        .cond (.t 16) (
         .skip) (
         .seq (
          .ops [⟨(some 21), .eq false .pstr (.t 15) (.c (.lit (.string (mkS [43, 46])))), none⟩, ⟨(some 16), .mov (.t 21), none⟩]) (
         .cond (.t 16) (
          .skip) (
          .seq (
           .ops [⟨(some 22), .eq false .pstr (.t 15) (.c (.lit (.string (mkS [45, 46])))), none⟩, ⟨(some 16), .mov (.t 22), none⟩]) (
          .cond (.t 16) (
           .skip) (
           .seq (
            .ops [⟨(some 23), .eq false .pstr (.t 15) (.c (.lit (.string (mkS [42, 46])))), none⟩, ⟨(some 16), .mov (.t 23), none⟩]) (
           .cond (.t 16) (
            .skip) (
            .seq (
             .ops [⟨(some 24), .eq false .pstr (.t 15) (.c (.lit (.string (mkS [47, 46])))), none⟩, ⟨(some 16), .mov (.t 24), none⟩]) (
            .cond (.t 16) (
             .skip) (
             .ops [⟨(some 25), .eq false .pstr (.t 15) (.c (.lit (.string (mkS [60, 46])))), none⟩, ⟨(some 16), .mov (.t 25), none⟩]))))))))))))))))) (
    .cond (.t 16) (
     .seq (
      .ops [⟨(some 4), .mov (.c (.lit (.int .i64 2))), none⟩]) (
     .ret)) (
     .skip))))) (
   .skip))) (
 .seq (
  .seq (
   .ops [⟨(some 26), .mov (.t 0), none⟩, ⟨(some 27), .mov (.t 1), none⟩, ⟨(some 28), .iaddr 1 (.t 26) (.t 27), none⟩, ⟨(some 29), .load none (.t 28), none⟩]) (
  .block 1 (
   .seq (
    .seq (
     .ops [⟨(some 31), .eq false .pint (.t 29) (.c (.lit (.int .u8 40))), none⟩, ⟨(some 30), .mov (.t 31), none⟩]) (
    .cond (.t 30) (
     .skip) (
     .seq (
      .ops [⟨(some 32), .eq false .pint (.t 29) (.c (.lit (.int .u8 41))), none⟩, ⟨(some 30), .mov (.t 32), none⟩]) (
     .cond (.t 30) (
      .skip) (
      .seq (
       .ops [⟨(some 33), .eq false .pint (.t 29) (.c (.lit (.int .u8 123))), none⟩, ⟨(some 30), .mov (.t 33), none⟩]) (
      .cond (.t 30) (
       .skip) (
       .seq (
        .ops [⟨(some 34), .eq false .pint (.t 29) (.c (.lit (.int .u8 125))), none⟩, ⟨(some 30), .mov (.t 34), none⟩]) (
       .cond (.t 30) (
        .skip) (
        .seq (
         .ops [⟨(some 35), .eq false .pint (.t 29) (.c (.lit (.int .u8 91))), none⟩, ⟨(some 30), .mov (.t 35), none⟩]) (
        .cond (.t 30) (
         .skip) (
         .seq (
          .ops [⟨(some 36), .eq false .pint (.t 29) (.c (.lit (.int .u8 93))), none⟩, ⟨(some 30), .mov (.t 36), none⟩]) (
         .cond (.t 30) (
          .skip) (
          .seq (
           .ops [⟨(some 37), .eq false .pint (.t 29) (.c (.lit (.int .u8 44))), none⟩, ⟨(some 30), .mov (.t 37), none⟩]) (
          .cond (.t 30) (
           .skip) (
           .seq (
            .ops [⟨(some 38), .eq false .pint (.t 29) (.c (.lit (.int .u8 59))), none⟩, ⟨(some 30), .mov (.t 38), none⟩]) (
           .cond (.t 30) (
            .skip) (
            .seq (
             .ops [⟨(some 39), .eq false .pint (.t 29) (.c (.lit (.int .u8 58))), none⟩, ⟨(some 30), .mov (.t 39), none⟩]) (
            .cond (.t 30) (
             .skip) (
             .seq (
              .ops [⟨(some 40), .eq false .pint (.t 29) (.c (.lit (.int .u8 46))), none⟩, ⟨(some 30), .mov (.t 40), none⟩]) (
             .cond (.t 30) (
              .skip) (
              .seq (
               .ops [⟨(some 41), .eq false .pint (.t 29) (.c (.lit (.int .u8 61))), none⟩, ⟨(some 30), .mov (.t 41), none⟩]) (
              .cond (.t 30) (
               .skip) (
               .seq (
                .ops [⟨(some 42), .eq false .pint (.t 29) (.c (.lit (.int .u8 124))), none⟩, ⟨(some 30), .mov (.t 42), none⟩]) (
               .cond (.t 30) (
                .skip) (
                .seq (
                 .ops [⟨(some 43), .eq false .pint (.t 29) (.c (.lit (.int .u8 43))), none⟩, ⟨(some 30), .mov (.t 43), none⟩]) (
                .cond (.t 30) (
                 .skip) (
                 .seq (
                  .ops [⟨(some 44), .eq false .pint (.t 29) (.c (.lit (.int .u8 45))), none⟩, ⟨(some 30), .mov (.t 44), none⟩]) (
                 .cond (.t 30) (
                  .skip) (
                  .seq (
                   .ops [⟨(some 45), .eq false .pint (.t 29) (.c (.lit (.int .u8 42))), none⟩, ⟨(some 30), .mov (.t 45), none⟩]) (
                  .cond (.t 30) (
                   .skip) (
                   .seq (
                    .ops [⟨(some 46), .eq false .pint (.t 29) (.c (.lit (.int .u8 47))), none⟩, ⟨(some 30), .mov (.t 46), none⟩]) (
                   .cond (.t 30) (
                    .skip) (
                    .seq (
                     .ops [⟨(some 47), .eq false .pint (.t 29) (.c (.lit (.int .u8 60))), none⟩, ⟨(some 30), .mov (.t 47), none⟩]) (
                    .cond (.t 30) (
                     .skip) (
                     .ops [⟨(some 48), .eq false .pint (.t 29) (.c (.lit (.int .u8 94))), none⟩, ⟨(some 30), .mov (.t 48), none⟩]))))))))))))))))))))))))))))))))))) (
   .cond (.t 30) (
    .seq (
     .ops [⟨(some 4), .mov (.c (.lit (.int .i64 1))), none⟩]) (
    .ret)) (
    .skip))))) (
 .seq (
  .ops [⟨(some 4), .mov (.c (.lit (.int .i64 0))), none⟩]) (
 .ret)))), false⟩

def L_ref03_str_1 (N : Nat → Nat) : AC :=
    .seq (
     .seq (
      .ops [⟨(some 10), .mov (.t 7), none⟩, ⟨(some 11), .mov (.t 0), none⟩, ⟨(some 12), .len (.t 11), none⟩, ⟨(some 13), .bin .lss (.t 10) (.t 12), none⟩]) (
     .cond (.t 13) (
      .skip) (
      .exit 0))) (
    .block 1 (
     .block 2 (
      .seq (
       .ops [⟨(some 25), .mov (.t 0), none⟩, ⟨(some 26), .mov (.t 7), none⟩, ⟨(some 27), .iaddr 1 (.t 25) (.t 26), none⟩, ⟨(some 28), .load none (.t 27), none⟩, ⟨(some 29), .eq false .pint (.t 28) (.c (.lit (.int .u8 34))), none⟩, ⟨(some 24), .mov (.t 29), none⟩]) (
      .cond (.t 24) (
       .seq (
        .ops [⟨(some 30), .mov (.t 6), none⟩, ⟨(some 31), .mov (.t 7), none⟩, ⟨(some 32), .bin .add (.t 31) (.c (.lit (.int .i64 1))), none⟩, ⟨(some 33), .mov (.t 1), none⟩, ⟨(some 34), .bin .sub (.t 32) (.t 33), none⟩, ⟨(some 4), .mov (.t 30), none⟩, ⟨(some 5), .mov (.t 34), none⟩]) (
       .ret)) (
       .seq (
        .ops [⟨(some 36), .mov (.t 0), none⟩, ⟨(some 37), .mov (.t 7), none⟩, ⟨(some 38), .iaddr 1 (.t 36) (.t 37), none⟩, ⟨(some 39), .load none (.t 38), none⟩, ⟨(some 40), .bin .lss (.t 39) (.c (.lit (.int .u8 32))), none⟩, ⟨(some 35), .mov (.t 40), none⟩]) (
       .cond (.t 35) (
        .seq (
         .ops [⟨(some 4), .mov (.c (.lit (.string (mkS [])))), none⟩, ⟨(some 5), .mov (.c (.lit (.int .i64 0))), none⟩]) (
        .ret)) (
        .seq (
         .ops [⟨(some 42), .mov (.t 0), none⟩, ⟨(some 43), .mov (.t 7), none⟩, ⟨(some 44), .iaddr 1 (.t 42) (.t 43), none⟩, ⟨(some 45), .load none (.t 44), none⟩, ⟨(some 46), .eq false .pint (.t 45) (.c (.lit (.int .u8 92))), none⟩, ⟨(some 41), .mov (.t 46), none⟩]) (
        .cond (.t 41) (
         .seq (
          .seq (
           .ops [⟨(some 47), .mov (.t 7), none⟩, ⟨(some 48), .bin .add (.t 47) (.c (.lit (.int .i64 1))), none⟩, ⟨(some 49), .mov (.t 0), none⟩, ⟨(some 50), .len (.t 49), none⟩, ⟨(some 51), .bin .geq (.t 48) (.t 50), none⟩]) (
          .cond (.t 51) (
           .seq (
            .ops [⟨(some 4), .mov (.c (.lit (.string (mkS [])))), none⟩, ⟨(some 5), .mov (.c (.lit (.int .i64 0))), none⟩]) (
           .ret)) (
           .skip))) (
         .seq (
          .seq (
           .ops [⟨(some 52), .mov (.t 0), none⟩, ⟨(some 53), .mov (.t 7), none⟩, ⟨(some 54), .bin .add (.t 53) (.c (.lit (.int .i64 1))), none⟩, ⟨(some 55), .iaddr 1 (.t 52) (.t 54), none⟩, ⟨(some 56), .load none (.t 55), none⟩]) (
          .block 3 (
           .seq (
            .ops [⟨(some 58), .eq false .pint (.t 56) (.c (.lit (.int .u8 34))), none⟩, ⟨(some 57), .mov (.t 58), none⟩]) (
           .cond (.t 57) (
            .ops [⟨(some 59), .mov (.t 6), none⟩, ⟨(some 60), .bslice (t_uint8 N) 1 none 1 [(.lit (.int .u8 0))] [(0, 1, (.c (.lit (.int .u8 34))))], none⟩, ⟨(some 61), .conv .str (.t 60), none⟩, ⟨(some 62), .bin .add (.t 59) (.t 61), none⟩, ⟨(some 6), .mov (.t 62), none⟩]) (
            .seq (
             .ops [⟨(some 64), .eq false .pint (.t 56) (.c (.lit (.int .u8 92))), none⟩, ⟨(some 63), .mov (.t 64), none⟩]) (
            .cond (.t 63) (
             .ops [⟨(some 65), .mov (.t 6), none⟩, ⟨(some 66), .bslice (t_uint8 N) 1 none 1 [(.lit (.int .u8 0))] [(0, 1, (.c (.lit (.int .u8 92))))], none⟩, ⟨(some 67), .conv .str (.t 66), none⟩, ⟨(some 68), .bin .add (.t 65) (.t 67), none⟩, ⟨(some 6), .mov (.t 68), none⟩]) (
             .seq (
              .ops [⟨(some 70), .eq false .pint (.t 56) (.c (.lit (.int .u8 110))), none⟩, ⟨(some 69), .mov (.t 70), none⟩]) (
             .cond (.t 69) (
              .ops [⟨(some 71), .mov (.t 6), none⟩, ⟨(some 72), .bslice (t_uint8 N) 1 none 1 [(.lit (.int .u8 0))] [(0, 1, (.c (.lit (.int .u8 10))))], none⟩, ⟨(some 73), .conv .str (.t 72), none⟩, ⟨(some 74), .bin .add (.t 71) (.t 73), none⟩, ⟨(some 6), .mov (.t 74), none⟩]) (
              .seq (
               .ops [⟨(some 4), .mov (.c (.lit (.string (mkS [])))), none⟩, ⟨(some 5), .mov (.c (.lit (.int .i64 0))), none⟩]) (
              .ret)))))))))) (
         .ops [⟨(some 75), .mov (.t 7), none⟩, ⟨(some 76), .bin .add (.t 75) (.c (.lit (.int .i64 2))), none⟩, ⟨(some 7), .mov (.t 76), none⟩]))) (
         .seq (
          .ops [⟨(some 14), .mov (.t 6), none⟩, ⟨(some 15), .mov (.t 0), none⟩, ⟨(some 16), .mov (.t 7), none⟩, ⟨(some 17), .mov (.t 7), none⟩, ⟨(some 18), .bin .add (.t 17) (.c (.lit (.int .i64 1))), none⟩, ⟨(some 19), .slice 1 (.t 15) (some (.t 16)) (some (.t 18)), none⟩, ⟨(some 20), .conv .str (.t 19), none⟩, ⟨(some 21), .bin .add (.t 14) (.t 20), none⟩, ⟨(some 6), .mov (.t 21), none⟩]) (
         .ops [⟨(some 22), .mov (.t 7), none⟩, ⟨(some 23), .bin .add (.t 22) (.c (.lit (.int .i64 1))), none⟩, ⟨(some 7), .mov (.t 23), none⟩]))))))))))
def K_ref03_str_1 (N : Nat → Nat) : AC :=
 .seq (
  .ops [⟨(some 4), .mov (.c (.lit (.string (mkS [])))), none⟩, ⟨(some 5), .mov (.c (.lit (.int .i64 0))), none⟩]) (
 .ret)
/-- azimuth/azimuthref03.str -/
def C_ref03_str (N : Nat → Nat) : AFunc := ⟨77, [.inl 4, .inl 5],
 .seq (
  .ops [⟨(some 4), .mov (.c (.lit (.string (mkS [])))), none⟩, ⟨(some 5), .mov (.c (.lit (.int .i64 0))), none⟩]) (
 .seq (
  .ops [⟨(some 6), .mov (.c (.lit (.string (mkS [])))), none⟩]) (
 .seq (
  .ops [⟨(some 8), .mov (.t 1), none⟩, ⟨(some 9), .bin .add (.t 8) (.c (.lit (.int .i64 1))), none⟩, ⟨(some 7), .mov (.t 9), none⟩]) (
 .seq (
  .block 0 (
   .loop (L_ref03_str_1 N))) (K_ref03_str_1 N)))), false⟩
end Go.Proofs.Eng
