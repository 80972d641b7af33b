import Derived.Test.YtfokealcfobnnaaGreatM32
/- Templates of functions, as the engine takes them; numbers of functions and types by names. Printed by tm.py. -/
set_option linter.unusedVariables false
set_option maxRecDepth 100000
namespace Go.Proofs.Eng
open Go

def L_graph_Check_1 (N : Nat → Nat) : AC :=
    .seq (
     .ops [⟨(some 32), .bin .lss (.t 31) (.t 30), none⟩]) (
    .seq (
     .cond (.t 32) (
      .skip) (
      .exit 0)) (
    .seq (
     .block 1 (
      .seq (
       .ops [⟨(some 33), .iaddr 4 (.t 29) (.t 31), none⟩, ⟨(some 34), .load (some 4) (.t 33), none⟩, ⟨(some 4), .new (t_api_Head N) (.agg [(.lit (.int .i64 0)), (.lit (.slice none 0 0)), (.lit (.slice none 0 0)), (.lit (.bool false))]), none⟩, ⟨none, .store 4 (.t 4) (.t 34), none⟩]) (
      .seq (
       .ops [⟨(some 35), .load (some 4) (.t 4), none⟩, ⟨(some 36), .faddr 0 (.t 1), none⟩, ⟨(some 37), .load none (.t 36), none⟩, ⟨(some 38), .len (.t 37), none⟩, ⟨(some 39), .call (.c (.fn (f_graph_head N) [] [])) [(.t 35), (.t 38)], none⟩, ⟨(some 40), .un .not (.t 39), none⟩]) (
      .cond (.t 40) (
       .seq (
        .ops [⟨(some 2), .mov (.c (.lit (.int .i64 14))), none⟩]) (
       .ret)) (
       .skip))))) (
    .ops [⟨(some 41), .bin .add (.t 31) (.c (.lit (.int .i64 1))), none⟩, ⟨(some 31), .mov (.t 41), none⟩])))
def K_graph_Check_1 (N : Nat → Nat) : AC :=
 .seq (
  .ops [⟨(some 2), .mov (.c (.lit (.int .i64 0))), none⟩]) (
 .ret)
/-- azimuth/graph.Check -/
def C_graph_Check (N : Nat → Nat) : AFunc := ⟨42, [.inl 2],
 .seq (
  .ops [⟨(some 1), .box (t_api_Graph N) (.t 0), none⟩, ⟨(some 2), .mov (.c (.lit (.int .i64 0))), none⟩]) (
 .seq (
  .seq (
   .ops [⟨(some 5), .faddr 0 (.t 1), none⟩, ⟨(some 6), .load none (.t 5), none⟩, ⟨(some 7), .len (.t 6), none⟩, ⟨(some 8), .eq false .pint (.t 7) (.c (.lit (.int .i64 0))), none⟩, ⟨(some 9), .mov (.t 8), none⟩, ⟨(some 10), .faddr 0 (.t 1), (some (9, false))⟩, ⟨(some 11), .load none (.t 10), (some (9, false))⟩, ⟨(some 12), .len (.t 11), (some (9, false))⟩, ⟨(some 13), .bin .gtr (.t 12) (.c (.lit (.int .i64 4096))), (some (9, false))⟩, ⟨(some 14), .pick (.t 9) (.c (.lit (.bool true))) (.t 13), none⟩, ⟨(some 15), .mov (.t 14), none⟩, ⟨(some 16), .faddr 1 (.t 1), (some (15, false))⟩, ⟨(some 17), .load none (.t 16), (some (15, false))⟩, ⟨(some 18), .bin .lss (.t 17) (.c (.lit (.int .i64 0))), (some (15, false))⟩, ⟨(some 19), .pick (.t 15) (.c (.lit (.bool true))) (.t 18), none⟩, ⟨(some 20), .mov (.t 19), none⟩, ⟨(some 21), .faddr 1 (.t 1), (some (20, false))⟩, ⟨(some 22), .load none (.t 21), (some (20, false))⟩, ⟨(some 23), .faddr 0 (.t 1), (some (20, false))⟩, ⟨(some 24), .load none (.t 23), (some (20, false))⟩, ⟨(some 25), .len (.t 24), (some (20, false))⟩, ⟨(some 26), .bin .geq (.t 22) (.t 25), (some (20, false))⟩, ⟨(some 27), .pick (.t 20) (.c (.lit (.bool true))) (.t 26), none⟩]) (
  .cond (.t 27) (
   .seq (
    .ops [⟨(some 2), .mov (.c (.lit (.int .i64 14))), none⟩]) (
   .ret)) (
   .skip))) (
 .seq (
  .seq (
   .ops [⟨(some 28), .faddr 0 (.t 1), none⟩, ⟨(some 29), .load none (.t 28), none⟩, ⟨(some 30), .len (.t 29), none⟩, ⟨(some 31), .mov (.c (.lit (.int .i64 0))), none⟩]) (
  .block 0 (
   .loop (L_graph_Check_1 N)))) (K_graph_Check_1 N))), false⟩

def L_graph_head_1 (N : Nat → Nat) : AC :=
    .seq (
     .ops [⟨(some 23), .bin .lss (.t 22) (.t 21), none⟩]) (
    .seq (
     .cond (.t 23) (
      .skip) (
      .exit 0)) (
    .seq (
     .block 1 (
      .seq (
       .ops [⟨(some 24), .iaddr 1 (.t 20) (.t 22), none⟩, ⟨(some 25), .load none (.t 24), none⟩, ⟨(some 6), .mov (.t 25), none⟩]) (
      .seq (
       .ops [⟨(some 26), .mov (.t 6), none⟩, ⟨(some 27), .bin .lss (.t 26) (.c (.lit (.int .i64 0))), none⟩, ⟨(some 28), .mov (.t 27), none⟩, ⟨(some 29), .mov (.t 6), (some (28, false))⟩, ⟨(some 30), .mov (.t 1), (some (28, false))⟩, ⟨(some 31), .bin .geq (.t 29) (.t 30), (some (28, false))⟩, ⟨(some 32), .pick (.t 28) (.c (.lit (.bool true))) (.t 31), none⟩]) (
      .cond (.t 32) (
       .seq (
        .ops [⟨(some 4), .mov (.c (.lit (.bool false))), none⟩]) (
       .ret)) (
       .skip))))) (
    .ops [⟨(some 33), .bin .add (.t 22) (.c (.lit (.int .i64 1))), none⟩, ⟨(some 22), .mov (.t 33), none⟩])))
def L_graph_head_2 (N : Nat → Nat) : AC :=
    .seq (
     .ops [⟨(some 50), .bin .lss (.t 49) (.t 48), none⟩]) (
    .seq (
     .cond (.t 50) (
      .skip) (
      .exit 2)) (
    .seq (
     .block 3 (
      .seq (
       .ops [⟨(some 51), .mov (.t 49), none⟩, ⟨(some 9), .mov (.t 51), none⟩]) (
      .seq (
       .ops [⟨(some 52), .faddr 4 (.t 7), none⟩, ⟨(some 53), .load none (.t 52), none⟩, ⟨(some 54), .mov (.t 9), none⟩, ⟨(some 55), .bslice (t_int N) 1 none 1 [(.lit (.int .i64 0))] [(0, 1, (.t 54))], none⟩, ⟨(some 56), .append (t_int N) 1 8 (.t 53) (.t 55), none⟩, ⟨(some 57), .faddr 4 (.t 7), none⟩, ⟨none, .store 1 (.t 57) (.t 56), none⟩]) (
      .ops [⟨(some 58), .faddr 1 (.t 8), none⟩, ⟨(some 59), .load none (.t 58), none⟩, ⟨(some 60), .build [(.lit (.int .i64 0)), (.lit (.int .i64 0)), (.lit (.string (mkS []))), (.lit (.slice none 0 0)), (.lit (.slice none 0 0)), (.lit (.bool false))] [(0, 1, (.c (.lit (.int .i64 0))))], none⟩, ⟨(some 61), .bslice (t_api_TypeNode N) 6 (some 6) 1 [(.lit (.int .i64 0)), (.lit (.int .i64 0)), (.lit (.string (mkS []))), (.lit (.slice none 0 0)), (.lit (.slice none 0 0)), (.lit (.bool false))] [(0, 6, (.t 60))], none⟩, ⟨(some 62), .append (t_api_TypeNode N) 6 88 (.t 59) (.t 61), none⟩, ⟨(some 63), .faddr 1 (.t 8), none⟩, ⟨none, .store 1 (.t 63) (.t 62), none⟩])))) (
    .ops [⟨(some 64), .bin .add (.t 49) (.c (.lit (.int .i64 1))), none⟩, ⟨(some 49), .mov (.t 64), none⟩])))
def K_graph_head_2 (N : Nat → Nat) : AC :=
 .seq (
  .ops [⟨(some 65), .faddr 1 (.t 8), none⟩, ⟨(some 66), .load none (.t 65), none⟩, ⟨(some 67), .load (some 6) (.t 7), none⟩, ⟨(some 68), .bslice (t_api_TypeNode N) 6 (some 6) 1 [(.lit (.int .i64 0)), (.lit (.int .i64 0)), (.lit (.string (mkS []))), (.lit (.slice none 0 0)), (.lit (.slice none 0 0)), (.lit (.bool false))] [(0, 6, (.t 67))], none⟩, ⟨(some 69), .append (t_api_TypeNode N) 6 88 (.t 66) (.t 68), none⟩, ⟨(some 70), .faddr 1 (.t 8), none⟩, ⟨none, .store 1 (.t 70) (.t 69), none⟩]) (
 .seq (
  .ops [⟨(some 71), .load (some 3) (.t 8), none⟩, ⟨(some 72), .call (.c (.fn (f_tree_Check N) [] [])) [(.t 71)], none⟩, ⟨(some 73), .eq false .pint (.t 72) (.c (.lit (.int .i64 0))), none⟩, ⟨(some 4), .mov (.t 73), none⟩]) (
 .ret))
def K_graph_head_1 (N : Nat → Nat) : AC :=
 .seq (
  .ops [⟨(some 34), .load (some 4) (.t 2), none⟩, ⟨(some 35), .call (.c (.fn (f_graph_typed N) [] [])) [(.t 34)], none⟩, ⟨(some 7), .new (t_api_TypeNode N) (.agg [(.lit (.int .i64 0)), (.lit (.int .i64 0)), (.lit (.string (mkS []))), (.lit (.slice none 0 0)), (.lit (.slice none 0 0)), (.lit (.bool false))]), none⟩, ⟨none, .store 6 (.t 7) (.t 35), none⟩]) (
 .seq (
  .ops [⟨(some 36), .build [(.lit (.int .i64 0)), (.lit (.int .i64 0)), (.lit (.string (mkS []))), (.lit (.int .i64 0)), (.lit (.int .u64 0)), (.lit (.slice none 0 0)), (.lit (.slice none 0 0)), (.lit (.slice none 0 0))] [(0, 1, (.c (.lit (.int .i64 1))))], none⟩, ⟨(some 37), .bslice (t_int N) 1 none 1 [(.lit (.int .i64 0))] [(0, 1, (.c (.lit (.int .i64 0))))], none⟩, ⟨(some 38), .faddr 2 (.t 2), none⟩, ⟨(some 39), .load none (.t 38), none⟩, ⟨(some 40), .len (.t 39), none⟩, ⟨(some 41), .bslice (t_int N) 1 none 1 [(.lit (.int .i64 0))] [(0, 1, (.t 40))], none⟩, ⟨(some 42), .build [(.lit (.int .i64 0)), (.lit (.int .i64 0)), (.lit (.string (mkS []))), (.lit (.int .i64 0)), (.lit (.int .u64 0)), (.lit (.slice none 0 0)), (.lit (.slice none 0 0)), (.lit (.slice none 0 0))] [(0, 1, (.c (.lit (.int .i64 15)))), (6, 1, (.t 37)), (7, 1, (.t 41))], none⟩, ⟨(some 43), .bslice (t_api_Node N) 8 (some 8) 2 [(.lit (.int .i64 0)), (.lit (.int .i64 0)), (.lit (.string (mkS []))), (.lit (.int .i64 0)), (.lit (.int .u64 0)), (.lit (.slice none 0 0)), (.lit (.slice none 0 0)), (.lit (.slice none 0 0))] [(0, 8, (.t 36)), (8, 8, (.t 42))], none⟩, ⟨(some 44), .build [(.lit (.slice none 0 0)), (.lit (.slice none 0 0)), (.lit (.slice none 0 0))] [(0, 1, (.t 43))], none⟩, ⟨(some 8), .new (t_api_Tree N) (.agg [(.lit (.slice none 0 0)), (.lit (.slice none 0 0)), (.lit (.slice none 0 0))]), none⟩, ⟨none, .store 3 (.t 8) (.t 44), none⟩]) (
 .seq (
  .ops [⟨(some 45), .faddr 4 (.t 7), none⟩, ⟨none, .store 1 (.t 45) (.c (.lit (.slice none 0 0))), none⟩]) (
 .seq (
  .seq (
   .ops [⟨(some 46), .faddr 2 (.t 2), none⟩, ⟨(some 47), .load none (.t 46), none⟩, ⟨(some 48), .len (.t 47), none⟩, ⟨(some 49), .mov (.c (.lit (.int .i64 0))), none⟩]) (
  .block 2 (
   .loop (L_graph_head_2 N)))) (K_graph_head_2 N))))
/-- azimuth/graph.head -/
def C_graph_head (N : Nat → Nat) : AFunc := ⟨74, [.inl 4],
 .seq (
  .ops [⟨(some 2), .box (t_api_Head N) (.t 0), none⟩, ⟨(some 4), .mov (.c (.lit (.bool false))), none⟩]) (
 .seq (
  .seq (
   .ops [⟨(some 10), .faddr 0 (.t 2), none⟩, ⟨(some 11), .load none (.t 10), none⟩, ⟨(some 12), .eq false .pint (.t 11) (.c (.lit (.int .i64 10))), none⟩, ⟨(some 13), .mov (.t 12), none⟩, ⟨(some 14), .faddr 1 (.t 2), (some (13, false))⟩, ⟨(some 15), .load none (.t 14), (some (13, false))⟩, ⟨(some 16), .call (.c (.fn (f_graph_rising N) [] [])) [(.t 15)], (some (13, false))⟩, ⟨(some 17), .un .not (.t 16), (some (13, false))⟩, ⟨(some 18), .pick (.t 13) (.c (.lit (.bool true))) (.t 17), none⟩]) (
  .cond (.t 18) (
   .seq (
    .ops [⟨(some 4), .mov (.c (.lit (.bool false))), none⟩]) (
   .ret)) (
   .skip))) (
 .seq (
  .seq (
   .ops [⟨(some 19), .faddr 2 (.t 2), none⟩, ⟨(some 20), .load none (.t 19), none⟩, ⟨(some 21), .len (.t 20), none⟩, ⟨(some 22), .mov (.c (.lit (.int .i64 0))), none⟩]) (
  .block 0 (
   .loop (L_graph_head_1 N)))) (K_graph_head_1 N))), false⟩

def L_graph_rising_1 (N : Nat → Nat) : AC :=
    .seq (
     .seq (
      .ops [⟨(some 4), .mov (.t 3), none⟩, ⟨(some 5), .mov (.t 0), none⟩, ⟨(some 6), .len (.t 5), none⟩, ⟨(some 7), .bin .lss (.t 4) (.t 6), none⟩]) (
     .cond (.t 7) (
      .skip) (
      .exit 0))) (
    .seq (
     .block 1 (
      .seq (
       .dops 4 [⟨(some 10), .mov (.t 0), none⟩, ⟨(some 11), .mov (.t 3), none⟩, ⟨(some 12), .bin .sub (.t 11) (.c (.lit (.int .i64 1))), none⟩, ⟨(some 13), .iaddr 1 (.t 10) (.t 12), none⟩, ⟨(some 14), .load none (.t 13), none⟩, ⟨(some 15), .mov (.t 0), none⟩, ⟨(some 16), .mov (.t 3), none⟩, ⟨(some 17), .iaddr 1 (.t 15) (.t 16), none⟩, ⟨(some 18), .load none (.t 17), none⟩, ⟨(some 19), .bin .geq (.t 14) (.t 18), none⟩] [0, 0, 0, 0, 2, 0, 0, 0, 2, 0] []) (
      .cond (.t 19) (
       .seq (
        .ops [⟨(some 2), .mov (.c (.lit (.bool false))), none⟩]) (
       .ret)) (
       .skip)))) (
    .ops [⟨(some 8), .mov (.t 3), none⟩, ⟨(some 9), .bin .add (.t 8) (.c (.lit (.int .i64 1))), none⟩, ⟨(some 3), .mov (.t 9), none⟩]))
def K_graph_rising_1 (N : Nat → Nat) : AC :=
 .seq (
  .ops [⟨(some 2), .mov (.c (.lit (.bool true))), none⟩]) (
 .ret)
/-- azimuth/graph.rising -/
def C_graph_rising (N : Nat → Nat) : AFunc := ⟨20, [.inl 2],
 .seq (
  .ops [⟨(some 2), .mov (.c (.lit (.bool false))), none⟩]) (
 .seq (
  .seq (
   .ops [⟨(some 3), .mov (.c (.lit (.int .i64 1))), none⟩]) (
  .block 0 (
   .loop (L_graph_rising_1 N)))) (K_graph_rising_1 N)), false⟩

/-- azimuth/graph.typed -/
def C_graph_typed (N : Nat → Nat) : AFunc := ⟨12, [.inr (2, (some 6))],
 .seq (
  .ops [⟨(some 1), .box (t_api_Head N) (.t 0), none⟩, ⟨(some 2), .new (t_api_TypeNode N) (.agg [(.lit (.int .i64 0)), (.lit (.int .i64 0)), (.lit (.string (mkS []))), (.lit (.slice none 0 0)), (.lit (.slice none 0 0)), (.lit (.bool false))]), none⟩]) (
 .seq (
  .ops [⟨(some 3), .faddr 0 (.t 1), none⟩, ⟨(some 4), .load none (.t 3), none⟩, ⟨(some 5), .faddr 1 (.t 1), none⟩, ⟨(some 6), .load none (.t 5), none⟩, ⟨(some 7), .faddr 2 (.t 1), none⟩, ⟨(some 8), .load none (.t 7), none⟩, ⟨(some 9), .faddr 3 (.t 1), none⟩, ⟨(some 10), .load none (.t 9), none⟩, ⟨(some 11), .build [(.lit (.int .i64 0)), (.lit (.int .i64 0)), (.lit (.string (mkS []))), (.lit (.slice none 0 0)), (.lit (.slice none 0 0)), (.lit (.bool false))] [(0, 1, (.t 4)), (3, 1, (.t 6)), (4, 1, (.t 8)), (5, 1, (.t 10))], none⟩, ⟨none, .store 6 (.t 2) (.t 11), none⟩]) (
 .ret)), false⟩
end Go.Proofs.Eng
/- Templates of functions, as the engine takes them; numbers of functions and types by names. Printed by tm.py. -/
set_option linter.unusedVariables false
set_option maxRecDepth 100000
namespace Go.Proofs.Eng
open Go

/-- (*azimuth/arena.Arena).At -/
def C_p_arena_Arena_At (N : Nat → Nat) : AFunc := ⟨30, [.inr (4, (some 4)), .inl 5],
 .seq (
  .ops [⟨(some 4), .new (t_api_Head N) (.agg [(.lit (.int .i64 0)), (.lit (.slice none 0 0)), (.lit (.slice none 0 0)), (.lit (.bool false))]), none⟩, ⟨(some 5), .mov (.c (.lit (.bool false))), none⟩]) (
 .seq (
  .seq (
   .ops [⟨(some 6), .mov (.t 0), none⟩, ⟨(some 7), .mov (.t 1), none⟩, ⟨(some 8), .call (.c (.fn (f_p_arena_Arena_there N) [] [])) [(.t 6), (.t 7)], none⟩, ⟨(some 9), .un .not (.t 8), none⟩, ⟨(some 10), .mov (.t 9), none⟩, ⟨(some 11), .mov (.t 0), (some (10, false))⟩, ⟨(some 12), .nilchk (.t 11), (some (10, false))⟩, ⟨(some 13), .faddr 0 (.t 12), (some (10, false))⟩, ⟨(some 14), .load none (.t 13), (some (10, false))⟩, ⟨(some 15), .mov (.t 1), (some (10, false))⟩, ⟨(some 16), .iaddr 9 (.t 14) (.t 15), (some (10, false))⟩, ⟨(some 17), .faddr 4 (.t 16), (some (10, false))⟩, ⟨(some 18), .load none (.t 17), (some (10, false))⟩, ⟨(some 19), .pick (.t 10) (.c (.lit (.bool true))) (.t 18), none⟩]) (
  .cond (.t 19) (
   .seq (
    .ops [⟨(some 20), .build [(.lit (.int .i64 0)), (.lit (.slice none 0 0)), (.lit (.slice none 0 0)), (.lit (.bool false))] [], none⟩, ⟨none, .store 4 (.t 4) (.t 20), none⟩, ⟨(some 5), .mov (.c (.lit (.bool false))), none⟩]) (
   .ret)) (
   .skip))) (
 .seq (
  .ops [⟨(some 21), .mov (.t 0), none⟩, ⟨(some 22), .nilchk (.t 21), none⟩, ⟨(some 23), .faddr 0 (.t 22), none⟩, ⟨(some 24), .load none (.t 23), none⟩, ⟨(some 25), .mov (.t 1), none⟩, ⟨(some 26), .iaddr 9 (.t 24) (.t 25), none⟩, ⟨(some 27), .faddr 0 (.t 26), none⟩, ⟨(some 28), .load (some 4) (.t 27), none⟩, ⟨(some 29), .call (.c (.fn (f_arena_clone N) [] [])) [(.t 28)], none⟩, ⟨none, .store 4 (.t 4) (.t 29), none⟩, ⟨(some 5), .mov (.c (.lit (.bool true))), none⟩]) (
 .ret))), false⟩

/-- (*azimuth/arena.Arena).Bound -/
def C_p_arena_Arena_Bound (N : Nat → Nat) : AFunc := ⟨65, [.inl 8, .inl 9],
 .seq (
  .ops [⟨(some 8), .mov (.c (.lit (.bool false))), none⟩, ⟨(some 9), .mov (.c (.lit (.int .i64 0))), none⟩]) (
 .seq (
  .seq (
   .ops [⟨(some 12), .mov (.t 0), none⟩, ⟨(some 13), .mov (.t 1), none⟩, ⟨(some 14), .call (.c (.fn (f_p_arena_Arena_IsVar N) [] [])) [(.t 12), (.t 13)], none⟩, ⟨(some 15), .un .not (.t 14), none⟩, ⟨(some 16), .mov (.t 15), none⟩, ⟨(some 17), .mov (.t 0), (some (16, false))⟩, ⟨(some 18), .mov (.t 2), (some (16, false))⟩, ⟨(some 19), .call (.c (.fn (f_p_arena_Arena_there N) [] [])) [(.t 17), (.t 18)], (some (16, false))⟩, ⟨(some 20), .un .not (.t 19), (some (16, false))⟩, ⟨(some 21), .pick (.t 16) (.c (.lit (.bool true))) (.t 20), none⟩]) (
  .cond (.t 21) (
   .seq (
    .ops [⟨(some 8), .mov (.c (.lit (.bool false))), none⟩, ⟨(some 9), .mov (.c (.lit (.int .i64 1))), none⟩]) (
   .ret)) (
   .skip))) (
 .seq (
  .ops [⟨(some 22), .mov (.t 0), none⟩, ⟨(some 23), .nilchk (.t 22), none⟩, ⟨(some 24), .faddr 0 (.t 23), none⟩, ⟨(some 25), .load none (.t 24), none⟩, ⟨(some 26), .mov (.t 1), none⟩, ⟨(some 27), .iaddr 9 (.t 25) (.t 26), none⟩, ⟨(some 10), .mov (.t 27), none⟩]) (
 .seq (
  .ops [⟨(some 28), .mov (.t 2), none⟩, ⟨(some 11), .mov (.t 28), none⟩]) (
 .seq (
  .seq (
   .ops [⟨(some 29), .mov (.t 3), none⟩]) (
  .cond (.t 29) (
   .ops [⟨(some 30), .mov (.t 2), none⟩, ⟨(some 31), .un .neg (.t 30), none⟩, ⟨(some 32), .bin .sub (.t 31) (.c (.lit (.int .i64 1))), none⟩, ⟨(some 11), .mov (.t 32), none⟩]) (
   .skip))) (
 .seq (
  .seq (
   .ops [⟨(some 33), .mov (.t 10), none⟩, ⟨(some 34), .nilchk (.t 33), none⟩, ⟨(some 35), .faddr 8 (.t 34), none⟩, ⟨(some 36), .load none (.t 35), none⟩, ⟨(some 37), .mov (.t 11), none⟩, ⟨(some 38), .lookup (.int .i64) (.lit (.bool false)) (.t 36) (.t 37) false, none⟩]) (
  .cond (.t 38) (
   .seq (
    .ops [⟨(some 8), .mov (.c (.lit (.bool false))), none⟩, ⟨(some 9), .mov (.c (.lit (.int .i64 0))), none⟩]) (
   .ret)) (
   .skip))) (
 .seq (
  .ops [⟨(some 39), .mov (.t 10), none⟩, ⟨(some 40), .nilchk (.t 39), none⟩, ⟨(some 41), .faddr 8 (.t 40), none⟩, ⟨(some 42), .load none (.t 41), none⟩, ⟨(some 43), .mov (.t 11), none⟩, ⟨none, .mapupd (.int .i64) (.t 42) (.t 43) (.c (.lit (.bool true))), none⟩]) (
 .seq (
  .seq (
   .ops [⟨(some 44), .mov (.t 3), none⟩]) (
  .cond (.t 44) (
   .ops [⟨(some 45), .mov (.t 10), none⟩, ⟨(some 46), .mov (.t 10), none⟩, ⟨(some 47), .nilchk (.t 46), none⟩, ⟨(some 48), .faddr 7 (.t 47), none⟩, ⟨(some 49), .load none (.t 48), none⟩, ⟨(some 50), .mov (.t 2), none⟩, ⟨(some 51), .bslice (t_int N) 1 none 1 [(.lit (.int .i64 0))] [(0, 1, (.t 50))], none⟩, ⟨(some 52), .append (t_int N) 1 8 (.t 49) (.t 51), none⟩, ⟨(some 53), .nilchk (.t 45), none⟩, ⟨(some 54), .faddr 7 (.t 53), none⟩, ⟨none, .store 1 (.t 54) (.t 52), none⟩]) (
   .ops [⟨(some 55), .mov (.t 10), none⟩, ⟨(some 56), .mov (.t 10), none⟩, ⟨(some 57), .nilchk (.t 56), none⟩, ⟨(some 58), .faddr 6 (.t 57), none⟩, ⟨(some 59), .load none (.t 58), none⟩, ⟨(some 60), .mov (.t 2), none⟩, ⟨(some 61), .bslice (t_int N) 1 none 1 [(.lit (.int .i64 0))] [(0, 1, (.t 60))], none⟩, ⟨(some 62), .append (t_int N) 1 8 (.t 59) (.t 61), none⟩, ⟨(some 63), .nilchk (.t 55), none⟩, ⟨(some 64), .faddr 6 (.t 63), none⟩, ⟨none, .store 1 (.t 64) (.t 62), none⟩]))) (
 .seq (
  .ops [⟨(some 8), .mov (.c (.lit (.bool true))), none⟩, ⟨(some 9), .mov (.c (.lit (.int .i64 0))), none⟩]) (
 .ret))))))))), false⟩

def L_p_arena_Arena_Head_1 (N : Nat → Nat) : AC :=
    .seq (
     .ops [⟨(some 30), .bin .lss (.t 29) (.t 28), none⟩]) (
    .seq (
     .cond (.t 30) (
      .skip) (
      .exit 1)) (
    .seq (
     .block 2 (
      .seq (
       .ops [⟨(some 31), .iaddr 1 (.t 27) (.t 29), none⟩, ⟨(some 32), .load none (.t 31), none⟩, ⟨(some 9), .mov (.t 32), none⟩]) (
      .dops 12 [⟨(some 33), .faddr 5 (.t 7), none⟩, ⟨(some 34), .load none (.t 33), none⟩, ⟨(some 35), .mov (.t 0), none⟩, ⟨(some 36), .nilchk (.t 35), none⟩, ⟨(some 37), .faddr 0 (.t 36), none⟩, ⟨(some 38), .load none (.t 37), none⟩, ⟨(some 39), .mov (.t 9), none⟩, ⟨(some 40), .iaddr 9 (.t 38) (.t 39), none⟩, ⟨(some 41), .faddr 5 (.t 40), none⟩, ⟨(some 42), .load none (.t 41), none⟩, ⟨(some 43), .mnmx true [(.t 34), (.t 42)], none⟩, ⟨(some 44), .faddr 5 (.t 7), none⟩, ⟨none, .store 1 (.t 44) (.t 43), none⟩] [0, 2, 0, 0, 0, 2, 0, 0, 0, 2, 0, 0, 0] []))) (
    .ops [⟨(some 45), .bin .add (.t 29) (.c (.lit (.int .i64 1))), none⟩, ⟨(some 29), .mov (.t 45), none⟩])))
def K_p_arena_Arena_Head_1 (N : Nat → Nat) : AC :=
 .seq (
  .dops 14 [⟨(some 46), .mov (.t 0), none⟩, ⟨(some 47), .mov (.t 0), none⟩, ⟨(some 48), .nilchk (.t 47), none⟩, ⟨(some 49), .faddr 0 (.t 48), none⟩, ⟨(some 50), .load none (.t 49), none⟩, ⟨(some 51), .load (some 9) (.t 7), none⟩, ⟨(some 52), .bslice (t_arena_part N) 9 (some 9) 1 [(.lit (.int .i64 0)), (.lit (.slice none 0 0)), (.lit (.slice none 0 0)), (.lit (.bool false)), (.lit (.bool false)), (.lit (.int .i64 0)), (.lit (.slice none 0 0)), (.lit (.slice none 0 0)), (.lit (.map none))] [(0, 9, (.t 51))], none⟩, ⟨(some 53), .append (t_arena_part N) 9 136 (.t 50) (.t 52), none⟩, ⟨(some 54), .nilchk (.t 46), none⟩, ⟨(some 55), .faddr 0 (.t 54), none⟩, ⟨none, .store 1 (.t 55) (.t 53), none⟩] [0, 0, 0, 0, 2, 2, 1, 0, 0, 0, 0] []) (
 .seq (
  .ops [⟨(some 56), .mov (.t 0), none⟩, ⟨(some 57), .nilchk (.t 56), none⟩, ⟨(some 58), .faddr 0 (.t 57), none⟩, ⟨(some 59), .load none (.t 58), none⟩, ⟨(some 60), .len (.t 59), none⟩, ⟨(some 61), .bin .sub (.t 60) (.c (.lit (.int .i64 1))), none⟩, ⟨(some 4), .mov (.t 61), none⟩, ⟨(some 5), .mov (.c (.lit (.int .i64 0))), none⟩]) (
 .ret))
/-- (*azimuth/arena.Arena).Head -/
def C_p_arena_Arena_Head (N : Nat → Nat) : AFunc := ⟨62, [.inl 4, .inl 5],
 .seq (
  .ops [⟨(some 3), .box (t_api_Head N) (.t 1), none⟩, ⟨(some 4), .mov (.c (.lit (.int .i64 0))), none⟩, ⟨(some 5), .mov (.c (.lit (.int .i64 0))), none⟩]) (
 .seq (
  .block 0 (
   .seq (
    .ops [⟨(some 11), .mov (.t 0), none⟩, ⟨(some 12), .eq false .pptr (.t 11) (.c (.lit (.pointer none))), none⟩, ⟨(some 10), .mov (.t 12), none⟩]) (
   .cond (.t 10) (
    .seq (
     .ops [⟨(some 4), .mov (.c (.lit (.int .i64 0))), none⟩, ⟨(some 5), .mov (.c (.lit (.int .i64 1))), none⟩]) (
    .ret)) (
    .seq (
     .ops [⟨(some 14), .mov (.t 0), none⟩, ⟨(some 15), .load (some 4) (.t 3), none⟩, ⟨(some 16), .call (.c (.fn (f_p_arena_Arena_right N) [] [])) [(.t 14), (.t 15)], none⟩, ⟨(some 17), .un .not (.t 16), none⟩, ⟨(some 13), .mov (.t 17), none⟩]) (
    .cond (.t 13) (
     .seq (
      .ops [⟨(some 4), .mov (.c (.lit (.int .i64 0))), none⟩, ⟨(some 5), .mov (.c (.lit (.int .i64 14))), none⟩]) (
     .ret)) (
     .skip)))))) (
 .seq (
  .seq (
   .ops [⟨(some 18), .mov (.t 0), none⟩, ⟨(some 19), .call (.c (.fn (f_p_arena_Arena_room N) [] [])) [(.t 18), (.c (.lit (.int .i64 1)))], none⟩, ⟨(some 6), .mov (.t 19), none⟩]) (
  .seq (
   .ops [⟨(some 20), .mov (.t 6), none⟩, ⟨(some 21), .eq true .pint (.t 20) (.c (.lit (.int .i64 0))), none⟩]) (
  .cond (.t 21) (
   .seq (
    .ops [⟨(some 22), .mov (.t 6), none⟩, ⟨(some 4), .mov (.c (.lit (.int .i64 0))), none⟩, ⟨(some 5), .mov (.t 22), none⟩]) (
   .ret)) (
   .skip)))) (
 .seq (
  .ops [⟨(some 23), .load (some 4) (.t 3), none⟩, ⟨(some 24), .call (.c (.fn (f_arena_clone N) [] [])) [(.t 23)], none⟩, ⟨(some 25), .build [(.lit (.int .i64 0)), (.lit (.slice none 0 0)), (.lit (.slice none 0 0)), (.lit (.bool false)), (.lit (.bool false)), (.lit (.int .i64 0)), (.lit (.slice none 0 0)), (.lit (.slice none 0 0)), (.lit (.map none))] [(0, 4, (.t 24))], none⟩, ⟨(some 7), .new (t_arena_part N) (.agg [(.lit (.int .i64 0)), (.lit (.slice none 0 0)), (.lit (.slice none 0 0)), (.lit (.bool false)), (.lit (.bool false)), (.lit (.int .i64 0)), (.lit (.slice none 0 0)), (.lit (.slice none 0 0)), (.lit (.map none))]), none⟩, ⟨none, .store 9 (.t 7) (.t 25), none⟩]) (
 .seq (
  .seq (
   .ops [⟨(some 26), .faddr 2 (.t 3), none⟩, ⟨(some 27), .load none (.t 26), none⟩, ⟨(some 28), .len (.t 27), none⟩, ⟨(some 29), .mov (.c (.lit (.int .i64 0))), none⟩]) (
  .block 1 (
   .loop (L_p_arena_Arena_Head_1 N)))) (K_p_arena_Arena_Head_1 N))))), false⟩

/-- (*azimuth/arena.Arena).High -/
def C_p_arena_Arena_High (N : Nat → Nat) : AFunc := ⟨18, [.inl 4],
 .seq (
  .ops [⟨(some 4), .mov (.c (.lit (.slice none 0 0))), none⟩]) (
 .seq (
  .seq (
   .ops [⟨(some 5), .mov (.t 0), none⟩, ⟨(some 6), .mov (.t 1), none⟩, ⟨(some 7), .call (.c (.fn (f_p_arena_Arena_IsVar N) [] [])) [(.t 5), (.t 6)], none⟩, ⟨(some 8), .un .not (.t 7), none⟩]) (
  .cond (.t 8) (
   .seq (
    .ops [⟨(some 4), .mov (.c (.lit (.slice none 0 0))), none⟩]) (
   .ret)) (
   .skip))) (
 .seq (
  .ops [⟨(some 9), .mov (.t 0), none⟩, ⟨(some 10), .nilchk (.t 9), none⟩, ⟨(some 11), .faddr 0 (.t 10), none⟩, ⟨(some 12), .load none (.t 11), none⟩, ⟨(some 13), .mov (.t 1), none⟩, ⟨(some 14), .iaddr 9 (.t 12) (.t 13), none⟩, ⟨(some 15), .faddr 7 (.t 14), none⟩, ⟨(some 16), .load none (.t 15), none⟩, ⟨(some 17), .call (.c (.fn (f_slices_Clone_sl_int_int N) [] [])) [(.t 16)], none⟩, ⟨(some 4), .mov (.t 17), none⟩]) (
 .ret))), false⟩

/-- (*azimuth/arena.Arena).IsVar -/
def C_p_arena_Arena_IsVar (N : Nat → Nat) : AFunc := ⟨18, [.inl 4],
 .seq (
  .ops [⟨(some 4), .mov (.c (.lit (.bool false))), none⟩]) (
 .seq (
  .ops [⟨(some 5), .mov (.t 0), none⟩, ⟨(some 6), .mov (.t 1), none⟩, ⟨(some 7), .call (.c (.fn (f_p_arena_Arena_there N) [] [])) [(.t 5), (.t 6)], none⟩, ⟨(some 8), .mov (.t 7), none⟩, ⟨(some 9), .mov (.t 0), (some (8, true))⟩, ⟨(some 10), .nilchk (.t 9), (some (8, true))⟩, ⟨(some 11), .faddr 0 (.t 10), (some (8, true))⟩, ⟨(some 12), .load none (.t 11), (some (8, true))⟩, ⟨(some 13), .mov (.t 1), (some (8, true))⟩, ⟨(some 14), .iaddr 9 (.t 12) (.t 13), (some (8, true))⟩, ⟨(some 15), .faddr 4 (.t 14), (some (8, true))⟩, ⟨(some 16), .load none (.t 15), (some (8, true))⟩, ⟨(some 17), .pick (.t 8) (.t 16) (.c (.lit (.bool false))), none⟩, ⟨(some 4), .mov (.t 17), none⟩]) (
 .ret)), false⟩

/-- (*azimuth/arena.Arena).Len -/
def C_p_arena_Arena_Len (N : Nat → Nat) : AFunc := ⟨10, [.inl 2],
 .seq (
  .ops [⟨(some 2), .mov (.c (.lit (.int .i64 0))), none⟩]) (
 .seq (
  .seq (
   .ops [⟨(some 3), .mov (.t 0), none⟩, ⟨(some 4), .eq false .pptr (.t 3) (.c (.lit (.pointer none))), none⟩]) (
  .cond (.t 4) (
   .seq (
    .ops [⟨(some 2), .mov (.c (.lit (.int .i64 0))), none⟩]) (
   .ret)) (
   .skip))) (
 .seq (
  .ops [⟨(some 5), .mov (.t 0), none⟩, ⟨(some 6), .nilchk (.t 5), none⟩, ⟨(some 7), .faddr 0 (.t 6), none⟩, ⟨(some 8), .load none (.t 7), none⟩, ⟨(some 9), .len (.t 8), none⟩, ⟨(some 2), .mov (.t 9), none⟩]) (
 .ret))), false⟩

/-- (*azimuth/arena.Arena).Level -/
def C_p_arena_Arena_Level (N : Nat → Nat) : AFunc := ⟨17, [.inl 4],
 .seq (
  .ops [⟨(some 4), .mov (.c (.lit (.int .i64 0))), none⟩]) (
 .seq (
  .seq (
   .ops [⟨(some 5), .mov (.t 0), none⟩, ⟨(some 6), .mov (.t 1), none⟩, ⟨(some 7), .call (.c (.fn (f_p_arena_Arena_there N) [] [])) [(.t 5), (.t 6)], none⟩, ⟨(some 8), .un .not (.t 7), none⟩]) (
  .cond (.t 8) (
   .seq (
    .ops [⟨(some 4), .mov (.c (.lit (.int .i64 0))), none⟩]) (
   .ret)) (
   .skip))) (
 .seq (
  .ops [⟨(some 9), .mov (.t 0), none⟩, ⟨(some 10), .nilchk (.t 9), none⟩, ⟨(some 11), .faddr 0 (.t 10), none⟩, ⟨(some 12), .load none (.t 11), none⟩, ⟨(some 13), .mov (.t 1), none⟩, ⟨(some 14), .iaddr 9 (.t 12) (.t 13), none⟩, ⟨(some 15), .faddr 5 (.t 14), none⟩, ⟨(some 16), .load none (.t 15), none⟩, ⟨(some 4), .mov (.t 16), none⟩]) (
 .ret))), false⟩

/-- (*azimuth/arena.Arena).Low -/
def C_p_arena_Arena_Low (N : Nat → Nat) : AFunc := ⟨18, [.inl 4],
 .seq (
  .ops [⟨(some 4), .mov (.c (.lit (.slice none 0 0))), none⟩]) (
 .seq (
  .seq (
   .ops [⟨(some 5), .mov (.t 0), none⟩, ⟨(some 6), .mov (.t 1), none⟩, ⟨(some 7), .call (.c (.fn (f_p_arena_Arena_IsVar N) [] [])) [(.t 5), (.t 6)], none⟩, ⟨(some 8), .un .not (.t 7), none⟩]) (
  .cond (.t 8) (
   .seq (
    .ops [⟨(some 4), .mov (.c (.lit (.slice none 0 0))), none⟩]) (
   .ret)) (
   .skip))) (
 .seq (
  .ops [⟨(some 9), .mov (.t 0), none⟩, ⟨(some 10), .nilchk (.t 9), none⟩, ⟨(some 11), .faddr 0 (.t 10), none⟩, ⟨(some 12), .load none (.t 11), none⟩, ⟨(some 13), .mov (.t 1), none⟩, ⟨(some 14), .iaddr 9 (.t 12) (.t 13), none⟩, ⟨(some 15), .faddr 6 (.t 14), none⟩, ⟨(some 16), .load none (.t 15), none⟩, ⟨(some 17), .call (.c (.fn (f_slices_Clone_sl_int_int N) [] [])) [(.t 16)], none⟩, ⟨(some 4), .mov (.t 17), none⟩]) (
 .ret))), false⟩

/-- (*azimuth/arena.Arena).Var -/
def C_p_arena_Arena_Var (N : Nat → Nat) : AFunc := ⟨36, [.inl 4, .inl 5],
 .seq (
  .ops [⟨(some 4), .mov (.c (.lit (.int .i64 0))), none⟩, ⟨(some 5), .mov (.c (.lit (.int .i64 0))), none⟩]) (
 .seq (
  .seq (
   .ops [⟨(some 7), .mov (.t 0), none⟩, ⟨(some 8), .eq false .pptr (.t 7) (.c (.lit (.pointer none))), none⟩, ⟨(some 9), .mov (.t 8), none⟩, ⟨(some 10), .mov (.t 1), (some (9, false))⟩, ⟨(some 11), .bin .lss (.t 10) (.c (.lit (.int .i64 0))), (some (9, false))⟩, ⟨(some 12), .pick (.t 9) (.c (.lit (.bool true))) (.t 11), none⟩]) (
  .cond (.t 12) (
   .seq (
    .ops [⟨(some 4), .mov (.c (.lit (.int .i64 0))), none⟩, ⟨(some 5), .mov (.c (.lit (.int .i64 1))), none⟩]) (
   .ret)) (
   .skip))) (
 .seq (
  .seq (
   .ops [⟨(some 13), .mov (.t 0), none⟩, ⟨(some 14), .call (.c (.fn (f_p_arena_Arena_room N) [] [])) [(.t 13), (.c (.lit (.int .i64 1)))], none⟩, ⟨(some 6), .mov (.t 14), none⟩]) (
  .seq (
   .ops [⟨(some 15), .mov (.t 6), none⟩, ⟨(some 16), .eq true .pint (.t 15) (.c (.lit (.int .i64 0))), none⟩]) (
  .cond (.t 16) (
   .seq (
    .ops [⟨(some 17), .mov (.t 6), none⟩, ⟨(some 4), .mov (.c (.lit (.int .i64 0))), none⟩, ⟨(some 5), .mov (.t 17), none⟩]) (
   .ret)) (
   .skip)))) (
 .seq (
  .ops [⟨(some 18), .mov (.t 0), none⟩, ⟨(some 19), .mov (.t 0), none⟩, ⟨(some 20), .nilchk (.t 19), none⟩, ⟨(some 21), .faddr 0 (.t 20), none⟩, ⟨(some 22), .load none (.t 21), none⟩, ⟨(some 23), .mov (.t 1), none⟩, ⟨(some 24), .mkmap, none⟩, ⟨(some 25), .build [(.lit (.int .i64 0)), (.lit (.slice none 0 0)), (.lit (.slice none 0 0)), (.lit (.bool false)), (.lit (.bool false)), (.lit (.int .i64 0)), (.lit (.slice none 0 0)), (.lit (.slice none 0 0)), (.lit (.map none))] [(4, 1, (.c (.lit (.bool true)))), (5, 1, (.t 23)), (8, 1, (.t 24))], none⟩, ⟨(some 26), .bslice (t_arena_part N) 9 (some 9) 1 [(.lit (.int .i64 0)), (.lit (.slice none 0 0)), (.lit (.slice none 0 0)), (.lit (.bool false)), (.lit (.bool false)), (.lit (.int .i64 0)), (.lit (.slice none 0 0)), (.lit (.slice none 0 0)), (.lit (.map none))] [(0, 9, (.t 25))], none⟩, ⟨(some 27), .append (t_arena_part N) 9 136 (.t 22) (.t 26), none⟩, ⟨(some 28), .nilchk (.t 18), none⟩, ⟨(some 29), .faddr 0 (.t 28), none⟩, ⟨none, .store 1 (.t 29) (.t 27), none⟩]) (
 .seq (
  .ops [⟨(some 30), .mov (.t 0), none⟩, ⟨(some 31), .nilchk (.t 30), none⟩, ⟨(some 32), .faddr 0 (.t 31), none⟩, ⟨(some 33), .load none (.t 32), none⟩, ⟨(some 34), .len (.t 33), none⟩, ⟨(some 35), .bin .sub (.t 34) (.c (.lit (.int .i64 1))), none⟩, ⟨(some 4), .mov (.t 35), none⟩, ⟨(some 5), .mov (.c (.lit (.int .i64 0))), none⟩]) (
 .ret))))), false⟩

def L_p_arena_Arena_right_1 (N : Nat → Nat) : AC :=
    .seq (
     .ops [⟨(some 21), .bin .lss (.t 20) (.t 19), none⟩]) (
    .seq (
     .cond (.t 21) (
      .skip) (
      .exit 0)) (
    .seq (
     .block 1 (
      .seq (
       .ops [⟨(some 22), .iaddr 1 (.t 18) (.t 20), none⟩, ⟨(some 23), .load none (.t 22), none⟩, ⟨(some 7), .mov (.t 23), none⟩]) (
      .seq (
       .seq (
        .ops [⟨(some 24), .mov (.t 7), none⟩, ⟨(some 25), .bin .lss (.t 24) (.c (.lit (.int .i64 0))), none⟩, ⟨(some 26), .mov (.t 25), none⟩, ⟨(some 27), .mov (.t 7), (some (26, false))⟩, ⟨(some 28), .mov (.t 0), (some (26, false))⟩, ⟨(some 29), .nilchk (.t 28), (some (26, false))⟩, ⟨(some 30), .faddr 0 (.t 29), (some (26, false))⟩, ⟨(some 31), .load none (.t 30), (some (26, false))⟩, ⟨(some 32), .len (.t 31), (some (26, false))⟩, ⟨(some 33), .bin .geq (.t 27) (.t 32), (some (26, false))⟩, ⟨(some 34), .pick (.t 26) (.c (.lit (.bool true))) (.t 33), none⟩]) (
       .cond (.t 34) (
        .seq (
         .ops [⟨(some 4), .mov (.c (.lit (.bool false))), none⟩]) (
        .ret)) (
        .skip))) (
      .dops 7 [⟨(some 35), .faddr 0 (.t 5), none⟩, ⟨(some 36), .load none (.t 35), none⟩, ⟨(some 37), .faddr 0 (.t 5), none⟩, ⟨(some 38), .load none (.t 37), none⟩, ⟨(some 39), .iaddr 4 (.t 38) (.c (.lit (.int .i64 0))), none⟩, ⟨(some 40), .faddr 2 (.t 39), none⟩, ⟨(some 41), .load none (.t 40), none⟩, ⟨(some 42), .bslice (t_int N) 1 none 1 [(.lit (.int .i64 0))] [(0, 1, (.c (.lit (.int .i64 0))))], none⟩, ⟨(some 43), .append (t_int N) 1 8 (.t 41) (.t 42), none⟩, ⟨(some 44), .iaddr 4 (.t 36) (.c (.lit (.int .i64 0))), none⟩, ⟨(some 45), .faddr 2 (.t 44), none⟩, ⟨none, .store 1 (.t 45) (.t 43), none⟩] [0, 2, 0, 2, 0, 0, 2, 1, 3, 0, 0, 0] [])))) (
    .ops [⟨(some 46), .bin .add (.t 20) (.c (.lit (.int .i64 1))), none⟩, ⟨(some 20), .mov (.t 46), none⟩])))
def K_p_arena_Arena_right_1 (N : Nat → Nat) : AC :=
 .seq (
  .ops [⟨(some 47), .load (some 2) (.t 5), none⟩, ⟨(some 48), .call (.c (.fn (f_graph_Check N) [] [])) [(.t 47)], none⟩, ⟨(some 49), .eq false .pint (.t 48) (.c (.lit (.int .i64 0))), none⟩, ⟨(some 4), .mov (.t 49), none⟩]) (
 .ret)
/-- (*azimuth/arena.Arena).right -/
def C_p_arena_Arena_right (N : Nat → Nat) : AFunc := ⟨50, [.inl 4],
 .seq (
  .ops [⟨(some 3), .box (t_api_Head N) (.t 1), none⟩, ⟨(some 4), .mov (.c (.lit (.bool false))), none⟩]) (
 .seq (
  .ops [⟨(some 8), .faddr 0 (.t 3), none⟩, ⟨(some 9), .load none (.t 8), none⟩, ⟨(some 10), .faddr 1 (.t 3), none⟩, ⟨(some 11), .load none (.t 10), none⟩, ⟨(some 12), .faddr 3 (.t 3), none⟩, ⟨(some 13), .load none (.t 12), none⟩, ⟨(some 14), .build [(.lit (.int .i64 0)), (.lit (.slice none 0 0)), (.lit (.slice none 0 0)), (.lit (.bool false))] [(0, 1, (.t 9)), (1, 1, (.t 11)), (3, 1, (.t 13))], none⟩, ⟨(some 15), .bslice (t_api_Head N) 4 (some 4) 1 [(.lit (.int .i64 0)), (.lit (.slice none 0 0)), (.lit (.slice none 0 0)), (.lit (.bool false))] [(0, 4, (.t 14))], none⟩, ⟨(some 16), .build [(.lit (.slice none 0 0)), (.lit (.int .i64 0))] [(0, 1, (.t 15))], none⟩, ⟨(some 5), .new (t_api_Graph N) (.agg [(.lit (.slice none 0 0)), (.lit (.int .i64 0))]), none⟩, ⟨none, .store 2 (.t 5) (.t 16), none⟩]) (
 .seq (
  .seq (
   .ops [⟨(some 17), .faddr 2 (.t 3), none⟩, ⟨(some 18), .load none (.t 17), none⟩, ⟨(some 19), .len (.t 18), none⟩, ⟨(some 20), .mov (.c (.lit (.int .i64 0))), none⟩]) (
  .block 0 (
   .loop (L_p_arena_Arena_right_1 N)))) (K_p_arena_Arena_right_1 N))), false⟩

/-- (*azimuth/arena.Arena).room -/
def C_p_arena_Arena_room (N : Nat → Nat) : AFunc := ⟨17, [.inl 4],
 .seq (
  .ops [⟨(some 4), .mov (.c (.lit (.int .i64 0))), none⟩]) (
 .seq (
  .seq (
   .dops 1 [⟨(some 5), .mov (.t 0), none⟩, ⟨(some 6), .nilchk (.t 5), none⟩, ⟨(some 7), .faddr 0 (.t 6), none⟩, ⟨(some 8), .load none (.t 7), none⟩, ⟨(some 9), .len (.t 8), none⟩, ⟨(some 10), .mov (.t 1), none⟩, ⟨(some 11), .bin .add (.t 9) (.t 10), none⟩, ⟨(some 12), .mov (.t 0), none⟩, ⟨(some 13), .nilchk (.t 12), none⟩, ⟨(some 14), .faddr 1 (.t 13), none⟩, ⟨(some 15), .load none (.t 14), none⟩, ⟨(some 16), .bin .gtr (.t 11) (.t 15), none⟩] [0, 0, 0, 2, 0, 0, 0, 0, 0, 0, 2, 0] []) (
  .cond (.t 16) (
   .seq (
    .ops [⟨(some 4), .mov (.c (.lit (.int .i64 12))), none⟩]) (
   .ret)) (
   .skip))) (
 .seq (
  .ops [⟨(some 4), .mov (.c (.lit (.int .i64 0))), none⟩]) (
 .ret))), false⟩

/-- (*azimuth/arena.Arena).there -/
def C_p_arena_Arena_there (N : Nat → Nat) : AFunc := ⟨20, [.inl 4],
 .seq (
  .ops [⟨(some 4), .mov (.c (.lit (.bool false))), none⟩]) (
 .seq (
  .ops [⟨(some 5), .mov (.t 0), none⟩, ⟨(some 6), .eq true .pptr (.t 5) (.c (.lit (.pointer none))), none⟩, ⟨(some 7), .mov (.t 6), none⟩, ⟨(some 8), .mov (.t 1), (some (7, true))⟩, ⟨(some 9), .bin .geq (.t 8) (.c (.lit (.int .i64 0))), (some (7, true))⟩, ⟨(some 10), .pick (.t 7) (.t 9) (.c (.lit (.bool false))), none⟩, ⟨(some 11), .mov (.t 10), none⟩, ⟨(some 12), .mov (.t 1), (some (11, true))⟩, ⟨(some 13), .mov (.t 0), (some (11, true))⟩, ⟨(some 14), .nilchk (.t 13), (some (11, true))⟩, ⟨(some 15), .faddr 0 (.t 14), (some (11, true))⟩, ⟨(some 16), .load none (.t 15), (some (11, true))⟩, ⟨(some 17), .len (.t 16), (some (11, true))⟩, ⟨(some 18), .bin .lss (.t 12) (.t 17), (some (11, true))⟩, ⟨(some 19), .pick (.t 11) (.t 18) (.c (.lit (.bool false))), none⟩, ⟨(some 4), .mov (.t 19), none⟩]) (
 .ret)), false⟩

/-- azimuth/arena.New -/
def C_arena_New (N : Nat → Nat) : AFunc := ⟨13, [.inl 2, .inl 3],
 .seq (
  .ops [⟨(some 2), .mov (.c (.lit (.pointer none))), none⟩, ⟨(some 3), .mov (.c (.lit (.int .i64 0))), none⟩]) (
 .seq (
  .seq (
   .ops [⟨(some 4), .mov (.t 0), none⟩, ⟨(some 5), .bin .lss (.t 4) (.c (.lit (.int .i64 1))), none⟩, ⟨(some 6), .mov (.t 5), none⟩, ⟨(some 7), .mov (.t 0), (some (6, false))⟩, ⟨(some 8), .bin .gtr (.t 7) (.c (.lit (.int .i64 1048576))), (some (6, false))⟩, ⟨(some 9), .pick (.t 6) (.c (.lit (.bool true))) (.t 8), none⟩]) (
  .cond (.t 9) (
   .seq (
    .ops [⟨(some 2), .mov (.c (.lit (.pointer none))), none⟩, ⟨(some 3), .mov (.c (.lit (.int .i64 1))), none⟩]) (
   .ret)) (
   .skip))) (
 .seq (
  .ops [⟨(some 10), .mov (.t 0), none⟩, ⟨(some 11), .build [(.lit (.slice none 0 0)), (.lit (.int .i64 0))] [(1, 1, (.t 10))], none⟩, ⟨(some 12), .box (t_arena_Arena N) (.t 11), none⟩, ⟨(some 2), .mov (.t 12), none⟩, ⟨(some 3), .mov (.c (.lit (.int .i64 0))), none⟩]) (
 .ret))), false⟩

/-- azimuth/arena.clone -/
def C_arena_clone (N : Nat → Nat) : AFunc := ⟨12, [.inr (2, (some 4))],
 .seq (
  .ops [⟨(some 1), .box (t_api_Head N) (.t 0), none⟩, ⟨(some 2), .new (t_api_Head N) (.agg [(.lit (.int .i64 0)), (.lit (.slice none 0 0)), (.lit (.slice none 0 0)), (.lit (.bool false))]), none⟩]) (
 .seq (
  .dops 1 [⟨(some 3), .faddr 1 (.t 1), none⟩, ⟨(some 4), .load none (.t 3), none⟩, ⟨(some 6), .faddr 2 (.t 1), none⟩, ⟨(some 7), .load none (.t 6), none⟩, ⟨(some 5), .call (.c (.fn (f_slices_Clone_sl_string_string N) [] [])) [(.t 4)], none⟩, ⟨(some 9), .faddr 1 (.t 1), none⟩, ⟨(some 8), .call (.c (.fn (f_slices_Clone_sl_int_int N) [] [])) [(.t 7)], none⟩, ⟨none, .store 1 (.t 9) (.t 5), none⟩, ⟨(some 10), .faddr 2 (.t 1), none⟩, ⟨none, .store 1 (.t 10) (.t 8), none⟩] [0, 2, 0, 2, 1, 0, 0, 0, 0, 0] []) (
 .seq (
  .ops [⟨(some 11), .load (some 4) (.t 1), none⟩, ⟨none, .store 4 (.t 2) (.t 11), none⟩]) (
 .ret))), false⟩
end Go.Proofs.Eng
/- Templates of functions, as the engine takes them; numbers of functions and types by names. Printed by tm.py. -/
set_option linter.unusedVariables false
set_option maxRecDepth 100000
namespace Go.Proofs.Eng
open Go

/-- (*azimuth/lift.maker).part -/
def C_p_lift_maker_part (N : Nat → Nat) : AFunc := ⟨87, [.inl 4, .inl 5],
 .seq (
  .ops [⟨(some 4), .mov (.c (.lit (.int .i64 0))), none⟩, ⟨(some 5), .mov (.c (.lit (.int .i64 0))), none⟩]) (
 .seq (
  .seq (
   .dops 1 [⟨(some 13), .mov (.t 0), none⟩, ⟨(some 14), .nilchk (.t 13), none⟩, ⟨(some 15), .faddr 0 (.t 14), none⟩, ⟨(some 16), .load none (.t 15), none⟩, ⟨(some 17), .mov (.t 1), none⟩, ⟨(some 19), .mov (.t 0), none⟩, ⟨(some 20), .nilchk (.t 19), none⟩, ⟨(some 21), .faddr 1 (.t 20), none⟩, ⟨(some 22), .load none (.t 21), none⟩, ⟨(some 18), .call (.c (.fn (f_p_arena_Arena_Level N) [] [])) [(.t 16), (.t 17)], none⟩, ⟨(some 23), .bin .leq (.t 18) (.t 22), none⟩] [0, 0, 0, 2, 0, 0, 0, 0, 2, 1, 0] []) (
  .cond (.t 23) (
   .seq (
    .ops [⟨(some 24), .mov (.t 1), none⟩, ⟨(some 4), .mov (.t 24), none⟩, ⟨(some 5), .mov (.c (.lit (.int .i64 0))), none⟩]) (
   .ret)) (
   .skip))) (
 .seq (
  .seq (
   .ops [⟨(some 26), .mov (.t 0), none⟩, ⟨(some 27), .nilchk (.t 26), none⟩, ⟨(some 28), .faddr 3 (.t 27), none⟩, ⟨(some 29), .load none (.t 28), none⟩, ⟨(some 30), .mov (.t 1), none⟩, ⟨(some 31), .lookup (.int .i64) (.lit (.int .i64 0)) (.t 29) (.t 30) true, none⟩, ⟨(some 25), .mov (.t 31), none⟩, ⟨(some 32), .extract (.t 25) 0, none⟩, ⟨(some 33), .extract (.t 25) 1, none⟩, ⟨(some 6), .mov (.t 32), none⟩, ⟨(some 7), .mov (.t 33), none⟩]) (
  .seq (
   .ops [⟨(some 34), .mov (.t 7), none⟩]) (
  .cond (.t 34) (
   .seq (
    .ops [⟨(some 35), .mov (.t 6), none⟩, ⟨(some 4), .mov (.t 35), none⟩, ⟨(some 5), .mov (.c (.lit (.int .i64 0))), none⟩]) (
   .ret)) (
   .skip)))) (
 .seq (
  .seq (
   .ops [⟨(some 36), .mov (.t 0), none⟩, ⟨(some 37), .nilchk (.t 36), none⟩, ⟨(some 38), .faddr 0 (.t 37), none⟩, ⟨(some 39), .load none (.t 38), none⟩, ⟨(some 40), .mov (.t 1), none⟩, ⟨(some 41), .call (.c (.fn (f_p_arena_Arena_IsVar N) [] [])) [(.t 39), (.t 40)], none⟩]) (
  .cond (.t 41) (
   .seq (
    .ops [⟨(some 42), .mov (.t 0), none⟩, ⟨(some 43), .mov (.t 1), none⟩, ⟨(some 44), .call (.c (.fn (f_p_lift_maker_variable N) [] [])) [(.t 42), (.t 43)], none⟩, ⟨(some 45), .extract (.t 44) 0, none⟩, ⟨(some 46), .extract (.t 44) 1, none⟩, ⟨(some 4), .mov (.t 45), none⟩, ⟨(some 5), .mov (.t 46), none⟩]) (
   .ret)) (
   .skip))) (
 .seq (
  .ops [⟨(some 48), .mov (.t 0), none⟩, ⟨(some 49), .nilchk (.t 48), none⟩, ⟨(some 50), .faddr 0 (.t 49), none⟩, ⟨(some 51), .load none (.t 50), none⟩, ⟨(some 52), .mov (.t 1), none⟩, ⟨(some 53), .call (.c (.fn (f_p_arena_Arena_At N) [] [])) [(.t 51), (.t 52)], none⟩, ⟨(some 47), .mov (.t 53), none⟩, ⟨(some 54), .extract (.t 47) 0, none⟩, ⟨(some 55), .extract (.t 47) 1, none⟩, ⟨(some 8), .new (t_api_Head N) (.agg [(.lit (.int .i64 0)), (.lit (.slice none 0 0)), (.lit (.slice none 0 0)), (.lit (.bool false))]), none⟩, ⟨none, .store 4 (.t 8) (.t 54), none⟩, ⟨(some 9), .mov (.t 55), none⟩]) (
 .seq (
  .ops [⟨(some 57), .mov (.t 0), none⟩, ⟨(some 58), .faddr 2 (.t 8), none⟩, ⟨(some 59), .load none (.t 58), none⟩, ⟨(some 60), .call (.c (.fn (f_p_lift_maker_row N) [] [])) [(.t 57), (.t 59)], none⟩, ⟨(some 56), .mov (.t 60), none⟩, ⟨(some 61), .extract (.t 56) 0, none⟩, ⟨(some 62), .extract (.t 56) 1, none⟩, ⟨(some 10), .mov (.t 61), none⟩, ⟨(some 11), .mov (.t 62), none⟩]) (
 .seq (
  .seq (
   .ops [⟨(some 63), .mov (.t 11), none⟩, ⟨(some 64), .eq true .pint (.t 63) (.c (.lit (.int .i64 0))), none⟩]) (
  .cond (.t 64) (
   .seq (
    .ops [⟨(some 65), .mov (.t 11), none⟩, ⟨(some 4), .mov (.c (.lit (.int .i64 0))), none⟩, ⟨(some 5), .mov (.t 65), none⟩]) (
   .ret)) (
   .skip))) (
 .seq (
  .ops [⟨(some 66), .mov (.t 10), none⟩, ⟨(some 67), .faddr 2 (.t 8), none⟩, ⟨none, .store 1 (.t 67) (.t 66), none⟩]) (
 .seq (
  .dops 13 [⟨(some 69), .mov (.t 0), none⟩, ⟨(some 70), .nilchk (.t 69), none⟩, ⟨(some 71), .faddr 0 (.t 70), none⟩, ⟨(some 72), .load none (.t 71), none⟩, ⟨(some 73), .load (some 4) (.t 8), none⟩, ⟨(some 74), .call (.c (.fn (f_p_arena_Arena_Head N) [] [])) [(.t 72), (.t 73)], none⟩, ⟨(some 68), .mov (.t 74), none⟩, ⟨(some 75), .extract (.t 68) 0, none⟩, ⟨(some 76), .extract (.t 68) 1, none⟩, ⟨(some 12), .mov (.t 75), none⟩, ⟨(some 11), .mov (.t 76), none⟩] [0, 0, 0, 2, 2, 0, 0, 0, 0, 0, 0] []) (
 .seq (
  .seq (
   .ops [⟨(some 77), .mov (.t 11), none⟩, ⟨(some 78), .eq false .pint (.t 77) (.c (.lit (.int .i64 0))), none⟩]) (
  .cond (.t 78) (
   .ops [⟨(some 79), .mov (.t 0), none⟩, ⟨(some 80), .nilchk (.t 79), none⟩, ⟨(some 81), .faddr 3 (.t 80), none⟩, ⟨(some 82), .load none (.t 81), none⟩, ⟨(some 83), .mov (.t 1), none⟩, ⟨(some 84), .mov (.t 12), none⟩, ⟨none, .mapupd (.int .i64) (.t 82) (.t 83) (.t 84), none⟩]) (
   .skip))) (
 .seq (
  .ops [⟨(some 85), .mov (.t 12), none⟩, ⟨(some 86), .mov (.t 11), none⟩, ⟨(some 4), .mov (.t 85), none⟩, ⟨(some 5), .mov (.t 86), none⟩]) (
 .ret))))))))))), false⟩

def L_p_lift_maker_row_1 (N : Nat → Nat) : AC :=
    .seq (
     .ops [⟨(some 14), .bin .lss (.t 13) (.t 12), none⟩]) (
    .seq (
     .cond (.t 14) (
      .skip) (
      .exit 0)) (
    .seq (
     .block 1 (
      .seq (
       .ops [⟨(some 15), .iaddr 1 (.t 11) (.t 13), none⟩, ⟨(some 16), .load none (.t 15), none⟩, ⟨(some 8), .mov (.t 16), none⟩]) (
      .seq (
       .ops [⟨(some 18), .mov (.t 0), none⟩, ⟨(some 19), .mov (.t 8), none⟩, ⟨(some 20), .call (.c (.fn (f_p_lift_maker_part N) [] [])) [(.t 18), (.t 19)], none⟩, ⟨(some 17), .mov (.t 20), none⟩, ⟨(some 21), .extract (.t 17) 0, none⟩, ⟨(some 22), .extract (.t 17) 1, none⟩, ⟨(some 9), .mov (.t 21), none⟩, ⟨(some 10), .mov (.t 22), none⟩]) (
      .seq (
       .seq (
        .ops [⟨(some 23), .mov (.t 10), none⟩, ⟨(some 24), .eq true .pint (.t 23) (.c (.lit (.int .i64 0))), none⟩]) (
       .cond (.t 24) (
        .seq (
         .ops [⟨(some 25), .mov (.t 10), none⟩, ⟨(some 4), .mov (.c (.lit (.slice none 0 0))), none⟩, ⟨(some 5), .mov (.t 25), none⟩]) (
        .ret)) (
        .skip))) (
      .ops [⟨(some 26), .mov (.t 6), none⟩, ⟨(some 27), .mov (.t 9), none⟩, ⟨(some 28), .bslice (t_int N) 1 none 1 [(.lit (.int .i64 0))] [(0, 1, (.t 27))], none⟩, ⟨(some 29), .append (t_int N) 1 8 (.t 26) (.t 28), none⟩, ⟨(some 6), .mov (.t 29), none⟩]))))) (
    .ops [⟨(some 30), .bin .add (.t 13) (.c (.lit (.int .i64 1))), none⟩, ⟨(some 13), .mov (.t 30), none⟩])))
def K_p_lift_maker_row_1 (N : Nat → Nat) : AC :=
 .seq (
  .ops [⟨(some 31), .mov (.t 6), none⟩, ⟨(some 4), .mov (.t 31), none⟩, ⟨(some 5), .mov (.c (.lit (.int .i64 0))), none⟩]) (
 .ret)
/-- (*azimuth/lift.maker).row -/
def C_p_lift_maker_row (N : Nat → Nat) : AFunc := ⟨32, [.inl 4, .inl 5],
 .seq (
  .ops [⟨(some 4), .mov (.c (.lit (.slice none 0 0))), none⟩, ⟨(some 5), .mov (.c (.lit (.int .i64 0))), none⟩]) (
 .seq (
  .ops [⟨(some 6), .mov (.c (.lit (.slice none 0 0))), none⟩]) (
 .seq (
  .seq (
   .ops [⟨(some 11), .mov (.t 1), none⟩, ⟨(some 12), .len (.t 11), none⟩, ⟨(some 13), .mov (.c (.lit (.int .i64 0))), none⟩]) (
  .block 0 (
   .loop (L_p_lift_maker_row_1 N)))) (K_p_lift_maker_row_1 N))), false⟩

def L_p_lift_maker_variable_1 (N : Nat → Nat) : AC :=
    .seq (
     .ops [⟨(some 66), .bin .lss (.t 65) (.t 64), none⟩]) (
    .seq (
     .cond (.t 66) (
      .skip) (
      .exit 0)) (
    .seq (
     .block 1 (
      .seq (
       .ops [⟨(some 67), .iaddr 1 (.t 63) (.t 65), none⟩, ⟨(some 68), .load none (.t 67), none⟩, ⟨(some 11), .mov (.t 68), none⟩]) (
      .ops [⟨(some 69), .mov (.t 0), none⟩, ⟨(some 70), .nilchk (.t 69), none⟩, ⟨(some 71), .faddr 0 (.t 70), none⟩, ⟨(some 72), .load none (.t 71), none⟩, ⟨(some 73), .mov (.t 6), none⟩, ⟨(some 74), .mov (.t 11), none⟩, ⟨(some 75), .call (.c (.fn (f_p_arena_Arena_Bound N) [] [])) [(.t 72), (.t 73), (.t 74), (.c (.lit (.bool false)))], none⟩]))) (
    .ops [⟨(some 76), .bin .add (.t 65) (.c (.lit (.int .i64 1))), none⟩, ⟨(some 65), .mov (.t 76), none⟩])))
def L_p_lift_maker_variable_2 (N : Nat → Nat) : AC :=
    .seq (
     .ops [⟨(some 80), .bin .lss (.t 79) (.t 78), none⟩]) (
    .seq (
     .cond (.t 80) (
      .skip) (
      .exit 2)) (
    .seq (
     .block 3 (
      .seq (
       .ops [⟨(some 81), .iaddr 1 (.t 77) (.t 79), none⟩, ⟨(some 82), .load none (.t 81), none⟩, ⟨(some 13), .mov (.t 82), none⟩]) (
      .ops [⟨(some 83), .mov (.t 0), none⟩, ⟨(some 84), .nilchk (.t 83), none⟩, ⟨(some 85), .faddr 0 (.t 84), none⟩, ⟨(some 86), .load none (.t 85), none⟩, ⟨(some 87), .mov (.t 6), none⟩, ⟨(some 88), .mov (.t 13), none⟩, ⟨(some 89), .call (.c (.fn (f_p_arena_Arena_Bound N) [] [])) [(.t 86), (.t 87), (.t 88), (.c (.lit (.bool true)))], none⟩]))) (
    .ops [⟨(some 90), .bin .add (.t 79) (.c (.lit (.int .i64 1))), none⟩, ⟨(some 79), .mov (.t 90), none⟩])))
def K_p_lift_maker_variable_2 (N : Nat → Nat) : AC :=
 .seq (
  .ops [⟨(some 91), .mov (.t 6), none⟩, ⟨(some 4), .mov (.t 91), none⟩, ⟨(some 5), .mov (.c (.lit (.int .i64 0))), none⟩]) (
 .ret)
def K_p_lift_maker_variable_1 (N : Nat → Nat) : AC :=
 .seq (
  .seq (
   .ops [⟨(some 77), .mov (.t 9), none⟩, ⟨(some 78), .len (.t 77), none⟩, ⟨(some 79), .mov (.c (.lit (.int .i64 0))), none⟩]) (
  .block 2 (
   .loop (L_p_lift_maker_variable_2 N)))) (K_p_lift_maker_variable_2 N)
/-- (*azimuth/lift.maker).variable -/
def C_p_lift_maker_variable (N : Nat → Nat) : AFunc := ⟨92, [.inl 4, .inl 5],
 .seq (
  .ops [⟨(some 4), .mov (.c (.lit (.int .i64 0))), none⟩, ⟨(some 5), .mov (.c (.lit (.int .i64 0))), none⟩]) (
 .seq (
  .dops 1 [⟨(some 15), .mov (.t 0), none⟩, ⟨(some 16), .nilchk (.t 15), none⟩, ⟨(some 17), .faddr 0 (.t 16), none⟩, ⟨(some 18), .load none (.t 17), none⟩, ⟨(some 19), .mov (.t 0), none⟩, ⟨(some 20), .nilchk (.t 19), none⟩, ⟨(some 21), .faddr 2 (.t 20), none⟩, ⟨(some 22), .load none (.t 21), none⟩, ⟨(some 23), .call (.c (.fn (f_p_arena_Arena_Var N) [] [])) [(.t 18), (.t 22)], none⟩, ⟨(some 14), .mov (.t 23), none⟩, ⟨(some 24), .extract (.t 14) 0, none⟩, ⟨(some 25), .extract (.t 14) 1, none⟩, ⟨(some 6), .mov (.t 24), none⟩, ⟨(some 7), .mov (.t 25), none⟩] [0, 0, 0, 2, 0, 0, 0, 2, 0, 0, 0, 0, 0, 0] []) (
 .seq (
  .seq (
   .ops [⟨(some 26), .mov (.t 7), none⟩, ⟨(some 27), .eq true .pint (.t 26) (.c (.lit (.int .i64 0))), none⟩]) (
  .cond (.t 27) (
   .seq (
    .ops [⟨(some 28), .mov (.t 7), none⟩, ⟨(some 4), .mov (.c (.lit (.int .i64 0))), none⟩, ⟨(some 5), .mov (.t 28), none⟩]) (
   .ret)) (
   .skip))) (
 .seq (
  .ops [⟨(some 29), .mov (.t 0), none⟩, ⟨(some 30), .nilchk (.t 29), none⟩, ⟨(some 31), .faddr 3 (.t 30), none⟩, ⟨(some 32), .load none (.t 31), none⟩, ⟨(some 33), .mov (.t 1), none⟩, ⟨(some 34), .mov (.t 6), none⟩, ⟨none, .mapupd (.int .i64) (.t 32) (.t 33) (.t 34), none⟩]) (
 .seq (
  .ops [⟨(some 36), .mov (.t 0), none⟩, ⟨(some 37), .mov (.t 0), none⟩, ⟨(some 38), .nilchk (.t 37), none⟩, ⟨(some 39), .faddr 0 (.t 38), none⟩, ⟨(some 40), .load none (.t 39), none⟩, ⟨(some 41), .mov (.t 1), none⟩, ⟨(some 42), .call (.c (.fn (f_p_arena_Arena_Low N) [] [])) [(.t 40), (.t 41)], none⟩, ⟨(some 43), .call (.c (.fn (f_p_lift_maker_row N) [] [])) [(.t 36), (.t 42)], none⟩, ⟨(some 35), .mov (.t 43), none⟩, ⟨(some 44), .extract (.t 35) 0, none⟩, ⟨(some 45), .extract (.t 35) 1, none⟩, ⟨(some 8), .mov (.t 44), none⟩, ⟨(some 7), .mov (.t 45), none⟩]) (
 .seq (
  .seq (
   .ops [⟨(some 46), .mov (.t 7), none⟩, ⟨(some 47), .eq true .pint (.t 46) (.c (.lit (.int .i64 0))), none⟩]) (
  .cond (.t 47) (
   .seq (
    .ops [⟨(some 48), .mov (.t 7), none⟩, ⟨(some 4), .mov (.c (.lit (.int .i64 0))), none⟩, ⟨(some 5), .mov (.t 48), none⟩]) (
   .ret)) (
   .skip))) (
 .seq (
  .ops [⟨(some 50), .mov (.t 0), none⟩, ⟨(some 51), .mov (.t 0), none⟩, ⟨(some 52), .nilchk (.t 51), none⟩, ⟨(some 53), .faddr 0 (.t 52), none⟩, ⟨(some 54), .load none (.t 53), none⟩, ⟨(some 55), .mov (.t 1), none⟩, ⟨(some 56), .call (.c (.fn (f_p_arena_Arena_High N) [] [])) [(.t 54), (.t 55)], none⟩, ⟨(some 57), .call (.c (.fn (f_p_lift_maker_row N) [] [])) [(.t 50), (.t 56)], none⟩, ⟨(some 49), .mov (.t 57), none⟩, ⟨(some 58), .extract (.t 49) 0, none⟩, ⟨(some 59), .extract (.t 49) 1, none⟩, ⟨(some 9), .mov (.t 58), none⟩, ⟨(some 7), .mov (.t 59), none⟩]) (
 .seq (
  .seq (
   .ops [⟨(some 60), .mov (.t 7), none⟩, ⟨(some 61), .eq true .pint (.t 60) (.c (.lit (.int .i64 0))), none⟩]) (
  .cond (.t 61) (
   .seq (
    .ops [⟨(some 62), .mov (.t 7), none⟩, ⟨(some 4), .mov (.c (.lit (.int .i64 0))), none⟩, ⟨(some 5), .mov (.t 62), none⟩]) (
   .ret)) (
   .skip))) (
 .seq (
  .seq (
   .ops [⟨(some 63), .mov (.t 8), none⟩, ⟨(some 64), .len (.t 63), none⟩, ⟨(some 65), .mov (.c (.lit (.int .i64 0))), none⟩]) (
  .block 0 (
   .loop (L_p_lift_maker_variable_1 N)))) (K_p_lift_maker_variable_1 N))))))))), false⟩

def L_lift_Free_1 (N : Nat → Nat) : AC :=
    .seq (
     .ops [⟨(some 16), .bin .lss (.t 15) (.t 14), none⟩]) (
    .seq (
     .cond (.t 16) (
      .skip) (
      .exit 0)) (
    .seq (
     .block 1 (
      .seq (
       .ops [⟨(some 17), .iaddr 1 (.t 13) (.t 15), none⟩, ⟨(some 18), .load none (.t 17), none⟩, ⟨(some 9), .mov (.t 18), none⟩]) (
      .seq (
       .ops [⟨(some 19), .mov (.t 0), none⟩, ⟨(some 20), .mov (.t 9), none⟩, ⟨(some 21), .call (.c (.fn (f_p_arena_Arena_IsVar N) [] [])) [(.t 19), (.t 20)], none⟩, ⟨(some 22), .mov (.t 21), none⟩, ⟨(some 23), .mov (.t 0), (some (22, true))⟩, ⟨(some 24), .mov (.t 9), (some (22, true))⟩, ⟨(some 25), .call (.c (.fn (f_p_arena_Arena_Level N) [] [])) [(.t 23), (.t 24)], (some (22, true))⟩, ⟨(some 26), .mov (.t 2), (some (22, true))⟩, ⟨(some 27), .bin .gtr (.t 25) (.t 26), (some (22, true))⟩, ⟨(some 28), .pick (.t 22) (.t 27) (.c (.lit (.bool false))), none⟩]) (
      .cond (.t 28) (
       .ops [⟨(some 29), .mov (.t 7), none⟩, ⟨(some 30), .bin .add (.t 29) (.c (.lit (.int .i64 1))), none⟩, ⟨(some 7), .mov (.t 30), none⟩]) (
       .skip))))) (
    .ops [⟨(some 31), .bin .add (.t 15) (.c (.lit (.int .i64 1))), none⟩, ⟨(some 15), .mov (.t 31), none⟩])))
def K_lift_Free_1 (N : Nat → Nat) : AC :=
 .seq (
  .ops [⟨(some 32), .mov (.t 7), none⟩, ⟨(some 6), .mov (.t 32), none⟩]) (
 .ret)
/-- azimuth/lift.Free -/
def C_lift_Free (N : Nat → Nat) : AFunc := ⟨33, [.inl 6],
 .seq (
  .ops [⟨(some 6), .mov (.c (.lit (.int .i64 0))), none⟩]) (
 .seq (
  .ops [⟨(some 7), .mov (.c (.lit (.int .i64 0))), none⟩]) (
 .seq (
  .seq (
   .ops [⟨(some 10), .mov (.t 0), none⟩, ⟨(some 11), .mov (.t 1), none⟩, ⟨(some 12), .mov (.t 2), none⟩, ⟨(some 13), .call (.c (.fn (f_lift_Reach N) [] [])) [(.t 10), (.t 11), (.t 12)], none⟩, ⟨(some 14), .len (.t 13), none⟩, ⟨(some 15), .mov (.c (.lit (.int .i64 0))), none⟩]) (
  .block 0 (
   .loop (L_lift_Free_1 N)))) (K_lift_Free_1 N))), false⟩

/-- azimuth/lift.Fresh -/
def C_lift_Fresh (N : Nat → Nat) : AFunc := ⟨40, [.inl 8, .inl 9],
 .seq (
  .ops [⟨(some 8), .mov (.c (.lit (.int .i64 0))), none⟩, ⟨(some 9), .mov (.c (.lit (.int .i64 0))), none⟩]) (
 .seq (
  .seq (
   .ops [⟨(some 10), .mov (.t 0), none⟩, ⟨(some 11), .eq false .pptr (.t 10) (.c (.lit (.pointer none))), none⟩, ⟨(some 12), .mov (.t 11), none⟩, ⟨(some 13), .mov (.t 1), (some (12, false))⟩, ⟨(some 14), .bin .lss (.t 13) (.c (.lit (.int .i64 0))), (some (12, false))⟩, ⟨(some 15), .pick (.t 12) (.c (.lit (.bool true))) (.t 14), none⟩, ⟨(some 16), .mov (.t 15), none⟩, ⟨(some 17), .mov (.t 1), (some (16, false))⟩, ⟨(some 18), .mov (.t 0), (some (16, false))⟩, ⟨(some 19), .call (.c (.fn (f_p_arena_Arena_Len N) [] [])) [(.t 18)], (some (16, false))⟩, ⟨(some 20), .bin .geq (.t 17) (.t 19), (some (16, false))⟩, ⟨(some 21), .pick (.t 16) (.c (.lit (.bool true))) (.t 20), none⟩, ⟨(some 22), .mov (.t 21), none⟩, ⟨(some 23), .mov (.t 2), (some (22, false))⟩, ⟨(some 24), .bin .lss (.t 23) (.c (.lit (.int .i64 0))), (some (22, false))⟩, ⟨(some 25), .pick (.t 22) (.c (.lit (.bool true))) (.t 24), none⟩, ⟨(some 26), .mov (.t 25), none⟩, ⟨(some 27), .mov (.t 3), (some (26, false))⟩, ⟨(some 28), .bin .lss (.t 27) (.c (.lit (.int .i64 0))), (some (26, false))⟩, ⟨(some 29), .pick (.t 26) (.c (.lit (.bool true))) (.t 28), none⟩]) (
  .cond (.t 29) (
   .seq (
    .ops [⟨(some 8), .mov (.c (.lit (.int .i64 0))), none⟩, ⟨(some 9), .mov (.c (.lit (.int .i64 1))), none⟩]) (
   .ret)) (
   .skip))) (
 .seq (
  .ops [⟨(some 30), .mov (.t 0), none⟩, ⟨(some 31), .mov (.t 2), none⟩, ⟨(some 32), .mov (.t 3), none⟩, ⟨(some 33), .mkmap, none⟩, ⟨(some 34), .build [(.lit (.pointer none)), (.lit (.int .i64 0)), (.lit (.int .i64 0)), (.lit (.map none))] [(0, 1, (.t 30)), (1, 1, (.t 31)), (2, 1, (.t 32)), (3, 1, (.t 33))], none⟩, ⟨(some 35), .box (t_lift_maker N) (.t 34), none⟩, ⟨(some 36), .mov (.t 1), none⟩, ⟨(some 37), .call (.c (.fn (f_p_lift_maker_part N) [] [])) [(.t 35), (.t 36)], none⟩, ⟨(some 38), .extract (.t 37) 0, none⟩, ⟨(some 39), .extract (.t 37) 1, none⟩, ⟨(some 8), .mov (.t 38), none⟩, ⟨(some 9), .mov (.t 39), none⟩]) (
 .ret))), false⟩

def L_lift_Reach_2 (N : Nat → Nat) : AC :=
        .seq (
         .ops [⟨(some 79), .bin .lss (.t 78) (.t 77), none⟩]) (
        .seq (
         .cond (.t 79) (
          .skip) (
          .exit 2)) (
        .seq (
         .block 3 (
          .seq (
           .ops [⟨(some 80), .iaddr 1 (.t 76) (.t 78), none⟩, ⟨(some 81), .load none (.t 80), none⟩, ⟨(some 14), .mov (.t 81), none⟩]) (
          .seq (
           .ops [⟨(some 82), .mov (.t 7), none⟩, ⟨(some 83), .mov (.t 14), none⟩, ⟨(some 84), .lookup (.int .i64) (.lit (.bool false)) (.t 82) (.t 83) false, none⟩, ⟨(some 85), .un .not (.t 84), none⟩]) (
          .cond (.t 85) (
           .seq (
            .ops [⟨(some 86), .mov (.t 7), none⟩, ⟨(some 87), .mov (.t 14), none⟩, ⟨none, .mapupd (.int .i64) (.t 86) (.t 87) (.c (.lit (.bool true))), none⟩]) (
           .ops [⟨(some 88), .mov (.t 8), none⟩, ⟨(some 89), .mov (.t 14), none⟩, ⟨(some 90), .bslice (t_int N) 1 none 1 [(.lit (.int .i64 0))] [(0, 1, (.t 89))], none⟩, ⟨(some 91), .append (t_int N) 1 8 (.t 88) (.t 90), none⟩, ⟨(some 8), .mov (.t 91), none⟩])) (
           .skip))))) (
        .ops [⟨(some 92), .bin .add (.t 78) (.c (.lit (.int .i64 1))), none⟩, ⟨(some 78), .mov (.t 92), none⟩])))
def K_lift_Reach_1 (N : Nat → Nat) : AC :=
 .ops [⟨(some 32), .mov (.t 9), none⟩, ⟨(some 33), .bin .add (.t 32) (.c (.lit (.int .i64 1))), none⟩, ⟨(some 9), .mov (.t 33), none⟩]
def L_lift_Reach_1 (N : Nat → Nat) : AC :=
    .seq (
     .seq (
      .ops [⟨(some 28), .mov (.t 9), none⟩, ⟨(some 29), .mov (.t 8), none⟩, ⟨(some 30), .len (.t 29), none⟩, ⟨(some 31), .bin .lss (.t 28) (.t 30), none⟩]) (
     .cond (.t 31) (
      .skip) (
      .exit 0))) (
    .seq (
     .block 1 (
      .seq (
       .ops [⟨(some 34), .mov (.t 0), none⟩, ⟨(some 35), .mov (.t 8), none⟩, ⟨(some 36), .mov (.t 9), none⟩, ⟨(some 37), .iaddr 1 (.t 35) (.t 36), none⟩, ⟨(some 38), .load none (.t 37), none⟩, ⟨(some 39), .call (.c (.fn (f_p_arena_Arena_Low N) [] [])) [(.t 34), (.t 38)], none⟩, ⟨(some 10), .mov (.t 39), none⟩]) (
      .seq (
       .ops [⟨(some 40), .mov (.t 10), none⟩, ⟨(some 41), .mov (.t 0), none⟩, ⟨(some 42), .mov (.t 8), none⟩, ⟨(some 43), .mov (.t 9), none⟩, ⟨(some 44), .iaddr 1 (.t 42) (.t 43), none⟩, ⟨(some 45), .load none (.t 44), none⟩, ⟨(some 46), .call (.c (.fn (f_p_arena_Arena_High N) [] [])) [(.t 41), (.t 45)], none⟩, ⟨(some 47), .append (t_int N) 1 8 (.t 40) (.t 46), none⟩, ⟨(some 10), .mov (.t 47), none⟩]) (
      .seq (
       .seq (
        .ops [⟨(some 48), .mov (.t 0), none⟩, ⟨(some 49), .mov (.t 8), none⟩, ⟨(some 50), .mov (.t 9), none⟩, ⟨(some 51), .iaddr 1 (.t 49) (.t 50), none⟩, ⟨(some 52), .load none (.t 51), none⟩, ⟨(some 53), .call (.c (.fn (f_p_arena_Arena_IsVar N) [] [])) [(.t 48), (.t 52)], none⟩, ⟨(some 54), .mov (.t 53), none⟩, ⟨(some 55), .mov (.t 0), (some (54, true))⟩, ⟨(some 56), .mov (.t 8), (some (54, true))⟩, ⟨(some 57), .mov (.t 9), (some (54, true))⟩, ⟨(some 58), .iaddr 1 (.t 56) (.t 57), (some (54, true))⟩, ⟨(some 59), .load none (.t 58), (some (54, true))⟩, ⟨(some 60), .call (.c (.fn (f_p_arena_Arena_Level N) [] [])) [(.t 55), (.t 59)], (some (54, true))⟩, ⟨(some 61), .mov (.t 2), (some (54, true))⟩, ⟨(some 62), .bin .leq (.t 60) (.t 61), (some (54, true))⟩, ⟨(some 63), .pick (.t 54) (.t 62) (.c (.lit (.bool false))), none⟩]) (
       .cond (.t 63) (
        .ops [⟨(some 10), .mov (.c (.lit (.slice none 0 0))), none⟩]) (
        .skip))) (
      .seq (
       .seq (
        .ops [⟨(some 65), .mov (.t 0), none⟩, ⟨(some 66), .mov (.t 8), none⟩, ⟨(some 67), .mov (.t 9), none⟩, ⟨(some 68), .iaddr 1 (.t 66) (.t 67), none⟩, ⟨(some 69), .load none (.t 68), none⟩, ⟨(some 70), .call (.c (.fn (f_p_arena_Arena_At N) [] [])) [(.t 65), (.t 69)], none⟩, ⟨(some 64), .mov (.t 70), none⟩, ⟨(some 71), .extract (.t 64) 0, none⟩, ⟨(some 72), .extract (.t 64) 1, none⟩, ⟨(some 11), .new (t_api_Head N) (.agg [(.lit (.int .i64 0)), (.lit (.slice none 0 0)), (.lit (.slice none 0 0)), (.lit (.bool false))]), none⟩, ⟨none, .store 4 (.t 11) (.t 71), none⟩, ⟨(some 12), .mov (.t 72), none⟩]) (
       .seq (
        .ops [⟨(some 73), .mov (.t 12), none⟩]) (
       .cond (.t 73) (
        .ops [⟨(some 74), .faddr 2 (.t 11), none⟩, ⟨(some 75), .load none (.t 74), none⟩, ⟨(some 10), .mov (.t 75), none⟩]) (
        .skip)))) (
      .seq (
       .ops [⟨(some 76), .mov (.t 10), none⟩, ⟨(some 77), .len (.t 76), none⟩, ⟨(some 78), .mov (.c (.lit (.int .i64 0))), none⟩]) (
      .block 2 (
       .loop (L_lift_Reach_2 N))))))))) (K_lift_Reach_1 N))
def K_lift_Reach_2 (N : Nat → Nat) : AC :=
 .seq (
  .ops [⟨(some 93), .mov (.t 8), none⟩, ⟨(some 94), .call (.c (.fn (f_slices_Sort_sl_int_int N) [] [])) [(.t 93)], none⟩]) (
 .seq (
  .ops [⟨(some 95), .mov (.t 8), none⟩, ⟨(some 6), .mov (.t 95), none⟩]) (
 .ret))
/-- azimuth/lift.Reach -/
def C_lift_Reach (N : Nat → Nat) : AFunc := ⟨96, [.inl 6],
 .seq (
  .ops [⟨(some 6), .mov (.c (.lit (.slice none 0 0))), none⟩]) (
 .seq (
  .seq (
   .ops [⟨(some 15), .mov (.t 1), none⟩, ⟨(some 16), .bin .lss (.t 15) (.c (.lit (.int .i64 0))), none⟩, ⟨(some 17), .mov (.t 16), none⟩, ⟨(some 18), .mov (.t 1), (some (17, false))⟩, ⟨(some 19), .mov (.t 0), (some (17, false))⟩, ⟨(some 20), .call (.c (.fn (f_p_arena_Arena_Len N) [] [])) [(.t 19)], (some (17, false))⟩, ⟨(some 21), .bin .geq (.t 18) (.t 20), (some (17, false))⟩, ⟨(some 22), .pick (.t 17) (.c (.lit (.bool true))) (.t 21), none⟩]) (
  .cond (.t 22) (
   .seq (
    .ops [⟨(some 6), .mov (.c (.lit (.slice none 0 0))), none⟩]) (
   .ret)) (
   .skip))) (
 .seq (
  .ops [⟨(some 23), .mkmap, none⟩, ⟨(some 24), .mov (.t 1), none⟩, ⟨none, .mnmx false [], none⟩, ⟨(some 25), .mov (.t 23), none⟩, ⟨(some 7), .mov (.t 25), none⟩]) (
 .seq (
  .ops [⟨(some 26), .mov (.t 1), none⟩, ⟨(some 27), .bslice (t_int N) 1 none 1 [(.lit (.int .i64 0))] [(0, 1, (.t 26))], none⟩, ⟨(some 8), .mov (.t 27), none⟩]) (
 .seq (
  .seq (
   .ops [⟨(some 9), .mov (.c (.lit (.int .i64 0))), none⟩]) (
  .block 0 (
   .loop (L_lift_Reach_1 N)))) (K_lift_Reach_2 N))))), false⟩
end Go.Proofs.Eng
/- Templates of functions, as the engine takes them; numbers of functions and types by names. Printed by tm.py. -/
set_option linter.unusedVariables false
set_option maxRecDepth 100000
namespace Go.Proofs.Eng
open Go

def L_law14_LiftApart_1 (N : Nat → Nat) : AC :=
    .seq (
     .ops [⟨(some 39), .bin .lss (.t 38) (.t 37), none⟩]) (
    .seq (
     .cond (.t 39) (
      .skip) (
      .exit 0)) (
    .seq (
     .block 1 (
      .seq (
       .ops [⟨(some 40), .mov (.t 38), none⟩, ⟨(some 9), .mov (.t 40), none⟩]) (
      .dops 6 [⟨(some 42), .mov (.t 0), none⟩, ⟨(some 43), .mov (.t 9), none⟩, ⟨(some 44), .slice 6 (.t 42) none (some (.t 43)), none⟩, ⟨(some 46), .mov (.t 0), none⟩, ⟨(some 47), .mov (.t 9), none⟩, ⟨(some 48), .iaddr 6 (.t 46) (.t 47), none⟩, ⟨(some 49), .faddr 0 (.t 48), none⟩, ⟨(some 50), .load none (.t 49), none⟩, ⟨(some 51), .mov (.t 0), none⟩, ⟨(some 52), .mov (.t 9), none⟩, ⟨(some 53), .iaddr 6 (.t 51) (.t 52), none⟩, ⟨(some 54), .faddr 1 (.t 53), none⟩, ⟨(some 55), .load none (.t 54), none⟩, ⟨(some 56), .bin .rem (.t 55) (.c (.lit (.int .u8 2))), none⟩, ⟨(some 57), .bin .add (.c (.lit (.int .u8 1))) (.t 56), none⟩, ⟨(some 58), .mov (.t 0), none⟩, ⟨(some 59), .mov (.t 9), none⟩, ⟨(some 60), .iaddr 6 (.t 58) (.t 59), none⟩, ⟨(some 61), .faddr 2 (.t 60), none⟩, ⟨(some 62), .load (some 4) (.t 61), none⟩, ⟨(some 63), .build [(.lit (.bool false)), (.lit (.int .u8 0)), (.lit (.int .i64 0)), (.lit (.slice none 0 0)), (.lit (.slice none 0 0)), (.lit (.bool false))] [(0, 1, (.t 50)), (1, 1, (.t 57)), (2, 4, (.t 62))], none⟩, ⟨(some 66), .mov (.t 0), none⟩, ⟨(some 67), .mov (.t 9), none⟩, ⟨(some 68), .bin .add (.t 67) (.c (.lit (.int .i64 1))), none⟩, ⟨(some 69), .slice 6 (.t 66) (some (.t 68)) none, none⟩, ⟨(some 41), .bslice (t_law13_Part N) 6 (some 6) 0 [(.lit (.bool false)), (.lit (.int .u8 0)), (.lit (.int .i64 0)), (.lit (.slice none 0 0)), (.lit (.slice none 0 0)), (.lit (.bool false))] [], none⟩, ⟨(some 45), .append (t_law13_Part N) 6 72 (.t 41) (.t 44), none⟩, ⟨(some 64), .bslice (t_law13_Part N) 6 (some 6) 1 [(.lit (.bool false)), (.lit (.int .u8 0)), (.lit (.int .i64 0)), (.lit (.slice none 0 0)), (.lit (.slice none 0 0)), (.lit (.bool false))] [(0, 6, (.t 63))], none⟩, ⟨(some 65), .append (t_law13_Part N) 6 72 (.t 45) (.t 64), none⟩, ⟨(some 70), .append (t_law13_Part N) 6 72 (.t 65) (.t 69), none⟩, ⟨(some 0), .mov (.t 70), none⟩] [0, 0, 0, 0, 0, 0, 0, 2, 0, 0, 0, 0, 2, 0, 0, 0, 0, 0, 0, 2, 0, 0, 0, 0, 0, 2, 2, 2, 0, 0, 0] []))) (
    .ops [⟨(some 71), .bin .add (.t 38) (.c (.lit (.int .i64 1))), none⟩, ⟨(some 38), .mov (.t 71), none⟩])))
def K_law14_LiftApart_1 (N : Nat → Nat) : AC :=
 .seq (
  .ops [⟨(some 73), .mov (.t 0), none⟩, ⟨(some 74), .mov (.t 1), none⟩, ⟨(some 75), .call (.c (.fn (f_law14_bounded N) [] [])) [(.t 73), (.t 74)], none⟩, ⟨(some 72), .mov (.t 75), none⟩, ⟨(some 76), .extract (.t 72) 0, none⟩, ⟨(some 77), .extract (.t 72) 1, none⟩, ⟨(some 78), .extract (.t 72) 2, none⟩, ⟨(some 10), .mov (.t 76), none⟩, ⟨(some 11), .mov (.t 77), none⟩, ⟨(some 12), .mov (.t 78), none⟩]) (
 .seq (
  .ops [⟨(some 80), .mov (.t 0), none⟩, ⟨(some 81), .mov (.t 1), none⟩, ⟨(some 82), .call (.c (.fn (f_law14_bounded N) [] [])) [(.t 80), (.t 81)], none⟩, ⟨(some 79), .mov (.t 82), none⟩, ⟨(some 83), .extract (.t 79) 0, none⟩, ⟨(some 84), .extract (.t 79) 1, none⟩, ⟨(some 85), .extract (.t 79) 2, none⟩, ⟨(some 13), .mov (.t 83), none⟩, ⟨(some 14), .mov (.t 84), none⟩, ⟨(some 15), .mov (.t 85), none⟩]) (
 .seq (
  .seq (
   .ops [⟨(some 86), .mov (.t 12), none⟩, ⟨(some 87), .un .not (.t 86), none⟩]) (
  .cond (.t 87) (
   .seq (
    .ops [⟨(some 8), .mov (.c (.lit (.bool true))), none⟩]) (
   .ret)) (
   .skip))) (
 .seq (
  .ops [⟨(some 88), .mov (.t 2), none⟩, ⟨(some 89), .conv (.toInt .u64) (.t 88), none⟩, ⟨(some 90), .mov (.t 11), none⟩, ⟨(some 91), .conv (.toInt .u64) (.t 90), none⟩, ⟨(some 92), .bin .rem (.t 89) (.t 91), none⟩, ⟨(some 93), .conv (.toInt .i64) (.t 92), none⟩, ⟨(some 2), .mov (.t 93), none⟩]) (
 .seq (
  .ops [⟨(some 95), .mov (.t 10), none⟩, ⟨(some 96), .mov (.t 2), none⟩, ⟨(some 97), .call (.c (.fn (f_lift_Fresh N) [] [])) [(.t 95), (.t 96), (.c (.lit (.int .i64 0))), (.c (.lit (.int .i64 1)))], none⟩, ⟨(some 94), .mov (.t 97), none⟩, ⟨(some 98), .extract (.t 94) 0, none⟩, ⟨(some 99), .extract (.t 94) 1, none⟩, ⟨(some 16), .mov (.t 98), none⟩, ⟨(some 17), .mov (.t 99), none⟩]) (
 .seq (
  .ops [⟨(some 101), .mov (.t 10), none⟩, ⟨(some 102), .mov (.t 2), none⟩, ⟨(some 103), .call (.c (.fn (f_lift_Fresh N) [] [])) [(.t 101), (.t 102), (.c (.lit (.int .i64 0))), (.c (.lit (.int .i64 2)))], none⟩, ⟨(some 100), .mov (.t 103), none⟩, ⟨(some 104), .extract (.t 100) 0, none⟩, ⟨(some 105), .extract (.t 100) 1, none⟩, ⟨(some 18), .mov (.t 104), none⟩, ⟨(some 19), .mov (.t 105), none⟩]) (
 .seq (
  .ops [⟨(some 106), .mov (.t 3), none⟩, ⟨(some 107), .bin .rem (.t 106) (.c (.lit (.int .u8 7))), none⟩, ⟨(some 108), .conv (.toInt .i64) (.t 107), none⟩, ⟨(some 109), .build [(.lit (.int .i64 0)), (.lit (.slice none 0 0)), (.lit (.slice none 0 0)), (.lit (.bool false))] [(0, 1, (.t 108))], none⟩, ⟨(some 20), .new (t_api_Head N) (.agg [(.lit (.int .i64 0)), (.lit (.slice none 0 0)), (.lit (.slice none 0 0)), (.lit (.bool false))]), none⟩, ⟨none, .store 4 (.t 20) (.t 109), none⟩]) (
 .seq (
  .ops [⟨(some 111), .mov (.t 10), none⟩, ⟨(some 112), .load (some 4) (.t 20), none⟩, ⟨(some 113), .call (.c (.fn (f_p_arena_Arena_Head N) [] [])) [(.t 111), (.t 112)], none⟩, ⟨(some 110), .mov (.t 113), none⟩, ⟨(some 114), .extract (.t 110) 0, none⟩, ⟨(some 115), .extract (.t 110) 1, none⟩, ⟨(some 21), .mov (.t 114), none⟩, ⟨(some 22), .mov (.t 115), none⟩]) (
 .seq (
  .ops [⟨(some 117), .mov (.t 13), none⟩, ⟨(some 118), .load (some 4) (.t 20), none⟩, ⟨(some 119), .call (.c (.fn (f_p_arena_Arena_Head N) [] [])) [(.t 117), (.t 118)], none⟩, ⟨(some 116), .mov (.t 119), none⟩, ⟨(some 120), .extract (.t 116) 0, none⟩, ⟨(some 121), .extract (.t 116) 1, none⟩, ⟨(some 23), .mov (.t 120), none⟩, ⟨(some 24), .mov (.t 121), none⟩]) (
 .seq (
  .seq (
   .ops [⟨(some 122), .mov (.t 17), none⟩, ⟨(some 123), .eq true .pint (.t 122) (.c (.lit (.int .i64 0))), none⟩, ⟨(some 124), .mov (.t 123), none⟩, ⟨(some 125), .mov (.t 19), (some (124, false))⟩, ⟨(some 126), .eq true .pint (.t 125) (.c (.lit (.int .i64 0))), (some (124, false))⟩, ⟨(some 127), .pick (.t 124) (.c (.lit (.bool true))) (.t 126), none⟩, ⟨(some 128), .mov (.t 127), none⟩, ⟨(some 129), .mov (.t 22), (some (128, false))⟩, ⟨(some 130), .eq true .pint (.t 129) (.c (.lit (.int .i64 0))), (some (128, false))⟩, ⟨(some 131), .pick (.t 128) (.c (.lit (.bool true))) (.t 130), none⟩, ⟨(some 132), .mov (.t 131), none⟩, ⟨(some 133), .mov (.t 24), (some (132, false))⟩, ⟨(some 134), .eq true .pint (.t 133) (.c (.lit (.int .i64 0))), (some (132, false))⟩, ⟨(some 135), .pick (.t 132) (.c (.lit (.bool true))) (.t 134), none⟩]) (
  .cond (.t 135) (
   .seq (
    .ops [⟨(some 8), .mov (.c (.lit (.bool true))), none⟩]) (
   .ret)) (
   .skip))) (
 .seq (
  .ops [⟨(some 136), .mov (.t 10), none⟩, ⟨(some 137), .call (.c (.fn (f_solve_New N) [] [])) [(.t 136)], none⟩, ⟨(some 138), .mov (.t 16), none⟩, ⟨(some 139), .mov (.t 21), none⟩, ⟨(some 140), .call (.c (.fn (f_p_solve_Solver_Claim N) [] [])) [(.t 137), (.t 138), (.t 139)], none⟩, ⟨(some 141), .mov (.t 13), none⟩, ⟨(some 142), .call (.c (.fn (f_solve_New N) [] [])) [(.t 141)], none⟩, ⟨(some 143), .mov (.t 2), none⟩, ⟨(some 144), .mov (.t 23), none⟩, ⟨(some 145), .call (.c (.fn (f_p_solve_Solver_Claim N) [] [])) [(.t 142), (.t 143), (.t 144)], none⟩, ⟨(some 25), .mov (.t 140), none⟩, ⟨(some 26), .mov (.t 145), none⟩]) (
 .seq (
  .seq (
   .ops [⟨(some 146), .mov (.t 25), none⟩, ⟨(some 147), .eq false .pint (.t 146) (.c (.lit (.int .i64 12))), none⟩, ⟨(some 148), .mov (.t 147), none⟩, ⟨(some 149), .mov (.t 26), (some (148, false))⟩, ⟨(some 150), .eq false .pint (.t 149) (.c (.lit (.int .i64 12))), (some (148, false))⟩, ⟨(some 151), .pick (.t 148) (.c (.lit (.bool true))) (.t 150), none⟩]) (
  .cond (.t 151) (
   .seq (
    .ops [⟨(some 8), .mov (.c (.lit (.bool true))), none⟩]) (
   .ret)) (
   .skip))) (
 .seq (
  .seq (
   .ops [⟨(some 152), .mov (.t 25), none⟩, ⟨(some 153), .mov (.t 26), none⟩, ⟨(some 154), .eq true .pint (.t 152) (.t 153), none⟩]) (
  .cond (.t 154) (
   .seq (
    .ops [⟨(some 8), .mov (.c (.lit (.bool false))), none⟩]) (
   .ret)) (
   .skip))) (
 .seq (
  .ops [⟨(some 155), .mov (.t 10), none⟩, ⟨(some 156), .call (.c (.fn (f_solve_New N) [] [])) [(.t 155)], none⟩, ⟨(some 157), .mov (.t 21), none⟩, ⟨(some 158), .mov (.t 18), none⟩, ⟨(some 159), .call (.c (.fn (f_p_solve_Solver_Claim N) [] [])) [(.t 156), (.t 157), (.t 158)], none⟩, ⟨(some 27), .mov (.t 159), none⟩]) (
 .seq (
  .seq (
   .ops [⟨(some 160), .mov (.t 26), none⟩, ⟨(some 161), .eq true .pint (.t 160) (.c (.lit (.int .i64 0))), none⟩]) (
  .cond (.t 161) (
   .seq (
    .ops [⟨(some 162), .mov (.t 27), none⟩, ⟨(some 163), .eq false .pint (.t 162) (.c (.lit (.int .i64 0))), none⟩, ⟨(some 164), .mov (.t 163), none⟩, ⟨(some 165), .mov (.t 27), (some (164, false))⟩, ⟨(some 166), .eq false .pint (.t 165) (.c (.lit (.int .i64 10))), (some (164, false))⟩, ⟨(some 167), .pick (.t 164) (.c (.lit (.bool true))) (.t 166), none⟩, ⟨(some 168), .mov (.t 167), none⟩, ⟨(some 169), .mov (.t 27), (some (168, false))⟩, ⟨(some 170), .eq false .pint (.t 169) (.c (.lit (.int .i64 12))), (some (168, false))⟩, ⟨(some 171), .pick (.t 168) (.c (.lit (.bool true))) (.t 170), none⟩, ⟨(some 8), .mov (.t 171), none⟩]) (
   .ret)) (
   .skip))) (
 .seq (
  .ops [⟨(some 173), .mov (.t 0), none⟩, ⟨(some 174), .mov (.t 1), none⟩, ⟨(some 175), .call (.c (.fn (f_law14_bounded N) [] [])) [(.t 173), (.t 174)], none⟩, ⟨(some 172), .mov (.t 175), none⟩, ⟨(some 176), .extract (.t 172) 0, none⟩, ⟨(some 177), .extract (.t 172) 1, none⟩, ⟨(some 178), .extract (.t 172) 2, none⟩, ⟨(some 28), .mov (.t 176), none⟩, ⟨(some 29), .mov (.t 177), none⟩, ⟨(some 30), .mov (.t 178), none⟩]) (
 .seq (
  .ops [⟨(some 180), .mov (.t 28), none⟩, ⟨(some 181), .load (some 4) (.t 20), none⟩, ⟨(some 182), .call (.c (.fn (f_p_arena_Arena_Head N) [] [])) [(.t 180), (.t 181)], none⟩, ⟨(some 179), .mov (.t 182), none⟩, ⟨(some 183), .extract (.t 179) 0, none⟩, ⟨(some 184), .extract (.t 179) 1, none⟩, ⟨(some 31), .mov (.t 183), none⟩, ⟨(some 32), .mov (.t 184), none⟩]) (
 .seq (
  .ops [⟨(some 185), .mov (.t 28), none⟩, ⟨(some 186), .call (.c (.fn (f_solve_New N) [] [])) [(.t 185)], none⟩, ⟨(some 187), .mov (.t 31), none⟩, ⟨(some 188), .mov (.t 2), none⟩, ⟨(some 189), .call (.c (.fn (f_p_solve_Solver_Claim N) [] [])) [(.t 186), (.t 187), (.t 188)], none⟩, ⟨(some 33), .mov (.t 189), none⟩]) (
 .seq (
  .ops [⟨(some 190), .mov (.t 32), none⟩, ⟨(some 191), .eq false .pint (.t 190) (.c (.lit (.int .i64 0))), none⟩, ⟨(some 192), .mov (.t 191), none⟩, ⟨(some 193), .mov (.t 27), (some (192, true))⟩, ⟨(some 194), .mov (.t 33), (some (192, true))⟩, ⟨(some 195), .eq false .pint (.t 193) (.t 194), (some (192, true))⟩, ⟨(some 196), .mov (.t 195), (some (192, true))⟩, ⟨(some 197), .mov (.t 27), (some (196, false))⟩, ⟨(some 198), .eq false .pint (.t 197) (.c (.lit (.int .i64 12))), (some (196, false))⟩, ⟨(some 199), .pick (.t 196) (.c (.lit (.bool true))) (.t 198), (some (192, true))⟩, ⟨(some 200), .mov (.t 199), (some (192, true))⟩, ⟨(some 201), .mov (.t 33), (some (200, false))⟩, ⟨(some 202), .eq false .pint (.t 201) (.c (.lit (.int .i64 12))), (some (200, false))⟩, ⟨(some 203), .pick (.t 200) (.c (.lit (.bool true))) (.t 202), (some (192, true))⟩, ⟨(some 204), .pick (.t 192) (.t 203) (.c (.lit (.bool false))), none⟩, ⟨(some 8), .mov (.t 204), none⟩]) (
 .ret)))))))))))))))))))
/-- azimuth/azimuthlaw14.LiftApart -/
def C_law14_LiftApart (N : Nat → Nat) : AFunc := ⟨205, [.inl 8],
 .seq (
  .ops [⟨(some 8), .mov (.c (.lit (.bool false))), none⟩]) (
 .seq (
  .seq (
   .ops [⟨(some 34), .call (.c (.fn (f_law14_lives N) [] [])) [], none⟩, ⟨(some 35), .un .not (.t 34), none⟩]) (
  .cond (.t 35) (
   .seq (
    .ops [⟨(some 8), .mov (.c (.lit (.bool false))), none⟩]) (
   .ret)) (
   .skip))) (
 .seq (
  .seq (
   .ops [⟨(some 36), .mov (.t 0), none⟩, ⟨(some 37), .len (.t 36), none⟩, ⟨(some 38), .mov (.c (.lit (.int .i64 0))), none⟩]) (
  .block 0 (
   .loop (L_law14_LiftApart_1 N)))) (K_law14_LiftApart_1 N))), false⟩

/-- azimuth/azimuthlaw14.LiftCounts -/
def C_law14_LiftCounts (N : Nat → Nat) : AFunc := ⟨74, [.inl 10],
 .seq (
  .ops [⟨(some 10), .mov (.c (.lit (.bool false))), none⟩]) (
 .seq (
  .seq (
   .ops [⟨(some 16), .call (.c (.fn (f_law14_lives N) [] [])) [], none⟩, ⟨(some 17), .un .not (.t 16), none⟩]) (
  .cond (.t 17) (
   .seq (
    .ops [⟨(some 10), .mov (.c (.lit (.bool false))), none⟩]) (
   .ret)) (
   .skip))) (
 .seq (
  .ops [⟨(some 19), .mov (.t 0), none⟩, ⟨(some 20), .mov (.t 1), none⟩, ⟨(some 21), .call (.c (.fn (f_law14_bounded N) [] [])) [(.t 19), (.t 20)], none⟩, ⟨(some 18), .mov (.t 21), none⟩, ⟨(some 22), .extract (.t 18) 0, none⟩, ⟨(some 23), .extract (.t 18) 1, none⟩, ⟨(some 24), .extract (.t 18) 2, none⟩, ⟨(some 11), .mov (.t 22), none⟩, ⟨(some 12), .mov (.t 23), none⟩, ⟨(some 13), .mov (.t 24), none⟩]) (
 .seq (
  .seq (
   .ops [⟨(some 25), .mov (.t 13), none⟩, ⟨(some 26), .un .not (.t 25), none⟩]) (
  .cond (.t 26) (
   .seq (
    .ops [⟨(some 10), .mov (.c (.lit (.bool true))), none⟩]) (
   .ret)) (
   .skip))) (
 .seq (
  .ops [⟨(some 27), .mov (.t 2), none⟩, ⟨(some 28), .conv (.toInt .u64) (.t 27), none⟩, ⟨(some 29), .mov (.t 12), none⟩, ⟨(some 30), .conv (.toInt .u64) (.t 29), none⟩, ⟨(some 31), .bin .rem (.t 28) (.t 30), none⟩, ⟨(some 32), .conv (.toInt .i64) (.t 31), none⟩, ⟨(some 2), .mov (.t 32), none⟩]) (
 .seq (
  .ops [⟨(some 34), .mov (.t 11), none⟩, ⟨(some 35), .mov (.t 2), none⟩, ⟨(some 36), .mov (.t 3), none⟩, ⟨(some 37), .bin .rem (.t 36) (.c (.lit (.int .u8 4))), none⟩, ⟨(some 38), .conv (.toInt .i64) (.t 37), none⟩, ⟨(some 39), .mov (.t 4), none⟩, ⟨(some 40), .bin .rem (.t 39) (.c (.lit (.int .u8 4))), none⟩, ⟨(some 41), .conv (.toInt .i64) (.t 40), none⟩, ⟨(some 42), .call (.c (.fn (f_lift_Fresh N) [] [])) [(.t 34), (.t 35), (.t 38), (.t 41)], none⟩, ⟨(some 33), .mov (.t 42), none⟩, ⟨(some 43), .extract (.t 33) 0, none⟩, ⟨(some 44), .extract (.t 33) 1, none⟩, ⟨(some 14), .mov (.t 43), none⟩, ⟨(some 15), .mov (.t 44), none⟩]) (
 .seq (
  .seq (
   .ops [⟨(some 45), .mov (.t 15), none⟩, ⟨(some 46), .eq true .pint (.t 45) (.c (.lit (.int .i64 0))), none⟩]) (
  .cond (.t 46) (
   .seq (
    .ops [⟨(some 47), .mov (.t 15), none⟩, ⟨(some 48), .eq false .pint (.t 47) (.c (.lit (.int .i64 12))), none⟩, ⟨(some 10), .mov (.t 48), none⟩]) (
   .ret)) (
   .skip))) (
 .seq (
  .seq (
   .ops [⟨(some 49), .mov (.t 4), none⟩, ⟨(some 50), .bin .rem (.t 49) (.c (.lit (.int .u8 4))), none⟩, ⟨(some 51), .mov (.t 3), none⟩, ⟨(some 52), .bin .rem (.t 51) (.c (.lit (.int .u8 4))), none⟩, ⟨(some 53), .bin .leq (.t 50) (.t 52), none⟩]) (
  .cond (.t 53) (
   .seq (
    .ops [⟨(some 54), .mov (.t 11), none⟩, ⟨(some 55), .mov (.t 14), none⟩, ⟨(some 56), .mov (.t 3), none⟩, ⟨(some 57), .bin .rem (.t 56) (.c (.lit (.int .u8 4))), none⟩, ⟨(some 58), .conv (.toInt .i64) (.t 57), none⟩, ⟨(some 59), .call (.c (.fn (f_lift_Free N) [] [])) [(.t 54), (.t 55), (.t 58)], none⟩, ⟨(some 60), .eq false .pint (.t 59) (.c (.lit (.int .i64 0))), none⟩, ⟨(some 10), .mov (.t 60), none⟩]) (
   .ret)) (
   .skip))) (
 .seq (
  .ops [⟨(some 61), .mov (.t 11), none⟩, ⟨(some 62), .mov (.t 14), none⟩, ⟨(some 63), .mov (.t 3), none⟩, ⟨(some 64), .bin .rem (.t 63) (.c (.lit (.int .u8 4))), none⟩, ⟨(some 65), .conv (.toInt .i64) (.t 64), none⟩, ⟨(some 66), .call (.c (.fn (f_lift_Free N) [] [])) [(.t 61), (.t 62), (.t 65)], none⟩, ⟨(some 67), .mov (.t 11), none⟩, ⟨(some 68), .mov (.t 2), none⟩, ⟨(some 69), .mov (.t 3), none⟩, ⟨(some 70), .bin .rem (.t 69) (.c (.lit (.int .u8 4))), none⟩, ⟨(some 71), .conv (.toInt .i64) (.t 70), none⟩, ⟨(some 72), .call (.c (.fn (f_lift_Free N) [] [])) [(.t 67), (.t 68), (.t 71)], none⟩, ⟨(some 73), .eq false .pint (.t 66) (.t 72), none⟩, ⟨(some 10), .mov (.t 73), none⟩]) (
 .ret))))))))), false⟩

def L_law14_LiftReach_1 (N : Nat → Nat) : AC :=
    .seq (
     .ops [⟨(some 53), .bin .lss (.t 52) (.t 51), none⟩]) (
    .seq (
     .cond (.t 53) (
      .skip) (
      .exit 0)) (
    .seq (
     .block 1 (
      .seq (
       .ops [⟨(some 54), .mov (.t 52), none⟩, ⟨(some 55), .iaddr 1 (.t 50) (.t 52), none⟩, ⟨(some 56), .load none (.t 55), none⟩, ⟨(some 14), .mov (.t 54), none⟩, ⟨(some 15), .mov (.t 56), none⟩]) (
      .seq (
       .seq (
        .ops [⟨(some 57), .mov (.t 13), none⟩, ⟨(some 58), .mov (.t 15), none⟩, ⟨(some 59), .lookup (.int .i64) (.lit (.bool false)) (.t 57) (.t 58) false, none⟩, ⟨(some 60), .mov (.t 59), none⟩, ⟨(some 61), .mov (.t 14), (some (60, false))⟩, ⟨(some 62), .bin .gtr (.t 61) (.c (.lit (.int .i64 0))), (some (60, false))⟩, ⟨(some 63), .mov (.t 62), (some (60, false))⟩, ⟨(some 64), .mov (.t 12), (some (63, true))⟩, ⟨(some 65), .mov (.t 14), (some (63, true))⟩, ⟨(some 66), .bin .sub (.t 65) (.c (.lit (.int .i64 1))), (some (63, true))⟩, ⟨(some 67), .iaddr 1 (.t 64) (.t 66), (some (63, true))⟩, ⟨(some 68), .load none (.t 67), (some (63, true))⟩, ⟨(some 69), .mov (.t 15), (some (63, true))⟩, ⟨(some 70), .bin .geq (.t 68) (.t 69), (some (63, true))⟩, ⟨(some 71), .pick (.t 63) (.t 70) (.c (.lit (.bool false))), (some (60, false))⟩, ⟨(some 72), .pick (.t 60) (.c (.lit (.bool true))) (.t 71), none⟩]) (
       .cond (.t 72) (
        .seq (
         .ops [⟨(some 8), .mov (.c (.lit (.bool false))), none⟩]) (
        .ret)) (
        .skip))) (
      .ops [⟨(some 73), .mov (.t 13), none⟩, ⟨(some 74), .mov (.t 15), none⟩, ⟨none, .mapupd (.int .i64) (.t 73) (.t 74) (.c (.lit (.bool true))), none⟩])))) (
    .ops [⟨(some 75), .bin .add (.t 52) (.c (.lit (.int .i64 1))), none⟩, ⟨(some 52), .mov (.t 75), none⟩])))
def L_law14_LiftReach_3 (N : Nat → Nat) : AC :=
        .seq (
         .ops [⟨(some 127), .bin .lss (.t 126) (.t 125), none⟩]) (
        .seq (
         .cond (.t 127) (
          .skip) (
          .exit 4)) (
        .seq (
         .block 5 (
          .seq (
           .ops [⟨(some 128), .iaddr 1 (.t 124) (.t 126), none⟩, ⟨(some 129), .load none (.t 128), none⟩, ⟨(some 25), .mov (.t 129), none⟩]) (
          .seq (
           .ops [⟨(some 130), .mov (.t 17), none⟩, ⟨(some 131), .mov (.t 25), none⟩, ⟨(some 132), .lookup (.int .i64) (.lit (.bool false)) (.t 130) (.t 131) false, none⟩, ⟨(some 133), .un .not (.t 132), none⟩]) (
          .cond (.t 133) (
           .seq (
            .ops [⟨(some 134), .mov (.t 17), none⟩, ⟨(some 135), .mov (.t 25), none⟩, ⟨none, .mapupd (.int .i64) (.t 134) (.t 135) (.c (.lit (.bool true))), none⟩]) (
           .ops [⟨(some 136), .mov (.t 18), none⟩, ⟨(some 137), .mov (.t 25), none⟩, ⟨(some 138), .bslice (t_int N) 1 none 1 [(.lit (.int .i64 0))] [(0, 1, (.t 137))], none⟩, ⟨(some 139), .append (t_int N) 1 8 (.t 136) (.t 138), none⟩, ⟨(some 18), .mov (.t 139), none⟩])) (
           .skip))))) (
        .ops [⟨(some 140), .bin .add (.t 126) (.c (.lit (.int .i64 1))), none⟩, ⟨(some 126), .mov (.t 140), none⟩])))
def K_law14_LiftReach_2 (N : Nat → Nat) : AC :=
 .ops [⟨(some 89), .mov (.t 19), none⟩, ⟨(some 90), .bin .add (.t 89) (.c (.lit (.int .i64 1))), none⟩, ⟨(some 19), .mov (.t 90), none⟩]
def L_law14_LiftReach_2 (N : Nat → Nat) : AC :=
    .seq (
     .seq (
      .ops [⟨(some 85), .mov (.t 19), none⟩, ⟨(some 86), .mov (.t 18), none⟩, ⟨(some 87), .len (.t 86), none⟩, ⟨(some 88), .bin .lss (.t 85) (.t 87), none⟩]) (
     .cond (.t 88) (
      .skip) (
      .exit 2))) (
    .seq (
     .block 3 (
      .seq (
       .ops [⟨(some 91), .mov (.t 18), none⟩, ⟨(some 92), .mov (.t 19), none⟩, ⟨(some 93), .iaddr 1 (.t 91) (.t 92), none⟩, ⟨(some 94), .load none (.t 93), none⟩, ⟨(some 20), .mov (.t 94), none⟩]) (
      .seq (
       .seq (
        .ops [⟨(some 95), .mov (.t 13), none⟩, ⟨(some 96), .mov (.t 20), none⟩, ⟨(some 97), .lookup (.int .i64) (.lit (.bool false)) (.t 95) (.t 96) false, none⟩, ⟨(some 98), .un .not (.t 97), none⟩]) (
       .cond (.t 98) (
        .seq (
         .ops [⟨(some 8), .mov (.c (.lit (.bool false))), none⟩]) (
        .ret)) (
        .skip))) (
      .seq (
       .ops [⟨(some 21), .mov (.c (.lit (.slice none 0 0))), none⟩]) (
      .seq (
       .seq (
        .ops [⟨(some 100), .mov (.t 9), none⟩, ⟨(some 101), .mov (.t 20), none⟩, ⟨(some 102), .call (.c (.fn (f_p_arena_Arena_At N) [] [])) [(.t 100), (.t 101)], none⟩, ⟨(some 99), .mov (.t 102), none⟩, ⟨(some 103), .extract (.t 99) 0, none⟩, ⟨(some 104), .extract (.t 99) 1, none⟩, ⟨(some 22), .new (t_api_Head N) (.agg [(.lit (.int .i64 0)), (.lit (.slice none 0 0)), (.lit (.slice none 0 0)), (.lit (.bool false))]), none⟩, ⟨none, .store 4 (.t 22) (.t 103), none⟩, ⟨(some 23), .mov (.t 104), none⟩]) (
       .seq (
        .ops [⟨(some 105), .mov (.t 23), none⟩]) (
       .cond (.t 105) (
        .ops [⟨(some 106), .faddr 2 (.t 22), none⟩, ⟨(some 107), .load none (.t 106), none⟩, ⟨(some 21), .mov (.t 107), none⟩]) (
        .seq (
         .ops [⟨(some 108), .mov (.t 9), none⟩, ⟨(some 109), .mov (.t 20), none⟩, ⟨(some 110), .call (.c (.fn (f_p_arena_Arena_Level N) [] [])) [(.t 108), (.t 109)], none⟩, ⟨(some 111), .mov (.t 3), none⟩, ⟨(some 112), .bin .rem (.t 111) (.c (.lit (.int .u8 4))), none⟩, ⟨(some 113), .conv (.toInt .i64) (.t 112), none⟩, ⟨(some 114), .bin .gtr (.t 110) (.t 113), none⟩]) (
        .cond (.t 114) (
         .seq (
          .ops [⟨(some 115), .mov (.t 16), none⟩, ⟨(some 116), .bin .add (.t 115) (.c (.lit (.int .i64 1))), none⟩, ⟨(some 16), .mov (.t 116), none⟩]) (
         .ops [⟨(some 117), .mov (.t 9), none⟩, ⟨(some 118), .mov (.t 20), none⟩, ⟨(some 119), .call (.c (.fn (f_p_arena_Arena_Low N) [] [])) [(.t 117), (.t 118)], none⟩, ⟨(some 120), .mov (.t 9), none⟩, ⟨(some 121), .mov (.t 20), none⟩, ⟨(some 122), .call (.c (.fn (f_p_arena_Arena_High N) [] [])) [(.t 120), (.t 121)], none⟩, ⟨(some 123), .append (t_int N) 1 8 (.t 119) (.t 122), none⟩, ⟨(some 21), .mov (.t 123), none⟩])) (
         .skip)))))) (
      .seq (
       .ops [⟨(some 124), .mov (.t 21), none⟩, ⟨(some 125), .len (.t 124), none⟩, ⟨(some 126), .mov (.c (.lit (.int .i64 0))), none⟩]) (
      .block 4 (
       .loop (L_law14_LiftReach_3 N))))))))) (K_law14_LiftReach_2 N))
def K_law14_LiftReach_3 (N : Nat → Nat) : AC :=
 .seq (
  .ops [⟨(some 141), .mov (.t 18), none⟩, ⟨(some 142), .len (.t 141), none⟩, ⟨(some 143), .mov (.t 12), none⟩, ⟨(some 144), .len (.t 143), none⟩, ⟨(some 145), .eq false .pint (.t 142) (.t 144), none⟩, ⟨(some 146), .mov (.t 145), none⟩, ⟨(some 147), .mov (.t 9), (some (146, true))⟩, ⟨(some 148), .mov (.t 2), (some (146, true))⟩, ⟨(some 149), .mov (.t 3), (some (146, true))⟩, ⟨(some 150), .bin .rem (.t 149) (.c (.lit (.int .u8 4))), (some (146, true))⟩, ⟨(some 151), .conv (.toInt .i64) (.t 150), (some (146, true))⟩, ⟨(some 152), .call (.c (.fn (f_lift_Free N) [] [])) [(.t 147), (.t 148), (.t 151)], (some (146, true))⟩, ⟨(some 153), .mov (.t 16), (some (146, true))⟩, ⟨(some 154), .eq false .pint (.t 152) (.t 153), (some (146, true))⟩, ⟨(some 155), .pick (.t 146) (.t 154) (.c (.lit (.bool false))), none⟩, ⟨(some 8), .mov (.t 155), none⟩]) (
 .ret)
def K_law14_LiftReach_1 (N : Nat → Nat) : AC :=
 .seq (
  .ops [⟨(some 16), .mov (.c (.lit (.int .i64 0))), none⟩]) (
 .seq (
  .seq (
   .ops [⟨(some 76), .mov (.t 13), none⟩, ⟨(some 77), .mov (.t 2), none⟩, ⟨(some 78), .lookup (.int .i64) (.lit (.bool false)) (.t 76) (.t 77) false, none⟩, ⟨(some 79), .un .not (.t 78), none⟩]) (
  .cond (.t 79) (
   .seq (
    .ops [⟨(some 8), .mov (.c (.lit (.bool false))), none⟩]) (
   .ret)) (
   .skip))) (
 .seq (
  .ops [⟨(some 80), .mkmap, none⟩, ⟨(some 81), .mov (.t 2), none⟩, ⟨none, .mnmx false [], none⟩, ⟨(some 82), .mov (.t 80), none⟩, ⟨(some 17), .mov (.t 82), none⟩]) (
 .seq (
  .ops [⟨(some 83), .mov (.t 2), none⟩, ⟨(some 84), .bslice (t_int N) 1 none 1 [(.lit (.int .i64 0))] [(0, 1, (.t 83))], none⟩, ⟨(some 18), .mov (.t 84), none⟩]) (
 .seq (
  .seq (
   .ops [⟨(some 19), .mov (.c (.lit (.int .i64 0))), none⟩]) (
  .block 2 (
   .loop (L_law14_LiftReach_2 N)))) (K_law14_LiftReach_3 N)))))
/-- azimuth/azimuthlaw14.LiftReach -/
def C_law14_LiftReach (N : Nat → Nat) : AFunc := ⟨156, [.inl 8],
 .seq (
  .ops [⟨(some 8), .mov (.c (.lit (.bool false))), none⟩]) (
 .seq (
  .seq (
   .ops [⟨(some 26), .call (.c (.fn (f_law14_lives N) [] [])) [], none⟩, ⟨(some 27), .un .not (.t 26), none⟩]) (
  .cond (.t 27) (
   .seq (
    .ops [⟨(some 8), .mov (.c (.lit (.bool false))), none⟩]) (
   .ret)) (
   .skip))) (
 .seq (
  .ops [⟨(some 29), .mov (.t 0), none⟩, ⟨(some 30), .mov (.t 1), none⟩, ⟨(some 31), .call (.c (.fn (f_law14_bounded N) [] [])) [(.t 29), (.t 30)], none⟩, ⟨(some 28), .mov (.t 31), none⟩, ⟨(some 32), .extract (.t 28) 0, none⟩, ⟨(some 33), .extract (.t 28) 1, none⟩, ⟨(some 34), .extract (.t 28) 2, none⟩, ⟨(some 9), .mov (.t 32), none⟩, ⟨(some 10), .mov (.t 33), none⟩, ⟨(some 11), .mov (.t 34), none⟩]) (
 .seq (
  .seq (
   .ops [⟨(some 35), .mov (.t 11), none⟩, ⟨(some 36), .un .not (.t 35), none⟩]) (
  .cond (.t 36) (
   .seq (
    .ops [⟨(some 8), .mov (.c (.lit (.bool true))), none⟩]) (
   .ret)) (
   .skip))) (
 .seq (
  .ops [⟨(some 37), .mov (.t 2), none⟩, ⟨(some 38), .conv (.toInt .u64) (.t 37), none⟩, ⟨(some 39), .mov (.t 10), none⟩, ⟨(some 40), .conv (.toInt .u64) (.t 39), none⟩, ⟨(some 41), .bin .rem (.t 38) (.t 40), none⟩, ⟨(some 42), .conv (.toInt .i64) (.t 41), none⟩, ⟨(some 2), .mov (.t 42), none⟩]) (
 .seq (
  .ops [⟨(some 43), .mov (.t 9), none⟩, ⟨(some 44), .mov (.t 2), none⟩, ⟨(some 45), .mov (.t 3), none⟩, ⟨(some 46), .bin .rem (.t 45) (.c (.lit (.int .u8 4))), none⟩, ⟨(some 47), .conv (.toInt .i64) (.t 46), none⟩, ⟨(some 48), .call (.c (.fn (f_lift_Reach N) [] [])) [(.t 43), (.t 44), (.t 47)], none⟩, ⟨(some 12), .mov (.t 48), none⟩]) (
 .seq (
  .ops [⟨(some 49), .mkmap, none⟩, ⟨(some 13), .mov (.t 49), none⟩]) (
 .seq (
  .seq (
   .ops [⟨(some 50), .mov (.t 12), none⟩, ⟨(some 51), .len (.t 50), none⟩, ⟨(some 52), .mov (.c (.lit (.int .i64 0))), none⟩]) (
  .block 0 (
   .loop (L_law14_LiftReach_1 N)))) (K_law14_LiftReach_1 N)))))))), false⟩

/-- azimuth/azimuthlaw14.LiftRefuses -/
def C_law14_LiftRefuses (N : Nat → Nat) : AFunc := ⟨60, [.inl 6],
 .seq (
  .ops [⟨(some 6), .mov (.c (.lit (.bool false))), none⟩]) (
 .seq (
  .seq (
   .ops [⟨(some 13), .call (.c (.fn (f_law14_lives N) [] [])) [], none⟩, ⟨(some 14), .un .not (.t 13), none⟩]) (
  .cond (.t 14) (
   .seq (
    .ops [⟨(some 6), .mov (.c (.lit (.bool false))), none⟩]) (
   .ret)) (
   .skip))) (
 .seq (
  .ops [⟨(some 16), .call (.c (.fn (f_arena_New N) [] [])) [(.c (.lit (.int .i64 9)))], none⟩, ⟨(some 15), .mov (.t 16), none⟩, ⟨(some 17), .extract (.t 15) 0, none⟩, ⟨(some 18), .extract (.t 15) 1, none⟩, ⟨(some 7), .mov (.t 17), none⟩, ⟨(some 8), .mov (.t 18), none⟩]) (
 .seq (
  .ops [⟨(some 19), .mov (.t 7), none⟩, ⟨(some 20), .call (.c (.fn (f_p_arena_Arena_Var N) [] [])) [(.t 19), (.c (.lit (.int .i64 1)))], none⟩]) (
 .seq (
  .ops [⟨(some 22), .mov (.t 7), none⟩, ⟨(some 23), .mov (.t 0), none⟩, ⟨(some 24), .mov (.t 1), none⟩, ⟨(some 25), .mov (.t 2), none⟩, ⟨(some 26), .call (.c (.fn (f_lift_Fresh N) [] [])) [(.t 22), (.t 23), (.t 24), (.t 25)], none⟩, ⟨(some 21), .mov (.t 26), none⟩, ⟨(some 27), .extract (.t 21) 0, none⟩, ⟨(some 28), .extract (.t 21) 1, none⟩, ⟨(some 9), .mov (.t 27), none⟩, ⟨(some 10), .mov (.t 28), none⟩]) (
 .seq (
  .ops [⟨(some 30), .call (.c (.fn (f_lift_Fresh N) [] [])) [(.c (.lit (.pointer none))), (.c (.lit (.int .i64 0))), (.c (.lit (.int .i64 0))), (.c (.lit (.int .i64 0)))], none⟩, ⟨(some 29), .mov (.t 30), none⟩, ⟨(some 31), .extract (.t 29) 0, none⟩, ⟨(some 32), .extract (.t 29) 1, none⟩, ⟨(some 11), .mov (.t 31), none⟩, ⟨(some 12), .mov (.t 32), none⟩]) (
 .seq (
  .seq (
   .ops [⟨(some 33), .mov (.t 0), none⟩, ⟨(some 34), .eq true .pint (.t 33) (.c (.lit (.int .i64 0))), none⟩, ⟨(some 35), .mov (.t 34), none⟩, ⟨(some 36), .mov (.t 1), (some (35, false))⟩, ⟨(some 37), .bin .lss (.t 36) (.c (.lit (.int .i64 0))), (some (35, false))⟩, ⟨(some 38), .pick (.t 35) (.c (.lit (.bool true))) (.t 37), none⟩, ⟨(some 39), .mov (.t 38), none⟩, ⟨(some 40), .mov (.t 2), (some (39, false))⟩, ⟨(some 41), .bin .lss (.t 40) (.c (.lit (.int .i64 0))), (some (39, false))⟩, ⟨(some 42), .pick (.t 39) (.c (.lit (.bool true))) (.t 41), none⟩]) (
  .cond (.t 42) (
   .seq (
    .ops [⟨(some 43), .mov (.t 10), none⟩, ⟨(some 44), .eq true .pint (.t 43) (.c (.lit (.int .i64 1))), none⟩]) (
   .cond (.t 44) (
    .seq (
     .ops [⟨(some 6), .mov (.c (.lit (.bool false))), none⟩]) (
    .ret)) (
    .skip))) (
   .seq (
    .ops [⟨(some 45), .mov (.t 10), none⟩, ⟨(some 46), .eq true .pint (.t 45) (.c (.lit (.int .i64 0))), none⟩]) (
   .cond (.t 46) (
    .seq (
     .ops [⟨(some 6), .mov (.c (.lit (.bool false))), none⟩]) (
    .ret)) (
    .skip))))) (
 .seq (
  .ops [⟨(some 47), .mov (.t 12), none⟩, ⟨(some 48), .eq false .pint (.t 47) (.c (.lit (.int .i64 1))), none⟩, ⟨(some 49), .mov (.t 48), none⟩, ⟨(some 50), .mov (.t 7), (some (49, true))⟩, ⟨(some 51), .call (.c (.fn (f_lift_Reach N) [] [])) [(.t 50), (.c (.lit (.int .i64 9))), (.c (.lit (.int .i64 0)))], (some (49, true))⟩, ⟨(some 52), .len (.t 51), (some (49, true))⟩, ⟨(some 53), .call (.c (.fn (f_lift_Reach N) [] [])) [(.c (.lit (.pointer none))), (.c (.lit (.int .i64 0))), (.c (.lit (.int .i64 0)))], (some (49, true))⟩, ⟨(some 54), .len (.t 53), (some (49, true))⟩, ⟨(some 55), .bin .add (.t 52) (.t 54), (some (49, true))⟩, ⟨(some 56), .call (.c (.fn (f_lift_Free N) [] [])) [(.c (.lit (.pointer none))), (.c (.lit (.int .i64 0))), (.c (.lit (.int .i64 0)))], (some (49, true))⟩, ⟨(some 57), .bin .add (.t 55) (.t 56), (some (49, true))⟩, ⟨(some 58), .eq false .pint (.t 57) (.c (.lit (.int .i64 0))), (some (49, true))⟩, ⟨(some 59), .pick (.t 49) (.t 58) (.c (.lit (.bool false))), none⟩, ⟨(some 6), .mov (.t 59), none⟩]) (
 .ret)))))))), false⟩

def L_law14_bounded_1 (N : Nat → Nat) : AC :=
    .seq (
     .ops [⟨(some 31), .bin .lss (.t 30) (.t 29), none⟩]) (
    .seq (
     .cond (.t 31) (
      .skip) (
      .exit 0)) (
    .seq (
     .block 1 (
      .seq (
       .ops [⟨(some 32), .iaddr 2 (.t 28) (.t 30), none⟩, ⟨(some 33), .load (some 2) (.t 32), none⟩, ⟨(some 12), .new (t_2_int N) (.agg [(.lit (.int .i64 0)), (.lit (.int .i64 0))]), none⟩, ⟨none, .store 2 (.t 12) (.t 33), none⟩]) (
      .seq (
       .dops 8 [⟨(some 34), .mov (.t 10), none⟩, ⟨none, .mnmx false [], none⟩, ⟨(some 36), .load none (.t 35), none⟩, ⟨(some 37), .conv (.toInt .u64) (.t 36), none⟩, ⟨(some 38), .mov (.t 8), none⟩, ⟨(some 39), .len (.t 38), none⟩, ⟨(some 40), .conv (.toInt .u64) (.t 39), none⟩, ⟨(some 41), .bin .rem (.t 37) (.t 40), none⟩, ⟨(some 42), .conv (.toInt .i64) (.t 41), none⟩, ⟨none, .mnmx false [], none⟩, ⟨(some 44), .load none (.t 43), none⟩, ⟨(some 45), .conv (.toInt .u64) (.t 44), none⟩, ⟨(some 46), .mov (.t 8), none⟩, ⟨(some 47), .len (.t 46), none⟩, ⟨(some 48), .conv (.toInt .u64) (.t 47), none⟩, ⟨(some 49), .bin .rem (.t 45) (.t 48), none⟩, ⟨(some 50), .conv (.toInt .i64) (.t 49), none⟩, ⟨(some 51), .call (.c (.fn (f_p_solve_Solver_Claim N) [] [])) [(.t 34), (.t 42), (.t 50)], none⟩, ⟨(some 52), .eq true .pint (.t 51) (.c (.lit (.int .i64 0))), none⟩] [0, 0, 2, 0, 0, 0, 0, 0, 0, 0, 2, 0, 0, 0, 0, 0, 0, 0, 0] []) (
      .cond (.t 52) (
       .seq (
        .ops [⟨(some 4), .mov (.c (.lit (.pointer none))), none⟩, ⟨(some 5), .mov (.c (.lit (.int .i64 0))), none⟩, ⟨(some 6), .mov (.c (.lit (.bool false))), none⟩]) (
       .ret)) (
       .skip))))) (
    .ops [⟨(some 53), .bin .add (.t 30) (.c (.lit (.int .i64 1))), none⟩, ⟨(some 30), .mov (.t 53), none⟩])))
def K_law14_bounded_1 (N : Nat → Nat) : AC :=
 .seq (
  .ops [⟨(some 54), .mov (.t 7), none⟩, ⟨(some 55), .mov (.t 8), none⟩, ⟨(some 56), .len (.t 55), none⟩, ⟨(some 57), .mov (.t 7), none⟩, ⟨(some 58), .call (.c (.fn (f_p_arena_Arena_Len N) [] [])) [(.t 57)], none⟩, ⟨(some 59), .bin .lss (.t 58) (.c (.lit (.int .i64 2000))), none⟩, ⟨(some 4), .mov (.t 54), none⟩, ⟨(some 5), .mov (.t 56), none⟩, ⟨(some 6), .mov (.t 59), none⟩]) (
 .ret)
/-- azimuth/azimuthlaw14.bounded -/
def C_law14_bounded (N : Nat → Nat) : AFunc := ⟨60, [.inl 4, .inl 5, .inl 6],
 .seq (
  .ops [⟨(some 4), .mov (.c (.lit (.pointer none))), none⟩, ⟨(some 5), .mov (.c (.lit (.int .i64 0))), none⟩, ⟨(some 6), .mov (.c (.lit (.bool false))), none⟩]) (
 .seq (
  .ops [⟨(some 14), .mov (.t 0), none⟩, ⟨(some 15), .call (.c (.fn (f_law13_Made N) [] [])) [(.t 14)], none⟩, ⟨(some 13), .mov (.t 15), none⟩, ⟨(some 16), .extract (.t 13) 0, none⟩, ⟨(some 17), .extract (.t 13) 1, none⟩, ⟨(some 18), .extract (.t 13) 2, none⟩, ⟨(some 7), .mov (.t 16), none⟩, ⟨(some 8), .mov (.t 17), none⟩, ⟨(some 9), .mov (.t 18), none⟩]) (
 .seq (
  .seq (
   .ops [⟨(some 19), .mov (.t 9), none⟩, ⟨(some 20), .un .not (.t 19), none⟩, ⟨(some 21), .mov (.t 20), none⟩, ⟨(some 22), .mov (.t 1), (some (21, false))⟩, ⟨(some 23), .len (.t 22), (some (21, false))⟩, ⟨(some 24), .bin .gtr (.t 23) (.c (.lit (.int .i64 12))), (some (21, false))⟩, ⟨(some 25), .pick (.t 21) (.c (.lit (.bool true))) (.t 24), none⟩]) (
  .cond (.t 25) (
   .seq (
    .ops [⟨(some 4), .mov (.c (.lit (.pointer none))), none⟩, ⟨(some 5), .mov (.c (.lit (.int .i64 0))), none⟩, ⟨(some 6), .mov (.c (.lit (.bool false))), none⟩]) (
   .ret)) (
   .skip))) (
 .seq (
  .ops [⟨(some 26), .mov (.t 7), none⟩, ⟨(some 27), .call (.c (.fn (f_solve_New N) [] [])) [(.t 26)], none⟩, ⟨(some 10), .mov (.t 27), none⟩]) (
 .seq (
  .seq (
   .ops [⟨(some 28), .mov (.t 1), none⟩, ⟨(some 29), .len (.t 28), none⟩, ⟨(some 30), .mov (.c (.lit (.int .i64 0))), none⟩]) (
  .block 0 (
   .loop (L_law14_bounded_1 N)))) (K_law14_bounded_1 N))))), false⟩

/-- azimuth/azimuthlaw14.lives -/
def C_law14_lives (N : Nat → Nat) : AFunc := ⟨85, [.inl 0],
 .seq (
  .ops [⟨(some 0), .mov (.c (.lit (.bool false))), none⟩]) (
 .seq (
  .ops [⟨(some 16), .call (.c (.fn (f_arena_New N) [] [])) [(.c (.lit (.int .i64 20)))], none⟩, ⟨(some 15), .mov (.t 16), none⟩, ⟨(some 17), .extract (.t 15) 0, none⟩, ⟨(some 18), .extract (.t 15) 1, none⟩, ⟨(some 1), .mov (.t 17), none⟩, ⟨(some 2), .mov (.t 18), none⟩]) (
 .seq (
  .ops [⟨(some 20), .mov (.t 1), none⟩, ⟨(some 21), .call (.c (.fn (f_p_arena_Arena_Var N) [] [])) [(.t 20), (.c (.lit (.int .i64 0)))], none⟩, ⟨(some 19), .mov (.t 21), none⟩, ⟨(some 22), .extract (.t 19) 0, none⟩, ⟨(some 23), .extract (.t 19) 1, none⟩, ⟨(some 3), .mov (.t 22), none⟩, ⟨(some 4), .mov (.t 23), none⟩]) (
 .seq (
  .ops [⟨(some 25), .mov (.t 1), none⟩, ⟨(some 26), .call (.c (.fn (f_p_arena_Arena_Var N) [] [])) [(.t 25), (.c (.lit (.int .i64 1)))], none⟩, ⟨(some 24), .mov (.t 26), none⟩, ⟨(some 27), .extract (.t 24) 0, none⟩, ⟨(some 28), .extract (.t 24) 1, none⟩, ⟨(some 5), .mov (.t 27), none⟩, ⟨(some 6), .mov (.t 28), none⟩]) (
 .seq (
  .ops [⟨(some 30), .mov (.t 1), none⟩, ⟨(some 31), .mov (.t 3), none⟩, ⟨(some 32), .mov (.t 3), none⟩, ⟨(some 33), .bslice (t_int N) 1 none 2 [(.lit (.int .i64 0))] [(0, 1, (.t 31)), (1, 1, (.t 32))], none⟩, ⟨(some 34), .build [(.lit (.int .i64 0)), (.lit (.slice none 0 0)), (.lit (.slice none 0 0)), (.lit (.bool false))] [(0, 1, (.c (.lit (.int .i64 7)))), (2, 1, (.t 33))], none⟩, ⟨(some 35), .call (.c (.fn (f_p_arena_Arena_Head N) [] [])) [(.t 30), (.t 34)], none⟩, ⟨(some 29), .mov (.t 35), none⟩, ⟨(some 36), .extract (.t 29) 0, none⟩, ⟨(some 37), .extract (.t 29) 1, none⟩, ⟨(some 7), .mov (.t 36), none⟩, ⟨(some 8), .mov (.t 37), none⟩]) (
 .seq (
  .ops [⟨(some 39), .mov (.t 1), none⟩, ⟨(some 40), .mov (.t 5), none⟩, ⟨(some 41), .mov (.t 3), none⟩, ⟨(some 42), .bslice (t_int N) 1 none 2 [(.lit (.int .i64 0))] [(0, 1, (.t 40)), (1, 1, (.t 41))], none⟩, ⟨(some 43), .build [(.lit (.int .i64 0)), (.lit (.slice none 0 0)), (.lit (.slice none 0 0)), (.lit (.bool false))] [(0, 1, (.c (.lit (.int .i64 7)))), (2, 1, (.t 42))], none⟩, ⟨(some 44), .call (.c (.fn (f_p_arena_Arena_Head N) [] [])) [(.t 39), (.t 43)], none⟩, ⟨(some 38), .mov (.t 44), none⟩, ⟨(some 45), .extract (.t 38) 0, none⟩, ⟨(some 46), .extract (.t 38) 1, none⟩, ⟨(some 9), .mov (.t 45), none⟩, ⟨(some 10), .mov (.t 46), none⟩]) (
 .seq (
  .ops [⟨(some 48), .mov (.t 1), none⟩, ⟨(some 49), .mov (.t 7), none⟩, ⟨(some 50), .call (.c (.fn (f_lift_Fresh N) [] [])) [(.t 48), (.t 49), (.c (.lit (.int .i64 0))), (.c (.lit (.int .i64 2)))], none⟩, ⟨(some 47), .mov (.t 50), none⟩, ⟨(some 51), .extract (.t 47) 0, none⟩, ⟨(some 52), .extract (.t 47) 1, none⟩, ⟨(some 11), .mov (.t 51), none⟩, ⟨(some 12), .mov (.t 52), none⟩]) (
 .seq (
  .ops [⟨(some 54), .mov (.t 1), none⟩, ⟨(some 55), .mov (.t 9), none⟩, ⟨(some 56), .call (.c (.fn (f_lift_Fresh N) [] [])) [(.t 54), (.t 55), (.c (.lit (.int .i64 0))), (.c (.lit (.int .i64 2)))], none⟩, ⟨(some 53), .mov (.t 56), none⟩, ⟨(some 57), .extract (.t 53) 0, none⟩, ⟨(some 58), .extract (.t 53) 1, none⟩, ⟨(some 13), .mov (.t 57), none⟩, ⟨(some 14), .mov (.t 58), none⟩]) (
 .seq (
  .ops [⟨(some 59), .mov (.t 2), none⟩, ⟨(some 60), .eq false .pint (.t 59) (.c (.lit (.int .i64 0))), none⟩, ⟨(some 61), .mov (.t 60), none⟩, ⟨(some 62), .mov (.t 12), (some (61, true))⟩, ⟨(some 63), .eq false .pint (.t 62) (.c (.lit (.int .i64 0))), (some (61, true))⟩, ⟨(some 64), .pick (.t 61) (.t 63) (.c (.lit (.bool false))), none⟩, ⟨(some 65), .mov (.t 64), none⟩, ⟨(some 66), .mov (.t 14), (some (65, true))⟩, ⟨(some 67), .eq false .pint (.t 66) (.c (.lit (.int .i64 0))), (some (65, true))⟩, ⟨(some 68), .pick (.t 65) (.t 67) (.c (.lit (.bool false))), none⟩, ⟨(some 69), .mov (.t 68), none⟩, ⟨(some 70), .mov (.t 11), (some (69, true))⟩, ⟨(some 71), .mov (.t 7), (some (69, true))⟩, ⟨(some 72), .eq false .pint (.t 70) (.t 71), (some (69, true))⟩, ⟨(some 73), .pick (.t 69) (.t 72) (.c (.lit (.bool false))), none⟩, ⟨(some 74), .mov (.t 73), none⟩, ⟨(some 75), .mov (.t 13), (some (74, true))⟩, ⟨(some 76), .mov (.t 9), (some (74, true))⟩, ⟨(some 77), .bin .gtr (.t 75) (.t 76), (some (74, true))⟩, ⟨(some 78), .pick (.t 74) (.t 77) (.c (.lit (.bool false))), none⟩, ⟨(some 79), .mov (.t 78), none⟩, ⟨(some 80), .mov (.t 1), (some (79, true))⟩, ⟨(some 81), .mov (.t 13), (some (79, true))⟩, ⟨(some 82), .call (.c (.fn (f_p_arena_Arena_Level N) [] [])) [(.t 80), (.t 81)], (some (79, true))⟩, ⟨(some 83), .eq false .pint (.t 82) (.c (.lit (.int .i64 2))), (some (79, true))⟩, ⟨(some 84), .pick (.t 79) (.t 83) (.c (.lit (.bool false))), none⟩, ⟨(some 0), .mov (.t 84), none⟩]) (
 .ret))))))))), false⟩
end Go.Proofs.Eng
