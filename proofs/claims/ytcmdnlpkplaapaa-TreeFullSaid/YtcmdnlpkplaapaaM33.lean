import Derived.Test.YtcmdnlpkplaapaaM32
/- Templates of functions, as the engine takes them; numbers of functions and types by names. Printed by tm.py. -/
set_option linter.unusedVariables false
set_option maxRecDepth 100000
namespace Go.Proofs.Eng
open Go

/-- (*azimuth/tree.Builder).Alias -/
def C_p_tree_Builder_Alias (N : Nat → Nat) : AFunc := ⟨18, [],
 .seq (
  .ops [⟨(some 3), .box (t_api_Alias N) (.t 1), none⟩]) (
 .seq (
  .ops [⟨(some 4), .mov (.t 0), none⟩, ⟨(some 5), .eq true .pptr (.t 4) (.c (.lit (.pointer none))), none⟩]) (
 .cond (.t 5) (
  .dops 2 [⟨(some 6), .mov (.t 0), none⟩, ⟨(some 7), .mov (.t 0), none⟩, ⟨(some 8), .nilchk (.t 7), none⟩, ⟨(some 9), .faddr 0 (.t 8), none⟩, ⟨(some 10), .faddr 2 (.t 9), none⟩, ⟨(some 11), .load none (.t 10), none⟩, ⟨(some 12), .load (some 3) (.t 3), none⟩, ⟨(some 13), .bslice (t_api_Alias N) 3 (some 3) 1 [(.lit (.string (mkS []))), (.lit (.int .i64 0)), (.lit (.int .i64 0))] [(0, 3, (.t 12))], none⟩, ⟨(some 14), .append (t_api_Alias N) 3 32 (.t 11) (.t 13), none⟩, ⟨(some 15), .nilchk (.t 6), none⟩, ⟨(some 16), .faddr 0 (.t 15), none⟩, ⟨(some 17), .faddr 2 (.t 16), none⟩, ⟨none, .store 1 (.t 17) (.t 14), none⟩] [0, 0, 0, 0, 0, 2, 2, 1, 0, 0, 0, 0, 0] []) (
  .skip))), false⟩

/-- (*azimuth/tree.Builder).Term -/
def C_p_tree_Builder_Term (N : Nat → Nat) : AFunc := ⟨37, [.inl 4, .inl 5],
 .seq (
  .ops [⟨(some 3), .box (t_api_Node N) (.t 1), none⟩, ⟨(some 4), .mov (.c (.lit (.int .i64 0))), none⟩, ⟨(some 5), .mov (.c (.lit (.int .i64 0))), none⟩]) (
 .seq (
  .block 0 (
   .seq (
    .ops [⟨(some 7), .mov (.t 0), none⟩, ⟨(some 8), .eq false .pptr (.t 7) (.c (.lit (.pointer none))), none⟩, ⟨(some 6), .mov (.t 8), none⟩]) (
   .cond (.t 6) (
    .seq (
     .ops [⟨(some 4), .mov (.c (.lit (.int .i64 0))), none⟩, ⟨(some 5), .mov (.c (.lit (.int .i64 1))), none⟩]) (
    .ret)) (
    .seq (
     .ops [⟨(some 10), .mov (.t 0), none⟩, ⟨(some 11), .nilchk (.t 10), none⟩, ⟨(some 12), .faddr 0 (.t 11), none⟩, ⟨(some 13), .faddr 0 (.t 12), none⟩, ⟨(some 14), .load none (.t 13), none⟩, ⟨(some 15), .len (.t 14), none⟩, ⟨(some 16), .bin .geq (.t 15) (.c (.lit (.int .i64 65536))), none⟩, ⟨(some 9), .mov (.t 16), none⟩]) (
    .cond (.t 9) (
     .seq (
      .ops [⟨(some 4), .mov (.c (.lit (.int .i64 0))), none⟩, ⟨(some 5), .mov (.c (.lit (.int .i64 6))), none⟩]) (
     .ret)) (
     .skip)))))) (
 .seq (
  .dops 5 [⟨(some 17), .mov (.t 0), none⟩, ⟨(some 18), .mov (.t 0), none⟩, ⟨(some 19), .nilchk (.t 18), none⟩, ⟨(some 20), .faddr 0 (.t 19), none⟩, ⟨(some 21), .faddr 0 (.t 20), none⟩, ⟨(some 22), .load none (.t 21), none⟩, ⟨(some 23), .load (some 8) (.t 3), none⟩, ⟨(some 24), .call (.c (.fn (f_tree_cloneTerm N) [] [])) [(.t 23)], none⟩, ⟨(some 25), .bslice (t_api_Node N) 8 (some 8) 1 [(.lit (.int .i64 0)), (.lit (.int .i64 0)), (.lit (.string (mkS []))), (.lit (.int .i64 0)), (.lit (.int .u64 0)), (.lit (.slice none 0 0)), (.lit (.slice none 0 0)), (.lit (.slice none 0 0))] [(0, 8, (.t 24))], none⟩, ⟨(some 26), .append (t_api_Node N) 8 120 (.t 22) (.t 25), none⟩, ⟨(some 27), .nilchk (.t 17), none⟩, ⟨(some 28), .faddr 0 (.t 27), none⟩, ⟨(some 29), .faddr 0 (.t 28), none⟩, ⟨none, .store 1 (.t 29) (.t 26), none⟩] [0, 0, 0, 0, 0, 2, 2, 1, 1, 0, 0, 0, 0, 0] []) (
 .seq (
  .ops [⟨(some 30), .mov (.t 0), none⟩, ⟨(some 31), .nilchk (.t 30), none⟩, ⟨(some 32), .faddr 0 (.t 31), none⟩, ⟨(some 33), .faddr 0 (.t 32), none⟩, ⟨(some 34), .load none (.t 33), none⟩, ⟨(some 35), .len (.t 34), none⟩, ⟨(some 36), .bin .sub (.t 35) (.c (.lit (.int .i64 1))), none⟩, ⟨(some 4), .mov (.t 36), none⟩, ⟨(some 5), .mov (.c (.lit (.int .i64 0))), none⟩]) (
 .ret)))), false⟩

/-- (*azimuth/tree.Builder).Tree -/
def C_p_tree_Builder_Tree (N : Nat → Nat) : AFunc := ⟨11, [.inr (2, (some 3))],
 .seq (
  .ops [⟨(some 2), .new (t_api_Tree N) (.agg [(.lit (.slice none 0 0)), (.lit (.slice none 0 0)), (.lit (.slice none 0 0))]), none⟩]) (
 .seq (
  .seq (
   .ops [⟨(some 3), .mov (.t 0), none⟩, ⟨(some 4), .eq false .pptr (.t 3) (.c (.lit (.pointer none))), none⟩]) (
  .cond (.t 4) (
   .seq (
    .ops [⟨(some 5), .build [(.lit (.slice none 0 0)), (.lit (.slice none 0 0)), (.lit (.slice none 0 0))] [], none⟩, ⟨none, .store 3 (.t 2) (.t 5), none⟩]) (
   .ret)) (
   .skip))) (
 .seq (
  .ops [⟨(some 6), .mov (.t 0), none⟩, ⟨(some 7), .nilchk (.t 6), none⟩, ⟨(some 8), .faddr 0 (.t 7), none⟩, ⟨(some 9), .load (some 3) (.t 8), none⟩, ⟨(some 10), .call (.c (.fn (f_tree_Clone N) [] [])) [(.t 9)], none⟩, ⟨none, .store 3 (.t 2) (.t 10), none⟩]) (
 .ret))), false⟩

/-- (*azimuth/tree.Builder).Type -/
def C_p_tree_Builder_Type (N : Nat → Nat) : AFunc := ⟨37, [.inl 4, .inl 5],
 .seq (
  .ops [⟨(some 3), .box (t_api_TypeNode N) (.t 1), none⟩, ⟨(some 4), .mov (.c (.lit (.int .i64 0))), none⟩, ⟨(some 5), .mov (.c (.lit (.int .i64 0))), none⟩]) (
 .seq (
  .block 0 (
   .seq (
    .ops [⟨(some 7), .mov (.t 0), none⟩, ⟨(some 8), .eq false .pptr (.t 7) (.c (.lit (.pointer none))), none⟩, ⟨(some 6), .mov (.t 8), none⟩]) (
   .cond (.t 6) (
    .seq (
     .ops [⟨(some 4), .mov (.c (.lit (.int .i64 0))), none⟩, ⟨(some 5), .mov (.c (.lit (.int .i64 1))), none⟩]) (
    .ret)) (
    .seq (
     .ops [⟨(some 10), .mov (.t 0), none⟩, ⟨(some 11), .nilchk (.t 10), none⟩, ⟨(some 12), .faddr 0 (.t 11), none⟩, ⟨(some 13), .faddr 1 (.t 12), none⟩, ⟨(some 14), .load none (.t 13), none⟩, ⟨(some 15), .len (.t 14), none⟩, ⟨(some 16), .bin .geq (.t 15) (.c (.lit (.int .i64 65536))), none⟩, ⟨(some 9), .mov (.t 16), none⟩]) (
    .cond (.t 9) (
     .seq (
      .ops [⟨(some 4), .mov (.c (.lit (.int .i64 0))), none⟩, ⟨(some 5), .mov (.c (.lit (.int .i64 6))), none⟩]) (
     .ret)) (
     .skip)))))) (
 .seq (
  .dops 5 [⟨(some 17), .mov (.t 0), none⟩, ⟨(some 18), .mov (.t 0), none⟩, ⟨(some 19), .nilchk (.t 18), none⟩, ⟨(some 20), .faddr 0 (.t 19), none⟩, ⟨(some 21), .faddr 1 (.t 20), none⟩, ⟨(some 22), .load none (.t 21), none⟩, ⟨(some 23), .load (some 6) (.t 3), none⟩, ⟨(some 24), .call (.c (.fn (f_tree_cloneType N) [] [])) [(.t 23)], none⟩, ⟨(some 25), .bslice (t_api_TypeNode N) 6 (some 6) 1 [(.lit (.int .i64 0)), (.lit (.int .i64 0)), (.lit (.string (mkS []))), (.lit (.slice none 0 0)), (.lit (.slice none 0 0)), (.lit (.bool false))] [(0, 6, (.t 24))], none⟩, ⟨(some 26), .append (t_api_TypeNode N) 6 88 (.t 22) (.t 25), none⟩, ⟨(some 27), .nilchk (.t 17), none⟩, ⟨(some 28), .faddr 0 (.t 27), none⟩, ⟨(some 29), .faddr 1 (.t 28), none⟩, ⟨none, .store 1 (.t 29) (.t 26), none⟩] [0, 0, 0, 0, 0, 2, 2, 1, 1, 0, 0, 0, 0, 0] []) (
 .seq (
  .ops [⟨(some 30), .mov (.t 0), none⟩, ⟨(some 31), .nilchk (.t 30), none⟩, ⟨(some 32), .faddr 0 (.t 31), none⟩, ⟨(some 33), .faddr 1 (.t 32), none⟩, ⟨(some 34), .load none (.t 33), none⟩, ⟨(some 35), .len (.t 34), none⟩, ⟨(some 36), .bin .sub (.t 35) (.c (.lit (.int .i64 1))), none⟩, ⟨(some 4), .mov (.t 36), none⟩, ⟨(some 5), .mov (.c (.lit (.int .i64 0))), none⟩]) (
 .ret)))), false⟩

def L_tree_two_terms_1 (N : Nat → Nat) : AC :=
    .seq (
     .ops [⟨(some 70), .bin .lss (.t 69) (.t 68), none⟩]) (
    .seq (
     .cond (.t 70) (
      .skip) (
      .exit 0)) (
    .seq (
     .block 1 (
      .seq (
       .ops [⟨(some 71), .mov (.t 69), none⟩, ⟨(some 9), .mov (.t 71), none⟩]) (
      .seq (
       .dops 7 [⟨(some 72), .load (some 6) (.t 3), none⟩, ⟨(some 73), .faddr 7 (.t 7), none⟩, ⟨(some 74), .load none (.t 73), none⟩, ⟨(some 75), .mov (.t 9), none⟩, ⟨(some 76), .iaddr 1 (.t 74) (.t 75), none⟩, ⟨(some 77), .load none (.t 76), none⟩, ⟨(some 78), .faddr 7 (.t 8), none⟩, ⟨(some 79), .load none (.t 78), none⟩, ⟨(some 80), .mov (.t 9), none⟩, ⟨(some 81), .iaddr 1 (.t 79) (.t 80), none⟩, ⟨(some 82), .load none (.t 81), none⟩, ⟨(some 83), .call (.c (.fn (f_tree_two_types N) [] [])) [(.t 72), (.t 77), (.t 82)], none⟩, ⟨(some 84), .un .not (.t 83), none⟩] [2, 0, 2, 0, 0, 2, 0, 2, 0, 0, 2, 0, 0] []) (
      .cond (.t 84) (
       .seq (
        .ops [⟨(some 6), .mov (.c (.lit (.bool false))), none⟩]) (
       .ret)) (
       .skip))))) (
    .ops [⟨(some 85), .bin .add (.t 69) (.c (.lit (.int .i64 1))), none⟩, ⟨(some 69), .mov (.t 85), none⟩])))
def L_tree_two_terms_2 (N : Nat → Nat) : AC :=
    .seq (
     .ops [⟨(some 90), .bin .lss (.t 89) (.t 88), none⟩]) (
    .seq (
     .cond (.t 90) (
      .skip) (
      .exit 2)) (
    .seq (
     .block 3 (
      .seq (
       .ops [⟨(some 91), .mov (.t 89), none⟩, ⟨(some 10), .mov (.t 91), none⟩]) (
      .seq (
       .dops 13 [⟨(some 92), .load (some 6) (.t 3), none⟩, ⟨(some 93), .faddr 6 (.t 7), none⟩, ⟨(some 94), .load none (.t 93), none⟩, ⟨(some 95), .mov (.t 10), none⟩, ⟨(some 96), .iaddr 1 (.t 94) (.t 95), none⟩, ⟨(some 97), .load none (.t 96), none⟩, ⟨(some 98), .faddr 6 (.t 8), none⟩, ⟨(some 99), .load none (.t 98), none⟩, ⟨(some 100), .mov (.t 10), none⟩, ⟨(some 101), .iaddr 1 (.t 99) (.t 100), none⟩, ⟨(some 102), .load none (.t 101), none⟩, ⟨(some 103), .call (.c (.fn (f_tree_two_terms N) [] [])) [(.t 92), (.t 97), (.t 102)], none⟩, ⟨(some 104), .un .not (.t 103), none⟩] [2, 0, 2, 0, 0, 2, 0, 2, 0, 0, 2, 0, 0] []) (
      .cond (.t 104) (
       .seq (
        .ops [⟨(some 6), .mov (.c (.lit (.bool false))), none⟩]) (
       .ret)) (
       .skip))))) (
    .ops [⟨(some 105), .bin .add (.t 89) (.c (.lit (.int .i64 1))), none⟩, ⟨(some 89), .mov (.t 105), none⟩])))
def K_tree_two_terms_2 (N : Nat → Nat) : AC :=
 .seq (
  .ops [⟨(some 6), .mov (.c (.lit (.bool true))), none⟩]) (
 .ret)
def K_tree_two_terms_1 (N : Nat → Nat) : AC :=
 .seq (
  .seq (
   .ops [⟨(some 86), .faddr 6 (.t 7), none⟩, ⟨(some 87), .load none (.t 86), none⟩, ⟨(some 88), .len (.t 87), none⟩, ⟨(some 89), .mov (.c (.lit (.int .i64 0))), none⟩]) (
  .block 2 (
   .loop (L_tree_two_terms_2 N)))) (K_tree_two_terms_2 N)
/-- (azimuth/tree.two).terms -/
def C_tree_two_terms (N : Nat → Nat) : AFunc := ⟨106, [.inl 6],
 .seq (
  .ops [⟨(some 3), .box (t_tree_two N) (.t 0), none⟩, ⟨(some 6), .mov (.c (.lit (.bool false))), none⟩]) (
 .seq (
  .ops [⟨none, .mnmx false [], none⟩]) (
 .seq (
  .seq (
   .ops [⟨(some 23), .faddr 0 (.t 7), none⟩, ⟨(some 24), .load none (.t 23), none⟩, ⟨(some 25), .faddr 0 (.t 8), none⟩, ⟨(some 26), .load none (.t 25), none⟩, ⟨(some 27), .eq true .pint (.t 24) (.t 26), none⟩, ⟨(some 28), .mov (.t 27), none⟩, ⟨(some 29), .faddr 2 (.t 7), (some (28, false))⟩, ⟨(some 30), .load none (.t 29), (some (28, false))⟩, ⟨(some 31), .faddr 2 (.t 8), (some (28, false))⟩, ⟨(some 32), .load none (.t 31), (some (28, false))⟩, ⟨(some 33), .eq true .pstr (.t 30) (.t 32), (some (28, false))⟩, ⟨(some 34), .pick (.t 28) (.c (.lit (.bool true))) (.t 33), none⟩, ⟨(some 35), .mov (.t 34), none⟩, ⟨(some 36), .faddr 3 (.t 7), (some (35, false))⟩, ⟨(some 37), .load none (.t 36), (some (35, false))⟩, ⟨(some 38), .faddr 3 (.t 8), (some (35, false))⟩, ⟨(some 39), .load none (.t 38), (some (35, false))⟩, ⟨(some 40), .eq true .pint (.t 37) (.t 39), (some (35, false))⟩, ⟨(some 41), .pick (.t 35) (.c (.lit (.bool true))) (.t 40), none⟩, ⟨(some 42), .mov (.t 41), none⟩, ⟨(some 43), .faddr 4 (.t 7), (some (42, false))⟩, ⟨(some 44), .load none (.t 43), (some (42, false))⟩, ⟨(some 45), .faddr 4 (.t 8), (some (42, false))⟩, ⟨(some 46), .load none (.t 45), (some (42, false))⟩, ⟨(some 47), .eq true .pint (.t 44) (.t 46), (some (42, false))⟩, ⟨(some 48), .pick (.t 42) (.c (.lit (.bool true))) (.t 47), none⟩, ⟨(some 49), .mov (.t 48), none⟩, ⟨(some 50), .faddr 5 (.t 7), (some (49, false))⟩, ⟨(some 51), .load none (.t 50), (some (49, false))⟩, ⟨(some 52), .faddr 5 (.t 8), (some (49, false))⟩, ⟨(some 53), .load none (.t 52), (some (49, false))⟩, ⟨(some 54), .call (.c (.fn (f_slices_Equal_sl_string_string N) [] [])) [(.t 51), (.t 53)], (some (49, false))⟩, ⟨(some 55), .un .not (.t 54), (some (49, false))⟩, ⟨(some 56), .pick (.t 49) (.c (.lit (.bool true))) (.t 55), none⟩, ⟨(some 57), .mov (.t 56), none⟩, ⟨(some 58), .faddr 6 (.t 7), (some (57, false))⟩, ⟨(some 59), .load none (.t 58), (some (57, false))⟩, ⟨(some 60), .len (.t 59), (some (57, false))⟩, ⟨(some 61), .faddr 6 (.t 8), (some (57, false))⟩, ⟨(some 62), .load none (.t 61), (some (57, false))⟩, ⟨(some 63), .len (.t 62), (some (57, false))⟩, ⟨(some 64), .eq true .pint (.t 60) (.t 63), (some (57, false))⟩, ⟨(some 65), .pick (.t 57) (.c (.lit (.bool true))) (.t 64), none⟩]) (
  .cond (.t 65) (
   .seq (
    .ops [⟨(some 6), .mov (.c (.lit (.bool false))), none⟩]) (
   .ret)) (
   .skip))) (
 .seq (
  .seq (
   .ops [⟨(some 66), .faddr 7 (.t 7), none⟩, ⟨(some 67), .load none (.t 66), none⟩, ⟨(some 68), .len (.t 67), none⟩, ⟨(some 69), .mov (.c (.lit (.int .i64 0))), none⟩]) (
  .block 0 (
   .loop (L_tree_two_terms_1 N)))) (K_tree_two_terms_1 N)))), false⟩

def L_tree_two_types_1 (N : Nat → Nat) : AC :=
    .seq (
     .ops [⟨(some 62), .bin .lss (.t 61) (.t 60), none⟩]) (
    .seq (
     .cond (.t 62) (
      .skip) (
      .exit 0)) (
    .seq (
     .block 1 (
      .seq (
       .ops [⟨(some 63), .mov (.t 61), none⟩, ⟨(some 9), .mov (.t 63), none⟩]) (
      .seq (
       .dops 7 [⟨(some 64), .load (some 6) (.t 3), none⟩, ⟨(some 65), .faddr 4 (.t 7), none⟩, ⟨(some 66), .load none (.t 65), none⟩, ⟨(some 67), .mov (.t 9), none⟩, ⟨(some 68), .iaddr 1 (.t 66) (.t 67), none⟩, ⟨(some 69), .load none (.t 68), none⟩, ⟨(some 70), .faddr 4 (.t 8), none⟩, ⟨(some 71), .load none (.t 70), none⟩, ⟨(some 72), .mov (.t 9), none⟩, ⟨(some 73), .iaddr 1 (.t 71) (.t 72), none⟩, ⟨(some 74), .load none (.t 73), none⟩, ⟨(some 75), .call (.c (.fn (f_tree_two_types N) [] [])) [(.t 64), (.t 69), (.t 74)], none⟩, ⟨(some 76), .un .not (.t 75), none⟩] [2, 0, 2, 0, 0, 2, 0, 2, 0, 0, 2, 0, 0] []) (
      .cond (.t 76) (
       .seq (
        .ops [⟨(some 6), .mov (.c (.lit (.bool false))), none⟩]) (
       .ret)) (
       .skip))))) (
    .ops [⟨(some 77), .bin .add (.t 61) (.c (.lit (.int .i64 1))), none⟩, ⟨(some 61), .mov (.t 77), none⟩])))
def K_tree_two_types_1 (N : Nat → Nat) : AC :=
 .seq (
  .ops [⟨(some 6), .mov (.c (.lit (.bool true))), none⟩]) (
 .ret)
/-- (azimuth/tree.two).types -/
def C_tree_two_types (N : Nat → Nat) : AFunc := ⟨78, [.inl 6],
 .seq (
  .ops [⟨(some 3), .box (t_tree_two N) (.t 0), none⟩, ⟨(some 6), .mov (.c (.lit (.bool false))), none⟩]) (
 .seq (
  .ops [⟨none, .mnmx false [], none⟩]) (
 .seq (
  .seq (
   .ops [⟨(some 22), .faddr 0 (.t 7), none⟩, ⟨(some 23), .load none (.t 22), none⟩, ⟨(some 24), .faddr 0 (.t 8), none⟩, ⟨(some 25), .load none (.t 24), none⟩, ⟨(some 26), .eq true .pint (.t 23) (.t 25), none⟩, ⟨(some 27), .mov (.t 26), none⟩, ⟨(some 28), .faddr 2 (.t 7), (some (27, false))⟩, ⟨(some 29), .load none (.t 28), (some (27, false))⟩, ⟨(some 30), .faddr 2 (.t 8), (some (27, false))⟩, ⟨(some 31), .load none (.t 30), (some (27, false))⟩, ⟨(some 32), .eq true .pstr (.t 29) (.t 31), (some (27, false))⟩, ⟨(some 33), .pick (.t 27) (.c (.lit (.bool true))) (.t 32), none⟩, ⟨(some 34), .mov (.t 33), none⟩, ⟨(some 35), .faddr 5 (.t 7), (some (34, false))⟩, ⟨(some 36), .load none (.t 35), (some (34, false))⟩, ⟨(some 37), .faddr 5 (.t 8), (some (34, false))⟩, ⟨(some 38), .load none (.t 37), (some (34, false))⟩, ⟨(some 39), .eq true .pbool (.t 36) (.t 38), (some (34, false))⟩, ⟨(some 40), .pick (.t 34) (.c (.lit (.bool true))) (.t 39), none⟩, ⟨(some 41), .mov (.t 40), none⟩, ⟨(some 42), .faddr 3 (.t 7), (some (41, false))⟩, ⟨(some 43), .load none (.t 42), (some (41, false))⟩, ⟨(some 44), .faddr 3 (.t 8), (some (41, false))⟩, ⟨(some 45), .load none (.t 44), (some (41, false))⟩, ⟨(some 46), .call (.c (.fn (f_slices_Equal_sl_string_string N) [] [])) [(.t 43), (.t 45)], (some (41, false))⟩, ⟨(some 47), .un .not (.t 46), (some (41, false))⟩, ⟨(some 48), .pick (.t 41) (.c (.lit (.bool true))) (.t 47), none⟩, ⟨(some 49), .mov (.t 48), none⟩, ⟨(some 50), .faddr 4 (.t 7), (some (49, false))⟩, ⟨(some 51), .load none (.t 50), (some (49, false))⟩, ⟨(some 52), .len (.t 51), (some (49, false))⟩, ⟨(some 53), .faddr 4 (.t 8), (some (49, false))⟩, ⟨(some 54), .load none (.t 53), (some (49, false))⟩, ⟨(some 55), .len (.t 54), (some (49, false))⟩, ⟨(some 56), .eq true .pint (.t 52) (.t 55), (some (49, false))⟩, ⟨(some 57), .pick (.t 49) (.c (.lit (.bool true))) (.t 56), none⟩]) (
  .cond (.t 57) (
   .seq (
    .ops [⟨(some 6), .mov (.c (.lit (.bool false))), none⟩]) (
   .ret)) (
   .skip))) (
 .seq (
  .seq (
   .ops [⟨(some 58), .faddr 4 (.t 7), none⟩, ⟨(some 59), .load none (.t 58), none⟩, ⟨(some 60), .len (.t 59), none⟩, ⟨(some 61), .mov (.c (.lit (.int .i64 0))), none⟩]) (
  .block 0 (
   .loop (L_tree_two_types_1 N)))) (K_tree_two_types_1 N)))), false⟩

def L_tree_Clone_1 (N : Nat → Nat) : AC :=
    .seq (
     .ops [⟨(some 16), .bin .lss (.t 15) (.t 14), none⟩]) (
    .seq (
     .cond (.t 16) (
      .skip) (
      .exit 0)) (
    .seq (
     .block 1 (
      .seq (
       .ops [⟨(some 17), .iaddr 8 (.t 13) (.t 15), none⟩, ⟨(some 18), .load (some 8) (.t 17), none⟩, ⟨(some 5), .new (t_api_Node N) (.agg [(.lit (.int .i64 0)), (.lit (.int .i64 0)), (.lit (.string (mkS []))), (.lit (.int .i64 0)), (.lit (.int .u64 0)), (.lit (.slice none 0 0)), (.lit (.slice none 0 0)), (.lit (.slice none 0 0))]), none⟩, ⟨none, .store 8 (.t 5) (.t 18), none⟩]) (
      .dops 5 [⟨(some 19), .faddr 0 (.t 3), none⟩, ⟨(some 20), .load none (.t 19), none⟩, ⟨(some 21), .load (some 8) (.t 5), none⟩, ⟨(some 22), .call (.c (.fn (f_tree_cloneTerm N) [] [])) [(.t 21)], none⟩, ⟨(some 23), .bslice (t_api_Node N) 8 (some 8) 1 [(.lit (.int .i64 0)), (.lit (.int .i64 0)), (.lit (.string (mkS []))), (.lit (.int .i64 0)), (.lit (.int .u64 0)), (.lit (.slice none 0 0)), (.lit (.slice none 0 0)), (.lit (.slice none 0 0))] [(0, 8, (.t 22))], none⟩, ⟨(some 24), .append (t_api_Node N) 8 120 (.t 20) (.t 23), none⟩, ⟨(some 25), .faddr 0 (.t 3), none⟩, ⟨none, .store 1 (.t 25) (.t 24), none⟩] [0, 2, 2, 1, 1, 0, 0, 0] []))) (
    .ops [⟨(some 26), .bin .add (.t 15) (.c (.lit (.int .i64 1))), none⟩, ⟨(some 15), .mov (.t 26), none⟩])))
def L_tree_Clone_2 (N : Nat → Nat) : AC :=
    .seq (
     .ops [⟨(some 31), .bin .lss (.t 30) (.t 29), none⟩]) (
    .seq (
     .cond (.t 31) (
      .skip) (
      .exit 2)) (
    .seq (
     .block 3 (
      .seq (
       .ops [⟨(some 32), .iaddr 6 (.t 28) (.t 30), none⟩, ⟨(some 33), .load (some 6) (.t 32), none⟩, ⟨(some 7), .new (t_api_TypeNode N) (.agg [(.lit (.int .i64 0)), (.lit (.int .i64 0)), (.lit (.string (mkS []))), (.lit (.slice none 0 0)), (.lit (.slice none 0 0)), (.lit (.bool false))]), none⟩, ⟨none, .store 6 (.t 7) (.t 33), none⟩]) (
      .dops 10 [⟨(some 34), .faddr 1 (.t 3), none⟩, ⟨(some 35), .load none (.t 34), none⟩, ⟨(some 36), .load (some 6) (.t 7), none⟩, ⟨(some 37), .call (.c (.fn (f_tree_cloneType N) [] [])) [(.t 36)], none⟩, ⟨(some 38), .bslice (t_api_TypeNode N) 6 (some 6) 1 [(.lit (.int .i64 0)), (.lit (.int .i64 0)), (.lit (.string (mkS []))), (.lit (.slice none 0 0)), (.lit (.slice none 0 0)), (.lit (.bool false))] [(0, 6, (.t 37))], none⟩, ⟨(some 39), .append (t_api_TypeNode N) 6 88 (.t 35) (.t 38), none⟩, ⟨(some 40), .faddr 1 (.t 3), none⟩, ⟨none, .store 1 (.t 40) (.t 39), none⟩] [0, 2, 2, 1, 1, 0, 0, 0] []))) (
    .ops [⟨(some 41), .bin .add (.t 30) (.c (.lit (.int .i64 1))), none⟩, ⟨(some 30), .mov (.t 41), none⟩])))
def K_tree_Clone_2 (N : Nat → Nat) : AC :=
 .seq (
  .ops [⟨(some 42), .load (some 3) (.t 3), none⟩, ⟨none, .store 3 (.t 2) (.t 42), none⟩]) (
 .ret)
def K_tree_Clone_1 (N : Nat → Nat) : AC :=
 .seq (
  .seq (
   .ops [⟨(some 27), .faddr 1 (.t 1), none⟩, ⟨(some 28), .load none (.t 27), none⟩, ⟨(some 29), .len (.t 28), none⟩, ⟨(some 30), .mov (.c (.lit (.int .i64 0))), none⟩]) (
  .block 2 (
   .loop (L_tree_Clone_2 N)))) (K_tree_Clone_2 N)
/-- azimuth/tree.Clone -/
def C_tree_Clone (N : Nat → Nat) : AFunc := ⟨43, [.inr (2, (some 3))],
 .seq (
  .ops [⟨(some 1), .box (t_api_Tree N) (.t 0), none⟩, ⟨(some 2), .new (t_api_Tree N) (.agg [(.lit (.slice none 0 0)), (.lit (.slice none 0 0)), (.lit (.slice none 0 0))]), none⟩]) (
 .seq (
  .ops [⟨(some 8), .faddr 2 (.t 1), none⟩, ⟨(some 9), .load none (.t 8), none⟩, ⟨(some 10), .call (.c (.fn (f_slices_Clone_sl_api_Alias_api_Alias N) [] [])) [(.t 9)], none⟩, ⟨(some 11), .build [(.lit (.slice none 0 0)), (.lit (.slice none 0 0)), (.lit (.slice none 0 0))] [(2, 1, (.t 10))], none⟩, ⟨(some 3), .new (t_api_Tree N) (.agg [(.lit (.slice none 0 0)), (.lit (.slice none 0 0)), (.lit (.slice none 0 0))]), none⟩, ⟨none, .store 3 (.t 3) (.t 11), none⟩]) (
 .seq (
  .seq (
   .ops [⟨(some 12), .faddr 0 (.t 1), none⟩, ⟨(some 13), .load none (.t 12), none⟩, ⟨(some 14), .len (.t 13), none⟩, ⟨(some 15), .mov (.c (.lit (.int .i64 0))), none⟩]) (
  .block 0 (
   .loop (L_tree_Clone_1 N)))) (K_tree_Clone_1 N))), false⟩

def L_tree_Depth_2 (N : Nat → Nat) : AC :=
         .seq (
          .ops [⟨(some 35), .bin .lss (.t 34) (.t 33), none⟩]) (
         .seq (
          .cond (.t 35) (
           .skip) (
           .exit 2)) (
         .seq (
          .block 3 (
           .seq (
            .ops [⟨(some 36), .iaddr 1 (.t 32) (.t 34), none⟩, ⟨(some 37), .load none (.t 36), none⟩, ⟨(some 8), .mov (.t 37), none⟩]) (
           .dops 10 [⟨(some 38), .mov (.t 3), none⟩, ⟨(some 39), .mov (.t 5), none⟩, ⟨(some 40), .mov (.t 3), none⟩, ⟨(some 41), .mov (.t 5), none⟩, ⟨(some 42), .iaddr 1 (.t 40) (.t 41), none⟩, ⟨(some 43), .load none (.t 42), none⟩, ⟨(some 44), .mov (.t 3), none⟩, ⟨(some 45), .mov (.t 8), none⟩, ⟨(some 46), .iaddr 1 (.t 44) (.t 45), none⟩, ⟨(some 47), .load none (.t 46), none⟩, ⟨(some 48), .mnmx true [(.t 43), (.t 47)], none⟩, ⟨(some 49), .iaddr 1 (.t 38) (.t 39), none⟩, ⟨none, .store 1 (.t 49) (.t 48), none⟩] [0, 0, 0, 0, 0, 2, 0, 0, 0, 2, 0, 0, 0] []))) (
         .ops [⟨(some 50), .bin .add (.t 34) (.c (.lit (.int .i64 1))), none⟩, ⟨(some 34), .mov (.t 50), none⟩])))
def K_tree_Depth_1 (N : Nat → Nat) : AC :=
 .seq (
  .ops [⟨(some 51), .mov (.t 3), none⟩, ⟨(some 52), .mov (.t 5), none⟩, ⟨(some 53), .iaddr 1 (.t 51) (.t 52), none⟩, ⟨(some 54), .load none (.t 53), none⟩, ⟨(some 55), .bin .add (.t 54) (.c (.lit (.int .i64 1))), none⟩, ⟨(some 56), .iaddr 1 (.t 51) (.t 52), none⟩, ⟨none, .store 1 (.t 56) (.t 55), none⟩]) (
 .ops [⟨(some 57), .mov (.t 4), none⟩, ⟨(some 58), .mov (.t 3), none⟩, ⟨(some 59), .mov (.t 5), none⟩, ⟨(some 60), .iaddr 1 (.t 58) (.t 59), none⟩, ⟨(some 61), .load none (.t 60), none⟩, ⟨(some 62), .mnmx true [(.t 57), (.t 61)], none⟩, ⟨(some 4), .mov (.t 62), none⟩])
def K_tree_Depth_2 (N : Nat → Nat) : AC :=
 .ops [⟨(some 63), .bin .add (.t 26) (.c (.lit (.int .i64 1))), none⟩, ⟨(some 26), .mov (.t 63), none⟩]
def L_tree_Depth_1 (N : Nat → Nat) : AC :=
    .seq (
     .ops [⟨(some 27), .bin .lss (.t 26) (.t 25), none⟩]) (
    .seq (
     .cond (.t 27) (
      .skip) (
      .exit 0)) (
    .seq (
     .block 1 (
      .seq (
       .ops [⟨(some 28), .mov (.t 26), none⟩, ⟨(some 29), .iaddr 6 (.t 24) (.t 26), none⟩, ⟨(some 30), .load (some 6) (.t 29), none⟩, ⟨(some 6), .new (t_api_TypeNode N) (.agg [(.lit (.int .i64 0)), (.lit (.int .i64 0)), (.lit (.string (mkS []))), (.lit (.slice none 0 0)), (.lit (.slice none 0 0)), (.lit (.bool false))]), none⟩, ⟨(some 5), .mov (.t 28), none⟩, ⟨none, .store 6 (.t 6) (.t 30), none⟩]) (
      .seq (
       .seq (
        .ops [⟨(some 31), .faddr 4 (.t 6), none⟩, ⟨(some 32), .load none (.t 31), none⟩, ⟨(some 33), .len (.t 32), none⟩, ⟨(some 34), .mov (.c (.lit (.int .i64 0))), none⟩]) (
       .block 2 (
        .loop (L_tree_Depth_2 N)))) (K_tree_Depth_1 N)))) (K_tree_Depth_2 N)))
def L_tree_Depth_4 (N : Nat → Nat) : AC :=
         .seq (
          .ops [⟨(some 80), .bin .lss (.t 79) (.t 78), none⟩]) (
         .seq (
          .cond (.t 80) (
           .skip) (
           .exit 6)) (
         .seq (
          .block 7 (
           .seq (
            .ops [⟨(some 81), .iaddr 1 (.t 77) (.t 79), none⟩, ⟨(some 82), .load none (.t 81), none⟩, ⟨(some 13), .mov (.t 82), none⟩]) (
           .dops 22 [⟨(some 83), .mov (.t 9), none⟩, ⟨(some 84), .mov (.t 10), none⟩, ⟨(some 85), .mov (.t 9), none⟩, ⟨(some 86), .mov (.t 10), none⟩, ⟨(some 87), .iaddr 1 (.t 85) (.t 86), none⟩, ⟨(some 88), .load none (.t 87), none⟩, ⟨(some 89), .mov (.t 9), none⟩, ⟨(some 90), .mov (.t 13), none⟩, ⟨(some 91), .iaddr 1 (.t 89) (.t 90), none⟩, ⟨(some 92), .load none (.t 91), none⟩, ⟨(some 93), .mnmx true [(.t 88), (.t 92)], none⟩, ⟨(some 94), .iaddr 1 (.t 83) (.t 84), none⟩, ⟨none, .store 1 (.t 94) (.t 93), none⟩] [0, 0, 0, 0, 0, 2, 0, 0, 0, 2, 0, 0, 0] []))) (
         .ops [⟨(some 95), .bin .add (.t 79) (.c (.lit (.int .i64 1))), none⟩, ⟨(some 79), .mov (.t 95), none⟩])))
def L_tree_Depth_5 (N : Nat → Nat) : AC :=
    .seq (
     .ops [⟨(some 100), .bin .lss (.t 99) (.t 98), none⟩]) (
    .seq (
     .cond (.t 100) (
      .skip) (
      .exit 8)) (
    .seq (
     .block 9 (
      .seq (
       .ops [⟨(some 101), .iaddr 1 (.t 97) (.t 99), none⟩, ⟨(some 102), .load none (.t 101), none⟩, ⟨(some 15), .mov (.t 102), none⟩]) (
      .dops 27 [⟨(some 103), .mov (.t 9), none⟩, ⟨(some 104), .mov (.t 10), none⟩, ⟨(some 105), .mov (.t 9), none⟩, ⟨(some 106), .mov (.t 10), none⟩, ⟨(some 107), .iaddr 1 (.t 105) (.t 106), none⟩, ⟨(some 108), .load none (.t 107), none⟩, ⟨(some 109), .mov (.t 3), none⟩, ⟨(some 110), .mov (.t 15), none⟩, ⟨(some 111), .iaddr 1 (.t 109) (.t 110), none⟩, ⟨(some 112), .load none (.t 111), none⟩, ⟨(some 113), .mnmx true [(.t 108), (.t 112)], none⟩, ⟨(some 114), .iaddr 1 (.t 103) (.t 104), none⟩, ⟨none, .store 1 (.t 114) (.t 113), none⟩] [0, 0, 0, 0, 0, 2, 0, 0, 0, 2, 0, 0, 0] []))) (
    .ops [⟨(some 115), .bin .add (.t 99) (.c (.lit (.int .i64 1))), none⟩, ⟨(some 99), .mov (.t 115), none⟩])))
def K_tree_Depth_5 (N : Nat → Nat) : AC :=
 .seq (
  .ops [⟨(some 116), .mov (.t 9), none⟩, ⟨(some 117), .mov (.t 10), none⟩, ⟨(some 118), .iaddr 1 (.t 116) (.t 117), none⟩, ⟨(some 119), .load none (.t 118), none⟩, ⟨(some 120), .bin .add (.t 119) (.c (.lit (.int .i64 1))), none⟩, ⟨(some 121), .iaddr 1 (.t 116) (.t 117), none⟩, ⟨none, .store 1 (.t 121) (.t 120), none⟩]) (
 .ops [⟨(some 122), .mov (.t 4), none⟩, ⟨(some 123), .mov (.t 9), none⟩, ⟨(some 124), .mov (.t 10), none⟩, ⟨(some 125), .iaddr 1 (.t 123) (.t 124), none⟩, ⟨(some 126), .load none (.t 125), none⟩, ⟨(some 127), .mnmx true [(.t 122), (.t 126)], none⟩, ⟨(some 4), .mov (.t 127), none⟩])
def K_tree_Depth_4 (N : Nat → Nat) : AC :=
 .seq (
  .seq (
   .ops [⟨(some 96), .faddr 7 (.t 11), none⟩, ⟨(some 97), .load none (.t 96), none⟩, ⟨(some 98), .len (.t 97), none⟩, ⟨(some 99), .mov (.c (.lit (.int .i64 0))), none⟩]) (
  .block 8 (
   .loop (L_tree_Depth_5 N)))) (K_tree_Depth_5 N)
def K_tree_Depth_6 (N : Nat → Nat) : AC :=
 .ops [⟨(some 128), .bin .add (.t 71) (.c (.lit (.int .i64 1))), none⟩, ⟨(some 71), .mov (.t 128), none⟩]
def L_tree_Depth_3 (N : Nat → Nat) : AC :=
    .seq (
     .ops [⟨(some 72), .bin .lss (.t 71) (.t 70), none⟩]) (
    .seq (
     .cond (.t 72) (
      .skip) (
      .exit 4)) (
    .seq (
     .block 5 (
      .seq (
       .ops [⟨(some 73), .mov (.t 71), none⟩, ⟨(some 74), .iaddr 8 (.t 69) (.t 71), none⟩, ⟨(some 75), .load (some 8) (.t 74), none⟩, ⟨(some 11), .new (t_api_Node N) (.agg [(.lit (.int .i64 0)), (.lit (.int .i64 0)), (.lit (.string (mkS []))), (.lit (.int .i64 0)), (.lit (.int .u64 0)), (.lit (.slice none 0 0)), (.lit (.slice none 0 0)), (.lit (.slice none 0 0))]), none⟩, ⟨(some 10), .mov (.t 73), none⟩, ⟨none, .store 8 (.t 11) (.t 75), none⟩]) (
      .seq (
       .seq (
        .ops [⟨(some 76), .faddr 6 (.t 11), none⟩, ⟨(some 77), .load none (.t 76), none⟩, ⟨(some 78), .len (.t 77), none⟩, ⟨(some 79), .mov (.c (.lit (.int .i64 0))), none⟩]) (
       .block 6 (
        .loop (L_tree_Depth_4 N)))) (K_tree_Depth_4 N)))) (K_tree_Depth_6 N)))
def K_tree_Depth_7 (N : Nat → Nat) : AC :=
 .seq (
  .ops [⟨(some 129), .mov (.t 4), none⟩, ⟨(some 2), .mov (.t 129), none⟩]) (
 .ret)
def K_tree_Depth_3 (N : Nat → Nat) : AC :=
 .seq (
  .ops [⟨(some 64), .faddr 0 (.t 1), none⟩, ⟨(some 65), .load none (.t 64), none⟩, ⟨(some 66), .len (.t 65), none⟩, ⟨(some 67), .mkslice (t_int N) 1 8 (.lit (.int .i64 0)) (.t 66) (.t 66), none⟩, ⟨(some 9), .mov (.t 67), none⟩]) (
 .seq (
  .seq (
   .ops [⟨(some 68), .faddr 0 (.t 1), none⟩, ⟨(some 69), .load none (.t 68), none⟩, ⟨(some 70), .len (.t 69), none⟩, ⟨(some 71), .mov (.c (.lit (.int .i64 0))), none⟩]) (
  .block 4 (
   .loop (L_tree_Depth_3 N)))) (K_tree_Depth_7 N))
/-- azimuth/tree.Depth -/
def C_tree_Depth (N : Nat → Nat) : AFunc := ⟨130, [.inl 2],
 .seq (
  .ops [⟨(some 1), .box (t_api_Tree N) (.t 0), none⟩, ⟨(some 2), .mov (.c (.lit (.int .i64 0))), none⟩]) (
 .seq (
  .seq (
   .ops [⟨(some 16), .load (some 3) (.t 1), none⟩, ⟨(some 17), .call (.c (.fn (f_tree_Check N) [] [])) [(.t 16)], none⟩, ⟨(some 18), .eq true .pint (.t 17) (.c (.lit (.int .i64 0))), none⟩]) (
  .cond (.t 18) (
   .seq (
    .ops [⟨(some 2), .mov (.c (.lit (.int .i64 0))), none⟩]) (
   .ret)) (
   .skip))) (
 .seq (
  .ops [⟨(some 19), .faddr 1 (.t 1), none⟩, ⟨(some 20), .load none (.t 19), none⟩, ⟨(some 21), .len (.t 20), none⟩, ⟨(some 22), .mkslice (t_int N) 1 8 (.lit (.int .i64 0)) (.t 21) (.t 21), none⟩, ⟨(some 3), .mov (.t 22), none⟩, ⟨(some 4), .mov (.c (.lit (.int .i64 0))), none⟩]) (
 .seq (
  .seq (
   .ops [⟨(some 23), .faddr 1 (.t 1), none⟩, ⟨(some 24), .load none (.t 23), none⟩, ⟨(some 25), .len (.t 24), none⟩, ⟨(some 26), .mov (.c (.lit (.int .i64 0))), none⟩]) (
  .block 0 (
   .loop (L_tree_Depth_1 N)))) (K_tree_Depth_3 N)))), false⟩

/-- azimuth/tree.New -/
def C_tree_New (N : Nat → Nat) : AFunc := ⟨3, [.inl 0],
 .seq (
  .ops [⟨(some 0), .mov (.c (.lit (.pointer none))), none⟩]) (
 .seq (
  .ops [⟨(some 1), .build [(.lit (.slice none 0 0)), (.lit (.slice none 0 0)), (.lit (.slice none 0 0))] [], none⟩, ⟨(some 2), .box (t_tree_Builder N) (.t 1), none⟩, ⟨(some 0), .mov (.t 2), none⟩]) (
 .ret)), false⟩

def L_tree_Same_1 (N : Nat → Nat) : AC :=
    .seq (
     .ops [⟨(some 31), .bin .lss (.t 30) (.t 29), none⟩]) (
    .seq (
     .cond (.t 31) (
      .skip) (
      .exit 0)) (
    .seq (
     .block 1 (
      .seq (
       .ops [⟨(some 32), .mov (.t 30), none⟩, ⟨(some 6), .mov (.t 32), none⟩]) (
      .seq (
       .dops 7 [⟨(some 33), .faddr 2 (.t 2), none⟩, ⟨(some 34), .load none (.t 33), none⟩, ⟨(some 35), .mov (.t 6), none⟩, ⟨(some 36), .iaddr 3 (.t 34) (.t 35), none⟩, ⟨(some 37), .faddr 0 (.t 36), none⟩, ⟨(some 38), .load none (.t 37), none⟩, ⟨(some 39), .faddr 2 (.t 3), none⟩, ⟨(some 40), .load none (.t 39), none⟩, ⟨(some 41), .mov (.t 6), none⟩, ⟨(some 42), .iaddr 3 (.t 40) (.t 41), none⟩, ⟨(some 43), .faddr 0 (.t 42), none⟩, ⟨(some 44), .load none (.t 43), none⟩, ⟨(some 45), .eq true .pstr (.t 38) (.t 44), none⟩, ⟨(some 46), .mov (.t 45), none⟩, ⟨(some 47), .load (some 6) (.t 5), (some (46, false))⟩, ⟨(some 48), .faddr 2 (.t 2), (some (46, false))⟩, ⟨(some 49), .load none (.t 48), (some (46, false))⟩, ⟨(some 50), .mov (.t 6), (some (46, false))⟩, ⟨(some 51), .iaddr 3 (.t 49) (.t 50), (some (46, false))⟩, ⟨(some 52), .faddr 1 (.t 51), (some (46, false))⟩, ⟨(some 53), .load none (.t 52), (some (46, false))⟩, ⟨(some 54), .faddr 2 (.t 3), (some (46, false))⟩, ⟨(some 55), .load none (.t 54), (some (46, false))⟩, ⟨(some 56), .mov (.t 6), (some (46, false))⟩, ⟨(some 57), .iaddr 3 (.t 55) (.t 56), (some (46, false))⟩, ⟨(some 58), .faddr 1 (.t 57), (some (46, false))⟩, ⟨(some 59), .load none (.t 58), (some (46, false))⟩, ⟨(some 60), .call (.c (.fn (f_tree_two_types N) [] [])) [(.t 47), (.t 53), (.t 59)], (some (46, false))⟩, ⟨(some 61), .un .not (.t 60), (some (46, false))⟩, ⟨(some 62), .pick (.t 46) (.c (.lit (.bool true))) (.t 61), none⟩] [0, 2, 0, 0, 0, 2, 0, 2, 0, 0, 0, 2, 0, 0, 2, 0, 2, 0, 0, 0, 2, 0, 2, 0, 0, 0, 2, 0, 0, 0] []) (
      .cond (.t 62) (
       .seq (
        .ops [⟨(some 4), .mov (.c (.lit (.bool false))), none⟩]) (
       .ret)) (
       .skip))))) (
    .ops [⟨(some 63), .bin .add (.t 30) (.c (.lit (.int .i64 1))), none⟩, ⟨(some 30), .mov (.t 63), none⟩])))
def K_tree_Same_1 (N : Nat → Nat) : AC :=
 .seq (
  .ops [⟨(some 64), .load (some 6) (.t 5), none⟩, ⟨(some 65), .faddr 0 (.t 2), none⟩, ⟨(some 66), .load none (.t 65), none⟩, ⟨(some 67), .len (.t 66), none⟩, ⟨(some 68), .bin .sub (.t 67) (.c (.lit (.int .i64 1))), none⟩, ⟨(some 69), .faddr 0 (.t 3), none⟩, ⟨(some 70), .load none (.t 69), none⟩, ⟨(some 71), .len (.t 70), none⟩, ⟨(some 72), .bin .sub (.t 71) (.c (.lit (.int .i64 1))), none⟩, ⟨(some 73), .call (.c (.fn (f_tree_two_terms N) [] [])) [(.t 64), (.t 68), (.t 72)], none⟩, ⟨(some 4), .mov (.t 73), none⟩]) (
 .ret)
/-- azimuth/tree.Same -/
def C_tree_Same (N : Nat → Nat) : AFunc := ⟨74, [.inl 4],
 .seq (
  .ops [⟨(some 2), .box (t_api_Tree N) (.t 0), none⟩, ⟨(some 3), .box (t_api_Tree N) (.t 1), none⟩, ⟨(some 4), .mov (.c (.lit (.bool false))), none⟩]) (
 .seq (
  .seq (
   .ops [⟨(some 7), .load (some 3) (.t 2), none⟩, ⟨(some 8), .call (.c (.fn (f_tree_Check N) [] [])) [(.t 7)], none⟩, ⟨(some 9), .eq true .pint (.t 8) (.c (.lit (.int .i64 0))), none⟩, ⟨(some 10), .mov (.t 9), none⟩, ⟨(some 11), .load (some 3) (.t 3), (some (10, false))⟩, ⟨(some 12), .call (.c (.fn (f_tree_Check N) [] [])) [(.t 11)], (some (10, false))⟩, ⟨(some 13), .eq true .pint (.t 12) (.c (.lit (.int .i64 0))), (some (10, false))⟩, ⟨(some 14), .pick (.t 10) (.c (.lit (.bool true))) (.t 13), none⟩, ⟨(some 15), .mov (.t 14), none⟩, ⟨(some 16), .faddr 2 (.t 2), (some (15, false))⟩, ⟨(some 17), .load none (.t 16), (some (15, false))⟩, ⟨(some 18), .len (.t 17), (some (15, false))⟩, ⟨(some 19), .faddr 2 (.t 3), (some (15, false))⟩, ⟨(some 20), .load none (.t 19), (some (15, false))⟩, ⟨(some 21), .len (.t 20), (some (15, false))⟩, ⟨(some 22), .eq true .pint (.t 18) (.t 21), (some (15, false))⟩, ⟨(some 23), .pick (.t 15) (.c (.lit (.bool true))) (.t 22), none⟩]) (
  .cond (.t 23) (
   .seq (
    .ops [⟨(some 4), .mov (.c (.lit (.bool false))), none⟩]) (
   .ret)) (
   .skip))) (
 .seq (
  .ops [⟨(some 24), .load (some 3) (.t 2), none⟩, ⟨(some 25), .load (some 3) (.t 3), none⟩, ⟨(some 26), .build [(.lit (.slice none 0 0)), (.lit (.slice none 0 0)), (.lit (.slice none 0 0)), (.lit (.slice none 0 0)), (.lit (.slice none 0 0)), (.lit (.slice none 0 0))] [(0, 3, (.t 24)), (3, 3, (.t 25))], none⟩, ⟨(some 5), .new (t_tree_two N) (.agg [(.lit (.slice none 0 0)), (.lit (.slice none 0 0)), (.lit (.slice none 0 0)), (.lit (.slice none 0 0)), (.lit (.slice none 0 0)), (.lit (.slice none 0 0))]), none⟩, ⟨none, .store 6 (.t 5) (.t 26), none⟩]) (
 .seq (
  .seq (
   .ops [⟨(some 27), .faddr 2 (.t 2), none⟩, ⟨(some 28), .load none (.t 27), none⟩, ⟨(some 29), .len (.t 28), none⟩, ⟨(some 30), .mov (.c (.lit (.int .i64 0))), none⟩]) (
  .block 0 (
   .loop (L_tree_Same_1 N)))) (K_tree_Same_1 N)))), false⟩

/-- azimuth/tree.Walk -/
def C_tree_Walk (N : Nat → Nat) : AFunc := ⟨6, [.inl 4],
 .seq (
  .ops [⟨(some 2), .box (t_api_Tree N) (.t 0), none⟩, ⟨(some 3), .box (t_int N) (.t 1), none⟩, ⟨(some 4), .mov (.c (.lit .nilFunc)), none⟩]) (
 .seq (
  .ops [⟨(some 5), .mkfn (f_tree_Walk_1 N) [] [(.t 3), (.t 2)], none⟩, ⟨(some 4), .mov (.t 5), none⟩]) (
 .ret)), false⟩

def L_tree_Walk_1_2 (N : Nat → Nat) : AC :=
       .ops [⟨(some 7), .mov (.t 50), none⟩]
def L_tree_Walk_1_3 (N : Nat → Nat) : AC :=
       .block 3 (
        .ops [⟨(some 51), .load none (.t 4), none⟩, ⟨(some 52), .mov (.t 7), none⟩, ⟨(some 53), .bslice (t_int N) 1 none 1 [(.lit (.int .i64 0))] [(0, 1, (.t 52))], none⟩, ⟨(some 54), .append (t_int N) 1 8 (.t 51) (.t 53), none⟩, ⟨none, .store 1 (.t 4) (.t 54), none⟩])
def K_tree_Walk_1_1 (N : Nat → Nat) : AC :=
 .seq (
  .ops [⟨(some 55), .load none (.t 4), none⟩]) (
 .ops [⟨(some 4), .new (t_sl_int N) (.lit (.slice none 0 0)), none⟩, ⟨none, .store 1 (.t 4) (.t 55), none⟩])
def L_tree_Walk_1_1 (N : Nat → Nat) : AC :=
   .seq (
    .seq (
     .ops [⟨(some 24), .load none (.t 4), none⟩, ⟨(some 25), .len (.t 24), none⟩, ⟨(some 26), .bin .gtr (.t 25) (.c (.lit (.int .i64 0))), none⟩]) (
    .cond (.t 26) (
     .skip) (
     .exit 0))) (
   .seq (
    .block 1 (
     .seq (
      .ops [⟨(some 27), .load none (.t 4), none⟩, ⟨(some 28), .load none (.t 4), none⟩, ⟨(some 29), .len (.t 28), none⟩, ⟨(some 30), .bin .sub (.t 29) (.c (.lit (.int .i64 1))), none⟩, ⟨(some 31), .iaddr 1 (.t 27) (.t 30), none⟩, ⟨(some 32), .load none (.t 31), none⟩, ⟨(some 5), .mov (.t 32), none⟩]) (
     .seq (
      .ops [⟨(some 33), .load none (.t 4), none⟩, ⟨(some 34), .load none (.t 4), none⟩, ⟨(some 35), .len (.t 34), none⟩, ⟨(some 36), .bin .sub (.t 35) (.c (.lit (.int .i64 1))), none⟩, ⟨(some 37), .slice 1 (.t 33) none (some (.t 36)), none⟩, ⟨none, .store 1 (.t 4) (.t 37), none⟩]) (
     .seq (
      .seq (
       .ops [⟨(some 38), .mov (.t 0), none⟩, ⟨(some 39), .mov (.t 5), none⟩, ⟨(some 40), .call (.t 38) [(.t 39)], none⟩, ⟨(some 41), .un .not (.t 40), none⟩]) (
      .cond (.t 41) (
       .ret) (
       .skip))) (
     .seq (
      .ops [⟨(some 42), .faddr 0 (.t 2), none⟩, ⟨(some 43), .load none (.t 42), none⟩, ⟨(some 44), .mov (.t 5), none⟩, ⟨(some 45), .iaddr 8 (.t 43) (.t 44), none⟩, ⟨(some 46), .faddr 6 (.t 45), none⟩, ⟨(some 47), .load none (.t 46), none⟩, ⟨(some 48), .call (.c (.fn (f_slices_Backward_sl_int_int N) [] [])) [(.t 47)], none⟩]) (
     .block 2 (
      .rangeFn (.t 48) [49, 50] (L_tree_Walk_1_2 N) (L_tree_Walk_1_3 N)))))))) (K_tree_Walk_1_1 N))
/-- azimuth/tree.Walk$1 -/
def C_tree_Walk_1 (N : Nat → Nat) : AFunc := ⟨56, [],
 .seq (
  .seq (
   .ops [⟨(some 8), .load none (.t 1), none⟩, ⟨(some 9), .bin .lss (.t 8) (.c (.lit (.int .i64 0))), none⟩, ⟨(some 10), .mov (.t 9), none⟩, ⟨(some 11), .load none (.t 1), (some (10, false))⟩, ⟨(some 12), .faddr 0 (.t 2), (some (10, false))⟩, ⟨(some 13), .load none (.t 12), (some (10, false))⟩, ⟨(some 14), .len (.t 13), (some (10, false))⟩, ⟨(some 15), .bin .geq (.t 11) (.t 14), (some (10, false))⟩, ⟨(some 16), .pick (.t 10) (.c (.lit (.bool true))) (.t 15), none⟩, ⟨(some 17), .mov (.t 16), none⟩, ⟨(some 18), .load (some 3) (.t 2), (some (17, false))⟩, ⟨(some 19), .call (.c (.fn (f_tree_Check N) [] [])) [(.t 18)], (some (17, false))⟩, ⟨(some 20), .eq true .pint (.t 19) (.c (.lit (.int .i64 0))), (some (17, false))⟩, ⟨(some 21), .pick (.t 17) (.c (.lit (.bool true))) (.t 20), none⟩]) (
  .cond (.t 21) (
   .ret) (
   .skip))) (
 .seq (
  .ops [⟨(some 22), .load none (.t 1), none⟩, ⟨(some 23), .bslice (t_int N) 1 none 1 [(.lit (.int .i64 0))] [(0, 1, (.t 22))], none⟩, ⟨(some 4), .new (t_sl_int N) (.lit (.slice none 0 0)), none⟩, ⟨none, .store 1 (.t 4) (.t 23), none⟩]) (
 .block 0 (
  .loop (L_tree_Walk_1_1 N)))), false⟩

/-- azimuth/tree.cloneTerm -/
def C_tree_cloneTerm (N : Nat → Nat) : AFunc := ⟨16, [.inr (2, (some 8))],
 .seq (
  .ops [⟨(some 1), .box (t_api_Node N) (.t 0), none⟩, ⟨(some 2), .new (t_api_Node N) (.agg [(.lit (.int .i64 0)), (.lit (.int .i64 0)), (.lit (.string (mkS []))), (.lit (.int .i64 0)), (.lit (.int .u64 0)), (.lit (.slice none 0 0)), (.lit (.slice none 0 0)), (.lit (.slice none 0 0))]), none⟩]) (
 .seq (
  .dops 1 [⟨(some 3), .faddr 5 (.t 1), none⟩, ⟨(some 4), .load none (.t 3), none⟩, ⟨(some 6), .faddr 6 (.t 1), none⟩, ⟨(some 7), .load none (.t 6), none⟩, ⟨(some 9), .faddr 7 (.t 1), none⟩, ⟨(some 10), .load none (.t 9), none⟩, ⟨(some 5), .call (.c (.fn (f_slices_Clone_sl_string_string N) [] [])) [(.t 4)], none⟩, ⟨(some 12), .faddr 5 (.t 1), none⟩, ⟨(some 8), .call (.c (.fn (f_slices_Clone_sl_int_int N) [] [])) [(.t 7)], none⟩, ⟨(some 11), .call (.c (.fn (f_slices_Clone_sl_int_int N) [] [])) [(.t 10)], none⟩, ⟨none, .store 1 (.t 12) (.t 5), none⟩, ⟨(some 13), .faddr 6 (.t 1), none⟩, ⟨none, .store 1 (.t 13) (.t 8), none⟩, ⟨(some 14), .faddr 7 (.t 1), none⟩, ⟨none, .store 1 (.t 14) (.t 11), none⟩] [0, 2, 0, 2, 0, 2, 1, 0, 1, 0, 0, 0, 0, 0, 0] []) (
 .seq (
  .ops [⟨(some 15), .load (some 8) (.t 1), none⟩, ⟨none, .store 8 (.t 2) (.t 15), none⟩]) (
 .ret))), false⟩

/-- azimuth/tree.cloneType -/
def C_tree_cloneType (N : Nat → Nat) : AFunc := ⟨12, [.inr (2, (some 6))],
 .seq (
  .ops [⟨(some 1), .box (t_api_TypeNode N) (.t 0), none⟩, ⟨(some 2), .new (t_api_TypeNode N) (.agg [(.lit (.int .i64 0)), (.lit (.int .i64 0)), (.lit (.string (mkS []))), (.lit (.slice none 0 0)), (.lit (.slice none 0 0)), (.lit (.bool false))]), none⟩]) (
 .seq (
  .dops 1 [⟨(some 3), .faddr 3 (.t 1), none⟩, ⟨(some 4), .load none (.t 3), none⟩, ⟨(some 6), .faddr 4 (.t 1), none⟩, ⟨(some 7), .load none (.t 6), none⟩, ⟨(some 5), .call (.c (.fn (f_slices_Clone_sl_string_string N) [] [])) [(.t 4)], none⟩, ⟨(some 9), .faddr 3 (.t 1), none⟩, ⟨(some 8), .call (.c (.fn (f_slices_Clone_sl_int_int N) [] [])) [(.t 7)], none⟩, ⟨none, .store 1 (.t 9) (.t 5), none⟩, ⟨(some 10), .faddr 4 (.t 1), none⟩, ⟨none, .store 1 (.t 10) (.t 8), none⟩] [0, 2, 0, 2, 1, 0, 0, 0, 0, 0] []) (
 .seq (
  .ops [⟨(some 11), .load (some 6) (.t 1), none⟩, ⟨none, .store 6 (.t 2) (.t 11), none⟩]) (
 .ret))), false⟩

/-- slices.Clone[[]azimuth/api.Alias,azimuth/api.Alias] -/
def C_slices_Clone_sl_api_Alias_api_Alias (N : Nat → Nat) : AFunc := ⟨8, [.inl 2],
 .seq (
  .ops [⟨(some 2), .mov (.c (.lit (.slice none 0 0))), none⟩]) (
 .seq (
  .seq (
   .ops [⟨(some 3), .mov (.t 0), none⟩, ⟨(some 4), .eq false .pslice (.t 3) (.c (.lit (.slice none 0 0))), none⟩]) (
  .cond (.t 4) (
   .seq (
    .ops [⟨(some 2), .mov (.c (.lit (.slice none 0 0))), none⟩]) (
   .ret)) (
   .skip))) (
 .seq (
  .ops [⟨(some 5), .bslice (t_api_Alias N) 3 (some 3) 0 [(.lit (.string (mkS []))), (.lit (.int .i64 0)), (.lit (.int .i64 0))] [], none⟩, ⟨(some 6), .mov (.t 0), none⟩, ⟨(some 7), .append (t_api_Alias N) 3 32 (.t 5) (.t 6), none⟩, ⟨(some 2), .mov (.t 7), none⟩]) (
 .ret))), false⟩
end Go.Proofs.Eng
/- Templates of functions, as the engine takes them; numbers of functions and types by names. Printed by tm.py. -/
set_option linter.unusedVariables false
set_option maxRecDepth 100000
namespace Go.Proofs.Eng
open Go

/-- (*azimuth/store.Store).All -/
def C_p_store_Store_All (N : Nat → Nat) : AFunc := ⟨4, [.inl 2],
 .seq (
  .ops [⟨(some 1), .box (t_p_store_Store N) (.t 0), none⟩, ⟨(some 2), .mov (.c (.lit .nilFunc)), none⟩]) (
 .seq (
  .ops [⟨(some 3), .mkfn (f_p_store_Store_All_1 N) [] [(.t 1)], none⟩, ⟨(some 2), .mov (.t 3), none⟩]) (
 .ret)), false⟩

def L_p_store_Store_All_1_1 (N : Nat → Nat) : AC :=
   .seq (
    .ops [⟨(some 15), .bin .lss (.t 14) (.t 13), none⟩]) (
   .seq (
    .cond (.t 15) (
     .skip) (
     .exit 0)) (
   .seq (
    .block 1 (
     .seq (
      .ops [⟨(some 16), .iaddr 1 (.t 12) (.t 14), none⟩, ⟨(some 17), .load none (.t 16), none⟩, ⟨(some 4), .mov (.t 17), none⟩]) (
     .seq (
      .ops [⟨(some 18), .mov (.t 0), none⟩, ⟨(some 19), .mov (.t 4), none⟩, ⟨(some 20), .load none (.t 1), none⟩, ⟨(some 21), .nilchk (.t 20), none⟩, ⟨(some 22), .faddr 0 (.t 21), none⟩, ⟨(some 23), .load none (.t 22), none⟩, ⟨(some 24), .mov (.t 4), none⟩, ⟨(some 25), .lookup .string (.lit (.slice none 0 0)) (.t 23) (.t 24) false, none⟩, ⟨(some 26), .call (.c (.fn (f_slices_Clone_sl_byte_byte N) [] [])) [(.t 25)], none⟩, ⟨(some 27), .call (.t 18) [(.t 19), (.t 26)], none⟩, ⟨(some 28), .un .not (.t 27), none⟩]) (
     .cond (.t 28) (
      .ret) (
      .skip))))) (
   .ops [⟨(some 29), .bin .add (.t 14) (.c (.lit (.int .i64 1))), none⟩, ⟨(some 14), .mov (.t 29), none⟩])))
/-- (*azimuth/store.Store).All$1 -/
def C_p_store_Store_All_1 (N : Nat → Nat) : AFunc := ⟨30, [],
 .seq (
  .seq (
   .ops [⟨(some 5), .load none (.t 1), none⟩, ⟨(some 6), .eq false .pptr (.t 5) (.c (.lit (.pointer none))), none⟩]) (
  .cond (.t 6) (
   .ret) (
   .skip))) (
 .seq (
  .ops [⟨(some 7), .load none (.t 1), none⟩, ⟨(some 8), .nilchk (.t 7), none⟩, ⟨(some 9), .faddr 0 (.t 8), none⟩, ⟨(some 10), .load none (.t 9), none⟩, ⟨(some 11), .call (.c (.fn (f_maps_Keys_map_string_sl_byte_string_sl_byte N) [] [])) [(.t 10)], none⟩, ⟨(some 12), .call (.c (.fn (f_slices_Sorted_string N) [] [])) [(.t 11)], none⟩, ⟨(some 13), .len (.t 12), none⟩, ⟨(some 14), .mov (.c (.lit (.int .i64 0))), none⟩]) (
 .block 0 (
  .loop (L_p_store_Store_All_1_1 N)))), false⟩

def L_p_store_Store_Copy_1 (N : Nat → Nat) : AC :=
    .seq (
     .ops [⟨none, .mnmx false [], none⟩, ⟨(some 22), .extract (.t 21) 0, none⟩]) (
    .seq (
     .cond (.t 22) (
      .skip) (
      .exit 0)) (
    .block 1 (
     .seq (
      .ops [⟨none, .mnmx false [], none⟩, ⟨(some 24), .extract (.t 23) 0, none⟩, ⟨(some 25), .extract (.t 23) 1, none⟩, ⟨(some 4), .mov (.t 24), none⟩, ⟨(some 5), .mov (.t 25), none⟩]) (
     .dops 8 [⟨(some 26), .mov (.t 3), none⟩, ⟨(some 27), .nilchk (.t 26), none⟩, ⟨(some 28), .faddr 0 (.t 27), none⟩, ⟨(some 29), .load none (.t 28), none⟩, ⟨(some 30), .mov (.t 4), none⟩, ⟨(some 31), .mov (.t 5), none⟩, ⟨(some 32), .call (.c (.fn (f_slices_Clone_sl_byte_byte N) [] [])) [(.t 31)], none⟩, ⟨none, .mapupd .string (.t 29) (.t 30) (.t 32), none⟩] [0, 0, 0, 0, 0, 0, 1, 0] []))))
def K_p_store_Store_Copy_1 (N : Nat → Nat) : AC :=
 .seq (
  .ops [⟨(some 33), .mov (.t 3), none⟩, ⟨(some 2), .mov (.t 33), none⟩]) (
 .ret)
/-- (*azimuth/store.Store).Copy -/
def C_p_store_Store_Copy (N : Nat → Nat) : AFunc := ⟨34, [.inl 2],
 .seq (
  .ops [⟨(some 2), .mov (.c (.lit (.pointer none))), none⟩]) (
 .seq (
  .seq (
   .ops [⟨(some 6), .mov (.t 0), none⟩, ⟨(some 7), .eq false .pptr (.t 6) (.c (.lit (.pointer none))), none⟩]) (
  .cond (.t 7) (
   .seq (
    .ops [⟨(some 2), .mov (.c (.lit (.pointer none))), none⟩]) (
   .ret)) (
   .skip))) (
 .seq (
  .ops [⟨(some 8), .call (.c (.fn (f_store_New N) [] [])) [], none⟩, ⟨(some 3), .mov (.t 8), none⟩]) (
 .seq (
  .ops [⟨(some 9), .mov (.t 3), none⟩, ⟨(some 10), .mov (.t 0), none⟩, ⟨(some 11), .nilchk (.t 10), none⟩, ⟨(some 12), .faddr 1 (.t 11), none⟩, ⟨(some 13), .load none (.t 12), none⟩, ⟨(some 14), .nilchk (.t 9), none⟩, ⟨(some 15), .faddr 1 (.t 14), none⟩, ⟨none, .store 1 (.t 15) (.t 13), none⟩]) (
 .seq (
  .seq (
   .ops [⟨(some 16), .mov (.t 0), none⟩, ⟨(some 17), .nilchk (.t 16), none⟩, ⟨(some 18), .faddr 0 (.t 17), none⟩, ⟨(some 19), .load none (.t 18), none⟩, ⟨none, .mnmx false [], none⟩]) (
  .block 0 (
   .loop (L_p_store_Store_Copy_1 N)))) (K_p_store_Store_Copy_1 N))))), false⟩

/-- (*azimuth/store.Store).Delete -/
def C_p_store_Store_Delete (N : Nat → Nat) : AFunc := ⟨32, [.inl 4],
 .seq (
  .ops [⟨(some 4), .mov (.c (.lit (.int .i64 0))), none⟩]) (
 .seq (
  .seq (
   .ops [⟨(some 7), .mov (.t 0), none⟩, ⟨(some 8), .eq false .pptr (.t 7) (.c (.lit (.pointer none))), none⟩]) (
  .cond (.t 8) (
   .seq (
    .ops [⟨(some 4), .mov (.c (.lit (.int .i64 1))), none⟩]) (
   .ret)) (
   .skip))) (
 .seq (
  .seq (
   .ops [⟨(some 10), .mov (.t 0), none⟩, ⟨(some 11), .nilchk (.t 10), none⟩, ⟨(some 12), .faddr 0 (.t 11), none⟩, ⟨(some 13), .load none (.t 12), none⟩, ⟨(some 14), .mov (.t 1), none⟩, ⟨(some 15), .lookup .string (.lit (.slice none 0 0)) (.t 13) (.t 14) true, none⟩, ⟨(some 9), .mov (.t 15), none⟩, ⟨(some 16), .extract (.t 9) 0, none⟩, ⟨(some 17), .extract (.t 9) 1, none⟩, ⟨(some 5), .mov (.t 16), none⟩, ⟨(some 6), .mov (.t 17), none⟩]) (
  .seq (
   .ops [⟨(some 18), .mov (.t 6), none⟩, ⟨(some 19), .un .not (.t 18), none⟩]) (
  .cond (.t 19) (
   .seq (
    .ops [⟨(some 4), .mov (.c (.lit (.int .i64 13))), none⟩]) (
   .ret)) (
   .skip)))) (
 .seq (
  .ops [⟨(some 20), .mov (.t 0), none⟩, ⟨(some 21), .nilchk (.t 20), none⟩, ⟨(some 22), .faddr 0 (.t 21), none⟩, ⟨(some 23), .load none (.t 22), none⟩, ⟨(some 24), .mov (.t 1), none⟩, ⟨none, .delete .string (.t 23) (.t 24), none⟩]) (
 .seq (
  .ops [⟨(some 25), .mov (.t 0), none⟩, ⟨(some 26), .nilchk (.t 25), none⟩, ⟨(some 27), .faddr 1 (.t 26), none⟩, ⟨(some 28), .load none (.t 27), none⟩, ⟨(some 29), .bin .add (.t 28) (.c (.lit (.int .i64 1))), none⟩, ⟨(some 30), .nilchk (.t 25), none⟩, ⟨(some 31), .faddr 1 (.t 30), none⟩, ⟨none, .store 1 (.t 31) (.t 29), none⟩]) (
 .seq (
  .ops [⟨(some 4), .mov (.c (.lit (.int .i64 0))), none⟩]) (
 .ret)))))), false⟩

/-- (*azimuth/store.Store).Len -/
def C_p_store_Store_Len (N : Nat → Nat) : AFunc := ⟨10, [.inl 2],
 .seq (
  .ops [⟨(some 2), .mov (.c (.lit (.int .i64 0))), none⟩]) (
 .seq (
  .seq (
   .ops [⟨(some 3), .mov (.t 0), none⟩, ⟨(some 4), .eq false .pptr (.t 3) (.c (.lit (.pointer none))), none⟩]) (
  .cond (.t 4) (
   .seq (
    .ops [⟨(some 2), .mov (.c (.lit (.int .i64 0))), none⟩]) (
   .ret)) (
   .skip))) (
 .seq (
  .ops [⟨(some 5), .mov (.t 0), none⟩, ⟨(some 6), .nilchk (.t 5), none⟩, ⟨(some 7), .faddr 0 (.t 6), none⟩, ⟨(some 8), .load none (.t 7), none⟩, ⟨(some 9), .lenm (.t 8), none⟩, ⟨(some 2), .mov (.t 9), none⟩]) (
 .ret))), false⟩

/-- (*azimuth/store.Store).Rename -/
def C_p_store_Store_Rename (N : Nat → Nat) : AFunc := ⟨58, [.inl 6],
 .seq (
  .ops [⟨(some 6), .mov (.c (.lit (.int .i64 0))), none⟩]) (
 .seq (
  .seq (
   .ops [⟨(some 11), .mov (.t 0), none⟩, ⟨(some 12), .eq false .pptr (.t 11) (.c (.lit (.pointer none))), none⟩]) (
  .cond (.t 12) (
   .seq (
    .ops [⟨(some 6), .mov (.c (.lit (.int .i64 1))), none⟩]) (
   .ret)) (
   .skip))) (
 .seq (
  .ops [⟨(some 14), .mov (.t 0), none⟩, ⟨(some 15), .nilchk (.t 14), none⟩, ⟨(some 16), .faddr 0 (.t 15), none⟩, ⟨(some 17), .load none (.t 16), none⟩, ⟨(some 18), .mov (.t 1), none⟩, ⟨(some 19), .lookup .string (.lit (.slice none 0 0)) (.t 17) (.t 18) true, none⟩, ⟨(some 13), .mov (.t 19), none⟩, ⟨(some 20), .extract (.t 13) 0, none⟩, ⟨(some 21), .extract (.t 13) 1, none⟩, ⟨(some 7), .mov (.t 20), none⟩, ⟨(some 8), .mov (.t 21), none⟩]) (
 .seq (
  .ops [⟨(some 23), .mov (.t 0), none⟩, ⟨(some 24), .nilchk (.t 23), none⟩, ⟨(some 25), .faddr 0 (.t 24), none⟩, ⟨(some 26), .load none (.t 25), none⟩, ⟨(some 27), .mov (.t 2), none⟩, ⟨(some 28), .lookup .string (.lit (.slice none 0 0)) (.t 26) (.t 27) true, none⟩, ⟨(some 22), .mov (.t 28), none⟩, ⟨(some 29), .extract (.t 22) 0, none⟩, ⟨(some 30), .extract (.t 22) 1, none⟩, ⟨(some 9), .mov (.t 29), none⟩, ⟨(some 10), .mov (.t 30), none⟩]) (
 .seq (
  .block 0 (
   .seq (
    .ops [⟨(some 32), .mov (.t 8), none⟩, ⟨(some 33), .un .not (.t 32), none⟩, ⟨(some 31), .mov (.t 33), none⟩]) (
   .cond (.t 31) (
    .seq (
     .ops [⟨(some 6), .mov (.c (.lit (.int .i64 13))), none⟩]) (
    .ret)) (
    .seq (
     .ops [⟨(some 35), .mov (.t 2), none⟩, ⟨(some 36), .call (.c (.fn (f_lexer_IsName N) [] [])) [(.t 35)], none⟩, ⟨(some 37), .un .not (.t 36), none⟩, ⟨(some 34), .mov (.t 37), none⟩]) (
    .cond (.t 34) (
     .seq (
      .ops [⟨(some 6), .mov (.c (.lit (.int .i64 7))), none⟩]) (
     .ret)) (
     .seq (
      .ops [⟨(some 39), .mov (.t 10), none⟩, ⟨(some 38), .mov (.t 39), none⟩]) (
     .cond (.t 38) (
      .seq (
       .ops [⟨(some 6), .mov (.c (.lit (.int .i64 8))), none⟩]) (
      .ret)) (
      .skip)))))))) (
 .seq (
  .ops [⟨(some 40), .mov (.t 0), none⟩, ⟨(some 41), .nilchk (.t 40), none⟩, ⟨(some 42), .faddr 0 (.t 41), none⟩, ⟨(some 43), .load none (.t 42), none⟩, ⟨(some 44), .mov (.t 1), none⟩, ⟨none, .delete .string (.t 43) (.t 44), none⟩]) (
 .seq (
  .ops [⟨(some 45), .mov (.t 0), none⟩, ⟨(some 46), .nilchk (.t 45), none⟩, ⟨(some 47), .faddr 0 (.t 46), none⟩, ⟨(some 48), .load none (.t 47), none⟩, ⟨(some 49), .mov (.t 2), none⟩, ⟨(some 50), .mov (.t 7), none⟩, ⟨none, .mapupd .string (.t 48) (.t 49) (.t 50), none⟩]) (
 .seq (
  .ops [⟨(some 51), .mov (.t 0), none⟩, ⟨(some 52), .nilchk (.t 51), none⟩, ⟨(some 53), .faddr 1 (.t 52), none⟩, ⟨(some 54), .load none (.t 53), none⟩, ⟨(some 55), .bin .add (.t 54) (.c (.lit (.int .i64 1))), none⟩, ⟨(some 56), .nilchk (.t 51), none⟩, ⟨(some 57), .faddr 1 (.t 56), none⟩, ⟨none, .store 1 (.t 57) (.t 55), none⟩]) (
 .seq (
  .ops [⟨(some 6), .mov (.c (.lit (.int .i64 0))), none⟩]) (
 .ret))))))))), false⟩

/-- (*azimuth/store.Store).Set -/
def C_p_store_Store_Set (N : Nat → Nat) : AFunc := ⟨53, [.inl 6],
 .seq (
  .ops [⟨(some 6), .mov (.c (.lit (.int .i64 0))), none⟩]) (
 .seq (
  .seq (
   .ops [⟨(some 9), .mov (.t 0), none⟩, ⟨(some 10), .eq false .pptr (.t 9) (.c (.lit (.pointer none))), none⟩]) (
  .cond (.t 10) (
   .seq (
    .ops [⟨(some 6), .mov (.c (.lit (.int .i64 1))), none⟩]) (
   .ret)) (
   .skip))) (
 .seq (
  .ops [⟨(some 12), .mov (.t 0), none⟩, ⟨(some 13), .nilchk (.t 12), none⟩, ⟨(some 14), .faddr 0 (.t 13), none⟩, ⟨(some 15), .load none (.t 14), none⟩, ⟨(some 16), .mov (.t 1), none⟩, ⟨(some 17), .lookup .string (.lit (.slice none 0 0)) (.t 15) (.t 16) true, none⟩, ⟨(some 11), .mov (.t 17), none⟩, ⟨(some 18), .extract (.t 11) 0, none⟩, ⟨(some 19), .extract (.t 11) 1, none⟩, ⟨(some 7), .mov (.t 18), none⟩, ⟨(some 8), .mov (.t 19), none⟩]) (
 .seq (
  .block 0 (
   .seq (
    .ops [⟨(some 21), .mov (.t 1), none⟩, ⟨(some 22), .call (.c (.fn (f_lexer_IsName N) [] [])) [(.t 21)], none⟩, ⟨(some 23), .un .not (.t 22), none⟩, ⟨(some 20), .mov (.t 23), none⟩]) (
   .cond (.t 20) (
    .seq (
     .ops [⟨(some 6), .mov (.c (.lit (.int .i64 7))), none⟩]) (
    .ret)) (
    .seq (
     .ops [⟨(some 25), .mov (.t 2), none⟩, ⟨(some 26), .len (.t 25), none⟩, ⟨(some 27), .bin .gtr (.t 26) (.c (.lit (.int .i64 1048576))), none⟩, ⟨(some 24), .mov (.t 27), none⟩]) (
    .cond (.t 24) (
     .seq (
      .ops [⟨(some 6), .mov (.c (.lit (.int .i64 6))), none⟩]) (
     .ret)) (
     .seq (
      .ops [⟨(some 29), .mov (.t 8), none⟩, ⟨(some 30), .un .not (.t 29), none⟩, ⟨(some 31), .mov (.t 30), none⟩, ⟨(some 32), .mov (.t 0), (some (31, true))⟩, ⟨(some 33), .nilchk (.t 32), (some (31, true))⟩, ⟨(some 34), .faddr 0 (.t 33), (some (31, true))⟩, ⟨(some 35), .load none (.t 34), (some (31, true))⟩, ⟨(some 36), .lenm (.t 35), (some (31, true))⟩, ⟨(some 37), .bin .geq (.t 36) (.c (.lit (.int .i64 256))), (some (31, true))⟩, ⟨(some 38), .pick (.t 31) (.t 37) (.c (.lit (.bool false))), none⟩, ⟨(some 28), .mov (.t 38), none⟩]) (
     .cond (.t 28) (
      .seq (
       .ops [⟨(some 6), .mov (.c (.lit (.int .i64 20))), none⟩]) (
      .ret)) (
      .skip)))))))) (
 .seq (
  .dops 10 [⟨(some 39), .mov (.t 0), none⟩, ⟨(some 40), .nilchk (.t 39), none⟩, ⟨(some 41), .faddr 0 (.t 40), none⟩, ⟨(some 42), .load none (.t 41), none⟩, ⟨(some 43), .mov (.t 1), none⟩, ⟨(some 44), .mov (.t 2), none⟩, ⟨(some 45), .call (.c (.fn (f_slices_Clone_sl_byte_byte N) [] [])) [(.t 44)], none⟩, ⟨none, .mapupd .string (.t 42) (.t 43) (.t 45), none⟩] [0, 0, 0, 0, 0, 0, 1, 0] []) (
 .seq (
  .ops [⟨(some 46), .mov (.t 0), none⟩, ⟨(some 47), .nilchk (.t 46), none⟩, ⟨(some 48), .faddr 1 (.t 47), none⟩, ⟨(some 49), .load none (.t 48), none⟩, ⟨(some 50), .bin .add (.t 49) (.c (.lit (.int .i64 1))), none⟩, ⟨(some 51), .nilchk (.t 46), none⟩, ⟨(some 52), .faddr 1 (.t 51), none⟩, ⟨none, .store 1 (.t 52) (.t 50), none⟩]) (
 .seq (
  .ops [⟨(some 6), .mov (.c (.lit (.int .i64 0))), none⟩]) (
 .ret))))))), false⟩

/-- (*azimuth/store.Store).Text -/
def C_p_store_Store_Text (N : Nat → Nat) : AFunc := ⟨22, [.inl 4, .inl 5],
 .seq (
  .ops [⟨(some 4), .mov (.c (.lit (.slice none 0 0))), none⟩, ⟨(some 5), .mov (.c (.lit (.bool false))), none⟩]) (
 .seq (
  .seq (
   .ops [⟨(some 8), .mov (.t 0), none⟩, ⟨(some 9), .eq false .pptr (.t 8) (.c (.lit (.pointer none))), none⟩]) (
  .cond (.t 9) (
   .seq (
    .ops [⟨(some 4), .mov (.c (.lit (.slice none 0 0))), none⟩, ⟨(some 5), .mov (.c (.lit (.bool false))), none⟩]) (
   .ret)) (
   .skip))) (
 .seq (
  .ops [⟨(some 11), .mov (.t 0), none⟩, ⟨(some 12), .nilchk (.t 11), none⟩, ⟨(some 13), .faddr 0 (.t 12), none⟩, ⟨(some 14), .load none (.t 13), none⟩, ⟨(some 15), .mov (.t 1), none⟩, ⟨(some 16), .lookup .string (.lit (.slice none 0 0)) (.t 14) (.t 15) true, none⟩, ⟨(some 10), .mov (.t 16), none⟩, ⟨(some 17), .extract (.t 10) 0, none⟩, ⟨(some 18), .extract (.t 10) 1, none⟩, ⟨(some 6), .mov (.t 17), none⟩, ⟨(some 7), .mov (.t 18), none⟩]) (
 .seq (
  .ops [⟨(some 19), .mov (.t 6), none⟩, ⟨(some 20), .call (.c (.fn (f_slices_Clone_sl_byte_byte N) [] [])) [(.t 19)], none⟩, ⟨(some 21), .mov (.t 7), none⟩, ⟨(some 4), .mov (.t 20), none⟩, ⟨(some 5), .mov (.t 21), none⟩]) (
 .ret)))), false⟩

/-- (*azimuth/store.Store).Turn -/
def C_p_store_Store_Turn (N : Nat → Nat) : AFunc := ⟨9, [.inl 2],
 .seq (
  .ops [⟨(some 2), .mov (.c (.lit (.int .i64 0))), none⟩]) (
 .seq (
  .seq (
   .ops [⟨(some 3), .mov (.t 0), none⟩, ⟨(some 4), .eq false .pptr (.t 3) (.c (.lit (.pointer none))), none⟩]) (
  .cond (.t 4) (
   .seq (
    .ops [⟨(some 2), .mov (.c (.lit (.int .i64 0))), none⟩]) (
   .ret)) (
   .skip))) (
 .seq (
  .ops [⟨(some 5), .mov (.t 0), none⟩, ⟨(some 6), .nilchk (.t 5), none⟩, ⟨(some 7), .faddr 1 (.t 6), none⟩, ⟨(some 8), .load none (.t 7), none⟩, ⟨(some 2), .mov (.t 8), none⟩]) (
 .ret))), false⟩

/-- azimuth/store.New -/
def C_store_New (N : Nat → Nat) : AFunc := ⟨4, [.inl 0],
 .seq (
  .ops [⟨(some 0), .mov (.c (.lit (.pointer none))), none⟩]) (
 .seq (
  .ops [⟨(some 1), .mkmap, none⟩, ⟨(some 2), .build [(.lit (.map none)), (.lit (.int .i64 0))] [(0, 1, (.t 1))], none⟩, ⟨(some 3), .box (t_store_Store N) (.t 2), none⟩, ⟨(some 0), .mov (.t 3), none⟩]) (
 .ret)), false⟩

/-- slices.Clone[[]byte,byte] -/
def C_slices_Clone_sl_byte_byte (N : Nat → Nat) : AFunc := ⟨8, [.inl 2],
 .seq (
  .ops [⟨(some 2), .mov (.c (.lit (.slice none 0 0))), none⟩]) (
 .seq (
  .seq (
   .ops [⟨(some 3), .mov (.t 0), none⟩, ⟨(some 4), .eq false .pslice (.t 3) (.c (.lit (.slice none 0 0))), none⟩]) (
  .cond (.t 4) (
   .seq (
    .ops [⟨(some 2), .mov (.c (.lit (.slice none 0 0))), none⟩]) (
   .ret)) (
   .skip))) (
 .seq (
  .ops [⟨(some 5), .bslice (t_uint8 N) 1 none 0 [(.lit (.int .u8 0))] [], none⟩, ⟨(some 6), .mov (.t 0), none⟩, ⟨(some 7), .append (t_uint8 N) 1 1 (.t 5) (.t 6), none⟩, ⟨(some 2), .mov (.t 7), none⟩]) (
 .ret))), false⟩
end Go.Proofs.Eng
