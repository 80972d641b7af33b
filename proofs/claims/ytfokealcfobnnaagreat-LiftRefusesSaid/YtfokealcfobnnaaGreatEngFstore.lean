/- Templates of functions, as the engine takes them; numbers of functions and types by names. Printed by tm.py. -/
import Derived.Test.YtfokealcfobnnaaGreatM32
set_option linter.unusedVariables false
set_option maxRecDepth 100000
namespace Go.Proofs.Eng
open Go

/-- (*azimuth/store.Store).All -/
def C_p_store_Store_All (N : Nat → Nat) : AFunc := ⟨4, [.inl 2],
 .seq (
  .ops [⟨(some 1), .box (t_p_store_Store N) (.t 0), none⟩, ⟨(some 2), .mov (.c (.lit .nilFunc)), none⟩]) (
 .seq (
  .ops [⟨(some 3), .mkfn (f_p_store_Store_All_1 N) [] [(.t 1)], none⟩, ⟨(some 2), .mov (.t 3), none⟩]) (
 .ret)), false⟩

def L_p_store_Store_All_1_1 (N : Nat → Nat) : AC :=
   .seq (
    .ops [⟨(some 15), .bin .lss (.t 14) (.t 13), none⟩]) (
   .seq (
    .cond (.t 15) (
     .skip) (
     .exit 0)) (
   .seq (
    .block 1 (
     .seq (
      .ops [⟨(some 16), .iaddr 1 (.t 12) (.t 14), none⟩, ⟨(some 17), .load none (.t 16), none⟩, ⟨(some 4), .mov (.t 17), none⟩]) (
     .seq (
      .ops [⟨(some 18), .mov (.t 0), none⟩, ⟨(some 19), .mov (.t 4), none⟩, ⟨(some 20), .load none (.t 1), none⟩, ⟨(some 21), .nilchk (.t 20), none⟩, ⟨(some 22), .faddr 0 (.t 21), none⟩, ⟨(some 23), .load none (.t 22), none⟩, ⟨(some 24), .mov (.t 4), none⟩, ⟨(some 25), .lookup .string (.lit (.slice none 0 0)) (.t 23) (.t 24) false, none⟩, ⟨(some 26), .call (.c (.fn (f_slices_Clone_sl_byte_byte N) [] [])) [(.t 25)], none⟩, ⟨(some 27), .call (.t 18) [(.t 19), (.t 26)], none⟩, ⟨(some 28), .un .not (.t 27), none⟩]) (
     .cond (.t 28) (
      .ret) (
      .skip))))) (
   .ops [⟨(some 29), .bin .add (.t 14) (.c (.lit (.int .i64 1))), none⟩, ⟨(some 14), .mov (.t 29), none⟩])))
/-- (*azimuth/store.Store).All$1 -/
def C_p_store_Store_All_1 (N : Nat → Nat) : AFunc := ⟨30, [],
 .seq (
  .seq (
   .ops [⟨(some 5), .load none (.t 1), none⟩, ⟨(some 6), .eq false .pptr (.t 5) (.c (.lit (.pointer none))), none⟩]) (
  .cond (.t 6) (
   .ret) (
   .skip))) (
 .seq (
  .ops [⟨(some 7), .load none (.t 1), none⟩, ⟨(some 8), .nilchk (.t 7), none⟩, ⟨(some 9), .faddr 0 (.t 8), none⟩, ⟨(some 10), .load none (.t 9), none⟩, ⟨(some 11), .call (.c (.fn (f_maps_Keys_map_string_sl_byte_string_sl_byte N) [] [])) [(.t 10)], none⟩, ⟨(some 12), .call (.c (.fn (f_slices_Sorted_string N) [] [])) [(.t 11)], none⟩, ⟨(some 13), .len (.t 12), none⟩, ⟨(some 14), .mov (.c (.lit (.int .i64 0))), none⟩]) (
 .block 0 (
  .loop (L_p_store_Store_All_1_1 N)))), false⟩

def L_p_store_Store_Copy_1 (N : Nat → Nat) : AC :=
    .seq (
     .ops [⟨none, .mnmx false [], none⟩, ⟨(some 22), .extract (.t 21) 0, none⟩]) (
    .seq (
     .cond (.t 22) (
      .skip) (
      .exit 0)) (
    .block 1 (
     .seq (
      .ops [⟨none, .mnmx false [], none⟩, ⟨(some 24), .extract (.t 23) 0, none⟩, ⟨(some 25), .extract (.t 23) 1, none⟩, ⟨(some 4), .mov (.t 24), none⟩, ⟨(some 5), .mov (.t 25), none⟩]) (
     .dops 8 [⟨(some 26), .mov (.t 3), none⟩, ⟨(some 27), .nilchk (.t 26), none⟩, ⟨(some 28), .faddr 0 (.t 27), none⟩, ⟨(some 29), .load none (.t 28), none⟩, ⟨(some 30), .mov (.t 4), none⟩, ⟨(some 31), .mov (.t 5), none⟩, ⟨(some 32), .call (.c (.fn (f_slices_Clone_sl_byte_byte N) [] [])) [(.t 31)], none⟩, ⟨none, .mapupd .string (.t 29) (.t 30) (.t 32), none⟩] [0, 0, 0, 0, 0, 0, 1, 0] []))))
def K_p_store_Store_Copy_1 (N : Nat → Nat) : AC :=
 .seq (
  .ops [⟨(some 33), .mov (.t 3), none⟩, ⟨(some 2), .mov (.t 33), none⟩]) (
 .ret)
/-- (*azimuth/store.Store).Copy -/
def C_p_store_Store_Copy (N : Nat → Nat) : AFunc := ⟨34, [.inl 2],
 .seq (
  .ops [⟨(some 2), .mov (.c (.lit (.pointer none))), none⟩]) (
 .seq (
  .seq (
   .ops [⟨(some 6), .mov (.t 0), none⟩, ⟨(some 7), .eq false .pptr (.t 6) (.c (.lit (.pointer none))), none⟩]) (
  .cond (.t 7) (
   .seq (
    .ops [⟨(some 2), .mov (.c (.lit (.pointer none))), none⟩]) (
   .ret)) (
   .skip))) (
 .seq (
  .ops [⟨(some 8), .call (.c (.fn (f_store_New N) [] [])) [], none⟩, ⟨(some 3), .mov (.t 8), none⟩]) (
 .seq (
  .ops [⟨(some 9), .mov (.t 3), none⟩, ⟨(some 10), .mov (.t 0), none⟩, ⟨(some 11), .nilchk (.t 10), none⟩, ⟨(some 12), .faddr 1 (.t 11), none⟩, ⟨(some 13), .load none (.t 12), none⟩, ⟨(some 14), .nilchk (.t 9), none⟩, ⟨(some 15), .faddr 1 (.t 14), none⟩, ⟨none, .store 1 (.t 15) (.t 13), none⟩]) (
 .seq (
  .seq (
   .ops [⟨(some 16), .mov (.t 0), none⟩, ⟨(some 17), .nilchk (.t 16), none⟩, ⟨(some 18), .faddr 0 (.t 17), none⟩, ⟨(some 19), .load none (.t 18), none⟩, ⟨none, .mnmx false [], none⟩]) (
  .block 0 (
   .loop (L_p_store_Store_Copy_1 N)))) (K_p_store_Store_Copy_1 N))))), false⟩

/-- (*azimuth/store.Store).Delete -/
def C_p_store_Store_Delete (N : Nat → Nat) : AFunc := ⟨32, [.inl 4],
 .seq (
  .ops [⟨(some 4), .mov (.c (.lit (.int .i64 0))), none⟩]) (
 .seq (
  .seq (
   .ops [⟨(some 7), .mov (.t 0), none⟩, ⟨(some 8), .eq false .pptr (.t 7) (.c (.lit (.pointer none))), none⟩]) (
  .cond (.t 8) (
   .seq (
    .ops [⟨(some 4), .mov (.c (.lit (.int .i64 1))), none⟩]) (
   .ret)) (
   .skip))) (
 .seq (
  .seq (
   .ops [⟨(some 10), .mov (.t 0), none⟩, ⟨(some 11), .nilchk (.t 10), none⟩, ⟨(some 12), .faddr 0 (.t 11), none⟩, ⟨(some 13), .load none (.t 12), none⟩, ⟨(some 14), .mov (.t 1), none⟩, ⟨(some 15), .lookup .string (.lit (.slice none 0 0)) (.t 13) (.t 14) true, none⟩, ⟨(some 9), .mov (.t 15), none⟩, ⟨(some 16), .extract (.t 9) 0, none⟩, ⟨(some 17), .extract (.t 9) 1, none⟩, ⟨(some 5), .mov (.t 16), none⟩, ⟨(some 6), .mov (.t 17), none⟩]) (
  .seq (
   .ops [⟨(some 18), .mov (.t 6), none⟩, ⟨(some 19), .un .not (.t 18), none⟩]) (
  .cond (.t 19) (
   .seq (
    .ops [⟨(some 4), .mov (.c (.lit (.int .i64 13))), none⟩]) (
   .ret)) (
   .skip)))) (
 .seq (
  .ops [⟨(some 20), .mov (.t 0), none⟩, ⟨(some 21), .nilchk (.t 20), none⟩, ⟨(some 22), .faddr 0 (.t 21), none⟩, ⟨(some 23), .load none (.t 22), none⟩, ⟨(some 24), .mov (.t 1), none⟩, ⟨none, .delete .string (.t 23) (.t 24), none⟩]) (
 .seq (
  .ops [⟨(some 25), .mov (.t 0), none⟩, ⟨(some 26), .nilchk (.t 25), none⟩, ⟨(some 27), .faddr 1 (.t 26), none⟩, ⟨(some 28), .load none (.t 27), none⟩, ⟨(some 29), .bin .add (.t 28) (.c (.lit (.int .i64 1))), none⟩, ⟨(some 30), .nilchk (.t 25), none⟩, ⟨(some 31), .faddr 1 (.t 30), none⟩, ⟨none, .store 1 (.t 31) (.t 29), none⟩]) (
 .seq (
  .ops [⟨(some 4), .mov (.c (.lit (.int .i64 0))), none⟩]) (
 .ret)))))), false⟩

/-- (*azimuth/store.Store).Len -/
def C_p_store_Store_Len (N : Nat → Nat) : AFunc := ⟨10, [.inl 2],
 .seq (
  .ops [⟨(some 2), .mov (.c (.lit (.int .i64 0))), none⟩]) (
 .seq (
  .seq (
   .ops [⟨(some 3), .mov (.t 0), none⟩, ⟨(some 4), .eq false .pptr (.t 3) (.c (.lit (.pointer none))), none⟩]) (
  .cond (.t 4) (
   .seq (
    .ops [⟨(some 2), .mov (.c (.lit (.int .i64 0))), none⟩]) (
   .ret)) (
   .skip))) (
 .seq (
  .ops [⟨(some 5), .mov (.t 0), none⟩, ⟨(some 6), .nilchk (.t 5), none⟩, ⟨(some 7), .faddr 0 (.t 6), none⟩, ⟨(some 8), .load none (.t 7), none⟩, ⟨(some 9), .lenm (.t 8), none⟩, ⟨(some 2), .mov (.t 9), none⟩]) (
 .ret))), false⟩

/-- (*azimuth/store.Store).Rename -/
def C_p_store_Store_Rename (N : Nat → Nat) : AFunc := ⟨58, [.inl 6],
 .seq (
  .ops [⟨(some 6), .mov (.c (.lit (.int .i64 0))), none⟩]) (
 .seq (
  .seq (
   .ops [⟨(some 11), .mov (.t 0), none⟩, ⟨(some 12), .eq false .pptr (.t 11) (.c (.lit (.pointer none))), none⟩]) (
  .cond (.t 12) (
   .seq (
    .ops [⟨(some 6), .mov (.c (.lit (.int .i64 1))), none⟩]) (
   .ret)) (
   .skip))) (
 .seq (
  .ops [⟨(some 14), .mov (.t 0), none⟩, ⟨(some 15), .nilchk (.t 14), none⟩, ⟨(some 16), .faddr 0 (.t 15), none⟩, ⟨(some 17), .load none (.t 16), none⟩, ⟨(some 18), .mov (.t 1), none⟩, ⟨(some 19), .lookup .string (.lit (.slice none 0 0)) (.t 17) (.t 18) true, none⟩, ⟨(some 13), .mov (.t 19), none⟩, ⟨(some 20), .extract (.t 13) 0, none⟩, ⟨(some 21), .extract (.t 13) 1, none⟩, ⟨(some 7), .mov (.t 20), none⟩, ⟨(some 8), .mov (.t 21), none⟩]) (
 .seq (
  .ops [⟨(some 23), .mov (.t 0), none⟩, ⟨(some 24), .nilchk (.t 23), none⟩, ⟨(some 25), .faddr 0 (.t 24), none⟩, ⟨(some 26), .load none (.t 25), none⟩, ⟨(some 27), .mov (.t 2), none⟩, ⟨(some 28), .lookup .string (.lit (.slice none 0 0)) (.t 26) (.t 27) true, none⟩, ⟨(some 22), .mov (.t 28), none⟩, ⟨(some 29), .extract (.t 22) 0, none⟩, ⟨(some 30), .extract (.t 22) 1, none⟩, ⟨(some 9), .mov (.t 29), none⟩, ⟨(some 10), .mov (.t 30), none⟩]) (
 .seq (
  .block 0 (
   .seq (
    .ops [⟨(some 32), .mov (.t 8), none⟩, ⟨(some 33), .un .not (.t 32), none⟩, ⟨(some 31), .mov (.t 33), none⟩]) (
   .cond (.t 31) (
    .seq (
     .ops [⟨(some 6), .mov (.c (.lit (.int .i64 13))), none⟩]) (
    .ret)) (
    .seq (
     .ops [⟨(some 35), .mov (.t 2), none⟩, ⟨(some 36), .call (.c (.fn (f_lexer_IsName N) [] [])) [(.t 35)], none⟩, ⟨(some 37), .un .not (.t 36), none⟩, ⟨(some 34), .mov (.t 37), none⟩]) (
    .cond (.t 34) (
     .seq (
      .ops [⟨(some 6), .mov (.c (.lit (.int .i64 7))), none⟩]) (
     .ret)) (
     .seq (
      .ops [⟨(some 39), .mov (.t 10), none⟩, ⟨(some 38), .mov (.t 39), none⟩]) (
     .cond (.t 38) (
      .seq (
       .ops [⟨(some 6), .mov (.c (.lit (.int .i64 8))), none⟩]) (
      .ret)) (
      .skip)))))))) (
 .seq (
  .ops [⟨(some 40), .mov (.t 0), none⟩, ⟨(some 41), .nilchk (.t 40), none⟩, ⟨(some 42), .faddr 0 (.t 41), none⟩, ⟨(some 43), .load none (.t 42), none⟩, ⟨(some 44), .mov (.t 1), none⟩, ⟨none, .delete .string (.t 43) (.t 44), none⟩]) (
 .seq (
  .ops [⟨(some 45), .mov (.t 0), none⟩, ⟨(some 46), .nilchk (.t 45), none⟩, ⟨(some 47), .faddr 0 (.t 46), none⟩, ⟨(some 48), .load none (.t 47), none⟩, ⟨(some 49), .mov (.t 2), none⟩, ⟨(some 50), .mov (.t 7), none⟩, ⟨none, .mapupd .string (.t 48) (.t 49) (.t 50), none⟩]) (
 .seq (
  .ops [⟨(some 51), .mov (.t 0), none⟩, ⟨(some 52), .nilchk (.t 51), none⟩, ⟨(some 53), .faddr 1 (.t 52), none⟩, ⟨(some 54), .load none (.t 53), none⟩, ⟨(some 55), .bin .add (.t 54) (.c (.lit (.int .i64 1))), none⟩, ⟨(some 56), .nilchk (.t 51), none⟩, ⟨(some 57), .faddr 1 (.t 56), none⟩, ⟨none, .store 1 (.t 57) (.t 55), none⟩]) (
 .seq (
  .ops [⟨(some 6), .mov (.c (.lit (.int .i64 0))), none⟩]) (
 .ret))))))))), false⟩

/-- (*azimuth/store.Store).Set -/
def C_p_store_Store_Set (N : Nat → Nat) : AFunc := ⟨53, [.inl 6],
 .seq (
  .ops [⟨(some 6), .mov (.c (.lit (.int .i64 0))), none⟩]) (
 .seq (
  .seq (
   .ops [⟨(some 9), .mov (.t 0), none⟩, ⟨(some 10), .eq false .pptr (.t 9) (.c (.lit (.pointer none))), none⟩]) (
  .cond (.t 10) (
   .seq (
    .ops [⟨(some 6), .mov (.c (.lit (.int .i64 1))), none⟩]) (
   .ret)) (
   .skip))) (
 .seq (
  .ops [⟨(some 12), .mov (.t 0), none⟩, ⟨(some 13), .nilchk (.t 12), none⟩, ⟨(some 14), .faddr 0 (.t 13), none⟩, ⟨(some 15), .load none (.t 14), none⟩, ⟨(some 16), .mov (.t 1), none⟩, ⟨(some 17), .lookup .string (.lit (.slice none 0 0)) (.t 15) (.t 16) true, none⟩, ⟨(some 11), .mov (.t 17), none⟩, ⟨(some 18), .extract (.t 11) 0, none⟩, ⟨(some 19), .extract (.t 11) 1, none⟩, ⟨(some 7), .mov (.t 18), none⟩, ⟨(some 8), .mov (.t 19), none⟩]) (
 .seq (
  .block 0 (
   .seq (
    .ops [⟨(some 21), .mov (.t 1), none⟩, ⟨(some 22), .call (.c (.fn (f_lexer_IsName N) [] [])) [(.t 21)], none⟩, ⟨(some 23), .un .not (.t 22), none⟩, ⟨(some 20), .mov (.t 23), none⟩]) (
   .cond (.t 20) (
    .seq (
     .ops [⟨(some 6), .mov (.c (.lit (.int .i64 7))), none⟩]) (
    .ret)) (
    .seq (
     .ops [⟨(some 25), .mov (.t 2), none⟩, ⟨(some 26), .len (.t 25), none⟩, ⟨(some 27), .bin .gtr (.t 26) (.c (.lit (.int .i64 1048576))), none⟩, ⟨(some 24), .mov (.t 27), none⟩]) (
    .cond (.t 24) (
     .seq (
      .ops [⟨(some 6), .mov (.c (.lit (.int .i64 6))), none⟩]) (
     .ret)) (
     .seq (
      .ops [⟨(some 29), .mov (.t 8), none⟩, ⟨(some 30), .un .not (.t 29), none⟩, ⟨(some 31), .mov (.t 30), none⟩, ⟨(some 32), .mov (.t 0), (some (31, true))⟩, ⟨(some 33), .nilchk (.t 32), (some (31, true))⟩, ⟨(some 34), .faddr 0 (.t 33), (some (31, true))⟩, ⟨(some 35), .load none (.t 34), (some (31, true))⟩, ⟨(some 36), .lenm (.t 35), (some (31, true))⟩, ⟨(some 37), .bin .geq (.t 36) (.c (.lit (.int .i64 256))), (some (31, true))⟩, ⟨(some 38), .pick (.t 31) (.t 37) (.c (.lit (.bool false))), none⟩, ⟨(some 28), .mov (.t 38), none⟩]) (
     .cond (.t 28) (
      .seq (
       .ops [⟨(some 6), .mov (.c (.lit (.int .i64 20))), none⟩]) (
      .ret)) (
      .skip)))))))) (
 .seq (
  .dops 10 [⟨(some 39), .mov (.t 0), none⟩, ⟨(some 40), .nilchk (.t 39), none⟩, ⟨(some 41), .faddr 0 (.t 40), none⟩, ⟨(some 42), .load none (.t 41), none⟩, ⟨(some 43), .mov (.t 1), none⟩, ⟨(some 44), .mov (.t 2), none⟩, ⟨(some 45), .call (.c (.fn (f_slices_Clone_sl_byte_byte N) [] [])) [(.t 44)], none⟩, ⟨none, .mapupd .string (.t 42) (.t 43) (.t 45), none⟩] [0, 0, 0, 0, 0, 0, 1, 0] []) (
 .seq (
  .ops [⟨(some 46), .mov (.t 0), none⟩, ⟨(some 47), .nilchk (.t 46), none⟩, ⟨(some 48), .faddr 1 (.t 47), none⟩, ⟨(some 49), .load none (.t 48), none⟩, ⟨(some 50), .bin .add (.t 49) (.c (.lit (.int .i64 1))), none⟩, ⟨(some 51), .nilchk (.t 46), none⟩, ⟨(some 52), .faddr 1 (.t 51), none⟩, ⟨none, .store 1 (.t 52) (.t 50), none⟩]) (
 .seq (
  .ops [⟨(some 6), .mov (.c (.lit (.int .i64 0))), none⟩]) (
 .ret))))))), false⟩

/-- (*azimuth/store.Store).Text -/
def C_p_store_Store_Text (N : Nat → Nat) : AFunc := ⟨22, [.inl 4, .inl 5],
 .seq (
  .ops [⟨(some 4), .mov (.c (.lit (.slice none 0 0))), none⟩, ⟨(some 5), .mov (.c (.lit (.bool false))), none⟩]) (
 .seq (
  .seq (
   .ops [⟨(some 8), .mov (.t 0), none⟩, ⟨(some 9), .eq false .pptr (.t 8) (.c (.lit (.pointer none))), none⟩]) (
  .cond (.t 9) (
   .seq (
    .ops [⟨(some 4), .mov (.c (.lit (.slice none 0 0))), none⟩, ⟨(some 5), .mov (.c (.lit (.bool false))), none⟩]) (
   .ret)) (
   .skip))) (
 .seq (
  .ops [⟨(some 11), .mov (.t 0), none⟩, ⟨(some 12), .nilchk (.t 11), none⟩, ⟨(some 13), .faddr 0 (.t 12), none⟩, ⟨(some 14), .load none (.t 13), none⟩, ⟨(some 15), .mov (.t 1), none⟩, ⟨(some 16), .lookup .string (.lit (.slice none 0 0)) (.t 14) (.t 15) true, none⟩, ⟨(some 10), .mov (.t 16), none⟩, ⟨(some 17), .extract (.t 10) 0, none⟩, ⟨(some 18), .extract (.t 10) 1, none⟩, ⟨(some 6), .mov (.t 17), none⟩, ⟨(some 7), .mov (.t 18), none⟩]) (
 .seq (
  .ops [⟨(some 19), .mov (.t 6), none⟩, ⟨(some 20), .call (.c (.fn (f_slices_Clone_sl_byte_byte N) [] [])) [(.t 19)], none⟩, ⟨(some 21), .mov (.t 7), none⟩, ⟨(some 4), .mov (.t 20), none⟩, ⟨(some 5), .mov (.t 21), none⟩]) (
 .ret)))), false⟩

/-- (*azimuth/store.Store).Turn -/
def C_p_store_Store_Turn (N : Nat → Nat) : AFunc := ⟨9, [.inl 2],
 .seq (
  .ops [⟨(some 2), .mov (.c (.lit (.int .i64 0))), none⟩]) (
 .seq (
  .seq (
   .ops [⟨(some 3), .mov (.t 0), none⟩, ⟨(some 4), .eq false .pptr (.t 3) (.c (.lit (.pointer none))), none⟩]) (
  .cond (.t 4) (
   .seq (
    .ops [⟨(some 2), .mov (.c (.lit (.int .i64 0))), none⟩]) (
   .ret)) (
   .skip))) (
 .seq (
  .ops [⟨(some 5), .mov (.t 0), none⟩, ⟨(some 6), .nilchk (.t 5), none⟩, ⟨(some 7), .faddr 1 (.t 6), none⟩, ⟨(some 8), .load none (.t 7), none⟩, ⟨(some 2), .mov (.t 8), none⟩]) (
 .ret))), false⟩

/-- azimuth/store.New -/
def C_store_New (N : Nat → Nat) : AFunc := ⟨4, [.inl 0],
 .seq (
  .ops [⟨(some 0), .mov (.c (.lit (.pointer none))), none⟩]) (
 .seq (
  .ops [⟨(some 1), .mkmap, none⟩, ⟨(some 2), .build [(.lit (.map none)), (.lit (.int .i64 0))] [(0, 1, (.t 1))], none⟩, ⟨(some 3), .box (t_store_Store N) (.t 2), none⟩, ⟨(some 0), .mov (.t 3), none⟩]) (
 .ret)), false⟩

/-- slices.Clone[[]byte,byte] -/
def C_slices_Clone_sl_byte_byte (N : Nat → Nat) : AFunc := ⟨8, [.inl 2],
 .seq (
  .ops [⟨(some 2), .mov (.c (.lit (.slice none 0 0))), none⟩]) (
 .seq (
  .seq (
   .ops [⟨(some 3), .mov (.t 0), none⟩, ⟨(some 4), .eq false .pslice (.t 3) (.c (.lit (.slice none 0 0))), none⟩]) (
  .cond (.t 4) (
   .seq (
    .ops [⟨(some 2), .mov (.c (.lit (.slice none 0 0))), none⟩]) (
   .ret)) (
   .skip))) (
 .seq (
  .ops [⟨(some 5), .bslice (t_uint8 N) 1 none 0 [(.lit (.int .u8 0))] [], none⟩, ⟨(some 6), .mov (.t 0), none⟩, ⟨(some 7), .append (t_uint8 N) 1 1 (.t 5) (.t 6), none⟩, ⟨(some 2), .mov (.t 7), none⟩]) (
 .ret))), false⟩
end Go.Proofs.Eng
