import Derived.Test.YtkofnmiopjnhiaaGreatDoorM32
/- Templates of functions, as the engine takes them; numbers of functions and types by names. Printed by tm.py. -/
set_option linter.unusedVariables false
set_option maxRecDepth 100000
namespace Go.Proofs.Eng
open Go

/-- maps.Keys[map[string][]byte,string,[]byte] -/
def C_maps_Keys_map_string_sl_byte_string_sl_byte (N : Nat → Nat) : AFunc := ⟨4, [.inl 2],
 .seq (
  .ops [⟨(some 1), .box (t_map_string_sl_uint8 N) (.t 0), none⟩, ⟨(some 2), .mov (.c (.lit .nilFunc)), none⟩]) (
 .seq (
  .ops [⟨(some 3), .mkfn (f_maps_Keys_map_string_sl_byte_string_sl_byte_1 N) [] [(.t 1)], none⟩, ⟨(some 2), .mov (.t 3), none⟩]) (
 .ret)), false⟩

def L_maps_Keys_map_string_sl_byte_string_sl_byte_1_1 (N : Nat → Nat) : AC :=
   .seq (
    .ops [⟨none, .mnmx false [], none⟩, ⟨(some 7), .extract (.t 6) 0, none⟩]) (
   .seq (
    .cond (.t 7) (
     .skip) (
     .exit 0)) (
   .block 1 (
    .seq (
     .ops [⟨none, .mnmx false [], none⟩, ⟨(some 9), .extract (.t 8) 0, none⟩, ⟨(some 3), .mov (.t 9), none⟩]) (
    .seq (
     .ops [⟨(some 10), .mov (.t 0), none⟩, ⟨(some 11), .mov (.t 3), none⟩, ⟨(some 12), .call (.t 10) [(.t 11)], none⟩, ⟨(some 13), .un .not (.t 12), none⟩]) (
    .cond (.t 13) (
     .ret) (
     .skip))))))
/-- maps.Keys[map[string][]byte,string,[]byte]$1 -/
def C_maps_Keys_map_string_sl_byte_string_sl_byte_1 (N : Nat → Nat) : AFunc := ⟨14, [],
 .seq (
  .ops [⟨(some 4), .load none (.t 1), none⟩, ⟨none, .mnmx false [], none⟩]) (
 .block 0 (
  .loop (L_maps_Keys_map_string_sl_byte_string_sl_byte_1_1 N))), false⟩
end Go.Proofs.Eng
/- Templates of functions, as the engine takes them; numbers of functions and types by names. Printed by tm.py. -/
set_option linter.unusedVariables false
set_option maxRecDepth 100000
namespace Go.Proofs.Eng
open Go

/-- maps.Keys[map[string][]string,string,[]string] -/
def C_maps_Keys_map_string_sl_string_string_sl_string (N : Nat → Nat) : AFunc := ⟨4, [.inl 2],
 .seq (
  .ops [⟨(some 1), .box (t_map_string_sl_string N) (.t 0), none⟩, ⟨(some 2), .mov (.c (.lit .nilFunc)), none⟩]) (
 .seq (
  .ops [⟨(some 3), .mkfn (f_maps_Keys_map_string_sl_string_string_sl_string_1 N) [] [(.t 1)], none⟩, ⟨(some 2), .mov (.t 3), none⟩]) (
 .ret)), false⟩

def L_maps_Keys_map_string_sl_string_string_sl_string_1_1 (N : Nat → Nat) : AC :=
   .seq (
    .ops [⟨none, .mnmx false [], none⟩, ⟨(some 7), .extract (.t 6) 0, none⟩]) (
   .seq (
    .cond (.t 7) (
     .skip) (
     .exit 0)) (
   .block 1 (
    .seq (
     .ops [⟨none, .mnmx false [], none⟩, ⟨(some 9), .extract (.t 8) 0, none⟩, ⟨(some 3), .mov (.t 9), none⟩]) (
    .seq (
     .ops [⟨(some 10), .mov (.t 0), none⟩, ⟨(some 11), .mov (.t 3), none⟩, ⟨(some 12), .call (.t 10) [(.t 11)], none⟩, ⟨(some 13), .un .not (.t 12), none⟩]) (
    .cond (.t 13) (
     .ret) (
     .skip))))))
/-- maps.Keys[map[string][]string,string,[]string]$1 -/
def C_maps_Keys_map_string_sl_string_string_sl_string_1 (N : Nat → Nat) : AFunc := ⟨14, [],
 .seq (
  .ops [⟨(some 4), .load none (.t 1), none⟩, ⟨none, .mnmx false [], none⟩]) (
 .block 0 (
  .loop (L_maps_Keys_map_string_sl_string_string_sl_string_1_1 N))), false⟩

/-- maps.Keys[map[string]bool,string,bool] -/
def C_maps_Keys_map_string_bool_string_bool (N : Nat → Nat) : AFunc := ⟨4, [.inl 2],
 .seq (
  .ops [⟨(some 1), .box (t_map_string_bool N) (.t 0), none⟩, ⟨(some 2), .mov (.c (.lit .nilFunc)), none⟩]) (
 .seq (
  .ops [⟨(some 3), .mkfn (f_maps_Keys_map_string_bool_string_bool_1 N) [] [(.t 1)], none⟩, ⟨(some 2), .mov (.t 3), none⟩]) (
 .ret)), false⟩

def L_maps_Keys_map_string_bool_string_bool_1_1 (N : Nat → Nat) : AC :=
   .seq (
    .ops [⟨none, .mnmx false [], none⟩, ⟨(some 7), .extract (.t 6) 0, none⟩]) (
   .seq (
    .cond (.t 7) (
     .skip) (
     .exit 0)) (
   .block 1 (
    .seq (
     .ops [⟨none, .mnmx false [], none⟩, ⟨(some 9), .extract (.t 8) 0, none⟩, ⟨(some 3), .mov (.t 9), none⟩]) (
    .seq (
     .ops [⟨(some 10), .mov (.t 0), none⟩, ⟨(some 11), .mov (.t 3), none⟩, ⟨(some 12), .call (.t 10) [(.t 11)], none⟩, ⟨(some 13), .un .not (.t 12), none⟩]) (
    .cond (.t 13) (
     .ret) (
     .skip))))))
/-- maps.Keys[map[string]bool,string,bool]$1 -/
def C_maps_Keys_map_string_bool_string_bool_1 (N : Nat → Nat) : AFunc := ⟨14, [],
 .seq (
  .ops [⟨(some 4), .load none (.t 1), none⟩, ⟨none, .mnmx false [], none⟩]) (
 .block 0 (
  .loop (L_maps_Keys_map_string_bool_string_bool_1_1 N))), false⟩
end Go.Proofs.Eng
/- Templates of functions, as the engine takes them; numbers of functions and types by names. Printed by tm.py. -/
set_option linter.unusedVariables false
set_option maxRecDepth 100000
namespace Go.Proofs.Eng
open Go

/-- (*slices.xorshift).Next -/
def C_p_slices_xorshift_Next (N : Nat → Nat) : AFunc := ⟨33, [.inl 2],
 .seq (
  .ops [⟨(some 2), .mov (.c (.lit (.int .u64 0))), none⟩]) (
 .seq (
  .dops 1 [⟨(some 3), .mov (.t 0), none⟩, ⟨(some 4), .nilchk (.t 3), none⟩, ⟨(some 5), .load none (.t 4), none⟩, ⟨(some 6), .mov (.t 0), none⟩, ⟨(some 7), .nilchk (.t 6), none⟩, ⟨(some 8), .load none (.t 7), none⟩, ⟨(some 9), .bin .shl (.t 8) (.c (.lit (.int .u64 13))), none⟩, ⟨(some 10), .bin .xor (.t 5) (.t 9), none⟩, ⟨(some 11), .nilchk (.t 3), none⟩, ⟨none, .store 1 (.t 11) (.t 10), none⟩] [0, 0, 2, 0, 0, 2, 0, 0, 0, 0] []) (
 .seq (
  .dops 2 [⟨(some 12), .mov (.t 0), none⟩, ⟨(some 13), .nilchk (.t 12), none⟩, ⟨(some 14), .load none (.t 13), none⟩, ⟨(some 15), .mov (.t 0), none⟩, ⟨(some 16), .nilchk (.t 15), none⟩, ⟨(some 17), .load none (.t 16), none⟩, ⟨(some 18), .bin .shr (.t 17) (.c (.lit (.int .u64 7))), none⟩, ⟨(some 19), .bin .xor (.t 14) (.t 18), none⟩, ⟨(some 20), .nilchk (.t 12), none⟩, ⟨none, .store 1 (.t 20) (.t 19), none⟩] [0, 0, 2, 0, 0, 2, 0, 0, 0, 0] []) (
 .seq (
  .dops 3 [⟨(some 21), .mov (.t 0), none⟩, ⟨(some 22), .nilchk (.t 21), none⟩, ⟨(some 23), .load none (.t 22), none⟩, ⟨(some 24), .mov (.t 0), none⟩, ⟨(some 25), .nilchk (.t 24), none⟩, ⟨(some 26), .load none (.t 25), none⟩, ⟨(some 27), .bin .shl (.t 26) (.c (.lit (.int .u64 17))), none⟩, ⟨(some 28), .bin .xor (.t 23) (.t 27), none⟩, ⟨(some 29), .nilchk (.t 21), none⟩, ⟨none, .store 1 (.t 29) (.t 28), none⟩] [0, 0, 2, 0, 0, 2, 0, 0, 0, 0] []) (
 .seq (
  .ops [⟨(some 30), .mov (.t 0), none⟩, ⟨(some 31), .nilchk (.t 30), none⟩, ⟨(some 32), .load none (.t 31), none⟩, ⟨(some 2), .mov (.t 32), none⟩]) (
 .ret))))), false⟩

/-- cmp.Less[int] -/
def C_cmp_Less_int (N : Nat → Nat) : AFunc := ⟨17, [.inl 4],
 .seq (
  .ops [⟨(some 4), .mov (.c (.lit (.bool false))), none⟩]) (
 .seq (
  .ops [⟨(some 5), .mov (.t 0), none⟩, ⟨(some 6), .call (.c (.fn (f_cmp_isNaN_int N) [] [])) [(.t 5)], none⟩, ⟨(some 7), .mov (.t 6), none⟩, ⟨(some 8), .mov (.t 1), (some (7, true))⟩, ⟨(some 9), .call (.c (.fn (f_cmp_isNaN_int N) [] [])) [(.t 8)], (some (7, true))⟩, ⟨(some 10), .un .not (.t 9), (some (7, true))⟩, ⟨(some 11), .pick (.t 7) (.t 10) (.c (.lit (.bool false))), none⟩, ⟨(some 12), .mov (.t 11), none⟩, ⟨(some 13), .mov (.t 0), (some (12, false))⟩, ⟨(some 14), .mov (.t 1), (some (12, false))⟩, ⟨(some 15), .bin .lss (.t 13) (.t 14), (some (12, false))⟩, ⟨(some 16), .pick (.t 12) (.c (.lit (.bool true))) (.t 15), none⟩, ⟨(some 4), .mov (.t 16), none⟩]) (
 .ret)), false⟩

/-- cmp.Less[string] -/
def C_cmp_Less_string (N : Nat → Nat) : AFunc := ⟨17, [.inl 4],
 .seq (
  .ops [⟨(some 4), .mov (.c (.lit (.bool false))), none⟩]) (
 .seq (
  .ops [⟨(some 5), .mov (.t 0), none⟩, ⟨(some 6), .call (.c (.fn (f_cmp_isNaN_string N) [] [])) [(.t 5)], none⟩, ⟨(some 7), .mov (.t 6), none⟩, ⟨(some 8), .mov (.t 1), (some (7, true))⟩, ⟨(some 9), .call (.c (.fn (f_cmp_isNaN_string N) [] [])) [(.t 8)], (some (7, true))⟩, ⟨(some 10), .un .not (.t 9), (some (7, true))⟩, ⟨(some 11), .pick (.t 7) (.t 10) (.c (.lit (.bool false))), none⟩, ⟨(some 12), .mov (.t 11), none⟩, ⟨(some 13), .mov (.t 0), (some (12, false))⟩, ⟨(some 14), .mov (.t 1), (some (12, false))⟩, ⟨(some 15), .bin .lss (.t 13) (.t 14), (some (12, false))⟩, ⟨(some 16), .pick (.t 12) (.c (.lit (.bool true))) (.t 15), none⟩, ⟨(some 4), .mov (.t 16), none⟩]) (
 .ret)), false⟩

/-- cmp.isNaN[int] -/
def C_cmp_isNaN_int (N : Nat → Nat) : AFunc := ⟨6, [.inl 2],
 .seq (
  .ops [⟨(some 2), .mov (.c (.lit (.bool false))), none⟩]) (
 .seq (
  .ops [⟨(some 3), .mov (.t 0), none⟩, ⟨(some 4), .mov (.t 0), none⟩, ⟨(some 5), .eq true .pint (.t 3) (.t 4), none⟩, ⟨(some 2), .mov (.t 5), none⟩]) (
 .ret)), false⟩

/-- cmp.isNaN[string] -/
def C_cmp_isNaN_string (N : Nat → Nat) : AFunc := ⟨6, [.inl 2],
 .seq (
  .ops [⟨(some 2), .mov (.c (.lit (.bool false))), none⟩]) (
 .seq (
  .ops [⟨(some 3), .mov (.t 0), none⟩, ⟨(some 4), .mov (.t 0), none⟩, ⟨(some 5), .eq true .pstr (.t 3) (.t 4), none⟩, ⟨(some 2), .mov (.t 5), none⟩]) (
 .ret)), false⟩

/-- math/bits.Len -/
def C_math_bits_Len (N : Nat → Nat) : AFunc := ⟨8, [.inl 2],
 .seq (
  .ops [⟨(some 2), .mov (.c (.lit (.int .i64 0))), none⟩]) (
 .seq (
  .cond (.c (.lit (.bool false))) (
   .seq (
    .ops [⟨(some 3), .mov (.t 0), none⟩, ⟨(some 4), .conv (.toInt .u32) (.t 3), none⟩, ⟨(some 5), .call (.c (.fn (f_math_bits_Len32 N) [] [])) [(.t 4)], none⟩, ⟨(some 2), .mov (.t 5), none⟩]) (
   .ret)) (
   .skip)) (
 .seq (
  .ops [⟨(some 6), .mov (.t 0), none⟩, ⟨(some 7), .call (.c (.fn (f_math_bits_Len64 N) [] [])) [(.t 6)], none⟩, ⟨(some 2), .mov (.t 7), none⟩]) (
 .ret))), false⟩

/-- math/bits.Len32 -/
def C_math_bits_Len32 (N : Nat → Nat) : AFunc := ⟨19, [.inl 2],
 .seq (
  .ops [⟨(some 2), .mov (.c (.lit (.int .i64 0))), none⟩]) (
 .seq (
  .seq (
   .ops [⟨(some 3), .mov (.t 0), none⟩, ⟨(some 4), .bin .geq (.t 3) (.c (.lit (.int .u32 65536))), none⟩]) (
  .cond (.t 4) (
   .seq (
    .ops [⟨(some 5), .mov (.t 0), none⟩, ⟨(some 6), .bin .shr (.t 5) (.c (.lit (.int .u64 16))), none⟩, ⟨(some 0), .mov (.t 6), none⟩]) (
   .ops [⟨(some 2), .mov (.c (.lit (.int .i64 16))), none⟩])) (
   .skip))) (
 .seq (
  .seq (
   .ops [⟨(some 7), .mov (.t 0), none⟩, ⟨(some 8), .bin .geq (.t 7) (.c (.lit (.int .u32 256))), none⟩]) (
  .cond (.t 8) (
   .seq (
    .ops [⟨(some 9), .mov (.t 0), none⟩, ⟨(some 10), .bin .shr (.t 9) (.c (.lit (.int .u64 8))), none⟩, ⟨(some 0), .mov (.t 10), none⟩]) (
   .ops [⟨(some 11), .mov (.t 2), none⟩, ⟨(some 12), .bin .add (.t 11) (.c (.lit (.int .i64 8))), none⟩, ⟨(some 2), .mov (.t 12), none⟩])) (
   .skip))) (
 .seq (
  .ops [⟨(some 13), .mov (.t 2), none⟩, ⟨(some 14), .mov (.t 0), none⟩, ⟨(some 15), .conv (.toInt .u8) (.t 14), none⟩, ⟨(some 16), .sidx (.c (.lit (.string (mkS [0, 1, 2, 2, 3, 3, 3, 3, 4, 4, 4, 4, 4, 4, 4, 4, 5, 5, 5, 5, 5, 5, 5, 5, 5, 5, 5, 5, 5, 5, 5, 5, 6, 6, 6, 6, 6, 6, 6, 6, 6, 6, 6, 6, 6, 6, 6, 6, 6, 6, 6, 6, 6, 6, 6, 6, 6, 6, 6, 6, 6, 6, 6, 6, 7, 7, 7, 7, 7, 7, 7, 7, 7, 7, 7, 7, 7, 7, 7, 7, 7, 7, 7, 7, 7, 7, 7, 7, 7, 7, 7, 7, 7, 7, 7, 7, 7, 7, 7, 7, 7, 7, 7, 7, 7, 7, 7, 7, 7, 7, 7, 7, 7, 7, 7, 7, 7, 7, 7, 7, 7, 7, 7, 7, 7, 7, 7, 7, 8, 8, 8, 8, 8, 8, 8, 8, 8, 8, 8, 8, 8, 8, 8, 8, 8, 8, 8, 8, 8, 8, 8, 8, 8, 8, 8, 8, 8, 8, 8, 8, 8, 8, 8, 8, 8, 8, 8, 8, 8, 8, 8, 8, 8, 8, 8, 8, 8, 8, 8, 8, 8, 8, 8, 8, 8, 8, 8, 8, 8, 8, 8, 8, 8, 8, 8, 8, 8, 8, 8, 8, 8, 8, 8, 8, 8, 8, 8, 8, 8, 8, 8, 8, 8, 8, 8, 8, 8, 8, 8, 8, 8, 8, 8, 8, 8, 8, 8, 8, 8, 8, 8, 8, 8, 8, 8, 8, 8, 8, 8, 8, 8, 8, 8, 8, 8, 8, 8, 8, 8, 8, 8, 8, 8, 8, 8, 8])))) (.t 15), none⟩, ⟨(some 17), .conv (.toInt .i64) (.t 16), none⟩, ⟨(some 18), .bin .add (.t 13) (.t 17), none⟩, ⟨(some 2), .mov (.t 18), none⟩]) (
 .ret)))), false⟩

/-- math/bits.Len64 -/
def C_math_bits_Len64 (N : Nat → Nat) : AFunc := ⟨25, [.inl 2],
 .seq (
  .ops [⟨(some 2), .mov (.c (.lit (.int .i64 0))), none⟩]) (
 .seq (
  .seq (
   .ops [⟨(some 3), .mov (.t 0), none⟩, ⟨(some 4), .bin .geq (.t 3) (.c (.lit (.int .u64 4294967296))), none⟩]) (
  .cond (.t 4) (
   .seq (
    .ops [⟨(some 5), .mov (.t 0), none⟩, ⟨(some 6), .bin .shr (.t 5) (.c (.lit (.int .u64 32))), none⟩, ⟨(some 0), .mov (.t 6), none⟩]) (
   .ops [⟨(some 2), .mov (.c (.lit (.int .i64 32))), none⟩])) (
   .skip))) (
 .seq (
  .seq (
   .ops [⟨(some 7), .mov (.t 0), none⟩, ⟨(some 8), .bin .geq (.t 7) (.c (.lit (.int .u64 65536))), none⟩]) (
  .cond (.t 8) (
   .seq (
    .ops [⟨(some 9), .mov (.t 0), none⟩, ⟨(some 10), .bin .shr (.t 9) (.c (.lit (.int .u64 16))), none⟩, ⟨(some 0), .mov (.t 10), none⟩]) (
   .ops [⟨(some 11), .mov (.t 2), none⟩, ⟨(some 12), .bin .add (.t 11) (.c (.lit (.int .i64 16))), none⟩, ⟨(some 2), .mov (.t 12), none⟩])) (
   .skip))) (
 .seq (
  .seq (
   .ops [⟨(some 13), .mov (.t 0), none⟩, ⟨(some 14), .bin .geq (.t 13) (.c (.lit (.int .u64 256))), none⟩]) (
  .cond (.t 14) (
   .seq (
    .ops [⟨(some 15), .mov (.t 0), none⟩, ⟨(some 16), .bin .shr (.t 15) (.c (.lit (.int .u64 8))), none⟩, ⟨(some 0), .mov (.t 16), none⟩]) (
   .ops [⟨(some 17), .mov (.t 2), none⟩, ⟨(some 18), .bin .add (.t 17) (.c (.lit (.int .i64 8))), none⟩, ⟨(some 2), .mov (.t 18), none⟩])) (
   .skip))) (
 .seq (
  .ops [⟨(some 19), .mov (.t 2), none⟩, ⟨(some 20), .mov (.t 0), none⟩, ⟨(some 21), .conv (.toInt .u8) (.t 20), none⟩, ⟨(some 22), .sidx (.c (.lit (.string (mkS [0, 1, 2, 2, 3, 3, 3, 3, 4, 4, 4, 4, 4, 4, 4, 4, 5, 5, 5, 5, 5, 5, 5, 5, 5, 5, 5, 5, 5, 5, 5, 5, 6, 6, 6, 6, 6, 6, 6, 6, 6, 6, 6, 6, 6, 6, 6, 6, 6, 6, 6, 6, 6, 6, 6, 6, 6, 6, 6, 6, 6, 6, 6, 6, 7, 7, 7, 7, 7, 7, 7, 7, 7, 7, 7, 7, 7, 7, 7, 7, 7, 7, 7, 7, 7, 7, 7, 7, 7, 7, 7, 7, 7, 7, 7, 7, 7, 7, 7, 7, 7, 7, 7, 7, 7, 7, 7, 7, 7, 7, 7, 7, 7, 7, 7, 7, 7, 7, 7, 7, 7, 7, 7, 7, 7, 7, 7, 7, 8, 8, 8, 8, 8, 8, 8, 8, 8, 8, 8, 8, 8, 8, 8, 8, 8, 8, 8, 8, 8, 8, 8, 8, 8, 8, 8, 8, 8, 8, 8, 8, 8, 8, 8, 8, 8, 8, 8, 8, 8, 8, 8, 8, 8, 8, 8, 8, 8, 8, 8, 8, 8, 8, 8, 8, 8, 8, 8, 8, 8, 8, 8, 8, 8, 8, 8, 8, 8, 8, 8, 8, 8, 8, 8, 8, 8, 8, 8, 8, 8, 8, 8, 8, 8, 8, 8, 8, 8, 8, 8, 8, 8, 8, 8, 8, 8, 8, 8, 8, 8, 8, 8, 8, 8, 8, 8, 8, 8, 8, 8, 8, 8, 8, 8, 8, 8, 8, 8, 8, 8, 8, 8, 8, 8, 8, 8, 8])))) (.t 21), none⟩, ⟨(some 23), .conv (.toInt .i64) (.t 22), none⟩, ⟨(some 24), .bin .add (.t 19) (.t 23), none⟩, ⟨(some 2), .mov (.t 24), none⟩]) (
 .ret))))), false⟩

def L_slices_BinarySearch_sl_string_string_1 (N : Nat → Nat) : AC :=
    .seq (
     .seq (
      .ops [⟨(some 13), .mov (.t 7), none⟩, ⟨(some 14), .mov (.t 8), none⟩, ⟨(some 15), .bin .lss (.t 13) (.t 14), none⟩]) (
     .cond (.t 15) (
      .skip) (
      .exit 0))) (
    .block 1 (
     .seq (
      .ops [⟨(some 16), .mov (.t 7), none⟩, ⟨(some 17), .mov (.t 8), none⟩, ⟨(some 18), .bin .add (.t 16) (.t 17), none⟩, ⟨(some 19), .conv (.toInt .u64) (.t 18), none⟩, ⟨(some 20), .bin .shr (.t 19) (.c (.lit (.int .u64 1))), none⟩, ⟨(some 21), .conv (.toInt .i64) (.t 20), none⟩, ⟨(some 9), .mov (.t 21), none⟩]) (
     .seq (
      .ops [⟨(some 22), .mov (.t 0), none⟩, ⟨(some 23), .mov (.t 9), none⟩, ⟨(some 24), .iaddr 1 (.t 22) (.t 23), none⟩, ⟨(some 25), .load none (.t 24), none⟩, ⟨(some 26), .mov (.t 1), none⟩, ⟨(some 27), .call (.c (.fn (f_cmp_Less_string N) [] [])) [(.t 25), (.t 26)], none⟩]) (
     .cond (.t 27) (
      .ops [⟨(some 28), .mov (.t 9), none⟩, ⟨(some 29), .bin .add (.t 28) (.c (.lit (.int .i64 1))), none⟩, ⟨(some 7), .mov (.t 29), none⟩]) (
      .ops [⟨(some 30), .mov (.t 9), none⟩, ⟨(some 8), .mov (.t 30), none⟩])))))
def K_slices_BinarySearch_sl_string_string_1 (N : Nat → Nat) : AC :=
 .seq (
  .ops [⟨(some 31), .mov (.t 7), none⟩, ⟨(some 32), .mov (.t 7), none⟩, ⟨(some 33), .mov (.t 6), none⟩, ⟨(some 34), .bin .lss (.t 32) (.t 33), none⟩, ⟨(some 35), .mov (.t 34), none⟩, ⟨(some 36), .mov (.t 0), (some (35, true))⟩, ⟨(some 37), .mov (.t 7), (some (35, true))⟩, ⟨(some 38), .iaddr 1 (.t 36) (.t 37), (some (35, true))⟩, ⟨(some 39), .load none (.t 38), (some (35, true))⟩, ⟨(some 40), .mov (.t 1), (some (35, true))⟩, ⟨(some 41), .eq false .pstr (.t 39) (.t 40), (some (35, true))⟩, ⟨(some 42), .mov (.t 41), (some (35, true))⟩, ⟨(some 43), .mov (.t 0), (some (42, false))⟩, ⟨(some 44), .mov (.t 7), (some (42, false))⟩, ⟨(some 45), .iaddr 1 (.t 43) (.t 44), (some (42, false))⟩, ⟨(some 46), .load none (.t 45), (some (42, false))⟩, ⟨(some 47), .call (.c (.fn (f_slices_isNaN_string N) [] [])) [(.t 46)], (some (42, false))⟩, ⟨(some 48), .mov (.t 47), (some (42, false))⟩, ⟨(some 49), .mov (.t 1), (some (48, true))⟩, ⟨(some 50), .call (.c (.fn (f_slices_isNaN_string N) [] [])) [(.t 49)], (some (48, true))⟩, ⟨(some 51), .pick (.t 48) (.t 50) (.c (.lit (.bool false))), (some (42, false))⟩, ⟨(some 52), .pick (.t 42) (.c (.lit (.bool true))) (.t 51), (some (35, true))⟩, ⟨(some 53), .pick (.t 35) (.t 52) (.c (.lit (.bool false))), none⟩, ⟨(some 4), .mov (.t 31), none⟩, ⟨(some 5), .mov (.t 53), none⟩]) (
 .ret)
/-- slices.BinarySearch[[]string,string] -/
def C_slices_BinarySearch_sl_string_string (N : Nat → Nat) : AFunc := ⟨54, [.inl 4, .inl 5],
 .seq (
  .ops [⟨(some 4), .mov (.c (.lit (.int .i64 0))), none⟩, ⟨(some 5), .mov (.c (.lit (.bool false))), none⟩]) (
 .seq (
  .ops [⟨(some 10), .mov (.t 0), none⟩, ⟨(some 11), .len (.t 10), none⟩, ⟨(some 6), .mov (.t 11), none⟩]) (
 .seq (
  .ops [⟨(some 12), .mov (.t 6), none⟩, ⟨(some 7), .mov (.c (.lit (.int .i64 0))), none⟩, ⟨(some 8), .mov (.t 12), none⟩]) (
 .seq (
  .block 0 (
   .loop (L_slices_BinarySearch_sl_string_string_1 N))) (K_slices_BinarySearch_sl_string_string_1 N)))), false⟩

/-- slices.Clone[[]int,int] -/
def C_slices_Clone_sl_int_int (N : Nat → Nat) : AFunc := ⟨8, [.inl 2],
 .seq (
  .ops [⟨(some 2), .mov (.c (.lit (.slice none 0 0))), none⟩]) (
 .seq (
  .seq (
   .ops [⟨(some 3), .mov (.t 0), none⟩, ⟨(some 4), .eq false .pslice (.t 3) (.c (.lit (.slice none 0 0))), none⟩]) (
  .cond (.t 4) (
   .seq (
    .ops [⟨(some 2), .mov (.c (.lit (.slice none 0 0))), none⟩]) (
   .ret)) (
   .skip))) (
 .seq (
  .ops [⟨(some 5), .bslice (t_int N) 1 none 0 [(.lit (.int .i64 0))] [], none⟩, ⟨(some 6), .mov (.t 0), none⟩, ⟨(some 7), .append (t_int N) 1 8 (.t 5) (.t 6), none⟩, ⟨(some 2), .mov (.t 7), none⟩]) (
 .ret))), false⟩

/-- slices.Clone[[]string,string] -/
def C_slices_Clone_sl_string_string (N : Nat → Nat) : AFunc := ⟨8, [.inl 2],
 .seq (
  .ops [⟨(some 2), .mov (.c (.lit (.slice none 0 0))), none⟩]) (
 .seq (
  .seq (
   .ops [⟨(some 3), .mov (.t 0), none⟩, ⟨(some 4), .eq false .pslice (.t 3) (.c (.lit (.slice none 0 0))), none⟩]) (
  .cond (.t 4) (
   .seq (
    .ops [⟨(some 2), .mov (.c (.lit (.slice none 0 0))), none⟩]) (
   .ret)) (
   .skip))) (
 .seq (
  .ops [⟨(some 5), .bslice (t_string N) 1 none 0 [(.lit (.string (mkS [])))] [], none⟩, ⟨(some 6), .mov (.t 0), none⟩, ⟨(some 7), .append (t_string N) 1 16 (.t 5) (.t 6), none⟩, ⟨(some 2), .mov (.t 7), none⟩]) (
 .ret))), false⟩

/-- slices.ContainsFunc[[]byte,byte] -/
def C_slices_ContainsFunc_sl_byte_byte (N : Nat → Nat) : AFunc := ⟨9, [.inl 4],
 .seq (
  .ops [⟨(some 4), .mov (.c (.lit (.bool false))), none⟩]) (
 .seq (
  .ops [⟨(some 5), .mov (.t 0), none⟩, ⟨(some 6), .mov (.t 1), none⟩, ⟨(some 7), .call (.c (.fn (f_slices_IndexFunc_sl_byte_byte N) [] [])) [(.t 5), (.t 6)], none⟩, ⟨(some 8), .bin .geq (.t 7) (.c (.lit (.int .i64 0))), none⟩, ⟨(some 4), .mov (.t 8), none⟩]) (
 .ret)), false⟩

/-- slices.ContainsFunc[[]string,string] -/
def C_slices_ContainsFunc_sl_string_string (N : Nat → Nat) : AFunc := ⟨9, [.inl 4],
 .seq (
  .ops [⟨(some 4), .mov (.c (.lit (.bool false))), none⟩]) (
 .seq (
  .ops [⟨(some 5), .mov (.t 0), none⟩, ⟨(some 6), .mov (.t 1), none⟩, ⟨(some 7), .call (.c (.fn (f_slices_IndexFunc_sl_string_string N) [] [])) [(.t 5), (.t 6)], none⟩, ⟨(some 8), .bin .geq (.t 7) (.c (.lit (.int .i64 0))), none⟩, ⟨(some 4), .mov (.t 8), none⟩]) (
 .ret)), false⟩

/-- slices.ContainsFunc[azimuth/tree.uses,int] -/
def C_slices_ContainsFunc_tree_uses_int (N : Nat → Nat) : AFunc := ⟨9, [.inl 4],
 .seq (
  .ops [⟨(some 4), .mov (.c (.lit (.bool false))), none⟩]) (
 .seq (
  .ops [⟨(some 5), .mov (.t 0), none⟩, ⟨(some 6), .mov (.t 1), none⟩, ⟨(some 7), .call (.c (.fn (f_slices_IndexFunc_tree_uses_int N) [] [])) [(.t 5), (.t 6)], none⟩, ⟨(some 8), .bin .geq (.t 7) (.c (.lit (.int .i64 0))), none⟩, ⟨(some 4), .mov (.t 8), none⟩]) (
 .ret)), false⟩

def L_slices_IndexFunc_sl_byte_byte_1 (N : Nat → Nat) : AC :=
    .seq (
     .ops [⟨(some 9), .bin .lss (.t 8) (.t 7), none⟩]) (
    .seq (
     .cond (.t 9) (
      .skip) (
      .exit 0)) (
    .seq (
     .block 1 (
      .seq (
       .ops [⟨(some 10), .mov (.t 8), none⟩, ⟨(some 5), .mov (.t 10), none⟩]) (
      .seq (
       .ops [⟨(some 11), .mov (.t 1), none⟩, ⟨(some 12), .mov (.t 0), none⟩, ⟨(some 13), .mov (.t 5), none⟩, ⟨(some 14), .iaddr 1 (.t 12) (.t 13), none⟩, ⟨(some 15), .load none (.t 14), none⟩, ⟨(some 16), .call (.t 11) [(.t 15)], none⟩]) (
      .cond (.t 16) (
       .seq (
        .ops [⟨(some 17), .mov (.t 5), none⟩, ⟨(some 4), .mov (.t 17), none⟩]) (
       .ret)) (
       .skip))))) (
    .ops [⟨(some 18), .bin .add (.t 8) (.c (.lit (.int .i64 1))), none⟩, ⟨(some 8), .mov (.t 18), none⟩])))
def K_slices_IndexFunc_sl_byte_byte_1 (N : Nat → Nat) : AC :=
 .seq (
  .ops [⟨(some 4), .mov (.c (.lit (.int .i64 (-1)))), none⟩]) (
 .ret)
/-- slices.IndexFunc[[]byte,byte] -/
def C_slices_IndexFunc_sl_byte_byte (N : Nat → Nat) : AFunc := ⟨19, [.inl 4],
 .seq (
  .ops [⟨(some 4), .mov (.c (.lit (.int .i64 0))), none⟩]) (
 .seq (
  .seq (
   .ops [⟨(some 6), .mov (.t 0), none⟩, ⟨(some 7), .len (.t 6), none⟩, ⟨(some 8), .mov (.c (.lit (.int .i64 0))), none⟩]) (
  .block 0 (
   .loop (L_slices_IndexFunc_sl_byte_byte_1 N)))) (K_slices_IndexFunc_sl_byte_byte_1 N)), false⟩

def L_slices_IndexFunc_sl_string_string_1 (N : Nat → Nat) : AC :=
    .seq (
     .ops [⟨(some 9), .bin .lss (.t 8) (.t 7), none⟩]) (
    .seq (
     .cond (.t 9) (
      .skip) (
      .exit 0)) (
    .seq (
     .block 1 (
      .seq (
       .ops [⟨(some 10), .mov (.t 8), none⟩, ⟨(some 5), .mov (.t 10), none⟩]) (
      .seq (
       .ops [⟨(some 11), .mov (.t 1), none⟩, ⟨(some 12), .mov (.t 0), none⟩, ⟨(some 13), .mov (.t 5), none⟩, ⟨(some 14), .iaddr 1 (.t 12) (.t 13), none⟩, ⟨(some 15), .load none (.t 14), none⟩, ⟨(some 16), .call (.t 11) [(.t 15)], none⟩]) (
      .cond (.t 16) (
       .seq (
        .ops [⟨(some 17), .mov (.t 5), none⟩, ⟨(some 4), .mov (.t 17), none⟩]) (
       .ret)) (
       .skip))))) (
    .ops [⟨(some 18), .bin .add (.t 8) (.c (.lit (.int .i64 1))), none⟩, ⟨(some 8), .mov (.t 18), none⟩])))
def K_slices_IndexFunc_sl_string_string_1 (N : Nat → Nat) : AC :=
 .seq (
  .ops [⟨(some 4), .mov (.c (.lit (.int .i64 (-1)))), none⟩]) (
 .ret)
/-- slices.IndexFunc[[]string,string] -/
def C_slices_IndexFunc_sl_string_string (N : Nat → Nat) : AFunc := ⟨19, [.inl 4],
 .seq (
  .ops [⟨(some 4), .mov (.c (.lit (.int .i64 0))), none⟩]) (
 .seq (
  .seq (
   .ops [⟨(some 6), .mov (.t 0), none⟩, ⟨(some 7), .len (.t 6), none⟩, ⟨(some 8), .mov (.c (.lit (.int .i64 0))), none⟩]) (
  .block 0 (
   .loop (L_slices_IndexFunc_sl_string_string_1 N)))) (K_slices_IndexFunc_sl_string_string_1 N)), false⟩

def L_slices_IndexFunc_tree_uses_int_1 (N : Nat → Nat) : AC :=
    .seq (
     .ops [⟨(some 9), .bin .lss (.t 8) (.t 7), none⟩]) (
    .seq (
     .cond (.t 9) (
      .skip) (
      .exit 0)) (
    .seq (
     .block 1 (
      .seq (
       .ops [⟨(some 10), .mov (.t 8), none⟩, ⟨(some 5), .mov (.t 10), none⟩]) (
      .seq (
       .ops [⟨(some 11), .mov (.t 1), none⟩, ⟨(some 12), .mov (.t 0), none⟩, ⟨(some 13), .mov (.t 5), none⟩, ⟨(some 14), .iaddr 1 (.t 12) (.t 13), none⟩, ⟨(some 15), .load none (.t 14), none⟩, ⟨(some 16), .call (.t 11) [(.t 15)], none⟩]) (
      .cond (.t 16) (
       .seq (
        .ops [⟨(some 17), .mov (.t 5), none⟩, ⟨(some 4), .mov (.t 17), none⟩]) (
       .ret)) (
       .skip))))) (
    .ops [⟨(some 18), .bin .add (.t 8) (.c (.lit (.int .i64 1))), none⟩, ⟨(some 8), .mov (.t 18), none⟩])))
def K_slices_IndexFunc_tree_uses_int_1 (N : Nat → Nat) : AC :=
 .seq (
  .ops [⟨(some 4), .mov (.c (.lit (.int .i64 (-1)))), none⟩]) (
 .ret)
/-- slices.IndexFunc[azimuth/tree.uses,int] -/
def C_slices_IndexFunc_tree_uses_int (N : Nat → Nat) : AFunc := ⟨19, [.inl 4],
 .seq (
  .ops [⟨(some 4), .mov (.c (.lit (.int .i64 0))), none⟩]) (
 .seq (
  .seq (
   .ops [⟨(some 6), .mov (.t 0), none⟩, ⟨(some 7), .len (.t 6), none⟩, ⟨(some 8), .mov (.c (.lit (.int .i64 0))), none⟩]) (
  .block 0 (
   .loop (L_slices_IndexFunc_tree_uses_int_1 N)))) (K_slices_IndexFunc_tree_uses_int_1 N)), false⟩

/-- slices.Sort[[]int,int] -/
def C_slices_Sort_sl_int_int (N : Nat → Nat) : AFunc := ⟨11, [],
 .seq (
  .ops [⟨(some 3), .mov (.t 0), none⟩, ⟨(some 4), .len (.t 3), none⟩, ⟨(some 2), .mov (.t 4), none⟩]) (
 .ops [⟨(some 5), .mov (.t 0), none⟩, ⟨(some 6), .mov (.t 2), none⟩, ⟨(some 7), .mov (.t 2), none⟩, ⟨(some 8), .conv (.toInt .u64) (.t 7), none⟩, ⟨(some 9), .call (.c (.fn (f_math_bits_Len N) [] [])) [(.t 8)], none⟩, ⟨(some 10), .call (.c (.fn (f_slices_pdqsortOrdered_int N) [] [])) [(.t 5), (.c (.lit (.int .i64 0))), (.t 6), (.t 9)], none⟩]), false⟩

def L_slices_breakPatternsOrdered_int_1 (N : Nat → Nat) : AC :=
    .seq (
     .seq (
      .ops [⟨(some 26), .mov (.t 9), none⟩, ⟨(some 27), .mov (.t 1), none⟩, ⟨(some 28), .mov (.t 6), none⟩, ⟨(some 29), .bin .quo (.t 28) (.c (.lit (.int .i64 4))), none⟩, ⟨(some 30), .bin .mul (.t 29) (.c (.lit (.int .i64 2))), none⟩, ⟨(some 31), .bin .add (.t 27) (.t 30), none⟩, ⟨(some 32), .bin .add (.t 31) (.c (.lit (.int .i64 1))), none⟩, ⟨(some 33), .bin .leq (.t 26) (.t 32), none⟩]) (
     .cond (.t 33) (
      .skip) (
      .exit 0))) (
    .seq (
     .block 1 (
      .seq (
       .ops [⟨(some 36), .call (.c (.fn (f_p_slices_xorshift_Next N) [] [])) [(.t 7)], none⟩, ⟨(some 37), .mov (.t 8), none⟩, ⟨(some 38), .bin .sub (.t 37) (.c (.lit (.int .u64 1))), none⟩, ⟨(some 39), .bin .and (.t 36) (.t 38), none⟩, ⟨(some 40), .conv (.toInt .i64) (.t 39), none⟩, ⟨(some 10), .mov (.t 40), none⟩]) (
      .seq (
       .seq (
        .ops [⟨(some 41), .mov (.t 10), none⟩, ⟨(some 42), .mov (.t 6), none⟩, ⟨(some 43), .bin .geq (.t 41) (.t 42), none⟩]) (
       .cond (.t 43) (
        .ops [⟨(some 44), .mov (.t 10), none⟩, ⟨(some 45), .mov (.t 6), none⟩, ⟨(some 46), .bin .sub (.t 44) (.t 45), none⟩, ⟨(some 10), .mov (.t 46), none⟩]) (
        .skip))) (
      .dops 10 [⟨(some 47), .mov (.t 0), none⟩, ⟨(some 48), .mov (.t 9), none⟩, ⟨(some 49), .mov (.t 0), none⟩, ⟨(some 50), .mov (.t 1), none⟩, ⟨(some 51), .mov (.t 10), none⟩, ⟨(some 52), .bin .add (.t 50) (.t 51), none⟩, ⟨(some 53), .mov (.t 0), none⟩, ⟨(some 54), .mov (.t 1), none⟩, ⟨(some 55), .mov (.t 10), none⟩, ⟨(some 56), .bin .add (.t 54) (.t 55), none⟩, ⟨(some 57), .iaddr 1 (.t 53) (.t 56), none⟩, ⟨(some 58), .load none (.t 57), none⟩, ⟨(some 59), .mov (.t 0), none⟩, ⟨(some 60), .mov (.t 9), none⟩, ⟨(some 61), .iaddr 1 (.t 59) (.t 60), none⟩, ⟨(some 62), .load none (.t 61), none⟩, ⟨(some 63), .iaddr 1 (.t 47) (.t 48), none⟩, ⟨none, .store 1 (.t 63) (.t 58), none⟩, ⟨(some 64), .iaddr 1 (.t 49) (.t 52), none⟩, ⟨none, .store 1 (.t 64) (.t 62), none⟩] [0, 0, 0, 0, 0, 0, 0, 0, 0, 0, 0, 2, 0, 0, 0, 2, 0, 0, 0, 0] [])))) (
    .ops [⟨(some 34), .mov (.t 9), none⟩, ⟨(some 35), .bin .add (.t 34) (.c (.lit (.int .i64 1))), none⟩, ⟨(some 9), .mov (.t 35), none⟩]))
/-- slices.breakPatternsOrdered[int] -/
def C_slices_breakPatternsOrdered_int (N : Nat → Nat) : AFunc := ⟨65, [],
 .seq (
  .ops [⟨(some 11), .mov (.t 2), none⟩, ⟨(some 12), .mov (.t 1), none⟩, ⟨(some 13), .bin .sub (.t 11) (.t 12), none⟩, ⟨(some 6), .mov (.t 13), none⟩]) (
 .seq (
  .ops [⟨(some 14), .mov (.t 6), none⟩, ⟨(some 15), .bin .geq (.t 14) (.c (.lit (.int .i64 8))), none⟩]) (
 .cond (.t 15) (
  .seq (
   .ops [⟨(some 16), .mov (.t 6), none⟩, ⟨(some 17), .conv (.toInt .u64) (.t 16), none⟩, ⟨(some 7), .new (t_slices_xorshift N) (.lit (.int .u64 0)), none⟩, ⟨none, .store 1 (.t 7) (.t 17), none⟩]) (
  .seq (
   .ops [⟨(some 18), .mov (.t 6), none⟩, ⟨(some 19), .call (.c (.fn (f_slices_nextPowerOfTwo N) [] [])) [(.t 18)], none⟩, ⟨(some 8), .mov (.t 19), none⟩]) (
  .seq (
   .ops [⟨(some 20), .mov (.t 1), none⟩, ⟨(some 21), .mov (.t 6), none⟩, ⟨(some 22), .bin .quo (.t 21) (.c (.lit (.int .i64 4))), none⟩, ⟨(some 23), .bin .mul (.t 22) (.c (.lit (.int .i64 2))), none⟩, ⟨(some 24), .bin .add (.t 20) (.t 23), none⟩, ⟨(some 25), .bin .sub (.t 24) (.c (.lit (.int .i64 1))), none⟩, ⟨(some 9), .mov (.t 25), none⟩]) (
  .block 0 (
   .loop (L_slices_breakPatternsOrdered_int_1 N)))))) (
  .skip))), false⟩

/-- slices.choosePivotOrdered[int] -/
def C_slices_choosePivotOrdered_int (N : Nat → Nat) : AFunc := ⟨57, [.inl 6, .inl 7],
 .seq (
  .ops [⟨(some 6), .mov (.c (.lit (.int .i64 0))), none⟩, ⟨(some 7), .mov (.c (.lit (.int .i64 0))), none⟩]) (
 .seq (
  .ops [⟨(some 13), .mov (.t 2), none⟩, ⟨(some 14), .mov (.t 1), none⟩, ⟨(some 15), .bin .sub (.t 13) (.t 14), none⟩, ⟨(some 8), .mov (.t 15), none⟩]) (
 .seq (
  .ops [⟨(some 9), .new (t_int N) (.lit (.int .i64 0)), none⟩]) (
 .seq (
  .ops [⟨(some 16), .mov (.t 1), none⟩, ⟨(some 17), .mov (.t 8), none⟩, ⟨(some 18), .bin .quo (.t 17) (.c (.lit (.int .i64 4))), none⟩, ⟨(some 19), .bin .mul (.t 18) (.c (.lit (.int .i64 1))), none⟩, ⟨(some 20), .bin .add (.t 16) (.t 19), none⟩, ⟨(some 10), .mov (.t 20), none⟩]) (
 .seq (
  .ops [⟨(some 21), .mov (.t 1), none⟩, ⟨(some 22), .mov (.t 8), none⟩, ⟨(some 23), .bin .quo (.t 22) (.c (.lit (.int .i64 4))), none⟩, ⟨(some 24), .bin .mul (.t 23) (.c (.lit (.int .i64 2))), none⟩, ⟨(some 25), .bin .add (.t 21) (.t 24), none⟩, ⟨(some 11), .mov (.t 25), none⟩]) (
 .seq (
  .ops [⟨(some 26), .mov (.t 1), none⟩, ⟨(some 27), .mov (.t 8), none⟩, ⟨(some 28), .bin .quo (.t 27) (.c (.lit (.int .i64 4))), none⟩, ⟨(some 29), .bin .mul (.t 28) (.c (.lit (.int .i64 3))), none⟩, ⟨(some 30), .bin .add (.t 26) (.t 29), none⟩, ⟨(some 12), .mov (.t 30), none⟩]) (
 .seq (
  .seq (
   .ops [⟨(some 31), .mov (.t 8), none⟩, ⟨(some 32), .bin .geq (.t 31) (.c (.lit (.int .i64 8))), none⟩]) (
  .cond (.t 32) (
   .seq (
    .seq (
     .ops [⟨(some 33), .mov (.t 8), none⟩, ⟨(some 34), .bin .geq (.t 33) (.c (.lit (.int .i64 50))), none⟩]) (
    .cond (.t 34) (
     .seq (
      .ops [⟨(some 35), .mov (.t 0), none⟩, ⟨(some 36), .mov (.t 10), none⟩, ⟨(some 37), .call (.c (.fn (f_slices_medianAdjacentOrdered_int N) [] [])) [(.t 35), (.t 36), (.t 9)], none⟩, ⟨(some 10), .mov (.t 37), none⟩]) (
     .seq (
      .ops [⟨(some 38), .mov (.t 0), none⟩, ⟨(some 39), .mov (.t 11), none⟩, ⟨(some 40), .call (.c (.fn (f_slices_medianAdjacentOrdered_int N) [] [])) [(.t 38), (.t 39), (.t 9)], none⟩, ⟨(some 11), .mov (.t 40), none⟩]) (
     .ops [⟨(some 41), .mov (.t 0), none⟩, ⟨(some 42), .mov (.t 12), none⟩, ⟨(some 43), .call (.c (.fn (f_slices_medianAdjacentOrdered_int N) [] [])) [(.t 41), (.t 42), (.t 9)], none⟩, ⟨(some 12), .mov (.t 43), none⟩]))) (
     .skip))) (
   .ops [⟨(some 44), .mov (.t 0), none⟩, ⟨(some 45), .mov (.t 10), none⟩, ⟨(some 46), .mov (.t 11), none⟩, ⟨(some 47), .mov (.t 12), none⟩, ⟨(some 48), .call (.c (.fn (f_slices_medianOrdered_int N) [] [])) [(.t 44), (.t 45), (.t 46), (.t 47), (.t 9)], none⟩, ⟨(some 11), .mov (.t 48), none⟩])) (
   .skip))) (
 .seq (
  .ops [⟨(some 49), .load none (.t 9), none⟩]) (
 .block 0 (
  .seq (
   .ops [⟨(some 52), .eq false .pint (.t 49) (.c (.lit (.int .i64 0))), none⟩, ⟨(some 51), .mov (.t 52), none⟩]) (
  .cond (.t 51) (
   .seq (
    .ops [⟨(some 53), .mov (.t 11), none⟩, ⟨(some 6), .mov (.t 53), none⟩, ⟨(some 7), .mov (.c (.lit (.int .i64 1))), none⟩]) (
   .ret)) (
   .seq (
    .ops [⟨(some 55), .eq false .pint (.t 49) (.c (.lit (.int .i64 12))), none⟩, ⟨(some 54), .mov (.t 55), none⟩]) (
   .cond (.t 54) (
    .seq (
     .ops [⟨(some 56), .mov (.t 11), none⟩, ⟨(some 6), .mov (.t 56), none⟩, ⟨(some 7), .mov (.c (.lit (.int .i64 2))), none⟩]) (
    .ret)) (
    .seq (
     .ops [⟨(some 50), .mov (.t 11), none⟩, ⟨(some 6), .mov (.t 50), none⟩, ⟨(some 7), .mov (.c (.lit (.int .i64 0))), none⟩]) (
    .ret)))))))))))))), false⟩

def L_slices_heapSortOrdered_int_1 (N : Nat → Nat) : AC :=
    .seq (
     .seq (
      .ops [⟨(some 18), .mov (.t 9), none⟩, ⟨(some 19), .bin .geq (.t 18) (.c (.lit (.int .i64 0))), none⟩]) (
     .cond (.t 19) (
      .skip) (
      .exit 0))) (
    .seq (
     .block 1 (
      .ops [⟨(some 22), .mov (.t 0), none⟩, ⟨(some 23), .mov (.t 9), none⟩, ⟨(some 24), .mov (.t 8), none⟩, ⟨(some 25), .mov (.t 6), none⟩, ⟨(some 26), .call (.c (.fn (f_slices_siftDownOrdered_int N) [] [])) [(.t 22), (.t 23), (.t 24), (.t 25)], none⟩])) (
    .ops [⟨(some 20), .mov (.t 9), none⟩, ⟨(some 21), .bin .sub (.t 20) (.c (.lit (.int .i64 1))), none⟩, ⟨(some 9), .mov (.t 21), none⟩]))
def L_slices_heapSortOrdered_int_2 (N : Nat → Nat) : AC :=
   .seq (
    .seq (
     .ops [⟨(some 29), .mov (.t 10), none⟩, ⟨(some 30), .bin .geq (.t 29) (.c (.lit (.int .i64 0))), none⟩]) (
    .cond (.t 30) (
     .skip) (
     .exit 2))) (
   .seq (
    .block 3 (
     .seq (
      .dops 10 [⟨(some 33), .mov (.t 0), none⟩, ⟨(some 34), .mov (.t 6), none⟩, ⟨(some 35), .mov (.t 0), none⟩, ⟨(some 36), .mov (.t 6), none⟩, ⟨(some 37), .mov (.t 10), none⟩, ⟨(some 38), .bin .add (.t 36) (.t 37), none⟩, ⟨(some 39), .mov (.t 0), none⟩, ⟨(some 40), .mov (.t 6), none⟩, ⟨(some 41), .mov (.t 10), none⟩, ⟨(some 42), .bin .add (.t 40) (.t 41), none⟩, ⟨(some 43), .iaddr 1 (.t 39) (.t 42), none⟩, ⟨(some 44), .load none (.t 43), none⟩, ⟨(some 45), .mov (.t 0), none⟩, ⟨(some 46), .mov (.t 6), none⟩, ⟨(some 47), .iaddr 1 (.t 45) (.t 46), none⟩, ⟨(some 48), .load none (.t 47), none⟩, ⟨(some 49), .iaddr 1 (.t 33) (.t 34), none⟩, ⟨none, .store 1 (.t 49) (.t 44), none⟩, ⟨(some 50), .iaddr 1 (.t 35) (.t 38), none⟩, ⟨none, .store 1 (.t 50) (.t 48), none⟩] [0, 0, 0, 0, 0, 0, 0, 0, 0, 0, 0, 2, 0, 0, 0, 2, 0, 0, 0, 0] []) (
     .ops [⟨(some 51), .mov (.t 0), none⟩, ⟨(some 52), .mov (.t 7), none⟩, ⟨(some 53), .mov (.t 10), none⟩, ⟨(some 54), .mov (.t 6), none⟩, ⟨(some 55), .call (.c (.fn (f_slices_siftDownOrdered_int N) [] [])) [(.t 51), (.t 52), (.t 53), (.t 54)], none⟩]))) (
   .ops [⟨(some 31), .mov (.t 10), none⟩, ⟨(some 32), .bin .sub (.t 31) (.c (.lit (.int .i64 1))), none⟩, ⟨(some 10), .mov (.t 32), none⟩]))
def K_slices_heapSortOrdered_int_1 (N : Nat → Nat) : AC :=
 .seq (
  .ops [⟨(some 27), .mov (.t 8), none⟩, ⟨(some 28), .bin .sub (.t 27) (.c (.lit (.int .i64 1))), none⟩, ⟨(some 10), .mov (.t 28), none⟩]) (
 .block 2 (
  .loop (L_slices_heapSortOrdered_int_2 N)))
/-- slices.heapSortOrdered[int] -/
def C_slices_heapSortOrdered_int (N : Nat → Nat) : AFunc := ⟨56, [],
 .seq (
  .ops [⟨(some 11), .mov (.t 1), none⟩, ⟨(some 6), .mov (.t 11), none⟩]) (
 .seq (
  .ops [⟨(some 7), .mov (.c (.lit (.int .i64 0))), none⟩]) (
 .seq (
  .ops [⟨(some 12), .mov (.t 2), none⟩, ⟨(some 13), .mov (.t 1), none⟩, ⟨(some 14), .bin .sub (.t 12) (.t 13), none⟩, ⟨(some 8), .mov (.t 14), none⟩]) (
 .seq (
  .seq (
   .ops [⟨(some 15), .mov (.t 8), none⟩, ⟨(some 16), .bin .sub (.t 15) (.c (.lit (.int .i64 1))), none⟩, ⟨(some 17), .bin .quo (.t 16) (.c (.lit (.int .i64 2))), none⟩, ⟨(some 9), .mov (.t 17), none⟩]) (
  .block 0 (
   .loop (L_slices_heapSortOrdered_int_1 N)))) (K_slices_heapSortOrdered_int_1 N)))), false⟩

def L_slices_insertionSortOrdered_int_2 (N : Nat → Nat) : AC :=
       .seq (
        .seq (
         .dops 4 [⟨(some 16), .mov (.t 7), none⟩, ⟨(some 17), .mov (.t 1), none⟩, ⟨(some 18), .bin .gtr (.t 16) (.t 17), none⟩, ⟨(some 19), .mov (.t 18), none⟩, ⟨(some 20), .mov (.t 0), (some (19, true))⟩, ⟨(some 21), .mov (.t 7), (some (19, true))⟩, ⟨(some 22), .iaddr 1 (.t 20) (.t 21), (some (19, true))⟩, ⟨(some 23), .load none (.t 22), (some (19, true))⟩, ⟨(some 24), .mov (.t 0), (some (19, true))⟩, ⟨(some 25), .mov (.t 7), (some (19, true))⟩, ⟨(some 26), .bin .sub (.t 25) (.c (.lit (.int .i64 1))), (some (19, true))⟩, ⟨(some 27), .iaddr 1 (.t 24) (.t 26), (some (19, true))⟩, ⟨(some 28), .load none (.t 27), (some (19, true))⟩, ⟨(some 29), .call (.c (.fn (f_cmp_Less_int N) [] [])) [(.t 23), (.t 28)], (some (19, true))⟩, ⟨(some 30), .pick (.t 19) (.t 29) (.c (.lit (.bool false))), none⟩] [0, 0, 0, 0, 0, 0, 0, 2, 0, 0, 0, 0, 2, 0, 0] []) (
        .cond (.t 30) (
         .skip) (
         .exit 2))) (
       .seq (
        .block 3 (
         .dops 6 [⟨(some 33), .mov (.t 0), none⟩, ⟨(some 34), .mov (.t 7), none⟩, ⟨(some 35), .mov (.t 0), none⟩, ⟨(some 36), .mov (.t 7), none⟩, ⟨(some 37), .bin .sub (.t 36) (.c (.lit (.int .i64 1))), none⟩, ⟨(some 38), .mov (.t 0), none⟩, ⟨(some 39), .mov (.t 7), none⟩, ⟨(some 40), .bin .sub (.t 39) (.c (.lit (.int .i64 1))), none⟩, ⟨(some 41), .iaddr 1 (.t 38) (.t 40), none⟩, ⟨(some 42), .load none (.t 41), none⟩, ⟨(some 43), .mov (.t 0), none⟩, ⟨(some 44), .mov (.t 7), none⟩, ⟨(some 45), .iaddr 1 (.t 43) (.t 44), none⟩, ⟨(some 46), .load none (.t 45), none⟩, ⟨(some 47), .iaddr 1 (.t 33) (.t 34), none⟩, ⟨none, .store 1 (.t 47) (.t 42), none⟩, ⟨(some 48), .iaddr 1 (.t 35) (.t 37), none⟩, ⟨none, .store 1 (.t 48) (.t 46), none⟩] [0, 0, 0, 0, 0, 0, 0, 0, 0, 2, 0, 0, 0, 2, 0, 0, 0, 0] [])) (
       .ops [⟨(some 31), .mov (.t 7), none⟩, ⟨(some 32), .bin .sub (.t 31) (.c (.lit (.int .i64 1))), none⟩, ⟨(some 7), .mov (.t 32), none⟩]))
def K_slices_insertionSortOrdered_int_1 (N : Nat → Nat) : AC :=
 .ops [⟨(some 13), .mov (.t 6), none⟩, ⟨(some 14), .bin .add (.t 13) (.c (.lit (.int .i64 1))), none⟩, ⟨(some 6), .mov (.t 14), none⟩]
def L_slices_insertionSortOrdered_int_1 (N : Nat → Nat) : AC :=
   .seq (
    .seq (
     .ops [⟨(some 10), .mov (.t 6), none⟩, ⟨(some 11), .mov (.t 2), none⟩, ⟨(some 12), .bin .lss (.t 10) (.t 11), none⟩]) (
    .cond (.t 12) (
     .skip) (
     .exit 0))) (
   .seq (
    .block 1 (
     .seq (
      .ops [⟨(some 15), .mov (.t 6), none⟩, ⟨(some 7), .mov (.t 15), none⟩]) (
     .block 2 (
      .loop (L_slices_insertionSortOrdered_int_2 N))))) (K_slices_insertionSortOrdered_int_1 N))
/-- slices.insertionSortOrdered[int] -/
def C_slices_insertionSortOrdered_int (N : Nat → Nat) : AFunc := ⟨49, [],
 .seq (
  .ops [⟨(some 8), .mov (.t 1), none⟩, ⟨(some 9), .bin .add (.t 8) (.c (.lit (.int .i64 1))), none⟩, ⟨(some 6), .mov (.t 9), none⟩]) (
 .block 0 (
  .loop (L_slices_insertionSortOrdered_int_1 N))), false⟩

/-- slices.isNaN[string] -/
def C_slices_isNaN_string (N : Nat → Nat) : AFunc := ⟨6, [.inl 2],
 .seq (
  .ops [⟨(some 2), .mov (.c (.lit (.bool false))), none⟩]) (
 .seq (
  .ops [⟨(some 3), .mov (.t 0), none⟩, ⟨(some 4), .mov (.t 0), none⟩, ⟨(some 5), .eq true .pstr (.t 3) (.t 4), none⟩, ⟨(some 2), .mov (.t 5), none⟩]) (
 .ret)), false⟩

/-- slices.medianAdjacentOrdered[int] -/
def C_slices_medianAdjacentOrdered_int (N : Nat → Nat) : AFunc := ⟨15, [.inl 6],
 .seq (
  .ops [⟨(some 6), .mov (.c (.lit (.int .i64 0))), none⟩]) (
 .seq (
  .ops [⟨(some 7), .mov (.t 0), none⟩, ⟨(some 8), .mov (.t 1), none⟩, ⟨(some 9), .bin .sub (.t 8) (.c (.lit (.int .i64 1))), none⟩, ⟨(some 10), .mov (.t 1), none⟩, ⟨(some 11), .mov (.t 1), none⟩, ⟨(some 12), .bin .add (.t 11) (.c (.lit (.int .i64 1))), none⟩, ⟨(some 13), .mov (.t 2), none⟩, ⟨(some 14), .call (.c (.fn (f_slices_medianOrdered_int N) [] [])) [(.t 7), (.t 9), (.t 10), (.t 12), (.t 13)], none⟩, ⟨(some 6), .mov (.t 14), none⟩]) (
 .ret)), false⟩

/-- slices.medianOrdered[int] -/
def C_slices_medianOrdered_int (N : Nat → Nat) : AFunc := ⟨36, [.inl 10],
 .seq (
  .ops [⟨(some 10), .mov (.c (.lit (.int .i64 0))), none⟩]) (
 .seq (
  .ops [⟨(some 12), .mov (.t 0), none⟩, ⟨(some 13), .mov (.t 1), none⟩, ⟨(some 14), .mov (.t 2), none⟩, ⟨(some 15), .mov (.t 4), none⟩, ⟨(some 16), .call (.c (.fn (f_slices_order2Ordered_int N) [] [])) [(.t 12), (.t 13), (.t 14), (.t 15)], none⟩, ⟨(some 11), .mov (.t 16), none⟩, ⟨(some 17), .extract (.t 11) 0, none⟩, ⟨(some 18), .extract (.t 11) 1, none⟩, ⟨(some 1), .mov (.t 17), none⟩, ⟨(some 2), .mov (.t 18), none⟩]) (
 .seq (
  .ops [⟨(some 20), .mov (.t 0), none⟩, ⟨(some 21), .mov (.t 2), none⟩, ⟨(some 22), .mov (.t 3), none⟩, ⟨(some 23), .mov (.t 4), none⟩, ⟨(some 24), .call (.c (.fn (f_slices_order2Ordered_int N) [] [])) [(.t 20), (.t 21), (.t 22), (.t 23)], none⟩, ⟨(some 19), .mov (.t 24), none⟩, ⟨(some 25), .extract (.t 19) 0, none⟩, ⟨(some 26), .extract (.t 19) 1, none⟩, ⟨(some 2), .mov (.t 25), none⟩, ⟨(some 3), .mov (.t 26), none⟩]) (
 .seq (
  .ops [⟨(some 28), .mov (.t 0), none⟩, ⟨(some 29), .mov (.t 1), none⟩, ⟨(some 30), .mov (.t 2), none⟩, ⟨(some 31), .mov (.t 4), none⟩, ⟨(some 32), .call (.c (.fn (f_slices_order2Ordered_int N) [] [])) [(.t 28), (.t 29), (.t 30), (.t 31)], none⟩, ⟨(some 27), .mov (.t 32), none⟩, ⟨(some 33), .extract (.t 27) 0, none⟩, ⟨(some 34), .extract (.t 27) 1, none⟩, ⟨(some 1), .mov (.t 33), none⟩, ⟨(some 2), .mov (.t 34), none⟩]) (
 .seq (
  .ops [⟨(some 35), .mov (.t 2), none⟩, ⟨(some 10), .mov (.t 35), none⟩]) (
 .ret))))), false⟩

/-- slices.nextPowerOfTwo -/
def C_slices_nextPowerOfTwo (N : Nat → Nat) : AFunc := ⟨7, [.inl 2],
 .seq (
  .ops [⟨(some 2), .mov (.c (.lit (.int .u64 0))), none⟩]) (
 .seq (
  .ops [⟨(some 3), .mov (.t 0), none⟩, ⟨(some 4), .conv (.toInt .u64) (.t 3), none⟩, ⟨(some 5), .call (.c (.fn (f_math_bits_Len N) [] [])) [(.t 4)], none⟩, ⟨(some 6), .bin .shl (.c (.lit (.int .u64 1))) (.t 5), none⟩, ⟨(some 2), .mov (.t 6), none⟩]) (
 .ret)), false⟩

/-- slices.order2Ordered[int] -/
def C_slices_order2Ordered_int (N : Nat → Nat) : AFunc := ⟨28, [.inl 8, .inl 9],
 .seq (
  .ops [⟨(some 8), .mov (.c (.lit (.int .i64 0))), none⟩, ⟨(some 9), .mov (.c (.lit (.int .i64 0))), none⟩]) (
 .seq (
  .seq (
   .dops 1 [⟨(some 10), .mov (.t 0), none⟩, ⟨(some 11), .mov (.t 2), none⟩, ⟨(some 12), .iaddr 1 (.t 10) (.t 11), none⟩, ⟨(some 13), .load none (.t 12), none⟩, ⟨(some 14), .mov (.t 0), none⟩, ⟨(some 15), .mov (.t 1), none⟩, ⟨(some 16), .iaddr 1 (.t 14) (.t 15), none⟩, ⟨(some 17), .load none (.t 16), none⟩, ⟨(some 18), .call (.c (.fn (f_cmp_Less_int N) [] [])) [(.t 13), (.t 17)], none⟩] [0, 0, 0, 2, 0, 0, 0, 2, 0] []) (
  .cond (.t 18) (
   .seq (
    .ops [⟨(some 19), .mov (.t 3), none⟩, ⟨(some 20), .nilchk (.t 19), none⟩, ⟨(some 21), .load none (.t 20), none⟩, ⟨(some 22), .bin .add (.t 21) (.c (.lit (.int .i64 1))), none⟩, ⟨(some 23), .nilchk (.t 19), none⟩, ⟨none, .store 1 (.t 23) (.t 22), none⟩]) (
   .seq (
    .ops [⟨(some 24), .mov (.t 2), none⟩, ⟨(some 25), .mov (.t 1), none⟩, ⟨(some 8), .mov (.t 24), none⟩, ⟨(some 9), .mov (.t 25), none⟩]) (
   .ret))) (
   .skip))) (
 .seq (
  .ops [⟨(some 26), .mov (.t 1), none⟩, ⟨(some 27), .mov (.t 2), none⟩, ⟨(some 8), .mov (.t 26), none⟩, ⟨(some 9), .mov (.t 27), none⟩]) (
 .ret))), false⟩

def L_slices_partialInsertionSortOrdered_int_2 (N : Nat → Nat) : AC :=
         .seq (
          .seq (
           .dops 5 [⟨(some 17), .mov (.t 7), none⟩, ⟨(some 18), .mov (.t 2), none⟩, ⟨(some 19), .bin .lss (.t 17) (.t 18), none⟩, ⟨(some 20), .mov (.t 19), none⟩, ⟨(some 21), .mov (.t 0), (some (20, true))⟩, ⟨(some 22), .mov (.t 7), (some (20, true))⟩, ⟨(some 23), .iaddr 1 (.t 21) (.t 22), (some (20, true))⟩, ⟨(some 24), .load none (.t 23), (some (20, true))⟩, ⟨(some 25), .mov (.t 0), (some (20, true))⟩, ⟨(some 26), .mov (.t 7), (some (20, true))⟩, ⟨(some 27), .bin .sub (.t 26) (.c (.lit (.int .i64 1))), (some (20, true))⟩, ⟨(some 28), .iaddr 1 (.t 25) (.t 27), (some (20, true))⟩, ⟨(some 29), .load none (.t 28), (some (20, true))⟩, ⟨(some 30), .call (.c (.fn (f_cmp_Less_int N) [] [])) [(.t 24), (.t 29)], (some (20, true))⟩, ⟨(some 31), .un .not (.t 30), (some (20, true))⟩, ⟨(some 32), .pick (.t 20) (.t 31) (.c (.lit (.bool false))), none⟩] [0, 0, 0, 0, 0, 0, 0, 2, 0, 0, 0, 0, 2, 0, 0, 0] []) (
          .cond (.t 32) (
           .skip) (
           .exit 2))) (
         .block 3 (
          .ops [⟨(some 33), .mov (.t 7), none⟩, ⟨(some 34), .bin .add (.t 33) (.c (.lit (.int .i64 1))), none⟩, ⟨(some 7), .mov (.t 34), none⟩]))
def L_slices_partialInsertionSortOrdered_int_3 (N : Nat → Nat) : AC :=
     .seq (
      .seq (
       .ops [⟨(some 64), .mov (.t 9), none⟩, ⟨(some 65), .bin .geq (.t 64) (.c (.lit (.int .i64 1))), none⟩]) (
      .cond (.t 65) (
       .skip) (
       .exit 4))) (
     .seq (
      .block 5 (
       .seq (
        .seq (
         .dops 16 [⟨(some 68), .mov (.t 0), none⟩, ⟨(some 69), .mov (.t 9), none⟩, ⟨(some 70), .iaddr 1 (.t 68) (.t 69), none⟩, ⟨(some 71), .load none (.t 70), none⟩, ⟨(some 72), .mov (.t 0), none⟩, ⟨(some 73), .mov (.t 9), none⟩, ⟨(some 74), .bin .sub (.t 73) (.c (.lit (.int .i64 1))), none⟩, ⟨(some 75), .iaddr 1 (.t 72) (.t 74), none⟩, ⟨(some 76), .load none (.t 75), none⟩, ⟨(some 77), .call (.c (.fn (f_cmp_Less_int N) [] [])) [(.t 71), (.t 76)], none⟩, ⟨(some 78), .un .not (.t 77), none⟩] [0, 0, 0, 2, 0, 0, 0, 0, 2, 0, 0] []) (
        .cond (.t 78) (
         .exit 4) (
         .skip))) (
       .dops 17 [⟨(some 79), .mov (.t 0), none⟩, ⟨(some 80), .mov (.t 9), none⟩, ⟨(some 81), .mov (.t 0), none⟩, ⟨(some 82), .mov (.t 9), none⟩, ⟨(some 83), .bin .sub (.t 82) (.c (.lit (.int .i64 1))), none⟩, ⟨(some 84), .mov (.t 0), none⟩, ⟨(some 85), .mov (.t 9), none⟩, ⟨(some 86), .bin .sub (.t 85) (.c (.lit (.int .i64 1))), none⟩, ⟨(some 87), .iaddr 1 (.t 84) (.t 86), none⟩, ⟨(some 88), .load none (.t 87), none⟩, ⟨(some 89), .mov (.t 0), none⟩, ⟨(some 90), .mov (.t 9), none⟩, ⟨(some 91), .iaddr 1 (.t 89) (.t 90), none⟩, ⟨(some 92), .load none (.t 91), none⟩, ⟨(some 93), .iaddr 1 (.t 79) (.t 80), none⟩, ⟨none, .store 1 (.t 93) (.t 88), none⟩, ⟨(some 94), .iaddr 1 (.t 81) (.t 83), none⟩, ⟨none, .store 1 (.t 94) (.t 92), none⟩] [0, 0, 0, 0, 0, 0, 0, 0, 0, 2, 0, 0, 0, 2, 0, 0, 0, 0] []))) (
     .ops [⟨(some 66), .mov (.t 9), none⟩, ⟨(some 67), .bin .sub (.t 66) (.c (.lit (.int .i64 1))), none⟩, ⟨(some 9), .mov (.t 67), none⟩]))
def L_slices_partialInsertionSortOrdered_int_4 (N : Nat → Nat) : AC :=
    .seq (
     .seq (
      .ops [⟨(some 101), .mov (.t 10), none⟩, ⟨(some 102), .mov (.t 2), none⟩, ⟨(some 103), .bin .lss (.t 101) (.t 102), none⟩]) (
     .cond (.t 103) (
      .skip) (
      .exit 6))) (
    .seq (
     .block 7 (
      .seq (
       .seq (
        .dops 22 [⟨(some 106), .mov (.t 0), none⟩, ⟨(some 107), .mov (.t 10), none⟩, ⟨(some 108), .iaddr 1 (.t 106) (.t 107), none⟩, ⟨(some 109), .load none (.t 108), none⟩, ⟨(some 110), .mov (.t 0), none⟩, ⟨(some 111), .mov (.t 10), none⟩, ⟨(some 112), .bin .sub (.t 111) (.c (.lit (.int .i64 1))), none⟩, ⟨(some 113), .iaddr 1 (.t 110) (.t 112), none⟩, ⟨(some 114), .load none (.t 113), none⟩, ⟨(some 115), .call (.c (.fn (f_cmp_Less_int N) [] [])) [(.t 109), (.t 114)], none⟩, ⟨(some 116), .un .not (.t 115), none⟩] [0, 0, 0, 2, 0, 0, 0, 0, 2, 0, 0] []) (
       .cond (.t 116) (
        .exit 6) (
        .skip))) (
      .dops 23 [⟨(some 117), .mov (.t 0), none⟩, ⟨(some 118), .mov (.t 10), none⟩, ⟨(some 119), .mov (.t 0), none⟩, ⟨(some 120), .mov (.t 10), none⟩, ⟨(some 121), .bin .sub (.t 120) (.c (.lit (.int .i64 1))), none⟩, ⟨(some 122), .mov (.t 0), none⟩, ⟨(some 123), .mov (.t 10), none⟩, ⟨(some 124), .bin .sub (.t 123) (.c (.lit (.int .i64 1))), none⟩, ⟨(some 125), .iaddr 1 (.t 122) (.t 124), none⟩, ⟨(some 126), .load none (.t 125), none⟩, ⟨(some 127), .mov (.t 0), none⟩, ⟨(some 128), .mov (.t 10), none⟩, ⟨(some 129), .iaddr 1 (.t 127) (.t 128), none⟩, ⟨(some 130), .load none (.t 129), none⟩, ⟨(some 131), .iaddr 1 (.t 117) (.t 118), none⟩, ⟨none, .store 1 (.t 131) (.t 126), none⟩, ⟨(some 132), .iaddr 1 (.t 119) (.t 121), none⟩, ⟨none, .store 1 (.t 132) (.t 130), none⟩] [0, 0, 0, 0, 0, 0, 0, 0, 0, 2, 0, 0, 0, 2, 0, 0, 0, 0] []))) (
    .ops [⟨(some 104), .mov (.t 10), none⟩, ⟨(some 105), .bin .add (.t 104) (.c (.lit (.int .i64 1))), none⟩, ⟨(some 10), .mov (.t 105), none⟩]))
def K_slices_partialInsertionSortOrdered_int_2 (N : Nat → Nat) : AC :=
 .seq (
  .ops [⟨(some 95), .mov (.t 2), none⟩, ⟨(some 96), .mov (.t 7), none⟩, ⟨(some 97), .bin .sub (.t 95) (.t 96), none⟩, ⟨(some 98), .bin .geq (.t 97) (.c (.lit (.int .i64 2))), none⟩]) (
 .cond (.t 98) (
  .seq (
   .ops [⟨(some 99), .mov (.t 7), none⟩, ⟨(some 100), .bin .add (.t 99) (.c (.lit (.int .i64 1))), none⟩, ⟨(some 10), .mov (.t 100), none⟩]) (
  .block 6 (
   .loop (L_slices_partialInsertionSortOrdered_int_4 N)))) (
  .skip))
def K_slices_partialInsertionSortOrdered_int_1 (N : Nat → Nat) : AC :=
 .seq (
  .seq (
   .ops [⟨(some 35), .mov (.t 7), none⟩, ⟨(some 36), .mov (.t 2), none⟩, ⟨(some 37), .eq false .pint (.t 35) (.t 36), none⟩]) (
  .cond (.t 37) (
   .seq (
    .ops [⟨(some 6), .mov (.c (.lit (.bool true))), none⟩]) (
   .ret)) (
   .skip))) (
 .seq (
  .seq (
   .ops [⟨(some 38), .mov (.t 2), none⟩, ⟨(some 39), .mov (.t 1), none⟩, ⟨(some 40), .bin .sub (.t 38) (.t 39), none⟩, ⟨(some 41), .bin .lss (.t 40) (.c (.lit (.int .i64 50))), none⟩]) (
  .cond (.t 41) (
   .seq (
    .ops [⟨(some 6), .mov (.c (.lit (.bool false))), none⟩]) (
   .ret)) (
   .skip))) (
 .seq (
  .dops 11 [⟨(some 42), .mov (.t 0), none⟩, ⟨(some 43), .mov (.t 7), none⟩, ⟨(some 44), .mov (.t 0), none⟩, ⟨(some 45), .mov (.t 7), none⟩, ⟨(some 46), .bin .sub (.t 45) (.c (.lit (.int .i64 1))), none⟩, ⟨(some 47), .mov (.t 0), none⟩, ⟨(some 48), .mov (.t 7), none⟩, ⟨(some 49), .bin .sub (.t 48) (.c (.lit (.int .i64 1))), none⟩, ⟨(some 50), .iaddr 1 (.t 47) (.t 49), none⟩, ⟨(some 51), .load none (.t 50), none⟩, ⟨(some 52), .mov (.t 0), none⟩, ⟨(some 53), .mov (.t 7), none⟩, ⟨(some 54), .iaddr 1 (.t 52) (.t 53), none⟩, ⟨(some 55), .load none (.t 54), none⟩, ⟨(some 56), .iaddr 1 (.t 42) (.t 43), none⟩, ⟨none, .store 1 (.t 56) (.t 51), none⟩, ⟨(some 57), .iaddr 1 (.t 44) (.t 46), none⟩, ⟨none, .store 1 (.t 57) (.t 55), none⟩] [0, 0, 0, 0, 0, 0, 0, 0, 0, 2, 0, 0, 0, 2, 0, 0, 0, 0] []) (
 .seq (
  .seq (
   .ops [⟨(some 58), .mov (.t 7), none⟩, ⟨(some 59), .mov (.t 1), none⟩, ⟨(some 60), .bin .sub (.t 58) (.t 59), none⟩, ⟨(some 61), .bin .geq (.t 60) (.c (.lit (.int .i64 2))), none⟩]) (
  .cond (.t 61) (
   .seq (
    .ops [⟨(some 62), .mov (.t 7), none⟩, ⟨(some 63), .bin .sub (.t 62) (.c (.lit (.int .i64 1))), none⟩, ⟨(some 9), .mov (.t 63), none⟩]) (
   .block 4 (
    .loop (L_slices_partialInsertionSortOrdered_int_3 N)))) (
   .skip))) (K_slices_partialInsertionSortOrdered_int_2 N))))
def K_slices_partialInsertionSortOrdered_int_3 (N : Nat → Nat) : AC :=
 .ops [⟨(some 15), .mov (.t 8), none⟩, ⟨(some 16), .bin .add (.t 15) (.c (.lit (.int .i64 1))), none⟩, ⟨(some 8), .mov (.t 16), none⟩]
def L_slices_partialInsertionSortOrdered_int_1 (N : Nat → Nat) : AC :=
    .seq (
     .seq (
      .ops [⟨(some 13), .mov (.t 8), none⟩, ⟨(some 14), .bin .lss (.t 13) (.c (.lit (.int .i64 5))), none⟩]) (
     .cond (.t 14) (
      .skip) (
      .exit 0))) (
    .seq (
     .block 1 (
      .seq (
       .block 2 (
        .loop (L_slices_partialInsertionSortOrdered_int_2 N))) (K_slices_partialInsertionSortOrdered_int_1 N))) (K_slices_partialInsertionSortOrdered_int_3 N))
def K_slices_partialInsertionSortOrdered_int_4 (N : Nat → Nat) : AC :=
 .seq (
  .ops [⟨(some 6), .mov (.c (.lit (.bool false))), none⟩]) (
 .ret)
/-- slices.partialInsertionSortOrdered[int] -/
def C_slices_partialInsertionSortOrdered_int (N : Nat → Nat) : AFunc := ⟨133, [.inl 6],
 .seq (
  .ops [⟨(some 6), .mov (.c (.lit (.bool false))), none⟩]) (
 .seq (
  .ops [⟨(some 11), .mov (.t 1), none⟩, ⟨(some 12), .bin .add (.t 11) (.c (.lit (.int .i64 1))), none⟩, ⟨(some 7), .mov (.t 12), none⟩]) (
 .seq (
  .seq (
   .ops [⟨(some 8), .mov (.c (.lit (.int .i64 0))), none⟩]) (
  .block 0 (
   .loop (L_slices_partialInsertionSortOrdered_int_1 N)))) (K_slices_partialInsertionSortOrdered_int_4 N))), false⟩

def L_slices_partitionEqualOrdered_int_2 (N : Nat → Nat) : AC :=
        .seq (
         .seq (
          .dops 3 [⟨(some 29), .mov (.t 9), none⟩, ⟨(some 30), .mov (.t 10), none⟩, ⟨(some 31), .bin .leq (.t 29) (.t 30), none⟩, ⟨(some 32), .mov (.t 31), none⟩, ⟨(some 33), .mov (.t 0), (some (32, true))⟩, ⟨(some 34), .mov (.t 1), (some (32, true))⟩, ⟨(some 35), .iaddr 1 (.t 33) (.t 34), (some (32, true))⟩, ⟨(some 36), .load none (.t 35), (some (32, true))⟩, ⟨(some 37), .mov (.t 0), (some (32, true))⟩, ⟨(some 38), .mov (.t 9), (some (32, true))⟩, ⟨(some 39), .iaddr 1 (.t 37) (.t 38), (some (32, true))⟩, ⟨(some 40), .load none (.t 39), (some (32, true))⟩, ⟨(some 41), .call (.c (.fn (f_cmp_Less_int N) [] [])) [(.t 36), (.t 40)], (some (32, true))⟩, ⟨(some 42), .un .not (.t 41), (some (32, true))⟩, ⟨(some 43), .pick (.t 32) (.t 42) (.c (.lit (.bool false))), none⟩] [0, 0, 0, 0, 0, 0, 0, 2, 0, 0, 0, 2, 0, 0, 0] []) (
         .cond (.t 43) (
          .skip) (
          .exit 2))) (
        .block 3 (
         .ops [⟨(some 44), .mov (.t 9), none⟩, ⟨(some 45), .bin .add (.t 44) (.c (.lit (.int .i64 1))), none⟩, ⟨(some 9), .mov (.t 45), none⟩]))
def L_slices_partitionEqualOrdered_int_3 (N : Nat → Nat) : AC :=
    .seq (
     .seq (
      .dops 5 [⟨(some 46), .mov (.t 9), none⟩, ⟨(some 47), .mov (.t 10), none⟩, ⟨(some 48), .bin .leq (.t 46) (.t 47), none⟩, ⟨(some 49), .mov (.t 48), none⟩, ⟨(some 50), .mov (.t 0), (some (49, true))⟩, ⟨(some 51), .mov (.t 1), (some (49, true))⟩, ⟨(some 52), .iaddr 1 (.t 50) (.t 51), (some (49, true))⟩, ⟨(some 53), .load none (.t 52), (some (49, true))⟩, ⟨(some 54), .mov (.t 0), (some (49, true))⟩, ⟨(some 55), .mov (.t 10), (some (49, true))⟩, ⟨(some 56), .iaddr 1 (.t 54) (.t 55), (some (49, true))⟩, ⟨(some 57), .load none (.t 56), (some (49, true))⟩, ⟨(some 58), .call (.c (.fn (f_cmp_Less_int N) [] [])) [(.t 53), (.t 57)], (some (49, true))⟩, ⟨(some 59), .pick (.t 49) (.t 58) (.c (.lit (.bool false))), none⟩] [0, 0, 0, 0, 0, 0, 0, 2, 0, 0, 0, 2, 0, 0] []) (
     .cond (.t 59) (
      .skip) (
      .exit 4))) (
    .block 5 (
     .ops [⟨(some 60), .mov (.t 10), none⟩, ⟨(some 61), .bin .sub (.t 60) (.c (.lit (.int .i64 1))), none⟩, ⟨(some 10), .mov (.t 61), none⟩]))
def K_slices_partitionEqualOrdered_int_2 (N : Nat → Nat) : AC :=
 .seq (
  .seq (
   .ops [⟨(some 62), .mov (.t 9), none⟩, ⟨(some 63), .mov (.t 10), none⟩, ⟨(some 64), .bin .gtr (.t 62) (.t 63), none⟩]) (
  .cond (.t 64) (
   .exit 0) (
   .skip))) (
 .seq (
  .dops 8 [⟨(some 65), .mov (.t 0), none⟩, ⟨(some 66), .mov (.t 9), none⟩, ⟨(some 67), .mov (.t 0), none⟩, ⟨(some 68), .mov (.t 10), none⟩, ⟨(some 69), .mov (.t 0), none⟩, ⟨(some 70), .mov (.t 10), none⟩, ⟨(some 71), .iaddr 1 (.t 69) (.t 70), none⟩, ⟨(some 72), .load none (.t 71), none⟩, ⟨(some 73), .mov (.t 0), none⟩, ⟨(some 74), .mov (.t 9), none⟩, ⟨(some 75), .iaddr 1 (.t 73) (.t 74), none⟩, ⟨(some 76), .load none (.t 75), none⟩, ⟨(some 77), .iaddr 1 (.t 65) (.t 66), none⟩, ⟨none, .store 1 (.t 77) (.t 72), none⟩, ⟨(some 78), .iaddr 1 (.t 67) (.t 68), none⟩, ⟨none, .store 1 (.t 78) (.t 76), none⟩] [0, 0, 0, 0, 0, 0, 0, 2, 0, 0, 0, 2, 0, 0, 0, 0] []) (
 .seq (
  .ops [⟨(some 79), .mov (.t 9), none⟩, ⟨(some 80), .bin .add (.t 79) (.c (.lit (.int .i64 1))), none⟩, ⟨(some 9), .mov (.t 80), none⟩]) (
 .ops [⟨(some 81), .mov (.t 10), none⟩, ⟨(some 82), .bin .sub (.t 81) (.c (.lit (.int .i64 1))), none⟩, ⟨(some 10), .mov (.t 82), none⟩])))
def K_slices_partitionEqualOrdered_int_1 (N : Nat → Nat) : AC :=
 .seq (
  .block 4 (
   .loop (L_slices_partitionEqualOrdered_int_3 N))) (K_slices_partitionEqualOrdered_int_2 N)
def L_slices_partitionEqualOrdered_int_1 (N : Nat → Nat) : AC :=
    .block 1 (
     .seq (
      .block 2 (
       .loop (L_slices_partitionEqualOrdered_int_2 N))) (K_slices_partitionEqualOrdered_int_1 N))
def K_slices_partitionEqualOrdered_int_3 (N : Nat → Nat) : AC :=
 .seq (
  .ops [⟨(some 83), .mov (.t 9), none⟩, ⟨(some 8), .mov (.t 83), none⟩]) (
 .ret)
/-- slices.partitionEqualOrdered[int] -/
def C_slices_partitionEqualOrdered_int (N : Nat → Nat) : AFunc := ⟨84, [.inl 8],
 .seq (
  .ops [⟨(some 8), .mov (.c (.lit (.int .i64 0))), none⟩]) (
 .seq (
  .dops 1 [⟨(some 11), .mov (.t 0), none⟩, ⟨(some 12), .mov (.t 1), none⟩, ⟨(some 13), .mov (.t 0), none⟩, ⟨(some 14), .mov (.t 3), none⟩, ⟨(some 15), .mov (.t 0), none⟩, ⟨(some 16), .mov (.t 3), none⟩, ⟨(some 17), .iaddr 1 (.t 15) (.t 16), none⟩, ⟨(some 18), .load none (.t 17), none⟩, ⟨(some 19), .mov (.t 0), none⟩, ⟨(some 20), .mov (.t 1), none⟩, ⟨(some 21), .iaddr 1 (.t 19) (.t 20), none⟩, ⟨(some 22), .load none (.t 21), none⟩, ⟨(some 23), .iaddr 1 (.t 11) (.t 12), none⟩, ⟨none, .store 1 (.t 23) (.t 18), none⟩, ⟨(some 24), .iaddr 1 (.t 13) (.t 14), none⟩, ⟨none, .store 1 (.t 24) (.t 22), none⟩] [0, 0, 0, 0, 0, 0, 0, 2, 0, 0, 0, 2, 0, 0, 0, 0] []) (
 .seq (
  .ops [⟨(some 25), .mov (.t 1), none⟩, ⟨(some 26), .bin .add (.t 25) (.c (.lit (.int .i64 1))), none⟩, ⟨(some 27), .mov (.t 2), none⟩, ⟨(some 28), .bin .sub (.t 27) (.c (.lit (.int .i64 1))), none⟩, ⟨(some 9), .mov (.t 26), none⟩, ⟨(some 10), .mov (.t 28), none⟩]) (
 .seq (
  .block 0 (
   .loop (L_slices_partitionEqualOrdered_int_1 N))) (K_slices_partitionEqualOrdered_int_3 N)))), false⟩

def L_slices_partitionOrdered_int_1 (N : Nat → Nat) : AC :=
    .seq (
     .seq (
      .dops 3 [⟨(some 30), .mov (.t 10), none⟩, ⟨(some 31), .mov (.t 11), none⟩, ⟨(some 32), .bin .leq (.t 30) (.t 31), none⟩, ⟨(some 33), .mov (.t 32), none⟩, ⟨(some 34), .mov (.t 0), (some (33, true))⟩, ⟨(some 35), .mov (.t 10), (some (33, true))⟩, ⟨(some 36), .iaddr 1 (.t 34) (.t 35), (some (33, true))⟩, ⟨(some 37), .load none (.t 36), (some (33, true))⟩, ⟨(some 38), .mov (.t 0), (some (33, true))⟩, ⟨(some 39), .mov (.t 1), (some (33, true))⟩, ⟨(some 40), .iaddr 1 (.t 38) (.t 39), (some (33, true))⟩, ⟨(some 41), .load none (.t 40), (some (33, true))⟩, ⟨(some 42), .call (.c (.fn (f_cmp_Less_int N) [] [])) [(.t 37), (.t 41)], (some (33, true))⟩, ⟨(some 43), .pick (.t 33) (.t 42) (.c (.lit (.bool false))), none⟩] [0, 0, 0, 0, 0, 0, 0, 2, 0, 0, 0, 2, 0, 0] []) (
     .cond (.t 43) (
      .skip) (
      .exit 0))) (
    .block 1 (
     .ops [⟨(some 44), .mov (.t 10), none⟩, ⟨(some 45), .bin .add (.t 44) (.c (.lit (.int .i64 1))), none⟩, ⟨(some 10), .mov (.t 45), none⟩]))
def L_slices_partitionOrdered_int_2 (N : Nat → Nat) : AC :=
    .seq (
     .seq (
      .dops 5 [⟨(some 46), .mov (.t 10), none⟩, ⟨(some 47), .mov (.t 11), none⟩, ⟨(some 48), .bin .leq (.t 46) (.t 47), none⟩, ⟨(some 49), .mov (.t 48), none⟩, ⟨(some 50), .mov (.t 0), (some (49, true))⟩, ⟨(some 51), .mov (.t 11), (some (49, true))⟩, ⟨(some 52), .iaddr 1 (.t 50) (.t 51), (some (49, true))⟩, ⟨(some 53), .load none (.t 52), (some (49, true))⟩, ⟨(some 54), .mov (.t 0), (some (49, true))⟩, ⟨(some 55), .mov (.t 1), (some (49, true))⟩, ⟨(some 56), .iaddr 1 (.t 54) (.t 55), (some (49, true))⟩, ⟨(some 57), .load none (.t 56), (some (49, true))⟩, ⟨(some 58), .call (.c (.fn (f_cmp_Less_int N) [] [])) [(.t 53), (.t 57)], (some (49, true))⟩, ⟨(some 59), .un .not (.t 58), (some (49, true))⟩, ⟨(some 60), .pick (.t 49) (.t 59) (.c (.lit (.bool false))), none⟩] [0, 0, 0, 0, 0, 0, 0, 2, 0, 0, 0, 2, 0, 0, 0] []) (
     .cond (.t 60) (
      .skip) (
      .exit 2))) (
    .block 3 (
     .ops [⟨(some 61), .mov (.t 11), none⟩, ⟨(some 62), .bin .sub (.t 61) (.c (.lit (.int .i64 1))), none⟩, ⟨(some 11), .mov (.t 62), none⟩]))
def L_slices_partitionOrdered_int_4 (N : Nat → Nat) : AC :=
        .seq (
         .seq (
          .dops 13 [⟨(some 99), .mov (.t 10), none⟩, ⟨(some 100), .mov (.t 11), none⟩, ⟨(some 101), .bin .leq (.t 99) (.t 100), none⟩, ⟨(some 102), .mov (.t 101), none⟩, ⟨(some 103), .mov (.t 0), (some (102, true))⟩, ⟨(some 104), .mov (.t 10), (some (102, true))⟩, ⟨(some 105), .iaddr 1 (.t 103) (.t 104), (some (102, true))⟩, ⟨(some 106), .load none (.t 105), (some (102, true))⟩, ⟨(some 107), .mov (.t 0), (some (102, true))⟩, ⟨(some 108), .mov (.t 1), (some (102, true))⟩, ⟨(some 109), .iaddr 1 (.t 107) (.t 108), (some (102, true))⟩, ⟨(some 110), .load none (.t 109), (some (102, true))⟩, ⟨(some 111), .call (.c (.fn (f_cmp_Less_int N) [] [])) [(.t 106), (.t 110)], (some (102, true))⟩, ⟨(some 112), .pick (.t 102) (.t 111) (.c (.lit (.bool false))), none⟩] [0, 0, 0, 0, 0, 0, 0, 2, 0, 0, 0, 2, 0, 0] []) (
         .cond (.t 112) (
          .skip) (
          .exit 6))) (
        .block 7 (
         .ops [⟨(some 113), .mov (.t 10), none⟩, ⟨(some 114), .bin .add (.t 113) (.c (.lit (.int .i64 1))), none⟩, ⟨(some 10), .mov (.t 114), none⟩]))
def L_slices_partitionOrdered_int_5 (N : Nat → Nat) : AC :=
    .seq (
     .seq (
      .dops 15 [⟨(some 115), .mov (.t 10), none⟩, ⟨(some 116), .mov (.t 11), none⟩, ⟨(some 117), .bin .leq (.t 115) (.t 116), none⟩, ⟨(some 118), .mov (.t 117), none⟩, ⟨(some 119), .mov (.t 0), (some (118, true))⟩, ⟨(some 120), .mov (.t 11), (some (118, true))⟩, ⟨(some 121), .iaddr 1 (.t 119) (.t 120), (some (118, true))⟩, ⟨(some 122), .load none (.t 121), (some (118, true))⟩, ⟨(some 123), .mov (.t 0), (some (118, true))⟩, ⟨(some 124), .mov (.t 1), (some (118, true))⟩, ⟨(some 125), .iaddr 1 (.t 123) (.t 124), (some (118, true))⟩, ⟨(some 126), .load none (.t 125), (some (118, true))⟩, ⟨(some 127), .call (.c (.fn (f_cmp_Less_int N) [] [])) [(.t 122), (.t 126)], (some (118, true))⟩, ⟨(some 128), .un .not (.t 127), (some (118, true))⟩, ⟨(some 129), .pick (.t 118) (.t 128) (.c (.lit (.bool false))), none⟩] [0, 0, 0, 0, 0, 0, 0, 2, 0, 0, 0, 2, 0, 0, 0] []) (
     .cond (.t 129) (
      .skip) (
      .exit 8))) (
    .block 9 (
     .ops [⟨(some 130), .mov (.t 11), none⟩, ⟨(some 131), .bin .sub (.t 130) (.c (.lit (.int .i64 1))), none⟩, ⟨(some 11), .mov (.t 131), none⟩]))
def K_slices_partitionOrdered_int_4 (N : Nat → Nat) : AC :=
 .seq (
  .seq (
   .ops [⟨(some 132), .mov (.t 10), none⟩, ⟨(some 133), .mov (.t 11), none⟩, ⟨(some 134), .bin .gtr (.t 132) (.t 133), none⟩]) (
  .cond (.t 134) (
   .exit 4) (
   .skip))) (
 .seq (
  .dops 18 [⟨(some 135), .mov (.t 0), none⟩, ⟨(some 136), .mov (.t 10), none⟩, ⟨(some 137), .mov (.t 0), none⟩, ⟨(some 138), .mov (.t 11), none⟩, ⟨(some 139), .mov (.t 0), none⟩, ⟨(some 140), .mov (.t 11), none⟩, ⟨(some 141), .iaddr 1 (.t 139) (.t 140), none⟩, ⟨(some 142), .load none (.t 141), none⟩, ⟨(some 143), .mov (.t 0), none⟩, ⟨(some 144), .mov (.t 10), none⟩, ⟨(some 145), .iaddr 1 (.t 143) (.t 144), none⟩, ⟨(some 146), .load none (.t 145), none⟩, ⟨(some 147), .iaddr 1 (.t 135) (.t 136), none⟩, ⟨none, .store 1 (.t 147) (.t 142), none⟩, ⟨(some 148), .iaddr 1 (.t 137) (.t 138), none⟩, ⟨none, .store 1 (.t 148) (.t 146), none⟩] [0, 0, 0, 0, 0, 0, 0, 2, 0, 0, 0, 2, 0, 0, 0, 0] []) (
 .seq (
  .ops [⟨(some 149), .mov (.t 10), none⟩, ⟨(some 150), .bin .add (.t 149) (.c (.lit (.int .i64 1))), none⟩, ⟨(some 10), .mov (.t 150), none⟩]) (
 .ops [⟨(some 151), .mov (.t 11), none⟩, ⟨(some 152), .bin .sub (.t 151) (.c (.lit (.int .i64 1))), none⟩, ⟨(some 11), .mov (.t 152), none⟩])))
def K_slices_partitionOrdered_int_3 (N : Nat → Nat) : AC :=
 .seq (
  .block 8 (
   .loop (L_slices_partitionOrdered_int_5 N))) (K_slices_partitionOrdered_int_4 N)
def L_slices_partitionOrdered_int_3 (N : Nat → Nat) : AC :=
    .block 5 (
     .seq (
      .block 6 (
       .loop (L_slices_partitionOrdered_int_4 N))) (K_slices_partitionOrdered_int_3 N))
def K_slices_partitionOrdered_int_5 (N : Nat → Nat) : AC :=
 .seq (
  .dops 21 [⟨(some 153), .mov (.t 0), none⟩, ⟨(some 154), .mov (.t 11), none⟩, ⟨(some 155), .mov (.t 0), none⟩, ⟨(some 156), .mov (.t 1), none⟩, ⟨(some 157), .mov (.t 0), none⟩, ⟨(some 158), .mov (.t 1), none⟩, ⟨(some 159), .iaddr 1 (.t 157) (.t 158), none⟩, ⟨(some 160), .load none (.t 159), none⟩, ⟨(some 161), .mov (.t 0), none⟩, ⟨(some 162), .mov (.t 11), none⟩, ⟨(some 163), .iaddr 1 (.t 161) (.t 162), none⟩, ⟨(some 164), .load none (.t 163), none⟩, ⟨(some 165), .iaddr 1 (.t 153) (.t 154), none⟩, ⟨none, .store 1 (.t 165) (.t 160), none⟩, ⟨(some 166), .iaddr 1 (.t 155) (.t 156), none⟩, ⟨none, .store 1 (.t 166) (.t 164), none⟩] [0, 0, 0, 0, 0, 0, 0, 2, 0, 0, 0, 2, 0, 0, 0, 0] []) (
 .seq (
  .ops [⟨(some 167), .mov (.t 11), none⟩, ⟨(some 8), .mov (.t 167), none⟩, ⟨(some 9), .mov (.c (.lit (.bool false))), none⟩]) (
 .ret))
def K_slices_partitionOrdered_int_2 (N : Nat → Nat) : AC :=
 .seq (
  .seq (
   .ops [⟨(some 63), .mov (.t 10), none⟩, ⟨(some 64), .mov (.t 11), none⟩, ⟨(some 65), .bin .gtr (.t 63) (.t 64), none⟩]) (
  .cond (.t 65) (
   .seq (
    .dops 8 [⟨(some 66), .mov (.t 0), none⟩, ⟨(some 67), .mov (.t 11), none⟩, ⟨(some 68), .mov (.t 0), none⟩, ⟨(some 69), .mov (.t 1), none⟩, ⟨(some 70), .mov (.t 0), none⟩, ⟨(some 71), .mov (.t 1), none⟩, ⟨(some 72), .iaddr 1 (.t 70) (.t 71), none⟩, ⟨(some 73), .load none (.t 72), none⟩, ⟨(some 74), .mov (.t 0), none⟩, ⟨(some 75), .mov (.t 11), none⟩, ⟨(some 76), .iaddr 1 (.t 74) (.t 75), none⟩, ⟨(some 77), .load none (.t 76), none⟩, ⟨(some 78), .iaddr 1 (.t 66) (.t 67), none⟩, ⟨none, .store 1 (.t 78) (.t 73), none⟩, ⟨(some 79), .iaddr 1 (.t 68) (.t 69), none⟩, ⟨none, .store 1 (.t 79) (.t 77), none⟩] [0, 0, 0, 0, 0, 0, 0, 2, 0, 0, 0, 2, 0, 0, 0, 0] []) (
   .seq (
    .ops [⟨(some 80), .mov (.t 11), none⟩, ⟨(some 8), .mov (.t 80), none⟩, ⟨(some 9), .mov (.c (.lit (.bool true))), none⟩]) (
   .ret))) (
   .skip))) (
 .seq (
  .dops 10 [⟨(some 81), .mov (.t 0), none⟩, ⟨(some 82), .mov (.t 10), none⟩, ⟨(some 83), .mov (.t 0), none⟩, ⟨(some 84), .mov (.t 11), none⟩, ⟨(some 85), .mov (.t 0), none⟩, ⟨(some 86), .mov (.t 11), none⟩, ⟨(some 87), .iaddr 1 (.t 85) (.t 86), none⟩, ⟨(some 88), .load none (.t 87), none⟩, ⟨(some 89), .mov (.t 0), none⟩, ⟨(some 90), .mov (.t 10), none⟩, ⟨(some 91), .iaddr 1 (.t 89) (.t 90), none⟩, ⟨(some 92), .load none (.t 91), none⟩, ⟨(some 93), .iaddr 1 (.t 81) (.t 82), none⟩, ⟨none, .store 1 (.t 93) (.t 88), none⟩, ⟨(some 94), .iaddr 1 (.t 83) (.t 84), none⟩, ⟨none, .store 1 (.t 94) (.t 92), none⟩] [0, 0, 0, 0, 0, 0, 0, 2, 0, 0, 0, 2, 0, 0, 0, 0] []) (
 .seq (
  .ops [⟨(some 95), .mov (.t 10), none⟩, ⟨(some 96), .bin .add (.t 95) (.c (.lit (.int .i64 1))), none⟩, ⟨(some 10), .mov (.t 96), none⟩]) (
 .seq (
  .ops [⟨(some 97), .mov (.t 11), none⟩, ⟨(some 98), .bin .sub (.t 97) (.c (.lit (.int .i64 1))), none⟩, ⟨(some 11), .mov (.t 98), none⟩]) (
 .seq (
  .block 4 (
   .loop (L_slices_partitionOrdered_int_3 N))) (K_slices_partitionOrdered_int_5 N)))))
def K_slices_partitionOrdered_int_1 (N : Nat → Nat) : AC :=
 .seq (
  .block 2 (
   .loop (L_slices_partitionOrdered_int_2 N))) (K_slices_partitionOrdered_int_2 N)
/-- slices.partitionOrdered[int] -/
def C_slices_partitionOrdered_int (N : Nat → Nat) : AFunc := ⟨168, [.inl 8, .inl 9],
 .seq (
  .ops [⟨(some 8), .mov (.c (.lit (.int .i64 0))), none⟩, ⟨(some 9), .mov (.c (.lit (.bool false))), none⟩]) (
 .seq (
  .dops 1 [⟨(some 12), .mov (.t 0), none⟩, ⟨(some 13), .mov (.t 1), none⟩, ⟨(some 14), .mov (.t 0), none⟩, ⟨(some 15), .mov (.t 3), none⟩, ⟨(some 16), .mov (.t 0), none⟩, ⟨(some 17), .mov (.t 3), none⟩, ⟨(some 18), .iaddr 1 (.t 16) (.t 17), none⟩, ⟨(some 19), .load none (.t 18), none⟩, ⟨(some 20), .mov (.t 0), none⟩, ⟨(some 21), .mov (.t 1), none⟩, ⟨(some 22), .iaddr 1 (.t 20) (.t 21), none⟩, ⟨(some 23), .load none (.t 22), none⟩, ⟨(some 24), .iaddr 1 (.t 12) (.t 13), none⟩, ⟨none, .store 1 (.t 24) (.t 19), none⟩, ⟨(some 25), .iaddr 1 (.t 14) (.t 15), none⟩, ⟨none, .store 1 (.t 25) (.t 23), none⟩] [0, 0, 0, 0, 0, 0, 0, 2, 0, 0, 0, 2, 0, 0, 0, 0] []) (
 .seq (
  .ops [⟨(some 26), .mov (.t 1), none⟩, ⟨(some 27), .bin .add (.t 26) (.c (.lit (.int .i64 1))), none⟩, ⟨(some 28), .mov (.t 2), none⟩, ⟨(some 29), .bin .sub (.t 28) (.c (.lit (.int .i64 1))), none⟩, ⟨(some 10), .mov (.t 27), none⟩, ⟨(some 11), .mov (.t 29), none⟩]) (
 .seq (
  .block 0 (
   .loop (L_slices_partitionOrdered_int_1 N))) (K_slices_partitionOrdered_int_1 N)))), false⟩

def L_slices_pdqsortOrdered_int_1 (N : Nat → Nat) : AC :=
   .block 1 (
    .seq (
     .ops [⟨(some 19), .mov (.t 2), none⟩, ⟨(some 20), .mov (.t 1), none⟩, ⟨(some 21), .bin .sub (.t 19) (.t 20), none⟩, ⟨(some 10), .mov (.t 21), none⟩]) (
    .seq (
     .seq (
      .ops [⟨(some 22), .mov (.t 10), none⟩, ⟨(some 23), .bin .leq (.t 22) (.c (.lit (.int .i64 12))), none⟩]) (
     .cond (.t 23) (
      .seq (
       .ops [⟨(some 24), .mov (.t 0), none⟩, ⟨(some 25), .mov (.t 1), none⟩, ⟨(some 26), .mov (.t 2), none⟩, ⟨(some 27), .call (.c (.fn (f_slices_insertionSortOrdered_int N) [] [])) [(.t 24), (.t 25), (.t 26)], none⟩]) (
      .ret)) (
      .skip))) (
    .seq (
     .seq (
      .ops [⟨(some 28), .mov (.t 3), none⟩, ⟨(some 29), .eq false .pint (.t 28) (.c (.lit (.int .i64 0))), none⟩]) (
     .cond (.t 29) (
      .seq (
       .ops [⟨(some 30), .mov (.t 0), none⟩, ⟨(some 31), .mov (.t 1), none⟩, ⟨(some 32), .mov (.t 2), none⟩, ⟨(some 33), .call (.c (.fn (f_slices_heapSortOrdered_int N) [] [])) [(.t 30), (.t 31), (.t 32)], none⟩]) (
      .ret)) (
      .skip))) (
    .seq (
     .seq (
      .ops [⟨(some 34), .mov (.t 8), none⟩, ⟨(some 35), .un .not (.t 34), none⟩]) (
     .cond (.t 35) (
      .seq (
       .ops [⟨(some 36), .mov (.t 0), none⟩, ⟨(some 37), .mov (.t 1), none⟩, ⟨(some 38), .mov (.t 2), none⟩, ⟨(some 39), .call (.c (.fn (f_slices_breakPatternsOrdered_int N) [] [])) [(.t 36), (.t 37), (.t 38)], none⟩]) (
      .ops [⟨(some 40), .mov (.t 3), none⟩, ⟨(some 41), .bin .sub (.t 40) (.c (.lit (.int .i64 1))), none⟩, ⟨(some 3), .mov (.t 41), none⟩])) (
      .skip))) (
    .seq (
     .ops [⟨(some 43), .mov (.t 0), none⟩, ⟨(some 44), .mov (.t 1), none⟩, ⟨(some 45), .mov (.t 2), none⟩, ⟨(some 46), .call (.c (.fn (f_slices_choosePivotOrdered_int N) [] [])) [(.t 43), (.t 44), (.t 45)], none⟩, ⟨(some 42), .mov (.t 46), none⟩, ⟨(some 47), .extract (.t 42) 0, none⟩, ⟨(some 48), .extract (.t 42) 1, none⟩, ⟨(some 11), .mov (.t 47), none⟩, ⟨(some 12), .mov (.t 48), none⟩]) (
    .seq (
     .seq (
      .ops [⟨(some 49), .mov (.t 12), none⟩, ⟨(some 50), .eq false .pint (.t 49) (.c (.lit (.int .i64 2))), none⟩]) (
     .cond (.t 50) (
      .seq (
       .ops [⟨(some 51), .mov (.t 0), none⟩, ⟨(some 52), .mov (.t 1), none⟩, ⟨(some 53), .mov (.t 2), none⟩, ⟨(some 54), .call (.c (.fn (f_slices_reverseRangeOrdered_int N) [] [])) [(.t 51), (.t 52), (.t 53)], none⟩]) (
      .seq (
       .ops [⟨(some 55), .mov (.t 2), none⟩, ⟨(some 56), .bin .sub (.t 55) (.c (.lit (.int .i64 1))), none⟩, ⟨(some 57), .mov (.t 11), none⟩, ⟨(some 58), .mov (.t 1), none⟩, ⟨(some 59), .bin .sub (.t 57) (.t 58), none⟩, ⟨(some 60), .bin .sub (.t 56) (.t 59), none⟩, ⟨(some 11), .mov (.t 60), none⟩]) (
      .ops [⟨(some 12), .mov (.c (.lit (.int .i64 1))), none⟩]))) (
      .skip))) (
    .seq (
     .seq (
      .ops [⟨(some 61), .mov (.t 8), none⟩, ⟨(some 62), .mov (.t 61), none⟩, ⟨(some 63), .mov (.t 9), (some (62, true))⟩, ⟨(some 64), .pick (.t 62) (.t 63) (.c (.lit (.bool false))), none⟩, ⟨(some 65), .mov (.t 64), none⟩, ⟨(some 66), .mov (.t 12), (some (65, true))⟩, ⟨(some 67), .eq false .pint (.t 66) (.c (.lit (.int .i64 1))), (some (65, true))⟩, ⟨(some 68), .pick (.t 65) (.t 67) (.c (.lit (.bool false))), none⟩]) (
     .cond (.t 68) (
      .seq (
       .ops [⟨(some 69), .mov (.t 0), none⟩, ⟨(some 70), .mov (.t 1), none⟩, ⟨(some 71), .mov (.t 2), none⟩, ⟨(some 72), .call (.c (.fn (f_slices_partialInsertionSortOrdered_int N) [] [])) [(.t 69), (.t 70), (.t 71)], none⟩]) (
      .cond (.t 72) (
       .ret) (
       .skip))) (
      .skip))) (
    .seq (
     .seq (
      .dops 17 [⟨(some 73), .mov (.t 1), none⟩, ⟨(some 74), .bin .gtr (.t 73) (.c (.lit (.int .i64 0))), none⟩, ⟨(some 75), .mov (.t 74), none⟩, ⟨(some 76), .mov (.t 0), (some (75, true))⟩, ⟨(some 77), .mov (.t 1), (some (75, true))⟩, ⟨(some 78), .bin .sub (.t 77) (.c (.lit (.int .i64 1))), (some (75, true))⟩, ⟨(some 79), .iaddr 1 (.t 76) (.t 78), (some (75, true))⟩, ⟨(some 80), .load none (.t 79), (some (75, true))⟩, ⟨(some 81), .mov (.t 0), (some (75, true))⟩, ⟨(some 82), .mov (.t 11), (some (75, true))⟩, ⟨(some 83), .iaddr 1 (.t 81) (.t 82), (some (75, true))⟩, ⟨(some 84), .load none (.t 83), (some (75, true))⟩, ⟨(some 85), .call (.c (.fn (f_cmp_Less_int N) [] [])) [(.t 80), (.t 84)], (some (75, true))⟩, ⟨(some 86), .un .not (.t 85), (some (75, true))⟩, ⟨(some 87), .pick (.t 75) (.t 86) (.c (.lit (.bool false))), none⟩] [0, 0, 0, 0, 0, 0, 0, 2, 0, 0, 0, 2, 0, 0, 0] []) (
     .cond (.t 87) (
      .seq (
       .ops [⟨(some 88), .mov (.t 0), none⟩, ⟨(some 89), .mov (.t 1), none⟩, ⟨(some 90), .mov (.t 2), none⟩, ⟨(some 91), .mov (.t 11), none⟩, ⟨(some 92), .call (.c (.fn (f_slices_partitionEqualOrdered_int N) [] [])) [(.t 88), (.t 89), (.t 90), (.t 91)], none⟩, ⟨(some 13), .mov (.t 92), none⟩]) (
      .seq (
       .ops [⟨(some 93), .mov (.t 13), none⟩, ⟨(some 1), .mov (.t 93), none⟩]) (
      .exit 1))) (
      .skip))) (
    .seq (
     .ops [⟨(some 95), .mov (.t 0), none⟩, ⟨(some 96), .mov (.t 1), none⟩, ⟨(some 97), .mov (.t 2), none⟩, ⟨(some 98), .mov (.t 11), none⟩, ⟨(some 99), .call (.c (.fn (f_slices_partitionOrdered_int N) [] [])) [(.t 95), (.t 96), (.t 97), (.t 98)], none⟩, ⟨(some 94), .mov (.t 99), none⟩, ⟨(some 100), .extract (.t 94) 0, none⟩, ⟨(some 101), .extract (.t 94) 1, none⟩, ⟨(some 14), .mov (.t 100), none⟩, ⟨(some 15), .mov (.t 101), none⟩]) (
    .seq (
     .ops [⟨(some 102), .mov (.t 15), none⟩, ⟨(some 9), .mov (.t 102), none⟩]) (
    .seq (
     .ops [⟨(some 103), .mov (.t 14), none⟩, ⟨(some 104), .mov (.t 1), none⟩, ⟨(some 105), .bin .sub (.t 103) (.t 104), none⟩, ⟨(some 106), .mov (.t 2), none⟩, ⟨(some 107), .mov (.t 14), none⟩, ⟨(some 108), .bin .sub (.t 106) (.t 107), none⟩, ⟨(some 16), .mov (.t 105), none⟩, ⟨(some 17), .mov (.t 108), none⟩]) (
    .seq (
     .ops [⟨(some 109), .mov (.t 10), none⟩, ⟨(some 110), .bin .quo (.t 109) (.c (.lit (.int .i64 8))), none⟩, ⟨(some 18), .mov (.t 110), none⟩]) (
    .seq (
     .ops [⟨(some 111), .mov (.t 16), none⟩, ⟨(some 112), .mov (.t 17), none⟩, ⟨(some 113), .bin .lss (.t 111) (.t 112), none⟩]) (
    .cond (.t 113) (
     .seq (
      .ops [⟨(some 114), .mov (.t 16), none⟩, ⟨(some 115), .mov (.t 18), none⟩, ⟨(some 116), .bin .geq (.t 114) (.t 115), none⟩, ⟨(some 8), .mov (.t 116), none⟩]) (
     .seq (
      .ops [⟨(some 117), .mov (.t 0), none⟩, ⟨(some 118), .mov (.t 1), none⟩, ⟨(some 119), .mov (.t 14), none⟩, ⟨(some 120), .mov (.t 3), none⟩, ⟨(some 121), .call (.c (.fn (f_slices_pdqsortOrdered_int N) [] [])) [(.t 117), (.t 118), (.t 119), (.t 120)], none⟩]) (
     .ops [⟨(some 122), .mov (.t 14), none⟩, ⟨(some 123), .bin .add (.t 122) (.c (.lit (.int .i64 1))), none⟩, ⟨(some 1), .mov (.t 123), none⟩]))) (
     .seq (
      .ops [⟨(some 124), .mov (.t 17), none⟩, ⟨(some 125), .mov (.t 18), none⟩, ⟨(some 126), .bin .geq (.t 124) (.t 125), none⟩, ⟨(some 8), .mov (.t 126), none⟩]) (
     .seq (
      .ops [⟨(some 127), .mov (.t 0), none⟩, ⟨(some 128), .mov (.t 14), none⟩, ⟨(some 129), .bin .add (.t 128) (.c (.lit (.int .i64 1))), none⟩, ⟨(some 130), .mov (.t 2), none⟩, ⟨(some 131), .mov (.t 3), none⟩, ⟨(some 132), .call (.c (.fn (f_slices_pdqsortOrdered_int N) [] [])) [(.t 127), (.t 129), (.t 130), (.t 131)], none⟩]) (
     .ops [⟨(some 133), .mov (.t 14), none⟩, ⟨(some 2), .mov (.t 133), none⟩])))))))))))))))))
/-- slices.pdqsortOrdered[int] -/
def C_slices_pdqsortOrdered_int (N : Nat → Nat) : AFunc := ⟨134, [],
 .seq (
  .ops [⟨(some 8), .mov (.c (.lit (.bool true))), none⟩]) (
 .seq (
  .ops [⟨(some 9), .mov (.c (.lit (.bool true))), none⟩]) (
 .block 0 (
  .loop (L_slices_pdqsortOrdered_int_1 N)))), false⟩

def L_slices_reverseRangeOrdered_int_1 (N : Nat → Nat) : AC :=
   .seq (
    .seq (
     .ops [⟨(some 11), .mov (.t 6), none⟩, ⟨(some 12), .mov (.t 7), none⟩, ⟨(some 13), .bin .lss (.t 11) (.t 12), none⟩]) (
    .cond (.t 13) (
     .skip) (
     .exit 0))) (
   .block 1 (
    .seq (
     .dops 3 [⟨(some 14), .mov (.t 0), none⟩, ⟨(some 15), .mov (.t 6), none⟩, ⟨(some 16), .mov (.t 0), none⟩, ⟨(some 17), .mov (.t 7), none⟩, ⟨(some 18), .mov (.t 0), none⟩, ⟨(some 19), .mov (.t 7), none⟩, ⟨(some 20), .iaddr 1 (.t 18) (.t 19), none⟩, ⟨(some 21), .load none (.t 20), none⟩, ⟨(some 22), .mov (.t 0), none⟩, ⟨(some 23), .mov (.t 6), none⟩, ⟨(some 24), .iaddr 1 (.t 22) (.t 23), none⟩, ⟨(some 25), .load none (.t 24), none⟩, ⟨(some 26), .iaddr 1 (.t 14) (.t 15), none⟩, ⟨none, .store 1 (.t 26) (.t 21), none⟩, ⟨(some 27), .iaddr 1 (.t 16) (.t 17), none⟩, ⟨none, .store 1 (.t 27) (.t 25), none⟩] [0, 0, 0, 0, 0, 0, 0, 2, 0, 0, 0, 2, 0, 0, 0, 0] []) (
    .seq (
     .ops [⟨(some 28), .mov (.t 6), none⟩, ⟨(some 29), .bin .add (.t 28) (.c (.lit (.int .i64 1))), none⟩, ⟨(some 6), .mov (.t 29), none⟩]) (
    .ops [⟨(some 30), .mov (.t 7), none⟩, ⟨(some 31), .bin .sub (.t 30) (.c (.lit (.int .i64 1))), none⟩, ⟨(some 7), .mov (.t 31), none⟩]))))
/-- slices.reverseRangeOrdered[int] -/
def C_slices_reverseRangeOrdered_int (N : Nat → Nat) : AFunc := ⟨32, [],
 .seq (
  .ops [⟨(some 8), .mov (.t 1), none⟩, ⟨(some 6), .mov (.t 8), none⟩]) (
 .seq (
  .ops [⟨(some 9), .mov (.t 2), none⟩, ⟨(some 10), .bin .sub (.t 9) (.c (.lit (.int .i64 1))), none⟩, ⟨(some 7), .mov (.t 10), none⟩]) (
 .block 0 (
  .loop (L_slices_reverseRangeOrdered_int_1 N)))), false⟩

def L_slices_siftDownOrdered_int_1 (N : Nat → Nat) : AC :=
   .block 1 (
    .seq (
     .ops [⟨(some 11), .mov (.t 8), none⟩, ⟨(some 12), .bin .mul (.c (.lit (.int .i64 2))) (.t 11), none⟩, ⟨(some 13), .bin .add (.t 12) (.c (.lit (.int .i64 1))), none⟩, ⟨(some 9), .mov (.t 13), none⟩]) (
    .seq (
     .seq (
      .ops [⟨(some 14), .mov (.t 9), none⟩, ⟨(some 15), .mov (.t 2), none⟩, ⟨(some 16), .bin .geq (.t 14) (.t 15), none⟩]) (
     .cond (.t 16) (
      .exit 0) (
      .skip))) (
    .seq (
     .seq (
      .dops 3 [⟨(some 17), .mov (.t 9), none⟩, ⟨(some 18), .bin .add (.t 17) (.c (.lit (.int .i64 1))), none⟩, ⟨(some 19), .mov (.t 2), none⟩, ⟨(some 20), .bin .lss (.t 18) (.t 19), none⟩, ⟨(some 21), .mov (.t 20), none⟩, ⟨(some 22), .mov (.t 0), (some (21, true))⟩, ⟨(some 23), .mov (.t 3), (some (21, true))⟩, ⟨(some 24), .mov (.t 9), (some (21, true))⟩, ⟨(some 25), .bin .add (.t 23) (.t 24), (some (21, true))⟩, ⟨(some 26), .iaddr 1 (.t 22) (.t 25), (some (21, true))⟩, ⟨(some 27), .load none (.t 26), (some (21, true))⟩, ⟨(some 28), .mov (.t 0), (some (21, true))⟩, ⟨(some 29), .mov (.t 3), (some (21, true))⟩, ⟨(some 30), .mov (.t 9), (some (21, true))⟩, ⟨(some 31), .bin .add (.t 29) (.t 30), (some (21, true))⟩, ⟨(some 32), .bin .add (.t 31) (.c (.lit (.int .i64 1))), (some (21, true))⟩, ⟨(some 33), .iaddr 1 (.t 28) (.t 32), (some (21, true))⟩, ⟨(some 34), .load none (.t 33), (some (21, true))⟩, ⟨(some 35), .call (.c (.fn (f_cmp_Less_int N) [] [])) [(.t 27), (.t 34)], (some (21, true))⟩, ⟨(some 36), .pick (.t 21) (.t 35) (.c (.lit (.bool false))), none⟩] [0, 0, 0, 0, 0, 0, 0, 0, 0, 0, 2, 0, 0, 0, 0, 0, 0, 2, 0, 0] []) (
     .cond (.t 36) (
      .ops [⟨(some 37), .mov (.t 9), none⟩, ⟨(some 38), .bin .add (.t 37) (.c (.lit (.int .i64 1))), none⟩, ⟨(some 9), .mov (.t 38), none⟩]) (
      .skip))) (
    .seq (
     .seq (
      .dops 5 [⟨(some 39), .mov (.t 0), none⟩, ⟨(some 40), .mov (.t 3), none⟩, ⟨(some 41), .mov (.t 8), none⟩, ⟨(some 42), .bin .add (.t 40) (.t 41), none⟩, ⟨(some 43), .iaddr 1 (.t 39) (.t 42), none⟩, ⟨(some 44), .load none (.t 43), none⟩, ⟨(some 45), .mov (.t 0), none⟩, ⟨(some 46), .mov (.t 3), none⟩, ⟨(some 47), .mov (.t 9), none⟩, ⟨(some 48), .bin .add (.t 46) (.t 47), none⟩, ⟨(some 49), .iaddr 1 (.t 45) (.t 48), none⟩, ⟨(some 50), .load none (.t 49), none⟩, ⟨(some 51), .call (.c (.fn (f_cmp_Less_int N) [] [])) [(.t 44), (.t 50)], none⟩, ⟨(some 52), .un .not (.t 51), none⟩] [0, 0, 0, 0, 0, 2, 0, 0, 0, 0, 0, 2, 0, 0] []) (
     .cond (.t 52) (
      .ret) (
      .skip))) (
    .seq (
     .dops 6 [⟨(some 53), .mov (.t 0), none⟩, ⟨(some 54), .mov (.t 3), none⟩, ⟨(some 55), .mov (.t 8), none⟩, ⟨(some 56), .bin .add (.t 54) (.t 55), none⟩, ⟨(some 57), .mov (.t 0), none⟩, ⟨(some 58), .mov (.t 3), none⟩, ⟨(some 59), .mov (.t 9), none⟩, ⟨(some 60), .bin .add (.t 58) (.t 59), none⟩, ⟨(some 61), .mov (.t 0), none⟩, ⟨(some 62), .mov (.t 3), none⟩, ⟨(some 63), .mov (.t 9), none⟩, ⟨(some 64), .bin .add (.t 62) (.t 63), none⟩, ⟨(some 65), .iaddr 1 (.t 61) (.t 64), none⟩, ⟨(some 66), .load none (.t 65), none⟩, ⟨(some 67), .mov (.t 0), none⟩, ⟨(some 68), .mov (.t 3), none⟩, ⟨(some 69), .mov (.t 8), none⟩, ⟨(some 70), .bin .add (.t 68) (.t 69), none⟩, ⟨(some 71), .iaddr 1 (.t 67) (.t 70), none⟩, ⟨(some 72), .load none (.t 71), none⟩, ⟨(some 73), .iaddr 1 (.t 53) (.t 56), none⟩, ⟨none, .store 1 (.t 73) (.t 66), none⟩, ⟨(some 74), .iaddr 1 (.t 57) (.t 60), none⟩, ⟨none, .store 1 (.t 74) (.t 72), none⟩] [0, 0, 0, 0, 0, 0, 0, 0, 0, 0, 0, 0, 0, 2, 0, 0, 0, 0, 0, 2, 0, 0, 0, 0] []) (
    .ops [⟨(some 75), .mov (.t 9), none⟩, ⟨(some 8), .mov (.t 75), none⟩]))))))
/-- slices.siftDownOrdered[int] -/
def C_slices_siftDownOrdered_int (N : Nat → Nat) : AFunc := ⟨76, [],
 .seq (
  .ops [⟨(some 10), .mov (.t 1), none⟩, ⟨(some 8), .mov (.t 10), none⟩]) (
 .block 0 (
  .loop (L_slices_siftDownOrdered_int_1 N))), false⟩
end Go.Proofs.Eng
/- Templates of functions, as the engine takes them; numbers of functions and types by names. Printed by tm.py. -/
set_option linter.unusedVariables false
set_option maxRecDepth 100000
namespace Go.Proofs.Eng
open Go

/-- slices.Collect[string] -/
def C_slices_Collect_string (N : Nat → Nat) : AFunc := ⟨5, [.inl 2],
 .seq (
  .ops [⟨(some 2), .mov (.c (.lit (.slice none 0 0))), none⟩]) (
 .seq (
  .ops [⟨(some 3), .mov (.t 0), none⟩, ⟨(some 4), .call (.c (.fn (f_slices_AppendSeq_sl_string_string N) [] [])) [(.c (.lit (.slice none 0 0))), (.t 3)], none⟩, ⟨(some 2), .mov (.t 4), none⟩]) (
 .ret)), false⟩

def L_slices_Compact_sl_string_string_2 (N : Nat → Nat) : AC :=
          .seq (
           .seq (
            .ops [⟨(some 29), .mov (.t 5), none⟩, ⟨(some 30), .mov (.t 4), none⟩, ⟨(some 31), .len (.t 30), none⟩, ⟨(some 32), .bin .lss (.t 29) (.t 31), none⟩]) (
           .cond (.t 32) (
            .skip) (
            .exit 2))) (
          .seq (
           .block 3 (
            .seq (
             .dops 11 [⟨(some 35), .mov (.t 4), none⟩, ⟨(some 36), .mov (.t 5), none⟩, ⟨(some 37), .iaddr 1 (.t 35) (.t 36), none⟩, ⟨(some 38), .load none (.t 37), none⟩, ⟨(some 39), .mov (.t 4), none⟩, ⟨(some 40), .mov (.t 5), none⟩, ⟨(some 41), .bin .sub (.t 40) (.c (.lit (.int .i64 1))), none⟩, ⟨(some 42), .iaddr 1 (.t 39) (.t 41), none⟩, ⟨(some 43), .load none (.t 42), none⟩, ⟨(some 44), .eq true .pstr (.t 38) (.t 43), none⟩] [0, 0, 0, 2, 0, 0, 0, 0, 2, 0] []) (
            .cond (.t 44) (
             .seq (
              .ops [⟨(some 45), .mov (.t 0), none⟩, ⟨(some 46), .mov (.t 3), none⟩, ⟨(some 47), .mov (.t 4), none⟩, ⟨(some 48), .mov (.t 5), none⟩, ⟨(some 49), .iaddr 1 (.t 47) (.t 48), none⟩, ⟨(some 50), .load none (.t 49), none⟩, ⟨(some 51), .iaddr 1 (.t 45) (.t 46), none⟩, ⟨none, .store 1 (.t 51) (.t 50), none⟩]) (
             .ops [⟨(some 52), .mov (.t 3), none⟩, ⟨(some 53), .bin .add (.t 52) (.c (.lit (.int .i64 1))), none⟩, ⟨(some 3), .mov (.t 53), none⟩])) (
             .skip)))) (
          .ops [⟨(some 33), .mov (.t 5), none⟩, ⟨(some 34), .bin .add (.t 33) (.c (.lit (.int .i64 1))), none⟩, ⟨(some 5), .mov (.t 34), none⟩]))
def K_slices_Compact_sl_string_string_1 (N : Nat → Nat) : AC :=
 .seq (
  .ops [⟨(some 54), .mov (.t 0), none⟩, ⟨(some 55), .mov (.t 3), none⟩, ⟨(some 56), .slice 1 (.t 54) (some (.t 55)) none, none⟩, ⟨none, .mnmx false [], none⟩]) (
 .seq (
  .ops [⟨(some 57), .mov (.t 0), none⟩, ⟨(some 58), .mov (.t 3), none⟩, ⟨(some 59), .slice 1 (.t 57) none (some (.t 58)), none⟩, ⟨(some 2), .mov (.t 59), none⟩]) (
 .ret))
def K_slices_Compact_sl_string_string_2 (N : Nat → Nat) : AC :=
 .ops [⟨(some 14), .mov (.t 3), none⟩, ⟨(some 15), .bin .add (.t 14) (.c (.lit (.int .i64 1))), none⟩, ⟨(some 3), .mov (.t 15), none⟩]
def L_slices_Compact_sl_string_string_1 (N : Nat → Nat) : AC :=
    .seq (
     .seq (
      .ops [⟨(some 10), .mov (.t 3), none⟩, ⟨(some 11), .mov (.t 0), none⟩, ⟨(some 12), .len (.t 11), none⟩, ⟨(some 13), .bin .lss (.t 10) (.t 12), none⟩]) (
     .cond (.t 13) (
      .skip) (
      .exit 0))) (
    .seq (
     .block 1 (
      .seq (
       .dops 6 [⟨(some 16), .mov (.t 0), none⟩, ⟨(some 17), .mov (.t 3), none⟩, ⟨(some 18), .iaddr 1 (.t 16) (.t 17), none⟩, ⟨(some 19), .load none (.t 18), none⟩, ⟨(some 20), .mov (.t 0), none⟩, ⟨(some 21), .mov (.t 3), none⟩, ⟨(some 22), .bin .sub (.t 21) (.c (.lit (.int .i64 1))), none⟩, ⟨(some 23), .iaddr 1 (.t 20) (.t 22), none⟩, ⟨(some 24), .load none (.t 23), none⟩, ⟨(some 25), .eq false .pstr (.t 19) (.t 24), none⟩] [0, 0, 0, 2, 0, 0, 0, 0, 2, 0] []) (
      .cond (.t 25) (
       .seq (
        .ops [⟨(some 26), .mov (.t 0), none⟩, ⟨(some 27), .mov (.t 3), none⟩, ⟨(some 28), .slice 1 (.t 26) (some (.t 27)) none, none⟩, ⟨(some 4), .mov (.t 28), none⟩]) (
       .seq (
        .seq (
         .ops [⟨(some 5), .mov (.c (.lit (.int .i64 1))), none⟩]) (
        .block 2 (
         .loop (L_slices_Compact_sl_string_string_2 N)))) (K_slices_Compact_sl_string_string_1 N))) (
       .skip)))) (K_slices_Compact_sl_string_string_2 N))
def K_slices_Compact_sl_string_string_3 (N : Nat → Nat) : AC :=
 .seq (
  .ops [⟨(some 60), .mov (.t 0), none⟩, ⟨(some 2), .mov (.t 60), none⟩]) (
 .ret)
/-- slices.Compact[[]string,string] -/
def C_slices_Compact_sl_string_string (N : Nat → Nat) : AFunc := ⟨61, [.inl 2],
 .seq (
  .ops [⟨(some 2), .mov (.c (.lit (.slice none 0 0))), none⟩]) (
 .seq (
  .seq (
   .ops [⟨(some 6), .mov (.t 0), none⟩, ⟨(some 7), .len (.t 6), none⟩, ⟨(some 8), .bin .lss (.t 7) (.c (.lit (.int .i64 2))), none⟩]) (
  .cond (.t 8) (
   .seq (
    .ops [⟨(some 9), .mov (.t 0), none⟩, ⟨(some 2), .mov (.t 9), none⟩]) (
   .ret)) (
   .skip))) (
 .seq (
  .seq (
   .ops [⟨(some 3), .mov (.c (.lit (.int .i64 1))), none⟩]) (
  .block 0 (
   .loop (L_slices_Compact_sl_string_string_1 N)))) (K_slices_Compact_sl_string_string_3 N))), false⟩

def L_slices_DeleteFunc_sl_string_string_1 (N : Nat → Nat) : AC :=
    .seq (
     .seq (
      .ops [⟨(some 16), .mov (.t 6), none⟩, ⟨(some 17), .mov (.t 0), none⟩, ⟨(some 18), .len (.t 17), none⟩, ⟨(some 19), .bin .lss (.t 16) (.t 18), none⟩]) (
     .cond (.t 19) (
      .skip) (
      .exit 0))) (
    .seq (
     .block 1 (
      .seq (
       .ops [⟨(some 22), .mov (.t 0), none⟩, ⟨(some 23), .mov (.t 6), none⟩, ⟨(some 24), .iaddr 1 (.t 22) (.t 23), none⟩, ⟨(some 25), .load none (.t 24), none⟩, ⟨(some 7), .mov (.t 25), none⟩]) (
      .seq (
       .ops [⟨(some 26), .mov (.t 1), none⟩, ⟨(some 27), .mov (.t 7), none⟩, ⟨(some 28), .call (.t 26) [(.t 27)], none⟩, ⟨(some 29), .un .not (.t 28), none⟩]) (
      .cond (.t 29) (
       .seq (
        .ops [⟨(some 30), .mov (.t 0), none⟩, ⟨(some 31), .mov (.t 5), none⟩, ⟨(some 32), .mov (.t 7), none⟩, ⟨(some 33), .iaddr 1 (.t 30) (.t 31), none⟩, ⟨none, .store 1 (.t 33) (.t 32), none⟩]) (
       .ops [⟨(some 34), .mov (.t 5), none⟩, ⟨(some 35), .bin .add (.t 34) (.c (.lit (.int .i64 1))), none⟩, ⟨(some 5), .mov (.t 35), none⟩])) (
       .skip))))) (
    .ops [⟨(some 20), .mov (.t 6), none⟩, ⟨(some 21), .bin .add (.t 20) (.c (.lit (.int .i64 1))), none⟩, ⟨(some 6), .mov (.t 21), none⟩]))
def K_slices_DeleteFunc_sl_string_string_1 (N : Nat → Nat) : AC :=
 .seq (
  .ops [⟨(some 36), .mov (.t 0), none⟩, ⟨(some 37), .mov (.t 5), none⟩, ⟨(some 38), .slice 1 (.t 36) (some (.t 37)) none, none⟩, ⟨none, .mnmx false [], none⟩]) (
 .seq (
  .ops [⟨(some 39), .mov (.t 0), none⟩, ⟨(some 40), .mov (.t 5), none⟩, ⟨(some 41), .slice 1 (.t 39) none (some (.t 40)), none⟩, ⟨(some 4), .mov (.t 41), none⟩]) (
 .ret))
/-- slices.DeleteFunc[[]string,string] -/
def C_slices_DeleteFunc_sl_string_string (N : Nat → Nat) : AFunc := ⟨42, [.inl 4],
 .seq (
  .ops [⟨(some 4), .mov (.c (.lit (.slice none 0 0))), none⟩]) (
 .seq (
  .ops [⟨(some 8), .mov (.t 0), none⟩, ⟨(some 9), .mov (.t 1), none⟩, ⟨(some 10), .call (.c (.fn (f_slices_IndexFunc_sl_string_string N) [] [])) [(.t 8), (.t 9)], none⟩, ⟨(some 5), .mov (.t 10), none⟩]) (
 .seq (
  .seq (
   .ops [⟨(some 11), .mov (.t 5), none⟩, ⟨(some 12), .eq false .pint (.t 11) (.c (.lit (.int .i64 (-1)))), none⟩]) (
  .cond (.t 12) (
   .seq (
    .ops [⟨(some 13), .mov (.t 0), none⟩, ⟨(some 4), .mov (.t 13), none⟩]) (
   .ret)) (
   .skip))) (
 .seq (
  .seq (
   .ops [⟨(some 14), .mov (.t 5), none⟩, ⟨(some 15), .bin .add (.t 14) (.c (.lit (.int .i64 1))), none⟩, ⟨(some 6), .mov (.t 15), none⟩]) (
  .block 0 (
   .loop (L_slices_DeleteFunc_sl_string_string_1 N)))) (K_slices_DeleteFunc_sl_string_string_1 N)))), false⟩

/-- slices.Sort[[]string,string] -/
def C_slices_Sort_sl_string_string (N : Nat → Nat) : AFunc := ⟨11, [],
 .seq (
  .ops [⟨(some 3), .mov (.t 0), none⟩, ⟨(some 4), .len (.t 3), none⟩, ⟨(some 2), .mov (.t 4), none⟩]) (
 .ops [⟨(some 5), .mov (.t 0), none⟩, ⟨(some 6), .mov (.t 2), none⟩, ⟨(some 7), .mov (.t 2), none⟩, ⟨(some 8), .conv (.toInt .u64) (.t 7), none⟩, ⟨(some 9), .call (.c (.fn (f_math_bits_Len N) [] [])) [(.t 8)], none⟩, ⟨(some 10), .call (.c (.fn (f_slices_pdqsortOrdered_string N) [] [])) [(.t 5), (.c (.lit (.int .i64 0))), (.t 6), (.t 9)], none⟩]), false⟩

/-- slices.Sorted[string] -/
def C_slices_Sorted_string (N : Nat → Nat) : AFunc := ⟨9, [.inl 2],
 .seq (
  .ops [⟨(some 2), .mov (.c (.lit (.slice none 0 0))), none⟩]) (
 .seq (
  .ops [⟨(some 4), .mov (.t 0), none⟩, ⟨(some 5), .call (.c (.fn (f_slices_Collect_string N) [] [])) [(.t 4)], none⟩, ⟨(some 3), .mov (.t 5), none⟩]) (
 .seq (
  .ops [⟨(some 6), .mov (.t 3), none⟩, ⟨(some 7), .call (.c (.fn (f_slices_Sort_sl_string_string N) [] [])) [(.t 6)], none⟩]) (
 .seq (
  .ops [⟨(some 8), .mov (.t 3), none⟩, ⟨(some 2), .mov (.t 8), none⟩]) (
 .ret)))), false⟩

def L_slices_breakPatternsOrdered_string_1 (N : Nat → Nat) : AC :=
    .seq (
     .seq (
      .ops [⟨(some 26), .mov (.t 9), none⟩, ⟨(some 27), .mov (.t 1), none⟩, ⟨(some 28), .mov (.t 6), none⟩, ⟨(some 29), .bin .quo (.t 28) (.c (.lit (.int .i64 4))), none⟩, ⟨(some 30), .bin .mul (.t 29) (.c (.lit (.int .i64 2))), none⟩, ⟨(some 31), .bin .add (.t 27) (.t 30), none⟩, ⟨(some 32), .bin .add (.t 31) (.c (.lit (.int .i64 1))), none⟩, ⟨(some 33), .bin .leq (.t 26) (.t 32), none⟩]) (
     .cond (.t 33) (
      .skip) (
      .exit 0))) (
    .seq (
     .block 1 (
      .seq (
       .ops [⟨(some 36), .call (.c (.fn (f_p_slices_xorshift_Next N) [] [])) [(.t 7)], none⟩, ⟨(some 37), .mov (.t 8), none⟩, ⟨(some 38), .bin .sub (.t 37) (.c (.lit (.int .u64 1))), none⟩, ⟨(some 39), .bin .and (.t 36) (.t 38), none⟩, ⟨(some 40), .conv (.toInt .i64) (.t 39), none⟩, ⟨(some 10), .mov (.t 40), none⟩]) (
      .seq (
       .seq (
        .ops [⟨(some 41), .mov (.t 10), none⟩, ⟨(some 42), .mov (.t 6), none⟩, ⟨(some 43), .bin .geq (.t 41) (.t 42), none⟩]) (
       .cond (.t 43) (
        .ops [⟨(some 44), .mov (.t 10), none⟩, ⟨(some 45), .mov (.t 6), none⟩, ⟨(some 46), .bin .sub (.t 44) (.t 45), none⟩, ⟨(some 10), .mov (.t 46), none⟩]) (
        .skip))) (
      .dops 10 [⟨(some 47), .mov (.t 0), none⟩, ⟨(some 48), .mov (.t 9), none⟩, ⟨(some 49), .mov (.t 0), none⟩, ⟨(some 50), .mov (.t 1), none⟩, ⟨(some 51), .mov (.t 10), none⟩, ⟨(some 52), .bin .add (.t 50) (.t 51), none⟩, ⟨(some 53), .mov (.t 0), none⟩, ⟨(some 54), .mov (.t 1), none⟩, ⟨(some 55), .mov (.t 10), none⟩, ⟨(some 56), .bin .add (.t 54) (.t 55), none⟩, ⟨(some 57), .iaddr 1 (.t 53) (.t 56), none⟩, ⟨(some 58), .load none (.t 57), none⟩, ⟨(some 59), .mov (.t 0), none⟩, ⟨(some 60), .mov (.t 9), none⟩, ⟨(some 61), .iaddr 1 (.t 59) (.t 60), none⟩, ⟨(some 62), .load none (.t 61), none⟩, ⟨(some 63), .iaddr 1 (.t 47) (.t 48), none⟩, ⟨none, .store 1 (.t 63) (.t 58), none⟩, ⟨(some 64), .iaddr 1 (.t 49) (.t 52), none⟩, ⟨none, .store 1 (.t 64) (.t 62), none⟩] [0, 0, 0, 0, 0, 0, 0, 0, 0, 0, 0, 2, 0, 0, 0, 2, 0, 0, 0, 0] [])))) (
    .ops [⟨(some 34), .mov (.t 9), none⟩, ⟨(some 35), .bin .add (.t 34) (.c (.lit (.int .i64 1))), none⟩, ⟨(some 9), .mov (.t 35), none⟩]))
/-- slices.breakPatternsOrdered[string] -/
def C_slices_breakPatternsOrdered_string (N : Nat → Nat) : AFunc := ⟨65, [],
 .seq (
  .ops [⟨(some 11), .mov (.t 2), none⟩, ⟨(some 12), .mov (.t 1), none⟩, ⟨(some 13), .bin .sub (.t 11) (.t 12), none⟩, ⟨(some 6), .mov (.t 13), none⟩]) (
 .seq (
  .ops [⟨(some 14), .mov (.t 6), none⟩, ⟨(some 15), .bin .geq (.t 14) (.c (.lit (.int .i64 8))), none⟩]) (
 .cond (.t 15) (
  .seq (
   .ops [⟨(some 16), .mov (.t 6), none⟩, ⟨(some 17), .conv (.toInt .u64) (.t 16), none⟩, ⟨(some 7), .new (t_slices_xorshift N) (.lit (.int .u64 0)), none⟩, ⟨none, .store 1 (.t 7) (.t 17), none⟩]) (
  .seq (
   .ops [⟨(some 18), .mov (.t 6), none⟩, ⟨(some 19), .call (.c (.fn (f_slices_nextPowerOfTwo N) [] [])) [(.t 18)], none⟩, ⟨(some 8), .mov (.t 19), none⟩]) (
  .seq (
   .ops [⟨(some 20), .mov (.t 1), none⟩, ⟨(some 21), .mov (.t 6), none⟩, ⟨(some 22), .bin .quo (.t 21) (.c (.lit (.int .i64 4))), none⟩, ⟨(some 23), .bin .mul (.t 22) (.c (.lit (.int .i64 2))), none⟩, ⟨(some 24), .bin .add (.t 20) (.t 23), none⟩, ⟨(some 25), .bin .sub (.t 24) (.c (.lit (.int .i64 1))), none⟩, ⟨(some 9), .mov (.t 25), none⟩]) (
  .block 0 (
   .loop (L_slices_breakPatternsOrdered_string_1 N)))))) (
  .skip))), false⟩

/-- slices.choosePivotOrdered[string] -/
def C_slices_choosePivotOrdered_string (N : Nat → Nat) : AFunc := ⟨57, [.inl 6, .inl 7],
 .seq (
  .ops [⟨(some 6), .mov (.c (.lit (.int .i64 0))), none⟩, ⟨(some 7), .mov (.c (.lit (.int .i64 0))), none⟩]) (
 .seq (
  .ops [⟨(some 13), .mov (.t 2), none⟩, ⟨(some 14), .mov (.t 1), none⟩, ⟨(some 15), .bin .sub (.t 13) (.t 14), none⟩, ⟨(some 8), .mov (.t 15), none⟩]) (
 .seq (
  .ops [⟨(some 9), .new (t_int N) (.lit (.int .i64 0)), none⟩]) (
 .seq (
  .ops [⟨(some 16), .mov (.t 1), none⟩, ⟨(some 17), .mov (.t 8), none⟩, ⟨(some 18), .bin .quo (.t 17) (.c (.lit (.int .i64 4))), none⟩, ⟨(some 19), .bin .mul (.t 18) (.c (.lit (.int .i64 1))), none⟩, ⟨(some 20), .bin .add (.t 16) (.t 19), none⟩, ⟨(some 10), .mov (.t 20), none⟩]) (
 .seq (
  .ops [⟨(some 21), .mov (.t 1), none⟩, ⟨(some 22), .mov (.t 8), none⟩, ⟨(some 23), .bin .quo (.t 22) (.c (.lit (.int .i64 4))), none⟩, ⟨(some 24), .bin .mul (.t 23) (.c (.lit (.int .i64 2))), none⟩, ⟨(some 25), .bin .add (.t 21) (.t 24), none⟩, ⟨(some 11), .mov (.t 25), none⟩]) (
 .seq (
  .ops [⟨(some 26), .mov (.t 1), none⟩, ⟨(some 27), .mov (.t 8), none⟩, ⟨(some 28), .bin .quo (.t 27) (.c (.lit (.int .i64 4))), none⟩, ⟨(some 29), .bin .mul (.t 28) (.c (.lit (.int .i64 3))), none⟩, ⟨(some 30), .bin .add (.t 26) (.t 29), none⟩, ⟨(some 12), .mov (.t 30), none⟩]) (
 .seq (
  .seq (
   .ops [⟨(some 31), .mov (.t 8), none⟩, ⟨(some 32), .bin .geq (.t 31) (.c (.lit (.int .i64 8))), none⟩]) (
  .cond (.t 32) (
   .seq (
    .seq (
     .ops [⟨(some 33), .mov (.t 8), none⟩, ⟨(some 34), .bin .geq (.t 33) (.c (.lit (.int .i64 50))), none⟩]) (
    .cond (.t 34) (
     .seq (
      .ops [⟨(some 35), .mov (.t 0), none⟩, ⟨(some 36), .mov (.t 10), none⟩, ⟨(some 37), .call (.c (.fn (f_slices_medianAdjacentOrdered_string N) [] [])) [(.t 35), (.t 36), (.t 9)], none⟩, ⟨(some 10), .mov (.t 37), none⟩]) (
     .seq (
      .ops [⟨(some 38), .mov (.t 0), none⟩, ⟨(some 39), .mov (.t 11), none⟩, ⟨(some 40), .call (.c (.fn (f_slices_medianAdjacentOrdered_string N) [] [])) [(.t 38), (.t 39), (.t 9)], none⟩, ⟨(some 11), .mov (.t 40), none⟩]) (
     .ops [⟨(some 41), .mov (.t 0), none⟩, ⟨(some 42), .mov (.t 12), none⟩, ⟨(some 43), .call (.c (.fn (f_slices_medianAdjacentOrdered_string N) [] [])) [(.t 41), (.t 42), (.t 9)], none⟩, ⟨(some 12), .mov (.t 43), none⟩]))) (
     .skip))) (
   .ops [⟨(some 44), .mov (.t 0), none⟩, ⟨(some 45), .mov (.t 10), none⟩, ⟨(some 46), .mov (.t 11), none⟩, ⟨(some 47), .mov (.t 12), none⟩, ⟨(some 48), .call (.c (.fn (f_slices_medianOrdered_string N) [] [])) [(.t 44), (.t 45), (.t 46), (.t 47), (.t 9)], none⟩, ⟨(some 11), .mov (.t 48), none⟩])) (
   .skip))) (
 .seq (
  .ops [⟨(some 49), .load none (.t 9), none⟩]) (
 .block 0 (
  .seq (
   .ops [⟨(some 52), .eq false .pint (.t 49) (.c (.lit (.int .i64 0))), none⟩, ⟨(some 51), .mov (.t 52), none⟩]) (
  .cond (.t 51) (
   .seq (
    .ops [⟨(some 53), .mov (.t 11), none⟩, ⟨(some 6), .mov (.t 53), none⟩, ⟨(some 7), .mov (.c (.lit (.int .i64 1))), none⟩]) (
   .ret)) (
   .seq (
    .ops [⟨(some 55), .eq false .pint (.t 49) (.c (.lit (.int .i64 12))), none⟩, ⟨(some 54), .mov (.t 55), none⟩]) (
   .cond (.t 54) (
    .seq (
     .ops [⟨(some 56), .mov (.t 11), none⟩, ⟨(some 6), .mov (.t 56), none⟩, ⟨(some 7), .mov (.c (.lit (.int .i64 2))), none⟩]) (
    .ret)) (
    .seq (
     .ops [⟨(some 50), .mov (.t 11), none⟩, ⟨(some 6), .mov (.t 50), none⟩, ⟨(some 7), .mov (.c (.lit (.int .i64 0))), none⟩]) (
    .ret)))))))))))))), false⟩

def L_slices_heapSortOrdered_string_1 (N : Nat → Nat) : AC :=
    .seq (
     .seq (
      .ops [⟨(some 18), .mov (.t 9), none⟩, ⟨(some 19), .bin .geq (.t 18) (.c (.lit (.int .i64 0))), none⟩]) (
     .cond (.t 19) (
      .skip) (
      .exit 0))) (
    .seq (
     .block 1 (
      .ops [⟨(some 22), .mov (.t 0), none⟩, ⟨(some 23), .mov (.t 9), none⟩, ⟨(some 24), .mov (.t 8), none⟩, ⟨(some 25), .mov (.t 6), none⟩, ⟨(some 26), .call (.c (.fn (f_slices_siftDownOrdered_string N) [] [])) [(.t 22), (.t 23), (.t 24), (.t 25)], none⟩])) (
    .ops [⟨(some 20), .mov (.t 9), none⟩, ⟨(some 21), .bin .sub (.t 20) (.c (.lit (.int .i64 1))), none⟩, ⟨(some 9), .mov (.t 21), none⟩]))
def L_slices_heapSortOrdered_string_2 (N : Nat → Nat) : AC :=
   .seq (
    .seq (
     .ops [⟨(some 29), .mov (.t 10), none⟩, ⟨(some 30), .bin .geq (.t 29) (.c (.lit (.int .i64 0))), none⟩]) (
    .cond (.t 30) (
     .skip) (
     .exit 2))) (
   .seq (
    .block 3 (
     .seq (
      .dops 10 [⟨(some 33), .mov (.t 0), none⟩, ⟨(some 34), .mov (.t 6), none⟩, ⟨(some 35), .mov (.t 0), none⟩, ⟨(some 36), .mov (.t 6), none⟩, ⟨(some 37), .mov (.t 10), none⟩, ⟨(some 38), .bin .add (.t 36) (.t 37), none⟩, ⟨(some 39), .mov (.t 0), none⟩, ⟨(some 40), .mov (.t 6), none⟩, ⟨(some 41), .mov (.t 10), none⟩, ⟨(some 42), .bin .add (.t 40) (.t 41), none⟩, ⟨(some 43), .iaddr 1 (.t 39) (.t 42), none⟩, ⟨(some 44), .load none (.t 43), none⟩, ⟨(some 45), .mov (.t 0), none⟩, ⟨(some 46), .mov (.t 6), none⟩, ⟨(some 47), .iaddr 1 (.t 45) (.t 46), none⟩, ⟨(some 48), .load none (.t 47), none⟩, ⟨(some 49), .iaddr 1 (.t 33) (.t 34), none⟩, ⟨none, .store 1 (.t 49) (.t 44), none⟩, ⟨(some 50), .iaddr 1 (.t 35) (.t 38), none⟩, ⟨none, .store 1 (.t 50) (.t 48), none⟩] [0, 0, 0, 0, 0, 0, 0, 0, 0, 0, 0, 2, 0, 0, 0, 2, 0, 0, 0, 0] []) (
     .ops [⟨(some 51), .mov (.t 0), none⟩, ⟨(some 52), .mov (.t 7), none⟩, ⟨(some 53), .mov (.t 10), none⟩, ⟨(some 54), .mov (.t 6), none⟩, ⟨(some 55), .call (.c (.fn (f_slices_siftDownOrdered_string N) [] [])) [(.t 51), (.t 52), (.t 53), (.t 54)], none⟩]))) (
   .ops [⟨(some 31), .mov (.t 10), none⟩, ⟨(some 32), .bin .sub (.t 31) (.c (.lit (.int .i64 1))), none⟩, ⟨(some 10), .mov (.t 32), none⟩]))
def K_slices_heapSortOrdered_string_1 (N : Nat → Nat) : AC :=
 .seq (
  .ops [⟨(some 27), .mov (.t 8), none⟩, ⟨(some 28), .bin .sub (.t 27) (.c (.lit (.int .i64 1))), none⟩, ⟨(some 10), .mov (.t 28), none⟩]) (
 .block 2 (
  .loop (L_slices_heapSortOrdered_string_2 N)))
/-- slices.heapSortOrdered[string] -/
def C_slices_heapSortOrdered_string (N : Nat → Nat) : AFunc := ⟨56, [],
 .seq (
  .ops [⟨(some 11), .mov (.t 1), none⟩, ⟨(some 6), .mov (.t 11), none⟩]) (
 .seq (
  .ops [⟨(some 7), .mov (.c (.lit (.int .i64 0))), none⟩]) (
 .seq (
  .ops [⟨(some 12), .mov (.t 2), none⟩, ⟨(some 13), .mov (.t 1), none⟩, ⟨(some 14), .bin .sub (.t 12) (.t 13), none⟩, ⟨(some 8), .mov (.t 14), none⟩]) (
 .seq (
  .seq (
   .ops [⟨(some 15), .mov (.t 8), none⟩, ⟨(some 16), .bin .sub (.t 15) (.c (.lit (.int .i64 1))), none⟩, ⟨(some 17), .bin .quo (.t 16) (.c (.lit (.int .i64 2))), none⟩, ⟨(some 9), .mov (.t 17), none⟩]) (
  .block 0 (
   .loop (L_slices_heapSortOrdered_string_1 N)))) (K_slices_heapSortOrdered_string_1 N)))), false⟩

def L_slices_insertionSortOrdered_string_2 (N : Nat → Nat) : AC :=
       .seq (
        .seq (
         .dops 4 [⟨(some 16), .mov (.t 7), none⟩, ⟨(some 17), .mov (.t 1), none⟩, ⟨(some 18), .bin .gtr (.t 16) (.t 17), none⟩, ⟨(some 19), .mov (.t 18), none⟩, ⟨(some 20), .mov (.t 0), (some (19, true))⟩, ⟨(some 21), .mov (.t 7), (some (19, true))⟩, ⟨(some 22), .iaddr 1 (.t 20) (.t 21), (some (19, true))⟩, ⟨(some 23), .load none (.t 22), (some (19, true))⟩, ⟨(some 24), .mov (.t 0), (some (19, true))⟩, ⟨(some 25), .mov (.t 7), (some (19, true))⟩, ⟨(some 26), .bin .sub (.t 25) (.c (.lit (.int .i64 1))), (some (19, true))⟩, ⟨(some 27), .iaddr 1 (.t 24) (.t 26), (some (19, true))⟩, ⟨(some 28), .load none (.t 27), (some (19, true))⟩, ⟨(some 29), .call (.c (.fn (f_cmp_Less_string N) [] [])) [(.t 23), (.t 28)], (some (19, true))⟩, ⟨(some 30), .pick (.t 19) (.t 29) (.c (.lit (.bool false))), none⟩] [0, 0, 0, 0, 0, 0, 0, 2, 0, 0, 0, 0, 2, 0, 0] []) (
        .cond (.t 30) (
         .skip) (
         .exit 2))) (
       .seq (
        .block 3 (
         .dops 6 [⟨(some 33), .mov (.t 0), none⟩, ⟨(some 34), .mov (.t 7), none⟩, ⟨(some 35), .mov (.t 0), none⟩, ⟨(some 36), .mov (.t 7), none⟩, ⟨(some 37), .bin .sub (.t 36) (.c (.lit (.int .i64 1))), none⟩, ⟨(some 38), .mov (.t 0), none⟩, ⟨(some 39), .mov (.t 7), none⟩, ⟨(some 40), .bin .sub (.t 39) (.c (.lit (.int .i64 1))), none⟩, ⟨(some 41), .iaddr 1 (.t 38) (.t 40), none⟩, ⟨(some 42), .load none (.t 41), none⟩, ⟨(some 43), .mov (.t 0), none⟩, ⟨(some 44), .mov (.t 7), none⟩, ⟨(some 45), .iaddr 1 (.t 43) (.t 44), none⟩, ⟨(some 46), .load none (.t 45), none⟩, ⟨(some 47), .iaddr 1 (.t 33) (.t 34), none⟩, ⟨none, .store 1 (.t 47) (.t 42), none⟩, ⟨(some 48), .iaddr 1 (.t 35) (.t 37), none⟩, ⟨none, .store 1 (.t 48) (.t 46), none⟩] [0, 0, 0, 0, 0, 0, 0, 0, 0, 2, 0, 0, 0, 2, 0, 0, 0, 0] [])) (
       .ops [⟨(some 31), .mov (.t 7), none⟩, ⟨(some 32), .bin .sub (.t 31) (.c (.lit (.int .i64 1))), none⟩, ⟨(some 7), .mov (.t 32), none⟩]))
def K_slices_insertionSortOrdered_string_1 (N : Nat → Nat) : AC :=
 .ops [⟨(some 13), .mov (.t 6), none⟩, ⟨(some 14), .bin .add (.t 13) (.c (.lit (.int .i64 1))), none⟩, ⟨(some 6), .mov (.t 14), none⟩]
def L_slices_insertionSortOrdered_string_1 (N : Nat → Nat) : AC :=
   .seq (
    .seq (
     .ops [⟨(some 10), .mov (.t 6), none⟩, ⟨(some 11), .mov (.t 2), none⟩, ⟨(some 12), .bin .lss (.t 10) (.t 11), none⟩]) (
    .cond (.t 12) (
     .skip) (
     .exit 0))) (
   .seq (
    .block 1 (
     .seq (
      .ops [⟨(some 15), .mov (.t 6), none⟩, ⟨(some 7), .mov (.t 15), none⟩]) (
     .block 2 (
      .loop (L_slices_insertionSortOrdered_string_2 N))))) (K_slices_insertionSortOrdered_string_1 N))
/-- slices.insertionSortOrdered[string] -/
def C_slices_insertionSortOrdered_string (N : Nat → Nat) : AFunc := ⟨49, [],
 .seq (
  .ops [⟨(some 8), .mov (.t 1), none⟩, ⟨(some 9), .bin .add (.t 8) (.c (.lit (.int .i64 1))), none⟩, ⟨(some 6), .mov (.t 9), none⟩]) (
 .block 0 (
  .loop (L_slices_insertionSortOrdered_string_1 N))), false⟩

/-- slices.medianAdjacentOrdered[string] -/
def C_slices_medianAdjacentOrdered_string (N : Nat → Nat) : AFunc := ⟨15, [.inl 6],
 .seq (
  .ops [⟨(some 6), .mov (.c (.lit (.int .i64 0))), none⟩]) (
 .seq (
  .ops [⟨(some 7), .mov (.t 0), none⟩, ⟨(some 8), .mov (.t 1), none⟩, ⟨(some 9), .bin .sub (.t 8) (.c (.lit (.int .i64 1))), none⟩, ⟨(some 10), .mov (.t 1), none⟩, ⟨(some 11), .mov (.t 1), none⟩, ⟨(some 12), .bin .add (.t 11) (.c (.lit (.int .i64 1))), none⟩, ⟨(some 13), .mov (.t 2), none⟩, ⟨(some 14), .call (.c (.fn (f_slices_medianOrdered_string N) [] [])) [(.t 7), (.t 9), (.t 10), (.t 12), (.t 13)], none⟩, ⟨(some 6), .mov (.t 14), none⟩]) (
 .ret)), false⟩

/-- slices.medianOrdered[string] -/
def C_slices_medianOrdered_string (N : Nat → Nat) : AFunc := ⟨36, [.inl 10],
 .seq (
  .ops [⟨(some 10), .mov (.c (.lit (.int .i64 0))), none⟩]) (
 .seq (
  .ops [⟨(some 12), .mov (.t 0), none⟩, ⟨(some 13), .mov (.t 1), none⟩, ⟨(some 14), .mov (.t 2), none⟩, ⟨(some 15), .mov (.t 4), none⟩, ⟨(some 16), .call (.c (.fn (f_slices_order2Ordered_string N) [] [])) [(.t 12), (.t 13), (.t 14), (.t 15)], none⟩, ⟨(some 11), .mov (.t 16), none⟩, ⟨(some 17), .extract (.t 11) 0, none⟩, ⟨(some 18), .extract (.t 11) 1, none⟩, ⟨(some 1), .mov (.t 17), none⟩, ⟨(some 2), .mov (.t 18), none⟩]) (
 .seq (
  .ops [⟨(some 20), .mov (.t 0), none⟩, ⟨(some 21), .mov (.t 2), none⟩, ⟨(some 22), .mov (.t 3), none⟩, ⟨(some 23), .mov (.t 4), none⟩, ⟨(some 24), .call (.c (.fn (f_slices_order2Ordered_string N) [] [])) [(.t 20), (.t 21), (.t 22), (.t 23)], none⟩, ⟨(some 19), .mov (.t 24), none⟩, ⟨(some 25), .extract (.t 19) 0, none⟩, ⟨(some 26), .extract (.t 19) 1, none⟩, ⟨(some 2), .mov (.t 25), none⟩, ⟨(some 3), .mov (.t 26), none⟩]) (
 .seq (
  .ops [⟨(some 28), .mov (.t 0), none⟩, ⟨(some 29), .mov (.t 1), none⟩, ⟨(some 30), .mov (.t 2), none⟩, ⟨(some 31), .mov (.t 4), none⟩, ⟨(some 32), .call (.c (.fn (f_slices_order2Ordered_string N) [] [])) [(.t 28), (.t 29), (.t 30), (.t 31)], none⟩, ⟨(some 27), .mov (.t 32), none⟩, ⟨(some 33), .extract (.t 27) 0, none⟩, ⟨(some 34), .extract (.t 27) 1, none⟩, ⟨(some 1), .mov (.t 33), none⟩, ⟨(some 2), .mov (.t 34), none⟩]) (
 .seq (
  .ops [⟨(some 35), .mov (.t 2), none⟩, ⟨(some 10), .mov (.t 35), none⟩]) (
 .ret))))), false⟩

/-- slices.order2Ordered[string] -/
def C_slices_order2Ordered_string (N : Nat → Nat) : AFunc := ⟨28, [.inl 8, .inl 9],
 .seq (
  .ops [⟨(some 8), .mov (.c (.lit (.int .i64 0))), none⟩, ⟨(some 9), .mov (.c (.lit (.int .i64 0))), none⟩]) (
 .seq (
  .seq (
   .dops 1 [⟨(some 10), .mov (.t 0), none⟩, ⟨(some 11), .mov (.t 2), none⟩, ⟨(some 12), .iaddr 1 (.t 10) (.t 11), none⟩, ⟨(some 13), .load none (.t 12), none⟩, ⟨(some 14), .mov (.t 0), none⟩, ⟨(some 15), .mov (.t 1), none⟩, ⟨(some 16), .iaddr 1 (.t 14) (.t 15), none⟩, ⟨(some 17), .load none (.t 16), none⟩, ⟨(some 18), .call (.c (.fn (f_cmp_Less_string N) [] [])) [(.t 13), (.t 17)], none⟩] [0, 0, 0, 2, 0, 0, 0, 2, 0] []) (
  .cond (.t 18) (
   .seq (
    .ops [⟨(some 19), .mov (.t 3), none⟩, ⟨(some 20), .nilchk (.t 19), none⟩, ⟨(some 21), .load none (.t 20), none⟩, ⟨(some 22), .bin .add (.t 21) (.c (.lit (.int .i64 1))), none⟩, ⟨(some 23), .nilchk (.t 19), none⟩, ⟨none, .store 1 (.t 23) (.t 22), none⟩]) (
   .seq (
    .ops [⟨(some 24), .mov (.t 2), none⟩, ⟨(some 25), .mov (.t 1), none⟩, ⟨(some 8), .mov (.t 24), none⟩, ⟨(some 9), .mov (.t 25), none⟩]) (
   .ret))) (
   .skip))) (
 .seq (
  .ops [⟨(some 26), .mov (.t 1), none⟩, ⟨(some 27), .mov (.t 2), none⟩, ⟨(some 8), .mov (.t 26), none⟩, ⟨(some 9), .mov (.t 27), none⟩]) (
 .ret))), false⟩

def L_slices_partialInsertionSortOrdered_string_2 (N : Nat → Nat) : AC :=
         .seq (
          .seq (
           .dops 5 [⟨(some 17), .mov (.t 7), none⟩, ⟨(some 18), .mov (.t 2), none⟩, ⟨(some 19), .bin .lss (.t 17) (.t 18), none⟩, ⟨(some 20), .mov (.t 19), none⟩, ⟨(some 21), .mov (.t 0), (some (20, true))⟩, ⟨(some 22), .mov (.t 7), (some (20, true))⟩, ⟨(some 23), .iaddr 1 (.t 21) (.t 22), (some (20, true))⟩, ⟨(some 24), .load none (.t 23), (some (20, true))⟩, ⟨(some 25), .mov (.t 0), (some (20, true))⟩, ⟨(some 26), .mov (.t 7), (some (20, true))⟩, ⟨(some 27), .bin .sub (.t 26) (.c (.lit (.int .i64 1))), (some (20, true))⟩, ⟨(some 28), .iaddr 1 (.t 25) (.t 27), (some (20, true))⟩, ⟨(some 29), .load none (.t 28), (some (20, true))⟩, ⟨(some 30), .call (.c (.fn (f_cmp_Less_string N) [] [])) [(.t 24), (.t 29)], (some (20, true))⟩, ⟨(some 31), .un .not (.t 30), (some (20, true))⟩, ⟨(some 32), .pick (.t 20) (.t 31) (.c (.lit (.bool false))), none⟩] [0, 0, 0, 0, 0, 0, 0, 2, 0, 0, 0, 0, 2, 0, 0, 0] []) (
          .cond (.t 32) (
           .skip) (
           .exit 2))) (
         .block 3 (
          .ops [⟨(some 33), .mov (.t 7), none⟩, ⟨(some 34), .bin .add (.t 33) (.c (.lit (.int .i64 1))), none⟩, ⟨(some 7), .mov (.t 34), none⟩]))
def L_slices_partialInsertionSortOrdered_string_3 (N : Nat → Nat) : AC :=
     .seq (
      .seq (
       .ops [⟨(some 64), .mov (.t 9), none⟩, ⟨(some 65), .bin .geq (.t 64) (.c (.lit (.int .i64 1))), none⟩]) (
      .cond (.t 65) (
       .skip) (
       .exit 4))) (
     .seq (
      .block 5 (
       .seq (
        .seq (
         .dops 16 [⟨(some 68), .mov (.t 0), none⟩, ⟨(some 69), .mov (.t 9), none⟩, ⟨(some 70), .iaddr 1 (.t 68) (.t 69), none⟩, ⟨(some 71), .load none (.t 70), none⟩, ⟨(some 72), .mov (.t 0), none⟩, ⟨(some 73), .mov (.t 9), none⟩, ⟨(some 74), .bin .sub (.t 73) (.c (.lit (.int .i64 1))), none⟩, ⟨(some 75), .iaddr 1 (.t 72) (.t 74), none⟩, ⟨(some 76), .load none (.t 75), none⟩, ⟨(some 77), .call (.c (.fn (f_cmp_Less_string N) [] [])) [(.t 71), (.t 76)], none⟩, ⟨(some 78), .un .not (.t 77), none⟩] [0, 0, 0, 2, 0, 0, 0, 0, 2, 0, 0] []) (
        .cond (.t 78) (
         .exit 4) (
         .skip))) (
       .dops 17 [⟨(some 79), .mov (.t 0), none⟩, ⟨(some 80), .mov (.t 9), none⟩, ⟨(some 81), .mov (.t 0), none⟩, ⟨(some 82), .mov (.t 9), none⟩, ⟨(some 83), .bin .sub (.t 82) (.c (.lit (.int .i64 1))), none⟩, ⟨(some 84), .mov (.t 0), none⟩, ⟨(some 85), .mov (.t 9), none⟩, ⟨(some 86), .bin .sub (.t 85) (.c (.lit (.int .i64 1))), none⟩, ⟨(some 87), .iaddr 1 (.t 84) (.t 86), none⟩, ⟨(some 88), .load none (.t 87), none⟩, ⟨(some 89), .mov (.t 0), none⟩, ⟨(some 90), .mov (.t 9), none⟩, ⟨(some 91), .iaddr 1 (.t 89) (.t 90), none⟩, ⟨(some 92), .load none (.t 91), none⟩, ⟨(some 93), .iaddr 1 (.t 79) (.t 80), none⟩, ⟨none, .store 1 (.t 93) (.t 88), none⟩, ⟨(some 94), .iaddr 1 (.t 81) (.t 83), none⟩, ⟨none, .store 1 (.t 94) (.t 92), none⟩] [0, 0, 0, 0, 0, 0, 0, 0, 0, 2, 0, 0, 0, 2, 0, 0, 0, 0] []))) (
     .ops [⟨(some 66), .mov (.t 9), none⟩, ⟨(some 67), .bin .sub (.t 66) (.c (.lit (.int .i64 1))), none⟩, ⟨(some 9), .mov (.t 67), none⟩]))
def L_slices_partialInsertionSortOrdered_string_4 (N : Nat → Nat) : AC :=
    .seq (
     .seq (
      .ops [⟨(some 101), .mov (.t 10), none⟩, ⟨(some 102), .mov (.t 2), none⟩, ⟨(some 103), .bin .lss (.t 101) (.t 102), none⟩]) (
     .cond (.t 103) (
      .skip) (
      .exit 6))) (
    .seq (
     .block 7 (
      .seq (
       .seq (
        .dops 22 [⟨(some 106), .mov (.t 0), none⟩, ⟨(some 107), .mov (.t 10), none⟩, ⟨(some 108), .iaddr 1 (.t 106) (.t 107), none⟩, ⟨(some 109), .load none (.t 108), none⟩, ⟨(some 110), .mov (.t 0), none⟩, ⟨(some 111), .mov (.t 10), none⟩, ⟨(some 112), .bin .sub (.t 111) (.c (.lit (.int .i64 1))), none⟩, ⟨(some 113), .iaddr 1 (.t 110) (.t 112), none⟩, ⟨(some 114), .load none (.t 113), none⟩, ⟨(some 115), .call (.c (.fn (f_cmp_Less_string N) [] [])) [(.t 109), (.t 114)], none⟩, ⟨(some 116), .un .not (.t 115), none⟩] [0, 0, 0, 2, 0, 0, 0, 0, 2, 0, 0] []) (
       .cond (.t 116) (
        .exit 6) (
        .skip))) (
      .dops 23 [⟨(some 117), .mov (.t 0), none⟩, ⟨(some 118), .mov (.t 10), none⟩, ⟨(some 119), .mov (.t 0), none⟩, ⟨(some 120), .mov (.t 10), none⟩, ⟨(some 121), .bin .sub (.t 120) (.c (.lit (.int .i64 1))), none⟩, ⟨(some 122), .mov (.t 0), none⟩, ⟨(some 123), .mov (.t 10), none⟩, ⟨(some 124), .bin .sub (.t 123) (.c (.lit (.int .i64 1))), none⟩, ⟨(some 125), .iaddr 1 (.t 122) (.t 124), none⟩, ⟨(some 126), .load none (.t 125), none⟩, ⟨(some 127), .mov (.t 0), none⟩, ⟨(some 128), .mov (.t 10), none⟩, ⟨(some 129), .iaddr 1 (.t 127) (.t 128), none⟩, ⟨(some 130), .load none (.t 129), none⟩, ⟨(some 131), .iaddr 1 (.t 117) (.t 118), none⟩, ⟨none, .store 1 (.t 131) (.t 126), none⟩, ⟨(some 132), .iaddr 1 (.t 119) (.t 121), none⟩, ⟨none, .store 1 (.t 132) (.t 130), none⟩] [0, 0, 0, 0, 0, 0, 0, 0, 0, 2, 0, 0, 0, 2, 0, 0, 0, 0] []))) (
    .ops [⟨(some 104), .mov (.t 10), none⟩, ⟨(some 105), .bin .add (.t 104) (.c (.lit (.int .i64 1))), none⟩, ⟨(some 10), .mov (.t 105), none⟩]))
def K_slices_partialInsertionSortOrdered_string_2 (N : Nat → Nat) : AC :=
 .seq (
  .ops [⟨(some 95), .mov (.t 2), none⟩, ⟨(some 96), .mov (.t 7), none⟩, ⟨(some 97), .bin .sub (.t 95) (.t 96), none⟩, ⟨(some 98), .bin .geq (.t 97) (.c (.lit (.int .i64 2))), none⟩]) (
 .cond (.t 98) (
  .seq (
   .ops [⟨(some 99), .mov (.t 7), none⟩, ⟨(some 100), .bin .add (.t 99) (.c (.lit (.int .i64 1))), none⟩, ⟨(some 10), .mov (.t 100), none⟩]) (
  .block 6 (
   .loop (L_slices_partialInsertionSortOrdered_string_4 N)))) (
  .skip))
def K_slices_partialInsertionSortOrdered_string_1 (N : Nat → Nat) : AC :=
 .seq (
  .seq (
   .ops [⟨(some 35), .mov (.t 7), none⟩, ⟨(some 36), .mov (.t 2), none⟩, ⟨(some 37), .eq false .pint (.t 35) (.t 36), none⟩]) (
  .cond (.t 37) (
   .seq (
    .ops [⟨(some 6), .mov (.c (.lit (.bool true))), none⟩]) (
   .ret)) (
   .skip))) (
 .seq (
  .seq (
   .ops [⟨(some 38), .mov (.t 2), none⟩, ⟨(some 39), .mov (.t 1), none⟩, ⟨(some 40), .bin .sub (.t 38) (.t 39), none⟩, ⟨(some 41), .bin .lss (.t 40) (.c (.lit (.int .i64 50))), none⟩]) (
  .cond (.t 41) (
   .seq (
    .ops [⟨(some 6), .mov (.c (.lit (.bool false))), none⟩]) (
   .ret)) (
   .skip))) (
 .seq (
  .dops 11 [⟨(some 42), .mov (.t 0), none⟩, ⟨(some 43), .mov (.t 7), none⟩, ⟨(some 44), .mov (.t 0), none⟩, ⟨(some 45), .mov (.t 7), none⟩, ⟨(some 46), .bin .sub (.t 45) (.c (.lit (.int .i64 1))), none⟩, ⟨(some 47), .mov (.t 0), none⟩, ⟨(some 48), .mov (.t 7), none⟩, ⟨(some 49), .bin .sub (.t 48) (.c (.lit (.int .i64 1))), none⟩, ⟨(some 50), .iaddr 1 (.t 47) (.t 49), none⟩, ⟨(some 51), .load none (.t 50), none⟩, ⟨(some 52), .mov (.t 0), none⟩, ⟨(some 53), .mov (.t 7), none⟩, ⟨(some 54), .iaddr 1 (.t 52) (.t 53), none⟩, ⟨(some 55), .load none (.t 54), none⟩, ⟨(some 56), .iaddr 1 (.t 42) (.t 43), none⟩, ⟨none, .store 1 (.t 56) (.t 51), none⟩, ⟨(some 57), .iaddr 1 (.t 44) (.t 46), none⟩, ⟨none, .store 1 (.t 57) (.t 55), none⟩] [0, 0, 0, 0, 0, 0, 0, 0, 0, 2, 0, 0, 0, 2, 0, 0, 0, 0] []) (
 .seq (
  .seq (
   .ops [⟨(some 58), .mov (.t 7), none⟩, ⟨(some 59), .mov (.t 1), none⟩, ⟨(some 60), .bin .sub (.t 58) (.t 59), none⟩, ⟨(some 61), .bin .geq (.t 60) (.c (.lit (.int .i64 2))), none⟩]) (
  .cond (.t 61) (
   .seq (
    .ops [⟨(some 62), .mov (.t 7), none⟩, ⟨(some 63), .bin .sub (.t 62) (.c (.lit (.int .i64 1))), none⟩, ⟨(some 9), .mov (.t 63), none⟩]) (
   .block 4 (
    .loop (L_slices_partialInsertionSortOrdered_string_3 N)))) (
   .skip))) (K_slices_partialInsertionSortOrdered_string_2 N))))
def K_slices_partialInsertionSortOrdered_string_3 (N : Nat → Nat) : AC :=
 .ops [⟨(some 15), .mov (.t 8), none⟩, ⟨(some 16), .bin .add (.t 15) (.c (.lit (.int .i64 1))), none⟩, ⟨(some 8), .mov (.t 16), none⟩]
def L_slices_partialInsertionSortOrdered_string_1 (N : Nat → Nat) : AC :=
    .seq (
     .seq (
      .ops [⟨(some 13), .mov (.t 8), none⟩, ⟨(some 14), .bin .lss (.t 13) (.c (.lit (.int .i64 5))), none⟩]) (
     .cond (.t 14) (
      .skip) (
      .exit 0))) (
    .seq (
     .block 1 (
      .seq (
       .block 2 (
        .loop (L_slices_partialInsertionSortOrdered_string_2 N))) (K_slices_partialInsertionSortOrdered_string_1 N))) (K_slices_partialInsertionSortOrdered_string_3 N))
def K_slices_partialInsertionSortOrdered_string_4 (N : Nat → Nat) : AC :=
 .seq (
  .ops [⟨(some 6), .mov (.c (.lit (.bool false))), none⟩]) (
 .ret)
/-- slices.partialInsertionSortOrdered[string] -/
def C_slices_partialInsertionSortOrdered_string (N : Nat → Nat) : AFunc := ⟨133, [.inl 6],
 .seq (
  .ops [⟨(some 6), .mov (.c (.lit (.bool false))), none⟩]) (
 .seq (
  .ops [⟨(some 11), .mov (.t 1), none⟩, ⟨(some 12), .bin .add (.t 11) (.c (.lit (.int .i64 1))), none⟩, ⟨(some 7), .mov (.t 12), none⟩]) (
 .seq (
  .seq (
   .ops [⟨(some 8), .mov (.c (.lit (.int .i64 0))), none⟩]) (
  .block 0 (
   .loop (L_slices_partialInsertionSortOrdered_string_1 N)))) (K_slices_partialInsertionSortOrdered_string_4 N))), false⟩

def L_slices_partitionEqualOrdered_string_2 (N : Nat → Nat) : AC :=
        .seq (
         .seq (
          .dops 3 [⟨(some 29), .mov (.t 9), none⟩, ⟨(some 30), .mov (.t 10), none⟩, ⟨(some 31), .bin .leq (.t 29) (.t 30), none⟩, ⟨(some 32), .mov (.t 31), none⟩, ⟨(some 33), .mov (.t 0), (some (32, true))⟩, ⟨(some 34), .mov (.t 1), (some (32, true))⟩, ⟨(some 35), .iaddr 1 (.t 33) (.t 34), (some (32, true))⟩, ⟨(some 36), .load none (.t 35), (some (32, true))⟩, ⟨(some 37), .mov (.t 0), (some (32, true))⟩, ⟨(some 38), .mov (.t 9), (some (32, true))⟩, ⟨(some 39), .iaddr 1 (.t 37) (.t 38), (some (32, true))⟩, ⟨(some 40), .load none (.t 39), (some (32, true))⟩, ⟨(some 41), .call (.c (.fn (f_cmp_Less_string N) [] [])) [(.t 36), (.t 40)], (some (32, true))⟩, ⟨(some 42), .un .not (.t 41), (some (32, true))⟩, ⟨(some 43), .pick (.t 32) (.t 42) (.c (.lit (.bool false))), none⟩] [0, 0, 0, 0, 0, 0, 0, 2, 0, 0, 0, 2, 0, 0, 0] []) (
         .cond (.t 43) (
          .skip) (
          .exit 2))) (
        .block 3 (
         .ops [⟨(some 44), .mov (.t 9), none⟩, ⟨(some 45), .bin .add (.t 44) (.c (.lit (.int .i64 1))), none⟩, ⟨(some 9), .mov (.t 45), none⟩]))
def L_slices_partitionEqualOrdered_string_3 (N : Nat → Nat) : AC :=
    .seq (
     .seq (
      .dops 5 [⟨(some 46), .mov (.t 9), none⟩, ⟨(some 47), .mov (.t 10), none⟩, ⟨(some 48), .bin .leq (.t 46) (.t 47), none⟩, ⟨(some 49), .mov (.t 48), none⟩, ⟨(some 50), .mov (.t 0), (some (49, true))⟩, ⟨(some 51), .mov (.t 1), (some (49, true))⟩, ⟨(some 52), .iaddr 1 (.t 50) (.t 51), (some (49, true))⟩, ⟨(some 53), .load none (.t 52), (some (49, true))⟩, ⟨(some 54), .mov (.t 0), (some (49, true))⟩, ⟨(some 55), .mov (.t 10), (some (49, true))⟩, ⟨(some 56), .iaddr 1 (.t 54) (.t 55), (some (49, true))⟩, ⟨(some 57), .load none (.t 56), (some (49, true))⟩, ⟨(some 58), .call (.c (.fn (f_cmp_Less_string N) [] [])) [(.t 53), (.t 57)], (some (49, true))⟩, ⟨(some 59), .pick (.t 49) (.t 58) (.c (.lit (.bool false))), none⟩] [0, 0, 0, 0, 0, 0, 0, 2, 0, 0, 0, 2, 0, 0] []) (
     .cond (.t 59) (
      .skip) (
      .exit 4))) (
    .block 5 (
     .ops [⟨(some 60), .mov (.t 10), none⟩, ⟨(some 61), .bin .sub (.t 60) (.c (.lit (.int .i64 1))), none⟩, ⟨(some 10), .mov (.t 61), none⟩]))
def K_slices_partitionEqualOrdered_string_2 (N : Nat → Nat) : AC :=
 .seq (
  .seq (
   .ops [⟨(some 62), .mov (.t 9), none⟩, ⟨(some 63), .mov (.t 10), none⟩, ⟨(some 64), .bin .gtr (.t 62) (.t 63), none⟩]) (
  .cond (.t 64) (
   .exit 0) (
   .skip))) (
 .seq (
  .dops 8 [⟨(some 65), .mov (.t 0), none⟩, ⟨(some 66), .mov (.t 9), none⟩, ⟨(some 67), .mov (.t 0), none⟩, ⟨(some 68), .mov (.t 10), none⟩, ⟨(some 69), .mov (.t 0), none⟩, ⟨(some 70), .mov (.t 10), none⟩, ⟨(some 71), .iaddr 1 (.t 69) (.t 70), none⟩, ⟨(some 72), .load none (.t 71), none⟩, ⟨(some 73), .mov (.t 0), none⟩, ⟨(some 74), .mov (.t 9), none⟩, ⟨(some 75), .iaddr 1 (.t 73) (.t 74), none⟩, ⟨(some 76), .load none (.t 75), none⟩, ⟨(some 77), .iaddr 1 (.t 65) (.t 66), none⟩, ⟨none, .store 1 (.t 77) (.t 72), none⟩, ⟨(some 78), .iaddr 1 (.t 67) (.t 68), none⟩, ⟨none, .store 1 (.t 78) (.t 76), none⟩] [0, 0, 0, 0, 0, 0, 0, 2, 0, 0, 0, 2, 0, 0, 0, 0] []) (
 .seq (
  .ops [⟨(some 79), .mov (.t 9), none⟩, ⟨(some 80), .bin .add (.t 79) (.c (.lit (.int .i64 1))), none⟩, ⟨(some 9), .mov (.t 80), none⟩]) (
 .ops [⟨(some 81), .mov (.t 10), none⟩, ⟨(some 82), .bin .sub (.t 81) (.c (.lit (.int .i64 1))), none⟩, ⟨(some 10), .mov (.t 82), none⟩])))
def K_slices_partitionEqualOrdered_string_1 (N : Nat → Nat) : AC :=
 .seq (
  .block 4 (
   .loop (L_slices_partitionEqualOrdered_string_3 N))) (K_slices_partitionEqualOrdered_string_2 N)
def L_slices_partitionEqualOrdered_string_1 (N : Nat → Nat) : AC :=
    .block 1 (
     .seq (
      .block 2 (
       .loop (L_slices_partitionEqualOrdered_string_2 N))) (K_slices_partitionEqualOrdered_string_1 N))
def K_slices_partitionEqualOrdered_string_3 (N : Nat → Nat) : AC :=
 .seq (
  .ops [⟨(some 83), .mov (.t 9), none⟩, ⟨(some 8), .mov (.t 83), none⟩]) (
 .ret)
/-- slices.partitionEqualOrdered[string] -/
def C_slices_partitionEqualOrdered_string (N : Nat → Nat) : AFunc := ⟨84, [.inl 8],
 .seq (
  .ops [⟨(some 8), .mov (.c (.lit (.int .i64 0))), none⟩]) (
 .seq (
  .dops 1 [⟨(some 11), .mov (.t 0), none⟩, ⟨(some 12), .mov (.t 1), none⟩, ⟨(some 13), .mov (.t 0), none⟩, ⟨(some 14), .mov (.t 3), none⟩, ⟨(some 15), .mov (.t 0), none⟩, ⟨(some 16), .mov (.t 3), none⟩, ⟨(some 17), .iaddr 1 (.t 15) (.t 16), none⟩, ⟨(some 18), .load none (.t 17), none⟩, ⟨(some 19), .mov (.t 0), none⟩, ⟨(some 20), .mov (.t 1), none⟩, ⟨(some 21), .iaddr 1 (.t 19) (.t 20), none⟩, ⟨(some 22), .load none (.t 21), none⟩, ⟨(some 23), .iaddr 1 (.t 11) (.t 12), none⟩, ⟨none, .store 1 (.t 23) (.t 18), none⟩, ⟨(some 24), .iaddr 1 (.t 13) (.t 14), none⟩, ⟨none, .store 1 (.t 24) (.t 22), none⟩] [0, 0, 0, 0, 0, 0, 0, 2, 0, 0, 0, 2, 0, 0, 0, 0] []) (
 .seq (
  .ops [⟨(some 25), .mov (.t 1), none⟩, ⟨(some 26), .bin .add (.t 25) (.c (.lit (.int .i64 1))), none⟩, ⟨(some 27), .mov (.t 2), none⟩, ⟨(some 28), .bin .sub (.t 27) (.c (.lit (.int .i64 1))), none⟩, ⟨(some 9), .mov (.t 26), none⟩, ⟨(some 10), .mov (.t 28), none⟩]) (
 .seq (
  .block 0 (
   .loop (L_slices_partitionEqualOrdered_string_1 N))) (K_slices_partitionEqualOrdered_string_3 N)))), false⟩

def L_slices_partitionOrdered_string_1 (N : Nat → Nat) : AC :=
    .seq (
     .seq (
      .dops 3 [⟨(some 30), .mov (.t 10), none⟩, ⟨(some 31), .mov (.t 11), none⟩, ⟨(some 32), .bin .leq (.t 30) (.t 31), none⟩, ⟨(some 33), .mov (.t 32), none⟩, ⟨(some 34), .mov (.t 0), (some (33, true))⟩, ⟨(some 35), .mov (.t 10), (some (33, true))⟩, ⟨(some 36), .iaddr 1 (.t 34) (.t 35), (some (33, true))⟩, ⟨(some 37), .load none (.t 36), (some (33, true))⟩, ⟨(some 38), .mov (.t 0), (some (33, true))⟩, ⟨(some 39), .mov (.t 1), (some (33, true))⟩, ⟨(some 40), .iaddr 1 (.t 38) (.t 39), (some (33, true))⟩, ⟨(some 41), .load none (.t 40), (some (33, true))⟩, ⟨(some 42), .call (.c (.fn (f_cmp_Less_string N) [] [])) [(.t 37), (.t 41)], (some (33, true))⟩, ⟨(some 43), .pick (.t 33) (.t 42) (.c (.lit (.bool false))), none⟩] [0, 0, 0, 0, 0, 0, 0, 2, 0, 0, 0, 2, 0, 0] []) (
     .cond (.t 43) (
      .skip) (
      .exit 0))) (
    .block 1 (
     .ops [⟨(some 44), .mov (.t 10), none⟩, ⟨(some 45), .bin .add (.t 44) (.c (.lit (.int .i64 1))), none⟩, ⟨(some 10), .mov (.t 45), none⟩]))
def L_slices_partitionOrdered_string_2 (N : Nat → Nat) : AC :=
    .seq (
     .seq (
      .dops 5 [⟨(some 46), .mov (.t 10), none⟩, ⟨(some 47), .mov (.t 11), none⟩, ⟨(some 48), .bin .leq (.t 46) (.t 47), none⟩, ⟨(some 49), .mov (.t 48), none⟩, ⟨(some 50), .mov (.t 0), (some (49, true))⟩, ⟨(some 51), .mov (.t 11), (some (49, true))⟩, ⟨(some 52), .iaddr 1 (.t 50) (.t 51), (some (49, true))⟩, ⟨(some 53), .load none (.t 52), (some (49, true))⟩, ⟨(some 54), .mov (.t 0), (some (49, true))⟩, ⟨(some 55), .mov (.t 1), (some (49, true))⟩, ⟨(some 56), .iaddr 1 (.t 54) (.t 55), (some (49, true))⟩, ⟨(some 57), .load none (.t 56), (some (49, true))⟩, ⟨(some 58), .call (.c (.fn (f_cmp_Less_string N) [] [])) [(.t 53), (.t 57)], (some (49, true))⟩, ⟨(some 59), .un .not (.t 58), (some (49, true))⟩, ⟨(some 60), .pick (.t 49) (.t 59) (.c (.lit (.bool false))), none⟩] [0, 0, 0, 0, 0, 0, 0, 2, 0, 0, 0, 2, 0, 0, 0] []) (
     .cond (.t 60) (
      .skip) (
      .exit 2))) (
    .block 3 (
     .ops [⟨(some 61), .mov (.t 11), none⟩, ⟨(some 62), .bin .sub (.t 61) (.c (.lit (.int .i64 1))), none⟩, ⟨(some 11), .mov (.t 62), none⟩]))
def L_slices_partitionOrdered_string_4 (N : Nat → Nat) : AC :=
        .seq (
         .seq (
          .dops 13 [⟨(some 99), .mov (.t 10), none⟩, ⟨(some 100), .mov (.t 11), none⟩, ⟨(some 101), .bin .leq (.t 99) (.t 100), none⟩, ⟨(some 102), .mov (.t 101), none⟩, ⟨(some 103), .mov (.t 0), (some (102, true))⟩, ⟨(some 104), .mov (.t 10), (some (102, true))⟩, ⟨(some 105), .iaddr 1 (.t 103) (.t 104), (some (102, true))⟩, ⟨(some 106), .load none (.t 105), (some (102, true))⟩, ⟨(some 107), .mov (.t 0), (some (102, true))⟩, ⟨(some 108), .mov (.t 1), (some (102, true))⟩, ⟨(some 109), .iaddr 1 (.t 107) (.t 108), (some (102, true))⟩, ⟨(some 110), .load none (.t 109), (some (102, true))⟩, ⟨(some 111), .call (.c (.fn (f_cmp_Less_string N) [] [])) [(.t 106), (.t 110)], (some (102, true))⟩, ⟨(some 112), .pick (.t 102) (.t 111) (.c (.lit (.bool false))), none⟩] [0, 0, 0, 0, 0, 0, 0, 2, 0, 0, 0, 2, 0, 0] []) (
         .cond (.t 112) (
          .skip) (
          .exit 6))) (
        .block 7 (
         .ops [⟨(some 113), .mov (.t 10), none⟩, ⟨(some 114), .bin .add (.t 113) (.c (.lit (.int .i64 1))), none⟩, ⟨(some 10), .mov (.t 114), none⟩]))
def L_slices_partitionOrdered_string_5 (N : Nat → Nat) : AC :=
    .seq (
     .seq (
      .dops 15 [⟨(some 115), .mov (.t 10), none⟩, ⟨(some 116), .mov (.t 11), none⟩, ⟨(some 117), .bin .leq (.t 115) (.t 116), none⟩, ⟨(some 118), .mov (.t 117), none⟩, ⟨(some 119), .mov (.t 0), (some (118, true))⟩, ⟨(some 120), .mov (.t 11), (some (118, true))⟩, ⟨(some 121), .iaddr 1 (.t 119) (.t 120), (some (118, true))⟩, ⟨(some 122), .load none (.t 121), (some (118, true))⟩, ⟨(some 123), .mov (.t 0), (some (118, true))⟩, ⟨(some 124), .mov (.t 1), (some (118, true))⟩, ⟨(some 125), .iaddr 1 (.t 123) (.t 124), (some (118, true))⟩, ⟨(some 126), .load none (.t 125), (some (118, true))⟩, ⟨(some 127), .call (.c (.fn (f_cmp_Less_string N) [] [])) [(.t 122), (.t 126)], (some (118, true))⟩, ⟨(some 128), .un .not (.t 127), (some (118, true))⟩, ⟨(some 129), .pick (.t 118) (.t 128) (.c (.lit (.bool false))), none⟩] [0, 0, 0, 0, 0, 0, 0, 2, 0, 0, 0, 2, 0, 0, 0] []) (
     .cond (.t 129) (
      .skip) (
      .exit 8))) (
    .block 9 (
     .ops [⟨(some 130), .mov (.t 11), none⟩, ⟨(some 131), .bin .sub (.t 130) (.c (.lit (.int .i64 1))), none⟩, ⟨(some 11), .mov (.t 131), none⟩]))
def K_slices_partitionOrdered_string_4 (N : Nat → Nat) : AC :=
 .seq (
  .seq (
   .ops [⟨(some 132), .mov (.t 10), none⟩, ⟨(some 133), .mov (.t 11), none⟩, ⟨(some 134), .bin .gtr (.t 132) (.t 133), none⟩]) (
  .cond (.t 134) (
   .exit 4) (
   .skip))) (
 .seq (
  .dops 18 [⟨(some 135), .mov (.t 0), none⟩, ⟨(some 136), .mov (.t 10), none⟩, ⟨(some 137), .mov (.t 0), none⟩, ⟨(some 138), .mov (.t 11), none⟩, ⟨(some 139), .mov (.t 0), none⟩, ⟨(some 140), .mov (.t 11), none⟩, ⟨(some 141), .iaddr 1 (.t 139) (.t 140), none⟩, ⟨(some 142), .load none (.t 141), none⟩, ⟨(some 143), .mov (.t 0), none⟩, ⟨(some 144), .mov (.t 10), none⟩, ⟨(some 145), .iaddr 1 (.t 143) (.t 144), none⟩, ⟨(some 146), .load none (.t 145), none⟩, ⟨(some 147), .iaddr 1 (.t 135) (.t 136), none⟩, ⟨none, .store 1 (.t 147) (.t 142), none⟩, ⟨(some 148), .iaddr 1 (.t 137) (.t 138), none⟩, ⟨none, .store 1 (.t 148) (.t 146), none⟩] [0, 0, 0, 0, 0, 0, 0, 2, 0, 0, 0, 2, 0, 0, 0, 0] []) (
 .seq (
  .ops [⟨(some 149), .mov (.t 10), none⟩, ⟨(some 150), .bin .add (.t 149) (.c (.lit (.int .i64 1))), none⟩, ⟨(some 10), .mov (.t 150), none⟩]) (
 .ops [⟨(some 151), .mov (.t 11), none⟩, ⟨(some 152), .bin .sub (.t 151) (.c (.lit (.int .i64 1))), none⟩, ⟨(some 11), .mov (.t 152), none⟩])))
def K_slices_partitionOrdered_string_3 (N : Nat → Nat) : AC :=
 .seq (
  .block 8 (
   .loop (L_slices_partitionOrdered_string_5 N))) (K_slices_partitionOrdered_string_4 N)
def L_slices_partitionOrdered_string_3 (N : Nat → Nat) : AC :=
    .block 5 (
     .seq (
      .block 6 (
       .loop (L_slices_partitionOrdered_string_4 N))) (K_slices_partitionOrdered_string_3 N))
def K_slices_partitionOrdered_string_5 (N : Nat → Nat) : AC :=
 .seq (
  .dops 21 [⟨(some 153), .mov (.t 0), none⟩, ⟨(some 154), .mov (.t 11), none⟩, ⟨(some 155), .mov (.t 0), none⟩, ⟨(some 156), .mov (.t 1), none⟩, ⟨(some 157), .mov (.t 0), none⟩, ⟨(some 158), .mov (.t 1), none⟩, ⟨(some 159), .iaddr 1 (.t 157) (.t 158), none⟩, ⟨(some 160), .load none (.t 159), none⟩, ⟨(some 161), .mov (.t 0), none⟩, ⟨(some 162), .mov (.t 11), none⟩, ⟨(some 163), .iaddr 1 (.t 161) (.t 162), none⟩, ⟨(some 164), .load none (.t 163), none⟩, ⟨(some 165), .iaddr 1 (.t 153) (.t 154), none⟩, ⟨none, .store 1 (.t 165) (.t 160), none⟩, ⟨(some 166), .iaddr 1 (.t 155) (.t 156), none⟩, ⟨none, .store 1 (.t 166) (.t 164), none⟩] [0, 0, 0, 0, 0, 0, 0, 2, 0, 0, 0, 2, 0, 0, 0, 0] []) (
 .seq (
  .ops [⟨(some 167), .mov (.t 11), none⟩, ⟨(some 8), .mov (.t 167), none⟩, ⟨(some 9), .mov (.c (.lit (.bool false))), none⟩]) (
 .ret))
def K_slices_partitionOrdered_string_2 (N : Nat → Nat) : AC :=
 .seq (
  .seq (
   .ops [⟨(some 63), .mov (.t 10), none⟩, ⟨(some 64), .mov (.t 11), none⟩, ⟨(some 65), .bin .gtr (.t 63) (.t 64), none⟩]) (
  .cond (.t 65) (
   .seq (
    .dops 8 [⟨(some 66), .mov (.t 0), none⟩, ⟨(some 67), .mov (.t 11), none⟩, ⟨(some 68), .mov (.t 0), none⟩, ⟨(some 69), .mov (.t 1), none⟩, ⟨(some 70), .mov (.t 0), none⟩, ⟨(some 71), .mov (.t 1), none⟩, ⟨(some 72), .iaddr 1 (.t 70) (.t 71), none⟩, ⟨(some 73), .load none (.t 72), none⟩, ⟨(some 74), .mov (.t 0), none⟩, ⟨(some 75), .mov (.t 11), none⟩, ⟨(some 76), .iaddr 1 (.t 74) (.t 75), none⟩, ⟨(some 77), .load none (.t 76), none⟩, ⟨(some 78), .iaddr 1 (.t 66) (.t 67), none⟩, ⟨none, .store 1 (.t 78) (.t 73), none⟩, ⟨(some 79), .iaddr 1 (.t 68) (.t 69), none⟩, ⟨none, .store 1 (.t 79) (.t 77), none⟩] [0, 0, 0, 0, 0, 0, 0, 2, 0, 0, 0, 2, 0, 0, 0, 0] []) (
   .seq (
    .ops [⟨(some 80), .mov (.t 11), none⟩, ⟨(some 8), .mov (.t 80), none⟩, ⟨(some 9), .mov (.c (.lit (.bool true))), none⟩]) (
   .ret))) (
   .skip))) (
 .seq (
  .dops 10 [⟨(some 81), .mov (.t 0), none⟩, ⟨(some 82), .mov (.t 10), none⟩, ⟨(some 83), .mov (.t 0), none⟩, ⟨(some 84), .mov (.t 11), none⟩, ⟨(some 85), .mov (.t 0), none⟩, ⟨(some 86), .mov (.t 11), none⟩, ⟨(some 87), .iaddr 1 (.t 85) (.t 86), none⟩, ⟨(some 88), .load none (.t 87), none⟩, ⟨(some 89), .mov (.t 0), none⟩, ⟨(some 90), .mov (.t 10), none⟩, ⟨(some 91), .iaddr 1 (.t 89) (.t 90), none⟩, ⟨(some 92), .load none (.t 91), none⟩, ⟨(some 93), .iaddr 1 (.t 81) (.t 82), none⟩, ⟨none, .store 1 (.t 93) (.t 88), none⟩, ⟨(some 94), .iaddr 1 (.t 83) (.t 84), none⟩, ⟨none, .store 1 (.t 94) (.t 92), none⟩] [0, 0, 0, 0, 0, 0, 0, 2, 0, 0, 0, 2, 0, 0, 0, 0] []) (
 .seq (
  .ops [⟨(some 95), .mov (.t 10), none⟩, ⟨(some 96), .bin .add (.t 95) (.c (.lit (.int .i64 1))), none⟩, ⟨(some 10), .mov (.t 96), none⟩]) (
 .seq (
  .ops [⟨(some 97), .mov (.t 11), none⟩, ⟨(some 98), .bin .sub (.t 97) (.c (.lit (.int .i64 1))), none⟩, ⟨(some 11), .mov (.t 98), none⟩]) (
 .seq (
  .block 4 (
   .loop (L_slices_partitionOrdered_string_3 N))) (K_slices_partitionOrdered_string_5 N)))))
def K_slices_partitionOrdered_string_1 (N : Nat → Nat) : AC :=
 .seq (
  .block 2 (
   .loop (L_slices_partitionOrdered_string_2 N))) (K_slices_partitionOrdered_string_2 N)
/-- slices.partitionOrdered[string] -/
def C_slices_partitionOrdered_string (N : Nat → Nat) : AFunc := ⟨168, [.inl 8, .inl 9],
 .seq (
  .ops [⟨(some 8), .mov (.c (.lit (.int .i64 0))), none⟩, ⟨(some 9), .mov (.c (.lit (.bool false))), none⟩]) (
 .seq (
  .dops 1 [⟨(some 12), .mov (.t 0), none⟩, ⟨(some 13), .mov (.t 1), none⟩, ⟨(some 14), .mov (.t 0), none⟩, ⟨(some 15), .mov (.t 3), none⟩, ⟨(some 16), .mov (.t 0), none⟩, ⟨(some 17), .mov (.t 3), none⟩, ⟨(some 18), .iaddr 1 (.t 16) (.t 17), none⟩, ⟨(some 19), .load none (.t 18), none⟩, ⟨(some 20), .mov (.t 0), none⟩, ⟨(some 21), .mov (.t 1), none⟩, ⟨(some 22), .iaddr 1 (.t 20) (.t 21), none⟩, ⟨(some 23), .load none (.t 22), none⟩, ⟨(some 24), .iaddr 1 (.t 12) (.t 13), none⟩, ⟨none, .store 1 (.t 24) (.t 19), none⟩, ⟨(some 25), .iaddr 1 (.t 14) (.t 15), none⟩, ⟨none, .store 1 (.t 25) (.t 23), none⟩] [0, 0, 0, 0, 0, 0, 0, 2, 0, 0, 0, 2, 0, 0, 0, 0] []) (
 .seq (
  .ops [⟨(some 26), .mov (.t 1), none⟩, ⟨(some 27), .bin .add (.t 26) (.c (.lit (.int .i64 1))), none⟩, ⟨(some 28), .mov (.t 2), none⟩, ⟨(some 29), .bin .sub (.t 28) (.c (.lit (.int .i64 1))), none⟩, ⟨(some 10), .mov (.t 27), none⟩, ⟨(some 11), .mov (.t 29), none⟩]) (
 .seq (
  .block 0 (
   .loop (L_slices_partitionOrdered_string_1 N))) (K_slices_partitionOrdered_string_1 N)))), false⟩

def L_slices_pdqsortOrdered_string_1 (N : Nat → Nat) : AC :=
   .block 1 (
    .seq (
     .ops [⟨(some 19), .mov (.t 2), none⟩, ⟨(some 20), .mov (.t 1), none⟩, ⟨(some 21), .bin .sub (.t 19) (.t 20), none⟩, ⟨(some 10), .mov (.t 21), none⟩]) (
    .seq (
     .seq (
      .ops [⟨(some 22), .mov (.t 10), none⟩, ⟨(some 23), .bin .leq (.t 22) (.c (.lit (.int .i64 12))), none⟩]) (
     .cond (.t 23) (
      .seq (
       .ops [⟨(some 24), .mov (.t 0), none⟩, ⟨(some 25), .mov (.t 1), none⟩, ⟨(some 26), .mov (.t 2), none⟩, ⟨(some 27), .call (.c (.fn (f_slices_insertionSortOrdered_string N) [] [])) [(.t 24), (.t 25), (.t 26)], none⟩]) (
      .ret)) (
      .skip))) (
    .seq (
     .seq (
      .ops [⟨(some 28), .mov (.t 3), none⟩, ⟨(some 29), .eq false .pint (.t 28) (.c (.lit (.int .i64 0))), none⟩]) (
     .cond (.t 29) (
      .seq (
       .ops [⟨(some 30), .mov (.t 0), none⟩, ⟨(some 31), .mov (.t 1), none⟩, ⟨(some 32), .mov (.t 2), none⟩, ⟨(some 33), .call (.c (.fn (f_slices_heapSortOrdered_string N) [] [])) [(.t 30), (.t 31), (.t 32)], none⟩]) (
      .ret)) (
      .skip))) (
    .seq (
     .seq (
      .ops [⟨(some 34), .mov (.t 8), none⟩, ⟨(some 35), .un .not (.t 34), none⟩]) (
     .cond (.t 35) (
      .seq (
       .ops [⟨(some 36), .mov (.t 0), none⟩, ⟨(some 37), .mov (.t 1), none⟩, ⟨(some 38), .mov (.t 2), none⟩, ⟨(some 39), .call (.c (.fn (f_slices_breakPatternsOrdered_string N) [] [])) [(.t 36), (.t 37), (.t 38)], none⟩]) (
      .ops [⟨(some 40), .mov (.t 3), none⟩, ⟨(some 41), .bin .sub (.t 40) (.c (.lit (.int .i64 1))), none⟩, ⟨(some 3), .mov (.t 41), none⟩])) (
      .skip))) (
    .seq (
     .ops [⟨(some 43), .mov (.t 0), none⟩, ⟨(some 44), .mov (.t 1), none⟩, ⟨(some 45), .mov (.t 2), none⟩, ⟨(some 46), .call (.c (.fn (f_slices_choosePivotOrdered_string N) [] [])) [(.t 43), (.t 44), (.t 45)], none⟩, ⟨(some 42), .mov (.t 46), none⟩, ⟨(some 47), .extract (.t 42) 0, none⟩, ⟨(some 48), .extract (.t 42) 1, none⟩, ⟨(some 11), .mov (.t 47), none⟩, ⟨(some 12), .mov (.t 48), none⟩]) (
    .seq (
     .seq (
      .ops [⟨(some 49), .mov (.t 12), none⟩, ⟨(some 50), .eq false .pint (.t 49) (.c (.lit (.int .i64 2))), none⟩]) (
     .cond (.t 50) (
      .seq (
       .ops [⟨(some 51), .mov (.t 0), none⟩, ⟨(some 52), .mov (.t 1), none⟩, ⟨(some 53), .mov (.t 2), none⟩, ⟨(some 54), .call (.c (.fn (f_slices_reverseRangeOrdered_string N) [] [])) [(.t 51), (.t 52), (.t 53)], none⟩]) (
      .seq (
       .ops [⟨(some 55), .mov (.t 2), none⟩, ⟨(some 56), .bin .sub (.t 55) (.c (.lit (.int .i64 1))), none⟩, ⟨(some 57), .mov (.t 11), none⟩, ⟨(some 58), .mov (.t 1), none⟩, ⟨(some 59), .bin .sub (.t 57) (.t 58), none⟩, ⟨(some 60), .bin .sub (.t 56) (.t 59), none⟩, ⟨(some 11), .mov (.t 60), none⟩]) (
      .ops [⟨(some 12), .mov (.c (.lit (.int .i64 1))), none⟩]))) (
      .skip))) (
    .seq (
     .seq (
      .ops [⟨(some 61), .mov (.t 8), none⟩, ⟨(some 62), .mov (.t 61), none⟩, ⟨(some 63), .mov (.t 9), (some (62, true))⟩, ⟨(some 64), .pick (.t 62) (.t 63) (.c (.lit (.bool false))), none⟩, ⟨(some 65), .mov (.t 64), none⟩, ⟨(some 66), .mov (.t 12), (some (65, true))⟩, ⟨(some 67), .eq false .pint (.t 66) (.c (.lit (.int .i64 1))), (some (65, true))⟩, ⟨(some 68), .pick (.t 65) (.t 67) (.c (.lit (.bool false))), none⟩]) (
     .cond (.t 68) (
      .seq (
       .ops [⟨(some 69), .mov (.t 0), none⟩, ⟨(some 70), .mov (.t 1), none⟩, ⟨(some 71), .mov (.t 2), none⟩, ⟨(some 72), .call (.c (.fn (f_slices_partialInsertionSortOrdered_string N) [] [])) [(.t 69), (.t 70), (.t 71)], none⟩]) (
      .cond (.t 72) (
       .ret) (
       .skip))) (
      .skip))) (
    .seq (
     .seq (
      .dops 17 [⟨(some 73), .mov (.t 1), none⟩, ⟨(some 74), .bin .gtr (.t 73) (.c (.lit (.int .i64 0))), none⟩, ⟨(some 75), .mov (.t 74), none⟩, ⟨(some 76), .mov (.t 0), (some (75, true))⟩, ⟨(some 77), .mov (.t 1), (some (75, true))⟩, ⟨(some 78), .bin .sub (.t 77) (.c (.lit (.int .i64 1))), (some (75, true))⟩, ⟨(some 79), .iaddr 1 (.t 76) (.t 78), (some (75, true))⟩, ⟨(some 80), .load none (.t 79), (some (75, true))⟩, ⟨(some 81), .mov (.t 0), (some (75, true))⟩, ⟨(some 82), .mov (.t 11), (some (75, true))⟩, ⟨(some 83), .iaddr 1 (.t 81) (.t 82), (some (75, true))⟩, ⟨(some 84), .load none (.t 83), (some (75, true))⟩, ⟨(some 85), .call (.c (.fn (f_cmp_Less_string N) [] [])) [(.t 80), (.t 84)], (some (75, true))⟩, ⟨(some 86), .un .not (.t 85), (some (75, true))⟩, ⟨(some 87), .pick (.t 75) (.t 86) (.c (.lit (.bool false))), none⟩] [0, 0, 0, 0, 0, 0, 0, 2, 0, 0, 0, 2, 0, 0, 0] []) (
     .cond (.t 87) (
      .seq (
       .ops [⟨(some 88), .mov (.t 0), none⟩, ⟨(some 89), .mov (.t 1), none⟩, ⟨(some 90), .mov (.t 2), none⟩, ⟨(some 91), .mov (.t 11), none⟩, ⟨(some 92), .call (.c (.fn (f_slices_partitionEqualOrdered_string N) [] [])) [(.t 88), (.t 89), (.t 90), (.t 91)], none⟩, ⟨(some 13), .mov (.t 92), none⟩]) (
      .seq (
       .ops [⟨(some 93), .mov (.t 13), none⟩, ⟨(some 1), .mov (.t 93), none⟩]) (
      .exit 1))) (
      .skip))) (
    .seq (
     .ops [⟨(some 95), .mov (.t 0), none⟩, ⟨(some 96), .mov (.t 1), none⟩, ⟨(some 97), .mov (.t 2), none⟩, ⟨(some 98), .mov (.t 11), none⟩, ⟨(some 99), .call (.c (.fn (f_slices_partitionOrdered_string N) [] [])) [(.t 95), (.t 96), (.t 97), (.t 98)], none⟩, ⟨(some 94), .mov (.t 99), none⟩, ⟨(some 100), .extract (.t 94) 0, none⟩, ⟨(some 101), .extract (.t 94) 1, none⟩, ⟨(some 14), .mov (.t 100), none⟩, ⟨(some 15), .mov (.t 101), none⟩]) (
    .seq (
     .ops [⟨(some 102), .mov (.t 15), none⟩, ⟨(some 9), .mov (.t 102), none⟩]) (
    .seq (
     .ops [⟨(some 103), .mov (.t 14), none⟩, ⟨(some 104), .mov (.t 1), none⟩, ⟨(some 105), .bin .sub (.t 103) (.t 104), none⟩, ⟨(some 106), .mov (.t 2), none⟩, ⟨(some 107), .mov (.t 14), none⟩, ⟨(some 108), .bin .sub (.t 106) (.t 107), none⟩, ⟨(some 16), .mov (.t 105), none⟩, ⟨(some 17), .mov (.t 108), none⟩]) (
    .seq (
     .ops [⟨(some 109), .mov (.t 10), none⟩, ⟨(some 110), .bin .quo (.t 109) (.c (.lit (.int .i64 8))), none⟩, ⟨(some 18), .mov (.t 110), none⟩]) (
    .seq (
     .ops [⟨(some 111), .mov (.t 16), none⟩, ⟨(some 112), .mov (.t 17), none⟩, ⟨(some 113), .bin .lss (.t 111) (.t 112), none⟩]) (
    .cond (.t 113) (
     .seq (
      .ops [⟨(some 114), .mov (.t 16), none⟩, ⟨(some 115), .mov (.t 18), none⟩, ⟨(some 116), .bin .geq (.t 114) (.t 115), none⟩, ⟨(some 8), .mov (.t 116), none⟩]) (
     .seq (
      .ops [⟨(some 117), .mov (.t 0), none⟩, ⟨(some 118), .mov (.t 1), none⟩, ⟨(some 119), .mov (.t 14), none⟩, ⟨(some 120), .mov (.t 3), none⟩, ⟨(some 121), .call (.c (.fn (f_slices_pdqsortOrdered_string N) [] [])) [(.t 117), (.t 118), (.t 119), (.t 120)], none⟩]) (
     .ops [⟨(some 122), .mov (.t 14), none⟩, ⟨(some 123), .bin .add (.t 122) (.c (.lit (.int .i64 1))), none⟩, ⟨(some 1), .mov (.t 123), none⟩]))) (
     .seq (
      .ops [⟨(some 124), .mov (.t 17), none⟩, ⟨(some 125), .mov (.t 18), none⟩, ⟨(some 126), .bin .geq (.t 124) (.t 125), none⟩, ⟨(some 8), .mov (.t 126), none⟩]) (
     .seq (
      .ops [⟨(some 127), .mov (.t 0), none⟩, ⟨(some 128), .mov (.t 14), none⟩, ⟨(some 129), .bin .add (.t 128) (.c (.lit (.int .i64 1))), none⟩, ⟨(some 130), .mov (.t 2), none⟩, ⟨(some 131), .mov (.t 3), none⟩, ⟨(some 132), .call (.c (.fn (f_slices_pdqsortOrdered_string N) [] [])) [(.t 127), (.t 129), (.t 130), (.t 131)], none⟩]) (
     .ops [⟨(some 133), .mov (.t 14), none⟩, ⟨(some 2), .mov (.t 133), none⟩])))))))))))))))))
/-- slices.pdqsortOrdered[string] -/
def C_slices_pdqsortOrdered_string (N : Nat → Nat) : AFunc := ⟨134, [],
 .seq (
  .ops [⟨(some 8), .mov (.c (.lit (.bool true))), none⟩]) (
 .seq (
  .ops [⟨(some 9), .mov (.c (.lit (.bool true))), none⟩]) (
 .block 0 (
  .loop (L_slices_pdqsortOrdered_string_1 N)))), false⟩

def L_slices_reverseRangeOrdered_string_1 (N : Nat → Nat) : AC :=
   .seq (
    .seq (
     .ops [⟨(some 11), .mov (.t 6), none⟩, ⟨(some 12), .mov (.t 7), none⟩, ⟨(some 13), .bin .lss (.t 11) (.t 12), none⟩]) (
    .cond (.t 13) (
     .skip) (
     .exit 0))) (
   .block 1 (
    .seq (
     .dops 3 [⟨(some 14), .mov (.t 0), none⟩, ⟨(some 15), .mov (.t 6), none⟩, ⟨(some 16), .mov (.t 0), none⟩, ⟨(some 17), .mov (.t 7), none⟩, ⟨(some 18), .mov (.t 0), none⟩, ⟨(some 19), .mov (.t 7), none⟩, ⟨(some 20), .iaddr 1 (.t 18) (.t 19), none⟩, ⟨(some 21), .load none (.t 20), none⟩, ⟨(some 22), .mov (.t 0), none⟩, ⟨(some 23), .mov (.t 6), none⟩, ⟨(some 24), .iaddr 1 (.t 22) (.t 23), none⟩, ⟨(some 25), .load none (.t 24), none⟩, ⟨(some 26), .iaddr 1 (.t 14) (.t 15), none⟩, ⟨none, .store 1 (.t 26) (.t 21), none⟩, ⟨(some 27), .iaddr 1 (.t 16) (.t 17), none⟩, ⟨none, .store 1 (.t 27) (.t 25), none⟩] [0, 0, 0, 0, 0, 0, 0, 2, 0, 0, 0, 2, 0, 0, 0, 0] []) (
    .seq (
     .ops [⟨(some 28), .mov (.t 6), none⟩, ⟨(some 29), .bin .add (.t 28) (.c (.lit (.int .i64 1))), none⟩, ⟨(some 6), .mov (.t 29), none⟩]) (
    .ops [⟨(some 30), .mov (.t 7), none⟩, ⟨(some 31), .bin .sub (.t 30) (.c (.lit (.int .i64 1))), none⟩, ⟨(some 7), .mov (.t 31), none⟩]))))
/-- slices.reverseRangeOrdered[string] -/
def C_slices_reverseRangeOrdered_string (N : Nat → Nat) : AFunc := ⟨32, [],
 .seq (
  .ops [⟨(some 8), .mov (.t 1), none⟩, ⟨(some 6), .mov (.t 8), none⟩]) (
 .seq (
  .ops [⟨(some 9), .mov (.t 2), none⟩, ⟨(some 10), .bin .sub (.t 9) (.c (.lit (.int .i64 1))), none⟩, ⟨(some 7), .mov (.t 10), none⟩]) (
 .block 0 (
  .loop (L_slices_reverseRangeOrdered_string_1 N)))), false⟩

def L_slices_siftDownOrdered_string_1 (N : Nat → Nat) : AC :=
   .block 1 (
    .seq (
     .ops [⟨(some 11), .mov (.t 8), none⟩, ⟨(some 12), .bin .mul (.c (.lit (.int .i64 2))) (.t 11), none⟩, ⟨(some 13), .bin .add (.t 12) (.c (.lit (.int .i64 1))), none⟩, ⟨(some 9), .mov (.t 13), none⟩]) (
    .seq (
     .seq (
      .ops [⟨(some 14), .mov (.t 9), none⟩, ⟨(some 15), .mov (.t 2), none⟩, ⟨(some 16), .bin .geq (.t 14) (.t 15), none⟩]) (
     .cond (.t 16) (
      .exit 0) (
      .skip))) (
    .seq (
     .seq (
      .dops 3 [⟨(some 17), .mov (.t 9), none⟩, ⟨(some 18), .bin .add (.t 17) (.c (.lit (.int .i64 1))), none⟩, ⟨(some 19), .mov (.t 2), none⟩, ⟨(some 20), .bin .lss (.t 18) (.t 19), none⟩, ⟨(some 21), .mov (.t 20), none⟩, ⟨(some 22), .mov (.t 0), (some (21, true))⟩, ⟨(some 23), .mov (.t 3), (some (21, true))⟩, ⟨(some 24), .mov (.t 9), (some (21, true))⟩, ⟨(some 25), .bin .add (.t 23) (.t 24), (some (21, true))⟩, ⟨(some 26), .iaddr 1 (.t 22) (.t 25), (some (21, true))⟩, ⟨(some 27), .load none (.t 26), (some (21, true))⟩, ⟨(some 28), .mov (.t 0), (some (21, true))⟩, ⟨(some 29), .mov (.t 3), (some (21, true))⟩, ⟨(some 30), .mov (.t 9), (some (21, true))⟩, ⟨(some 31), .bin .add (.t 29) (.t 30), (some (21, true))⟩, ⟨(some 32), .bin .add (.t 31) (.c (.lit (.int .i64 1))), (some (21, true))⟩, ⟨(some 33), .iaddr 1 (.t 28) (.t 32), (some (21, true))⟩, ⟨(some 34), .load none (.t 33), (some (21, true))⟩, ⟨(some 35), .call (.c (.fn (f_cmp_Less_string N) [] [])) [(.t 27), (.t 34)], (some (21, true))⟩, ⟨(some 36), .pick (.t 21) (.t 35) (.c (.lit (.bool false))), none⟩] [0, 0, 0, 0, 0, 0, 0, 0, 0, 0, 2, 0, 0, 0, 0, 0, 0, 2, 0, 0] []) (
     .cond (.t 36) (
      .ops [⟨(some 37), .mov (.t 9), none⟩, ⟨(some 38), .bin .add (.t 37) (.c (.lit (.int .i64 1))), none⟩, ⟨(some 9), .mov (.t 38), none⟩]) (
      .skip))) (
    .seq (
     .seq (
      .dops 5 [⟨(some 39), .mov (.t 0), none⟩, ⟨(some 40), .mov (.t 3), none⟩, ⟨(some 41), .mov (.t 8), none⟩, ⟨(some 42), .bin .add (.t 40) (.t 41), none⟩, ⟨(some 43), .iaddr 1 (.t 39) (.t 42), none⟩, ⟨(some 44), .load none (.t 43), none⟩, ⟨(some 45), .mov (.t 0), none⟩, ⟨(some 46), .mov (.t 3), none⟩, ⟨(some 47), .mov (.t 9), none⟩, ⟨(some 48), .bin .add (.t 46) (.t 47), none⟩, ⟨(some 49), .iaddr 1 (.t 45) (.t 48), none⟩, ⟨(some 50), .load none (.t 49), none⟩, ⟨(some 51), .call (.c (.fn (f_cmp_Less_string N) [] [])) [(.t 44), (.t 50)], none⟩, ⟨(some 52), .un .not (.t 51), none⟩] [0, 0, 0, 0, 0, 2, 0, 0, 0, 0, 0, 2, 0, 0] []) (
     .cond (.t 52) (
      .ret) (
      .skip))) (
    .seq (
     .dops 6 [⟨(some 53), .mov (.t 0), none⟩, ⟨(some 54), .mov (.t 3), none⟩, ⟨(some 55), .mov (.t 8), none⟩, ⟨(some 56), .bin .add (.t 54) (.t 55), none⟩, ⟨(some 57), .mov (.t 0), none⟩, ⟨(some 58), .mov (.t 3), none⟩, ⟨(some 59), .mov (.t 9), none⟩, ⟨(some 60), .bin .add (.t 58) (.t 59), none⟩, ⟨(some 61), .mov (.t 0), none⟩, ⟨(some 62), .mov (.t 3), none⟩, ⟨(some 63), .mov (.t 9), none⟩, ⟨(some 64), .bin .add (.t 62) (.t 63), none⟩, ⟨(some 65), .iaddr 1 (.t 61) (.t 64), none⟩, ⟨(some 66), .load none (.t 65), none⟩, ⟨(some 67), .mov (.t 0), none⟩, ⟨(some 68), .mov (.t 3), none⟩, ⟨(some 69), .mov (.t 8), none⟩, ⟨(some 70), .bin .add (.t 68) (.t 69), none⟩, ⟨(some 71), .iaddr 1 (.t 67) (.t 70), none⟩, ⟨(some 72), .load none (.t 71), none⟩, ⟨(some 73), .iaddr 1 (.t 53) (.t 56), none⟩, ⟨none, .store 1 (.t 73) (.t 66), none⟩, ⟨(some 74), .iaddr 1 (.t 57) (.t 60), none⟩, ⟨none, .store 1 (.t 74) (.t 72), none⟩] [0, 0, 0, 0, 0, 0, 0, 0, 0, 0, 0, 0, 0, 2, 0, 0, 0, 0, 0, 2, 0, 0, 0, 0] []) (
    .ops [⟨(some 75), .mov (.t 9), none⟩, ⟨(some 8), .mov (.t 75), none⟩]))))))
/-- slices.siftDownOrdered[string] -/
def C_slices_siftDownOrdered_string (N : Nat → Nat) : AFunc := ⟨76, [],
 .seq (
  .ops [⟨(some 10), .mov (.t 1), none⟩, ⟨(some 8), .mov (.t 10), none⟩]) (
 .block 0 (
  .loop (L_slices_siftDownOrdered_string_1 N))), false⟩
end Go.Proofs.Eng
/- Templates of functions, as the engine takes them; numbers of functions and types by names. Printed by tm.py. -/
set_option linter.unusedVariables false
set_option maxRecDepth 100000
namespace Go.Proofs.Eng
open Go

/-- (*azimuth/store.Store).All -/
def C_p_store_Store_All (N : Nat → Nat) : AFunc := ⟨4, [.inl 2],
 .seq (
  .ops [⟨(some 1), .box (t_p_store_Store N) (.t 0), none⟩, ⟨(some 2), .mov (.c (.lit .nilFunc)), none⟩]) (
 .seq (
  .ops [⟨(some 3), .mkfn (f_p_store_Store_All_1 N) [] [(.t 1)], none⟩, ⟨(some 2), .mov (.t 3), none⟩]) (
 .ret)), false⟩

def L_p_store_Store_All_1_1 (N : Nat → Nat) : AC :=
   .seq (
    .ops [⟨(some 15), .bin .lss (.t 14) (.t 13), none⟩]) (
   .seq (
    .cond (.t 15) (
     .skip) (
     .exit 0)) (
   .seq (
    .block 1 (
     .seq (
      .ops [⟨(some 16), .iaddr 1 (.t 12) (.t 14), none⟩, ⟨(some 17), .load none (.t 16), none⟩, ⟨(some 4), .mov (.t 17), none⟩]) (
     .seq (
      .ops [⟨(some 18), .mov (.t 0), none⟩, ⟨(some 19), .mov (.t 4), none⟩, ⟨(some 20), .load none (.t 1), none⟩, ⟨(some 21), .nilchk (.t 20), none⟩, ⟨(some 22), .faddr 0 (.t 21), none⟩, ⟨(some 23), .load none (.t 22), none⟩, ⟨(some 24), .mov (.t 4), none⟩, ⟨(some 25), .lookup .string (.lit (.slice none 0 0)) (.t 23) (.t 24) false, none⟩, ⟨(some 26), .call (.c (.fn (f_slices_Clone_sl_byte_byte N) [] [])) [(.t 25)], none⟩, ⟨(some 27), .call (.t 18) [(.t 19), (.t 26)], none⟩, ⟨(some 28), .un .not (.t 27), none⟩]) (
     .cond (.t 28) (
      .ret) (
      .skip))))) (
   .ops [⟨(some 29), .bin .add (.t 14) (.c (.lit (.int .i64 1))), none⟩, ⟨(some 14), .mov (.t 29), none⟩])))
/-- (*azimuth/store.Store).All$1 -/
def C_p_store_Store_All_1 (N : Nat → Nat) : AFunc := ⟨30, [],
 .seq (
  .seq (
   .ops [⟨(some 5), .load none (.t 1), none⟩, ⟨(some 6), .eq false .pptr (.t 5) (.c (.lit (.pointer none))), none⟩]) (
  .cond (.t 6) (
   .ret) (
   .skip))) (
 .seq (
  .ops [⟨(some 7), .load none (.t 1), none⟩, ⟨(some 8), .nilchk (.t 7), none⟩, ⟨(some 9), .faddr 0 (.t 8), none⟩, ⟨(some 10), .load none (.t 9), none⟩, ⟨(some 11), .call (.c (.fn (f_maps_Keys_map_string_sl_byte_string_sl_byte N) [] [])) [(.t 10)], none⟩, ⟨(some 12), .call (.c (.fn (f_slices_Sorted_string N) [] [])) [(.t 11)], none⟩, ⟨(some 13), .len (.t 12), none⟩, ⟨(some 14), .mov (.c (.lit (.int .i64 0))), none⟩]) (
 .block 0 (
  .loop (L_p_store_Store_All_1_1 N)))), false⟩

def L_p_store_Store_Copy_1 (N : Nat → Nat) : AC :=
    .seq (
     .ops [⟨none, .mnmx false [], none⟩, ⟨(some 22), .extract (.t 21) 0, none⟩]) (
    .seq (
     .cond (.t 22) (
      .skip) (
      .exit 0)) (
    .block 1 (
     .seq (
      .ops [⟨none, .mnmx false [], none⟩, ⟨(some 24), .extract (.t 23) 0, none⟩, ⟨(some 25), .extract (.t 23) 1, none⟩, ⟨(some 4), .mov (.t 24), none⟩, ⟨(some 5), .mov (.t 25), none⟩]) (
     .dops 8 [⟨(some 26), .mov (.t 3), none⟩, ⟨(some 27), .nilchk (.t 26), none⟩, ⟨(some 28), .faddr 0 (.t 27), none⟩, ⟨(some 29), .load none (.t 28), none⟩, ⟨(some 30), .mov (.t 4), none⟩, ⟨(some 31), .mov (.t 5), none⟩, ⟨(some 32), .call (.c (.fn (f_slices_Clone_sl_byte_byte N) [] [])) [(.t 31)], none⟩, ⟨none, .mapupd .string (.t 29) (.t 30) (.t 32), none⟩] [0, 0, 0, 0, 0, 0, 1, 0] []))))
def K_p_store_Store_Copy_1 (N : Nat → Nat) : AC :=
 .seq (
  .ops [⟨(some 33), .mov (.t 3), none⟩, ⟨(some 2), .mov (.t 33), none⟩]) (
 .ret)
/-- (*azimuth/store.Store).Copy -/
def C_p_store_Store_Copy (N : Nat → Nat) : AFunc := ⟨34, [.inl 2],
 .seq (
  .ops [⟨(some 2), .mov (.c (.lit (.pointer none))), none⟩]) (
 .seq (
  .seq (
   .ops [⟨(some 6), .mov (.t 0), none⟩, ⟨(some 7), .eq false .pptr (.t 6) (.c (.lit (.pointer none))), none⟩]) (
  .cond (.t 7) (
   .seq (
    .ops [⟨(some 2), .mov (.c (.lit (.pointer none))), none⟩]) (
   .ret)) (
   .skip))) (
 .seq (
  .ops [⟨(some 8), .call (.c (.fn (f_store_New N) [] [])) [], none⟩, ⟨(some 3), .mov (.t 8), none⟩]) (
 .seq (
  .ops [⟨(some 9), .mov (.t 3), none⟩, ⟨(some 10), .mov (.t 0), none⟩, ⟨(some 11), .nilchk (.t 10), none⟩, ⟨(some 12), .faddr 1 (.t 11), none⟩, ⟨(some 13), .load none (.t 12), none⟩, ⟨(some 14), .nilchk (.t 9), none⟩, ⟨(some 15), .faddr 1 (.t 14), none⟩, ⟨none, .store 1 (.t 15) (.t 13), none⟩]) (
 .seq (
  .seq (
   .ops [⟨(some 16), .mov (.t 0), none⟩, ⟨(some 17), .nilchk (.t 16), none⟩, ⟨(some 18), .faddr 0 (.t 17), none⟩, ⟨(some 19), .load none (.t 18), none⟩, ⟨none, .mnmx false [], none⟩]) (
  .block 0 (
   .loop (L_p_store_Store_Copy_1 N)))) (K_p_store_Store_Copy_1 N))))), false⟩

/-- (*azimuth/store.Store).Delete -/
def C_p_store_Store_Delete (N : Nat → Nat) : AFunc := ⟨32, [.inl 4],
 .seq (
  .ops [⟨(some 4), .mov (.c (.lit (.int .i64 0))), none⟩]) (
 .seq (
  .seq (
   .ops [⟨(some 7), .mov (.t 0), none⟩, ⟨(some 8), .eq false .pptr (.t 7) (.c (.lit (.pointer none))), none⟩]) (
  .cond (.t 8) (
   .seq (
    .ops [⟨(some 4), .mov (.c (.lit (.int .i64 1))), none⟩]) (
   .ret)) (
   .skip))) (
 .seq (
  .seq (
   .ops [⟨(some 10), .mov (.t 0), none⟩, ⟨(some 11), .nilchk (.t 10), none⟩, ⟨(some 12), .faddr 0 (.t 11), none⟩, ⟨(some 13), .load none (.t 12), none⟩, ⟨(some 14), .mov (.t 1), none⟩, ⟨(some 15), .lookup .string (.lit (.slice none 0 0)) (.t 13) (.t 14) true, none⟩, ⟨(some 9), .mov (.t 15), none⟩, ⟨(some 16), .extract (.t 9) 0, none⟩, ⟨(some 17), .extract (.t 9) 1, none⟩, ⟨(some 5), .mov (.t 16), none⟩, ⟨(some 6), .mov (.t 17), none⟩]) (
  .seq (
   .ops [⟨(some 18), .mov (.t 6), none⟩, ⟨(some 19), .un .not (.t 18), none⟩]) (
  .cond (.t 19) (
   .seq (
    .ops [⟨(some 4), .mov (.c (.lit (.int .i64 13))), none⟩]) (
   .ret)) (
   .skip)))) (
 .seq (
  .ops [⟨(some 20), .mov (.t 0), none⟩, ⟨(some 21), .nilchk (.t 20), none⟩, ⟨(some 22), .faddr 0 (.t 21), none⟩, ⟨(some 23), .load none (.t 22), none⟩, ⟨(some 24), .mov (.t 1), none⟩, ⟨none, .delete .string (.t 23) (.t 24), none⟩]) (
 .seq (
  .ops [⟨(some 25), .mov (.t 0), none⟩, ⟨(some 26), .nilchk (.t 25), none⟩, ⟨(some 27), .faddr 1 (.t 26), none⟩, ⟨(some 28), .load none (.t 27), none⟩, ⟨(some 29), .bin .add (.t 28) (.c (.lit (.int .i64 1))), none⟩, ⟨(some 30), .nilchk (.t 25), none⟩, ⟨(some 31), .faddr 1 (.t 30), none⟩, ⟨none, .store 1 (.t 31) (.t 29), none⟩]) (
 .seq (
  .ops [⟨(some 4), .mov (.c (.lit (.int .i64 0))), none⟩]) (
 .ret)))))), false⟩

/-- (*azimuth/store.Store).Len -/
def C_p_store_Store_Len (N : Nat → Nat) : AFunc := ⟨10, [.inl 2],
 .seq (
  .ops [⟨(some 2), .mov (.c (.lit (.int .i64 0))), none⟩]) (
 .seq (
  .seq (
   .ops [⟨(some 3), .mov (.t 0), none⟩, ⟨(some 4), .eq false .pptr (.t 3) (.c (.lit (.pointer none))), none⟩]) (
  .cond (.t 4) (
   .seq (
    .ops [⟨(some 2), .mov (.c (.lit (.int .i64 0))), none⟩]) (
   .ret)) (
   .skip))) (
 .seq (
  .ops [⟨(some 5), .mov (.t 0), none⟩, ⟨(some 6), .nilchk (.t 5), none⟩, ⟨(some 7), .faddr 0 (.t 6), none⟩, ⟨(some 8), .load none (.t 7), none⟩, ⟨(some 9), .lenm (.t 8), none⟩, ⟨(some 2), .mov (.t 9), none⟩]) (
 .ret))), false⟩

/-- (*azimuth/store.Store).Rename -/
def C_p_store_Store_Rename (N : Nat → Nat) : AFunc := ⟨58, [.inl 6],
 .seq (
  .ops [⟨(some 6), .mov (.c (.lit (.int .i64 0))), none⟩]) (
 .seq (
  .seq (
   .ops [⟨(some 11), .mov (.t 0), none⟩, ⟨(some 12), .eq false .pptr (.t 11) (.c (.lit (.pointer none))), none⟩]) (
  .cond (.t 12) (
   .seq (
    .ops [⟨(some 6), .mov (.c (.lit (.int .i64 1))), none⟩]) (
   .ret)) (
   .skip))) (
 .seq (
  .ops [⟨(some 14), .mov (.t 0), none⟩, ⟨(some 15), .nilchk (.t 14), none⟩, ⟨(some 16), .faddr 0 (.t 15), none⟩, ⟨(some 17), .load none (.t 16), none⟩, ⟨(some 18), .mov (.t 1), none⟩, ⟨(some 19), .lookup .string (.lit (.slice none 0 0)) (.t 17) (.t 18) true, none⟩, ⟨(some 13), .mov (.t 19), none⟩, ⟨(some 20), .extract (.t 13) 0, none⟩, ⟨(some 21), .extract (.t 13) 1, none⟩, ⟨(some 7), .mov (.t 20), none⟩, ⟨(some 8), .mov (.t 21), none⟩]) (
 .seq (
  .ops [⟨(some 23), .mov (.t 0), none⟩, ⟨(some 24), .nilchk (.t 23), none⟩, ⟨(some 25), .faddr 0 (.t 24), none⟩, ⟨(some 26), .load none (.t 25), none⟩, ⟨(some 27), .mov (.t 2), none⟩, ⟨(some 28), .lookup .string (.lit (.slice none 0 0)) (.t 26) (.t 27) true, none⟩, ⟨(some 22), .mov (.t 28), none⟩, ⟨(some 29), .extract (.t 22) 0, none⟩, ⟨(some 30), .extract (.t 22) 1, none⟩, ⟨(some 9), .mov (.t 29), none⟩, ⟨(some 10), .mov (.t 30), none⟩]) (
 .seq (
  .block 0 (
   .seq (
    .ops [⟨(some 32), .mov (.t 8), none⟩, ⟨(some 33), .un .not (.t 32), none⟩, ⟨(some 31), .mov (.t 33), none⟩]) (
   .cond (.t 31) (
    .seq (
     .ops [⟨(some 6), .mov (.c (.lit (.int .i64 13))), none⟩]) (
    .ret)) (
    .seq (
     .ops [⟨(some 35), .mov (.t 2), none⟩, ⟨(some 36), .call (.c (.fn (f_lexer_IsName N) [] [])) [(.t 35)], none⟩, ⟨(some 37), .un .not (.t 36), none⟩, ⟨(some 34), .mov (.t 37), none⟩]) (
    .cond (.t 34) (
     .seq (
      .ops [⟨(some 6), .mov (.c (.lit (.int .i64 7))), none⟩]) (
     .ret)) (
     .seq (
      .ops [⟨(some 39), .mov (.t 10), none⟩, ⟨(some 38), .mov (.t 39), none⟩]) (
     .cond (.t 38) (
      .seq (
       .ops [⟨(some 6), .mov (.c (.lit (.int .i64 8))), none⟩]) (
      .ret)) (
      .skip)))))))) (
 .seq (
  .ops [⟨(some 40), .mov (.t 0), none⟩, ⟨(some 41), .nilchk (.t 40), none⟩, ⟨(some 42), .faddr 0 (.t 41), none⟩, ⟨(some 43), .load none (.t 42), none⟩, ⟨(some 44), .mov (.t 1), none⟩, ⟨none, .delete .string (.t 43) (.t 44), none⟩]) (
 .seq (
  .ops [⟨(some 45), .mov (.t 0), none⟩, ⟨(some 46), .nilchk (.t 45), none⟩, ⟨(some 47), .faddr 0 (.t 46), none⟩, ⟨(some 48), .load none (.t 47), none⟩, ⟨(some 49), .mov (.t 2), none⟩, ⟨(some 50), .mov (.t 7), none⟩, ⟨none, .mapupd .string (.t 48) (.t 49) (.t 50), none⟩]) (
 .seq (
  .ops [⟨(some 51), .mov (.t 0), none⟩, ⟨(some 52), .nilchk (.t 51), none⟩, ⟨(some 53), .faddr 1 (.t 52), none⟩, ⟨(some 54), .load none (.t 53), none⟩, ⟨(some 55), .bin .add (.t 54) (.c (.lit (.int .i64 1))), none⟩, ⟨(some 56), .nilchk (.t 51), none⟩, ⟨(some 57), .faddr 1 (.t 56), none⟩, ⟨none, .store 1 (.t 57) (.t 55), none⟩]) (
 .seq (
  .ops [⟨(some 6), .mov (.c (.lit (.int .i64 0))), none⟩]) (
 .ret))))))))), false⟩

/-- (*azimuth/store.Store).Set -/
def C_p_store_Store_Set (N : Nat → Nat) : AFunc := ⟨53, [.inl 6],
 .seq (
  .ops [⟨(some 6), .mov (.c (.lit (.int .i64 0))), none⟩]) (
 .seq (
  .seq (
   .ops [⟨(some 9), .mov (.t 0), none⟩, ⟨(some 10), .eq false .pptr (.t 9) (.c (.lit (.pointer none))), none⟩]) (
  .cond (.t 10) (
   .seq (
    .ops [⟨(some 6), .mov (.c (.lit (.int .i64 1))), none⟩]) (
   .ret)) (
   .skip))) (
 .seq (
  .ops [⟨(some 12), .mov (.t 0), none⟩, ⟨(some 13), .nilchk (.t 12), none⟩, ⟨(some 14), .faddr 0 (.t 13), none⟩, ⟨(some 15), .load none (.t 14), none⟩, ⟨(some 16), .mov (.t 1), none⟩, ⟨(some 17), .lookup .string (.lit (.slice none 0 0)) (.t 15) (.t 16) true, none⟩, ⟨(some 11), .mov (.t 17), none⟩, ⟨(some 18), .extract (.t 11) 0, none⟩, ⟨(some 19), .extract (.t 11) 1, none⟩, ⟨(some 7), .mov (.t 18), none⟩, ⟨(some 8), .mov (.t 19), none⟩]) (
 .seq (
  .block 0 (
   .seq (
    .ops [⟨(some 21), .mov (.t 1), none⟩, ⟨(some 22), .call (.c (.fn (f_lexer_IsName N) [] [])) [(.t 21)], none⟩, ⟨(some 23), .un .not (.t 22), none⟩, ⟨(some 20), .mov (.t 23), none⟩]) (
   .cond (.t 20) (
    .seq (
     .ops [⟨(some 6), .mov (.c (.lit (.int .i64 7))), none⟩]) (
    .ret)) (
    .seq (
     .ops [⟨(some 25), .mov (.t 2), none⟩, ⟨(some 26), .len (.t 25), none⟩, ⟨(some 27), .bin .gtr (.t 26) (.c (.lit (.int .i64 1048576))), none⟩, ⟨(some 24), .mov (.t 27), none⟩]) (
    .cond (.t 24) (
     .seq (
      .ops [⟨(some 6), .mov (.c (.lit (.int .i64 6))), none⟩]) (
     .ret)) (
     .seq (
      .ops [⟨(some 29), .mov (.t 8), none⟩, ⟨(some 30), .un .not (.t 29), none⟩, ⟨(some 31), .mov (.t 30), none⟩, ⟨(some 32), .mov (.t 0), (some (31, true))⟩, ⟨(some 33), .nilchk (.t 32), (some (31, true))⟩, ⟨(some 34), .faddr 0 (.t 33), (some (31, true))⟩, ⟨(some 35), .load none (.t 34), (some (31, true))⟩, ⟨(some 36), .lenm (.t 35), (some (31, true))⟩, ⟨(some 37), .bin .geq (.t 36) (.c (.lit (.int .i64 256))), (some (31, true))⟩, ⟨(some 38), .pick (.t 31) (.t 37) (.c (.lit (.bool false))), none⟩, ⟨(some 28), .mov (.t 38), none⟩]) (
     .cond (.t 28) (
      .seq (
       .ops [⟨(some 6), .mov (.c (.lit (.int .i64 20))), none⟩]) (
      .ret)) (
      .skip)))))))) (
 .seq (
  .dops 10 [⟨(some 39), .mov (.t 0), none⟩, ⟨(some 40), .nilchk (.t 39), none⟩, ⟨(some 41), .faddr 0 (.t 40), none⟩, ⟨(some 42), .load none (.t 41), none⟩, ⟨(some 43), .mov (.t 1), none⟩, ⟨(some 44), .mov (.t 2), none⟩, ⟨(some 45), .call (.c (.fn (f_slices_Clone_sl_byte_byte N) [] [])) [(.t 44)], none⟩, ⟨none, .mapupd .string (.t 42) (.t 43) (.t 45), none⟩] [0, 0, 0, 0, 0, 0, 1, 0] []) (
 .seq (
  .ops [⟨(some 46), .mov (.t 0), none⟩, ⟨(some 47), .nilchk (.t 46), none⟩, ⟨(some 48), .faddr 1 (.t 47), none⟩, ⟨(some 49), .load none (.t 48), none⟩, ⟨(some 50), .bin .add (.t 49) (.c (.lit (.int .i64 1))), none⟩, ⟨(some 51), .nilchk (.t 46), none⟩, ⟨(some 52), .faddr 1 (.t 51), none⟩, ⟨none, .store 1 (.t 52) (.t 50), none⟩]) (
 .seq (
  .ops [⟨(some 6), .mov (.c (.lit (.int .i64 0))), none⟩]) (
 .ret))))))), false⟩

/-- (*azimuth/store.Store).Text -/
def C_p_store_Store_Text (N : Nat → Nat) : AFunc := ⟨22, [.inl 4, .inl 5],
 .seq (
  .ops [⟨(some 4), .mov (.c (.lit (.slice none 0 0))), none⟩, ⟨(some 5), .mov (.c (.lit (.bool false))), none⟩]) (
 .seq (
  .seq (
   .ops [⟨(some 8), .mov (.t 0), none⟩, ⟨(some 9), .eq false .pptr (.t 8) (.c (.lit (.pointer none))), none⟩]) (
  .cond (.t 9) (
   .seq (
    .ops [⟨(some 4), .mov (.c (.lit (.slice none 0 0))), none⟩, ⟨(some 5), .mov (.c (.lit (.bool false))), none⟩]) (
   .ret)) (
   .skip))) (
 .seq (
  .ops [⟨(some 11), .mov (.t 0), none⟩, ⟨(some 12), .nilchk (.t 11), none⟩, ⟨(some 13), .faddr 0 (.t 12), none⟩, ⟨(some 14), .load none (.t 13), none⟩, ⟨(some 15), .mov (.t 1), none⟩, ⟨(some 16), .lookup .string (.lit (.slice none 0 0)) (.t 14) (.t 15) true, none⟩, ⟨(some 10), .mov (.t 16), none⟩, ⟨(some 17), .extract (.t 10) 0, none⟩, ⟨(some 18), .extract (.t 10) 1, none⟩, ⟨(some 6), .mov (.t 17), none⟩, ⟨(some 7), .mov (.t 18), none⟩]) (
 .seq (
  .ops [⟨(some 19), .mov (.t 6), none⟩, ⟨(some 20), .call (.c (.fn (f_slices_Clone_sl_byte_byte N) [] [])) [(.t 19)], none⟩, ⟨(some 21), .mov (.t 7), none⟩, ⟨(some 4), .mov (.t 20), none⟩, ⟨(some 5), .mov (.t 21), none⟩]) (
 .ret)))), false⟩

/-- (*azimuth/store.Store).Turn -/
def C_p_store_Store_Turn (N : Nat → Nat) : AFunc := ⟨9, [.inl 2],
 .seq (
  .ops [⟨(some 2), .mov (.c (.lit (.int .i64 0))), none⟩]) (
 .seq (
  .seq (
   .ops [⟨(some 3), .mov (.t 0), none⟩, ⟨(some 4), .eq false .pptr (.t 3) (.c (.lit (.pointer none))), none⟩]) (
  .cond (.t 4) (
   .seq (
    .ops [⟨(some 2), .mov (.c (.lit (.int .i64 0))), none⟩]) (
   .ret)) (
   .skip))) (
 .seq (
  .ops [⟨(some 5), .mov (.t 0), none⟩, ⟨(some 6), .nilchk (.t 5), none⟩, ⟨(some 7), .faddr 1 (.t 6), none⟩, ⟨(some 8), .load none (.t 7), none⟩, ⟨(some 2), .mov (.t 8), none⟩]) (
 .ret))), false⟩

/-- azimuth/store.New -/
def C_store_New (N : Nat → Nat) : AFunc := ⟨4, [.inl 0],
 .seq (
  .ops [⟨(some 0), .mov (.c (.lit (.pointer none))), none⟩]) (
 .seq (
  .ops [⟨(some 1), .mkmap, none⟩, ⟨(some 2), .build [(.lit (.map none)), (.lit (.int .i64 0))] [(0, 1, (.t 1))], none⟩, ⟨(some 3), .box (t_store_Store N) (.t 2), none⟩, ⟨(some 0), .mov (.t 3), none⟩]) (
 .ret)), false⟩

/-- slices.Clone[[]byte,byte] -/
def C_slices_Clone_sl_byte_byte (N : Nat → Nat) : AFunc := ⟨8, [.inl 2],
 .seq (
  .ops [⟨(some 2), .mov (.c (.lit (.slice none 0 0))), none⟩]) (
 .seq (
  .seq (
   .ops [⟨(some 3), .mov (.t 0), none⟩, ⟨(some 4), .eq false .pslice (.t 3) (.c (.lit (.slice none 0 0))), none⟩]) (
  .cond (.t 4) (
   .seq (
    .ops [⟨(some 2), .mov (.c (.lit (.slice none 0 0))), none⟩]) (
   .ret)) (
   .skip))) (
 .seq (
  .ops [⟨(some 5), .bslice (t_uint8 N) 1 none 0 [(.lit (.int .u8 0))] [], none⟩, ⟨(some 6), .mov (.t 0), none⟩, ⟨(some 7), .append (t_uint8 N) 1 1 (.t 5) (.t 6), none⟩, ⟨(some 2), .mov (.t 7), none⟩]) (
 .ret))), false⟩
end Go.Proofs.Eng
/- Templates of functions, as the engine takes them; numbers of functions and types by names. Printed by tm.py. -/
set_option linter.unusedVariables false
set_option maxRecDepth 100000
namespace Go.Proofs.Eng
open Go

def L_p_deps_Net_Cone_2 (N : Nat → Nat) : AC :=
       .seq (
        .ops [⟨(some 43), .bin .lss (.t 42) (.t 41), none⟩]) (
       .seq (
        .cond (.t 43) (
         .skip) (
         .exit 2)) (
       .seq (
        .block 3 (
         .seq (
          .ops [⟨(some 44), .iaddr 1 (.t 40) (.t 42), none⟩, ⟨(some 45), .load none (.t 44), none⟩, ⟨(some 11), .mov (.t 45), none⟩]) (
         .seq (
          .ops [⟨(some 47), .mov (.t 0), none⟩, ⟨(some 48), .nilchk (.t 47), none⟩, ⟨(some 49), .faddr 0 (.t 48), none⟩, ⟨(some 50), .load none (.t 49), none⟩, ⟨(some 51), .mov (.t 11), none⟩, ⟨(some 52), .lookup .string (.lit (.slice none 0 0)) (.t 50) (.t 51) true, none⟩, ⟨(some 46), .mov (.t 52), none⟩, ⟨(some 53), .extract (.t 46) 0, none⟩, ⟨(some 54), .extract (.t 46) 1, none⟩, ⟨(some 12), .mov (.t 53), none⟩, ⟨(some 13), .mov (.t 54), none⟩]) (
         .seq (
          .ops [⟨(some 55), .mov (.t 13), none⟩, ⟨(some 56), .mov (.t 55), none⟩, ⟨(some 57), .mov (.t 7), (some (56, true))⟩, ⟨(some 58), .mov (.t 11), (some (56, true))⟩, ⟨(some 59), .lookup .string (.lit (.bool false)) (.t 57) (.t 58) false, (some (56, true))⟩, ⟨(some 60), .un .not (.t 59), (some (56, true))⟩, ⟨(some 61), .pick (.t 56) (.t 60) (.c (.lit (.bool false))), none⟩]) (
         .cond (.t 61) (
          .seq (
           .ops [⟨(some 62), .mov (.t 7), none⟩, ⟨(some 63), .mov (.t 11), none⟩, ⟨none, .mapupd .string (.t 62) (.t 63) (.c (.lit (.bool true))), none⟩]) (
          .ops [⟨(some 64), .mov (.t 8), none⟩, ⟨(some 65), .mov (.t 11), none⟩, ⟨(some 66), .bslice (t_string N) 1 none 1 [(.lit (.string (mkS [])))] [(0, 1, (.t 65))], none⟩, ⟨(some 67), .append (t_string N) 1 16 (.t 64) (.t 66), none⟩, ⟨(some 8), .mov (.t 67), none⟩])) (
          .skip)))))) (
       .ops [⟨(some 68), .bin .add (.t 42) (.c (.lit (.int .i64 1))), none⟩, ⟨(some 42), .mov (.t 68), none⟩])))
def L_p_deps_Net_Cone_1 (N : Nat → Nat) : AC :=
    .seq (
     .seq (
      .ops [⟨(some 27), .mov (.t 8), none⟩, ⟨(some 28), .len (.t 27), none⟩, ⟨(some 29), .bin .gtr (.t 28) (.c (.lit (.int .i64 0))), none⟩]) (
     .cond (.t 29) (
      .skip) (
      .exit 0))) (
    .block 1 (
     .seq (
      .ops [⟨(some 30), .mov (.t 8), none⟩, ⟨(some 31), .iaddr 1 (.t 30) (.c (.lit (.int .i64 0))), none⟩, ⟨(some 32), .load none (.t 31), none⟩, ⟨(some 9), .mov (.t 32), none⟩]) (
     .seq (
      .ops [⟨(some 33), .mov (.t 8), none⟩, ⟨(some 34), .slice 1 (.t 33) (some (.c (.lit (.int .i64 1)))) none, none⟩, ⟨(some 8), .mov (.t 34), none⟩]) (
     .seq (
      .ops [⟨(some 35), .mov (.t 0), none⟩, ⟨(some 36), .nilchk (.t 35), none⟩, ⟨(some 37), .faddr 0 (.t 36), none⟩, ⟨(some 38), .load none (.t 37), none⟩, ⟨(some 39), .mov (.t 9), none⟩, ⟨(some 40), .lookup .string (.lit (.slice none 0 0)) (.t 38) (.t 39) false, none⟩, ⟨(some 41), .len (.t 40), none⟩, ⟨(some 42), .mov (.c (.lit (.int .i64 0))), none⟩]) (
     .block 2 (
      .loop (L_p_deps_Net_Cone_2 N)))))))
def K_p_deps_Net_Cone_1 (N : Nat → Nat) : AC :=
 .seq (
  .ops [⟨(some 69), .mov (.t 7), none⟩, ⟨(some 70), .call (.c (.fn (f_maps_Keys_map_string_bool_string_bool N) [] [])) [(.t 69)], none⟩, ⟨(some 71), .call (.c (.fn (f_slices_Sorted_string N) [] [])) [(.t 70)], none⟩, ⟨(some 4), .mov (.t 71), none⟩]) (
 .ret)
/-- (*azimuth/deps.Net).Cone -/
def C_p_deps_Net_Cone (N : Nat → Nat) : AFunc := ⟨72, [.inl 4],
 .seq (
  .ops [⟨(some 4), .mov (.c (.lit (.slice none 0 0))), none⟩]) (
 .seq (
  .seq (
   .ops [⟨(some 15), .mov (.t 0), none⟩, ⟨(some 16), .mov (.t 1), none⟩, ⟨(some 17), .call (.c (.fn (f_p_deps_Net_On N) [] [])) [(.t 15), (.t 16)], none⟩, ⟨(some 14), .mov (.t 17), none⟩, ⟨(some 18), .extract (.t 14) 0, none⟩, ⟨(some 19), .extract (.t 14) 1, none⟩, ⟨(some 5), .mov (.t 18), none⟩, ⟨(some 6), .mov (.t 19), none⟩]) (
  .seq (
   .ops [⟨(some 20), .mov (.t 6), none⟩, ⟨(some 21), .un .not (.t 20), none⟩]) (
  .cond (.t 21) (
   .seq (
    .ops [⟨(some 4), .mov (.c (.lit (.slice none 0 0))), none⟩]) (
   .ret)) (
   .skip)))) (
 .seq (
  .ops [⟨(some 22), .mkmap, none⟩, ⟨(some 23), .mov (.t 1), none⟩, ⟨none, .mapupd .string (.t 22) (.t 23) (.c (.lit (.bool true))), none⟩, ⟨(some 24), .mov (.t 22), none⟩, ⟨(some 7), .mov (.t 24), none⟩]) (
 .seq (
  .seq (
   .ops [⟨(some 25), .mov (.t 1), none⟩, ⟨(some 26), .bslice (t_string N) 1 none 1 [(.lit (.string (mkS [])))] [(0, 1, (.t 25))], none⟩, ⟨(some 8), .mov (.t 26), none⟩]) (
  .block 0 (
   .loop (L_p_deps_Net_Cone_1 N)))) (K_p_deps_Net_Cone_1 N)))), false⟩

def L_p_deps_Net_Missing_2 (N : Nat → Nat) : AC :=
        .seq (
         .ops [⟨(some 26), .bin .lss (.t 25) (.t 24), none⟩]) (
        .seq (
         .cond (.t 26) (
          .skip) (
          .exit 2)) (
        .seq (
         .block 3 (
          .seq (
           .ops [⟨(some 27), .iaddr 1 (.t 23) (.t 25), none⟩, ⟨(some 28), .load none (.t 27), none⟩, ⟨(some 7), .mov (.t 28), none⟩]) (
          .seq (
           .ops [⟨(some 30), .mov (.t 0), none⟩, ⟨(some 31), .nilchk (.t 30), none⟩, ⟨(some 32), .faddr 0 (.t 31), none⟩, ⟨(some 33), .load none (.t 32), none⟩, ⟨(some 34), .mov (.t 7), none⟩, ⟨(some 35), .lookup .string (.lit (.slice none 0 0)) (.t 33) (.t 34) true, none⟩, ⟨(some 29), .mov (.t 35), none⟩, ⟨(some 36), .extract (.t 29) 0, none⟩, ⟨(some 37), .extract (.t 29) 1, none⟩, ⟨(some 8), .mov (.t 36), none⟩, ⟨(some 9), .mov (.t 37), none⟩]) (
          .seq (
           .ops [⟨(some 38), .mov (.t 9), none⟩, ⟨(some 39), .un .not (.t 38), none⟩]) (
          .cond (.t 39) (
           .ops [⟨(some 40), .mov (.t 3), none⟩, ⟨(some 41), .mov (.t 7), none⟩, ⟨none, .mapupd .string (.t 40) (.t 41) (.c (.lit (.bool true))), none⟩]) (
           .skip)))))) (
        .ops [⟨(some 42), .bin .add (.t 25) (.c (.lit (.int .i64 1))), none⟩, ⟨(some 25), .mov (.t 42), none⟩])))
def K_p_deps_Net_Missing_1 (N : Nat → Nat) : AC :=
 .ops [⟨(some 43), .bin .add (.t 14) (.c (.lit (.int .i64 1))), none⟩, ⟨(some 14), .mov (.t 43), none⟩]
def L_p_deps_Net_Missing_1 (N : Nat → Nat) : AC :=
    .seq (
     .ops [⟨(some 15), .bin .lss (.t 14) (.t 13), none⟩]) (
    .seq (
     .cond (.t 15) (
      .skip) (
      .exit 0)) (
    .seq (
     .block 1 (
      .seq (
       .ops [⟨(some 16), .iaddr 1 (.t 12) (.t 14), none⟩, ⟨(some 17), .load none (.t 16), none⟩, ⟨(some 5), .mov (.t 17), none⟩]) (
      .seq (
       .ops [⟨(some 18), .mov (.t 0), none⟩, ⟨(some 19), .nilchk (.t 18), none⟩, ⟨(some 20), .faddr 0 (.t 19), none⟩, ⟨(some 21), .load none (.t 20), none⟩, ⟨(some 22), .mov (.t 5), none⟩, ⟨(some 23), .lookup .string (.lit (.slice none 0 0)) (.t 21) (.t 22) false, none⟩, ⟨(some 24), .len (.t 23), none⟩, ⟨(some 25), .mov (.c (.lit (.int .i64 0))), none⟩]) (
      .block 2 (
       .loop (L_p_deps_Net_Missing_2 N)))))) (K_p_deps_Net_Missing_1 N)))
def K_p_deps_Net_Missing_2 (N : Nat → Nat) : AC :=
 .seq (
  .ops [⟨(some 44), .mov (.t 3), none⟩, ⟨(some 45), .call (.c (.fn (f_maps_Keys_map_string_bool_string_bool N) [] [])) [(.t 44)], none⟩, ⟨(some 46), .call (.c (.fn (f_slices_Sorted_string N) [] [])) [(.t 45)], none⟩, ⟨(some 2), .mov (.t 46), none⟩]) (
 .ret)
/-- (*azimuth/deps.Net).Missing -/
def C_p_deps_Net_Missing (N : Nat → Nat) : AFunc := ⟨47, [.inl 2],
 .seq (
  .ops [⟨(some 2), .mov (.c (.lit (.slice none 0 0))), none⟩]) (
 .seq (
  .ops [⟨(some 10), .mkmap, none⟩, ⟨(some 3), .mov (.t 10), none⟩]) (
 .seq (
  .seq (
   .ops [⟨(some 11), .mov (.t 0), none⟩, ⟨(some 12), .call (.c (.fn (f_p_deps_Net_Names N) [] [])) [(.t 11)], none⟩, ⟨(some 13), .len (.t 12), none⟩, ⟨(some 14), .mov (.c (.lit (.int .i64 0))), none⟩]) (
  .block 0 (
   .loop (L_p_deps_Net_Missing_1 N)))) (K_p_deps_Net_Missing_2 N))), false⟩

/-- (*azimuth/deps.Net).Names -/
def C_p_deps_Net_Names (N : Nat → Nat) : AFunc := ⟨11, [.inl 2],
 .seq (
  .ops [⟨(some 2), .mov (.c (.lit (.slice none 0 0))), none⟩]) (
 .seq (
  .seq (
   .ops [⟨(some 3), .mov (.t 0), none⟩, ⟨(some 4), .eq false .pptr (.t 3) (.c (.lit (.pointer none))), none⟩]) (
  .cond (.t 4) (
   .seq (
    .ops [⟨(some 2), .mov (.c (.lit (.slice none 0 0))), none⟩]) (
   .ret)) (
   .skip))) (
 .seq (
  .ops [⟨(some 5), .mov (.t 0), none⟩, ⟨(some 6), .nilchk (.t 5), none⟩, ⟨(some 7), .faddr 0 (.t 6), none⟩, ⟨(some 8), .load none (.t 7), none⟩, ⟨(some 9), .call (.c (.fn (f_maps_Keys_map_string_sl_string_string_sl_string N) [] [])) [(.t 8)], none⟩, ⟨(some 10), .call (.c (.fn (f_slices_Sorted_string N) [] [])) [(.t 9)], none⟩, ⟨(some 2), .mov (.t 10), none⟩]) (
 .ret))), false⟩

/-- (*azimuth/deps.Net).On -/
def C_p_deps_Net_On (N : Nat → Nat) : AFunc := ⟨22, [.inl 4, .inl 5],
 .seq (
  .ops [⟨(some 4), .mov (.c (.lit (.slice none 0 0))), none⟩, ⟨(some 5), .mov (.c (.lit (.bool false))), none⟩]) (
 .seq (
  .seq (
   .ops [⟨(some 8), .mov (.t 0), none⟩, ⟨(some 9), .eq false .pptr (.t 8) (.c (.lit (.pointer none))), none⟩]) (
  .cond (.t 9) (
   .seq (
    .ops [⟨(some 4), .mov (.c (.lit (.slice none 0 0))), none⟩, ⟨(some 5), .mov (.c (.lit (.bool false))), none⟩]) (
   .ret)) (
   .skip))) (
 .seq (
  .ops [⟨(some 11), .mov (.t 0), none⟩, ⟨(some 12), .nilchk (.t 11), none⟩, ⟨(some 13), .faddr 0 (.t 12), none⟩, ⟨(some 14), .load none (.t 13), none⟩, ⟨(some 15), .mov (.t 1), none⟩, ⟨(some 16), .lookup .string (.lit (.slice none 0 0)) (.t 14) (.t 15) true, none⟩, ⟨(some 10), .mov (.t 16), none⟩, ⟨(some 17), .extract (.t 10) 0, none⟩, ⟨(some 18), .extract (.t 10) 1, none⟩, ⟨(some 6), .mov (.t 17), none⟩, ⟨(some 7), .mov (.t 18), none⟩]) (
 .seq (
  .ops [⟨(some 19), .mov (.t 6), none⟩, ⟨(some 20), .call (.c (.fn (f_slices_Clone_sl_string_string N) [] [])) [(.t 19)], none⟩, ⟨(some 21), .mov (.t 7), none⟩, ⟨(some 4), .mov (.t 20), none⟩, ⟨(some 5), .mov (.t 21), none⟩]) (
 .ret)))), false⟩

/-- (*azimuth/deps.Net).Put -/
def C_p_deps_Net_Put (N : Nat → Nat) : AFunc := ⟨28, [.inl 6],
 .seq (
  .ops [⟨(some 6), .mov (.c (.lit (.int .i64 0))), none⟩]) (
 .seq (
  .seq (
   .ops [⟨(some 8), .mov (.t 0), none⟩, ⟨(some 9), .eq false .pptr (.t 8) (.c (.lit (.pointer none))), none⟩]) (
  .cond (.t 9) (
   .seq (
    .ops [⟨(some 6), .mov (.c (.lit (.int .i64 1))), none⟩]) (
   .ret)) (
   .skip))) (
 .seq (
  .seq (
   .ops [⟨(some 10), .mov (.t 1), none⟩, ⟨(some 11), .call (.c (.fn (f_lexer_IsName N) [] [])) [(.t 10)], none⟩, ⟨(some 12), .un .not (.t 11), none⟩, ⟨(some 13), .mov (.t 12), none⟩, ⟨(some 14), .mov (.t 2), (some (13, false))⟩, ⟨(some 15), .call (.c (.fn (f_slices_ContainsFunc_sl_string_string N) [] [])) [(.t 14), (.c (.fn (f_p_deps_Net_Put_1 N) [] []))], (some (13, false))⟩, ⟨(some 16), .pick (.t 13) (.c (.lit (.bool true))) (.t 15), none⟩]) (
  .cond (.t 16) (
   .seq (
    .ops [⟨(some 6), .mov (.c (.lit (.int .i64 7))), none⟩]) (
   .ret)) (
   .skip))) (
 .seq (
  .ops [⟨(some 17), .mov (.t 2), none⟩, ⟨(some 18), .call (.c (.fn (f_slices_Clone_sl_string_string N) [] [])) [(.t 17)], none⟩, ⟨(some 7), .mov (.t 18), none⟩]) (
 .seq (
  .ops [⟨(some 19), .mov (.t 7), none⟩, ⟨(some 20), .call (.c (.fn (f_slices_Sort_sl_string_string N) [] [])) [(.t 19)], none⟩]) (
 .seq (
  .dops 7 [⟨(some 21), .mov (.t 0), none⟩, ⟨(some 22), .nilchk (.t 21), none⟩, ⟨(some 23), .faddr 0 (.t 22), none⟩, ⟨(some 24), .load none (.t 23), none⟩, ⟨(some 25), .mov (.t 1), none⟩, ⟨(some 26), .mov (.t 7), none⟩, ⟨(some 27), .call (.c (.fn (f_slices_Compact_sl_string_string N) [] [])) [(.t 26)], none⟩, ⟨none, .mapupd .string (.t 24) (.t 25) (.t 27), none⟩] [0, 0, 0, 0, 0, 0, 1, 0] []) (
 .seq (
  .ops [⟨(some 6), .mov (.c (.lit (.int .i64 0))), none⟩]) (
 .ret))))))), false⟩

/-- (*azimuth/deps.Net).Put$1 -/
def C_p_deps_Net_Put_1 (N : Nat → Nat) : AFunc := ⟨6, [.inl 2],
 .seq (
  .ops [⟨(some 2), .mov (.c (.lit (.bool false))), none⟩]) (
 .seq (
  .ops [⟨(some 3), .mov (.t 0), none⟩, ⟨(some 4), .call (.c (.fn (f_lexer_IsName N) [] [])) [(.t 3)], none⟩, ⟨(some 5), .un .not (.t 4), none⟩, ⟨(some 2), .mov (.t 5), none⟩]) (
 .ret)), false⟩

/-- (*azimuth/deps.Net).Users -/
def C_p_deps_Net_Users (N : Nat → Nat) : AFunc := ⟨9, [.inl 4],
 .seq (
  .ops [⟨(some 2), .box (t_p_deps_Net N) (.t 0), none⟩, ⟨(some 3), .box (t_string N) (.t 1), none⟩, ⟨(some 4), .mov (.c (.lit (.slice none 0 0))), none⟩]) (
 .seq (
  .ops [⟨(some 5), .load none (.t 2), none⟩, ⟨(some 6), .call (.c (.fn (f_p_deps_Net_Names N) [] [])) [(.t 5)], none⟩, ⟨(some 7), .mkfn (f_p_deps_Net_Users_1 N) [] [(.t 2), (.t 3)], none⟩, ⟨(some 8), .call (.c (.fn (f_slices_DeleteFunc_sl_string_string N) [] [])) [(.t 6), (.t 7)], none⟩, ⟨(some 4), .mov (.t 8), none⟩]) (
 .ret)), false⟩

/-- (*azimuth/deps.Net).Users$1 -/
def C_p_deps_Net_Users_1 (N : Nat → Nat) : AFunc := ⟨14, [.inl 4],
 .seq (
  .ops [⟨(some 4), .mov (.c (.lit (.bool false))), none⟩]) (
 .seq (
  .dops 1 [⟨(some 5), .load none (.t 1), none⟩, ⟨(some 6), .nilchk (.t 5), none⟩, ⟨(some 7), .faddr 0 (.t 6), none⟩, ⟨(some 8), .load none (.t 7), none⟩, ⟨(some 9), .mov (.t 0), none⟩, ⟨(some 10), .lookup .string (.lit (.slice none 0 0)) (.t 8) (.t 9) false, none⟩, ⟨(some 11), .load none (.t 2), none⟩, ⟨(some 12), .call (.c (.fn (f_slices_Contains_sl_string_string N) [] [])) [(.t 10), (.t 11)], none⟩, ⟨(some 13), .un .not (.t 12), none⟩, ⟨(some 4), .mov (.t 13), none⟩] [2, 0, 0, 2, 0, 2, 2, 0, 0, 0] []) (
 .ret)), false⟩

/-- azimuth/deps.New -/
def C_deps_New (N : Nat → Nat) : AFunc := ⟨4, [.inl 0],
 .seq (
  .ops [⟨(some 0), .mov (.c (.lit (.pointer none))), none⟩]) (
 .seq (
  .ops [⟨(some 1), .mkmap, none⟩, ⟨(some 2), .build [(.lit (.map none))] [(0, 1, (.t 1))], none⟩, ⟨(some 3), .box (t_deps_Net N) (.t 2), none⟩, ⟨(some 0), .mov (.t 3), none⟩]) (
 .ret)), false⟩

def L_deps_Of_1 (N : Nat → Nat) : AC :=
    .seq (
     .ops [⟨(some 4), .mov (.t 12), none⟩]) (
    .ops [⟨(some 5), .mov (.t 13), none⟩])
def L_deps_Of_2 (N : Nat → Nat) : AC :=
    .block 1 (
     .seq (
      .ops [⟨(some 6), .mov (.c (.lit (.slice none 0 0))), none⟩]) (
     .seq (
      .seq (
       .ops [⟨(some 15), .mov (.t 5), none⟩, ⟨(some 16), .call (.c (.fn (f_parse_Text N) [] [])) [(.t 15)], none⟩, ⟨(some 14), .mov (.t 16), none⟩, ⟨(some 17), .extract (.t 14) 0, none⟩, ⟨(some 18), .extract (.t 14) 1, none⟩, ⟨(some 7), .new (t_api_Tree N) (.agg [(.lit (.slice none 0 0)), (.lit (.slice none 0 0)), (.lit (.slice none 0 0))]), none⟩, ⟨(some 8), .new (t_api_Diag N) (.agg [(.lit (.int .i64 0)), (.lit (.int .i64 0)), (.lit (.string (mkS [])))]), none⟩, ⟨none, .store 3 (.t 7) (.t 17), none⟩, ⟨none, .store 3 (.t 8) (.t 18), none⟩]) (
      .seq (
       .ops [⟨(some 19), .faddr 0 (.t 8), none⟩, ⟨(some 20), .load none (.t 19), none⟩, ⟨(some 21), .eq false .pint (.t 20) (.c (.lit (.int .i64 0))), none⟩]) (
      .cond (.t 21) (
       .ops [⟨(some 22), .load (some 3) (.t 7), none⟩, ⟨(some 23), .call (.c (.fn (f_scope_Free N) [] [])) [(.t 22)], none⟩, ⟨(some 6), .mov (.t 23), none⟩]) (
       .skip)))) (
     .ops [⟨(some 24), .load none (.t 3), none⟩, ⟨(some 25), .nilchk (.t 24), none⟩, ⟨(some 26), .faddr 0 (.t 25), none⟩, ⟨(some 27), .load none (.t 26), none⟩, ⟨(some 28), .mov (.t 4), none⟩, ⟨(some 29), .mov (.t 6), none⟩, ⟨none, .mapupd .string (.t 27) (.t 28) (.t 29), none⟩])))
def K_deps_Of_1 (N : Nat → Nat) : AC :=
 .seq (
  .ops [⟨(some 30), .load none (.t 3), none⟩, ⟨(some 2), .mov (.t 30), none⟩]) (
 .ret)
/-- azimuth/deps.Of -/
def C_deps_Of (N : Nat → Nat) : AFunc := ⟨31, [.inl 2],
 .seq (
  .ops [⟨(some 2), .mov (.c (.lit (.pointer none))), none⟩]) (
 .seq (
  .ops [⟨(some 9), .call (.c (.fn (f_deps_New N) [] [])) [], none⟩, ⟨(some 3), .new (t_p_deps_Net N) (.lit (.pointer none)), none⟩, ⟨none, .store 1 (.t 3) (.t 9), none⟩]) (
 .seq (
  .seq (
   .ops [⟨(some 10), .mov (.t 0), none⟩, ⟨(some 11), .call (.c (.fn (f_p_store_Store_All N) [] [])) [(.t 10)], none⟩]) (
  .block 0 (
   .rangeFn (.t 11) [12, 13] (L_deps_Of_1 N) (L_deps_Of_2 N)))) (K_deps_Of_1 N))), false⟩
end Go.Proofs.Eng
/- Templates of functions, as the engine takes them; numbers of functions and types by names. Printed by tm.py. -/
set_option linter.unusedVariables false
set_option maxRecDepth 100000
namespace Go.Proofs.Eng
open Go

def L_law07_Same_1 (N : Nat → Nat) : AC :=
    .seq (
     .ops [⟨(some 14), .bin .lss (.t 13) (.t 12), none⟩]) (
    .seq (
     .cond (.t 14) (
      .skip) (
      .exit 0)) (
    .seq (
     .block 1 (
      .seq (
       .ops [⟨(some 15), .mov (.t 13), none⟩, ⟨(some 5), .mov (.t 15), none⟩]) (
      .seq (
       .dops 6 [⟨(some 16), .mov (.t 0), none⟩, ⟨(some 17), .mov (.t 5), none⟩, ⟨(some 18), .iaddr 1 (.t 16) (.t 17), none⟩, ⟨(some 19), .load none (.t 18), none⟩, ⟨(some 20), .mov (.t 1), none⟩, ⟨(some 21), .mov (.t 5), none⟩, ⟨(some 22), .iaddr 1 (.t 20) (.t 21), none⟩, ⟨(some 23), .load none (.t 22), none⟩, ⟨(some 24), .eq true .pstr (.t 19) (.t 23), none⟩] [0, 0, 0, 2, 0, 0, 0, 2, 0] []) (
      .cond (.t 24) (
       .seq (
        .ops [⟨(some 4), .mov (.c (.lit (.bool false))), none⟩]) (
       .ret)) (
       .skip))))) (
    .ops [⟨(some 25), .bin .add (.t 13) (.c (.lit (.int .i64 1))), none⟩, ⟨(some 13), .mov (.t 25), none⟩])))
def K_law07_Same_1 (N : Nat → Nat) : AC :=
 .seq (
  .ops [⟨(some 4), .mov (.c (.lit (.bool true))), none⟩]) (
 .ret)
/-- azimuth/azimuthlaw07.Same -/
def C_law07_Same (N : Nat → Nat) : AFunc := ⟨26, [.inl 4],
 .seq (
  .ops [⟨(some 4), .mov (.c (.lit (.bool false))), none⟩]) (
 .seq (
  .seq (
   .ops [⟨(some 6), .mov (.t 0), none⟩, ⟨(some 7), .len (.t 6), none⟩, ⟨(some 8), .mov (.t 1), none⟩, ⟨(some 9), .len (.t 8), none⟩, ⟨(some 10), .eq true .pint (.t 7) (.t 9), none⟩]) (
  .cond (.t 10) (
   .seq (
    .ops [⟨(some 4), .mov (.c (.lit (.bool false))), none⟩]) (
   .ret)) (
   .skip))) (
 .seq (
  .seq (
   .ops [⟨(some 11), .mov (.t 0), none⟩, ⟨(some 12), .len (.t 11), none⟩, ⟨(some 13), .mov (.c (.lit (.int .i64 0))), none⟩]) (
  .block 0 (
   .loop (L_law07_Same_1 N)))) (K_law07_Same_1 N))), false⟩

/-- azimuth/azimuthlaw24.DepsNone -/
def C_law24_DepsNone (N : Nat → Nat) : AFunc := ⟨54, [.inl 2],
 .seq (
  .ops [⟨(some 2), .mov (.c (.lit (.bool false))), none⟩]) (
 .seq (
  .seq (
   .ops [⟨(some 6), .call (.c (.fn (f_law24_lives N) [] [])) [], none⟩, ⟨(some 7), .un .not (.t 6), none⟩, ⟨(some 8), .mov (.t 7), none⟩, ⟨(some 9), .mov (.t 0), (some (8, false))⟩, ⟨(some 10), .lens (.t 9), (some (8, false))⟩, ⟨(some 11), .bin .gtr (.t 10) (.c (.lit (.int .i64 100))), (some (8, false))⟩, ⟨(some 12), .pick (.t 8) (.c (.lit (.bool true))) (.t 11), none⟩]) (
  .cond (.t 12) (
   .seq (
    .ops [⟨(some 13), .call (.c (.fn (f_law24_lives N) [] [])) [], none⟩, ⟨(some 2), .mov (.t 13), none⟩]) (
   .ret)) (
   .skip))) (
 .seq (
  .ops [⟨(some 3), .mov (.c (.lit (.pointer none))), none⟩]) (
 .seq (
  .ops [⟨(some 15), .mov (.t 3), none⟩, ⟨(some 16), .mov (.t 0), none⟩, ⟨(some 17), .call (.c (.fn (f_p_deps_Net_On N) [] [])) [(.t 15), (.t 16)], none⟩, ⟨(some 14), .mov (.t 17), none⟩, ⟨(some 18), .extract (.t 14) 0, none⟩, ⟨(some 19), .extract (.t 14) 1, none⟩, ⟨(some 4), .mov (.t 18), none⟩, ⟨(some 5), .mov (.t 19), none⟩]) (
 .seq (
  .ops [⟨(some 20), .mov (.t 3), none⟩, ⟨(some 21), .mov (.t 0), none⟩, ⟨(some 22), .call (.c (.fn (f_p_deps_Net_Put N) [] [])) [(.t 20), (.t 21), (.c (.lit (.slice none 0 0)))], none⟩, ⟨(some 23), .eq false .pint (.t 22) (.c (.lit (.int .i64 1))), none⟩, ⟨(some 24), .mov (.t 23), none⟩, ⟨(some 25), .mov (.t 5), (some (24, true))⟩, ⟨(some 26), .un .not (.t 25), (some (24, true))⟩, ⟨(some 27), .pick (.t 24) (.t 26) (.c (.lit (.bool false))), none⟩, ⟨(some 28), .mov (.t 27), none⟩, ⟨(some 29), .mov (.t 3), (some (28, true))⟩, ⟨(some 30), .call (.c (.fn (f_p_deps_Net_Names N) [] [])) [(.t 29)], (some (28, true))⟩, ⟨(some 31), .len (.t 30), (some (28, true))⟩, ⟨(some 32), .mov (.t 3), (some (28, true))⟩, ⟨(some 33), .call (.c (.fn (f_p_deps_Net_Missing N) [] [])) [(.t 32)], (some (28, true))⟩, ⟨(some 34), .len (.t 33), (some (28, true))⟩, ⟨(some 35), .bin .add (.t 31) (.t 34), (some (28, true))⟩, ⟨(some 36), .mov (.t 3), (some (28, true))⟩, ⟨(some 37), .mov (.t 0), (some (28, true))⟩, ⟨(some 38), .call (.c (.fn (f_p_deps_Net_Users N) [] [])) [(.t 36), (.t 37)], (some (28, true))⟩, ⟨(some 39), .len (.t 38), (some (28, true))⟩, ⟨(some 40), .bin .add (.t 35) (.t 39), (some (28, true))⟩, ⟨(some 41), .mov (.t 3), (some (28, true))⟩, ⟨(some 42), .mov (.t 0), (some (28, true))⟩, ⟨(some 43), .call (.c (.fn (f_p_deps_Net_Cone N) [] [])) [(.t 41), (.t 42)], (some (28, true))⟩, ⟨(some 44), .len (.t 43), (some (28, true))⟩, ⟨(some 45), .bin .add (.t 40) (.t 44), (some (28, true))⟩, ⟨(some 46), .eq false .pint (.t 45) (.c (.lit (.int .i64 0))), (some (28, true))⟩, ⟨(some 47), .pick (.t 28) (.t 46) (.c (.lit (.bool false))), none⟩, ⟨(some 48), .mov (.t 47), none⟩, ⟨(some 49), .call (.c (.fn (f_deps_Of N) [] [])) [(.c (.lit (.pointer none)))], (some (48, true))⟩, ⟨(some 50), .call (.c (.fn (f_p_deps_Net_Names N) [] [])) [(.t 49)], (some (48, true))⟩, ⟨(some 51), .len (.t 50), (some (48, true))⟩, ⟨(some 52), .eq false .pint (.t 51) (.c (.lit (.int .i64 0))), (some (48, true))⟩, ⟨(some 53), .pick (.t 48) (.t 52) (.c (.lit (.bool false))), none⟩, ⟨(some 2), .mov (.t 53), none⟩]) (
 .ret))))), false⟩

/-- azimuth/azimuthlaw24.lives -/
def C_law24_lives (N : Nat → Nat) : AFunc := ⟨28, [.inl 0],
 .seq (
  .ops [⟨(some 0), .mov (.c (.lit (.bool false))), none⟩]) (
 .seq (
  .ops [⟨(some 4), .call (.c (.fn (f_deps_New N) [] [])) [], none⟩, ⟨(some 1), .mov (.t 4), none⟩]) (
 .seq (
  .ops [⟨(some 5), .mov (.t 1), none⟩, ⟨(some 6), .bslice (t_string N) 1 none 2 [(.lit (.string (mkS [])))] [(0, 1, (.c (.lit (.string (mkS [99]))))), (1, 1, (.c (.lit (.string (mkS [98])))))], none⟩, ⟨(some 7), .call (.c (.fn (f_p_deps_Net_Put N) [] [])) [(.t 5), (.c (.lit (.string (mkS [97])))), (.t 6)], none⟩, ⟨(some 2), .mov (.t 7), none⟩]) (
 .seq (
  .ops [⟨(some 8), .mov (.t 1), none⟩, ⟨(some 9), .call (.c (.fn (f_p_deps_Net_Put N) [] [])) [(.t 8), (.c (.lit (.string (mkS [98])))), (.c (.lit (.slice none 0 0)))], none⟩, ⟨(some 3), .mov (.t 9), none⟩]) (
 .seq (
  .ops [⟨(some 10), .mov (.t 2), none⟩, ⟨(some 11), .eq false .pint (.t 10) (.c (.lit (.int .i64 0))), none⟩, ⟨(some 12), .mov (.t 11), none⟩, ⟨(some 13), .mov (.t 3), (some (12, true))⟩, ⟨(some 14), .eq false .pint (.t 13) (.c (.lit (.int .i64 0))), (some (12, true))⟩, ⟨(some 15), .pick (.t 12) (.t 14) (.c (.lit (.bool false))), none⟩, ⟨(some 16), .mov (.t 15), none⟩, ⟨(some 17), .mov (.t 1), (some (16, true))⟩, ⟨(some 18), .call (.c (.fn (f_p_deps_Net_Cone N) [] [])) [(.t 17), (.c (.lit (.string (mkS [97]))))], (some (16, true))⟩, ⟨(some 19), .bslice (t_string N) 1 none 2 [(.lit (.string (mkS [])))] [(0, 1, (.c (.lit (.string (mkS [97]))))), (1, 1, (.c (.lit (.string (mkS [98])))))], (some (16, true))⟩, ⟨(some 20), .call (.c (.fn (f_law07_Same N) [] [])) [(.t 18), (.t 19)], (some (16, true))⟩, ⟨(some 21), .pick (.t 16) (.t 20) (.c (.lit (.bool false))), none⟩, ⟨(some 22), .mov (.t 21), none⟩, ⟨(some 23), .mov (.t 1), (some (22, true))⟩, ⟨(some 24), .call (.c (.fn (f_p_deps_Net_Missing N) [] [])) [(.t 23)], (some (22, true))⟩, ⟨(some 25), .bslice (t_string N) 1 none 1 [(.lit (.string (mkS [])))] [(0, 1, (.c (.lit (.string (mkS [99])))))], (some (22, true))⟩, ⟨(some 26), .call (.c (.fn (f_law07_Same N) [] [])) [(.t 24), (.t 25)], (some (22, true))⟩, ⟨(some 27), .pick (.t 22) (.t 26) (.c (.lit (.bool false))), none⟩, ⟨(some 0), .mov (.t 27), none⟩]) (
 .ret))))), false⟩
end Go.Proofs.Eng
