/- The resolved functions, as the engine takes them, and that they are the program's. -/
import Derived.Test.YtchbifaiofljdaaProg
import Derived.Test.YtchbifaiofljdaaEngX
import Derived.KernelRfl
set_option linter.unusedVariables false
set_option maxRecDepth 100000
namespace Go.Proofs.Y2
open Go Go.Proofs.Eng

/-- azimuth/azimuthlaw23.StoreNone -/
def A11 : AFunc := ⟨63, [.inl 2],
 .seq (
  .ops [⟨(some 2), .mov (.c (.lit (.bool false))), none⟩]) (
 .seq (
  .seq (
   .ops [⟨(some 7), .call (.c (.fn 12 [] [])) [], none⟩, ⟨(some 8), .un .not (.t 7), none⟩, ⟨(some 9), .mov (.t 8), none⟩, ⟨(some 10), .mov (.t 0), (some (9, false))⟩, ⟨(some 11), .lens (.t 10), (some (9, false))⟩, ⟨(some 12), .bin .gtr (.t 11) (.c (.lit (.int .i64 100))), (some (9, false))⟩, ⟨(some 13), .pick (.t 9) (.c (.lit (.bool true))) (.t 12), none⟩]) (
  .cond (.t 13) (
   .seq (
    .ops [⟨(some 14), .call (.c (.fn 12 [] [])) [], none⟩, ⟨(some 2), .mov (.t 14), none⟩]) (
   .ret)) (
   .skip))) (
 .seq (
  .ops [⟨(some 3), .mov (.c (.lit (.pointer none))), none⟩]) (
 .seq (
  .ops [⟨(some 16), .mov (.t 3), none⟩, ⟨(some 17), .mov (.t 0), none⟩, ⟨(some 18), .call (.c (.fn 29 [] [])) [(.t 16), (.t 17)], none⟩, ⟨(some 15), .mov (.t 18), none⟩, ⟨(some 19), .extract (.t 15) 0, none⟩, ⟨(some 20), .extract (.t 15) 1, none⟩, ⟨(some 4), .mov (.t 19), none⟩, ⟨(some 5), .mov (.t 20), none⟩]) (
 .seq (
  .ops [⟨(some 6), .new 3 (.lit (.int .i64 0)), none⟩, ⟨none, .store 1 (.t 6) (.c (.lit (.int .i64 0))), none⟩]) (
 .seq (
  .seq (
   .ops [⟨(some 21), .mov (.t 3), none⟩, ⟨(some 22), .call (.c (.fn 30 [] [])) [(.t 21)], none⟩]) (
  .block 0 (
   .rangeFn (.t 22) [23, 24] (
    .skip) (
    .block 1 (
     .ops [⟨(some 25), .load none (.t 6), none⟩, ⟨(some 26), .bin .add (.t 25) (.c (.lit (.int .i64 1))), none⟩, ⟨none, .store 1 (.t 6) (.t 26), none⟩]))))) (
 .seq (
  .dops 8 [⟨(some 27), .mov (.t 3), none⟩, ⟨(some 28), .mov (.t 0), none⟩, ⟨(some 29), .call (.c (.fn 14 [] [])) [(.t 27), (.t 28), (.c (.lit (.slice none 0 0)))], none⟩, ⟨(some 30), .eq false .pint (.t 29) (.c (.lit (.int .i64 1))), none⟩, ⟨(some 31), .mov (.t 30), none⟩, ⟨(some 32), .mov (.t 3), (some (31, true))⟩, ⟨(some 33), .mov (.t 0), (some (31, true))⟩, ⟨(some 34), .call (.c (.fn 15 [] [])) [(.t 32), (.t 33)], (some (31, true))⟩, ⟨(some 35), .eq false .pint (.t 34) (.c (.lit (.int .i64 1))), (some (31, true))⟩, ⟨(some 36), .pick (.t 31) (.t 35) (.c (.lit (.bool false))), none⟩, ⟨(some 37), .mov (.t 36), none⟩, ⟨(some 38), .mov (.t 3), (some (37, true))⟩, ⟨(some 39), .mov (.t 0), (some (37, true))⟩, ⟨(some 40), .mov (.t 0), (some (37, true))⟩, ⟨(some 41), .call (.c (.fn 25 [] [])) [(.t 38), (.t 39), (.t 40)], (some (37, true))⟩, ⟨(some 42), .eq false .pint (.t 41) (.c (.lit (.int .i64 1))), (some (37, true))⟩, ⟨(some 43), .pick (.t 37) (.t 42) (.c (.lit (.bool false))), none⟩, ⟨(some 44), .mov (.t 43), none⟩, ⟨(some 45), .mov (.t 5), (some (44, true))⟩, ⟨(some 46), .un .not (.t 45), (some (44, true))⟩, ⟨(some 47), .pick (.t 44) (.t 46) (.c (.lit (.bool false))), none⟩, ⟨(some 48), .mov (.t 47), none⟩, ⟨(some 49), .load none (.t 6), (some (48, true))⟩, ⟨(some 50), .mov (.t 3), (some (48, true))⟩, ⟨(some 51), .call (.c (.fn 31 [] [])) [(.t 50)], (some (48, true))⟩, ⟨(some 52), .bin .add (.t 49) (.t 51), (some (48, true))⟩, ⟨(some 53), .mov (.t 3), (some (48, true))⟩, ⟨(some 54), .call (.c (.fn 27 [] [])) [(.t 53)], (some (48, true))⟩, ⟨(some 55), .bin .add (.t 52) (.t 54), (some (48, true))⟩, ⟨(some 56), .eq false .pint (.t 55) (.c (.lit (.int .i64 0))), (some (48, true))⟩, ⟨(some 57), .pick (.t 48) (.t 56) (.c (.lit (.bool false))), none⟩, ⟨(some 58), .mov (.t 57), none⟩, ⟨(some 59), .mov (.t 3), (some (58, true))⟩, ⟨(some 60), .call (.c (.fn 28 [] [])) [(.t 59)], (some (58, true))⟩, ⟨(some 61), .eq false .pptr (.t 60) (.c (.lit (.pointer none))), (some (58, true))⟩, ⟨(some 62), .pick (.t 58) (.t 61) (.c (.lit (.bool false))), none⟩, ⟨(some 2), .mov (.t 62), none⟩] [0, 0, 0, 0, 0, 0, 0, 0, 0, 0, 0, 0, 0, 0, 0, 0, 0, 0, 0, 0, 0, 0, 0, 0, 1, 0, 0, 1, 0, 0, 0, 0, 0, 0, 0, 0, 0] []) (
 .ret)))))))⟩

/-- azimuth/azimuthlaw23.lives -/
def A12 : AFunc := ⟨37, [.inl 0],
 .seq (
  .ops [⟨(some 0), .mov (.c (.lit (.bool false))), none⟩]) (
 .seq (
  .ops [⟨(some 6), .call (.c (.fn 13 [] [])) [], none⟩, ⟨(some 1), .mov (.t 6), none⟩]) (
 .seq (
  .ops [⟨(some 7), .mov (.t 1), none⟩, ⟨(some 8), .bslice 5 1 none 1 [(.lit (.int .u8 0))] [(0, 1, (.c (.lit (.int .u8 49))))], none⟩, ⟨(some 9), .conv .mark (.t 8), none⟩, ⟨(some 10), .call (.c (.fn 14 [] [])) [(.t 7), (.c (.lit (.string (mkS [97])))), (.t 9)], none⟩, ⟨(some 2), .mov (.t 10), none⟩]) (
 .seq (
  .ops [⟨(some 11), .mov (.t 1), none⟩, ⟨(some 12), .call (.c (.fn 25 [] [])) [(.t 11), (.c (.lit (.string (mkS [97])))), (.c (.lit (.string (mkS [98]))))], none⟩, ⟨(some 3), .mov (.t 12), none⟩]) (
 .seq (
  .ops [⟨(some 14), .mov (.t 1), none⟩, ⟨(some 15), .call (.c (.fn 29 [] [])) [(.t 14), (.c (.lit (.string (mkS [98]))))], none⟩, ⟨(some 13), .mov (.t 15), none⟩, ⟨(some 16), .extract (.t 13) 0, none⟩, ⟨(some 17), .extract (.t 13) 1, none⟩, ⟨(some 4), .mov (.t 16), none⟩, ⟨(some 5), .mov (.t 17), none⟩]) (
 .seq (
  .ops [⟨(some 18), .mov (.t 2), none⟩, ⟨(some 19), .eq false .pint (.t 18) (.c (.lit (.int .i64 0))), none⟩, ⟨(some 20), .mov (.t 19), none⟩, ⟨(some 21), .mov (.t 3), (some (20, true))⟩, ⟨(some 22), .eq false .pint (.t 21) (.c (.lit (.int .i64 0))), (some (20, true))⟩, ⟨(some 23), .pick (.t 20) (.t 22) (.c (.lit (.bool false))), none⟩, ⟨(some 24), .mov (.t 23), none⟩, ⟨(some 25), .mov (.t 5), (some (24, true))⟩, ⟨(some 26), .pick (.t 24) (.t 25) (.c (.lit (.bool false))), none⟩, ⟨(some 27), .mov (.t 26), none⟩, ⟨(some 28), .mov (.t 4), (some (27, true))⟩, ⟨(some 29), .conv .str (.t 28), (some (27, true))⟩, ⟨(some 30), .eq false .pstr (.t 29) (.c (.lit (.string (mkS [49])))), (some (27, true))⟩, ⟨(some 31), .pick (.t 27) (.t 30) (.c (.lit (.bool false))), none⟩, ⟨(some 32), .mov (.t 31), none⟩, ⟨(some 33), .mov (.t 1), (some (32, true))⟩, ⟨(some 34), .call (.c (.fn 27 [] [])) [(.t 33)], (some (32, true))⟩, ⟨(some 35), .eq false .pint (.t 34) (.c (.lit (.int .i64 2))), (some (32, true))⟩, ⟨(some 36), .pick (.t 32) (.t 35) (.c (.lit (.bool false))), none⟩, ⟨(some 0), .mov (.t 36), none⟩]) (
 .ret))))))⟩

/-- azimuth/store.New -/
def A13 : AFunc := ⟨4, [.inl 0],
 .seq (
  .ops [⟨(some 0), .mov (.c (.lit (.pointer none))), none⟩]) (
 .seq (
  .ops [⟨(some 1), .mkmap, none⟩, ⟨(some 2), .build [(.lit (.map none)), (.lit (.int .i64 0))] [(0, 1, (.t 1))], none⟩, ⟨(some 3), .box 58 (.t 2), none⟩, ⟨(some 0), .mov (.t 3), none⟩]) (
 .ret))⟩

/-- (*azimuth/store.Store).Set -/
def A14 : AFunc := ⟨53, [.inl 6],
 .seq (
  .ops [⟨(some 6), .mov (.c (.lit (.int .i64 0))), none⟩]) (
 .seq (
  .seq (
   .ops [⟨(some 9), .mov (.t 0), none⟩, ⟨(some 10), .eq false .pptr (.t 9) (.c (.lit (.pointer none))), none⟩]) (
  .cond (.t 10) (
   .seq (
    .ops [⟨(some 6), .mov (.c (.lit (.int .i64 1))), none⟩]) (
   .ret)) (
   .skip))) (
 .seq (
  .ops [⟨(some 12), .mov (.t 0), none⟩, ⟨(some 13), .nilchk (.t 12), none⟩, ⟨(some 14), .faddr 0 (.t 13), none⟩, ⟨(some 15), .load none (.t 14), none⟩, ⟨(some 16), .mov (.t 1), none⟩, ⟨(some 17), .lookup .string (.lit (.slice none 0 0)) (.t 15) (.t 16) true, none⟩, ⟨(some 11), .mov (.t 17), none⟩, ⟨(some 18), .extract (.t 11) 0, none⟩, ⟨(some 19), .extract (.t 11) 1, none⟩, ⟨(some 7), .mov (.t 18), none⟩, ⟨(some 8), .mov (.t 19), none⟩]) (
 .seq (
  .block 0 (
   .seq (
    .ops [⟨(some 21), .mov (.t 1), none⟩, ⟨(some 22), .call (.c (.fn 22 [] [])) [(.t 21)], none⟩, ⟨(some 23), .un .not (.t 22), none⟩, ⟨(some 20), .mov (.t 23), none⟩]) (
   .cond (.t 20) (
    .seq (
     .ops [⟨(some 6), .mov (.c (.lit (.int .i64 7))), none⟩]) (
    .ret)) (
    .seq (
     .ops [⟨(some 25), .mov (.t 2), none⟩, ⟨(some 26), .len (.t 25), none⟩, ⟨(some 27), .bin .gtr (.t 26) (.c (.lit (.int .i64 1048576))), none⟩, ⟨(some 24), .mov (.t 27), none⟩]) (
    .cond (.t 24) (
     .seq (
      .ops [⟨(some 6), .mov (.c (.lit (.int .i64 6))), none⟩]) (
     .ret)) (
     .seq (
      .ops [⟨(some 29), .mov (.t 8), none⟩, ⟨(some 30), .un .not (.t 29), none⟩, ⟨(some 31), .mov (.t 30), none⟩, ⟨(some 32), .mov (.t 0), (some (31, true))⟩, ⟨(some 33), .nilchk (.t 32), (some (31, true))⟩, ⟨(some 34), .faddr 0 (.t 33), (some (31, true))⟩, ⟨(some 35), .load none (.t 34), (some (31, true))⟩, ⟨(some 36), .lenm (.t 35), (some (31, true))⟩, ⟨(some 37), .bin .geq (.t 36) (.c (.lit (.int .i64 256))), (some (31, true))⟩, ⟨(some 38), .pick (.t 31) (.t 37) (.c (.lit (.bool false))), none⟩, ⟨(some 28), .mov (.t 38), none⟩]) (
     .cond (.t 28) (
      .seq (
       .ops [⟨(some 6), .mov (.c (.lit (.int .i64 20))), none⟩]) (
      .ret)) (
      .skip)))))))) (
 .seq (
  .dops 10 [⟨(some 39), .mov (.t 0), none⟩, ⟨(some 40), .nilchk (.t 39), none⟩, ⟨(some 41), .faddr 0 (.t 40), none⟩, ⟨(some 42), .load none (.t 41), none⟩, ⟨(some 43), .mov (.t 1), none⟩, ⟨(some 44), .mov (.t 2), none⟩, ⟨(some 45), .call (.c (.fn 32 [] [])) [(.t 44)], none⟩, ⟨none, .mapupd .string (.t 42) (.t 43) (.t 45), none⟩] [0, 0, 0, 0, 0, 0, 1, 0] []) (
 .seq (
  .ops [⟨(some 46), .mov (.t 0), none⟩, ⟨(some 47), .nilchk (.t 46), none⟩, ⟨(some 48), .faddr 1 (.t 47), none⟩, ⟨(some 49), .load none (.t 48), none⟩, ⟨(some 50), .bin .add (.t 49) (.c (.lit (.int .i64 1))), none⟩, ⟨(some 51), .nilchk (.t 46), none⟩, ⟨(some 52), .faddr 1 (.t 51), none⟩, ⟨none, .store 1 (.t 52) (.t 50), none⟩]) (
 .seq (
  .ops [⟨(some 6), .mov (.c (.lit (.int .i64 0))), none⟩]) (
 .ret)))))))⟩

/-- (*azimuth/store.Store).Delete -/
def A15 : AFunc := ⟨32, [.inl 4],
 .seq (
  .ops [⟨(some 4), .mov (.c (.lit (.int .i64 0))), none⟩]) (
 .seq (
  .seq (
   .ops [⟨(some 7), .mov (.t 0), none⟩, ⟨(some 8), .eq false .pptr (.t 7) (.c (.lit (.pointer none))), none⟩]) (
  .cond (.t 8) (
   .seq (
    .ops [⟨(some 4), .mov (.c (.lit (.int .i64 1))), none⟩]) (
   .ret)) (
   .skip))) (
 .seq (
  .seq (
   .ops [⟨(some 10), .mov (.t 0), none⟩, ⟨(some 11), .nilchk (.t 10), none⟩, ⟨(some 12), .faddr 0 (.t 11), none⟩, ⟨(some 13), .load none (.t 12), none⟩, ⟨(some 14), .mov (.t 1), none⟩, ⟨(some 15), .lookup .string (.lit (.slice none 0 0)) (.t 13) (.t 14) true, none⟩, ⟨(some 9), .mov (.t 15), none⟩, ⟨(some 16), .extract (.t 9) 0, none⟩, ⟨(some 17), .extract (.t 9) 1, none⟩, ⟨(some 5), .mov (.t 16), none⟩, ⟨(some 6), .mov (.t 17), none⟩]) (
  .seq (
   .ops [⟨(some 18), .mov (.t 6), none⟩, ⟨(some 19), .un .not (.t 18), none⟩]) (
  .cond (.t 19) (
   .seq (
    .ops [⟨(some 4), .mov (.c (.lit (.int .i64 13))), none⟩]) (
   .ret)) (
   .skip)))) (
 .seq (
  .ops [⟨(some 20), .mov (.t 0), none⟩, ⟨(some 21), .nilchk (.t 20), none⟩, ⟨(some 22), .faddr 0 (.t 21), none⟩, ⟨(some 23), .load none (.t 22), none⟩, ⟨(some 24), .mov (.t 1), none⟩, ⟨none, .delete .string (.t 23) (.t 24), none⟩]) (
 .seq (
  .ops [⟨(some 25), .mov (.t 0), none⟩, ⟨(some 26), .nilchk (.t 25), none⟩, ⟨(some 27), .faddr 1 (.t 26), none⟩, ⟨(some 28), .load none (.t 27), none⟩, ⟨(some 29), .bin .add (.t 28) (.c (.lit (.int .i64 1))), none⟩, ⟨(some 30), .nilchk (.t 25), none⟩, ⟨(some 31), .faddr 1 (.t 30), none⟩, ⟨none, .store 1 (.t 31) (.t 29), none⟩]) (
 .seq (
  .ops [⟨(some 4), .mov (.c (.lit (.int .i64 0))), none⟩]) (
 .ret))))))⟩

/-- azimuth/lexer.IsWord -/
def A20 : AFunc := ⟨6, [.inl 2],
 .seq (
  .ops [⟨(some 2), .mov (.c (.lit (.bool false))), none⟩]) (
 .seq (
  .ops [⟨(some 3), .call (.c (.fn 39 [] [])) [], none⟩, ⟨(some 4), .mov (.t 0), none⟩, ⟨(some 5), .call (.c (.fn 38 [] [])) [(.t 3), (.t 4)], none⟩, ⟨(some 2), .mov (.t 5), none⟩]) (
 .ret))⟩

/-- azimuth/lexer.IsName -/
def A22 : AFunc := ⟨22, [.inl 2],
 .seq (
  .ops [⟨(some 2), .mov (.c (.lit (.bool false))), none⟩]) (
 .seq (
  .ops [⟨(some 3), .mov (.t 0), none⟩, ⟨(some 4), .eq true .pstr (.t 3) (.c (.lit (.string (mkS [])))), none⟩, ⟨(some 5), .mov (.t 4), none⟩, ⟨(some 6), .mov (.t 0), (some (5, true))⟩, ⟨(some 7), .sidx (.t 6) (.c (.lit (.int .i64 0))), (some (5, true))⟩, ⟨(some 8), .call (.c (.fn 40 [] [])) [(.t 7)], (some (5, true))⟩, ⟨(some 9), .pick (.t 5) (.t 8) (.c (.lit (.bool false))), none⟩, ⟨(some 10), .mov (.t 9), none⟩, ⟨(some 11), .mov (.t 0), (some (10, true))⟩, ⟨(some 12), .call (.c (.fn 41 [] [])) [(.t 11), (.c (.fn 42 [] []))], (some (10, true))⟩, ⟨(some 13), .mov (.t 0), (some (10, true))⟩, ⟨(some 14), .lens (.t 13), (some (10, true))⟩, ⟨(some 15), .eq false .pint (.t 12) (.t 14), (some (10, true))⟩, ⟨(some 16), .pick (.t 10) (.t 15) (.c (.lit (.bool false))), none⟩, ⟨(some 17), .mov (.t 16), none⟩, ⟨(some 18), .mov (.t 0), (some (17, true))⟩, ⟨(some 19), .call (.c (.fn 20 [] [])) [(.t 18)], (some (17, true))⟩, ⟨(some 20), .un .not (.t 19), (some (17, true))⟩, ⟨(some 21), .pick (.t 17) (.t 20) (.c (.lit (.bool false))), none⟩, ⟨(some 2), .mov (.t 21), none⟩]) (
 .ret))⟩

/-- (*azimuth/store.Store).Rename -/
def A25 : AFunc := ⟨58, [.inl 6],
 .seq (
  .ops [⟨(some 6), .mov (.c (.lit (.int .i64 0))), none⟩]) (
 .seq (
  .seq (
   .ops [⟨(some 11), .mov (.t 0), none⟩, ⟨(some 12), .eq false .pptr (.t 11) (.c (.lit (.pointer none))), none⟩]) (
  .cond (.t 12) (
   .seq (
    .ops [⟨(some 6), .mov (.c (.lit (.int .i64 1))), none⟩]) (
   .ret)) (
   .skip))) (
 .seq (
  .ops [⟨(some 14), .mov (.t 0), none⟩, ⟨(some 15), .nilchk (.t 14), none⟩, ⟨(some 16), .faddr 0 (.t 15), none⟩, ⟨(some 17), .load none (.t 16), none⟩, ⟨(some 18), .mov (.t 1), none⟩, ⟨(some 19), .lookup .string (.lit (.slice none 0 0)) (.t 17) (.t 18) true, none⟩, ⟨(some 13), .mov (.t 19), none⟩, ⟨(some 20), .extract (.t 13) 0, none⟩, ⟨(some 21), .extract (.t 13) 1, none⟩, ⟨(some 7), .mov (.t 20), none⟩, ⟨(some 8), .mov (.t 21), none⟩]) (
 .seq (
  .ops [⟨(some 23), .mov (.t 0), none⟩, ⟨(some 24), .nilchk (.t 23), none⟩, ⟨(some 25), .faddr 0 (.t 24), none⟩, ⟨(some 26), .load none (.t 25), none⟩, ⟨(some 27), .mov (.t 2), none⟩, ⟨(some 28), .lookup .string (.lit (.slice none 0 0)) (.t 26) (.t 27) true, none⟩, ⟨(some 22), .mov (.t 28), none⟩, ⟨(some 29), .extract (.t 22) 0, none⟩, ⟨(some 30), .extract (.t 22) 1, none⟩, ⟨(some 9), .mov (.t 29), none⟩, ⟨(some 10), .mov (.t 30), none⟩]) (
 .seq (
  .block 0 (
   .seq (
    .ops [⟨(some 32), .mov (.t 8), none⟩, ⟨(some 33), .un .not (.t 32), none⟩, ⟨(some 31), .mov (.t 33), none⟩]) (
   .cond (.t 31) (
    .seq (
     .ops [⟨(some 6), .mov (.c (.lit (.int .i64 13))), none⟩]) (
    .ret)) (
    .seq (
     .ops [⟨(some 35), .mov (.t 2), none⟩, ⟨(some 36), .call (.c (.fn 22 [] [])) [(.t 35)], none⟩, ⟨(some 37), .un .not (.t 36), none⟩, ⟨(some 34), .mov (.t 37), none⟩]) (
    .cond (.t 34) (
     .seq (
      .ops [⟨(some 6), .mov (.c (.lit (.int .i64 7))), none⟩]) (
     .ret)) (
     .seq (
      .ops [⟨(some 39), .mov (.t 10), none⟩, ⟨(some 38), .mov (.t 39), none⟩]) (
     .cond (.t 38) (
      .seq (
       .ops [⟨(some 6), .mov (.c (.lit (.int .i64 8))), none⟩]) (
      .ret)) (
      .skip)))))))) (
 .seq (
  .ops [⟨(some 40), .mov (.t 0), none⟩, ⟨(some 41), .nilchk (.t 40), none⟩, ⟨(some 42), .faddr 0 (.t 41), none⟩, ⟨(some 43), .load none (.t 42), none⟩, ⟨(some 44), .mov (.t 1), none⟩, ⟨none, .delete .string (.t 43) (.t 44), none⟩]) (
 .seq (
  .ops [⟨(some 45), .mov (.t 0), none⟩, ⟨(some 46), .nilchk (.t 45), none⟩, ⟨(some 47), .faddr 0 (.t 46), none⟩, ⟨(some 48), .load none (.t 47), none⟩, ⟨(some 49), .mov (.t 2), none⟩, ⟨(some 50), .mov (.t 7), none⟩, ⟨none, .mapupd .string (.t 48) (.t 49) (.t 50), none⟩]) (
 .seq (
  .ops [⟨(some 51), .mov (.t 0), none⟩, ⟨(some 52), .nilchk (.t 51), none⟩, ⟨(some 53), .faddr 1 (.t 52), none⟩, ⟨(some 54), .load none (.t 53), none⟩, ⟨(some 55), .bin .add (.t 54) (.c (.lit (.int .i64 1))), none⟩, ⟨(some 56), .nilchk (.t 51), none⟩, ⟨(some 57), .faddr 1 (.t 56), none⟩, ⟨none, .store 1 (.t 57) (.t 55), none⟩]) (
 .seq (
  .ops [⟨(some 6), .mov (.c (.lit (.int .i64 0))), none⟩]) (
 .ret)))))))))⟩

/-- (*azimuth/store.Store).Turn -/
def A27 : AFunc := ⟨9, [.inl 2],
 .seq (
  .ops [⟨(some 2), .mov (.c (.lit (.int .i64 0))), none⟩]) (
 .seq (
  .seq (
   .ops [⟨(some 3), .mov (.t 0), none⟩, ⟨(some 4), .eq false .pptr (.t 3) (.c (.lit (.pointer none))), none⟩]) (
  .cond (.t 4) (
   .seq (
    .ops [⟨(some 2), .mov (.c (.lit (.int .i64 0))), none⟩]) (
   .ret)) (
   .skip))) (
 .seq (
  .ops [⟨(some 5), .mov (.t 0), none⟩, ⟨(some 6), .nilchk (.t 5), none⟩, ⟨(some 7), .faddr 1 (.t 6), none⟩, ⟨(some 8), .load none (.t 7), none⟩, ⟨(some 2), .mov (.t 8), none⟩]) (
 .ret)))⟩

/-- (*azimuth/store.Store).Copy -/
def A28 : AFunc := ⟨34, [.inl 2],
 .seq (
  .ops [⟨(some 2), .mov (.c (.lit (.pointer none))), none⟩]) (
 .seq (
  .seq (
   .ops [⟨(some 6), .mov (.t 0), none⟩, ⟨(some 7), .eq false .pptr (.t 6) (.c (.lit (.pointer none))), none⟩]) (
  .cond (.t 7) (
   .seq (
    .ops [⟨(some 2), .mov (.c (.lit (.pointer none))), none⟩]) (
   .ret)) (
   .skip))) (
 .seq (
  .ops [⟨(some 8), .call (.c (.fn 13 [] [])) [], none⟩, ⟨(some 3), .mov (.t 8), none⟩]) (
 .seq (
  .ops [⟨(some 9), .mov (.t 3), none⟩, ⟨(some 10), .mov (.t 0), none⟩, ⟨(some 11), .nilchk (.t 10), none⟩, ⟨(some 12), .faddr 1 (.t 11), none⟩, ⟨(some 13), .load none (.t 12), none⟩, ⟨(some 14), .nilchk (.t 9), none⟩, ⟨(some 15), .faddr 1 (.t 14), none⟩, ⟨none, .store 1 (.t 15) (.t 13), none⟩]) (
 .seq (
  .seq (
   .ops [⟨(some 16), .mov (.t 0), none⟩, ⟨(some 17), .nilchk (.t 16), none⟩, ⟨(some 18), .faddr 0 (.t 17), none⟩, ⟨(some 19), .load none (.t 18), none⟩, ⟨none, .mnmx false [], none⟩]) (
  .block 0 (
   .loop (
    .seq (
     .ops [⟨none, .mnmx false [], none⟩, ⟨(some 22), .extract (.t 21) 0, none⟩]) (
    .seq (
     .cond (.t 22) (
      .skip) (
      .exit 0)) (
    .block 1 (
     .seq (
      .ops [⟨none, .mnmx false [], none⟩, ⟨(some 24), .extract (.t 23) 0, none⟩, ⟨(some 25), .extract (.t 23) 1, none⟩, ⟨(some 4), .mov (.t 24), none⟩, ⟨(some 5), .mov (.t 25), none⟩]) (
     .dops 8 [⟨(some 26), .mov (.t 3), none⟩, ⟨(some 27), .nilchk (.t 26), none⟩, ⟨(some 28), .faddr 0 (.t 27), none⟩, ⟨(some 29), .load none (.t 28), none⟩, ⟨(some 30), .mov (.t 4), none⟩, ⟨(some 31), .mov (.t 5), none⟩, ⟨(some 32), .call (.c (.fn 32 [] [])) [(.t 31)], none⟩, ⟨none, .mapupd .string (.t 29) (.t 30) (.t 32), none⟩] [0, 0, 0, 0, 0, 0, 1, 0] [])))))))) (
 .seq (
  .ops [⟨(some 33), .mov (.t 3), none⟩, ⟨(some 2), .mov (.t 33), none⟩]) (
 .ret))))))⟩

/-- (*azimuth/store.Store).Text -/
def A29 : AFunc := ⟨22, [.inl 4, .inl 5],
 .seq (
  .ops [⟨(some 4), .mov (.c (.lit (.slice none 0 0))), none⟩, ⟨(some 5), .mov (.c (.lit (.bool false))), none⟩]) (
 .seq (
  .seq (
   .ops [⟨(some 8), .mov (.t 0), none⟩, ⟨(some 9), .eq false .pptr (.t 8) (.c (.lit (.pointer none))), none⟩]) (
  .cond (.t 9) (
   .seq (
    .ops [⟨(some 4), .mov (.c (.lit (.slice none 0 0))), none⟩, ⟨(some 5), .mov (.c (.lit (.bool false))), none⟩]) (
   .ret)) (
   .skip))) (
 .seq (
  .ops [⟨(some 11), .mov (.t 0), none⟩, ⟨(some 12), .nilchk (.t 11), none⟩, ⟨(some 13), .faddr 0 (.t 12), none⟩, ⟨(some 14), .load none (.t 13), none⟩, ⟨(some 15), .mov (.t 1), none⟩, ⟨(some 16), .lookup .string (.lit (.slice none 0 0)) (.t 14) (.t 15) true, none⟩, ⟨(some 10), .mov (.t 16), none⟩, ⟨(some 17), .extract (.t 10) 0, none⟩, ⟨(some 18), .extract (.t 10) 1, none⟩, ⟨(some 6), .mov (.t 17), none⟩, ⟨(some 7), .mov (.t 18), none⟩]) (
 .seq (
  .ops [⟨(some 19), .mov (.t 6), none⟩, ⟨(some 20), .call (.c (.fn 32 [] [])) [(.t 19)], none⟩, ⟨(some 21), .mov (.t 7), none⟩, ⟨(some 4), .mov (.t 20), none⟩, ⟨(some 5), .mov (.t 21), none⟩]) (
 .ret))))⟩

/-- (*azimuth/store.Store).All -/
def A30 : AFunc := ⟨4, [.inl 2],
 .seq (
  .ops [⟨(some 1), .box 23 (.t 0), none⟩, ⟨(some 2), .mov (.c (.lit .nilFunc)), none⟩]) (
 .seq (
  .ops [⟨(some 3), .mkfn 45 [] [(.t 1)], none⟩, ⟨(some 2), .mov (.t 3), none⟩]) (
 .ret))⟩

/-- (*azimuth/store.Store).Len -/
def A31 : AFunc := ⟨10, [.inl 2],
 .seq (
  .ops [⟨(some 2), .mov (.c (.lit (.int .i64 0))), none⟩]) (
 .seq (
  .seq (
   .ops [⟨(some 3), .mov (.t 0), none⟩, ⟨(some 4), .eq false .pptr (.t 3) (.c (.lit (.pointer none))), none⟩]) (
  .cond (.t 4) (
   .seq (
    .ops [⟨(some 2), .mov (.c (.lit (.int .i64 0))), none⟩]) (
   .ret)) (
   .skip))) (
 .seq (
  .ops [⟨(some 5), .mov (.t 0), none⟩, ⟨(some 6), .nilchk (.t 5), none⟩, ⟨(some 7), .faddr 0 (.t 6), none⟩, ⟨(some 8), .load none (.t 7), none⟩, ⟨(some 9), .lenm (.t 8), none⟩, ⟨(some 2), .mov (.t 9), none⟩]) (
 .ret)))⟩

/-- slices.Clone[[]byte,byte] -/
def A32 : AFunc := ⟨8, [.inl 2],
 .seq (
  .ops [⟨(some 2), .mov (.c (.lit (.slice none 0 0))), none⟩]) (
 .seq (
  .seq (
   .ops [⟨(some 3), .mov (.t 0), none⟩, ⟨(some 4), .eq false .pslice (.t 3) (.c (.lit (.slice none 0 0))), none⟩]) (
  .cond (.t 4) (
   .seq (
    .ops [⟨(some 2), .mov (.c (.lit (.slice none 0 0))), none⟩]) (
   .ret)) (
   .skip))) (
 .seq (
  .ops [⟨(some 5), .bslice 5 1 none 0 [(.lit (.int .u8 0))] [], none⟩, ⟨(some 6), .mov (.t 0), none⟩, ⟨(some 7), .append 5 1 1 (.t 5) (.t 6), none⟩, ⟨(some 2), .mov (.t 7), none⟩]) (
 .ret)))⟩

/-- slices.Contains[[]string,string] -/
def A38 : AFunc := ⟨9, [.inl 4],
 .seq (
  .ops [⟨(some 4), .mov (.c (.lit (.bool false))), none⟩]) (
 .seq (
  .ops [⟨(some 5), .mov (.t 0), none⟩, ⟨(some 6), .mov (.t 1), none⟩, ⟨(some 7), .call (.c (.fn 69 [] [])) [(.t 5), (.t 6)], none⟩, ⟨(some 8), .bin .geq (.t 7) (.c (.lit (.int .i64 0))), none⟩, ⟨(some 4), .mov (.t 8), none⟩]) (
 .ret))⟩

/-- azimuth/lexer.words -/
def A39 : AFunc := ⟨2, [.inl 0],
 .seq (
  .ops [⟨(some 0), .mov (.c (.lit (.slice none 0 0))), none⟩]) (
 .seq (
  .ops [⟨(some 1), .bslice 9 1 none 20 [(.lit (.string (mkS [])))] [(0, 1, (.c (.lit (.string (mkS [102, 117, 110]))))), (1, 1, (.c (.lit (.string (mkS [108, 101, 116]))))), (2, 1, (.c (.lit (.string (mkS [114, 101, 99]))))), (3, 1, (.c (.lit (.string (mkS [105, 110]))))), (4, 1, (.c (.lit (.string (mkS [105, 102]))))), (5, 1, (.c (.lit (.string (mkS [116, 104, 101, 110]))))), (6, 1, (.c (.lit (.string (mkS [101, 108, 115, 101]))))), (7, 1, (.c (.lit (.string (mkS [99, 97, 115, 101]))))), (8, 1, (.c (.lit (.string (mkS [111, 102]))))), (9, 1, (.c (.lit (.string (mkS [101, 110, 100]))))), (10, 1, (.c (.lit (.string (mkS [116, 114, 117, 101]))))), (11, 1, (.c (.lit (.string (mkS [102, 97, 108, 115, 101]))))), (12, 1, (.c (.lit (.string (mkS [105, 110, 116]))))), (13, 1, (.c (.lit (.string (mkS [98, 111, 111, 108]))))), (14, 1, (.c (.lit (.string (mkS [115, 116, 114]))))), (15, 1, (.c (.lit (.string (mkS [102, 108, 111, 97, 116]))))), (16, 1, (.c (.lit (.string (mkS [100, 121, 110]))))), (17, 1, (.c (.lit (.string (mkS [97, 110, 121]))))), (18, 1, (.c (.lit (.string (mkS [110, 111, 110, 101]))))), (19, 1, (.c (.lit (.string (mkS [116, 121, 112, 101])))))], none⟩, ⟨(some 0), .mov (.t 1), none⟩]) (
 .ret))⟩

/-- azimuth/lexer.low -/
def A40 : AFunc := ⟨13, [.inl 2],
 .seq (
  .ops [⟨(some 2), .mov (.c (.lit (.bool false))), none⟩]) (
 .seq (
  .ops [⟨(some 3), .mov (.t 0), none⟩, ⟨(some 4), .bin .geq (.t 3) (.c (.lit (.int .u8 97))), none⟩, ⟨(some 5), .mov (.t 4), none⟩, ⟨(some 6), .mov (.t 0), (some (5, true))⟩, ⟨(some 7), .bin .leq (.t 6) (.c (.lit (.int .u8 122))), (some (5, true))⟩, ⟨(some 8), .pick (.t 5) (.t 7) (.c (.lit (.bool false))), none⟩, ⟨(some 9), .mov (.t 8), none⟩, ⟨(some 10), .mov (.t 0), (some (9, false))⟩, ⟨(some 11), .eq false .pint (.t 10) (.c (.lit (.int .u8 95))), (some (9, false))⟩, ⟨(some 12), .pick (.t 9) (.c (.lit (.bool true))) (.t 11), none⟩, ⟨(some 2), .mov (.t 12), none⟩]) (
 .ret))⟩

/-- azimuth/lexer.run -/
def A41 : AFunc := ⟨20, [.inl 4],
 .seq (
  .ops [⟨(some 4), .mov (.c (.lit (.int .i64 0))), none⟩]) (
 .seq (
  .ops [⟨(some 5), .mov (.c (.lit (.int .i64 0))), none⟩]) (
 .seq (
  .block 0 (
   .loop (
    .seq (
     .seq (
      .ops [⟨(some 6), .mov (.t 5), none⟩, ⟨(some 7), .mov (.t 0), none⟩, ⟨(some 8), .lens (.t 7), none⟩, ⟨(some 9), .bin .lss (.t 6) (.t 8), none⟩, ⟨(some 10), .mov (.t 9), none⟩, ⟨(some 11), .mov (.t 1), (some (10, true))⟩, ⟨(some 12), .mov (.t 0), (some (10, true))⟩, ⟨(some 13), .mov (.t 5), (some (10, true))⟩, ⟨(some 14), .sidx (.t 12) (.t 13), (some (10, true))⟩, ⟨(some 15), .call (.t 11) [(.t 14)], (some (10, true))⟩, ⟨(some 16), .pick (.t 10) (.t 15) (.c (.lit (.bool false))), none⟩]) (
     .cond (.t 16) (
      .skip) (
      .exit 0))) (
    .block 1 (
     .ops [⟨(some 17), .mov (.t 5), none⟩, ⟨(some 18), .bin .add (.t 17) (.c (.lit (.int .i64 1))), none⟩, ⟨(some 5), .mov (.t 18), none⟩]))))) (
 .seq (
  .ops [⟨(some 19), .mov (.t 5), none⟩, ⟨(some 4), .mov (.t 19), none⟩]) (
 .ret))))⟩

/-- azimuth/lexer.inName -/
def A42 : AFunc := ⟨9, [.inl 2],
 .seq (
  .ops [⟨(some 2), .mov (.c (.lit (.bool false))), none⟩]) (
 .seq (
  .ops [⟨(some 3), .mov (.t 0), none⟩, ⟨(some 4), .call (.c (.fn 40 [] [])) [(.t 3)], none⟩, ⟨(some 5), .mov (.t 4), none⟩, ⟨(some 6), .mov (.t 0), (some (5, false))⟩, ⟨(some 7), .call (.c (.fn 56 [] [])) [(.t 6)], (some (5, false))⟩, ⟨(some 8), .pick (.t 5) (.c (.lit (.bool true))) (.t 7), none⟩, ⟨(some 2), .mov (.t 8), none⟩]) (
 .ret))⟩

/-- (*azimuth/store.Store).All$1 -/
def A45 : AFunc := ⟨30, [],
 .seq (
  .seq (
   .ops [⟨(some 5), .load none (.t 1), none⟩, ⟨(some 6), .eq false .pptr (.t 5) (.c (.lit (.pointer none))), none⟩]) (
  .cond (.t 6) (
   .ret) (
   .skip))) (
 .seq (
  .ops [⟨(some 7), .load none (.t 1), none⟩, ⟨(some 8), .nilchk (.t 7), none⟩, ⟨(some 9), .faddr 0 (.t 8), none⟩, ⟨(some 10), .load none (.t 9), none⟩, ⟨(some 11), .call (.c (.fn 47 [] [])) [(.t 10)], none⟩, ⟨(some 12), .call (.c (.fn 46 [] [])) [(.t 11)], none⟩, ⟨(some 13), .len (.t 12), none⟩, ⟨(some 14), .mov (.c (.lit (.int .i64 0))), none⟩]) (
 .block 0 (
  .loop (
   .seq (
    .ops [⟨(some 15), .bin .lss (.t 14) (.t 13), none⟩]) (
   .seq (
    .cond (.t 15) (
     .skip) (
     .exit 0)) (
   .seq (
    .block 1 (
     .seq (
      .ops [⟨(some 16), .iaddr 1 (.t 12) (.t 14), none⟩, ⟨(some 17), .load none (.t 16), none⟩, ⟨(some 4), .mov (.t 17), none⟩]) (
     .seq (
      .ops [⟨(some 18), .mov (.t 0), none⟩, ⟨(some 19), .mov (.t 4), none⟩, ⟨(some 20), .load none (.t 1), none⟩, ⟨(some 21), .nilchk (.t 20), none⟩, ⟨(some 22), .faddr 0 (.t 21), none⟩, ⟨(some 23), .load none (.t 22), none⟩, ⟨(some 24), .mov (.t 4), none⟩, ⟨(some 25), .lookup .string (.lit (.slice none 0 0)) (.t 23) (.t 24) false, none⟩, ⟨(some 26), .call (.c (.fn 32 [] [])) [(.t 25)], none⟩, ⟨(some 27), .call (.t 18) [(.t 19), (.t 26)], none⟩, ⟨(some 28), .un .not (.t 27), none⟩]) (
     .cond (.t 28) (
      .ret) (
      .skip))))) (
   .ops [⟨(some 29), .bin .add (.t 14) (.c (.lit (.int .i64 1))), none⟩, ⟨(some 14), .mov (.t 29), none⟩])))))))⟩

/-- slices.Index[[]string,string] -/
def A69 : AFunc := ⟨19, [.inl 4],
 .seq (
  .ops [⟨(some 4), .mov (.c (.lit (.int .i64 0))), none⟩]) (
 .seq (
  .seq (
   .ops [⟨(some 6), .mov (.t 0), none⟩, ⟨(some 7), .len (.t 6), none⟩, ⟨(some 8), .mov (.c (.lit (.int .i64 0))), none⟩]) (
  .block 0 (
   .loop (
    .seq (
     .ops [⟨(some 9), .bin .lss (.t 8) (.t 7), none⟩]) (
    .seq (
     .cond (.t 9) (
      .skip) (
      .exit 0)) (
    .seq (
     .block 1 (
      .seq (
       .ops [⟨(some 10), .mov (.t 8), none⟩, ⟨(some 5), .mov (.t 10), none⟩]) (
      .seq (
       .ops [⟨(some 11), .mov (.t 1), none⟩, ⟨(some 12), .mov (.t 0), none⟩, ⟨(some 13), .mov (.t 5), none⟩, ⟨(some 14), .iaddr 1 (.t 12) (.t 13), none⟩, ⟨(some 15), .load none (.t 14), none⟩, ⟨(some 16), .eq false .pstr (.t 11) (.t 15), none⟩]) (
      .cond (.t 16) (
       .seq (
        .ops [⟨(some 17), .mov (.t 5), none⟩, ⟨(some 4), .mov (.t 17), none⟩]) (
       .ret)) (
       .skip))))) (
    .ops [⟨(some 18), .bin .add (.t 8) (.c (.lit (.int .i64 1))), none⟩, ⟨(some 8), .mov (.t 18), none⟩]))))))) (
 .seq (
  .ops [⟨(some 4), .mov (.c (.lit (.int .i64 (-1)))), none⟩]) (
 .ret)))⟩

/-- azimuth/azimuthlaw23.StoreFull -/
def A3 : AFunc := ⟨64, [.inl 2],
 .seq (
  .ops [⟨(some 2), .mov (.c (.lit (.bool false))), none⟩]) (
 .seq (
  .seq (
   .ops [⟨(some 6), .call (.c (.fn 12 [] [])) [], none⟩, ⟨(some 7), .un .not (.t 6), none⟩]) (
  .cond (.t 7) (
   .seq (
    .ops [⟨(some 2), .mov (.c (.lit (.bool false))), none⟩]) (
   .ret)) (
   .skip))) (
 .seq (
  .ops [⟨(some 8), .call (.c (.fn 13 [] [])) [], none⟩, ⟨(some 3), .mov (.t 8), none⟩]) (
 .seq (
  .seq (
   .ops [⟨(some 9), .mov (.c (.lit (.int .i64 0))), none⟩]) (
  .block 0 (
   .loop (
    .seq (
     .ops [⟨(some 10), .bin .lss (.t 9) (.c (.lit (.int .i64 256))), none⟩]) (
    .seq (
     .cond (.t 10) (
      .skip) (
      .exit 0)) (
    .seq (
     .block 1 (
      .seq (
       .ops [⟨(some 11), .mov (.t 9), none⟩, ⟨(some 4), .mov (.t 11), none⟩]) (
      .seq (
       .ops [⟨(some 12), .mov (.t 3), none⟩, ⟨(some 13), .mov (.t 4), none⟩, ⟨(some 14), .bin .quo (.t 13) (.c (.lit (.int .i64 16))), none⟩, ⟨(some 15), .conv (.toInt .u8) (.t 14), none⟩, ⟨(some 16), .bin .add (.c (.lit (.int .u8 97))) (.t 15), none⟩, ⟨(some 17), .mov (.t 4), none⟩, ⟨(some 18), .bin .rem (.t 17) (.c (.lit (.int .i64 16))), none⟩, ⟨(some 19), .conv (.toInt .u8) (.t 18), none⟩, ⟨(some 20), .bin .add (.c (.lit (.int .u8 97))) (.t 19), none⟩, ⟨(some 21), .bslice 5 1 none 2 [(.lit (.int .u8 0))] [(0, 1, (.t 16)), (1, 1, (.t 20))], none⟩, ⟨(some 22), .conv .str (.t 21), none⟩, ⟨(some 23), .bin .add (.c (.lit (.string (mkS [110])))) (.t 22), none⟩, ⟨(some 24), .call (.c (.fn 14 [] [])) [(.t 12), (.t 23), (.c (.lit (.slice none 0 0)))], none⟩, ⟨(some 25), .eq true .pint (.t 24) (.c (.lit (.int .i64 0))), none⟩]) (
      .cond (.t 25) (
       .seq (
        .ops [⟨(some 2), .mov (.c (.lit (.bool false))), none⟩]) (
       .ret)) (
       .skip))))) (
    .ops [⟨(some 26), .bin .add (.t 9) (.c (.lit (.int .i64 1))), none⟩, ⟨(some 9), .mov (.t 26), none⟩]))))))) (
 .seq (
  .ops [⟨(some 27), .mov (.t 0), none⟩, ⟨(some 28), .bin .quo (.t 27) (.c (.lit (.int .u8 16))), none⟩, ⟨(some 29), .bin .add (.c (.lit (.int .u8 97))) (.t 28), none⟩, ⟨(some 30), .mov (.t 0), none⟩, ⟨(some 31), .bin .rem (.t 30) (.c (.lit (.int .u8 16))), none⟩, ⟨(some 32), .bin .add (.c (.lit (.int .u8 97))) (.t 31), none⟩, ⟨(some 33), .bslice 5 1 none 2 [(.lit (.int .u8 0))] [(0, 1, (.t 29)), (1, 1, (.t 32))], none⟩, ⟨(some 34), .conv .str (.t 33), none⟩, ⟨(some 35), .bin .add (.c (.lit (.string (mkS [110])))) (.t 34), none⟩, ⟨(some 5), .mov (.t 35), none⟩]) (
 .seq (
  .ops [⟨(some 36), .mov (.t 3), none⟩, ⟨(some 37), .call (.c (.fn 14 [] [])) [(.t 36), (.c (.lit (.string (mkS [111, 116, 104, 101, 114])))), (.c (.lit (.slice none 0 0)))], none⟩, ⟨(some 38), .eq false .pint (.t 37) (.c (.lit (.int .i64 20))), none⟩, ⟨(some 39), .mov (.t 38), none⟩, ⟨(some 40), .mov (.t 3), (some (39, true))⟩, ⟨(some 41), .mov (.t 5), (some (39, true))⟩, ⟨(some 42), .mkslice 5 1 1 (.lit (.int .u8 0)) (.c (.lit (.int .i64 1048577))) (.c (.lit (.int .i64 1048577))), (some (39, true))⟩, ⟨(some 43), .call (.c (.fn 14 [] [])) [(.t 40), (.t 41), (.t 42)], (some (39, true))⟩, ⟨(some 44), .eq false .pint (.t 43) (.c (.lit (.int .i64 6))), (some (39, true))⟩, ⟨(some 45), .pick (.t 39) (.t 44) (.c (.lit (.bool false))), none⟩, ⟨(some 46), .mov (.t 45), none⟩, ⟨(some 47), .mov (.t 3), (some (46, true))⟩, ⟨(some 48), .mov (.t 5), (some (46, true))⟩, ⟨(some 49), .mkslice 5 1 1 (.lit (.int .u8 0)) (.c (.lit (.int .i64 1048576))) (.c (.lit (.int .i64 1048576))), (some (46, true))⟩, ⟨(some 50), .call (.c (.fn 14 [] [])) [(.t 47), (.t 48), (.t 49)], (some (46, true))⟩, ⟨(some 51), .eq false .pint (.t 50) (.c (.lit (.int .i64 0))), (some (46, true))⟩, ⟨(some 52), .pick (.t 46) (.t 51) (.c (.lit (.bool false))), none⟩, ⟨(some 53), .mov (.t 52), none⟩, ⟨(some 54), .mov (.t 3), (some (53, true))⟩, ⟨(some 55), .mov (.t 5), (some (53, true))⟩, ⟨(some 56), .call (.c (.fn 15 [] [])) [(.t 54), (.t 55)], (some (53, true))⟩, ⟨(some 57), .eq false .pint (.t 56) (.c (.lit (.int .i64 0))), (some (53, true))⟩, ⟨(some 58), .pick (.t 53) (.t 57) (.c (.lit (.bool false))), none⟩, ⟨(some 59), .mov (.t 58), none⟩, ⟨(some 60), .mov (.t 3), (some (59, true))⟩, ⟨(some 61), .call (.c (.fn 14 [] [])) [(.t 60), (.c (.lit (.string (mkS [111, 116, 104, 101, 114])))), (.c (.lit (.slice none 0 0)))], (some (59, true))⟩, ⟨(some 62), .eq false .pint (.t 61) (.c (.lit (.int .i64 0))), (some (59, true))⟩, ⟨(some 63), .pick (.t 59) (.t 62) (.c (.lit (.bool false))), none⟩, ⟨(some 2), .mov (.t 63), none⟩]) (
 .ret))))))⟩

def tab : Tab := fun f => match f with
  | 11 => some A11
  | 12 => some A12
  | 13 => some A13
  | 14 => some A14
  | 15 => some A15
  | 20 => some A20
  | 22 => some A22
  | 25 => some A25
  | 27 => some A27
  | 28 => some A28
  | 29 => some A29
  | 30 => some A30
  | 31 => some A31
  | 32 => some A32
  | 38 => some A38
  | 39 => some A39
  | 40 => some A40
  | 41 => some A41
  | 42 => some A42
  | 45 => some A45
  | 69 => some A69
  | 3 => some A3
  | _ => none

theorem res11 : pFunc Try.prog Try.f11 = some A11 := by kernel_rfl
theorem res12 : pFunc Try.prog Try.f12 = some A12 := by kernel_rfl
theorem res13 : pFunc Try.prog Try.f13 = some A13 := by kernel_rfl
theorem res14 : pFunc Try.prog Try.f14 = some A14 := by kernel_rfl
theorem res15 : pFunc Try.prog Try.f15 = some A15 := by kernel_rfl
theorem res20 : pFunc Try.prog Try.f20 = some A20 := by kernel_rfl
theorem res22 : pFunc Try.prog Try.f22 = some A22 := by kernel_rfl
theorem res25 : pFunc Try.prog Try.f25 = some A25 := by kernel_rfl
theorem res27 : pFunc Try.prog Try.f27 = some A27 := by kernel_rfl
theorem res28 : pFunc Try.prog Try.f28 = some A28 := by kernel_rfl
theorem res29 : pFunc Try.prog Try.f29 = some A29 := by kernel_rfl
theorem res30 : pFunc Try.prog Try.f30 = some A30 := by kernel_rfl
theorem res31 : pFunc Try.prog Try.f31 = some A31 := by kernel_rfl
theorem res32 : pFunc Try.prog Try.f32 = some A32 := by kernel_rfl
theorem res38 : pFunc Try.prog Try.f38 = some A38 := by kernel_rfl
theorem res39 : pFunc Try.prog Try.f39 = some A39 := by kernel_rfl
theorem res40 : pFunc Try.prog Try.f40 = some A40 := by kernel_rfl
theorem res41 : pFunc Try.prog Try.f41 = some A41 := by kernel_rfl
theorem res42 : pFunc Try.prog Try.f42 = some A42 := by kernel_rfl
theorem res45 : pFunc Try.prog Try.f45 = some A45 := by kernel_rfl
theorem res69 : pFunc Try.prog Try.f69 = some A69 := by kernel_rfl
theorem res3 : pFunc Try.prog Try.f3 = some A3 := by kernel_rfl

theorem tab_ok : TOK Try.prog tab := by
  intro f af h
  unfold tab at h
  split at h
  · simp only [Option.some.injEq] at h; subst h; exact ⟨Try.f11, Try.func11, res11⟩
  · simp only [Option.some.injEq] at h; subst h; exact ⟨Try.f12, Try.func12, res12⟩
  · simp only [Option.some.injEq] at h; subst h; exact ⟨Try.f13, Try.func13, res13⟩
  · simp only [Option.some.injEq] at h; subst h; exact ⟨Try.f14, Try.func14, res14⟩
  · simp only [Option.some.injEq] at h; subst h; exact ⟨Try.f15, Try.func15, res15⟩
  · simp only [Option.some.injEq] at h; subst h; exact ⟨Try.f20, Try.func20, res20⟩
  · simp only [Option.some.injEq] at h; subst h; exact ⟨Try.f22, Try.func22, res22⟩
  · simp only [Option.some.injEq] at h; subst h; exact ⟨Try.f25, Try.func25, res25⟩
  · simp only [Option.some.injEq] at h; subst h; exact ⟨Try.f27, Try.func27, res27⟩
  · simp only [Option.some.injEq] at h; subst h; exact ⟨Try.f28, Try.func28, res28⟩
  · simp only [Option.some.injEq] at h; subst h; exact ⟨Try.f29, Try.func29, res29⟩
  · simp only [Option.some.injEq] at h; subst h; exact ⟨Try.f30, Try.func30, res30⟩
  · simp only [Option.some.injEq] at h; subst h; exact ⟨Try.f31, Try.func31, res31⟩
  · simp only [Option.some.injEq] at h; subst h; exact ⟨Try.f32, Try.func32, res32⟩
  · simp only [Option.some.injEq] at h; subst h; exact ⟨Try.f38, Try.func38, res38⟩
  · simp only [Option.some.injEq] at h; subst h; exact ⟨Try.f39, Try.func39, res39⟩
  · simp only [Option.some.injEq] at h; subst h; exact ⟨Try.f40, Try.func40, res40⟩
  · simp only [Option.some.injEq] at h; subst h; exact ⟨Try.f41, Try.func41, res41⟩
  · simp only [Option.some.injEq] at h; subst h; exact ⟨Try.f42, Try.func42, res42⟩
  · simp only [Option.some.injEq] at h; subst h; exact ⟨Try.f45, Try.func45, res45⟩
  · simp only [Option.some.injEq] at h; subst h; exact ⟨Try.f69, Try.func69, res69⟩
  · simp only [Option.some.injEq] at h; subst h; exact ⟨Try.f3, Try.func3, res3⟩
  · simp at h
end Go.Proofs.Y2
