/- The resolved functions, as the engine takes them, and that they are the program's. -/
import Derived.Test.YtchbifaiofljdaaProg
import Derived.Test.YtchbifaiofljdaaEngZ
import Derived.KernelRfl
set_option linter.unusedVariables false
set_option maxRecDepth 100000
namespace Go.Proofs.Y3
open Go Go.Proofs.Eng

/-- azimuth/azimuthlaw03.LexerLong -/
def A6 : AFunc := ⟨25, [.inl 2],
 .seq (
  .ops [⟨(some 2), .mov (.c (.lit (.bool false))), none⟩]) (
 .seq (
  .seq (
   .ops [⟨(some 6), .call (.c (.fn 16 [] [])) [], none⟩, ⟨(some 7), .un .not (.t 6), none⟩]) (
  .cond (.t 7) (
   .seq (
    .ops [⟨(some 2), .mov (.c (.lit (.bool false))), none⟩]) (
   .ret)) (
   .skip))) (
 .seq (
  .ops [⟨(some 8), .mkslice 5 1 1 (.lit (.int .u8 0)) (.c (.lit (.int .i64 1048577))) (.c (.lit (.int .i64 1048577))), none⟩, ⟨(some 3), .mov (.t 8), none⟩]) (
 .seq (
  .ops [⟨(some 9), .mov (.t 3), none⟩, ⟨(some 10), .mov (.t 0), none⟩, ⟨(some 11), .iaddr 1 (.t 9) (.c (.lit (.int .i64 0))), none⟩, ⟨none, .store 1 (.t 11) (.t 10), none⟩]) (
 .seq (
  .ops [⟨(some 13), .mov (.t 3), none⟩, ⟨(some 14), .call (.c (.fn 17 [] [])) [(.t 13)], none⟩, ⟨(some 12), .mov (.t 14), none⟩, ⟨(some 15), .extract (.t 12) 0, none⟩, ⟨(some 16), .extract (.t 12) 1, none⟩, ⟨(some 5), .new 32 (.agg [(.lit (.int .i64 0)), (.lit (.int .i64 0)), (.lit (.string (mkS [])))]), none⟩, ⟨(some 4), .mov (.t 15), none⟩, ⟨none, .store 3 (.t 5) (.t 16), none⟩]) (
 .seq (
  .ops [⟨(some 17), .mov (.t 4), none⟩, ⟨(some 18), .len (.t 17), none⟩, ⟨(some 19), .eq false .pint (.t 18) (.c (.lit (.int .i64 0))), none⟩, ⟨(some 20), .mov (.t 19), none⟩, ⟨(some 21), .load (some 3) (.t 5), (some (20, true))⟩, ⟨(some 22), .build [(.lit (.int .i64 0)), (.lit (.int .i64 0)), (.lit (.string (mkS [])))] [(0, 1, (.c (.lit (.int .i64 6))))], (some (20, true))⟩, ⟨(some 23), .eq false (.struct [(0, none, .pint), (1, none, .pint), (2, none, .pstr)]) (.t 21) (.t 22), (some (20, true))⟩, ⟨(some 24), .pick (.t 20) (.t 23) (.c (.lit (.bool false))), none⟩, ⟨(some 2), .mov (.t 24), none⟩]) (
 .ret))))))⟩

/-- azimuth/azimuthlaw03.lives -/
def A16 : AFunc := ⟨52, [.inl 0],
 .seq (
  .ops [⟨(some 0), .mov (.c (.lit (.bool false))), none⟩]) (
 .seq (
  .ops [⟨(some 4), .bslice 5 1 none 6 [(.lit (.int .u8 0))] [(0, 1, (.c (.lit (.int .u8 120)))), (1, 1, (.c (.lit (.int .u8 49)))), (2, 1, (.c (.lit (.int .u8 61)))), (3, 1, (.c (.lit (.int .u8 62)))), (4, 1, (.c (.lit (.int .u8 35)))), (5, 1, (.c (.lit (.int .u8 97))))], none⟩, ⟨(some 5), .conv .mark (.t 4), none⟩, ⟨(some 6), .call (.c (.fn 17 [] [])) [(.t 5)], none⟩, ⟨(some 3), .mov (.t 6), none⟩, ⟨(some 7), .extract (.t 3) 0, none⟩, ⟨(some 8), .extract (.t 3) 1, none⟩, ⟨(some 2), .new 32 (.agg [(.lit (.int .i64 0)), (.lit (.int .i64 0)), (.lit (.string (mkS [])))]), none⟩, ⟨(some 1), .mov (.t 7), none⟩, ⟨none, .store 3 (.t 2) (.t 8), none⟩]) (
 .seq (
  .ops [⟨(some 9), .load (some 3) (.t 2), none⟩, ⟨(some 10), .build [(.lit (.int .i64 0)), (.lit (.int .i64 0)), (.lit (.string (mkS [])))] [], none⟩, ⟨(some 11), .eq false (.struct [(0, none, .pint), (1, none, .pint), (2, none, .pstr)]) (.t 9) (.t 10), none⟩, ⟨(some 12), .mov (.t 11), none⟩, ⟨(some 13), .mov (.t 1), (some (12, true))⟩, ⟨(some 14), .len (.t 13), (some (12, true))⟩, ⟨(some 15), .eq false .pint (.t 14) (.c (.lit (.int .i64 4))), (some (12, true))⟩, ⟨(some 16), .pick (.t 12) (.t 15) (.c (.lit (.bool false))), none⟩, ⟨(some 17), .mov (.t 16), none⟩, ⟨(some 18), .mov (.t 1), (some (17, true))⟩, ⟨(some 19), .iaddr 3 (.t 18) (.c (.lit (.int .i64 0))), (some (17, true))⟩, ⟨(some 20), .faddr 1 (.t 19), (some (17, true))⟩, ⟨(some 21), .load none (.t 20), (some (17, true))⟩, ⟨(some 22), .eq false .pstr (.t 21) (.c (.lit (.string (mkS [120, 49])))), (some (17, true))⟩, ⟨(some 23), .pick (.t 17) (.t 22) (.c (.lit (.bool false))), none⟩, ⟨(some 24), .mov (.t 23), none⟩, ⟨(some 25), .mov (.t 1), (some (24, true))⟩, ⟨(some 26), .iaddr 3 (.t 25) (.c (.lit (.int .i64 1))), (some (24, true))⟩, ⟨(some 27), .faddr 1 (.t 26), (some (24, true))⟩, ⟨(some 28), .load none (.t 27), (some (24, true))⟩, ⟨(some 29), .eq false .pstr (.t 28) (.c (.lit (.string (mkS [61, 62])))), (some (24, true))⟩, ⟨(some 30), .pick (.t 24) (.t 29) (.c (.lit (.bool false))), none⟩, ⟨(some 31), .mov (.t 30), none⟩, ⟨(some 32), .mov (.t 1), (some (31, true))⟩, ⟨(some 33), .iaddr 3 (.t 32) (.c (.lit (.int .i64 2))), (some (31, true))⟩, ⟨(some 34), .faddr 0 (.t 33), (some (31, true))⟩, ⟨(some 35), .load none (.t 34), (some (31, true))⟩, ⟨(some 36), .eq false .pint (.t 35) (.c (.lit (.int .i64 3))), (some (31, true))⟩, ⟨(some 37), .pick (.t 31) (.t 36) (.c (.lit (.bool false))), none⟩, ⟨(some 38), .mov (.t 37), none⟩, ⟨(some 39), .mov (.t 1), (some (38, true))⟩, ⟨(some 40), .iaddr 3 (.t 39) (.c (.lit (.int .i64 2))), (some (38, true))⟩, ⟨(some 41), .faddr 1 (.t 40), (some (38, true))⟩, ⟨(some 42), .load none (.t 41), (some (38, true))⟩, ⟨(some 43), .eq false .pstr (.t 42) (.c (.lit (.string (mkS [97])))), (some (38, true))⟩, ⟨(some 44), .pick (.t 38) (.t 43) (.c (.lit (.bool false))), none⟩, ⟨(some 45), .mov (.t 44), none⟩, ⟨(some 46), .mov (.t 1), (some (45, true))⟩, ⟨(some 47), .iaddr 3 (.t 46) (.c (.lit (.int .i64 3))), (some (45, true))⟩, ⟨(some 48), .faddr 2 (.t 47), (some (45, true))⟩, ⟨(some 49), .load none (.t 48), (some (45, true))⟩, ⟨(some 50), .eq false .pint (.t 49) (.c (.lit (.int .i64 6))), (some (45, true))⟩, ⟨(some 51), .pick (.t 45) (.t 50) (.c (.lit (.bool false))), none⟩, ⟨(some 0), .mov (.t 51), none⟩]) (
 .ret)))⟩

/-- azimuth/lexer.Lex -/
def A17 : AFunc := ⟨61, [.inl 2, .inr (3, (some 3))],
 .seq (
  .ops [⟨(some 2), .mov (.c (.lit (.slice none 0 0))), none⟩, ⟨(some 3), .new 32 (.agg [(.lit (.int .i64 0)), (.lit (.int .i64 0)), (.lit (.string (mkS [])))]), none⟩]) (
 .seq (
  .seq (
   .ops [⟨(some 10), .mov (.t 0), none⟩, ⟨(some 11), .len (.t 10), none⟩, ⟨(some 12), .bin .gtr (.t 11) (.c (.lit (.int .i64 1048576))), none⟩]) (
  .cond (.t 12) (
   .seq (
    .ops [⟨(some 13), .build [(.lit (.int .i64 0)), (.lit (.int .i64 0)), (.lit (.string (mkS [])))] [(0, 1, (.c (.lit (.int .i64 6))))], none⟩, ⟨(some 2), .mov (.c (.lit (.slice none 0 0))), none⟩, ⟨none, .store 3 (.t 3) (.t 13), none⟩]) (
   .ret)) (
   .skip))) (
 .seq (
  .seq (
   .ops [⟨(some 14), .mov (.t 0), none⟩, ⟨(some 15), .call (.c (.fn 33 [] [])) [(.t 14)], none⟩, ⟨(some 4), .mov (.t 15), none⟩]) (
  .seq (
   .ops [⟨(some 16), .mov (.t 4), none⟩, ⟨(some 17), .bin .geq (.t 16) (.c (.lit (.int .i64 0))), none⟩]) (
  .cond (.t 17) (
   .seq (
    .ops [⟨(some 18), .mov (.t 4), none⟩, ⟨(some 19), .build [(.lit (.int .i64 0)), (.lit (.int .i64 0)), (.lit (.string (mkS [])))] [(0, 1, (.c (.lit (.int .i64 2)))), (1, 1, (.t 18))], none⟩, ⟨(some 2), .mov (.c (.lit (.slice none 0 0))), none⟩, ⟨none, .store 3 (.t 3) (.t 19), none⟩]) (
   .ret)) (
   .skip)))) (
 .seq (
  .ops [⟨(some 5), .mov (.c (.lit (.slice none 0 0))), none⟩]) (
 .seq (
  .ops [⟨(some 20), .mov (.t 0), none⟩, ⟨(some 21), .conv .str (.t 20), none⟩, ⟨(some 6), .mov (.t 21), none⟩]) (
 .seq (
  .ops [⟨(some 22), .mov (.t 6), none⟩, ⟨(some 23), .call (.c (.fn 34 [] [])) [(.t 22)], none⟩, ⟨(some 7), .mov (.t 23), none⟩]) (
 .seq (
  .block 0 (
   .loop (
    .seq (
     .seq (
      .ops [⟨(some 24), .mov (.t 7), none⟩, ⟨(some 25), .mov (.t 6), none⟩, ⟨(some 26), .lens (.t 25), none⟩, ⟨(some 27), .bin .lss (.t 24) (.t 26), none⟩]) (
     .cond (.t 27) (
      .skip) (
      .exit 0))) (
    .block 1 (
     .seq (
      .ops [⟨(some 29), .mov (.t 6), none⟩, ⟨(some 30), .mov (.t 7), none⟩, ⟨(some 31), .slstr (.t 29) (some (.t 30)) none, none⟩, ⟨(some 32), .call (.c (.fn 35 [] [])) [(.t 31)], none⟩, ⟨(some 28), .mov (.t 32), none⟩, ⟨(some 33), .extract (.t 28) 0, none⟩, ⟨(some 34), .extract (.t 28) 1, none⟩, ⟨(some 8), .new 36 (.agg [(.lit (.int .i64 0)), (.lit (.string (mkS []))), (.lit (.int .i64 0))]), none⟩, ⟨none, .store 3 (.t 8) (.t 33), none⟩, ⟨(some 9), .mov (.t 34), none⟩]) (
     .seq (
      .seq (
       .ops [⟨(some 35), .mov (.t 9), none⟩, ⟨(some 36), .eq false .pint (.t 35) (.c (.lit (.int .i64 0))), none⟩]) (
      .cond (.t 36) (
       .seq (
        .ops [⟨(some 37), .mov (.t 7), none⟩, ⟨(some 38), .build [(.lit (.int .i64 0)), (.lit (.int .i64 0)), (.lit (.string (mkS [])))] [(0, 1, (.c (.lit (.int .i64 3)))), (1, 1, (.t 37))], none⟩, ⟨(some 2), .mov (.c (.lit (.slice none 0 0))), none⟩, ⟨none, .store 3 (.t 3) (.t 38), none⟩]) (
       .ret)) (
       .skip))) (
     .seq (
      .ops [⟨(some 39), .mov (.t 7), none⟩, ⟨(some 40), .faddr 2 (.t 8), none⟩, ⟨none, .store 1 (.t 40) (.t 39), none⟩]) (
     .seq (
      .ops [⟨(some 41), .mov (.t 5), none⟩, ⟨(some 42), .load (some 3) (.t 8), none⟩, ⟨(some 43), .bslice 36 3 (some 3) 1 [(.lit (.int .i64 0)), (.lit (.string (mkS []))), (.lit (.int .i64 0))] [(0, 3, (.t 42))], none⟩, ⟨(some 44), .append 36 3 32 (.t 41) (.t 43), none⟩, ⟨(some 5), .mov (.t 44), none⟩]) (
     .seq (
      .ops [⟨(some 45), .mov (.t 7), none⟩, ⟨(some 46), .mov (.t 9), none⟩, ⟨(some 47), .bin .add (.t 45) (.t 46), none⟩, ⟨(some 7), .mov (.t 47), none⟩]) (
     .ops [⟨(some 48), .mov (.t 7), none⟩, ⟨(some 49), .mov (.t 6), none⟩, ⟨(some 50), .mov (.t 7), none⟩, ⟨(some 51), .slstr (.t 49) (some (.t 50)) none, none⟩, ⟨(some 52), .call (.c (.fn 34 [] [])) [(.t 51)], none⟩, ⟨(some 53), .bin .add (.t 48) (.t 52), none⟩, ⟨(some 7), .mov (.t 53), none⟩])))))))))) (
 .seq (
  .ops [⟨(some 54), .mov (.t 5), none⟩, ⟨(some 55), .mov (.t 6), none⟩, ⟨(some 56), .lens (.t 55), none⟩, ⟨(some 57), .build [(.lit (.int .i64 0)), (.lit (.string (mkS []))), (.lit (.int .i64 0))] [(0, 1, (.c (.lit (.int .i64 0)))), (2, 1, (.t 56))], none⟩, ⟨(some 58), .bslice 36 3 (some 3) 1 [(.lit (.int .i64 0)), (.lit (.string (mkS []))), (.lit (.int .i64 0))] [(0, 3, (.t 57))], none⟩, ⟨(some 59), .append 36 3 32 (.t 54) (.t 58), none⟩, ⟨(some 60), .build [(.lit (.int .i64 0)), (.lit (.int .i64 0)), (.lit (.string (mkS [])))] [], none⟩, ⟨(some 2), .mov (.t 59), none⟩, ⟨none, .store 3 (.t 3) (.t 60), none⟩]) (
 .ret))))))))⟩

/-- azimuth/lexer.IsWord -/
def A20 : AFunc := ⟨6, [.inl 2],
 .seq (
  .ops [⟨(some 2), .mov (.c (.lit (.bool false))), none⟩]) (
 .seq (
  .ops [⟨(some 3), .call (.c (.fn 39 [] [])) [], none⟩, ⟨(some 4), .mov (.t 0), none⟩, ⟨(some 5), .call (.c (.fn 38 [] [])) [(.t 3), (.t 4)], none⟩, ⟨(some 2), .mov (.t 5), none⟩]) (
 .ret))⟩

/-- azimuth/runes.Bad -/
def A33 : AFunc := ⟨19, [.inl 2],
 .seq (
  .ops [⟨(some 2), .mov (.c (.lit (.int .i64 0))), none⟩]) (
 .seq (
  .ops [⟨(some 3), .new 3 (.lit (.int .i64 0)), none⟩, ⟨none, .store 1 (.t 3) (.c (.lit (.int .i64 0))), none⟩]) (
 .seq (
  .seq (
   .ops [⟨(some 6), .mov (.t 0), none⟩, ⟨(some 7), .call (.c (.fn 48 [] [])) [(.t 6)], none⟩]) (
  .block 0 (
   .rangeFn (.t 7) [8, 9] (
    .seq (
     .ops [⟨(some 4), .mov (.t 8), none⟩]) (
    .ops [⟨(some 5), .mov (.t 9), none⟩])) (
    .block 1 (
     .ops [⟨(some 10), .mov (.t 4), none⟩, ⟨(some 11), .mov (.t 5), none⟩, ⟨(some 12), .call (.c (.fn 49 [] [])) [(.t 11)], none⟩, ⟨(some 13), .bin .add (.t 10) (.t 12), none⟩, ⟨none, .store 1 (.t 3) (.t 13), none⟩]))))) (
 .seq (
  .seq (
   .ops [⟨(some 14), .load none (.t 3), none⟩, ⟨(some 15), .mov (.t 0), none⟩, ⟨(some 16), .len (.t 15), none⟩, ⟨(some 17), .eq false .pint (.t 14) (.t 16), none⟩]) (
  .cond (.t 17) (
   .seq (
    .ops [⟨(some 2), .mov (.c (.lit (.int .i64 (-1)))), none⟩]) (
   .ret)) (
   .skip))) (
 .seq (
  .ops [⟨(some 18), .load none (.t 3), none⟩, ⟨(some 2), .mov (.t 18), none⟩]) (
 .ret)))))⟩

/-- azimuth/lexer.blank -/
def A34 : AFunc := ⟨29, [.inl 2],
 .seq (
  .ops [⟨(some 2), .mov (.c (.lit (.int .i64 0))), none⟩]) (
 .seq (
  .ops [⟨(some 3), .mov (.c (.lit (.int .i64 0))), none⟩]) (
 .seq (
  .block 0 (
   .loop (
    .seq (
     .seq (
      .ops [⟨(some 4), .mov (.t 3), none⟩, ⟨(some 5), .mov (.t 0), none⟩, ⟨(some 6), .lens (.t 5), none⟩, ⟨(some 7), .bin .lss (.t 4) (.t 6), none⟩]) (
     .cond (.t 7) (
      .skip) (
      .exit 0))) (
    .block 1 (
     .block 2 (
      .seq (
       .ops [⟨(some 10), .mov (.t 0), none⟩, ⟨(some 11), .mov (.t 3), none⟩, ⟨(some 12), .sidx (.t 10) (.t 11), none⟩, ⟨(some 13), .call (.c (.fn 50 [] [])) [(.c (.lit (.string (mkS [32, 9, 10, 13])))), (.t 12)], none⟩, ⟨(some 14), .bin .geq (.t 13) (.c (.lit (.int .i64 0))), none⟩, ⟨(some 9), .mov (.t 14), none⟩]) (
      .cond (.t 9) (
       .ops [⟨(some 15), .mov (.t 3), none⟩, ⟨(some 16), .bin .add (.t 15) (.c (.lit (.int .i64 1))), none⟩, ⟨(some 3), .mov (.t 16), none⟩]) (
       .seq (
        .ops [⟨(some 18), .mov (.t 0), none⟩, ⟨(some 19), .mov (.t 3), none⟩, ⟨(some 20), .slstr (.t 18) (some (.t 19)) none, none⟩, ⟨(some 21), .call (.c (.fn 51 [] [])) [(.t 20), (.c (.lit (.string (mkS [47, 47]))))], none⟩, ⟨(some 17), .mov (.t 21), none⟩]) (
       .cond (.t 17) (
        .ops [⟨(some 22), .mov (.t 3), none⟩, ⟨(some 23), .mov (.t 0), none⟩, ⟨(some 24), .mov (.t 3), none⟩, ⟨(some 25), .slstr (.t 23) (some (.t 24)) none, none⟩, ⟨(some 26), .call (.c (.fn 41 [] [])) [(.t 25), (.c (.fn 52 [] []))], none⟩, ⟨(some 27), .bin .add (.t 22) (.t 26), none⟩, ⟨(some 3), .mov (.t 27), none⟩]) (
        .seq (
         .ops [⟨(some 8), .mov (.t 3), none⟩, ⟨(some 2), .mov (.t 8), none⟩]) (
        .ret))))))))))) (
 .seq (
  .ops [⟨(some 28), .mov (.t 3), none⟩, ⟨(some 2), .mov (.t 28), none⟩]) (
 .ret))))⟩

/-- azimuth/lexer.one -/
def A35 : AFunc := ⟨130, [.inr (2, (some 3)), .inl 3],
 .seq (
  .ops [⟨(some 2), .new 36 (.agg [(.lit (.int .i64 0)), (.lit (.string (mkS []))), (.lit (.int .i64 0))]), none⟩, ⟨(some 3), .mov (.c (.lit (.int .i64 0))), none⟩]) (
 .seq (
  .ops [⟨(some 15), .mov (.t 0), none⟩, ⟨(some 16), .sidx (.t 15) (.c (.lit (.int .i64 0))), none⟩, ⟨(some 4), .mov (.t 16), none⟩]) (
 .seq (
  .block 0 (
   .seq (
    .ops [⟨(some 18), .mov (.t 0), none⟩, ⟨(some 19), .call (.c (.fn 51 [] [])) [(.t 18), (.c (.lit (.string (mkS [102, 39]))))], none⟩, ⟨(some 17), .mov (.t 19), none⟩]) (
   .cond (.t 17) (
    .seq (
     .ops [⟨(some 21), .mov (.t 0), none⟩, ⟨(some 22), .call (.c (.fn 53 [] [])) [(.t 21)], none⟩, ⟨(some 20), .mov (.t 22), none⟩, ⟨(some 23), .extract (.t 20) 0, none⟩, ⟨(some 24), .extract (.t 20) 1, none⟩, ⟨(some 5), .mov (.t 23), none⟩, ⟨(some 6), .mov (.t 24), none⟩]) (
    .seq (
     .seq (
      .ops [⟨(some 25), .mov (.t 6), none⟩, ⟨(some 26), .un .not (.t 25), none⟩]) (
     .cond (.t 26) (
      .seq (
       .ops [⟨(some 27), .build [(.lit (.int .i64 0)), (.lit (.string (mkS []))), (.lit (.int .i64 0))] [], none⟩, ⟨none, .store 3 (.t 2) (.t 27), none⟩, ⟨(some 3), .mov (.c (.lit (.int .i64 0))), none⟩]) (
      .ret)) (
      .skip))) (
    .seq (
     .ops [⟨(some 28), .mov (.t 5), none⟩, ⟨(some 29), .build [(.lit (.int .i64 0)), (.lit (.string (mkS []))), (.lit (.int .i64 0))] [(0, 1, (.c (.lit (.int .i64 5)))), (1, 1, (.t 28))], none⟩, ⟨(some 30), .mov (.t 5), none⟩, ⟨(some 31), .lens (.t 30), none⟩, ⟨none, .store 3 (.t 2) (.t 29), none⟩, ⟨(some 3), .mov (.t 31), none⟩]) (
    .ret)))) (
    .seq (
     .ops [⟨(some 33), .mov (.t 4), none⟩, ⟨(some 34), .call (.c (.fn 40 [] [])) [(.t 33)], none⟩, ⟨(some 32), .mov (.t 34), none⟩]) (
    .cond (.t 32) (
     .seq (
      .ops [⟨(some 35), .mov (.t 0), none⟩, ⟨(some 36), .call (.c (.fn 41 [] [])) [(.t 35), (.c (.fn 42 [] []))], none⟩, ⟨(some 7), .mov (.t 36), none⟩]) (
     .seq (
      .seq (
       .ops [⟨(some 37), .mov (.t 0), none⟩, ⟨(some 38), .mov (.t 7), none⟩, ⟨(some 39), .slstr (.t 37) none (some (.t 38)), none⟩, ⟨(some 40), .call (.c (.fn 20 [] [])) [(.t 39)], none⟩]) (
      .cond (.t 40) (
       .seq (
        .ops [⟨(some 41), .mov (.t 0), none⟩, ⟨(some 42), .mov (.t 7), none⟩, ⟨(some 43), .slstr (.t 41) none (some (.t 42)), none⟩, ⟨(some 44), .build [(.lit (.int .i64 0)), (.lit (.string (mkS []))), (.lit (.int .i64 0))] [(0, 1, (.c (.lit (.int .i64 7)))), (1, 1, (.t 43))], none⟩, ⟨(some 45), .mov (.t 7), none⟩, ⟨none, .store 3 (.t 2) (.t 44), none⟩, ⟨(some 3), .mov (.t 45), none⟩]) (
       .ret)) (
       .skip))) (
     .seq (
      .ops [⟨(some 46), .mov (.t 0), none⟩, ⟨(some 47), .mov (.t 7), none⟩, ⟨(some 48), .slstr (.t 46) none (some (.t 47)), none⟩, ⟨(some 49), .build [(.lit (.int .i64 0)), (.lit (.string (mkS []))), (.lit (.int .i64 0))] [(0, 1, (.c (.lit (.int .i64 1)))), (1, 1, (.t 48))], none⟩, ⟨(some 50), .mov (.t 7), none⟩, ⟨none, .store 3 (.t 2) (.t 49), none⟩, ⟨(some 3), .mov (.t 50), none⟩]) (
     .ret)))) (
     .seq (
      .ops [⟨(some 52), .mov (.t 4), none⟩, ⟨(some 53), .call (.c (.fn 54 [] [])) [(.t 52)], none⟩, ⟨(some 51), .mov (.t 53), none⟩]) (
     .cond (.t 51) (
      .seq (
       .ops [⟨(some 54), .mov (.t 0), none⟩, ⟨(some 55), .call (.c (.fn 41 [] [])) [(.t 54), (.c (.fn 55 [] []))], none⟩, ⟨(some 8), .mov (.t 55), none⟩]) (
      .seq (
       .ops [⟨(some 56), .mov (.t 0), none⟩, ⟨(some 57), .mov (.t 8), none⟩, ⟨(some 58), .slstr (.t 56) none (some (.t 57)), none⟩, ⟨(some 59), .build [(.lit (.int .i64 0)), (.lit (.string (mkS []))), (.lit (.int .i64 0))] [(0, 1, (.c (.lit (.int .i64 2)))), (1, 1, (.t 58))], none⟩, ⟨(some 60), .mov (.t 8), none⟩, ⟨none, .store 3 (.t 2) (.t 59), none⟩, ⟨(some 3), .mov (.t 60), none⟩]) (
      .ret))) (
      .seq (
       .ops [⟨(some 62), .mov (.t 4), none⟩, ⟨(some 63), .call (.c (.fn 56 [] [])) [(.t 62)], none⟩, ⟨(some 61), .mov (.t 63), none⟩]) (
      .cond (.t 61) (
       .seq (
        .ops [⟨(some 64), .mov (.t 0), none⟩, ⟨(some 65), .call (.c (.fn 41 [] [])) [(.t 64), (.c (.fn 56 [] []))], none⟩, ⟨(some 9), .mov (.t 65), none⟩]) (
       .seq (
        .seq (
         .ops [⟨(some 66), .mov (.t 0), none⟩, ⟨(some 67), .mov (.t 9), none⟩, ⟨(some 68), .slstr (.t 66) none (some (.t 67)), none⟩, ⟨(some 69), .call (.c (.fn 57 [] [])) [(.t 68)], none⟩, ⟨(some 70), .un .not (.t 69), none⟩]) (
        .cond (.t 70) (
         .seq (
          .ops [⟨(some 71), .build [(.lit (.int .i64 0)), (.lit (.string (mkS []))), (.lit (.int .i64 0))] [], none⟩, ⟨none, .store 3 (.t 2) (.t 71), none⟩, ⟨(some 3), .mov (.c (.lit (.int .i64 0))), none⟩]) (
         .ret)) (
         .skip))) (
       .seq (
        .ops [⟨(some 72), .mov (.t 0), none⟩, ⟨(some 73), .mov (.t 9), none⟩, ⟨(some 74), .slstr (.t 72) none (some (.t 73)), none⟩, ⟨(some 75), .build [(.lit (.int .i64 0)), (.lit (.string (mkS []))), (.lit (.int .i64 0))] [(0, 1, (.c (.lit (.int .i64 4)))), (1, 1, (.t 74))], none⟩, ⟨(some 76), .mov (.t 9), none⟩, ⟨none, .store 3 (.t 2) (.t 75), none⟩, ⟨(some 3), .mov (.t 76), none⟩]) (
       .ret)))) (
       .seq (
        .ops [⟨(some 78), .mov (.t 4), none⟩, ⟨(some 79), .eq false .pint (.t 78) (.c (.lit (.int .u8 35))), none⟩, ⟨(some 80), .mov (.t 79), none⟩, ⟨(some 81), .mov (.t 0), (some (80, true))⟩, ⟨(some 82), .lens (.t 81), (some (80, true))⟩, ⟨(some 83), .bin .gtr (.t 82) (.c (.lit (.int .i64 1))), (some (80, true))⟩, ⟨(some 84), .pick (.t 80) (.t 83) (.c (.lit (.bool false))), none⟩, ⟨(some 85), .mov (.t 84), none⟩, ⟨(some 86), .mov (.t 0), (some (85, true))⟩, ⟨(some 87), .sidx (.t 86) (.c (.lit (.int .i64 1))), (some (85, true))⟩, ⟨(some 88), .call (.c (.fn 40 [] [])) [(.t 87)], (some (85, true))⟩, ⟨(some 89), .pick (.t 85) (.t 88) (.c (.lit (.bool false))), none⟩, ⟨(some 77), .mov (.t 89), none⟩]) (
       .cond (.t 77) (
        .seq (
         .ops [⟨(some 90), .mov (.t 0), none⟩, ⟨(some 91), .slstr (.t 90) (some (.c (.lit (.int .i64 1)))) none, none⟩, ⟨(some 92), .call (.c (.fn 41 [] [])) [(.t 91), (.c (.fn 42 [] []))], none⟩, ⟨(some 93), .bin .add (.c (.lit (.int .i64 1))) (.t 92), none⟩, ⟨(some 10), .mov (.t 93), none⟩]) (
        .seq (
         .ops [⟨(some 94), .mov (.t 0), none⟩, ⟨(some 95), .mov (.t 10), none⟩, ⟨(some 96), .slstr (.t 94) (some (.c (.lit (.int .i64 1)))) (some (.t 95)), none⟩, ⟨(some 97), .build [(.lit (.int .i64 0)), (.lit (.string (mkS []))), (.lit (.int .i64 0))] [(0, 1, (.c (.lit (.int .i64 3)))), (1, 1, (.t 96))], none⟩, ⟨(some 98), .mov (.t 10), none⟩, ⟨none, .store 3 (.t 2) (.t 97), none⟩, ⟨(some 3), .mov (.t 98), none⟩]) (
        .ret))) (
        .seq (
         .ops [⟨(some 100), .mov (.t 4), none⟩, ⟨(some 101), .eq false .pint (.t 100) (.c (.lit (.int .u8 34))), none⟩, ⟨(some 99), .mov (.t 101), none⟩]) (
        .cond (.t 99) (
         .seq (
          .ops [⟨(some 103), .mov (.t 0), none⟩, ⟨(some 104), .slstr (.t 103) (some (.c (.lit (.int .i64 1)))) none, none⟩, ⟨(some 105), .call (.c (.fn 58 [] [])) [(.t 104)], none⟩, ⟨(some 102), .mov (.t 105), none⟩, ⟨(some 106), .extract (.t 102) 0, none⟩, ⟨(some 107), .extract (.t 102) 1, none⟩, ⟨(some 11), .mov (.t 106), none⟩, ⟨(some 12), .mov (.t 107), none⟩]) (
         .seq (
          .seq (
           .ops [⟨(some 108), .mov (.t 12), none⟩, ⟨(some 109), .bin .lss (.t 108) (.c (.lit (.int .i64 0))), none⟩]) (
          .cond (.t 109) (
           .seq (
            .ops [⟨(some 110), .build [(.lit (.int .i64 0)), (.lit (.string (mkS []))), (.lit (.int .i64 0))] [], none⟩, ⟨none, .store 3 (.t 2) (.t 110), none⟩, ⟨(some 3), .mov (.c (.lit (.int .i64 0))), none⟩]) (
           .ret)) (
           .skip))) (
         .seq (
          .ops [⟨(some 111), .mov (.t 11), none⟩, ⟨(some 112), .build [(.lit (.int .i64 0)), (.lit (.string (mkS []))), (.lit (.int .i64 0))] [(0, 1, (.c (.lit (.int .i64 6)))), (1, 1, (.t 111))], none⟩, ⟨(some 113), .mov (.t 12), none⟩, ⟨(some 114), .bin .add (.t 113) (.c (.lit (.int .i64 1))), none⟩, ⟨none, .store 3 (.t 2) (.t 112), none⟩, ⟨(some 3), .mov (.t 114), none⟩]) (
         .ret)))) (
         .skip)))))))))))))) (
 .seq (
  .seq (
   .ops [⟨(some 115), .call (.c (.fn 59 [] [])) [], none⟩, ⟨(some 116), .len (.t 115), none⟩, ⟨(some 117), .mov (.c (.lit (.int .i64 0))), none⟩]) (
  .block 1 (
   .loop (
    .seq (
     .ops [⟨(some 118), .bin .lss (.t 117) (.t 116), none⟩]) (
    .seq (
     .cond (.t 118) (
      .skip) (
      .exit 1)) (
    .seq (
     .block 2 (
      .seq (
       .ops [⟨(some 119), .iaddr 1 (.t 115) (.t 117), none⟩, ⟨(some 120), .load none (.t 119), none⟩, ⟨(some 14), .mov (.t 120), none⟩]) (
      .seq (
       .ops [⟨(some 121), .mov (.t 0), none⟩, ⟨(some 122), .mov (.t 14), none⟩, ⟨(some 123), .call (.c (.fn 51 [] [])) [(.t 121), (.t 122)], none⟩]) (
      .cond (.t 123) (
       .seq (
        .ops [⟨(some 124), .mov (.t 14), none⟩, ⟨(some 125), .build [(.lit (.int .i64 0)), (.lit (.string (mkS []))), (.lit (.int .i64 0))] [(0, 1, (.c (.lit (.int .i64 8)))), (1, 1, (.t 124))], none⟩, ⟨(some 126), .mov (.t 14), none⟩, ⟨(some 127), .lens (.t 126), none⟩, ⟨none, .store 3 (.t 2) (.t 125), none⟩, ⟨(some 3), .mov (.t 127), none⟩]) (
       .ret)) (
       .skip))))) (
    .ops [⟨(some 128), .bin .add (.t 117) (.c (.lit (.int .i64 1))), none⟩, ⟨(some 117), .mov (.t 128), none⟩]))))))) (
 .seq (
  .ops [⟨(some 129), .build [(.lit (.int .i64 0)), (.lit (.string (mkS []))), (.lit (.int .i64 0))] [], none⟩, ⟨none, .store 3 (.t 2) (.t 129), none⟩, ⟨(some 3), .mov (.c (.lit (.int .i64 0))), none⟩]) (
 .ret)))))⟩

/-- slices.Contains[[]string,string] -/
def A38 : AFunc := ⟨9, [.inl 4],
 .seq (
  .ops [⟨(some 4), .mov (.c (.lit (.bool false))), none⟩]) (
 .seq (
  .ops [⟨(some 5), .mov (.t 0), none⟩, ⟨(some 6), .mov (.t 1), none⟩, ⟨(some 7), .call (.c (.fn 69 [] [])) [(.t 5), (.t 6)], none⟩, ⟨(some 8), .bin .geq (.t 7) (.c (.lit (.int .i64 0))), none⟩, ⟨(some 4), .mov (.t 8), none⟩]) (
 .ret))⟩

/-- azimuth/lexer.words -/
def A39 : AFunc := ⟨2, [.inl 0],
 .seq (
  .ops [⟨(some 0), .mov (.c (.lit (.slice none 0 0))), none⟩]) (
 .seq (
  .ops [⟨(some 1), .bslice 9 1 none 20 [(.lit (.string (mkS [])))] [(0, 1, (.c (.lit (.string (mkS [102, 117, 110]))))), (1, 1, (.c (.lit (.string (mkS [108, 101, 116]))))), (2, 1, (.c (.lit (.string (mkS [114, 101, 99]))))), (3, 1, (.c (.lit (.string (mkS [105, 110]))))), (4, 1, (.c (.lit (.string (mkS [105, 102]))))), (5, 1, (.c (.lit (.string (mkS [116, 104, 101, 110]))))), (6, 1, (.c (.lit (.string (mkS [101, 108, 115, 101]))))), (7, 1, (.c (.lit (.string (mkS [99, 97, 115, 101]))))), (8, 1, (.c (.lit (.string (mkS [111, 102]))))), (9, 1, (.c (.lit (.string (mkS [101, 110, 100]))))), (10, 1, (.c (.lit (.string (mkS [116, 114, 117, 101]))))), (11, 1, (.c (.lit (.string (mkS [102, 97, 108, 115, 101]))))), (12, 1, (.c (.lit (.string (mkS [105, 110, 116]))))), (13, 1, (.c (.lit (.string (mkS [98, 111, 111, 108]))))), (14, 1, (.c (.lit (.string (mkS [115, 116, 114]))))), (15, 1, (.c (.lit (.string (mkS [102, 108, 111, 97, 116]))))), (16, 1, (.c (.lit (.string (mkS [100, 121, 110]))))), (17, 1, (.c (.lit (.string (mkS [97, 110, 121]))))), (18, 1, (.c (.lit (.string (mkS [110, 111, 110, 101]))))), (19, 1, (.c (.lit (.string (mkS [116, 121, 112, 101])))))], none⟩, ⟨(some 0), .mov (.t 1), none⟩]) (
 .ret))⟩

/-- azimuth/lexer.low -/
def A40 : AFunc := ⟨13, [.inl 2],
 .seq (
  .ops [⟨(some 2), .mov (.c (.lit (.bool false))), none⟩]) (
 .seq (
  .ops [⟨(some 3), .mov (.t 0), none⟩, ⟨(some 4), .bin .geq (.t 3) (.c (.lit (.int .u8 97))), none⟩, ⟨(some 5), .mov (.t 4), none⟩, ⟨(some 6), .mov (.t 0), (some (5, true))⟩, ⟨(some 7), .bin .leq (.t 6) (.c (.lit (.int .u8 122))), (some (5, true))⟩, ⟨(some 8), .pick (.t 5) (.t 7) (.c (.lit (.bool false))), none⟩, ⟨(some 9), .mov (.t 8), none⟩, ⟨(some 10), .mov (.t 0), (some (9, false))⟩, ⟨(some 11), .eq false .pint (.t 10) (.c (.lit (.int .u8 95))), (some (9, false))⟩, ⟨(some 12), .pick (.t 9) (.c (.lit (.bool true))) (.t 11), none⟩, ⟨(some 2), .mov (.t 12), none⟩]) (
 .ret))⟩

/-- azimuth/lexer.run -/
def A41 : AFunc := ⟨20, [.inl 4],
 .seq (
  .ops [⟨(some 4), .mov (.c (.lit (.int .i64 0))), none⟩]) (
 .seq (
  .ops [⟨(some 5), .mov (.c (.lit (.int .i64 0))), none⟩]) (
 .seq (
  .block 0 (
   .loop (
    .seq (
     .seq (
      .ops [⟨(some 6), .mov (.t 5), none⟩, ⟨(some 7), .mov (.t 0), none⟩, ⟨(some 8), .lens (.t 7), none⟩, ⟨(some 9), .bin .lss (.t 6) (.t 8), none⟩, ⟨(some 10), .mov (.t 9), none⟩, ⟨(some 11), .mov (.t 1), (some (10, true))⟩, ⟨(some 12), .mov (.t 0), (some (10, true))⟩, ⟨(some 13), .mov (.t 5), (some (10, true))⟩, ⟨(some 14), .sidx (.t 12) (.t 13), (some (10, true))⟩, ⟨(some 15), .call (.t 11) [(.t 14)], (some (10, true))⟩, ⟨(some 16), .pick (.t 10) (.t 15) (.c (.lit (.bool false))), none⟩]) (
     .cond (.t 16) (
      .skip) (
      .exit 0))) (
    .block 1 (
     .ops [⟨(some 17), .mov (.t 5), none⟩, ⟨(some 18), .bin .add (.t 17) (.c (.lit (.int .i64 1))), none⟩, ⟨(some 5), .mov (.t 18), none⟩]))))) (
 .seq (
  .ops [⟨(some 19), .mov (.t 5), none⟩, ⟨(some 4), .mov (.t 19), none⟩]) (
 .ret))))⟩

/-- azimuth/lexer.inName -/
def A42 : AFunc := ⟨9, [.inl 2],
 .seq (
  .ops [⟨(some 2), .mov (.c (.lit (.bool false))), none⟩]) (
 .seq (
  .ops [⟨(some 3), .mov (.t 0), none⟩, ⟨(some 4), .call (.c (.fn 40 [] [])) [(.t 3)], none⟩, ⟨(some 5), .mov (.t 4), none⟩, ⟨(some 6), .mov (.t 0), (some (5, false))⟩, ⟨(some 7), .call (.c (.fn 56 [] [])) [(.t 6)], (some (5, false))⟩, ⟨(some 8), .pick (.t 5) (.c (.lit (.bool true))) (.t 7), none⟩, ⟨(some 2), .mov (.t 8), none⟩]) (
 .ret))⟩

/-- azimuth/runes.All -/
def A48 : AFunc := ⟨4, [.inl 2],
 .seq (
  .ops [⟨(some 1), .box 27 (.t 0), none⟩, ⟨(some 2), .mov (.c (.lit .nilFunc)), none⟩]) (
 .seq (
  .ops [⟨(some 3), .mkfn 74 [] [(.t 1)], none⟩, ⟨(some 2), .mov (.t 3), none⟩]) (
 .ret))⟩

/-- azimuth/runes.size -/
def A49 : AFunc := ⟨12, [.inl 2],
 .seq (
  .ops [⟨(some 2), .mov (.c (.lit (.int .i64 0))), none⟩]) (
 .seq (
  .block 0 (
   .seq (
    .ops [⟨(some 4), .mov (.t 0), none⟩, ⟨(some 5), .bin .lss (.t 4) (.c (.lit (.int .i32 128))), none⟩, ⟨(some 3), .mov (.t 5), none⟩]) (
   .cond (.t 3) (
    .seq (
     .ops [⟨(some 2), .mov (.c (.lit (.int .i64 1))), none⟩]) (
    .ret)) (
    .seq (
     .ops [⟨(some 7), .mov (.t 0), none⟩, ⟨(some 8), .bin .lss (.t 7) (.c (.lit (.int .i32 2048))), none⟩, ⟨(some 6), .mov (.t 8), none⟩]) (
    .cond (.t 6) (
     .seq (
      .ops [⟨(some 2), .mov (.c (.lit (.int .i64 2))), none⟩]) (
     .ret)) (
     .seq (
      .ops [⟨(some 10), .mov (.t 0), none⟩, ⟨(some 11), .bin .lss (.t 10) (.c (.lit (.int .i32 65536))), none⟩, ⟨(some 9), .mov (.t 11), none⟩]) (
     .cond (.t 9) (
      .seq (
       .ops [⟨(some 2), .mov (.c (.lit (.int .i64 3))), none⟩]) (
      .ret)) (
      .skip)))))))) (
 .seq (
  .ops [⟨(some 2), .mov (.c (.lit (.int .i64 4))), none⟩]) (
 .ret)))⟩

/-- strings.IndexByte -/
def A50 : AFunc := ⟨8, [.inl 4],
 .seq (
  .ops [⟨(some 4), .mov (.c (.lit (.int .i64 0))), none⟩]) (
 .seq (
  .ops [⟨(some 5), .mov (.t 0), none⟩, ⟨(some 6), .mov (.t 1), none⟩, ⟨(some 7), .call (.c (.fn 76 [] [])) [(.t 5), (.t 6)], none⟩, ⟨(some 4), .mov (.t 7), none⟩]) (
 .ret))⟩

/-- strings.HasPrefix -/
def A51 : AFunc := ⟨8, [.inl 4],
 .seq (
  .ops [⟨(some 4), .mov (.c (.lit (.bool false))), none⟩]) (
 .seq (
  .ops [⟨(some 5), .mov (.t 0), none⟩, ⟨(some 6), .mov (.t 1), none⟩, ⟨(some 7), .call (.c (.fn 77 [] [])) [(.t 5), (.t 6)], none⟩, ⟨(some 4), .mov (.t 7), none⟩]) (
 .ret))⟩

/-- azimuth/lexer.blank$1 -/
def A52 : AFunc := ⟨5, [.inl 2],
 .seq (
  .ops [⟨(some 2), .mov (.c (.lit (.bool false))), none⟩]) (
 .seq (
  .ops [⟨(some 3), .mov (.t 0), none⟩, ⟨(some 4), .eq true .pint (.t 3) (.c (.lit (.int .u8 10))), none⟩, ⟨(some 2), .mov (.t 4), none⟩]) (
 .ret))⟩

/-- azimuth/lexer.high -/
def A54 : AFunc := ⟨9, [.inl 2],
 .seq (
  .ops [⟨(some 2), .mov (.c (.lit (.bool false))), none⟩]) (
 .seq (
  .ops [⟨(some 3), .mov (.t 0), none⟩, ⟨(some 4), .bin .geq (.t 3) (.c (.lit (.int .u8 65))), none⟩, ⟨(some 5), .mov (.t 4), none⟩, ⟨(some 6), .mov (.t 0), (some (5, true))⟩, ⟨(some 7), .bin .leq (.t 6) (.c (.lit (.int .u8 90))), (some (5, true))⟩, ⟨(some 8), .pick (.t 5) (.t 7) (.c (.lit (.bool false))), none⟩, ⟨(some 2), .mov (.t 8), none⟩]) (
 .ret))⟩

/-- azimuth/lexer.digit -/
def A56 : AFunc := ⟨9, [.inl 2],
 .seq (
  .ops [⟨(some 2), .mov (.c (.lit (.bool false))), none⟩]) (
 .seq (
  .ops [⟨(some 3), .mov (.t 0), none⟩, ⟨(some 4), .bin .geq (.t 3) (.c (.lit (.int .u8 48))), none⟩, ⟨(some 5), .mov (.t 4), none⟩, ⟨(some 6), .mov (.t 0), (some (5, true))⟩, ⟨(some 7), .bin .leq (.t 6) (.c (.lit (.int .u8 57))), (some (5, true))⟩, ⟨(some 8), .pick (.t 5) (.t 7) (.c (.lit (.bool false))), none⟩, ⟨(some 2), .mov (.t 8), none⟩]) (
 .ret))⟩

/-- azimuth/lexer.signs -/
def A59 : AFunc := ⟨2, [.inl 0],
 .seq (
  .ops [⟨(some 0), .mov (.c (.lit (.slice none 0 0))), none⟩]) (
 .seq (
  .ops [⟨(some 1), .bslice 9 1 none 27 [(.lit (.string (mkS [])))] [(0, 1, (.c (.lit (.string (mkS [61, 62]))))), (1, 1, (.c (.lit (.string (mkS [45, 62]))))), (2, 1, (.c (.lit (.string (mkS [61, 61]))))), (3, 1, (.c (.lit (.string (mkS [46, 46]))))), (4, 1, (.c (.lit (.string (mkS [43, 46]))))), (5, 1, (.c (.lit (.string (mkS [45, 46]))))), (6, 1, (.c (.lit (.string (mkS [42, 46]))))), (7, 1, (.c (.lit (.string (mkS [47, 46]))))), (8, 1, (.c (.lit (.string (mkS [60, 46]))))), (9, 1, (.c (.lit (.string (mkS [40]))))), (10, 1, (.c (.lit (.string (mkS [41]))))), (11, 1, (.c (.lit (.string (mkS [123]))))), (12, 1, (.c (.lit (.string (mkS [125]))))), (13, 1, (.c (.lit (.string (mkS [91]))))), (14, 1, (.c (.lit (.string (mkS [93]))))), (15, 1, (.c (.lit (.string (mkS [44]))))), (16, 1, (.c (.lit (.string (mkS [59]))))), (17, 1, (.c (.lit (.string (mkS [58]))))), (18, 1, (.c (.lit (.string (mkS [46]))))), (19, 1, (.c (.lit (.string (mkS [61]))))), (20, 1, (.c (.lit (.string (mkS [124]))))), (21, 1, (.c (.lit (.string (mkS [43]))))), (22, 1, (.c (.lit (.string (mkS [45]))))), (23, 1, (.c (.lit (.string (mkS [42]))))), (24, 1, (.c (.lit (.string (mkS [47]))))), (25, 1, (.c (.lit (.string (mkS [60]))))), (26, 1, (.c (.lit (.string (mkS [94])))))], none⟩, ⟨(some 0), .mov (.t 1), none⟩]) (
 .ret))⟩

/-- slices.Index[[]string,string] -/
def A69 : AFunc := ⟨19, [.inl 4],
 .seq (
  .ops [⟨(some 4), .mov (.c (.lit (.int .i64 0))), none⟩]) (
 .seq (
  .seq (
   .ops [⟨(some 6), .mov (.t 0), none⟩, ⟨(some 7), .len (.t 6), none⟩, ⟨(some 8), .mov (.c (.lit (.int .i64 0))), none⟩]) (
  .block 0 (
   .loop (
    .seq (
     .ops [⟨(some 9), .bin .lss (.t 8) (.t 7), none⟩]) (
    .seq (
     .cond (.t 9) (
      .skip) (
      .exit 0)) (
    .seq (
     .block 1 (
      .seq (
       .ops [⟨(some 10), .mov (.t 8), none⟩, ⟨(some 5), .mov (.t 10), none⟩]) (
      .seq (
       .ops [⟨(some 11), .mov (.t 1), none⟩, ⟨(some 12), .mov (.t 0), none⟩, ⟨(some 13), .mov (.t 5), none⟩, ⟨(some 14), .iaddr 1 (.t 12) (.t 13), none⟩, ⟨(some 15), .load none (.t 14), none⟩, ⟨(some 16), .eq false .pstr (.t 11) (.t 15), none⟩]) (
      .cond (.t 16) (
       .seq (
        .ops [⟨(some 17), .mov (.t 5), none⟩, ⟨(some 4), .mov (.t 17), none⟩]) (
       .ret)) (
       .skip))))) (
    .ops [⟨(some 18), .bin .add (.t 8) (.c (.lit (.int .i64 1))), none⟩, ⟨(some 8), .mov (.t 18), none⟩]))))))) (
 .seq (
  .ops [⟨(some 4), .mov (.c (.lit (.int .i64 (-1)))), none⟩]) (
 .ret)))⟩

/-- azimuth/runes.All$1 -/
def A74 : AFunc := ⟨29, [],
 .seq (
  .ops [⟨(some 3), .mov (.c (.lit (.int .i64 0))), none⟩]) (
 .block 0 (
  .loop (
   .seq (
    .seq (
     .ops [⟨(some 6), .mov (.t 3), none⟩, ⟨(some 7), .load none (.t 1), none⟩, ⟨(some 8), .len (.t 7), none⟩, ⟨(some 9), .bin .lss (.t 6) (.t 8), none⟩]) (
    .cond (.t 9) (
     .skip) (
     .exit 0))) (
   .block 1 (
    .seq (
     .ops [⟨(some 11), .load none (.t 1), none⟩, ⟨(some 12), .mov (.t 3), none⟩, ⟨(some 13), .slice 1 (.t 11) (some (.t 12)) none, none⟩, ⟨(some 14), .call (.c (.fn 75 [] [])) [(.t 13)], none⟩, ⟨(some 10), .mov (.t 14), none⟩, ⟨(some 15), .extract (.t 10) 0, none⟩, ⟨(some 16), .extract (.t 10) 1, none⟩, ⟨(some 4), .mov (.t 15), none⟩, ⟨(some 5), .mov (.t 16), none⟩]) (
    .seq (
     .seq (
      .ops [⟨(some 17), .mov (.t 5), none⟩, ⟨(some 18), .eq false .pint (.t 17) (.c (.lit (.int .i64 0))), none⟩, ⟨(some 19), .mov (.t 18), none⟩, ⟨(some 20), .mov (.t 0), (some (19, false))⟩, ⟨(some 21), .mov (.t 3), (some (19, false))⟩, ⟨(some 22), .mov (.t 4), (some (19, false))⟩, ⟨(some 23), .call (.t 20) [(.t 21), (.t 22)], (some (19, false))⟩, ⟨(some 24), .un .not (.t 23), (some (19, false))⟩, ⟨(some 25), .pick (.t 19) (.c (.lit (.bool true))) (.t 24), none⟩]) (
     .cond (.t 25) (
      .ret) (
      .skip))) (
    .ops [⟨(some 26), .mov (.t 3), none⟩, ⟨(some 27), .mov (.t 5), none⟩, ⟨(some 28), .bin .add (.t 26) (.t 27), none⟩, ⟨(some 3), .mov (.t 28), none⟩])))))))⟩

/-- azimuth/runes.first -/
def A75 : AFunc := ⟨82, [.inl 2, .inl 3],
 .seq (
  .ops [⟨(some 2), .mov (.c (.lit (.int .i32 0))), none⟩, ⟨(some 3), .mov (.c (.lit (.int .i64 0))), none⟩]) (
 .seq (
  .seq (
   .ops [⟨(some 8), .mov (.t 0), none⟩, ⟨(some 9), .len (.t 8), none⟩, ⟨(some 10), .eq false .pint (.t 9) (.c (.lit (.int .i64 0))), none⟩]) (
  .cond (.t 10) (
   .seq (
    .ops [⟨(some 2), .mov (.c (.lit (.int .i32 0))), none⟩, ⟨(some 3), .mov (.c (.lit (.int .i64 0))), none⟩]) (
   .ret)) (
   .skip))) (
 .seq (
  .seq (
   .ops [⟨(some 11), .mov (.t 0), none⟩, ⟨(some 12), .iaddr 1 (.t 11) (.c (.lit (.int .i64 0))), none⟩, ⟨(some 13), .load none (.t 12), none⟩, ⟨(some 14), .bin .lss (.t 13) (.c (.lit (.int .u8 128))), none⟩]) (
  .cond (.t 14) (
   .seq (
    .ops [⟨(some 15), .mov (.t 0), none⟩, ⟨(some 16), .iaddr 1 (.t 15) (.c (.lit (.int .i64 0))), none⟩, ⟨(some 17), .load none (.t 16), none⟩, ⟨(some 18), .conv (.toInt .i32) (.t 17), none⟩, ⟨(some 2), .mov (.t 18), none⟩, ⟨(some 3), .mov (.c (.lit (.int .i64 1))), none⟩]) (
   .ret)) (
   .skip))) (
 .seq (
  .ops [⟨(some 4), .mov (.c (.lit (.int .i64 0))), none⟩]) (
 .seq (
  .block 0 (
   .loop (
    .seq (
     .seq (
      .ops [⟨(some 19), .mov (.t 4), none⟩, ⟨(some 20), .bin .lss (.t 19) (.c (.lit (.int .i64 4))), none⟩, ⟨(some 21), .mov (.t 20), none⟩, ⟨(some 22), .mov (.t 0), (some (21, true))⟩, ⟨(some 23), .iaddr 1 (.t 22) (.c (.lit (.int .i64 0))), (some (21, true))⟩, ⟨(some 24), .load none (.t 23), (some (21, true))⟩, ⟨(some 25), .mov (.t 4), (some (21, true))⟩, ⟨(some 26), .bin .shl (.t 24) (.t 25), (some (21, true))⟩, ⟨(some 27), .bin .and (.t 26) (.c (.lit (.int .u8 128))), (some (21, true))⟩, ⟨(some 28), .eq true .pint (.t 27) (.c (.lit (.int .u8 0))), (some (21, true))⟩, ⟨(some 29), .pick (.t 21) (.t 28) (.c (.lit (.bool false))), none⟩]) (
     .cond (.t 29) (
      .skip) (
      .exit 0))) (
    .block 1 (
     .ops [⟨(some 30), .mov (.t 4), none⟩, ⟨(some 31), .bin .add (.t 30) (.c (.lit (.int .i64 1))), none⟩, ⟨(some 4), .mov (.t 31), none⟩]))))) (
 .seq (
  .seq (
   .ops [⟨(some 32), .mov (.t 4), none⟩, ⟨(some 33), .bin .lss (.t 32) (.c (.lit (.int .i64 2))), none⟩, ⟨(some 34), .mov (.t 33), none⟩, ⟨(some 35), .mov (.t 0), (some (34, false))⟩, ⟨(some 36), .len (.t 35), (some (34, false))⟩, ⟨(some 37), .mov (.t 4), (some (34, false))⟩, ⟨(some 38), .bin .lss (.t 36) (.t 37), (some (34, false))⟩, ⟨(some 39), .pick (.t 34) (.c (.lit (.bool true))) (.t 38), none⟩, ⟨(some 40), .mov (.t 39), none⟩, ⟨(some 41), .mov (.t 0), (some (40, false))⟩, ⟨(some 42), .iaddr 1 (.t 41) (.c (.lit (.int .i64 0))), (some (40, false))⟩, ⟨(some 43), .load none (.t 42), (some (40, false))⟩, ⟨(some 44), .bin .geq (.t 43) (.c (.lit (.int .u8 248))), (some (40, false))⟩, ⟨(some 45), .pick (.t 40) (.c (.lit (.bool true))) (.t 44), none⟩]) (
  .cond (.t 45) (
   .seq (
    .ops [⟨(some 2), .mov (.c (.lit (.int .i32 0))), none⟩, ⟨(some 3), .mov (.c (.lit (.int .i64 0))), none⟩]) (
   .ret)) (
   .skip))) (
 .seq (
  .dops 10 [⟨(some 46), .mov (.t 0), none⟩, ⟨(some 47), .iaddr 1 (.t 46) (.c (.lit (.int .i64 0))), none⟩, ⟨(some 48), .load none (.t 47), none⟩, ⟨(some 49), .mov (.t 4), none⟩, ⟨(some 50), .bin .shr (.c (.lit (.int .u8 127))) (.t 49), none⟩, ⟨(some 51), .bin .and (.t 48) (.t 50), none⟩, ⟨(some 52), .conv (.toInt .i32) (.t 51), none⟩, ⟨(some 5), .mov (.t 52), none⟩] [0, 0, 0, 0, 0, 0, 0, 0] []) (
 .seq (
  .seq (
   .ops [⟨(some 53), .mov (.t 0), none⟩, ⟨(some 54), .mov (.t 4), none⟩, ⟨(some 55), .slice 1 (.t 53) (some (.c (.lit (.int .i64 1)))) (some (.t 54)), none⟩, ⟨(some 56), .len (.t 55), none⟩, ⟨(some 57), .mov (.c (.lit (.int .i64 0))), none⟩]) (
  .block 2 (
   .loop (
    .seq (
     .ops [⟨(some 58), .bin .lss (.t 57) (.t 56), none⟩]) (
    .seq (
     .cond (.t 58) (
      .skip) (
      .exit 2)) (
    .seq (
     .block 3 (
      .seq (
       .ops [⟨(some 59), .iaddr 1 (.t 55) (.t 57), none⟩, ⟨(some 60), .load none (.t 59), none⟩, ⟨(some 7), .mov (.t 60), none⟩]) (
      .seq (
       .seq (
        .ops [⟨(some 61), .mov (.t 7), none⟩, ⟨(some 62), .bin .and (.t 61) (.c (.lit (.int .u8 192))), none⟩, ⟨(some 63), .eq true .pint (.t 62) (.c (.lit (.int .u8 128))), none⟩]) (
       .cond (.t 63) (
        .seq (
         .ops [⟨(some 2), .mov (.c (.lit (.int .i32 0))), none⟩, ⟨(some 3), .mov (.c (.lit (.int .i64 0))), none⟩]) (
        .ret)) (
        .skip))) (
      .ops [⟨(some 64), .mov (.t 5), none⟩, ⟨(some 65), .bin .shl (.t 64) (.c (.lit (.int .u64 6))), none⟩, ⟨(some 66), .mov (.t 7), none⟩, ⟨(some 67), .bin .and (.t 66) (.c (.lit (.int .u8 63))), none⟩, ⟨(some 68), .conv (.toInt .i32) (.t 67), none⟩, ⟨(some 69), .bin .or (.t 65) (.t 68), none⟩, ⟨(some 5), .mov (.t 69), none⟩])))) (
    .ops [⟨(some 70), .bin .add (.t 57) (.c (.lit (.int .i64 1))), none⟩, ⟨(some 57), .mov (.t 70), none⟩]))))))) (
 .seq (
  .seq (
   .ops [⟨(some 71), .mov (.t 5), none⟩, ⟨(some 72), .call (.c (.fn 84 [] [])) [(.t 71)], none⟩, ⟨(some 73), .un .not (.t 72), none⟩, ⟨(some 74), .mov (.t 73), none⟩, ⟨(some 75), .mov (.t 5), (some (74, false))⟩, ⟨(some 76), .call (.c (.fn 49 [] [])) [(.t 75)], (some (74, false))⟩, ⟨(some 77), .mov (.t 4), (some (74, false))⟩, ⟨(some 78), .eq true .pint (.t 76) (.t 77), (some (74, false))⟩, ⟨(some 79), .pick (.t 74) (.c (.lit (.bool true))) (.t 78), none⟩]) (
  .cond (.t 79) (
   .seq (
    .ops [⟨(some 2), .mov (.c (.lit (.int .i32 0))), none⟩, ⟨(some 3), .mov (.c (.lit (.int .i64 0))), none⟩]) (
   .ret)) (
   .skip))) (
 .seq (
  .ops [⟨(some 80), .mov (.t 5), none⟩, ⟨(some 81), .mov (.t 4), none⟩, ⟨(some 2), .mov (.t 80), none⟩, ⟨(some 3), .mov (.t 81), none⟩]) (
 .ret))))))))))⟩

/-- internal/stringslite.IndexByte -/
def A76 : AFunc := ⟨8, [.inl 4],
 .seq (
  .ops [⟨(some 4), .mov (.c (.lit (.int .i64 0))), none⟩]) (
 .seq (
  .ops [⟨(some 5), .mov (.t 0), none⟩, ⟨(some 6), .mov (.t 1), none⟩, ⟨(some 7), .call (.c (.fn 85 [] [])) [(.t 5), (.t 6)], none⟩, ⟨(some 4), .mov (.t 7), none⟩]) (
 .ret))⟩

/-- internal/stringslite.HasPrefix -/
def A77 : AFunc := ⟨18, [.inl 4],
 .seq (
  .ops [⟨(some 4), .mov (.c (.lit (.bool false))), none⟩]) (
 .seq (
  .ops [⟨(some 5), .mov (.t 0), none⟩, ⟨(some 6), .lens (.t 5), none⟩, ⟨(some 7), .mov (.t 1), none⟩, ⟨(some 8), .lens (.t 7), none⟩, ⟨(some 9), .bin .geq (.t 6) (.t 8), none⟩, ⟨(some 10), .mov (.t 9), none⟩, ⟨(some 11), .mov (.t 0), (some (10, true))⟩, ⟨(some 12), .mov (.t 1), (some (10, true))⟩, ⟨(some 13), .lens (.t 12), (some (10, true))⟩, ⟨(some 14), .slstr (.t 11) none (some (.t 13)), (some (10, true))⟩, ⟨(some 15), .mov (.t 1), (some (10, true))⟩, ⟨(some 16), .eq false .pstr (.t 14) (.t 15), (some (10, true))⟩, ⟨(some 17), .pick (.t 10) (.t 16) (.c (.lit (.bool false))), none⟩, ⟨(some 4), .mov (.t 17), none⟩]) (
 .ret))⟩

/-- azimuth/runes.sign -/
def A84 : AFunc := ⟨17, [.inl 2],
 .seq (
  .ops [⟨(some 2), .mov (.c (.lit (.bool false))), none⟩]) (
 .seq (
  .ops [⟨(some 3), .mov (.t 0), none⟩, ⟨(some 4), .bin .geq (.t 3) (.c (.lit (.int .i32 0))), none⟩, ⟨(some 5), .mov (.t 4), none⟩, ⟨(some 6), .mov (.t 0), (some (5, true))⟩, ⟨(some 7), .bin .lss (.t 6) (.c (.lit (.int .i32 1114112))), (some (5, true))⟩, ⟨(some 8), .pick (.t 5) (.t 7) (.c (.lit (.bool false))), none⟩, ⟨(some 9), .mov (.t 8), none⟩, ⟨(some 10), .mov (.t 0), (some (9, true))⟩, ⟨(some 11), .bin .lss (.t 10) (.c (.lit (.int .i32 55296))), (some (9, true))⟩, ⟨(some 12), .mov (.t 11), (some (9, true))⟩, ⟨(some 13), .mov (.t 0), (some (12, false))⟩, ⟨(some 14), .bin .gtr (.t 13) (.c (.lit (.int .i32 57343))), (some (12, false))⟩, ⟨(some 15), .pick (.t 12) (.c (.lit (.bool true))) (.t 14), (some (9, true))⟩, ⟨(some 16), .pick (.t 9) (.t 15) (.c (.lit (.bool false))), none⟩, ⟨(some 2), .mov (.t 16), none⟩]) (
 .ret))⟩

def tab : Tab := fun f => match f with
  | 6 => some A6
  | 16 => some A16
  | 17 => some A17
  | 20 => some A20
  | 33 => some A33
  | 34 => some A34
  | 35 => some A35
  | 38 => some A38
  | 39 => some A39
  | 40 => some A40
  | 41 => some A41
  | 42 => some A42
  | 48 => some A48
  | 49 => some A49
  | 50 => some A50
  | 51 => some A51
  | 52 => some A52
  | 54 => some A54
  | 56 => some A56
  | 59 => some A59
  | 69 => some A69
  | 74 => some A74
  | 75 => some A75
  | 76 => some A76
  | 77 => some A77
  | 84 => some A84
  | _ => none

theorem res6 : pFunc Try.prog Try.f6 = some A6 := by kernel_rfl
theorem res16 : pFunc Try.prog Try.f16 = some A16 := by kernel_rfl
theorem res17 : pFunc Try.prog Try.f17 = some A17 := by kernel_rfl
theorem res20 : pFunc Try.prog Try.f20 = some A20 := by kernel_rfl
theorem res33 : pFunc Try.prog Try.f33 = some A33 := by kernel_rfl
theorem res34 : pFunc Try.prog Try.f34 = some A34 := by kernel_rfl
theorem res35 : pFunc Try.prog Try.f35 = some A35 := by kernel_rfl
theorem res38 : pFunc Try.prog Try.f38 = some A38 := by kernel_rfl
theorem res39 : pFunc Try.prog Try.f39 = some A39 := by kernel_rfl
theorem res40 : pFunc Try.prog Try.f40 = some A40 := by kernel_rfl
theorem res41 : pFunc Try.prog Try.f41 = some A41 := by kernel_rfl
theorem res42 : pFunc Try.prog Try.f42 = some A42 := by kernel_rfl
theorem res48 : pFunc Try.prog Try.f48 = some A48 := by kernel_rfl
theorem res49 : pFunc Try.prog Try.f49 = some A49 := by kernel_rfl
theorem res50 : pFunc Try.prog Try.f50 = some A50 := by kernel_rfl
theorem res51 : pFunc Try.prog Try.f51 = some A51 := by kernel_rfl
theorem res52 : pFunc Try.prog Try.f52 = some A52 := by kernel_rfl
theorem res54 : pFunc Try.prog Try.f54 = some A54 := by kernel_rfl
theorem res56 : pFunc Try.prog Try.f56 = some A56 := by kernel_rfl
theorem res59 : pFunc Try.prog Try.f59 = some A59 := by kernel_rfl
theorem res69 : pFunc Try.prog Try.f69 = some A69 := by kernel_rfl
theorem res74 : pFunc Try.prog Try.f74 = some A74 := by kernel_rfl
theorem res75 : pFunc Try.prog Try.f75 = some A75 := by kernel_rfl
theorem res76 : pFunc Try.prog Try.f76 = some A76 := by kernel_rfl
theorem res77 : pFunc Try.prog Try.f77 = some A77 := by kernel_rfl
theorem res84 : pFunc Try.prog Try.f84 = some A84 := by kernel_rfl

theorem tab_ok : TOK Try.prog tab := by
  intro f af h
  unfold tab at h
  split at h
  · simp only [Option.some.injEq] at h; subst h; exact ⟨Try.f6, Try.func6, res6⟩
  · simp only [Option.some.injEq] at h; subst h; exact ⟨Try.f16, Try.func16, res16⟩
  · simp only [Option.some.injEq] at h; subst h; exact ⟨Try.f17, Try.func17, res17⟩
  · simp only [Option.some.injEq] at h; subst h; exact ⟨Try.f20, Try.func20, res20⟩
  · simp only [Option.some.injEq] at h; subst h; exact ⟨Try.f33, Try.func33, res33⟩
  · simp only [Option.some.injEq] at h; subst h; exact ⟨Try.f34, Try.func34, res34⟩
  · simp only [Option.some.injEq] at h; subst h; exact ⟨Try.f35, Try.func35, res35⟩
  · simp only [Option.some.injEq] at h; subst h; exact ⟨Try.f38, Try.func38, res38⟩
  · simp only [Option.some.injEq] at h; subst h; exact ⟨Try.f39, Try.func39, res39⟩
  · simp only [Option.some.injEq] at h; subst h; exact ⟨Try.f40, Try.func40, res40⟩
  · simp only [Option.some.injEq] at h; subst h; exact ⟨Try.f41, Try.func41, res41⟩
  · simp only [Option.some.injEq] at h; subst h; exact ⟨Try.f42, Try.func42, res42⟩
  · simp only [Option.some.injEq] at h; subst h; exact ⟨Try.f48, Try.func48, res48⟩
  · simp only [Option.some.injEq] at h; subst h; exact ⟨Try.f49, Try.func49, res49⟩
  · simp only [Option.some.injEq] at h; subst h; exact ⟨Try.f50, Try.func50, res50⟩
  · simp only [Option.some.injEq] at h; subst h; exact ⟨Try.f51, Try.func51, res51⟩
  · simp only [Option.some.injEq] at h; subst h; exact ⟨Try.f52, Try.func52, res52⟩
  · simp only [Option.some.injEq] at h; subst h; exact ⟨Try.f54, Try.func54, res54⟩
  · simp only [Option.some.injEq] at h; subst h; exact ⟨Try.f56, Try.func56, res56⟩
  · simp only [Option.some.injEq] at h; subst h; exact ⟨Try.f59, Try.func59, res59⟩
  · simp only [Option.some.injEq] at h; subst h; exact ⟨Try.f69, Try.func69, res69⟩
  · simp only [Option.some.injEq] at h; subst h; exact ⟨Try.f74, Try.func74, res74⟩
  · simp only [Option.some.injEq] at h; subst h; exact ⟨Try.f75, Try.func75, res75⟩
  · simp only [Option.some.injEq] at h; subst h; exact ⟨Try.f76, Try.func76, res76⟩
  · simp only [Option.some.injEq] at h; subst h; exact ⟨Try.f77, Try.func77, res77⟩
  · simp only [Option.some.injEq] at h; subst h; exact ⟨Try.f84, Try.func84, res84⟩
  · simp at h
end Go.Proofs.Y3
