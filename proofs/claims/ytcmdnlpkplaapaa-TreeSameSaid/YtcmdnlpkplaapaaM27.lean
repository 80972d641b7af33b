import Derived.Test.YtcmdnlpkplaapaaM26
import Derived.Test.YtcmdnlpkplaapaaEngZ
/- Templates of functions, as the engine takes them; numbers of functions and types by names. Printed by tm.py. -/
set_option linter.unusedVariables false
set_option maxRecDepth 100000
namespace Go.Proofs.Eng
open Go

def L_tree_uses_note_1 (N : Nat -> Nat) : AC :=
 .seq (
 .ops [⟨some 12,.bin .lss (.t 11) (.t 10),none⟩]) (
 .seq (
 .cond (.t 12) (
 .skip) (
 .exit 0)) (
 .seq (
 .block 1 (
 .seq (
 .ops [⟨some 13,.iaddr 1 (.t 9) (.t 11),none⟩,⟨some 14,.load none (.t 13),none⟩,⟨some 8,.mov (.t 14),none⟩]) (
 .seq (
 .seq (
 .ops [⟨some 15,.mov (.t 8),none⟩,⟨some 16,.bin .lss (.t 15) (.c (.lit (.int .i64 0))),none⟩,⟨some 17,.mov (.t 16),none⟩,⟨some 18,.mov (.t 8),(some (17,false))⟩,⟨some 19,.mov (.t 2),(some (17,false))⟩,⟨some 20,.bin .geq (.t 18) (.t 19),(some (17,false))⟩,⟨some 21,.pick (.t 17) (.c (.lit (.bool true))) (.t 20),none⟩]) (
 .cond (.t 21) (
 .seq (
 .ops [⟨some 6,.mov (.c (.lit (.bool false))),none⟩]) (
 .ret)) (
 .skip))) (
 .ops [⟨some 22,.mov (.t 0),none⟩,⟨some 23,.mov (.t 8),none⟩,⟨some 24,.iaddr 1 (.t 22) (.t 23),none⟩,⟨some 25,.load none (.t 24),none⟩,⟨some 26,.bin .add (.t 25) (.c (.lit (.int .i64 1))),none⟩,⟨some 27,.iaddr 1 (.t 22) (.t 23),none⟩,⟨none,.store 1 (.t 27) (.t 26),none⟩])))) (
 .ops [⟨some 28,.bin .add (.t 11) (.c (.lit (.int .i64 1))),none⟩,⟨some 11,.mov (.t 28),none⟩])))
def K_tree_uses_note_1 (N : Nat -> Nat) : AC :=
 .seq (
 .ops [⟨some 6,.mov (.c (.lit (.bool true))),none⟩]) (
 .ret)
def C_tree_uses_note (N : Nat -> Nat) : AFunc := ⟨29,[.inl 6],
 .seq (
 .ops [⟨some 6,.mov (.c (.lit (.bool false))),none⟩]) (
 .seq (
 .seq (
 .ops [⟨some 9,.mov (.t 1),none⟩,⟨some 10,.len (.t 9),none⟩,⟨some 11,.mov (.c (.lit (.int .i64 0))),none⟩]) (
 .block 0 (
 .loop (L_tree_uses_note_1 N)))) (K_tree_uses_note_1 N)),false⟩

def L_tree_Check_1 (N : Nat -> Nat) : AC :=
 .seq (
 .ops [⟨some 40,.bin .lss (.t 39) (.t 38),none⟩]) (
 .seq (
 .cond (.t 40) (
 .skip) (
 .exit 0)) (
 .seq (
 .block 1 (
 .seq (
 .ops [⟨some 41,.mov (.t 39),none⟩,⟨some 42,.iaddr 8 (.t 37) (.t 39),none⟩,⟨some 43,.load (some 8) (.t 42),none⟩,⟨some 6,.new (t_api_Node N) (.agg [(.lit (.int .i64 0)),(.lit (.int .i64 0)),(.lit (.string (mkS []))),(.lit (.int .i64 0)),(.lit (.int .u64 0)),(.lit (.slice none 0 0)),(.lit (.slice none 0 0)),(.lit (.slice none 0 0))]),none⟩,⟨some 5,.mov (.t 41),none⟩,⟨none,.store 8 (.t 6) (.t 43),none⟩]) (
 .seq (
 .ops [⟨some 44,.load (some 8) (.t 6),none⟩,⟨some 45,.call (.c (.fn (f_tree_term N) [] [])) [(.t 44)],none⟩,⟨some 46,.un .not (.t 45),none⟩,⟨some 47,.mov (.t 46),none⟩,⟨some 48,.mov (.t 3),(some (47,false))⟩,⟨some 49,.faddr 6 (.t 6),(some (47,false))⟩,⟨some 50,.load none (.t 49),(some (47,false))⟩,⟨some 51,.mov (.t 5),(some (47,false))⟩,⟨some 52,.call (.c (.fn (f_tree_uses_note N) [] [])) [(.t 48),(.t 50),(.t 51)],(some (47,false))⟩,⟨some 53,.un .not (.t 52),(some (47,false))⟩,⟨some 54,.pick (.t 47) (.c (.lit (.bool true))) (.t 53),none⟩,⟨some 55,.mov (.t 54),none⟩,⟨some 56,.mov (.t 4),(some (55,false))⟩,⟨some 57,.faddr 7 (.t 6),(some (55,false))⟩,⟨some 58,.load none (.t 57),(some (55,false))⟩,⟨some 59,.faddr 1 (.t 1),(some (55,false))⟩,⟨some 60,.load none (.t 59),(some (55,false))⟩,⟨some 61,.len (.t 60),(some (55,false))⟩,⟨some 62,.call (.c (.fn (f_tree_uses_note N) [] [])) [(.t 56),(.t 58),(.t 61)],(some (55,false))⟩,⟨some 63,.un .not (.t 62),(some (55,false))⟩,⟨some 64,.pick (.t 55) (.c (.lit (.bool true))) (.t 63),none⟩]) (
 .cond (.t 64) (
 .seq (
 .ops [⟨some 2,.mov (.c (.lit (.int .i64 14))),none⟩]) (
 .ret)) (
 .skip))))) (
 .ops [⟨some 65,.bin .add (.t 39) (.c (.lit (.int .i64 1))),none⟩,⟨some 39,.mov (.t 65),none⟩])))
def L_tree_Check_2 (N : Nat -> Nat) : AC :=
 .seq (
 .ops [⟨some 70,.bin .lss (.t 69) (.t 68),none⟩]) (
 .seq (
 .cond (.t 70) (
 .skip) (
 .exit 2)) (
 .seq (
 .block 3 (
 .seq (
 .ops [⟨some 71,.mov (.t 69),none⟩,⟨some 72,.iaddr 6 (.t 67) (.t 69),none⟩,⟨some 73,.load (some 6) (.t 72),none⟩,⟨some 8,.new (t_api_TypeNode N) (.agg [(.lit (.int .i64 0)),(.lit (.int .i64 0)),(.lit (.string (mkS []))),(.lit (.slice none 0 0)),(.lit (.slice none 0 0)),(.lit (.bool false))]),none⟩,⟨some 7,.mov (.t 71),none⟩,⟨none,.store 6 (.t 8) (.t 73),none⟩]) (
 .seq (
 .ops [⟨some 74,.load (some 6) (.t 8),none⟩,⟨some 75,.call (.c (.fn (f_tree_typ N) [] [])) [(.t 74)],none⟩,⟨some 76,.un .not (.t 75),none⟩,⟨some 77,.mov (.t 76),none⟩,⟨some 78,.mov (.t 4),(some (77,false))⟩,⟨some 79,.faddr 4 (.t 8),(some (77,false))⟩,⟨some 80,.load none (.t 79),(some (77,false))⟩,⟨some 81,.mov (.t 7),(some (77,false))⟩,⟨some 82,.call (.c (.fn (f_tree_uses_note N) [] [])) [(.t 78),(.t 80),(.t 81)],(some (77,false))⟩,⟨some 83,.un .not (.t 82),(some (77,false))⟩,⟨some 84,.pick (.t 77) (.c (.lit (.bool true))) (.t 83),none⟩]) (
 .cond (.t 84) (
 .seq (
 .ops [⟨some 2,.mov (.c (.lit (.int .i64 14))),none⟩]) (
 .ret)) (
 .skip))))) (
 .ops [⟨some 85,.bin .add (.t 69) (.c (.lit (.int .i64 1))),none⟩,⟨some 69,.mov (.t 85),none⟩])))
def L_tree_Check_3 (N : Nat -> Nat) : AC :=
 .seq (
 .ops [⟨some 90,.bin .lss (.t 89) (.t 88),none⟩]) (
 .seq (
 .cond (.t 90) (
 .skip) (
 .exit 4)) (
 .seq (
 .block 5 (
 .seq (
 .ops [⟨some 91,.iaddr 3 (.t 87) (.t 89),none⟩,⟨some 92,.load (some 3) (.t 91),none⟩,⟨some 10,.new (t_api_Alias N) (.agg [(.lit (.string (mkS []))),(.lit (.int .i64 0)),(.lit (.int .i64 0))]),none⟩,⟨none,.store 3 (.t 10) (.t 92),none⟩]) (
 .seq (
 .ops [⟨some 93,.faddr 0 (.t 10),none⟩,⟨some 94,.load none (.t 93),none⟩,⟨some 95,.call (.c (.fn (f_tree_alias N) [] [])) [(.t 94)],none⟩,⟨some 96,.un .not (.t 95),none⟩,⟨some 97,.mov (.t 96),none⟩,⟨some 98,.mov (.t 4),(some (97,false))⟩,⟨some 99,.faddr 1 (.t 10),(some (97,false))⟩,⟨some 100,.load none (.t 99),(some (97,false))⟩,⟨some 101,.bslice (t_int N) 1 none 1 [(.lit (.int .i64 0))] [(0,1,(.t 100))],(some (97,false))⟩,⟨some 102,.faddr 1 (.t 1),(some (97,false))⟩,⟨some 103,.load none (.t 102),(some (97,false))⟩,⟨some 104,.len (.t 103),(some (97,false))⟩,⟨some 105,.call (.c (.fn (f_tree_uses_note N) [] [])) [(.t 98),(.t 101),(.t 104)],(some (97,false))⟩,⟨some 106,.un .not (.t 105),(some (97,false))⟩,⟨some 107,.pick (.t 97) (.c (.lit (.bool true))) (.t 106),none⟩]) (
 .cond (.t 107) (
 .seq (
 .ops [⟨some 2,.mov (.c (.lit (.int .i64 14))),none⟩]) (
 .ret)) (
 .skip))))) (
 .ops [⟨some 108,.bin .add (.t 89) (.c (.lit (.int .i64 1))),none⟩,⟨some 89,.mov (.t 108),none⟩])))
def K_tree_Check_3 (N : Nat -> Nat) : AC :=
 .seq (
 .ops [⟨some 109,.mov (.t 3),none⟩,⟨some 110,.mov (.t 3),none⟩,⟨some 111,.len (.t 110),none⟩,⟨some 112,.bin .sub (.t 111) (.c (.lit (.int .i64 1))),none⟩,⟨some 113,.iaddr 1 (.t 109) (.t 112),none⟩,⟨some 114,.load none (.t 113),none⟩,⟨some 115,.bin .add (.t 114) (.c (.lit (.int .i64 1))),none⟩,⟨some 116,.iaddr 1 (.t 109) (.t 112),none⟩,⟨none,.store 1 (.t 116) (.t 115),none⟩]) (
 .seq (
 .ops [⟨some 11,.mov (.c (.fn (f_tree_Check_1 N) [] [])),none⟩]) (
 .seq (
 .seq (
 .ops [⟨some 117,.mov (.t 3),none⟩,⟨some 118,.mov (.t 11),none⟩,⟨some 119,.call (.c (.fn (f_slices_ContainsFunc_tree_uses_int N) [] [])) [(.t 117),(.t 118)],none⟩,⟨some 120,.mov (.t 119),none⟩,⟨some 121,.mov (.t 4),(some (120,false))⟩,⟨some 122,.mov (.t 11),(some (120,false))⟩,⟨some 123,.call (.c (.fn (f_slices_ContainsFunc_tree_uses_int N) [] [])) [(.t 121),(.t 122)],(some (120,false))⟩,⟨some 124,.pick (.t 120) (.c (.lit (.bool true))) (.t 123),none⟩]) (
 .cond (.t 124) (
 .seq (
 .ops [⟨some 2,.mov (.c (.lit (.int .i64 14))),none⟩]) (
 .ret)) (
 .skip))) (
 .seq (
 .ops [⟨some 2,.mov (.c (.lit (.int .i64 0))),none⟩]) (
 .ret))))
def K_tree_Check_2 (N : Nat -> Nat) : AC :=
 .seq (
 .seq (
 .ops [⟨some 86,.faddr 2 (.t 1),none⟩,⟨some 87,.load none (.t 86),none⟩,⟨some 88,.len (.t 87),none⟩,⟨some 89,.mov (.c (.lit (.int .i64 0))),none⟩]) (
 .block 4 (
 .loop (L_tree_Check_3 N)))) (K_tree_Check_3 N)
def K_tree_Check_1 (N : Nat -> Nat) : AC :=
 .seq (
 .seq (
 .ops [⟨some 66,.faddr 1 (.t 1),none⟩,⟨some 67,.load none (.t 66),none⟩,⟨some 68,.len (.t 67),none⟩,⟨some 69,.mov (.c (.lit (.int .i64 0))),none⟩]) (
 .block 2 (
 .loop (L_tree_Check_2 N)))) (K_tree_Check_2 N)
def C_tree_Check (N : Nat -> Nat) : AFunc := ⟨125,[.inl 2],
 .seq (
 .ops [⟨some 1,.box (t_api_Tree N) (.t 0),none⟩,⟨some 2,.mov (.c (.lit (.int .i64 0))),none⟩]) (
 .seq (
 .seq (
 .ops [⟨some 12,.faddr 0 (.t 1),none⟩,⟨some 13,.load none (.t 12),none⟩,⟨some 14,.len (.t 13),none⟩,⟨some 15,.eq false .pint (.t 14) (.c (.lit (.int .i64 0))),none⟩,⟨some 16,.mov (.t 15),none⟩,⟨some 17,.faddr 0 (.t 1),(some (16,false))⟩,⟨some 18,.load none (.t 17),(some (16,false))⟩,⟨some 19,.len (.t 18),(some (16,false))⟩,⟨some 20,.bin .gtr (.t 19) (.c (.lit (.int .i64 65536))),(some (16,false))⟩,⟨some 21,.pick (.t 16) (.c (.lit (.bool true))) (.t 20),none⟩,⟨some 22,.mov (.t 21),none⟩,⟨some 23,.faddr 1 (.t 1),(some (22,false))⟩,⟨some 24,.load none (.t 23),(some (22,false))⟩,⟨some 25,.len (.t 24),(some (22,false))⟩,⟨some 26,.bin .gtr (.t 25) (.c (.lit (.int .i64 65536))),(some (22,false))⟩,⟨some 27,.pick (.t 22) (.c (.lit (.bool true))) (.t 26),none⟩]) (
 .cond (.t 27) (
 .seq (
 .ops [⟨some 2,.mov (.c (.lit (.int .i64 14))),none⟩]) (
 .ret)) (
 .skip))) (
 .seq (
 .dops 3 [⟨some 28,.faddr 0 (.t 1),none⟩,⟨some 29,.load none (.t 28),none⟩,⟨some 30,.len (.t 29),none⟩,⟨some 32,.faddr 1 (.t 1),none⟩,⟨some 33,.load none (.t 32),none⟩,⟨some 34,.len (.t 33),none⟩,⟨some 31,.mkslice (t_int N) 1 8 (.lit (.int .i64 0)) (.t 30) (.t 30),none⟩,⟨some 3,.mov (.t 31),none⟩,⟨some 35,.mkslice (t_int N) 1 8 (.lit (.int .i64 0)) (.t 34) (.t 34),none⟩,⟨some 4,.mov (.t 35),none⟩] [0,2,0,0,2,0,1,0,1,0] []) (
 .seq (
 .seq (
 .ops [⟨some 36,.faddr 0 (.t 1),none⟩,⟨some 37,.load none (.t 36),none⟩,⟨some 38,.len (.t 37),none⟩,⟨some 39,.mov (.c (.lit (.int .i64 0))),none⟩]) (
 .block 0 (
 .loop (L_tree_Check_1 N)))) (K_tree_Check_1 N)))),false⟩

def C_tree_Check_1 (N : Nat -> Nat) : AFunc := ⟨5,[.inl 2],
 .seq (
 .ops [⟨some 2,.mov (.c (.lit (.bool false))),none⟩]) (
 .seq (
 .ops [⟨some 3,.mov (.t 0),none⟩,⟨some 4,.eq true .pint (.t 3) (.c (.lit (.int .i64 1))),none⟩,⟨some 2,.mov (.t 4),none⟩]) (
 .ret)),false⟩

def C_tree_alias (N : Nat -> Nat) : AFunc := ⟨34,[.inl 2],
 .seq (
 .ops [⟨some 2,.mov (.c (.lit (.bool false))),none⟩]) (
 .seq (
 .ops [⟨some 6,.mov (.t 0),none⟩,⟨some 7,.conv (.bytes (t_uint8 N)) (.t 6),none⟩,⟨some 8,.call (.c (.fn (f_lexer_Lex N) [] [])) [(.t 7)],none⟩,⟨some 5,.mov (.t 8),none⟩,⟨some 9,.extract (.t 5) 0,none⟩,⟨some 10,.extract (.t 5) 1,none⟩,⟨some 4,.new (t_api_Diag N) (.agg [(.lit (.int .i64 0)),(.lit (.int .i64 0)),(.lit (.string (mkS [])))]),none⟩,⟨some 3,.mov (.t 9),none⟩,⟨none,.store 3 (.t 4) (.t 10),none⟩]) (
 .seq (
 .ops [⟨some 11,.faddr 0 (.t 4),none⟩,⟨some 12,.load none (.t 11),none⟩,⟨some 13,.eq false .pint (.t 12) (.c (.lit (.int .i64 0))),none⟩,⟨some 14,.mov (.t 13),none⟩,⟨some 15,.mov (.t 3),(some (14,true))⟩,⟨some 16,.len (.t 15),(some (14,true))⟩,⟨some 17,.eq false .pint (.t 16) (.c (.lit (.int .i64 2))),(some (14,true))⟩,⟨some 18,.pick (.t 14) (.t 17) (.c (.lit (.bool false))),none⟩,⟨some 19,.mov (.t 18),none⟩,⟨some 20,.mov (.t 3),(some (19,true))⟩,⟨some 21,.iaddr 3 (.t 20) (.c (.lit (.int .i64 0))),(some (19,true))⟩,⟨some 22,.faddr 0 (.t 21),(some (19,true))⟩,⟨some 23,.load none (.t 22),(some (19,true))⟩,⟨some 24,.eq false .pint (.t 23) (.c (.lit (.int .i64 2))),(some (19,true))⟩,⟨some 25,.pick (.t 19) (.t 24) (.c (.lit (.bool false))),none⟩,⟨some 26,.mov (.t 25),none⟩,⟨some 27,.mov (.t 3),(some (26,true))⟩,⟨some 28,.iaddr 3 (.t 27) (.c (.lit (.int .i64 0))),(some (26,true))⟩,⟨some 29,.faddr 1 (.t 28),(some (26,true))⟩,⟨some 30,.load none (.t 29),(some (26,true))⟩,⟨some 31,.mov (.t 0),(some (26,true))⟩,⟨some 32,.eq false .pstr (.t 30) (.t 31),(some (26,true))⟩,⟨some 33,.pick (.t 26) (.t 32) (.c (.lit (.bool false))),none⟩,⟨some 2,.mov (.t 33),none⟩]) (
 .ret))),false⟩

def C_tree_all (N : Nat -> Nat) : AFunc := ⟨9,[.inl 4],
 .seq (
 .ops [⟨some 3,.box (t_func_string_bool N) (.t 1),none⟩,⟨some 4,.mov (.c (.lit (.bool false))),none⟩]) (
 .seq (
 .ops [⟨some 5,.mov (.t 0),none⟩,⟨some 6,.mkfn (f_tree_all_1 N) [] [(.t 3)],none⟩,⟨some 7,.call (.c (.fn (f_slices_ContainsFunc_sl_string_string N) [] [])) [(.t 5),(.t 6)],none⟩,⟨some 8,.un .not (.t 7),none⟩,⟨some 4,.mov (.t 8),none⟩]) (
 .ret)),false⟩

def C_tree_all_1 (N : Nat -> Nat) : AFunc := ⟨8,[.inl 3],
 .seq (
 .ops [⟨some 3,.mov (.c (.lit (.bool false))),none⟩]) (
 .seq (
 .ops [⟨some 4,.load none (.t 1),none⟩,⟨some 5,.mov (.t 0),none⟩,⟨some 6,.call (.t 4) [(.t 5)],none⟩,⟨some 7,.un .not (.t 6),none⟩,⟨some 3,.mov (.t 7),none⟩]) (
 .ret)),false⟩

def L_tree_halves_1 (N : Nat -> Nat) : AC :=
 .seq (
 .ops [⟨some 9,.bin .lss (.t 8) (.t 7),none⟩]) (
 .seq (
 .cond (.t 9) (
 .skip) (
 .exit 0)) (
 .seq (
 .block 1 (
 .seq (
 .ops [⟨some 10,.mov (.t 8),none⟩,⟨some 11,.iaddr 1 (.t 6) (.t 8),none⟩,⟨some 12,.load none (.t 11),none⟩,⟨some 4,.mov (.t 10),none⟩,⟨some 5,.mov (.t 12),none⟩]) (
 .seq (
 .ops [⟨some 13,.mov (.t 4),none⟩,⟨some 14,.bin .rem (.t 13) (.c (.lit (.int .i64 2))),none⟩,⟨some 15,.eq false .pint (.t 14) (.c (.lit (.int .i64 0))),none⟩]) (
 .cond (.t 15) (
 .ops [⟨some 16,.mov (.t 2),none⟩,⟨some 17,.mov (.t 5),none⟩,⟨some 18,.bslice (t_string N) 1 none 1 [(.lit (.string (mkS [])))] [(0,1,(.t 17))],none⟩,⟨some 19,.append (t_string N) 1 16 (.t 16) (.t 18),none⟩,⟨some 2,.mov (.t 19),none⟩]) (
 .ops [⟨some 20,.mov (.t 3),none⟩,⟨some 21,.mov (.t 5),none⟩,⟨some 22,.bslice (t_string N) 1 none 1 [(.lit (.string (mkS [])))] [(0,1,(.t 21))],none⟩,⟨some 23,.append (t_string N) 1 16 (.t 20) (.t 22),none⟩,⟨some 3,.mov (.t 23),none⟩]))))) (
 .ops [⟨some 24,.bin .add (.t 8) (.c (.lit (.int .i64 1))),none⟩,⟨some 8,.mov (.t 24),none⟩])))
def K_tree_halves_1 (N : Nat -> Nat) : AC :=
 .seq (
 .ops [⟨some 25,.mov (.t 2),none⟩,⟨some 26,.mov (.t 3),none⟩,⟨some 2,.mov (.t 25),none⟩,⟨some 3,.mov (.t 26),none⟩]) (
 .ret)
def C_tree_halves (N : Nat -> Nat) : AFunc := ⟨27,[.inl 2,.inl 3],
 .seq (
 .ops [⟨some 2,.mov (.c (.lit (.slice none 0 0))),none⟩,⟨some 3,.mov (.c (.lit (.slice none 0 0))),none⟩]) (
 .seq (
 .seq (
 .ops [⟨some 6,.mov (.t 0),none⟩,⟨some 7,.len (.t 6),none⟩,⟨some 8,.mov (.c (.lit (.int .i64 0))),none⟩]) (
 .block 0 (
 .loop (L_tree_halves_1 N)))) (K_tree_halves_1 N)),true⟩

def C_tree_named (N : Nat -> Nat) : AFunc := ⟨93,[.inl 2],
 .seq (
 .ops [⟨some 1,.box (t_api_Node N) (.t 0),none⟩,⟨some 2,.mov (.c (.lit (.bool false))),none⟩]) (
 .seq (
 .seq (
 .ops [⟨some 6,.faddr 0 (.t 1),none⟩,⟨some 7,.load none (.t 6),none⟩]) (
 .block 0 (
 .seq (
 .ops [⟨some 9,.eq false .pint (.t 7) (.c (.lit (.int .i64 10))),none⟩,⟨some 8,.mov (.t 9),none⟩]) (
 .cond (.t 8) (
 .seq (
 .ops [⟨some 11,.faddr 5 (.t 1),none⟩,⟨some 12,.load none (.t 11),none⟩,⟨some 13,.call (.c (.fn (f_tree_halves N) [] [])) [(.t 12)],none⟩,⟨some 10,.mov (.t 13),none⟩,⟨some 14,.extract (.t 10) 0,none⟩,⟨some 15,.extract (.t 10) 1,none⟩,⟨some 3,.mov (.t 14),none⟩,⟨some 4,.mov (.t 15),none⟩]) (
 .seq (
 .ops [⟨some 16,.faddr 6 (.t 1),none⟩,⟨some 17,.load none (.t 16),none⟩,⟨some 18,.len (.t 17),none⟩,⟨some 19,.mov (.t 4),none⟩,⟨some 20,.len (.t 19),none⟩,⟨some 21,.bin .sub (.t 18) (.t 20),none⟩,⟨some 5,.mov (.t 21),none⟩]) (
 .seq (
 .ops [⟨some 22,.faddr 5 (.t 1),none⟩,⟨some 23,.load none (.t 22),none⟩,⟨some 24,.len (.t 23),none⟩,⟨some 25,.bin .rem (.t 24) (.c (.lit (.int .i64 2))),none⟩,⟨some 26,.eq false .pint (.t 25) (.c (.lit (.int .i64 0))),none⟩,⟨some 27,.mov (.t 26),none⟩,⟨some 28,.mov (.t 5),(some (27,true))⟩,⟨some 29,.eq false .pint (.t 28) (.c (.lit (.int .i64 1))),(some (27,true))⟩,⟨some 30,.mov (.t 29),(some (27,true))⟩,⟨some 31,.mov (.t 5),(some (30,false))⟩,⟨some 32,.eq false .pint (.t 31) (.c (.lit (.int .i64 2))),(some (30,false))⟩,⟨some 33,.pick (.t 30) (.c (.lit (.bool true))) (.t 32),(some (27,true))⟩,⟨some 34,.pick (.t 27) (.t 33) (.c (.lit (.bool false))),none⟩,⟨some 35,.mov (.t 34),none⟩,⟨some 36,.mov (.t 3),(some (35,true))⟩,⟨some 37,.call (.c (.fn (f_tree_all N) [] [])) [(.t 36),(.c (.fn (f_tree_tag N) [] []))],(some (35,true))⟩,⟨some 38,.pick (.t 35) (.t 37) (.c (.lit (.bool false))),none⟩,⟨some 39,.mov (.t 38),none⟩,⟨some 40,.mov (.t 4),(some (39,true))⟩,⟨some 41,.call (.c (.fn (f_tree_all N) [] [])) [(.t 40),(.c (.fn (f_lexer_IsName N) [] []))],(some (39,true))⟩,⟨some 42,.pick (.t 39) (.t 41) (.c (.lit (.bool false))),none⟩,⟨some 43,.mov (.t 42),none⟩,⟨some 44,.mov (.t 3),(some (43,true))⟩,⟨some 45,.call (.c (.fn (f_tree_once N) [] [])) [(.t 44)],(some (43,true))⟩,⟨some 46,.pick (.t 43) (.t 45) (.c (.lit (.bool false))),none⟩,⟨some 2,.mov (.t 46),none⟩]) (
 .ret)))) (
 .seq (
 .ops [⟨some 48,.eq false .pint (.t 7) (.c (.lit (.int .i64 12))),none⟩,⟨some 47,.mov (.t 48),none⟩]) (
 .cond (.t 47) (
 .seq (
 .ops [⟨some 49,.faddr 6 (.t 1),none⟩,⟨some 50,.load none (.t 49),none⟩,⟨some 51,.len (.t 50),none⟩,⟨some 52,.faddr 5 (.t 1),none⟩,⟨some 53,.load none (.t 52),none⟩,⟨some 54,.len (.t 53),none⟩,⟨some 55,.eq false .pint (.t 51) (.t 54),none⟩,⟨some 56,.mov (.t 55),none⟩,⟨some 57,.faddr 5 (.t 1),(some (56,true))⟩,⟨some 58,.load none (.t 57),(some (56,true))⟩,⟨some 59,.call (.c (.fn (f_tree_all N) [] [])) [(.t 58),(.c (.fn (f_lexer_IsName N) [] []))],(some (56,true))⟩,⟨some 60,.pick (.t 56) (.t 59) (.c (.lit (.bool false))),none⟩,⟨some 61,.mov (.t 60),none⟩,⟨some 62,.faddr 5 (.t 1),(some (61,true))⟩,⟨some 63,.load none (.t 62),(some (61,true))⟩,⟨some 64,.call (.c (.fn (f_tree_once N) [] [])) [(.t 63)],(some (61,true))⟩,⟨some 65,.pick (.t 61) (.t 64) (.c (.lit (.bool false))),none⟩,⟨some 2,.mov (.t 65),none⟩]) (
 .ret)) (
 .seq (
 .ops [⟨some 67,.eq false .pint (.t 7) (.c (.lit (.int .i64 11))),none⟩,⟨some 66,.mov (.t 67),none⟩]) (
 .cond (.t 66) (
 .seq (
 .ops [⟨some 68,.faddr 2 (.t 1),none⟩,⟨some 69,.load none (.t 68),none⟩,⟨some 70,.call (.c (.fn (f_tree_tag N) [] [])) [(.t 69)],none⟩,⟨some 71,.mov (.t 70),none⟩,⟨some 72,.faddr 5 (.t 1),(some (71,true))⟩,⟨some 73,.load none (.t 72),(some (71,true))⟩,⟨some 74,.len (.t 73),(some (71,true))⟩,⟨some 75,.eq false .pint (.t 74) (.c (.lit (.int .i64 0))),(some (71,true))⟩,⟨some 76,.pick (.t 71) (.t 75) (.c (.lit (.bool false))),none⟩,⟨some 2,.mov (.t 76),none⟩]) (
 .ret)) (
 .seq (
 .ops [⟨some 78,.eq false .pint (.t 7) (.c (.lit (.int .i64 14))),none⟩,⟨some 77,.mov (.t 78),none⟩]) (
 .cond (.t 77) (
 .seq (
 .dops 11 [⟨some 80,.faddr 2 (.t 1),none⟩,⟨some 81,.load none (.t 80),none⟩,⟨some 79,.call (.c (.fn (f_tree_ops N) [] [])) [],none⟩,⟨some 82,.call (.c (.fn (f_slices_Contains_sl_string_string N) [] [])) [(.t 79),(.t 81)],none⟩,⟨some 83,.mov (.t 82),none⟩,⟨some 84,.faddr 5 (.t 1),(some (83,true))⟩,⟨some 85,.load none (.t 84),(some (83,true))⟩,⟨some 86,.len (.t 85),(some (83,true))⟩,⟨some 87,.eq false .pint (.t 86) (.c (.lit (.int .i64 0))),(some (83,true))⟩,⟨some 88,.pick (.t 83) (.t 87) (.c (.lit (.bool false))),none⟩,⟨some 2,.mov (.t 88),none⟩] [0,0,1,0,0,0,0,0,0,0,0] []) (
 .ret)) (
 .skip))))))))))) (
 .seq (
 .ops [⟨some 89,.faddr 5 (.t 1),none⟩,⟨some 90,.load none (.t 89),none⟩,⟨some 91,.len (.t 90),none⟩,⟨some 92,.eq false .pint (.t 91) (.c (.lit (.int .i64 0))),none⟩,⟨some 2,.mov (.t 92),none⟩]) (
 .ret))),false⟩

def L_tree_once_1 (N : Nat -> Nat) : AC :=
 .seq (
 .ops [⟨some 10,.bin .lss (.t 9) (.t 8),none⟩]) (
 .seq (
 .cond (.t 10) (
 .skip) (
 .exit 0)) (
 .seq (
 .block 1 (
 .seq (
 .ops [⟨some 11,.iaddr 1 (.t 7) (.t 9),none⟩,⟨some 12,.load none (.t 11),none⟩,⟨some 5,.mov (.t 12),none⟩]) (
 .seq (
 .seq (
 .ops [⟨some 13,.mov (.t 3),none⟩,⟨some 14,.mov (.t 5),none⟩,⟨some 15,.lookup .string (.lit (.bool false)) (.t 13) (.t 14) false,none⟩]) (
 .cond (.t 15) (
 .seq (
 .ops [⟨some 2,.mov (.c (.lit (.bool false))),none⟩]) (
 .ret)) (
 .skip))) (
 .ops [⟨some 16,.mov (.t 3),none⟩,⟨some 17,.mov (.t 5),none⟩,⟨none,.mapupd .string (.t 16) (.t 17) (.c (.lit (.bool true))),none⟩])))) (
 .ops [⟨some 18,.bin .add (.t 9) (.c (.lit (.int .i64 1))),none⟩,⟨some 9,.mov (.t 18),none⟩])))
def K_tree_once_1 (N : Nat -> Nat) : AC :=
 .seq (
 .ops [⟨some 2,.mov (.c (.lit (.bool true))),none⟩]) (
 .ret)
def C_tree_once (N : Nat -> Nat) : AFunc := ⟨19,[.inl 2],
 .seq (
 .ops [⟨some 2,.mov (.c (.lit (.bool false))),none⟩]) (
 .seq (
 .ops [⟨some 6,.mkmap,none⟩,⟨some 3,.mov (.t 6),none⟩]) (
 .seq (
 .seq (
 .ops [⟨some 7,.mov (.t 0),none⟩,⟨some 8,.len (.t 7),none⟩,⟨some 9,.mov (.c (.lit (.int .i64 0))),none⟩]) (
 .block 0 (
 .loop (L_tree_once_1 N)))) (K_tree_once_1 N))),false⟩

def C_tree_ops (N : Nat -> Nat) : AFunc := ⟨2,[.inl 0],
 .seq (
 .ops [⟨some 0,.mov (.c (.lit (.slice none 0 0))),none⟩]) (
 .seq (
 .ops [⟨some 1,.bslice (t_string N) 1 none 12 [(.lit (.string (mkS [])))] [(0,1,(.c (.lit (.string (mkS [43]))))),(1,1,(.c (.lit (.string (mkS [45]))))),(2,1,(.c (.lit (.string (mkS [42]))))),(3,1,(.c (.lit (.string (mkS [47]))))),(4,1,(.c (.lit (.string (mkS [43,46]))))),(5,1,(.c (.lit (.string (mkS [45,46]))))),(6,1,(.c (.lit (.string (mkS [42,46]))))),(7,1,(.c (.lit (.string (mkS [47,46]))))),(8,1,(.c (.lit (.string (mkS [60]))))),(9,1,(.c (.lit (.string (mkS [60,46]))))),(10,1,(.c (.lit (.string (mkS [61,61]))))),(11,1,(.c (.lit (.string (mkS [94])))))],none⟩,⟨some 0,.mov (.t 1),none⟩]) (
 .ret)),true⟩

def C_tree_shapes (N : Nat -> Nat) : AFunc := ⟨45,[.inr (2,(some 6)),.inl 3],
 .seq (
 .ops [⟨some 2,.new (t_tree_shape N) (.agg [(.lit (.bool false)),(.lit (.bool false)),(.lit (.bool false)),(.lit (.bool false)),(.lit (.int .i64 0)),(.lit (.int .i64 0))]),none⟩,⟨some 3,.mov (.c (.lit (.bool false))),none⟩]) (
 .seq (
 .seq (
 .ops [⟨some 4,.mov (.t 0),none⟩]) (
 .block 0 (
 .seq (
 .ops [⟨some 6,.eq false .pint (.t 4) (.c (.lit (.int .i64 0))),none⟩,⟨some 5,.mov (.t 6),none⟩]) (
 .cond (.t 5) (
 .seq (
 .ops [⟨some 7,.build [(.lit (.bool false)),(.lit (.bool false)),(.lit (.bool false)),(.lit (.bool false)),(.lit (.int .i64 0)),(.lit (.int .i64 0))] [(0,1,(.c (.lit (.bool true))))],none⟩,⟨none,.store 6 (.t 2) (.t 7),none⟩,⟨some 3,.mov (.c (.lit (.bool true))),none⟩]) (
 .ret)) (
 .seq (
 .seq (
 .ops [⟨some 9,.eq false .pint (.t 4) (.c (.lit (.int .i64 1))),none⟩,⟨some 8,.mov (.t 9),none⟩]) (
 .cond (.t 8) (
 .skip) (
 .ops [⟨some 10,.eq false .pint (.t 4) (.c (.lit (.int .i64 2))),none⟩,⟨some 8,.mov (.t 10),none⟩]))) (
 .cond (.t 8) (
 .seq (
 .ops [⟨some 11,.build [(.lit (.bool false)),(.lit (.bool false)),(.lit (.bool false)),(.lit (.bool false)),(.lit (.int .i64 0)),(.lit (.int .i64 0))] [(1,1,(.c (.lit (.bool true))))],none⟩,⟨none,.store 6 (.t 2) (.t 11),none⟩,⟨some 3,.mov (.c (.lit (.bool true))),none⟩]) (
 .ret)) (
 .seq (
 .ops [⟨some 13,.eq false .pint (.t 4) (.c (.lit (.int .i64 3))),none⟩,⟨some 12,.mov (.t 13),none⟩]) (
 .cond (.t 12) (
 .seq (
 .ops [⟨some 14,.build [(.lit (.bool false)),(.lit (.bool false)),(.lit (.bool false)),(.lit (.bool false)),(.lit (.int .i64 0)),(.lit (.int .i64 0))] [(3,1,(.c (.lit (.bool true))))],none⟩,⟨none,.store 6 (.t 2) (.t 14),none⟩,⟨some 3,.mov (.c (.lit (.bool true))),none⟩]) (
 .ret)) (
 .seq (
 .ops [⟨some 16,.eq false .pint (.t 4) (.c (.lit (.int .i64 4))),none⟩,⟨some 15,.mov (.t 16),none⟩]) (
 .cond (.t 15) (
 .seq (
 .ops [⟨some 17,.build [(.lit (.bool false)),(.lit (.bool false)),(.lit (.bool false)),(.lit (.bool false)),(.lit (.int .i64 0)),(.lit (.int .i64 0))] [(2,1,(.c (.lit (.bool true))))],none⟩,⟨none,.store 6 (.t 2) (.t 17),none⟩,⟨some 3,.mov (.c (.lit (.bool true))),none⟩]) (
 .ret)) (
 .seq (
 .seq (
 .ops [⟨some 19,.eq false .pint (.t 4) (.c (.lit (.int .i64 5))),none⟩,⟨some 18,.mov (.t 19),none⟩]) (
 .cond (.t 18) (
 .skip) (
 .seq (
 .ops [⟨some 20,.eq false .pint (.t 4) (.c (.lit (.int .i64 11))),none⟩,⟨some 18,.mov (.t 20),none⟩]) (
 .cond (.t 18) (
 .skip) (
 .ops [⟨some 21,.eq false .pint (.t 4) (.c (.lit (.int .i64 13))),none⟩,⟨some 18,.mov (.t 21),none⟩]))))) (
 .cond (.t 18) (
 .seq (
 .ops [⟨some 22,.build [(.lit (.bool false)),(.lit (.bool false)),(.lit (.bool false)),(.lit (.bool false)),(.lit (.int .i64 0)),(.lit (.int .i64 0))] [(0,1,(.c (.lit (.bool true)))),(4,1,(.c (.lit (.int .i64 1))))],none⟩,⟨none,.store 6 (.t 2) (.t 22),none⟩,⟨some 3,.mov (.c (.lit (.bool true))),none⟩]) (
 .ret)) (
 .seq (
 .ops [⟨some 24,.eq false .pint (.t 4) (.c (.lit (.int .i64 6))),none⟩,⟨some 23,.mov (.t 24),none⟩]) (
 .cond (.t 23) (
 .seq (
 .ops [⟨some 25,.build [(.lit (.bool false)),(.lit (.bool false)),(.lit (.bool false)),(.lit (.bool false)),(.lit (.int .i64 0)),(.lit (.int .i64 0))] [(4,1,(.c (.lit (.int .i64 2))))],none⟩,⟨none,.store 6 (.t 2) (.t 25),none⟩,⟨some 3,.mov (.c (.lit (.bool true))),none⟩]) (
 .ret)) (
 .seq (
 .seq (
 .ops [⟨some 27,.eq false .pint (.t 4) (.c (.lit (.int .i64 7))),none⟩,⟨some 26,.mov (.t 27),none⟩]) (
 .cond (.t 26) (
 .skip) (
 .seq (
 .ops [⟨some 28,.eq false .pint (.t 4) (.c (.lit (.int .i64 8))),none⟩,⟨some 26,.mov (.t 28),none⟩]) (
 .cond (.t 26) (
 .skip) (
 .ops [⟨some 29,.eq false .pint (.t 4) (.c (.lit (.int .i64 14))),none⟩,⟨some 26,.mov (.t 29),none⟩]))))) (
 .cond (.t 26) (
 .seq (
 .ops [⟨some 30,.build [(.lit (.bool false)),(.lit (.bool false)),(.lit (.bool false)),(.lit (.bool false)),(.lit (.int .i64 0)),(.lit (.int .i64 0))] [(0,1,(.c (.lit (.bool true)))),(4,1,(.c (.lit (.int .i64 2))))],none⟩,⟨none,.store 6 (.t 2) (.t 30),none⟩,⟨some 3,.mov (.c (.lit (.bool true))),none⟩]) (
 .ret)) (
 .seq (
 .ops [⟨some 32,.eq false .pint (.t 4) (.c (.lit (.int .i64 9))),none⟩,⟨some 31,.mov (.t 32),none⟩]) (
 .cond (.t 31) (
 .seq (
 .ops [⟨some 33,.build [(.lit (.bool false)),(.lit (.bool false)),(.lit (.bool false)),(.lit (.bool false)),(.lit (.int .i64 0)),(.lit (.int .i64 0))] [(4,1,(.c (.lit (.int .i64 3))))],none⟩,⟨none,.store 6 (.t 2) (.t 33),none⟩,⟨some 3,.mov (.c (.lit (.bool true))),none⟩]) (
 .ret)) (
 .seq (
 .seq (
 .ops [⟨some 35,.eq false .pint (.t 4) (.c (.lit (.int .i64 10))),none⟩,⟨some 34,.mov (.t 35),none⟩]) (
 .cond (.t 34) (
 .skip) (
 .ops [⟨some 36,.eq false .pint (.t 4) (.c (.lit (.int .i64 12))),none⟩,⟨some 34,.mov (.t 36),none⟩]))) (
 .cond (.t 34) (
 .seq (
 .ops [⟨some 37,.build [(.lit (.bool false)),(.lit (.bool false)),(.lit (.bool false)),(.lit (.bool false)),(.lit (.int .i64 0)),(.lit (.int .i64 0))] [(4,1,(.c (.lit (.int .i64 (-1)))))],none⟩,⟨none,.store 6 (.t 2) (.t 37),none⟩,⟨some 3,.mov (.c (.lit (.bool true))),none⟩]) (
 .ret)) (
 .seq (
 .ops [⟨some 39,.eq false .pint (.t 4) (.c (.lit (.int .i64 15))),none⟩,⟨some 38,.mov (.t 39),none⟩]) (
 .cond (.t 38) (
 .seq (
 .ops [⟨some 40,.build [(.lit (.bool false)),(.lit (.bool false)),(.lit (.bool false)),(.lit (.bool false)),(.lit (.int .i64 0)),(.lit (.int .i64 0))] [(4,1,(.c (.lit (.int .i64 1)))),(5,1,(.c (.lit (.int .i64 1))))],none⟩,⟨none,.store 6 (.t 2) (.t 40),none⟩,⟨some 3,.mov (.c (.lit (.bool true))),none⟩]) (
 .ret)) (
 .seq (
 .ops [⟨some 42,.eq false .pint (.t 4) (.c (.lit (.int .i64 16))),none⟩,⟨some 41,.mov (.t 42),none⟩]) (
 .cond (.t 41) (
 .seq (
 .ops [⟨some 43,.build [(.lit (.bool false)),(.lit (.bool false)),(.lit (.bool false)),(.lit (.bool false)),(.lit (.int .i64 0)),(.lit (.int .i64 0))] [(4,1,(.c (.lit (.int .i64 1)))),(5,1,(.c (.lit (.int .i64 2))))],none⟩,⟨none,.store 6 (.t 2) (.t 43),none⟩,⟨some 3,.mov (.c (.lit (.bool true))),none⟩]) (
 .ret)) (
 .skip))))))))))))))))))))))))) (
 .seq (
 .ops [⟨some 44,.build [(.lit (.bool false)),(.lit (.bool false)),(.lit (.bool false)),(.lit (.bool false)),(.lit (.int .i64 0)),(.lit (.int .i64 0))] [],none⟩,⟨none,.store 6 (.t 2) (.t 44),none⟩,⟨some 3,.mov (.c (.lit (.bool false))),none⟩]) (
 .ret))),false⟩

def C_tree_tag (N : Nat -> Nat) : AFunc := ⟨9,[.inl 2],
 .seq (
 .ops [⟨some 2,.mov (.c (.lit (.bool false))),none⟩]) (
 .seq (
 .ops [⟨some 3,.mov (.t 0),none⟩,⟨some 4,.call (.c (.fn (f_lexer_IsName N) [] [])) [(.t 3)],none⟩,⟨some 5,.mov (.t 4),none⟩,⟨some 6,.mov (.t 0),(some (5,false))⟩,⟨some 7,.call (.c (.fn (f_lexer_IsWord N) [] [])) [(.t 6)],(some (5,false))⟩,⟨some 8,.pick (.t 5) (.c (.lit (.bool true))) (.t 7),none⟩,⟨some 2,.mov (.t 8),none⟩]) (
 .ret)),false⟩

def C_tree_term (N : Nat -> Nat) : AFunc := ⟨117,[.inl 2],
 .seq (
 .ops [⟨some 1,.box (t_api_Node N) (.t 0),none⟩,⟨some 2,.mov (.c (.lit (.bool false))),none⟩]) (
 .seq (
 .ops [⟨some 7,.faddr 0 (.t 1),none⟩,⟨some 8,.load none (.t 7),none⟩,⟨some 9,.call (.c (.fn (f_tree_shapes N) [] [])) [(.t 8)],none⟩,⟨some 6,.mov (.t 9),none⟩,⟨some 10,.extract (.t 6) 0,none⟩,⟨some 11,.extract (.t 6) 1,none⟩,⟨some 3,.new (t_tree_shape N) (.agg [(.lit (.bool false)),(.lit (.bool false)),(.lit (.bool false)),(.lit (.bool false)),(.lit (.int .i64 0)),(.lit (.int .i64 0))]),none⟩,⟨none,.store 6 (.t 3) (.t 10),none⟩,⟨some 4,.mov (.t 11),none⟩]) (
 .seq (
 .seq (
 .ops [⟨some 12,.mov (.t 4),none⟩,⟨some 13,.un .not (.t 12),none⟩,⟨some 14,.mov (.t 13),none⟩,⟨some 15,.faddr 4 (.t 3),(some (14,false))⟩,⟨some 16,.load none (.t 15),(some (14,false))⟩,⟨some 17,.bin .geq (.t 16) (.c (.lit (.int .i64 0))),(some (14,false))⟩,⟨some 18,.mov (.t 17),(some (14,false))⟩,⟨some 19,.faddr 6 (.t 1),(some (18,true))⟩,⟨some 20,.load none (.t 19),(some (18,true))⟩,⟨some 21,.len (.t 20),(some (18,true))⟩,⟨some 22,.faddr 4 (.t 3),(some (18,true))⟩,⟨some 23,.load none (.t 22),(some (18,true))⟩,⟨some 24,.eq true .pint (.t 21) (.t 23),(some (18,true))⟩,⟨some 25,.pick (.t 18) (.t 24) (.c (.lit (.bool false))),(some (14,false))⟩,⟨some 26,.pick (.t 14) (.c (.lit (.bool true))) (.t 25),none⟩,⟨some 27,.mov (.t 26),none⟩,⟨some 28,.faddr 7 (.t 1),(some (27,false))⟩,⟨some 29,.load none (.t 28),(some (27,false))⟩,⟨some 30,.len (.t 29),(some (27,false))⟩,⟨some 31,.faddr 5 (.t 3),(some (27,false))⟩,⟨some 32,.load none (.t 31),(some (27,false))⟩,⟨some 33,.eq true .pint (.t 30) (.t 32),(some (27,false))⟩,⟨some 34,.pick (.t 27) (.c (.lit (.bool true))) (.t 33),none⟩,⟨some 35,.mov (.t 34),none⟩,⟨some 36,.load (some 8) (.t 1),(some (35,false))⟩,⟨some 37,.call (.c (.fn (f_tree_named N) [] [])) [(.t 36)],(some (35,false))⟩,⟨some 38,.un .not (.t 37),(some (35,false))⟩,⟨some 39,.pick (.t 35) (.c (.lit (.bool true))) (.t 38),none⟩]) (
 .cond (.t 39) (
 .seq (
 .ops [⟨some 2,.mov (.c (.lit (.bool false))),none⟩]) (
 .ret)) (
 .skip))) (
 .seq (
 .ops [⟨some 40,.faddr 0 (.t 1),none⟩,⟨some 41,.load none (.t 40),none⟩,⟨some 42,.eq true .pint (.t 41) (.c (.lit (.int .i64 11))),none⟩,⟨some 43,.mov (.t 42),none⟩,⟨some 44,.faddr 0 (.t 1),(some (43,true))⟩,⟨some 45,.load none (.t 44),(some (43,true))⟩,⟨some 46,.eq true .pint (.t 45) (.c (.lit (.int .i64 14))),(some (43,true))⟩,⟨some 47,.pick (.t 43) (.t 46) (.c (.lit (.bool false))),none⟩,⟨some 5,.mov (.t 47),none⟩]) (
 .seq (
 .block 0 (
 .seq (
 .ops [⟨some 49,.faddr 3 (.t 3),none⟩,⟨some 50,.load none (.t 49),none⟩,⟨some 48,.mov (.t 50),none⟩]) (
 .cond (.t 48) (
 .seq (
 .ops [⟨some 51,.faddr 2 (.t 1),none⟩,⟨some 52,.load none (.t 51),none⟩,⟨some 53,.call (.c (.fn (f_tree_text N) [] [])) [(.t 52)],none⟩,⟨some 54,.un .not (.t 53),none⟩]) (
 .cond (.t 54) (
 .seq (
 .ops [⟨some 2,.mov (.c (.lit (.bool false))),none⟩]) (
 .ret)) (
 .skip))) (
 .seq (
 .ops [⟨some 56,.faddr 0 (.t 3),none⟩,⟨some 57,.load none (.t 56),none⟩,⟨some 58,.un .not (.t 57),none⟩,⟨some 55,.mov (.t 58),none⟩]) (
 .cond (.t 55) (
 .seq (
 .ops [⟨some 59,.faddr 2 (.t 1),none⟩,⟨some 60,.load none (.t 59),none⟩,⟨some 61,.eq true .pstr (.t 60) (.c (.lit (.string (mkS [])))),none⟩]) (
 .cond (.t 61) (
 .seq (
 .ops [⟨some 2,.mov (.c (.lit (.bool false))),none⟩]) (
 .ret)) (
 .skip))) (
 .seq (
 .ops [⟨some 63,.mov (.t 5),none⟩,⟨some 64,.mov (.t 63),none⟩,⟨some 65,.faddr 2 (.t 1),(some (64,true))⟩,⟨some 66,.load none (.t 65),(some (64,true))⟩,⟨some 67,.call (.c (.fn (f_lexer_IsName N) [] [])) [(.t 66)],(some (64,true))⟩,⟨some 68,.un .not (.t 67),(some (64,true))⟩,⟨some 69,.pick (.t 64) (.t 68) (.c (.lit (.bool false))),none⟩,⟨some 62,.mov (.t 69),none⟩]) (
 .cond (.t 62) (
 .seq (
 .ops [⟨some 2,.mov (.c (.lit (.bool false))),none⟩]) (
 .ret)) (
 .skip)))))))) (
 .seq (
 .seq (
 .ops [⟨some 70,.faddr 1 (.t 3),none⟩,⟨some 71,.load none (.t 70),none⟩,⟨some 72,.mov (.t 71),none⟩,⟨some 73,.faddr 3 (.t 1),(some (72,true))⟩,⟨some 74,.load none (.t 73),(some (72,true))⟩,⟨some 75,.bin .lss (.t 74) (.c (.lit (.int .i64 0))),(some (72,true))⟩,⟨some 76,.mov (.t 75),(some (72,true))⟩,⟨some 77,.faddr 0 (.t 1),(some (76,false))⟩,⟨some 78,.load none (.t 77),(some (76,false))⟩,⟨some 79,.eq false .pint (.t 78) (.c (.lit (.int .i64 2))),(some (76,false))⟩,⟨some 80,.mov (.t 79),(some (76,false))⟩,⟨some 81,.faddr 3 (.t 1),(some (80,true))⟩,⟨some 82,.load none (.t 81),(some (80,true))⟩,⟨some 83,.bin .gtr (.t 82) (.c (.lit (.int .i64 1))),(some (80,true))⟩,⟨some 84,.pick (.t 80) (.t 83) (.c (.lit (.bool false))),(some (76,false))⟩,⟨some 85,.pick (.t 76) (.c (.lit (.bool true))) (.t 84),(some (72,true))⟩,⟨some 86,.pick (.t 72) (.t 85) (.c (.lit (.bool false))),none⟩,⟨some 87,.mov (.t 86),none⟩,⟨some 88,.faddr 1 (.t 3),(some (87,false))⟩,⟨some 89,.load none (.t 88),(some (87,false))⟩,⟨some 90,.un .not (.t 89),(some (87,false))⟩,⟨some 91,.mov (.t 90),(some (87,false))⟩,⟨some 92,.faddr 3 (.t 1),(some (91,true))⟩,⟨some 93,.load none (.t 92),(some (91,true))⟩,⟨some 94,.eq true .pint (.t 93) (.c (.lit (.int .i64 0))),(some (91,true))⟩,⟨some 95,.pick (.t 91) (.t 94) (.c (.lit (.bool false))),(some (87,false))⟩,⟨some 96,.pick (.t 87) (.c (.lit (.bool true))) (.t 95),none⟩]) (
 .cond (.t 96) (
 .seq (
 .ops [⟨some 2,.mov (.c (.lit (.bool false))),none⟩]) (
 .ret)) (
 .skip))) (
 .seq (
 .dops 15 [⟨some 97,.faddr 2 (.t 3),none⟩,⟨some 98,.load none (.t 97),none⟩,⟨some 99,.mov (.t 98),none⟩,⟨some 100,.faddr 4 (.t 1),(some (99,true))⟩,⟨some 101,.load none (.t 100),(some (99,true))⟩,⟨some 103,.faddr 4 (.t 1),(some (99,true))⟩,⟨some 104,.load none (.t 103),(some (99,true))⟩,⟨some 102,.call (.c (.fn (f_floats_Of N) [] [])) [(.t 101)],(some (99,true))⟩,⟨some 105,.eq false .pint (.t 102) (.t 104),(some (99,true))⟩,⟨some 106,.pick (.t 99) (.t 105) (.c (.lit (.bool false))),none⟩,⟨some 107,.mov (.t 106),none⟩,⟨some 108,.faddr 2 (.t 3),(some (107,false))⟩,⟨some 109,.load none (.t 108),(some (107,false))⟩,⟨some 110,.un .not (.t 109),(some (107,false))⟩,⟨some 111,.mov (.t 110),(some (107,false))⟩,⟨some 112,.faddr 4 (.t 1),(some (111,true))⟩,⟨some 113,.load none (.t 112),(some (111,true))⟩,⟨some 114,.eq false .pint (.t 113) (.c (.lit (.int .u64 0))),(some (111,true))⟩,⟨some 115,.pick (.t 111) (.t 114) (.c (.lit (.bool false))),(some (107,false))⟩,⟨some 116,.pick (.t 107) (.c (.lit (.bool true))) (.t 115),none⟩,⟨some 2,.mov (.t 116),none⟩] [0,0,0,0,2,0,2,1,0,0,0,0,0,0,0,0,0,0,0,0,0] []) (
 .ret))))))),false⟩

def C_tree_text (N : Nat -> Nat) : AFunc := ⟨13,[.inl 2],
 .seq (
 .ops [⟨some 2,.mov (.c (.lit (.bool false))),none⟩]) (
 .seq (
 .ops [⟨some 3,.mov (.t 0),none⟩,⟨some 4,.conv (.bytes (t_uint8 N)) (.t 3),none⟩,⟨some 5,.call (.c (.fn (f_runes_Bad N) [] [])) [(.t 4)],none⟩,⟨some 6,.bin .lss (.t 5) (.c (.lit (.int .i64 0))),none⟩,⟨some 7,.mov (.t 6),none⟩,⟨some 8,.mov (.t 0),(some (7,true))⟩,⟨some 9,.conv (.bytes (t_uint8 N)) (.t 8),(some (7,true))⟩,⟨some 10,.call (.c (.fn (f_slices_ContainsFunc_sl_byte_byte N) [] [])) [(.t 9),(.c (.fn (f_tree_text_1 N) [] []))],(some (7,true))⟩,⟨some 11,.un .not (.t 10),(some (7,true))⟩,⟨some 12,.pick (.t 7) (.t 11) (.c (.lit (.bool false))),none⟩,⟨some 2,.mov (.t 12),none⟩]) (
 .ret)),false⟩

def C_tree_text_1 (N : Nat -> Nat) : AFunc := ⟨9,[.inl 2],
 .seq (
 .ops [⟨some 2,.mov (.c (.lit (.bool false))),none⟩]) (
 .seq (
 .ops [⟨some 3,.mov (.t 0),none⟩,⟨some 4,.bin .lss (.t 3) (.c (.lit (.int .u8 32))),none⟩,⟨some 5,.mov (.t 4),none⟩,⟨some 6,.mov (.t 0),(some (5,true))⟩,⟨some 7,.eq true .pint (.t 6) (.c (.lit (.int .u8 10))),(some (5,true))⟩,⟨some 8,.pick (.t 5) (.t 7) (.c (.lit (.bool false))),none⟩,⟨some 2,.mov (.t 8),none⟩]) (
 .ret)),false⟩

def C_tree_typ (N : Nat -> Nat) : AFunc := ⟨115,[.inl 2],
 .seq (
 .ops [⟨some 1,.box (t_api_TypeNode N) (.t 0),none⟩,⟨some 2,.mov (.c (.lit (.bool false))),none⟩]) (
 .seq (
 .seq (
 .ops [⟨some 3,.faddr 5 (.t 1),none⟩,⟨some 4,.load none (.t 3),none⟩,⟨some 5,.mov (.t 4),none⟩,⟨some 6,.faddr 0 (.t 1),(some (5,true))⟩,⟨some 7,.load none (.t 6),(some (5,true))⟩,⟨some 8,.eq true .pint (.t 7) (.c (.lit (.int .i64 9))),(some (5,true))⟩,⟨some 9,.pick (.t 5) (.t 8) (.c (.lit (.bool false))),none⟩]) (
 .cond (.t 9) (
 .seq (
 .ops [⟨some 2,.mov (.c (.lit (.bool false))),none⟩]) (
 .ret)) (
 .skip))) (
 .seq (
 .seq (
 .ops [⟨some 10,.faddr 0 (.t 1),none⟩,⟨some 11,.load none (.t 10),none⟩]) (
 .block 0 (
 .seq (
 .ops [⟨some 13,.eq false .pint (.t 11) (.c (.lit (.int .i64 7))),none⟩,⟨some 12,.mov (.t 13),none⟩]) (
 .cond (.t 12) (
 .seq (
 .ops [⟨some 14,.faddr 2 (.t 1),none⟩,⟨some 15,.load none (.t 14),none⟩,⟨some 16,.eq false .pstr (.t 15) (.c (.lit (.string (mkS [])))),none⟩,⟨some 17,.mov (.t 16),none⟩,⟨some 18,.faddr 3 (.t 1),(some (17,true))⟩,⟨some 19,.load none (.t 18),(some (17,true))⟩,⟨some 20,.len (.t 19),(some (17,true))⟩,⟨some 21,.eq false .pint (.t 20) (.c (.lit (.int .i64 0))),(some (17,true))⟩,⟨some 22,.pick (.t 17) (.t 21) (.c (.lit (.bool false))),none⟩,⟨some 23,.mov (.t 22),none⟩,⟨some 24,.faddr 4 (.t 1),(some (23,true))⟩,⟨some 25,.load none (.t 24),(some (23,true))⟩,⟨some 26,.len (.t 25),(some (23,true))⟩,⟨some 27,.eq false .pint (.t 26) (.c (.lit (.int .i64 2))),(some (23,true))⟩,⟨some 28,.pick (.t 23) (.t 27) (.c (.lit (.bool false))),none⟩,⟨some 2,.mov (.t 28),none⟩]) (
 .ret)) (
 .seq (
 .ops [⟨some 30,.eq false .pint (.t 11) (.c (.lit (.int .i64 8))),none⟩,⟨some 29,.mov (.t 30),none⟩]) (
 .cond (.t 29) (
 .seq (
 .ops [⟨some 31,.faddr 2 (.t 1),none⟩,⟨some 32,.load none (.t 31),none⟩,⟨some 33,.eq false .pstr (.t 32) (.c (.lit (.string (mkS [])))),none⟩,⟨some 34,.mov (.t 33),none⟩,⟨some 35,.faddr 3 (.t 1),(some (34,true))⟩,⟨some 36,.load none (.t 35),(some (34,true))⟩,⟨some 37,.len (.t 36),(some (34,true))⟩,⟨some 38,.faddr 4 (.t 1),(some (34,true))⟩,⟨some 39,.load none (.t 38),(some (34,true))⟩,⟨some 40,.len (.t 39),(some (34,true))⟩,⟨some 41,.eq false .pint (.t 37) (.t 40),(some (34,true))⟩,⟨some 42,.pick (.t 34) (.t 41) (.c (.lit (.bool false))),none⟩,⟨some 43,.mov (.t 42),none⟩,⟨some 44,.faddr 3 (.t 1),(some (43,true))⟩,⟨some 45,.load none (.t 44),(some (43,true))⟩,⟨some 46,.call (.c (.fn (f_tree_once N) [] [])) [(.t 45)],(some (43,true))⟩,⟨some 47,.pick (.t 43) (.t 46) (.c (.lit (.bool false))),none⟩,⟨some 48,.mov (.t 47),none⟩,⟨some 49,.faddr 3 (.t 1),(some (48,true))⟩,⟨some 50,.load none (.t 49),(some (48,true))⟩,⟨some 51,.call (.c (.fn (f_tree_all N) [] [])) [(.t 50),(.c (.fn (f_lexer_IsName N) [] []))],(some (48,true))⟩,⟨some 52,.pick (.t 48) (.t 51) (.c (.lit (.bool false))),none⟩,⟨some 2,.mov (.t 52),none⟩]) (
 .ret)) (
 .seq (
 .ops [⟨some 54,.eq false .pint (.t 11) (.c (.lit (.int .i64 9))),none⟩,⟨some 53,.mov (.t 54),none⟩]) (
 .cond (.t 53) (
 .seq (
 .ops [⟨some 55,.faddr 2 (.t 1),none⟩,⟨some 56,.load none (.t 55),none⟩,⟨some 57,.eq false .pstr (.t 56) (.c (.lit (.string (mkS [])))),none⟩,⟨some 58,.mov (.t 57),none⟩,⟨some 59,.faddr 3 (.t 1),(some (58,true))⟩,⟨some 60,.load none (.t 59),(some (58,true))⟩,⟨some 61,.len (.t 60),(some (58,true))⟩,⟨some 62,.faddr 4 (.t 1),(some (58,true))⟩,⟨some 63,.load none (.t 62),(some (58,true))⟩,⟨some 64,.len (.t 63),(some (58,true))⟩,⟨some 65,.eq false .pint (.t 61) (.t 64),(some (58,true))⟩,⟨some 66,.pick (.t 58) (.t 65) (.c (.lit (.bool false))),none⟩,⟨some 67,.mov (.t 66),none⟩,⟨some 68,.faddr 3 (.t 1),(some (67,true))⟩,⟨some 69,.load none (.t 68),(some (67,true))⟩,⟨some 70,.call (.c (.fn (f_tree_once N) [] [])) [(.t 69)],(some (67,true))⟩,⟨some 71,.pick (.t 67) (.t 70) (.c (.lit (.bool false))),none⟩,⟨some 72,.mov (.t 71),none⟩,⟨some 73,.faddr 3 (.t 1),(some (72,true))⟩,⟨some 74,.load none (.t 73),(some (72,true))⟩,⟨some 75,.call (.c (.fn (f_tree_all N) [] [])) [(.t 74),(.c (.fn (f_tree_tag N) [] []))],(some (72,true))⟩,⟨some 76,.pick (.t 72) (.t 75) (.c (.lit (.bool false))),none⟩,⟨some 2,.mov (.t 76),none⟩]) (
 .ret)) (
 .seq (
 .ops [⟨some 78,.eq false .pint (.t 11) (.c (.lit (.int .i64 10))),none⟩,⟨some 77,.mov (.t 78),none⟩]) (
 .cond (.t 77) (
 .seq (
 .ops [⟨some 79,.faddr 2 (.t 1),none⟩,⟨some 80,.load none (.t 79),none⟩,⟨some 81,.call (.c (.fn (f_tree_alias N) [] [])) [(.t 80)],none⟩,⟨some 82,.mov (.t 81),none⟩,⟨some 83,.faddr 3 (.t 1),(some (82,true))⟩,⟨some 84,.load none (.t 83),(some (82,true))⟩,⟨some 85,.len (.t 84),(some (82,true))⟩,⟨some 86,.faddr 4 (.t 1),(some (82,true))⟩,⟨some 87,.load none (.t 86),(some (82,true))⟩,⟨some 88,.len (.t 87),(some (82,true))⟩,⟨some 89,.bin .add (.t 85) (.t 88),(some (82,true))⟩,⟨some 90,.eq false .pint (.t 89) (.c (.lit (.int .i64 0))),(some (82,true))⟩,⟨some 91,.pick (.t 82) (.t 90) (.c (.lit (.bool false))),none⟩,⟨some 2,.mov (.t 91),none⟩]) (
 .ret)) (
 .skip))))))))))) (
 .seq (
 .ops [⟨some 92,.faddr 0 (.t 1),none⟩,⟨some 93,.load none (.t 92),none⟩,⟨some 94,.bin .geq (.t 93) (.c (.lit (.int .i64 0))),none⟩,⟨some 95,.mov (.t 94),none⟩,⟨some 96,.faddr 0 (.t 1),(some (95,true))⟩,⟨some 97,.load none (.t 96),(some (95,true))⟩,⟨some 98,.bin .leq (.t 97) (.c (.lit (.int .i64 6))),(some (95,true))⟩,⟨some 99,.pick (.t 95) (.t 98) (.c (.lit (.bool false))),none⟩,⟨some 100,.mov (.t 99),none⟩,⟨some 101,.faddr 2 (.t 1),(some (100,true))⟩,⟨some 102,.load none (.t 101),(some (100,true))⟩,⟨some 103,.eq false .pstr (.t 102) (.c (.lit (.string (mkS [])))),(some (100,true))⟩,⟨some 104,.pick (.t 100) (.t 103) (.c (.lit (.bool false))),none⟩,⟨some 105,.mov (.t 104),none⟩,⟨some 106,.faddr 3 (.t 1),(some (105,true))⟩,⟨some 107,.load none (.t 106),(some (105,true))⟩,⟨some 108,.len (.t 107),(some (105,true))⟩,⟨some 109,.faddr 4 (.t 1),(some (105,true))⟩,⟨some 110,.load none (.t 109),(some (105,true))⟩,⟨some 111,.len (.t 110),(some (105,true))⟩,⟨some 112,.bin .add (.t 108) (.t 111),(some (105,true))⟩,⟨some 113,.eq false .pint (.t 112) (.c (.lit (.int .i64 0))),(some (105,true))⟩,⟨some 114,.pick (.t 105) (.t 113) (.c (.lit (.bool false))),none⟩,⟨some 2,.mov (.t 114),none⟩]) (
 .ret)))),false⟩
end Go.Proofs.Eng
namespace Go.Proofs.Eng
open Go

def C_slices_Clone_sl_int_int (N : Nat -> Nat) : AFunc := ⟨8,[.inl 2],
 .seq (
 .ops [⟨some 2,.mov (.c (.lit (.slice none 0 0))),none⟩]) (
 .seq (
 .seq (
 .ops [⟨some 3,.mov (.t 0),none⟩,⟨some 4,.eq false .pslice (.t 3) (.c (.lit (.slice none 0 0))),none⟩]) (
 .cond (.t 4) (
 .seq (
 .ops [⟨some 2,.mov (.c (.lit (.slice none 0 0))),none⟩]) (
 .ret)) (
 .skip))) (
 .seq (
 .ops [⟨some 5,.bslice (t_int N) 1 none 0 [(.lit (.int .i64 0))] [],none⟩,⟨some 6,.mov (.t 0),none⟩,⟨some 7,.append (t_int N) 1 8 (.t 5) (.t 6),none⟩,⟨some 2,.mov (.t 7),none⟩]) (
 .ret))),false⟩

def C_slices_Clone_sl_string_string (N : Nat -> Nat) : AFunc := ⟨8,[.inl 2],
 .seq (
 .ops [⟨some 2,.mov (.c (.lit (.slice none 0 0))),none⟩]) (
 .seq (
 .seq (
 .ops [⟨some 3,.mov (.t 0),none⟩,⟨some 4,.eq false .pslice (.t 3) (.c (.lit (.slice none 0 0))),none⟩]) (
 .cond (.t 4) (
 .seq (
 .ops [⟨some 2,.mov (.c (.lit (.slice none 0 0))),none⟩]) (
 .ret)) (
 .skip))) (
 .seq (
 .ops [⟨some 5,.bslice (t_string N) 1 none 0 [(.lit (.string (mkS [])))] [],none⟩,⟨some 6,.mov (.t 0),none⟩,⟨some 7,.append (t_string N) 1 16 (.t 5) (.t 6),none⟩,⟨some 2,.mov (.t 7),none⟩]) (
 .ret))),false⟩

def C_slices_ContainsFunc_sl_byte_byte (N : Nat -> Nat) : AFunc := ⟨9,[.inl 4],
 .seq (
 .ops [⟨some 4,.mov (.c (.lit (.bool false))),none⟩]) (
 .seq (
 .ops [⟨some 5,.mov (.t 0),none⟩,⟨some 6,.mov (.t 1),none⟩,⟨some 7,.call (.c (.fn (f_slices_IndexFunc_sl_byte_byte N) [] [])) [(.t 5),(.t 6)],none⟩,⟨some 8,.bin .geq (.t 7) (.c (.lit (.int .i64 0))),none⟩,⟨some 4,.mov (.t 8),none⟩]) (
 .ret)),false⟩

def C_slices_ContainsFunc_sl_string_string (N : Nat -> Nat) : AFunc := ⟨9,[.inl 4],
 .seq (
 .ops [⟨some 4,.mov (.c (.lit (.bool false))),none⟩]) (
 .seq (
 .ops [⟨some 5,.mov (.t 0),none⟩,⟨some 6,.mov (.t 1),none⟩,⟨some 7,.call (.c (.fn (f_slices_IndexFunc_sl_string_string N) [] [])) [(.t 5),(.t 6)],none⟩,⟨some 8,.bin .geq (.t 7) (.c (.lit (.int .i64 0))),none⟩,⟨some 4,.mov (.t 8),none⟩]) (
 .ret)),false⟩

def C_slices_ContainsFunc_tree_uses_int (N : Nat -> Nat) : AFunc := ⟨9,[.inl 4],
 .seq (
 .ops [⟨some 4,.mov (.c (.lit (.bool false))),none⟩]) (
 .seq (
 .ops [⟨some 5,.mov (.t 0),none⟩,⟨some 6,.mov (.t 1),none⟩,⟨some 7,.call (.c (.fn (f_slices_IndexFunc_tree_uses_int N) [] [])) [(.t 5),(.t 6)],none⟩,⟨some 8,.bin .geq (.t 7) (.c (.lit (.int .i64 0))),none⟩,⟨some 4,.mov (.t 8),none⟩]) (
 .ret)),false⟩

def L_slices_IndexFunc_sl_byte_byte_1 (N : Nat -> Nat) : AC :=
 .seq (
 .ops [⟨some 9,.bin .lss (.t 8) (.t 7),none⟩]) (
 .seq (
 .cond (.t 9) (
 .skip) (
 .exit 0)) (
 .seq (
 .block 1 (
 .seq (
 .ops [⟨some 10,.mov (.t 8),none⟩,⟨some 5,.mov (.t 10),none⟩]) (
 .seq (
 .ops [⟨some 11,.mov (.t 1),none⟩,⟨some 12,.mov (.t 0),none⟩,⟨some 13,.mov (.t 5),none⟩,⟨some 14,.iaddr 1 (.t 12) (.t 13),none⟩,⟨some 15,.load none (.t 14),none⟩,⟨some 16,.call (.t 11) [(.t 15)],none⟩]) (
 .cond (.t 16) (
 .seq (
 .ops [⟨some 17,.mov (.t 5),none⟩,⟨some 4,.mov (.t 17),none⟩]) (
 .ret)) (
 .skip))))) (
 .ops [⟨some 18,.bin .add (.t 8) (.c (.lit (.int .i64 1))),none⟩,⟨some 8,.mov (.t 18),none⟩])))
def K_slices_IndexFunc_sl_byte_byte_1 (N : Nat -> Nat) : AC :=
 .seq (
 .ops [⟨some 4,.mov (.c (.lit (.int .i64 (-1)))),none⟩]) (
 .ret)
def C_slices_IndexFunc_sl_byte_byte (N : Nat -> Nat) : AFunc := ⟨19,[.inl 4],
 .seq (
 .ops [⟨some 4,.mov (.c (.lit (.int .i64 0))),none⟩]) (
 .seq (
 .seq (
 .ops [⟨some 6,.mov (.t 0),none⟩,⟨some 7,.len (.t 6),none⟩,⟨some 8,.mov (.c (.lit (.int .i64 0))),none⟩]) (
 .block 0 (
 .loop (L_slices_IndexFunc_sl_byte_byte_1 N)))) (K_slices_IndexFunc_sl_byte_byte_1 N)),false⟩

def L_slices_IndexFunc_sl_string_string_1 (N : Nat -> Nat) : AC :=
 .seq (
 .ops [⟨some 9,.bin .lss (.t 8) (.t 7),none⟩]) (
 .seq (
 .cond (.t 9) (
 .skip) (
 .exit 0)) (
 .seq (
 .block 1 (
 .seq (
 .ops [⟨some 10,.mov (.t 8),none⟩,⟨some 5,.mov (.t 10),none⟩]) (
 .seq (
 .ops [⟨some 11,.mov (.t 1),none⟩,⟨some 12,.mov (.t 0),none⟩,⟨some 13,.mov (.t 5),none⟩,⟨some 14,.iaddr 1 (.t 12) (.t 13),none⟩,⟨some 15,.load none (.t 14),none⟩,⟨some 16,.call (.t 11) [(.t 15)],none⟩]) (
 .cond (.t 16) (
 .seq (
 .ops [⟨some 17,.mov (.t 5),none⟩,⟨some 4,.mov (.t 17),none⟩]) (
 .ret)) (
 .skip))))) (
 .ops [⟨some 18,.bin .add (.t 8) (.c (.lit (.int .i64 1))),none⟩,⟨some 8,.mov (.t 18),none⟩])))
def K_slices_IndexFunc_sl_string_string_1 (N : Nat -> Nat) : AC :=
 .seq (
 .ops [⟨some 4,.mov (.c (.lit (.int .i64 (-1)))),none⟩]) (
 .ret)
def C_slices_IndexFunc_sl_string_string (N : Nat -> Nat) : AFunc := ⟨19,[.inl 4],
 .seq (
 .ops [⟨some 4,.mov (.c (.lit (.int .i64 0))),none⟩]) (
 .seq (
 .seq (
 .ops [⟨some 6,.mov (.t 0),none⟩,⟨some 7,.len (.t 6),none⟩,⟨some 8,.mov (.c (.lit (.int .i64 0))),none⟩]) (
 .block 0 (
 .loop (L_slices_IndexFunc_sl_string_string_1 N)))) (K_slices_IndexFunc_sl_string_string_1 N)),false⟩

def L_slices_IndexFunc_tree_uses_int_1 (N : Nat -> Nat) : AC :=
 .seq (
 .ops [⟨some 9,.bin .lss (.t 8) (.t 7),none⟩]) (
 .seq (
 .cond (.t 9) (
 .skip) (
 .exit 0)) (
 .seq (
 .block 1 (
 .seq (
 .ops [⟨some 10,.mov (.t 8),none⟩,⟨some 5,.mov (.t 10),none⟩]) (
 .seq (
 .ops [⟨some 11,.mov (.t 1),none⟩,⟨some 12,.mov (.t 0),none⟩,⟨some 13,.mov (.t 5),none⟩,⟨some 14,.iaddr 1 (.t 12) (.t 13),none⟩,⟨some 15,.load none (.t 14),none⟩,⟨some 16,.call (.t 11) [(.t 15)],none⟩]) (
 .cond (.t 16) (
 .seq (
 .ops [⟨some 17,.mov (.t 5),none⟩,⟨some 4,.mov (.t 17),none⟩]) (
 .ret)) (
 .skip))))) (
 .ops [⟨some 18,.bin .add (.t 8) (.c (.lit (.int .i64 1))),none⟩,⟨some 8,.mov (.t 18),none⟩])))
def K_slices_IndexFunc_tree_uses_int_1 (N : Nat -> Nat) : AC :=
 .seq (
 .ops [⟨some 4,.mov (.c (.lit (.int .i64 (-1)))),none⟩]) (
 .ret)
def C_slices_IndexFunc_tree_uses_int (N : Nat -> Nat) : AFunc := ⟨19,[.inl 4],
 .seq (
 .ops [⟨some 4,.mov (.c (.lit (.int .i64 0))),none⟩]) (
 .seq (
 .seq (
 .ops [⟨some 6,.mov (.t 0),none⟩,⟨some 7,.len (.t 6),none⟩,⟨some 8,.mov (.c (.lit (.int .i64 0))),none⟩]) (
 .block 0 (
 .loop (L_slices_IndexFunc_tree_uses_int_1 N)))) (K_slices_IndexFunc_tree_uses_int_1 N)),false⟩

end Go.Proofs.Eng
namespace Go.Proofs.Eng
open Go

def C_floats_Of (N : Nat -> Nat) : AFunc := ⟨10,[.inl 2],
 .seq (
 .ops [⟨some 2,.mov (.c (.lit (.int .u64 0))),none⟩]) (
 .seq (
 .seq (
 .ops [⟨some 4,.mov (.t 0),none⟩,⟨some 5,.call (.c (.fn (f_math_Float64frombits N) [] [])) [(.t 4)],none⟩,⟨some 3,.mov (.t 5),none⟩]) (
 .seq (
 .ops [⟨some 6,.mov (.t 3),none⟩,⟨some 7,.mov (.t 3),none⟩,⟨some 8,.eq true .pfloat (.t 6) (.t 7),none⟩]) (
 .cond (.t 8) (
 .seq (
 .ops [⟨some 2,.mov (.c (.lit (.int .u64 9221120237041090561))),none⟩]) (
 .ret)) (
 .skip)))) (
 .seq (
 .ops [⟨some 9,.mov (.t 0),none⟩,⟨some 2,.mov (.t 9),none⟩]) (
 .ret))),false⟩

def L_floats_Parse_1 (N : Nat -> Nat) : AC :=
 .seq (
 .ops [⟨some 23,.bin .lss (.t 22) (.t 21),none⟩]) (
 .seq (
 .cond (.t 23) (
 .skip) (
 .exit 0)) (
 .seq (
 .block 1 (
 .seq (
 .ops [⟨some 24,.mov (.t 22),none⟩,⟨some 6,.mov (.t 24),none⟩]) (
 .seq (
 .ops [⟨some 25,.mov (.t 0),none⟩,⟨some 26,.mov (.t 6),none⟩,⟨some 27,.sidx (.t 25) (.t 26),none⟩,⟨some 28,.call (.c (.fn (f_strings_IndexByte N) [] [])) [(.c (.lit (.string (mkS [48,49,50,51,52,53,54,55,56,57,97,98,99,100,101,102])))),(.t 27)],none⟩,⟨some 7,.mov (.t 28),none⟩]) (
 .seq (
 .seq (
 .ops [⟨some 29,.mov (.t 7),none⟩,⟨some 30,.bin .lss (.t 29) (.c (.lit (.int .i64 0))),none⟩]) (
 .cond (.t 30) (
 .seq (
 .ops [⟨some 2,.mov (.c (.lit (.int .u64 0))),none⟩,⟨some 3,.mov (.c (.lit (.int .i64 14))),none⟩]) (
 .ret)) (
 .skip))) (
 .ops [⟨some 31,.mov (.t 5),none⟩,⟨some 32,.bin .shl (.t 31) (.c (.lit (.int .u64 4))),none⟩,⟨some 33,.mov (.t 7),none⟩,⟨some 34,.conv (.toInt .u64) (.t 33),none⟩,⟨some 35,.bin .or (.t 32) (.t 34),none⟩,⟨some 5,.mov (.t 35),none⟩]))))) (
 .ops [⟨some 36,.bin .add (.t 22) (.c (.lit (.int .i64 1))),none⟩,⟨some 22,.mov (.t 36),none⟩])))
def K_floats_Parse_1 (N : Nat -> Nat) : AC :=
 .seq (
 .ops [⟨some 37,.mov (.t 5),none⟩,⟨some 38,.call (.c (.fn (f_floats_Of N) [] [])) [(.t 37)],none⟩,⟨some 2,.mov (.t 38),none⟩,⟨some 3,.mov (.c (.lit (.int .i64 0))),none⟩]) (
 .ret)
def C_floats_Parse (N : Nat -> Nat) : AFunc := ⟨39,[.inl 2,.inl 3],
 .seq (
 .ops [⟨some 2,.mov (.c (.lit (.int .u64 0))),none⟩,⟨some 3,.mov (.c (.lit (.int .i64 0))),none⟩]) (
 .seq (
 .ops [⟨some 9,.mov (.t 0),none⟩,⟨some 10,.call (.c (.fn (f_strings_CutPrefix N) [] [])) [(.t 9),(.c (.lit (.string (mkS [102,39]))))],none⟩,⟨some 8,.mov (.t 10),none⟩,⟨some 11,.extract (.t 8) 0,none⟩,⟨some 12,.extract (.t 8) 1,none⟩,⟨some 0,.mov (.t 11),none⟩,⟨some 4,.mov (.t 12),none⟩]) (
 .seq (
 .seq (
 .ops [⟨some 13,.mov (.t 4),none⟩,⟨some 14,.un .not (.t 13),none⟩,⟨some 15,.mov (.t 14),none⟩,⟨some 16,.mov (.t 0),(some (15,false))⟩,⟨some 17,.lens (.t 16),(some (15,false))⟩,⟨some 18,.eq true .pint (.t 17) (.c (.lit (.int .i64 16))),(some (15,false))⟩,⟨some 19,.pick (.t 15) (.c (.lit (.bool true))) (.t 18),none⟩]) (
 .cond (.t 19) (
 .seq (
 .ops [⟨some 2,.mov (.c (.lit (.int .u64 0))),none⟩,⟨some 3,.mov (.c (.lit (.int .i64 14))),none⟩]) (
 .ret)) (
 .skip))) (
 .seq (
 .ops [⟨some 5,.mov (.c (.lit (.int .u64 0))),none⟩]) (
 .seq (
 .seq (
 .ops [⟨some 20,.mov (.t 0),none⟩,⟨some 21,.lens (.t 20),none⟩,⟨some 22,.mov (.c (.lit (.int .i64 0))),none⟩]) (
 .block 0 (
 .loop (L_floats_Parse_1 N)))) (K_floats_Parse_1 N))))),false⟩

def C_lexer_IsName (N : Nat -> Nat) : AFunc := ⟨22,[.inl 2],
 .seq (
 .ops [⟨some 2,.mov (.c (.lit (.bool false))),none⟩]) (
 .seq (
 .ops [⟨some 3,.mov (.t 0),none⟩,⟨some 4,.eq true .pstr (.t 3) (.c (.lit (.string (mkS [])))),none⟩,⟨some 5,.mov (.t 4),none⟩,⟨some 6,.mov (.t 0),(some (5,true))⟩,⟨some 7,.sidx (.t 6) (.c (.lit (.int .i64 0))),(some (5,true))⟩,⟨some 8,.call (.c (.fn (f_lexer_low N) [] [])) [(.t 7)],(some (5,true))⟩,⟨some 9,.pick (.t 5) (.t 8) (.c (.lit (.bool false))),none⟩,⟨some 10,.mov (.t 9),none⟩,⟨some 11,.mov (.t 0),(some (10,true))⟩,⟨some 12,.call (.c (.fn (f_lexer_run N) [] [])) [(.t 11),(.c (.fn (f_lexer_inName N) [] []))],(some (10,true))⟩,⟨some 13,.mov (.t 0),(some (10,true))⟩,⟨some 14,.lens (.t 13),(some (10,true))⟩,⟨some 15,.eq false .pint (.t 12) (.t 14),(some (10,true))⟩,⟨some 16,.pick (.t 10) (.t 15) (.c (.lit (.bool false))),none⟩,⟨some 17,.mov (.t 16),none⟩,⟨some 18,.mov (.t 0),(some (17,true))⟩,⟨some 19,.call (.c (.fn (f_lexer_IsWord N) [] [])) [(.t 18)],(some (17,true))⟩,⟨some 20,.un .not (.t 19),(some (17,true))⟩,⟨some 21,.pick (.t 17) (.t 20) (.c (.lit (.bool false))),none⟩,⟨some 2,.mov (.t 21),none⟩]) (
 .ret)),false⟩

def C_lexer_IsWord (N : Nat -> Nat) : AFunc := ⟨6,[.inl 2],
 .seq (
 .ops [⟨some 2,.mov (.c (.lit (.bool false))),none⟩]) (
 .seq (
 .ops [⟨some 3,.call (.c (.fn (f_lexer_words N) [] [])) [],none⟩,⟨some 4,.mov (.t 0),none⟩,⟨some 5,.call (.c (.fn (f_slices_Contains_sl_string_string N) [] [])) [(.t 3),(.t 4)],none⟩,⟨some 2,.mov (.t 5),none⟩]) (
 .ret)),false⟩

def L_lexer_Lex_1 (N : Nat -> Nat) : AC :=
 .seq (
 .seq (
 .ops [⟨some 24,.mov (.t 7),none⟩,⟨some 25,.mov (.t 6),none⟩,⟨some 26,.lens (.t 25),none⟩,⟨some 27,.bin .lss (.t 24) (.t 26),none⟩]) (
 .cond (.t 27) (
 .skip) (
 .exit 0))) (
 .block 1 (
 .seq (
 .ops [⟨some 29,.mov (.t 6),none⟩,⟨some 30,.mov (.t 7),none⟩,⟨some 31,.slstr (.t 29) (some (.t 30)) none,none⟩,⟨some 32,.call (.c (.fn (f_lexer_one N) [] [])) [(.t 31)],none⟩,⟨some 28,.mov (.t 32),none⟩,⟨some 33,.extract (.t 28) 0,none⟩,⟨some 34,.extract (.t 28) 1,none⟩,⟨some 8,.new (t_api_Token N) (.agg [(.lit (.int .i64 0)),(.lit (.string (mkS []))),(.lit (.int .i64 0))]),none⟩,⟨none,.store 3 (.t 8) (.t 33),none⟩,⟨some 9,.mov (.t 34),none⟩]) (
 .seq (
 .seq (
 .ops [⟨some 35,.mov (.t 9),none⟩,⟨some 36,.eq false .pint (.t 35) (.c (.lit (.int .i64 0))),none⟩]) (
 .cond (.t 36) (
 .seq (
 .ops [⟨some 37,.mov (.t 7),none⟩,⟨some 38,.build [(.lit (.int .i64 0)),(.lit (.int .i64 0)),(.lit (.string (mkS [])))] [(0,1,(.c (.lit (.int .i64 3)))),(1,1,(.t 37))],none⟩,⟨some 2,.mov (.c (.lit (.slice none 0 0))),none⟩,⟨none,.store 3 (.t 3) (.t 38),none⟩]) (
 .ret)) (
 .skip))) (
 .seq (
 .ops [⟨some 39,.mov (.t 7),none⟩,⟨some 40,.faddr 2 (.t 8),none⟩,⟨none,.store 1 (.t 40) (.t 39),none⟩]) (
 .seq (
 .ops [⟨some 41,.mov (.t 5),none⟩,⟨some 42,.load (some 3) (.t 8),none⟩,⟨some 43,.bslice (t_api_Token N) 3 (some 3) 1 [(.lit (.int .i64 0)),(.lit (.string (mkS []))),(.lit (.int .i64 0))] [(0,3,(.t 42))],none⟩,⟨some 44,.append (t_api_Token N) 3 32 (.t 41) (.t 43),none⟩,⟨some 5,.mov (.t 44),none⟩]) (
 .seq (
 .ops [⟨some 45,.mov (.t 7),none⟩,⟨some 46,.mov (.t 9),none⟩,⟨some 47,.bin .add (.t 45) (.t 46),none⟩,⟨some 7,.mov (.t 47),none⟩]) (
 .ops [⟨some 48,.mov (.t 7),none⟩,⟨some 49,.mov (.t 6),none⟩,⟨some 50,.mov (.t 7),none⟩,⟨some 51,.slstr (.t 49) (some (.t 50)) none,none⟩,⟨some 52,.call (.c (.fn (f_lexer_blank N) [] [])) [(.t 51)],none⟩,⟨some 53,.bin .add (.t 48) (.t 52),none⟩,⟨some 7,.mov (.t 53),none⟩])))))))
def K_lexer_Lex_1 (N : Nat -> Nat) : AC :=
 .seq (
 .ops [⟨some 54,.mov (.t 5),none⟩,⟨some 55,.mov (.t 6),none⟩,⟨some 56,.lens (.t 55),none⟩,⟨some 57,.build [(.lit (.int .i64 0)),(.lit (.string (mkS []))),(.lit (.int .i64 0))] [(0,1,(.c (.lit (.int .i64 0)))),(2,1,(.t 56))],none⟩,⟨some 58,.bslice (t_api_Token N) 3 (some 3) 1 [(.lit (.int .i64 0)),(.lit (.string (mkS []))),(.lit (.int .i64 0))] [(0,3,(.t 57))],none⟩,⟨some 59,.append (t_api_Token N) 3 32 (.t 54) (.t 58),none⟩,⟨some 60,.build [(.lit (.int .i64 0)),(.lit (.int .i64 0)),(.lit (.string (mkS [])))] [],none⟩,⟨some 2,.mov (.t 59),none⟩,⟨none,.store 3 (.t 3) (.t 60),none⟩]) (
 .ret)
def C_lexer_Lex (N : Nat -> Nat) : AFunc := ⟨61,[.inl 2,.inr (3,(some 3))],
 .seq (
 .ops [⟨some 2,.mov (.c (.lit (.slice none 0 0))),none⟩,⟨some 3,.new (t_api_Diag N) (.agg [(.lit (.int .i64 0)),(.lit (.int .i64 0)),(.lit (.string (mkS [])))]),none⟩]) (
 .seq (
 .seq (
 .ops [⟨some 10,.mov (.t 0),none⟩,⟨some 11,.len (.t 10),none⟩,⟨some 12,.bin .gtr (.t 11) (.c (.lit (.int .i64 1048576))),none⟩]) (
 .cond (.t 12) (
 .seq (
 .ops [⟨some 13,.build [(.lit (.int .i64 0)),(.lit (.int .i64 0)),(.lit (.string (mkS [])))] [(0,1,(.c (.lit (.int .i64 6))))],none⟩,⟨some 2,.mov (.c (.lit (.slice none 0 0))),none⟩,⟨none,.store 3 (.t 3) (.t 13),none⟩]) (
 .ret)) (
 .skip))) (
 .seq (
 .seq (
 .ops [⟨some 14,.mov (.t 0),none⟩,⟨some 15,.call (.c (.fn (f_runes_Bad N) [] [])) [(.t 14)],none⟩,⟨some 4,.mov (.t 15),none⟩]) (
 .seq (
 .ops [⟨some 16,.mov (.t 4),none⟩,⟨some 17,.bin .geq (.t 16) (.c (.lit (.int .i64 0))),none⟩]) (
 .cond (.t 17) (
 .seq (
 .ops [⟨some 18,.mov (.t 4),none⟩,⟨some 19,.build [(.lit (.int .i64 0)),(.lit (.int .i64 0)),(.lit (.string (mkS [])))] [(0,1,(.c (.lit (.int .i64 2)))),(1,1,(.t 18))],none⟩,⟨some 2,.mov (.c (.lit (.slice none 0 0))),none⟩,⟨none,.store 3 (.t 3) (.t 19),none⟩]) (
 .ret)) (
 .skip)))) (
 .seq (
 .ops [⟨some 5,.mov (.c (.lit (.slice none 0 0))),none⟩]) (
 .seq (
 .ops [⟨some 20,.mov (.t 0),none⟩,⟨some 21,.conv .str (.t 20),none⟩,⟨some 6,.mov (.t 21),none⟩]) (
 .seq (
 .ops [⟨some 22,.mov (.t 6),none⟩,⟨some 23,.call (.c (.fn (f_lexer_blank N) [] [])) [(.t 22)],none⟩,⟨some 7,.mov (.t 23),none⟩]) (
 .seq (
 .block 0 (
 .loop (L_lexer_Lex_1 N))) (K_lexer_Lex_1 N))))))),true⟩

def L_lexer_blank_1 (N : Nat -> Nat) : AC :=
 .seq (
 .seq (
 .ops [⟨some 4,.mov (.t 3),none⟩,⟨some 5,.mov (.t 0),none⟩,⟨some 6,.lens (.t 5),none⟩,⟨some 7,.bin .lss (.t 4) (.t 6),none⟩]) (
 .cond (.t 7) (
 .skip) (
 .exit 0))) (
 .block 1 (
 .block 2 (
 .seq (
 .ops [⟨some 10,.mov (.t 0),none⟩,⟨some 11,.mov (.t 3),none⟩,⟨some 12,.sidx (.t 10) (.t 11),none⟩,⟨some 13,.call (.c (.fn (f_strings_IndexByte N) [] [])) [(.c (.lit (.string (mkS [32,9,10,13])))),(.t 12)],none⟩,⟨some 14,.bin .geq (.t 13) (.c (.lit (.int .i64 0))),none⟩,⟨some 9,.mov (.t 14),none⟩]) (
 .cond (.t 9) (
 .ops [⟨some 15,.mov (.t 3),none⟩,⟨some 16,.bin .add (.t 15) (.c (.lit (.int .i64 1))),none⟩,⟨some 3,.mov (.t 16),none⟩]) (
 .seq (
 .ops [⟨some 18,.mov (.t 0),none⟩,⟨some 19,.mov (.t 3),none⟩,⟨some 20,.slstr (.t 18) (some (.t 19)) none,none⟩,⟨some 21,.call (.c (.fn (f_strings_HasPrefix N) [] [])) [(.t 20),(.c (.lit (.string (mkS [47,47]))))],none⟩,⟨some 17,.mov (.t 21),none⟩]) (
 .cond (.t 17) (
 .ops [⟨some 22,.mov (.t 3),none⟩,⟨some 23,.mov (.t 0),none⟩,⟨some 24,.mov (.t 3),none⟩,⟨some 25,.slstr (.t 23) (some (.t 24)) none,none⟩,⟨some 26,.call (.c (.fn (f_lexer_run N) [] [])) [(.t 25),(.c (.fn (f_lexer_blank_1 N) [] []))],none⟩,⟨some 27,.bin .add (.t 22) (.t 26),none⟩,⟨some 3,.mov (.t 27),none⟩]) (
 .seq (
 .ops [⟨some 8,.mov (.t 3),none⟩,⟨some 2,.mov (.t 8),none⟩]) (
 .ret))))))))
def K_lexer_blank_1 (N : Nat -> Nat) : AC :=
 .seq (
 .ops [⟨some 28,.mov (.t 3),none⟩,⟨some 2,.mov (.t 28),none⟩]) (
 .ret)
def C_lexer_blank (N : Nat -> Nat) : AFunc := ⟨29,[.inl 2],
 .seq (
 .ops [⟨some 2,.mov (.c (.lit (.int .i64 0))),none⟩]) (
 .seq (
 .ops [⟨some 3,.mov (.c (.lit (.int .i64 0))),none⟩]) (
 .seq (
 .block 0 (
 .loop (L_lexer_blank_1 N))) (K_lexer_blank_1 N))),false⟩

def C_lexer_blank_1 (N : Nat -> Nat) : AFunc := ⟨5,[.inl 2],
 .seq (
 .ops [⟨some 2,.mov (.c (.lit (.bool false))),none⟩]) (
 .seq (
 .ops [⟨some 3,.mov (.t 0),none⟩,⟨some 4,.eq true .pint (.t 3) (.c (.lit (.int .u8 10))),none⟩,⟨some 2,.mov (.t 4),none⟩]) (
 .ret)),false⟩

def C_lexer_digit (N : Nat -> Nat) : AFunc := ⟨9,[.inl 2],
 .seq (
 .ops [⟨some 2,.mov (.c (.lit (.bool false))),none⟩]) (
 .seq (
 .ops [⟨some 3,.mov (.t 0),none⟩,⟨some 4,.bin .geq (.t 3) (.c (.lit (.int .u8 48))),none⟩,⟨some 5,.mov (.t 4),none⟩,⟨some 6,.mov (.t 0),(some (5,true))⟩,⟨some 7,.bin .leq (.t 6) (.c (.lit (.int .u8 57))),(some (5,true))⟩,⟨some 8,.pick (.t 5) (.t 7) (.c (.lit (.bool false))),none⟩,⟨some 2,.mov (.t 8),none⟩]) (
 .ret)),false⟩

def C_lexer_float (N : Nat -> Nat) : AFunc := ⟨19,[.inl 2,.inl 3],
 .seq (
 .ops [⟨some 2,.mov (.c (.lit (.string (mkS [])))),none⟩,⟨some 3,.mov (.c (.lit (.bool false))),none⟩]) (
 .seq (
 .seq (
 .ops [⟨some 6,.mov (.t 0),none⟩,⟨some 7,.lens (.t 6),none⟩,⟨some 8,.bin .lss (.t 7) (.c (.lit (.int .i64 18))),none⟩]) (
 .cond (.t 8) (
 .seq (
 .ops [⟨some 2,.mov (.c (.lit (.string (mkS [])))),none⟩,⟨some 3,.mov (.c (.lit (.bool false))),none⟩]) (
 .ret)) (
 .skip))) (
 .seq (
 .ops [⟨some 10,.mov (.t 0),none⟩,⟨some 11,.slstr (.t 10) none (some (.c (.lit (.int .i64 18)))),none⟩,⟨some 12,.call (.c (.fn (f_floats_Parse N) [] [])) [(.t 11)],none⟩,⟨some 9,.mov (.t 12),none⟩,⟨some 13,.extract (.t 9) 0,none⟩,⟨some 14,.extract (.t 9) 1,none⟩,⟨some 4,.mov (.t 13),none⟩,⟨some 5,.mov (.t 14),none⟩]) (
 .seq (
 .ops [⟨some 15,.mov (.t 0),none⟩,⟨some 16,.slstr (.t 15) none (some (.c (.lit (.int .i64 18)))),none⟩,⟨some 17,.mov (.t 5),none⟩,⟨some 18,.eq false .pint (.t 17) (.c (.lit (.int .i64 0))),none⟩,⟨some 2,.mov (.t 16),none⟩,⟨some 3,.mov (.t 18),none⟩]) (
 .ret)))),false⟩

def C_lexer_high (N : Nat -> Nat) : AFunc := ⟨9,[.inl 2],
 .seq (
 .ops [⟨some 2,.mov (.c (.lit (.bool false))),none⟩]) (
 .seq (
 .ops [⟨some 3,.mov (.t 0),none⟩,⟨some 4,.bin .geq (.t 3) (.c (.lit (.int .u8 65))),none⟩,⟨some 5,.mov (.t 4),none⟩,⟨some 6,.mov (.t 0),(some (5,true))⟩,⟨some 7,.bin .leq (.t 6) (.c (.lit (.int .u8 90))),(some (5,true))⟩,⟨some 8,.pick (.t 5) (.t 7) (.c (.lit (.bool false))),none⟩,⟨some 2,.mov (.t 8),none⟩]) (
 .ret)),false⟩

def C_lexer_inAlias (N : Nat -> Nat) : AFunc := ⟨17,[.inl 2],
 .seq (
 .ops [⟨some 2,.mov (.c (.lit (.bool false))),none⟩]) (
 .seq (
 .ops [⟨some 3,.mov (.t 0),none⟩,⟨some 4,.call (.c (.fn (f_lexer_high N) [] [])) [(.t 3)],none⟩,⟨some 5,.mov (.t 4),none⟩,⟨some 6,.mov (.t 0),(some (5,false))⟩,⟨some 7,.call (.c (.fn (f_lexer_digit N) [] [])) [(.t 6)],(some (5,false))⟩,⟨some 8,.pick (.t 5) (.c (.lit (.bool true))) (.t 7),none⟩,⟨some 9,.mov (.t 8),none⟩,⟨some 10,.mov (.t 0),(some (9,false))⟩,⟨some 11,.bin .geq (.t 10) (.c (.lit (.int .u8 97))),(some (9,false))⟩,⟨some 12,.mov (.t 11),(some (9,false))⟩,⟨some 13,.mov (.t 0),(some (12,true))⟩,⟨some 14,.bin .leq (.t 13) (.c (.lit (.int .u8 122))),(some (12,true))⟩,⟨some 15,.pick (.t 12) (.t 14) (.c (.lit (.bool false))),(some (9,false))⟩,⟨some 16,.pick (.t 9) (.c (.lit (.bool true))) (.t 15),none⟩,⟨some 2,.mov (.t 16),none⟩]) (
 .ret)),false⟩

def C_lexer_inName (N : Nat -> Nat) : AFunc := ⟨9,[.inl 2],
 .seq (
 .ops [⟨some 2,.mov (.c (.lit (.bool false))),none⟩]) (
 .seq (
 .ops [⟨some 3,.mov (.t 0),none⟩,⟨some 4,.call (.c (.fn (f_lexer_low N) [] [])) [(.t 3)],none⟩,⟨some 5,.mov (.t 4),none⟩,⟨some 6,.mov (.t 0),(some (5,false))⟩,⟨some 7,.call (.c (.fn (f_lexer_digit N) [] [])) [(.t 6)],(some (5,false))⟩,⟨some 8,.pick (.t 5) (.c (.lit (.bool true))) (.t 7),none⟩,⟨some 2,.mov (.t 8),none⟩]) (
 .ret)),false⟩

def C_lexer_low (N : Nat -> Nat) : AFunc := ⟨13,[.inl 2],
 .seq (
 .ops [⟨some 2,.mov (.c (.lit (.bool false))),none⟩]) (
 .seq (
 .ops [⟨some 3,.mov (.t 0),none⟩,⟨some 4,.bin .geq (.t 3) (.c (.lit (.int .u8 97))),none⟩,⟨some 5,.mov (.t 4),none⟩,⟨some 6,.mov (.t 0),(some (5,true))⟩,⟨some 7,.bin .leq (.t 6) (.c (.lit (.int .u8 122))),(some (5,true))⟩,⟨some 8,.pick (.t 5) (.t 7) (.c (.lit (.bool false))),none⟩,⟨some 9,.mov (.t 8),none⟩,⟨some 10,.mov (.t 0),(some (9,false))⟩,⟨some 11,.eq false .pint (.t 10) (.c (.lit (.int .u8 95))),(some (9,false))⟩,⟨some 12,.pick (.t 9) (.c (.lit (.bool true))) (.t 11),none⟩,⟨some 2,.mov (.t 12),none⟩]) (
 .ret)),false⟩

def C_lexer_number (N : Nat -> Nat) : AFunc := ⟨23,[.inl 2],
 .seq (
 .ops [⟨some 2,.mov (.c (.lit (.bool false))),none⟩]) (
 .seq (
 .seq (
 .ops [⟨some 3,.mov (.t 0),none⟩,⟨some 4,.lens (.t 3),none⟩,⟨some 5,.bin .gtr (.t 4) (.c (.lit (.int .i64 1))),none⟩,⟨some 6,.mov (.t 5),none⟩,⟨some 7,.mov (.t 0),(some (6,true))⟩,⟨some 8,.sidx (.t 7) (.c (.lit (.int .i64 0))),(some (6,true))⟩,⟨some 9,.eq false .pint (.t 8) (.c (.lit (.int .u8 48))),(some (6,true))⟩,⟨some 10,.pick (.t 6) (.t 9) (.c (.lit (.bool false))),none⟩]) (
 .cond (.t 10) (
 .seq (
 .ops [⟨some 2,.mov (.c (.lit (.bool false))),none⟩]) (
 .ret)) (
 .skip))) (
 .seq (
 .ops [⟨some 11,.mov (.t 0),none⟩,⟨some 12,.lens (.t 11),none⟩,⟨some 13,.bin .lss (.t 12) (.c (.lit (.int .i64 19))),none⟩,⟨some 14,.mov (.t 13),none⟩,⟨some 15,.mov (.t 0),(some (14,false))⟩,⟨some 16,.lens (.t 15),(some (14,false))⟩,⟨some 17,.eq false .pint (.t 16) (.c (.lit (.int .i64 19))),(some (14,false))⟩,⟨some 18,.mov (.t 17),(some (14,false))⟩,⟨some 19,.mov (.t 0),(some (18,true))⟩,⟨some 20,.bin .leq (.t 19) (.c (.lit (.string (mkS [57,50,50,51,51,55,50,48,51,54,56,53,52,55,55,53,56,48,55])))),(some (18,true))⟩,⟨some 21,.pick (.t 18) (.t 20) (.c (.lit (.bool false))),(some (14,false))⟩,⟨some 22,.pick (.t 14) (.c (.lit (.bool true))) (.t 21),none⟩,⟨some 2,.mov (.t 22),none⟩]) (
 .ret))),false⟩

def L_lexer_one_1 (N : Nat -> Nat) : AC :=
 .seq (
 .ops [⟨some 118,.bin .lss (.t 117) (.t 116),none⟩]) (
 .seq (
 .cond (.t 118) (
 .skip) (
 .exit 1)) (
 .seq (
 .block 2 (
 .seq (
 .ops [⟨some 119,.iaddr 1 (.t 115) (.t 117),none⟩,⟨some 120,.load none (.t 119),none⟩,⟨some 14,.mov (.t 120),none⟩]) (
 .seq (
 .ops [⟨some 121,.mov (.t 0),none⟩,⟨some 122,.mov (.t 14),none⟩,⟨some 123,.call (.c (.fn (f_strings_HasPrefix N) [] [])) [(.t 121),(.t 122)],none⟩]) (
 .cond (.t 123) (
 .seq (
 .ops [⟨some 124,.mov (.t 14),none⟩,⟨some 125,.build [(.lit (.int .i64 0)),(.lit (.string (mkS []))),(.lit (.int .i64 0))] [(0,1,(.c (.lit (.int .i64 8)))),(1,1,(.t 124))],none⟩,⟨some 126,.mov (.t 14),none⟩,⟨some 127,.lens (.t 126),none⟩,⟨none,.store 3 (.t 2) (.t 125),none⟩,⟨some 3,.mov (.t 127),none⟩]) (
 .ret)) (
 .skip))))) (
 .ops [⟨some 128,.bin .add (.t 117) (.c (.lit (.int .i64 1))),none⟩,⟨some 117,.mov (.t 128),none⟩])))
def K_lexer_one_1 (N : Nat -> Nat) : AC :=
 .seq (
 .ops [⟨some 129,.build [(.lit (.int .i64 0)),(.lit (.string (mkS []))),(.lit (.int .i64 0))] [],none⟩,⟨none,.store 3 (.t 2) (.t 129),none⟩,⟨some 3,.mov (.c (.lit (.int .i64 0))),none⟩]) (
 .ret)
def C_lexer_one (N : Nat -> Nat) : AFunc := ⟨130,[.inr (2,(some 3)),.inl 3],
 .seq (
 .ops [⟨some 2,.new (t_api_Token N) (.agg [(.lit (.int .i64 0)),(.lit (.string (mkS []))),(.lit (.int .i64 0))]),none⟩,⟨some 3,.mov (.c (.lit (.int .i64 0))),none⟩]) (
 .seq (
 .ops [⟨some 15,.mov (.t 0),none⟩,⟨some 16,.sidx (.t 15) (.c (.lit (.int .i64 0))),none⟩,⟨some 4,.mov (.t 16),none⟩]) (
 .seq (
 .block 0 (
 .seq (
 .ops [⟨some 18,.mov (.t 0),none⟩,⟨some 19,.call (.c (.fn (f_strings_HasPrefix N) [] [])) [(.t 18),(.c (.lit (.string (mkS [102,39]))))],none⟩,⟨some 17,.mov (.t 19),none⟩]) (
 .cond (.t 17) (
 .seq (
 .ops [⟨some 21,.mov (.t 0),none⟩,⟨some 22,.call (.c (.fn (f_lexer_float N) [] [])) [(.t 21)],none⟩,⟨some 20,.mov (.t 22),none⟩,⟨some 23,.extract (.t 20) 0,none⟩,⟨some 24,.extract (.t 20) 1,none⟩,⟨some 5,.mov (.t 23),none⟩,⟨some 6,.mov (.t 24),none⟩]) (
 .seq (
 .seq (
 .ops [⟨some 25,.mov (.t 6),none⟩,⟨some 26,.un .not (.t 25),none⟩]) (
 .cond (.t 26) (
 .seq (
 .ops [⟨some 27,.build [(.lit (.int .i64 0)),(.lit (.string (mkS []))),(.lit (.int .i64 0))] [],none⟩,⟨none,.store 3 (.t 2) (.t 27),none⟩,⟨some 3,.mov (.c (.lit (.int .i64 0))),none⟩]) (
 .ret)) (
 .skip))) (
 .seq (
 .ops [⟨some 28,.mov (.t 5),none⟩,⟨some 29,.build [(.lit (.int .i64 0)),(.lit (.string (mkS []))),(.lit (.int .i64 0))] [(0,1,(.c (.lit (.int .i64 5)))),(1,1,(.t 28))],none⟩,⟨some 30,.mov (.t 5),none⟩,⟨some 31,.lens (.t 30),none⟩,⟨none,.store 3 (.t 2) (.t 29),none⟩,⟨some 3,.mov (.t 31),none⟩]) (
 .ret)))) (
 .seq (
 .ops [⟨some 33,.mov (.t 4),none⟩,⟨some 34,.call (.c (.fn (f_lexer_low N) [] [])) [(.t 33)],none⟩,⟨some 32,.mov (.t 34),none⟩]) (
 .cond (.t 32) (
 .seq (
 .ops [⟨some 35,.mov (.t 0),none⟩,⟨some 36,.call (.c (.fn (f_lexer_run N) [] [])) [(.t 35),(.c (.fn (f_lexer_inName N) [] []))],none⟩,⟨some 7,.mov (.t 36),none⟩]) (
 .seq (
 .seq (
 .ops [⟨some 37,.mov (.t 0),none⟩,⟨some 38,.mov (.t 7),none⟩,⟨some 39,.slstr (.t 37) none (some (.t 38)),none⟩,⟨some 40,.call (.c (.fn (f_lexer_IsWord N) [] [])) [(.t 39)],none⟩]) (
 .cond (.t 40) (
 .seq (
 .ops [⟨some 41,.mov (.t 0),none⟩,⟨some 42,.mov (.t 7),none⟩,⟨some 43,.slstr (.t 41) none (some (.t 42)),none⟩,⟨some 44,.build [(.lit (.int .i64 0)),(.lit (.string (mkS []))),(.lit (.int .i64 0))] [(0,1,(.c (.lit (.int .i64 7)))),(1,1,(.t 43))],none⟩,⟨some 45,.mov (.t 7),none⟩,⟨none,.store 3 (.t 2) (.t 44),none⟩,⟨some 3,.mov (.t 45),none⟩]) (
 .ret)) (
 .skip))) (
 .seq (
 .ops [⟨some 46,.mov (.t 0),none⟩,⟨some 47,.mov (.t 7),none⟩,⟨some 48,.slstr (.t 46) none (some (.t 47)),none⟩,⟨some 49,.build [(.lit (.int .i64 0)),(.lit (.string (mkS []))),(.lit (.int .i64 0))] [(0,1,(.c (.lit (.int .i64 1)))),(1,1,(.t 48))],none⟩,⟨some 50,.mov (.t 7),none⟩,⟨none,.store 3 (.t 2) (.t 49),none⟩,⟨some 3,.mov (.t 50),none⟩]) (
 .ret)))) (
 .seq (
 .ops [⟨some 52,.mov (.t 4),none⟩,⟨some 53,.call (.c (.fn (f_lexer_high N) [] [])) [(.t 52)],none⟩,⟨some 51,.mov (.t 53),none⟩]) (
 .cond (.t 51) (
 .seq (
 .ops [⟨some 54,.mov (.t 0),none⟩,⟨some 55,.call (.c (.fn (f_lexer_run N) [] [])) [(.t 54),(.c (.fn (f_lexer_inAlias N) [] []))],none⟩,⟨some 8,.mov (.t 55),none⟩]) (
 .seq (
 .ops [⟨some 56,.mov (.t 0),none⟩,⟨some 57,.mov (.t 8),none⟩,⟨some 58,.slstr (.t 56) none (some (.t 57)),none⟩,⟨some 59,.build [(.lit (.int .i64 0)),(.lit (.string (mkS []))),(.lit (.int .i64 0))] [(0,1,(.c (.lit (.int .i64 2)))),(1,1,(.t 58))],none⟩,⟨some 60,.mov (.t 8),none⟩,⟨none,.store 3 (.t 2) (.t 59),none⟩,⟨some 3,.mov (.t 60),none⟩]) (
 .ret))) (
 .seq (
 .ops [⟨some 62,.mov (.t 4),none⟩,⟨some 63,.call (.c (.fn (f_lexer_digit N) [] [])) [(.t 62)],none⟩,⟨some 61,.mov (.t 63),none⟩]) (
 .cond (.t 61) (
 .seq (
 .ops [⟨some 64,.mov (.t 0),none⟩,⟨some 65,.call (.c (.fn (f_lexer_run N) [] [])) [(.t 64),(.c (.fn (f_lexer_digit N) [] []))],none⟩,⟨some 9,.mov (.t 65),none⟩]) (
 .seq (
 .seq (
 .ops [⟨some 66,.mov (.t 0),none⟩,⟨some 67,.mov (.t 9),none⟩,⟨some 68,.slstr (.t 66) none (some (.t 67)),none⟩,⟨some 69,.call (.c (.fn (f_lexer_number N) [] [])) [(.t 68)],none⟩,⟨some 70,.un .not (.t 69),none⟩]) (
 .cond (.t 70) (
 .seq (
 .ops [⟨some 71,.build [(.lit (.int .i64 0)),(.lit (.string (mkS []))),(.lit (.int .i64 0))] [],none⟩,⟨none,.store 3 (.t 2) (.t 71),none⟩,⟨some 3,.mov (.c (.lit (.int .i64 0))),none⟩]) (
 .ret)) (
 .skip))) (
 .seq (
 .ops [⟨some 72,.mov (.t 0),none⟩,⟨some 73,.mov (.t 9),none⟩,⟨some 74,.slstr (.t 72) none (some (.t 73)),none⟩,⟨some 75,.build [(.lit (.int .i64 0)),(.lit (.string (mkS []))),(.lit (.int .i64 0))] [(0,1,(.c (.lit (.int .i64 4)))),(1,1,(.t 74))],none⟩,⟨some 76,.mov (.t 9),none⟩,⟨none,.store 3 (.t 2) (.t 75),none⟩,⟨some 3,.mov (.t 76),none⟩]) (
 .ret)))) (
 .seq (
 .ops [⟨some 78,.mov (.t 4),none⟩,⟨some 79,.eq false .pint (.t 78) (.c (.lit (.int .u8 35))),none⟩,⟨some 80,.mov (.t 79),none⟩,⟨some 81,.mov (.t 0),(some (80,true))⟩,⟨some 82,.lens (.t 81),(some (80,true))⟩,⟨some 83,.bin .gtr (.t 82) (.c (.lit (.int .i64 1))),(some (80,true))⟩,⟨some 84,.pick (.t 80) (.t 83) (.c (.lit (.bool false))),none⟩,⟨some 85,.mov (.t 84),none⟩,⟨some 86,.mov (.t 0),(some (85,true))⟩,⟨some 87,.sidx (.t 86) (.c (.lit (.int .i64 1))),(some (85,true))⟩,⟨some 88,.call (.c (.fn (f_lexer_low N) [] [])) [(.t 87)],(some (85,true))⟩,⟨some 89,.pick (.t 85) (.t 88) (.c (.lit (.bool false))),none⟩,⟨some 77,.mov (.t 89),none⟩]) (
 .cond (.t 77) (
 .seq (
 .ops [⟨some 90,.mov (.t 0),none⟩,⟨some 91,.slstr (.t 90) (some (.c (.lit (.int .i64 1)))) none,none⟩,⟨some 92,.call (.c (.fn (f_lexer_run N) [] [])) [(.t 91),(.c (.fn (f_lexer_inName N) [] []))],none⟩,⟨some 93,.bin .add (.c (.lit (.int .i64 1))) (.t 92),none⟩,⟨some 10,.mov (.t 93),none⟩]) (
 .seq (
 .ops [⟨some 94,.mov (.t 0),none⟩,⟨some 95,.mov (.t 10),none⟩,⟨some 96,.slstr (.t 94) (some (.c (.lit (.int .i64 1)))) (some (.t 95)),none⟩,⟨some 97,.build [(.lit (.int .i64 0)),(.lit (.string (mkS []))),(.lit (.int .i64 0))] [(0,1,(.c (.lit (.int .i64 3)))),(1,1,(.t 96))],none⟩,⟨some 98,.mov (.t 10),none⟩,⟨none,.store 3 (.t 2) (.t 97),none⟩,⟨some 3,.mov (.t 98),none⟩]) (
 .ret))) (
 .seq (
 .ops [⟨some 100,.mov (.t 4),none⟩,⟨some 101,.eq false .pint (.t 100) (.c (.lit (.int .u8 34))),none⟩,⟨some 99,.mov (.t 101),none⟩]) (
 .cond (.t 99) (
 .seq (
 .ops [⟨some 103,.mov (.t 0),none⟩,⟨some 104,.slstr (.t 103) (some (.c (.lit (.int .i64 1)))) none,none⟩,⟨some 105,.call (.c (.fn (f_lexer_text N) [] [])) [(.t 104)],none⟩,⟨some 102,.mov (.t 105),none⟩,⟨some 106,.extract (.t 102) 0,none⟩,⟨some 107,.extract (.t 102) 1,none⟩,⟨some 11,.mov (.t 106),none⟩,⟨some 12,.mov (.t 107),none⟩]) (
 .seq (
 .seq (
 .ops [⟨some 108,.mov (.t 12),none⟩,⟨some 109,.bin .lss (.t 108) (.c (.lit (.int .i64 0))),none⟩]) (
 .cond (.t 109) (
 .seq (
 .ops [⟨some 110,.build [(.lit (.int .i64 0)),(.lit (.string (mkS []))),(.lit (.int .i64 0))] [],none⟩,⟨none,.store 3 (.t 2) (.t 110),none⟩,⟨some 3,.mov (.c (.lit (.int .i64 0))),none⟩]) (
 .ret)) (
 .skip))) (
 .seq (
 .ops [⟨some 111,.mov (.t 11),none⟩,⟨some 112,.build [(.lit (.int .i64 0)),(.lit (.string (mkS []))),(.lit (.int .i64 0))] [(0,1,(.c (.lit (.int .i64 6)))),(1,1,(.t 111))],none⟩,⟨some 113,.mov (.t 12),none⟩,⟨some 114,.bin .add (.t 113) (.c (.lit (.int .i64 1))),none⟩,⟨none,.store 3 (.t 2) (.t 112),none⟩,⟨some 3,.mov (.t 114),none⟩]) (
 .ret)))) (
 .skip)))))))))))))) (
 .seq (
 .seq (
 .ops [⟨some 115,.call (.c (.fn (f_lexer_signs N) [] [])) [],none⟩,⟨some 116,.len (.t 115),none⟩,⟨some 117,.mov (.c (.lit (.int .i64 0))),none⟩]) (
 .block 1 (
 .loop (L_lexer_one_1 N)))) (K_lexer_one_1 N)))),false⟩

def L_lexer_run_1 (N : Nat -> Nat) : AC :=
 .seq (
 .seq (
 .ops [⟨some 6,.mov (.t 5),none⟩,⟨some 7,.mov (.t 0),none⟩,⟨some 8,.lens (.t 7),none⟩,⟨some 9,.bin .lss (.t 6) (.t 8),none⟩,⟨some 10,.mov (.t 9),none⟩,⟨some 11,.mov (.t 1),(some (10,true))⟩,⟨some 12,.mov (.t 0),(some (10,true))⟩,⟨some 13,.mov (.t 5),(some (10,true))⟩,⟨some 14,.sidx (.t 12) (.t 13),(some (10,true))⟩,⟨some 15,.call (.t 11) [(.t 14)],(some (10,true))⟩,⟨some 16,.pick (.t 10) (.t 15) (.c (.lit (.bool false))),none⟩]) (
 .cond (.t 16) (
 .skip) (
 .exit 0))) (
 .block 1 (
 .ops [⟨some 17,.mov (.t 5),none⟩,⟨some 18,.bin .add (.t 17) (.c (.lit (.int .i64 1))),none⟩,⟨some 5,.mov (.t 18),none⟩]))
def K_lexer_run_1 (N : Nat -> Nat) : AC :=
 .seq (
 .ops [⟨some 19,.mov (.t 5),none⟩,⟨some 4,.mov (.t 19),none⟩]) (
 .ret)
def C_lexer_run (N : Nat -> Nat) : AFunc := ⟨20,[.inl 4],
 .seq (
 .ops [⟨some 4,.mov (.c (.lit (.int .i64 0))),none⟩]) (
 .seq (
 .ops [⟨some 5,.mov (.c (.lit (.int .i64 0))),none⟩]) (
 .seq (
 .block 0 (
 .loop (L_lexer_run_1 N))) (K_lexer_run_1 N))),false⟩

def C_lexer_signs (N : Nat -> Nat) : AFunc := ⟨2,[.inl 0],
 .seq (
 .ops [⟨some 0,.mov (.c (.lit (.slice none 0 0))),none⟩]) (
 .seq (
 .ops [⟨some 1,.bslice (t_string N) 1 none 27 [(.lit (.string (mkS [])))] [(0,1,(.c (.lit (.string (mkS [61,62]))))),(1,1,(.c (.lit (.string (mkS [45,62]))))),(2,1,(.c (.lit (.string (mkS [61,61]))))),(3,1,(.c (.lit (.string (mkS [46,46]))))),(4,1,(.c (.lit (.string (mkS [43,46]))))),(5,1,(.c (.lit (.string (mkS [45,46]))))),(6,1,(.c (.lit (.string (mkS [42,46]))))),(7,1,(.c (.lit (.string (mkS [47,46]))))),(8,1,(.c (.lit (.string (mkS [60,46]))))),(9,1,(.c (.lit (.string (mkS [40]))))),(10,1,(.c (.lit (.string (mkS [41]))))),(11,1,(.c (.lit (.string (mkS [123]))))),(12,1,(.c (.lit (.string (mkS [125]))))),(13,1,(.c (.lit (.string (mkS [91]))))),(14,1,(.c (.lit (.string (mkS [93]))))),(15,1,(.c (.lit (.string (mkS [44]))))),(16,1,(.c (.lit (.string (mkS [59]))))),(17,1,(.c (.lit (.string (mkS [58]))))),(18,1,(.c (.lit (.string (mkS [46]))))),(19,1,(.c (.lit (.string (mkS [61]))))),(20,1,(.c (.lit (.string (mkS [124]))))),(21,1,(.c (.lit (.string (mkS [43]))))),(22,1,(.c (.lit (.string (mkS [45]))))),(23,1,(.c (.lit (.string (mkS [42]))))),(24,1,(.c (.lit (.string (mkS [47]))))),(25,1,(.c (.lit (.string (mkS [60]))))),(26,1,(.c (.lit (.string (mkS [94])))))],none⟩,⟨some 0,.mov (.t 1),none⟩]) (
 .ret)),true⟩

def L_lexer_text_1 (N : Nat -> Nat) : AC :=
 .seq (
 .seq (
 .ops [⟨some 8,.mov (.t 5),none⟩,⟨some 9,.mov (.t 0),none⟩,⟨some 10,.lens (.t 9),none⟩,⟨some 11,.bin .lss (.t 8) (.t 10),none⟩]) (
 .cond (.t 11) (
 .skip) (
 .exit 0))) (
 .seq (
 .block 1 (
 .seq (
 .ops [⟨some 14,.mov (.t 0),none⟩,⟨some 15,.mov (.t 5),none⟩,⟨some 16,.sidx (.t 14) (.t 15),none⟩,⟨some 6,.mov (.t 16),none⟩]) (
 .block 2 (
 .seq (
 .ops [⟨some 35,.mov (.t 6),none⟩,⟨some 36,.eq false .pint (.t 35) (.c (.lit (.int .u8 34))),none⟩,⟨some 34,.mov (.t 36),none⟩]) (
 .cond (.t 34) (
 .seq (
 .ops [⟨some 37,.mov (.t 4),none⟩,⟨some 38,.conv .str (.t 37),none⟩,⟨some 39,.mov (.t 5),none⟩,⟨some 40,.bin .add (.t 39) (.c (.lit (.int .i64 1))),none⟩,⟨some 2,.mov (.t 38),none⟩,⟨some 3,.mov (.t 40),none⟩]) (
 .ret)) (
 .seq (
 .ops [⟨some 42,.mov (.t 6),none⟩,⟨some 43,.bin .lss (.t 42) (.c (.lit (.int .u8 32))),none⟩,⟨some 41,.mov (.t 43),none⟩]) (
 .cond (.t 41) (
 .seq (
 .ops [⟨some 2,.mov (.c (.lit (.string (mkS [])))),none⟩,⟨some 3,.mov (.c (.lit (.int .i64 (-1)))),none⟩]) (
 .ret)) (
 .seq (
 .ops [⟨some 45,.mov (.t 6),none⟩,⟨some 46,.eq true .pint (.t 45) (.c (.lit (.int .u8 92))),none⟩,⟨some 44,.mov (.t 46),none⟩]) (
 .cond (.t 44) (
 .ops [⟨some 47,.mov (.t 4),none⟩,⟨some 48,.mov (.t 6),none⟩,⟨some 49,.bslice (t_uint8 N) 1 none 1 [(.lit (.int .u8 0))] [(0,1,(.t 48))],none⟩,⟨some 50,.append (t_uint8 N) 1 1 (.t 47) (.t 49),none⟩,⟨some 4,.mov (.t 50),none⟩]) (
 .seq (
 .ops [⟨some 17,.mov (.t 5),none⟩,⟨some 18,.bin .add (.t 17) (.c (.lit (.int .i64 1))),none⟩,⟨some 5,.mov (.t 18),none⟩]) (
 .seq (
 .ops [⟨some 7,.mov (.c (.lit (.int .i64 (-1)))),none⟩]) (
 .seq (
 .seq (
 .ops [⟨some 19,.mov (.t 5),none⟩,⟨some 20,.mov (.t 0),none⟩,⟨some 21,.lens (.t 20),none⟩,⟨some 22,.bin .lss (.t 19) (.t 21),none⟩]) (
 .cond (.t 22) (
 .ops [⟨some 23,.mov (.t 0),none⟩,⟨some 24,.mov (.t 5),none⟩,⟨some 25,.sidx (.t 23) (.t 24),none⟩,⟨some 26,.call (.c (.fn (f_strings_IndexByte N) [] [])) [(.c (.lit (.string (mkS [34,92,110])))),(.t 25)],none⟩,⟨some 7,.mov (.t 26),none⟩]) (
 .skip))) (
 .seq (
 .seq (
 .ops [⟨some 27,.mov (.t 7),none⟩,⟨some 28,.bin .lss (.t 27) (.c (.lit (.int .i64 0))),none⟩]) (
 .cond (.t 28) (
 .seq (
 .ops [⟨some 2,.mov (.c (.lit (.string (mkS [])))),none⟩,⟨some 3,.mov (.c (.lit (.int .i64 (-1)))),none⟩]) (
 .ret)) (
 .skip))) (
 .ops [⟨some 29,.mov (.t 4),none⟩,⟨some 30,.mov (.t 7),none⟩,⟨some 31,.sidx (.c (.lit (.string (mkS [34,92,10])))) (.t 30),none⟩,⟨some 32,.bslice (t_uint8 N) 1 none 1 [(.lit (.int .u8 0))] [(0,1,(.t 31))],none⟩,⟨some 33,.append (t_uint8 N) 1 1 (.t 29) (.t 32),none⟩,⟨some 4,.mov (.t 33),none⟩])))))))))))))) (
 .ops [⟨some 12,.mov (.t 5),none⟩,⟨some 13,.bin .add (.t 12) (.c (.lit (.int .i64 1))),none⟩,⟨some 5,.mov (.t 13),none⟩]))
def K_lexer_text_1 (N : Nat -> Nat) : AC :=
 .seq (
 .ops [⟨some 2,.mov (.c (.lit (.string (mkS [])))),none⟩,⟨some 3,.mov (.c (.lit (.int .i64 (-1)))),none⟩]) (
 .ret)
def C_lexer_text (N : Nat -> Nat) : AFunc := ⟨51,[.inl 2,.inl 3],
 .seq (
 .ops [⟨some 2,.mov (.c (.lit (.string (mkS [])))),none⟩,⟨some 3,.mov (.c (.lit (.int .i64 0))),none⟩]) (
 .seq (
 .ops [⟨some 4,.mov (.c (.lit (.slice none 0 0))),none⟩]) (
 .seq (
 .seq (
 .ops [⟨some 5,.mov (.c (.lit (.int .i64 0))),none⟩]) (
 .block 0 (
 .loop (L_lexer_text_1 N)))) (K_lexer_text_1 N))),false⟩

def C_lexer_words (N : Nat -> Nat) : AFunc := ⟨2,[.inl 0],
 .seq (
 .ops [⟨some 0,.mov (.c (.lit (.slice none 0 0))),none⟩]) (
 .seq (
 .ops [⟨some 1,.bslice (t_string N) 1 none 20 [(.lit (.string (mkS [])))] [(0,1,(.c (.lit (.string (mkS [102,117,110]))))),(1,1,(.c (.lit (.string (mkS [108,101,116]))))),(2,1,(.c (.lit (.string (mkS [114,101,99]))))),(3,1,(.c (.lit (.string (mkS [105,110]))))),(4,1,(.c (.lit (.string (mkS [105,102]))))),(5,1,(.c (.lit (.string (mkS [116,104,101,110]))))),(6,1,(.c (.lit (.string (mkS [101,108,115,101]))))),(7,1,(.c (.lit (.string (mkS [99,97,115,101]))))),(8,1,(.c (.lit (.string (mkS [111,102]))))),(9,1,(.c (.lit (.string (mkS [101,110,100]))))),(10,1,(.c (.lit (.string (mkS [116,114,117,101]))))),(11,1,(.c (.lit (.string (mkS [102,97,108,115,101]))))),(12,1,(.c (.lit (.string (mkS [105,110,116]))))),(13,1,(.c (.lit (.string (mkS [98,111,111,108]))))),(14,1,(.c (.lit (.string (mkS [115,116,114]))))),(15,1,(.c (.lit (.string (mkS [102,108,111,97,116]))))),(16,1,(.c (.lit (.string (mkS [100,121,110]))))),(17,1,(.c (.lit (.string (mkS [97,110,121]))))),(18,1,(.c (.lit (.string (mkS [110,111,110,101]))))),(19,1,(.c (.lit (.string (mkS [116,121,112,101])))))],none⟩,⟨some 0,.mov (.t 1),none⟩]) (
 .ret)),true⟩

def C_internal_stringslite_CutPrefix (N : Nat -> Nat) : AFunc := ⟨15,[.inl 4,.inl 5],
 .seq (
 .ops [⟨some 4,.mov (.c (.lit (.string (mkS [])))),none⟩,⟨some 5,.mov (.c (.lit (.bool false))),none⟩]) (
 .seq (
 .seq (
 .ops [⟨some 6,.mov (.t 0),none⟩,⟨some 7,.mov (.t 1),none⟩,⟨some 8,.call (.c (.fn (f_internal_stringslite_HasPrefix N) [] [])) [(.t 6),(.t 7)],none⟩,⟨some 9,.un .not (.t 8),none⟩]) (
 .cond (.t 9) (
 .seq (
 .ops [⟨some 10,.mov (.t 0),none⟩,⟨some 4,.mov (.t 10),none⟩,⟨some 5,.mov (.c (.lit (.bool false))),none⟩]) (
 .ret)) (
 .skip))) (
 .seq (
 .ops [⟨some 11,.mov (.t 0),none⟩,⟨some 12,.mov (.t 1),none⟩,⟨some 13,.lens (.t 12),none⟩,⟨some 14,.slstr (.t 11) (some (.t 13)) none,none⟩,⟨some 4,.mov (.t 14),none⟩,⟨some 5,.mov (.c (.lit (.bool true))),none⟩]) (
 .ret))),false⟩

def C_internal_stringslite_HasPrefix (N : Nat -> Nat) : AFunc := ⟨18,[.inl 4],
 .seq (
 .ops [⟨some 4,.mov (.c (.lit (.bool false))),none⟩]) (
 .seq (
 .ops [⟨some 5,.mov (.t 0),none⟩,⟨some 6,.lens (.t 5),none⟩,⟨some 7,.mov (.t 1),none⟩,⟨some 8,.lens (.t 7),none⟩,⟨some 9,.bin .geq (.t 6) (.t 8),none⟩,⟨some 10,.mov (.t 9),none⟩,⟨some 11,.mov (.t 0),(some (10,true))⟩,⟨some 12,.mov (.t 1),(some (10,true))⟩,⟨some 13,.lens (.t 12),(some (10,true))⟩,⟨some 14,.slstr (.t 11) none (some (.t 13)),(some (10,true))⟩,⟨some 15,.mov (.t 1),(some (10,true))⟩,⟨some 16,.eq false .pstr (.t 14) (.t 15),(some (10,true))⟩,⟨some 17,.pick (.t 10) (.t 16) (.c (.lit (.bool false))),none⟩,⟨some 4,.mov (.t 17),none⟩]) (
 .ret)),false⟩

def C_internal_stringslite_IndexByte (N : Nat -> Nat) : AFunc := ⟨8,[.inl 4],
 .seq (
 .ops [⟨some 4,.mov (.c (.lit (.int .i64 0))),none⟩]) (
 .seq (
 .ops [⟨some 5,.mov (.t 0),none⟩,⟨some 6,.mov (.t 1),none⟩,⟨some 7,.call (.c (.fn (f_internal_bytealg_IndexByteString N) [] [])) [(.t 5),(.t 6)],none⟩,⟨some 4,.mov (.t 7),none⟩]) (
 .ret)),false⟩

def C_slices_Contains_sl_string_string (N : Nat -> Nat) : AFunc := ⟨9,[.inl 4],
 .seq (
 .ops [⟨some 4,.mov (.c (.lit (.bool false))),none⟩]) (
 .seq (
 .ops [⟨some 5,.mov (.t 0),none⟩,⟨some 6,.mov (.t 1),none⟩,⟨some 7,.call (.c (.fn (f_slices_Index_sl_string_string N) [] [])) [(.t 5),(.t 6)],none⟩,⟨some 8,.bin .geq (.t 7) (.c (.lit (.int .i64 0))),none⟩,⟨some 4,.mov (.t 8),none⟩]) (
 .ret)),false⟩

def L_slices_Index_sl_string_string_1 (N : Nat -> Nat) : AC :=
 .seq (
 .ops [⟨some 9,.bin .lss (.t 8) (.t 7),none⟩]) (
 .seq (
 .cond (.t 9) (
 .skip) (
 .exit 0)) (
 .seq (
 .block 1 (
 .seq (
 .ops [⟨some 10,.mov (.t 8),none⟩,⟨some 5,.mov (.t 10),none⟩]) (
 .seq (
 .ops [⟨some 11,.mov (.t 1),none⟩,⟨some 12,.mov (.t 0),none⟩,⟨some 13,.mov (.t 5),none⟩,⟨some 14,.iaddr 1 (.t 12) (.t 13),none⟩,⟨some 15,.load none (.t 14),none⟩,⟨some 16,.eq false .pstr (.t 11) (.t 15),none⟩]) (
 .cond (.t 16) (
 .seq (
 .ops [⟨some 17,.mov (.t 5),none⟩,⟨some 4,.mov (.t 17),none⟩]) (
 .ret)) (
 .skip))))) (
 .ops [⟨some 18,.bin .add (.t 8) (.c (.lit (.int .i64 1))),none⟩,⟨some 8,.mov (.t 18),none⟩])))
def K_slices_Index_sl_string_string_1 (N : Nat -> Nat) : AC :=
 .seq (
 .ops [⟨some 4,.mov (.c (.lit (.int .i64 (-1)))),none⟩]) (
 .ret)
def C_slices_Index_sl_string_string (N : Nat -> Nat) : AFunc := ⟨19,[.inl 4],
 .seq (
 .ops [⟨some 4,.mov (.c (.lit (.int .i64 0))),none⟩]) (
 .seq (
 .seq (
 .ops [⟨some 6,.mov (.t 0),none⟩,⟨some 7,.len (.t 6),none⟩,⟨some 8,.mov (.c (.lit (.int .i64 0))),none⟩]) (
 .block 0 (
 .loop (L_slices_Index_sl_string_string_1 N)))) (K_slices_Index_sl_string_string_1 N)),false⟩

def C_strings_CutPrefix (N : Nat -> Nat) : AFunc := ⟨11,[.inl 4,.inl 5],
 .seq (
 .ops [⟨some 4,.mov (.c (.lit (.string (mkS [])))),none⟩,⟨some 5,.mov (.c (.lit (.bool false))),none⟩]) (
 .seq (
 .ops [⟨some 6,.mov (.t 0),none⟩,⟨some 7,.mov (.t 1),none⟩,⟨some 8,.call (.c (.fn (f_internal_stringslite_CutPrefix N) [] [])) [(.t 6),(.t 7)],none⟩,⟨some 9,.extract (.t 8) 0,none⟩,⟨some 10,.extract (.t 8) 1,none⟩,⟨some 4,.mov (.t 9),none⟩,⟨some 5,.mov (.t 10),none⟩]) (
 .ret)),false⟩

def C_strings_HasPrefix (N : Nat -> Nat) : AFunc := ⟨8,[.inl 4],
 .seq (
 .ops [⟨some 4,.mov (.c (.lit (.bool false))),none⟩]) (
 .seq (
 .ops [⟨some 5,.mov (.t 0),none⟩,⟨some 6,.mov (.t 1),none⟩,⟨some 7,.call (.c (.fn (f_internal_stringslite_HasPrefix N) [] [])) [(.t 5),(.t 6)],none⟩,⟨some 4,.mov (.t 7),none⟩]) (
 .ret)),false⟩

def C_strings_IndexByte (N : Nat -> Nat) : AFunc := ⟨8,[.inl 4],
 .seq (
 .ops [⟨some 4,.mov (.c (.lit (.int .i64 0))),none⟩]) (
 .seq (
 .ops [⟨some 5,.mov (.t 0),none⟩,⟨some 6,.mov (.t 1),none⟩,⟨some 7,.call (.c (.fn (f_internal_stringslite_IndexByte N) [] [])) [(.t 5),(.t 6)],none⟩,⟨some 4,.mov (.t 7),none⟩]) (
 .ret)),false⟩
end Go.Proofs.Eng
set_option linter.unusedSimpArgs false
namespace Go.Proofs.Eng
open Go
section
variable {Γ : Sums} {A : Tab} {N : Nat -> Nat}

@[simp] theorem resR_inr_inl {t u : Nat} {l : Option Nat} {ρ : Rho} {H : Hp} : resR [.inr (t,l),.inl u] ρ H = (aload H l (ρ t)).map fun a => .tup [a,ρ u] := by
 simp [resR,resOneR,List.mapM_cons]
 cases aload H l (ρ t) <;> rfl
@[simp] theorem resR_inl_inr {t u : Nat} {m : Option Nat} {ρ : Rho} {H : Hp} : resR [.inl t,.inr (u,m)] ρ H = (aload H m (ρ u)).map fun b => .tup [ρ t,b] := by
 simp [resR,resOneR,List.mapM_cons]
 cases aload H m (ρ u) <;> rfl
@[simp] theorem loadC3 {a b c : AV} : loadC (some 3) [a,b,c] = some (.agg [a,b,c]) := by simp [loadC]
theorem settle_cell {H : Hp} {o o2 : AObj} {v : AV} (hu : v.under H.l.length = true) : settle H v (hset (halloc { l := H.l,d := none } o) H.l.length (some o2)) = (v,none) :=
 settle_keeps ((((Loc.start H).alloc o).set o2).keeps) hu
@[simp] theorem abin_geqB {c : UInt8} {n : Int} : abin .geq (avByte c) (.lit (.int .u8 n)) = some (avBool (decide (n <= c.toNat))) := by simp [avByte]
@[simp] theorem abin_leqB {c : UInt8} {n : Int} : abin .leq (avByte c) (.lit (.int .u8 n)) = some (avBool (decide ((c.toNat : Int) <= n))) := by simp [avByte]
@[simp] theorem abin_lssB {c : UInt8} {n : Int} : abin .lss (avByte c) (.lit (.int .u8 n)) = some (avBool (decide ((c.toNat : Int) < n))) := by simp [avByte]
@[simp] theorem abin_gtrB {c : UInt8} {n : Int} : abin .gtr (avByte c) (.lit (.int .u8 n)) = some (avBool (decide (n < (c.toNat : Int)))) := by simp [avByte]
@[simp] theorem aeq_byte {c : UInt8} {n : Int} : aeq .pint (avByte c) (.lit (.int .u8 n)) = some (decide ((c.toNat : Int) = n)) := by simp [avByte]
theorem asidx_str {k : IntKind} {s : List UInt8} {i : Int} (h0 : 0 <= i) (h : i.toNat < s.length) : asidx (avStr s) (.lit (.int k i)) = some (avByte s[i.toNat]) := by
 simp [asidx,h0,List.getElem?_eq_getElem h,avByte]
theorem asidx_nat {k : IntKind} {s : List UInt8} {i : Nat} (h : i < s.length) : asidx (avStr s) (.lit (.int k i)) = some (avByte s[i]) := by
 have := asidx_str (k := k) (s := s) (i := (i : Int)) (by omega) (by simpa using h)
 simpa using this
theorem aslstr_from {k : IntKind} {s : List UInt8} {i : Int} (h0 : 0 <= i) (h : i.toNat <= s.length) : aslstr (avStr s) (some (.lit (.int k i))) none = some (avStr (s.drop i.toNat)) := by
 have h1 : i <= (s.length : Int) := by omega
 simp [aslstr,aBound,h0,h1]
 rw [List.take_of_length_le (by simp)]
theorem aslstr_upto {k : IntKind} {s : List UInt8} {j : Int} (h0 : 0 <= j) (h : j.toNat <= s.length) : aslstr (avStr s) none (some (.lit (.int k j))) = some (avStr (s.take j.toNat)) := by
 have h1 : j <= (s.length : Int) := by omega
 simp [aslstr,aBound,h0,h1]
theorem aslstr_cut {k k' : IntKind} {s : List UInt8} {i j : Int} (h0 : 0 <= i) (h1 : i <= j) (h : j.toNat <= s.length) : aslstr (avStr s) (some (.lit (.int k i))) (some (.lit (.int k' j))) = some (avStr ((s.drop i.toNat).take (j.toNat - i.toNat))) := by
 have h2 : i <= max j 0 := by omega
 have h3 : 0 <= j := by omega
 have h4 : j <= (s.length : Int) := by omega
 simp [aslstr,aBound,h0,h2,h3,h4]

theorem settleZ_ra {H H1 : Hp} {es : List AV} {t : TypeId} {m : Nat} (h1 : H1 = halloc { l := H.l,d := none } (.arr 1 es t)) (hm : m = es.length) (hl : ∀ x ∈ es,∃ v,x = .lit v) :
  settleZ true H (.ra 1 H.l.length 0 m) H1 = (.sl 1 es,none) := by
 subst h1; subst hm
 apply settleZ_frz
 ·simp [keeps]
 ·rw [frz_ra (es := es) (t := t) (by simp) (by simp) (by simp),List.drop_zero,List.take_length,frz_lits hl]
  rfl

structure Strs (Γ : Sums) (A : Tab) (N : Nat -> Nat) : Prop where
 has : Has Γ A (f_strings_HasPrefix N) (C_strings_HasPrefix N)
 has' : Has Γ A (f_internal_stringslite_HasPrefix N) (C_internal_stringslite_HasPrefix N)

theorem slite_HasPrefix_call (h : Has Γ A (f_internal_stringslite_HasPrefix N) (C_internal_stringslite_HasPrefix N)) (s t : List UInt8) (H : Hp) :
  (lim Γ A).call (f_internal_stringslite_HasPrefix N) [avStr s,avStr t] H = some (avBool (t.isPrefixOf s),none) := by
 apply h.call (by rfl)
 by_cases hl : t.length <= s.length
 ·have hl' : (t.length : Int) <= s.length := by omega
  have e := aslstr_upto (k := .i64) (s := s) (j := (t.length : Int)) (by omega) (by simpa using hl)
  simp only [Int.toNat_natCast] at e
  by_cases he : s.take t.length = t
  ·have hp : t.isPrefixOf s = true := by rw [List.isPrefixOf_iff_prefix,List.prefix_iff_eq_take]; exact he.symm
   simp [C_internal_stringslite_HasPrefix,hl',hl,e,he,hp]
  ·have hp : t.isPrefixOf s = false := by
    rw [Bool.eq_false_iff]
    intro hp
    rw [List.isPrefixOf_iff_prefix,List.prefix_iff_eq_take] at hp
    exact he hp.symm
   simp [C_internal_stringslite_HasPrefix,hl',hl,e,he,hp]
 ·have hl' : ¬ (t.length : Int) <= s.length := by omega
  have hp : t.isPrefixOf s = false := by
   rw [Bool.eq_false_iff]
   intro hp
   exact hl (List.isPrefixOf_iff_prefix.1 hp).length_le
  simp [C_internal_stringslite_HasPrefix,hl',hl,hp]
theorem HasPrefix_call (h : Strs Γ A N) (s t : List UInt8) (H : Hp) : (lim Γ A).call (f_strings_HasPrefix N) [avStr s,avStr t] H = some (avBool (t.isPrefixOf s),none) := by
 apply h.has.call (by rfl)
 simp [C_strings_HasPrefix,slite_HasPrefix_call h.has']
end
end Go.Proofs.Eng
namespace Go.Proofs.Eng
open Go

def C_ref01_Encode (N : Nat -> Nat) : AFunc := ⟨69,[.inl 2,.inl 3],
 .seq (
 .ops [⟨some 2,.mov (.c (.lit (.slice none 0 0))),none⟩,⟨some 3,.mov (.c (.lit (.bool false))),none⟩]) (
 .seq (
 .seq (
 .ops [⟨some 4,.mov (.t 0),none⟩,⟨some 5,.bin .lss (.t 4) (.c (.lit (.int .i64 0))),none⟩,⟨some 6,.mov (.t 5),none⟩,⟨some 7,.mov (.t 0),(some (6,false))⟩,⟨some 8,.bin .gtr (.t 7) (.c (.lit (.int .i64 1114111))),(some (6,false))⟩,⟨some 9,.pick (.t 6) (.c (.lit (.bool true))) (.t 8),none⟩,⟨some 10,.mov (.t 9),none⟩,⟨some 11,.mov (.t 0),(some (10,false))⟩,⟨some 12,.bin .geq (.t 11) (.c (.lit (.int .i64 55296))),(some (10,false))⟩,⟨some 13,.mov (.t 12),(some (10,false))⟩,⟨some 14,.mov (.t 0),(some (13,true))⟩,⟨some 15,.bin .leq (.t 14) (.c (.lit (.int .i64 57343))),(some (13,true))⟩,⟨some 16,.pick (.t 13) (.t 15) (.c (.lit (.bool false))),(some (10,false))⟩,⟨some 17,.pick (.t 10) (.c (.lit (.bool true))) (.t 16),none⟩]) (
 .cond (.t 17) (
 .seq (
 .ops [⟨some 2,.mov (.c (.lit (.slice none 0 0))),none⟩,⟨some 3,.mov (.c (.lit (.bool false))),none⟩]) (
 .ret)) (
 .skip))) (
 .seq (
 .seq (
 .ops [⟨some 18,.mov (.t 0),none⟩,⟨some 19,.bin .lss (.t 18) (.c (.lit (.int .i64 128))),none⟩]) (
 .cond (.t 19) (
 .seq (
 .ops [⟨some 20,.mov (.t 0),none⟩,⟨some 21,.conv (.toInt .u8) (.t 20),none⟩,⟨some 22,.bslice (t_uint8 N) 1 none 1 [(.lit (.int .u8 0))] [(0,1,(.t 21))],none⟩,⟨some 2,.mov (.t 22),none⟩,⟨some 3,.mov (.c (.lit (.bool true))),none⟩]) (
 .ret)) (
 .skip))) (
 .seq (
 .seq (
 .ops [⟨some 23,.mov (.t 0),none⟩,⟨some 24,.bin .lss (.t 23) (.c (.lit (.int .i64 2048))),none⟩]) (
 .cond (.t 24) (
 .seq (
 .ops [⟨some 25,.mov (.t 0),none⟩,⟨some 26,.bin .quo (.t 25) (.c (.lit (.int .i64 64))),none⟩,⟨some 27,.bin .add (.c (.lit (.int .i64 192))) (.t 26),none⟩,⟨some 28,.conv (.toInt .u8) (.t 27),none⟩,⟨some 29,.mov (.t 0),none⟩,⟨some 30,.bin .rem (.t 29) (.c (.lit (.int .i64 64))),none⟩,⟨some 31,.bin .add (.c (.lit (.int .i64 128))) (.t 30),none⟩,⟨some 32,.conv (.toInt .u8) (.t 31),none⟩,⟨some 33,.bslice (t_uint8 N) 1 none 2 [(.lit (.int .u8 0))] [(0,1,(.t 28)),(1,1,(.t 32))],none⟩,⟨some 2,.mov (.t 33),none⟩,⟨some 3,.mov (.c (.lit (.bool true))),none⟩]) (
 .ret)) (
 .skip))) (
 .seq (
 .seq (
 .ops [⟨some 34,.mov (.t 0),none⟩,⟨some 35,.bin .lss (.t 34) (.c (.lit (.int .i64 65536))),none⟩]) (
 .cond (.t 35) (
 .seq (
 .ops [⟨some 36,.mov (.t 0),none⟩,⟨some 37,.bin .quo (.t 36) (.c (.lit (.int .i64 4096))),none⟩,⟨some 38,.bin .add (.c (.lit (.int .i64 224))) (.t 37),none⟩,⟨some 39,.conv (.toInt .u8) (.t 38),none⟩,⟨some 40,.mov (.t 0),none⟩,⟨some 41,.bin .quo (.t 40) (.c (.lit (.int .i64 64))),none⟩,⟨some 42,.bin .rem (.t 41) (.c (.lit (.int .i64 64))),none⟩,⟨some 43,.bin .add (.c (.lit (.int .i64 128))) (.t 42),none⟩,⟨some 44,.conv (.toInt .u8) (.t 43),none⟩,⟨some 45,.mov (.t 0),none⟩,⟨some 46,.bin .rem (.t 45) (.c (.lit (.int .i64 64))),none⟩,⟨some 47,.bin .add (.c (.lit (.int .i64 128))) (.t 46),none⟩,⟨some 48,.conv (.toInt .u8) (.t 47),none⟩,⟨some 49,.bslice (t_uint8 N) 1 none 3 [(.lit (.int .u8 0))] [(0,1,(.t 39)),(1,1,(.t 44)),(2,1,(.t 48))],none⟩,⟨some 2,.mov (.t 49),none⟩,⟨some 3,.mov (.c (.lit (.bool true))),none⟩]) (
 .ret)) (
 .skip))) (
 .seq (
 .ops [⟨some 50,.mov (.t 0),none⟩,⟨some 51,.bin .quo (.t 50) (.c (.lit (.int .i64 262144))),none⟩,⟨some 52,.bin .add (.c (.lit (.int .i64 240))) (.t 51),none⟩,⟨some 53,.conv (.toInt .u8) (.t 52),none⟩,⟨some 54,.mov (.t 0),none⟩,⟨some 55,.bin .quo (.t 54) (.c (.lit (.int .i64 4096))),none⟩,⟨some 56,.bin .rem (.t 55) (.c (.lit (.int .i64 64))),none⟩,⟨some 57,.bin .add (.c (.lit (.int .i64 128))) (.t 56),none⟩,⟨some 58,.conv (.toInt .u8) (.t 57),none⟩,⟨some 59,.mov (.t 0),none⟩,⟨some 60,.bin .quo (.t 59) (.c (.lit (.int .i64 64))),none⟩,⟨some 61,.bin .rem (.t 60) (.c (.lit (.int .i64 64))),none⟩,⟨some 62,.bin .add (.c (.lit (.int .i64 128))) (.t 61),none⟩,⟨some 63,.conv (.toInt .u8) (.t 62),none⟩,⟨some 64,.mov (.t 0),none⟩,⟨some 65,.bin .rem (.t 64) (.c (.lit (.int .i64 64))),none⟩,⟨some 66,.bin .add (.c (.lit (.int .i64 128))) (.t 65),none⟩,⟨some 67,.conv (.toInt .u8) (.t 66),none⟩,⟨some 68,.bslice (t_uint8 N) 1 none 4 [(.lit (.int .u8 0))] [(0,1,(.t 53)),(1,1,(.t 58)),(2,1,(.t 63)),(3,1,(.t 67))],none⟩,⟨some 2,.mov (.t 68),none⟩,⟨some 3,.mov (.c (.lit (.bool true))),none⟩]) (
 .ret)))))),true⟩

def L_ref01_First_1 (N : Nat -> Nat) : AC :=
 .seq (
 .seq (
 .ops [⟨some 8,.mov (.t 4),none⟩,⟨some 9,.bin .leq (.t 8) (.c (.lit (.int .i64 4))),none⟩,⟨some 10,.mov (.t 9),none⟩,⟨some 11,.mov (.t 4),(some (10,true))⟩,⟨some 12,.mov (.t 0),(some (10,true))⟩,⟨some 13,.len (.t 12),(some (10,true))⟩,⟨some 14,.bin .leq (.t 11) (.t 13),(some (10,true))⟩,⟨some 15,.pick (.t 10) (.t 14) (.c (.lit (.bool false))),none⟩]) (
 .cond (.t 15) (
 .skip) (
 .exit 0))) (
 .seq (
 .block 1 (
 .seq (
 .ops [⟨some 18,.mov (.t 0),none⟩,⟨some 19,.mov (.t 4),none⟩,⟨some 20,.slice 1 (.t 18) none (some (.t 19)),none⟩,⟨some 21,.call (.c (.fn (f_ref01_value N) [] [])) [(.t 20)],none⟩,⟨some 5,.mov (.t 21),none⟩]) (
 .seq (
 .ops [⟨some 23,.mov (.t 5),none⟩,⟨some 24,.call (.c (.fn (f_ref01_Encode N) [] [])) [(.t 23)],none⟩,⟨some 22,.mov (.t 24),none⟩,⟨some 25,.extract (.t 22) 0,none⟩,⟨some 26,.extract (.t 22) 1,none⟩,⟨some 6,.mov (.t 25),none⟩,⟨some 7,.mov (.t 26),none⟩]) (
 .seq (
 .dops 6 [⟨some 27,.mov (.t 7),none⟩,⟨some 28,.mov (.t 27),none⟩,⟨some 29,.mov (.t 6),(some (28,true))⟩,⟨some 30,.conv .str (.t 29),(some (28,true))⟩,⟨some 31,.mov (.t 0),(some (28,true))⟩,⟨some 32,.mov (.t 4),(some (28,true))⟩,⟨some 33,.slice 1 (.t 31) none (some (.t 32)),(some (28,true))⟩,⟨some 34,.conv .str (.t 33),(some (28,true))⟩,⟨some 35,.eq false .pstr (.t 30) (.t 34),(some (28,true))⟩,⟨some 36,.pick (.t 28) (.t 35) (.c (.lit (.bool false))),none⟩] [0,0,0,2,0,0,0,2,0,0] []) (
 .cond (.t 36) (
 .seq (
 .ops [⟨some 37,.mov (.t 5),none⟩,⟨some 38,.mov (.t 4),none⟩,⟨some 2,.mov (.t 37),none⟩,⟨some 3,.mov (.t 38),none⟩]) (
 .ret)) (
 .skip)))))) (
 .ops [⟨some 16,.mov (.t 4),none⟩,⟨some 17,.bin .add (.t 16) (.c (.lit (.int .i64 1))),none⟩,⟨some 4,.mov (.t 17),none⟩]))
def K_ref01_First_1 (N : Nat -> Nat) : AC :=
 .seq (
 .ops [⟨some 2,.mov (.c (.lit (.int .i64 0))),none⟩,⟨some 3,.mov (.c (.lit (.int .i64 0))),none⟩]) (
 .ret)
def C_ref01_First (N : Nat -> Nat) : AFunc := ⟨39,[.inl 2,.inl 3],
 .seq (
 .ops [⟨some 2,.mov (.c (.lit (.int .i64 0))),none⟩,⟨some 3,.mov (.c (.lit (.int .i64 0))),none⟩]) (
 .seq (
 .seq (
 .ops [⟨some 4,.mov (.c (.lit (.int .i64 1))),none⟩]) (
 .block 0 (
 .loop (L_ref01_First_1 N)))) (K_ref01_First_1 N)),false⟩

def L_ref01_Signs_1 (N : Nat -> Nat) : AC :=
 .seq (
 .seq (
 .ops [⟨some 12,.mov (.t 7),none⟩,⟨some 13,.mov (.t 0),none⟩,⟨some 14,.len (.t 13),none⟩,⟨some 15,.bin .lss (.t 12) (.t 14),none⟩]) (
 .cond (.t 15) (
 .skip) (
 .exit 0))) (
 .block 1 (
 .seq (
 .ops [⟨some 17,.mov (.t 0),none⟩,⟨some 18,.mov (.t 7),none⟩,⟨some 19,.slice 1 (.t 17) (some (.t 18)) none,none⟩,⟨some 20,.call (.c (.fn (f_ref01_First N) [] [])) [(.t 19)],none⟩,⟨some 16,.mov (.t 20),none⟩,⟨some 21,.extract (.t 16) 0,none⟩,⟨some 22,.extract (.t 16) 1,none⟩,⟨some 8,.mov (.t 21),none⟩,⟨some 9,.mov (.t 22),none⟩]) (
 .seq (
 .seq (
 .ops [⟨some 23,.mov (.t 9),none⟩,⟨some 24,.eq false .pint (.t 23) (.c (.lit (.int .i64 0))),none⟩]) (
 .cond (.t 24) (
 .exit 0) (
 .skip))) (
 .seq (
 .ops [⟨some 25,.mov (.t 5),none⟩,⟨some 26,.mov (.t 7),none⟩,⟨some 27,.bslice (t_int N) 1 none 1 [(.lit (.int .i64 0))] [(0,1,(.t 26))],none⟩,⟨some 28,.append (t_int N) 1 8 (.t 25) (.t 27),none⟩,⟨some 5,.mov (.t 28),none⟩]) (
 .seq (
 .ops [⟨some 29,.mov (.t 6),none⟩,⟨some 30,.mov (.t 8),none⟩,⟨some 31,.bslice (t_int N) 1 none 1 [(.lit (.int .i64 0))] [(0,1,(.t 30))],none⟩,⟨some 32,.append (t_int N) 1 8 (.t 29) (.t 31),none⟩,⟨some 6,.mov (.t 32),none⟩]) (
 .ops [⟨some 33,.mov (.t 7),none⟩,⟨some 34,.mov (.t 9),none⟩,⟨some 35,.bin .add (.t 33) (.t 34),none⟩,⟨some 7,.mov (.t 35),none⟩]))))))
def K_ref01_Signs_1 (N : Nat -> Nat) : AC :=
 .seq (
 .ops [⟨some 36,.mov (.t 5),none⟩,⟨some 37,.mov (.t 6),none⟩,⟨some 38,.mov (.t 7),none⟩,⟨some 2,.mov (.t 36),none⟩,⟨some 3,.mov (.t 37),none⟩,⟨some 4,.mov (.t 38),none⟩]) (
 .ret)
def C_ref01_Signs (N : Nat -> Nat) : AFunc := ⟨39,[.inl 2,.inl 3,.inl 4],
 .seq (
 .ops [⟨some 2,.mov (.c (.lit (.slice none 0 0))),none⟩,⟨some 3,.mov (.c (.lit (.slice none 0 0))),none⟩,⟨some 4,.mov (.c (.lit (.int .i64 0))),none⟩]) (
 .seq (
 .ops [⟨some 10,.bslice (t_int N) 1 none 0 [(.lit (.int .i64 0))] [],none⟩,⟨some 11,.bslice (t_int N) 1 none 0 [(.lit (.int .i64 0))] [],none⟩,⟨some 5,.mov (.t 10),none⟩,⟨some 6,.mov (.t 11),none⟩]) (
 .seq (
 .ops [⟨some 7,.mov (.c (.lit (.int .i64 0))),none⟩]) (
 .seq (
 .block 0 (
 .loop (L_ref01_Signs_1 N))) (K_ref01_Signs_1 N)))),false⟩

def C_ref01_value (N : Nat -> Nat) : AFunc := ⟨72,[.inl 2],
 .seq (
 .ops [⟨some 2,.mov (.c (.lit (.int .i64 0))),none⟩]) (
 .seq (
 .seq (
 .ops [⟨some 3,.mov (.t 0),none⟩,⟨some 4,.len (.t 3),none⟩]) (
 .block 0 (
 .seq (
 .ops [⟨some 6,.eq false .pint (.t 4) (.c (.lit (.int .i64 1))),none⟩,⟨some 5,.mov (.t 6),none⟩]) (
 .cond (.t 5) (
 .seq (
 .ops [⟨some 7,.mov (.t 0),none⟩,⟨some 8,.iaddr 1 (.t 7) (.c (.lit (.int .i64 0))),none⟩,⟨some 9,.load none (.t 8),none⟩,⟨some 10,.conv (.toInt .i64) (.t 9),none⟩,⟨some 2,.mov (.t 10),none⟩]) (
 .ret)) (
 .seq (
 .ops [⟨some 12,.eq false .pint (.t 4) (.c (.lit (.int .i64 2))),none⟩,⟨some 11,.mov (.t 12),none⟩]) (
 .cond (.t 11) (
 .seq (
 .dops 5 [⟨some 13,.mov (.t 0),none⟩,⟨some 14,.iaddr 1 (.t 13) (.c (.lit (.int .i64 0))),none⟩,⟨some 15,.load none (.t 14),none⟩,⟨some 16,.conv (.toInt .i64) (.t 15),none⟩,⟨some 17,.bin .rem (.t 16) (.c (.lit (.int .i64 32))),none⟩,⟨some 18,.bin .mul (.t 17) (.c (.lit (.int .i64 64))),none⟩,⟨some 19,.mov (.t 0),none⟩,⟨some 20,.iaddr 1 (.t 19) (.c (.lit (.int .i64 1))),none⟩,⟨some 21,.load none (.t 20),none⟩,⟨some 22,.conv (.toInt .i64) (.t 21),none⟩,⟨some 23,.bin .rem (.t 22) (.c (.lit (.int .i64 64))),none⟩,⟨some 24,.bin .add (.t 18) (.t 23),none⟩,⟨some 2,.mov (.t 24),none⟩] [0,0,2,0,0,0,0,0,2,0,0,0,0] []) (
 .ret)) (
 .seq (
 .ops [⟨some 26,.eq false .pint (.t 4) (.c (.lit (.int .i64 3))),none⟩,⟨some 25,.mov (.t 26),none⟩]) (
 .cond (.t 25) (
 .seq (
 .dops 7 [⟨some 27,.mov (.t 0),none⟩,⟨some 28,.iaddr 1 (.t 27) (.c (.lit (.int .i64 0))),none⟩,⟨some 29,.load none (.t 28),none⟩,⟨some 30,.conv (.toInt .i64) (.t 29),none⟩,⟨some 31,.bin .rem (.t 30) (.c (.lit (.int .i64 16))),none⟩,⟨some 32,.bin .mul (.t 31) (.c (.lit (.int .i64 4096))),none⟩,⟨some 33,.mov (.t 0),none⟩,⟨some 34,.iaddr 1 (.t 33) (.c (.lit (.int .i64 1))),none⟩,⟨some 35,.load none (.t 34),none⟩,⟨some 36,.conv (.toInt .i64) (.t 35),none⟩,⟨some 37,.bin .rem (.t 36) (.c (.lit (.int .i64 64))),none⟩,⟨some 38,.bin .mul (.t 37) (.c (.lit (.int .i64 64))),none⟩,⟨some 39,.bin .add (.t 32) (.t 38),none⟩,⟨some 40,.mov (.t 0),none⟩,⟨some 41,.iaddr 1 (.t 40) (.c (.lit (.int .i64 2))),none⟩,⟨some 42,.load none (.t 41),none⟩,⟨some 43,.conv (.toInt .i64) (.t 42),none⟩,⟨some 44,.bin .rem (.t 43) (.c (.lit (.int .i64 64))),none⟩,⟨some 45,.bin .add (.t 39) (.t 44),none⟩,⟨some 2,.mov (.t 45),none⟩] [0,0,2,0,0,0,0,0,2,0,0,0,0,0,0,2,0,0,0,0] []) (
 .ret)) (
 .skip))))))))) (
 .seq (
 .dops 8 [⟨some 46,.mov (.t 0),none⟩,⟨some 47,.iaddr 1 (.t 46) (.c (.lit (.int .i64 0))),none⟩,⟨some 48,.load none (.t 47),none⟩,⟨some 49,.conv (.toInt .i64) (.t 48),none⟩,⟨some 50,.bin .rem (.t 49) (.c (.lit (.int .i64 8))),none⟩,⟨some 51,.bin .mul (.t 50) (.c (.lit (.int .i64 262144))),none⟩,⟨some 52,.mov (.t 0),none⟩,⟨some 53,.iaddr 1 (.t 52) (.c (.lit (.int .i64 1))),none⟩,⟨some 54,.load none (.t 53),none⟩,⟨some 55,.conv (.toInt .i64) (.t 54),none⟩,⟨some 56,.bin .rem (.t 55) (.c (.lit (.int .i64 64))),none⟩,⟨some 57,.bin .mul (.t 56) (.c (.lit (.int .i64 4096))),none⟩,⟨some 58,.bin .add (.t 51) (.t 57),none⟩,⟨some 59,.mov (.t 0),none⟩,⟨some 60,.iaddr 1 (.t 59) (.c (.lit (.int .i64 2))),none⟩,⟨some 61,.load none (.t 60),none⟩,⟨some 62,.conv (.toInt .i64) (.t 61),none⟩,⟨some 63,.bin .rem (.t 62) (.c (.lit (.int .i64 64))),none⟩,⟨some 64,.bin .mul (.t 63) (.c (.lit (.int .i64 64))),none⟩,⟨some 65,.bin .add (.t 58) (.t 64),none⟩,⟨some 66,.mov (.t 0),none⟩,⟨some 67,.iaddr 1 (.t 66) (.c (.lit (.int .i64 3))),none⟩,⟨some 68,.load none (.t 67),none⟩,⟨some 69,.conv (.toInt .i64) (.t 68),none⟩,⟨some 70,.bin .rem (.t 69) (.c (.lit (.int .i64 64))),none⟩,⟨some 71,.bin .add (.t 65) (.t 70),none⟩,⟨some 2,.mov (.t 71),none⟩] [0,0,2,0,0,0,0,0,2,0,0,0,0,0,0,2,0,0,0,0,0,0,2,0,0,0,0] []) (
 .ret))),false⟩

def C_runes_All (N : Nat -> Nat) : AFunc := ⟨4,[.inl 2],
 .seq (
 .ops [⟨some 1,.box (t_sl_uint8 N) (.t 0),none⟩,⟨some 2,.mov (.c (.lit .nilFunc)),none⟩]) (
 .seq (
 .ops [⟨some 3,.mkfn (f_runes_All_1 N) [] [(.t 1)],none⟩,⟨some 2,.mov (.t 3),none⟩]) (
 .ret)),true⟩

def L_runes_All_1_1 (N : Nat -> Nat) : AC :=
 .seq (
 .seq (
 .ops [⟨some 6,.mov (.t 3),none⟩,⟨some 7,.load none (.t 1),none⟩,⟨some 8,.len (.t 7),none⟩,⟨some 9,.bin .lss (.t 6) (.t 8),none⟩]) (
 .cond (.t 9) (
 .skip) (
 .exit 0))) (
 .block 1 (
 .seq (
 .ops [⟨some 11,.load none (.t 1),none⟩,⟨some 12,.mov (.t 3),none⟩,⟨some 13,.slice 1 (.t 11) (some (.t 12)) none,none⟩,⟨some 14,.call (.c (.fn (f_runes_first N) [] [])) [(.t 13)],none⟩,⟨some 10,.mov (.t 14),none⟩,⟨some 15,.extract (.t 10) 0,none⟩,⟨some 16,.extract (.t 10) 1,none⟩,⟨some 4,.mov (.t 15),none⟩,⟨some 5,.mov (.t 16),none⟩]) (
 .seq (
 .seq (
 .ops [⟨some 17,.mov (.t 5),none⟩,⟨some 18,.eq false .pint (.t 17) (.c (.lit (.int .i64 0))),none⟩,⟨some 19,.mov (.t 18),none⟩,⟨some 20,.mov (.t 0),(some (19,false))⟩,⟨some 21,.mov (.t 3),(some (19,false))⟩,⟨some 22,.mov (.t 4),(some (19,false))⟩,⟨some 23,.call (.t 20) [(.t 21),(.t 22)],(some (19,false))⟩,⟨some 24,.un .not (.t 23),(some (19,false))⟩,⟨some 25,.pick (.t 19) (.c (.lit (.bool true))) (.t 24),none⟩]) (
 .cond (.t 25) (
 .ret) (
 .skip))) (
 .ops [⟨some 26,.mov (.t 3),none⟩,⟨some 27,.mov (.t 5),none⟩,⟨some 28,.bin .add (.t 26) (.t 27),none⟩,⟨some 3,.mov (.t 28),none⟩]))))
def C_runes_All_1 (N : Nat -> Nat) : AFunc := ⟨29,[],
 .seq (
 .ops [⟨some 3,.mov (.c (.lit (.int .i64 0))),none⟩]) (
 .block 0 (
 .loop (L_runes_All_1_1 N))),false⟩

def L_runes_Bad_1 (N : Nat -> Nat) : AC :=
 .seq (
 .ops [⟨some 4,.mov (.t 8),none⟩]) (
 .ops [⟨some 5,.mov (.t 9),none⟩])
def L_runes_Bad_2 (N : Nat -> Nat) : AC :=
 .block 1 (
 .ops [⟨some 10,.mov (.t 4),none⟩,⟨some 11,.mov (.t 5),none⟩,⟨some 12,.call (.c (.fn (f_runes_size N) [] [])) [(.t 11)],none⟩,⟨some 13,.bin .add (.t 10) (.t 12),none⟩,⟨none,.store 1 (.t 3) (.t 13),none⟩])
def K_runes_Bad_1 (N : Nat -> Nat) : AC :=
 .seq (
 .seq (
 .ops [⟨some 14,.load none (.t 3),none⟩,⟨some 15,.mov (.t 0),none⟩,⟨some 16,.len (.t 15),none⟩,⟨some 17,.eq false .pint (.t 14) (.t 16),none⟩]) (
 .cond (.t 17) (
 .seq (
 .ops [⟨some 2,.mov (.c (.lit (.int .i64 (-1)))),none⟩]) (
 .ret)) (
 .skip))) (
 .seq (
 .ops [⟨some 18,.load none (.t 3),none⟩,⟨some 2,.mov (.t 18),none⟩]) (
 .ret))
def C_runes_Bad (N : Nat -> Nat) : AFunc := ⟨19,[.inl 2],
 .seq (
 .ops [⟨some 2,.mov (.c (.lit (.int .i64 0))),none⟩]) (
 .seq (
 .ops [⟨some 3,.new (t_int N) (.lit (.int .i64 0)),none⟩,⟨none,.store 1 (.t 3) (.c (.lit (.int .i64 0))),none⟩]) (
 .seq (
 .seq (
 .ops [⟨some 6,.mov (.t 0),none⟩,⟨some 7,.call (.c (.fn (f_runes_All N) [] [])) [(.t 6)],none⟩]) (
 .block 0 (
 .rangeFn (.t 7) [8,9] (L_runes_Bad_1 N) (L_runes_Bad_2 N)))) (K_runes_Bad_1 N))),false⟩

def L_runes_first_1 (N : Nat -> Nat) : AC :=
 .seq (
 .seq (
 .ops [⟨some 19,.mov (.t 4),none⟩,⟨some 20,.bin .lss (.t 19) (.c (.lit (.int .i64 4))),none⟩,⟨some 21,.mov (.t 20),none⟩,⟨some 22,.mov (.t 0),(some (21,true))⟩,⟨some 23,.iaddr 1 (.t 22) (.c (.lit (.int .i64 0))),(some (21,true))⟩,⟨some 24,.load none (.t 23),(some (21,true))⟩,⟨some 25,.mov (.t 4),(some (21,true))⟩,⟨some 26,.bin .shl (.t 24) (.t 25),(some (21,true))⟩,⟨some 27,.bin .and (.t 26) (.c (.lit (.int .u8 128))),(some (21,true))⟩,⟨some 28,.eq true .pint (.t 27) (.c (.lit (.int .u8 0))),(some (21,true))⟩,⟨some 29,.pick (.t 21) (.t 28) (.c (.lit (.bool false))),none⟩]) (
 .cond (.t 29) (
 .skip) (
 .exit 0))) (
 .block 1 (
 .ops [⟨some 30,.mov (.t 4),none⟩,⟨some 31,.bin .add (.t 30) (.c (.lit (.int .i64 1))),none⟩,⟨some 4,.mov (.t 31),none⟩]))
def L_runes_first_2 (N : Nat -> Nat) : AC :=
 .seq (
 .ops [⟨some 58,.bin .lss (.t 57) (.t 56),none⟩]) (
 .seq (
 .cond (.t 58) (
 .skip) (
 .exit 2)) (
 .seq (
 .block 3 (
 .seq (
 .ops [⟨some 59,.iaddr 1 (.t 55) (.t 57),none⟩,⟨some 60,.load none (.t 59),none⟩,⟨some 7,.mov (.t 60),none⟩]) (
 .seq (
 .seq (
 .ops [⟨some 61,.mov (.t 7),none⟩,⟨some 62,.bin .and (.t 61) (.c (.lit (.int .u8 192))),none⟩,⟨some 63,.eq true .pint (.t 62) (.c (.lit (.int .u8 128))),none⟩]) (
 .cond (.t 63) (
 .seq (
 .ops [⟨some 2,.mov (.c (.lit (.int .i32 0))),none⟩,⟨some 3,.mov (.c (.lit (.int .i64 0))),none⟩]) (
 .ret)) (
 .skip))) (
 .ops [⟨some 64,.mov (.t 5),none⟩,⟨some 65,.bin .shl (.t 64) (.c (.lit (.int .u64 6))),none⟩,⟨some 66,.mov (.t 7),none⟩,⟨some 67,.bin .and (.t 66) (.c (.lit (.int .u8 63))),none⟩,⟨some 68,.conv (.toInt .i32) (.t 67),none⟩,⟨some 69,.bin .or (.t 65) (.t 68),none⟩,⟨some 5,.mov (.t 69),none⟩])))) (
 .ops [⟨some 70,.bin .add (.t 57) (.c (.lit (.int .i64 1))),none⟩,⟨some 57,.mov (.t 70),none⟩])))
def K_runes_first_2 (N : Nat -> Nat) : AC :=
 .seq (
 .seq (
 .ops [⟨some 71,.mov (.t 5),none⟩,⟨some 72,.call (.c (.fn (f_runes_sign N) [] [])) [(.t 71)],none⟩,⟨some 73,.un .not (.t 72),none⟩,⟨some 74,.mov (.t 73),none⟩,⟨some 75,.mov (.t 5),(some (74,false))⟩,⟨some 76,.call (.c (.fn (f_runes_size N) [] [])) [(.t 75)],(some (74,false))⟩,⟨some 77,.mov (.t 4),(some (74,false))⟩,⟨some 78,.eq true .pint (.t 76) (.t 77),(some (74,false))⟩,⟨some 79,.pick (.t 74) (.c (.lit (.bool true))) (.t 78),none⟩]) (
 .cond (.t 79) (
 .seq (
 .ops [⟨some 2,.mov (.c (.lit (.int .i32 0))),none⟩,⟨some 3,.mov (.c (.lit (.int .i64 0))),none⟩]) (
 .ret)) (
 .skip))) (
 .seq (
 .ops [⟨some 80,.mov (.t 5),none⟩,⟨some 81,.mov (.t 4),none⟩,⟨some 2,.mov (.t 80),none⟩,⟨some 3,.mov (.t 81),none⟩]) (
 .ret))
def K_runes_first_1 (N : Nat -> Nat) : AC :=
 .seq (
 .seq (
 .ops [⟨some 32,.mov (.t 4),none⟩,⟨some 33,.bin .lss (.t 32) (.c (.lit (.int .i64 2))),none⟩,⟨some 34,.mov (.t 33),none⟩,⟨some 35,.mov (.t 0),(some (34,false))⟩,⟨some 36,.len (.t 35),(some (34,false))⟩,⟨some 37,.mov (.t 4),(some (34,false))⟩,⟨some 38,.bin .lss (.t 36) (.t 37),(some (34,false))⟩,⟨some 39,.pick (.t 34) (.c (.lit (.bool true))) (.t 38),none⟩,⟨some 40,.mov (.t 39),none⟩,⟨some 41,.mov (.t 0),(some (40,false))⟩,⟨some 42,.iaddr 1 (.t 41) (.c (.lit (.int .i64 0))),(some (40,false))⟩,⟨some 43,.load none (.t 42),(some (40,false))⟩,⟨some 44,.bin .geq (.t 43) (.c (.lit (.int .u8 248))),(some (40,false))⟩,⟨some 45,.pick (.t 40) (.c (.lit (.bool true))) (.t 44),none⟩]) (
 .cond (.t 45) (
 .seq (
 .ops [⟨some 2,.mov (.c (.lit (.int .i32 0))),none⟩,⟨some 3,.mov (.c (.lit (.int .i64 0))),none⟩]) (
 .ret)) (
 .skip))) (
 .seq (
 .dops 10 [⟨some 46,.mov (.t 0),none⟩,⟨some 47,.iaddr 1 (.t 46) (.c (.lit (.int .i64 0))),none⟩,⟨some 48,.load none (.t 47),none⟩,⟨some 49,.mov (.t 4),none⟩,⟨some 50,.bin .shr (.c (.lit (.int .u8 127))) (.t 49),none⟩,⟨some 51,.bin .and (.t 48) (.t 50),none⟩,⟨some 52,.conv (.toInt .i32) (.t 51),none⟩,⟨some 5,.mov (.t 52),none⟩] [0,0,0,0,0,0,0,0] []) (
 .seq (
 .seq (
 .ops [⟨some 53,.mov (.t 0),none⟩,⟨some 54,.mov (.t 4),none⟩,⟨some 55,.slice 1 (.t 53) (some (.c (.lit (.int .i64 1)))) (some (.t 54)),none⟩,⟨some 56,.len (.t 55),none⟩,⟨some 57,.mov (.c (.lit (.int .i64 0))),none⟩]) (
 .block 2 (
 .loop (L_runes_first_2 N)))) (K_runes_first_2 N)))
def C_runes_first (N : Nat -> Nat) : AFunc := ⟨82,[.inl 2,.inl 3],
 .seq (
 .ops [⟨some 2,.mov (.c (.lit (.int .i32 0))),none⟩,⟨some 3,.mov (.c (.lit (.int .i64 0))),none⟩]) (
 .seq (
 .seq (
 .ops [⟨some 8,.mov (.t 0),none⟩,⟨some 9,.len (.t 8),none⟩,⟨some 10,.eq false .pint (.t 9) (.c (.lit (.int .i64 0))),none⟩]) (
 .cond (.t 10) (
 .seq (
 .ops [⟨some 2,.mov (.c (.lit (.int .i32 0))),none⟩,⟨some 3,.mov (.c (.lit (.int .i64 0))),none⟩]) (
 .ret)) (
 .skip))) (
 .seq (
 .seq (
 .ops [⟨some 11,.mov (.t 0),none⟩,⟨some 12,.iaddr 1 (.t 11) (.c (.lit (.int .i64 0))),none⟩,⟨some 13,.load none (.t 12),none⟩,⟨some 14,.bin .lss (.t 13) (.c (.lit (.int .u8 128))),none⟩]) (
 .cond (.t 14) (
 .seq (
 .ops [⟨some 15,.mov (.t 0),none⟩,⟨some 16,.iaddr 1 (.t 15) (.c (.lit (.int .i64 0))),none⟩,⟨some 17,.load none (.t 16),none⟩,⟨some 18,.conv (.toInt .i32) (.t 17),none⟩,⟨some 2,.mov (.t 18),none⟩,⟨some 3,.mov (.c (.lit (.int .i64 1))),none⟩]) (
 .ret)) (
 .skip))) (
 .seq (
 .ops [⟨some 4,.mov (.c (.lit (.int .i64 0))),none⟩]) (
 .seq (
 .block 0 (
 .loop (L_runes_first_1 N))) (K_runes_first_1 N))))),false⟩

def C_runes_sign (N : Nat -> Nat) : AFunc := ⟨17,[.inl 2],
 .seq (
 .ops [⟨some 2,.mov (.c (.lit (.bool false))),none⟩]) (
 .seq (
 .ops [⟨some 3,.mov (.t 0),none⟩,⟨some 4,.bin .geq (.t 3) (.c (.lit (.int .i32 0))),none⟩,⟨some 5,.mov (.t 4),none⟩,⟨some 6,.mov (.t 0),(some (5,true))⟩,⟨some 7,.bin .lss (.t 6) (.c (.lit (.int .i32 1114112))),(some (5,true))⟩,⟨some 8,.pick (.t 5) (.t 7) (.c (.lit (.bool false))),none⟩,⟨some 9,.mov (.t 8),none⟩,⟨some 10,.mov (.t 0),(some (9,true))⟩,⟨some 11,.bin .lss (.t 10) (.c (.lit (.int .i32 55296))),(some (9,true))⟩,⟨some 12,.mov (.t 11),(some (9,true))⟩,⟨some 13,.mov (.t 0),(some (12,false))⟩,⟨some 14,.bin .gtr (.t 13) (.c (.lit (.int .i32 57343))),(some (12,false))⟩,⟨some 15,.pick (.t 12) (.c (.lit (.bool true))) (.t 14),(some (9,true))⟩,⟨some 16,.pick (.t 9) (.t 15) (.c (.lit (.bool false))),none⟩,⟨some 2,.mov (.t 16),none⟩]) (
 .ret)),false⟩

def C_runes_size (N : Nat -> Nat) : AFunc := ⟨12,[.inl 2],
 .seq (
 .ops [⟨some 2,.mov (.c (.lit (.int .i64 0))),none⟩]) (
 .seq (
 .block 0 (
 .seq (
 .ops [⟨some 4,.mov (.t 0),none⟩,⟨some 5,.bin .lss (.t 4) (.c (.lit (.int .i32 128))),none⟩,⟨some 3,.mov (.t 5),none⟩]) (
 .cond (.t 3) (
 .seq (
 .ops [⟨some 2,.mov (.c (.lit (.int .i64 1))),none⟩]) (
 .ret)) (
 .seq (
 .ops [⟨some 7,.mov (.t 0),none⟩,⟨some 8,.bin .lss (.t 7) (.c (.lit (.int .i32 2048))),none⟩,⟨some 6,.mov (.t 8),none⟩]) (
 .cond (.t 6) (
 .seq (
 .ops [⟨some 2,.mov (.c (.lit (.int .i64 2))),none⟩]) (
 .ret)) (
 .seq (
 .ops [⟨some 10,.mov (.t 0),none⟩,⟨some 11,.bin .lss (.t 10) (.c (.lit (.int .i32 65536))),none⟩,⟨some 9,.mov (.t 11),none⟩]) (
 .cond (.t 9) (
 .seq (
 .ops [⟨some 2,.mov (.c (.lit (.int .i64 3))),none⟩]) (
 .ret)) (
 .skip)))))))) (
 .seq (
 .ops [⟨some 2,.mov (.c (.lit (.int .i64 4))),none⟩]) (
 .ret))),false⟩
end Go.Proofs.Eng
namespace Go.Proofs.Eng
open Go
section
variable {Γ : Sums} {A : Tab} {N : Nat -> Nat}

def runeSize (r : Int) : Int := if r < 128 then 1 else if r < 2048 then 2 else if r < 65536 then 3 else 4
def runeSign (r : Int) : Bool := decide (0 <= r) && decide (r < 1114112) && (decide (r < 55296) || decide (57343 < r))

theorem runes_size_call (h : Has Γ A (f_runes_size N) (C_runes_size N)) (r : Int) (H : Hp) : (lim Γ A).call (f_runes_size N) [avInt .i32 r] H = some (avInt .i64 (runeSize r),none) := by
 apply h.call (by rfl)
 unfold runeSize
 by_cases h1 : r < 128
 ·simp [C_runes_size,h1]
 ·by_cases h2 : r < 2048
  ·simp [C_runes_size,h1,h2]
  ·by_cases h3 : r < 65536
   ·simp [C_runes_size,h1,h2,h3]
   ·simp [C_runes_size,h1,h2,h3]

theorem runes_sign_call (h : Has Γ A (f_runes_sign N) (C_runes_sign N)) (r : Int) (H : Hp) : (lim Γ A).call (f_runes_sign N) [avInt .i32 r] H = some (avBool (runeSign r),none) := by
 apply h.call (by rfl)
 unfold runeSign
 by_cases h1 : 0 <= r <;> by_cases h2 : r < 1114112 <;> by_cases h3 : r < 55296 <;> simp [C_runes_sign,h1,h2,h3]

def lead (b : UInt8) : Nat := if b.toNat < 128 then 0 else if b.toNat < 192 then 1 else if b.toNat < 224 then 2 else if b.toNat < 240 then 3 else 4
def isCont (b : UInt8) : Bool := decide (128 <= b.toNat) && decide (b.toNat < 192)
def accB (r : Int) : List UInt8 -> Int
 | [] => r
 | b :: l => accB (r * 64 + ((b.toNat % 64 : Nat) : Int)) l
def headR (b0 : UInt8) : Int := ((b0.toNat % 2 ^ (7 - lead b0) : Nat) : Int)
def rfirst : List UInt8 -> Int × Int
 | [] => (0,0)
 | b0 :: l =>
  if b0.toNat < 128 then ((b0.toNat : Int),1)
  else if lead b0 < 2 \/ l.length + 1 < lead b0 \/ 248 <= b0.toNat then (0,0)
  else if ((l.take (lead b0 - 1)).all isCont) = true then
   if runeSign (accB (headR b0) (l.take (lead b0 - 1))) = true /\ runeSize (accB (headR b0) (l.take (lead b0 - 1))) = lead b0 then (accB (headR b0) (l.take (lead b0 - 1)),(lead b0 : Int)) else (0,0)
  else (0,0)

theorem all256 {p : UInt8 -> Bool} (h : (List.range 256).all (fun n => p (UInt8.ofNat n)) = true) (b : UInt8) : p b = true := by
 rw [List.all_eq_true] at h
 have := h b.toNat (by simp; exact b.toNat_lt)
 simpa using this

theorem bit_all : (List.range 256).all (fun i => (List.range 4).all fun n => decide (n <= lead (UInt8.ofNat i) -> 128 <= (UInt8.ofNat i).toNat -> decide (bAnd .u8 (bShl .u8 ((UInt8.ofNat i).toNat : Int) (n : Int)) 128 = 0) = !decide (n < lead (UInt8.ofNat i)))) = true := by decide +kernel
theorem bit_lead (b : UInt8) (n : Nat) (hn : n < 4) (h : n <= lead b) (hb : 128 <= b.toNat) : decide (bAnd .u8 (bShl .u8 (b.toNat : Int) (n : Int)) 128 = 0) = !decide (n < lead b) := by
 have := all256 (p := fun b => (List.range 4).all fun n => decide (n <= lead b -> 128 <= b.toNat -> decide (bAnd .u8 (bShl .u8 (b.toNat : Int) (n : Int)) 128 = 0) = !decide (n < lead b))) bit_all b
 rw [List.all_eq_true] at this
 have := this n (by simp; exact hn)
 simp only [decide_eq_true_eq] at this
 exact this h hb
theorem lead_le (b : UInt8) : lead b <= 4 := by unfold lead; (repeat' split) <;> omega

theorem first_loop1 {x : AV} {b0 : UInt8} {ρ : Rho} {H : Hp} {Q : Post} {p : AV} (hi : aiaddr 1 x (.lit (.int .i64 0)) = some p) (hi2 : aload H none p = some (avByte b0)) (hb : 128 <= b0.toNat) (h0 : ρ 0 = x) (h4 : ρ 4 = avInt .i64 0)
  (hQ : ∀ ρ' : Rho,ρ' 0 = x -> ρ' 4 = avInt .i64 (lead b0) -> Q (.exit 0) ρ' H) : wp (lim Γ A) none (.loop (L_runes_first_1 N)) ρ H Q := by
 refine wp_round (fun k ρ H' => H' = H /\ ∃ n : Nat,ρ 0 = x /\ ρ 4 = avInt .i64 n /\ n <= lead b0 /\ k = 4 - n) (n := 4) ⟨rfl,0,h0,h4,by omega,rfl⟩ ?_
 rintro k ρ H' ⟨rfl,n,h0,h4,hn,rfl⟩
 have hl4 := lead_le b0
 by_cases hn4 : n < 4
 ·have hbl := bit_lead b0 n hn4 hn (by omega)
  have hn5 : (n : Int) < 4 := by omega
  by_cases hnl : n < lead b0
  ·simp only [hnl,decide_true,Bool.not_true,decide_eq_false_iff_not] at hbl
   have hw : IntKind.wrap .i64 ((n : Int) + 1) = ((n + 1 : Nat) : Int) := by rw [wrap64 (by omega) (by omega)]; omega
   simp [L_runes_first_1,h0,h4,hn5,hi,hi2,avByte,hbl,hw,-Int.natCast_add]
   exact ⟨4 - (n + 1),by omega,n + 1,rfl,by omega,rfl⟩
  ·have hnl2 : n = lead b0 := by omega
   simp only [hnl,decide_false,Bool.not_false,decide_eq_true_eq] at hbl
   simp [L_runes_first_1,h0,h4,hn5,hi,hi2,avByte,hbl]
   apply hQ <;> simp [h0,h4,hnl2]
 ·have hn5 : ¬ (n : Int) < 4 := by omega
  have hnl2 : n = lead b0 := by omega
  simp [L_runes_first_1,h0,h4,hn5]
  apply hQ <;> simp [h0,h4,hnl2]

theorem cont_and (b : UInt8) : decide (bAnd .u8 (b.toNat : Int) 192 = 128) = isCont b := by
 have := all256 (p := fun b => decide (decide (bAnd .u8 (b.toNat : Int) 192 = 128) = isCont b)) (by decide +kernel) b
 simpa only [decide_eq_true_eq] using this
theorem low6_and (b : UInt8) : IntKind.wrap .i32 (bAnd .u8 (b.toNat : Int) 63) = ((b.toNat % 64 : Nat) : Int) := by
 have := all256 (p := fun b => decide (IntKind.wrap .i32 (bAnd .u8 (b.toNat : Int) 63) = ((b.toNat % 64 : Nat) : Int))) (by decide +kernel) b
 simpa only [decide_eq_true_eq] using this
theorem wrap32 {a : Int} (h1 : -2147483648 <= a) (h2 : a <= 2147483647) : IntKind.wrap .i32 a = a := by
 simp only [IntKind.wrap,IntKind.bits,IntKind.signed]
 simp
 omega
theorem or_add {r y : Nat} (hr : r < 2 ^ 24) (hy : y < 64) : bOr .i32 (bShl .i32 (r : Int) 6) (y : Int) = ((r * 64 + y : Nat) : Int) := by
 have h6 : bShl .i32 (r : Int) 6 = (r : Int) * 2 ^ 6 := by
  show IntKind.wrap .i32 ((r : Int) * 2 ^ 6) = _
  rw [wrap32 (by omega) (by omega)]
 rw [h6]
 have h1 : (BitVec.ofInt 32 ((r : Int) * 2 ^ 6) ||| BitVec.ofInt 32 (y : Int)).toNat = r * 64 + y := by
  rw [BitVec.toNat_or]
  have e1 : (BitVec.ofInt 32 ((r : Int) * 2 ^ 6)).toNat = r <<< 6 := by
   rw [BitVec.toNat_ofInt,Nat.shiftLeft_eq]; omega
  have e2 : (BitVec.ofInt 32 (y : Int)).toNat = y := by
   rw [BitVec.toNat_ofInt]; omega
  rw [e1,e2,<- Nat.shiftLeft_add_eq_or_of_lt (by omega : y < 2 ^ 6),Nat.shiftLeft_eq]
 show IntKind.wrap .i32 (BitVec.ofInt 32 ((r : Int) * 2 ^ 6) ||| BitVec.ofInt 32 (y : Int)).toNat = _
 rw [h1,wrap32 (by omega) (by omega)]

theorem accB_snoc (r : Int) (l : List UInt8) (b : UInt8) : accB r (l ++ [b]) = accB r l * 64 + ((b.toNat % 64 : Nat) : Int) := by
 induction l generalizing r with
 | nil => rfl
 | cons a l ih => simp only [List.cons_append,accB]; rw [ih]
theorem accB_nat (r : Nat) (l : List UInt8) : ∃ m : Nat,accB r l = m /\ m < (r + 1) * 64 ^ l.length := by
 induction l generalizing r with
 | nil => exact ⟨r,rfl,by simp⟩
 | cons a l ih =>
  obtain ⟨m,e,h⟩ := ih (r * 64 + a.toNat % 64)
  refine ⟨m,?_,?_⟩
  ·simp only [accB]; rw [<- e]; congr 1
  ·refine Nat.lt_of_lt_of_le h ?_
   rw [List.length_cons,Nat.pow_succ,Nat.mul_comm (64 ^ l.length) 64,<- Nat.mul_assoc]
   apply Nat.mul_le_mul_right
   have : a.toNat % 64 < 64 := Nat.mod_lt _ (by omega)
   omega

theorem first_loop2 {y : AV} {m : List UInt8} {r0 : Nat} {n : AV} {ρ : Rho} {H : Hp} {Q : Post} (hy : VBytes H y m) (hm : m.length <= 3) (hr : r0 < 32) (h4 : ρ 4 = n) (h5 : ρ 5 = avInt .i32 r0) (h55 : ρ 55 = y) (h56 : ρ 56 = avInt .i64 m.length) (h57 : ρ 57 = avInt .i64 0)
  (hQ : ∀ ρ' : Rho,ρ' 4 = n -> ρ' 5 = avInt .i32 (accB r0 m) -> m.all isCont = true -> Q (.exit 2) ρ' H) (hR : ∀ ρ' : Rho,ρ' 2 = avInt .i32 0 -> ρ' 3 = avInt .i64 0 -> m.all isCont = false -> Q .ret ρ' H) : wp (lim Γ A) none (.loop (L_runes_first_2 N)) ρ H Q := by
 refine wp_round (fun k ρ H' => H' = H /\ ∃ i : Nat,ρ 4 = n /\ ρ 5 = avInt .i32 (accB r0 (m.take i)) /\ ρ 55 = y /\ ρ 56 = avInt .i64 m.length /\ ρ 57 = avInt .i64 i /\ i <= m.length /\ (m.take i).all isCont = true /\ k = m.length - i) (n := m.length)
  ⟨rfl,0,h4,by simpa [accB] using h5,h55,h56,h57,by omega,by simp,by simp⟩ ?_
 rintro k ρ H' ⟨rfl,i,h4,h5,h55,h56,h57,hi,hc,rfl⟩
 by_cases hlt : i < m.length
 ·have hlt' : (i : Int) < m.length := by omega
  obtain ⟨p,ha,ha2⟩ := VBytes.at' hy (k := .i64) (i := (i : Int)) (by omega) (by simpa using hlt)
  simp only [Int.toNat_natCast] at ha ha2
  have htk : m.take (i + 1) = m.take i ++ [m[i]] := List.take_succ_eq_append_getElem hlt
  have hca := cont_and m[i]
  by_cases hct : isCont m[i] = true
  ·rw [hct,decide_eq_true_eq] at hca
   obtain ⟨q,hq,hq2⟩ := accB_nat r0 (m.take i)
   have hq3 : q < 2 ^ 24 := by
    refine Nat.lt_of_lt_of_le hq2 ?_
    have : (m.take i).length <= 2 := by simp; omega
    calc (r0 + 1) * 64 ^ (m.take i).length <= 32 * 64 ^ 2 := Nat.mul_le_mul (by omega) (Nat.pow_le_pow_right (by omega) this)
     _ <= 2 ^ 24 := by omega
   have ho := or_add hq3 (Nat.mod_lt m[i].toNat (by omega : 0 < 64))
   have hw : IntKind.wrap .i64 ((i : Int) + 1) = ((i + 1 : Nat) : Int) := by rw [wrap64 (by omega) (by omega)]; omega
   rw [hq] at h5
   simp [L_runes_first_2,h4,h5,h55,h56,h57,hlt',ha,ha2,avByte,hca,low6_and,ho,hw,-Int.natCast_emod,-Int.natCast_add,-Int.natCast_mul]
   refine ⟨m.length - (i + 1),by omega,i + 1,?_,rfl,by omega,?_,rfl⟩
   ·rw [htk,accB_snoc,hq]; simp
   ·rw [htk]
    intro z hz
    rcases List.mem_append.1 hz with hz | hz
    ·exact List.all_eq_true.1 hc z hz
    ·simp only [List.mem_singleton] at hz; subst hz; exact hct
  ·rw [Bool.not_eq_true] at hct
   rw [hct,decide_eq_false_iff_not] at hca
   simp [L_runes_first_2,h4,h5,h55,h56,h57,hlt',ha,ha2,avByte,hca]
   apply hR
   ·simp
   ·simp
   ·rw [List.all_eq_false]
    exact ⟨m[i],List.getElem_mem _,by simp [hct]⟩
 ·have hlt' : ¬ (i : Int) < m.length := by omega
  have htk : m.take i = m := List.take_of_length_le (by omega)
  simp [L_runes_first_2,h4,h5,h55,h56,h57,hlt']
  rw [htk] at h5 hc
  apply hQ
  ·simp [h4]
  ·simp [h5]
  ·exact hc

theorem head_and (b : UInt8) (h : 2 <= lead b) (h2 : b.toNat < 248) : IntKind.wrap .i32 (bAnd .u8 (b.toNat : Int) (bShr .u8 127 (lead b : Int))) = headR b := by
 have := all256 (p := fun b => decide (2 <= lead b -> b.toNat < 248 -> IntKind.wrap .i32 (bAnd .u8 (b.toNat : Int) (bShr .u8 127 (lead b : Int))) = headR b)) (by decide +kernel) b
 simp only [decide_eq_true_eq] at this
 exact this h h2

theorem runes_first_call (hsz : Has Γ A (f_runes_size N) (C_runes_size N)) (hsg : Has Γ A (f_runes_sign N) (C_runes_sign N)) (h : Has Γ A (f_runes_first N) (C_runes_first N)) (x : AV) (b : List UInt8) (H : Hp) (hx : VBytes H x b) :
  (lim Γ A).call (f_runes_first N) [x] H = some (.tup [avInt .i32 (rfirst b).1,avInt .i64 (rfirst b).2],none) := by
 apply h.call (by rfl)
 replace hx : VBytes { l := H.l,d := none } x b := Vw.dd hx none
 have hlen := hx.len
 cases b with
 | nil => 
  simp [C_runes_first,hlen,rfirst]
 | cons b0 l =>
  obtain ⟨p,hi,hi2⟩ := VBytes.at' hx (k := .i64) (i := 0) (by omega) (by simp)
  simp only [Int.reduceToNat,List.getElem_cons_zero] at hi hi2
  simp only [List.map_cons,List.length_cons,List.length_map] at hlen
  have hz : ¬ ((l.length : Int) + 1 = 0) := by omega
  by_cases h128 : b0.toNat < 128
  ·have h1 : (b0.toNat : Int) < 128 := by omega
   have hw : IntKind.wrap .i32 (b0.toNat : Int) = b0.toNat := wrap32 (by omega) (by omega)
   simp [C_runes_first,hlen,rfirst,hz,hi,hi2,avByte,h1,h128,hw]
  ·have h1 : ¬ (b0.toNat : Int) < 128 := by omega
   simp [C_runes_first,hlen,hz,hi,hi2,avByte,h1]
   refine first_loop1 hi hi2 (by omega) (by simp) (by simp) ?_
   intro ρ h0 h4
   simp only [blockP_exit,if_true,seqP_nrm]
   by_cases hl2 : lead b0 < 2
   ·have hl3 : (lead b0 : Int) < 2 := by omega
    simp [K_runes_first_1,h0,h4,hl3,rfirst,h128,hl2]
   ·have hl3 : ¬ (lead b0 : Int) < 2 := by omega
    by_cases hl5 : l.length + 1 < lead b0
    ·have hl6 : (l.length : Int) + 1 < lead b0 := by omega
     simp [K_runes_first_1,h0,h4,hl3,rfirst,h128,hl2,hlen,hl5,hl6]
    ·have hl6 : ¬ (l.length : Int) + 1 < lead b0 := by omega
     by_cases h248 : 248 <= b0.toNat
     ·have h249 : 248 <= (b0.toNat : Int) := by omega
      simp [K_runes_first_1,h0,h4,hl3,rfirst,h128,hl2,hlen,hl5,hl6,hi,hi2,avByte,h248,h249]
     ·have h249 : ¬ 248 <= (b0.toNat : Int) := by omega
      have hh := head_and b0 (by omega) (by omega)
      have h47 := lead_le b0
      obtain ⟨y,hy1,hy2⟩ := Vw.cut hx (k := .i64) (k' := .i64) (i := 1) (j := (lead b0 : Int)) (by omega) (by omega) (by simp; omega)
      simp only [List.map_cons,Int.reduceToNat,List.drop_succ_cons,List.drop_zero,Int.toNat_natCast,<- List.map_take] at hy2
      have hyl := hy2.len
      have hml : (l.take (lead b0 - 1)).length = lead b0 - 1 := by simp; omega
      rw [List.length_map,hml] at hyl
      have hf : rfirst (b0 :: l) = (if ((l.take (lead b0 - 1)).all isCont) = true then
        if runeSign (accB (headR b0) (l.take (lead b0 - 1))) = true /\ runeSize (accB (headR b0) (l.take (lead b0 - 1))) = lead b0 then (accB (headR b0) (l.take (lead b0 - 1)),(lead b0 : Int)) else (0,0)
       else (0,0)) := by
       simp only [rfirst,h128,if_false,hl2,hl5,h248,or_self]
      simp [K_runes_first_1,h0,h4,hl3,hlen,hl6,hi,hi2,avByte,h249,hy1,hyl,hh]
      have hhr : headR b0 = ((b0.toNat % 2 ^ (7 - lead b0) : Nat) : Int) := rfl
      have hr32 : b0.toNat % 2 ^ (7 - lead b0) < 32 := by
       have : b0.toNat % 2 ^ (7 - lead b0) < 2 ^ (7 - lead b0) := Nat.mod_lt _ (Nat.two_pow_pos _)
       refine Nat.lt_of_lt_of_le this ?_
       exact Nat.pow_le_pow_right (by omega) (by omega : 7 - lead b0 <= 5)
      refine first_loop2 (m := l.take (lead b0 - 1)) (n := avInt .i64 (lead b0)) hy2 (by rw [hml]; omega) hr32 (by simp [h4]) (by simp [hhr]) (by simp) (by simp [hml]) (by simp) ?_ ?_
      ·intro ρ h4 h5 hall
       simp only [blockP_exit,if_true,seqP_nrm]
       rw [hf,if_pos hall]
       rw [<- hhr] at h5
       have e1 := runes_sign_call hsg (accB (headR b0) (l.take (lead b0 - 1))) { l := H.l,d := none }
       have e2 := runes_size_call hsz (accB (headR b0) (l.take (lead b0 - 1))) { l := H.l,d := none }
       by_cases hs1 : runeSign (accB (headR b0) (l.take (lead b0 - 1))) = true
       ·by_cases hs2 : runeSize (accB (headR b0) (l.take (lead b0 - 1))) = lead b0
        ·simp [K_runes_first_2,h4,h5,e1,e2,hs1,hs2]
        ·simp [K_runes_first_2,h4,h5,e1,e2,hs1,hs2]
       ·simp [K_runes_first_2,h4,h5,e1,hs1]
      ·intro ρ h2 h3 hall
       rw [hf,hall]
       simp [h2,h3]

def rsigns : Nat -> Nat -> List UInt8 -> List (Nat × Int)
 | 0,_,_ => []
 | k + 1,at',b => if (rfirst b).2 = 0 then [] else (at',(rfirst b).1) :: rsigns k (at' + (rfirst b).2.toNat) (b.drop (rfirst b).2.toNat)
def allOf (b : List UInt8) : List (Nat × Int) := rsigns b.length 0 b
def encS (p : Nat × Int) : List AV := [avInt .i64 p.1,avInt .i32 p.2]

theorem rfirst_bound (b : List UInt8) : (rfirst b).2 = 0 \/ (1 <= (rfirst b).2 /\ (rfirst b).2 <= 4 /\ (rfirst b).2 <= b.length) := by
 cases b with
 | nil => exact .inl rfl
 | cons b0 l =>
  have := lead_le b0
  simp only [rfirst]
  split
  ·right; simp; omega
  ·split
   ·left; rfl
   ·split
    ·split
     ·right; rename_i h _ _; simp; omega
     ·left; rfl
    ·left; rfl
theorem rsigns_fuel : ∀ (k j at' : Nat) (b : List UInt8),b.length <= k -> b.length <= j -> rsigns k at' b = rsigns j at' b
 | 0,0,_,_,_,_ => rfl
 | 0,j + 1,at',b,h,_ => by
  have : b = [] := by cases b with | nil => rfl | cons => simp at h
  subst this; simp [rsigns,rfirst]
 | k + 1,0,at',b,_,h => by
  have : b = [] := by cases b with | nil => rfl | cons => simp at h
  subst this; simp [rsigns,rfirst]
 | k + 1,j + 1,at',b,h1,h2 => by
  simp only [rsigns]
  rcases rfirst_bound b with h | ⟨h3,h4,h5⟩
  ·simp [h]
  ·have hne : ¬ (rfirst b).2 = 0 := by omega
   rw [if_neg hne,if_neg hne,rsigns_fuel k j _ _ (by simp; omega) (by simp; omega)]
theorem rsigns_step {at' : Nat} {b : List UInt8} (h : (rfirst b).2 ≠ 0) : rsigns b.length at' b = (at',(rfirst b).1) :: rsigns (b.drop (rfirst b).2.toNat).length (at' + (rfirst b).2.toNat) (b.drop (rfirst b).2.toNat) := by
 rcases rfirst_bound b with h' | ⟨h3,h4,h5⟩
 ·exact absurd h' h
 ·obtain ⟨k,hk⟩ : ∃ k,b.length = k + 1 := ⟨b.length - 1,by omega⟩
  rw [hk]
  simp only [rsigns]
  rw [if_neg h,rsigns_fuel k _ _ _ (by simp; omega) (Nat.le_refl _)]
theorem rsigns_stop {at' : Nat} {b : List UInt8} (h : (rfirst b).2 = 0) (k : Nat) : rsigns k at' b = [] := by
 cases k with
 | zero => rfl
 | succ k => simp [rsigns,h]

structure RunesAll (Γ : Sums) (A : Tab) (N : Nat -> Nat) : Prop where
 size : Has Γ A (f_runes_size N) (C_runes_size N)
 sign : Has Γ A (f_runes_sign N) (C_runes_sign N)
 first : Has Γ A (f_runes_first N) (C_runes_first N)
 all : Has Γ A (f_runes_All N) (C_runes_All N)
 all1 : Has Γ A (f_runes_All_1 N) (C_runes_All_1 N)

theorem runes_All_call (h : RunesAll Γ A N) {x : AV} {b : List UInt8} (H : Hp) (hx : VBytes H x b) : (lim Γ A).call (f_runes_All N) [x] H = some (.fn (f_runes_All_1 N) [] [.vp [x]],none) := by
 apply h.all.call (by rfl)
 have hg := Vw.good hx
 simp [C_runes_All,hg.1]
 apply settleZ_frz
 ·simp [keeps]
 ·rw [frz_fn,mapM_cons',frz_ptr (cs := x.cells) (t := t_sl_uint8 N) (by simp) (by simp) (by simp),hg.2,List.drop_zero,mapM_cons',Vw.frz hx (bytes_lits b)]
  rfl

theorem runes_All_gen (h : RunesAll Γ A N) {x : AV} {b : List UInt8} (hb : b.length < 2 ^ 62) : GenW (lim Γ A) (f_runes_All_1 N) [] [.vp [x]] (fun H => VBytes H x b) ((allOf b).map encS) := by
 intro l H K Kx hl hV h0 hstep
 have hlen := Vw.len (hV _ _ h0)
 rw [List.length_map] at hlen
 have key : ∃ r,(lim Γ A).ent (f_runes_All_1 N) [.yld l,.vp [x]] H = some r /\ ∃ H2,(r.2.getD H).l = H2.l /\ (r.2.getD H).d = dminO H.d H2.d /\ (K (allOf b).length H2 \/ Kx H2) := by
  apply h.all1.entP (by rfl)
  simp [C_runes_All_1]
  have fin : ∀ H',((∃ m,H'.d = some m /\ m <= l) \/ H' = { l := H.l,d := none }) -> (K (allOf b).length H' \/ Kx H') -> ∃ H2,((settle H (.tup []) H').2.getD H).l = H2.l /\ ((settle H (.tup []) H').2.getD H).d = dminO H.d H2.d /\ (K (allOf b).length H2 \/ Kx H2) := by
   rintro H' (⟨m,hm,hml⟩ | rfl) hk
   ·refine ⟨H',?_,?_,hk⟩ <;> (have : keeps H H' = false := (by simp [keeps,hm]; omega); simp [settle,this])
   ·refine ⟨_,?_,?_,hk⟩ <;> simp [settle,keeps,AV.under,AV.unders]
  refine wp_round (fun k ρ H' => ∃ i at' : Nat,ρ 0 = .yld l /\ ρ 1 = .vp [x] /\ ρ 3 = avInt .i64 at' /\ at' <= b.length /\ K i H' /\ ((∃ m,H'.d = some m /\ m <= l) \/ H' = { l := H.l,d := none }) /\ i <= (allOf b).length /\
   (allOf b).drop i = rsigns (b.drop at').length at' (b.drop at') /\ k = b.length - at') (n := b.length) ⟨0,0,by simp,by simp,by simp,by omega,h0,.inr rfl,by omega,by simp [allOf],by simp⟩ ?_
  rintro k ρ H' ⟨i,at',r0,r1,r3,hat,hK,hd,hil,hs,rfl⟩
  have stop : rsigns (b.drop at').length at' (b.drop at') = [] -> K (allOf b).length H' := by
   intro hn
   rw [hn] at hs
   have hi : (allOf b).length <= i := List.drop_eq_nil_iff.1 hs
   have : i = (allOf b).length := by omega
   rw [<- this]; exact hK
  by_cases hlt : at' < b.length
  ·have hlt' : (at' : Int) < b.length := by omega
   have hx := hV _ _ hK
   obtain ⟨y,hy1,hy2⟩ := Vw.from' hx (k := .i64) (i := (at' : Int)) (by omega) (by simp; omega)
   rw [Int.toNat_natCast,<- List.map_drop] at hy2
   have hf := runes_first_call h.size h.sign h.first y (b.drop at') H' hy2
   rcases rfirst_bound (b.drop at') with hz | ⟨h3,h4,h5⟩
   ·simp [L_runes_All_1_1,r0,r1,r3,hlen,hlt',hy1,hf,hz]
    exact fin H' hd (.inl (stop (rsigns_stop hz _)))
   ·have hz : ¬ (rfirst (b.drop at')).2 = 0 := by omega
    rw [rsigns_step hz] at hs
    have hi : i < (allOf b).length := by
     rcases Nat.lt_or_ge i (allOf b).length with h | h
     ·exact h
     ·rw [List.drop_eq_nil_of_le h] at hs; cases hs
    rw [List.drop_eq_getElem_cons hi] at hs
    injection hs with hs1 hs2
    obtain ⟨t,H'',e1,e2,e3,e4⟩ := hstep i (by simpa using hi) H' hK
    rw [List.getElem_map,hs1] at e1
    simp only [encS] at e1
    rw [List.length_drop] at h5
    cases t with
    | false =>
     simp [L_runes_All_1_1,r0,r1,r3,hlen,hlt',hy1,hf,hz,e1]
     exact fin H'' (.inl e2) (.inr (e4 rfl))
    | true =>
     have hw : IntKind.wrap .i64 ((at' : Int) + (rfirst (b.drop at')).2) = ((at' + (rfirst (b.drop at')).2.toNat : Nat) : Int) := by rw [wrap64 (by omega) (by omega)]; omega
     simp [L_runes_All_1_1,r0,r1,r3,hlen,hlt',hy1,hf,hz,e1,hw,-Int.natCast_add]
     refine ⟨b.length - (at' + (rfirst (b.drop at')).2.toNat),by omega,i + 1,at' + (rfirst (b.drop at')).2.toNat,rfl,by omega,e3 rfl,.inl e2,by omega,?_,rfl⟩
     rw [hs2,List.drop_drop,List.length_drop]
  ·have hlt' : ¬ (at' : Int) < b.length := by omega
   simp [L_runes_All_1_1,r0,r1,r3,hlen,hlt']
   refine fin H' hd (.inl (stop ?_))
   rw [List.drop_eq_nil_of_le (by omega)]
   exact rsigns_stop rfl _
 obtain ⟨r,e,H2,e1,e2,e3⟩ := key
 exact ⟨r.1,r.2,H2,e,e1,e2,by rw [List.length_map]; exact e3⟩

def rstop : Nat -> Nat -> List UInt8 -> Nat
 | 0,at',_ => at'
 | k + 1,at',b => if (rfirst b).2 = 0 then at' else rstop k (at' + (rfirst b).2.toNat) (b.drop (rfirst b).2.toNat)
def stopOf (b : List UInt8) : Nat := rstop b.length 0 b
def badOf (b : List UInt8) : Int := if stopOf b = b.length then -1 else stopOf b
def endOf (init : Int) (l : List (Nat × Int)) : Int := l.foldl (fun _ p => (p.1 : Int) + runeSize p.2) init

theorem rfirst_size (b : List UInt8) (h : (rfirst b).2 ≠ 0) : runeSize (rfirst b).1 = (rfirst b).2 := by
 cases b with
 | nil => exact absurd rfl h
 | cons b0 l =>
  simp only [rfirst] at h ⊢
  split at h
  ·rename_i h1; rw [if_pos h1]; simp [runeSize]; omega
  ·rename_i h1
   rw [if_neg h1]
   split at h
   ·exact absurd rfl h
   ·rename_i h2
    rw [if_neg h2]
    split at h
    ·rename_i h3
     rw [if_pos h3]
     split at h
     ·rename_i h4; rw [if_pos h4]; exact h4.2
     ·exact absurd rfl h
    ·exact absurd rfl h
theorem endOf_rsigns : ∀ (k at' : Nat) (b : List UInt8),endOf at' (rsigns k at' b) = rstop k at' b
 | 0,at',b => rfl
 | k + 1,at',b => by
  simp only [rsigns,rstop]
  split
  ·rfl
  ·rename_i h
   have hb := rfirst_bound b
   have hs := rfirst_size b h
   simp only [endOf,List.foldl_cons,hs]
   have := endOf_rsigns k (at' + (rfirst b).2.toNat) (b.drop (rfirst b).2.toNat)
   simp only [endOf] at this
   rw [<- this]
   congr 1
   omega
theorem rstop_le : ∀ (k at' : Nat) (b : List UInt8),rstop k at' b <= at' + b.length
 | 0,at',b => by simp [rstop]
 | k + 1,at',b => by
  simp only [rstop]
  split
  ·omega
  ·have hb := rfirst_bound b
   have := rstop_le k (at' + (rfirst b).2.toNat) (b.drop (rfirst b).2.toNat)
   rw [List.length_drop] at this
   omega
theorem rsigns_le : ∀ (k at' : Nat) (b : List UInt8),∀ p ∈ rsigns k at' b,p.1 < at' + b.length
 | 0,at',b => by simp [rsigns]
 | k + 1,at',b => by
  intro p hp
  simp only [rsigns] at hp
  split at hp
  ·simp at hp
  ·have hb := rfirst_bound b
   rcases List.mem_cons.1 hp with rfl | hp
   ·simp only []; omega
   ·have := rsigns_le k (at' + (rfirst b).2.toNat) (b.drop (rfirst b).2.toNat) p hp
    rw [List.length_drop] at this
    omega

theorem endOf_take {b : List UInt8} {i : Nat} (hi : i < (allOf b).length) : endOf 0 ((allOf b).take (i + 1)) = ((allOf b)[i].1 : Int) + runeSize (allOf b)[i].2 := by
 rw [List.take_succ_eq_append_getElem hi]
 simp only [endOf,List.foldl_append,List.foldl_cons,List.foldl_nil]

theorem runes_Bad_call (h : RunesAll Γ A N) (hb : Has Γ A (f_runes_Bad N) (C_runes_Bad N)) {x : AV} {b : List UInt8} (H : Hp) (hx : VBytes H x b) (hl : b.length < 2 ^ 62) : (lim Γ A).call (f_runes_Bad N) [x] H = some (avInt .i64 (badOf b),none) := by
 apply hb.call (by rfl)
 have hlen := hx.len
 rw [List.length_map] at hlen
 have hall := runes_All_call h (hset (halloc { l := H.l,d := none } (.cells [AV.lit (.int .i64 0)] (t_int N))) H.l.length (some (.cells [AV.lit (.int .i64 0)] (t_int N)))) (x := x) (b := b) (Vw.loc hx (((Loc.start H).alloc _).set _))
 simp [C_runes_Bad,hall]
 refine wp_rangeFn (H0 := H) (os := [(H.l.length,.cells [avInt .i64 0] (t_int N))]) (by simp) (runes_All_gen h (x := x) hl) rfl (by simpa using ((Loc.start H).alloc (.cells [avInt .i64 0] (t_int N))).set (.cells [avInt .i64 0] (t_int N))) (by intro x hx; obtain ⟨p,_,rfl⟩ := List.mem_map.1 hx; rfl)
  (fun i os => os = [(H.l.length,.cells [avInt .i64 (endOf 0 ((allOf b).take i))] (t_int N))]) (fun _ _ => False) (fun _ _ _ _ _ hL _ => Vw.loc hx hL) (by simp [endOf]) ?_ ?_
 ·rintro i hi l lo lb H' os' _ hL rfl
  simp only [List.length_map] at hi
  simp [L_runes_Bad_1,encS]
  refine ⟨_,hL,?_⟩
  intro H1 hL1
  have a1 := hL1.get (p := (H.l.length,.cells [avInt .i64 (endOf 0 ((allOf b).take i))] (t_int N))) (by simp)
  simp only [] at a1
  have hle := rsigns_le _ _ _ _ (List.getElem_mem hi)
  have hsz : 1 <= runeSize (allOf b)[i].2 /\ runeSize (allOf b)[i].2 <= 4 := by unfold runeSize; (repeat' split) <;> omega
  have hw : IntKind.wrap .i64 (((allOf b)[i].1 : Int) + runeSize (allOf b)[i].2) = endOf 0 ((allOf b).take (i + 1)) := by rw [wrap64 (by omega) (by omega),endOf_take hi]
  simp [L_runes_Bad_2,runes_size_call h.size,a1,hw]
  exact hL1.setMid (as := [_]) _
 ·intro x H2 os2 hL hx
  rcases hx with ⟨rfl,rfl⟩ | ⟨_,hf⟩
  ·have a1 := hL.head
   have he : endOf 0 ((allOf b).take ((allOf b).map encS).length) = stopOf b := by
    rw [List.length_map,List.take_length]; exact endOf_rsigns _ _ _
   rw [he] at a1
   by_cases hs : stopOf b = b.length
   ·simp [K_runes_Bad_1,a1,hlen,hs,badOf]
    exact settle_keeps hL.keeps rfl
   ·have hs' : ¬ (stopOf b : Int) = b.length := by omega
    simp [K_runes_Bad_1,a1,hlen,hs,hs',badOf]
    exact settle_keeps hL.keeps rfl
  ·exact hf.elim

end
end Go.Proofs.Eng
namespace Go.Proofs.Eng
open Go
section
variable {Γ : Sums} {A : Tab} {N : Nat -> Nat}

def isLow (c : UInt8) : Bool := decide (97 <= c.toNat) && decide (c.toNat <= 122) || decide (c.toNat = 95)
def isDigit (c : UInt8) : Bool := decide (48 <= c.toNat) && decide (c.toNat <= 57)
def isHigh (c : UInt8) : Bool := decide (65 <= c.toNat) && decide (c.toNat <= 90)
def isInName (c : UInt8) : Bool := isLow c || isDigit c
def isInAlias (c : UInt8) : Bool := isHigh c || isDigit c || (decide (97 <= c.toNat) && decide (c.toNat <= 122))
def notLine (c : UInt8) : Bool := !decide (c.toNat = 10)
def isBlank (c : UInt8) : Bool := decide (c.toNat = 32) || decide (c.toNat = 9) || decide (c.toNat = 10) || decide (c.toNat = 13)
def wordsL : List (List UInt8) := [[102,117,110],[108,101,116],[114,101,99],[105,110],[105,102],[116,104,101,110],[101,108,115,101],[99,97,115,101],[111,102],[101,110,100],[116,114,117,101],[102,97,108,115,101],[105,110,116],[98,111,111,108],[115,116,114],[102,108,111,97,116],[100,121,110],[97,110,121],[110,111,110,101],[116,121,112,101]]
def signsL : List (List UInt8) := [[61,62],[45,62],[61,61],[46,46],[43,46],[45,46],[42,46],[47,46],[60,46],[40],[41],[123],[125],[91],[93],[44],[59],[58],[46],[61],[124],[43],[45],[42],[47],[60],[94]]

structure LexS (Γ : Sums) (A : Tab) (N : Nat -> Nat) : Prop where
 low : Has Γ A (f_lexer_low N) (C_lexer_low N)
 high : Has Γ A (f_lexer_high N) (C_lexer_high N)
 digit : Has Γ A (f_lexer_digit N) (C_lexer_digit N)
 inName : Has Γ A (f_lexer_inName N) (C_lexer_inName N)
 inAlias : Has Γ A (f_lexer_inAlias N) (C_lexer_inAlias N)
 blank1 : Has Γ A (f_lexer_blank_1 N) (C_lexer_blank_1 N)
 run : Has Γ A (f_lexer_run N) (C_lexer_run N)
 words : Has Γ A (f_lexer_words N) (C_lexer_words N)
 signs : Has Γ A (f_lexer_signs N) (C_lexer_signs N)
 contains : Has Γ A (f_slices_Contains_sl_string_string N) (C_slices_Contains_sl_string_string N)
 index : Has Γ A (f_slices_Index_sl_string_string N) (C_slices_Index_sl_string_string N)
 isWord : Has Γ A (f_lexer_IsWord N) (C_lexer_IsWord N)
 isName : Has Γ A (f_lexer_IsName N) (C_lexer_IsName N)
 number : Has Γ A (f_lexer_number N) (C_lexer_number N)

theorem lexer_low_call (h : LexS Γ A N) (c : UInt8) (H : Hp) : (lim Γ A).call (f_lexer_low N) [avByte c] H = some (avBool (isLow c),none) := by
 apply h.low.call (by rfl)
 unfold isLow
 by_cases h1 : 97 <= c.toNat
 ·have h1' : (97 : Int) <= c.toNat := by omega
  by_cases h2 : c.toNat <= 122
  ·have h2' : (c.toNat : Int) <= 122 := by omega
   simp [C_lexer_low,avByte,h1,h1',h2,h2']
  ·have h2' : ¬ (c.toNat : Int) <= 122 := by omega
   have h3 : ¬ c.toNat = 95 := by omega
   have h3' : ¬ (c.toNat : Int) = 95 := by omega
   simp [C_lexer_low,avByte,h1,h1',h2,h2',h3,h3']
 ·have h1' : ¬ (97 : Int) <= c.toNat := by omega
  by_cases h3 : c.toNat = 95
  ·have h3' : (c.toNat : Int) = 95 := by omega
   simp [C_lexer_low,avByte,h3,h3']
  ·have h3' : ¬ (c.toNat : Int) = 95 := by omega
   simp [C_lexer_low,avByte,h1,h1',h3,h3']
theorem lexer_digit_call (h : LexS Γ A N) (c : UInt8) (H : Hp) : (lim Γ A).call (f_lexer_digit N) [avByte c] H = some (avBool (isDigit c),none) := by
 apply h.digit.call (by rfl)
 unfold isDigit
 by_cases h1 : 48 <= c.toNat
 ·have h1' : (48 : Int) <= c.toNat := by omega
  by_cases h2 : c.toNat <= 57
  ·have h2' : (c.toNat : Int) <= 57 := by omega
   simp [C_lexer_digit,avByte,h1,h1',h2,h2']
  ·have h2' : ¬ (c.toNat : Int) <= 57 := by omega
   simp [C_lexer_digit,avByte,h1,h1',h2,h2']
 ·have h1' : ¬ (48 : Int) <= c.toNat := by omega
  simp [C_lexer_digit,avByte,h1,h1']
theorem lexer_high_call (h : LexS Γ A N) (c : UInt8) (H : Hp) : (lim Γ A).call (f_lexer_high N) [avByte c] H = some (avBool (isHigh c),none) := by
 apply h.high.call (by rfl)
 unfold isHigh
 by_cases h1 : 65 <= c.toNat
 ·have h1' : (65 : Int) <= c.toNat := by omega
  by_cases h2 : c.toNat <= 90
  ·have h2' : (c.toNat : Int) <= 90 := by omega
   simp [C_lexer_high,avByte,h1,h1',h2,h2']
  ·have h2' : ¬ (c.toNat : Int) <= 90 := by omega
   simp [C_lexer_high,avByte,h1,h1',h2,h2']
 ·have h1' : ¬ (65 : Int) <= c.toNat := by omega
  simp [C_lexer_high,avByte,h1,h1']
theorem lexer_inName_call (h : LexS Γ A N) (c : UInt8) (H : Hp) : (lim Γ A).call (f_lexer_inName N) [avByte c] H = some (avBool (isInName c),none) := by
 apply h.inName.call (by rfl)
 unfold isInName
 have e1 := lexer_low_call h c
 have e2 := lexer_digit_call h c
 cases h1 : isLow c <;> rw [h1] at e1 <;> simp [C_lexer_inName,e1,e2]
theorem lexer_inAlias_call (h : LexS Γ A N) (c : UInt8) (H : Hp) : (lim Γ A).call (f_lexer_inAlias N) [avByte c] H = some (avBool (isInAlias c),none) := by
 apply h.inAlias.call (by rfl)
 unfold isInAlias
 have e1 := lexer_high_call h c
 have e2 := lexer_digit_call h c
 cases h1 : isHigh c <;> rw [h1] at e1
 ·cases h2 : isDigit c <;> rw [h2] at e2
  ·by_cases h3 : 97 <= c.toNat
   ·have h3' : (97 : Int) <= c.toNat := by omega
    by_cases h4 : c.toNat <= 122
    ·have h4' : (c.toNat : Int) <= 122 := by omega
     simp [C_lexer_inAlias,e1,e2,h3,h3',h4,h4']
    ·have h4' : ¬ (c.toNat : Int) <= 122 := by omega
     simp [C_lexer_inAlias,e1,e2,h3,h3',h4,h4']
   ·have h3' : ¬ (97 : Int) <= c.toNat := by omega
    simp [C_lexer_inAlias,e1,e2,h3,h3']
  ·simp [C_lexer_inAlias,e1,e2]
 ·simp [C_lexer_inAlias,e1,e2]
theorem lexer_blank1_call (h : LexS Γ A N) (c : UInt8) (H : Hp) : (lim Γ A).call (f_lexer_blank_1 N) [avByte c] H = some (avBool (notLine c),none) := by
 apply h.blank1.call (by rfl)
 unfold notLine
 by_cases h1 : c.toNat = 10
 ·have h1' : (c.toNat : Int) = 10 := by omega
  simp [C_lexer_blank_1,avByte,h1,h1']
 ·have h1' : ¬ (c.toNat : Int) = 10 := by omega
  simp [C_lexer_blank_1,avByte,h1,h1']

def runB (p : UInt8 -> Bool) (s : List UInt8) : Nat := (s.takeWhile p).length
theorem runB_le (p : UInt8 -> Bool) (s : List UInt8) : runB p s <= s.length := (List.takeWhile_prefix p).length_le
theorem runB_take (p : UInt8 -> Bool) (s : List UInt8) : s.take (runB p s) = s.takeWhile p := (List.prefix_iff_eq_take.1 (List.takeWhile_prefix p)).symm
theorem runB_drop (p : UInt8 -> Bool) (s : List UInt8) (i : Nat) (h : (s.take i).all p = true) (hi : i <= s.length) : runB p s = i + runB p (s.drop i) := by
 induction i generalizing s with
 | zero => simp
 | succ i ih =>
  cases s with
  | nil => simp at hi
  | cons a s =>
   simp only [List.take_succ_cons,List.all_cons,Bool.and_eq_true] at h
   simp only [List.length_cons] at hi
   have := ih s h.2 (by omega)
   simp only [runB,List.takeWhile_cons,h.1,if_true,List.length_cons,List.drop_succ_cons] at this ⊢
   omega
theorem runB_stop {p : UInt8 -> Bool} {a : UInt8} {s : List UInt8} (h : p a = false) : runB p (a :: s) = 0 := by simp [runB,h]

theorem lexer_run_call (h : LexS Γ A N) {g : FuncId} {p : UInt8 -> Bool} (hp : ∀ c H,(lim Γ A).call g [avByte c] H = some (avBool (p c),none)) (s : List UInt8) (hs : s.length < 2 ^ 40) (H : Hp) :
  (lim Γ A).call (f_lexer_run N) [avStr s,.fn g [] []] H = some (avInt .i64 (runB p s : Nat),none) := by
 apply h.run.call (by rfl)
 simp [C_lexer_run,-Int.natCast_add]
 refine wp_round (fun k ρ H' => H' = { l := H.l,d := none } /\ ∃ i : Nat,ρ 0 = avStr s /\ ρ 1 = .fn g [] [] /\ ρ 5 = avInt .i64 i /\ i <= s.length /\ (s.take i).all p = true /\ k = s.length - i) (n := s.length) ⟨rfl,0,rfl,rfl,rfl,by omega,by simp,rfl⟩ ?_
 rintro k ρ H' ⟨rfl,i,h0,h1,h5,hi,ha,rfl⟩
 have hrd := runB_drop p s i ha hi
 by_cases hl : i < s.length
 ·have hl' : (i : Int) < s.length := by omega
  have hx := asidx_nat (k := .i64) hl
  have hd : s.drop i = s[i] :: s.drop (i + 1) := List.drop_eq_getElem_cons hl
  cases hc : p s[i]
  ·have e := hp s[i]
   rw [hc] at e
   have : runB p s = i := by rw [hrd,hd,runB_stop hc]; omega
   simp [L_lexer_run_1,K_lexer_run_1,h0,h1,h5,hl',hx,e,this]
  ·have e := hp s[i]
   rw [hc] at e
   have hw : IntKind.wrap .i64 ((i : Int) + 1) = ((i + 1 : Nat) : Int) := by rw [wrap64 (by omega) (by omega)]; omega
   simp [L_lexer_run_1,h0,h1,h5,hl',hx,e,hw,-Int.natCast_add]
   refine ⟨_,?_,i + 1,rfl,by omega,?_,rfl⟩
   ·omega
   ·have ha2 : (s.take (i + 1)).all p = true := by rw [List.take_succ_eq_append_getElem hl,List.all_append,ha]; simp [hc]
    exact List.all_eq_true.1 ha2
 ·have hl' : ¬ (i : Int) < s.length := by omega
  have hi' : i = s.length := by omega
  have : runB p s = i := by rw [hrd,List.drop_of_length_le (by omega)]; simp [runB]
  simp [L_lexer_run_1,K_lexer_run_1,h0,h1,h5,hl',this]

theorem lexer_words_call (h : LexS Γ A N) (H : Hp) : (lim Γ A).call (f_lexer_words N) [] H = some (.sl 1 (wordsL.map avStr),none) := by
 apply h.words.call (by rfl)
 simp [C_lexer_words,wordsL]
 exact settleZ_ra rfl rfl (by simp)
theorem lexer_signs_call (h : LexS Γ A N) (H : Hp) : (lim Γ A).call (f_lexer_signs N) [] H = some (.sl 1 (signsL.map avStr),none) := by
 apply h.signs.call (by rfl)
 simp [C_lexer_signs,signsL]
 exact settleZ_ra rfl rfl (by simp)

theorem aiaddr_sln {sz : Nat} {xs : List AV} {k : IntKind} {i : Nat} {x : AV} (h : xs[i]? = some x) (hg : x.good = true) : aiaddr sz (.sl sz xs) (.lit (.int k i)) = some (.vp x.cells) := by
 simp [aiaddr,h,hg]
theorem index_call (h : LexS Γ A N) (l : List (List UInt8)) (s : List UInt8) (hl : l.length < 1000) (H : Hp) :
  ∃ i : Int,(lim Γ A).call (f_slices_Index_sl_string_string N) [.sl 1 (l.map avStr),avStr s] H = some (avInt .i64 i,none) /\ (0 <= i ↔ s ∈ l) := by
 obtain ⟨R,hR⟩ : ∃ R : AV × Option Hp -> Prop,R = fun r => ∃ i : Int,r = (avInt .i64 i,none) /\ (0 <= i ↔ s ∈ l) := ⟨_,rfl⟩
 have key : ∃ r,(lim Γ A).call (f_slices_Index_sl_string_string N) [.sl 1 (l.map avStr),avStr s] H = some r /\ R r := by
  apply h.index.callP (by rfl)
  simp [C_slices_Index_sl_string_string,asLen,-Int.natCast_add]
  refine wp_round (fun k ρ H' => H' = { l := H.l,d := none } /\ ∃ i : Nat,ρ 0 = .sl 1 (l.map avStr) /\ ρ 1 = avStr s /\ ρ 7 = avInt .i64 l.length /\ ρ 8 = avInt .i64 i /\ i <= l.length /\ (s ∉ l.take i) /\ k = l.length - i) (n := l.length)
   ⟨rfl,0,rfl,rfl,by simp,rfl,by omega,by simp,rfl⟩ ?_
  rintro k ρ H' ⟨rfl,i,h0,h1,h7,h8,hi,hn,rfl⟩
  by_cases hlt : i < l.length
  ·have hlt' : (i : Int) < l.length := by omega
   have ha := aiaddr_sln (sz := 1) (xs := l.map avStr) (k := .i64) (i := i) (x := avStr l[i]) (by simp [hlt]) rfl
   by_cases he : s = l[i]
   ·have hm : s ∈ l := by rw [he]; exact List.getElem_mem hlt
    simp [L_slices_Index_sl_string_string_1,h0,h1,h7,h8,hlt',ha,aload,he]
    rw [hR]
    refine ⟨i,rfl,?_⟩
    simp [hm]
   ·have hw : IntKind.wrap .i64 ((i : Int) + 1) = ((i + 1 : Nat) : Int) := by rw [wrap64 (by omega) (by omega)]; omega
    simp [L_slices_Index_sl_string_string_1,h0,h1,h7,h8,hlt',ha,aload,he,hw,-Int.natCast_add]
    refine ⟨_,?_,i + 1,rfl,by omega,?_,rfl⟩
    ·omega
    ·intro hm
     rw [List.take_succ_eq_append_getElem hlt] at hm
     rcases List.mem_append.1 hm with hm | hm
     ·exact hn hm
     ·exact he (List.mem_singleton.1 hm)
  ·have hlt' : ¬ (i : Int) < l.length := by omega
   have hi' : i = l.length := by omega
   subst hi'
   simp only [List.take_length] at hn
   simp [L_slices_Index_sl_string_string_1,K_slices_Index_sl_string_string_1,h0,h1,h7,h8]
   rw [hR]
   refine ⟨-1,rfl,?_⟩
   simp [hn]
 obtain ⟨r,e,hr⟩ := key
 rw [hR] at hr
 obtain ⟨i,rfl,hi⟩ := hr
 exact ⟨i,e,hi⟩

def isWordB (s : List UInt8) : Bool := decide (s ∈ wordsL)
theorem lexer_IsWord_call (h : LexS Γ A N) (s : List UInt8) (H : Hp) : (lim Γ A).call (f_lexer_IsWord N) [avStr s] H = some (avBool (isWordB s),none) := by
 apply h.isWord.call (by rfl)
 obtain ⟨i,e1,e2⟩ := index_call h wordsL s (by decide) { l := H.l,d := none }
 have e3 : (lim Γ A).call (f_slices_Contains_sl_string_string N) [.sl 1 (wordsL.map avStr),avStr s] { l := H.l,d := none } = some (avBool (isWordB s),none) := by
  apply h.contains.call (by rfl)
  simp [C_slices_Contains_sl_string_string,e1,isWordB,e2]
 simp only [C_lexer_IsWord]
 simp [lexer_words_call h,e3]

def isNameB (s : List UInt8) : Bool := !s.isEmpty && (s.head?.map isLow).getD false && decide (runB isInName s = s.length) && !isWordB s
theorem lexer_IsName_call (h : LexS Γ A N) (s : List UInt8) (hs : s.length < 2 ^ 40) (H : Hp) : (lim Γ A).call (f_lexer_IsName N) [avStr s] H = some (avBool (isNameB s),none) := by
 apply h.isName.call (by rfl)
 unfold isNameB
 cases s with
 | nil => simp [C_lexer_IsName]
 | cons c t =>
  have hx := asidx_nat (k := .i64) (s := c :: t) (i := 0) (by simp)
  simp only [List.getElem_cons_zero,Int.natCast_zero] at hx
  have e1 := lexer_low_call h c
  have e2 := lexer_run_call h (lexer_inName_call h) (c :: t) hs
  have e3 := lexer_IsWord_call h (c :: t)
  cases h1 : isLow c <;> rw [h1] at e1
  ·simp [C_lexer_IsName,hx,e1,h1]
  ·by_cases h2 : runB isInName (c :: t) = t.length + 1
   ·have h2' : (runB isInName (c :: t) : Int) = (t.length : Int) + 1 := by omega
    simp [C_lexer_IsName,hx,e1,h1,e2,e3,h2,h2']
   ·have h2' : ¬ (runB isInName (c :: t) : Int) = (t.length : Int) + 1 := by omega
    simp [C_lexer_IsName,hx,e1,h1,e2,e3,h2,h2']

def greatest : List UInt8 := [57,50,50,51,51,55,50,48,51,54,56,53,52,55,55,53,56,48,55]
def numberB (s : List UInt8) : Bool := !(decide (1 < s.length) && (s.head?.map fun c => decide (c.toNat = 48)).getD false) && (decide (s.length < 19) || decide (s.length = 19) && (Op.bytesLess s greatest || s == greatest))
theorem lexer_number_call (h : LexS Γ A N) (s : List UInt8) (H : Hp) : (lim Γ A).call (f_lexer_number N) [avStr s] H = some (avBool (numberB s),none) := by
 apply h.number.call (by rfl)
 unfold numberB
 by_cases h1 : 1 < s.length
 ·have h1' : (1 : Int) < s.length := by omega
  obtain ⟨c,hh,hx⟩ : ∃ c,s.head? = some c /\ asidx (avStr s) (.lit (.int .i64 0)) = some (avByte c) := by
   cases s with
   | nil => simp at h1
   | cons c t => exact ⟨c,rfl,asidx_nat (k := .i64) (s := c :: t) (i := 0) (by simp)⟩
  by_cases h2 : c.toNat = 48
  ·have h2' : (c.toNat : Int) = 48 := by omega
   simp [C_lexer_number,hx,hh,h1,h1',h2,h2']
  ·have h2' : ¬ (c.toNat : Int) = 48 := by omega
   by_cases h3 : s.length < 19
   ·have h3' : (s.length : Int) < 19 := by omega
    simp [C_lexer_number,hx,hh,h1,h1',h2,h2',h3,h3']
   ·have h3' : ¬ (s.length : Int) < 19 := by omega
    by_cases h4 : s.length = 19
    ·have h4' : (s.length : Int) = 19 := by omega
     simp [C_lexer_number,hx,hh,h2,h2',h4,h4',greatest]
    ·have h4' : ¬ (s.length : Int) = 19 := by omega
     simp [C_lexer_number,hx,hh,h1,h1',h2,h2',h3,h3',h4,h4',greatest]
 ·have h1' : ¬ (1 : Int) < s.length := by omega
  have h3 : s.length < 19 := by omega
  have h3' : (s.length : Int) < 19 := by omega
  simp [C_lexer_number,h1,h1',h3,h3']
end
end Go.Proofs.Eng
namespace Go.Proofs.Eng
open Go
section
variable {Γ : Sums} {A : Tab} {N : Nat -> Nat}

structure LexT (Γ : Sums) (A : Tab) (N : Nat -> Nat) : Prop where
 strs : Strs Γ A N
 cut : Has Γ A (f_strings_CutPrefix N) (C_strings_CutPrefix N)
 cut' : Has Γ A (f_internal_stringslite_CutPrefix N) (C_internal_stringslite_CutPrefix N)
 idx : Has Γ A (f_strings_IndexByte N) (C_strings_IndexByte N)
 idx' : Has Γ A (f_internal_stringslite_IndexByte N) (C_internal_stringslite_IndexByte N)
 idxS : ∀ s c H,(lim Γ A).call (f_internal_bytealg_IndexByteString N) [avStr s,avByte c] H = some (avInt .i64 (idxOf (mkS s) c.toNat),none)
 bits : ∀ n H,(lim Γ A).call (f_math_Float64frombits N) [avInt .u64 n] H = some (.lit (.float .f64 n.toNat),none)
 of : Has Γ A (f_floats_Of N) (C_floats_Of N)
 parse : Has Γ A (f_floats_Parse N) (C_floats_Parse N)
 float : Has Γ A (f_lexer_float N) (C_lexer_float N)
 text : Has Γ A (f_lexer_text N) (C_lexer_text N)
 blank : Has Γ A (f_lexer_blank N) (C_lexer_blank N)

theorem IndexByte_call (h : LexT Γ A N) (s : List UInt8) (c : UInt8) (H : Hp) : (lim Γ A).call (f_strings_IndexByte N) [avStr s,avByte c] H = some (avInt .i64 (idxOf (mkS s) c.toNat),none) := by
 have e : ∀ H,(lim Γ A).call (f_internal_stringslite_IndexByte N) [avStr s,avByte c] H = some (avInt .i64 (idxOf (mkS s) c.toNat),none) := by
  intro H
  apply h.idx'.call (by rfl)
  simp [C_internal_stringslite_IndexByte,h.idxS]
 apply h.idx.call (by rfl)
 simp [C_strings_IndexByte,e]
theorem CutPrefix_call (h : LexT Γ A N) (s t : List UInt8) (H : Hp) : (lim Γ A).call (f_strings_CutPrefix N) [avStr s,avStr t] H = some (if t.isPrefixOf s = true then .tup [avStr (s.drop t.length),avBool true] else .tup [avStr s,avBool false],none) := by
 have e : ∀ H,(lim Γ A).call (f_internal_stringslite_CutPrefix N) [avStr s,avStr t] H = some (if t.isPrefixOf s = true then .tup [avStr (s.drop t.length),avBool true] else .tup [avStr s,avBool false],none) := by
  intro H
  apply h.cut'.call (by rfl)
  cases hp : t.isPrefixOf s
  ·simp [C_internal_stringslite_CutPrefix,slite_HasPrefix_call h.strs.has',hp]
  ·have hl : t.length <= s.length := (List.isPrefixOf_iff_prefix.1 hp).length_le
   have e := aslstr_from (k := .i64) (s := s) (i := (t.length : Int)) (by omega) (by simpa using hl)
   simp only [Int.toNat_natCast] at e
   simp [C_internal_stringslite_CutPrefix,slite_HasPrefix_call h.strs.has',hp,e]
 apply h.cut.call (by rfl)
 cases hp : t.isPrefixOf s
 ·rw [hp] at e
  simp only [Bool.false_eq_true,if_false] at e
  simp [C_strings_CutPrefix,e,hp]
 ·rw [hp] at e
  simp only [if_true] at e
  simp [C_strings_CutPrefix,e,hp]

def isHex (c : UInt8) : Bool := isDigit c || (decide (97 <= c.toNat) && decide (c.toNat <= 102))
theorem idx_hex (c : UInt8) : decide (0 <= idxOf (mkS [48,49,50,51,52,53,54,55,56,57,97,98,99,100,101,102]) c.toNat) = isHex c := by
 have := all256 (p := fun c => decide (decide (0 <= idxOf (mkS [48,49,50,51,52,53,54,55,56,57,97,98,99,100,101,102]) c.toNat) = isHex c)) (by decide +kernel) c
 simpa only [decide_eq_true_eq] using this
theorem idx_blank (c : UInt8) : decide (0 <= idxOf (mkS [32,9,10,13]) c.toNat) = isBlank c := by
 have := all256 (p := fun c => decide (decide (0 <= idxOf (mkS [32,9,10,13]) c.toNat) = isBlank c)) (by decide +kernel) c
 simpa only [decide_eq_true_eq] using this
def escB (c : UInt8) : Option UInt8 := if c.toNat = 34 then some 34 else if c.toNat = 92 then some 92 else if c.toNat = 110 then some 10 else none
theorem idx_esc (c : UInt8) : match escB c with
  | none => idxOf (mkS [34,92,110]) c.toNat < 0
  | some d => 0 <= idxOf (mkS [34,92,110]) c.toNat /\ asidx (avStr [34,92,10]) (avInt .i64 (idxOf (mkS [34,92,110]) c.toNat)) = some (avByte d) := by
 have h : ∀ c : UInt8,escB c = none /\ idxOf (mkS [34,92,110]) c.toNat = -1 \/ escB c = some 34 /\ idxOf (mkS [34,92,110]) c.toNat = 0 \/ escB c = some 92 /\ idxOf (mkS [34,92,110]) c.toNat = 1 \/ escB c = some 10 /\ idxOf (mkS [34,92,110]) c.toNat = 2 := by
  intro c
  have := all256 (p := fun c => decide (escB c = none /\ idxOf (mkS [34,92,110]) c.toNat = -1 \/ escB c = some 34 /\ idxOf (mkS [34,92,110]) c.toNat = 0 \/ escB c = some 92 /\ idxOf (mkS [34,92,110]) c.toNat = 1 \/ escB c = some 10 /\ idxOf (mkS [34,92,110]) c.toNat = 2)) (by decide +kernel) c
  simpa only [decide_eq_true_eq] using this
 rcases h c with ⟨e,i⟩ | ⟨e,i⟩ | ⟨e,i⟩ | ⟨e,i⟩ <;> rw [e,i]
 ·decide
 ·exact ⟨by decide,rfl⟩
 ·exact ⟨by decide,rfl⟩
 ·exact ⟨by decide,rfl⟩

theorem floats_Of_call (h : LexT Γ A N) (n : Int) (H : Hp) : ∃ m : Int,(lim Γ A).call (f_floats_Of N) [avInt .u64 n] H = some (avInt .u64 m,none) := by
 obtain ⟨R,hR⟩ : ∃ R : AV × Option Hp -> Prop,R = fun r => ∃ m : Int,r = (avInt .u64 m,none) := ⟨_,rfl⟩
 have key : ∃ r,(lim Γ A).call (f_floats_Of N) [avInt .u64 n] H = some r /\ R r := by
  apply h.of.callP (by rfl)
  simp [C_floats_Of,h.bits]
  have e : aeq .pfloat (.lit (.float .f64 n.toNat)) (.lit (.float .f64 n.toNat)) = some (Op.floatEq .f64 n.toNat n.toNat) := by simp [aeq,aprim,eqFl]
  rw [e,bindO_some]
  cases Op.floatEq .f64 n.toNat n.toNat
  ·simp; rw [hR]; exact ⟨_,rfl⟩
  ·simp; rw [hR]; exact ⟨_,rfl⟩
 obtain ⟨r,e,hr⟩ := key
 rw [hR] at hr
 obtain ⟨m,rfl⟩ := hr
 exact ⟨m,e⟩

def parseOk (s : List UInt8) : Bool := [102,39].isPrefixOf s && decide (s.length = 18) && (s.drop 2).all isHex
theorem floats_Parse_call (h : LexT Γ A N) (s : List UInt8) (hs : s.length < 2 ^ 40) (H : Hp) :
  ∃ m : Int,(lim Γ A).call (f_floats_Parse N) [avStr s] H = some (.tup [avInt .u64 m,avInt .i64 (if parseOk s = true then 0 else 14)],none) := by
 obtain ⟨R,hR⟩ : ∃ R : AV × Option Hp -> Prop,R = fun r => ∃ m : Int,r = (.tup [avInt .u64 m,avInt .i64 (if parseOk s = true then 0 else 14)],none) := ⟨_,rfl⟩
 have key : ∃ r,(lim Γ A).call (f_floats_Parse N) [avStr s] H = some r /\ R r := by
  apply h.parse.callP (by rfl)
  have hcut := CutPrefix_call h s [102,39]
  cases hp : [102,39].isPrefixOf s
  ·rw [hp] at hcut
   simp only [Bool.false_eq_true,if_false] at hcut
   simp [C_floats_Parse,hcut]
   rw [hR]
   exact ⟨0,by simp [parseOk,hp]⟩
  ·rw [hp] at hcut
   simp only [if_true,List.length_cons,List.length_nil] at hcut
   have h2 : 2 <= s.length := by simpa using (List.isPrefixOf_iff_prefix.1 hp).length_le
   have hdl : (s.drop 2).length = s.length - 2 := by simp
   by_cases hl : s.length = 18
   ·have hdl' : (s.drop 2).length = 16 := by omega
    have hdl2 : ((s.drop 2).length : Int) = 16 := by omega
    generalize hr : s.drop 2 = r at *
    simp [C_floats_Parse,hcut,hr,hdl',hdl2]
    refine wp_round (fun k ρ H' => H' = { l := H.l,d := none } /\ ∃ (i : Nat) (m : Int),ρ 0 = avStr r /\ ρ 5 = avInt .u64 m /\ ρ 21 = avInt .i64 16 /\ ρ 22 = avInt .i64 i /\ i <= 16 /\ (r.take i).all isHex = true /\ k = 16 - i) (n := 16)
     ⟨rfl,0,0,rfl,rfl,by simp,rfl,by omega,by simp,rfl⟩ ?_
    rintro k ρ H' ⟨rfl,i,m,h0,h5,h21,h22,hi,ha,rfl⟩
    by_cases hlt : i < 16
    ·have hlt' : (i : Int) < 16 := by omega
     have hlr : i < r.length := by omega
     have hx := asidx_nat (k := .i64) hlr
     have hix := idx_hex r[i]
     have hib := fun s c => IndexByte_call h s c
     cases hc : isHex r[i]
     ·rw [hc,decide_eq_false_iff_not] at hix
      have hix' : idxOf (mkS [48,49,50,51,52,53,54,55,56,57,97,98,99,100,101,102]) r[i].toNat < 0 := by omega
      simp [L_floats_Parse_1,h0,h5,h21,h22,hlt',hx,hib,hix']
      rw [hR]
      refine ⟨0,?_⟩
      have : r.all isHex = false := by
       rw [Bool.eq_false_iff]
       intro hA
       rw [List.all_eq_true] at hA
       rw [hA _ (List.getElem_mem hlr)] at hc
       simp at hc
      simp [parseOk,hp,hl,hr,this]
     ·rw [hc,decide_eq_true_eq] at hix
      have hix' : ¬ idxOf (mkS [48,49,50,51,52,53,54,55,56,57,97,98,99,100,101,102]) r[i].toNat < 0 := by omega
      have hw : IntKind.wrap .i64 ((i : Int) + 1) = ((i + 1 : Nat) : Int) := by rw [wrap64 (by omega) (by omega)]; omega
      simp [L_floats_Parse_1,h0,h5,h21,h22,hlt',hx,hib,hix',hw,-Int.natCast_add]
      refine ⟨_,?_,i + 1,rfl,by omega,?_,rfl⟩
      ·omega
      ·have ha2 : (r.take (i + 1)).all isHex = true := by rw [List.take_succ_eq_append_getElem hlr,List.all_append,ha]; simp [hc]
       exact List.all_eq_true.1 ha2
    ·have hlt' : ¬ (i : Int) < 16 := by omega
     have hi' : i = 16 := by omega
     obtain ⟨m2,hof⟩ := floats_Of_call h m { l := H.l,d := none }
     simp [L_floats_Parse_1,K_floats_Parse_1,h0,h5,h21,h22,hlt',hof]
     rw [hR]
     refine ⟨m2,?_⟩
     rw [List.take_of_length_le (by omega)] at ha
     simp [parseOk,hp,hl,hr,ha]
   ·have hdl2 : ¬ ((s.drop 2).length : Int) = 16 := by omega
    generalize hr : s.drop 2 = r at *
    simp [C_floats_Parse,hcut,hdl2]
    rw [hR]
    exact ⟨0,by simp [parseOk,hl]⟩
 obtain ⟨r,e,hr⟩ := key
 rw [hR] at hr
 obtain ⟨m,rfl⟩ := hr
 exact ⟨m,e⟩

def floatOk (s : List UInt8) : Bool := [102,39].isPrefixOf s && decide (18 <= s.length) && ((s.drop 2).take 16).all isHex
def floatT (s : List UInt8) : List UInt8 := if s.length < 18 then [] else s.take 18
theorem floatT_ok {s : List UInt8} (h : floatOk s = true) : floatT s = s.take 18 := by
 simp only [floatOk,Bool.and_eq_true,decide_eq_true_eq] at h
 unfold floatT
 rw [if_neg (by omega)]
theorem lexer_float_call (h : LexT Γ A N) (s : List UInt8) (hs : s.length < 2 ^ 40) (H : Hp) :
  (lim Γ A).call (f_lexer_float N) [avStr s] H = some (.tup [avStr (floatT s),avBool (floatOk s)],none) := by
 by_cases hl : s.length < 18
 ·have hl' : (s.length : Int) < 18 := by omega
  have hl2 : ¬ 18 <= s.length := by omega
  apply h.float.call (by rfl)
  simp [C_lexer_float,hl',floatOk,hl2,floatT,hl]
 ·have hl' : ¬ (s.length : Int) < 18 := by omega
  have hl2 : 18 <= s.length := by omega
  apply h.float.call (by rfl)
  have hc := aslstr_upto (k := .i64) (s := s) (j := 18) (by omega) (by simpa using hl2)
  have e18 : (18 : Int).toNat = 18 := rfl
  rw [e18] at hc
  obtain ⟨m,hp⟩ := floats_Parse_call h (s.take 18) (by simp; omega) { l := H.l,d := none }
  have hpe : parseOk (s.take 18) = floatOk s := by
   unfold parseOk floatOk
   have e1 : [102,39].isPrefixOf (s.take 18) = [102,39].isPrefixOf s := by
    rw [Bool.eq_iff_iff,List.isPrefixOf_iff_prefix,List.isPrefixOf_iff_prefix,List.prefix_take_iff]
    simp
   have e2 : (s.take 18).length = 18 := by simp; omega
   rw [e1,e2,List.drop_take]
   simp [hl2]
  rw [hpe] at hp
  cases hf : floatOk s <;> rw [hf] at hp <;> simp [C_lexer_float,hl',hc,hp,floatT,hl]
end
end Go.Proofs.Eng
namespace Go.Proofs.Eng
open Go
section
variable {Γ : Sums} {A : Tab} {N : Nat -> Nat}

theorem Row.push {e e' : TypeId} {sz bytes : Nat} {x y : AV} {es : List AV} {os r : List (Nat × AObj)} {H0 H : Hp} (h : Row e sz x es os) (hl : Loc H0 H (os ++ r)) (hb : (es.length + 1) * bytes <= roomMax) (hg : (y.good && y.cells.length == sz) = true) :
  asElems (halloc H (.arr sz [y] e')) (.ra sz H.l.length 0 1) = some [y] /\
  ∃ v H' os',appendOn (halloc H (.arr sz [y] e')) e sz bytes x [y] = some (v,some H') /\ Row e sz v (es ++ [y]) os' /\ Loc H0 H' (os' ++ r) := by
 refine ⟨by simp [asElems],?_⟩
 have hL1 := (hl.alloc (.arr sz [y] e')).perm (os' := os ++ (H.l.length,.arr sz [y] e') :: r) List.perm_middle.symm
 obtain ⟨v,H',os',a1,a2,a3⟩ := h.append (bytes := bytes) (ys := [y]) hL1 (by simp) (by simpa using hb) (by simpa using hg)
 refine ⟨v,H',os',a1,a2,a3.sub (List.Sublist.append (List.Sublist.refl _) ((List.Sublist.refl _).cons _))⟩

def textB : List UInt8 -> Option (List UInt8 × Nat)
 | [] => none
 | c :: r =>
  if c.toNat = 34 then some ([],1)
  else if c.toNat < 32 then none
  else if c.toNat = 92 then
   match r with
   | [] => none
   | d :: r' => match escB d with
    | none => none
    | some e => (textB r').map fun q => (e :: q.1,q.2 + 2)
  else (textB r).map fun q => (c :: q.1,q.2 + 1)

theorem textB_cons (c : UInt8) (r : List UInt8) : textB (c :: r) = if c.toNat = 34 then some ([],1) else if c.toNat < 32 then none else if c.toNat = 92 then (match r with | [] => none | d :: r' => match escB d with | none => none | some e => (textB r').map fun q => (e :: q.1,q.2 + 2)) else (textB r).map fun q => (c :: q.1,q.2 + 1) := by
 rw [textB.eq_def]
theorem textB_le : ∀ (s : List UInt8) {t : List UInt8} {n : Nat},textB s = some (t,n) -> 1 <= n /\ n <= s.length
 | [],t,n,h => by simp [textB] at h
 | c :: r,t,n,h => by
  unfold textB at h
  split at h
  ·simp only [Option.some.injEq,Prod.mk.injEq] at h; simp; omega
  ·split at h
   ·simp at h
   ·split at h
    ·match r,h with
     | d :: r',h =>
      simp only [] at h
      split at h
      ·simp at h
      ·simp only [Option.map_eq_some_iff,Prod.mk.injEq,Prod.exists] at h
       obtain ⟨t',n',h1,h2,h3⟩ := h
       have := textB_le r' h1
       simp; omega
    ·simp only [Option.map_eq_some_iff,Prod.mk.injEq,Prod.exists] at h
     obtain ⟨t',n',h1,h2,h3⟩ := h
     have := textB_le r h1
     simp; omega

def textV (s : List UInt8) : AV := match textB s with | none => .tup [avStr [],avInt .i64 (-1)] | some (t,n) => .tup [avStr t,avInt .i64 n]

theorem lexer_text_call (h : LexT Γ A N) (s : List UInt8) (hs : s.length < 2 ^ 36) (H : Hp) : (lim Γ A).call (f_lexer_text N) [avStr s] H = some (textV s,none) := by
 obtain ⟨R,hR⟩ : ∃ R : AV × Option Hp -> Prop,R = fun r => r = (textV s,none) := ⟨_,rfl⟩
 have key : ∃ r,(lim Γ A).call (f_lexer_text N) [avStr s] H = some r /\ R r := by
  apply h.text.callP (by rfl)
  simp [C_lexer_text]
  refine wp_round (fun k ρ H' => ∃ (i : Nat) (pre : List UInt8) (p : AV) (os : List (Nat × AObj)),ρ 0 = avStr s /\ ρ 4 = p /\ ρ 5 = avInt .i64 i /\ i <= s.length /\ pre.length <= i /\ Row (t_uint8 N) 1 p (pre.map avByte) os /\ Loc H H' (os ++ []) /\
    textB s = (textB (s.drop i)).map (fun q => (pre ++ q.1,q.2 + i)) /\ k = s.length - i) (n := s.length) ?_ ?_
  ·refine ⟨0,[],_,[],rfl,rfl,rfl,by omega,by simp,Row.nil _ _,Loc.start H,?_,rfl⟩
   simp
  ·rintro k ρ H' ⟨i,pre,p,os,h0,h4,h5,hi,hpl,hp,hL,ht,rfl⟩
   have bad : textB s = none -> R (settle H (.tup [avStr [],avInt .i64 (-1)]) H') := by
    intro e
    rw [settle_keeps (v := .tup [avStr [],avInt .i64 (-1)]) hL.keeps (by simp),hR]
    simp [textV,e]
   by_cases hlt : i < s.length
   ·have hlt' : (i : Int) < s.length := by omega
    have hx := asidx_nat (k := .i64) hlt
    have hd : s.drop i = s[i] :: s.drop (i + 1) := List.drop_eq_getElem_cons hlt
    generalize hc : s[i] = c at *
    rw [hd] at ht
    have hw : IntKind.wrap .i64 ((i : Int) + 1) = ((i + 1 : Nat) : Int) := by rw [wrap64 (by omega) (by omega)]; omega
    by_cases c34 : c.toNat = 34
    ·have c34' : (c.toNat : Int) = 34 := by omega
     have ht2 : textB s = some (pre,1 + i) := by rw [ht]; simp [textB_cons,c34]
     have he := Row.elems hp hL
     have hk := settle_keeps (v := .tup [avStr pre,avInt .i64 ((1 + i : Nat) : Int)]) hL.keeps (by simp)
     rw [Nat.add_comm] at hk
     simp [L_lexer_text_1,h0,h4,h5,hlt',hx,c34',he,hw,hk,-Int.natCast_add]
     rw [hR]
     simp [textV,ht2]
     omega
    ·have c34' : ¬ (c.toNat : Int) = 34 := by omega
     by_cases c32 : c.toNat < 32
     ·have c32' : (c.toNat : Int) < 32 := by omega
      simp [L_lexer_text_1,h0,h4,h5,hlt',hx,c34',c32']
      refine bad ?_
      rw [ht]; simp [textB_cons,c34,c32]
     ·have c32' : ¬ (c.toNat : Int) < 32 := by omega
      by_cases c92 : c.toNat = 92
      ·have c92' : (c.toNat : Int) = 92 := by omega
       have hw2 : IntKind.wrap .i64 (((i + 1 : Nat) : Int) + 1) = ((i + 2 : Nat) : Int) := by rw [wrap64 (by omega) (by omega)]; omega
       by_cases hlt2 : i + 1 < s.length
       ·have hlt2' : ((i + 1 : Nat) : Int) < s.length := by omega
        have hx2 := asidx_nat (k := .i64) hlt2
        have hd2 : s.drop (i + 1) = s[i + 1] :: s.drop (i + 2) := List.drop_eq_getElem_cons hlt2
        have hib := fun s c => IndexByte_call h s c
        have hes := idx_esc s[i + 1]
        rw [hd2] at ht
        generalize hcd : s[i + 1] = d at *
        cases hed : escB d with
        | none =>
         rw [hed] at hes
         simp only [] at hes
         simp [L_lexer_text_1,h0,h4,h5,hlt',hx,c34',c32',c92',hw,hlt2',hx2,hib,hes,-Int.natCast_add]
         refine bad ?_
         rw [ht]; simp [textB_cons,c34,c32,c92,hed]
        | some f =>
         rw [hed] at hes
         simp only [] at hes
         have hes1 : ¬ idxOf (mkS [34,92,110]) d.toNat < 0 := by omega
         obtain ⟨q0,v,H2,os',q1,q2,q3⟩ := hp.push (e' := t_uint8 N) (bytes := 1) (y := avByte f) hL (by simp [roomMax]; omega) (by simp)
         simp [L_lexer_text_1,h0,h4,h5,hlt',hx,c34',c32',c92',hw,hw2,hlt2',hx2,hib,hes1,hes.2,q0,q1,-Int.natCast_add]
         refine ⟨_,?_,i + 2,rfl,by omega,pre ++ [f],by simp; omega,os',by simpa using q2,by simpa using q3,?_,rfl⟩
         ·omega
         ·rw [ht,textB_cons,if_neg c34,if_neg c32,if_pos c92]
          simp only [hed,Option.map_map]
          congr 1
          funext q
          simp [Nat.add_assoc,Nat.add_comm 2 i]
       ·have hlt2' : ¬ ((i + 1 : Nat) : Int) < s.length := by omega
        simp [L_lexer_text_1,h0,h4,h5,hlt',hx,c34',c32',c92',hw,hlt2',-Int.natCast_add]
        refine bad ?_
        rw [ht,List.drop_of_length_le (by omega)]; simp [textB_cons,c34,c32,c92]
      ·have c92' : ¬ (c.toNat : Int) = 92 := by omega
       obtain ⟨q0,v,H2,os',q1,q2,q3⟩ := hp.push (e' := t_uint8 N) (bytes := 1) (y := avByte c) hL (by simp [roomMax]; omega) (by simp)
       simp [L_lexer_text_1,h0,h4,h5,hlt',hx,c34',c32',c92',hw,q0,q1,-Int.natCast_add]
       refine ⟨_,?_,i + 1,rfl,by omega,pre ++ [c],by simp; omega,os',by simpa using q2,by simpa using q3,?_,rfl⟩
       ·omega
       ·rw [ht]
        simp only [textB_cons,c34,c32,c92,if_false,Option.map_map]
        congr 1
        funext q
        simp
        omega
   ·have hlt' : ¬ (i : Int) < s.length := by omega
    simp [L_lexer_text_1,K_lexer_text_1,h0,h5,hlt']
    have hk := settle_keeps (v := .tup [avStr [],avInt .i64 (-1)]) hL.keeps (by simp)
    simp [hk]
    rw [hR]
    have : textB s = none := by rw [ht,List.drop_of_length_le (by omega)]; rfl
    simp [textV,this]
 obtain ⟨r,e,hr⟩ := key
 rw [hR] at hr
 rw [e,hr]
end
end Go.Proofs.Eng
namespace Go.Proofs.Eng
open Go
section
variable {Γ : Sums} {A : Tab} {N : Nat -> Nat}

def blankB (s : List UInt8) : Nat :=
 match s with
 | [] => 0
 | c :: r => if isBlank c = true then 1 + blankB r else if [47,47].isPrefixOf (c :: r) = true then 1 + runB notLine r + blankB (r.drop (runB notLine r)) else 0
termination_by s.length
decreasing_by
 ·simp
 ·simp only [List.length_drop,List.length_cons]; omega
theorem blankB_nil : blankB [] = 0 := by rw [blankB]
theorem blankB_cons (c : UInt8) (r : List UInt8) : blankB (c :: r) = if isBlank c = true then 1 + blankB r else if [47,47].isPrefixOf (c :: r) = true then 1 + runB notLine r + blankB (r.drop (runB notLine r)) else 0 := by
 rw [blankB]
theorem blankB_le (s : List UInt8) : blankB s <= s.length := by
 match s with
 | [] => rw [blankB_nil]; simp
 | c :: r =>
  rw [blankB_cons]
  split
  ·have := blankB_le r; simp; omega
  ·split
   ·have h1 := runB_le notLine r
    have h2 := blankB_le (r.drop (runB notLine r))
    simp only [List.length_drop,List.length_cons] at h2 ⊢
    omega
   ·simp
termination_by s.length
decreasing_by
 all_goals simp only [List.length_drop,List.length_cons,InvImage]; omega

theorem lexer_blank_call (h : LexT Γ A N) (hs : LexS Γ A N) (s : List UInt8) (hl : s.length < 2 ^ 36) (H : Hp) : (lim Γ A).call (f_lexer_blank N) [avStr s] H = some (avInt .i64 (blankB s : Nat),none) := by
 apply h.blank.call (by rfl)
 simp [C_lexer_blank,-Int.natCast_add]
 refine wp_round (fun k ρ H' => H' = { l := H.l,d := none } /\ ∃ i : Nat,ρ 0 = avStr s /\ ρ 3 = avInt .i64 i /\ i <= s.length /\ blankB s = i + blankB (s.drop i) /\ k = s.length - i) (n := s.length) ⟨rfl,0,rfl,rfl,by omega,by simp,rfl⟩ ?_
 rintro k ρ H' ⟨rfl,i,h0,h3,hi,hb,rfl⟩
 by_cases hlt : i < s.length
 ·have hlt' : (i : Int) < s.length := by omega
  have hx := asidx_nat (k := .i64) hlt
  have hd : s.drop i = s[i] :: s.drop (i + 1) := List.drop_eq_getElem_cons hlt
  have hf := aslstr_from (k := .i64) (s := s) (i := (i : Int)) (by omega) (by simpa using hi)
  have hib := fun s c => IndexByte_call h s c
  have hix := idx_blank s[i]
  rw [hd,blankB_cons] at hb
  generalize hc : s[i] = c at *
  cases hbl : isBlank c
  ·rw [hbl,decide_eq_false_iff_not] at hix
   have hpre := HasPrefix_call h.strs (s.drop i) [47,47]
   simp only [Int.toNat_natCast] at hf
   cases hp : [47,47].isPrefixOf (s.drop i)
   ·rw [hp] at hpre
    rw [hd] at hp
    rw [hbl,hp] at hb
    simp at hb
    simp [L_lexer_blank_1,h0,h3,hlt',hx,hib,hix,hf,hpre,hb]
   ·rw [hp] at hpre
    rw [hd] at hp
    rw [hbl,hp] at hb
    simp only [Bool.false_eq_true,if_false,if_true] at hb
    have hrun := lexer_run_call hs (lexer_blank1_call hs) (s.drop i) (by simp; omega)
    have hnl : notLine c = true := by
     simp [List.isPrefixOf] at hp
     rw [<- hp.1]; decide
    have hr2 : runB notLine (s.drop i) = 1 + runB notLine (s.drop (i + 1)) := by rw [hd]; simp [runB,hnl]; omega
    have hrl := runB_le notLine (s.drop i)
    rw [List.length_drop] at hrl
    have hw : IntKind.wrap .i64 ((i : Int) + (runB notLine (s.drop i) : Int)) = ((i + runB notLine (s.drop i) : Nat) : Int) := by rw [wrap64 (by omega) (by omega)]; omega
    simp [L_lexer_blank_1,h0,h3,hlt',hx,hib,hix,hf,hpre,hrun,hw,-Int.natCast_add]
    refine ⟨_,?_,i + runB notLine (s.drop i),rfl,by omega,?_,rfl⟩
    ·omega
    ·rw [hb,hr2,List.drop_drop,show i + 1 + runB notLine (s.drop (i + 1)) = i + (1 + runB notLine (s.drop (i + 1))) from by omega]
     omega
  ·rw [hbl,decide_eq_true_eq] at hix
   rw [hbl] at hb
   simp only [if_true] at hb
   have hw : IntKind.wrap .i64 ((i : Int) + 1) = ((i + 1 : Nat) : Int) := by rw [wrap64 (by omega) (by omega)]; omega
   simp [L_lexer_blank_1,h0,h3,hlt',hx,hib,hix,hw,-Int.natCast_add]
   refine ⟨_,?_,i + 1,rfl,by omega,?_,rfl⟩
   ·omega
   ·omega
 ·have hlt' : ¬ (i : Int) < s.length := by omega
  rw [List.drop_of_length_le (by omega),blankB_nil] at hb
  simp [L_lexer_blank_1,K_lexer_blank_1,h0,h3,hlt',hb]
end
end Go.Proofs.Eng
namespace Go.Proofs.Eng
open Go
section
variable {Γ : Sums} {A : Tab} {N : Nat -> Nat}

def oneC (c : UInt8) (r s : List UInt8) : Option (Nat × List UInt8 × Nat) :=
  if [102,39].isPrefixOf s = true then (if floatOk s = true then some (5,s.take 18,18) else none)
  else if isLow c = true then some (if isWordB (s.take (runB isInName s)) = true then 7 else 1,s.take (runB isInName s),runB isInName s)
  else if isHigh c = true then some (2,s.take (runB isInAlias s),runB isInAlias s)
  else if isDigit c = true then (if numberB (s.take (runB isDigit s)) = true then some (4,s.take (runB isDigit s),runB isDigit s) else none)
  else if (decide (c.toNat = 35) && (r.head?.map isLow).getD false) = true then some (3,r.take (runB isInName r),1 + runB isInName r)
  else if c.toNat = 34 then (textB r).map fun q => (6,q.1,q.2 + 1)
  else (signsL.find? fun x => x.isPrefixOf s).map fun x => (8,x,x.length)
def oneB (s : List UInt8) : Option (Nat × List UInt8 × Nat) :=
 match s with
 | [] => none
 | c :: r => oneC c r (c :: r)
def tokV (k : Nat) (t : List UInt8) (at' : Nat) : AV := .agg [avInt .i64 k,avStr t,avInt .i64 at']
def oneV (s : List UInt8) : AV := match oneB s with
 | none => .tup [tokV 0 [] 0,avInt .i64 0]
 | some (k,t,n) => .tup [tokV k t 0,avInt .i64 n]

structure LexO (Γ : Sums) (A : Tab) (N : Nat -> Nat) : Prop where
 S : LexS Γ A N
 T : LexT Γ A N
 one : Has Γ A (f_lexer_one N) (C_lexer_one N)

section
variable (h : LexO Γ A N) {c : UInt8} {r s : List UInt8} (hsd : c :: r = s) (hl : s.length < 2 ^ 36) (H : Hp)
include h hsd hl
set_option maxHeartbeats 4000000 in
theorem one_float (hp : [102,39].isPrefixOf s = true) : (lim Γ A).call (f_lexer_one N) [avStr s] H = some (if floatOk s = true then .tup [tokV 5 (s.take 18) 0,avInt .i64 (18 : Nat)] else .tup [tokV 0 [] 0,avInt .i64 0],none) := by
 have hx : asidx (avStr s) (.lit (.int .i64 0)) = some (avByte c) := by
  subst hsd
  exact asidx_nat (k := .i64) (s := c :: r) (i := 0) (by simp)
 have hpre := HasPrefix_call h.T.strs s [102,39]
 rw [hp] at hpre
 have hfl := lexer_float_call h.T s (by omega)
 apply h.one.call (by rfl)
 cases h4 : floatOk s
 ·rw [h4] at hfl
  simp (maxSteps := 10000000) [C_lexer_one,hx,hpre,hfl,tokV,settle_cell]
 ·rw [h4,floatT_ok h4] at hfl
  have h18 : min 18 s.length = 18 := by
   simp only [floatOk,Bool.and_eq_true,decide_eq_true_eq] at h4
   omega
  simp (maxSteps := 10000000) [C_lexer_one,hx,hpre,hfl,tokV,settle_cell,h18]
variable (hp : [102,39].isPrefixOf s = false)
include hp
theorem one_low (h1 : isLow c = true) : (lim Γ A).call (f_lexer_one N) [avStr s] H = some (.tup [tokV (if isWordB (s.take (runB isInName s)) = true then 7 else 1) (s.take (runB isInName s)) 0,avInt .i64 (runB isInName s)],none) := by
 have hx : asidx (avStr s) (.lit (.int .i64 0)) = some (avByte c) := by
  subst hsd
  exact asidx_nat (k := .i64) (s := c :: r) (i := 0) (by simp)
 have hpre := HasPrefix_call h.T.strs s [102,39]
 rw [hp] at hpre
 have hlow := lexer_low_call h.S c
 rw [h1] at hlow
 have hrun := lexer_run_call h.S (lexer_inName_call h.S) s (by omega)
 have hcut := aslstr_upto (k := .i64) (s := s) (j := (runB isInName s : Int)) (by omega) (by simpa using runB_le _ s)
 simp only [Int.toNat_natCast] at hcut
 have hw := lexer_IsWord_call h.S (s.take (runB isInName s))
 apply h.one.call (by rfl)
 cases h4 : isWordB (s.take (runB isInName s)) <;> rw [h4] at hw <;> simp [C_lexer_one,hx,hpre,hlow,hrun,hcut,hw,tokV,settle_cell]
variable (h1 : isLow c = false)
include h1
theorem one_high (h2 : isHigh c = true) : (lim Γ A).call (f_lexer_one N) [avStr s] H = some (.tup [tokV 2 (s.take (runB isInAlias s)) 0,avInt .i64 (runB isInAlias s)],none) := by
 have hx : asidx (avStr s) (.lit (.int .i64 0)) = some (avByte c) := by
  subst hsd
  exact asidx_nat (k := .i64) (s := c :: r) (i := 0) (by simp)
 have hpre := HasPrefix_call h.T.strs s [102,39]
 rw [hp] at hpre
 have hlow := lexer_low_call h.S c
 rw [h1] at hlow
 have hhigh := lexer_high_call h.S c
 rw [h2] at hhigh
 have hrun := lexer_run_call h.S (lexer_inAlias_call h.S) s (by omega)
 have hcut := aslstr_upto (k := .i64) (s := s) (j := (runB isInAlias s : Int)) (by omega) (by simpa using runB_le _ s)
 simp only [Int.toNat_natCast] at hcut
 apply h.one.call (by rfl)
 simp [C_lexer_one,hx,hpre,hlow,hhigh,hrun,hcut,tokV,settle_cell]
variable (h2 : isHigh c = false)
include h2
theorem one_digit (h3 : isDigit c = true) : (lim Γ A).call (f_lexer_one N) [avStr s] H = some (if numberB (s.take (runB isDigit s)) = true then .tup [tokV 4 (s.take (runB isDigit s)) 0,avInt .i64 (runB isDigit s)] else .tup [tokV 0 [] 0,avInt .i64 0],none) := by
 have hx : asidx (avStr s) (.lit (.int .i64 0)) = some (avByte c) := by
  subst hsd
  exact asidx_nat (k := .i64) (s := c :: r) (i := 0) (by simp)
 have hpre := HasPrefix_call h.T.strs s [102,39]
 rw [hp] at hpre
 have hlow := lexer_low_call h.S c
 rw [h1] at hlow
 have hhigh := lexer_high_call h.S c
 rw [h2] at hhigh
 have hdig := lexer_digit_call h.S c
 rw [h3] at hdig
 have hrun := lexer_run_call h.S (lexer_digit_call h.S) s (by omega)
 have hnum := lexer_number_call h.S (s.take (runB isDigit s))
 have hcut := aslstr_upto (k := .i64) (s := s) (j := (runB isDigit s : Int)) (by omega) (by simpa using runB_le _ s)
 simp only [Int.toNat_natCast] at hcut
 apply h.one.call (by rfl)
 cases h4 : numberB (s.take (runB isDigit s)) <;> rw [h4] at hnum <;> simp [C_lexer_one,hx,hpre,hlow,hhigh,hdig,hrun,hcut,hnum,tokV,settle_cell]
variable (h3 : isDigit c = false)
include h3
theorem one_tag {d : UInt8} {r' : List UInt8} (h4 : c.toNat = 35) (hr : r = d :: r') (h5 : isLow d = true) :
  (lim Γ A).call (f_lexer_one N) [avStr s] H = some (.tup [tokV 3 (r.take (runB isInName r)) 0,avInt .i64 ((1 + runB isInName r : Nat) : Int)],none) := by
 have hx : asidx (avStr s) (.lit (.int .i64 0)) = some (avByte c) := by
  subst hsd
  exact asidx_nat (k := .i64) (s := c :: r) (i := 0) (by simp)
 have hsl : s.length = r.length + 1 := by rw [<- hsd]; rfl
 have hrl : 1 <= r.length := by rw [hr]; simp
 have hx1 : asidx (avStr s) (.lit (.int .i64 1)) = some (avByte d) := by
  have := asidx_nat (k := .i64) (s := s) (i := 1) (by omega)
  subst hsd; subst hr
  exact this
 have hpre := HasPrefix_call h.T.strs s [102,39]
 rw [hp] at hpre
 have hlow := lexer_low_call h.S c
 rw [h1] at hlow
 have hlowd := lexer_low_call h.S d
 rw [h5] at hlowd
 have hhigh := lexer_high_call h.S c
 rw [h2] at hhigh
 have hdig := lexer_digit_call h.S c
 rw [h3] at hdig
 have h4' : (c.toNat : Int) = 35 := by omega
 have hl1 : (1 : Int) < s.length := by omega
 have hfr : aslstr (avStr s) (some (.lit (.int .i64 1))) none = some (avStr r) := by
  have := aslstr_from (k := .i64) (s := s) (i := 1) (by omega) (by show 1 <= _; omega)
  rw [this,<- hsd]; rfl
 have hrb := runB_le isInName r
 have hrun := lexer_run_call h.S (lexer_inName_call h.S) r (by omega)
 have hw : IntKind.wrap .i64 (1 + (runB isInName r : Int)) = ((1 + runB isInName r : Nat) : Int) := by rw [wrap64 (by omega) (by omega)]; omega
 have hcut : aslstr (avStr s) (some (.lit (.int .i64 1))) (some (.lit (.int .i64 ((1 + runB isInName r : Nat) : Int)))) = some (avStr (r.take (runB isInName r))) := by
  have e : ((1 + runB isInName r : Nat) : Int).toNat - (1 : Int).toNat = runB isInName r := by omega
  rw [aslstr_cut (by omega) (by omega) (by omega),e,<- hsd]
  rfl
 apply h.one.call (by rfl)
 simp [C_lexer_one,hx,hx1,hpre,hlow,hlowd,hhigh,hdig,h4',hl1,hfr,hrun,hw,hcut,tokV,settle_cell,-Int.natCast_add]
end
end
end Go.Proofs.Eng
