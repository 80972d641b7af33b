import Derived.Test.YtcmdnlpkplaapaaM40
import Derived.Test.YtcmdnlpkplaapaaEngAN
import Derived.Test.YtcmdnlpkplaapaaM32
/- The row of a tree's terms, run by the engine. -/
set_option linter.unusedVariables false
set_option linter.unusedSimpArgs false
set_option maxRecDepth 100000
namespace Go.Proofs.Eng
open Go
def kidsT (t : Tr) (n : Int) : List Int := match t.nodes[n.toNat]? with
  | some nd => nd.kids
  | none => []
/-- Kids stand ahead of what they are kids of. -/
def Kids (t : Tr) : Prop := ∀ (j : Nat) (nd : Nd), t.nodes[j]? = some nd → ∀ k ∈ nd.kids, 0 ≤ k ∧ k < (j : Int)
theorem Kids.at {t : Tr} (h : Kids t) {n : Int} (hn : 0 ≤ n) : ∀ k ∈ kidsT t n, 0 ≤ k ∧ k < n := by
  intro k hk
  unfold kidsT at hk
  split at hk
  · rename_i nd hnd
    have := h _ _ hnd k hk
    omega
  · simp at hk
/-- A field of an element. -/
theorem Vw.atf {H : Hp} {sz : Nat} {x : AV} {es : List AV} {k : IntKind} {i off : Nat} {ys : List AV} {v : AV} (h : Vw H sz x es) (h1 : es[i]? = some (.agg ys)) (hl : ys.length = sz) (hg : ys.all AV.one = true) (hv : ys[off]? = some v) : ∃ p q, aiaddr sz x (.lit (.int k (i : Int))) = some p ∧ afaddr off p = some q ∧ aload H none q = some v := by
  have hi := (List.getElem?_eq_some_iff.1 h1).1
  have hd : ys.drop off = v :: ys.drop (off + 1) := by
    obtain ⟨ho, e⟩ := List.getElem?_eq_some_iff.1 hv
    rw [List.drop_eq_getElem_cons ho, e]
  rcases h with (⟨_, he⟩ | rfl) | ⟨id, o, t, all, rfl, h2, h3, h4⟩
  · rw [he] at h1; simp at h1
  · refine ⟨.vp ys, .vp (ys.drop off), by simpa [AV.cells] using aiaddr_sln (sz := sz) (k := k) h1 (by simpa [AV.good] using hg), rfl, ?_⟩
    simp [loadC, hd]
  · refine ⟨.ep id (o + i) 0, .ep id (o + i) (0 + off), by simp [aiaddr, hi], rfl, ?_⟩
    have he : all[o + i]? = some (.agg ys) := by
      rw [← h1, ← h4, List.getElem?_take, if_pos hi, List.getElem?_drop]
    simp only [aload, h2, he]
    rw [if_pos (by simpa [AV.good] using hg), if_neg (by simp), if_pos (by simpa [AV.cells] using hl)]
    simp [AV.cells, loadC, hd]
theorem TrR.kid {H : Hp} {a b c : AV} {t : Tr} (h : TrR H (.agg [a, b, c]) t) {i : Nat} {nd : Nd} (hi : t.nodes[i]? = some nd) {k : IntKind} : ∃ p q v, aiaddr 8 a (.lit (.int k (i : Int))) = some p ∧ afaddr 6 p = some q ∧ aload H none q = some v ∧ VI H v nd.kids := by
  obtain ⟨a', b', c', e, ⟨xs, x1, x2, x3⟩, _, _⟩ := h
  cases e
  have hlt : i < xs.length := by rw [x2]; exact (List.getElem?_eq_some_iff.1 hi).1
  obtain ⟨na, nb, nc, e, v1, v2, v3⟩ := x3 i xs[i] nd (List.getElem?_eq_getElem hlt) hi
  obtain ⟨p, q, h1, h2, h3⟩ := x1.atf (k := k) (i := i) (off := 6) (ys := [avInt .i64 nd.kind, avInt .i64 nd.pos, avStr nd.name, avInt .i64 nd.int, avInt .u64 nd.bits, na, nb, nc]) (v := nb) (by rw [List.getElem?_eq_getElem hlt, e]; rfl) rfl (by simp [v1.one, v2.one, v3.one]) rfl
  exact ⟨p, q, nb, h1, h2, h3, v2⟩
end Go.Proofs.Eng
/- Templates of functions, as the engine takes them; numbers of functions and types by names. Printed by tm.py. -/
set_option linter.unusedVariables false
set_option maxRecDepth 100000
namespace Go.Proofs.Eng
open Go

def L_tree_two_terms_1 (N : Nat → Nat) : AC :=
    .seq (
     .ops [⟨(some 70), .bin .lss (.t 69) (.t 68), none⟩]) (
    .seq (
     .cond (.t 70) (
      .skip) (
      .exit 0)) (
    .seq (
     .block 1 (
      .seq (
       .ops [⟨(some 71), .mov (.t 69), none⟩, ⟨(some 9), .mov (.t 71), none⟩]) (
      .seq (
       .dops 7 [⟨(some 72), .load (some 6) (.t 3), none⟩, ⟨(some 73), .faddr 7 (.t 7), none⟩, ⟨(some 74), .load none (.t 73), none⟩, ⟨(some 75), .mov (.t 9), none⟩, ⟨(some 76), .iaddr 1 (.t 74) (.t 75), none⟩, ⟨(some 77), .load none (.t 76), none⟩, ⟨(some 78), .faddr 7 (.t 8), none⟩, ⟨(some 79), .load none (.t 78), none⟩, ⟨(some 80), .mov (.t 9), none⟩, ⟨(some 81), .iaddr 1 (.t 79) (.t 80), none⟩, ⟨(some 82), .load none (.t 81), none⟩, ⟨(some 83), .call (.c (.fn (f_tree_two_types N) [] [])) [(.t 72), (.t 77), (.t 82)], none⟩, ⟨(some 84), .un .not (.t 83), none⟩] [2, 0, 2, 0, 0, 2, 0, 2, 0, 0, 2, 0, 0] []) (
      .cond (.t 84) (
       .seq (
        .ops [⟨(some 6), .mov (.c (.lit (.bool false))), none⟩]) (
       .ret)) (
       .skip))))) (
    .ops [⟨(some 85), .bin .add (.t 69) (.c (.lit (.int .i64 1))), none⟩, ⟨(some 69), .mov (.t 85), none⟩])))
def L_tree_two_terms_2 (N : Nat → Nat) : AC :=
    .seq (
     .ops [⟨(some 90), .bin .lss (.t 89) (.t 88), none⟩]) (
    .seq (
     .cond (.t 90) (
      .skip) (
      .exit 2)) (
    .seq (
     .block 3 (
      .seq (
       .ops [⟨(some 91), .mov (.t 89), none⟩, ⟨(some 10), .mov (.t 91), none⟩]) (
      .seq (
       .dops 13 [⟨(some 92), .load (some 6) (.t 3), none⟩, ⟨(some 93), .faddr 6 (.t 7), none⟩, ⟨(some 94), .load none (.t 93), none⟩, ⟨(some 95), .mov (.t 10), none⟩, ⟨(some 96), .iaddr 1 (.t 94) (.t 95), none⟩, ⟨(some 97), .load none (.t 96), none⟩, ⟨(some 98), .faddr 6 (.t 8), none⟩, ⟨(some 99), .load none (.t 98), none⟩, ⟨(some 100), .mov (.t 10), none⟩, ⟨(some 101), .iaddr 1 (.t 99) (.t 100), none⟩, ⟨(some 102), .load none (.t 101), none⟩, ⟨(some 103), .call (.c (.fn (f_tree_two_terms N) [] [])) [(.t 92), (.t 97), (.t 102)], none⟩, ⟨(some 104), .un .not (.t 103), none⟩] [2, 0, 2, 0, 0, 2, 0, 2, 0, 0, 2, 0, 0] []) (
      .cond (.t 104) (
       .seq (
        .ops [⟨(some 6), .mov (.c (.lit (.bool false))), none⟩]) (
       .ret)) (
       .skip))))) (
    .ops [⟨(some 105), .bin .add (.t 89) (.c (.lit (.int .i64 1))), none⟩, ⟨(some 89), .mov (.t 105), none⟩])))
def K_tree_two_terms_2 (N : Nat → Nat) : AC :=
 .seq (
  .ops [⟨(some 6), .mov (.c (.lit (.bool true))), none⟩]) (
 .ret)
def K_tree_two_terms_1 (N : Nat → Nat) : AC :=
 .seq (
  .seq (
   .ops [⟨(some 86), .faddr 6 (.t 7), none⟩, ⟨(some 87), .load none (.t 86), none⟩, ⟨(some 88), .len (.t 87), none⟩, ⟨(some 89), .mov (.c (.lit (.int .i64 0))), none⟩]) (
  .block 2 (
   .loop (L_tree_two_terms_2 N)))) (K_tree_two_terms_2 N)
/-- (azimuth/tree.two).terms -/
def C_tree_two_terms (N : Nat → Nat) : AFunc := ⟨106, [.inl 6],
 .seq (
  .ops [⟨(some 3), .box (t_tree_two N) (.t 0), none⟩, ⟨(some 6), .mov (.c (.lit (.bool false))), none⟩]) (
 .seq (
  .dops 1 [⟨(some 11), .faddr 0 (.t 3), none⟩, ⟨(some 12), .faddr 0 (.t 11), none⟩, ⟨(some 13), .load none (.t 12), none⟩, ⟨(some 14), .mov (.t 1), none⟩, ⟨(some 15), .iaddr 8 (.t 13) (.t 14), none⟩, ⟨(some 16), .load (some 8) (.t 15), none⟩, ⟨(some 17), .faddr 3 (.t 3), none⟩, ⟨(some 18), .faddr 0 (.t 17), none⟩, ⟨(some 19), .load none (.t 18), none⟩, ⟨(some 20), .mov (.t 2), none⟩, ⟨(some 21), .iaddr 8 (.t 19) (.t 20), none⟩, ⟨(some 22), .load (some 8) (.t 21), none⟩, ⟨(some 7), .new (t_api_Node N) (.agg [(.lit (.int .i64 0)), (.lit (.int .i64 0)), (.lit (.string (mkS []))), (.lit (.int .i64 0)), (.lit (.int .u64 0)), (.lit (.slice none 0 0)), (.lit (.slice none 0 0)), (.lit (.slice none 0 0))]), none⟩, ⟨(some 8), .new (t_api_Node N) (.agg [(.lit (.int .i64 0)), (.lit (.int .i64 0)), (.lit (.string (mkS []))), (.lit (.int .i64 0)), (.lit (.int .u64 0)), (.lit (.slice none 0 0)), (.lit (.slice none 0 0)), (.lit (.slice none 0 0))]), none⟩, ⟨none, .store 8 (.t 7) (.t 16), none⟩, ⟨none, .store 8 (.t 8) (.t 22), none⟩] [0, 0, 2, 0, 0, 2, 0, 0, 2, 0, 0, 2, 1, 1, 3, 0] []) (
 .seq (
  .seq (
   .ops [⟨(some 23), .faddr 0 (.t 7), none⟩, ⟨(some 24), .load none (.t 23), none⟩, ⟨(some 25), .faddr 0 (.t 8), none⟩, ⟨(some 26), .load none (.t 25), none⟩, ⟨(some 27), .eq true .pint (.t 24) (.t 26), none⟩, ⟨(some 28), .mov (.t 27), none⟩, ⟨(some 29), .faddr 2 (.t 7), (some (28, false))⟩, ⟨(some 30), .load none (.t 29), (some (28, false))⟩, ⟨(some 31), .faddr 2 (.t 8), (some (28, false))⟩, ⟨(some 32), .load none (.t 31), (some (28, false))⟩, ⟨(some 33), .eq true .pstr (.t 30) (.t 32), (some (28, false))⟩, ⟨(some 34), .pick (.t 28) (.c (.lit (.bool true))) (.t 33), none⟩, ⟨(some 35), .mov (.t 34), none⟩, ⟨(some 36), .faddr 3 (.t 7), (some (35, false))⟩, ⟨(some 37), .load none (.t 36), (some (35, false))⟩, ⟨(some 38), .faddr 3 (.t 8), (some (35, false))⟩, ⟨(some 39), .load none (.t 38), (some (35, false))⟩, ⟨(some 40), .eq true .pint (.t 37) (.t 39), (some (35, false))⟩, ⟨(some 41), .pick (.t 35) (.c (.lit (.bool true))) (.t 40), none⟩, ⟨(some 42), .mov (.t 41), none⟩, ⟨(some 43), .faddr 4 (.t 7), (some (42, false))⟩, ⟨(some 44), .load none (.t 43), (some (42, false))⟩, ⟨(some 45), .faddr 4 (.t 8), (some (42, false))⟩, ⟨(some 46), .load none (.t 45), (some (42, false))⟩, ⟨(some 47), .eq true .pint (.t 44) (.t 46), (some (42, false))⟩, ⟨(some 48), .pick (.t 42) (.c (.lit (.bool true))) (.t 47), none⟩, ⟨(some 49), .mov (.t 48), none⟩, ⟨(some 50), .faddr 5 (.t 7), (some (49, false))⟩, ⟨(some 51), .load none (.t 50), (some (49, false))⟩, ⟨(some 52), .faddr 5 (.t 8), (some (49, false))⟩, ⟨(some 53), .load none (.t 52), (some (49, false))⟩, ⟨(some 54), .call (.c (.fn (f_slices_Equal_sl_string_string N) [] [])) [(.t 51), (.t 53)], (some (49, false))⟩, ⟨(some 55), .un .not (.t 54), (some (49, false))⟩, ⟨(some 56), .pick (.t 49) (.c (.lit (.bool true))) (.t 55), none⟩, ⟨(some 57), .mov (.t 56), none⟩, ⟨(some 58), .faddr 6 (.t 7), (some (57, false))⟩, ⟨(some 59), .load none (.t 58), (some (57, false))⟩, ⟨(some 60), .len (.t 59), (some (57, false))⟩, ⟨(some 61), .faddr 6 (.t 8), (some (57, false))⟩, ⟨(some 62), .load none (.t 61), (some (57, false))⟩, ⟨(some 63), .len (.t 62), (some (57, false))⟩, ⟨(some 64), .eq true .pint (.t 60) (.t 63), (some (57, false))⟩, ⟨(some 65), .pick (.t 57) (.c (.lit (.bool true))) (.t 64), none⟩]) (
  .cond (.t 65) (
   .seq (
    .ops [⟨(some 6), .mov (.c (.lit (.bool false))), none⟩]) (
   .ret)) (
   .skip))) (
 .seq (
  .seq (
   .ops [⟨(some 66), .faddr 7 (.t 7), none⟩, ⟨(some 67), .load none (.t 66), none⟩, ⟨(some 68), .len (.t 67), none⟩, ⟨(some 69), .mov (.c (.lit (.int .i64 0))), none⟩]) (
  .block 0 (
   .loop (L_tree_two_terms_1 N)))) (K_tree_two_terms_1 N)))), false⟩

def L_tree_two_types_1 (N : Nat → Nat) : AC :=
    .seq (
     .ops [⟨(some 62), .bin .lss (.t 61) (.t 60), none⟩]) (
    .seq (
     .cond (.t 62) (
      .skip) (
      .exit 0)) (
    .seq (
     .block 1 (
      .seq (
       .ops [⟨(some 63), .mov (.t 61), none⟩, ⟨(some 9), .mov (.t 63), none⟩]) (
      .seq (
       .dops 7 [⟨(some 64), .load (some 6) (.t 3), none⟩, ⟨(some 65), .faddr 4 (.t 7), none⟩, ⟨(some 66), .load none (.t 65), none⟩, ⟨(some 67), .mov (.t 9), none⟩, ⟨(some 68), .iaddr 1 (.t 66) (.t 67), none⟩, ⟨(some 69), .load none (.t 68), none⟩, ⟨(some 70), .faddr 4 (.t 8), none⟩, ⟨(some 71), .load none (.t 70), none⟩, ⟨(some 72), .mov (.t 9), none⟩, ⟨(some 73), .iaddr 1 (.t 71) (.t 72), none⟩, ⟨(some 74), .load none (.t 73), none⟩, ⟨(some 75), .call (.c (.fn (f_tree_two_types N) [] [])) [(.t 64), (.t 69), (.t 74)], none⟩, ⟨(some 76), .un .not (.t 75), none⟩] [2, 0, 2, 0, 0, 2, 0, 2, 0, 0, 2, 0, 0] []) (
      .cond (.t 76) (
       .seq (
        .ops [⟨(some 6), .mov (.c (.lit (.bool false))), none⟩]) (
       .ret)) (
       .skip))))) (
    .ops [⟨(some 77), .bin .add (.t 61) (.c (.lit (.int .i64 1))), none⟩, ⟨(some 61), .mov (.t 77), none⟩])))
def K_tree_two_types_1 (N : Nat → Nat) : AC :=
 .seq (
  .ops [⟨(some 6), .mov (.c (.lit (.bool true))), none⟩]) (
 .ret)
/-- (azimuth/tree.two).types -/
def C_tree_two_types (N : Nat → Nat) : AFunc := ⟨78, [.inl 6],
 .seq (
  .ops [⟨(some 3), .box (t_tree_two N) (.t 0), none⟩, ⟨(some 6), .mov (.c (.lit (.bool false))), none⟩]) (
 .seq (
  .dops 1 [⟨(some 10), .faddr 0 (.t 3), none⟩, ⟨(some 11), .faddr 1 (.t 10), none⟩, ⟨(some 12), .load none (.t 11), none⟩, ⟨(some 13), .mov (.t 1), none⟩, ⟨(some 14), .iaddr 6 (.t 12) (.t 13), none⟩, ⟨(some 15), .load (some 6) (.t 14), none⟩, ⟨(some 16), .faddr 3 (.t 3), none⟩, ⟨(some 17), .faddr 1 (.t 16), none⟩, ⟨(some 18), .load none (.t 17), none⟩, ⟨(some 19), .mov (.t 2), none⟩, ⟨(some 20), .iaddr 6 (.t 18) (.t 19), none⟩, ⟨(some 21), .load (some 6) (.t 20), none⟩, ⟨(some 7), .new (t_api_TypeNode N) (.agg [(.lit (.int .i64 0)), (.lit (.int .i64 0)), (.lit (.string (mkS []))), (.lit (.slice none 0 0)), (.lit (.slice none 0 0)), (.lit (.bool false))]), none⟩, ⟨(some 8), .new (t_api_TypeNode N) (.agg [(.lit (.int .i64 0)), (.lit (.int .i64 0)), (.lit (.string (mkS []))), (.lit (.slice none 0 0)), (.lit (.slice none 0 0)), (.lit (.bool false))]), none⟩, ⟨none, .store 6 (.t 7) (.t 15), none⟩, ⟨none, .store 6 (.t 8) (.t 21), none⟩] [0, 0, 2, 0, 0, 2, 0, 0, 2, 0, 0, 2, 1, 1, 3, 0] []) (
 .seq (
  .seq (
   .ops [⟨(some 22), .faddr 0 (.t 7), none⟩, ⟨(some 23), .load none (.t 22), none⟩, ⟨(some 24), .faddr 0 (.t 8), none⟩, ⟨(some 25), .load none (.t 24), none⟩, ⟨(some 26), .eq true .pint (.t 23) (.t 25), none⟩, ⟨(some 27), .mov (.t 26), none⟩, ⟨(some 28), .faddr 2 (.t 7), (some (27, false))⟩, ⟨(some 29), .load none (.t 28), (some (27, false))⟩, ⟨(some 30), .faddr 2 (.t 8), (some (27, false))⟩, ⟨(some 31), .load none (.t 30), (some (27, false))⟩, ⟨(some 32), .eq true .pstr (.t 29) (.t 31), (some (27, false))⟩, ⟨(some 33), .pick (.t 27) (.c (.lit (.bool true))) (.t 32), none⟩, ⟨(some 34), .mov (.t 33), none⟩, ⟨(some 35), .faddr 5 (.t 7), (some (34, false))⟩, ⟨(some 36), .load none (.t 35), (some (34, false))⟩, ⟨(some 37), .faddr 5 (.t 8), (some (34, false))⟩, ⟨(some 38), .load none (.t 37), (some (34, false))⟩, ⟨(some 39), .eq true .pbool (.t 36) (.t 38), (some (34, false))⟩, ⟨(some 40), .pick (.t 34) (.c (.lit (.bool true))) (.t 39), none⟩, ⟨(some 41), .mov (.t 40), none⟩, ⟨(some 42), .faddr 3 (.t 7), (some (41, false))⟩, ⟨(some 43), .load none (.t 42), (some (41, false))⟩, ⟨(some 44), .faddr 3 (.t 8), (some (41, false))⟩, ⟨(some 45), .load none (.t 44), (some (41, false))⟩, ⟨(some 46), .call (.c (.fn (f_slices_Equal_sl_string_string N) [] [])) [(.t 43), (.t 45)], (some (41, false))⟩, ⟨(some 47), .un .not (.t 46), (some (41, false))⟩, ⟨(some 48), .pick (.t 41) (.c (.lit (.bool true))) (.t 47), none⟩, ⟨(some 49), .mov (.t 48), none⟩, ⟨(some 50), .faddr 4 (.t 7), (some (49, false))⟩, ⟨(some 51), .load none (.t 50), (some (49, false))⟩, ⟨(some 52), .len (.t 51), (some (49, false))⟩, ⟨(some 53), .faddr 4 (.t 8), (some (49, false))⟩, ⟨(some 54), .load none (.t 53), (some (49, false))⟩, ⟨(some 55), .len (.t 54), (some (49, false))⟩, ⟨(some 56), .eq true .pint (.t 52) (.t 55), (some (49, false))⟩, ⟨(some 57), .pick (.t 49) (.c (.lit (.bool true))) (.t 56), none⟩]) (
  .cond (.t 57) (
   .seq (
    .ops [⟨(some 6), .mov (.c (.lit (.bool false))), none⟩]) (
   .ret)) (
   .skip))) (
 .seq (
  .seq (
   .ops [⟨(some 58), .faddr 4 (.t 7), none⟩, ⟨(some 59), .load none (.t 58), none⟩, ⟨(some 60), .len (.t 59), none⟩, ⟨(some 61), .mov (.c (.lit (.int .i64 0))), none⟩]) (
  .block 0 (
   .loop (L_tree_two_types_1 N)))) (K_tree_two_types_1 N)))), false⟩
end Go.Proofs.Eng
